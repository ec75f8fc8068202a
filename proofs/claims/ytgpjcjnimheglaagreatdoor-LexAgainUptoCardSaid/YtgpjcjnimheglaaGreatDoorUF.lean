/-
  WALKS of the document's tokens (package amanuensisref2): One, names and numbers.
-/
import Derived.Test.YtgpjcjnimheglaaGreatDoorUE
namespace Go.Proofs.YtgpjcjnimheglaaGreatDoor
open Go.RowKit

section
variable (s : Bs) (i : Nat) (w : World)

set_option maxHeartbeats 2000000 in
set_option maxRecDepth 100000 in
theorem one_name (hi : i < s.length) (hl : s.length ≤ 100000000) (hS : Lx.spaceB (dec (s.drop i)).1 = false) (hP1 : [45, 45].isPrefixOf (s.drop i) = false) (hP2 : [123, 45].isPrefixOf (s.drop i) = false) (hL : Lx.letterB (dec (s.drop i)).1 = true) :
    Calls Tryz.prog 35 #[.string ⟨s.toArray⟩, .int .i64 i] w fun e w' => e = .returned (oneT i (if Lx.wordM ((s.drop i).take (Lx.run Lx.bothB (s.drop i))) then 4 else 3, Lx.run Lx.bothB (s.drop i))) ∧ Below w.heap.size w w' := by
  have hd := fun w => rune_at s i hi w
  have hlt := fun w => rletter_walk (dec (s.drop i)).1 (dec_lt _) w
  have hp1 : ∀ w, Calls Tryz.prog 66 #[.string ⟨s.toArray⟩, .int .i64 i, .int .u8 45, .int .u8 45] w fun e w' => e = .returned (.bool ([45, 45].isPrefixOf (s.drop i))) ∧ w' = w := fun w => has_walk s i 45 45 w hl (by omega)
  have hp2 : ∀ w, Calls Tryz.prog 66 #[.string ⟨s.toArray⟩, .int .i64 i, .int .u8 123, .int .u8 45] w fun e w' => e = .returned (.bool ([123, 45].isPrefixOf (s.drop i))) ∧ w' = w := fun w => has_walk s i 123 45 w hl (by omega)
  have hb1 : Below w.heap.size w (wT w) := (Below.refl _ _).alloc (Nat.le_refl _) _
  have hB1 : Blk (wT w) w.heap.size 85 #[.int .i64 0, .int .i64 0, .int .i64 0] := Blk.new _ _ _
  have i0 : (0 : Int) ≤ (i : Int) := by omega
  have i1 : (i : Int) < (s.length : Int) := by omega
  have i2 : (i : Int) ≤ (s.length : Int) := by omega
  have z0 := hB1.cell 0
  have z1 := hB1.cell 1
  have z2 := hB1.cell 2
  have f0 := hB1.frozen 0
  have f1 := hB1.frozen 1
  have f2 := hB1.frozen 2
  simp at z0 z1 z2
  have hwd := fun w => rword_walk ((s.drop i).take (Lx.run Lx.bothB (s.drop i))) w
  have hrle := Lx.run_le Lx.bothB _ (s.drop i) rfl
  rw [List.length_drop] at hrle
  have hex := ext_str s i (i + Lx.run Lx.bothB (s.drop i))
  rw [List.drop_take, Nat.add_sub_cancel_left] at hex
  unfold strV at hex
  rw [← hex] at hwd
  clear hex
  generalize Lx.wordM ((s.drop i).take (Lx.run Lx.bothB (s.drop i))) = B at *
  generalize hR : Lx.run Lx.bothB (s.drop i) = R at *
  have HR := Lib.hid hR
  clear hR
  have Hwd := Lib.hid hwd
  clear hwd
  rw [hL] at hlt
  generalize dec (s.drop i) = D at *
  obtain ⟨c, z⟩ := D
  simp only at *
  obtain ⟨s9, s10, s13, s32⟩ := space_not hS
  have t9 : ((c : Int) == 9) = false := by simp; omega
  have t10 : ((c : Int) == 10) = false := by simp; omega
  have t13 : ((c : Int) == 13) = false := by simp; omega
  have t32 : ((c : Int) == 32) = false := by simp; omega
  clear s9 s10 s13 s32
  go_enter Tryz.func35, Tryz.ntmps35
  go_wp2_with fail
  refine (hd _).mono ?_
  rintro e w1 ⟨rfl, rfl⟩
  go_wp2_with fail
  refine (hlt _).mono ?_
  rintro e w1 ⟨rfl, rfl⟩
  go_wp2_with fail
  have hq := hp1 (wT w)
  rw [hP1] at hq
  refine hq.mono ?_
  clear hq
  rintro e w1 ⟨rfl, rfl⟩
  go_wp2_with fail
  have hq := hp2 (wT w)
  rw [hP2] at hq
  refine hq.mono ?_
  clear hq
  rintro e w1 ⟨rfl, rfl⟩
  go_wp2_with fail
  go_loop [8] (fun kv => ∃ k : Nat, kv = .int .i64 k ∧ i ≤ k ∧ k ≤ s.length ∧ Hid (R = (k - i) + Lx.run Lx.bothB (s.drop k))) (fun kv => s.length - (intOf kv).toNat)
  case atStart => exact ⟨i, rfl, by omega, by omega, by show _ = _; rw [← HR.out]; omega⟩
  case round =>
    obtain ⟨k, rfl, hk1, hk2, H⟩ := hrel
    have HRk : Hid (Lx.bothB (dec (s.drop k)).1 = false → R = k - i) := fun h => by
      have := H.out; rw [Lx.run_stop _ h] at this; omega
    have HRe : Hid (k = s.length → R = k - i) := fun h => by
      have := H.out; rw [h, List.drop_length, Lx.run_nil] at this; omega
    by_cases hlt2 : k < s.length
    · have j0 : (0 : Int) ≤ (k : Int) := by omega
      have j1 : (k : Int) < (s.length : Int) := by omega
      have j2 : (k : Int) ≤ (s.length : Int) := by omega
      have j4 : (i : Int) ≤ (k : Int) := by omega
      have hne : s.drop k ≠ [] := by intro e; have := congrArg List.length e; simp at this; omega
      have hdk := fun w => rune_at s k hlt2 w
      have hltk := fun w => rletter_walk (dec (s.drop k)).1 (dec_lt _) w
      have hcb := dec_lt (s.drop k)
      have hsz := (dec_size (s.drop k)).1
      have hle := dec_le (s.drop k) hne
      rw [List.length_drop] at hle
      have Hgo : Hid (Lx.bothB (dec (s.drop k)).1 = true → R = (k + (dec (s.drop k)).2 - i) + Lx.run Lx.bothB (s.drop (k + (dec (s.drop k)).2))) := fun h => by
        have := H.out; rw [Lx.run_go _ hne h, List.drop_drop] at this; omega
      generalize dec (s.drop k) = D2 at *
      obtain ⟨d, m⟩ := D2
      simp only at hdk hltk hcb hsz hle Hgo HRk
      have hbo : Hid (Lx.bothB d = (Lx.letterB d || Lx.digitB d)) := rfl
      have Hdk := Lib.hid hdk
      clear hdk hne H HR
      cases hLd : Lx.letterB d with
      | true =>
        have Hn := Lib.hid (Hgo.out (by rw [hbo.out, hLd]; rfl))
        rw [hLd] at hltk
        clear Hgo HRk hbo
        go_wp2_with fail
        refine (Hdk.out _).mono ?_
        rintro e w1 ⟨rfl, rfl⟩
        go_wp2_with fail
        refine (hltk _).mono ?_
        rintro e w1 ⟨rfl, rfl⟩
        go_wp2_with fail
        go_round
        case rel => exact ⟨k + m, by go_num, by omega, by omega, Hn.out⟩
        case measure => simp [intOf]; omega
      | false =>
        rw [hLd] at hltk
        cases hDd : Lx.digitB d with
        | true =>
          have Hn := Lib.hid (Hgo.out (by rw [hbo.out, hLd, hDd]; rfl))
          obtain ⟨d1, d2⟩ := digit_ways hDd
          have g1 : ¬ (d : Int) < 48 := by omega
          have g2 : ¬ (57 : Int) < (d : Int) := by omega
          clear Hgo HRk hbo d1 d2
          go_wp2_with fail
          refine (Hdk.out _).mono ?_
          rintro e w1 ⟨rfl, rfl⟩
          go_wp2_with fail
          refine (hltk _).mono ?_
          rintro e w1 ⟨rfl, rfl⟩
          go_wp2_with fail
          go_round
          case rel => exact ⟨k + m, by go_num, by omega, by omega, Hn.out⟩
          case measure => simp [intOf]; omega
        | false =>
          have Hn := Lib.hid (HRk.out (by rw [hbo.out, hLd, hDd]; rfl))
          have hkR : k = i + R := by have := Hn.out; omega
          clear Hgo HRk hbo HRe
          rcases digit_not hDd with g | g
          · have g1 : (d : Int) < 48 := by omega
            subst hkR
            go_wp2_with fail
            refine (Hdk.out _).mono ?_
            rintro e w1 ⟨rfl, rfl⟩
            go_wp2_with fail
            refine (hltk _).mono ?_
            rintro e w1 ⟨rfl, rfl⟩
            go_wp2_with fail
            refine (Hwd.out _).mono ?_
            rintro e w2 ⟨rfl, hb2⟩
            have hB2 := hB1.below hb2 (by simp)
            have hb12 := hb1.trans (hb2.mono (by simp))
            have z0 := hB2.cell 0
            have z1 := hB2.cell 1
            have z2 := hB2.cell 2
            have f0 := hB2.frozen 0
            have f1 := hB2.frozen 1
            have f2 := hB2.frozen 2
            simp at z0 z1 z2
            cases B with
            | true =>
              go_wp2_with fail
              have hB3 := ((hB2.set_ 0 (.int .i64 4)).set_ 1 (.int .i64 i)).set_ 2 (.int .i64 ((i : Int) + R - i))
              have hb3 := ((hb12.setCell (p := ⟨w.heap.size, 0, none⟩) (Nat.le_refl _) (.int .i64 4)).setCell (p := ⟨w.heap.size, 1, none⟩) (Nat.le_refl _) (.int .i64 i)).setCell (p := ⟨w.heap.size, 2, none⟩) (Nat.le_refl _) (.int .i64 ((i : Int) + R - i))
              exact bodyPost_ret (v := .agg #[.int .i64 4, .int .i64 i, .int .i64 ((i : Int) + R - i)]) (results_cell_row (hu := Tryz.underlying85) (h := rfl) (hp := rfl) (hg := hB3) (hd := rfl) (hi := by kernel_rfl)) rfl ⟨oneT_of i _ _ _ rfl (by show _ = ((R : Nat) : Int); omega), hb3⟩
            | false =>
              go_wp2_with fail
              have hB3 := ((hB2.set_ 0 (.int .i64 3)).set_ 1 (.int .i64 i)).set_ 2 (.int .i64 ((i : Int) + R - i))
              have hb3 := ((hb12.setCell (p := ⟨w.heap.size, 0, none⟩) (Nat.le_refl _) (.int .i64 3)).setCell (p := ⟨w.heap.size, 1, none⟩) (Nat.le_refl _) (.int .i64 i)).setCell (p := ⟨w.heap.size, 2, none⟩) (Nat.le_refl _) (.int .i64 ((i : Int) + R - i))
              exact bodyPost_ret (v := .agg #[.int .i64 3, .int .i64 i, .int .i64 ((i : Int) + R - i)]) (results_cell_row (hu := Tryz.underlying85) (h := rfl) (hp := rfl) (hg := hB3) (hd := rfl) (hi := by kernel_rfl)) rfl ⟨oneT_of i _ _ _ rfl (by show _ = ((R : Nat) : Int); omega), hb3⟩
          · have g1 : ¬ (d : Int) < 48 := by omega
            have g2 : (57 : Int) < (d : Int) := by omega
            subst hkR
            go_wp2_with fail
            refine (Hdk.out _).mono ?_
            rintro e w1 ⟨rfl, rfl⟩
            go_wp2_with fail
            refine (hltk _).mono ?_
            rintro e w1 ⟨rfl, rfl⟩
            go_wp2_with fail
            refine (Hwd.out _).mono ?_
            rintro e w2 ⟨rfl, hb2⟩
            have hB2 := hB1.below hb2 (by simp)
            have hb12 := hb1.trans (hb2.mono (by simp))
            have z0 := hB2.cell 0
            have z1 := hB2.cell 1
            have z2 := hB2.cell 2
            have f0 := hB2.frozen 0
            have f1 := hB2.frozen 1
            have f2 := hB2.frozen 2
            simp at z0 z1 z2
            cases B with
            | true =>
              go_wp2_with fail
              have hB3 := ((hB2.set_ 0 (.int .i64 4)).set_ 1 (.int .i64 i)).set_ 2 (.int .i64 ((i : Int) + R - i))
              have hb3 := ((hb12.setCell (p := ⟨w.heap.size, 0, none⟩) (Nat.le_refl _) (.int .i64 4)).setCell (p := ⟨w.heap.size, 1, none⟩) (Nat.le_refl _) (.int .i64 i)).setCell (p := ⟨w.heap.size, 2, none⟩) (Nat.le_refl _) (.int .i64 ((i : Int) + R - i))
              exact bodyPost_ret (v := .agg #[.int .i64 4, .int .i64 i, .int .i64 ((i : Int) + R - i)]) (results_cell_row (hu := Tryz.underlying85) (h := rfl) (hp := rfl) (hg := hB3) (hd := rfl) (hi := by kernel_rfl)) rfl ⟨oneT_of i _ _ _ rfl (by show _ = ((R : Nat) : Int); omega), hb3⟩
            | false =>
              go_wp2_with fail
              have hB3 := ((hB2.set_ 0 (.int .i64 3)).set_ 1 (.int .i64 i)).set_ 2 (.int .i64 ((i : Int) + R - i))
              have hb3 := ((hb12.setCell (p := ⟨w.heap.size, 0, none⟩) (Nat.le_refl _) (.int .i64 3)).setCell (p := ⟨w.heap.size, 1, none⟩) (Nat.le_refl _) (.int .i64 i)).setCell (p := ⟨w.heap.size, 2, none⟩) (Nat.le_refl _) (.int .i64 ((i : Int) + R - i))
              exact bodyPost_ret (v := .agg #[.int .i64 3, .int .i64 i, .int .i64 ((i : Int) + R - i)]) (results_cell_row (hu := Tryz.underlying85) (h := rfl) (hp := rfl) (hg := hB3) (hd := rfl) (hi := by kernel_rfl)) rfl ⟨oneT_of i _ _ _ rfl (by show _ = ((R : Nat) : Int); omega), hb3⟩
    · have Hn := Lib.hid (HRe.out (by omega))
      have hkR : k = i + R := by have := Hn.out; omega
      clear H HR HRk HRe
      subst hkR
      have j0 : (0 : Int) ≤ ((i + R : Nat) : Int) := by omega
      have j1 : (i : Int) ≤ ((i + R : Nat) : Int) := by omega
      have j2 : ((i + R : Nat) : Int) ≤ (s.length : Int) := by omega
      have j3 : ¬ ((i + R : Nat) : Int) < (s.length : Int) := by omega
      go_wp2_with fail
      refine (Hwd.out _).mono ?_
      rintro e w2 ⟨rfl, hb2⟩
      have hB2 := hB1.below hb2 (by simp)
      have hb12 := hb1.trans (hb2.mono (by simp))
      have z0 := hB2.cell 0
      have z1 := hB2.cell 1
      have z2 := hB2.cell 2
      have f0 := hB2.frozen 0
      have f1 := hB2.frozen 1
      have f2 := hB2.frozen 2
      simp at z0 z1 z2
      cases B with
      | true =>
        go_wp2_with fail
        have hB3 := ((hB2.set_ 0 (.int .i64 4)).set_ 1 (.int .i64 i)).set_ 2 (.int .i64 ((i : Int) + R - i))
        have hb3 := ((hb12.setCell (p := ⟨w.heap.size, 0, none⟩) (Nat.le_refl _) (.int .i64 4)).setCell (p := ⟨w.heap.size, 1, none⟩) (Nat.le_refl _) (.int .i64 i)).setCell (p := ⟨w.heap.size, 2, none⟩) (Nat.le_refl _) (.int .i64 ((i : Int) + R - i))
        exact bodyPost_ret (v := .agg #[.int .i64 4, .int .i64 i, .int .i64 ((i : Int) + R - i)]) (results_cell_row (hu := Tryz.underlying85) (h := rfl) (hp := rfl) (hg := hB3) (hd := rfl) (hi := by kernel_rfl)) rfl ⟨oneT_of i _ _ _ rfl (by show _ = ((R : Nat) : Int); omega), hb3⟩
      | false =>
        go_wp2_with fail
        have hB3 := ((hB2.set_ 0 (.int .i64 3)).set_ 1 (.int .i64 i)).set_ 2 (.int .i64 ((i : Int) + R - i))
        have hb3 := ((hb12.setCell (p := ⟨w.heap.size, 0, none⟩) (Nat.le_refl _) (.int .i64 3)).setCell (p := ⟨w.heap.size, 1, none⟩) (Nat.le_refl _) (.int .i64 i)).setCell (p := ⟨w.heap.size, 2, none⟩) (Nat.le_refl _) (.int .i64 ((i : Int) + R - i))
        exact bodyPost_ret (v := .agg #[.int .i64 3, .int .i64 i, .int .i64 ((i : Int) + R - i)]) (results_cell_row (hu := Tryz.underlying85) (h := rfl) (hp := rfl) (hg := hB3) (hd := rfl) (hi := by kernel_rfl)) rfl ⟨oneT_of i _ _ _ rfl (by show _ = ((R : Nat) : Int); omega), hb3⟩

set_option maxHeartbeats 2000000 in
set_option maxRecDepth 100000 in
theorem one_int (hi : i < s.length) (hl : s.length ≤ 100000000) (hS : Lx.spaceB (dec (s.drop i)).1 = false) (hP1 : [45, 45].isPrefixOf (s.drop i) = false) (hP2 : [123, 45].isPrefixOf (s.drop i) = false) (hL : Lx.letterB (dec (s.drop i)).1 = false) (hD : Lx.digitB (dec (s.drop i)).1 = true) :
    Calls Tryz.prog 35 #[.string ⟨s.toArray⟩, .int .i64 i] w fun e w' => e = .returned (oneT i (if Lx.run Lx.digitB (s.drop i) ≤ 18 then 5 else 8, Lx.run Lx.digitB (s.drop i))) ∧ Below w.heap.size w w' := by
  have hd := fun w => rune_at s i hi w
  have hlt := fun w => rletter_walk (dec (s.drop i)).1 (dec_lt _) w
  have hp1 : ∀ w, Calls Tryz.prog 66 #[.string ⟨s.toArray⟩, .int .i64 i, .int .u8 45, .int .u8 45] w fun e w' => e = .returned (.bool ([45, 45].isPrefixOf (s.drop i))) ∧ w' = w := fun w => has_walk s i 45 45 w hl (by omega)
  have hp2 : ∀ w, Calls Tryz.prog 66 #[.string ⟨s.toArray⟩, .int .i64 i, .int .u8 123, .int .u8 45] w fun e w' => e = .returned (.bool ([123, 45].isPrefixOf (s.drop i))) ∧ w' = w := fun w => has_walk s i 123 45 w hl (by omega)
  have hb1 : Below w.heap.size w (wT w) := (Below.refl _ _).alloc (Nat.le_refl _) _
  have hB1 : Blk (wT w) w.heap.size 85 #[.int .i64 0, .int .i64 0, .int .i64 0] := Blk.new _ _ _
  have i0 : (0 : Int) ≤ (i : Int) := by omega
  have i1 : (i : Int) < (s.length : Int) := by omega
  have i2 : (i : Int) ≤ (s.length : Int) := by omega
  have z0 := hB1.cell 0
  have z1 := hB1.cell 1
  have z2 := hB1.cell 2
  have f0 := hB1.frozen 0
  have f1 := hB1.frozen 1
  have f2 := hB1.frozen 2
  simp at z0 z1 z2
  have HR : Hid (Lx.run Lx.digitB (s.drop i) = ((s.drop i).takeWhile fun b => Lx.digitB b.toNat).length) := Lx.run_ascii _ digit_no _
  generalize Lx.run Lx.digitB (s.drop i) = R at *
  rw [hL] at hlt
  generalize dec (s.drop i) = D at *
  obtain ⟨c, z⟩ := D
  simp only at *
  obtain ⟨s9, s10, s13, s32⟩ := space_not hS
  have t9 : ((c : Int) == 9) = false := by simp; omega
  have t10 : ((c : Int) == 10) = false := by simp; omega
  have t13 : ((c : Int) == 13) = false := by simp; omega
  have t32 : ((c : Int) == 32) = false := by simp; omega
  clear s9 s10 s13 s32
  obtain ⟨d1, d2⟩ := digit_ways hD
  have g1 : (48 : Int) ≤ (c : Int) := by omega
  have g2 : (c : Int) ≤ 57 := by omega
  clear d1 d2 hD
  go_enter Tryz.func35, Tryz.ntmps35
  go_wp2_with fail
  refine (hd _).mono ?_
  rintro e w1 ⟨rfl, rfl⟩
  go_wp2_with fail
  refine (hlt _).mono ?_
  rintro e w1 ⟨rfl, rfl⟩
  go_wp2_with fail
  have hq := hp1 (wT w)
  rw [hP1] at hq
  refine hq.mono ?_
  clear hq
  rintro e w1 ⟨rfl, rfl⟩
  go_wp2_with fail
  have hq := hp2 (wT w)
  rw [hP2] at hq
  refine hq.mono ?_
  clear hq
  rintro e w1 ⟨rfl, rfl⟩
  go_wp2_with fail
  go_loop [8] (fun kv => ∃ k : Nat, kv = .int .i64 k ∧ i ≤ k ∧ k ≤ s.length ∧ Hid (R = (k - i) + ((s.drop k).takeWhile fun b => Lx.digitB b.toNat).length)) (fun kv => s.length - (intOf kv).toNat)
  case atStart => exact ⟨i, rfl, by omega, by omega, by show _ = _; rw [HR.out]; omega⟩
  case round =>
    obtain ⟨k, rfl, hk1, hk2, H⟩ := hrel
    by_cases hlt2 : k < s.length
    · have j0 : (0 : Int) ≤ (k : Int) := by omega
      have j1 : (k : Int) < (s.length : Int) := by omega
      have hbb : (⟨s.toArray⟩ : ByteArray)[k]'(by rw [mk_size]; exact hlt2) = s[k] := by rfl
      have Hgo : Hid (Lx.digitB s[k].toNat = true → R = (k + 1 - i) + ((s.drop (k + 1)).takeWhile fun b => Lx.digitB b.toNat).length) := fun h => by
        have := H.out; rw [tw_go _ hlt2 h] at this; omega
      have Hno : Hid (Lx.digitB s[k].toNat = false → R = k - i) := fun h => by
        have := H.out; rw [tw_stop _ hlt2 h] at this; omega
      rw [← hbb] at Hgo Hno
      clear hbb
      generalize hN : ((⟨s.toArray⟩ : ByteArray)[k]'(by rw [mk_size]; exact hlt2)).toNat = N at *
      cases hq : Lx.digitB N with
      | true =>
        obtain ⟨d1, d2⟩ := digit_ways hq
        have g3 : (48 : Int) ≤ (N : Int) := by omega
        have g4 : (N : Int) ≤ 57 := by omega
        have Hn := Lib.hid (Hgo.out hq)
        clear Hgo Hno H HR hq d1 d2
        go_wp2_with fail
        go_round
        case rel => exact ⟨k + 1, by go_num, by omega, by omega, Hn.out⟩
        case measure => simp [intOf]; omega
      | false =>
        have Hn := Lib.hid (Hno.out hq)
        have hkR : k = i + R := by have := Hn.out; omega
        clear Hgo Hno H HR Hn
        rcases digit_not hq with g | g
        · have g3 : ¬ (48 : Int) ≤ (N : Int) := by omega
          clear hq
          by_cases h18 : R ≤ 18
          · have h19 : ¬ (18 : Int) < (k : Int) - (i : Int) := by omega
            have HK := Lib.hid hkR
            have H18 := Lib.hid h18
            clear h18 hkR
            go_wp2_with fail
            have hB3 : Blk (w.alloc (.cells #[.int .i64 5, .int .i64 i, .int .i64 ((k : Int) - i)] 85)) w.heap.size 85 #[.int .i64 5, .int .i64 i, .int .i64 ((k : Int) - i)] := Blk.new _ _ _
            have hb3 : Below w.heap.size w (w.alloc (.cells #[.int .i64 5, .int .i64 i, .int .i64 ((k : Int) - i)] 85)) := (Below.refl _ _).alloc (Nat.le_refl _) _
            exact bodyPost_ret (v := .agg #[.int .i64 5, .int .i64 i, .int .i64 ((k : Int) - i)]) (results_cell_row (hu := Tryz.underlying85) (h := rfl) (hp := rfl) (hg := hB3) (hd := rfl) (hi := by kernel_rfl)) rfl ⟨oneT_of i _ _ _ (by first | rfl | (rw [if_pos H18.out]; rfl)) (by show _ = ((R : Nat) : Int); have := HK.out; omega), hb3⟩
          · have h19 : (18 : Int) < (k : Int) - (i : Int) := by omega
            have HK := Lib.hid hkR
            have H18 := Lib.hid h18
            clear h18 hkR
            go_wp2_with fail
            have hB3 : Blk (w.alloc (.cells #[.int .i64 8, .int .i64 i, .int .i64 ((k : Int) - i)] 85)) w.heap.size 85 #[.int .i64 8, .int .i64 i, .int .i64 ((k : Int) - i)] := Blk.new _ _ _
            have hb3 : Below w.heap.size w (w.alloc (.cells #[.int .i64 8, .int .i64 i, .int .i64 ((k : Int) - i)] 85)) := (Below.refl _ _).alloc (Nat.le_refl _) _
            exact bodyPost_ret (v := .agg #[.int .i64 8, .int .i64 i, .int .i64 ((k : Int) - i)]) (results_cell_row (hu := Tryz.underlying85) (h := rfl) (hp := rfl) (hg := hB3) (hd := rfl) (hi := by kernel_rfl)) rfl ⟨oneT_of i _ _ _ (by first | rfl | (rw [if_neg H18.out]; rfl)) (by show _ = ((R : Nat) : Int); have := HK.out; omega), hb3⟩
        · have g3 : (48 : Int) ≤ (N : Int) := by omega
          have g4 : ¬ (N : Int) ≤ 57 := by omega
          clear hq
          by_cases h18 : R ≤ 18
          · have h19 : ¬ (18 : Int) < (k : Int) - (i : Int) := by omega
            have HK := Lib.hid hkR
            have H18 := Lib.hid h18
            clear h18 hkR
            go_wp2_with fail
            have hB3 : Blk (w.alloc (.cells #[.int .i64 5, .int .i64 i, .int .i64 ((k : Int) - i)] 85)) w.heap.size 85 #[.int .i64 5, .int .i64 i, .int .i64 ((k : Int) - i)] := Blk.new _ _ _
            have hb3 : Below w.heap.size w (w.alloc (.cells #[.int .i64 5, .int .i64 i, .int .i64 ((k : Int) - i)] 85)) := (Below.refl _ _).alloc (Nat.le_refl _) _
            exact bodyPost_ret (v := .agg #[.int .i64 5, .int .i64 i, .int .i64 ((k : Int) - i)]) (results_cell_row (hu := Tryz.underlying85) (h := rfl) (hp := rfl) (hg := hB3) (hd := rfl) (hi := by kernel_rfl)) rfl ⟨oneT_of i _ _ _ (by first | rfl | (rw [if_pos H18.out]; rfl)) (by show _ = ((R : Nat) : Int); have := HK.out; omega), hb3⟩
          · have h19 : (18 : Int) < (k : Int) - (i : Int) := by omega
            have HK := Lib.hid hkR
            have H18 := Lib.hid h18
            clear h18 hkR
            go_wp2_with fail
            have hB3 : Blk (w.alloc (.cells #[.int .i64 8, .int .i64 i, .int .i64 ((k : Int) - i)] 85)) w.heap.size 85 #[.int .i64 8, .int .i64 i, .int .i64 ((k : Int) - i)] := Blk.new _ _ _
            have hb3 : Below w.heap.size w (w.alloc (.cells #[.int .i64 8, .int .i64 i, .int .i64 ((k : Int) - i)] 85)) := (Below.refl _ _).alloc (Nat.le_refl _) _
            exact bodyPost_ret (v := .agg #[.int .i64 8, .int .i64 i, .int .i64 ((k : Int) - i)]) (results_cell_row (hu := Tryz.underlying85) (h := rfl) (hp := rfl) (hg := hB3) (hd := rfl) (hi := by kernel_rfl)) rfl ⟨oneT_of i _ _ _ (by first | rfl | (rw [if_neg H18.out]; rfl)) (by show _ = ((R : Nat) : Int); have := HK.out; omega), hb3⟩
    · have hkR : k = i + R := by have := H.out; rw [show k = s.length by omega, tw_end] at this; omega
      have j1 : ¬ (k : Int) < (s.length : Int) := by omega
      clear H HR
      by_cases h18 : R ≤ 18
      · have h19 : ¬ (18 : Int) < (k : Int) - (i : Int) := by omega
        have HK := Lib.hid hkR
        have H18 := Lib.hid h18
        clear h18 hkR
        go_wp2_with fail
        have hB3 : Blk (w.alloc (.cells #[.int .i64 5, .int .i64 i, .int .i64 ((k : Int) - i)] 85)) w.heap.size 85 #[.int .i64 5, .int .i64 i, .int .i64 ((k : Int) - i)] := Blk.new _ _ _
        have hb3 : Below w.heap.size w (w.alloc (.cells #[.int .i64 5, .int .i64 i, .int .i64 ((k : Int) - i)] 85)) := (Below.refl _ _).alloc (Nat.le_refl _) _
        exact bodyPost_ret (v := .agg #[.int .i64 5, .int .i64 i, .int .i64 ((k : Int) - i)]) (results_cell_row (hu := Tryz.underlying85) (h := rfl) (hp := rfl) (hg := hB3) (hd := rfl) (hi := by kernel_rfl)) rfl ⟨oneT_of i _ _ _ (by first | rfl | (rw [if_pos H18.out]; rfl)) (by show _ = ((R : Nat) : Int); have := HK.out; omega), hb3⟩
      · have h19 : (18 : Int) < (k : Int) - (i : Int) := by omega
        have HK := Lib.hid hkR
        have H18 := Lib.hid h18
        clear h18 hkR
        go_wp2_with fail
        have hB3 : Blk (w.alloc (.cells #[.int .i64 8, .int .i64 i, .int .i64 ((k : Int) - i)] 85)) w.heap.size 85 #[.int .i64 8, .int .i64 i, .int .i64 ((k : Int) - i)] := Blk.new _ _ _
        have hb3 : Below w.heap.size w (w.alloc (.cells #[.int .i64 8, .int .i64 i, .int .i64 ((k : Int) - i)] 85)) := (Below.refl _ _).alloc (Nat.le_refl _) _
        exact bodyPost_ret (v := .agg #[.int .i64 8, .int .i64 i, .int .i64 ((k : Int) - i)]) (results_cell_row (hu := Tryz.underlying85) (h := rfl) (hp := rfl) (hg := hB3) (hd := rfl) (hi := by kernel_rfl)) rfl ⟨oneT_of i _ _ _ (by first | rfl | (rw [if_neg H18.out]; rfl)) (by show _ = ((R : Nat) : Int); have := HK.out; omega), hb3⟩
end
end Go.Proofs.YtgpjcjnimheglaaGreatDoor
