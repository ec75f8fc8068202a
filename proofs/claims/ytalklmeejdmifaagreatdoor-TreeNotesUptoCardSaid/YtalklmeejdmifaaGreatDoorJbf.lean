/-
  JOINED of the texts UG UH DO
-/
import Derived.Test.YtalklmeejdmifaaGreatDoorJbe
import Derived.Deep.DeepCutAuto
import Derived.Deep.RegionHeld3
import Derived.Lib.IndexMore
import Derived.Lib.Strings
import Derived.Test.YtalklmeejdmifaaGreatDoorRows
import Derived.WalkKit
import Derived.WalkSpells
import Derived.WalkLawsBesides
import Derived.Below
import Derived.Laws.OwnMore
import Derived.Deep.AppendLies
import Derived.Deep.Draws
import Derived.Lib.Hide
import Derived.Deep.QuietTactic
import Derived.BigQuiet
import Derived.IntWalk
import Derived.Lib.ConvBytes
import Derived.Laws.Strings3
import Derived.Laws.Closers25
import Derived.Laws.Closers25b
import Derived.BigCall
import Derived.BigGuard
import Derived.Test.YtalklmeejdmifaaGreatDoorShelfX
import Derived.Shelf.Spec.BytesIndexFunc
import Derived.Lib.RuneBytes
import Derived.Test.YtalklmeejdmifaaGreatDoorShelfW
import Derived.Shelf.Strings.SlTrimAscii
import Derived.Lib.LaidTab
import Derived.Lib.AtoiAll
import Derived.Lib.IndexLaws
import Derived.Lib.SlTrimSet
import Derived.Lib.ItoaNum
import Derived.Lib.Atoi
import Derived.WalkMore
import Derived.ScopeJumps
import Derived.Test.YtalklmeejdmifaaGreatDoorJag
import Derived.Test.YtalklmeejdmifaaGreatDoorJaz
import Derived.Test.YtalklmeejdmifaaGreatDoorJba
import Derived.Test.YtalklmeejdmifaaGreatDoorJau
/-
  WALKS of the document's tokens (package amanuensisref2): One, texts, signs, the rest, all.
-/
namespace Go.Proofs.YtalklmeejdmifaaGreatDoor
open Go.RowKit

section
variable (s : Bs) (i : Nat) (w : World)

set_option maxHeartbeats 2000000 in
set_option maxRecDepth 100000 in
theorem one_text (hi : i < s.length) (hl : s.length ≤ 100000000) (hS : Lx.spaceB (dec (s.drop i)).1 = false) (hP1 : [45, 45].isPrefixOf (s.drop i) = false) (hP2 : [123, 45].isPrefixOf (s.drop i) = false) (hL : Lx.letterB (dec (s.drop i)).1 = false) (hc : (dec (s.drop i)).1 = 34) :
    Calls Tryz.prog 87 #[.string ⟨s.toArray⟩, .int .i64 i] w fun e w' => e = .returned (oneT i (if (Lx.textM (s.drop (i + 1))).2.1 ∧ (Lx.textM (s.drop (i + 1))).2.2 then 6 else 8, (Lx.textM (s.drop (i + 1))).1 + 1)) ∧ Below w.heap.size w w' := by
  have hd := fun w => rune_at s i hi w
  have hlt := fun w => rletter_walk (dec (s.drop i)).1 (dec_lt _) w
  have hp1 : ∀ w, Calls Tryz.prog 124 #[.string ⟨s.toArray⟩, .int .i64 i, .int .u8 45, .int .u8 45] w fun e w' => e = .returned (.bool ([45, 45].isPrefixOf (s.drop i))) ∧ w' = w := fun w => has_walk s i 45 45 w hl (by omega)
  have hp2 : ∀ w, Calls Tryz.prog 124 #[.string ⟨s.toArray⟩, .int .i64 i, .int .u8 123, .int .u8 45] w fun e w' => e = .returned (.bool ([123, 45].isPrefixOf (s.drop i))) ∧ w' = w := fun w => has_walk s i 123 45 w hl (by omega)
  have hb1 : Below w.heap.size w (wT w) := (Below.refl _ _).alloc (Nat.le_refl _) _
  have hB1 : Blk (wT w) w.heap.size 124 #[.int .i64 0, .int .i64 0, .int .i64 0] := Blk.new _ _ _
  have i0 : (0 : Int) ≤ (i : Int) := by omega
  have i1 : (i : Int) < (s.length : Int) := by omega
  have i2 : (i : Int) ≤ (s.length : Int) := by omega
  have z0 := hB1.cell 0
  have z1 := hB1.cell 1
  have z2 := hB1.cell 2
  have f0 := hB1.frozen 0
  have f1 := hB1.frozen 1
  have f2 := hB1.frozen 2
  simp at z0 z1 z2
  have hqu := fun w => quoted_walk s i w hi hl
  have hxl := (Lx.textR_line _ (s.drop (i + 1)) true rfl).1
  rw [List.length_drop] at hxl
  have hxl : (Lx.textM (s.drop (i + 1))).1 ≤ s.length - (i + 1) := hxl
  have hkd : Hid (kindT ((Lx.textM (s.drop (i + 1))).2.1 && (Lx.textM (s.drop (i + 1))).2.2) = ((if (Lx.textM (s.drop (i + 1))).2.1 = true ∧ (Lx.textM (s.drop (i + 1))).2.2 = true then 6 else 8 : Nat) : Int)) := by
    show _ = _
    cases (Lx.textM (s.drop (i + 1))).2.1 <;> cases (Lx.textM (s.drop (i + 1))).2.2 <;> rfl
  generalize (if (Lx.textM (s.drop (i + 1))).2.1 = true ∧ (Lx.textM (s.drop (i + 1))).2.2 = true then 6 else 8 : Nat) = K at *
  generalize Lx.textM (s.drop (i + 1)) = X at *
  obtain ⟨n, b1, b2⟩ := X
  simp only at hkd hxl
  have hqu2 : Hid (∀ w, Calls Tryz.prog 127 #[.string ⟨s.toArray⟩, .int .i64 i] w fun e w' => e = .returned (.tuple #[.int .i64 ((i + 1 + n : Nat) : Int), .int .i64 K]) ∧ w' = w) := fun w => by
    have h := hqu w
    unfold quotV at h
    simp only [hkd.out] at h
    exact h
  clear hqu hkd
  rw [hL] at hlt
  generalize dec (s.drop i) = D at *
  obtain ⟨c, z⟩ := D
  simp only at *
  subst hc
  go_enter Tryz.func87, Tryz.ntmps87
  go_wp2_with fail
  refine (hd _).mono ?_
  rintro e w1 ⟨rfl, rfl⟩
  go_wp2_with fail
  refine (hlt _).mono ?_
  rintro e w1 ⟨rfl, rfl⟩
  go_wp2_with fail
  have hq := hp1 (wT w)
  rw [hP1] at hq
  refine hq.mono ?_
  clear hq
  rintro e w1 ⟨rfl, rfl⟩
  go_wp2_with fail
  have hq := hp2 (wT w)
  rw [hP2] at hq
  refine hq.mono ?_
  clear hq
  rintro e w1 ⟨rfl, rfl⟩
  go_wp2_with fail
  refine (hqu2.out _).mono ?_
  clear hqu2
  rintro e w1 ⟨rfl, rfl⟩
  go_wp2_with fail
  have hB3 : Blk (w.alloc (.cells #[.int .i64 K, .int .i64 i, .int .i64 ((i : Int) + 1 + n - i)] 124)) w.heap.size 124 #[.int .i64 K, .int .i64 i, .int .i64 ((i : Int) + 1 + n - i)] := Blk.new _ _ _
  have hb3 : Below w.heap.size w (w.alloc (.cells #[.int .i64 K, .int .i64 i, .int .i64 ((i : Int) + 1 + n - i)] 124)) := (Below.refl _ _).alloc (Nat.le_refl _) _
  exact bodyPost_ret (v := .agg #[.int .i64 K, .int .i64 i, .int .i64 ((i : Int) + 1 + n - i)]) (results_cell_row (hu := Tryz.underlying124) (h := rfl) (hp := rfl) (hg := hB3) (hd := rfl) (hi := by kernel_rfl)) rfl ⟨oneT_of i _ _ _ rfl (by show _ = ((n + 1 : Nat) : Int); omega), hb3⟩

set_option maxHeartbeats 2000000 in
set_option maxRecDepth 100000 in
theorem one_rest (hi : i < s.length) (hl : s.length ≤ 100000000) (hS : Lx.spaceB (dec (s.drop i)).1 = false) (hP1 : [45, 45].isPrefixOf (s.drop i) = false) (hP2 : [123, 45].isPrefixOf (s.drop i) = false) (hL : Lx.letterB (dec (s.drop i)).1 = false) (hD : Lx.digitB (dec (s.drop i)).1 = false) (hc : (dec (s.drop i)).1 ≠ 34) :
    Calls Tryz.prog 87 #[.string ⟨s.toArray⟩, .int .i64 i] w fun e w' => e = .returned (oneT i (if Lx.signM (s.drop i) > 0 then (7, Lx.signM (s.drop i)) else (8, (dec (s.drop i)).2))) ∧ Below w.heap.size w w' := by
  have hd := fun w => rune_at s i hi w
  have hlt := fun w => rletter_walk (dec (s.drop i)).1 (dec_lt _) w
  have hp1 : ∀ w, Calls Tryz.prog 124 #[.string ⟨s.toArray⟩, .int .i64 i, .int .u8 45, .int .u8 45] w fun e w' => e = .returned (.bool ([45, 45].isPrefixOf (s.drop i))) ∧ w' = w := fun w => has_walk s i 45 45 w hl (by omega)
  have hp2 : ∀ w, Calls Tryz.prog 124 #[.string ⟨s.toArray⟩, .int .i64 i, .int .u8 123, .int .u8 45] w fun e w' => e = .returned (.bool ([123, 45].isPrefixOf (s.drop i))) ∧ w' = w := fun w => has_walk s i 123 45 w hl (by omega)
  have hp3 : ∀ w, Calls Tryz.prog 124 #[.string ⟨s.toArray⟩, .int .i64 i, .int .u8 61, .int .u8 62] w fun e w' => e = .returned (.bool ([61, 62].isPrefixOf (s.drop i))) ∧ w' = w := fun w => has_walk s i 61 62 w hl (by omega)
  have hp4 : ∀ w, Calls Tryz.prog 124 #[.string ⟨s.toArray⟩, .int .i64 i, .int .u8 61, .int .u8 61] w fun e w' => e = .returned (.bool ([61, 61].isPrefixOf (s.drop i))) ∧ w' = w := fun w => has_walk s i 61 61 w hl (by omega)
  have hp5 : ∀ w, Calls Tryz.prog 124 #[.string ⟨s.toArray⟩, .int .i64 i, .int .u8 43, .int .u8 43] w fun e w' => e = .returned (.bool ([43, 43].isPrefixOf (s.drop i))) ∧ w' = w := fun w => has_walk s i 43 43 w hl (by omega)
  have hb1 : Below w.heap.size w (wT w) := (Below.refl _ _).alloc (Nat.le_refl _) _
  have hB1 : Blk (wT w) w.heap.size 124 #[.int .i64 0, .int .i64 0, .int .i64 0] := Blk.new _ _ _
  have i0 : (0 : Int) ≤ (i : Int) := by omega
  have i1 : (i : Int) < (s.length : Int) := by omega
  have i2 : (i : Int) ≤ (s.length : Int) := by omega
  have z0 := hB1.cell 0
  have z1 := hB1.cell 1
  have z2 := hB1.cell 2
  have f0 := hB1.frozen 0
  have f1 := hB1.frozen 1
  have f2 := hB1.frozen 2
  simp at z0 z1 z2
  have hsg := sign_ways (s.drop i) (by intro e; have := congrArg List.length e; simp at this; omega)
  rw [hL] at hlt
  generalize Lx.signM (s.drop i) = G at *
  generalize [(61 : UInt8), 62].isPrefixOf (s.drop i) = p3 at *
  generalize [(61 : UInt8), 61].isPrefixOf (s.drop i) = p4 at *
  generalize [(43 : UInt8), 43].isPrefixOf (s.drop i) = p5 at *
  generalize dec (s.drop i) = D at *
  obtain ⟨c, z⟩ := D
  simp only at *
  obtain ⟨s9, s10, s13, s32⟩ := space_not hS
  have t9 : ((c : Int) == 9) = false := by simp; omega
  have t10 : ((c : Int) == 10) = false := by simp; omega
  have t13 : ((c : Int) == 13) = false := by simp; omega
  have t32 : ((c : Int) == 32) = false := by simp; omega
  clear s9 s10 s13 s32
  have hdn := digit_not hD
  have c34 : ((c : Int) == 34) = false := by simp; omega
  have HG := Lib.hid hsg
  clear hsg hD hc
  have hdd : ((48 : Int) ≤ (c : Int) ∧ ¬ (c : Int) ≤ 57) ∨ ¬ (48 : Int) ≤ (c : Int) := by omega
  clear hdn
  generalize hK : (if G > 0 then (7, G) else (8, z) : Nat × Nat) = K
  have HK := Lib.hid hK
  clear hK
  rcases hdd with ⟨g1, g2⟩ | g1
  all_goals
    go_enter Tryz.func87, Tryz.ntmps87
    go_wp2_with fail
    refine (hd _).mono ?_
    rintro e w1 ⟨rfl, rfl⟩
    go_wp2_with fail
    refine (hlt _).mono ?_
    rintro e w1 ⟨rfl, rfl⟩
    go_wp2_with fail
    have hq := hp1 (wT w)
    rw [hP1] at hq
    refine hq.mono ?_
    clear hq
    rintro e w1 ⟨rfl, rfl⟩
    go_wp2_with fail
    have hq := hp2 (wT w)
    rw [hP2] at hq
    refine hq.mono ?_
    clear hq
    rintro e w1 ⟨rfl, rfl⟩
    go_wp2_with fail
    have hq := hp3 (wT w)
    refine hq.mono ?_
    clear hq
    rintro e w1 ⟨rfl, rfl⟩
    go_wp2_with fail
    have hq := hp4 (wT w)
    refine hq.mono ?_
    clear hq
    rintro e w1 ⟨rfl, rfl⟩
    go_wp2_with fail
    have hq := hp5 (wT w)
    refine hq.mono ?_
    clear hq
    rintro e w1 ⟨rfl, rfl⟩
    clear hp1 hp2 hp3 hp4 hp5
    have hways : (p3 = true ∨ (p3 = false ∧ p4 = true) ∨ (p3 = false ∧ p4 = false ∧ p5 = true)) ∨ (p3 = false ∧ p4 = false ∧ p5 = false) := by cases p3 <;> cases p4 <;> cases p5 <;> simp
    rcases hways with hw | ⟨rfl, rfl, rfl⟩
    · have Hn : Hid (K = (7, 2)) := by
        show _ = _
        have h2 : G = 2 := by
          rw [HG.out]; rcases hw with rfl | ⟨rfl, rfl⟩ | ⟨rfl, rfl, rfl⟩ <;> simp
        rw [← HK.out, h2]; rfl
      clear HG HK
      rcases hw with rfl | ⟨rfl, rfl⟩ | ⟨rfl, rfl, rfl⟩
      all_goals
        go_wp2_with fail
        have hB3 : Blk (w.alloc (.cells #[.int .i64 7, .int .i64 i, .int .i64 (2)] 124)) w.heap.size 124 #[.int .i64 7, .int .i64 i, .int .i64 (2)] := Blk.new _ _ _
        have hb3 : Below w.heap.size w (w.alloc (.cells #[.int .i64 7, .int .i64 i, .int .i64 (2)] 124)) := (Below.refl _ _).alloc (Nat.le_refl _) _
        exact bodyPost_ret (v := .agg #[.int .i64 7, .int .i64 i, .int .i64 (2)]) (results_cell_row (hu := Tryz.underlying124) (h := rfl) (hp := rfl) (hg := hB3) (hd := rfl) (hi := by kernel_rfl)) rfl ⟨by rw [Hn.out]; rfl, hb3⟩
    · have HG2 : Hid (G = if c ∈ Lx.signs.map UInt8.toNat then 1 else 0) := HG.out
      clear HG
      go_wp2_with fail
      go_loop [23] (fun jv => ∃ j : Nat, jv = .int .i64 j ∧ j ≤ 13 ∧ Hid (∀ n, n < j → (Lx.signs[n]?.getD 0).toNat ≠ c)) (fun jv => 13 - (intOf jv).toNat)
      case atStart => exact ⟨0, rfl, by omega, by show ∀ n, n < 0 → _; omega⟩
      case round =>
        obtain ⟨j, rfl, hj, H⟩ := hrel
        by_cases hlt3 : j < 13
        · have j0 : (0 : Int) ≤ (j : Int) := by omega
          have j1 : (j : Int) < 13 := by omega
          have hsj := sign_at j hlt3 c
          by_cases hq : (Lx.signs[j]?.getD 0).toNat = c
          · have Hn : Hid (K = (7, 1)) := by
              show _ = _
              have h1 : G = 1 := by
                rw [HG2.out, if_pos]
                rw [← hq]
                refine List.mem_map_of_mem ?_
                have hl13 : j < Lx.signs.length := hlt3
                rw [List.getElem?_eq_getElem hl13]
                exact List.getElem_mem hl13
              rw [← HK.out, h1]; rfl
            rw [decide_eq_true hq] at hsj
            clear HK HG2 H hq
            go_wp2_with fail
            have hB3 : Blk (w.alloc (.cells #[.int .i64 7, .int .i64 i, .int .i64 (1)] 124)) w.heap.size 124 #[.int .i64 7, .int .i64 i, .int .i64 (1)] := Blk.new _ _ _
            have hb3 : Below w.heap.size w (w.alloc (.cells #[.int .i64 7, .int .i64 i, .int .i64 (1)] 124)) := (Below.refl _ _).alloc (Nat.le_refl _) _
            exact bodyPost_ret (v := .agg #[.int .i64 7, .int .i64 i, .int .i64 (1)]) (results_cell_row (hu := Tryz.underlying124) (h := rfl) (hp := rfl) (hg := hB3) (hd := rfl) (hi := by kernel_rfl)) rfl ⟨by rw [Hn.out]; rfl, hb3⟩
          · have Hn : Hid (∀ n, n < j + 1 → (Lx.signs[n]?.getD 0).toNat ≠ c) := fun n hn => by
              rcases Nat.lt_or_ge n j with h | h
              · exact H.out n h
              · obtain rfl : n = j := by omega
                exact hq
            rw [decide_eq_false hq] at hsj
            clear HK HG2 H hq
            go_wp2_with fail
            go_round
            case rel => exact ⟨j + 1, by go_num, by omega, Hn.out⟩
            case measure => simp [intOf]; omega
        · obtain rfl : j = 13 := by omega
          have Hn : Hid (K = (8, z)) := by
            show _ = _
            have h1 : G = 0 := by
              rw [HG2.out, if_neg]
              intro hm
              obtain ⟨x, hx, rfl⟩ := List.mem_map.1 hm
              obtain ⟨n, hn, hxn⟩ := List.getElem_of_mem hx
              refine H.out n hn ?_
              rw [List.getElem?_eq_getElem hn, hxn]; rfl
            rw [← HK.out, h1]; rfl
          clear HK HG2 H
          go_wp2_with fail
          have hB3 : Blk (w.alloc (.cells #[.int .i64 8, .int .i64 i, .int .i64 (z)] 124)) w.heap.size 124 #[.int .i64 8, .int .i64 i, .int .i64 (z)] := Blk.new _ _ _
          have hb3 : Below w.heap.size w (w.alloc (.cells #[.int .i64 8, .int .i64 i, .int .i64 (z)] 124)) := (Below.refl _ _).alloc (Nat.le_refl _) _
          exact bodyPost_ret (v := .agg #[.int .i64 8, .int .i64 i, .int .i64 (z)]) (results_cell_row (hu := Tryz.underlying124) (h := rfl) (hp := rfl) (hg := hB3) (hd := rfl) (hi := by kernel_rfl)) rfl ⟨by rw [Hn.out]; rfl, hb3⟩

theorem rone_walk (hi : i < s.length) (hl : s.length ≤ 100000000) :
    Calls Tryz.prog 87 #[.string ⟨s.toArray⟩, .int .i64 i] w fun e w' => e = .returned (oneT i (Lx.oneM (s.drop i))) ∧ Below w.heap.size w w' := by
  unfold Lx.oneM
  have hne : s.drop i ≠ [] := by intro e; have := congrArg List.length e; simp at this; omega
  cases hS : Lx.spaceB (dec (s.drop i)).1 with
  | true => rw [if_pos rfl]; exact one_space s i w hi hl hS
  | false =>
    rw [if_neg (by simp)]
    cases hP1 : [(45 : UInt8), 45].isPrefixOf (s.drop i) with
    | true => rw [if_pos rfl]; exact one_line s i w hi hl hS hP1
    | false =>
      rw [if_neg (by simp)]
      cases hP2 : [(123 : UInt8), 45].isPrefixOf (s.drop i) with
      | true => rw [if_pos rfl, List.drop_drop, List.length_drop]; exact one_remark s i w hi hl hS hP1 hP2
      | false =>
        rw [if_neg (by simp)]
        cases hL : Lx.letterB (dec (s.drop i)).1 with
        | true => rw [if_pos rfl]; exact one_name s i w hi hl hS hP1 hP2 hL
        | false =>
          rw [if_neg (by simp)]
          cases hD : Lx.digitB (dec (s.drop i)).1 with
          | true => rw [if_pos rfl]; exact one_int s i w hi hl hS hP1 hP2 hL hD
          | false =>
            rw [if_neg (by simp)]
            by_cases hc : (dec (s.drop i)).1 = 34
            · rw [if_pos hc, List.drop_drop]; exact one_text s i w hi hl hS hP1 hP2 hL hc
            · rw [if_neg hc]; exact one_rest s i w hi hl hS hP1 hP2 hL hD hc
end
end Go.Proofs.YtalklmeejdmifaaGreatDoor
/-
  WALKS of the document's tokens: Tokens; Tokens of package amanuensissame, of two rows that are the same.
-/
namespace Go.Proofs.YtalklmeejdmifaaGreatDoor
open Go.RowKit

set_option maxHeartbeats 2000000 in
set_option maxRecDepth 100000 in
theorem rtokens_walk (s : Bs) (w : World) (hl : s.length ≤ 8388608) :
    Calls Tryz.prog 50 #[.string ⟨s.toArray⟩] w fun e w' => ∃ A c, e = .returned (.slice A (Lx.tokR 0 s).length c) ∧ Rd w' w'.heap.size 3 A (Lx.tokR 0 s).length (tksC (Lx.tokR 0 s)) ∧ Below w.heap.size w w' := by
  obtain ⟨i0, ji, jz0, jz1, jz2⟩ := info_parts infoRT
  generalize hR : Lx.tokR 0 s = R
  have HR := Lib.hid hR
  clear hR
  go_enter Tryz.func50, Tryz.ntmps50
  go_wp2_with fail
  go_loopw [3, 4] (fun v i wr => ∃ (k : Nat) (done : List Tk), i = .int .i64 k ∧ k ≤ s.length ∧ done.length ≤ k ∧ wr.ownsRow w.heap.size 124 3 v done.length (tksC done) ∧ Below w.heap.size w wr ∧ Hid (R = done ++ Lx.tokR k (s.drop k))) (fun _ i _ => s.length - (intOf i).toNat)
  case atStart => exact ⟨0, [], rfl, Nat.zero_le _, Nat.le_refl _, World.ownsRow_nil _ _ _ _, Below.refl _ _, by show _ = _; rw [← HR.out]; rfl⟩
  case round =>
    obtain ⟨k, done, rfl, hk, hdl, hown, hb, H⟩ := hrel
    have hbs := hb.size
    by_cases hlt : k < s.length
    · have hne : s.drop k ≠ [] := by intro e; have := congrArg List.length e; simp at this; omega
      have hnx := rone_walk s k wr hlt (by omega)
      have hone := Lx.one_le (s.drop k) hne
      have Hs : Hid (R = (done ++ [((Lx.oneM (s.drop k)).1, k, (Lx.oneM (s.drop k)).2)]) ++ Lx.tokR (k + (Lx.oneM (s.drop k)).2) (s.drop (k + (Lx.oneM (s.drop k)).2))) := by
        show _ = _
        rw [H.out, Lx.tokR_cons k hne, List.drop_drop]; simp
      rw [List.length_drop] at hone
      generalize Lx.oneM (s.drop k) = X at *
      obtain ⟨a, n⟩ := X
      simp only at hone Hs
      have hnx : Calls Tryz.prog 87 _ wr fun e w' => e = .returned (.agg #[.int .i64 a, .int .i64 k, .int .i64 n]) ∧ Below wr.heap.size wr w' := hnx
      obtain ⟨o1, o2, o3, o4⟩ := hone
      have i0' : (0 : Int) ≤ (k : Int) := by omega
      have i1 : (k : Int) < (s.length : Int) := by omega
      clear hne H o3 o4
      go_wp2_with fail
      refine hnx.mono ?_
      clear hnx
      rintro e w2 ⟨rfl, hb2⟩
      have hb02 := hb.trans (hb2.mono hbs)
      have hbs2 := hb02.size
      have hown2 := own_of_block hown fun b hbk => hb2.block b (hown.lt b hbk).2
      obtain ⟨Av, cv, rfl⟩ := own_form hown2
      have hoA := (hown2.alloc (.cells #[.int .i64 a, .int .i64 k, .int .i64 n] 124)).alloc (.cells #[.int .i64 a, .int .i64 k, .int .i64 n] 124)
      have hbA : Below w.heap.size w ((w2.alloc (.cells #[.int .i64 a, .int .i64 k, .int .i64 n] 124)).alloc (.cells #[.int .i64 a, .int .i64 k, .int .i64 n] 124)) := (hb02.alloc hbs2 _).alloc (by simp; omega) _
      have hBT : Blk ((w2.alloc (.cells #[.int .i64 a, .int .i64 k, .int .i64 n] 124)).alloc (.cells #[.int .i64 a, .int .i64 k, .int .i64 n] 124)) w2.heap.size 124 #[.int .i64 a, .int .i64 k, .int .i64 n] := (Blk.new w2 _ _).alloc _
      have hne2 : some w2.heap.size ≠ (Value.slice Av done.length cv).ownBlock := fun e => by have := (hown2.lt _ e.symm).2; omega
      have hBN : ((w2.alloc (.cells #[.int .i64 a, .int .i64 k, .int .i64 n] 124)).alloc (.cells #[.int .i64 a, .int .i64 k, .int .i64 n] 124)).heap[w2.heap.size + 1]? = some (.cells #[.int .i64 a, .int .i64 k, .int .i64 n] 124 (0, 0)) := by
        have := heap_alloc_new (w2.alloc (.cells #[.int .i64 a, .int .i64 k, .int .i64 n] 124)) (.cells #[.int .i64 a, .int .i64 k, .int .i64 n] 124)
        simpa using this
      clear hown hb hbs hb2
      go_wp2_with (at_builtin; refine wpList_append_lies _ rfl _ _ 115 rfl w.heap.size 124 i0 _ 3 24 Tryz.underlying115 ji jz0 jz1 jz2 rfl (by omega) (.slice Av done.length cv) done.length (tksC done) rfl hoA ⟨w2.heap.size + 1, 0, none⟩ 1 1 [.int .i64 a, .int .i64 k, .int .i64 n] rfl rfl (World.news_of_block (cs := #[.int .i64 a, .int .i64 k, .int .i64 n]) (t := 124) (fr := (0, 0)) hBN) (by simp [Value.oneCell']) (by omega) (by unfold maxLen; omega) (by omega) (by simp; omega) _ rfl ?_; intro gg cap' w3 hown3 hgrow hat hlt3; have hB3 := hBT.grown hgrow hne2; have c2 := hB3.cell 2; simp at c2)
      go_roundw
      case rel => exact ⟨k + n, done ++ [(a, k, n)], by go_num, by omega, by simp; omega, by rw [tksC_snoc, List.length_append]; exact hown3, hbA.grown hgrow (by simp; omega) (fun g hg => (hown2.lt g hg).1), Hs.out⟩
      case measure => simp [intOf]; omega
    · obtain rfl : k = s.length := by omega
      have hRd : Hid (R = done) := by show _ = _; rw [H.out, List.drop_length, Lx.tokR_nil, List.append_nil]
      obtain ⟨Av, cv, rfl, hle, hvn⟩ := own_cap hown
      have hrd := Rd.of_own hown
      clear H
      go_wp2_with fail
      go_ret
      rw [hRd.out]
      exact ⟨Av, cv, rfl, hrd, hb⟩

end Go.Proofs.YtalklmeejdmifaaGreatDoor
/-
  WALKS of the document's reader: Parse.
-/
namespace Go.Proofs.YtalklmeejdmifaaGreatDoor
open Go.RowKit

theorem Bn.whole {w : World} {K : Nat → Prop} {h kind : Nat} {pts : List Tr.PT} (hb : Bn w K h kind pts) (at_ : Nat) : ∃ fp, RnF w (fun x => ¬ K x) (.branch kind at_ pts) fp (.pointer (some ⟨h, 0, none⟩)) ∧ fp.Nodup := hb.part at_
mutual
theorem NpF.weak {w : World} {F F' : Nat → Prop} (hF : ∀ x, F x → F' x) : ∀ (p : Tr.PT) (a : Nat) (fp : List Nat) (v : Value), NpF w F p a fp v → NpF w F' p a fp v
  | .leaf k t _, a, fp, v, h => by
    obtain ⟨g, e, rfl, h1, hB⟩ := h
    exact ⟨g, e, rfl, hF _ h1, hB⟩
  | .gap t _ d, a, fp, v, h => by
    obtain ⟨g, e, rfl, h1, hB⟩ := h
    exact ⟨g, e, rfl, hF _ h1, hB⟩
  | .branch k _ l, a, fp, v, h => by
    obtain ⟨g, fps, e, rfl, h1, A, c, vs, hB, hc, hr, hp⟩ := h
    exact ⟨g, fps, e, rfl, hF _ h1, A, c, vs, hB, hc, hr.keep (Nat.le_refl _) (fun _ hb _ => ⟨rfl, hF _ hb⟩), NpsF.weak hF l a fps vs hp⟩
theorem NpsF.weak {w : World} {F F' : Nat → Prop} (hF : ∀ x, F x → F' x) : ∀ (l : List Tr.PT) (a : Nat) (fps : List Nat) (vs : List Value), NpsF w F l a fps vs → NpsF w F' l a fps vs
  | [], _, _, _, h => h
  | p :: l, a, fps, vs, h => by
    obtain ⟨fp, fps', v, vs', rfl, e, hp, hl⟩ := h
    exact ⟨fp, fps', v, vs', rfl, e, NpF.weak hF p a fp v hp, NpsF.weak hF l _ fps' vs' hl⟩
end
theorem tail_leaves (s : Bs) (T : List Tk) (i : Nat) : Tr.tailP s T i = leavesP s T 0 i T.length := by
  unfold Tr.tailP leavesP
  rw [List.take_of_length_le (by rw [List.length_drop]; exact Nat.le_refl _)]

set_option maxHeartbeats 16000000 in
set_option maxRecDepth 100000 in
theorem rparse_walkT (s : Bs) (w : World) (hs : s.length ≤ 1048576) :
    Calls Tryz.prog 16 #[.string ⟨s.toArray⟩] w fun e w' => ∃ q fp, e = .returned (.pointer (some ⟨q, 0, none⟩)) ∧ NpF w' (fun x => w.heap.size ≤ x) (.branch 2 0 (Tr.allP s (Lx.tokR 0 s))) 0 fp (.pointer (some ⟨q, 0, none⟩)) ∧ fp.Nodup ∧ Below w.heap.size w w' := by
  obtain ⟨i0, ji, jz0, jz1, jz2⟩ := info_parts infoRN
  have htk := rtokens_walk s w (by omega)
  have hTl := Lx.tokR_len s.length 0 s (Nat.le_refl _)
  obtain ⟨hS, hW⟩ := Lx.tok_side s (by omega) hTl
  obtain ⟨T, hT⟩ : ∃ T, T = Lx.tokR 0 s := ⟨_, rfl⟩
  rw [← hT] at htk hTl hS hW ⊢
  clear hT
  have X : Txq s T := ⟨hS.good, by omega, by omega⟩
  have hall := Tr.all_fine hS
  have hput : PutC (.branch 2 0 (Tr.allP s T)) := put_all _ (by unfold Tr.wfP; exact ⟨Nat.le_refl _, by omega, hall.2.1⟩)
  have hwide : Tr.wideP (.branch 2 0 (Tr.allP s T)) ≤ 1000000000000 := by
    unfold Tr.wideP
    rw [Tr.wides_text, hall.1]
    omega
  have HW := Lib.hid hwide
  have HTl : Hid (T.length ≤ 1048576) := by show _ ≤ _; omega
  clear hwide hTl hall hs
  go_enter Tryz.func16, Tryz.ntmps16
  go_wp2_with fail
  refine htk.mono ?_
  clear htk
  rintro e1 w1 ⟨A0, c0, rfl, hrd, hd1⟩
  have hd2 : Below w1.heap.size w1 (w1.alloc (.cells #[.string ⟨s.toArray⟩, .slice A0 T.length c0, .int .i64 0, .int .i64 0, .bool false] 119)) := (Below.refl _ _).alloc (Nat.le_refl _) _
  have R : Rdq (w1.alloc (.cells #[.string ⟨s.toArray⟩, .slice A0 T.length c0, .int .i64 0, .int .i64 0, .bool false] 119)) (Old (w1.alloc (.cells #[.string ⟨s.toArray⟩, .slice A0 T.length c0, .int .i64 0, .int .i64 0, .bool false] 119))) w1.heap.size s T A0 c0 0 0 false := by
    refine ⟨Blk.new _ _ _, fun hn => ?_, by show _ < _; simp, Old.in_ _, Nat.zero_le _⟩
    obtain ⟨b, o, e, hb, hc⟩ := hrd.2 (by have := tksC_len T; omega)
    exact ⟨b, o, e, ⟨Nat.lt_of_lt_of_le hb hd2.size, by omega⟩, Nat.lt_of_lt_of_le hb hd2.size, fun j u hu => (World.cell?_of_block (a := ⟨b, o + j, none⟩) (hd2.block b hb)).trans (hc j u hu)⟩
  have hK0 : Below w.heap.size w (w1.alloc (.cells #[.string ⟨s.toArray⟩, .slice A0 T.length c0, .int .i64 0, .int .i64 0, .bool false] 119)) := hd1.trans (hd2.mono hd1.size)
  obtain ⟨g, hg⟩ : ∃ g, g = w1.heap.size := ⟨_, rfl⟩
  rw [← hg] at R
  go_upto_region 3 with fail
  rw [← hg]
  have HG : Hid (w.heap.size ≤ g) := by show _ ≤ _; rw [hg]; exact hd1.size
  clear hg hrd hd1 hd2
  generalize w1.alloc (.cells #[.string ⟨s.toArray⟩, .slice A0 T.length c0, .int .i64 0, .int .i64 0, .bool false] 119) = w2 at *
  have B : Bn (w2.alloc (.cells #[.int .i64 2, .int .i64 0, .string ⟨#[]⟩, .slice none 0 0, .int .i64 0, .int .i64 0, .int .i64 0, .int .i64 0, .bool false] 121)) (Old w2) w2.heap.size 2 [] := Bn.new (Old.in_ w2) 2
  have hd : Below w2.heap.size w2 (w2.alloc (.cells #[.int .i64 2, .int .i64 0, .string ⟨#[]⟩, .slice none 0 0, .int .i64 0, .int .i64 0, .int .i64 0, .int .i64 0, .bool false] 121)) := (Below.refl _ _).alloc (Nat.le_refl _) _
  have hA := Kept.aft (Kept.below hd (Old.in_ w2)) g
  have R := R.below hd
  clear hd
  obtain ⟨h, hh⟩ : ∃ h, h = w2.heap.size := ⟨_, rfl⟩
  rw [← hh] at B
  go_upto_region 4 with fail
  rw [← hh]
  clear hh
  generalize w2.alloc (.cells #[.int .i64 2, .int .i64 0, .string ⟨#[]⟩, .slice none 0 0, .int .i64 0, .int .i64 0, .int .i64 0, .int .i64 0, .bool false] 121) = w3 at *
  have hkd := rkindn_walk X R
  go_wp2_with fail
  refine hkd.mono ?_
  clear hkd
  rintro e1 w4 ⟨rfl, rfl⟩
  obtain ⟨all, hal⟩ : ∃ a, a = Tr.kidsP s T (T.length + 1) 0 := ⟨_, rfl⟩
  have HAll : Hid (Tr.allP s T = all.1.map (·.part) ++ Tr.tailP s T all.2) := by show _ = _; rw [hal]; rfl
  have Hal : Hid (Tr.kidsP s T (T.length + 1) 0 = all) := hal.symm
  clear hal
  go_wp2_with fail
  go_loopg [6, 7] (T.length) (fun m v u wr => ∃ (i : Nat) (ks : List Tr.PT) (cut : Bool), v = .int .i64 (Tr.kindP T (Tr.nextP T i) : Int) ∧ T.length - i ≤ m ∧ Aft (Old w2) g w2 wr ∧ Rdq wr (Old w2) g s T A0 c0 0 i cut ∧ Bn wr (Old w2) h 2 ks ∧ ks.length ≤ i ∧ Hid (ks ++ (Tr.kidsP s T (T.length + 1) i).1.map (·.part) = all.1.map (·.part)) ∧ Hid ((Tr.kidsP s T (T.length + 1) i).2 = all.2))
  case atStart => exact ⟨0, [], false, rfl, Nat.sub_le _ _, hA, R, B, Nat.le_refl _, by show _ = _; rw [Hal.out]; rfl, by show _ = _; rw [Hal.out]⟩
  case round =>
    clear hA R B Hal
    obtain ⟨i, ks, cut, rfl, hm, hA, R, B, hkl, Hk1, Hk2⟩ := hrel
    have hi := R.hi
    by_cases hnx : Tr.nextP T i < T.length
    · have hne : ¬ Tr.kindP T (Tr.nextP T i) = 0 := fun e => (tr_kind0 X.good i).1 e hnx
      have e0 : ((Tr.kindP T (Tr.nextP T i) : Int) != 0) = true := by
        rw [bne, beq_eq_false_iff_ne.2 (by omega)]
        rfl
      have hit := ritem_walk X hW R.old hnx
      have hst := Tr.kids_step s T i hi hnx
      have hgt := Tr.kid_gt s T i hi hnx
      have hkp : (Tr.kdP s T i).part = (Tr.kidP s T i).1 := rfl
      rw [hst] at Hk1 Hk2
      have Hk1 : Hid ((ks ++ [(Tr.kidP s T i).1]) ++ (Tr.kidsP s T (T.length + 1) (Tr.kidP s T i).2).1.map (·.part) = all.1.map (·.part)) := by
        show _ = _
        rw [← Hk1.out, List.append_assoc]
        rfl
      have Hk2 : Hid ((Tr.kidsP s T (T.length + 1) (Tr.kidP s T i).2).2 = all.2) := Hk2
      have Hgt := Lib.hid hgt
      have hTl := HTl.out
      have Hkl : Hid (ks.length ≤ 1048576) := by show _ ≤ _; omega
      have Hkl2 := Lib.hid hkl
      have hk4 : ks.length ≤ 100000000 := by omega
      clear hst hgt hkp hne hnx hTl hkl
      generalize Tr.kindP T (Tr.nextP T i) = kd at *
      generalize Tr.kidP s T i = r at *
      go_wp2_with fail
      refine hit.mono ?_
      clear hit
      intro e1 w6 h6
      obtain ⟨hp0, rfl, hA6, R6, hu⟩ := h6
      obtain ⟨fps, A, c, vs, hb⟩ := B
      have hp := Rnew.of hu R.inK hb
      have hb := hb.aft hA6 R.kg (fun _ hx => hx)
      have hA6 := hA6.old R.inK
      have R := R.from_old R6 hA6
      have hA := hA.trans hA6
      clear hA6 R6 hu e0
      have o1 := hb.blk.cell 3
      simp [nodeC] at o1
      have hhl := hb.blk.lt
      go_upto_region 8 with (at_builtin; refine wpList_append_lies _ rfl _ _ 66 rfl 0 33 i0 _ 1 8 Tryz.underlying66 ji jz0 jz1 jz2 rfl (by omega) (.slice A ks.length c) ks.length vs rfl (hb.own.alloc (.cells #[.pointer (some ⟨hp0, 0, none⟩)] 33)) ⟨w6.heap.size, 0, none⟩ 1 1 [.pointer (some ⟨hp0, 0, none⟩)] rfl rfl (World.news_of_block (heap_alloc_new w6 _)) (by simp [Value.oneCell']) (by omega) (by unfold maxLen; omega) (by omega) (Nat.zero_le _) (w6.heap.size + 1) (by simp) ?_; intro gg cap' w5 hown5 hgrow hat hlt5; obtain ⟨b1, bf, hB, hk, R5⟩ := node_push R hb hp hown5 hgrow hat)
      have R := R5
      have hA := hA.trans (hk.aft g)
      clear R5 hk hp hb o1 hown5 hgrow hat hlt5 b1 bf
      generalize (World.setCell w5 ⟨h, 3, none⟩ (.slice (some ⟨gg, 0, none⟩) (ks.length + 1) cap')) = w7 at *
      have hkd := rkindn_walk X R
      go_wp2_with fail
      refine hkd.mono ?_
      clear hkd
      rintro e1 w8 ⟨rfl, rfl⟩
      go_wp2_with fail
      go_roundg (T.length - r.2)
      case rel => exact ⟨r.2, _, _, rfl, Nat.le_refl _, hA, R, hB, by have := Hgt.out; have := Hkl2.out; simp; omega, Hk1, Hk2⟩
      case measure => have := Hgt.out; have := R.hi; omega
    · have hst := Tr.kids_stop s T i hnx
      rw [hst] at Hk1 Hk2
      have h2 : i = all.2 := Hk2.out
      have HF : Hid (Tr.allP s T = ks ++ leavesP s T 0 i T.length) := by
        show _ = _
        have h1 := Hk1.out
        simp only [List.map_nil, List.append_nil] at h1
        rw [HAll.out, ← h1, ← h2, tail_leaves s T i]
      have hk0 : Tr.kindP T (Tr.nextP T i) = 0 := (tr_kind0 X.good i).2 hnx
      have hTl := HTl.out
      have hk4 : ks.length ≤ 1048576 := by omega
      rw [hk0]
      clear hst Hk1 Hk2 HAll h2 hnx hm hkl hk0
      go_wp2_with fail
      go_loopg [8] (T.length - i) (fun q v wr => ∃ j, i ≤ j ∧ j ≤ T.length ∧ T.length - j ≤ q ∧ Aft (Old w2) g w2 wr ∧ Rdq wr (Old w2) g s T A0 c0 0 j cut ∧ Bn wr (Old w2) h 2 (ks ++ leavesP s T 0 i j))
      case atStart => exact ⟨i, Nat.le_refl _, hi, Nat.le_refl _, hA, R, by rw [leaves_self, List.append_nil]; exact B⟩
      case round =>
        clear hA R B
        obtain ⟨j, hij, hjt, hq, hA, R, hb⟩ := hrel
        obtain ⟨g0, g1, g2, _, _⟩ := R.cells
        have hrow := R.row
        by_cases hlt : j < T.length
        · have hjT := hlt
          have j0 : (0 : Int) ≤ (j : Int) := by omega
          have j1 : (j : Int) < (T.length : Int) := by omega
          obtain ⟨br, o, rfl, hbr, hbl, q0, q1, q2⟩ := hrow.tk hjT
          have HL := Lib.hid (leaves_succ s T 0 i j hij hjT)
          have hll := leaves_len s T 0 i j
          obtain ⟨h1, h2, h3⟩ := X.good.at_ hjT
          have Hlf : Hid (Tr.leafP s 0 T[j] = .leaf T[j].1 (Tr.subT s T[j]) (T[j].2.1 - 0)) := rfl
          have Hsub := Lib.hid (sub_str s T[j])
          generalize T[j] = t at *
          obtain ⟨tk, ta, tl⟩ := t
          dsimp only at h1 h2 h3 q0 q1 q2 Hlf Hsub
          have hpl : (ks ++ leavesP s T 0 i j).length ≤ 60000000 := by rw [List.length_append]; omega
          have HL2 : Hid (ks ++ leavesP s T 0 i (j + 1) = (ks ++ leavesP s T 0 i j) ++ [.leaf tk (Tr.subT s (tk, ta, tl)) (ta - 0)]) := by
            show _ = _
            rw [HL.out, Hlf.out, List.append_assoc]
          clear HL Hlf hll hrow
          obtain ⟨fps, A, c, vs, hb⟩ := hb
          generalize ks ++ leavesP s T 0 i j = ps at *
          obtain ⟨bx, hbx⟩ : ∃ x, x = wr.heap.size := ⟨_, rfl⟩
          have hb0 := fun m => below_drewN (Below.refl wr.heap.size wr) m
          have hA0 := fun m => hA.trans (Kept.aft (Kept.below (hb0 m) R.inK) g)
          have R0 := fun m => R.below (hb0 m)
          have hbb0 := fun m => hb.below (hb0 m)
          have hs := X.hs
          obtain ⟨K, hKK⟩ : ∃ K, K = Old w2 := ⟨_, rfl⟩
          rw [← hKK] at hA0 R0 hbb0
          obtain ⟨b, hb00⟩ : ∃ b, b = 0 := ⟨_, rfl⟩
          rw [← hb00] at HL2
          clear hA R hb
          go_wp2_with fail
          go_quiet (fail)
          have hA := hA0 nq
          have R := R0 nq
          have hb := hbb0 nq
          rw [show wr.heap.size = (wr.drewN nq).heap.size from rfl] at hbx hbl
          have g1 : (wr.drewN nq).cell? ⟨g, 1, none⟩ = _ := g1
          have g2 : (wr.drewN nq).cell? ⟨g, 2, none⟩ = _ := g2
          have q0 : (wr.drewN nq).cell? ⟨br, o + j * 3, none⟩ = _ := q0
          have q1 : (wr.drewN nq).cell? ⟨br, o + j * 3 + 1, none⟩ = _ := q1
          have q2 : (wr.drewN nq).cell? ⟨br, o + j * 3 + 2, none⟩ = _ := q2
          clear hA0 R0 hbb0 hb0 g0
          generalize wr.drewN nq = w2 at *
          go_wp2_with fail
          refine wp_region_G 11 (fun w' : World => w'.cell? ⟨g, 1, none⟩ = some (.slice (some ⟨br, o, none⟩) T.length c0) ∧ w'.cell? ⟨g, 2, none⟩ = some (.int .i64 (j : Int)) ∧ w'.cell? ⟨br, o + j * 3, none⟩ = some (.int .i64 (tk : Int)) ∧ w'.cell? ⟨br, o + j * 3 + 1, none⟩ = some (.int .i64 (ta : Int)) ∧ w'.cell? ⟨br, o + j * 3 + 2, none⟩ = some (.int .i64 (tl : Int))) (by kernel_rfl) ?_
          have hgl := R.lt
          have hS0 : (fun w' : World => w'.cell? ⟨g, 1, none⟩ = some (.slice (some ⟨br, o, none⟩) T.length c0) ∧ w'.cell? ⟨g, 2, none⟩ = some (.int .i64 (j : Int)) ∧ w'.cell? ⟨br, o + j * 3, none⟩ = some (.int .i64 (tk : Int)) ∧ w'.cell? ⟨br, o + j * 3 + 1, none⟩ = some (.int .i64 (ta : Int)) ∧ w'.cell? ⟨br, o + j * 3 + 2, none⟩ = some (.int .i64 (tl : Int))) w2.drew := ⟨g1, g2, q0, q1, q2⟩
          refine wpAnyG_take (i := 0) (v := ?_) rfl (by kernel_rfl) (by kernel_rfl) (by kernel_rfl) (by kernel_rfl) (fun _ _ _ h => h) (Or.inl ⟨by rfl, ?_⟩) hS0 ?_; rotate_left; · (intro w hSw; (try dsimp only at hSw); obtain ⟨s0, s1, s2, s3, s4⟩ := hSw; go_simp; try with_reducible rfl)
          simp only [Act.put, List.setIfInBounds_toArray]
          refine wpAnyG_take (i := 1) (v := ?_) rfl (by kernel_rfl) (by kernel_rfl) (by kernel_rfl) (by kernel_rfl) (fun _ _ _ h => h) (Or.inl ⟨by rfl, ?_⟩) hS0 ?_; rotate_left; · (intro w hSw; (try dsimp only at hSw); obtain ⟨s0, s1, s2, s3, s4⟩ := hSw; go_simp; try with_reducible rfl)
          simp only [Act.put]
          refine wpAnyG_take (i := 2) (v := ?_) rfl (by kernel_rfl) (by kernel_rfl) (by kernel_rfl) (by kernel_rfl) (fun _ _ _ h => h) (Or.inl ⟨by rfl, ?_⟩) hS0 ?_; rotate_left; · (intro w hSw; (try dsimp only at hSw); obtain ⟨s0, s1, s2, s3, s4⟩ := hSw; go_simp; try with_reducible rfl)
          simp only [Act.put]
          refine wpAnyG_take (i := 3) (v := ?_) rfl (by kernel_rfl) (by kernel_rfl) (by kernel_rfl) (by kernel_rfl) (fun _ _ _ h => h) (Or.inl ⟨by rfl, ?_⟩) hS0 ?_; rotate_left; · (intro w hSw; (try dsimp only at hSw); obtain ⟨s0, s1, s2, s3, s4⟩ := hSw; go_simp; try with_reducible rfl)
          simp only [Act.put]
          refine wpAnyG_take (i := 4) (v := ?_) rfl (by kernel_rfl) (by kernel_rfl) (by kernel_rfl) (by kernel_rfl) (fun _ _ _ h => h) (Or.inl ⟨by rfl, ?_⟩) hS0 ?_; rotate_left; · (intro w hSw; (try dsimp only at hSw); obtain ⟨s0, s1, s2, s3, s4⟩ := hSw; go_simp; try with_reducible rfl)
          simp only [Act.put]
          refine wpAnyG_take (i := 5) (v := ?_) rfl (by kernel_rfl) (by kernel_rfl) (by kernel_rfl) (by kernel_rfl) (fun _ _ _ h => h) (Or.inl ⟨by rfl, ?_⟩) hS0 ?_; rotate_left; · (intro w hSw; (try dsimp only at hSw); obtain ⟨s0, s1, s2, s3, s4⟩ := hSw; go_simp; try with_reducible rfl)
          simp only [Act.put]
          refine wpAnyG_take (i := 6) (v := ?_) rfl (by kernel_rfl) (by kernel_rfl) (by kernel_rfl) (by kernel_rfl) (fun _ _ _ h => h) (Or.inl ⟨by rfl, ?_⟩) hS0 ?_; rotate_left; · (intro w hSw; (try dsimp only at hSw); obtain ⟨s0, s1, s2, s3, s4⟩ := hSw; go_simp; try with_reducible rfl)
          simp only [Act.put]
          refine wpAnyG_take (i := 7) (v := ?_) rfl (by kernel_rfl) (by kernel_rfl) (by kernel_rfl) (by kernel_rfl) (fun _ _ _ h => h) (Or.inl ⟨by rfl, ?_⟩) hS0 ?_; rotate_left; · (intro w hSw; (try dsimp only at hSw); obtain ⟨s0, s1, s2, s3, s4⟩ := hSw; go_simp; try with_reducible rfl)
          simp only [Act.put]
          refine wpAnyG_take (i := 8) (v := ?_) rfl (by kernel_rfl) (by kernel_rfl) (by kernel_rfl) (by kernel_rfl) (fun _ _ _ h => h) (Or.inl ⟨by rfl, ?_⟩) hS0 ?_; rotate_left; · (intro w hSw; (try dsimp only at hSw); obtain ⟨s0, s1, s2, s3, s4⟩ := hSw; go_simp; try with_reducible rfl)
          simp only [Act.put]
          refine wpAnyG_take (i := 9) (v := ?_) rfl (by kernel_rfl) (by kernel_rfl) (by kernel_rfl) (by kernel_rfl) (fun _ _ _ h => h) (Or.inl ⟨by rfl, ?_⟩) hS0 ?_; rotate_left; · (intro w hSw; (try dsimp only at hSw); obtain ⟨s0, s1, s2, s3, s4⟩ := hSw; go_simp; try with_reducible rfl)
          simp only [Act.put]
          clear hS0
          refine wpAnyG_one (i := 10) (by kernel_rfl) rfl (fun C hC => ?_)
          go_simp
          refine hC.out _ _ (fun _ => ⟨(cell_alloc _ _ _ _ hgl).trans g1, (cell_alloc _ _ _ _ hgl).trans g2, (cell_alloc _ _ _ _ hbl).trans q0, (cell_alloc _ _ _ _ hbl).trans q1, (cell_alloc _ _ _ _ hbl).trans q2⟩) ?_
          clear hC C
          refine wpAnyG_one (i := 11) (by kernel_rfl) rfl (fun C hC => ?_)
          go_simp
          refine hC.out _ _ (fun h => absurd rfl h) ?_
          clear hC C
          refine wpAnyG_done (by kernel_rfl) ?_ _
          have hd : Below w2.heap.size w2 ((w2.alloc (.cells #[.int .i64 (tk : Int), .int .i64 (ta : Int), .int .i64 (tl : Int)] 124)).drew) := ((Below.refl _ _).alloc (Nat.le_refl _) _).drew
          have hA := hA.trans (Kept.aft (Kept.below hd R.inK) g)
          have R := R.below hd
          have hb := hb.below hd
          have hBx : Blk ((w2.alloc (.cells #[.int .i64 (tk : Int), .int .i64 (ta : Int), .int .i64 (tl : Int)] 124)).drew) bx 124 #[.int .i64 (tk : Int), .int .i64 (ta : Int), .int .i64 (tl : Int)] := by rw [hbx]; exact (Blk.new _ _ _).drew
          rw [← hbx]
          clear hbx hd g1 g2 q0 q1 q2 hbl hbr hgl
          generalize (w2.alloc (.cells #[.int .i64 (tk : Int), .int .i64 (ta : Int), .int .i64 (tl : Int)] 124)).drew = w2 at *
          go_wp2_with fail
          refine wp_region_G 22 (fun w' : World => w'.cell? ⟨h, 3, none⟩ = some (.slice A ps.length c) ∧ w'.cell? ⟨bx, 0, none⟩ = some (.int .i64 (tk : Int)) ∧ w'.cell? ⟨bx, 1, none⟩ = some (.int .i64 (ta : Int)) ∧ w'.cell? ⟨bx, 2, none⟩ = some (.int .i64 (tl : Int))) (by kernel_rfl) ?_
          have hd : Below w2.heap.size w2 w2.drew := (Below.refl _ _).drew
          have hA := hA.trans (Kept.aft (Kept.below hd R.inK) g)
          have R := R.below hd
          have hb := hb.below hd
          have hBx := hBx.drew
          clear hd
          generalize w2.drew = w3 at *
          have o1 := hb.blk.cell 3
          have b0 := hBx.cell 0
          have b1 := hBx.cell 1
          have b2 := hBx.cell 2
          simp [nodeC] at o1 b0 b1 b2
          have hS0 : (fun w' : World => w'.cell? ⟨h, 3, none⟩ = some (.slice A ps.length c) ∧ w'.cell? ⟨bx, 0, none⟩ = some (.int .i64 (tk : Int)) ∧ w'.cell? ⟨bx, 1, none⟩ = some (.int .i64 (ta : Int)) ∧ w'.cell? ⟨bx, 2, none⟩ = some (.int .i64 (tl : Int))) w3 := ⟨o1, b0, b1, b2⟩
          have a0 : IntKind.i64.wrap ((ta : Int) + tl) = (ta : Int) + tl := IntWalk.i64_in _ (by omega)
          have a1 : (0 : Int) ≤ (ta : Int) + tl := by omega
          have a2 : ((ta : Int) + tl).toNat = ta + tl := by omega
          have a3 : (ta : Int) + tl ≤ (s.length : Int) := by omega
          have a4 : (ta : Int) ≤ (ta : Int) + tl := by omega
          have a5 : ta ≤ ta + tl := by omega
          have a6 : ta + tl ≤ s.length := h1
          refine wpAnyG_take (i := 0) (v := ?_) rfl (by kernel_rfl) (by kernel_rfl) (by kernel_rfl) (by kernel_rfl) (fun _ _ _ h => h) (Or.inl ⟨by rfl, ?_⟩) hS0 ?_; rotate_left; · (intro w hSw; (try dsimp only at hSw); obtain ⟨s0, s1, s2, s3⟩ := hSw; go_simp; try with_reducible rfl)
          simp only [Act.put, List.setIfInBounds_toArray]
          refine wpAnyG_take (i := 1) (v := ?_) rfl (by kernel_rfl) (by kernel_rfl) (by kernel_rfl) (by kernel_rfl) (fun _ _ _ h => h) (Or.inl ⟨by rfl, ?_⟩) hS0 ?_; rotate_left; · (intro w hSw; (try dsimp only at hSw); obtain ⟨s0, s1, s2, s3⟩ := hSw; go_simp; try with_reducible rfl)
          simp only [Act.put]
          refine wpAnyG_take (i := 2) (v := ?_) rfl (by kernel_rfl) (by kernel_rfl) (by kernel_rfl) (by kernel_rfl) (fun _ _ _ h => h) (Or.inl ⟨by rfl, ?_⟩) hS0 ?_; rotate_left; · (intro w hSw; (try dsimp only at hSw); obtain ⟨s0, s1, s2, s3⟩ := hSw; go_simp; try with_reducible rfl)
          simp only [Act.put]
          refine wpAnyG_take (i := 3) (v := ?_) rfl (by kernel_rfl) (by kernel_rfl) (by kernel_rfl) (by kernel_rfl) (fun _ _ _ h => h) (Or.inl ⟨by rfl, ?_⟩) hS0 ?_; rotate_left; · (intro w hSw; (try dsimp only at hSw); obtain ⟨s0, s1, s2, s3⟩ := hSw; go_simp; try with_reducible rfl)
          simp only [Act.put]
          refine wpAnyG_take (i := 4) (v := ?_) rfl (by kernel_rfl) (by kernel_rfl) (by kernel_rfl) (by kernel_rfl) (fun _ _ _ h => h) (Or.inl ⟨by rfl, ?_⟩) hS0 ?_; rotate_left; · (intro w hSw; (try dsimp only at hSw); obtain ⟨s0, s1, s2, s3⟩ := hSw; go_simp; try with_reducible rfl)
          simp only [Act.put]
          refine wpAnyG_take (i := 5) (v := ?_) rfl (by kernel_rfl) (by kernel_rfl) (by kernel_rfl) (by kernel_rfl) (fun _ _ _ h => h) (Or.inl ⟨by rfl, ?_⟩) hS0 ?_; rotate_left; · (intro w hSw; (try dsimp only at hSw); obtain ⟨s0, s1, s2, s3⟩ := hSw; go_simp; try with_reducible rfl)
          simp only [Act.put]
          refine wpAnyG_take (i := 6) (v := ?_) rfl (by kernel_rfl) (by kernel_rfl) (by kernel_rfl) (by kernel_rfl) (fun _ _ _ h => h) (Or.inl ⟨by rfl, ?_⟩) hS0 ?_; rotate_left; · (intro w hSw; (try dsimp only at hSw); obtain ⟨s0, s1, s2, s3⟩ := hSw; go_simp; try with_reducible rfl)
          simp only [Act.put]
          refine wpAnyG_take (i := 7) (v := ?_) rfl (by kernel_rfl) (by kernel_rfl) (by kernel_rfl) (by kernel_rfl) (fun _ _ _ h => h) (Or.inl ⟨by rfl, ?_⟩) hS0 ?_; rotate_left; · (intro w hSw; (try dsimp only at hSw); obtain ⟨s0, s1, s2, s3⟩ := hSw; go_simp; try with_reducible rfl)
          simp only [Act.put]
          refine wpAnyG_take (i := 8) (v := ?_) rfl (by kernel_rfl) (by kernel_rfl) (by kernel_rfl) (by kernel_rfl) (fun _ _ _ h => h) (Or.inl ⟨by rfl, ?_⟩) hS0 ?_; rotate_left; · (intro w hSw; (try dsimp only at hSw); obtain ⟨s0, s1, s2, s3⟩ := hSw; go_simp; try with_reducible rfl)
          simp only [Act.put]
          refine wpAnyG_take (i := 9) (v := ?_) rfl (by kernel_rfl) (by kernel_rfl) (by kernel_rfl) (by kernel_rfl) (fun _ _ _ h => h) (Or.inl ⟨by rfl, ?_⟩) hS0 ?_; rotate_left; · (intro w hSw; (try dsimp only at hSw); obtain ⟨s0, s1, s2, s3⟩ := hSw; go_simp; try with_reducible rfl)
          simp only [Act.put]
          refine wpAnyG_take (i := 10) (v := ?_) rfl (by kernel_rfl) (by kernel_rfl) (by kernel_rfl) (by kernel_rfl) (fun _ _ _ h => h) (Or.inl ⟨by rfl, ?_⟩) hS0 ?_; rotate_left; · (intro w hSw; (try dsimp only at hSw); obtain ⟨s0, s1, s2, s3⟩ := hSw; go_simp; try with_reducible rfl)
          simp only [Act.put]
          refine wpAnyG_take (i := 11) (v := ?_) rfl (by kernel_rfl) (by kernel_rfl) (by kernel_rfl) (by kernel_rfl) (fun _ _ _ h => h) (Or.inl ⟨by rfl, ?_⟩) hS0 ?_; rotate_left; · (intro w hSw; (try dsimp only at hSw); obtain ⟨s0, s1, s2, s3⟩ := hSw; go_simp; try with_reducible rfl)
          simp only [Act.put]
          refine wpAnyG_take (i := 12) (v := ?_) rfl (by kernel_rfl) (by kernel_rfl) (by kernel_rfl) (by kernel_rfl) (fun _ _ _ h => h) (Or.inl ⟨by rfl, ?_⟩) hS0 ?_; rotate_left; · (intro w hSw; (try dsimp only at hSw); obtain ⟨s0, s1, s2, s3⟩ := hSw; go_simp; try with_reducible rfl)
          simp only [Act.put]
          refine wpAnyG_take (i := 13) (v := ?_) rfl (by kernel_rfl) (by kernel_rfl) (by kernel_rfl) (by kernel_rfl) (fun _ _ _ h => h) (Or.inl ⟨by rfl, ?_⟩) hS0 ?_; rotate_left; · (intro w hSw; (try dsimp only at hSw); obtain ⟨s0, s1, s2, s3⟩ := hSw; go_simp; try with_reducible rfl)
          simp only [Act.put]
          refine wpAnyG_take (i := 14) (v := ?_) rfl (by kernel_rfl) (by kernel_rfl) (by kernel_rfl) (by kernel_rfl) (fun _ _ _ h => h) (Or.inl ⟨by rfl, ?_⟩) hS0 ?_; rotate_left; · (intro w hSw; (try dsimp only at hSw); obtain ⟨s0, s1, s2, s3⟩ := hSw; go_simp; try with_reducible rfl)
          simp only [Act.put]
          refine wpAnyG_take (i := 15) (v := ?_) rfl (by kernel_rfl) (by kernel_rfl) (by kernel_rfl) (by kernel_rfl) (fun _ _ _ h => h) (Or.inl ⟨by rfl, ?_⟩) hS0 ?_; rotate_left; · (intro w hSw; (try dsimp only at hSw); obtain ⟨s0, s1, s2, s3⟩ := hSw; go_simp; try with_reducible rfl)
          simp only [Act.put]
          refine wpAnyG_take (i := 16) (v := ?_) rfl (by kernel_rfl) (by kernel_rfl) (by kernel_rfl) (by kernel_rfl) (fun _ _ _ h => h) (Or.inl ⟨by rfl, ?_⟩) hS0 ?_; rotate_left; · (intro w hSw; (try dsimp only at hSw); obtain ⟨s0, s1, s2, s3⟩ := hSw; go_simp; try with_reducible rfl)
          simp only [Act.put]
          clear hS0
          have hd : Below w3.heap.size w3 (w3.alloc (.cells #[.int .i64 0, .int .i64 (tk : Int), .string ((⟨s.toArray⟩ : ByteArray).extract ta (ta + tl)), .slice none 0 0, .int .i64 0, .int .i64 0, .int .i64 0, .int .i64 0, .bool false] 121)) := (Below.refl _ _).alloc (Nat.le_refl _) _
          have hBg : Blk (w3.alloc (.cells #[.int .i64 0, .int .i64 (tk : Int), .string ((⟨s.toArray⟩ : ByteArray).extract ta (ta + tl)), .slice none 0 0, .int .i64 0, .int .i64 0, .int .i64 0, .int .i64 0, .bool false] 121)) w3.heap.size 121 #[.int .i64 0, .int .i64 (tk : Int), .string ((⟨s.toArray⟩ : ByteArray).extract ta (ta + tl)), .slice none 0 0, .int .i64 0, .int .i64 0, .int .i64 0, .int .i64 0, .bool false] := Blk.new _ _ _
          have hA := hA.trans (Kept.aft (Kept.below hd R.inK) g)
          have hp : RnF (w3.alloc (.cells #[.int .i64 0, .int .i64 (tk : Int), .string ((⟨s.toArray⟩ : ByteArray).extract ta (ta + tl)), .slice none 0 0, .int .i64 0, .int .i64 0, .int .i64 0, .int .i64 0, .bool false] 121)) (fun x => ¬ K x ∧ x ≠ h ∧ some x ≠ (Value.slice A ps.length c).ownBlock) (.leaf tk (Tr.subT s (tk, ta, tl)) (ta - b)) [w3.heap.size] (.pointer (some ⟨w3.heap.size, 0, none⟩)) :=
            ⟨w3.heap.size, rfl, rfl, ⟨fun hk => Nat.lt_irrefl _ (R.inK _ hk), fun e => by have := hb.blk.lt; omega, fun e => by have := hb.row_lt _ e.symm; omega⟩, by unfold nodeC; rw [← show Value.string ((⟨s.toArray⟩ : ByteArray).extract ta (ta + tl)) = .string ⟨(Tr.subT s (tk, ta, tl)).toArray⟩ from Hsub.out]; exact hBg⟩
          have hdj : ∀ x ∈ [w3.heap.size], x ∉ fps := fun x hx hf => by
            simp only [List.mem_singleton] at hx
            subst hx
            exact Nat.lt_irrefl _ (RnsF.fp _ _ _ hb.parts _ hf).2
          have hbx3 := hBx.lt
          have hgl := R.lt
          refine wpAnyG_one (i := 17) (by kernel_rfl) rfl (fun C hC => ?_)
          go_simp
          have c0' := (cell_alloc w3 (.cells #[.int .i64 0, .int .i64 (tk : Int), .string ((⟨s.toArray⟩ : ByteArray).extract ta (ta + tl)), .slice none 0 0, .int .i64 0, .int .i64 0, .int .i64 0, .int .i64 0, .bool false] 121) bx 0 hbx3).trans b0
          have c1 := (cell_alloc w3 (.cells #[.int .i64 0, .int .i64 (tk : Int), .string ((⟨s.toArray⟩ : ByteArray).extract ta (ta + tl)), .slice none 0 0, .int .i64 0, .int .i64 0, .int .i64 0, .int .i64 0, .bool false] 121) bx 1 hbx3).trans b1
          have c2 := (cell_alloc w3 (.cells #[.int .i64 0, .int .i64 (tk : Int), .string ((⟨s.toArray⟩ : ByteArray).extract ta (ta + tl)), .slice none 0 0, .int .i64 0, .int .i64 0, .int .i64 0, .int .i64 0, .bool false] 121) bx 2 hbx3).trans b2
          have hBx := hBx.alloc (.cells #[.int .i64 0, .int .i64 (tk : Int), .string ((⟨s.toArray⟩ : ByteArray).extract ta (ta + tl)), .slice none 0 0, .int .i64 0, .int .i64 0, .int .i64 0, .int .i64 0, .bool false] 121)
          have R := R.below hd
          have hb := hb.below hd
          have o1 : (w3.alloc (.cells #[.int .i64 0, .int .i64 (tk : Int), .string ((⟨s.toArray⟩ : ByteArray).extract ta (ta + tl)), .slice none 0 0, .int .i64 0, .int .i64 0, .int .i64 0, .int .i64 0, .bool false] 121)).cell? ⟨h, 3, none⟩ = some (.slice A ps.length c) := by
            have := hb.blk.cell 3
            simpa [nodeC] using this
          refine hC.out _ _ (fun _ => ⟨o1, c0', c1, c2⟩) ?_
          clear hC C hd hBg b0 b1 b2
          obtain ⟨q, hq⟩ : ∃ q, q = w3.heap.size := ⟨_, rfl⟩
          rw [← hq] at hp hdj ⊢
          clear hq
          generalize (w3.alloc (.cells #[.int .i64 0, .int .i64 (tk : Int), .string ((⟨s.toArray⟩ : ByteArray).extract ta (ta + tl)), .slice none 0 0, .int .i64 0, .int .i64 0, .int .i64 0, .int .i64 0, .bool false] 121)) = w6 at *
          refine wpAnyG_one (i := 18) (by kernel_rfl) rfl (fun C hC => ?_)
          go_simp
          refine hC.out _ _ (fun _ => ⟨(cell_alloc _ _ _ _ hb.blk.lt).trans o1, (cell_alloc _ _ _ _ hBx.lt).trans c0', (cell_alloc _ _ _ _ hBx.lt).trans c1, (cell_alloc _ _ _ _ hBx.lt).trans c2⟩) ?_
          clear hC C
          refine wpAnyG_one (i := 19) (by kernel_rfl) rfl (fun C hC => ?_)
          refine step_append_lies _ (by rfl) _ _ _ (by rfl) 0 33 i0 _ 1 8 Tryz.underlying66 ji jz0 jz1 jz2 rfl (by omega) (.slice A ps.length c) ps.length vs (by rfl) (hb.own.alloc (.cells #[.pointer (some ⟨q, 0, none⟩)] 33)) ⟨w6.heap.size, 0, none⟩ 1 1 [.pointer (some ⟨q, 0, none⟩)] (by rfl) (by rfl) (World.news_of_block (heap_alloc_new w6 _)) (by simp [Value.oneCell']) (by omega) (by unfold maxLen; omega) (by omega) (Nat.zero_le _) (w6.heap.size + 1) (by simp) ?_
          intro gg cap' w5 hown5 hgrow hat hlt5
          have hpu := hb.push R.inK hp (by simp) hdj hown5 hgrow hat
          have hg5 := (hb.blk.alloc (.cells #[.pointer (some ⟨q, 0, none⟩)] 33)).grown hgrow hb.row_ne
          have b1 := hg5.cell 3
          have bf := hg5.frozen 3
          simp [nodeC] at b1
          have hx5 := (hBx.alloc (.cells #[.pointer (some ⟨q, 0, none⟩)] 33)).grown hgrow (own_ne hb.own hBx (by decide))
          have e0 := hx5.cell 0
          have e1 := hx5.cell 1
          have e2 := hx5.cell 2
          simp at e0 e1 e2
          refine hC.out _ _ (fun _ => ⟨b1, e0, e1, e2⟩) ?_
          clear hC C
          refine wpAnyG_one (i := 20) (by kernel_rfl) rfl (fun C hC => ?_)
          go_simp
          refine hC.out _ _ (fun _ => ⟨b1, e0, e1, e2⟩) ?_
          clear hC C
          refine wpAnyG_one (i := 21) (by kernel_rfl) rfl (fun C hC => ?_)
          go_simp
          refine hC.out _ _ (fun _ => ⟨b1, e0, e1, e2⟩) ?_
          clear hC C
          refine wpAnyG_one (i := 22) (by kernel_rfl) rfl (fun C hC => ?_)
          go_simp
          refine hC.out _ _ (fun h => absurd rfl h) ?_
          clear hC C
          refine wpAnyG_done (by kernel_rfl) ?_ _
          have hB := hpu.1
          have R := R.kept hpu.2
          have hA := hA.trans (hpu.2.aft g)
          clear hb hp hdj o1 hown5 hgrow hat hlt5 hpu hg5 b1 bf c0' c1 c2 hbx3 hgl hBx hx5 e0 e1 e2 a0 a1 a2 a3 a4 a5 a6 Hsub
          generalize (World.setCell w5 ⟨h, 3, none⟩ (.slice (some ⟨gg, 0, none⟩) (ps.length + 1) cap')) = w7 at *
          obtain ⟨_, _, g2, _, _⟩ := R.cells
          have gf := R.rd.frozen 2
          go_wp2_with fail
          go_roundg (T.length - (j + 1))
          case rel =>
            have hR := R.at_ (j := j + 1) (by omega)
            have hBs := hB.aft ((Aft.refl (Old w7) g w7).set 2 (.int .i64 ((j + 1 : Nat) : Int))) R.kg
            rw [← HL2.out, show ((j + 1 : Nat) : Int) = (j : Int) + 1 by omega] at hBs
            have hA2 := hA.set 2 (.int .i64 ((j : Int) + 1))
            rw [show ((j + 1 : Nat) : Int) = (j : Int) + 1 by omega] at hR
            rw [hKK] at hA2 hR hBs
            rw [hb00] at hBs
            exact ⟨j + 1, by omega, by omega, Nat.le_refl _, hA2, hR, hBs⟩
          case measure => omega
        · obtain rfl : j = T.length := by omega
          have j1 : ¬ (T.length : Int) < (T.length : Int) := by omega
          have j3 : decide (T.length < T.length) = false := by simp
          have hb0 := fun m => below_drewN (Below.refl wr.heap.size wr) m
          rw [← HF.out] at hb
          clear HF hlt hq hrow
          go_wp2_with fail
          go_quiet (fail)
          have hA := hA.trans (Kept.aft (Kept.below (hb0 nq) R.inK) g)
          have hb := hb.below (hb0 nq)
          have R := R.below (hb0 nq)
          clear hb0 g0 g1 g2
          generalize wr.drewN nq = w9 at *
          obtain ⟨fp, hp, hn⟩ := hb.whole 0
          have hpt := hput w9 _ fp _ 0 hp hn (by have := HW.out; omega)
          have hff := RnF.fp _ _ _ hp
          go_wp2_with fail
          refine hpt.mono ?_
          clear hpt
          rintro e1 w10 ⟨rfl, hTu, hNp⟩
          go_wp2_with fail
          go_ret
          have hw2 := hK0.size
          have hcm := (hA.calm.trans hTu.calm)
          refine ⟨h, fp, rfl, NpF.weak (fun x hx => ?_) _ _ _ _ hNp, hn, hcm.os.trans hK0.os, hcm.tape.trans hK0.tape, hcm.output.trans hK0.output, ?_, fun x hx => ?_⟩
          · have hx : ¬ x < w2.heap.size := hx
            omega
          · rw [hTu.size]; have := hA.size; omega
          · have hx2 : x < w2.heap.size := by omega
            have hg := HG.out
            rw [hTu.oth x (fun hm => (hff x hm).1 hx2), hA.oth x hx2 (by omega), hK0.block x hx]
end Go.Proofs.YtalklmeejdmifaaGreatDoor
