/-
  WALKS of the document's tokens (package amanuensisref2): One, texts, signs, the rest, all.
-/
import Derived.Test.YtgpjcjnimheglaaGreatDoorUF
namespace Go.Proofs.YtgpjcjnimheglaaGreatDoor
open Go.RowKit

section
variable (s : Bs) (i : Nat) (w : World)

set_option maxHeartbeats 2000000 in
set_option maxRecDepth 100000 in
theorem one_text (hi : i < s.length) (hl : s.length ≤ 100000000) (hS : Lx.spaceB (dec (s.drop i)).1 = false) (hP1 : [45, 45].isPrefixOf (s.drop i) = false) (hP2 : [123, 45].isPrefixOf (s.drop i) = false) (hL : Lx.letterB (dec (s.drop i)).1 = false) (hc : (dec (s.drop i)).1 = 34) :
    Calls Tryz.prog 35 #[.string ⟨s.toArray⟩, .int .i64 i] w fun e w' => e = .returned (oneT i (if (Lx.textM (s.drop (i + 1))).2.1 ∧ (Lx.textM (s.drop (i + 1))).2.2 then 6 else 8, (Lx.textM (s.drop (i + 1))).1 + 1)) ∧ Below w.heap.size w w' := by
  have hd := fun w => rune_at s i hi w
  have hlt := fun w => rletter_walk (dec (s.drop i)).1 (dec_lt _) w
  have hp1 : ∀ w, Calls Tryz.prog 66 #[.string ⟨s.toArray⟩, .int .i64 i, .int .u8 45, .int .u8 45] w fun e w' => e = .returned (.bool ([45, 45].isPrefixOf (s.drop i))) ∧ w' = w := fun w => has_walk s i 45 45 w hl (by omega)
  have hp2 : ∀ w, Calls Tryz.prog 66 #[.string ⟨s.toArray⟩, .int .i64 i, .int .u8 123, .int .u8 45] w fun e w' => e = .returned (.bool ([123, 45].isPrefixOf (s.drop i))) ∧ w' = w := fun w => has_walk s i 123 45 w hl (by omega)
  have hb1 : Below w.heap.size w (wT w) := (Below.refl _ _).alloc (Nat.le_refl _) _
  have hB1 : Blk (wT w) w.heap.size 85 #[.int .i64 0, .int .i64 0, .int .i64 0] := Blk.new _ _ _
  have i0 : (0 : Int) ≤ (i : Int) := by omega
  have i1 : (i : Int) < (s.length : Int) := by omega
  have i2 : (i : Int) ≤ (s.length : Int) := by omega
  have z0 := hB1.cell 0
  have z1 := hB1.cell 1
  have z2 := hB1.cell 2
  have f0 := hB1.frozen 0
  have f1 := hB1.frozen 1
  have f2 := hB1.frozen 2
  simp at z0 z1 z2
  have hqu := fun w => quoted_walk s i w hi hl
  have hxl := (Lx.textR_line _ (s.drop (i + 1)) true rfl).1
  rw [List.length_drop] at hxl
  have hxl : (Lx.textM (s.drop (i + 1))).1 ≤ s.length - (i + 1) := hxl
  have hkd : Hid (kindT ((Lx.textM (s.drop (i + 1))).2.1 && (Lx.textM (s.drop (i + 1))).2.2) = ((if (Lx.textM (s.drop (i + 1))).2.1 = true ∧ (Lx.textM (s.drop (i + 1))).2.2 = true then 6 else 8 : Nat) : Int)) := by
    show _ = _
    cases (Lx.textM (s.drop (i + 1))).2.1 <;> cases (Lx.textM (s.drop (i + 1))).2.2 <;> rfl
  generalize (if (Lx.textM (s.drop (i + 1))).2.1 = true ∧ (Lx.textM (s.drop (i + 1))).2.2 = true then 6 else 8 : Nat) = K at *
  generalize Lx.textM (s.drop (i + 1)) = X at *
  obtain ⟨n, b1, b2⟩ := X
  simp only at hkd hxl
  have hqu2 : Hid (∀ w, Calls Tryz.prog 69 #[.string ⟨s.toArray⟩, .int .i64 i] w fun e w' => e = .returned (.tuple #[.int .i64 ((i + 1 + n : Nat) : Int), .int .i64 K]) ∧ w' = w) := fun w => by
    have h := hqu w
    unfold quotV at h
    simp only [hkd.out] at h
    exact h
  clear hqu hkd
  rw [hL] at hlt
  generalize dec (s.drop i) = D at *
  obtain ⟨c, z⟩ := D
  simp only at *
  subst hc
  go_enter Tryz.func35, Tryz.ntmps35
  go_wp2_with fail
  refine (hd _).mono ?_
  rintro e w1 ⟨rfl, rfl⟩
  go_wp2_with fail
  refine (hlt _).mono ?_
  rintro e w1 ⟨rfl, rfl⟩
  go_wp2_with fail
  have hq := hp1 (wT w)
  rw [hP1] at hq
  refine hq.mono ?_
  clear hq
  rintro e w1 ⟨rfl, rfl⟩
  go_wp2_with fail
  have hq := hp2 (wT w)
  rw [hP2] at hq
  refine hq.mono ?_
  clear hq
  rintro e w1 ⟨rfl, rfl⟩
  go_wp2_with fail
  refine (hqu2.out _).mono ?_
  clear hqu2
  rintro e w1 ⟨rfl, rfl⟩
  go_wp2_with fail
  have hB3 : Blk (w.alloc (.cells #[.int .i64 K, .int .i64 i, .int .i64 ((i : Int) + 1 + n - i)] 85)) w.heap.size 85 #[.int .i64 K, .int .i64 i, .int .i64 ((i : Int) + 1 + n - i)] := Blk.new _ _ _
  have hb3 : Below w.heap.size w (w.alloc (.cells #[.int .i64 K, .int .i64 i, .int .i64 ((i : Int) + 1 + n - i)] 85)) := (Below.refl _ _).alloc (Nat.le_refl _) _
  exact bodyPost_ret (v := .agg #[.int .i64 K, .int .i64 i, .int .i64 ((i : Int) + 1 + n - i)]) (results_cell_row (hu := Tryz.underlying85) (h := rfl) (hp := rfl) (hg := hB3) (hd := rfl) (hi := by kernel_rfl)) rfl ⟨oneT_of i _ _ _ rfl (by show _ = ((n + 1 : Nat) : Int); omega), hb3⟩

set_option maxHeartbeats 2000000 in
set_option maxRecDepth 100000 in
theorem one_rest (hi : i < s.length) (hl : s.length ≤ 100000000) (hS : Lx.spaceB (dec (s.drop i)).1 = false) (hP1 : [45, 45].isPrefixOf (s.drop i) = false) (hP2 : [123, 45].isPrefixOf (s.drop i) = false) (hL : Lx.letterB (dec (s.drop i)).1 = false) (hD : Lx.digitB (dec (s.drop i)).1 = false) (hc : (dec (s.drop i)).1 ≠ 34) :
    Calls Tryz.prog 35 #[.string ⟨s.toArray⟩, .int .i64 i] w fun e w' => e = .returned (oneT i (if Lx.signM (s.drop i) > 0 then (7, Lx.signM (s.drop i)) else (8, (dec (s.drop i)).2))) ∧ Below w.heap.size w w' := by
  have hd := fun w => rune_at s i hi w
  have hlt := fun w => rletter_walk (dec (s.drop i)).1 (dec_lt _) w
  have hp1 : ∀ w, Calls Tryz.prog 66 #[.string ⟨s.toArray⟩, .int .i64 i, .int .u8 45, .int .u8 45] w fun e w' => e = .returned (.bool ([45, 45].isPrefixOf (s.drop i))) ∧ w' = w := fun w => has_walk s i 45 45 w hl (by omega)
  have hp2 : ∀ w, Calls Tryz.prog 66 #[.string ⟨s.toArray⟩, .int .i64 i, .int .u8 123, .int .u8 45] w fun e w' => e = .returned (.bool ([123, 45].isPrefixOf (s.drop i))) ∧ w' = w := fun w => has_walk s i 123 45 w hl (by omega)
  have hp3 : ∀ w, Calls Tryz.prog 66 #[.string ⟨s.toArray⟩, .int .i64 i, .int .u8 61, .int .u8 62] w fun e w' => e = .returned (.bool ([61, 62].isPrefixOf (s.drop i))) ∧ w' = w := fun w => has_walk s i 61 62 w hl (by omega)
  have hp4 : ∀ w, Calls Tryz.prog 66 #[.string ⟨s.toArray⟩, .int .i64 i, .int .u8 61, .int .u8 61] w fun e w' => e = .returned (.bool ([61, 61].isPrefixOf (s.drop i))) ∧ w' = w := fun w => has_walk s i 61 61 w hl (by omega)
  have hp5 : ∀ w, Calls Tryz.prog 66 #[.string ⟨s.toArray⟩, .int .i64 i, .int .u8 43, .int .u8 43] w fun e w' => e = .returned (.bool ([43, 43].isPrefixOf (s.drop i))) ∧ w' = w := fun w => has_walk s i 43 43 w hl (by omega)
  have hb1 : Below w.heap.size w (wT w) := (Below.refl _ _).alloc (Nat.le_refl _) _
  have hB1 : Blk (wT w) w.heap.size 85 #[.int .i64 0, .int .i64 0, .int .i64 0] := Blk.new _ _ _
  have i0 : (0 : Int) ≤ (i : Int) := by omega
  have i1 : (i : Int) < (s.length : Int) := by omega
  have i2 : (i : Int) ≤ (s.length : Int) := by omega
  have z0 := hB1.cell 0
  have z1 := hB1.cell 1
  have z2 := hB1.cell 2
  have f0 := hB1.frozen 0
  have f1 := hB1.frozen 1
  have f2 := hB1.frozen 2
  simp at z0 z1 z2
  have hsg := sign_ways (s.drop i) (by intro e; have := congrArg List.length e; simp at this; omega)
  rw [hL] at hlt
  generalize Lx.signM (s.drop i) = G at *
  generalize [(61 : UInt8), 62].isPrefixOf (s.drop i) = p3 at *
  generalize [(61 : UInt8), 61].isPrefixOf (s.drop i) = p4 at *
  generalize [(43 : UInt8), 43].isPrefixOf (s.drop i) = p5 at *
  generalize dec (s.drop i) = D at *
  obtain ⟨c, z⟩ := D
  simp only at *
  obtain ⟨s9, s10, s13, s32⟩ := space_not hS
  have t9 : ((c : Int) == 9) = false := by simp; omega
  have t10 : ((c : Int) == 10) = false := by simp; omega
  have t13 : ((c : Int) == 13) = false := by simp; omega
  have t32 : ((c : Int) == 32) = false := by simp; omega
  clear s9 s10 s13 s32
  have hdn := digit_not hD
  have c34 : ((c : Int) == 34) = false := by simp; omega
  have HG := Lib.hid hsg
  clear hsg hD hc
  have hdd : ((48 : Int) ≤ (c : Int) ∧ ¬ (c : Int) ≤ 57) ∨ ¬ (48 : Int) ≤ (c : Int) := by omega
  clear hdn
  generalize hK : (if G > 0 then (7, G) else (8, z) : Nat × Nat) = K
  have HK := Lib.hid hK
  clear hK
  rcases hdd with ⟨g1, g2⟩ | g1
  all_goals
    go_enter Tryz.func35, Tryz.ntmps35
    go_wp2_with fail
    refine (hd _).mono ?_
    rintro e w1 ⟨rfl, rfl⟩
    go_wp2_with fail
    refine (hlt _).mono ?_
    rintro e w1 ⟨rfl, rfl⟩
    go_wp2_with fail
    have hq := hp1 (wT w)
    rw [hP1] at hq
    refine hq.mono ?_
    clear hq
    rintro e w1 ⟨rfl, rfl⟩
    go_wp2_with fail
    have hq := hp2 (wT w)
    rw [hP2] at hq
    refine hq.mono ?_
    clear hq
    rintro e w1 ⟨rfl, rfl⟩
    go_wp2_with fail
    have hq := hp3 (wT w)
    refine hq.mono ?_
    clear hq
    rintro e w1 ⟨rfl, rfl⟩
    go_wp2_with fail
    have hq := hp4 (wT w)
    refine hq.mono ?_
    clear hq
    rintro e w1 ⟨rfl, rfl⟩
    go_wp2_with fail
    have hq := hp5 (wT w)
    refine hq.mono ?_
    clear hq
    rintro e w1 ⟨rfl, rfl⟩
    clear hp1 hp2 hp3 hp4 hp5
    have hways : (p3 = true ∨ (p3 = false ∧ p4 = true) ∨ (p3 = false ∧ p4 = false ∧ p5 = true)) ∨ (p3 = false ∧ p4 = false ∧ p5 = false) := by cases p3 <;> cases p4 <;> cases p5 <;> simp
    rcases hways with hw | ⟨rfl, rfl, rfl⟩
    · have Hn : Hid (K = (7, 2)) := by
        show _ = _
        have h2 : G = 2 := by
          rw [HG.out]; rcases hw with rfl | ⟨rfl, rfl⟩ | ⟨rfl, rfl, rfl⟩ <;> simp
        rw [← HK.out, h2]; rfl
      clear HG HK
      rcases hw with rfl | ⟨rfl, rfl⟩ | ⟨rfl, rfl, rfl⟩
      all_goals
        go_wp2_with fail
        have hB3 : Blk (w.alloc (.cells #[.int .i64 7, .int .i64 i, .int .i64 (2)] 85)) w.heap.size 85 #[.int .i64 7, .int .i64 i, .int .i64 (2)] := Blk.new _ _ _
        have hb3 : Below w.heap.size w (w.alloc (.cells #[.int .i64 7, .int .i64 i, .int .i64 (2)] 85)) := (Below.refl _ _).alloc (Nat.le_refl _) _
        exact bodyPost_ret (v := .agg #[.int .i64 7, .int .i64 i, .int .i64 (2)]) (results_cell_row (hu := Tryz.underlying85) (h := rfl) (hp := rfl) (hg := hB3) (hd := rfl) (hi := by kernel_rfl)) rfl ⟨by rw [Hn.out]; rfl, hb3⟩
    · have HG2 : Hid (G = if c ∈ Lx.signs.map UInt8.toNat then 1 else 0) := HG.out
      clear HG
      go_wp2_with fail
      go_loop [23] (fun jv => ∃ j : Nat, jv = .int .i64 j ∧ j ≤ 13 ∧ Hid (∀ n, n < j → (Lx.signs[n]?.getD 0).toNat ≠ c)) (fun jv => 13 - (intOf jv).toNat)
      case atStart => exact ⟨0, rfl, by omega, by show ∀ n, n < 0 → _; omega⟩
      case round =>
        obtain ⟨j, rfl, hj, H⟩ := hrel
        by_cases hlt3 : j < 13
        · have j0 : (0 : Int) ≤ (j : Int) := by omega
          have j1 : (j : Int) < 13 := by omega
          have hsj := sign_at j hlt3 c
          by_cases hq : (Lx.signs[j]?.getD 0).toNat = c
          · have Hn : Hid (K = (7, 1)) := by
              show _ = _
              have h1 : G = 1 := by
                rw [HG2.out, if_pos]
                rw [← hq]
                refine List.mem_map_of_mem ?_
                have hl13 : j < Lx.signs.length := hlt3
                rw [List.getElem?_eq_getElem hl13]
                exact List.getElem_mem hl13
              rw [← HK.out, h1]; rfl
            rw [decide_eq_true hq] at hsj
            clear HK HG2 H hq
            go_wp2_with fail
            have hB3 : Blk (w.alloc (.cells #[.int .i64 7, .int .i64 i, .int .i64 (1)] 85)) w.heap.size 85 #[.int .i64 7, .int .i64 i, .int .i64 (1)] := Blk.new _ _ _
            have hb3 : Below w.heap.size w (w.alloc (.cells #[.int .i64 7, .int .i64 i, .int .i64 (1)] 85)) := (Below.refl _ _).alloc (Nat.le_refl _) _
            exact bodyPost_ret (v := .agg #[.int .i64 7, .int .i64 i, .int .i64 (1)]) (results_cell_row (hu := Tryz.underlying85) (h := rfl) (hp := rfl) (hg := hB3) (hd := rfl) (hi := by kernel_rfl)) rfl ⟨by rw [Hn.out]; rfl, hb3⟩
          · have Hn : Hid (∀ n, n < j + 1 → (Lx.signs[n]?.getD 0).toNat ≠ c) := fun n hn => by
              rcases Nat.lt_or_ge n j with h | h
              · exact H.out n h
              · obtain rfl : n = j := by omega
                exact hq
            rw [decide_eq_false hq] at hsj
            clear HK HG2 H hq
            go_wp2_with fail
            go_round
            case rel => exact ⟨j + 1, by go_num, by omega, Hn.out⟩
            case measure => simp [intOf]; omega
        · obtain rfl : j = 13 := by omega
          have Hn : Hid (K = (8, z)) := by
            show _ = _
            have h1 : G = 0 := by
              rw [HG2.out, if_neg]
              intro hm
              obtain ⟨x, hx, rfl⟩ := List.mem_map.1 hm
              obtain ⟨n, hn, hxn⟩ := List.getElem_of_mem hx
              refine H.out n hn ?_
              rw [List.getElem?_eq_getElem hn, hxn]; rfl
            rw [← HK.out, h1]; rfl
          clear HK HG2 H
          go_wp2_with fail
          have hB3 : Blk (w.alloc (.cells #[.int .i64 8, .int .i64 i, .int .i64 (z)] 85)) w.heap.size 85 #[.int .i64 8, .int .i64 i, .int .i64 (z)] := Blk.new _ _ _
          have hb3 : Below w.heap.size w (w.alloc (.cells #[.int .i64 8, .int .i64 i, .int .i64 (z)] 85)) := (Below.refl _ _).alloc (Nat.le_refl _) _
          exact bodyPost_ret (v := .agg #[.int .i64 8, .int .i64 i, .int .i64 (z)]) (results_cell_row (hu := Tryz.underlying85) (h := rfl) (hp := rfl) (hg := hB3) (hd := rfl) (hi := by kernel_rfl)) rfl ⟨by rw [Hn.out]; rfl, hb3⟩

theorem rone_walk (hi : i < s.length) (hl : s.length ≤ 100000000) :
    Calls Tryz.prog 35 #[.string ⟨s.toArray⟩, .int .i64 i] w fun e w' => e = .returned (oneT i (Lx.oneM (s.drop i))) ∧ Below w.heap.size w w' := by
  unfold Lx.oneM
  have hne : s.drop i ≠ [] := by intro e; have := congrArg List.length e; simp at this; omega
  cases hS : Lx.spaceB (dec (s.drop i)).1 with
  | true => rw [if_pos rfl]; exact one_space s i w hi hl hS
  | false =>
    rw [if_neg (by simp)]
    cases hP1 : [(45 : UInt8), 45].isPrefixOf (s.drop i) with
    | true => rw [if_pos rfl]; exact one_line s i w hi hl hS hP1
    | false =>
      rw [if_neg (by simp)]
      cases hP2 : [(123 : UInt8), 45].isPrefixOf (s.drop i) with
      | true => rw [if_pos rfl, List.drop_drop, List.length_drop]; exact one_remark s i w hi hl hS hP1 hP2
      | false =>
        rw [if_neg (by simp)]
        cases hL : Lx.letterB (dec (s.drop i)).1 with
        | true => rw [if_pos rfl]; exact one_name s i w hi hl hS hP1 hP2 hL
        | false =>
          rw [if_neg (by simp)]
          cases hD : Lx.digitB (dec (s.drop i)).1 with
          | true => rw [if_pos rfl]; exact one_int s i w hi hl hS hP1 hP2 hL hD
          | false =>
            rw [if_neg (by simp)]
            by_cases hc : (dec (s.drop i)).1 = 34
            · rw [if_pos hc, List.drop_drop]; exact one_text s i w hi hl hS hP1 hP2 hL hc
            · rw [if_neg hc]; exact one_rest s i w hi hl hS hP1 hP2 hL hD hc
end
end Go.Proofs.YtgpjcjnimheglaaGreatDoor
