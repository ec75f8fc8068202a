/-
  JOINED of the texts UG UH LT LY
-/
import Derived.Test.YtalklmeejdmifaaGreatDoorJan
import Derived.Test.YtalklmeejdmifaaGreatDoorJaj
namespace Go.Proofs.YtalklmeejdmifaaGreatDoor
open Go.RowKit
section
variable (s : Bs) (i : Nat) (w : World)
set_option maxHeartbeats 2000000 in
set_option maxRecDepth 100000 in
theorem one_text (hi : i < s.length) (hl : s.length ≤ 100000000) (hS : Lx.spaceB (dec (s.drop i)).1 = false) (hP1 : [45, 45].isPrefixOf (s.drop i) = false) (hP2 : [123, 45].isPrefixOf (s.drop i) = false) (hL : Lx.letterB (dec (s.drop i)).1 = false) (hc : (dec (s.drop i)).1 = 34) :
  Calls Tryz.prog 87 #[.string ⟨s.toArray⟩, .int .i64 i] w fun e w' => e = .returned (oneT i (if (Lx.textM (s.drop (i + 1))).2.1 ∧ (Lx.textM (s.drop (i + 1))).2.2 then 6 else 8, (Lx.textM (s.drop (i + 1))).1 + 1)) ∧ Below w.heap.size w w' := by
 have hd := fun w => rune_at s i hi w
 have hlt := fun w => rletter_walk (dec (s.drop i)).1 (dec_lt _) w
 have hp1 : ∀ w, Calls Tryz.prog 124 #[.string ⟨s.toArray⟩, .int .i64 i, .int .u8 45, .int .u8 45] w fun e w' => e = .returned (.bool ([45, 45].isPrefixOf (s.drop i))) ∧ w' = w := fun w => has_walk s i 45 45 w hl (by omega)
 have hp2 : ∀ w, Calls Tryz.prog 124 #[.string ⟨s.toArray⟩, .int .i64 i, .int .u8 123, .int .u8 45] w fun e w' => e = .returned (.bool ([123, 45].isPrefixOf (s.drop i))) ∧ w' = w := fun w => has_walk s i 123 45 w hl (by omega)
 have hb1 : Below w.heap.size w (wT w) := (Below.refl _ _).alloc (Nat.le_refl _) _
 have hB1 : Blk (wT w) w.heap.size 124 #[.int .i64 0, .int .i64 0, .int .i64 0] := Blk.new _ _ _
 have i0 : (0 : Int) ≤ (i : Int) := by omega
 have i1 : (i : Int) < (s.length : Int) := by omega
 have i2 : (i : Int) ≤ (s.length : Int) := by omega
 have z0 := hB1.cell 0
 have z1 := hB1.cell 1
 have z2 := hB1.cell 2
 have f0 := hB1.frozen 0
 have f1 := hB1.frozen 1
 have f2 := hB1.frozen 2
 simp at z0 z1 z2
 have hqu := fun w => quoted_walk s i w hi hl
 have hxl := (Lx.textR_line _ (s.drop (i + 1)) true rfl).1
 rw [List.length_drop] at hxl
 have hxl : (Lx.textM (s.drop (i + 1))).1 ≤ s.length - (i + 1) := hxl
 have hkd : Hid (kindT ((Lx.textM (s.drop (i + 1))).2.1 && (Lx.textM (s.drop (i + 1))).2.2) = ((if (Lx.textM (s.drop (i + 1))).2.1 = true ∧ (Lx.textM (s.drop (i + 1))).2.2 = true then 6 else 8 : Nat) : Int)) := by
  show _ = _
  cases (Lx.textM (s.drop (i + 1))).2.1 <;> cases (Lx.textM (s.drop (i + 1))).2.2 <;> rfl
 generalize (if (Lx.textM (s.drop (i + 1))).2.1 = true ∧ (Lx.textM (s.drop (i + 1))).2.2 = true then 6 else 8 : Nat) = K at *
 generalize Lx.textM (s.drop (i + 1)) = X at *
 obtain ⟨n, b1, b2⟩ := X
 simp only at hkd hxl
 have hqu2 : Hid (∀ w, Calls Tryz.prog 127 #[.string ⟨s.toArray⟩, .int .i64 i] w fun e w' => e = .returned (.tuple #[.int .i64 ((i + 1 + n : Nat) : Int), .int .i64 K]) ∧ w' = w) := fun w => by
  have h := hqu w
  unfold quotV at h
  simp only [hkd.out] at h
  exact h
 clear hqu hkd
 rw [hL] at hlt
 generalize dec (s.drop i) = D at *
 obtain ⟨c, z⟩ := D
 simp only at *
 subst hc
 go_enter Tryz.func87, Tryz.ntmps87
 go_wp2_with fail
 refine (hd _).mono ?_
 rintro e w1 ⟨rfl, rfl⟩
 go_wp2_with fail
 refine (hlt _).mono ?_
 rintro e w1 ⟨rfl, rfl⟩
 go_wp2_with fail
 have hq := hp1 (wT w)
 rw [hP1] at hq
 refine hq.mono ?_
 clear hq
 rintro e w1 ⟨rfl, rfl⟩
 go_wp2_with fail
 have hq := hp2 (wT w)
 rw [hP2] at hq
 refine hq.mono ?_
 clear hq
 rintro e w1 ⟨rfl, rfl⟩
 go_wp2_with fail
 refine (hqu2.out _).mono ?_
 clear hqu2
 rintro e w1 ⟨rfl, rfl⟩
 go_wp2_with fail
 have hB3 : Blk (w.alloc (.cells #[.int .i64 K, .int .i64 i, .int .i64 ((i : Int) + 1 + n - i)] 124)) w.heap.size 124 #[.int .i64 K, .int .i64 i, .int .i64 ((i : Int) + 1 + n - i)] := Blk.new _ _ _
 have hb3 : Below w.heap.size w (w.alloc (.cells #[.int .i64 K, .int .i64 i, .int .i64 ((i : Int) + 1 + n - i)] 124)) := (Below.refl _ _).alloc (Nat.le_refl _) _
 exact bodyPost_ret (v := .agg #[.int .i64 K, .int .i64 i, .int .i64 ((i : Int) + 1 + n - i)]) (results_cell_row (hu := Tryz.underlying124) (h := rfl) (hp := rfl) (hg := hB3) (hd := rfl) (hi := by kernel_rfl)) rfl ⟨oneT_of i _ _ _ rfl (by show _ = ((n + 1 : Nat) : Int); omega), hb3⟩
set_option maxHeartbeats 2000000 in
set_option maxRecDepth 100000 in
theorem one_rest (hi : i < s.length) (hl : s.length ≤ 100000000) (hS : Lx.spaceB (dec (s.drop i)).1 = false) (hP1 : [45, 45].isPrefixOf (s.drop i) = false) (hP2 : [123, 45].isPrefixOf (s.drop i) = false) (hL : Lx.letterB (dec (s.drop i)).1 = false) (hD : Lx.digitB (dec (s.drop i)).1 = false) (hc : (dec (s.drop i)).1 ≠ 34) :
  Calls Tryz.prog 87 #[.string ⟨s.toArray⟩, .int .i64 i] w fun e w' => e = .returned (oneT i (if Lx.signM (s.drop i) > 0 then (7, Lx.signM (s.drop i)) else (8, (dec (s.drop i)).2))) ∧ Below w.heap.size w w' := by
 have hd := fun w => rune_at s i hi w
 have hlt := fun w => rletter_walk (dec (s.drop i)).1 (dec_lt _) w
 have hp1 : ∀ w, Calls Tryz.prog 124 #[.string ⟨s.toArray⟩, .int .i64 i, .int .u8 45, .int .u8 45] w fun e w' => e = .returned (.bool ([45, 45].isPrefixOf (s.drop i))) ∧ w' = w := fun w => has_walk s i 45 45 w hl (by omega)
 have hp2 : ∀ w, Calls Tryz.prog 124 #[.string ⟨s.toArray⟩, .int .i64 i, .int .u8 123, .int .u8 45] w fun e w' => e = .returned (.bool ([123, 45].isPrefixOf (s.drop i))) ∧ w' = w := fun w => has_walk s i 123 45 w hl (by omega)
 have hp3 : ∀ w, Calls Tryz.prog 124 #[.string ⟨s.toArray⟩, .int .i64 i, .int .u8 61, .int .u8 62] w fun e w' => e = .returned (.bool ([61, 62].isPrefixOf (s.drop i))) ∧ w' = w := fun w => has_walk s i 61 62 w hl (by omega)
 have hp4 : ∀ w, Calls Tryz.prog 124 #[.string ⟨s.toArray⟩, .int .i64 i, .int .u8 61, .int .u8 61] w fun e w' => e = .returned (.bool ([61, 61].isPrefixOf (s.drop i))) ∧ w' = w := fun w => has_walk s i 61 61 w hl (by omega)
 have hp5 : ∀ w, Calls Tryz.prog 124 #[.string ⟨s.toArray⟩, .int .i64 i, .int .u8 43, .int .u8 43] w fun e w' => e = .returned (.bool ([43, 43].isPrefixOf (s.drop i))) ∧ w' = w := fun w => has_walk s i 43 43 w hl (by omega)
 have hb1 : Below w.heap.size w (wT w) := (Below.refl _ _).alloc (Nat.le_refl _) _
 have hB1 : Blk (wT w) w.heap.size 124 #[.int .i64 0, .int .i64 0, .int .i64 0] := Blk.new _ _ _
 have i0 : (0 : Int) ≤ (i : Int) := by omega
 have i1 : (i : Int) < (s.length : Int) := by omega
 have i2 : (i : Int) ≤ (s.length : Int) := by omega
 have z0 := hB1.cell 0
 have z1 := hB1.cell 1
 have z2 := hB1.cell 2
 have f0 := hB1.frozen 0
 have f1 := hB1.frozen 1
 have f2 := hB1.frozen 2
 simp at z0 z1 z2
 have hsg := sign_ways (s.drop i) (by intro e; have := congrArg List.length e; simp at this; omega)
 rw [hL] at hlt
 generalize Lx.signM (s.drop i) = G at *
 generalize [(61 : UInt8), 62].isPrefixOf (s.drop i) = p3 at *
 generalize [(61 : UInt8), 61].isPrefixOf (s.drop i) = p4 at *
 generalize [(43 : UInt8), 43].isPrefixOf (s.drop i) = p5 at *
 generalize dec (s.drop i) = D at *
 obtain ⟨c, z⟩ := D
 simp only at *
 obtain ⟨s9, s10, s13, s32⟩ := space_not hS
 have t9 : ((c : Int) == 9) = false := by simp; omega
 have t10 : ((c : Int) == 10) = false := by simp; omega
 have t13 : ((c : Int) == 13) = false := by simp; omega
 have t32 : ((c : Int) == 32) = false := by simp; omega
 clear s9 s10 s13 s32
 have hdn := digit_not hD
 have c34 : ((c : Int) == 34) = false := by simp; omega
 have HG := Lib.hid hsg
 clear hsg hD hc
 have hdd : ((48 : Int) ≤ (c : Int) ∧ ¬ (c : Int) ≤ 57) ∨ ¬ (48 : Int) ≤ (c : Int) := by omega
 clear hdn
 generalize hK : (if G > 0 then (7, G) else (8, z) : Nat × Nat) = K
 have HK := Lib.hid hK
 clear hK
 rcases hdd with ⟨g1, g2⟩ | g1
 all_goals
  go_enter Tryz.func87, Tryz.ntmps87
  go_wp2_with fail
  refine (hd _).mono ?_
  rintro e w1 ⟨rfl, rfl⟩
  go_wp2_with fail
  refine (hlt _).mono ?_
  rintro e w1 ⟨rfl, rfl⟩
  go_wp2_with fail
  have hq := hp1 (wT w)
  rw [hP1] at hq
  refine hq.mono ?_
  clear hq
  rintro e w1 ⟨rfl, rfl⟩
  go_wp2_with fail
  have hq := hp2 (wT w)
  rw [hP2] at hq
  refine hq.mono ?_
  clear hq
  rintro e w1 ⟨rfl, rfl⟩
  go_wp2_with fail
  have hq := hp3 (wT w)
  refine hq.mono ?_
  clear hq
  rintro e w1 ⟨rfl, rfl⟩
  go_wp2_with fail
  have hq := hp4 (wT w)
  refine hq.mono ?_
  clear hq
  rintro e w1 ⟨rfl, rfl⟩
  go_wp2_with fail
  have hq := hp5 (wT w)
  refine hq.mono ?_
  clear hq
  rintro e w1 ⟨rfl, rfl⟩
  clear hp1 hp2 hp3 hp4 hp5
  have hways : (p3 = true ∨ (p3 = false ∧ p4 = true) ∨ (p3 = false ∧ p4 = false ∧ p5 = true)) ∨ (p3 = false ∧ p4 = false ∧ p5 = false) := by cases p3 <;> cases p4 <;> cases p5 <;> simp
  rcases hways with hw | ⟨rfl, rfl, rfl⟩
  ·have Hn : Hid (K = (7, 2)) := by
    show _ = _
    have h2 : G = 2 := by
     rw [HG.out]; rcases hw with rfl | ⟨rfl, rfl⟩ | ⟨rfl, rfl, rfl⟩ <;> simp
    rw [← HK.out, h2]; rfl
   clear HG HK
   rcases hw with rfl | ⟨rfl, rfl⟩ | ⟨rfl, rfl, rfl⟩
   all_goals
    go_wp2_with fail
    have hB3 : Blk (w.alloc (.cells #[.int .i64 7, .int .i64 i, .int .i64 (2)] 124)) w.heap.size 124 #[.int .i64 7, .int .i64 i, .int .i64 (2)] := Blk.new _ _ _
    have hb3 : Below w.heap.size w (w.alloc (.cells #[.int .i64 7, .int .i64 i, .int .i64 (2)] 124)) := (Below.refl _ _).alloc (Nat.le_refl _) _
    exact bodyPost_ret (v := .agg #[.int .i64 7, .int .i64 i, .int .i64 (2)]) (results_cell_row (hu := Tryz.underlying124) (h := rfl) (hp := rfl) (hg := hB3) (hd := rfl) (hi := by kernel_rfl)) rfl ⟨by rw [Hn.out]; rfl, hb3⟩
  ·have HG2 : Hid (G = if c ∈ Lx.signs.map UInt8.toNat then 1 else 0) := HG.out
   clear HG
   go_wp2_with fail
   go_loop [23] (fun jv => ∃ j : Nat, jv = .int .i64 j ∧ j ≤ 13 ∧ Hid (∀ n, n < j → (Lx.signs[n]?.getD 0).toNat ≠ c)) (fun jv => 13 - (intOf jv).toNat)
   case atStart => exact ⟨0, rfl, by omega, by show ∀ n, n < 0 → _; omega⟩
   case round =>
    obtain ⟨j, rfl, hj, H⟩ := hrel
    by_cases hlt3 : j < 13
    ·have j0 : (0 : Int) ≤ (j : Int) := by omega
     have j1 : (j : Int) < 13 := by omega
     have hsj := sign_at j hlt3 c
     by_cases hq : (Lx.signs[j]?.getD 0).toNat = c
     ·have Hn : Hid (K = (7, 1)) := by
       show _ = _
       have h1 : G = 1 := by
        rw [HG2.out, if_pos]
        rw [← hq]
        refine List.mem_map_of_mem ?_
        have hl13 : j < Lx.signs.length := hlt3
        rw [List.getElem?_eq_getElem hl13]
        exact List.getElem_mem hl13
       rw [← HK.out, h1]; rfl
      rw [decide_eq_true hq] at hsj
      clear HK HG2 H hq
      go_wp2_with fail
      have hB3 : Blk (w.alloc (.cells #[.int .i64 7, .int .i64 i, .int .i64 (1)] 124)) w.heap.size 124 #[.int .i64 7, .int .i64 i, .int .i64 (1)] := Blk.new _ _ _
      have hb3 : Below w.heap.size w (w.alloc (.cells #[.int .i64 7, .int .i64 i, .int .i64 (1)] 124)) := (Below.refl _ _).alloc (Nat.le_refl _) _
      exact bodyPost_ret (v := .agg #[.int .i64 7, .int .i64 i, .int .i64 (1)]) (results_cell_row (hu := Tryz.underlying124) (h := rfl) (hp := rfl) (hg := hB3) (hd := rfl) (hi := by kernel_rfl)) rfl ⟨by rw [Hn.out]; rfl, hb3⟩
     ·have Hn : Hid (∀ n, n < j + 1 → (Lx.signs[n]?.getD 0).toNat ≠ c) := fun n hn => by
       rcases Nat.lt_or_ge n j with h | h
       ·exact H.out n h
       ·obtain rfl : n = j := by omega
        exact hq
      rw [decide_eq_false hq] at hsj
      clear HK HG2 H hq
      go_wp2_with fail
      go_round
      case rel => exact ⟨j + 1, by go_num, by omega, Hn.out⟩
      case measure => simp [intOf]; omega
    ·obtain rfl : j = 13 := by omega
     have Hn : Hid (K = (8, z)) := by
      show _ = _
      have h1 : G = 0 := by
       rw [HG2.out, if_neg]
       intro hm
       obtain ⟨x, hx, rfl⟩ := List.mem_map.1 hm
       obtain ⟨n, hn, hxn⟩ := List.getElem_of_mem hx
       refine H.out n hn ?_
       rw [List.getElem?_eq_getElem hn, hxn]; rfl
      rw [← HK.out, h1]; rfl
     clear HK HG2 H
     go_wp2_with fail
     have hB3 : Blk (w.alloc (.cells #[.int .i64 8, .int .i64 i, .int .i64 (z)] 124)) w.heap.size 124 #[.int .i64 8, .int .i64 i, .int .i64 (z)] := Blk.new _ _ _
     have hb3 : Below w.heap.size w (w.alloc (.cells #[.int .i64 8, .int .i64 i, .int .i64 (z)] 124)) := (Below.refl _ _).alloc (Nat.le_refl _) _
     exact bodyPost_ret (v := .agg #[.int .i64 8, .int .i64 i, .int .i64 (z)]) (results_cell_row (hu := Tryz.underlying124) (h := rfl) (hp := rfl) (hg := hB3) (hd := rfl) (hi := by kernel_rfl)) rfl ⟨by rw [Hn.out]; rfl, hb3⟩
theorem rone_walk (hi : i < s.length) (hl : s.length ≤ 100000000) :
  Calls Tryz.prog 87 #[.string ⟨s.toArray⟩, .int .i64 i] w fun e w' => e = .returned (oneT i (Lx.oneM (s.drop i))) ∧ Below w.heap.size w w' := by
 unfold Lx.oneM
 have hne : s.drop i ≠ [] := by intro e; have := congrArg List.length e; simp at this; omega
 cases hS : Lx.spaceB (dec (s.drop i)).1 with
 | true => rw [if_pos rfl]; exact one_space s i w hi hl hS
 | false =>
  rw [if_neg (by simp)]
  cases hP1 : [(45 : UInt8), 45].isPrefixOf (s.drop i) with
  | true => rw [if_pos rfl]; exact one_line s i w hi hl hS hP1
  | false =>
   rw [if_neg (by simp)]
   cases hP2 : [(123 : UInt8), 45].isPrefixOf (s.drop i) with
   | true => rw [if_pos rfl, List.drop_drop, List.length_drop]; exact one_remark s i w hi hl hS hP1 hP2
   | false =>
    rw [if_neg (by simp)]
    cases hL : Lx.letterB (dec (s.drop i)).1 with
    | true => rw [if_pos rfl]; exact one_name s i w hi hl hS hP1 hP2 hL
    | false =>
     rw [if_neg (by simp)]
     cases hD : Lx.digitB (dec (s.drop i)).1 with
     | true => rw [if_pos rfl]; exact one_int s i w hi hl hS hP1 hP2 hL hD
     | false =>
      rw [if_neg (by simp)]
      by_cases hc : (dec (s.drop i)).1 = 34
      ·rw [if_pos hc, List.drop_drop]; exact one_text s i w hi hl hS hP1 hP2 hL hc
      ·rw [if_neg hc]; exact one_rest s i w hi hl hS hP1 hP2 hL hD hc
end
set_option maxHeartbeats 2000000 in
set_option maxRecDepth 100000 in
theorem rtokens_walk (s : Bs) (w : World) (hl : s.length ≤ 8388608) :
  Calls Tryz.prog 50 #[.string ⟨s.toArray⟩] w fun e w' => ∃ A c, e = .returned (.slice A (Lx.tokR 0 s).length c) ∧ Rd w' w'.heap.size 3 A (Lx.tokR 0 s).length (tksC (Lx.tokR 0 s)) ∧ Below w.heap.size w w' := by
 obtain ⟨i0, ji, jz0, jz1, jz2⟩ := info_parts infoRT
 generalize hR : Lx.tokR 0 s = R
 have HR := Lib.hid hR
 clear hR
 go_enter Tryz.func50, Tryz.ntmps50
 go_wp2_with fail
 go_loopw [3, 4] (fun v i wr => ∃ (k : Nat) (done : List Tk), i = .int .i64 k ∧ k ≤ s.length ∧ done.length ≤ k ∧ wr.ownsRow w.heap.size 124 3 v done.length (tksC done) ∧ Below w.heap.size w wr ∧ Hid (R = done ++ Lx.tokR k (s.drop k))) (fun _ i _ => s.length - (intOf i).toNat)
 case atStart => exact ⟨0, [], rfl, Nat.zero_le _, Nat.le_refl _, World.ownsRow_nil _ _ _ _, Below.refl _ _, by show _ = _; rw [← HR.out]; rfl⟩
 case round =>
  obtain ⟨k, done, rfl, hk, hdl, hown, hb, H⟩ := hrel
  have hbs := hb.size
  by_cases hlt : k < s.length
  ·have hne : s.drop k ≠ [] := by intro e; have := congrArg List.length e; simp at this; omega
   have hnx := rone_walk s k wr hlt (by omega)
   have hone := Lx.one_le (s.drop k) hne
   have Hs : Hid (R = (done ++ [((Lx.oneM (s.drop k)).1, k, (Lx.oneM (s.drop k)).2)]) ++ Lx.tokR (k + (Lx.oneM (s.drop k)).2) (s.drop (k + (Lx.oneM (s.drop k)).2))) := by
    show _ = _
    rw [H.out, Lx.tokR_cons k hne, List.drop_drop]; simp
   rw [List.length_drop] at hone
   generalize Lx.oneM (s.drop k) = X at *
   obtain ⟨a, n⟩ := X
   simp only at hone Hs
   have hnx : Calls Tryz.prog 87 _ wr fun e w' => e = .returned (.agg #[.int .i64 a, .int .i64 k, .int .i64 n]) ∧ Below wr.heap.size wr w' := hnx
   obtain ⟨o1, o2, o3, o4⟩ := hone
   have i0' : (0 : Int) ≤ (k : Int) := by omega
   have i1 : (k : Int) < (s.length : Int) := by omega
   clear hne H o3 o4
   go_wp2_with fail
   refine hnx.mono ?_
   clear hnx
   rintro e w2 ⟨rfl, hb2⟩
   have hb02 := hb.trans (hb2.mono hbs)
   have hbs2 := hb02.size
   have hown2 := own_of_block hown fun b hbk => hb2.block b (hown.lt b hbk).2
   obtain ⟨Av, cv, rfl⟩ := own_form hown2
   have hoA := (hown2.alloc (.cells #[.int .i64 a, .int .i64 k, .int .i64 n] 124)).alloc (.cells #[.int .i64 a, .int .i64 k, .int .i64 n] 124)
   have hbA : Below w.heap.size w ((w2.alloc (.cells #[.int .i64 a, .int .i64 k, .int .i64 n] 124)).alloc (.cells #[.int .i64 a, .int .i64 k, .int .i64 n] 124)) := (hb02.alloc hbs2 _).alloc (by simp; omega) _
   have hBT : Blk ((w2.alloc (.cells #[.int .i64 a, .int .i64 k, .int .i64 n] 124)).alloc (.cells #[.int .i64 a, .int .i64 k, .int .i64 n] 124)) w2.heap.size 124 #[.int .i64 a, .int .i64 k, .int .i64 n] := (Blk.new w2 _ _).alloc _
   have hne2 : some w2.heap.size ≠ (Value.slice Av done.length cv).ownBlock := fun e => by have := (hown2.lt _ e.symm).2; omega
   have hBN : ((w2.alloc (.cells #[.int .i64 a, .int .i64 k, .int .i64 n] 124)).alloc (.cells #[.int .i64 a, .int .i64 k, .int .i64 n] 124)).heap[w2.heap.size + 1]? = some (.cells #[.int .i64 a, .int .i64 k, .int .i64 n] 124 (0, 0)) := by
    have := heap_alloc_new (w2.alloc (.cells #[.int .i64 a, .int .i64 k, .int .i64 n] 124)) (.cells #[.int .i64 a, .int .i64 k, .int .i64 n] 124)
    simpa using this
   clear hown hb hbs hb2
   go_wp2_with (at_builtin; refine wpList_append_lies _ rfl _ _ 115 rfl w.heap.size 124 i0 _ 3 24 Tryz.underlying115 ji jz0 jz1 jz2 rfl (by omega) (.slice Av done.length cv) done.length (tksC done) rfl hoA ⟨w2.heap.size + 1, 0, none⟩ 1 1 [.int .i64 a, .int .i64 k, .int .i64 n] rfl rfl (World.news_of_block (cs := #[.int .i64 a, .int .i64 k, .int .i64 n]) (t := 124) (fr := (0, 0)) hBN) (by simp [Value.oneCell']) (by omega) (by unfold maxLen; omega) (by omega) (by simp; omega) _ rfl ?_; intro gg cap' w3 hown3 hgrow hat hlt3; have hB3 := hBT.grown hgrow hne2; have c2 := hB3.cell 2; simp at c2)
   go_roundw
   case rel => exact ⟨k + n, done ++ [(a, k, n)], by go_num, by omega, by simp; omega, by rw [tksC_snoc, List.length_append]; exact hown3, hbA.grown hgrow (by simp; omega) (fun g hg => (hown2.lt g hg).1), Hs.out⟩
   case measure => simp [intOf]; omega
  ·obtain rfl : k = s.length := by omega
   have hRd : Hid (R = done) := by show _ = _; rw [H.out, List.drop_length, Lx.tokR_nil, List.append_nil]
   obtain ⟨Av, cv, rfl, hle, hvn⟩ := own_cap hown
   have hrd := Rd.of_own hown
   clear H
   go_wp2_with fail
   go_ret
   rw [hRd.out]
   exact ⟨Av, cv, rfl, hrd, hb⟩
theorem Rd.tk {w : World} {B : Nat} {A : Option Addr} {l : List Tk} {k : Nat} (h : Rd w B 3 A l.length (tksC l)) (hk : k < l.length) :
  ∃ b o, A = some ⟨b, o, none⟩ ∧ b < B ∧ w.cell? ⟨b, o + k * 3, none⟩ = some (.int .i64 l[k].1) ∧ w.cell? ⟨b, o + k * 3 + 1, none⟩ = some (.int .i64 l[k].2.1) ∧ w.cell? ⟨b, o + k * 3 + 2, none⟩ = some (.int .i64 l[k].2.2) := by
 obtain ⟨b, o, e, hb, hc⟩ := h.2 (by omega)
 refine ⟨b, o, e, hb, ?_, ?_, ?_⟩
 ·have := hc (k * 3 + 0) _ (tksC_get l k 0 (by omega) hk); simpa [Nat.add_assoc] using this
 ·have := hc (k * 3 + 1) _ (tksC_get l k 1 (by omega) hk); simpa [Nat.add_assoc] using this
 ·have := hc (k * 3 + 2) _ (tksC_get l k 2 (by omega) hk); simpa [Nat.add_assoc] using this
theorem Lx.tokR_len : ∀ (n a : Nat) (l : List UInt8), l.length ≤ n → (Lx.tokR a l).length ≤ l.length
 | 0, a, l, h => by
  obtain rfl : l = [] := List.eq_nil_of_length_eq_zero (by omega)
  rw [Lx.tokR_nil]; exact Nat.le_refl _
 | n + 1, a, l, h => by
  by_cases hne : l = []
  ·subst hne; rw [Lx.tokR_nil]; exact Nat.le_refl _
  ·have h1 := Lx.one_le l hne
   rw [Lx.tokR_cons a hne, List.length_cons]
   have := Lx.tokR_len n (a + (Lx.oneM l).2) (l.drop (Lx.oneM l).2) (by rw [List.length_drop]; omega)
   rw [List.length_drop] at this
   omega
theorem now_data (s ins : Bs) (frm til : Nat) (_h2 : til ≤ s.length) : ((⟨s.toArray⟩ : ByteArray).extract 0 frm ++ (⟨ins.toArray⟩ : ByteArray) ++ (⟨s.toArray⟩ : ByteArray).extract til s.length) = (⟨(Lx.nowM s frm til ins).toArray⟩ : ByteArray) := by
 rw [← Lib.mk_data ((⟨s.toArray⟩ : ByteArray).extract 0 frm ++ (⟨ins.toArray⟩ : ByteArray) ++ (⟨s.toArray⟩ : ByteArray).extract til s.length)]
 congr 2
 rw [ByteArray.data_append, ByteArray.data_append, Array.toList_append, Array.toList_append, ext_data, ext_data]
 unfold Lx.nowM
 simp [List.take_of_length_le]
set_option maxHeartbeats 2000000 in
set_option maxRecDepth 100000 in
theorem stay_walk (s : Bs) (frm til : Nat) (ins : Bs) (w : World) (h1 : frm ≤ til) (h2 : til ≤ s.length) (hl : s.length + ins.length ≤ 4194304) :
  Calls Tryz.prog 57 #[.string ⟨s.toArray⟩, .int .i64 frm, .int .i64 til, .string ⟨ins.toArray⟩] w fun e w' =>
   e = .returned (.tuple #[.int .i64 (Lx.headM (Lx.tokR 0 s) frm), .int .i64 ((Lx.tokR 0 s).length - Lx.behindM s frm til ins), .int .i64 (Lx.anewM s frm til ins).length]) ∧ Below w.heap.size w w' := by
 have hk := rtokens_walk s w (by omega)
 have hTl := Lx.tokR_length 0 s
 have hn := now_data s ins frm til h2
 have hnl : Hid ((Lx.nowM s frm til ins).length = frm + ins.length + (s.length - til)) := Lx.now_len s frm til ins h1 h2
 have hnz : (Lx.nowM s frm til ins).length ≤ 4194304 := by rw [hnl.out]; omega
 have hor := fun (k : Nat) (h : k < (Lx.nowM s frm til ins).length) w => rone_walk (Lx.nowM s frm til ins) k w h (by omega)
 have Hor := Lib.hid hor
 clear hor
 have HG : Hid (Lx.nowM s frm til ins = Lx.nowM s frm til ins) := rfl
 generalize hnow : Lx.nowM s frm til ins = now at hn hnl hnz Hor
 have Hnow := Lib.hid hnow
 clear hnow HG
 have H1 := Lib.hid h1
 have H2 := Lib.hid h2
 have Hh : Hid (∀ k, k ≤ (Lx.tokR 0 s).length → (∀ j (hj : j < (Lx.tokR 0 s).length), j < k → (Lx.tokR 0 s)[j].2.1 + (Lx.tokR 0 s)[j].2.2 + 4 ≤ frm) → (∀ h : k < (Lx.tokR 0 s).length, ¬ (Lx.tokR 0 s)[k].2.1 + (Lx.tokR 0 s)[k].2.2 + 4 ≤ frm) → Lx.headM (Lx.tokR 0 s) frm = k) := Lx.headM_eq (Lx.tokR 0 s) frm
 have Hz : Hid (Lx.headM (Lx.tokR 0 s) frm = 0 → Lx.at0M s frm = 0) := Lx.at0_zero s frm
 have Hs : Hid (∀ k, Lx.headM (Lx.tokR 0 s) frm = k + 1 → ∃ hk : k < (Lx.tokR 0 s).length, Lx.at0M s frm = (Lx.tokR 0 s)[k].2.1 + (Lx.tokR 0 s)[k].2.2) := Lx.at0_succ s frm
 have hhl := Lx.headM_le (Lx.tokR 0 s) frm
 have Ha0 : Hid (Lx.at0M s frm ≤ now.length) := by
  show _ ≤ _
  have := Lx.at0_le s frm (by omega) til ins
  have := hnl.out
  omega
 have HN0 : Hid (Lx.anewM s frm til ins = [] ++ Lx.newR (Lx.tokR 0 s) (frm + ins.length) til (Lx.at0M s frm) (now.drop (Lx.at0M s frm))) := by
  show _ = _
  rw [List.nil_append, ← Hnow.out]; rfl
 have Htk : Hid (∀ j (hj : j < (Lx.tokR 0 s).length), (Lx.tokR 0 s)[j].2.1 + (Lx.tokR 0 s)[j].2.2 ≤ s.length) := Lx.tok_end s
 generalize hH : Lx.headM (Lx.tokR 0 s) frm = H at *
 generalize hA0 : Lx.at0M s frm = a0 at *
 have HA0 := Lib.hid hA0
 clear hH hA0
 go_enter Tryz.func57, Tryz.ntmps57
 go_wp2_with fail
 refine hk.mono ?_
 rintro e w1 ⟨A, c, rfl, hrd, hb1⟩
 clear hk
 generalize hT : Lx.tokR 0 s = T at *
 have HT := Lib.hid hT
 clear hT
 have i1 : (0 : Int) ≤ (frm : Int) := by omega
 have i2 : (frm : Int) ≤ (s.length : Int) := by omega
 have i3 : (0 : Int) ≤ (til : Int) := by omega
 have i4 : (til : Int) ≤ (s.length : Int) := by omega
 go_wp2_with fail
 go_quiet (fail)
 clear hn
 go_upto_block 0 with fail
 go_cut [14] (fun v wc => v = .int .i64 H ∧ Below w1.heap.size w1 wc)
 case first =>
  go_wp2_with fail
  go_loopw [14] (fun i wr => ∃ k : Nat, i = .int .i64 k ∧ k ≤ T.length ∧ Below w1.heap.size w1 wr ∧ Hid (∀ j (hj : j < T.length), j < k → T[j].2.1 + T[j].2.2 + 4 ≤ frm)) (fun i _ => T.length - (intOf i).toNat)
  case atStart => exact ⟨0, rfl, Nat.zero_le _, below_drewN (Below.refl _ _) _, fun _ _ h => by omega⟩
  case round =>
   obtain ⟨k, rfl, hk, hb, HK⟩ := hrel
   have j1 : (0 : Int) ≤ (k : Int) := by omega
   by_cases hlt : k < T.length
   ·obtain ⟨b, o, rfl, hbB, c0, c1, c2⟩ := Rd.tk (hrd.below hb) hlt
    have htk := Htk.out k hlt
    have j2 : (k : Int) < (T.length : Int) := by omega
    have d1 : decide (k < T.length) = true := by simp [hlt]
    by_cases hc : T[k].2.1 + T[k].2.2 + 4 ≤ frm
    ·have HK2 : Hid (∀ j (hj : j < T.length), j < k + 1 → T[j].2.1 + T[j].2.2 + 4 ≤ frm) := fun j hj hjk => by
      by_cases he : j = k
      ·subst he; exact hc
      ·exact HK.out j hj (by omega)
     generalize T[k] = x at *
     have d2 : decide ((x.2.1 : Int) + x.2.2 + 4 ≤ frm) = true := by simp; omega
     go_wp2_with fail
     go_quiet (fail)
     go_wp2_with fail
     go_roundw
     case rel => exact ⟨k + 1, by go_num, by omega, below_drewN hb _, HK2.out⟩
     case measure => simp [intOf]; omega
    ·have HH := Hh.out k (by omega) HK.out (fun _ => hc)
     generalize T[k] = x at *
     have d2 : decide ((x.2.1 : Int) + x.2.2 + 4 ≤ frm) = false := by simp; omega
     have HH := Lib.hid HH
     go_wp2_with fail
     go_quiet (fail)
     go_wp2_with fail
     go_meet
     exact ⟨by rw [HH.out], below_drewN hb _⟩
   ·have HH := Lib.hid (Hh.out k hk HK.out (fun h => absurd h hlt))
    have d1 : decide (k < T.length) = false := by simp; omega
    go_wp2_with fail
    go_quiet (fail)
    go_wp2_with fail
    go_meet
    exact ⟨by rw [HH.out], below_drewN hb _⟩
 case rest =>
  obtain ⟨rfl, hb⟩ := hcut
  go_upto_if 58 with fail
  go_cut [15] (fun v wc => v = .int .i64 a0 ∧ Below w1.heap.size w1 wc)
  case first =>
   by_cases h0 : H = 0
   ·subst h0
    have Ha := Lib.hid (Hz.out rfl)
    go_wp2_with fail
    go_meet
    exact ⟨by rw [Ha.out]; rfl, hb⟩
   ·obtain ⟨h, rfl⟩ : ∃ h, H = h + 1 := ⟨H - 1, by omega⟩
    obtain ⟨hlt, ha⟩ := Hs.out h rfl
    obtain ⟨b, o, rfl, hbB, c0, c1, c2⟩ := Rd.tk (hrd.below hb) hlt
    have htk := Htk.out h hlt
    have Ha := Lib.hid ha
    clear ha
    generalize T[h] = x at *
    have j1 : (0 : Int) ≤ (h : Int) := by omega
    have j2 : (h : Int) < (T.length : Int) := by omega
    go_wp2_with fail
    go_quiet (fail)
    go_wp2_with fail
    go_meet
    exact ⟨by rw [Ha.out]; rfl, below_drewN hb _⟩
  case rest =>
   clear hb
   obtain ⟨rfl, hb⟩ := hcut
   clear Hh Hz Hs
   go_wp2_with fail
   go_loopw [15, 16] (fun av nv wr => ∃ (a : Nat) (acc : List Tk), av = .int .i64 a ∧ nv = .int .i64 acc.length ∧ a ≤ now.length ∧ acc.length ≤ a ∧ Below w1.heap.size w1 wr ∧ Hid (Lx.anewM s frm til ins = acc ++ Lx.newR T (frm + ins.length) til a (now.drop a)) ∧ Hid (Lx.endM a0 acc = a)) (fun av _ _ => now.length - (intOf av).toNat)
   case atStart => exact ⟨a0, [], rfl, rfl, Ha0.out, Nat.zero_le _, hb, HN0.out, rfl⟩
   case round =>
    clear hb
    obtain ⟨a, acc, rfl, rfl, ha, hacc, hb, HA, HE⟩ := hrel
    have j1 : (0 : Int) ≤ (a : Int) := by omega
    by_cases hlt : a < now.length
    ·have j2 : (a : Int) < (now.length : Int) := by omega
     go_upto_region 12 with fail
     go_cut [88] (fun v wc => v = .bool (decide (frm + ins.length ≤ a)) ∧ Below w1.heap.size w1 wc)
     case first =>
      by_cases hlim : frm + ins.length ≤ a
      ·have d1 : decide ((frm : Int) + ins.length ≤ a) = true := by simp; omega
       have d2 : decide ((til : Int) ≤ (a : Int) - ((now.length : Int) - s.length)) = true := by have := hnl.out; simp; omega
       go_wp2_with fail
       go_meet
       exact ⟨by rw [decide_eq_true hlim], hb⟩
      ·have d1 : decide ((frm : Int) + ins.length ≤ a) = false := by simp; omega
       go_wp2_with fail
       go_meet
       exact ⟨by rw [decide_eq_false hlim], hb⟩
     case rest =>
      clear hb
      obtain ⟨rfl, hb⟩ := hcut
      go_upto_if 88 with fail
      go_cut [] (fun wc => Below w1.heap.size w1 wc ∧ Hid (Lx.stopB T (frm + ins.length) til a = false))
      case first =>
       by_cases hlim : frm + ins.length ≤ a
       ·have d1 : decide (frm + ins.length ≤ a) = true := by simp; omega
        have HL := Lib.hid hlim
        clear hlim
        go_wp2_with fail
        go_loopw [17] (fun kv wr => ∃ k : Nat, kv = .int .i64 k ∧ k ≤ T.length ∧ Below w1.heap.size w1 wr ∧ Hid (∀ j (hj : j < T.length), j < k → T[j].2.1 + (frm + ins.length) ≠ a + til)) (fun kv _ => T.length - (intOf kv).toNat)
        case atStart => exact ⟨0, rfl, Nat.zero_le _, hb, fun _ _ h => by omega⟩
        case round =>
         clear hb
         obtain ⟨k, rfl, hk, hb, HK⟩ := hrel
         have k1 : (0 : Int) ≤ (k : Int) := by omega
         by_cases hkt : k < T.length
         ·obtain ⟨b, o, rfl, hbB, c0, c1, c2⟩ := Rd.tk (hrd.below hb) hkt
          have htk := Htk.out k hkt
          have k2 : (k : Int) < (T.length : Int) := by omega
          by_cases he : T[k].2.1 + (frm + ins.length) = a + til
          ·have HX := Lx.stay_stop (s := s) (frm := frm) (til := til) (ins := ins) (at_ := a) (k := k) (acc := acc) (by rw [Hnow.out, HT.out]; exact HA.out) (by rw [HA0.out]; exact HE.out) HL.out (by rw [HT.out]; exact hkt) (by simp only [HT.out]; exact he)
           have HX := Lib.hid HX
           generalize T[k] = x at *
           have e1 : ((x.2.1 : Int) == (a : Int) - ((now.length : Int) - s.length)) = true := by have := hnl.out; have := H2.out; simp; omega
           clear he
           go_wp2_with fail
           go_ret3
           refine ⟨?_, hb1.trans (hb.mono hb1.size)⟩
           rw [HX.out.1, HX.out.2, HT.out]
           rfl
          ·have HK2 : Hid (∀ j (hj : j < T.length), j < k + 1 → T[j].2.1 + (frm + ins.length) ≠ a + til) := fun j hj hjk => by
            by_cases he2 : j = k
            ·subst he2; exact he
            ·exact HK.out j hj (by omega)
           generalize T[k] = x at *
           have e1 : ((x.2.1 : Int) == (a : Int) - ((now.length : Int) - s.length)) = false := by have := hnl.out; have := H2.out; simp; omega
           clear he
           go_wp2_with fail
           go_roundw
           case rel => exact ⟨k + 1, by go_num, by omega, hb, HK2.out⟩
           case measure => simp [intOf]; omega
         ·obtain rfl : k = T.length := by omega
          have HX : Hid (Lx.stopB T (frm + ins.length) til a = false) := by
           have := Lx.stay_go (s := s) (frm := frm) (til := til) (ins := ins) (at_ := a) (by rw [HT.out]; exact fun j hj => HK.out j hj hj)
           rw [HT.out] at this
           exact this
          go_wp2_with fail
          go_meet
          exact ⟨hb, HX.out⟩
       ·have d1 : decide (frm + ins.length ≤ a) = false := by simp; omega
        have HX : Hid (Lx.stopB T (frm + ins.length) til a = false) := by
         have := Lx.Kp.go_low (s := s) (frm := frm) (til := til) (ins := ins) hlim
         rw [HT.out] at this
         exact this
        go_wp2_with fail
        go_meet
        exact ⟨hb, HX.out⟩
      case rest =>
       clear hb
       obtain ⟨hb, HS⟩ := hcut
       have hne : now.drop a ≠ [] := by intro e; have := congrArg List.length e; rw [List.length_drop, List.length_nil] at this; omega
       have hone := Lx.one_le (now.drop a) hne
       rw [List.length_drop] at hone
       have HA2 : Hid (Lx.anewM s frm til ins = (acc ++ [((Lx.oneM (now.drop a)).1, a, (Lx.oneM (now.drop a)).2)]) ++ Lx.newR T (frm + ins.length) til (a + (Lx.oneM (now.drop a)).2) (now.drop (a + (Lx.oneM (now.drop a)).2))) := by
        show _ = _
        rw [HA.out, Lx.newR_go _ _ _ _ HS.out hne, List.drop_drop]; simp
       have hcall := Hor.out a hlt wc
       generalize Lx.oneM (now.drop a) = X at *
       obtain ⟨x1, x2⟩ := X
       simp only at hone HA2
       have hcall : Calls Tryz.prog 87 _ wc fun e w' => e = .returned (.agg #[.int .i64 x1, .int .i64 a, .int .i64 x2]) ∧ Below wc.heap.size wc w' := hcall
       obtain ⟨o1, o2, o3, o4⟩ := hone
       clear hne HA HE HS o3 o4
       go_wp2_with fail
       refine hcall.mono ?_
       clear hcall
       rintro e w2 ⟨rfl, hb2⟩
       have hb12 := hb.trans (hb2.mono hb.size)
       have hbA : Below w1.heap.size w1 (w2.alloc (.cells #[.int .i64 x1, .int .i64 a, .int .i64 x2] 124)) := hb12.alloc hb12.size _
       go_wp2_with fail
       go_roundw
       case rel => exact ⟨a + x2, acc ++ [(x1, a, x2)], by go_num, by simp, by omega, by simp; omega, hbA, HA2.out, by show _ = _; rw [Lx.endM_snoc]⟩
       case measure => simp [intOf]; omega
    ·obtain rfl : a = now.length := by omega
     have HX := Lx.stay_end (s := s) (frm := frm) (til := til) (ins := ins) (at_ := now.length) (acc := acc) (by rw [Hnow.out, HT.out]; exact HA.out) (by rw [HA0.out]; exact HE.out) H1.out H2.out (by rw [Hnow.out])
     rw [HT.out] at HX
     have HX := Lib.hid HX
     clear HA HE
     go_wp2_with fail
     go_ret3
     refine ⟨?_, hb1.trans (hb.mono hb1.size)⟩
     rw [HX.out.1, HX.out.2, HT.out]
     simp
end Go.Proofs.YtalklmeejdmifaaGreatDoor
