/-
  JOINED of the texts UD UB UE UF
-/
import Derived.Test.YtalklmeejdmifaaGreatDoorJam
namespace Go.Proofs.YtalklmeejdmifaaGreatDoor
open Go.RowKit
theorem esc_head (s : Bs) (i : Nat) (h : i + 1 < s.length) : Lx.escM (s.drop (i + 1)) = if s[i + 1] = 110 then some (10, 1) else if s[i + 1] = 116 then some (9, 1) else if s[i + 1] = 34 ∨ s[i + 1] = 92 then some (s[i + 1].toNat, 1) else if s[i + 1] = 117 then (Lx.codeM (s.drop (i + 2))).map fun x => (x.1, x.2 + 1) else none := by
 rw [List.drop_eq_getElem_cons h]; rfl
theorem byte_of {s : Bs} {k : Nat} (h : k < s.length) {a : UInt8} (e : s[k] = a) : (((⟨s.toArray⟩ : ByteArray)[k]'(by rw [mk_size]; exact h)).toNat : Int) = (a.toNat : Int) := by
 rw [show ((⟨s.toArray⟩ : ByteArray)[k]'(by rw [mk_size]; exact h)).toNat = s[k].toNat from rfl, e]
set_option maxHeartbeats 2000000 in
set_option maxRecDepth 100000 in
theorem resc_walk (s : Bs) (i : Nat) (w : World) (hi : i < s.length) (hl : s.length ≤ 100000000) :
  Calls Tryz.prog 160 #[.string ⟨s.toArray⟩, .int .i64 i] w fun e w' => e = .returned (rescV (Lx.escM (s.drop (i + 1)))) ∧ w' = w := by
 have j0 : (0 : Int) ≤ (i : Int) := by omega
 by_cases h1 : i + 1 < s.length
 ·have j3 : (i : Int) + 1 < (s.length : Int) := by omega
  have j1 : ¬ (s.length : Int) ≤ (i : Int) + 1 := by omega
  rw [esc_head s i h1]
  have en := bk_eq s (i + 1) h1 110
  have et := bk_eq s (i + 1) h1 116
  have eq := bk_eq s (i + 1) h1 34
  have eb := bk_eq s (i + 1) h1 92
  have eu := bk_eq s (i + 1) h1 117
  rw [show (((117 : UInt8).toNat : Nat) : Int) = 117 from rfl] at eu
  rw [show (((110 : UInt8).toNat : Nat) : Int) = 110 from rfl] at en
  rw [show (((116 : UInt8).toNat : Nat) : Int) = 116 from rfl] at et
  rw [show (((34 : UInt8).toNat : Nat) : Int) = 34 from rfl] at eq
  rw [show (((92 : UInt8).toNat : Nat) : Int) = 92 from rfl] at eb
  have hby : (((⟨s.toArray⟩ : ByteArray)[i + 1]'(by rw [mk_size]; exact h1)).toNat : Int) < 256 := by
   have := UInt8.toNat_lt ((⟨s.toArray⟩ : ByteArray)[i + 1]'(by rw [mk_size]; exact h1))
   omega
  by_cases g1 : s[i + 1] = 110
  ·rw [if_pos g1]
   rw [decide_eq_true g1] at en
   clear et eq eb eu g1
   go_enter Tryz.func160, Tryz.ntmps160
   go_wp2_with fail
   go_ret2
   exact ⟨rfl, rfl⟩
  ·rw [if_neg g1]
   rw [decide_eq_false g1] at en
   by_cases g2 : s[i + 1] = 116
   ·rw [if_pos g2]
    rw [decide_eq_true g2] at et
    clear eq eb eu g1 g2
    go_enter Tryz.func160, Tryz.ntmps160
    go_wp2_with fail
    go_ret2
    exact ⟨rfl, rfl⟩
   ·rw [if_neg g2]
    rw [decide_eq_false g2] at et
    by_cases g3 : s[i + 1] = 34
    ·rw [if_pos (.inl g3)]
     rw [decide_eq_true g3] at eq
     have hv := Lib.hid (byte_of h1 g3)
     rw [g3]
     clear eb eu g1 g2 g3
     go_enter Tryz.func160, Tryz.ntmps160
     go_wp2_with fail
     go_ret2
     exact ⟨by rw [hv.out]; rfl, rfl⟩
    ·rw [decide_eq_false g3] at eq
     by_cases g4 : s[i + 1] = 92
     ·rw [if_pos (.inr g4)]
      rw [decide_eq_true g4] at eb
      have hv := Lib.hid (byte_of h1 g4)
      rw [g4]
      clear eu g1 g2 g3 g4
      go_enter Tryz.func160, Tryz.ntmps160
      go_wp2_with fail
      go_ret2
      exact ⟨by rw [hv.out]; rfl, rfl⟩
     ·rw [decide_eq_false g4] at eb
      rw [if_neg (by rintro (h | h); exact g3 h; exact g4 h)]
      by_cases g5 : s[i + 1] = 117
      ·rw [if_pos g5]
       by_cases h2 : i + 2 < s.length
       ·by_cases g6 : s[i + 2] = 123
        ·have := esc_code_walk s i w h2 g5 g6 hl
         rw [List.drop_eq_getElem_cons h2, g6]
         exact this
        ·rw [Lx.code_no (s.drop (i + 2)) (by rw [List.drop_eq_getElem_cons h2]; intro e; injection e with e; exact g6 e)]
         have eo := bk_eq s (i + 2) h2 123
         rw [show (((123 : UInt8).toNat : Nat) : Int) = 123 from rfl, decide_eq_false g6] at eo
         rw [decide_eq_true g5] at eu
         have nu : ((((⟨s.toArray⟩ : ByteArray)[i + 1]'(by rw [mk_size]; omega)).toNat : Int) != 117) = false := by rw [bne, eu]; rfl
         have no : ((((⟨s.toArray⟩ : ByteArray)[i + 2]'(by rw [mk_size]; omega)).toNat : Int) != 123) = true := by rw [bne, eo]; rfl
         have j4 : (i : Int) + 2 < (s.length : Int) := by omega
         have j2 : ¬ (s.length : Int) ≤ (i : Int) + 2 := by omega
         clear g1 g2 g3 g4 g5 g6 eo eu
         go_enter Tryz.func160, Tryz.ntmps160
         go_wp2_with fail
         go_ret2
         exact ⟨rfl, rfl⟩
       ·rw [Lx.code_no (s.drop (i + 2)) (by rw [List.drop_of_length_le (by omega)]; simp)]
        rw [decide_eq_true g5] at eu
        have nu : ((((⟨s.toArray⟩ : ByteArray)[i + 1]'(by rw [mk_size]; omega)).toNat : Int) != 117) = false := by rw [bne, eu]; rfl
        have j2 : (s.length : Int) ≤ (i : Int) + 2 := by omega
        clear g1 g2 g3 g4 g5 eu
        go_enter Tryz.func160, Tryz.ntmps160
        go_wp2_with fail
        go_ret2
        exact ⟨rfl, rfl⟩
      ·rw [if_neg g5]
       rw [decide_eq_false g5] at eu
       have nu : ((((⟨s.toArray⟩ : ByteArray)[i + 1]'(by rw [mk_size]; omega)).toNat : Int) != 117) = true := by rw [bne, eu]; rfl
       clear g1 g2 g3 g4 g5 eu
       go_enter Tryz.func160, Tryz.ntmps160
       go_wp2_with fail
       go_ret2
       exact ⟨rfl, rfl⟩
 ·rw [List.drop_of_length_le (by omega)]
  have j1 : (s.length : Int) ≤ (i : Int) + 1 := by omega
  clear h1
  go_enter Tryz.func160, Tryz.ntmps160
  go_wp2_with fail
  go_ret2
  exact ⟨rfl, rfl⟩
theorem rune_at (s : Bs) (k : Nat) (hk : k < s.length) (w : World) : Calls Tryz.prog 116 #[.string ((⟨s.toArray⟩ : ByteArray).extract k s.length)] w fun e w' => e = .returned (.tuple #[.int .i64 (dec (s.drop k)).1, .int .i64 (dec (s.drop k)).2]) ∧ w' = w := by
 rw [show Value.string ((⟨s.toArray⟩ : ByteArray).extract k s.length) = .string ⟨(s.drop k).toArray⟩ from ext_drop s k]
 refine (rrune_walk ⟨(s.drop k).toArray⟩ w (by rw [mk_size, List.length_drop]; omega)).mono fun e w' h => ⟨h.1, h.2.symm⟩
def kindT : Bool → Int
 | true => 6
 | false => 8
def quotV (i : Nat) (X : Nat × Bool × Bool) : Value := .tuple #[.int .i64 ((i + 1 + X.1 : Nat) : Int), .int .i64 (kindT (X.2.1 && X.2.2))]
set_option maxHeartbeats 4000000 in
set_option maxRecDepth 100000 in
theorem quoted_walk (s : Bs) (i : Nat) (w : World) (hi : i < s.length) (hl : s.length ≤ 100000000) :
  Calls Tryz.prog 127 #[.string ⟨s.toArray⟩, .int .i64 i] w fun e w' => e = .returned (quotV i (Lx.textM (s.drop (i + 1)))) ∧ w' = w := by
 generalize hX : Lx.textM (s.drop (i + 1)) = X
 have HX : Hid (X = Lx.textR true (s.drop (i + 1))) := by show _ = _; rw [← hX]; rfl
 clear hX
 go_enter Tryz.func127, Tryz.ntmps127
 go_wp2_with fail
 go_loop [1, 6] (fun iv kv => ∃ (k : Nat) (b : Bool), iv = .int .i64 k ∧ kv = .int .i64 (kindT b) ∧ i + 1 ≤ k ∧ k ≤ s.length ∧ Hid (X = ((Lx.textR b (s.drop k)).1 + (k - (i + 1)), (Lx.textR b (s.drop k)).2))) (fun iv _ => s.length - (intOf iv).toNat)
 case atStart => exact ⟨i + 1, true, by go_num, rfl, by omega, by omega, by show _ = _; rw [HX.out]; simp⟩
 case round =>
  obtain ⟨k, b, rfl, rfl, hk1, hk2, H⟩ := hrel
  have i0 : (0 : Int) ≤ (k : Int) := by omega
  by_cases hlt : k < s.length
  ·have i1 : (k : Int) < (s.length : Int) := by omega
   have hdk : s.drop k = s[k] :: s.drop (k + 1) := List.drop_eq_getElem_cons hlt
   have e10 := bk_eq s k hlt 10
   have e34 := bk_eq s k hlt 34
   have e92 := bk_eq s k hlt 92
   rw [show (((10 : UInt8).toNat : Nat) : Int) = 10 from rfl] at e10
   rw [show (((34 : UInt8).toNat : Nat) : Int) = 34 from rfl] at e34
   rw [show (((92 : UInt8).toNat : Nat) : Int) = 92 from rfl] at e92
   have Hd := Lib.hid hdk
   clear hdk
   by_cases g1 : s[k] = 10
   ·rw [decide_eq_true g1] at e10
    have n10 : ((((⟨s.toArray⟩ : ByteArray)[k]'(by rw [mk_size]; exact hlt)).toNat : Int) != 10) = false := by rw [bne, e10]; rfl
    have hE : Hid (X = (0 + (k - (i + 1)), false, b)) := by
     show _ = _
     have h2 := H.out
     rw [Hd.out, g1, Lx.textR_end] at h2
     exact h2
    clear e34 e92 e10 g1 H HX
    go_wp2_with fail
    go_ret2
    rw [hE.out]
    refine ⟨?_, rfl⟩
    show _ = Ending.returned (.tuple #[.int .i64 ((i + 1 + (0 + (k - (i + 1))) : Nat) : Int), .int .i64 8])
    rw [show ((i + 1 + (0 + (k - (i + 1))) : Nat) : Int) = (k : Int) by omega]; rfl
   ·rw [decide_eq_false g1] at e10
    have n10 : ((((⟨s.toArray⟩ : ByteArray)[k]'(by rw [mk_size]; exact hlt)).toNat : Int) != 10) = true := by rw [bne, e10]; rfl
    by_cases g2 : s[k] = 34
    ·rw [decide_eq_true g2] at e34
     have hE : Hid (X = (1 + (k - (i + 1)), true, b)) := by
      show _ = _
      have h2 := H.out
      rw [Hd.out, g2, Lx.textR_shut] at h2
      exact h2
     clear e92 e10 g1 g2 H HX
     go_wp2_with fail
     go_ret2
     rw [hE.out]
     refine ⟨?_, rfl⟩
     show _ = Ending.returned (.tuple #[.int .i64 ((i + 1 + (1 + (k - (i + 1))) : Nat) : Int), .int .i64 (kindT (true && b))])
     rw [show ((i + 1 + (1 + (k - (i + 1))) : Nat) : Int) = (k : Int) + 1 by omega]; rfl
    ·rw [decide_eq_false g2] at e34
     by_cases g3 : s[k] = 92
     ·rw [decide_eq_true g3] at e92
      have hes := resc_walk s k w hlt hl
      cases hesc : Lx.escM (s.drop (k + 1)) with
      | some x =>
       obtain ⟨c, n⟩ := x
       obtain ⟨q1, q2, _⟩ := Lx.esc_le _ _ _ hesc
       rw [List.length_drop] at q2
       have hE : Hid (X = ((Lx.textR b (s.drop (k + 1 + n))).1 + (k + 1 + n - (i + 1)), (Lx.textR b (s.drop (k + 1 + n))).2)) := by
        show _ = _
        have h2 := H.out
        rw [Hd.out, g3, Lx.textR_esc b _ c n hesc, List.drop_drop] at h2
        rw [h2]
        refine Prod.ext ?_ rfl
        simp only
        omega
       rw [hesc] at hes
       have hes : Calls Tryz.prog 160 _ w fun e w' => e = .returned (.tuple #[.int .i64 c, .int .i64 ((n + 1 : Nat) : Int)]) ∧ w' = w := hes
       have n0 : (0 : Int) < ((n + 1 : Nat) : Int) := by omega
       clear e10 g1 g2 g3 H HX hesc Hd
       go_wp2_with fail
       refine hes.mono ?_
       clear hes
       rintro e w2 ⟨rfl, rfl⟩
       go_wp2_with fail
       go_round
       case rel => exact ⟨k + 1 + n, b, by congr 1; omega, rfl, by omega, by omega, hE⟩
       case measure => simp [intOf]; omega
      | none =>
       rw [hesc] at hes
       have hes : Calls Tryz.prog 160 _ w fun e w' => e = .returned (.tuple #[.int .i64 0, .int .i64 0]) ∧ w' = w := hes
       have h2 := H.out
       rw [Hd.out, g3, Lx.textR_bad b _ hesc _ rfl] at h2
       by_cases hend : k + 1 < s.length
       ·have hne : s.drop (k + 1) ≠ [] := by intro e; have := congrArg List.length e; simp at this; omega
        have hd := fun w => rune_at s (k + 1) hend w
        have hsz := (dec_size (s.drop (k + 1))).1
        have hle := dec_le (s.drop (k + 1)) hne
        rw [List.length_drop] at hle
        have hby : byteAt (s.drop (k + 1)) 0 = s[k + 1].toNat := by
         unfold byteAt
         rw [List.getElem?_drop]
         show (s[k + 1]?.getD 0).toNat = _
         rw [List.getElem?_eq_getElem hend]; rfl
        have x10 := bk_eq s (k + 1) hend 10
        rw [show (((10 : UInt8).toNat : Nat) : Int) = 10 from rfl] at x10
        have j2 : (k : Int) + 1 < (s.length : Int) := by omega
        by_cases q10 : s[k + 1] = 10
        ·rw [decide_eq_true q10] at x10
         rw [if_pos (.inr (by rw [hby, q10]; rfl)), List.drop_zero, List.drop_eq_getElem_cons hend, q10, Lx.textR_end] at h2
         have hE : Hid (X = (0 + (1 + 0) + (k - (i + 1)), false, false)) := h2
         clear e10 g1 g2 g3 H HX hesc Hd h2 hle hby q10 hne hd hsz
         go_wp2_with fail
         refine hes.mono ?_
         clear hes
         rintro e w2 ⟨rfl, rfl⟩
         go_wp2_with fail
         go_ret2
         rw [hE.out]
         refine ⟨?_, rfl⟩
         show _ = Ending.returned (.tuple #[.int .i64 ((i + 1 + (0 + (1 + 0) + (k - (i + 1))) : Nat) : Int), .int .i64 8])
         rw [show ((i + 1 + (0 + (1 + 0) + (k - (i + 1))) : Nat) : Int) = (k : Int) + 1 by omega]; rfl
        ·rw [decide_eq_false q10] at x10
         rw [if_neg (by
          rintro (h | h)
          ·exact hne (List.isEmpty_iff.1 h)
          ·rw [hby] at h; exact q10 (UInt8.toNat_inj.1 (show s[k + 1].toNat = 10 from h))), List.drop_drop] at h2
         have hE : Hid (X = ((Lx.textR false (s.drop (k + 1 + (dec (s.drop (k + 1))).2))).1 + (k + 1 + (dec (s.drop (k + 1))).2 - (i + 1)), (Lx.textR false (s.drop (k + 1 + (dec (s.drop (k + 1))).2))).2)) := by
          show _ = _
          rw [h2]
          refine Prod.ext ?_ rfl
          simp only
          omega
         generalize dec (s.drop (k + 1)) = D at *
         obtain ⟨c, z⟩ := D
         simp only at hd hsz hle hE
         have Hdd := Lib.hid hd
         clear e10 g1 g2 g3 H HX hesc Hd h2 hby q10 hne hd
         go_wp2_with fail
         refine hes.mono ?_
         clear hes
         rintro e w2 ⟨rfl, rfl⟩
         go_wp2_with fail
         refine (Hdd.out _).mono ?_
         clear Hdd
         rintro e w3 ⟨rfl, rfl⟩
         go_wp2_with fail
         go_round
         case rel => exact ⟨k + 1 + z, false, by go_num, rfl, by omega, by omega, hE⟩
         case measure => simp [intOf]; omega
       ·have he0 : s.drop (k + 1) = [] := List.drop_of_length_le (by omega)
        rw [he0, if_pos (.inl rfl), List.drop_nil, Lx.textR_nil] at h2
        have hE : Hid (X = (0 + (1 + 0) + (k - (i + 1)), false, false)) := h2
        have j2 : (s.length : Int) ≤ (k : Int) + 1 := by omega
        clear e10 g1 g2 g3 H HX hesc Hd h2 he0 hend
        go_wp2_with fail
        refine hes.mono ?_
        clear hes
        rintro e w2 ⟨rfl, rfl⟩
        go_wp2_with fail
        go_ret2
        rw [hE.out]
        refine ⟨?_, rfl⟩
        show _ = Ending.returned (.tuple #[.int .i64 ((i + 1 + (0 + (1 + 0) + (k - (i + 1))) : Nat) : Int), .int .i64 8])
        rw [show ((i + 1 + (0 + (1 + 0) + (k - (i + 1))) : Nat) : Int) = (k : Int) + 1 by omega]; rfl
     ·rw [decide_eq_false g3] at e92
      have hne : s.drop k ≠ [] := by intro e; have := congrArg List.length e; simp at this; omega
      have hE : Hid (X = ((Lx.textR b (s.drop (k + (dec (s.drop k)).2))).1 + (k + (dec (s.drop k)).2 - (i + 1)), (Lx.textR b (s.drop (k + (dec (s.drop k)).2))).2)) := by
       show _ = _
       have h2 := H.out
       rw [Lx.textR_char b (s.drop k) ⟨s[k], by rw [List.getElem?_drop]; exact List.getElem?_eq_getElem hlt, g1, g2, g3⟩, List.drop_drop] at h2
       rw [h2]
       refine Prod.ext ?_ rfl
       simp only
       omega
      have hd := fun w => rune_at s k hlt w
      have hsz := (dec_size (s.drop k)).1
      have hle := dec_le (s.drop k) hne
      rw [List.length_drop] at hle
      generalize dec (s.drop k) = D at *
      obtain ⟨c, z⟩ := D
      simp only at hd hsz hle hE
      have Hdd := Lib.hid hd
      clear e10 g1 g2 g3 H HX Hd hne hd
      go_wp2_with fail
      refine (Hdd.out _).mono ?_
      clear Hdd
      rintro e w3 ⟨rfl, rfl⟩
      go_wp2_with fail
      go_round
      case rel => exact ⟨k + z, b, by go_num, rfl, by omega, by omega, hE⟩
      case measure => simp [intOf]; omega
  ·obtain rfl : k = s.length := by omega
   have hE : Hid (X = (0 + (s.length - (i + 1)), false, b)) := by
    show _ = _
    have h2 := H.out
    rw [List.drop_length, Lx.textR_nil] at h2
    exact h2
   clear H HX
   go_wp2_with fail
   go_ret2
   rw [hE.out]
   refine ⟨?_, rfl⟩
   show _ = Ending.returned (.tuple #[.int .i64 ((i + 1 + (0 + (s.length - (i + 1))) : Nat) : Int), .int .i64 8])
   rw [show ((i + 1 + (0 + (s.length - (i + 1))) : Nat) : Int) = (s.length : Int) by omega]; rfl
theorem rem_open (d : Nat) (l : Bs) (h : [123, 45].isPrefixOf l = true) : Lx.remM d l = (Lx.remM (d + 1) (l.drop 2)).map (· + 2) := by
 obtain ⟨t, rfl⟩ := Lx.prefix_two h
 rw [Lx.remM, if_pos ⟨rfl, rfl⟩]; rfl
theorem rem_shut (d : Nat) (l : Bs) (h : [45, 125].isPrefixOf l = true) : Lx.remM d l = if d = 1 then some 2 else (Lx.remM (d - 1) (l.drop 2)).map (· + 2) := by
 obtain ⟨t, rfl⟩ := Lx.prefix_two h
 rw [Lx.remM, if_neg (by decide), if_pos ⟨rfl, rfl⟩]; rfl
theorem rem_else (d : Nat) (l : Bs) (h1 : [123, 45].isPrefixOf l = false) (h2 : [45, 125].isPrefixOf l = false) : Lx.remM d l = (Lx.remM d (l.drop 1)).map (· + 1) := by
 rcases l with _ | ⟨a, _ | ⟨b, t⟩⟩
 ·simp [Lx.remM]
 ·simp [Lx.remM]
 ·rw [Lx.remM, if_neg, if_neg]
  ·rfl
  ·rintro ⟨rfl, rfl⟩; simp [List.isPrefixOf] at h2
  ·rintro ⟨rfl, rfl⟩; simp [List.isPrefixOf] at h1
def nestV (n i : Nat) : Option Nat → Value
 | some k => .tuple #[.int .i64 ((i + 2 + k : Nat) : Int), .bool true]
 | none => .tuple #[.int .i64 n, .bool false]
set_option maxHeartbeats 2000000 in
set_option maxRecDepth 100000 in
theorem nested_walk (s : Bs) (i : Nat) (w : World) (hs : [123, 45].isPrefixOf (s.drop i) = true) (hl : s.length ≤ 100000000) :
  Calls Tryz.prog 125 #[.string ⟨s.toArray⟩, .int .i64 i] w fun e w' => e = .returned (nestV s.length i (Lx.remM 1 (s.drop (i + 2)))) ∧ w' = w := by
 have hi2 : i + 2 ≤ s.length := by
  obtain ⟨t, ht⟩ := Lx.prefix_two hs
  have := congrArg List.length ht
  rw [List.length_drop] at this
  simp at this
  omega
 have hho : ∀ k, k ≤ s.length → ∀ w, Calls Tryz.prog 124 #[.string ⟨s.toArray⟩, .int .i64 k, .int .u8 123, .int .u8 45] w fun e w' => e = .returned (.bool ([123, 45].isPrefixOf (s.drop k))) ∧ w' = w := fun k hk w => has_walk s k 123 45 w hl hk
 have hhs : ∀ k, k ≤ s.length → ∀ w, Calls Tryz.prog 124 #[.string ⟨s.toArray⟩, .int .i64 k, .int .u8 45, .int .u8 125] w fun e w' => e = .returned (.bool ([45, 125].isPrefixOf (s.drop k))) ∧ w' = w := fun k hk w => has_walk s k 45 125 w hl hk
 generalize hR : Lx.remM 1 (s.drop (i + 2)) = R
 have HR := Lib.hid hR
 have Hs := Lib.hid hs
 clear hR hs
 go_enter Tryz.func125, Tryz.ntmps125
 go_wp2_with fail
 go_loop [1, 6] (fun iv dv => ∃ k d : Nat, iv = .int .i64 k ∧ dv = .int .i64 d ∧ k ≤ s.length ∧ d ≤ k ∧ ((k = i ∧ d = 0) ∨ (1 ≤ d ∧ i + 2 ≤ k ∧ Hid (R = (Lx.remM d (s.drop k)).map (· + (k - (i + 2))))))) (fun iv _ => s.length - (intOf iv).toNat)
 case atStart => exact ⟨i, 0, rfl, rfl, by omega, by omega, .inl ⟨rfl, rfl⟩⟩
 case round =>
  obtain ⟨k, d, rfl, rfl, hk, hdk, H⟩ := hrel
  have h1 := hho k hk
  have h2 := hhs k hk
  rcases H with ⟨rfl, rfl⟩ | ⟨hd1, hik, H⟩
  ·rw [Hs.out] at h1
   generalize [(45 : UInt8), 125].isPrefixOf (s.drop k) = q at *
   have hlt : (k : Int) < (s.length : Int) := by omega
   go_wp2_with fail
   refine (h1 _).mono ?_
   rintro e w' ⟨rfl, rfl⟩
   go_wp2_with fail
   refine (h2 _).mono ?_
   rintro e w' ⟨rfl, rfl⟩
   go_wp2_with fail
   go_round
   case rel => exact ⟨k + 2, 1, by go_num, by go_num, by omega, by omega, .inr ⟨by omega, by omega, by show _ = _; rw [← HR.out]; simp⟩⟩
   case measure => simp [intOf]; omega
  ·by_cases hlt : k < s.length
   ·have i1 : (k : Int) < (s.length : Int) := by omega
    cases ho : [(123 : UInt8), 45].isPrefixOf (s.drop k) with
    | true =>
     have hN : Hid (R = (Lx.remM (d + 1) (s.drop (k + 2))).map (· + (k + 2 - (i + 2)))) := by
      show _ = _
      rw [H.out, rem_open d _ ho, List.drop_drop, Option.map_map]
      congr 1
      funext x
      simp only [Function.comp]
      omega
     have hk2 : k + 2 ≤ s.length := by
      obtain ⟨t, ht⟩ := Lx.prefix_two ho
      have := congrArg List.length ht
      rw [List.length_drop] at this
      simp at this
      omega
     rw [ho] at h1
     generalize [(45 : UInt8), 125].isPrefixOf (s.drop k) = q at *
     clear ho H
     go_wp2_with fail
     refine (h1 _).mono ?_
     rintro e w' ⟨rfl, rfl⟩
     go_wp2_with fail
     refine (h2 _).mono ?_
     rintro e w' ⟨rfl, rfl⟩
     go_wp2_with fail
     go_round
     case rel => exact ⟨k + 2, d + 1, by go_num, by go_num, by omega, by omega, .inr ⟨by omega, by omega, hN⟩⟩
     case measure => simp [intOf]; omega
    | false =>
     rw [ho] at h1
     cases hq : [(45 : UInt8), 125].isPrefixOf (s.drop k) with
     | true =>
      rw [hq] at h2
      have hk2 : k + 2 ≤ s.length := by
       obtain ⟨t, ht⟩ := Lx.prefix_two hq
       have := congrArg List.length ht
       rw [List.length_drop] at this
       simp at this
       omega
      have h3 := H.out
      rw [rem_shut d _ hq, List.drop_drop] at h3
      by_cases hd : d = 1
      ·rw [if_pos hd] at h3
       have hN : Hid (R = some (2 + (k - (i + 2)))) := h3
       subst hd
       clear h3 ho hq H
       go_wp2_with fail
       refine (h1 _).mono ?_
       rintro e w' ⟨rfl, rfl⟩
       go_wp2_with fail
       refine (h2 _).mono ?_
       rintro e w' ⟨rfl, rfl⟩
       go_wp2_with fail
       go_ret2
       rw [hN.out]
       refine ⟨?_, rfl⟩
       show _ = Ending.returned (.tuple #[.int .i64 ((i + 2 + (2 + (k - (i + 2))) : Nat) : Int), .bool true])
       rw [show ((i + 2 + (2 + (k - (i + 2))) : Nat) : Int) = (k : Int) + 2 by omega]; rfl
      ·rw [if_neg hd] at h3
       have hN : Hid (R = (Lx.remM (d - 1) (s.drop (k + 2))).map (· + (k + 2 - (i + 2)))) := by
        show _ = _
        rw [h3, Option.map_map]
        congr 1
        funext x
        simp only [Function.comp]
        omega
       have e1 : ((d : Int) - 1 == 0) = false := by simp; omega
       clear h3 ho hq H
       go_wp2_with fail
       refine (h1 _).mono ?_
       rintro e w' ⟨rfl, rfl⟩
       go_wp2_with fail
       refine (h2 _).mono ?_
       rintro e w' ⟨rfl, rfl⟩
       go_wp2_with fail
       go_round
       case rel => exact ⟨k + 2, d - 1, by go_num, by congr 1; omega, by omega, by omega, .inr ⟨by omega, by omega, hN⟩⟩
       case measure => simp [intOf]; omega
     | false =>
      rw [hq] at h2
      have hN : Hid (R = (Lx.remM d (s.drop (k + 1))).map (· + (k + 1 - (i + 2)))) := by
       show _ = _
       rw [H.out, rem_else d _ ho hq, List.drop_drop, Option.map_map]
       congr 1
       funext x
       simp only [Function.comp]
       omega
      clear ho hq H
      go_wp2_with fail
      refine (h1 _).mono ?_
      rintro e w' ⟨rfl, rfl⟩
      go_wp2_with fail
      refine (h2 _).mono ?_
      rintro e w' ⟨rfl, rfl⟩
      go_wp2_with fail
      go_round
      case rel => exact ⟨k + 1, d, by go_num, rfl, by omega, by omega, .inr ⟨by omega, by omega, hN⟩⟩
      case measure => simp [intOf]; omega
   ·obtain rfl : k = s.length := by omega
    have hN : Hid (R = none) := by
     show _ = _
     rw [H.out, List.drop_length]; rfl
    clear H h1 h2
    go_wp2_with fail
    go_ret2
    rw [hN.out]
    exact ⟨rfl, rfl⟩
theorem space_no (c : Nat) (h : 128 ≤ c) : Lx.spaceB c = false := by unfold Lx.spaceB; simp; omega
theorem digit_no (c : Nat) (h : 128 ≤ c) : Lx.digitB c = false := by unfold Lx.digitB; simp; omega
theorem tw_go {s : Bs} {k : Nat} (p : UInt8 → Bool) (h : k < s.length) (hp : p s[k] = true) : ((s.drop k).takeWhile p).length = ((s.drop (k + 1)).takeWhile p).length + 1 := by
 rw [List.drop_eq_getElem_cons h, List.takeWhile_cons, if_pos hp]; rfl
theorem tw_stop {s : Bs} {k : Nat} (p : UInt8 → Bool) (h : k < s.length) (hp : p s[k] = false) : ((s.drop k).takeWhile p).length = 0 := by
 rw [List.drop_eq_getElem_cons h, List.takeWhile_cons, if_neg (by simp [hp])]; rfl
theorem tw_end (s : Bs) (p : UInt8 → Bool) : ((s.drop s.length).takeWhile p).length = 0 := by rw [List.drop_length]; rfl
theorem space_byte (b : UInt8) : Lx.spaceB b.toNat = (decide (b = 9) || decide (b = 10) || decide (b = 13) || decide (b = 32)) := by
 have h : ∀ i : Fin 256, Lx.spaceB (UInt8.ofNat i.val).toNat = (decide (UInt8.ofNat i.val = 9) || decide (UInt8.ofNat i.val = 10) || decide (UInt8.ofNat i.val = 13) || decide (UInt8.ofNat i.val = 32)) := by decide +kernel
 have := h ⟨b.toNat, b.toNat_lt⟩
 simpa using this
theorem byteAt_lt (l : Bs) (k : Nat) : byteAt l k < 256 := by unfold byteAt; exact UInt8.toNat_lt _
theorem dec_lt (l : Bs) : (dec l).1 < 100000000 := by
 have h0 := byteAt_lt l 0
 have hr : Utf8.runeError < 100000000 := by decide
 unfold dec
 split
 ·show byteAt l 0 < _; omega
 split
 ·split
  ·show (byteAt l 0 % 32) * 64 + byteAt l 1 % 64 < _; omega
  ·exact hr
 split
 ·split
  ·show (byteAt l 0 % 16) * 4096 + (byteAt l 1 % 64) * 64 + byteAt l 2 % 64 < _; omega
  ·exact hr
 split
 ·split
  ·show (byteAt l 0 % 8) * 262144 + (byteAt l 1 % 64) * 4096 + (byteAt l 2 % 64) * 64 + byteAt l 3 % 64 < _; omega
  ·exact hr
 ·exact hr
theorem space_ways {c : Nat} (h : Lx.spaceB c = true) : c = 9 ∨ c = 10 ∨ c = 13 ∨ c = 32 := by
 unfold Lx.spaceB at h; simp at h; omega
theorem space_not {c : Nat} (h : Lx.spaceB c = false) : c ≠ 9 ∧ c ≠ 10 ∧ c ≠ 13 ∧ c ≠ 32 := by
 unfold Lx.spaceB at h; simp at h; omega
theorem digit_ways {c : Nat} (h : Lx.digitB c = true) : 48 ≤ c ∧ c ≤ 57 := by
 unfold Lx.digitB at h; simp at h; omega
theorem digit_not {c : Nat} (h : Lx.digitB c = false) : c < 48 ∨ 57 < c := by
 unfold Lx.digitB at h; simp at h; omega
def oneT (i : Nat) (x : Nat × Nat) : Value := .agg #[.int .i64 x.1, .int .i64 i, .int .i64 x.2]
theorem oneT_of (i : Nat) (x : Nat × Nat) (a b : Int) (h1 : a = x.1) (h2 : b = x.2) : Ending.returned (.agg #[.int .i64 a, .int .i64 i, .int .i64 b]) = .returned (oneT i x) := by subst h1 h2; rfl
theorem infoRT : (Tryz.prog.info? 124).map (fun i => (i.zero, i.size, i.bytes)) = some (some (.agg #[.int .i64 0, .int .i64 0, .int .i64 0]), 3, 24) := by kernel_rfl
theorem sign_ways (l : Bs) (hne : l ≠ []) : Lx.signM l = if ([61, 62].isPrefixOf l || [61, 61].isPrefixOf l || [43, 43].isPrefixOf l) = true then 2 else if (dec l).1 ∈ Lx.signs.map UInt8.toNat then 1 else 0 := by
 unfold Lx.signM Lx.twoM
 by_cases h : ([61, 62].isPrefixOf l || [61, 61].isPrefixOf l || [43, 43].isPrefixOf l) = true
 ·rw [if_pos h, if_pos h]
 ·rw [if_neg h, if_neg h]
  cases l with
  | nil => exact absurd rfl hne
  | cons a t =>
   have hb : byteAt (a :: t) 0 = a.toNat := rfl
   have e : Lx.signs.contains a = decide ((dec (a :: t)).1 ∈ Lx.signs.map UInt8.toNat) := by
    rcases Nat.lt_or_ge a.toNat 128 with h1 | h1
    ·rw [dec_small (by rw [hb]; exact h1), hb, Bool.eq_iff_iff]
     simp only [List.contains_iff_mem, decide_eq_true_eq, List.mem_map]
     exact ⟨fun h => ⟨a, h, rfl⟩, fun ⟨x, hx, he⟩ => by rw [← UInt8.toNat_inj.1 he]; exact hx⟩
    ·have h2 := dec_big (l := a :: t) (by rw [hb]; exact h1)
     have hs : ∀ x ∈ Lx.signs, x.toNat < 128 := by decide
     rw [Bool.eq_iff_iff]
     simp only [List.contains_iff_mem, decide_eq_true_eq, List.mem_map]
     constructor
     ·intro h; have := hs a h; omega
     ·rintro ⟨x, hx, he⟩; have := hs x hx; omega
   simp only [e, decide_eq_true_eq]
theorem sign_at (j : Nat) (hj : j < 13) (c : Nat) : ((c : Int) == wrap64 ((((⟨#[40, 41, 91, 93, 44, 59, 61, 60, 43, 45, 42, 46, 63]⟩ : ByteArray)[j]'hj).toNat : Nat) : Int)) = decide ((Lx.signs[j]?.getD 0).toNat = c) := by
 have hl13 : j < Lx.signs.length := hj
 have e : ((⟨#[40, 41, 91, 93, 44, 59, 61, 60, 43, 45, 42, 46, 63]⟩ : ByteArray)[j]'hj) = Lx.signs[j] := rfl
 have hlt := (Lx.signs[j]).toNat_lt
 rw [e, IntWalk.wrap64_in _ (by omega), List.getElem?_eq_getElem hl13, Bool.eq_iff_iff]
 simp
 omega
section
variable (s : Bs) (i : Nat) (w : World)
abbrev wT (w : World) : World := w.alloc (.cells #[.int .i64 0, .int .i64 0, .int .i64 0] 124)
set_option maxHeartbeats 2000000 in
set_option maxRecDepth 100000 in
theorem one_space (hi : i < s.length) (hl : s.length ≤ 100000000) (hS : Lx.spaceB (dec (s.drop i)).1 = true) :
  Calls Tryz.prog 87 #[.string ⟨s.toArray⟩, .int .i64 i] w fun e w' => e = .returned (oneT i (1, Lx.run Lx.spaceB (s.drop i))) ∧ Below w.heap.size w w' := by
 have hd := fun w => rune_at s i hi w
 have hlt := fun w => rletter_walk (dec (s.drop i)).1 (dec_lt _) w
 have hb1 : Below w.heap.size w (wT w) := (Below.refl _ _).alloc (Nat.le_refl _) _
 have hB1 : Blk (wT w) w.heap.size 124 #[.int .i64 0, .int .i64 0, .int .i64 0] := Blk.new _ _ _
 have i0 : (0 : Int) ≤ (i : Int) := by omega
 have i1 : (i : Int) < (s.length : Int) := by omega
 have i2 : (i : Int) ≤ (s.length : Int) := by omega
 have z0 := hB1.cell 0
 have z1 := hB1.cell 1
 have z2 := hB1.cell 2
 have f0 := hB1.frozen 0
 have f1 := hB1.frozen 1
 have f2 := hB1.frozen 2
 simp at z0 z1 z2
 have HR : Hid (Lx.run Lx.spaceB (s.drop i) = ((s.drop i).takeWhile fun b => Lx.spaceB b.toNat).length) := Lx.run_ascii _ space_no _
 generalize Lx.run Lx.spaceB (s.drop i) = R at *
 generalize dec (s.drop i) = D at *
 obtain ⟨c, z⟩ := D
 simp only at *
 have hw := space_ways hS
 clear hS
 rcases hw with rfl | rfl | rfl | rfl
 all_goals
  go_enter Tryz.func87, Tryz.ntmps87
  go_wp2_with fail
  refine (hd _).mono ?_
  rintro e w1 ⟨rfl, rfl⟩
  go_wp2_with fail
  refine (hlt _).mono ?_
  rintro e w1 ⟨rfl, rfl⟩
  go_wp2_with fail
  go_loop [8] (fun kv => ∃ k : Nat, kv = .int .i64 k ∧ i ≤ k ∧ k ≤ s.length ∧ Hid (R = (k - i) + ((s.drop k).takeWhile fun b => Lx.spaceB b.toNat).length)) (fun kv => s.length - (intOf kv).toNat)
  case atStart => exact ⟨i, rfl, by omega, by omega, by show _ = _; rw [HR.out]; omega⟩
  case round =>
   obtain ⟨k, rfl, hk1, hk2, H⟩ := hrel
   by_cases hlt : k < s.length
   ·have j0 : (0 : Int) ≤ (k : Int) := by omega
    have j1 : (k : Int) < (s.length : Int) := by omega
    have e9 := bk_eq s k hlt 9
    have e10 := bk_eq s k hlt 10
    have e13 := bk_eq s k hlt 13
    have e32 := bk_eq s k hlt 32
    rw [show (((9 : UInt8).toNat : Nat) : Int) = 9 from rfl] at e9
    rw [show (((10 : UInt8).toNat : Nat) : Int) = 10 from rfl] at e10
    rw [show (((13 : UInt8).toNat : Nat) : Int) = 13 from rfl] at e13
    rw [show (((32 : UInt8).toNat : Nat) : Int) = 32 from rfl] at e32
    have hsp := space_byte s[k]
    have Hgo : Hid (Lx.spaceB s[k].toNat = true → R = (k + 1 - i) + ((s.drop (k + 1)).takeWhile fun b => Lx.spaceB b.toNat).length) := fun h => by
     have := H.out; rw [tw_go _ hlt h] at this; omega
    have Hno : Hid (Lx.spaceB s[k].toNat = false → R = k - i) := fun h => by
     have := H.out; rw [tw_stop _ hlt h] at this; omega
    generalize decide (s[k] = 9) = q9 at *
    generalize decide (s[k] = 10) = q10 at *
    generalize decide (s[k] = 13) = q13 at *
    generalize decide (s[k] = 32) = q32 at *
    generalize Lx.spaceB s[k].toNat = Q at *
    have hw : (q9 = true ∧ Q = true) ∨ (q9 = false ∧ q10 = true ∧ Q = true) ∨ (q9 = false ∧ q10 = false ∧ q13 = true ∧ Q = true) ∨ (q9 = false ∧ q10 = false ∧ q13 = false ∧ q32 = true ∧ Q = true) ∨ (q9 = false ∧ q10 = false ∧ q13 = false ∧ q32 = false ∧ Q = false) := by
     clear e9 e10 e13 e32 Hgo Hno; revert hsp; cases q9 <;> cases q10 <;> cases q13 <;> cases q32 <;> simp
    clear hsp H HR
    rcases hw with ⟨rfl, rfl⟩ | ⟨rfl, rfl, rfl⟩ | ⟨rfl, rfl, rfl, rfl⟩ | ⟨rfl, rfl, rfl, rfl, rfl⟩ | ⟨rfl, rfl, rfl, rfl, rfl⟩
    iterate 4
     ·have Hn := Lib.hid (Hgo.out rfl)
      clear Hgo Hno
      go_wp2_with fail
      go_round
      case rel => exact ⟨k + 1, by go_num, by omega, by omega, Hn.out⟩
      case measure => simp [intOf]; omega
    ·have Hn := Lib.hid (Hno.out rfl)
     clear Hgo Hno
     go_wp2_with fail
     have hB3 : Blk (w.alloc (.cells #[.int .i64 1, .int .i64 i, .int .i64 ((k : Int) - i)] 124)) w.heap.size 124 #[.int .i64 1, .int .i64 i, .int .i64 ((k : Int) - i)] := Blk.new _ _ _
     have hb3 : Below w.heap.size w (w.alloc (.cells #[.int .i64 1, .int .i64 i, .int .i64 ((k : Int) - i)] 124)) := (Below.refl _ _).alloc (Nat.le_refl _) _
     exact bodyPost_ret (v := .agg #[.int .i64 1, .int .i64 i, .int .i64 ((k : Int) - i)]) (results_cell_row (hu := Tryz.underlying124) (h := rfl) (hp := rfl) (hg := hB3) (hd := rfl) (hi := by kernel_rfl)) rfl ⟨oneT_of i _ _ _ rfl (by have := Hn.out; show _ = ((R : Nat) : Int); omega), hb3⟩
   ·obtain rfl : k = s.length := by omega
    have Hn : Hid (R = s.length - i) := by show R = _; have := H.out; rw [tw_end] at this; omega
    clear H HR
    go_wp2_with fail
    have hB3 : Blk (w.alloc (.cells #[.int .i64 1, .int .i64 i, .int .i64 ((s.length : Int) - i)] 124)) w.heap.size 124 #[.int .i64 1, .int .i64 i, .int .i64 ((s.length : Int) - i)] := Blk.new _ _ _
    have hb3 : Below w.heap.size w (w.alloc (.cells #[.int .i64 1, .int .i64 i, .int .i64 ((s.length : Int) - i)] 124)) := (Below.refl _ _).alloc (Nat.le_refl _) _
    exact bodyPost_ret (v := .agg #[.int .i64 1, .int .i64 i, .int .i64 ((s.length : Int) - i)]) (results_cell_row (hu := Tryz.underlying124) (h := rfl) (hp := rfl) (hg := hB3) (hd := rfl) (hi := by kernel_rfl)) rfl ⟨oneT_of i _ _ _ rfl (by have := Hn.out; show _ = ((R : Nat) : Int); omega), hb3⟩
set_option maxHeartbeats 2000000 in
set_option maxRecDepth 100000 in
theorem one_line (hi : i < s.length) (hl : s.length ≤ 100000000) (hS : Lx.spaceB (dec (s.drop i)).1 = false) (hP1 : [45, 45].isPrefixOf (s.drop i) = true) :
  Calls Tryz.prog 87 #[.string ⟨s.toArray⟩, .int .i64 i] w fun e w' => e = .returned (oneT i (2, ((s.drop i).takeWhile (· != 10)).length)) ∧ Below w.heap.size w w' := by
 have hd := fun w => rune_at s i hi w
 have hlt := fun w => rletter_walk (dec (s.drop i)).1 (dec_lt _) w
 have hp1 : ∀ w, Calls Tryz.prog 124 #[.string ⟨s.toArray⟩, .int .i64 i, .int .u8 45, .int .u8 45] w fun e w' => e = .returned (.bool ([45, 45].isPrefixOf (s.drop i))) ∧ w' = w := fun w => has_walk s i 45 45 w hl (by omega)
 have hb1 : Below w.heap.size w (wT w) := (Below.refl _ _).alloc (Nat.le_refl _) _
 have hB1 : Blk (wT w) w.heap.size 124 #[.int .i64 0, .int .i64 0, .int .i64 0] := Blk.new _ _ _
 have i0 : (0 : Int) ≤ (i : Int) := by omega
 have i1 : (i : Int) < (s.length : Int) := by omega
 have i2 : (i : Int) ≤ (s.length : Int) := by omega
 have z0 := hB1.cell 0
 have z1 := hB1.cell 1
 have z2 := hB1.cell 2
 have f0 := hB1.frozen 0
 have f1 := hB1.frozen 1
 have f2 := hB1.frozen 2
 simp at z0 z1 z2
 generalize hR : ((s.drop i).takeWhile (· != 10)).length = R
 have HR := Lib.hid hR
 clear hR
 generalize dec (s.drop i) = D at *
 obtain ⟨c, z⟩ := D
 simp only at *
 obtain ⟨s9, s10, s13, s32⟩ := space_not hS
 have t9 : ((c : Int) == 9) = false := by simp; omega
 have t10 : ((c : Int) == 10) = false := by simp; omega
 have t13 : ((c : Int) == 13) = false := by simp; omega
 have t32 : ((c : Int) == 32) = false := by simp; omega
 clear s9 s10 s13 s32
 go_enter Tryz.func87, Tryz.ntmps87
 go_wp2_with fail
 refine (hd _).mono ?_
 rintro e w1 ⟨rfl, rfl⟩
 go_wp2_with fail
 refine (hlt _).mono ?_
 rintro e w1 ⟨rfl, rfl⟩
 go_wp2_with fail
 have hq := hp1 (wT w)
 rw [hP1] at hq
 refine hq.mono ?_
 clear hq
 rintro e w1 ⟨rfl, rfl⟩
 go_wp2_with fail
 go_loop [8] (fun kv => ∃ k : Nat, kv = .int .i64 k ∧ i ≤ k ∧ k ≤ s.length ∧ Hid (R = (k - i) + ((s.drop k).takeWhile (· != 10)).length)) (fun kv => s.length - (intOf kv).toNat)
 case atStart => exact ⟨i, rfl, by omega, by omega, by show _ = _; rw [← HR.out]; omega⟩
 case round =>
  obtain ⟨k, rfl, hk1, hk2, H⟩ := hrel
  by_cases hlt : k < s.length
  ·have j0 : (0 : Int) ≤ (k : Int) := by omega
   have j1 : (k : Int) < (s.length : Int) := by omega
   have e10 := bk_eq s k hlt 10
   rw [show (((10 : UInt8).toNat : Nat) : Int) = 10 from rfl] at e10
   by_cases q : s[k] = 10
   ·have Hn : Hid (R = k - i) := by show R = _; have := H.out; rw [tw_stop _ hlt (by simp [q])] at this; omega
    rw [decide_eq_true q] at e10
    have n10 : ((((⟨s.toArray⟩ : ByteArray)[k]'(by rw [mk_size]; exact hlt)).toNat : Int) != 10) = false := by rw [bne, e10]; rfl
    clear H HR q e10
    go_wp2_with fail
    have hB3 : Blk (w.alloc (.cells #[.int .i64 2, .int .i64 i, .int .i64 ((k : Int) - i)] 124)) w.heap.size 124 #[.int .i64 2, .int .i64 i, .int .i64 ((k : Int) - i)] := Blk.new _ _ _
    have hb3 : Below w.heap.size w (w.alloc (.cells #[.int .i64 2, .int .i64 i, .int .i64 ((k : Int) - i)] 124)) := (Below.refl _ _).alloc (Nat.le_refl _) _
    exact bodyPost_ret (v := .agg #[.int .i64 2, .int .i64 i, .int .i64 ((k : Int) - i)]) (results_cell_row (hu := Tryz.underlying124) (h := rfl) (hp := rfl) (hg := hB3) (hd := rfl) (hi := by kernel_rfl)) rfl ⟨oneT_of i _ _ _ rfl (by have := Hn.out; show _ = ((R : Nat) : Int); omega), hb3⟩
   ·have Hn : Hid (R = (k + 1 - i) + ((s.drop (k + 1)).takeWhile (· != 10)).length) := by show R = _; have := H.out; rw [tw_go _ hlt (by simpa using q)] at this; omega
    rw [decide_eq_false q] at e10
    have n10 : ((((⟨s.toArray⟩ : ByteArray)[k]'(by rw [mk_size]; exact hlt)).toNat : Int) != 10) = true := by rw [bne, e10]; rfl
    clear H HR q e10
    go_wp2_with fail
    go_round
    case rel => exact ⟨k + 1, by go_num, by omega, by omega, Hn.out⟩
    case measure => simp [intOf]; omega
  ·obtain rfl : k = s.length := by omega
   have Hn : Hid (R = s.length - i) := by show R = _; have := H.out; rw [tw_end] at this; omega
   clear H HR
   go_wp2_with fail
   have hB3 : Blk (w.alloc (.cells #[.int .i64 2, .int .i64 i, .int .i64 ((s.length : Int) - i)] 124)) w.heap.size 124 #[.int .i64 2, .int .i64 i, .int .i64 ((s.length : Int) - i)] := Blk.new _ _ _
   have hb3 : Below w.heap.size w (w.alloc (.cells #[.int .i64 2, .int .i64 i, .int .i64 ((s.length : Int) - i)] 124)) := (Below.refl _ _).alloc (Nat.le_refl _) _
   exact bodyPost_ret (v := .agg #[.int .i64 2, .int .i64 i, .int .i64 ((s.length : Int) - i)]) (results_cell_row (hu := Tryz.underlying124) (h := rfl) (hp := rfl) (hg := hB3) (hd := rfl) (hi := by kernel_rfl)) rfl ⟨oneT_of i _ _ _ rfl (by have := Hn.out; show _ = ((R : Nat) : Int); omega), hb3⟩
set_option maxHeartbeats 2000000 in
set_option maxRecDepth 100000 in
theorem one_remark (hi : i < s.length) (hl : s.length ≤ 100000000) (hS : Lx.spaceB (dec (s.drop i)).1 = false) (hP1 : [45, 45].isPrefixOf (s.drop i) = false) (hP2 : [123, 45].isPrefixOf (s.drop i) = true) :
  Calls Tryz.prog 87 #[.string ⟨s.toArray⟩, .int .i64 i] w fun e w' => e = .returned (oneT i (match Lx.remM 1 (s.drop (i + 2)) with | some k => (2, k + 2) | none => (8, s.length - i))) ∧ Below w.heap.size w w' := by
 have hd := fun w => rune_at s i hi w
 have hlt := fun w => rletter_walk (dec (s.drop i)).1 (dec_lt _) w
 have hp1 : ∀ w, Calls Tryz.prog 124 #[.string ⟨s.toArray⟩, .int .i64 i, .int .u8 45, .int .u8 45] w fun e w' => e = .returned (.bool ([45, 45].isPrefixOf (s.drop i))) ∧ w' = w := fun w => has_walk s i 45 45 w hl (by omega)
 have hp2 : ∀ w, Calls Tryz.prog 124 #[.string ⟨s.toArray⟩, .int .i64 i, .int .u8 123, .int .u8 45] w fun e w' => e = .returned (.bool ([123, 45].isPrefixOf (s.drop i))) ∧ w' = w := fun w => has_walk s i 123 45 w hl (by omega)
 have hns := fun w => nested_walk s i w hP2 hl
 have hRle : ∀ k, Lx.remM 1 (s.drop (i + 2)) = some k → i + 2 + k ≤ s.length := fun k hk => by
  have := Lx.remM_le _ _ _ hk
  rw [List.length_drop] at this; omega
 generalize Lx.remM 1 (s.drop (i + 2)) = R at *
 have hb1 : Below w.heap.size w (wT w) := (Below.refl _ _).alloc (Nat.le_refl _) _
 have hB1 : Blk (wT w) w.heap.size 124 #[.int .i64 0, .int .i64 0, .int .i64 0] := Blk.new _ _ _
 have i0 : (0 : Int) ≤ (i : Int) := by omega
 have i1 : (i : Int) < (s.length : Int) := by omega
 have i2 : (i : Int) ≤ (s.length : Int) := by omega
 have z0 := hB1.cell 0
 have z1 := hB1.cell 1
 have z2 := hB1.cell 2
 have f0 := hB1.frozen 0
 have f1 := hB1.frozen 1
 have f2 := hB1.frozen 2
 simp at z0 z1 z2
 generalize dec (s.drop i) = D at *
 obtain ⟨c, z⟩ := D
 simp only at *
 obtain ⟨s9, s10, s13, s32⟩ := space_not hS
 have t9 : ((c : Int) == 9) = false := by simp; omega
 have t10 : ((c : Int) == 10) = false := by simp; omega
 have t13 : ((c : Int) == 13) = false := by simp; omega
 have t32 : ((c : Int) == 32) = false := by simp; omega
 clear s9 s10 s13 s32
 go_enter Tryz.func87, Tryz.ntmps87
 go_wp2_with fail
 refine (hd _).mono ?_
 rintro e w1 ⟨rfl, rfl⟩
 go_wp2_with fail
 refine (hlt _).mono ?_
 rintro e w1 ⟨rfl, rfl⟩
 go_wp2_with fail
 have hq := hp1 (wT w)
 rw [hP1] at hq
 refine hq.mono ?_
 clear hq
 rintro e w1 ⟨rfl, rfl⟩
 go_wp2_with fail
 have hq := hp2 (wT w)
 rw [hP2] at hq
 refine hq.mono ?_
 clear hq
 rintro e w1 ⟨rfl, rfl⟩
 go_wp2_with fail
 cases R with
 | none =>
  have hns2 : ∀ w, Calls Tryz.prog 125 #[.string ⟨s.toArray⟩, .int .i64 i] w fun e w' => e = .returned (.tuple #[.int .i64 (s.length : Nat), .bool false]) ∧ w' = w := hns
  refine (hns2 _).mono ?_
  rintro e w1 ⟨rfl, rfl⟩
  go_wp2_with fail
  have hB3 : Blk (w.alloc (.cells #[.int .i64 8, .int .i64 i, .int .i64 ((s.length : Int) - i)] 124)) w.heap.size 124 #[.int .i64 8, .int .i64 i, .int .i64 ((s.length : Int) - i)] := Blk.new _ _ _
  have hb3 : Below w.heap.size w (w.alloc (.cells #[.int .i64 8, .int .i64 i, .int .i64 ((s.length : Int) - i)] 124)) := (Below.refl _ _).alloc (Nat.le_refl _) _
  exact bodyPost_ret (v := .agg #[.int .i64 8, .int .i64 i, .int .i64 ((s.length : Int) - i)]) (results_cell_row (hu := Tryz.underlying124) (h := rfl) (hp := rfl) (hg := hB3) (hd := rfl) (hi := by kernel_rfl)) rfl ⟨oneT_of i _ _ _ rfl (by show _ = ((s.length - i : Nat) : Int); omega), hb3⟩
 | some k =>
  have hns2 : ∀ w, Calls Tryz.prog 125 #[.string ⟨s.toArray⟩, .int .i64 i] w fun e w' => e = .returned (.tuple #[.int .i64 ((i + 2 + k : Nat) : Int), .bool true]) ∧ w' = w := hns
  have hkle : i + 2 + k ≤ s.length := hRle k rfl
  refine (hns2 _).mono ?_
  rintro e w1 ⟨rfl, rfl⟩
  go_wp2_with fail
  have hB3 : Blk (w.alloc (.cells #[.int .i64 2, .int .i64 i, .int .i64 ((i : Int) + 2 + k - i)] 124)) w.heap.size 124 #[.int .i64 2, .int .i64 i, .int .i64 ((i : Int) + 2 + k - i)] := Blk.new _ _ _
  have hb3 : Below w.heap.size w (w.alloc (.cells #[.int .i64 2, .int .i64 i, .int .i64 ((i : Int) + 2 + k - i)] 124)) := (Below.refl _ _).alloc (Nat.le_refl _) _
  exact bodyPost_ret (v := .agg #[.int .i64 2, .int .i64 i, .int .i64 ((i : Int) + 2 + k - i)]) (results_cell_row (hu := Tryz.underlying124) (h := rfl) (hp := rfl) (hg := hB3) (hd := rfl) (hi := by kernel_rfl)) rfl ⟨oneT_of i _ _ _ rfl (by show _ = ((k + 2 : Nat) : Int); omega), hb3⟩
end
section
variable (s : Bs) (i : Nat) (w : World)
set_option maxHeartbeats 2000000 in
set_option maxRecDepth 100000 in
theorem one_name (hi : i < s.length) (hl : s.length ≤ 100000000) (hS : Lx.spaceB (dec (s.drop i)).1 = false) (hP1 : [45, 45].isPrefixOf (s.drop i) = false) (hP2 : [123, 45].isPrefixOf (s.drop i) = false) (hL : Lx.letterB (dec (s.drop i)).1 = true) :
  Calls Tryz.prog 87 #[.string ⟨s.toArray⟩, .int .i64 i] w fun e w' => e = .returned (oneT i (if Lx.wordM ((s.drop i).take (Lx.run Lx.bothB (s.drop i))) then 4 else 3, Lx.run Lx.bothB (s.drop i))) ∧ Below w.heap.size w w' := by
 have hd := fun w => rune_at s i hi w
 have hlt := fun w => rletter_walk (dec (s.drop i)).1 (dec_lt _) w
 have hp1 : ∀ w, Calls Tryz.prog 124 #[.string ⟨s.toArray⟩, .int .i64 i, .int .u8 45, .int .u8 45] w fun e w' => e = .returned (.bool ([45, 45].isPrefixOf (s.drop i))) ∧ w' = w := fun w => has_walk s i 45 45 w hl (by omega)
 have hp2 : ∀ w, Calls Tryz.prog 124 #[.string ⟨s.toArray⟩, .int .i64 i, .int .u8 123, .int .u8 45] w fun e w' => e = .returned (.bool ([123, 45].isPrefixOf (s.drop i))) ∧ w' = w := fun w => has_walk s i 123 45 w hl (by omega)
 have hb1 : Below w.heap.size w (wT w) := (Below.refl _ _).alloc (Nat.le_refl _) _
 have hB1 : Blk (wT w) w.heap.size 124 #[.int .i64 0, .int .i64 0, .int .i64 0] := Blk.new _ _ _
 have i0 : (0 : Int) ≤ (i : Int) := by omega
 have i1 : (i : Int) < (s.length : Int) := by omega
 have i2 : (i : Int) ≤ (s.length : Int) := by omega
 have z0 := hB1.cell 0
 have z1 := hB1.cell 1
 have z2 := hB1.cell 2
 have f0 := hB1.frozen 0
 have f1 := hB1.frozen 1
 have f2 := hB1.frozen 2
 simp at z0 z1 z2
 have hwd := fun w => rword_walk ((s.drop i).take (Lx.run Lx.bothB (s.drop i))) w
 have hrle := Lx.run_le Lx.bothB _ (s.drop i) rfl
 rw [List.length_drop] at hrle
 have hex := ext_str s i (i + Lx.run Lx.bothB (s.drop i))
 rw [List.drop_take, Nat.add_sub_cancel_left] at hex
 unfold strV at hex
 rw [← hex] at hwd
 clear hex
 generalize Lx.wordM ((s.drop i).take (Lx.run Lx.bothB (s.drop i))) = B at *
 generalize hR : Lx.run Lx.bothB (s.drop i) = R at *
 have HR := Lib.hid hR
 clear hR
 have Hwd := Lib.hid hwd
 clear hwd
 rw [hL] at hlt
 generalize dec (s.drop i) = D at *
 obtain ⟨c, z⟩ := D
 simp only at *
 obtain ⟨s9, s10, s13, s32⟩ := space_not hS
 have t9 : ((c : Int) == 9) = false := by simp; omega
 have t10 : ((c : Int) == 10) = false := by simp; omega
 have t13 : ((c : Int) == 13) = false := by simp; omega
 have t32 : ((c : Int) == 32) = false := by simp; omega
 clear s9 s10 s13 s32
 go_enter Tryz.func87, Tryz.ntmps87
 go_wp2_with fail
 refine (hd _).mono ?_
 rintro e w1 ⟨rfl, rfl⟩
 go_wp2_with fail
 refine (hlt _).mono ?_
 rintro e w1 ⟨rfl, rfl⟩
 go_wp2_with fail
 have hq := hp1 (wT w)
 rw [hP1] at hq
 refine hq.mono ?_
 clear hq
 rintro e w1 ⟨rfl, rfl⟩
 go_wp2_with fail
 have hq := hp2 (wT w)
 rw [hP2] at hq
 refine hq.mono ?_
 clear hq
 rintro e w1 ⟨rfl, rfl⟩
 go_wp2_with fail
 go_loop [8] (fun kv => ∃ k : Nat, kv = .int .i64 k ∧ i ≤ k ∧ k ≤ s.length ∧ Hid (R = (k - i) + Lx.run Lx.bothB (s.drop k))) (fun kv => s.length - (intOf kv).toNat)
 case atStart => exact ⟨i, rfl, by omega, by omega, by show _ = _; rw [← HR.out]; omega⟩
 case round =>
  obtain ⟨k, rfl, hk1, hk2, H⟩ := hrel
  have HRk : Hid (Lx.bothB (dec (s.drop k)).1 = false → R = k - i) := fun h => by
   have := H.out; rw [Lx.run_stop _ h] at this; omega
  have HRe : Hid (k = s.length → R = k - i) := fun h => by
   have := H.out; rw [h, List.drop_length, Lx.run_nil] at this; omega
  by_cases hlt2 : k < s.length
  ·have j0 : (0 : Int) ≤ (k : Int) := by omega
   have j1 : (k : Int) < (s.length : Int) := by omega
   have j2 : (k : Int) ≤ (s.length : Int) := by omega
   have j4 : (i : Int) ≤ (k : Int) := by omega
   have hne : s.drop k ≠ [] := by intro e; have := congrArg List.length e; simp at this; omega
   have hdk := fun w => rune_at s k hlt2 w
   have hltk := fun w => rletter_walk (dec (s.drop k)).1 (dec_lt _) w
   have hcb := dec_lt (s.drop k)
   have hsz := (dec_size (s.drop k)).1
   have hle := dec_le (s.drop k) hne
   rw [List.length_drop] at hle
   have Hgo : Hid (Lx.bothB (dec (s.drop k)).1 = true → R = (k + (dec (s.drop k)).2 - i) + Lx.run Lx.bothB (s.drop (k + (dec (s.drop k)).2))) := fun h => by
    have := H.out; rw [Lx.run_go _ hne h, List.drop_drop] at this; omega
   generalize dec (s.drop k) = D2 at *
   obtain ⟨d, m⟩ := D2
   simp only at hdk hltk hcb hsz hle Hgo HRk
   have hbo : Hid (Lx.bothB d = (Lx.letterB d || Lx.digitB d)) := rfl
   have Hdk := Lib.hid hdk
   clear hdk hne H HR
   cases hLd : Lx.letterB d with
   | true =>
    have Hn := Lib.hid (Hgo.out (by rw [hbo.out, hLd]; rfl))
    rw [hLd] at hltk
    clear Hgo HRk hbo
    go_wp2_with fail
    refine (Hdk.out _).mono ?_
    rintro e w1 ⟨rfl, rfl⟩
    go_wp2_with fail
    refine (hltk _).mono ?_
    rintro e w1 ⟨rfl, rfl⟩
    go_wp2_with fail
    go_round
    case rel => exact ⟨k + m, by go_num, by omega, by omega, Hn.out⟩
    case measure => simp [intOf]; omega
   | false =>
    rw [hLd] at hltk
    cases hDd : Lx.digitB d with
    | true =>
     have Hn := Lib.hid (Hgo.out (by rw [hbo.out, hLd, hDd]; rfl))
     obtain ⟨d1, d2⟩ := digit_ways hDd
     have g1 : ¬ (d : Int) < 48 := by omega
     have g2 : ¬ (57 : Int) < (d : Int) := by omega
     clear Hgo HRk hbo d1 d2
     go_wp2_with fail
     refine (Hdk.out _).mono ?_
     rintro e w1 ⟨rfl, rfl⟩
     go_wp2_with fail
     refine (hltk _).mono ?_
     rintro e w1 ⟨rfl, rfl⟩
     go_wp2_with fail
     go_round
     case rel => exact ⟨k + m, by go_num, by omega, by omega, Hn.out⟩
     case measure => simp [intOf]; omega
    | false =>
     have Hn := Lib.hid (HRk.out (by rw [hbo.out, hLd, hDd]; rfl))
     have hkR : k = i + R := by have := Hn.out; omega
     clear Hgo HRk hbo HRe
     rcases digit_not hDd with g | g
     ·have g1 : (d : Int) < 48 := by omega
      subst hkR
      go_wp2_with fail
      refine (Hdk.out _).mono ?_
      rintro e w1 ⟨rfl, rfl⟩
      go_wp2_with fail
      refine (hltk _).mono ?_
      rintro e w1 ⟨rfl, rfl⟩
      go_wp2_with fail
      refine (Hwd.out _).mono ?_
      rintro e w2 ⟨rfl, hb2⟩
      have hB2 := hB1.below hb2 (by simp)
      have hb12 := hb1.trans (hb2.mono (by simp))
      have z0 := hB2.cell 0
      have z1 := hB2.cell 1
      have z2 := hB2.cell 2
      have f0 := hB2.frozen 0
      have f1 := hB2.frozen 1
      have f2 := hB2.frozen 2
      simp at z0 z1 z2
      cases B with
      | true =>
       go_wp2_with fail
       have hB3 := ((hB2.set_ 0 (.int .i64 4)).set_ 1 (.int .i64 i)).set_ 2 (.int .i64 ((i : Int) + R - i))
       have hb3 := ((hb12.setCell (p := ⟨w.heap.size, 0, none⟩) (Nat.le_refl _) (.int .i64 4)).setCell (p := ⟨w.heap.size, 1, none⟩) (Nat.le_refl _) (.int .i64 i)).setCell (p := ⟨w.heap.size, 2, none⟩) (Nat.le_refl _) (.int .i64 ((i : Int) + R - i))
       exact bodyPost_ret (v := .agg #[.int .i64 4, .int .i64 i, .int .i64 ((i : Int) + R - i)]) (results_cell_row (hu := Tryz.underlying124) (h := rfl) (hp := rfl) (hg := hB3) (hd := rfl) (hi := by kernel_rfl)) rfl ⟨oneT_of i _ _ _ rfl (by show _ = ((R : Nat) : Int); omega), hb3⟩
      | false =>
       go_wp2_with fail
       have hB3 := ((hB2.set_ 0 (.int .i64 3)).set_ 1 (.int .i64 i)).set_ 2 (.int .i64 ((i : Int) + R - i))
       have hb3 := ((hb12.setCell (p := ⟨w.heap.size, 0, none⟩) (Nat.le_refl _) (.int .i64 3)).setCell (p := ⟨w.heap.size, 1, none⟩) (Nat.le_refl _) (.int .i64 i)).setCell (p := ⟨w.heap.size, 2, none⟩) (Nat.le_refl _) (.int .i64 ((i : Int) + R - i))
       exact bodyPost_ret (v := .agg #[.int .i64 3, .int .i64 i, .int .i64 ((i : Int) + R - i)]) (results_cell_row (hu := Tryz.underlying124) (h := rfl) (hp := rfl) (hg := hB3) (hd := rfl) (hi := by kernel_rfl)) rfl ⟨oneT_of i _ _ _ rfl (by show _ = ((R : Nat) : Int); omega), hb3⟩
     ·have g1 : ¬ (d : Int) < 48 := by omega
      have g2 : (57 : Int) < (d : Int) := by omega
      subst hkR
      go_wp2_with fail
      refine (Hdk.out _).mono ?_
      rintro e w1 ⟨rfl, rfl⟩
      go_wp2_with fail
      refine (hltk _).mono ?_
      rintro e w1 ⟨rfl, rfl⟩
      go_wp2_with fail
      refine (Hwd.out _).mono ?_
      rintro e w2 ⟨rfl, hb2⟩
      have hB2 := hB1.below hb2 (by simp)
      have hb12 := hb1.trans (hb2.mono (by simp))
      have z0 := hB2.cell 0
      have z1 := hB2.cell 1
      have z2 := hB2.cell 2
      have f0 := hB2.frozen 0
      have f1 := hB2.frozen 1
      have f2 := hB2.frozen 2
      simp at z0 z1 z2
      cases B with
      | true =>
       go_wp2_with fail
       have hB3 := ((hB2.set_ 0 (.int .i64 4)).set_ 1 (.int .i64 i)).set_ 2 (.int .i64 ((i : Int) + R - i))
       have hb3 := ((hb12.setCell (p := ⟨w.heap.size, 0, none⟩) (Nat.le_refl _) (.int .i64 4)).setCell (p := ⟨w.heap.size, 1, none⟩) (Nat.le_refl _) (.int .i64 i)).setCell (p := ⟨w.heap.size, 2, none⟩) (Nat.le_refl _) (.int .i64 ((i : Int) + R - i))
       exact bodyPost_ret (v := .agg #[.int .i64 4, .int .i64 i, .int .i64 ((i : Int) + R - i)]) (results_cell_row (hu := Tryz.underlying124) (h := rfl) (hp := rfl) (hg := hB3) (hd := rfl) (hi := by kernel_rfl)) rfl ⟨oneT_of i _ _ _ rfl (by show _ = ((R : Nat) : Int); omega), hb3⟩
      | false =>
       go_wp2_with fail
       have hB3 := ((hB2.set_ 0 (.int .i64 3)).set_ 1 (.int .i64 i)).set_ 2 (.int .i64 ((i : Int) + R - i))
       have hb3 := ((hb12.setCell (p := ⟨w.heap.size, 0, none⟩) (Nat.le_refl _) (.int .i64 3)).setCell (p := ⟨w.heap.size, 1, none⟩) (Nat.le_refl _) (.int .i64 i)).setCell (p := ⟨w.heap.size, 2, none⟩) (Nat.le_refl _) (.int .i64 ((i : Int) + R - i))
       exact bodyPost_ret (v := .agg #[.int .i64 3, .int .i64 i, .int .i64 ((i : Int) + R - i)]) (results_cell_row (hu := Tryz.underlying124) (h := rfl) (hp := rfl) (hg := hB3) (hd := rfl) (hi := by kernel_rfl)) rfl ⟨oneT_of i _ _ _ rfl (by show _ = ((R : Nat) : Int); omega), hb3⟩
  ·have Hn := Lib.hid (HRe.out (by omega))
   have hkR : k = i + R := by have := Hn.out; omega
   clear H HR HRk HRe
   subst hkR
   have j0 : (0 : Int) ≤ ((i + R : Nat) : Int) := by omega
   have j1 : (i : Int) ≤ ((i + R : Nat) : Int) := by omega
   have j2 : ((i + R : Nat) : Int) ≤ (s.length : Int) := by omega
   have j3 : ¬ ((i + R : Nat) : Int) < (s.length : Int) := by omega
   go_wp2_with fail
   refine (Hwd.out _).mono ?_
   rintro e w2 ⟨rfl, hb2⟩
   have hB2 := hB1.below hb2 (by simp)
   have hb12 := hb1.trans (hb2.mono (by simp))
   have z0 := hB2.cell 0
   have z1 := hB2.cell 1
   have z2 := hB2.cell 2
   have f0 := hB2.frozen 0
   have f1 := hB2.frozen 1
   have f2 := hB2.frozen 2
   simp at z0 z1 z2
   cases B with
   | true =>
    go_wp2_with fail
    have hB3 := ((hB2.set_ 0 (.int .i64 4)).set_ 1 (.int .i64 i)).set_ 2 (.int .i64 ((i : Int) + R - i))
    have hb3 := ((hb12.setCell (p := ⟨w.heap.size, 0, none⟩) (Nat.le_refl _) (.int .i64 4)).setCell (p := ⟨w.heap.size, 1, none⟩) (Nat.le_refl _) (.int .i64 i)).setCell (p := ⟨w.heap.size, 2, none⟩) (Nat.le_refl _) (.int .i64 ((i : Int) + R - i))
    exact bodyPost_ret (v := .agg #[.int .i64 4, .int .i64 i, .int .i64 ((i : Int) + R - i)]) (results_cell_row (hu := Tryz.underlying124) (h := rfl) (hp := rfl) (hg := hB3) (hd := rfl) (hi := by kernel_rfl)) rfl ⟨oneT_of i _ _ _ rfl (by show _ = ((R : Nat) : Int); omega), hb3⟩
   | false =>
    go_wp2_with fail
    have hB3 := ((hB2.set_ 0 (.int .i64 3)).set_ 1 (.int .i64 i)).set_ 2 (.int .i64 ((i : Int) + R - i))
    have hb3 := ((hb12.setCell (p := ⟨w.heap.size, 0, none⟩) (Nat.le_refl _) (.int .i64 3)).setCell (p := ⟨w.heap.size, 1, none⟩) (Nat.le_refl _) (.int .i64 i)).setCell (p := ⟨w.heap.size, 2, none⟩) (Nat.le_refl _) (.int .i64 ((i : Int) + R - i))
    exact bodyPost_ret (v := .agg #[.int .i64 3, .int .i64 i, .int .i64 ((i : Int) + R - i)]) (results_cell_row (hu := Tryz.underlying124) (h := rfl) (hp := rfl) (hg := hB3) (hd := rfl) (hi := by kernel_rfl)) rfl ⟨oneT_of i _ _ _ rfl (by show _ = ((R : Nat) : Int); omega), hb3⟩
set_option maxHeartbeats 2000000 in
set_option maxRecDepth 100000 in
theorem one_int (hi : i < s.length) (hl : s.length ≤ 100000000) (hS : Lx.spaceB (dec (s.drop i)).1 = false) (hP1 : [45, 45].isPrefixOf (s.drop i) = false) (hP2 : [123, 45].isPrefixOf (s.drop i) = false) (hL : Lx.letterB (dec (s.drop i)).1 = false) (hD : Lx.digitB (dec (s.drop i)).1 = true) :
  Calls Tryz.prog 87 #[.string ⟨s.toArray⟩, .int .i64 i] w fun e w' => e = .returned (oneT i (if Lx.run Lx.digitB (s.drop i) ≤ 18 then 5 else 8, Lx.run Lx.digitB (s.drop i))) ∧ Below w.heap.size w w' := by
 have hd := fun w => rune_at s i hi w
 have hlt := fun w => rletter_walk (dec (s.drop i)).1 (dec_lt _) w
 have hp1 : ∀ w, Calls Tryz.prog 124 #[.string ⟨s.toArray⟩, .int .i64 i, .int .u8 45, .int .u8 45] w fun e w' => e = .returned (.bool ([45, 45].isPrefixOf (s.drop i))) ∧ w' = w := fun w => has_walk s i 45 45 w hl (by omega)
 have hp2 : ∀ w, Calls Tryz.prog 124 #[.string ⟨s.toArray⟩, .int .i64 i, .int .u8 123, .int .u8 45] w fun e w' => e = .returned (.bool ([123, 45].isPrefixOf (s.drop i))) ∧ w' = w := fun w => has_walk s i 123 45 w hl (by omega)
 have hb1 : Below w.heap.size w (wT w) := (Below.refl _ _).alloc (Nat.le_refl _) _
 have hB1 : Blk (wT w) w.heap.size 124 #[.int .i64 0, .int .i64 0, .int .i64 0] := Blk.new _ _ _
 have i0 : (0 : Int) ≤ (i : Int) := by omega
 have i1 : (i : Int) < (s.length : Int) := by omega
 have i2 : (i : Int) ≤ (s.length : Int) := by omega
 have z0 := hB1.cell 0
 have z1 := hB1.cell 1
 have z2 := hB1.cell 2
 have f0 := hB1.frozen 0
 have f1 := hB1.frozen 1
 have f2 := hB1.frozen 2
 simp at z0 z1 z2
 have HR : Hid (Lx.run Lx.digitB (s.drop i) = ((s.drop i).takeWhile fun b => Lx.digitB b.toNat).length) := Lx.run_ascii _ digit_no _
 generalize Lx.run Lx.digitB (s.drop i) = R at *
 rw [hL] at hlt
 generalize dec (s.drop i) = D at *
 obtain ⟨c, z⟩ := D
 simp only at *
 obtain ⟨s9, s10, s13, s32⟩ := space_not hS
 have t9 : ((c : Int) == 9) = false := by simp; omega
 have t10 : ((c : Int) == 10) = false := by simp; omega
 have t13 : ((c : Int) == 13) = false := by simp; omega
 have t32 : ((c : Int) == 32) = false := by simp; omega
 clear s9 s10 s13 s32
 obtain ⟨d1, d2⟩ := digit_ways hD
 have g1 : (48 : Int) ≤ (c : Int) := by omega
 have g2 : (c : Int) ≤ 57 := by omega
 clear d1 d2 hD
 go_enter Tryz.func87, Tryz.ntmps87
 go_wp2_with fail
 refine (hd _).mono ?_
 rintro e w1 ⟨rfl, rfl⟩
 go_wp2_with fail
 refine (hlt _).mono ?_
 rintro e w1 ⟨rfl, rfl⟩
 go_wp2_with fail
 have hq := hp1 (wT w)
 rw [hP1] at hq
 refine hq.mono ?_
 clear hq
 rintro e w1 ⟨rfl, rfl⟩
 go_wp2_with fail
 have hq := hp2 (wT w)
 rw [hP2] at hq
 refine hq.mono ?_
 clear hq
 rintro e w1 ⟨rfl, rfl⟩
 go_wp2_with fail
 go_loop [8] (fun kv => ∃ k : Nat, kv = .int .i64 k ∧ i ≤ k ∧ k ≤ s.length ∧ Hid (R = (k - i) + ((s.drop k).takeWhile fun b => Lx.digitB b.toNat).length)) (fun kv => s.length - (intOf kv).toNat)
 case atStart => exact ⟨i, rfl, by omega, by omega, by show _ = _; rw [HR.out]; omega⟩
 case round =>
  obtain ⟨k, rfl, hk1, hk2, H⟩ := hrel
  by_cases hlt2 : k < s.length
  ·have j0 : (0 : Int) ≤ (k : Int) := by omega
   have j1 : (k : Int) < (s.length : Int) := by omega
   have hbb : (⟨s.toArray⟩ : ByteArray)[k]'(by rw [mk_size]; exact hlt2) = s[k] := by rfl
   have Hgo : Hid (Lx.digitB s[k].toNat = true → R = (k + 1 - i) + ((s.drop (k + 1)).takeWhile fun b => Lx.digitB b.toNat).length) := fun h => by
    have := H.out; rw [tw_go _ hlt2 h] at this; omega
   have Hno : Hid (Lx.digitB s[k].toNat = false → R = k - i) := fun h => by
    have := H.out; rw [tw_stop _ hlt2 h] at this; omega
   rw [← hbb] at Hgo Hno
   clear hbb
   generalize hN : ((⟨s.toArray⟩ : ByteArray)[k]'(by rw [mk_size]; exact hlt2)).toNat = N at *
   cases hq : Lx.digitB N with
   | true =>
    obtain ⟨d1, d2⟩ := digit_ways hq
    have g3 : (48 : Int) ≤ (N : Int) := by omega
    have g4 : (N : Int) ≤ 57 := by omega
    have Hn := Lib.hid (Hgo.out hq)
    clear Hgo Hno H HR hq d1 d2
    go_wp2_with fail
    go_round
    case rel => exact ⟨k + 1, by go_num, by omega, by omega, Hn.out⟩
    case measure => simp [intOf]; omega
   | false =>
    have Hn := Lib.hid (Hno.out hq)
    have hkR : k = i + R := by have := Hn.out; omega
    clear Hgo Hno H HR Hn
    rcases digit_not hq with g | g
    ·have g3 : ¬ (48 : Int) ≤ (N : Int) := by omega
     clear hq
     by_cases h18 : R ≤ 18
     ·have h19 : ¬ (18 : Int) < (k : Int) - (i : Int) := by omega
      have HK := Lib.hid hkR
      have H18 := Lib.hid h18
      clear h18 hkR
      go_wp2_with fail
      have hB3 : Blk (w.alloc (.cells #[.int .i64 5, .int .i64 i, .int .i64 ((k : Int) - i)] 124)) w.heap.size 124 #[.int .i64 5, .int .i64 i, .int .i64 ((k : Int) - i)] := Blk.new _ _ _
      have hb3 : Below w.heap.size w (w.alloc (.cells #[.int .i64 5, .int .i64 i, .int .i64 ((k : Int) - i)] 124)) := (Below.refl _ _).alloc (Nat.le_refl _) _
      exact bodyPost_ret (v := .agg #[.int .i64 5, .int .i64 i, .int .i64 ((k : Int) - i)]) (results_cell_row (hu := Tryz.underlying124) (h := rfl) (hp := rfl) (hg := hB3) (hd := rfl) (hi := by kernel_rfl)) rfl ⟨oneT_of i _ _ _ (by first | rfl | (rw [if_pos H18.out]; rfl)) (by show _ = ((R : Nat) : Int); have := HK.out; omega), hb3⟩
     ·have h19 : (18 : Int) < (k : Int) - (i : Int) := by omega
      have HK := Lib.hid hkR
      have H18 := Lib.hid h18
      clear h18 hkR
      go_wp2_with fail
      have hB3 : Blk (w.alloc (.cells #[.int .i64 8, .int .i64 i, .int .i64 ((k : Int) - i)] 124)) w.heap.size 124 #[.int .i64 8, .int .i64 i, .int .i64 ((k : Int) - i)] := Blk.new _ _ _
      have hb3 : Below w.heap.size w (w.alloc (.cells #[.int .i64 8, .int .i64 i, .int .i64 ((k : Int) - i)] 124)) := (Below.refl _ _).alloc (Nat.le_refl _) _
      exact bodyPost_ret (v := .agg #[.int .i64 8, .int .i64 i, .int .i64 ((k : Int) - i)]) (results_cell_row (hu := Tryz.underlying124) (h := rfl) (hp := rfl) (hg := hB3) (hd := rfl) (hi := by kernel_rfl)) rfl ⟨oneT_of i _ _ _ (by first | rfl | (rw [if_neg H18.out]; rfl)) (by show _ = ((R : Nat) : Int); have := HK.out; omega), hb3⟩
    ·have g3 : (48 : Int) ≤ (N : Int) := by omega
     have g4 : ¬ (N : Int) ≤ 57 := by omega
     clear hq
     by_cases h18 : R ≤ 18
     ·have h19 : ¬ (18 : Int) < (k : Int) - (i : Int) := by omega
      have HK := Lib.hid hkR
      have H18 := Lib.hid h18
      clear h18 hkR
      go_wp2_with fail
      have hB3 : Blk (w.alloc (.cells #[.int .i64 5, .int .i64 i, .int .i64 ((k : Int) - i)] 124)) w.heap.size 124 #[.int .i64 5, .int .i64 i, .int .i64 ((k : Int) - i)] := Blk.new _ _ _
      have hb3 : Below w.heap.size w (w.alloc (.cells #[.int .i64 5, .int .i64 i, .int .i64 ((k : Int) - i)] 124)) := (Below.refl _ _).alloc (Nat.le_refl _) _
      exact bodyPost_ret (v := .agg #[.int .i64 5, .int .i64 i, .int .i64 ((k : Int) - i)]) (results_cell_row (hu := Tryz.underlying124) (h := rfl) (hp := rfl) (hg := hB3) (hd := rfl) (hi := by kernel_rfl)) rfl ⟨oneT_of i _ _ _ (by first | rfl | (rw [if_pos H18.out]; rfl)) (by show _ = ((R : Nat) : Int); have := HK.out; omega), hb3⟩
     ·have h19 : (18 : Int) < (k : Int) - (i : Int) := by omega
      have HK := Lib.hid hkR
      have H18 := Lib.hid h18
      clear h18 hkR
      go_wp2_with fail
      have hB3 : Blk (w.alloc (.cells #[.int .i64 8, .int .i64 i, .int .i64 ((k : Int) - i)] 124)) w.heap.size 124 #[.int .i64 8, .int .i64 i, .int .i64 ((k : Int) - i)] := Blk.new _ _ _
      have hb3 : Below w.heap.size w (w.alloc (.cells #[.int .i64 8, .int .i64 i, .int .i64 ((k : Int) - i)] 124)) := (Below.refl _ _).alloc (Nat.le_refl _) _
      exact bodyPost_ret (v := .agg #[.int .i64 8, .int .i64 i, .int .i64 ((k : Int) - i)]) (results_cell_row (hu := Tryz.underlying124) (h := rfl) (hp := rfl) (hg := hB3) (hd := rfl) (hi := by kernel_rfl)) rfl ⟨oneT_of i _ _ _ (by first | rfl | (rw [if_neg H18.out]; rfl)) (by show _ = ((R : Nat) : Int); have := HK.out; omega), hb3⟩
  ·have hkR : k = i + R := by have := H.out; rw [show k = s.length by omega, tw_end] at this; omega
   have j1 : ¬ (k : Int) < (s.length : Int) := by omega
   clear H HR
   by_cases h18 : R ≤ 18
   ·have h19 : ¬ (18 : Int) < (k : Int) - (i : Int) := by omega
    have HK := Lib.hid hkR
    have H18 := Lib.hid h18
    clear h18 hkR
    go_wp2_with fail
    have hB3 : Blk (w.alloc (.cells #[.int .i64 5, .int .i64 i, .int .i64 ((k : Int) - i)] 124)) w.heap.size 124 #[.int .i64 5, .int .i64 i, .int .i64 ((k : Int) - i)] := Blk.new _ _ _
    have hb3 : Below w.heap.size w (w.alloc (.cells #[.int .i64 5, .int .i64 i, .int .i64 ((k : Int) - i)] 124)) := (Below.refl _ _).alloc (Nat.le_refl _) _
    exact bodyPost_ret (v := .agg #[.int .i64 5, .int .i64 i, .int .i64 ((k : Int) - i)]) (results_cell_row (hu := Tryz.underlying124) (h := rfl) (hp := rfl) (hg := hB3) (hd := rfl) (hi := by kernel_rfl)) rfl ⟨oneT_of i _ _ _ (by first | rfl | (rw [if_pos H18.out]; rfl)) (by show _ = ((R : Nat) : Int); have := HK.out; omega), hb3⟩
   ·have h19 : (18 : Int) < (k : Int) - (i : Int) := by omega
    have HK := Lib.hid hkR
    have H18 := Lib.hid h18
    clear h18 hkR
    go_wp2_with fail
    have hB3 : Blk (w.alloc (.cells #[.int .i64 8, .int .i64 i, .int .i64 ((k : Int) - i)] 124)) w.heap.size 124 #[.int .i64 8, .int .i64 i, .int .i64 ((k : Int) - i)] := Blk.new _ _ _
    have hb3 : Below w.heap.size w (w.alloc (.cells #[.int .i64 8, .int .i64 i, .int .i64 ((k : Int) - i)] 124)) := (Below.refl _ _).alloc (Nat.le_refl _) _
    exact bodyPost_ret (v := .agg #[.int .i64 8, .int .i64 i, .int .i64 ((k : Int) - i)]) (results_cell_row (hu := Tryz.underlying124) (h := rfl) (hp := rfl) (hg := hB3) (hd := rfl) (hi := by kernel_rfl)) rfl ⟨oneT_of i _ _ _ (by first | rfl | (rw [if_neg H18.out]; rfl)) (by show _ = ((R : Nat) : Int); have := HK.out; omega), hb3⟩
end
end Go.Proofs.YtalklmeejdmifaaGreatDoor
