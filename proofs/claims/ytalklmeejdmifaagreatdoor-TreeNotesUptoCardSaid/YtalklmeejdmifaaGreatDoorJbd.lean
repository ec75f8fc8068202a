/-
  JOINED of the texts UD UB
-/
import Derived.Test.YtalklmeejdmifaaGreatDoorJbb
import Derived.Test.YtalklmeejdmifaaGreatDoorJbc
import Derived.Deep.DeepCutAuto
import Derived.Deep.RegionHeld3
import Derived.Lib.IndexMore
import Derived.Lib.Strings
import Derived.Test.YtalklmeejdmifaaGreatDoorRows
import Derived.WalkKit
import Derived.WalkSpells
import Derived.WalkLawsBesides
import Derived.Below
import Derived.Laws.OwnMore
import Derived.Deep.AppendLies
import Derived.Deep.Draws
import Derived.Lib.Hide
import Derived.Deep.QuietTactic
import Derived.BigQuiet
import Derived.IntWalk
import Derived.Lib.ConvBytes
import Derived.Laws.Strings3
import Derived.Laws.Closers25
import Derived.Laws.Closers25b
import Derived.BigCall
import Derived.BigGuard
import Derived.Test.YtalklmeejdmifaaGreatDoorShelfX
import Derived.Shelf.Spec.BytesIndexFunc
import Derived.Lib.RuneBytes
import Derived.Test.YtalklmeejdmifaaGreatDoorShelfW
import Derived.Shelf.Strings.SlTrimAscii
import Derived.Lib.LaidTab
import Derived.Lib.AtoiAll
import Derived.Lib.IndexLaws
import Derived.Lib.SlTrimSet
import Derived.Lib.ItoaNum
import Derived.Lib.Atoi
import Derived.Test.YtalklmeejdmifaaGreatDoorJba
/-
  WALKS of the document's tokens (package amanuensisref2): Escape, whole.
-/
namespace Go.Proofs.YtalklmeejdmifaaGreatDoor
open Go.RowKit

theorem esc_head (s : Bs) (i : Nat) (h : i + 1 < s.length) : Lx.escM (s.drop (i + 1)) = if s[i + 1] = 110 then some (10, 1) else if s[i + 1] = 116 then some (9, 1) else if s[i + 1] = 34 ∨ s[i + 1] = 92 then some (s[i + 1].toNat, 1) else if s[i + 1] = 117 then (Lx.codeM (s.drop (i + 2))).map fun x => (x.1, x.2 + 1) else none := by
  rw [List.drop_eq_getElem_cons h]; rfl
theorem byte_of {s : Bs} {k : Nat} (h : k < s.length) {a : UInt8} (e : s[k] = a) : (((⟨s.toArray⟩ : ByteArray)[k]'(by rw [mk_size]; exact h)).toNat : Int) = (a.toNat : Int) := by
  rw [show ((⟨s.toArray⟩ : ByteArray)[k]'(by rw [mk_size]; exact h)).toNat = s[k].toNat from rfl, e]

set_option maxHeartbeats 2000000 in
set_option maxRecDepth 100000 in
theorem resc_walk (s : Bs) (i : Nat) (w : World) (hi : i < s.length) (hl : s.length ≤ 100000000) :
    Calls Tryz.prog 160 #[.string ⟨s.toArray⟩, .int .i64 i] w fun e w' => e = .returned (rescV (Lx.escM (s.drop (i + 1)))) ∧ w' = w := by
  have j0 : (0 : Int) ≤ (i : Int) := by omega
  by_cases h1 : i + 1 < s.length
  · have j3 : (i : Int) + 1 < (s.length : Int) := by omega
    have j1 : ¬ (s.length : Int) ≤ (i : Int) + 1 := by omega
    rw [esc_head s i h1]
    have en := bk_eq s (i + 1) h1 110
    have et := bk_eq s (i + 1) h1 116
    have eq := bk_eq s (i + 1) h1 34
    have eb := bk_eq s (i + 1) h1 92
    have eu := bk_eq s (i + 1) h1 117
    rw [show (((117 : UInt8).toNat : Nat) : Int) = 117 from rfl] at eu
    rw [show (((110 : UInt8).toNat : Nat) : Int) = 110 from rfl] at en
    rw [show (((116 : UInt8).toNat : Nat) : Int) = 116 from rfl] at et
    rw [show (((34 : UInt8).toNat : Nat) : Int) = 34 from rfl] at eq
    rw [show (((92 : UInt8).toNat : Nat) : Int) = 92 from rfl] at eb
    have hby : (((⟨s.toArray⟩ : ByteArray)[i + 1]'(by rw [mk_size]; exact h1)).toNat : Int) < 256 := by
      have := UInt8.toNat_lt ((⟨s.toArray⟩ : ByteArray)[i + 1]'(by rw [mk_size]; exact h1))
      omega
    by_cases g1 : s[i + 1] = 110
    · rw [if_pos g1]
      rw [decide_eq_true g1] at en
      clear et eq eb eu g1
      go_enter Tryz.func160, Tryz.ntmps160
      go_wp2_with fail
      go_ret2
      exact ⟨rfl, rfl⟩
    · rw [if_neg g1]
      rw [decide_eq_false g1] at en
      by_cases g2 : s[i + 1] = 116
      · rw [if_pos g2]
        rw [decide_eq_true g2] at et
        clear eq eb eu g1 g2
        go_enter Tryz.func160, Tryz.ntmps160
        go_wp2_with fail
        go_ret2
        exact ⟨rfl, rfl⟩
      · rw [if_neg g2]
        rw [decide_eq_false g2] at et
        by_cases g3 : s[i + 1] = 34
        · rw [if_pos (.inl g3)]
          rw [decide_eq_true g3] at eq
          have hv := Lib.hid (byte_of h1 g3)
          rw [g3]
          clear eb eu g1 g2 g3
          go_enter Tryz.func160, Tryz.ntmps160
          go_wp2_with fail
          go_ret2
          exact ⟨by rw [hv.out]; rfl, rfl⟩
        · rw [decide_eq_false g3] at eq
          by_cases g4 : s[i + 1] = 92
          · rw [if_pos (.inr g4)]
            rw [decide_eq_true g4] at eb
            have hv := Lib.hid (byte_of h1 g4)
            rw [g4]
            clear eu g1 g2 g3 g4
            go_enter Tryz.func160, Tryz.ntmps160
            go_wp2_with fail
            go_ret2
            exact ⟨by rw [hv.out]; rfl, rfl⟩
          · rw [decide_eq_false g4] at eb
            rw [if_neg (by rintro (h | h); exact g3 h; exact g4 h)]
            by_cases g5 : s[i + 1] = 117
            · rw [if_pos g5]
              by_cases h2 : i + 2 < s.length
              · by_cases g6 : s[i + 2] = 123
                · have := esc_code_walk s i w h2 g5 g6 hl
                  rw [List.drop_eq_getElem_cons h2, g6]
                  exact this
                · rw [Lx.code_no (s.drop (i + 2)) (by rw [List.drop_eq_getElem_cons h2]; intro e; injection e with e; exact g6 e)]
                  have eo := bk_eq s (i + 2) h2 123
                  rw [show (((123 : UInt8).toNat : Nat) : Int) = 123 from rfl, decide_eq_false g6] at eo
                  rw [decide_eq_true g5] at eu
                  have nu : ((((⟨s.toArray⟩ : ByteArray)[i + 1]'(by rw [mk_size]; omega)).toNat : Int) != 117) = false := by rw [bne, eu]; rfl
                  have no : ((((⟨s.toArray⟩ : ByteArray)[i + 2]'(by rw [mk_size]; omega)).toNat : Int) != 123) = true := by rw [bne, eo]; rfl
                  have j4 : (i : Int) + 2 < (s.length : Int) := by omega
                  have j2 : ¬ (s.length : Int) ≤ (i : Int) + 2 := by omega
                  clear g1 g2 g3 g4 g5 g6 eo eu
                  go_enter Tryz.func160, Tryz.ntmps160
                  go_wp2_with fail
                  go_ret2
                  exact ⟨rfl, rfl⟩
              · rw [Lx.code_no (s.drop (i + 2)) (by rw [List.drop_of_length_le (by omega)]; simp)]
                rw [decide_eq_true g5] at eu
                have nu : ((((⟨s.toArray⟩ : ByteArray)[i + 1]'(by rw [mk_size]; omega)).toNat : Int) != 117) = false := by rw [bne, eu]; rfl
                have j2 : (s.length : Int) ≤ (i : Int) + 2 := by omega
                clear g1 g2 g3 g4 g5 eu
                go_enter Tryz.func160, Tryz.ntmps160
                go_wp2_with fail
                go_ret2
                exact ⟨rfl, rfl⟩
            · rw [if_neg g5]
              rw [decide_eq_false g5] at eu
              have nu : ((((⟨s.toArray⟩ : ByteArray)[i + 1]'(by rw [mk_size]; omega)).toNat : Int) != 117) = true := by rw [bne, eu]; rfl
              clear g1 g2 g3 g4 g5 eu
              go_enter Tryz.func160, Tryz.ntmps160
              go_wp2_with fail
              go_ret2
              exact ⟨rfl, rfl⟩
  · rw [List.drop_of_length_le (by omega)]
    have j1 : (s.length : Int) ≤ (i : Int) + 1 := by omega
    clear h1
    go_enter Tryz.func160, Tryz.ntmps160
    go_wp2_with fail
    go_ret2
    exact ⟨rfl, rfl⟩

/-- a character at a place -/
theorem rune_at (s : Bs) (k : Nat) (hk : k < s.length) (w : World) : Calls Tryz.prog 116 #[.string ((⟨s.toArray⟩ : ByteArray).extract k s.length)] w fun e w' => e = .returned (.tuple #[.int .i64 (dec (s.drop k)).1, .int .i64 (dec (s.drop k)).2]) ∧ w' = w := by
  rw [show Value.string ((⟨s.toArray⟩ : ByteArray).extract k s.length) = .string ⟨(s.drop k).toArray⟩ from ext_drop s k]
  refine (rrune_walk ⟨(s.drop k).toArray⟩ w (by rw [mk_size, List.length_drop]; omega)).mono fun e w' h => ⟨h.1, h.2.symm⟩

/-- the kind of a text -/
def kindT : Bool → Int
  | true => 6
  | false => 8
/-- what quoted answers -/
def quotV (i : Nat) (X : Nat × Bool × Bool) : Value := .tuple #[.int .i64 ((i + 1 + X.1 : Nat) : Int), .int .i64 (kindT (X.2.1 && X.2.2))]

set_option maxHeartbeats 4000000 in
set_option maxRecDepth 100000 in
theorem quoted_walk (s : Bs) (i : Nat) (w : World) (hi : i < s.length) (hl : s.length ≤ 100000000) :
    Calls Tryz.prog 127 #[.string ⟨s.toArray⟩, .int .i64 i] w fun e w' => e = .returned (quotV i (Lx.textM (s.drop (i + 1)))) ∧ w' = w := by
  generalize hX : Lx.textM (s.drop (i + 1)) = X
  have HX : Hid (X = Lx.textR true (s.drop (i + 1))) := by show _ = _; rw [← hX]; rfl
  clear hX
  go_enter Tryz.func127, Tryz.ntmps127
  go_wp2_with fail
  go_loop [1, 6] (fun iv kv => ∃ (k : Nat) (b : Bool), iv = .int .i64 k ∧ kv = .int .i64 (kindT b) ∧ i + 1 ≤ k ∧ k ≤ s.length ∧ Hid (X = ((Lx.textR b (s.drop k)).1 + (k - (i + 1)), (Lx.textR b (s.drop k)).2))) (fun iv _ => s.length - (intOf iv).toNat)
  case atStart => exact ⟨i + 1, true, by go_num, rfl, by omega, by omega, by show _ = _; rw [HX.out]; simp⟩
  case round =>
    obtain ⟨k, b, rfl, rfl, hk1, hk2, H⟩ := hrel
    have i0 : (0 : Int) ≤ (k : Int) := by omega
    by_cases hlt : k < s.length
    · have i1 : (k : Int) < (s.length : Int) := by omega
      have hdk : s.drop k = s[k] :: s.drop (k + 1) := List.drop_eq_getElem_cons hlt
      have e10 := bk_eq s k hlt 10
      have e34 := bk_eq s k hlt 34
      have e92 := bk_eq s k hlt 92
      rw [show (((10 : UInt8).toNat : Nat) : Int) = 10 from rfl] at e10
      rw [show (((34 : UInt8).toNat : Nat) : Int) = 34 from rfl] at e34
      rw [show (((92 : UInt8).toNat : Nat) : Int) = 92 from rfl] at e92
      have Hd := Lib.hid hdk
      clear hdk
      by_cases g1 : s[k] = 10
      · rw [decide_eq_true g1] at e10
        have n10 : ((((⟨s.toArray⟩ : ByteArray)[k]'(by rw [mk_size]; exact hlt)).toNat : Int) != 10) = false := by rw [bne, e10]; rfl
        have hE : Hid (X = (0 + (k - (i + 1)), false, b)) := by
          show _ = _
          have h2 := H.out
          rw [Hd.out, g1, Lx.textR_end] at h2
          exact h2
        clear e34 e92 e10 g1 H HX
        go_wp2_with fail
        go_ret2
        rw [hE.out]
        refine ⟨?_, rfl⟩
        show _ = Ending.returned (.tuple #[.int .i64 ((i + 1 + (0 + (k - (i + 1))) : Nat) : Int), .int .i64 8])
        rw [show ((i + 1 + (0 + (k - (i + 1))) : Nat) : Int) = (k : Int) by omega]; rfl
      · rw [decide_eq_false g1] at e10
        have n10 : ((((⟨s.toArray⟩ : ByteArray)[k]'(by rw [mk_size]; exact hlt)).toNat : Int) != 10) = true := by rw [bne, e10]; rfl
        by_cases g2 : s[k] = 34
        · rw [decide_eq_true g2] at e34
          have hE : Hid (X = (1 + (k - (i + 1)), true, b)) := by
            show _ = _
            have h2 := H.out
            rw [Hd.out, g2, Lx.textR_shut] at h2
            exact h2
          clear e92 e10 g1 g2 H HX
          go_wp2_with fail
          go_ret2
          rw [hE.out]
          refine ⟨?_, rfl⟩
          show _ = Ending.returned (.tuple #[.int .i64 ((i + 1 + (1 + (k - (i + 1))) : Nat) : Int), .int .i64 (kindT (true && b))])
          rw [show ((i + 1 + (1 + (k - (i + 1))) : Nat) : Int) = (k : Int) + 1 by omega]; rfl
        · rw [decide_eq_false g2] at e34
          by_cases g3 : s[k] = 92
          · rw [decide_eq_true g3] at e92
            have hes := resc_walk s k w hlt hl
            cases hesc : Lx.escM (s.drop (k + 1)) with
            | some x =>
              obtain ⟨c, n⟩ := x
              obtain ⟨q1, q2, _⟩ := Lx.esc_le _ _ _ hesc
              rw [List.length_drop] at q2
              have hE : Hid (X = ((Lx.textR b (s.drop (k + 1 + n))).1 + (k + 1 + n - (i + 1)), (Lx.textR b (s.drop (k + 1 + n))).2)) := by
                show _ = _
                have h2 := H.out
                rw [Hd.out, g3, Lx.textR_esc b _ c n hesc, List.drop_drop] at h2
                rw [h2]
                refine Prod.ext ?_ rfl
                simp only
                omega
              rw [hesc] at hes
              have hes : Calls Tryz.prog 160 _ w fun e w' => e = .returned (.tuple #[.int .i64 c, .int .i64 ((n + 1 : Nat) : Int)]) ∧ w' = w := hes
              have n0 : (0 : Int) < ((n + 1 : Nat) : Int) := by omega
              clear e10 g1 g2 g3 H HX hesc Hd
              go_wp2_with fail
              refine hes.mono ?_
              clear hes
              rintro e w2 ⟨rfl, rfl⟩
              go_wp2_with fail
              go_round
              case rel => exact ⟨k + 1 + n, b, by congr 1; omega, rfl, by omega, by omega, hE⟩
              case measure => simp [intOf]; omega
            | none =>
              rw [hesc] at hes
              have hes : Calls Tryz.prog 160 _ w fun e w' => e = .returned (.tuple #[.int .i64 0, .int .i64 0]) ∧ w' = w := hes
              have h2 := H.out
              rw [Hd.out, g3, Lx.textR_bad b _ hesc _ rfl] at h2
              by_cases hend : k + 1 < s.length
              · have hne : s.drop (k + 1) ≠ [] := by intro e; have := congrArg List.length e; simp at this; omega
                have hd := fun w => rune_at s (k + 1) hend w
                have hsz := (dec_size (s.drop (k + 1))).1
                have hle := dec_le (s.drop (k + 1)) hne
                rw [List.length_drop] at hle
                have hby : byteAt (s.drop (k + 1)) 0 = s[k + 1].toNat := by
                  unfold byteAt
                  rw [List.getElem?_drop]
                  show (s[k + 1]?.getD 0).toNat = _
                  rw [List.getElem?_eq_getElem hend]; rfl
                have x10 := bk_eq s (k + 1) hend 10
                rw [show (((10 : UInt8).toNat : Nat) : Int) = 10 from rfl] at x10
                have j2 : (k : Int) + 1 < (s.length : Int) := by omega
                by_cases q10 : s[k + 1] = 10
                · rw [decide_eq_true q10] at x10
                  rw [if_pos (.inr (by rw [hby, q10]; rfl)), List.drop_zero, List.drop_eq_getElem_cons hend, q10, Lx.textR_end] at h2
                  have hE : Hid (X = (0 + (1 + 0) + (k - (i + 1)), false, false)) := h2
                  clear e10 g1 g2 g3 H HX hesc Hd h2 hle hby q10 hne hd hsz
                  go_wp2_with fail
                  refine hes.mono ?_
                  clear hes
                  rintro e w2 ⟨rfl, rfl⟩
                  go_wp2_with fail
                  go_ret2
                  rw [hE.out]
                  refine ⟨?_, rfl⟩
                  show _ = Ending.returned (.tuple #[.int .i64 ((i + 1 + (0 + (1 + 0) + (k - (i + 1))) : Nat) : Int), .int .i64 8])
                  rw [show ((i + 1 + (0 + (1 + 0) + (k - (i + 1))) : Nat) : Int) = (k : Int) + 1 by omega]; rfl
                · rw [decide_eq_false q10] at x10
                  rw [if_neg (by
                    rintro (h | h)
                    · exact hne (List.isEmpty_iff.1 h)
                    · rw [hby] at h; exact q10 (UInt8.toNat_inj.1 (show s[k + 1].toNat = 10 from h))), List.drop_drop] at h2
                  have hE : Hid (X = ((Lx.textR false (s.drop (k + 1 + (dec (s.drop (k + 1))).2))).1 + (k + 1 + (dec (s.drop (k + 1))).2 - (i + 1)), (Lx.textR false (s.drop (k + 1 + (dec (s.drop (k + 1))).2))).2)) := by
                    show _ = _
                    rw [h2]
                    refine Prod.ext ?_ rfl
                    simp only
                    omega
                  generalize dec (s.drop (k + 1)) = D at *
                  obtain ⟨c, z⟩ := D
                  simp only at hd hsz hle hE
                  have Hdd := Lib.hid hd
                  clear e10 g1 g2 g3 H HX hesc Hd h2 hby q10 hne hd
                  go_wp2_with fail
                  refine hes.mono ?_
                  clear hes
                  rintro e w2 ⟨rfl, rfl⟩
                  go_wp2_with fail
                  refine (Hdd.out _).mono ?_
                  clear Hdd
                  rintro e w3 ⟨rfl, rfl⟩
                  go_wp2_with fail
                  go_round
                  case rel => exact ⟨k + 1 + z, false, by go_num, rfl, by omega, by omega, hE⟩
                  case measure => simp [intOf]; omega
              · have he0 : s.drop (k + 1) = [] := List.drop_of_length_le (by omega)
                rw [he0, if_pos (.inl rfl), List.drop_nil, Lx.textR_nil] at h2
                have hE : Hid (X = (0 + (1 + 0) + (k - (i + 1)), false, false)) := h2
                have j2 : (s.length : Int) ≤ (k : Int) + 1 := by omega
                clear e10 g1 g2 g3 H HX hesc Hd h2 he0 hend
                go_wp2_with fail
                refine hes.mono ?_
                clear hes
                rintro e w2 ⟨rfl, rfl⟩
                go_wp2_with fail
                go_ret2
                rw [hE.out]
                refine ⟨?_, rfl⟩
                show _ = Ending.returned (.tuple #[.int .i64 ((i + 1 + (0 + (1 + 0) + (k - (i + 1))) : Nat) : Int), .int .i64 8])
                rw [show ((i + 1 + (0 + (1 + 0) + (k - (i + 1))) : Nat) : Int) = (k : Int) + 1 by omega]; rfl
          · rw [decide_eq_false g3] at e92
            have hne : s.drop k ≠ [] := by intro e; have := congrArg List.length e; simp at this; omega
            have hE : Hid (X = ((Lx.textR b (s.drop (k + (dec (s.drop k)).2))).1 + (k + (dec (s.drop k)).2 - (i + 1)), (Lx.textR b (s.drop (k + (dec (s.drop k)).2))).2)) := by
              show _ = _
              have h2 := H.out
              rw [Lx.textR_char b (s.drop k) ⟨s[k], by rw [List.getElem?_drop]; exact List.getElem?_eq_getElem hlt, g1, g2, g3⟩, List.drop_drop] at h2
              rw [h2]
              refine Prod.ext ?_ rfl
              simp only
              omega
            have hd := fun w => rune_at s k hlt w
            have hsz := (dec_size (s.drop k)).1
            have hle := dec_le (s.drop k) hne
            rw [List.length_drop] at hle
            generalize dec (s.drop k) = D at *
            obtain ⟨c, z⟩ := D
            simp only at hd hsz hle hE
            have Hdd := Lib.hid hd
            clear e10 g1 g2 g3 H HX Hd hne hd
            go_wp2_with fail
            refine (Hdd.out _).mono ?_
            clear Hdd
            rintro e w3 ⟨rfl, rfl⟩
            go_wp2_with fail
            go_round
            case rel => exact ⟨k + z, b, by go_num, rfl, by omega, by omega, hE⟩
            case measure => simp [intOf]; omega
    · obtain rfl : k = s.length := by omega
      have hE : Hid (X = (0 + (s.length - (i + 1)), false, b)) := by
        show _ = _
        have h2 := H.out
        rw [List.drop_length, Lx.textR_nil] at h2
        exact h2
      clear H HX
      go_wp2_with fail
      go_ret2
      rw [hE.out]
      refine ⟨?_, rfl⟩
      show _ = Ending.returned (.tuple #[.int .i64 ((i + 1 + (0 + (s.length - (i + 1))) : Nat) : Int), .int .i64 8])
      rw [show ((i + 1 + (0 + (s.length - (i + 1))) : Nat) : Int) = (s.length : Int) by omega]; rfl
end Go.Proofs.YtalklmeejdmifaaGreatDoor
/-
  WALKS of the document's tokens (package amanuensisref2): nested.
-/
namespace Go.Proofs.YtalklmeejdmifaaGreatDoor
open Go.RowKit

theorem rem_open (d : Nat) (l : Bs) (h : [123, 45].isPrefixOf l = true) : Lx.remM d l = (Lx.remM (d + 1) (l.drop 2)).map (· + 2) := by
  obtain ⟨t, rfl⟩ := Lx.prefix_two h
  rw [Lx.remM, if_pos ⟨rfl, rfl⟩]; rfl
theorem rem_shut (d : Nat) (l : Bs) (h : [45, 125].isPrefixOf l = true) : Lx.remM d l = if d = 1 then some 2 else (Lx.remM (d - 1) (l.drop 2)).map (· + 2) := by
  obtain ⟨t, rfl⟩ := Lx.prefix_two h
  rw [Lx.remM, if_neg (by decide), if_pos ⟨rfl, rfl⟩]; rfl
theorem rem_else (d : Nat) (l : Bs) (h1 : [123, 45].isPrefixOf l = false) (h2 : [45, 125].isPrefixOf l = false) : Lx.remM d l = (Lx.remM d (l.drop 1)).map (· + 1) := by
  rcases l with _ | ⟨a, _ | ⟨b, t⟩⟩
  · simp [Lx.remM]
  · simp [Lx.remM]
  · rw [Lx.remM, if_neg, if_neg]
    · rfl
    · rintro ⟨rfl, rfl⟩; simp [List.isPrefixOf] at h2
    · rintro ⟨rfl, rfl⟩; simp [List.isPrefixOf] at h1

/-- what nested answers -/
def nestV (n i : Nat) : Option Nat → Value
  | some k => .tuple #[.int .i64 ((i + 2 + k : Nat) : Int), .bool true]
  | none => .tuple #[.int .i64 n, .bool false]

set_option maxHeartbeats 2000000 in
set_option maxRecDepth 100000 in
theorem nested_walk (s : Bs) (i : Nat) (w : World) (hs : [123, 45].isPrefixOf (s.drop i) = true) (hl : s.length ≤ 100000000) :
    Calls Tryz.prog 125 #[.string ⟨s.toArray⟩, .int .i64 i] w fun e w' => e = .returned (nestV s.length i (Lx.remM 1 (s.drop (i + 2)))) ∧ w' = w := by
  have hi2 : i + 2 ≤ s.length := by
    obtain ⟨t, ht⟩ := Lx.prefix_two hs
    have := congrArg List.length ht
    rw [List.length_drop] at this
    simp at this
    omega
  have hho : ∀ k, k ≤ s.length → ∀ w, Calls Tryz.prog 124 #[.string ⟨s.toArray⟩, .int .i64 k, .int .u8 123, .int .u8 45] w fun e w' => e = .returned (.bool ([123, 45].isPrefixOf (s.drop k))) ∧ w' = w := fun k hk w => has_walk s k 123 45 w hl hk
  have hhs : ∀ k, k ≤ s.length → ∀ w, Calls Tryz.prog 124 #[.string ⟨s.toArray⟩, .int .i64 k, .int .u8 45, .int .u8 125] w fun e w' => e = .returned (.bool ([45, 125].isPrefixOf (s.drop k))) ∧ w' = w := fun k hk w => has_walk s k 45 125 w hl hk
  generalize hR : Lx.remM 1 (s.drop (i + 2)) = R
  have HR := Lib.hid hR
  have Hs := Lib.hid hs
  clear hR hs
  go_enter Tryz.func125, Tryz.ntmps125
  go_wp2_with fail
  go_loop [1, 6] (fun iv dv => ∃ k d : Nat, iv = .int .i64 k ∧ dv = .int .i64 d ∧ k ≤ s.length ∧ d ≤ k ∧ ((k = i ∧ d = 0) ∨ (1 ≤ d ∧ i + 2 ≤ k ∧ Hid (R = (Lx.remM d (s.drop k)).map (· + (k - (i + 2))))))) (fun iv _ => s.length - (intOf iv).toNat)
  case atStart => exact ⟨i, 0, rfl, rfl, by omega, by omega, .inl ⟨rfl, rfl⟩⟩
  case round =>
    obtain ⟨k, d, rfl, rfl, hk, hdk, H⟩ := hrel
    have h1 := hho k hk
    have h2 := hhs k hk
    rcases H with ⟨rfl, rfl⟩ | ⟨hd1, hik, H⟩
    · rw [Hs.out] at h1
      generalize [(45 : UInt8), 125].isPrefixOf (s.drop k) = q at *
      have hlt : (k : Int) < (s.length : Int) := by omega
      go_wp2_with fail
      refine (h1 _).mono ?_
      rintro e w' ⟨rfl, rfl⟩
      go_wp2_with fail
      refine (h2 _).mono ?_
      rintro e w' ⟨rfl, rfl⟩
      go_wp2_with fail
      go_round
      case rel => exact ⟨k + 2, 1, by go_num, by go_num, by omega, by omega, .inr ⟨by omega, by omega, by show _ = _; rw [← HR.out]; simp⟩⟩
      case measure => simp [intOf]; omega
    · by_cases hlt : k < s.length
      · have i1 : (k : Int) < (s.length : Int) := by omega
        cases ho : [(123 : UInt8), 45].isPrefixOf (s.drop k) with
        | true =>
          have hN : Hid (R = (Lx.remM (d + 1) (s.drop (k + 2))).map (· + (k + 2 - (i + 2)))) := by
            show _ = _
            rw [H.out, rem_open d _ ho, List.drop_drop, Option.map_map]
            congr 1
            funext x
            simp only [Function.comp]
            omega
          have hk2 : k + 2 ≤ s.length := by
            obtain ⟨t, ht⟩ := Lx.prefix_two ho
            have := congrArg List.length ht
            rw [List.length_drop] at this
            simp at this
            omega
          rw [ho] at h1
          generalize [(45 : UInt8), 125].isPrefixOf (s.drop k) = q at *
          clear ho H
          go_wp2_with fail
          refine (h1 _).mono ?_
          rintro e w' ⟨rfl, rfl⟩
          go_wp2_with fail
          refine (h2 _).mono ?_
          rintro e w' ⟨rfl, rfl⟩
          go_wp2_with fail
          go_round
          case rel => exact ⟨k + 2, d + 1, by go_num, by go_num, by omega, by omega, .inr ⟨by omega, by omega, hN⟩⟩
          case measure => simp [intOf]; omega
        | false =>
          rw [ho] at h1
          cases hq : [(45 : UInt8), 125].isPrefixOf (s.drop k) with
          | true =>
            rw [hq] at h2
            have hk2 : k + 2 ≤ s.length := by
              obtain ⟨t, ht⟩ := Lx.prefix_two hq
              have := congrArg List.length ht
              rw [List.length_drop] at this
              simp at this
              omega
            have h3 := H.out
            rw [rem_shut d _ hq, List.drop_drop] at h3
            by_cases hd : d = 1
            · rw [if_pos hd] at h3
              have hN : Hid (R = some (2 + (k - (i + 2)))) := h3
              subst hd
              clear h3 ho hq H
              go_wp2_with fail
              refine (h1 _).mono ?_
              rintro e w' ⟨rfl, rfl⟩
              go_wp2_with fail
              refine (h2 _).mono ?_
              rintro e w' ⟨rfl, rfl⟩
              go_wp2_with fail
              go_ret2
              rw [hN.out]
              refine ⟨?_, rfl⟩
              show _ = Ending.returned (.tuple #[.int .i64 ((i + 2 + (2 + (k - (i + 2))) : Nat) : Int), .bool true])
              rw [show ((i + 2 + (2 + (k - (i + 2))) : Nat) : Int) = (k : Int) + 2 by omega]; rfl
            · rw [if_neg hd] at h3
              have hN : Hid (R = (Lx.remM (d - 1) (s.drop (k + 2))).map (· + (k + 2 - (i + 2)))) := by
                show _ = _
                rw [h3, Option.map_map]
                congr 1
                funext x
                simp only [Function.comp]
                omega
              have e1 : ((d : Int) - 1 == 0) = false := by simp; omega
              clear h3 ho hq H
              go_wp2_with fail
              refine (h1 _).mono ?_
              rintro e w' ⟨rfl, rfl⟩
              go_wp2_with fail
              refine (h2 _).mono ?_
              rintro e w' ⟨rfl, rfl⟩
              go_wp2_with fail
              go_round
              case rel => exact ⟨k + 2, d - 1, by go_num, by congr 1; omega, by omega, by omega, .inr ⟨by omega, by omega, hN⟩⟩
              case measure => simp [intOf]; omega
          | false =>
            rw [hq] at h2
            have hN : Hid (R = (Lx.remM d (s.drop (k + 1))).map (· + (k + 1 - (i + 2)))) := by
              show _ = _
              rw [H.out, rem_else d _ ho hq, List.drop_drop, Option.map_map]
              congr 1
              funext x
              simp only [Function.comp]
              omega
            clear ho hq H
            go_wp2_with fail
            refine (h1 _).mono ?_
            rintro e w' ⟨rfl, rfl⟩
            go_wp2_with fail
            refine (h2 _).mono ?_
            rintro e w' ⟨rfl, rfl⟩
            go_wp2_with fail
            go_round
            case rel => exact ⟨k + 1, d, by go_num, rfl, by omega, by omega, .inr ⟨by omega, by omega, hN⟩⟩
            case measure => simp [intOf]; omega
      · obtain rfl : k = s.length := by omega
        have hN : Hid (R = none) := by
          show _ = _
          rw [H.out, List.drop_length]; rfl
        clear H h1 h2
        go_wp2_with fail
        go_ret2
        rw [hN.out]
        exact ⟨rfl, rfl⟩
end Go.Proofs.YtalklmeejdmifaaGreatDoor
