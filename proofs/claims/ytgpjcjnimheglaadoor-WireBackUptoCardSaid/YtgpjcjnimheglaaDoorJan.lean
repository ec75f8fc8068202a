/-
  JOINED of the texts VG UD PQ PP
-/
import Derived.Test.YtgpjcjnimheglaaDoorJac
import Derived.Lib.BufferRead
import Derived.Deep.DeepCutAuto
import Derived.Deep.RegionHeld3
import Derived.Lib.IndexMore
import Derived.Lib.Strings
import Derived.Test.YtgpjcjnimheglaaDoorRows
import Derived.WalkKit
import Derived.WalkSpells
import Derived.WalkLawsBesides
import Derived.Below
import Derived.Laws.OwnMore
import Derived.Deep.AppendLies
import Derived.Deep.Draws
import Derived.Lib.Hide
import Derived.Deep.QuietTactic
import Derived.BigQuiet
import Derived.IntWalk
import Derived.Lib.ConvBytes
import Derived.Laws.Strings3
import Derived.Laws.Closers25
import Derived.Laws.Closers25b
import Derived.BigCall
import Derived.BigGuard
import Derived.Test.YtgpjcjnimheglaaDoorShelfX
import Derived.Shelf.Spec.BytesIndexFunc
import Derived.Lib.RuneBytes
import Derived.Test.YtgpjcjnimheglaaDoorShelfW
import Derived.Shelf.Strings.SlTrimAscii
import Derived.Lib.LaidTab
import Derived.Lib.AtoiAll
import Derived.Lib.IndexLaws
import Derived.Lib.SlTrimSet
import Derived.Lib.ItoaNum
import Derived.Lib.Atoi
import Derived.WalkMore
import Derived.ScopeJumps
import Derived.Test.YtgpjcjnimheglaaDoorShelf
import Derived.Shelf.Strings.Builder1
import Derived.Test.YtgpjcjnimheglaaDoorJaa
import Derived.Test.YtgpjcjnimheglaaDoorJal
import Derived.Test.YtgpjcjnimheglaaDoorJab
import Derived.Test.YtgpjcjnimheglaaDoorJam
import Derived.Test.YtgpjcjnimheglaaDoorShelfP
import Derived.ProofKit
import Derived.OpenShut
import Derived.JoinedCond
import Derived.Deep.Slices
import Derived.Deep.Fields
import Derived.ChangeSame
import Derived.SliceStrings
/-
  WALKS of package lex: Quote.
-/
namespace Go.Proofs.YtgpjcjnimheglaaDoor
open Go.RowKit

theorem ba_app (a b : Bs) : ((⟨a.toArray⟩ : ByteArray) ++ ⟨b.toArray⟩) = ⟨(a ++ b).toArray⟩ := by
  apply ByteArray.ext
  rw [ByteArray.data_append]
  simp
theorem ext_one (s : Bs) (i : Nat) (h : i < s.length) : (⟨s.toArray⟩ : ByteArray).extract i (i + 1) = ⟨[s[i]].toArray⟩ := by
  have := ext_str s i (i + 1)
  unfold strV at this
  injection this with this
  rw [this, List.drop_take, Nat.add_sub_cancel_left, List.drop_eq_getElem_cons h]
  rfl

end Go.Proofs.YtgpjcjnimheglaaDoor
/-
  WALKS of the document's tokens (package amanuensisref2): Escape, whole.
-/
namespace Go.Proofs.YtgpjcjnimheglaaDoor
open Go.RowKit

theorem esc_head (s : Bs) (i : Nat) (h : i + 1 < s.length) : Lx.escM (s.drop (i + 1)) = if s[i + 1] = 110 then some (10, 1) else if s[i + 1] = 116 then some (9, 1) else if s[i + 1] = 34 ∨ s[i + 1] = 92 then some (s[i + 1].toNat, 1) else if s[i + 1] = 117 then (Lx.codeM (s.drop (i + 2))).map fun x => (x.1, x.2 + 1) else none := by
  rw [List.drop_eq_getElem_cons h]; rfl
theorem byte_of {s : Bs} {k : Nat} (h : k < s.length) {a : UInt8} (e : s[k] = a) : (((⟨s.toArray⟩ : ByteArray)[k]'(by rw [mk_size]; exact h)).toNat : Int) = (a.toNat : Int) := by
  rw [show ((⟨s.toArray⟩ : ByteArray)[k]'(by rw [mk_size]; exact h)).toNat = s[k].toNat from rfl, e]

/-- the kind of a text -/
def kindT : Bool → Int
  | true => 6
  | false => 8
/-- what quoted answers -/
def quotV (i : Nat) (X : Nat × Bool × Bool) : Value := .tuple #[.int .i64 ((i + 1 + X.1 : Nat) : Int), .int .i64 (kindT (X.2.1 && X.2.2))]

end Go.Proofs.YtgpjcjnimheglaaDoor
/-
  WALKS: quoting in messages (package wire; package amanuensisref11).
-/
namespace Go.Proofs.YtgpjcjnimheglaaDoor
open Go.RowKit

theorem jqu_ways (a : UInt8) : (a = 34 ∧ jquB a = [92, 34]) ∨ (a = 92 ∧ jquB a = [92, 92]) ∨ (a = 10 ∧ jquB a = [92, 110]) ∨ (a = 13 ∧ jquB a = [92, 114]) ∨ (a = 9 ∧ jquB a = [92, 116]) ∨ (a ≠ 10 ∧ a ≠ 13 ∧ a ≠ 9 ∧ a.toNat < 32 ∧ jquB a = [92, 117, 48, 48, Lx.hexD (a.toNat / 16), Lx.hexD (a.toNat % 16)]) ∨ (32 ≤ a.toNat ∧ a ≠ 34 ∧ a ≠ 92 ∧ jquB a = [a]) := by
  have h : ∀ i : Fin 256, let a := UInt8.ofNat i.val; (a = 34 ∧ jquB a = [92, 34]) ∨ (a = 92 ∧ jquB a = [92, 92]) ∨ (a = 10 ∧ jquB a = [92, 110]) ∨ (a = 13 ∧ jquB a = [92, 114]) ∨ (a = 9 ∧ jquB a = [92, 116]) ∨ (a ≠ 10 ∧ a ≠ 13 ∧ a ≠ 9 ∧ a.toNat < 32 ∧ jquB a = [92, 117, 48, 48, Lx.hexD (a.toNat / 16), Lx.hexD (a.toNat % 16)]) ∨ (32 ≤ a.toNat ∧ a ≠ 34 ∧ a ≠ 92 ∧ jquB a = [a]) := by decide +kernel
  have := h ⟨a.toNat, a.toNat_lt⟩
  simpa using this
theorem and15b (n : Nat) (h : n < 256) : bits .and .u8 (n : Int) 15 = (n : Int) % 16 := by
  have h2 : ∀ i : Fin 256, bits .and .u8 (i.val : Int) 15 = (i.val : Int) % 16 := by decide +kernel
  exact h2 ⟨n, h⟩

set_option maxHeartbeats 4000000 in
set_option maxRecDepth 100000 in
theorem ljquote_walk (s : Bs) (w : World) (hD : DB w) (hl : s.length ≤ 16777216) :
    Calls Tryd.prog 18 #[.string ⟨s.toArray⟩] w fun e w' => e = .returned (.string ⟨(jquM s).toArray⟩) ∧ Below w.heap.size w w' := by
  generalize hU : jquM s = U
  have HU : Hid (U = [34] ++ (jquI s ++ [34])) := by show _ = _; rw [← hU]; rfl
  clear hU
  have hI0 := IsB.fresh w
  have hb0 : Below w.heap.size w (w.alloc (.cells #[.pointer none, .slice none 0 0] 37)) := (Below.refl _ _).alloc (Nat.le_refl _) _
  go_enter Tryd.func18, Tryd.ntmps18
  go_wp2_with fail
  have hw1 : Calls Tryd.prog 19 #[.pointer (some ⟨w.heap.size, 0, none⟩), .int .u8 34] (w.alloc (.cells #[.pointer none, .slice none 0 0] 37)) _ := writeByte_walk hI0 34 (by simp) (by simp)
  refine hw1.mono ?_
  clear hw1
  rintro e w1 ⟨rfl, hI1, hb1, hk1⟩
  have hb1 := hb0.trans hb1
  clear hI0 hb0 hk1
  go_wp2_with fail
  go_loopw [9] (fun iv wr => ∃ (i : Nat) (done : Bs), iv = .int .i64 i ∧ i ≤ s.length ∧ done.length ≤ 1 + 6 * i ∧ IsB w.heap.size w.heap.size done wr ∧ Below w.heap.size w wr ∧ Hid (U = done ++ (jquI (s.drop i) ++ [34]))) (fun iv _ => s.length - (intOf iv).toNat)
  case atStart => exact ⟨0, [34], rfl, by omega, by simp, hI1, hb1, HU⟩
  case round =>
    obtain ⟨i, done, rfl, hi, hdl, hI, hb, HX⟩ := hrel
    have hbs := hb.size
    clear hI1 hb1
    by_cases hlt : i < s.length
    · have j0 : (0 : Int) ≤ (i : Int) := by omega
      have j1 : (i : Int) < (s.length : Int) := by omega
      have j2 : (i : Int) + 1 ≤ (s.length : Int) := by omega
      have HX2 : Hid (U = (done ++ jquB s[i]) ++ (jquI (s.drop (i + 1)) ++ [34])) := by
        show _ = _
        rw [HX.out, List.drop_eq_getElem_cons hlt]
        simp only [jquI, List.flatMap_cons, List.append_assoc]
      have hql := jquB_len s[i]
      have hww := jqu_ways s[i]
      have hby : (((⟨s.toArray⟩ : ByteArray)[i]'(by rw [mk_size]; exact hlt)).toNat : Int) = (s[i].toNat : Int) := byte_of hlt rfl
      have Hby := Lib.hid hby
      have Hone := Lib.hid (ext_one s i hlt)
      generalize s[i] = a at *
      clear HX hby
      have hD2 := hD.below (hb.mono (Nat.le_refl _))
      have hwr := fun (x : Bs) (hx : jquB a = x) => writeStr_walk hI x (by rw [← hx]; omega) hbs
      rcases hww with ⟨rfl, hq⟩ | ⟨rfl, hq⟩ | ⟨rfl, hq⟩ | ⟨rfl, hq⟩ | ⟨rfl, hq⟩ | ⟨h10, h13, h9, h32, hq⟩ | ⟨h32, h34, h92, hq⟩
      · have hb0 : (((⟨s.toArray⟩ : ByteArray)[i]'(by rw [mk_size]; exact hlt)).toNat : Int) = 34 := Hby.out
        have hws : Calls Tryd.prog 15 #[.pointer (some ⟨w.heap.size, 0, none⟩), .string ((⟨#[92]⟩ : ByteArray) ++ (⟨s.toArray⟩ : ByteArray).extract i (i + 1))] wr fun e w' => e = .returned (.tuple #[.int .i64 (([92, 34] : Bs).length : Nat), .nilIface]) ∧ IsB w.heap.size w.heap.size (done ++ [92, 34]) w' ∧ Below w.heap.size wr w' ∧ KeepX [37, 5] wr w' := by rw [Hone.out]; exact hwr [92, 34] hq
        have HQ := Lib.hid hq
        clear hq hwr
        go_wp2_with fail
        refine hws.mono ?_
        clear hws
        rintro e w2 ⟨rfl, hI2, hb2, hk2⟩
        have hb2 := hb.trans hb2
        go_wp2_with fail
        go_roundw
        case rel => exact ⟨i + 1, done ++ jquB 34, by go_num, by omega, by rw [List.length_append]; omega, by rw [HQ.out]; exact hI2, hb2, HX2⟩
        case measure => simp [intOf]; omega
      · have hb0 : (((⟨s.toArray⟩ : ByteArray)[i]'(by rw [mk_size]; exact hlt)).toNat : Int) = 92 := Hby.out
        have hws : Calls Tryd.prog 15 #[.pointer (some ⟨w.heap.size, 0, none⟩), .string ((⟨#[92]⟩ : ByteArray) ++ (⟨s.toArray⟩ : ByteArray).extract i (i + 1))] wr fun e w' => e = .returned (.tuple #[.int .i64 (([92, 92] : Bs).length : Nat), .nilIface]) ∧ IsB w.heap.size w.heap.size (done ++ [92, 92]) w' ∧ Below w.heap.size wr w' ∧ KeepX [37, 5] wr w' := by rw [Hone.out]; exact hwr [92, 92] hq
        have HQ := Lib.hid hq
        clear hq hwr
        go_wp2_with fail
        refine hws.mono ?_
        clear hws
        rintro e w2 ⟨rfl, hI2, hb2, hk2⟩
        have hb2 := hb.trans hb2
        go_wp2_with fail
        go_roundw
        case rel => exact ⟨i + 1, done ++ jquB 92, by go_num, by omega, by rw [List.length_append]; omega, by rw [HQ.out]; exact hI2, hb2, HX2⟩
        case measure => simp [intOf]; omega
      · have hb0 : (((⟨s.toArray⟩ : ByteArray)[i]'(by rw [mk_size]; exact hlt)).toNat : Int) = 10 := Hby.out
        have hws : Calls Tryd.prog 15 #[.pointer (some ⟨w.heap.size, 0, none⟩), .string ⟨#[92, 110]⟩] wr fun e w' => e = .returned (.tuple #[.int .i64 (([92, 110] : Bs).length : Nat), .nilIface]) ∧ IsB w.heap.size w.heap.size (done ++ [92, 110]) w' ∧ Below w.heap.size wr w' ∧ KeepX [37, 5] wr w' := hwr [92, 110] hq
        have HQ := Lib.hid hq
        clear hq hwr
        go_wp2_with fail
        refine hws.mono ?_
        clear hws
        rintro e w2 ⟨rfl, hI2, hb2, hk2⟩
        have hb2 := hb.trans hb2
        go_wp2_with fail
        go_roundw
        case rel => exact ⟨i + 1, done ++ jquB 10, by go_num, by omega, by rw [List.length_append]; omega, by rw [HQ.out]; exact hI2, hb2, HX2⟩
        case measure => simp [intOf]; omega
      · have hb0 : (((⟨s.toArray⟩ : ByteArray)[i]'(by rw [mk_size]; exact hlt)).toNat : Int) = 13 := Hby.out
        have hws : Calls Tryd.prog 15 #[.pointer (some ⟨w.heap.size, 0, none⟩), .string ⟨#[92, 114]⟩] wr fun e w' => e = .returned (.tuple #[.int .i64 (([92, 114] : Bs).length : Nat), .nilIface]) ∧ IsB w.heap.size w.heap.size (done ++ [92, 114]) w' ∧ Below w.heap.size wr w' ∧ KeepX [37, 5] wr w' := hwr [92, 114] hq
        have HQ := Lib.hid hq
        clear hq hwr
        go_wp2_with fail
        refine hws.mono ?_
        clear hws
        rintro e w2 ⟨rfl, hI2, hb2, hk2⟩
        have hb2 := hb.trans hb2
        go_wp2_with fail
        go_roundw
        case rel => exact ⟨i + 1, done ++ jquB 13, by go_num, by omega, by rw [List.length_append]; omega, by rw [HQ.out]; exact hI2, hb2, HX2⟩
        case measure => simp [intOf]; omega
      · have hb0 : (((⟨s.toArray⟩ : ByteArray)[i]'(by rw [mk_size]; exact hlt)).toNat : Int) = 9 := Hby.out
        have hws : Calls Tryd.prog 15 #[.pointer (some ⟨w.heap.size, 0, none⟩), .string ⟨#[92, 116]⟩] wr fun e w' => e = .returned (.tuple #[.int .i64 (([92, 116] : Bs).length : Nat), .nilIface]) ∧ IsB w.heap.size w.heap.size (done ++ [92, 116]) w' ∧ Below w.heap.size wr w' ∧ KeepX [37, 5] wr w' := hwr [92, 116] hq
        have HQ := Lib.hid hq
        clear hq hwr
        go_wp2_with fail
        refine hws.mono ?_
        clear hws
        rintro e w2 ⟨rfl, hI2, hb2, hk2⟩
        have hb2 := hb.trans hb2
        go_wp2_with fail
        go_roundw
        case rel => exact ⟨i + 1, done ++ jquB 9, by go_num, by omega, by rw [List.length_append]; omega, by rw [HQ.out]; exact hI2, hb2, HX2⟩
        case measure => simp [intOf]; omega
      · have hb0 : (((⟨s.toArray⟩ : ByteArray)[i]'(by rw [mk_size]; exact hlt)).toNat : Int) = (a.toNat : Int) := Hby.out
        have e34 : ((a.toNat : Int) == 34) = false := by simp; omega
        have e92 : ((a.toNat : Int) == 92) = false := by simp; omega
        have e10 : ((a.toNat : Int) == 10) = false := by simp; exact fun e => h10 (UInt8.toNat_inj.1 (show a.toNat = 10 by omega))
        have e13 : ((a.toNat : Int) == 13) = false := by simp; exact fun e => h13 (UInt8.toNat_inj.1 (show a.toNat = 13 by omega))
        have e9 : ((a.toNat : Int) == 9) = false := by simp; exact fun e => h9 (UInt8.toNat_inj.1 (show a.toNat = 9 by omega))
        have l32 : (a.toNat : Int) < 32 := by omega
        have ha := and15b a.toNat a.toNat_lt
        have hqx : jquB a = [92, 117, 48, 48] ++ Lx.hexS (a.toNat / 16) ++ Lx.hexS (a.toNat % 16) := by rw [hq]; unfold Lx.hexS; rw [if_pos (by omega), if_pos (by omega)]; rfl
        have hxl : (Lx.hexS (a.toNat / 16)).length ≤ 6 := (Lx.ctl_fin ⟨a.toNat / 16, by have := a.toNat_lt; omega⟩).2.2.1
        have hyl : (Lx.hexS (a.toNat % 16)).length ≤ 6 := (Lx.ctl_fin ⟨a.toNat % 16, by omega⟩).2.2.1
        have hf1 := fun (w : World) (h : DB w) => fmt16_walk (a.toNat / 16) w (by have := a.toNat_lt; omega) h
        have hf2 := fun (w : World) (h : DB w) => fmt16_walk (a.toNat % 16) w (by omega) h
        rw [show ((a.toNat / 16 : Nat) : Int) = (a.toNat : Int) / 16 by omega] at hf1
        rw [show ((a.toNat % 16 : Nat) : Int) = (a.toNat : Int) % 16 by omega] at hf2
        generalize Lx.hexS (a.toNat / 16) = X at *
        generalize Lx.hexS (a.toNat % 16) = Y at *
        have HQ := Lib.hid hqx
        clear hq hqx hwr
        go_wp2_with fail
        refine (hf1 _ hD2).mono ?_
        clear hf1
        rintro e w3 ⟨rfl, hb3⟩
        have hI3 := hI.below' hb3
        have hD3 := hD2.below hb3
        have hb3 := hb.trans (hb3.mono hbs)
        have hbs3 := hb3.size
        go_wp2_with fail
        refine (hf2 _ hD3).mono ?_
        clear hf2
        rintro e w4 ⟨rfl, hb4⟩
        have hI4 := hI3.below' hb4
        have hb4 := hb3.trans (hb4.mono hbs3)
        have hbs4 := hb4.size
        have hws : Calls Tryd.prog 15 #[.pointer (some ⟨w.heap.size, 0, none⟩), .string ((⟨#[92, 117, 48, 48]⟩ : ByteArray) ++ ⟨X.toArray⟩ ++ ⟨Y.toArray⟩)] w4 fun e w' => e = .returned (.tuple #[.int .i64 ((([92, 117, 48, 48] ++ X ++ Y) : Bs).length : Nat), .nilIface]) ∧ IsB w.heap.size w.heap.size (done ++ ([92, 117, 48, 48] ++ X ++ Y)) w' ∧ Below w.heap.size w4 w' ∧ KeepX [37, 5] w4 w' := by
          have h := writeStr_walk hI4 ([92, 117, 48, 48] ++ X ++ Y) (by have := hql; rw [HQ.out] at this; omega) hbs4
          rw [← ba_app, ← ba_app] at h
          exact h
        go_wp2_with fail
        refine hws.mono ?_
        clear hws
        rintro e w2 ⟨rfl, hI2, hb2, hk2⟩
        have hb2 := hb4.trans hb2
        go_wp2_with fail
        go_roundw
        case rel => exact ⟨i + 1, done ++ jquB a, by go_num, by omega, by rw [List.length_append]; omega, by rw [HQ.out]; exact hI2, hb2, HX2⟩
        case measure => simp [intOf]; omega
      · have hb0 : (((⟨s.toArray⟩ : ByteArray)[i]'(by rw [mk_size]; exact hlt)).toNat : Int) = (a.toNat : Int) := Hby.out
        have e34 : ((a.toNat : Int) == 34) = false := by simp; exact fun e => h34 (UInt8.toNat_inj.1 (show a.toNat = 34 by omega))
        have e92 : ((a.toNat : Int) == 92) = false := by simp; exact fun e => h92 (UInt8.toNat_inj.1 (show a.toNat = 92 by omega))
        have e10 : ((a.toNat : Int) == 10) = false := by simp; omega
        have e13 : ((a.toNat : Int) == 13) = false := by simp; omega
        have e9 : ((a.toNat : Int) == 9) = false := by simp; omega
        have l32 : ¬ (a.toNat : Int) < 32 := by omega
        have hws := writeByte_walk hI a (by omega) hbs
        have HQ := Lib.hid hq
        clear hq hwr
        go_wp2_with fail
        refine hws.mono ?_
        clear hws
        rintro e w2 ⟨rfl, hI2, hb2, hk2⟩
        have hb2 := hb.trans hb2
        go_wp2_with fail
        go_roundw
        case rel => exact ⟨i + 1, done ++ jquB a, by go_num, by omega, by rw [List.length_append]; omega, by rw [HQ.out]; exact hI2, hb2, HX2⟩
        case measure => simp [intOf]; omega
    · obtain rfl : i = s.length := by omega
      have hUd : Hid (U = done ++ [34]) := by show _ = _; rw [HX.out, List.drop_length]; rfl
      have hws : Calls Tryd.prog 19 #[.pointer (some ⟨w.heap.size, 0, none⟩), .int .u8 34] wr _ := writeByte_walk hI 34 (by omega) hbs
      clear HX
      go_wp2_with fail
      refine hws.mono ?_
      clear hws
      rintro e w2 ⟨rfl, hI2, hb2, hk2⟩
      have hb2 := hb.trans hb2
      go_wp2_with fail
      refine (bString_walk hI2 hb2.size).mono ?_
      rintro e w3 ⟨rfl, hb3⟩
      go_wp2_with fail
      go_ret
      rw [hUd.out]
      exact ⟨rfl, hb2.trans hb3⟩
end Go.Proofs.YtgpjcjnimheglaaDoor
/-
  WALKS of package wire: print, of values without parts; what is wrong.
-/
namespace Go.Proofs.YtgpjcjnimheglaaDoor
open Go.RowKit

theorem DB.keep {w w' : World} {B : Nat} (h : DB w) (hb : Below B w w') (hB : 5 < B) : DB w' := (hb.cell (p := ⟨5, 15, none⟩) hB).trans h
theorem IsB.base {B b : Nat} {l : Bs} {w : World} (h : IsB B b l w) : B ≤ b := by rcases h with h | h <;> exact h.1
/-- what print leaves -/
def PrP (B0 b : Nat) (w : World) (bs : Bs) (W : Nat) (X : Nat × Bs) (e : Ending) (w' : World) : Prop :=
  e = .returned (.int .i64 X.1) ∧ ∃ bs', IsB B0 b bs' w' ∧ bs'.length ≤ bs.length + W ∧ (X.1 = 0 → bs' = bs ++ X.2) ∧ Below B0 w w' ∧ KeepX [37, 5] w w'
/-- what print finds -/
structure PrI (B0 b : Nat) (w : World) (bs : Bs) : Prop where
  I : IsB B0 b bs w
  T : Tab10 w
  D : DB w
  gT : 1 < B0
  gD : 5 < B0
theorem PrI.size {B0 b : Nat} {w : World} {bs : Bs} (h : PrI B0 b w bs) : B0 ≤ w.heap.size := Nat.le_trans h.I.base (Nat.le_of_lt h.I.lt)
theorem PrI.alloc {B0 b : Nat} {w : World} {bs : Bs} (h : PrI B0 b w bs) (o : Obj) : PrI B0 b (w.alloc o) bs :=
  ⟨h.I.alloc o, h.T.below ((Below.refl B0 _).alloc h.size o) h.gT, h.D.keep ((Below.refl B0 _).alloc h.size o) h.gD, h.gT, h.gD⟩
theorem PrI.below {B0 b : Nat} {w w' : World} {bs : Bs} (h : PrI B0 b w bs) (hb : Below w.heap.size w w') : PrI B0 b w' bs :=
  ⟨h.I.below' hb, h.T.below hb (Nat.lt_of_lt_of_le h.gT h.size), h.D.below hb, h.gT, h.gD⟩
theorem PrI.next {B0 b : Nat} {w w' : World} {bs bs' : Bs} (h : PrI B0 b w bs) (hI : IsB B0 b bs' w') (hb : Below B0 w w') : PrI B0 b w' bs' :=
  ⟨hI, h.T.below hb h.gT, h.D.keep hb h.gD, h.gT, h.gD⟩

section
variable (kind num : Int) (t : Bs) (keys : List Bs) (kids : List JT) (Ak Ad : Option Addr) (ck cd dp B0 b : Nat) (bs : Bs) (w : World)

set_option maxHeartbeats 4000000 in
set_option maxRecDepth 100000 in
theorem print_bad (hP : PrI B0 b w bs) (h1 : (-9223372036854775808 : Int) ≤ num ∧ (num : Int) ≤ 9223372036854775807) (hk : keys.length ≤ 16777216) (hd : kids.length ≤ 16777216) (hR : rightB kind num t keys.length kids.length = false) :
    Calls Tryd.prog 7 #[jPV kind num t keys.length kids.length Ak Ad ck cd, .int .i64 dp, .pointer (some ⟨b, 0, none⟩)] w (PrP B0 b w bs 0 (3, [])) := by
  have hrt := fun (w1 : World) (hT : Tab10 w1) => right_walk kind num t keys.length kids.length Ak Ad ck cd w1 hT h1.1 h1.2 hk hd
  rw [hR] at hrt
  have hP1 := hP.alloc (.cells #[.int .i64 kind, .int .i64 num, .string ⟨t.toArray⟩, .slice Ak keys.length ck, .slice Ad kids.length cd] 25)
  have hz := hP.size
  have hb1 : Below B0 w (w.alloc (.cells #[.int .i64 kind, .int .i64 num, .string ⟨t.toArray⟩, .slice Ak keys.length ck, .slice Ad kids.length cd] 25)) := (Below.refl _ _).alloc hz _
  have hk1 : KeepX [37, 5] w (w.alloc (.cells #[.int .i64 kind, .int .i64 num, .string ⟨t.toArray⟩, .slice Ak keys.length ck, .slice Ad kids.length cd] 25)) := (KeepX.refl _ _).alloc _
  have hBk1 : Blk (w.alloc (.cells #[.int .i64 kind, .int .i64 num, .string ⟨t.toArray⟩, .slice Ak keys.length ck, .slice Ad kids.length cd] 25)) w.heap.size 25 #[.int .i64 kind, .int .i64 num, .string ⟨t.toArray⟩, .slice Ak keys.length ck, .slice Ad kids.length cd] := Blk.new _ _ _
  clear hR
  go_enter Tryd.func7, Tryd.ntmps7
  go_wp2_with fail
  refine (hrt _ hP1.T).mono ?_
  clear hrt
  rintro e w2 ⟨rfl, hbr⟩
  have hP2 := hP1.below hbr
  have hz2 := hP2.size
  have hb2 := hb1.trans (hbr.mono (by have := hP1.size; exact this))
  have hk2 := hk1.below hbr (Nat.le_refl _)
  have hBk2 := hBk1.below hbr hBk1.lt
  have b0 := hBk2.cell 0
  have b1 := hBk2.cell 1
  have b2 := hBk2.cell 2
  have b3 := hBk2.cell 3
  have b4 := hBk2.cell 4
  simp at b0 b1 b2 b3 b4
  clear hP1 hbr hb1 hk1 hBk1 hP
  go_wp2_with fail
  go_ret
  exact ⟨rfl, bs, hP2.I, by omega, (fun h => by cases h), hb2, hk2⟩

set_option maxHeartbeats 4000000 in
set_option maxRecDepth 100000 in
theorem print_full (hP : PrI B0 b w bs) (h1 : (-9223372036854775808 : Int) ≤ num ∧ (num : Int) ≤ 9223372036854775807) (hk : keys.length ≤ 16777216) (hd : kids.length ≤ 16777216) (hR : rightB kind num t keys.length kids.length = true) (hK : kind = 4 ∨ kind = 5) (hdp : dp = 40) :
    Calls Tryd.prog 7 #[jPV kind num t keys.length kids.length Ak Ad ck cd, .int .i64 dp, .pointer (some ⟨b, 0, none⟩)] w (PrP B0 b w bs 0 (12, [])) := by
  have hk4 : (4 : Int) ≤ kind := by omega
  have hd40 : (40 : Int) ≤ (dp : Int) := by omega
  clear hK hdp
  have hrt := fun (w1 : World) (hT : Tab10 w1) => right_walk kind num t keys.length kids.length Ak Ad ck cd w1 hT h1.1 h1.2 hk hd
  rw [hR] at hrt
  have hP1 := hP.alloc (.cells #[.int .i64 kind, .int .i64 num, .string ⟨t.toArray⟩, .slice Ak keys.length ck, .slice Ad kids.length cd] 25)
  have hz := hP.size
  have hb1 : Below B0 w (w.alloc (.cells #[.int .i64 kind, .int .i64 num, .string ⟨t.toArray⟩, .slice Ak keys.length ck, .slice Ad kids.length cd] 25)) := (Below.refl _ _).alloc hz _
  have hk1 : KeepX [37, 5] w (w.alloc (.cells #[.int .i64 kind, .int .i64 num, .string ⟨t.toArray⟩, .slice Ak keys.length ck, .slice Ad kids.length cd] 25)) := (KeepX.refl _ _).alloc _
  have hBk1 : Blk (w.alloc (.cells #[.int .i64 kind, .int .i64 num, .string ⟨t.toArray⟩, .slice Ak keys.length ck, .slice Ad kids.length cd] 25)) w.heap.size 25 #[.int .i64 kind, .int .i64 num, .string ⟨t.toArray⟩, .slice Ak keys.length ck, .slice Ad kids.length cd] := Blk.new _ _ _
  clear hR
  go_enter Tryd.func7, Tryd.ntmps7
  go_wp2_with fail
  refine (hrt _ hP1.T).mono ?_
  clear hrt
  rintro e w2 ⟨rfl, hbr⟩
  have hP2 := hP1.below hbr
  have hz2 := hP2.size
  have hb2 := hb1.trans (hbr.mono (by have := hP1.size; exact this))
  have hk2 := hk1.below hbr (Nat.le_refl _)
  have hBk2 := hBk1.below hbr hBk1.lt
  have b0 := hBk2.cell 0
  have b1 := hBk2.cell 1
  have b2 := hBk2.cell 2
  have b3 := hBk2.cell 3
  have b4 := hBk2.cell 4
  simp at b0 b1 b2 b3 b4
  clear hP1 hbr hb1 hk1 hBk1 hP
  go_wp2_with fail
  go_ret
  exact ⟨rfl, bs, hP2.I, by omega, (fun h => by cases h), hb2, hk2⟩

set_option maxHeartbeats 4000000 in
set_option maxRecDepth 100000 in
theorem print_null (hP : PrI B0 b w bs) (h1 : (-9223372036854775808 : Int) ≤ num ∧ (num : Int) ≤ 9223372036854775807) (hk : keys.length ≤ 16777216) (hd : kids.length ≤ 16777216) (_hl : bs.length ≤ 1000000000) (hR : rightB 0 num t keys.length kids.length = true) :
    Calls Tryd.prog 7 #[jPV 0 num t keys.length kids.length Ak Ad ck cd, .int .i64 dp, .pointer (some ⟨b, 0, none⟩)] w (PrP B0 b w bs 4 (0, [110, 117, 108, 108])) := by
  have hd40 : ((40 : Int) ≤ (dp : Int)) ∨ ¬ ((40 : Int) ≤ (dp : Int)) := by omega
  rcases hd40 with hd40 | hd40
  all_goals
    have hrt := fun (w1 : World) (hT : Tab10 w1) => right_walk 0 num t keys.length kids.length Ak Ad ck cd w1 hT h1.1 h1.2 hk hd
    rw [hR] at hrt
    have hP1 := hP.alloc (.cells #[.int .i64 0, .int .i64 num, .string ⟨t.toArray⟩, .slice Ak keys.length ck, .slice Ad kids.length cd] 25)
    have hz := hP.size
    have hb1 : Below B0 w (w.alloc (.cells #[.int .i64 0, .int .i64 num, .string ⟨t.toArray⟩, .slice Ak keys.length ck, .slice Ad kids.length cd] 25)) := (Below.refl _ _).alloc hz _
    have hk1 : KeepX [37, 5] w (w.alloc (.cells #[.int .i64 0, .int .i64 num, .string ⟨t.toArray⟩, .slice Ak keys.length ck, .slice Ad kids.length cd] 25)) := (KeepX.refl _ _).alloc _
    have hBk1 : Blk (w.alloc (.cells #[.int .i64 0, .int .i64 num, .string ⟨t.toArray⟩, .slice Ak keys.length ck, .slice Ad kids.length cd] 25)) w.heap.size 25 #[.int .i64 0, .int .i64 num, .string ⟨t.toArray⟩, .slice Ak keys.length ck, .slice Ad kids.length cd] := Blk.new _ _ _
    clear hR
    go_enter Tryd.func7, Tryd.ntmps7
    go_wp2_with fail
    refine (hrt _ hP1.T).mono ?_
    clear hrt
    rintro e w2 ⟨rfl, hbr⟩
    have hP2 := hP1.below hbr
    have hz2 := hP2.size
    have hb2 := hb1.trans (hbr.mono (by have := hP1.size; exact this))
    have hk2 := hk1.below hbr (Nat.le_refl _)
    have hBk2 := hBk1.below hbr hBk1.lt
    have b0 := hBk2.cell 0
    have b1 := hBk2.cell 1
    have b2 := hBk2.cell 2
    have b3 := hBk2.cell 3
    have b4 := hBk2.cell 4
    simp at b0 b1 b2 b3 b4
    clear hP1 hbr hb1 hk1 hBk1 hP
    have hws : Calls Tryd.prog 15 #[.pointer (some ⟨b, 0, none⟩), .string ⟨#[110, 117, 108, 108]⟩] w2 _ := writeStr_walk hP2.I [110, 117, 108, 108] (by simp; omega) hz2
    go_wp2_with fail
    refine hws.mono ?_
    clear hws
    rintro e w4 ⟨rfl, hI4, hb4, hk4⟩
    have hBk4 := hBk2.keep hk4 (by decide)
    have d0 := hBk4.cell 0
    simp at d0
    go_wp2_with fail
    go_ret
    exact ⟨rfl, _, hI4, by simp; try omega, fun _ => rfl, hb2.trans hb4, hk2.trans hk4⟩

set_option maxHeartbeats 4000000 in
set_option maxRecDepth 100000 in
theorem print_no (hP : PrI B0 b w bs) (h1 : (-9223372036854775808 : Int) ≤ 0 ∧ (0 : Int) ≤ 9223372036854775807) (hk : keys.length ≤ 16777216) (hd : kids.length ≤ 16777216) (_hl : bs.length ≤ 1000000000) (hR : rightB 1 0 t keys.length kids.length = true) :
    Calls Tryd.prog 7 #[jPV 1 0 t keys.length kids.length Ak Ad ck cd, .int .i64 dp, .pointer (some ⟨b, 0, none⟩)] w (PrP B0 b w bs 5 (0, [102, 97, 108, 115, 101])) := by
  have hd40 : ((40 : Int) ≤ (dp : Int)) ∨ ¬ ((40 : Int) ≤ (dp : Int)) := by omega
  rcases hd40 with hd40 | hd40
  all_goals
    have hrt := fun (w1 : World) (hT : Tab10 w1) => right_walk 1 0 t keys.length kids.length Ak Ad ck cd w1 hT h1.1 h1.2 hk hd
    rw [hR] at hrt
    have hP1 := hP.alloc (.cells #[.int .i64 1, .int .i64 0, .string ⟨t.toArray⟩, .slice Ak keys.length ck, .slice Ad kids.length cd] 25)
    have hz := hP.size
    have hb1 : Below B0 w (w.alloc (.cells #[.int .i64 1, .int .i64 0, .string ⟨t.toArray⟩, .slice Ak keys.length ck, .slice Ad kids.length cd] 25)) := (Below.refl _ _).alloc hz _
    have hk1 : KeepX [37, 5] w (w.alloc (.cells #[.int .i64 1, .int .i64 0, .string ⟨t.toArray⟩, .slice Ak keys.length ck, .slice Ad kids.length cd] 25)) := (KeepX.refl _ _).alloc _
    have hBk1 : Blk (w.alloc (.cells #[.int .i64 1, .int .i64 0, .string ⟨t.toArray⟩, .slice Ak keys.length ck, .slice Ad kids.length cd] 25)) w.heap.size 25 #[.int .i64 1, .int .i64 0, .string ⟨t.toArray⟩, .slice Ak keys.length ck, .slice Ad kids.length cd] := Blk.new _ _ _
    clear hR
    go_enter Tryd.func7, Tryd.ntmps7
    go_wp2_with fail
    refine (hrt _ hP1.T).mono ?_
    clear hrt
    rintro e w2 ⟨rfl, hbr⟩
    have hP2 := hP1.below hbr
    have hz2 := hP2.size
    have hb2 := hb1.trans (hbr.mono (by have := hP1.size; exact this))
    have hk2 := hk1.below hbr (Nat.le_refl _)
    have hBk2 := hBk1.below hbr hBk1.lt
    have b0 := hBk2.cell 0
    have b1 := hBk2.cell 1
    have b2 := hBk2.cell 2
    have b3 := hBk2.cell 3
    have b4 := hBk2.cell 4
    simp at b0 b1 b2 b3 b4
    clear hP1 hbr hb1 hk1 hBk1 hP
    have hfb : Calls Tryd.prog 16 #[.bool false] w2 fun e w' => e = .returned (.string ⟨#[102, 97, 108, 115, 101]⟩) ∧ w' = w2 := Tryd.strconv_FormatBool false w2
    have hws : Calls Tryd.prog 15 #[.pointer (some ⟨b, 0, none⟩), .string ⟨#[102, 97, 108, 115, 101]⟩] w2 _ := writeStr_walk hP2.I [102, 97, 108, 115, 101] (by simp; omega) hz2
    go_wp2_with fail
    refine hfb.mono ?_
    clear hfb
    rintro e w3 ⟨rfl, rfl⟩
    go_wp2_with fail
    refine hws.mono ?_
    clear hws
    rintro e w4 ⟨rfl, hI4, hb4, hk4⟩
    have hBk4 := hBk2.keep hk4 (by decide)
    have d0 := hBk4.cell 0
    simp at d0
    go_wp2_with fail
    go_ret
    exact ⟨rfl, _, hI4, by simp; try omega, fun _ => rfl, hb2.trans hb4, hk2.trans hk4⟩

set_option maxHeartbeats 4000000 in
set_option maxRecDepth 100000 in
theorem print_yes (hP : PrI B0 b w bs) (h1 : (-9223372036854775808 : Int) ≤ 1 ∧ (1 : Int) ≤ 9223372036854775807) (hk : keys.length ≤ 16777216) (hd : kids.length ≤ 16777216) (_hl : bs.length ≤ 1000000000) (hR : rightB 1 1 t keys.length kids.length = true) :
    Calls Tryd.prog 7 #[jPV 1 1 t keys.length kids.length Ak Ad ck cd, .int .i64 dp, .pointer (some ⟨b, 0, none⟩)] w (PrP B0 b w bs 5 (0, [116, 114, 117, 101])) := by
  have hd40 : ((40 : Int) ≤ (dp : Int)) ∨ ¬ ((40 : Int) ≤ (dp : Int)) := by omega
  rcases hd40 with hd40 | hd40
  all_goals
    have hrt := fun (w1 : World) (hT : Tab10 w1) => right_walk 1 1 t keys.length kids.length Ak Ad ck cd w1 hT h1.1 h1.2 hk hd
    rw [hR] at hrt
    have hP1 := hP.alloc (.cells #[.int .i64 1, .int .i64 1, .string ⟨t.toArray⟩, .slice Ak keys.length ck, .slice Ad kids.length cd] 25)
    have hz := hP.size
    have hb1 : Below B0 w (w.alloc (.cells #[.int .i64 1, .int .i64 1, .string ⟨t.toArray⟩, .slice Ak keys.length ck, .slice Ad kids.length cd] 25)) := (Below.refl _ _).alloc hz _
    have hk1 : KeepX [37, 5] w (w.alloc (.cells #[.int .i64 1, .int .i64 1, .string ⟨t.toArray⟩, .slice Ak keys.length ck, .slice Ad kids.length cd] 25)) := (KeepX.refl _ _).alloc _
    have hBk1 : Blk (w.alloc (.cells #[.int .i64 1, .int .i64 1, .string ⟨t.toArray⟩, .slice Ak keys.length ck, .slice Ad kids.length cd] 25)) w.heap.size 25 #[.int .i64 1, .int .i64 1, .string ⟨t.toArray⟩, .slice Ak keys.length ck, .slice Ad kids.length cd] := Blk.new _ _ _
    clear hR
    go_enter Tryd.func7, Tryd.ntmps7
    go_wp2_with fail
    refine (hrt _ hP1.T).mono ?_
    clear hrt
    rintro e w2 ⟨rfl, hbr⟩
    have hP2 := hP1.below hbr
    have hz2 := hP2.size
    have hb2 := hb1.trans (hbr.mono (by have := hP1.size; exact this))
    have hk2 := hk1.below hbr (Nat.le_refl _)
    have hBk2 := hBk1.below hbr hBk1.lt
    have b0 := hBk2.cell 0
    have b1 := hBk2.cell 1
    have b2 := hBk2.cell 2
    have b3 := hBk2.cell 3
    have b4 := hBk2.cell 4
    simp at b0 b1 b2 b3 b4
    clear hP1 hbr hb1 hk1 hBk1 hP
    have hfb : Calls Tryd.prog 16 #[.bool true] w2 fun e w' => e = .returned (.string ⟨#[116, 114, 117, 101]⟩) ∧ w' = w2 := Tryd.strconv_FormatBool true w2
    have hws : Calls Tryd.prog 15 #[.pointer (some ⟨b, 0, none⟩), .string ⟨#[116, 114, 117, 101]⟩] w2 _ := writeStr_walk hP2.I [116, 114, 117, 101] (by simp; omega) hz2
    go_wp2_with fail
    refine hfb.mono ?_
    clear hfb
    rintro e w3 ⟨rfl, rfl⟩
    go_wp2_with fail
    refine hws.mono ?_
    clear hws
    rintro e w4 ⟨rfl, hI4, hb4, hk4⟩
    have hBk4 := hBk2.keep hk4 (by decide)
    have d0 := hBk4.cell 0
    simp at d0
    go_wp2_with fail
    go_ret
    exact ⟨rfl, _, hI4, by simp; try omega, fun _ => rfl, hb2.trans hb4, hk2.trans hk4⟩

set_option maxHeartbeats 4000000 in
set_option maxRecDepth 100000 in
theorem print_num (hP : PrI B0 b w bs) (h1 : (-9223372036854775808 : Int) ≤ num ∧ (num : Int) ≤ 9223372036854775807) (hk : keys.length ≤ 16777216) (hd : kids.length ≤ 16777216) (_hl : bs.length ≤ 1000000000) (_hX : (Lib.itoa num).length ≤ 40) (hR : rightB 2 num t keys.length kids.length = true) :
    Calls Tryd.prog 7 #[jPV 2 num t keys.length kids.length Ak Ad ck cd, .int .i64 dp, .pointer (some ⟨b, 0, none⟩)] w (PrP B0 b w bs 40 (0, Lib.itoa num)) := by
  have hd40 : ((40 : Int) ≤ (dp : Int)) ∨ ¬ ((40 : Int) ≤ (dp : Int)) := by omega
  rcases hd40 with hd40 | hd40
  all_goals
    have hrt := fun (w1 : World) (hT : Tab10 w1) => right_walk 2 num t keys.length kids.length Ak Ad ck cd w1 hT h1.1 h1.2 hk hd
    rw [hR] at hrt
    have hP1 := hP.alloc (.cells #[.int .i64 2, .int .i64 num, .string ⟨t.toArray⟩, .slice Ak keys.length ck, .slice Ad kids.length cd] 25)
    have hz := hP.size
    have hb1 : Below B0 w (w.alloc (.cells #[.int .i64 2, .int .i64 num, .string ⟨t.toArray⟩, .slice Ak keys.length ck, .slice Ad kids.length cd] 25)) := (Below.refl _ _).alloc hz _
    have hk1 : KeepX [37, 5] w (w.alloc (.cells #[.int .i64 2, .int .i64 num, .string ⟨t.toArray⟩, .slice Ak keys.length ck, .slice Ad kids.length cd] 25)) := (KeepX.refl _ _).alloc _
    have hBk1 : Blk (w.alloc (.cells #[.int .i64 2, .int .i64 num, .string ⟨t.toArray⟩, .slice Ak keys.length ck, .slice Ad kids.length cd] 25)) w.heap.size 25 #[.int .i64 2, .int .i64 num, .string ⟨t.toArray⟩, .slice Ak keys.length ck, .slice Ad kids.length cd] := Blk.new _ _ _
    clear hR
    go_enter Tryd.func7, Tryd.ntmps7
    go_wp2_with fail
    refine (hrt _ hP1.T).mono ?_
    clear hrt
    rintro e w2 ⟨rfl, hbr⟩
    have hP2 := hP1.below hbr
    have hz2 := hP2.size
    have hb2 := hb1.trans (hbr.mono (by have := hP1.size; exact this))
    have hk2 := hk1.below hbr (Nat.le_refl _)
    have hBk2 := hBk1.below hbr hBk1.lt
    have b0 := hBk2.cell 0
    have b1 := hBk2.cell 1
    have b2 := hBk2.cell 2
    have b3 := hBk2.cell 3
    have b4 := hBk2.cell 4
    simp at b0 b1 b2 b3 b4
    clear hP1 hbr hb1 hk1 hBk1 hP
    have hit := Tryd.strconv_Itoa num (by omega) (by omega) w2 hP2.T
    generalize Lib.itoa num = X at *
    go_wp2_with fail
    refine hit.mono ?_
    clear hit
    rintro e w3 ⟨rfl, kk, os, hw⟩
    have hbi : Below w2.heap.size w2 w3 := by rw [hw]; exact ((below_drewN (Below.refl w2.heap.size w2) kk).trans ((below_grow (w2.drewN kk) os).mono (Nat.le_refl _)))
    clear hw
    have hP3 := hP2.below hbi
    have hz3 := hP3.size
    have hb3 := hb2.trans (hbi.mono hz2)
    have hk3 := hk2.below hbi (Nat.le_refl _)
    have hBk3 := hBk2.below hbi hBk2.lt
    have hws : Calls Tryd.prog 15 #[.pointer (some ⟨b, 0, none⟩), .string ⟨X.toArray⟩] w3 _ := writeStr_walk hP3.I X (by omega) hz3
    go_wp2_with fail
    refine hws.mono ?_
    clear hws
    rintro e w4 ⟨rfl, hI4, hb4, hk4⟩
    have hBk4 := hBk3.keep hk4 (by decide)
    have d0 := hBk4.cell 0
    simp at d0
    go_wp2_with fail
    go_ret
    exact ⟨rfl, _, hI4, by rw [List.length_append]; omega, fun _ => rfl, hb3.trans hb4, hk3.trans hk4⟩

set_option maxHeartbeats 4000000 in
set_option maxRecDepth 100000 in
theorem print_text (hP : PrI B0 b w bs) (h1 : (-9223372036854775808 : Int) ≤ num ∧ (num : Int) ≤ 9223372036854775807) (hk : keys.length ≤ 16777216) (hd : kids.length ≤ 16777216) (_hl : bs.length ≤ 1000000000) (ht : t.length ≤ 16777216) (hR : rightB 3 num t keys.length kids.length = true) :
    Calls Tryd.prog 7 #[jPV 3 num t keys.length kids.length Ak Ad ck cd, .int .i64 dp, .pointer (some ⟨b, 0, none⟩)] w (PrP B0 b w bs (6 * t.length + 2) (0, jquM t)) := by
  have hd40 : ((40 : Int) ≤ (dp : Int)) ∨ ¬ ((40 : Int) ≤ (dp : Int)) := by omega
  have hjl := jquM_len t
  rcases hd40 with hd40 | hd40
  all_goals
    have hrt := fun (w1 : World) (hT : Tab10 w1) => right_walk 3 num t keys.length kids.length Ak Ad ck cd w1 hT h1.1 h1.2 hk hd
    rw [hR] at hrt
    have hP1 := hP.alloc (.cells #[.int .i64 3, .int .i64 num, .string ⟨t.toArray⟩, .slice Ak keys.length ck, .slice Ad kids.length cd] 25)
    have hz := hP.size
    have hb1 : Below B0 w (w.alloc (.cells #[.int .i64 3, .int .i64 num, .string ⟨t.toArray⟩, .slice Ak keys.length ck, .slice Ad kids.length cd] 25)) := (Below.refl _ _).alloc hz _
    have hk1 : KeepX [37, 5] w (w.alloc (.cells #[.int .i64 3, .int .i64 num, .string ⟨t.toArray⟩, .slice Ak keys.length ck, .slice Ad kids.length cd] 25)) := (KeepX.refl _ _).alloc _
    have hBk1 : Blk (w.alloc (.cells #[.int .i64 3, .int .i64 num, .string ⟨t.toArray⟩, .slice Ak keys.length ck, .slice Ad kids.length cd] 25)) w.heap.size 25 #[.int .i64 3, .int .i64 num, .string ⟨t.toArray⟩, .slice Ak keys.length ck, .slice Ad kids.length cd] := Blk.new _ _ _
    clear hR
    go_enter Tryd.func7, Tryd.ntmps7
    go_wp2_with fail
    refine (hrt _ hP1.T).mono ?_
    clear hrt
    rintro e w2 ⟨rfl, hbr⟩
    have hP2 := hP1.below hbr
    have hz2 := hP2.size
    have hb2 := hb1.trans (hbr.mono (by have := hP1.size; exact this))
    have hk2 := hk1.below hbr (Nat.le_refl _)
    have hBk2 := hBk1.below hbr hBk1.lt
    have b0 := hBk2.cell 0
    have b1 := hBk2.cell 1
    have b2 := hBk2.cell 2
    have b3 := hBk2.cell 3
    have b4 := hBk2.cell 4
    simp at b0 b1 b2 b3 b4
    clear hP1 hbr hb1 hk1 hBk1 hP
    have hit := ljquote_walk t w2 hP2.D ht
    generalize jquM t = X at *
    go_wp2_with fail
    refine hit.mono ?_
    clear hit
    rintro e w3 ⟨rfl, hbi⟩
    have hP3 := hP2.below hbi
    have hz3 := hP3.size
    have hb3 := hb2.trans (hbi.mono hz2)
    have hk3 := hk2.below hbi (Nat.le_refl _)
    have hBk3 := hBk2.below hbi hBk2.lt
    have hws : Calls Tryd.prog 15 #[.pointer (some ⟨b, 0, none⟩), .string ⟨X.toArray⟩] w3 _ := writeStr_walk hP3.I X (by omega) hz3
    go_wp2_with fail
    refine hws.mono ?_
    clear hws
    rintro e w4 ⟨rfl, hI4, hb4, hk4⟩
    have hBk4 := hBk3.keep hk4 (by decide)
    have d0 := hBk4.cell 0
    simp at d0
    go_wp2_with fail
    go_ret
    exact ⟨rfl, _, hI4, by rw [List.length_append]; omega, fun _ => rfl, hb3.trans hb4, hk3.trans hk4⟩
end
end Go.Proofs.YtgpjcjnimheglaaDoor
