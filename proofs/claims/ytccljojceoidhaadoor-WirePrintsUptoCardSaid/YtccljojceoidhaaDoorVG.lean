/-
  WALKS of package lex: Quote.
-/
import Derived.Test.YtccljojceoidhaaDoorVF
namespace Go.Proofs.YtccljojceoidhaaDoor
open Go.RowKit

theorem ba_app (a b : Bs) : ((⟨a.toArray⟩ : ByteArray) ++ ⟨b.toArray⟩) = ⟨(a ++ b).toArray⟩ := by
  apply ByteArray.ext
  rw [ByteArray.data_append]
  simp
theorem ext_one (s : Bs) (i : Nat) (h : i < s.length) : (⟨s.toArray⟩ : ByteArray).extract i (i + 1) = ⟨[s[i]].toArray⟩ := by
  have := ext_str s i (i + 1)
  unfold strV at this
  injection this with this
  rw [this, List.drop_take, Nat.add_sub_cancel_left, List.drop_eq_getElem_cons h]
  rfl

set_option maxHeartbeats 4000000 in
set_option maxRecDepth 100000 in
theorem lquote_walk (s : Bs) (w : World) (hD : DB w) (hl : s.length ≤ 1048576) :
    Calls Tryd.prog 29 #[.string ⟨s.toArray⟩] w fun e w' => e = .returned (.string ⟨(Lx.quoM s).toArray⟩) ∧ Below w.heap.size w w' := by
  generalize hU : Lx.quoM s = U
  have HU : Hid (U = [34] ++ (Lx.quoI s ++ [34])) := by show _ = _; rw [← hU]; rfl
  clear hU
  have hI0 := IsB.fresh w
  have hb0 : Below w.heap.size w (w.alloc (.cells #[.pointer none, .slice none 0 0] 65)) := (Below.refl _ _).alloc (Nat.le_refl _) _
  go_enter Tryd.func29, Tryd.ntmps29
  go_wp2_with fail
  have hw1 : Calls Tryd.prog 51 #[.pointer (some ⟨w.heap.size, 0, none⟩), .int .u8 34] (w.alloc (.cells #[.pointer none, .slice none 0 0] 65)) _ := writeByte_walk hI0 34 (by simp) (by simp)
  refine hw1.mono ?_
  clear hw1
  rintro e w1 ⟨rfl, hI1, hb1, hk1⟩
  have hb1 := hb0.trans hb1
  clear hI0 hb0 hk1
  go_wp2_with fail
  go_loopw [9] (fun iv wr => ∃ (i : Nat) (done : Bs), iv = .int .i64 i ∧ i ≤ s.length ∧ done.length ≤ 1 + 6 * i ∧ IsB w.heap.size w.heap.size done wr ∧ Below w.heap.size w wr ∧ Hid (U = done ++ (Lx.quoI (s.drop i) ++ [34]))) (fun iv _ => s.length - (intOf iv).toNat)
  case atStart => exact ⟨0, [34], rfl, by omega, by simp, hI1, hb1, HU⟩
  case round =>
    obtain ⟨i, done, rfl, hi, hdl, hI, hb, HX⟩ := hrel
    have hbs := hb.size
    clear hI1 hb1
    by_cases hlt : i < s.length
    · have j0 : (0 : Int) ≤ (i : Int) := by omega
      have j1 : (i : Int) < (s.length : Int) := by omega
      have j2 : (i : Int) + 1 ≤ (s.length : Int) := by omega
      have HX2 : Hid (U = (done ++ Lx.quoB s[i]) ++ (Lx.quoI (s.drop (i + 1)) ++ [34])) := by
        show _ = _
        rw [HX.out, List.drop_eq_getElem_cons hlt]
        simp only [Lx.quoI, List.flatMap_cons, List.append_assoc]
      have hql := quo_len s[i]
      have hww := quo_ways s[i]
      have hby : (((⟨s.toArray⟩ : ByteArray)[i]'(by rw [mk_size]; exact hlt)).toNat : Int) = (s[i].toNat : Int) := byte_of hlt rfl
      have Hby := Lib.hid hby
      have Hone := Lib.hid (ext_one s i hlt)
      generalize s[i] = a at *
      clear HX hby
      have hD2 := hD.below (hb.mono (Nat.le_refl _))
      have hwr := fun (x : Bs) (hx : Lx.quoB a = x) => writeStr_walk hI x (by rw [← hx]; omega) hbs
      rcases hww with ⟨rfl, hq⟩ | ⟨rfl, hq⟩ | ⟨rfl, hq⟩ | ⟨rfl, hq⟩ | ⟨h10, h9, h16, hq⟩ | ⟨h16, h32, hq⟩ | ⟨rfl, hq⟩ | ⟨h32, h34, h92, h127, hq⟩
      · have hb0 : (((⟨s.toArray⟩ : ByteArray)[i]'(by rw [mk_size]; exact hlt)).toNat : Int) = 10 := Hby.out
        have hws : Calls Tryd.prog 53 #[.pointer (some ⟨w.heap.size, 0, none⟩), .string ⟨#[92, 110]⟩] wr fun e w' => e = .returned (.tuple #[.int .i64 (([92, 110] : Bs).length : Nat), .nilIface]) ∧ IsB w.heap.size w.heap.size (done ++ [92, 110]) w' ∧ Below w.heap.size wr w' ∧ KeepX [65, 5] wr w' := hwr [92, 110] hq
        have HQ := Lib.hid hq
        clear hq hwr
        go_wp2_with fail
        refine hws.mono ?_
        clear hws
        rintro e w2 ⟨rfl, hI2, hb2, hk2⟩
        have hb2 := hb.trans hb2
        go_wp2_with fail
        go_roundw
        case rel => exact ⟨i + 1, done ++ Lx.quoB 10, by go_num, by omega, by rw [List.length_append]; omega, by rw [HQ.out]; exact hI2, hb2, HX2⟩
        case measure => simp [intOf]; omega
      · have hb0 : (((⟨s.toArray⟩ : ByteArray)[i]'(by rw [mk_size]; exact hlt)).toNat : Int) = 9 := Hby.out
        have hws : Calls Tryd.prog 53 #[.pointer (some ⟨w.heap.size, 0, none⟩), .string ⟨#[92, 116]⟩] wr fun e w' => e = .returned (.tuple #[.int .i64 (([92, 116] : Bs).length : Nat), .nilIface]) ∧ IsB w.heap.size w.heap.size (done ++ [92, 116]) w' ∧ Below w.heap.size wr w' ∧ KeepX [65, 5] wr w' := hwr [92, 116] hq
        have HQ := Lib.hid hq
        clear hq hwr
        go_wp2_with fail
        refine hws.mono ?_
        clear hws
        rintro e w2 ⟨rfl, hI2, hb2, hk2⟩
        have hb2 := hb.trans hb2
        go_wp2_with fail
        go_roundw
        case rel => exact ⟨i + 1, done ++ Lx.quoB 9, by go_num, by omega, by rw [List.length_append]; omega, by rw [HQ.out]; exact hI2, hb2, HX2⟩
        case measure => simp [intOf]; omega
      · have hb0 : (((⟨s.toArray⟩ : ByteArray)[i]'(by rw [mk_size]; exact hlt)).toNat : Int) = 34 := Hby.out
        have hws : Calls Tryd.prog 53 #[.pointer (some ⟨w.heap.size, 0, none⟩), .string ((⟨#[92]⟩ : ByteArray) ++ (⟨s.toArray⟩ : ByteArray).extract i (i + 1))] wr fun e w' => e = .returned (.tuple #[.int .i64 (([92, 34] : Bs).length : Nat), .nilIface]) ∧ IsB w.heap.size w.heap.size (done ++ [92, 34]) w' ∧ Below w.heap.size wr w' ∧ KeepX [65, 5] wr w' := by rw [Hone.out]; exact hwr [92, 34] hq
        have HQ := Lib.hid hq
        clear hq hwr
        go_wp2_with fail
        refine hws.mono ?_
        clear hws
        rintro e w2 ⟨rfl, hI2, hb2, hk2⟩
        have hb2 := hb.trans hb2
        go_wp2_with fail
        go_roundw
        case rel => exact ⟨i + 1, done ++ Lx.quoB 34, by go_num, by omega, by rw [List.length_append]; omega, by rw [HQ.out]; exact hI2, hb2, HX2⟩
        case measure => simp [intOf]; omega
      · have hb0 : (((⟨s.toArray⟩ : ByteArray)[i]'(by rw [mk_size]; exact hlt)).toNat : Int) = 92 := Hby.out
        have hws : Calls Tryd.prog 53 #[.pointer (some ⟨w.heap.size, 0, none⟩), .string ((⟨#[92]⟩ : ByteArray) ++ (⟨s.toArray⟩ : ByteArray).extract i (i + 1))] wr fun e w' => e = .returned (.tuple #[.int .i64 (([92, 92] : Bs).length : Nat), .nilIface]) ∧ IsB w.heap.size w.heap.size (done ++ [92, 92]) w' ∧ Below w.heap.size wr w' ∧ KeepX [65, 5] wr w' := by rw [Hone.out]; exact hwr [92, 92] hq
        have HQ := Lib.hid hq
        clear hq hwr
        go_wp2_with fail
        refine hws.mono ?_
        clear hws
        rintro e w2 ⟨rfl, hI2, hb2, hk2⟩
        have hb2 := hb.trans hb2
        go_wp2_with fail
        go_roundw
        case rel => exact ⟨i + 1, done ++ Lx.quoB 92, by go_num, by omega, by rw [List.length_append]; omega, by rw [HQ.out]; exact hI2, hb2, HX2⟩
        case measure => simp [intOf]; omega
      · have hb0 : (((⟨s.toArray⟩ : ByteArray)[i]'(by rw [mk_size]; exact hlt)).toNat : Int) = (a.toNat : Int) := Hby.out
        have e10 : ((a.toNat : Int) == 10) = false := by simp; exact fun e => h10 (UInt8.toNat_inj.1 (show a.toNat = 10 by omega))
        have e9 : ((a.toNat : Int) == 9) = false := by simp; exact fun e => h9 (UInt8.toNat_inj.1 (show a.toNat = 9 by omega))
        have e34 : ((a.toNat : Int) == 34) = false := by simp; omega
        have e92 : ((a.toNat : Int) == 92) = false := by simp; omega
        have l32 : (a.toNat : Int) < 32 := by omega
        have hqx : Lx.quoB a = [92, 117, 123] ++ Lx.hexS a.toNat ++ [125] := by rw [hq]; unfold Lx.hexS; rw [if_pos h16]; rfl
        have hfm : Calls Tryd.prog 54 #[.int .i64 ((a.toNat : Nat) : Int), .int .i64 16] wr fun e w' => e = .returned (.string ⟨(Lx.hexS a.toNat).toArray⟩) ∧ Below wr.heap.size wr w' := fmt16_walk a.toNat wr (by first | decide | (have := a.toNat_lt; omega)) hD2
        have hxl : (Lx.hexS a.toNat).length ≤ 6 := (Lx.ctl_fin ⟨a.toNat, by first | decide | exact a.toNat_lt⟩).2.2.1
        generalize Lx.hexS a.toNat = X at *
        have HQ := Lib.hid hqx
        clear hq hqx hwr
        go_wp2_with fail
        refine hfm.mono ?_
        clear hfm
        rintro e w3 ⟨rfl, hb3⟩
        have hI3 := hI.below' hb3
        have hb3 := hb.trans (hb3.mono hbs)
        have hbs3 := hb3.size
        have hws : Calls Tryd.prog 53 #[.pointer (some ⟨w.heap.size, 0, none⟩), .string ((⟨#[92, 117, 123]⟩ : ByteArray) ++ ⟨X.toArray⟩ ++ ⟨#[125]⟩)] w3 fun e w' => e = .returned (.tuple #[.int .i64 (([92, 117, 123] ++ X ++ [125] : Bs).length : Nat), .nilIface]) ∧ IsB w.heap.size w.heap.size (done ++ ([92, 117, 123] ++ X ++ [125])) w' ∧ Below w.heap.size w3 w' ∧ KeepX [65, 5] w3 w' := by
          have h := writeStr_walk hI3 ([92, 117, 123] ++ X ++ [125]) (by have := hql; rw [HQ.out] at this; omega) hbs3
          rw [← ba_app, ← ba_app] at h
          exact h
        go_wp2_with fail
        refine hws.mono ?_
        clear hws
        rintro e w2 ⟨rfl, hI2, hb2, hk2⟩
        have hb2 := hb3.trans hb2
        go_wp2_with fail
        go_roundw
        case rel => exact ⟨i + 1, done ++ Lx.quoB a, by go_num, by omega, by rw [List.length_append]; omega, by rw [HQ.out]; exact hI2, hb2, HX2⟩
        case measure => simp [intOf]; omega
      · have hb0 : (((⟨s.toArray⟩ : ByteArray)[i]'(by rw [mk_size]; exact hlt)).toNat : Int) = (a.toNat : Int) := Hby.out
        have e10 : ((a.toNat : Int) == 10) = false := by simp; omega
        have e9 : ((a.toNat : Int) == 9) = false := by simp; omega
        have e34 : ((a.toNat : Int) == 34) = false := by simp; omega
        have e92 : ((a.toNat : Int) == 92) = false := by simp; omega
        have l32 : (a.toNat : Int) < 32 := by omega
        have hqx : Lx.quoB a = [92, 117, 123] ++ Lx.hexS a.toNat ++ [125] := by rw [hq]; unfold Lx.hexS; rw [if_neg (by omega)]; rfl
        have hfm : Calls Tryd.prog 54 #[.int .i64 ((a.toNat : Nat) : Int), .int .i64 16] wr fun e w' => e = .returned (.string ⟨(Lx.hexS a.toNat).toArray⟩) ∧ Below wr.heap.size wr w' := fmt16_walk a.toNat wr (by first | decide | (have := a.toNat_lt; omega)) hD2
        have hxl : (Lx.hexS a.toNat).length ≤ 6 := (Lx.ctl_fin ⟨a.toNat, by first | decide | exact a.toNat_lt⟩).2.2.1
        generalize Lx.hexS a.toNat = X at *
        have HQ := Lib.hid hqx
        clear hq hqx hwr
        go_wp2_with fail
        refine hfm.mono ?_
        clear hfm
        rintro e w3 ⟨rfl, hb3⟩
        have hI3 := hI.below' hb3
        have hb3 := hb.trans (hb3.mono hbs)
        have hbs3 := hb3.size
        have hws : Calls Tryd.prog 53 #[.pointer (some ⟨w.heap.size, 0, none⟩), .string ((⟨#[92, 117, 123]⟩ : ByteArray) ++ ⟨X.toArray⟩ ++ ⟨#[125]⟩)] w3 fun e w' => e = .returned (.tuple #[.int .i64 (([92, 117, 123] ++ X ++ [125] : Bs).length : Nat), .nilIface]) ∧ IsB w.heap.size w.heap.size (done ++ ([92, 117, 123] ++ X ++ [125])) w' ∧ Below w.heap.size w3 w' ∧ KeepX [65, 5] w3 w' := by
          have h := writeStr_walk hI3 ([92, 117, 123] ++ X ++ [125]) (by have := hql; rw [HQ.out] at this; omega) hbs3
          rw [← ba_app, ← ba_app] at h
          exact h
        go_wp2_with fail
        refine hws.mono ?_
        clear hws
        rintro e w2 ⟨rfl, hI2, hb2, hk2⟩
        have hb2 := hb3.trans hb2
        go_wp2_with fail
        go_roundw
        case rel => exact ⟨i + 1, done ++ Lx.quoB a, by go_num, by omega, by rw [List.length_append]; omega, by rw [HQ.out]; exact hI2, hb2, HX2⟩
        case measure => simp [intOf]; omega
      · have hb0 : (((⟨s.toArray⟩ : ByteArray)[i]'(by rw [mk_size]; exact hlt)).toNat : Int) = 127 := Hby.out
        have hqx : Lx.quoB 127 = [92, 117, 123] ++ Lx.hexS 127 ++ [125] := by decide
        have hfm : Calls Tryd.prog 54 #[.int .i64 ((127 : Nat) : Int), .int .i64 16] wr fun e w' => e = .returned (.string ⟨(Lx.hexS 127).toArray⟩) ∧ Below wr.heap.size wr w' := fmt16_walk 127 wr (by first | decide | (have := a.toNat_lt; omega)) hD2
        have hxl : (Lx.hexS 127).length ≤ 6 := (Lx.ctl_fin ⟨127, by first | decide | exact a.toNat_lt⟩).2.2.1
        generalize Lx.hexS 127 = X at *
        have HQ := Lib.hid hqx
        clear hq hqx hwr
        go_wp2_with fail
        refine hfm.mono ?_
        clear hfm
        rintro e w3 ⟨rfl, hb3⟩
        have hI3 := hI.below' hb3
        have hb3 := hb.trans (hb3.mono hbs)
        have hbs3 := hb3.size
        have hws : Calls Tryd.prog 53 #[.pointer (some ⟨w.heap.size, 0, none⟩), .string ((⟨#[92, 117, 123]⟩ : ByteArray) ++ ⟨X.toArray⟩ ++ ⟨#[125]⟩)] w3 fun e w' => e = .returned (.tuple #[.int .i64 (([92, 117, 123] ++ X ++ [125] : Bs).length : Nat), .nilIface]) ∧ IsB w.heap.size w.heap.size (done ++ ([92, 117, 123] ++ X ++ [125])) w' ∧ Below w.heap.size w3 w' ∧ KeepX [65, 5] w3 w' := by
          have h := writeStr_walk hI3 ([92, 117, 123] ++ X ++ [125]) (by have := hql; rw [HQ.out] at this; omega) hbs3
          rw [← ba_app, ← ba_app] at h
          exact h
        go_wp2_with fail
        refine hws.mono ?_
        clear hws
        rintro e w2 ⟨rfl, hI2, hb2, hk2⟩
        have hb2 := hb3.trans hb2
        go_wp2_with fail
        go_roundw
        case rel => exact ⟨i + 1, done ++ Lx.quoB 127, by go_num, by omega, by rw [List.length_append]; omega, by rw [HQ.out]; exact hI2, hb2, HX2⟩
        case measure => simp [intOf]; omega
      · have hb0 : (((⟨s.toArray⟩ : ByteArray)[i]'(by rw [mk_size]; exact hlt)).toNat : Int) = (a.toNat : Int) := Hby.out
        have e10 : ((a.toNat : Int) == 10) = false := by simp; omega
        have e9 : ((a.toNat : Int) == 9) = false := by simp; omega
        have e34 : ((a.toNat : Int) == 34) = false := by simp; exact fun e => h34 (UInt8.toNat_inj.1 (show a.toNat = 34 by omega))
        have e92 : ((a.toNat : Int) == 92) = false := by simp; exact fun e => h92 (UInt8.toNat_inj.1 (show a.toNat = 92 by omega))
        have e127 : ((a.toNat : Int) == 127) = false := by simp; exact fun e => h127 (UInt8.toNat_inj.1 (show a.toNat = 127 by omega))
        have l32 : ¬ (a.toNat : Int) < 32 := by omega
        have hws := writeByte_walk hI a (by omega) hbs
        have HQ := Lib.hid hq
        clear hq hwr
        go_wp2_with fail
        refine hws.mono ?_
        clear hws
        rintro e w2 ⟨rfl, hI2, hb2, hk2⟩
        have hb2 := hb.trans hb2
        go_wp2_with fail
        go_roundw
        case rel => exact ⟨i + 1, done ++ Lx.quoB a, by go_num, by omega, by rw [List.length_append]; omega, by rw [HQ.out]; exact hI2, hb2, HX2⟩
        case measure => simp [intOf]; omega
    · obtain rfl : i = s.length := by omega
      have hUd : Hid (U = done ++ [34]) := by show _ = _; rw [HX.out, List.drop_length]; rfl
      have hws : Calls Tryd.prog 51 #[.pointer (some ⟨w.heap.size, 0, none⟩), .int .u8 34] wr _ := writeByte_walk hI 34 (by omega) hbs
      clear HX
      go_wp2_with fail
      refine hws.mono ?_
      clear hws
      rintro e w2 ⟨rfl, hI2, hb2, hk2⟩
      have hb2 := hb.trans hb2
      go_wp2_with fail
      refine (bString_walk hI2 hb2.size).mono ?_
      rintro e w3 ⟨rfl, hb3⟩
      go_wp2_with fail
      go_ret
      rw [hUd.out]
      exact ⟨rfl, hb2.trans hb3⟩
end Go.Proofs.YtccljojceoidhaaDoor
