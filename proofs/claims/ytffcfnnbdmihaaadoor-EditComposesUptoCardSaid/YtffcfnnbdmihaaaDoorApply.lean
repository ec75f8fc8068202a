/-
  THE WALK of edit.Apply.
-/
import Derived.Test.YtffcfnnbdmihaaaDoorFault
import Derived.Test.YtffcfnnbdmihaaaDoorBuilder
namespace Go.Proofs.YtffcfnnbdmihaaaDoor
open Go.RowKit

set_option maxRecDepth 100000 in
theorem apply_bad (s : ByteArray) (A : Option Addr) (c : Nat) (l : List Sp) (w : World) (hr : Rd w w.heap.size 3 A l.length (spCells l)) (hl : l.length ≤ 1048576)
    (hbad : fault s.size l = 1 ∨ fault s.size l = 2) :
    Calls Tryd.prog 30 #[.string s, .slice A l.length c] w fun e w' => e = .returned (.tuple #[.string ⟨#[]⟩, errV (fault s.size l)]) ∧ Below w.heap.size w w' := by
  obtain ⟨v, hv⟩ : ∃ v : Int, errV (fault s.size l) = .iface 97 (.int .i64 v) := by rcases hbad with h | h <;> rw [h] <;> exact ⟨_, rfl⟩
  have Hv := Lib.hid hv
  have Hb := Lib.hid hbad
  clear hv hbad
  go_enter Tryd.func30, Tryd.ntmps30
  go_wp2_with (go_at_call 28; refine (fault_walk _ _ _ _ _ hr hl).mono ?_; rw [Hv.out]; rintro e w1 ⟨rfl, hb1⟩)
  go_ret2
  rw [Hv.out]
  exact ⟨rfl, hb1⟩

theorem bytes_snoc (l : List UInt8) (x : ByteArray) : Lib.byteCells l ++ Lib.strCells x = Lib.byteCells (l ++ x.data.toList) := by
  simp [Lib.byteCells, Lib.strCells]

set_option maxRecDepth 100000 in
theorem apply_ok (s : ByteArray) (A : Option Addr) (c : Nat) (l : List Sp) (w : World) (hr : Rd w w.heap.size 3 A l.length (spCells l)) (hl : l.length ≤ 1048576) (hs : s.size ≤ 1048576) (hby : spBytes l ≤ 1048576)
    (hok : fault s.size l = 0) :
    Calls Tryd.prog 30 #[.string s, .slice A l.length c] w fun e w' => e = .returned (.tuple #[.string ⟨(applyL s.data.toList l).toArray⟩, .nilIface]) ∧ Below w.heap.size w w' := by
  have hv : errV (fault s.size l) = .nilIface := by rw [hok]; rfl
  have hch := (fault_zero hok).2
  have Hv := Lib.hid hv
  have Hok := Lib.hid hok
  have Hch := Lib.hid hch
  clear hv hok hch
  go_enter Tryd.func30, Tryd.ntmps30
  go_wp2_with (go_at_call 28; refine (fault_walk _ _ _ _ _ hr hl).mono ?_; rw [Hv.out]; rintro e w1 ⟨rfl, hb1⟩)
  have hz1 := hb1.size
  obtain ⟨bb, hbb⟩ : ∃ bb, bb = w1.heap.size := ⟨_, rfl⟩
  have hI : Lib.IsBuilder 107 5 bb bb (Lib.byteCells []) (w1.alloc (.cells #[.pointer none, .slice none 0 0] 107)) := by rw [hbb]; exact Lib.fresh_isBuilder _ _ _
  have hbe1 : bb ≤ w1.heap.size := by omega
  have hbe2 : w1.heap.size ≤ bb := by omega
  rw [← hbb]
  clear hbb
  have hIl : bb < (w1.alloc (.cells #[.pointer none, .slice none 0 0] 107)).heap.size := by simp; omega
  go_loopw [8, 20] (fun at' i wr => ∃ k a : Nat, k ≤ l.length ∧ i = .int .i64 k ∧ at' = .int .i64 a ∧ a ≤ s.size ∧ Hid ((a : Int) = lastT 0 (l.take k)) ∧
      Lib.IsBuilder 107 5 bb bb (Lib.byteCells (preGo s.data.toList 0 (l.take k))) wr ∧ Below bb w1 wr ∧ bb < wr.heap.size) (fun _ i _ => l.length - (intOf i).toNat)
  case atStart => exact ⟨0, 0, Nat.zero_le _, rfl, rfl, Nat.zero_le _, rfl, hI, (Below.refl _ _).alloc (by omega) _, hIl⟩
  case round =>
    clear hI hIl
    obtain ⟨k, a, hk, rfl, rfl, ha, Ha, hI, hb, hbl⟩ := hrel
    by_cases hlt : k < l.length
    · obtain ⟨b, o, rfl, hbB, hcs⟩ := hr.sp hlt
      obtain ⟨c0, c1, c2⟩ := hcs k hlt
      clear hcs
      have e1 : ∀ j, wr.cell? ⟨b, j, none⟩ = w.cell? ⟨b, j, none⟩ := fun j => (hb.cell (p := ⟨b, j, none⟩) (by show b < bb; omega)).trans (hb1.cell (p := ⟨b, j, none⟩) hbB)
      rw [← e1] at c0 c1 c2
      clear e1
      obtain ⟨g1, g2, g3, _⟩ := Hch.out.at_ hlt
      have hpre : Hid (preGo s.data.toList 0 (l.take (k + 1)) = preGo s.data.toList 0 (l.take k) ++ ((s.data.toList.drop a).take (l[k].f.toNat - a) ++ l[k].s.data.toList)) := by
        show _ = _
        rw [List.take_succ_eq_append_getElem hlt, preGo_snoc, ← Ha.out]; rfl
      have hlast : Hid (lastT 0 (l.take (k + 1)) = l[k].t) := by show _ = _; rw [List.take_succ_eq_append_getElem hlt, lastT_snoc]
      have hlen : (preGo s.data.toList 0 (l.take k)).length ≤ s.size + 1048576 := by
        have h1 := preGo_len s.data.toList (Hch.out.take k) (Int.le_refl 0)
        have h2 := spBytes_take_le l k
        rw [← Ha.out] at h1
        omega
      have hsz : l[k].s.size ≤ 1048576 := by
        have h2 := spBytes_take_le l (k + 1)
        rw [List.take_succ_eq_append_getElem hlt, spBytes_snoc] at h2
        omega
      rw [← Ha.out] at g1
      generalize l[k] = x at *
      obtain ⟨f, hf⟩ := Int.eq_ofNat_of_zero_le (a := x.f) (by omega)
      obtain ⟨t, ht⟩ := Int.eq_ofNat_of_zero_le (a := x.t) (by omega)
      rw [hf] at c0 g1 g2 hpre
      rw [ht] at c1 g2 g3 hlast
      clear hf ht
      generalize x.s = y at *
      have q1 : a ≤ f := by omega
      have q2 : f ≤ s.size := by omega
      have q3 : t ≤ s.size := by omega
      have hx : (s.extract a f).size ≤ 1048576 := by rw [ByteArray.size_extract]; omega
      have hxd : Hid ((s.extract a f).data.toList = (s.data.toList.drop a).take (f - a)) := ext_data _ _ _
      go_wp2_with fail
      refine (writeString_any bb bb _ _ _ (bd_alloc hI _) (by rw [Lib.byteCells_length]; omega) (by simp; omega)).mono ?_
      rintro e w2 ⟨rfl, hI2, hb2, hk2⟩
      have hB2 := (Blk.new wr 100 #[.int .i64 f, .int .i64 t, .string y]).keep hk2 (by decide)
      have hz2 := hb2.size
      simp only [World.size_alloc] at hz2
      have d1 := hB2.cell 1
      have d2 := hB2.cell 2
      simp at d1 d2
      generalize s.extract a f = x1 at *
      go_wp2_with fail
      refine (writeString_any bb bb _ _ _ (Or.inr hI2) (by simp only [List.length_append, Lib.byteCells_length, Lib.strCells_length]; omega) (by omega)).mono ?_
      rintro e w3 ⟨rfl, hI3, hb3, hk3⟩
      have hB3 := hB2.keep hk3 (by decide)
      have hz3 := hb3.size
      have d3 := hB3.cell 1
      simp at d3
      go_wp2
      go_roundw
      case rel =>
        refine ⟨k + 1, t, by omega, by go_num, rfl, q3, hlast.out.symm, .inr ?_, ((hb.alloc (by omega) _).trans hb2).trans hb3, by omega⟩
        have h3 := hI3
        rw [bytes_snoc, bytes_snoc, hxd.out, List.append_assoc] at h3
        rw [hpre.out, Int.toNat_natCast]
        exact h3
      case measure => simp [intOf]; omega
    · obtain rfl : k = l.length := by omega
      rw [List.take_length] at Ha hI
      have hfin : Hid (applyL s.data.toList l = preGo s.data.toList 0 l ++ s.data.toList.drop a) := by show _ = _; rw [applyL, ← Ha.out, Int.toNat_natCast]
      have hlen : (preGo s.data.toList 0 l).length ≤ s.size + 1048576 := by
        have h1 := preGo_len s.data.toList Hch.out (Int.le_refl 0)
        rw [← Ha.out] at h1
        omega
      have hx : (s.extract a s.size).size ≤ 1048576 := by rw [ByteArray.size_extract]; omega
      have hxd : Hid ((s.extract a s.size).data.toList = s.data.toList.drop a) := ext_end _ _
      go_wp2_with fail
      generalize s.extract a s.size = x1 at *
      refine (writeString_any bb bb _ _ _ hI (by rw [Lib.byteCells_length]; omega) (by omega)).mono ?_
      rintro e w2 ⟨rfl, hI2, hb2, hk2⟩
      have hz2 := hb2.size
      rw [bytes_snoc, hxd.out, ← hfin.out] at hI2
      go_wp2_with fail
      refine (Tryd.Builder_String_any bb bb _ _ (Or.inr hI2) (by omega)).mono ?_
      rintro e w3 ⟨rfl, hb3⟩
      go_wp2
      go_ret2
      exact ⟨rfl, hb1.trans (((hb.trans hb2).trans hb3).mono (by omega))⟩
end Go.Proofs.YtffcfnnbdmihaaaDoor
