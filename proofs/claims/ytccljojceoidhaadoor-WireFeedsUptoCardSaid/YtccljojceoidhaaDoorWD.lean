/-
  THE WALK of the reader's Feed.
-/
import Derived.Test.YtccljojceoidhaaDoorWS
namespace Go.Proofs.YtccljojceoidhaaDoor
open Go.RowKit

def phiW (w : World) (p : Nat) : Nat :=
  match w.cell? ⟨p, 0, none⟩, w.cell? ⟨p, 2, none⟩ with
  | some (.string s), some (.bool b) => 2 * s.size + if b then 1 else 0
  | _, _ => 0
theorem phiW_eq {w : World} {p : Nat} {r : Wire.RS} (h : Blk w p 75 (rdC r)) : phiW w p = Wire.phi r := by
  have c0 := h.cell 0
  have c2 := h.cell 2
  unfold rdC strV at c0 c2
  simp at c0 c2
  unfold phiW
  rw [c0, c2]
  simp only [Wire.phi, mk_size]
theorem step_none (r : Wire.RS) (h : (Wire.stepM r).2.2 = false) : (Wire.stepM r).2.1 = none := by
  unfold Wire.stepM at h ⊢
  split
  · rename_i hb
    rw [if_pos hb] at h
    split
    · rfl
    · rename_i h1; rw [if_neg h1] at h; simp at h
  · split <;> rfl
theorem step_out (r : Wire.RS) : (Wire.stepM r).2.1.toList.length ≤ 1 := by
  cases (Wire.stepM r).2.1 <;> simp

def errI (e : Int) : Value := if e = 0 then .nilIface else .iface 66 (.int .i64 e)

set_option maxHeartbeats 2000000 in
set_option maxRecDepth 100000 in
theorem feed_walk (w : World) (base p : Nat) (r : Wire.RS) (c : Bs) (m : Int) (hM : MaxL w m) (hB : Blk w p 75 (rdC r)) (hb : base ≤ p) (hz : base ≤ w.heap.size) (hgb : 3 < base) (hg : r.err = 0 → r.good) (hl : (r.rest ++ c).length ≤ 100000000) :
    Calls Tryd.prog 18 #[.pointer (some ⟨p, 0, none⟩), strV c] w fun e w' => (∃ v, e = .returned (.tuple #[v, errI (Wire.feedM r c).1.err]) ∧ w'.ownsRow w.heap.size 9 1 v (Wire.feedM r c).2.length (txtV (Wire.feedM r c).2) ∧ ((Wire.feedM r c).2 = [] → v = .slice none 0 0)) ∧ Blk w' p 75 (rdC (Wire.feedM r c).1) ∧ Below base w w' ∧ OthH w.heap.size p w w' := by
  have hp := hB.lt
  have c0 := hB.cell 0
  have c3 := hB.cell 3
  have f0 := hB.frozen 0
  unfold rdC strV at c0 c3
  simp at c0 c3
  unfold Wire.feedM
  unfold strV
  by_cases he : r.err = 0
  · have e0 : ¬ 9223372036854775807 < r.rest.length + c.length := by rw [List.length_append] at hl; omega
    have Hcat : Value.string ((⟨r.rest.toArray⟩ : ByteArray) ++ ⟨c.toArray⟩) = strV (r.rest ++ c) := by
      unfold strV; congr 1
    have hS1 : StAt ((w.setCell ⟨p, 0, none⟩ (.string ((⟨r.rest.toArray⟩ : ByteArray) ++ ⟨c.toArray⟩))).alloc (.cells #[.slice none 0 0] 22)) base w.heap.size p w.heap.size { r with rest := r.rest ++ c } (.slice none 0 0) [] :=
      ⟨((hB.set_ 0 _).alloc _).trans (by rw [Hcat]; rfl), by simpa using Blk.new (w.setCell ⟨p, 0, none⟩ (.string ((⟨r.rest.toArray⟩ : ByteArray) ++ ⟨c.toArray⟩))) 22 #[.slice none 0 0], World.ownsRow_nil _ _ _ _, hb, Nat.le_refl _, hz, fun _ => rfl⟩
    have hb1 : Below base w ((w.setCell ⟨p, 0, none⟩ (.string ((⟨r.rest.toArray⟩ : ByteArray) ++ ⟨c.toArray⟩))).alloc (.cells #[.slice none 0 0] 22)) := ((Below.refl _ _).setCell (p := ⟨p, 0, none⟩) hb _).alloc (by simpa using hz) _
    have ho1 : OthH w.heap.size p w ((w.setCell ⟨p, 0, none⟩ (.string ((⟨r.rest.toArray⟩ : ByteArray) ++ ⟨c.toArray⟩))).alloc (.cells #[.slice none 0 0] 22)) := fun b hb hn => (Below.heap_alloc _ _ b (by simpa using hb)).trans (Oth1.set w 0 _ b hb hn)
    have hg1 : Wire.RS.good { r with rest := r.rest ++ c } := hg he
    have Hst := Lib.hid (⟨hS1, hb1, ho1⟩ : _ ∧ _ ∧ _)
    clear hS1 hb1 ho1 Hcat
    rw [if_pos he]
    rw [he] at c3
    clear he hg
    generalize hr1 : ({ r with rest := r.rest ++ c } : Wire.RS) = r1 at *
    have hr1l : r1.rest.length ≤ 100000000 := by rw [← hr1]; exact hl
    have hphi : Wire.phi r1 ≤ 200000001 := by unfold Wire.phi; split <;> omega
    generalize hR : Wire.runM (Wire.phi r1 + 1) r1 [] = R
    have HR := Lib.hid hR
    clear hR hr1 hl
    go_enter Tryd.func18, Tryd.ntmps18
    go_wp2_with fail
    go_loopw [] (fun wr => ∃ rs v o, StAt wr base w.heap.size p w.heap.size rs v o ∧ rs.good ∧ Below base w wr ∧ Hid (OthH w.heap.size p w wr) ∧ Hid (Wire.runM (Wire.phi rs + 1) rs o = R) ∧ o.length + Wire.phi rs ≤ 200000001) (fun wr => phiW wr p)
    case atStart => exact ⟨r1, _, [], Hst.out.1, hg1, Hst.out.2.1, Hst.out.2.2, HR.out, by simpa using hphi⟩
    case round =>
      obtain ⟨rs, v, o, hS, hgs, hbs, hos, hrun, hph⟩ := hrel
      have hrl : rs.rest.length ≤ 100000000 := by unfold Wire.phi at hph; omega
      have hMs := hM.below hbs hgb
      have hstep := step_walk wr base w.heap.size p w.heap.size rs v o m hMs hS hgb hgs hrl (by omega)
      unfold StepP at hstep
      have hpw := phiW_eq hS.rd
      rw [hpw]
      cases ht : (Wire.stepM rs).2.2 with
      | true =>
        have hph2 := Wire.phi_step rs hgs ht
        have hgd := Wire.good_step rs hgs ht
        have hr2 := Wire.runM_step rs o hgs ht
        have hso := step_out rs
        rw [ht] at hstep
        generalize Wire.stepM rs = S at *
        obtain ⟨rs', x, ok⟩ := S
        simp only at hstep hph2 hgd hr2 hso
        go_wp2_with fail
        refine hstep.mono ?_
        rintro e w2 ⟨rfl, ⟨v2, hS2⟩, hb2, ho2⟩
        go_wp2_with fail
        go_roundw
        case rel => exact ⟨rs', v2, o ++ x.toList, hS2, hgd, hbs.trans hb2, hos.out.trans ho2, hr2.trans hrun.out, by rw [List.length_append]; omega⟩
        case measure => rw [phiW_eq hS2.rd]; exact hph2
      | false =>
        have hn := step_none rs ht
        have hr2 := Wire.runM_stop rs o (Wire.phi rs) ht
        rw [ht, hn] at hstep
        generalize Wire.stepM rs = S at *
        obtain ⟨rs', x, ok⟩ := S
        simp only at hstep hr2
        go_wp2_with fail
        refine hstep.mono ?_
        rintro e w2 ⟨rfl, ⟨v2, hS2⟩, hb2, ho2⟩
        have hRe : Hid (R = (rs', o)) := hrun.out.symm.trans hr2
        have d3 := hS2.rd.cell 3
        have dq := hS2.out.cell 0
        unfold rdC at d3
        simp at d3 dq
        have hfin : Hid ((w2.ownsRow w.heap.size 9 1 v2 o.length (txtV o) ∧ (o = [] → v2 = .slice none 0 0)) ∧ Blk w2 p 75 (rdC rs') ∧ Below base w w2 ∧ OthH w.heap.size p w w2) := ⟨⟨by simpa using hS2.own, by simpa using hS2.hv⟩, hS2.rd, hbs.trans hb2, hos.out.trans ho2⟩
        clear hrun HR hr2 hS hS2 hbs hb2 hos ho2
        by_cases he2 : rs'.err = 0
        · have hv : Hid (errI rs'.err = .nilIface) := by show _ = _; unfold errI; rw [if_pos he2]
          rw [he2] at d3
          clear he2
          go_wp2_with fail
          go_ret2
          rw [hRe.out]
          exact ⟨⟨v2, by rw [hv.out]; rfl, hfin.out.1⟩, hfin.out.2⟩
        · have he3 : (rs'.err == 0) = false := by simp [he2]
          have hv : Hid (errI rs'.err = .iface 66 (.int .i64 rs'.err)) := by show _ = _; unfold errI; rw [if_neg he2]
          go_wp2_with fail
          go_region
          go_wp2_with fail
          go_ret2
          rw [hRe.out]
          exact ⟨⟨v2, by rw [hv.out]; rfl, hfin.out.1⟩, hfin.out.2.1, below_drewN hfin.out.2.2.1 1, hfin.out.2.2.2⟩
  · have he3 : (r.err == 0) = false := by simp [he]
    have hv : Hid (errI r.err = .iface 66 (.int .i64 r.err)) := by show _ = _; unfold errI; rw [if_neg he]
    rw [if_neg he]
    clear he
    have hP1 : Blk (w.alloc (.cells #[.slice none 0 0] 22)) p 75 (rdC r) := hB.alloc _
    go_enter Tryd.func18, Tryd.ntmps18
    go_wp2_with fail
    go_region
    go_wp2_with fail
    go_ret2
    exact ⟨⟨_, by rw [hv.out]; rfl, World.ownsRow_nil _ _ _ _, fun _ => rfl⟩, hP1, below_drewN ((Below.refl _ _).alloc hz _) 1, fun b hb _ => Below.heap_alloc w _ b hb⟩
end Go.Proofs.YtccljojceoidhaaDoor
