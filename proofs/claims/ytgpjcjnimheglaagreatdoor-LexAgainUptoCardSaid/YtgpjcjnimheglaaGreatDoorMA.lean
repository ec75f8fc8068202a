/-
  THE WALKS of Doc's Replace.
-/
import Derived.Test.YtgpjcjnimheglaaGreatDoorLZ
namespace Go.Proofs.YtgpjcjnimheglaaGreatDoor
open Go.RowKit

set_option maxHeartbeats 1000000 in
set_option maxRecDepth 100000 in
theorem replace_bad (g : Nat) (f t : Int) (s ins : Bs) (T : List Tk) (w : World) (hd : DocAt w g s T) (hb : ¬ (0 ≤ f ∧ f ≤ t ∧ t ≤ s.length)) :
    Calls Tryz.prog 10 #[.pointer (some ⟨g, 0, none⟩), .agg #[.int .i64 f, .int .i64 t, .string ⟨ins.toArray⟩]] w fun e w' =>
      e = .returned (.tuple #[.pointer none, .int .i64 0, .iface 64 (.int .i64 1)]) ∧ Below w.heap.size w w' := by
  have hbA : Below w.heap.size w (w.alloc (.cells #[.int .i64 f, .int .i64 t, .string ⟨ins.toArray⟩] 23)) := (Below.refl _ _).alloc (Nat.le_refl _) _
  have hk := kept_bad g f t s ins T _ (hd.below hbA) hb
  clear hb
  go_enter Tryz.func10, Tryz.ntmps10
  go_wp2_with fail
  refine hk.mono ?_
  rintro e w1 ⟨rfl, hb1⟩
  go_wp2_with fail
  go_ret3
  exact ⟨rfl, hbA.trans (hb1.mono hbA.size)⟩

set_option maxHeartbeats 1000000 in
set_option maxRecDepth 100000 in
theorem replace_walkL (g : Nat) (s : Bs) (frm til : Nat) (ins : Bs) (m : Int) (w : World) (hM : MaxL w m) (hT : T8 w) (hW : WordsIs w) (hd : DocAt w g s (Lx.tokR 0 s)) (h1 : frm ≤ til) (h2 : til ≤ s.length) (hl : s.length + ins.length ≤ 4194304) :
    Calls Tryz.prog 10 #[.pointer (some ⟨g, 0, none⟩), .agg #[.int .i64 frm, .int .i64 til, .string ⟨ins.toArray⟩]] w fun e w' =>
      ∃ go, e = .returned (.tuple #[.pointer (some ⟨go, 0, none⟩), .int .i64 (Lx.anewM s frm til ins).length, .nilIface]) ∧ w.heap.size ≤ go ∧ DocAt w' go (Lx.nowM s frm til ins) (Lx.tokR 0 (Lx.nowM s frm til ins)) ∧ Below w.heap.size w w' := by
  have hbA : Below w.heap.size w (w.alloc (.cells #[.int .i64 frm, .int .i64 til, .string ⟨ins.toArray⟩] 23)) := (Below.refl _ _).alloc (Nat.le_refl _) _
  have hk := kept_walk g s frm til ins m _ (hM.below hbA hM.lt) (hT.below hbA) (hW.below hbA) (hd.below hbA) h1 h2 hl
  have hct := Lx.counts s frm til ins h1 h2
  have htl := Lx.tokR_length 0 s
  have htl2 := Lx.tokR_length 0 (Lx.nowM s frm til ins)
  have hnl := Lx.now_len s frm til ins h1 h2
  have hgl : g < w.heap.size := by obtain ⟨_, _, h, _⟩ := hd; exact h.lt
  generalize hH : Lx.headM (Lx.tokR 0 s) frm = H at *
  generalize hB : Lx.behindM s frm til ins = B at *
  generalize Lx.nowM s frm til ins = now at *
  generalize hN : (Lx.anewM s frm til ins).length = N at *
  generalize Lx.tokR 0 s = T at *
  generalize Lx.tokR 0 now = T2 at *
  have He : Hid (((T2.length : Int) - H) - ((T.length : Int) - B) = N) := by show _ = _; omega
  have hHl : H ≤ T2.length := by omega
  have hBl : B ≤ T.length := by omega
  have hNl : N ≤ T2.length := by omega
  clear hct hH hB hN
  go_enter Tryz.func10, Tryz.ntmps10
  go_wp2_with fail
  refine hk.mono ?_
  rintro e w1 ⟨go, rfl, hgo, hd2, hb1⟩
  have hd1 := (hd.below hbA).below hb1
  obtain ⟨A1, c1, x1, x2, x3, x4⟩ := hd1
  have HD2 := Lib.hid hd2
  obtain ⟨A2, c2, y1, y2, y3, y4⟩ := hd2
  have q1 := x1.cell 1
  have q2 := y1.cell 1
  simp at q1 q2
  clear hk
  go_wp2_with fail
  go_quiet (fail)
  go_wp2_with fail
  go_ret3
  have hbz := hbA.size
  refine ⟨go, by rw [← He.out]; rfl, by omega, HD2.out.below (below_drewN (Below.refl _ _) _), below_drewN (hbA.trans (hb1.mono hbz)) _⟩
end Go.Proofs.YtgpjcjnimheglaaGreatDoor
