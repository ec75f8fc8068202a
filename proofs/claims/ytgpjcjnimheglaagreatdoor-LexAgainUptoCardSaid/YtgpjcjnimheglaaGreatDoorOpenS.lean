/-
  AN ARGUMENT OF TYPE api.Span, OPENED.
-/
import Derived.Test.YtgpjcjnimheglaaGreatDoorOpenT
namespace Go.Proofs.YtgpjcjnimheglaaGreatDoor
open Go.RowKit Go.ChangeShapes Go.WideShapes Go.Deep

theorem array3 {α : Type} {l : Array α} (h : l.size = 3) : ∃ a b c, l = #[a, b, c] := by
  obtain ⟨l⟩ := l
  match l, h with
  | [a, b, c], _ => exact ⟨a, b, c, rfl⟩
set_option maxRecDepth 100000 in
theorem open_span {H : Type} {enc : TypeId × Value → H} {w : World} {base : Nat} {spare : Nat → Bool} {held : Bool} {b0 : Nat} {v : Value} {d : DataW H} {p : List MemPlace}
    (hv : Value.okWide Tryz.prog w .any b0 23 v) (h : DataW.Trod enc Tryz.prog w base spare held 23 v d p) :
    ∃ (f t : Int) (s : Bs), v = .agg #[.int .i64 f, .int .i64 t, .string ⟨s.toArray⟩] ∧ s.length ≤ Rows.uptoBulk d ∧ (-9223372036854775808 ≤ f ∧ f ≤ 9223372036854775807) ∧ (-9223372036854775808 ≤ t ∧ t ≤ 9223372036854775807) := by
  obtain ⟨cs, rfl, hsz⟩ := okWide_struct Tryz.underlying23 hv
  obtain ⟨s0, s1, s2, rfl⟩ := array3 (hsz.trans (by kernel_rfl))
  obtain ⟨fuel, hf⟩ := h
  obtain ⟨ys, n', hn', hy, hlen, hyl, hfs⟩ := DataW.trod_struct Tryz.underlying23 hf
  simp only [Prod.mk.injEq] at hy
  have h3 : Tryz.prog.cellsOf 3 = 1 := by kernel_rfl
  have h9 : Tryz.prog.cellsOf 9 = 1 := by kernel_rfl
  match ys, hyl with
  | [y0, y1, y2], _ =>
    have t0 := hfs 0 _ rfl
    have t1 := hfs 1 _ rfl
    have t2 := hfs 2 _ rfl
    simp [Value.cells, h3, h9] at t0 t1 t2
    obtain ⟨x0, q0, rfl, w0⟩ := DataW.trod_int Tryz.underlying3 t0
    obtain ⟨x1, q1, rfl, w1⟩ := DataW.trod_int Tryz.underlying3 t1
    obtain ⟨x2, q2, rfl, _⟩ := DataW.trod_string Tryz.underlying9 t2
    simp only [List.cons.injEq, and_true] at q0 q1 q2
    subst q0 q1 q2
    have hbd : Rows.uptoBulk d = 2 + (x2.data.toList.length + 1) + 1 := by
      rw [hy.1]
      simp only [List.map_cons, List.map_nil, Rows.uptoBulk, Rows.uptoBulkAll]
      omega
    have b0 := bounds_i64 w0
    have b1 := bounds_i64 w1
    exact ⟨x0, x1, x2.data.toList, by simp only [Lib.mk_data], by omega, ⟨b0.1, b0.2⟩, b1.1, b1.2⟩
end Go.Proofs.YtgpjcjnimheglaaGreatDoor
