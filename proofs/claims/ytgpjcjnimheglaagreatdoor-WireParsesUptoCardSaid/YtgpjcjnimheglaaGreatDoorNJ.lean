/-
  WALKS of slices.Clip at []string and []api.Json.
-/
import Derived.Test.YtgpjcjnimheglaaGreatDoorNI
namespace Go.Proofs.YtgpjcjnimheglaaGreatDoor
open Go.RowKit

set_option maxRecDepth 100000 in
theorem kclip_walk (A : Option Addr) (n c : Nat) (w : World) (h : n ≤ c) (hn : A = none → c = 0) :
    Calls Tryz.prog 91 #[.slice A n c] w fun e w' => e = .returned (.slice A n n) ∧ w' = w := by
  cases A with
  | none =>
    have := hn rfl
    subst this
    obtain rfl : n = 0 := by omega
    go_enter Tryz.func91, Tryz.ntmps91
    go_wp2
    go_ret
    exact ⟨rfl, rfl⟩
  | some a =>
    go_enter Tryz.func91, Tryz.ntmps91
    go_wp2
    go_ret
    exact ⟨rfl, rfl⟩
set_option maxRecDepth 100000 in
theorem jclip_walk (A : Option Addr) (n c : Nat) (w : World) (h : n ≤ c) (hn : A = none → c = 0) :
    Calls Tryz.prog 92 #[.slice A n c] w fun e w' => e = .returned (.slice A n n) ∧ w' = w := by
  cases A with
  | none =>
    have := hn rfl
    subst this
    obtain rfl : n = 0 := by omega
    go_enter Tryz.func92, Tryz.ntmps92
    go_wp2
    go_ret
    exact ⟨rfl, rfl⟩
  | some a =>
    go_enter Tryz.func92, Tryz.ntmps92
    go_wp2
    go_ret
    exact ⟨rfl, rfl⟩

/-- what a value's closures work on: the value at block gj, its keys and kids in rows of its own, the boxes of the reader and of the depth; all since world w0 -/
structure JSt (w0 : World) (g gj br bd d dep : Nat) (kind : Int) (w : World) (st : Jp.KK) (vK vD : Value) (xs : List Value) : Prop where
  aft : AftR g w0 w
  obj : Blk w gj 70 #[.int .i64 kind, .int .i64 0, .string ⟨#[]⟩, vK, vD]
  rbox : Blk w br 135 #[.pointer (some ⟨g, 0, none⟩)]
  dbox : Blk w bd 3 #[.int .i64 dep]
  keys : w.ownsRow (w0.heap.size + 3) 9 1 vK st.1.length (txtV st.1)
  kids : w.ownsRow (w0.heap.size + 3) 70 5 vD st.2.length xs
  rows : KidsF w (fun b => w0.heap.size + 3 ≤ b ∧ b ≠ gj ∧ b ≠ br ∧ b ≠ bd ∧ vK.ownBlock ≠ some b ∧ vD.ownBlock ≠ some b) d st.2 xs
  gl : g < w0.heap.size
  lj : w0.heap.size + 3 ≤ gj
  lr : w0.heap.size ≤ br
  ld : w0.heap.size ≤ bd
  nej : vD.ownBlock ≠ some gj
  res : Blk w (w0.heap.size + 2) 70 #[.int .i64 0, .int .i64 0, .string ⟨#[]⟩, .slice none 0 0, .slice none 0 0]
theorem JSt.after {w0 : World} {g gj br bd d dep : Nat} {kind : Int} {w w' : World} {st : Jp.KK} {vK vD : Value} {xs : List Value} (h : JSt w0 g gj br bd d dep kind w st vK vD xs) (ha : AftR g w w') : JSt w0 g gj br bd d dep kind w' st vK vD xs := by
  have hgl := h.gl
  have hlj := h.lj
  have hlr := h.lr
  have hld := h.ld
  refine ⟨h.aft.trans ha, ?_, ?_, ?_, ?_, ?_, h.rows.keep ⟨ha.bel.size, fun b hb hl => ha.oth b hl (by have := hb.1; omega)⟩ (fun b hb _ => hb), hgl, hlj, hlr, hld, h.nej, (ha.oth _ h.res.lt (by omega)).trans h.res⟩
  · exact (ha.oth gj h.obj.lt (by omega)).trans h.obj
  · exact (ha.oth br h.rbox.lt (by omega)).trans h.rbox
  · exact (ha.oth bd h.dbox.lt (by omega)).trans h.dbox
  · exact own_of_block h.keys fun b hb => ha.oth b (h.keys.lt b hb).2 (by have := (h.keys.lt b hb).1; omega)
  · exact own_of_block h.kids fun b hb => ha.oth b (h.kids.lt b hb).2 (by have := (h.kids.lt b hb).1; omega)
end Go.Proofs.YtgpjcjnimheglaaGreatDoor
