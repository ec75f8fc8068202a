/-
  A BRINGING THAT MAY BE BROKEN OFF (the runs that may be done are counted): what it leaves, whatever it comes to.
-/
import Derived.Test.YtnadldoebfmgmaaDoorQB2
namespace Go.Proofs.YtnadldoebfmgmaaDoor.q
open Go.RowKit

/-- what fits the machine's numbers, where the runs are counted -/
structure Sh.FitA (s : Sh) : Prop where
  small : s.cs.length ≤ 1048576
  pos : 0 ≤ s.most
  num : ∀ j, I64 (s.at j).n
  runs : ∀ j, 0 ≤ (s.at j).runs ∧ (s.at j).runs + s.most ≤ 9223372036854775807
/-- what a bringing leaves, broken off or not -/
structure RelA (s t : Sh) : Prop where
  len : t.cs.length = s.cs.length
  sets : t.sets = s.sets
  rule : ∀ j, (t.at j).op = (s.at j).op ∧ (t.at j).a = (s.at j).a ∧ (t.at j).b = (s.at j).b ∧ (t.at j).c = (s.at j).c
  busy : ∀ j, (t.at j).busy = (s.at j).busy
  once : ∀ j, (s.at j).once = true → (t.at j).once = true
  input : ∀ j, (s.at j).op = 0 → (t.at j).n = (s.at j).n
  ok : s.Ok → t.Ok
  fit : s.FitA → t.FitA
theorem RelA.refl (s : Sh) : RelA s s := ⟨rfl, rfl, fun _ => ⟨rfl, rfl, rfl, rfl⟩, fun _ => rfl, fun _ h => h, fun _ _ => rfl, fun h => h, fun h => h⟩
theorem RelA.trans {s t u : Sh} (h : RelA s t) (h' : RelA t u) : RelA s u where
  len := h'.len.trans h.len
  sets := h'.sets.trans h.sets
  rule j := by
    obtain ⟨a1, a2, a3, a4⟩ := h.rule j
    obtain ⟨b1, b2, b3, b4⟩ := h'.rule j
    exact ⟨b1.trans a1, b2.trans a2, b3.trans a3, b4.trans a4⟩
  busy j := (h'.busy j).trans (h.busy j)
  once j e := h'.once j (h.once j e)
  input j e := (h'.input j (by rw [(h.rule j).1]; exact e)).trans (h.input j e)
  ok e := h'.ok (h.ok e)
  fit e := h'.fit (h.fit e)
/-- how many cells are not busy -/
def Sh.nb (s : Sh) : Nat := (List.range s.cs.length).countP fun j => !(s.at j).busy
theorem RelA.nb {s t : Sh} (h : RelA s t) : t.nb = s.nb := by
  unfold Sh.nb
  rw [h.len]
  exact List.countP_congr fun j _ => by rw [h.busy j]
theorem nb_busy {s : Sh} {k : Nat} (hk : k < s.cs.length) (hb : (s.at k).busy = false) : (s.upd k fun c => { c with busy := true }).nb + 1 = s.nb := by
  unfold Sh.nb
  rw [upd_len]
  refine count_one (p := fun j => !(s.at j).busy) (q := fun j => !((s.upd k fun c => { c with busy := true }).at j).busy) hk (by show (!(s.at k).busy) = true; rw [hb]; rfl) (by show (!((s.upd k fun c => { c with busy := true }).at k).busy) = false; rw [upd_at_same hk]; rfl) fun j hj => ?_
  show (!((s.upd k fun c => { c with busy := true }).at j).busy) = (!(s.at j).busy)
  rw [upd_at_ne (Ne.symm hj)]
/-- the rows of deps that were there are as they were -/
def LedB (H : Nat) (w w' : World) : Prop := ∀ b, b < H → (∃ cs fr, w.heap[b]? = some (.cells cs 115 fr)) → w'.heap[b]? = w.heap[b]?
section
variable {H H' : Nat} {w w1 w2 : World}
theorem LedB.refl : LedB H w w := fun _ _ _ => rfl
theorem LedB.trans (h : LedB H w w1) (h' : LedB H w1 w2) : LedB H w w2 := fun b hb e => (h' b hb (by rw [h b hb e]; exact e)).trans (h b hb e)
theorem LedB.mono (h : LedB H w w1) (hH : H' ≤ H) : LedB H' w w1 := fun b hb => h b (by omega)
theorem LedB.below (hb : Below w.heap.size w w1) (hH : H ≤ w.heap.size) : LedB H w w1 := fun b h _ => hb.block b (by omega)
theorem LedB.of_same (h : ∀ b, b < H → w1.heap[b]? = w.heap[b]?) : LedB H w w1 := fun b hb _ => h b hb
theorem LedB.set {a : Addr} {t : TypeId} {cs : Array Value} (ha : Blk w a.block t cs) (ht : t ≠ 115) (u : Value) : LedB H w (w.setCell a u) := fun b _ ⟨cs', fr, e⟩ => Below.heap_setCell _ _ _ _ fun h => by
  unfold Blk at ha
  rw [h, ha] at e
  injection e with e
  injection e with _ e _
  exact ht e
theorem LedB.set_row {g n size base j : Nat} {t : TypeId} {v : Value} {xs : List Value} (h : w.ownsRow base t size v n xs) (hg : v.ownBlock = some g) (ht : t ≠ 115) (u : Value) : LedB H w (w.setCell ⟨g, j, none⟩ u) := fun b _ ⟨cs', fr, e⟩ => Below.heap_setCell _ _ _ _ fun h1 => by
  obtain ⟨cs, fr', h2⟩ := own_ty h g hg
  rw [h1, h2] at e
  injection e with e
  injection e with _ e _
  exact ht e
theorem LedB.oth {p : Nat} {cs : Array Value} (h : Oth1 p w w1) (hH : H ≤ w.heap.size) (hp : Blk w p 76 cs) : LedB H w w1 := fun b hb ⟨cs', fr, e⟩ => h b (by omega) fun h1 => by
  unfold Blk at hp
  rw [h1, hp] at e
  injection e with e
  injection e with _ e _
  exact absurd e (by decide)
end
/-- the sheet behind a bringing -/
def AftA (N : Nat → Prop) (H : Nat) (w w' : World) (base sp : Nat) (lk : Int) (ps : List Nat) (vc : Value) (rb rc : Nat) (s : Sh) : Prop :=
  ∃ s', ShAt N w' base sp lk ps vc rb rc s' ∧ KeepN N w w' ∧ Below base w w' ∧ LedB H w w' ∧ RelA s s'
/-- the panic that ends what needs too many runs -/
def enoughV : Value := .iface 89 (.agg #[])
end Go.Proofs.YtnadldoebfmgmaaDoor.q
