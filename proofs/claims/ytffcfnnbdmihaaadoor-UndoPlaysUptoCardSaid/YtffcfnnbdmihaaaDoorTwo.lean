/-
  THE TWO HISTORIES side by side: at the start.
-/
import Derived.Test.YtffcfnnbdmihaaaDoorUndoMath
import Derived.Test.YtffcfnnbdmihaaaDoorRefDo
namespace Go.Proofs.YtffcfnnbdmihaaaDoor.hn
open Go.RowKit

/-- the history and the reference's history, side by side -/
def Tie (base h r M n : Nat) (w : World) : Prop :=
  ∃ v1 v2 l tx fr a, HistAt (NB r v1 v2) w base h l a ∧ RefV w base r v1 v2 tx fr a ∧ Link l tx fr M ∧ l.length ≤ n

theorem own_new1 {w : World} {g base : Nat} {e : TypeId} {u : Value} (h : Blk w g e #[u]) (hb : base ≤ g) : w.ownsRow base e 1 (.slice (some ⟨g, 0, none⟩) 1 1) 1 [u] :=
  ⟨rfl, .inr ⟨g, 1, #[u], rfl, hb, h, by omega, by unfold maxLen; omega, rfl, rfl⟩⟩

/-- the world behind the making of the reference's history -/
abbrev startW (s : ByteArray) (w1 : World) : World :=
  ((w1.alloc (Obj.cells #[Value.string s] 9)).alloc (Obj.cells #[Value.int IntKind.i64 (-1)] 3)).alloc
    (Obj.cells #[Value.slice (some { block := w1.heap.size, off := 0 }) 1 1, Value.slice (some { block := w1.heap.size + 1, off := 0 }) 1 1, Value.int IntKind.i64 0] 78)

theorem tie_start {w1 : World} {base h : Nat} {s : ByteArray} (H1 : HistAt (fun _ => False) w1 base h [{ text := s, fr := -1, nx := [], v := Value.slice none 0 0 }] 0) (hz : base ≤ w1.heap.size) :
    Tie base h (w1.heap.size + 2) s.size 1 (startW s w1) := by
  have hb : Below w1.heap.size w1 (startW s w1) := (((Below.refl _ _).alloc (Nat.le_refl _) _).alloc (by simp) _).alloc (by simp; omega) _
  have B1 : Blk (startW s w1) w1.heap.size 9 #[.string s] := ((Blk.new w1 _ _).alloc _).alloc _
  have B2 : Blk (startW s w1) (w1.heap.size + 1) 3 #[.int .i64 (-1)] := by
    have e : (w1.alloc (Obj.cells #[Value.string s] 9)).heap.size = w1.heap.size + 1 := by simp
    have := Blk.new (w1.alloc (Obj.cells #[Value.string s] 9)) 3 #[.int .i64 (-1)]
    rw [e] at this
    exact this.alloc _
  have B3 : Blk (startW s w1) (w1.heap.size + 2) 78 #[.slice (some ⟨w1.heap.size, 0, none⟩) 1 1, .slice (some ⟨w1.heap.size + 1, 0, none⟩) 1 1, .int .i64 0] := by
    have := Blk.new ((w1.alloc (Obj.cells #[Value.string s] 9)).alloc (Obj.cells #[Value.int IntKind.i64 (-1)] 3)) 78 #[.slice (some ⟨w1.heap.size, 0, none⟩) 1 1, .slice (some ⟨w1.heap.size + 1, 0, none⟩) 1 1, .int .i64 0]
    have e : ((w1.alloc (Obj.cells #[Value.string s] 9)).alloc (Obj.cells #[Value.int IntKind.i64 (-1)] 3)).heap.size = w1.heap.size + 2 := by simp
    rw [e] at this
    exact this
  refine ⟨.slice (some ⟨w1.heap.size, 0, none⟩) 1 1, .slice (some ⟨w1.heap.size + 1, 0, none⟩) 1 1, _, [s], [-1], 0, H1.other (fun k hk _ => hb.block k hk) (fun k hk => .inr ?_), ⟨B3, by omega, own_new1 B1 hz, own_new1 B2 (by omega), rfl, by simp⟩, link_new s _, by simp⟩
  rcases hk with h | h | h
  · omega
  · simp only [Value.ownBlock, Option.some.injEq] at h; omega
  · simp only [Value.ownBlock, Option.some.injEq] at h; omega
/-- a frame of the histories' blocks is enough -/
theorem tie_mk {w : World} {base h r M M' n a : Nat} {N : Nat → Prop} {v1 v2 : Value} {l : List HV} {tx : List ByteArray} {fr : List Int} (H : HistAt N w base h l a) (hs : ∀ k, NB r v1 v2 k → N k) (R : RefV w base r v1 v2 tx fr a)
    (K : Link l tx fr M) (hM : M ≤ M') (hn : l.length ≤ n) : Tie base h r M' n w :=
  ⟨v1, v2, l, tx, fr, a, H.other (fun _ _ _ => rfl) fun k hk => .inl (hs k hk), R, K.more hM, hn⟩
theorem tie_push {w5 w6 w7 : World} {base h r M M' n a : Nat} {N : Nat → Prop} {v1 v2 v1' v2' v u : Value} {l : List HV} {tx : List ByteArray} {fr : List Int} {y : HV} {S : ByteArray}
    (H : HistAt N w5 base h (l.set a { y with nx := y.nx ++ [l.length], v := v } ++ [⟨S, a, [], u⟩]) l.length) (hs : ∀ k, NB r v1 v2 k → N k)
    (R : RefV w6 base r v1' v2' (tx ++ [S]) (fr ++ [(a : Int)]) tx.length) (hO : Oth (NB r v1 v2) w5 w6) (hN : ∀ k, NB r v1' v2' k → NB r v1 v2 k ∨ w5.heap.size ≤ k) (hb : Below w6.heap.size w6 w7)
    (K : Link l tx fr M) (hy : l[a]? = some y) (hM : M ≤ M') (hS : S.size ≤ M') (hn : l.length + 1 ≤ n) : Tie base h r M' n w7 := by
  have H6 : HistAt (NB r v1' v2') w6 base h (l.set a { y with nx := y.nx ++ [l.length], v := v } ++ [⟨S, a, [], u⟩]) l.length :=
    H.other (fun k hk hn => hO k hk fun h => hn (hs k h)) fun k hk => (hN k hk).imp (hs k) id
  have e := K.len.1
  refine ⟨v1', v2', _, _, _, l.length, H6.below hb, by rw [e]; exact R.below hb, K.push hy hM hS u v, by simpa using hn⟩
/-- the reference goes to another state -/
theorem tie_set {w w2 : World} {base h r M M' n a c : Nat} {N : Nat → Prop} {v1 v2 : Value} {l : List HV} {tx : List ByteArray} {fr : List Int} (H : HistAt N w base h l c) (hs : ∀ k, NB r v1 v2 k → N k) (R : RefV w base r v1 v2 tx fr a)
    (K : Link l tx fr M) (hM : M ≤ M') (hn : l.length ≤ n) (hc : c < l.length) (hw : w2 = w.setCell ⟨r, 2, none⟩ (.int .i64 c)) : Tie base h r M' n w2 := by
  subst hw
  have e := K.len.1
  have H6 : HistAt (NB r v1 v2) (w.setCell ⟨r, 2, none⟩ (.int .i64 c)) base h l c :=
    H.other (fun k hk hn => Below.heap_setCell _ _ _ _ fun e => hn (hs k (.inl e))) fun k hk => .inl (hs k hk)
  exact ⟨v1, v2, l, tx, fr, c, H6, R.setAt (by omega), K.more hM, hn⟩
theorem fint_at {w : World} {base : Nat} {v : Value} {fr : List Int} (h : w.ownsRow base 3 1 v fr.length (fints fr)) {k : Nat} {f : Int} (hf : fr[k]? = some f) : ∃ g cap, v = .slice (some ⟨g, 0, none⟩) fr.length cap ∧ k < fr.length ∧ w.cell? ⟨g, k, none⟩ = some (.int .i64 f) := by
  have hk := (List.getElem?_eq_some_iff.1 hf).1
  obtain ⟨g, cap, hv, _, hc⟩ := fint_cell h hk
  have : fr[k] = f := by rw [List.getElem?_eq_getElem hk] at hf; exact Option.some.inj hf
  exact ⟨g, cap, hv, hk, by rw [hc, this]⟩
theorem text_at {w : World} {base : Nat} {v : Value} {tx : List ByteArray} (h : w.ownsRow base 9 1 v tx.length (texts tx)) {k : Nat} {f : ByteArray} (hf : tx[k]? = some f) : ∃ g cap, v = .slice (some ⟨g, 0, none⟩) tx.length cap ∧ k < tx.length ∧ w.cell? ⟨g, k, none⟩ = some (.string f) := by
  have hk := (List.getElem?_eq_some_iff.1 hf).1
  obtain ⟨g, cap, hv, _, hc⟩ := text_cell h hk
  have : tx[k] = f := by rw [List.getElem?_eq_getElem hk] at hf; exact Option.some.inj hf
  exact ⟨g, cap, hv, hk, by rw [hc, this]⟩
end Go.Proofs.YtffcfnnbdmihaaaDoor.hn
