/-
  JOINED of the texts DK UL UN UM ZF
-/
import Derived.Test.YtalklmeejdmifaaGreatDoorJaq
namespace Go.Proofs.YtalklmeejdmifaaGreatDoor
open Go.RowKit
def genC (k tok : Nat) (t : Bs) (A : Option Addr) (m c : Nat) (a e f u : Int) (b : Bool) : Array Value := #[.int .i64 (k : Int), .int .i64 (tok : Int), .string ⟨t.toArray⟩, .slice A m c, .int .i64 a, .int .i64 e, .int .i64 f, .int .i64 u, .bool b]
def putC (k tok : Nat) (t : Bs) (A : Option Addr) (m c : Nat) (a : Nat) (q : Tr.Pl) : Array Value := genC k tok t A m c a q.end_ q.from_ q.to_ q.lacks
def NodeB (w : World) (g : Nat) : Prop := ∃ k tok t A m c a e f u b, Blk w g 121 (genC k tok t A m c a e f u b)
structure Turn (X : List Nat) (w w' : World) : Prop where
 size : w'.heap.size = w.heap.size
 oth : ∀ x, x ∉ X → w'.heap[x]? = w.heap[x]?
 nodes : ∀ x ∈ X, NodeB w x
 calm : Calm w w'
theorem NodeB.no_ptr {w : World} {g j : Nat} {q : Option Addr} (h : NodeB w g) (hc : w.cell? ⟨g, j, none⟩ = some (.pointer q)) : False := by
 obtain ⟨k, tok, t, A, m, c, a, e, f, u, b, hB⟩ := h
 rw [hB.cell j] at hc
 unfold genC at hc
 rcases j with _ | _ | _ | _ | _ | _ | _ | _ | _ | j
 all_goals simp at hc
theorem RowF.at_ {w : World} {F : Nat → Prop} {A : Option Addr} {vs : List Value} {i : Nat} {u : Value} (h : RowF w F A vs) (hu : vs[i]? = some u) : ∃ b o, A = some ⟨b, o, none⟩ ∧ w.cell? ⟨b, o + i, none⟩ = some u := by
 obtain ⟨b, o, e, _, _, hc⟩ := h (by have := (List.getElem?_eq_some_iff.1 hu).1; omega)
 exact ⟨b, o, e, hc i u hu⟩
section
variable {w w' w1 : World} {X : List Nat} {F : Nat → Prop} {A : Option Addr}
theorem Turn.trans (h : Turn X w w1) (h' : Turn X w1 w') : Turn X w w' := ⟨h'.size.trans h.size, fun x hx => (h'.oth x hx).trans (h.oth x hx), h.nodes, h.calm.trans h'.calm⟩
theorem Turn.mono {Y : List Nat} (h : Turn X w w') (hX : ∀ x ∈ X, x ∈ Y) (hY : ∀ y ∈ Y, NodeB w y) : Turn Y w w' := ⟨h.size, fun x hx => h.oth x fun hm => hx (hX x hm), hY, h.calm⟩
theorem RowF.turn {vs : List Value} (h : RowF w F A vs) (ht : Turn X w w') (hv : ∀ u ∈ vs, ∃ q, u = .pointer q) : RowF w' F A vs := fun hn => by
 obtain ⟨b, o, e, hF, hl, hc⟩ := h hn
 have hb : b ∉ X := fun hb => by
  obtain ⟨q, hq⟩ := hv vs[0] (List.getElem_mem hn)
  have h0 := hc 0 vs[0] (List.getElem?_eq_getElem hn)
  rw [hq] at h0
  exact (ht.nodes b hb).no_ptr h0
 exact ⟨b, o, e, hF, by rw [ht.size]; exact hl, fun j u hu => (World.cell?_of_block (a := ⟨b, o + j, none⟩) (ht.oth b hb)).trans (hc j u hu)⟩
theorem RnsF.ptrs : ∀ {l : List Tr.PT} {fps : List Nat} {vs : List Value}, RnsF w F l fps vs → ∀ u ∈ vs, ∃ q, u = .pointer q
 | [], _, _, h, u, hu => by obtain ⟨_, rfl⟩ := h; simp at hu
 | p :: l, fps, vs, h, u, hu => by
  obtain ⟨fp, fps', v, vs', _, rfl, hp, hl⟩ := h
  rcases List.mem_cons.1 hu with rfl | hu
  ·obtain ⟨q, e⟩ := hp.form; exact ⟨_, e⟩
  ·exact RnsF.ptrs hl u hu
mutual
theorem RnF.turn (ht : Turn X w w') : ∀ (p : Tr.PT) (fp : List Nat) (v : Value), (∀ x ∈ fp, x ∉ X) → RnF w F p fp v → RnF w' F p fp v
 | .leaf k t a, fp, v, hx, h => by
  obtain ⟨g, e, rfl, hF, hB⟩ := h
  exact ⟨g, e, rfl, hF, (ht.oth g (hx g (by simp))).trans hB⟩
 | .gap t a d, fp, v, hx, h => by
  obtain ⟨g, e, rfl, hF, hB⟩ := h
  exact ⟨g, e, rfl, hF, (ht.oth g (hx g (by simp))).trans hB⟩
 | .branch k a l, fp, v, hx, h => by
  obtain ⟨g, fps, e, rfl, hF, A, c, vs, hB, hc, hr, hp⟩ := h
  exact ⟨g, fps, e, rfl, hF, A, c, vs, (ht.oth g (hx g (by simp))).trans hB, hc, hr.turn ht hp.ptrs, RnsF.turn ht l fps vs (fun x hm => hx x (List.mem_cons_of_mem _ hm)) hp⟩
theorem RnsF.turn (ht : Turn X w w') : ∀ (l : List Tr.PT) (fps : List Nat) (vs : List Value), (∀ x ∈ fps, x ∉ X) → RnsF w F l fps vs → RnsF w' F l fps vs
 | [], fps, vs, _, h => h
 | p :: l, fps, vs, hx, h => by
  obtain ⟨fp, fps', v, vs', rfl, e, hp, hl⟩ := h
  exact ⟨fp, fps', v, vs', rfl, e, RnF.turn ht p fp v (fun x hm => hx x (List.mem_append_left _ hm)) hp, RnsF.turn ht l fps' vs' (fun x hm => hx x (List.mem_append_right _ hm)) hl⟩
end
mutual
theorem RnF.nodes : ∀ (p : Tr.PT) (fp : List Nat) (v : Value), RnF w F p fp v → ∀ x ∈ fp, NodeB w x
 | .leaf k t a, fp, v, h, x, hx => by
  obtain ⟨g, e, rfl, hF, hB⟩ := h
  simp only [List.mem_singleton] at hx
  subst hx; exact ⟨_, _, _, _, _, _, _, _, _, _, _, hB⟩
 | .gap t a d, fp, v, h, x, hx => by
  obtain ⟨g, e, rfl, hF, hB⟩ := h
  simp only [List.mem_singleton] at hx
  subst hx; exact ⟨_, _, _, _, _, _, _, _, _, _, _, hB⟩
 | .branch k a l, fp, v, h, x, hx => by
  obtain ⟨g, fps, e, rfl, hF, A, c, vs, hB, hc, hr, hp⟩ := h
  rcases List.mem_cons.1 hx with rfl | hx
  ·exact ⟨_, _, _, _, _, _, _, _, _, _, _, hB⟩
  ·exact RnsF.nodes l fps vs hp x hx
theorem RnsF.nodes : ∀ (l : List Tr.PT) (fps : List Nat) (vs : List Value), RnsF w F l fps vs → ∀ x ∈ fps, NodeB w x
 | [], fps, vs, h, x, hx => by obtain ⟨rfl, _⟩ := h; simp at hx
 | p :: l, fps, vs, h, x, hx => by
  obtain ⟨fp, fps', v, vs', rfl, e, hp, hl⟩ := h
  rcases List.mem_append.1 hx with hx | hx
  ·exact RnF.nodes p fp v hp x hx
  ·exact RnsF.nodes l fps' vs' hl x hx
end
end
mutual
def NpF (w : World) (F : Nat → Prop) : Tr.PT → Nat → List Nat → Value → Prop
 | .leaf k t x, a, fp, v => ∃ g, v = .pointer (some ⟨g, 0, none⟩) ∧ fp = [g] ∧ F g ∧ Blk w g 121 (putC 0 k t none 0 0 a (Tr.putP (.leaf k t x) a))
 | .gap t x d, a, fp, v => ∃ g, v = .pointer (some ⟨g, 0, none⟩) ∧ fp = [g] ∧ F g ∧ Blk w g 121 (putC 1 0 t none 0 0 a (Tr.putP (.gap t x d) a))
 | .branch k x l, a, fp, v => ∃ g fps, v = .pointer (some ⟨g, 0, none⟩) ∧ fp = g :: fps ∧ F g ∧ ∃ A c vs, Blk w g 121 (putC k 0 [] A l.length c a (Tr.putP (.branch k x l) a)) ∧ l.length ≤ c ∧ RowF w F A vs ∧ NpsF w F l a fps vs
def NpsF (w : World) (F : Nat → Prop) : List Tr.PT → Nat → List Nat → List Value → Prop
 | [], _, fps, vs => fps = [] ∧ vs = []
 | p :: l, a, fps, vs => ∃ fp fps' v vs', fps = fp ++ fps' ∧ vs = v :: vs' ∧ NpF w F p a fp v ∧ NpsF w F l (Tr.putP p a).end_ fps' vs'
end
section
variable {w w' w1 : World} {X : List Nat} {F : Nat → Prop}
theorem NpF.form : ∀ {p : Tr.PT} {a : Nat} {fp : List Nat} {v : Value}, NpF w F p a fp v → ∃ q, v = .pointer (some ⟨q, 0, none⟩)
 | .leaf _ _ _, _, _, _, h => by obtain ⟨g, e, _⟩ := h; exact ⟨g, e⟩
 | .gap _ _ _, _, _, _, h => by obtain ⟨g, e, _⟩ := h; exact ⟨g, e⟩
 | .branch _ _ _, _, _, _, h => by obtain ⟨g, _, e, _⟩ := h; exact ⟨g, e⟩
theorem NpsF.ptrs : ∀ {l : List Tr.PT} {a : Nat} {fps : List Nat} {vs : List Value}, NpsF w F l a fps vs → ∀ u ∈ vs, ∃ q, u = .pointer q
 | [], _, _, _, h, u, hu => by obtain ⟨_, rfl⟩ := h; simp at hu
 | p :: l, _, fps, vs, h, u, hu => by
  obtain ⟨fp, fps', v, vs', _, rfl, hp, hl⟩ := h
  rcases List.mem_cons.1 hu with rfl | hu
  ·obtain ⟨q, e⟩ := hp.form; exact ⟨_, e⟩
  ·exact NpsF.ptrs hl u hu
theorem NpsF.len : ∀ {l : List Tr.PT} {a : Nat} {fps : List Nat} {vs : List Value}, NpsF w F l a fps vs → vs.length = l.length
 | [], _, _, _, h => by obtain ⟨_, rfl⟩ := h; rfl
 | p :: l, _, _, _, h => by
  obtain ⟨fp, fps', v, vs', _, rfl, _, hl⟩ := h
  rw [List.length_cons, List.length_cons, NpsF.len hl]
theorem NpsF.snoc : ∀ {l : List Tr.PT} {s : Tr.Pl} {fps fp : List Nat} {vs : List Value} {p : Tr.PT} {v : Value}, NpsF w F l s.end_ fps vs → NpF w F p (Tr.putsP l s).end_ fp v → NpsF w F (l ++ [p]) s.end_ (fps ++ fp) (vs ++ [v])
 | [], s, fps, fp, vs, p, v, h, hp => by
  obtain ⟨rfl, rfl⟩ := h
  exact ⟨fp, [], v, [], by simp, rfl, by simpa only [Tr.putsP] using hp, rfl, rfl⟩
 | q :: l, s, fps, fp, vs, p, v, h, hp => by
  obtain ⟨fq, fps', u, us', rfl, rfl, hq, hl⟩ := h
  refine ⟨fq, fps' ++ fp, u, us' ++ [v], by rw [List.append_assoc], rfl, hq, ?_⟩
  have hj : (Tr.joinP s (Tr.putP q s.end_)).end_ = (Tr.putP q s.end_).end_ := rfl
  rw [← hj] at hl ⊢
  exact NpsF.snoc hl (by simpa only [Tr.putsP] using hp)
mutual
theorem NpF.turn (ht : Turn X w w') : ∀ (p : Tr.PT) (a : Nat) (fp : List Nat) (v : Value), (∀ x ∈ fp, x ∉ X) → NpF w F p a fp v → NpF w' F p a fp v
 | .leaf k t _, a, fp, v, hx, h => by
  obtain ⟨g, e, rfl, hF, hB⟩ := h
  exact ⟨g, e, rfl, hF, (ht.oth g (hx g (by simp))).trans hB⟩
 | .gap t _ d, a, fp, v, hx, h => by
  obtain ⟨g, e, rfl, hF, hB⟩ := h
  exact ⟨g, e, rfl, hF, (ht.oth g (hx g (by simp))).trans hB⟩
 | .branch k _ l, a, fp, v, hx, h => by
  obtain ⟨g, fps, e, rfl, hF, A, c, vs, hB, hc, hr, hp⟩ := h
  exact ⟨g, fps, e, rfl, hF, A, c, vs, (ht.oth g (hx g (by simp))).trans hB, hc, hr.turn ht hp.ptrs, NpsF.turn ht l a fps vs (fun x hm => hx x (List.mem_cons_of_mem _ hm)) hp⟩
theorem NpsF.turn (ht : Turn X w w') : ∀ (l : List Tr.PT) (a : Nat) (fps : List Nat) (vs : List Value), (∀ x ∈ fps, x ∉ X) → NpsF w F l a fps vs → NpsF w' F l a fps vs
 | [], _, fps, vs, _, h => h
 | p :: l, a, fps, vs, hx, h => by
  obtain ⟨fp, fps', v, vs', rfl, e, hp, hl⟩ := h
  exact ⟨fp, fps', v, vs', rfl, e, NpF.turn ht p a fp v (fun x hm => hx x (List.mem_append_left _ hm)) hp, NpsF.turn ht l _ fps' vs' (fun x hm => hx x (List.mem_append_right _ hm)) hl⟩
end
end
theorem NpF.head {w : World} {F : Nat → Prop} : ∀ {p : Tr.PT} {a : Nat} {fp : List Nat} {v : Value}, NpF w F p a fp v → ∃ q k tok t A m c, v = .pointer (some ⟨q, 0, none⟩) ∧ q ∈ fp ∧ Blk w q 121 (putC k tok t A m c a (Tr.putP p a))
 | .leaf _ _ _, _, _, _, h => by obtain ⟨g, e, rfl, _, hB⟩ := h; exact ⟨g, _, _, _, _, _, _, e, by simp, hB⟩
 | .gap _ _ _, _, _, _, h => by obtain ⟨g, e, rfl, _, hB⟩ := h; exact ⟨g, _, _, _, _, _, _, e, by simp, hB⟩
 | .branch _ _ _, _, _, _, h => by obtain ⟨g, _, e, rfl, _, A, c, vs, hB, _⟩ := h; exact ⟨g, _, _, _, _, _, _, e, by simp, hB⟩
theorem gen_set {w : World} {g k tok : Nat} {t : Bs} {A : Option Addr} {m c : Nat} {a e f u : Int} {b : Bool} (h : Blk w g 121 (genC k tok t A m c a e f u b)) :
  (∀ x : Int, Blk (w.setCell ⟨g, 4, none⟩ (.int .i64 x)) g 121 (genC k tok t A m c x e f u b)) ∧
  (∀ x : Int, Blk (w.setCell ⟨g, 5, none⟩ (.int .i64 x)) g 121 (genC k tok t A m c a x f u b)) ∧
  (∀ x : Int, Blk (w.setCell ⟨g, 6, none⟩ (.int .i64 x)) g 121 (genC k tok t A m c a e x u b)) ∧
  (∀ x : Int, Blk (w.setCell ⟨g, 7, none⟩ (.int .i64 x)) g 121 (genC k tok t A m c a e f x b)) ∧
  (∀ x : Bool, Blk (w.setCell ⟨g, 8, none⟩ (.bool x)) g 121 (genC k tok t A m c a e f u x)) :=
 ⟨fun x => h.set_ 4 (.int .i64 x), fun x => h.set_ 5 (.int .i64 x), fun x => h.set_ 6 (.int .i64 x), fun x => h.set_ 7 (.int .i64 x), fun x => h.set_ 8 (.bool x)⟩
theorem gen_turn {w : World} {g k tok : Nat} {t : Bs} {A : Option Addr} {m c : Nat} {a e f u : Int} {b : Bool} (h : Blk w g 121 (genC k tok t A m c a e f u b)) (i : Nat) (v : Value) : Turn [g] w (w.setCell ⟨g, i, none⟩ v) :=
 ⟨by simp [World.setCell], fun x hx => Below.heap_setCell w ⟨g, i, none⟩ v x (by simpa using hx), fun x hx => by simp only [List.mem_singleton] at hx; subst hx; exact ⟨_, _, _, _, _, _, _, _, _, _, _, h⟩, Calm.set w _ v⟩
mutual
def NdF (w : World) (F : Nat → Prop) : Tr.PT → List Value → Prop
 | .leaf k t _, v => v = [.int .i64 0, .int .i64 (k : Int), .string ⟨t.toArray⟩, .slice none 0 0]
 | .gap t _ _, v => v = [.int .i64 1, .int .i64 0, .string ⟨t.toArray⟩, .slice none 0 0]
 | .branch k _ l, v => ∃ A vs, v = [.int .i64 (k : Int), .int .i64 0, .string ⟨#[]⟩, .slice A l.length l.length] ∧ RowF w F A vs ∧ NdsF w F l vs
def NdsF (w : World) (F : Nat → Prop) : List Tr.PT → List Value → Prop
 | [], vs => vs = []
 | p :: l, vs => ∃ v vs', vs = v ++ vs' ∧ NdF w F p v ∧ NdsF w F l vs'
end
section
variable {w w' : World} {F F' : Nat → Prop}
mutual
theorem NdF.keep (hs : w.heap.size ≤ w'.heap.size) (hk : ∀ b, F b → b < w.heap.size → w'.heap[b]? = w.heap[b]? ∧ F' b) : ∀ (p : Tr.PT) (v : List Value), NdF w F p v → NdF w' F' p v
 | .leaf _ _ _, _, h => h
 | .gap _ _ _, _, h => h
 | .branch k _ l, v, h => by
  obtain ⟨A, vs, e, hr, hp⟩ := h
  exact ⟨A, vs, e, hr.keep hs hk, NdsF.keep hs hk l vs hp⟩
theorem NdsF.keep (hs : w.heap.size ≤ w'.heap.size) (hk : ∀ b, F b → b < w.heap.size → w'.heap[b]? = w.heap[b]? ∧ F' b) : ∀ (l : List Tr.PT) (vs : List Value), NdsF w F l vs → NdsF w' F' l vs
 | [], _, h => h
 | p :: l, vs, h => by
  obtain ⟨v, vs', e, hp, hl⟩ := h
  exact ⟨v, vs', e, NdF.keep hs hk p v hp, NdsF.keep hs hk l vs' hl⟩
end
theorem NdF.form : ∀ {p : Tr.PT} {v : List Value}, NdF w F p v → ∃ (a b : Nat) (t : Bs) (A : Option Addr) (n : Nat), v = [.int .i64 (a : Int), .int .i64 (b : Int), .string ⟨t.toArray⟩, .slice A n n]
 | .leaf k t _, v, h => ⟨0, k, t, none, 0, h⟩
 | .gap t _ _, v, h => ⟨1, 0, t, none, 0, h⟩
 | .branch k _ l, v, h => by
  obtain ⟨A, vs, e, _⟩ := h
  exact ⟨k, 0, [], A, l.length, e⟩
theorem NdsF.snoc : ∀ {l : List Tr.PT} {vs v : List Value} {p : Tr.PT}, NdsF w F l vs → NdF w F p v → NdsF w F (l ++ [p]) (vs ++ v)
 | [], vs, v, p, h, hp => by
  have : vs = [] := h
  subst this
  exact ⟨v, [], by simp, hp, rfl⟩
 | q :: l, vs, v, p, h, hp => by
  obtain ⟨u, vs', rfl, hq, hl⟩ := h
  exact ⟨u, vs' ++ v, by rw [List.append_assoc], hq, NdsF.snoc hl hp⟩
end
theorem four_below {B r : Nat} {w w' : World} (h : Below B w w') (hr : B ≤ r) (a b c d : Value) : Below B w ((((World.setCell w' ⟨r, 0, none⟩ a).setCell ⟨r, 1, none⟩ b).setCell ⟨r, 2, none⟩ c).setCell ⟨r, 3, none⟩ d) :=
 (((h.setCell (p := ⟨r, 0, none⟩) hr a).setCell (p := ⟨r, 1, none⟩) hr b).setCell (p := ⟨r, 2, none⟩) hr c).setCell (p := ⟨r, 3, none⟩) hr d
theorem node_leaf (a : Addr) (w : World) : (method 517 104 (.pointer (some a)) "Node").run Tryz.prog w = .ok (310, .pointer (some a)) w := by kernel_rfl
theorem node_gap (a : Addr) (w : World) : (method 517 107 (.pointer (some a)) "Node").run Tryz.prog w = .ok (313, .pointer (some a)) w := by kernel_rfl
theorem node_branch (a : Addr) (w : World) : (method 517 90 (.pointer (some a)) "Node").run Tryz.prog w = .ok (39, .pointer (some a)) w := by kernel_rfl
theorem nnil (t : Nat) (ht : t = 104 ∨ t = 107 ∨ t = 90) (a : Addr) (w : World) : (nilAhead 517 t (.pointer (some a)) "Node").run Tryz.prog w = .ok (some false) w := by
 rcases ht with rfl | rfl | rfl <;> kernel_rfl
def NodeE (w : World) (p : Tr.PT) (e : Ending) (w' : World) : Prop :=
 ∃ (a b : Nat) (t : Bs) (A : Option Addr) (n : Nat), e = .returned (.agg #[.int .i64 (a : Int), .int .i64 (b : Int), .string ⟨t.toArray⟩, .slice A n n]) ∧ NdF w' (fun x => w.heap.size ≤ x) p [.int .i64 (a : Int), .int .i64 (b : Int), .string ⟨t.toArray⟩, .slice A n n] ∧ Below w.heap.size w w'
def NodeC (p : Tr.PT) : Prop := ∀ (w : World) (F : Nat → Prop) (v : Value), PtF w F p v → ∃ t q f, v = .iface t (.pointer (some ⟨q, 0, none⟩)) ∧
 (∀ w, (nilAhead 517 t (.pointer (some ⟨q, 0, none⟩)) "Node").run Tryz.prog w = .ok (some false) w) ∧
 (∀ w, (method 517 t (.pointer (some ⟨q, 0, none⟩)) "Node").run Tryz.prog w = .ok (f, .pointer (some ⟨q, 0, none⟩)) w) ∧
 (∀ (args : Array Value) (w : World), (callFunc f args).run Tryz.prog w = .ok (.enter f args) w) ∧
 ∀ w', Below w.heap.size w w' → Calls Tryz.prog f #[.pointer (some ⟨q, 0, none⟩)] w' (NodeE w' p)
set_option maxHeartbeats 4000000 in
set_option maxRecDepth 100000 in
theorem leaf_node {w : World} {q : Nat} {k a : Nat} {t : Bs} (hB : Blk w q 106 #[.int .i64 (k : Int), .string ⟨t.toArray⟩, .int .i64 (a : Int)]) :
  Calls Tryz.prog 310 #[.pointer (some ⟨q, 0, none⟩)] w (NodeE w (.leaf k t a)) := by
 have hd : Below w.heap.size w (w.alloc (.cells #[.int .i64 0, .int .i64 0, .string ⟨#[]⟩, .slice none 0 0] 26)) := (Below.refl _ _).alloc (Nat.le_refl _) _
 have hr : Blk (w.alloc (.cells #[.int .i64 0, .int .i64 0, .string ⟨#[]⟩, .slice none 0 0] 26)) w.heap.size 26 #[.int .i64 0, .int .i64 0, .string ⟨#[]⟩, .slice none 0 0] := Blk.new _ _ _
 have hB := hB.below hd hB.lt
 obtain ⟨r, hr0⟩ : ∃ r, r = w.heap.size := ⟨_, rfl⟩
 rw [← hr0] at hr
 have Hr := Lib.hid hr0
 go_enter Tryz.func310, Tryz.ntmps310
 go_upto_region 1 with fail
 rw [← hr0]
 clear hr0
 generalize w.alloc (.cells #[.int .i64 0, .int .i64 0, .string ⟨#[]⟩, .slice none 0 0] 26) = w1 at *
 have b0 := hB.cell 0
 have b1 := hB.cell 1
 simp at b0 b1
 go_still_tail 9, (by kernel_rfl)
 change wpList _ _ _ _ _ w1.drew
 have hr := hr.drew
 have hd := hd.drew
 clear b0 b1 hB
 generalize w1.drew = w2 at *
 have k0 := hr.cell 0
 have k1 := hr.cell 1
 have k2 := hr.cell 2
 have k3 := hr.cell 3
 simp at k0 k1 k2 k3
 have y0 := hr.frozen 0
 have y1 := hr.frozen 1
 have y2 := hr.frozen 2
 have y3 := hr.frozen 3
 go_wp2_with fail
 have hb2 : Below w.heap.size w ((((World.setCell w2 ⟨r, 0, none⟩ (.int .i64 0)).setCell ⟨r, 1, none⟩ (.int .i64 (k : Int))).setCell ⟨r, 2, none⟩ (.string ⟨t.toArray⟩)).setCell ⟨r, 3, none⟩ (.slice none 0 0)) := four_below hd (by rw [Hr.out]; exact Nat.le_refl _) _ _ _ _
 have hr := (((hr.set_ 0 (.int .i64 0)).set_ 1 (.int .i64 (k : Int))).set_ 2 (.string ⟨t.toArray⟩)).set_ 3 (.slice none 0 0)
 simp at hr
 clear k0 k1 k2 k3 y0 y1 y2 y3
 generalize ((((World.setCell w2 ⟨r, 0, none⟩ (.int .i64 0)).setCell ⟨r, 1, none⟩ (.int .i64 (k : Int))).setCell ⟨r, 2, none⟩ (.string ⟨t.toArray⟩)).setCell ⟨r, 3, none⟩ (.slice none 0 0)) = w3 at *
 have k0 := hr.cell 0
 have k1 := hr.cell 1
 have k2 := hr.cell 2
 have k3 := hr.cell 3
 simp at k0 k1 k2 k3
 (try simp only [Exit.inBlock, Exit.then])
 refine bodyPost_ret (v := .agg #[(.int .i64 0), (.int .i64 (k : Int)), (.string ⟨t.toArray⟩), (.slice none 0 0)]) (by simp [results, Tryz.results310, go_sem, k0, k1, k2, k3]; try rfl) rfl ?_
 exact ⟨0, k, t, none, 0, rfl, rfl, hb2⟩
set_option maxHeartbeats 4000000 in
set_option maxRecDepth 100000 in
theorem gap_node {w : World} {q : Nat} {a : Nat} {t : Bs} {d : Bool} (hB : Blk w q 297 #[.string ⟨t.toArray⟩, .int .i64 (a : Int), .bool d]) :
  Calls Tryz.prog 313 #[.pointer (some ⟨q, 0, none⟩)] w (NodeE w (.gap t a d)) := by
 have hd : Below w.heap.size w (w.alloc (.cells #[.int .i64 0, .int .i64 0, .string ⟨#[]⟩, .slice none 0 0] 26)) := (Below.refl _ _).alloc (Nat.le_refl _) _
 have hr : Blk (w.alloc (.cells #[.int .i64 0, .int .i64 0, .string ⟨#[]⟩, .slice none 0 0] 26)) w.heap.size 26 #[.int .i64 0, .int .i64 0, .string ⟨#[]⟩, .slice none 0 0] := Blk.new _ _ _
 have hB := hB.below hd hB.lt
 obtain ⟨r, hr0⟩ : ∃ r, r = w.heap.size := ⟨_, rfl⟩
 rw [← hr0] at hr
 have Hr := Lib.hid hr0
 go_enter Tryz.func313, Tryz.ntmps313
 go_upto_region 1 with fail
 rw [← hr0]
 clear hr0
 generalize w.alloc (.cells #[.int .i64 0, .int .i64 0, .string ⟨#[]⟩, .slice none 0 0] 26) = w2 at *
 have b0 := hB.cell 0
 simp at b0
 have k0 := hr.cell 0
 have k1 := hr.cell 1
 have k2 := hr.cell 2
 have k3 := hr.cell 3
 simp at k0 k1 k2 k3
 have y0 := hr.frozen 0
 have y1 := hr.frozen 1
 have y2 := hr.frozen 2
 have y3 := hr.frozen 3
 go_wp2_with fail
 have hb2 : Below w.heap.size w ((((World.setCell w2 ⟨r, 0, none⟩ (.int .i64 1)).setCell ⟨r, 1, none⟩ (.int .i64 0)).setCell ⟨r, 2, none⟩ (.string ⟨t.toArray⟩)).setCell ⟨r, 3, none⟩ (.slice none 0 0)) := four_below hd (by rw [Hr.out]; exact Nat.le_refl _) _ _ _ _
 clear b0 hB
 have hr := (((hr.set_ 0 (.int .i64 1)).set_ 1 (.int .i64 0)).set_ 2 (.string ⟨t.toArray⟩)).set_ 3 (.slice none 0 0)
 simp at hr
 clear k0 k1 k2 k3 y0 y1 y2 y3
 generalize ((((World.setCell w2 ⟨r, 0, none⟩ (.int .i64 1)).setCell ⟨r, 1, none⟩ (.int .i64 0)).setCell ⟨r, 2, none⟩ (.string ⟨t.toArray⟩)).setCell ⟨r, 3, none⟩ (.slice none 0 0)) = w3 at *
 have k0 := hr.cell 0
 have k1 := hr.cell 1
 have k2 := hr.cell 2
 have k3 := hr.cell 3
 simp at k0 k1 k2 k3
 (try simp only [Exit.inBlock, Exit.then])
 refine bodyPost_ret (v := .agg #[(.int .i64 1), (.int .i64 0), (.string ⟨t.toArray⟩), (.slice none 0 0)]) (by simp [results, Tryz.results313, go_sem, k0, k1, k2, k3]; try rfl) rfl ?_
 exact ⟨1, 0, t, none, 0, rfl, rfl, hb2⟩
set_option maxHeartbeats 2000000 in
set_option maxRecDepth 100000 in
theorem nclip_walk (A : Option Addr) (n c : Nat) (w : World) (h : n ≤ c) (hn : A = none → c = 0) :
  Calls Tryz.prog 40 #[.slice A n c] w fun e w' => e = .returned (.slice A n n) ∧ w = w' := by
 cases A with
 | none =>
  have := hn rfl
  subst this
  obtain rfl : n = 0 := by omega
  go_enter Tryz.func40, Tryz.ntmps40
  go_wp2
  go_ret
  exact ⟨rfl, rfl⟩
 | some a =>
  go_enter Tryz.func40, Tryz.ntmps40
  go_wp2
  go_ret
  exact ⟨rfl, rfl⟩
theorem infoNode : (Tryz.prog.info? 26).map (fun i => (i.zero, i.size, i.bytes)) = some (some (.agg #[.int .i64 0, .int .i64 0, .string .empty, .slice none 0 0]), 4, 56) := by kernel_rfl
set_option maxHeartbeats 16000000 in
set_option maxRecDepth 100000 in
theorem branch_node {w : World} {F : Nat → Prop} {q k a : Nat} {l : List Tr.PT} {A : Option Addr} {c : Nat} {vs : List Value} (hB : Blk w q 109 #[.int .i64 (k : Int), .slice A l.length c, .int .i64 (a : Int)]) (hrow : RowF w F A vs) (hp : PtsF w F l vs) (hl : l.length ≤ 1000000000) (IH : ∀ p ∈ l, NodeC p) :
  Calls Tryz.prog 39 #[.pointer (some ⟨q, 0, none⟩)] w (NodeE w (.branch k a l)) := by
 obtain ⟨i0, ji, jz0, jz1, jz2⟩ := info_parts infoNode
 have hd : Below w.heap.size w (w.alloc (.cells #[.int .i64 0, .int .i64 0, .string ⟨#[]⟩, .slice none 0 0] 26)) := (Below.refl _ _).alloc (Nat.le_refl _) _
 have hr : Blk (w.alloc (.cells #[.int .i64 0, .int .i64 0, .string ⟨#[]⟩, .slice none 0 0] 26)) w.heap.size 26 #[.int .i64 0, .int .i64 0, .string ⟨#[]⟩, .slice none 0 0] := Blk.new _ _ _
 have hB1 := hB.below hd hB.lt
 obtain ⟨r, hr0⟩ : ∃ r, r = w.heap.size := ⟨_, rfl⟩
 rw [← hr0] at hr
 have Hr := Lib.hid hr0
 go_enter Tryz.func39, Tryz.ntmps39
 go_upto_region 1 with fail
 rw [← hr0]
 clear hr0
 generalize w.alloc (.cells #[.int .i64 0, .int .i64 0, .string ⟨#[]⟩, .slice none 0 0] 26) = w1 at *
 have b0 := hB1.cell 0
 simp at b0
 have hd2 : Below w.heap.size w (w1.alloc (.cells #[.int .i64 (k : Int), .int .i64 0, .string ⟨#[]⟩, .slice none 0 0] 26)) := hd.alloc hd.size _
 have hn : Blk (w1.alloc (.cells #[.int .i64 (k : Int), .int .i64 0, .string ⟨#[]⟩, .slice none 0 0] 26)) w1.heap.size 26 #[.int .i64 (k : Int), .int .i64 0, .string ⟨#[]⟩, .slice none 0 0] := Blk.new _ _ _
 have hr2 := hr.alloc (.cells #[.int .i64 (k : Int), .int .i64 0, .string ⟨#[]⟩, .slice none 0 0] 26)
 obtain ⟨n, hn0⟩ : ∃ n, n = w1.heap.size := ⟨_, rfl⟩
 have hrn : r ≠ n := by have := hr.lt; omega
 rw [← hn0] at hn
 have Hn : Hid (w.heap.size ≤ n) := by show _ ≤ _; have := hd.size; omega
 go_upto_region 2 with fail
 rw [← hn0]
 clear hn0 hd hr b0 hB1
 generalize w1.alloc (.cells #[.int .i64 (k : Int), .int .i64 0, .string ⟨#[]⟩, .slice none 0 0] 26) = w2 at *
 have c1 := (hB.below hd2 hB.lt).cell 1
 simp at c1
 have Hl := Lib.hid hl
 clear hl
 go_wp2_with fail
 go_loopg [16] l.length (fun m v wr => ∃ (i : Nat) (Av : Option Addr) (cv : Nat) (cells : List Value), v = .int .i64 (i : Int) ∧ i ≤ l.length ∧ l.length - i ≤ m ∧ Blk wr n 26 #[.int .i64 (k : Int), .int .i64 0, .string ⟨#[]⟩, .slice Av i cv] ∧ Blk wr r 26 #[.int .i64 0, .int .i64 0, .string ⟨#[]⟩, .slice none 0 0] ∧ wr.ownsRow w.heap.size 26 4 (.slice Av i cv) i cells ∧ NdsF wr (fun x => w.heap.size ≤ x ∧ x ≠ r ∧ x ≠ n ∧ some x ≠ (Value.slice Av i cv).ownBlock) (l.take i) cells ∧ Below w.heap.size w wr ∧ some n ≠ (Value.slice Av i cv).ownBlock ∧ some r ≠ (Value.slice Av i cv).ownBlock)
 case atStart => exact ⟨0, none, 0, [], rfl, Nat.zero_le _, Nat.le_refl _, hn, hr2, World.ownsRow_nil _ _ _ _, rfl, hd2, by simp [Value.ownBlock], by simp [Value.ownBlock]⟩
 case round =>
  clear hn hr2 hd2 c1
  obtain ⟨i, Av, cv, cells, rfl, hi, hm, hn, hr, hown, hk, hb, hone, horr⟩ := hrel
  have hl := Hl.out
  by_cases hlt : i < l.length
  ·have ii0 : (0 : Int) ≤ (i : Int) := by omega
   have ii1 : (i : Int) < (l.length : Int) := by omega
   obtain ⟨v, hv, hpv⟩ := hp.at_ hlt
   obtain ⟨t, qp, f, rfl, hni, hme, hcf, hcl⟩ := IH l[i] (List.getElem_mem hlt) w F v hpv
   obtain ⟨br, o, rfl, hcell⟩ := hrow.at_ hv
   have hbl := World.block_lt_of_cell? w ⟨br, o + i, none⟩ hcell
   have q0 := (hb.cell (p := ⟨br, o + i, none⟩) hbl).trans hcell
   have HL : Hid (l.take (i + 1) = l.take i ++ [l[i]]) := List.take_succ_eq_append_getElem hlt
   generalize l[i] = p at *
   have Hlt := Lib.hid hlt
   have Hm := Lib.hid hm
   clear hpv hv hcell hbl hlt hm hi hl
   go_wp2_with fail
   refine wp_region_G 7 (fun w' : World => w'.cell? ⟨n, 3, none⟩ = some (.slice Av i cv)) (by kernel_rfl) ?_
   have hdr : Below wr.heap.size wr wr.drew := (Below.refl _ _).drew
   have hn := hn.drew
   have hr := hr.drew
   have hown : wr.drew.ownsRow w.heap.size 26 4 (.slice Av i cv) i cells := own_of_block hown fun y hy => hdr.block y (hown.lt y hy).2
   have hk := NdsF.keep (F' := fun x => w.heap.size ≤ x ∧ x ≠ r ∧ x ≠ n ∧ some x ≠ (Value.slice Av i cv).ownBlock) hdr.size (fun y hF hl => ⟨hdr.block y hl, hF⟩) _ _ hk
   have hb := hb.drew
   clear q0 hdr
   generalize wr.drew = w3 at *
   have n3 := hn.cell 3
   simp at n3
   have hS0 : (fun w' : World => w'.cell? ⟨n, 3, none⟩ = some (.slice Av i cv)) w3 := n3
   refine wpAnyG_tk 0 hS0 ?_
   simp only [Act.put, List.setIfInBounds_toArray]
   refine wpAnyG_tk 1 hS0 ?_
   simp only [Act.put]
   refine wpAnyG_tk 2 hS0 ?_
   simp only [Act.put]
   clear hS0
   have hcl := hcl w3 hb
   refine wpAnyG_on 3 fun C hC => ?_
   go_simp
   ((with_reducible refine hcl.mono ?_))
   clear hcl
   intro e w4 h4
   obtain ⟨na, nb, nt, nA, nn, rfl, hnd, hb4⟩ := h4
   have hz4 := hb4.size
   have hnl := hn.lt
   have hrl := hr.lt
   have hol : ∀ y, (Value.slice Av i cv).ownBlock = some y → y < w3.heap.size := fun y hy => (hown.lt y hy).2
   have hn := hn.below hb4 hn.lt
   have hr := hr.below hb4 hr.lt
   have hown : w4.ownsRow w.heap.size 26 4 (.slice Av i cv) i cells := own_of_block hown fun y hy => hb4.block y (hown.lt y hy).2
   have hk := NdsF.keep (F' := fun x => w.heap.size ≤ x ∧ x ≠ r ∧ x ≠ n ∧ some x ≠ (Value.slice Av i cv).ownBlock) hb4.size (fun y hF hl => ⟨hb4.block y hl, hF⟩) _ _ hk
   have hbz := hb.size
   have hb := hb.trans (hb4.mono hbz)
   have n3 := hn.cell 3
   simp at n3
   refine hC.out _ _ (fun _ => n3) ?_
   clear hC C
   refine wpAnyG_on 4 fun C hC => ?_
   go_simp
   refine hC.out _ _ (fun _ => (cell_alloc _ _ _ _ hn.lt).trans n3) ?_
   clear hC C
   refine wpAnyG_on 5 fun C hC => ?_
   refine step_append_lies _ (by rfl) _ _ _ (by rfl) w.heap.size 26 i0 _ 4 56 Tryz.underlying24 ji jz0 jz1 jz2 rfl (by have := Hl.out; have := Hlt.out; omega) (.slice Av i cv) i cells (by rfl) (hown.alloc (.cells #[.int .i64 (na : Int), .int .i64 (nb : Int), .string ⟨nt.toArray⟩, .slice nA nn nn] 26)) ⟨w4.heap.size, 0, none⟩ 1 1 #[.int .i64 (na : Int), .int .i64 (nb : Int), .string ⟨nt.toArray⟩, .slice nA nn nn].toList (by rfl) (by rfl) (World.news_of_block (heap_alloc_new w4 _)) (by simp [Value.oneCell']) (by have := Hl.out; have := Hlt.out; omega) (by have := Hlt.out; have := Hl.out; unfold maxLen; omega) (by have := Hl.out; have := Hlt.out; omega) (by simp; omega) (w4.heap.size + 1) (by simp) ?_
   intro gg cap' w5 hown5 hgrow hat hlt5
   have hn5 := (hn.alloc (.cells #[.int .i64 (na : Int), .int .i64 (nb : Int), .string ⟨nt.toArray⟩, .slice nA nn nn] 26)).grown hgrow hone
   have hr5 := (hr.alloc (.cells #[.int .i64 (na : Int), .int .i64 (nb : Int), .string ⟨nt.toArray⟩, .slice nA nn nn] 26)).grown hgrow horr
   have m3 := hn5.cell 3
   have mf := hn5.frozen 3
   simp at m3
   refine hC.out _ _ (fun _ => m3) ?_
   clear hC C
   refine wpAnyG_on 6 fun C hC => ?_
   go_simp
   refine hC.out _ _ (fun _ => m3) ?_
   clear hC C
   refine wpAnyG_on 7 fun C hC => ?_
   go_simp
   refine hC.out _ _ (fun h => absurd rfl h) ?_
   clear hC C
   refine wpAnyG_done (by kernel_rfl) ?_ _
   have hz5 := hgrow.size
   simp at hz5
   have hgn : ∀ y, y < w4.heap.size → some y ≠ (Value.slice Av i cv).ownBlock → some y ≠ some gg := fun y hy hr e => by
    rcases hat with e' | e'
    ·exact hr (e.trans e'.symm)
    ·injection e with e; omega
   have hold : ∀ y, y < w4.heap.size → y ≠ n → some y ≠ (Value.slice Av i cv).ownBlock → (World.setCell w5 ⟨n, 3, none⟩ (.slice (some ⟨gg, 0, none⟩) (i + 1) cap')).heap[y]? = w4.heap[y]? := fun y hy hh hr =>
    ((Below.heap_setCell w5 ⟨n, 3, none⟩ _ y hh).trans (hgrow.block y (by simp; omega) hr)).trans (Below.heap_alloc w4 _ y hy)
   have hn6 := hn5.set_ 3 (.slice (some ⟨gg, 0, none⟩) (i + 1) cap')
   have hr6 : Blk (World.setCell w5 ⟨n, 3, none⟩ (.slice (some ⟨gg, 0, none⟩) (i + 1) cap')) r 26 #[.int .i64 0, .int .i64 0, .string ⟨#[]⟩, .slice none 0 0] := (hold r (by omega) hrn horr).trans hr
   have hgg : n ≠ gg := fun e => hgn n (by omega) hone (by rw [e])
   have hown6 : (World.setCell w5 ⟨n, 3, none⟩ (.slice (some ⟨gg, 0, none⟩) (i + 1) cap')).ownsRow w.heap.size 26 4 (.slice (some ⟨gg, 0, none⟩) (i + 1) cap') (i + 1) (cells ++ #[.int .i64 (na : Int), .int .i64 (nb : Int), .string ⟨nt.toArray⟩, .slice nA nn nn].toList) := own_of_block hown5 fun y hy => Below.heap_setCell w5 ⟨n, 3, none⟩ _ y (by simp only [Value.ownBlock, Option.some.injEq] at hy; subst hy; exact Ne.symm hgg)
   have hsz6 : w4.heap.size ≤ (World.setCell w5 ⟨n, 3, none⟩ (.slice (some ⟨gg, 0, none⟩) (i + 1) cap')).heap.size := by simp [World.setCell]; omega
   have hk6 : NdsF (World.setCell w5 ⟨n, 3, none⟩ (.slice (some ⟨gg, 0, none⟩) (i + 1) cap')) (fun x => w.heap.size ≤ x ∧ x ≠ r ∧ x ≠ n ∧ some x ≠ (Value.slice (some ⟨gg, 0, none⟩) (i + 1) cap').ownBlock) (l.take (i + 1)) (cells ++ #[.int .i64 (na : Int), .int .i64 (nb : Int), .string ⟨nt.toArray⟩, .slice nA nn nn].toList) := by
    rw [HL.out]
    exact NdsF.snoc (NdsF.keep hsz6 (fun y hF hl => ⟨hold y hl hF.2.2.1 hF.2.2.2, hF.1, hF.2.1, hF.2.2.1, hgn y hl hF.2.2.2⟩) _ _ hk) (NdF.keep hsz6 (fun y hF hl => by
     have hF : w3.heap.size ≤ y := hF
     have h1 : y ≠ n := by omega
     have h2 : some y ≠ (Value.slice Av i cv).ownBlock := fun e => by have := hol y e.symm; omega
     exact ⟨hold y hl h1 h2, by omega, by omega, h1, hgn y hl h2⟩) _ _ hnd)
   have hb6 : Below w.heap.size w (World.setCell w5 ⟨n, 3, none⟩ (.slice (some ⟨gg, 0, none⟩) (i + 1) cap')) := by
    have h1 : Below w.heap.size w (w4.alloc (.cells #[.int .i64 (na : Int), .int .i64 (nb : Int), .string ⟨nt.toArray⟩, .slice nA nn nn] 26)) := hb.alloc hb.size _
    exact (h1.grown hgrow (by simp; omega) (fun y hy => (hown.lt y hy).1)).setCell (p := ⟨n, 3, none⟩) (by have := Hn.out; exact this) _
   have hone6 : some n ≠ (Value.slice (some ⟨gg, 0, none⟩) (i + 1) cap').ownBlock := hgn n (by omega) hone
   have horr6 : some r ≠ (Value.slice (some ⟨gg, 0, none⟩) (i + 1) cap').ownBlock := hgn r (by omega) horr
   clear hone horr
   clear hn hr hown hk hb hnd hb4 hown5 hgrow hat hlt5 hn5 hr5 m3 mf hgn hold hgg hsz6 hol n3
   generalize (World.setCell w5 ⟨n, 3, none⟩ (.slice (some ⟨gg, 0, none⟩) (i + 1) cap')) = w6 at *
   have c1 : IntKind.i64.wrap ((i : Int) + 1) = (i : Int) + 1 := IntWalk.i64_in _ (by have := Hlt.out; have := Hl.out; omega)
   go_wp2_with fail
   go_roundg (l.length - (i + 1))
   case rel => exact ⟨i + 1, _, _, _, by go_num, by have := Hlt.out; omega, Nat.le_refl _, hn6, hr6, hown6, hk6, hb6, hone6, horr6⟩
   case measure => have := Hlt.out; have := Hm.out; omega
  ·obtain rfl : i = l.length := by omega
   have i1 : ¬ (l.length : Int) < (l.length : Int) := by omega
   have i2 : decide (l.length < l.length) = false := by simp
   rw [List.take_length] at hk
   obtain ⟨Av', cv', he, hle, hnone⟩ := own_cap hown
   injection he with e1 _ e3
   subst e1 e3
   have hown' := hown
   have hcp := nclip_walk Av l.length cv wr hle hnone
   have n3 := hn.cell 3
   have nf := hn.frozen 3
   simp at n3
   obtain ⟨_, hrw⟩ := own_row (F := fun x => some x = (Value.slice Av l.length cv).ownBlock) hown fun y hy => hy.symm
   have hol : ∀ y, (Value.slice Av l.length cv).ownBlock = some y → w.heap.size ≤ y := fun y hy => (hown.lt y hy).1
   clear hlt hm hi hle hnone hown hown' IH
   go_wp2_with fail
   refine hcp.mono ?_
   clear hcp
   rintro e w4 ⟨rfl, rfl⟩
   have hrn' := hrn
   have hn6 := hn.set_ 3 (.slice Av l.length l.length)
   simp at hn6
   have hkeep : ∀ y, y ≠ n → (World.setCell wr ⟨n, 3, none⟩ (.slice Av l.length l.length)).heap[y]? = wr.heap[y]? := fun y hy => Below.heap_setCell wr ⟨n, 3, none⟩ _ y hy
   have hs6 : wr.heap.size ≤ (World.setCell wr ⟨n, 3, none⟩ (.slice Av l.length l.length)).heap.size := by simp [World.setCell]
   have hr6 : Blk (World.setCell wr ⟨n, 3, none⟩ (.slice Av l.length l.length)) r 26 #[.int .i64 0, .int .i64 0, .string ⟨#[]⟩, .slice none 0 0] := (hkeep r hrn).trans hr
   have hk6 : NdsF (World.setCell wr ⟨n, 3, none⟩ (.slice Av l.length l.length)) (fun x => w.heap.size ≤ x ∧ x ≠ r ∧ x ≠ n) l cells := NdsF.keep hs6 (fun y hF _ => ⟨hkeep y hF.2.2.1, hF.1, hF.2.1, hF.2.2.1⟩) _ _ hk
   have hrw6 : RowF (World.setCell wr ⟨n, 3, none⟩ (.slice Av l.length l.length)) (fun x => w.heap.size ≤ x ∧ x ≠ r ∧ x ≠ n) Av cells := hrw.keep hs6 fun y hy _ => ⟨hkeep y (fun e => hone (by rw [← hy, e])), hol y hy.symm, fun e => horr (by rw [← hy, e]), fun e => hone (by rw [← hy, e])⟩
   have hb6 : Below w.heap.size w (World.setCell wr ⟨n, 3, none⟩ (.slice Av l.length l.length)) := hb.setCell (p := ⟨n, 3, none⟩) (by have := Hn.out; exact this) _
   clear hn hr hk hrw hb hone horr hol hs6 hkeep
   go_upto_region 8 with fail
   clear n3 nf
   generalize World.setCell wr ⟨n, 3, none⟩ (.slice Av l.length l.length) = w6 at *
   have x0 := hn6.cell 0
   have x1 := hn6.cell 1
   have x2 := hn6.cell 2
   have x3 := hn6.cell 3
   simp at x0 x1 x2 x3
   have k0 := hr6.cell 0
   have k1 := hr6.cell 1
   have k2 := hr6.cell 2
   have k3 := hr6.cell 3
   simp at k0 k1 k2 k3
   have y0 := hr6.frozen 0
   have y1 := hr6.frozen 1
   have y2 := hr6.frozen 2
   have y3 := hr6.frozen 3
   go_wp2_with fail
   have hb8 : Below w.heap.size w ((((World.setCell w6 ⟨r, 0, none⟩ (.int .i64 (k : Int))).setCell ⟨r, 1, none⟩ (.int .i64 0)).setCell ⟨r, 2, none⟩ (.string ⟨#[]⟩)).setCell ⟨r, 3, none⟩ (.slice Av l.length l.length)) := four_below hb6 (by rw [Hr.out]; exact Nat.le_refl _) _ _ _ _
   have hs8 : w6.heap.size ≤ ((((World.setCell w6 ⟨r, 0, none⟩ (.int .i64 (k : Int))).setCell ⟨r, 1, none⟩ (.int .i64 0)).setCell ⟨r, 2, none⟩ (.string ⟨#[]⟩)).setCell ⟨r, 3, none⟩ (.slice Av l.length l.length)).heap.size := by simp [World.setCell]
   have hold : ∀ y, y ≠ r → ((((World.setCell w6 ⟨r, 0, none⟩ (.int .i64 (k : Int))).setCell ⟨r, 1, none⟩ (.int .i64 0)).setCell ⟨r, 2, none⟩ (.string ⟨#[]⟩)).setCell ⟨r, 3, none⟩ (.slice Av l.length l.length)).heap[y]? = w6.heap[y]? := fun y hy => (((Below.heap_setCell _ ⟨r, 3, none⟩ _ y hy).trans (Below.heap_setCell _ ⟨r, 2, none⟩ _ y hy)).trans (Below.heap_setCell _ ⟨r, 1, none⟩ _ y hy)).trans (Below.heap_setCell _ ⟨r, 0, none⟩ _ y hy)
   have hk8 := NdsF.keep (F' := fun x => w.heap.size ≤ x) hs8 (fun y hF _ => ⟨hold y hF.2.1, hF.1⟩) _ _ hk6
   have hrw8 := hrw6.keep (F' := fun x => w.heap.size ≤ x) hs8 (fun y hF _ => ⟨hold y hF.2.1, hF.1⟩)
   clear hb6 hs8 hold hk6 hrw6 hn6 x0 x1 x2 x3
   have hr6 := (((hr6.set_ 0 (.int .i64 (k : Int))).set_ 1 (.int .i64 0)).set_ 2 (.string ⟨#[]⟩)).set_ 3 (.slice Av l.length l.length)
   simp at hr6
   clear k0 k1 k2 k3 y0 y1 y2 y3
   generalize ((((World.setCell w6 ⟨r, 0, none⟩ (.int .i64 (k : Int))).setCell ⟨r, 1, none⟩ (.int .i64 0)).setCell ⟨r, 2, none⟩ (.string ⟨#[]⟩)).setCell ⟨r, 3, none⟩ (.slice Av l.length l.length)) = w8 at *
   have k0 := hr6.cell 0
   have k1 := hr6.cell 1
   have k2 := hr6.cell 2
   have k3 := hr6.cell 3
   simp at k0 k1 k2 k3
   (try simp only [Exit.inBlock, Exit.then])
   refine bodyPost_ret (v := .agg #[(.int .i64 (k : Int)), (.int .i64 0), (.string ⟨#[]⟩), (.slice Av l.length l.length)]) (by simp [results, Tryz.results39, go_sem, k0, k1, k2, k3]; try rfl) rfl ?_
   exact ⟨k, 0, [], Av, l.length, rfl, ⟨Av, cells, rfl, hrw8, hk8⟩, hb8⟩
mutual
theorem node_all : ∀ p : Tr.PT, Tr.wfP p → NodeC p
 | .leaf k t a, _ => fun w F v h => by
  obtain ⟨q, rfl, hF, hB⟩ := h
  exact ⟨_, q, _, rfl, fun w => nnil _ (.inl rfl) _ w, fun w => node_leaf _ w, fun _ _ => by kernel_rfl, fun w' hb => leaf_node (hB.below hb hB.lt)⟩
 | .gap t a d, _ => fun w F v h => by
  obtain ⟨q, rfl, hF, hB⟩ := h
  exact ⟨_, q, _, rfl, fun w => nnil _ (.inr (.inl rfl)) _ w, fun w => node_gap _ w, fun _ _ => by kernel_rfl, fun w' hb => gap_node (hB.below hb hB.lt)⟩
 | .branch k a l, hw => fun w F v h => by
  unfold Tr.wfP at hw
  obtain ⟨q, rfl, hF, A, c, vs, hB, hc, hr, hp⟩ := h
  exact ⟨_, q, _, rfl, fun w => nnil _ (.inr (.inr rfl)) _ w, fun w => node_branch _ w, fun _ _ => by kernel_rfl, fun w' hb => branch_node (F := F) (hB.below hb hB.lt) (hr.keep hb.size fun x hx hl => ⟨hb.block x hl, hx⟩) (PtsF.keep hb.size (fun x hx hl => ⟨hb.block x hl, hx⟩) _ _ hp) hw.2.1 (nodes_all l hw.2.2)⟩
theorem nodes_all : ∀ l : List Tr.PT, Tr.wfsP l → ∀ p ∈ l, NodeC p
 | [], _, p, hp => absurd hp (by simp)
 | q :: l, hw, p, hp => by
  unfold Tr.wfsP at hw
  rcases List.mem_cons.1 hp with he | hp
  ·rw [he]; exact node_all q hw.1
  ·exact nodes_all l hw.2 p hp
end
section
variable {w w' : World} {F F' : Nat → Prop}
theorem NdsF.at_ : ∀ {l : List Tr.PT} {vs : List Value} {i : Nat}, NdsF w F l vs → ∀ (h : i < l.length), ∃ (a b : Nat) (t : Bs) (A : Option Addr) (n : Nat), vs[i * 4]? = some (.int .i64 (a : Int)) ∧ vs[i * 4 + 1]? = some (.int .i64 (b : Int)) ∧ vs[i * 4 + 2]? = some (.string ⟨t.toArray⟩) ∧ vs[i * 4 + 3]? = some (.slice A n n) ∧ NdF w F l[i] [.int .i64 (a : Int), .int .i64 (b : Int), .string ⟨t.toArray⟩, .slice A n n]
 | [], _, _, _, h => absurd h (by simp)
 | p :: l, vs, 0, hp, _ => by
  obtain ⟨v, vs', rfl, h, _⟩ := hp
  obtain ⟨a, b, t, A, n, rfl⟩ := h.form
  exact ⟨a, b, t, A, n, rfl, rfl, rfl, rfl, h⟩
 | p :: l, vs, i + 1, hp, h => by
  obtain ⟨v, vs', rfl, hv, hl⟩ := hp
  obtain ⟨a, b, t, A, n, rfl⟩ := hv.form
  obtain ⟨a', b', t', A', n', h0, h1, h2, h3, h4⟩ := NdsF.at_ (i := i) hl (by simpa using h)
  exact ⟨a', b', t', A', n', by rw [Nat.succ_mul]; exact h0, by rw [Nat.succ_mul]; exact h1, by rw [Nat.succ_mul]; exact h2, by rw [Nat.succ_mul]; exact h3, h4⟩
theorem NdsF.len : ∀ {l : List Tr.PT} {vs : List Value}, NdsF w F l vs → vs.length = l.length * 4
 | [], vs, h => by have : vs = [] := h; subst this; rfl
 | p :: l, vs, h => by
  obtain ⟨v, vs', rfl, hv, hl⟩ := h
  obtain ⟨a, b, t, A, n, rfl⟩ := hv.form
  have := NdsF.len hl
  simp only [List.length_append, List.length_cons, List.length_nil]
  omega
theorem NpsF.at_ : ∀ {l : List Tr.PT} {a : Nat} {fps : List Nat} {vs : List Value} {i : Nat}, NpsF w F l a fps vs → ∀ (h : i < l.length), ∃ q a' fp, vs[i]? = some (.pointer (some ⟨q, 0, none⟩)) ∧ NpF w F l[i] a' fp (.pointer (some ⟨q, 0, none⟩))
 | [], _, _, _, _, _, h => absurd h (by simp)
 | p :: l, a, fps, vs, 0, hp, _ => by
  obtain ⟨fp, fps', v, vs', rfl, rfl, h, _⟩ := hp
  obtain ⟨q, rfl⟩ := h.form
  exact ⟨q, a, fp, rfl, h⟩
 | p :: l, a, fps, vs, i + 1, hp, h => by
  obtain ⟨fp, fps', v, vs', rfl, rfl, _, hl⟩ := hp
  have := NpsF.at_ (i := i) hl (by simpa using h)
  simpa using this
mutual
theorem NpF.keep (hs : w.heap.size ≤ w'.heap.size) (hk : ∀ b, F b → b < w.heap.size → w'.heap[b]? = w.heap[b]? ∧ F' b) : ∀ (p : Tr.PT) (a : Nat) (fp : List Nat) (v : Value), NpF w F p a fp v → NpF w' F' p a fp v
 | .leaf k t _, a, fp, v, h => by
  obtain ⟨g, e, ef, hF, hB⟩ := h
  have := hk g hF hB.lt
  exact ⟨g, e, ef, this.2, this.1.trans hB⟩
 | .gap t _ d, a, fp, v, h => by
  obtain ⟨g, e, ef, hF, hB⟩ := h
  have := hk g hF hB.lt
  exact ⟨g, e, ef, this.2, this.1.trans hB⟩
 | .branch k _ l, a, fp, v, h => by
  obtain ⟨g, fps, e, ef, hF, A, c, vs, hB, hc, hr, hp⟩ := h
  have := hk g hF hB.lt
  exact ⟨g, fps, e, ef, this.2, A, c, vs, this.1.trans hB, hc, hr.keep hs hk, NpsF.keep hs hk l a fps vs hp⟩
theorem NpsF.keep (hs : w.heap.size ≤ w'.heap.size) (hk : ∀ b, F b → b < w.heap.size → w'.heap[b]? = w.heap[b]? ∧ F' b) : ∀ (l : List Tr.PT) (a : Nat) (fps : List Nat) (vs : List Value), NpsF w F l a fps vs → NpsF w' F' l a fps vs
 | [], a, fps, vs, h => h
 | p :: l, a, fps, vs, h => by
  obtain ⟨fp, fps', v, vs', ef, e, hp, hl⟩ := h
  exact ⟨fp, fps', v, vs', ef, e, NpF.keep hs hk p a fp v hp, NpsF.keep hs hk l _ fps' vs' hl⟩
end
end
structure NdMid (w : World) (r n k : Nat) (dn : List Tr.PT) (Av : Option Addr) (cv : Nat) (cells : List Value) (wr : World) : Prop where
 box : Blk wr n 26 #[.int .i64 (k : Int), .int .i64 0, .string ⟨#[]⟩, .slice Av dn.length cv]
 rb : Blk wr r 26 #[.int .i64 0, .int .i64 0, .string ⟨#[]⟩, .slice none 0 0]
 own : wr.ownsRow w.heap.size 26 4 (.slice Av dn.length cv) dn.length cells
 kids : NdsF wr (fun x => w.heap.size ≤ x ∧ x ≠ r ∧ x ≠ n ∧ some x ≠ (Value.slice Av dn.length cv).ownBlock) dn cells
 bel : Below w.heap.size w wr
 nn : some n ≠ (Value.slice Av dn.length cv).ownBlock
 rr : some r ≠ (Value.slice Av dn.length cv).ownBlock
 rn : r ≠ n
 hn : w.heap.size ≤ n
 hr : w.heap.size ≤ r
section
variable {w wr w' w3 w5 : World} {r n k : Nat} {dn : List Tr.PT} {Av : Option Addr} {cv : Nat} {cells : List Value}
theorem NdMid.below (M : NdMid w r n k dn Av cv cells wr) (hd : Below wr.heap.size wr w') : NdMid w r n k dn Av cv cells w' :=
 ⟨M.box.below hd M.box.lt, M.rb.below hd M.rb.lt, own_of_block M.own fun y hy => hd.block y (M.own.lt y hy).2, NdsF.keep hd.size (fun y hF hl => ⟨hd.block y hl, hF⟩) _ _ M.kids, M.bel.trans (hd.mono M.bel.size), M.nn, M.rr, M.rn, M.hn, M.hr⟩
theorem NdMid.lts (M : NdMid w r n k dn Av cv cells wr) : r < wr.heap.size ∧ n < wr.heap.size ∧ ∀ y, (Value.slice Av dn.length cv).ownBlock = some y → y < wr.heap.size := ⟨M.rb.lt, M.box.lt, fun y hy => (M.own.lt y hy).2⟩
theorem NdMid.push {p : Tr.PT} {na nb : Nat} {nt : Bs} {nA : Option Addr} {nn gg cap : Nat} (M : NdMid w r n k dn Av cv cells wr)
  (hlt : r < w3.heap.size ∧ n < w3.heap.size ∧ ∀ y, (Value.slice Av dn.length cv).ownBlock = some y → y < w3.heap.size)
  (hnd : NdF wr (fun x => w3.heap.size ≤ x) p #[.int .i64 (na : Int), .int .i64 (nb : Int), .string ⟨nt.toArray⟩, .slice nA nn nn].toList)
  (hown : w5.ownsRow w.heap.size 26 4 (.slice (some ⟨gg, 0, none⟩) (dn.length + 1) cap) (dn.length + 1) (cells ++ #[.int .i64 (na : Int), .int .i64 (nb : Int), .string ⟨nt.toArray⟩, .slice nA nn nn].toList))
  (hgrow : (wr.alloc (.cells #[.int .i64 (na : Int), .int .i64 (nb : Int), .string ⟨nt.toArray⟩, .slice nA nn nn] 26)).grownBy w5 (Value.slice Av dn.length cv).ownBlock)
  (hat : (Value.slice Av dn.length cv).ownBlock = some gg ∨ gg = wr.heap.size + 1) :
  NdMid w r n k (dn ++ [p]) (some ⟨gg, 0, none⟩) cap (cells ++ #[.int .i64 (na : Int), .int .i64 (nb : Int), .string ⟨nt.toArray⟩, .slice nA nn nn].toList) (World.setCell w5 ⟨n, 3, none⟩ (.slice (some ⟨gg, 0, none⟩) (dn.length + 1) cap)) := by
 obtain ⟨hr3, hn3, ho3⟩ := hlt
 have hz5 := hgrow.size
 simp at hz5
 have hgn : ∀ y, y < wr.heap.size → some y ≠ (Value.slice Av dn.length cv).ownBlock → some y ≠ some gg := fun y hy hr e => by
  rcases hat with e' | e'
  ·exact hr (e.trans e'.symm)
  ·injection e with e; omega
 have hold : ∀ y, y < wr.heap.size → y ≠ n → some y ≠ (Value.slice Av dn.length cv).ownBlock → (World.setCell w5 ⟨n, 3, none⟩ (.slice (some ⟨gg, 0, none⟩) (dn.length + 1) cap)).heap[y]? = wr.heap[y]? := fun y hy hh hr =>
  ((Below.heap_setCell w5 ⟨n, 3, none⟩ _ y hh).trans (hgrow.block y (by simp; omega) hr)).trans (Below.heap_alloc wr _ y hy)
 have hn5 := (M.box.alloc (.cells #[.int .i64 (na : Int), .int .i64 (nb : Int), .string ⟨nt.toArray⟩, .slice nA nn nn] 26)).grown hgrow M.nn
 have hn6 := hn5.set_ 3 (.slice (some ⟨gg, 0, none⟩) (dn.length + 1) cap)
 have hr6 : Blk (World.setCell w5 ⟨n, 3, none⟩ (.slice (some ⟨gg, 0, none⟩) (dn.length + 1) cap)) r 26 #[.int .i64 0, .int .i64 0, .string ⟨#[]⟩, .slice none 0 0] := (hold r M.rb.lt M.rn M.rr).trans M.rb
 have hgg : n ≠ gg := fun e => hgn n M.box.lt M.nn (by rw [e])
 have hown6 : (World.setCell w5 ⟨n, 3, none⟩ (.slice (some ⟨gg, 0, none⟩) (dn.length + 1) cap)).ownsRow w.heap.size 26 4 (.slice (some ⟨gg, 0, none⟩) (dn.length + 1) cap) (dn.length + 1) (cells ++ #[.int .i64 (na : Int), .int .i64 (nb : Int), .string ⟨nt.toArray⟩, .slice nA nn nn].toList) := own_of_block hown fun y hy => Below.heap_setCell w5 ⟨n, 3, none⟩ _ y (by simp only [Value.ownBlock, Option.some.injEq] at hy; subst hy; exact Ne.symm hgg)
 have hsz6 : wr.heap.size ≤ (World.setCell w5 ⟨n, 3, none⟩ (.slice (some ⟨gg, 0, none⟩) (dn.length + 1) cap)).heap.size := by simp [World.setCell]; omega
 have hlen : (dn ++ [p]).length = dn.length + 1 := by simp
 have hbz := M.bel.size
 have hk6 : NdsF (World.setCell w5 ⟨n, 3, none⟩ (.slice (some ⟨gg, 0, none⟩) (dn.length + 1) cap)) (fun x => w.heap.size ≤ x ∧ x ≠ r ∧ x ≠ n ∧ some x ≠ (Value.slice (some ⟨gg, 0, none⟩) (dn.length + 1) cap).ownBlock) (dn ++ [p]) (cells ++ #[.int .i64 (na : Int), .int .i64 (nb : Int), .string ⟨nt.toArray⟩, .slice nA nn nn].toList) :=
  NdsF.snoc (NdsF.keep hsz6 (fun y hF hl => ⟨hold y hl hF.2.2.1 hF.2.2.2, hF.1, hF.2.1, hF.2.2.1, hgn y hl hF.2.2.2⟩) _ _ M.kids) (NdF.keep hsz6 (fun y hF hl => by
   have hF : w3.heap.size ≤ y := hF
   have h1 : y ≠ n := by omega
   have h2 : some y ≠ (Value.slice Av dn.length cv).ownBlock := fun e => by have := ho3 y e.symm; omega
   exact ⟨hold y hl h1 h2, by have := M.hn; omega, by omega, h1, hgn y hl h2⟩) _ _ hnd)
 have hb6 : Below w.heap.size w (World.setCell w5 ⟨n, 3, none⟩ (.slice (some ⟨gg, 0, none⟩) (dn.length + 1) cap)) := by
  have h1 : Below w.heap.size w (wr.alloc (.cells #[.int .i64 (na : Int), .int .i64 (nb : Int), .string ⟨nt.toArray⟩, .slice nA nn nn] 26)) := M.bel.alloc M.bel.size _
  exact (h1.grown hgrow (by simp; omega) (fun y hy => (M.own.lt y hy).1)).setCell (p := ⟨n, 3, none⟩) M.hn _
 refine ⟨?_, hr6, ?_, ?_, hb6, ?_, ?_, M.rn, M.hn, M.hr⟩
 ·rw [hlen]; exact hn6
 ·rw [hlen]; exact hown6
 ·rw [hlen]; exact hk6
 ·rw [hlen]; exact hgn n M.box.lt M.nn
 ·rw [hlen]; exact hgn r M.rb.lt M.rr
end
theorem kid_node {w : World} {F : Nat → Prop} {q : Nat} : ∀ {p : Tr.PT}, Tr.wfP p → PtF w F p (.iface 90 (.pointer (some ⟨q, 0, none⟩))) → ∀ w', Below w.heap.size w w' → Calls Tryz.prog 39 #[.pointer (some ⟨q, 0, none⟩)] w' (NodeE w' p)
 | .leaf _ _ _, _, h => by
  obtain ⟨g, e, _⟩ := h
  injection e with e
  exact absurd e (by decide)
 | .gap _ _ _, _, h => by
  obtain ⟨g, e, _⟩ := h
  injection e with e
  exact absurd e (by decide)
 | .branch k a l, hw, h => fun w' hb => by
  unfold Tr.wfP at hw
  obtain ⟨g, e, hF, A, c, vs, hB, hc, hr, hp⟩ := h
  injection e with _ e
  obtain rfl : q = g := by simpa using e
  exact branch_node (F := F) (hB.below hb hB.lt) (hr.keep hb.size fun x hx hl => ⟨hb.block x hl, hx⟩) (PtsF.keep hb.size (fun x hx hl => ⟨hb.block x hl, hx⟩) _ _ hp) hw.2.1 (nodes_all l hw.2.2)
theorem wfs_mem : ∀ (l : List Tr.PT), Tr.wfsP l → ∀ p ∈ l, Tr.wfP p
 | [], _, p, hp => absurd hp (by simp)
 | q :: l, hw, p, hp => by
  unfold Tr.wfsP at hw
  rcases List.mem_cons.1 hp with he | hp
  ·rw [he]; exact hw.1
  ·exact wfs_mem l hw.2 p hp
set_option maxHeartbeats 16000000 in
set_option maxRecDepth 100000 in
theorem root_walk {w : World} {F : Nat → Prop} {gt d : Nat} {A : Option Addr} {c : Nat} {T : List Tk} {ks : List Tr.Kd} {ts : List Tr.PT} (h : TreeIs w F gt d A c T ks ts) (hk : ks.length ≤ 100000000) (ht : ts.length ≤ 100000000) (hwf : Tr.wfsP (ks.map (·.part) ++ ts)) :
  Calls Tryz.prog 12 #[.pointer (some ⟨gt, 0, none⟩)] w (NodeE w (.branch 2 0 (ks.map (·.part) ++ ts))) := by
 obtain ⟨i0, ji, jz0, jz1, jz2⟩ := info_parts infoNode
 obtain ⟨Ak, ck, At, ct, vs, us, hB, hkc, htc, hrk, hks, hrt, hts⟩ := h.ex
 have hIH := nodes_all _ hwf
 have hd : Below w.heap.size w (w.alloc (.cells #[.int .i64 0, .int .i64 0, .string ⟨#[]⟩, .slice none 0 0] 26)) := (Below.refl _ _).alloc (Nat.le_refl _) _
 have hr : Blk (w.alloc (.cells #[.int .i64 0, .int .i64 0, .string ⟨#[]⟩, .slice none 0 0] 26)) w.heap.size 26 #[.int .i64 0, .int .i64 0, .string ⟨#[]⟩, .slice none 0 0] := Blk.new _ _ _
 have hd2 : Below w.heap.size w ((w.alloc (.cells #[.int .i64 0, .int .i64 0, .string ⟨#[]⟩, .slice none 0 0] 26)).alloc (.cells #[.int .i64 2, .int .i64 0, .string ⟨#[]⟩, .slice none 0 0] 26)) := hd.alloc hd.size _
 have hz1 : (w.alloc (.cells #[.int .i64 0, .int .i64 0, .string ⟨#[]⟩, .slice none 0 0] 26)).heap.size = w.heap.size + 1 := by simp
 have hn := Blk.new (w.alloc (.cells #[.int .i64 0, .int .i64 0, .string ⟨#[]⟩, .slice none 0 0] 26)) 26 #[.int .i64 2, .int .i64 0, .string ⟨#[]⟩, .slice none 0 0]
 rw [hz1] at hn
 have M : NdMid w w.heap.size (w.heap.size + 1) 2 [] none 0 [] ((w.alloc (.cells #[.int .i64 0, .int .i64 0, .string ⟨#[]⟩, .slice none 0 0] 26)).alloc (.cells #[.int .i64 2, .int .i64 0, .string ⟨#[]⟩, .slice none 0 0] 26)) :=
  ⟨hn, hr.alloc _, World.ownsRow_nil _ _ _ _, rfl, hd2, by simp [Value.ownBlock], by simp [Value.ownBlock], by omega, by omega, Nat.le_refl _⟩
 obtain ⟨r, hr0⟩ : ∃ r, r = w.heap.size := ⟨_, rfl⟩
 obtain ⟨n, hn0⟩ : ∃ n, n = w.heap.size + 1 := ⟨_, rfl⟩
 rw [← hn0, ← hr0] at M
 clear hd hr hd2 hn hz1
 go_enter Tryz.func12, Tryz.ntmps12
 go_upto_region 2 with fail
 rw [← hn0, ← hr0]
 clear hn0 hr0
 generalize ((w.alloc (.cells #[.int .i64 0, .int .i64 0, .string ⟨#[]⟩, .slice none 0 0] 26)).alloc (.cells #[.int .i64 2, .int .i64 0, .string ⟨#[]⟩, .slice none 0 0] 26)) = w2 at *
 have hB2 := fun w' (hb : Below w.heap.size w w') => hB.below hb hB.lt
 have Hk := Lib.hid hk
 have Ht := Lib.hid ht
 have c2 := (hB2 w2 M.bel).cell 2
 simp at c2
 clear hk ht
 go_wp2_with fail
 go_loopg [14] ks.length (fun m v wr => ∃ (i : Nat) (Av : Option Addr) (cv : Nat) (cells : List Value), v = .int .i64 (i : Int) ∧ i ≤ ks.length ∧ ks.length - i ≤ m ∧ NdMid w r n 2 ((ks.take i).map (·.part)) Av cv cells wr)
 case atStart => exact ⟨0, none, 0, [], rfl, Nat.zero_le _, Nat.le_refl _, M⟩
 case round =>
  clear M c2
  obtain ⟨i, Av, cv, cells, rfl, hi, hm, M⟩ := hrel
  by_cases hlt : i < ks.length
  ·have ii0 : (0 : Int) ≤ (i : Int) := by omega
   have ii1 : (i : Int) < (ks.length : Int) := by omega
   obtain ⟨qp, v0, v1, v2, v3, hpv⟩ := hks.at_ hlt
   obtain ⟨br, o, rfl, _, hbl, hc⟩ := hrk (by have := KdsF.len hks; omega)
   have e0 := hc _ _ v0
   have e1 := hc _ _ v1
   have e2 := hc _ _ v2
   have e3 := hc _ _ v3
   rw [← Nat.add_assoc] at e1 e2 e3
   have hbelow := M.bel
   have q0 := (hbelow.cell (p := ⟨br, o + i * 4, none⟩) hbl).trans e0
   have q1 := (hbelow.cell (p := ⟨br, o + i * 4 + 1, none⟩) hbl).trans e1
   have q2 := (hbelow.cell (p := ⟨br, o + i * 4 + 2, none⟩) hbl).trans e2
   have q3 := (hbelow.cell (p := ⟨br, o + i * 4 + 3, none⟩) hbl).trans e3
   have hcl := kid_node (wfs_mem _ hwf ks[i].part (List.mem_append_left _ (List.mem_map_of_mem (List.getElem_mem hlt)))) hpv
   have HD : Hid ((ks.take (i + 1)).map (·.part) = (ks.take i).map (·.part) ++ [ks[i].part]) := by show _ = _; rw [List.take_succ_eq_append_getElem hlt, List.map_append]; rfl
   have Hdl : Hid (((ks.take i).map (·.part)).length ≤ 200000000) := by show _ ≤ _; rw [List.length_map, List.length_take]; have := Hk.out; omega
   have Hdi : Hid (((ks.take i).map (·.part)).length = i) := by show _ = _; rw [List.length_map, List.length_take]; omega
   generalize ks[i].part = p at *
   generalize ks[i].base = kb0 at *
   generalize ks[i].first = kf at *
   generalize ks[i].last = kl at *
   generalize (ks.take i).map (·.part) = dn at *
   have Hlt := Lib.hid hlt
   have Hm := Lib.hid hm
   clear v0 v1 v2 v3 hpv hc e0 e1 e2 e3 hbl hbelow hlt hm hi
   have hd : Below wr.heap.size wr (wr.alloc (.cells #[.pointer (some ⟨qp, 0, none⟩), .int .i64 (kb0 : Int), .int .i64 (kf : Int), .int .i64 (kl : Int)] 92)) := (Below.refl _ _).alloc (Nat.le_refl _) _
   have hKb : Blk (wr.alloc (.cells #[.pointer (some ⟨qp, 0, none⟩), .int .i64 (kb0 : Int), .int .i64 (kf : Int), .int .i64 (kl : Int)] 92)) wr.heap.size 92 #[.pointer (some ⟨qp, 0, none⟩), .int .i64 (kb0 : Int), .int .i64 (kf : Int), .int .i64 (kl : Int)] := Blk.new _ _ _
   obtain ⟨kb, hkb⟩ : ∃ kb, kb = wr.heap.size := ⟨_, rfl⟩
   rw [← hkb] at hKb
   have M := M.below hd
   go_upto_region 5 with fail
   rw [← hkb]
   clear hkb q0 q1 q2 q3 hd
   generalize (wr.alloc (.cells #[.pointer (some ⟨qp, 0, none⟩), .int .i64 (kb0 : Int), .int .i64 (kf : Int), .int .i64 (kl : Int)] 92)) = w3 at *
   refine wp_region_G 8 (fun w' : World => w'.cell? ⟨n, 3, none⟩ = some (.slice Av dn.length cv) ∧ w'.cell? ⟨kb, 0, none⟩ = some (.pointer (some ⟨qp, 0, none⟩))) (by kernel_rfl) ?_
   have hdr : Below w3.heap.size w3 w3.drew := (Below.refl _ _).drew
   have M := M.below hdr
   have hKb := hKb.drew
   clear hdr
   generalize w3.drew = w3 at *
   have n3 := M.box.cell 3
   have kq := hKb.cell 0
   simp at n3 kq
   have hS0 : (fun w' : World => w'.cell? ⟨n, 3, none⟩ = some (.slice Av dn.length cv) ∧ w'.cell? ⟨kb, 0, none⟩ = some (.pointer (some ⟨qp, 0, none⟩))) w3 := ⟨n3, kq⟩
   refine wpAnyG_tk 0 hS0 ?_
   simp only [Act.put, List.setIfInBounds_toArray]
   refine wpAnyG_tk 1 hS0 ?_
   simp only [Act.put]
   refine wpAnyG_tk 2 hS0 ?_
   simp only [Act.put]
   refine wpAnyG_tk 3 hS0 ?_
   simp only [Act.put]
   clear hS0
   have hcl := hcl w3 M.bel
   refine wpAnyG_on 4 fun C hC => ?_
   go_simp
   ((with_reducible refine hcl.mono ?_))
   clear hcl n3 kq
   intro e w4 h4
   obtain ⟨na, nb, nt, nA, nn, rfl, hnd, hb4⟩ := h4
   have hz3 := M.lts
   have M4 := M.below hb4
   have hKb := hKb.below hb4 hKb.lt
   have n3 := M4.box.cell 3
   simp at n3
   have kq := hKb.cell 0
   simp at kq
   refine hC.out _ _ (fun _ => ⟨n3, kq⟩) ?_
   clear hC C
   have hbl := M4.box.lt
   refine wpAnyG_on 5 fun C hC => ?_
   go_simp
   refine hC.out _ _ (fun _ => ⟨(cell_alloc _ _ _ _ hbl).trans n3, (cell_alloc _ _ _ _ hKb.lt).trans kq⟩) ?_
   clear hC C
   refine wpAnyG_on 6 fun C hC => ?_
   refine step_append_lies _ (by rfl) _ _ _ (by rfl) w.heap.size 26 i0 _ 4 56 Tryz.underlying24 ji jz0 jz1 jz2 rfl (by have := Hdl.out; omega) (.slice Av dn.length cv) dn.length cells (by rfl) (M4.own.alloc (.cells #[.int .i64 (na : Int), .int .i64 (nb : Int), .string ⟨nt.toArray⟩, .slice nA nn nn] 26)) ⟨w4.heap.size, 0, none⟩ 1 1 #[.int .i64 (na : Int), .int .i64 (nb : Int), .string ⟨nt.toArray⟩, .slice nA nn nn].toList (by rfl) (by rfl) (World.news_of_block (heap_alloc_new w4 _)) (by simp [Value.oneCell']) (by have := Hdl.out; omega) (by have := Hdl.out; unfold maxLen; omega) (by have := Hdl.out; omega) (by have := M4.bel.size; simp; omega) (w4.heap.size + 1) (by simp) ?_
   intro gg cap w5 hown5 hgrow hat hlt5
   have hn5 := (M4.box.alloc (.cells #[.int .i64 (na : Int), .int .i64 (nb : Int), .string ⟨nt.toArray⟩, .slice nA nn nn] 26)).grown hgrow M4.nn
   have m3 := hn5.cell 3
   have mf := hn5.frozen 3
   simp at m3
   have hk5 := (hKb.alloc (.cells #[.int .i64 (na : Int), .int .i64 (nb : Int), .string ⟨nt.toArray⟩, .slice nA nn nn] 26)).grown hgrow (own_ne M4.own hKb (by decide))
   have kq5 := hk5.cell 0
   simp at kq5
   refine hC.out _ _ (fun _ => ⟨m3, kq5⟩) ?_
   clear hC C
   refine wpAnyG_on 7 fun C hC => ?_
   go_simp
   refine hC.out _ _ (fun _ => ⟨m3, kq5⟩) ?_
   clear hC C
   refine wpAnyG_on 8 fun C hC => ?_
   go_simp
   refine hC.out _ _ (fun h => absurd rfl h) ?_
   clear hC C
   refine wpAnyG_done (by kernel_rfl) ?_ _
   have M6 := M4.push hz3 hnd hown5 hgrow hat
   have hlen : (dn ++ [p]).length = dn.length + 1 := by simp
   clear M M4 hnd hb4 n3 hown5 hgrow hat hlt5 hn5 m3 mf hbl hKb kq hk5 kq5
   generalize (World.setCell w5 ⟨n, 3, none⟩ (.slice (some ⟨gg, 0, none⟩) (dn.length + 1) cap)) = w6 at *
   have c1 : IntKind.i64.wrap ((i : Int) + 1) = (i : Int) + 1 := IntWalk.i64_in _ (by have := Hlt.out; have := Hk.out; omega)
   rw [← HD.out] at M6
   go_wp2_with fail
   go_roundg (ks.length - (i + 1))
   case rel => exact ⟨i + 1, _, _, _, by go_num, by have := Hlt.out; omega, Nat.le_refl _, M6⟩
   case measure => have := Hlt.out; have := Hm.out; omega
  ·obtain rfl : i = ks.length := by omega
   have i1 : ¬ (ks.length : Int) < (ks.length : Int) := by omega
   have i2 : decide (ks.length < ks.length) = false := by simp
   rw [List.take_length] at M
   have c3 := (hB2 wr M.bel).cell 3
   simp at c3
   have Hkl : Hid ((ks.map (·.part)).length ≤ 100000000) := by show _ ≤ _; rw [List.length_map]; exact Hk.out
   generalize hkd : ks.map (·.part) = kd at *
   have Hkd := Lib.hid hkd
   clear hlt hi hm hkd
   go_wp2_with fail
   go_loopg [32] ts.length (fun m v wr => ∃ (j : Nat) (Av : Option Addr) (cv : Nat) (cells : List Value), v = .int .i64 (j : Int) ∧ j ≤ ts.length ∧ ts.length - j ≤ m ∧ NdMid w r n 2 (kd ++ ts.take j) Av cv cells wr)
   case atStart => exact ⟨0, Av, cv, cells, rfl, Nat.zero_le _, Nat.le_refl _, by rw [List.take_zero, List.append_nil]; exact M⟩
   case round =>
    clear M c3
    obtain ⟨j, Av, cv, cells, rfl, hj, hm, M⟩ := hrel
    by_cases hlt : j < ts.length
    ·have ii0 : (0 : Int) ≤ (j : Int) := by omega
     have ii1 : (j : Int) < (ts.length : Int) := by omega
     obtain ⟨v, hv, hpv⟩ := hts.at_ hlt
     have hvu : us[j]? = some v := hv
     obtain ⟨tt, qp, f, rfl, hni, hme, hcf, hcl⟩ := hIH ts[j] (List.mem_append_right _ (List.getElem_mem hlt)) w F v hpv
     obtain ⟨br, o, rfl, hcell⟩ := hrt.at_ hvu
     have hbl := World.block_lt_of_cell? w ⟨br, o + j, none⟩ hcell
     have q0 := (M.bel.cell (p := ⟨br, o + j, none⟩) hbl).trans hcell
     have HD : Hid (kd ++ ts.take (j + 1) = (kd ++ ts.take j) ++ [ts[j]]) := by show _ = _; rw [List.take_succ_eq_append_getElem hlt, List.append_assoc]
     have Hdl : Hid ((kd ++ ts.take j).length ≤ 200000000) := by show _ ≤ _; rw [List.length_append, List.length_take]; have := Hkl.out; have := Ht.out; omega
     generalize ts[j] = p at *
     generalize kd ++ ts.take j = dn at *
     have Hlt := Lib.hid hlt
     have Hm := Lib.hid hm
     clear hpv hv hvu hcell hbl hlt hm hj
     go_wp2_with fail
     refine wp_region_G 7 (fun w' : World => w'.cell? ⟨n, 3, none⟩ = some (.slice Av dn.length cv)) (by kernel_rfl) ?_
     have hdr : Below wr.heap.size wr wr.drew := (Below.refl _ _).drew
     have M := M.below hdr
     clear q0 hdr
     generalize wr.drew = w3 at *
     have n3 := M.box.cell 3
     simp at n3
     have hS0 : (fun w' : World => w'.cell? ⟨n, 3, none⟩ = some (.slice Av dn.length cv)) w3 := n3
     refine wpAnyG_tk 0 hS0 ?_
     simp only [Act.put, List.setIfInBounds_toArray]
     refine wpAnyG_tk 1 hS0 ?_
     simp only [Act.put]
     refine wpAnyG_tk 2 hS0 ?_
     simp only [Act.put]
     clear hS0
     have hcl := hcl w3 M.bel
     refine wpAnyG_on 3 fun C hC => ?_
     go_simp
     ((with_reducible refine hcl.mono ?_))
     clear hcl n3
     intro e w4 h4
     obtain ⟨na, nb, nt, nA, nn, rfl, hnd, hb4⟩ := h4
     have hz3 := M.lts
     have M4 := M.below hb4
     have n3 := M4.box.cell 3
     simp at n3
     refine hC.out _ _ (fun _ => n3) ?_
     clear hC C
     have hbl := M4.box.lt
     refine wpAnyG_on 4 fun C hC => ?_
     go_simp
     refine hC.out _ _ (fun _ => (cell_alloc _ _ _ _ hbl).trans n3) ?_
     clear hC C
     refine wpAnyG_on 5 fun C hC => ?_
     refine step_append_lies _ (by rfl) _ _ _ (by rfl) w.heap.size 26 i0 _ 4 56 Tryz.underlying24 ji jz0 jz1 jz2 rfl (by have := Hdl.out; omega) (.slice Av dn.length cv) dn.length cells (by rfl) (M4.own.alloc (.cells #[.int .i64 (na : Int), .int .i64 (nb : Int), .string ⟨nt.toArray⟩, .slice nA nn nn] 26)) ⟨w4.heap.size, 0, none⟩ 1 1 #[.int .i64 (na : Int), .int .i64 (nb : Int), .string ⟨nt.toArray⟩, .slice nA nn nn].toList (by rfl) (by rfl) (World.news_of_block (heap_alloc_new w4 _)) (by simp [Value.oneCell']) (by have := Hdl.out; omega) (by have := Hdl.out; unfold maxLen; omega) (by have := Hdl.out; omega) (by have := M4.bel.size; simp; omega) (w4.heap.size + 1) (by simp) ?_
     intro gg cap w5 hown5 hgrow hat hlt5
     have hn5 := (M4.box.alloc (.cells #[.int .i64 (na : Int), .int .i64 (nb : Int), .string ⟨nt.toArray⟩, .slice nA nn nn] 26)).grown hgrow M4.nn
     have m3 := hn5.cell 3
     have mf := hn5.frozen 3
     simp at m3
     refine hC.out _ _ (fun _ => m3) ?_
     clear hC C
     refine wpAnyG_on 6 fun C hC => ?_
     go_simp
     refine hC.out _ _ (fun _ => m3) ?_
     clear hC C
     refine wpAnyG_on 7 fun C hC => ?_
     go_simp
     refine hC.out _ _ (fun h => absurd rfl h) ?_
     clear hC C
     refine wpAnyG_done (by kernel_rfl) ?_ _
     have M6 := M4.push hz3 hnd hown5 hgrow hat
     have hlen : (dn ++ [p]).length = dn.length + 1 := by simp
     clear M M4 hnd hb4 n3 hown5 hgrow hat hlt5 hn5 m3 mf hbl
     generalize (World.setCell w5 ⟨n, 3, none⟩ (.slice (some ⟨gg, 0, none⟩) (dn.length + 1) cap)) = w6 at *
     have c1 : IntKind.i64.wrap ((j : Int) + 1) = (j : Int) + 1 := IntWalk.i64_in _ (by have := Hlt.out; have := Ht.out; omega)
     rw [← HD.out] at M6
     go_wp2_with fail
     go_roundg (ts.length - (j + 1))
     case rel => exact ⟨j + 1, _, _, _, by go_num, by have := Hlt.out; omega, Nat.le_refl _, M6⟩
     case measure => have := Hlt.out; have := Hm.out; omega
    ·obtain rfl : j = ts.length := by omega
     have j1 : ¬ (ts.length : Int) < (ts.length : Int) := by omega
     have j2 : decide (ts.length < ts.length) = false := by simp
     rw [List.take_length] at M
     generalize hal : kd ++ ts = al at *
     have Hal := Lib.hid hal
     clear hlt hj hm hIH hwf hal
     obtain ⟨Av', cv', he, hle, hnone⟩ := own_cap M.own
     injection he with e1 _ e3
     subst e1 e3
     have hcp := nclip_walk Av al.length cv wr hle hnone
     have n3 := M.box.cell 3
     have nf := M.box.frozen 3
     simp at n3
     obtain ⟨_, hrw⟩ := own_row (F := fun x => some x = (Value.slice Av al.length cv).ownBlock) M.own fun y hy => hy.symm
     have hone := M.nn
     have horr := M.rr
     have hrn := M.rn
     have Hn := Lib.hid M.hn
     have Hr := Lib.hid M.hr
     have hol : ∀ y, (Value.slice Av al.length cv).ownBlock = some y → w.heap.size ≤ y := fun y hy => (M.own.lt y hy).1
     have hn := M.box
     have hr := M.rb
     have hkk := M.kids
     have hb := M.bel
     clear hle hnone M
     go_wp2_with fail
     refine hcp.mono ?_
     clear hcp
     rintro e w4 ⟨rfl, rfl⟩
     have hn6 := hn.set_ 3 (.slice Av al.length al.length)
     simp at hn6
     have hkeep : ∀ y, y ≠ n → (World.setCell wr ⟨n, 3, none⟩ (.slice Av al.length al.length)).heap[y]? = wr.heap[y]? := fun y hy => Below.heap_setCell wr ⟨n, 3, none⟩ _ y hy
     have hs6 : wr.heap.size ≤ (World.setCell wr ⟨n, 3, none⟩ (.slice Av al.length al.length)).heap.size := by simp [World.setCell]
     have hr6 : Blk (World.setCell wr ⟨n, 3, none⟩ (.slice Av al.length al.length)) r 26 #[.int .i64 0, .int .i64 0, .string ⟨#[]⟩, .slice none 0 0] := (hkeep r hrn).trans hr
     have hk6 : NdsF (World.setCell wr ⟨n, 3, none⟩ (.slice Av al.length al.length)) (fun x => w.heap.size ≤ x ∧ x ≠ r ∧ x ≠ n) al cells := NdsF.keep hs6 (fun y hF _ => ⟨hkeep y hF.2.2.1, hF.1, hF.2.1, hF.2.2.1⟩) _ _ hkk
     have hrw6 : RowF (World.setCell wr ⟨n, 3, none⟩ (.slice Av al.length al.length)) (fun x => w.heap.size ≤ x ∧ x ≠ r ∧ x ≠ n) Av cells := hrw.keep hs6 fun y hy _ => ⟨hkeep y (fun e => hone (by rw [← hy, e])), hol y hy.symm, fun e => horr (by rw [← hy, e]), fun e => hone (by rw [← hy, e])⟩
     have hb6 : Below w.heap.size w (World.setCell wr ⟨n, 3, none⟩ (.slice Av al.length al.length)) := hb.setCell (p := ⟨n, 3, none⟩) Hn.out _
     clear hn hr hkk hrw hb hone horr hol hs6 hkeep
     go_upto_region 13 with fail
     clear n3 nf
     generalize World.setCell wr ⟨n, 3, none⟩ (.slice Av al.length al.length) = w6 at *
     have x0 := hn6.cell 0
     have x1 := hn6.cell 1
     have x2 := hn6.cell 2
     have x3 := hn6.cell 3
     simp at x0 x1 x2 x3
     have k0 := hr6.cell 0
     have k1 := hr6.cell 1
     have k2 := hr6.cell 2
     have k3 := hr6.cell 3
     simp at k0 k1 k2 k3
     have y0 := hr6.frozen 0
     have y1 := hr6.frozen 1
     have y2 := hr6.frozen 2
     have y3 := hr6.frozen 3
     go_wp2_with fail
     have hb8 : Below w.heap.size w ((((World.setCell w6 ⟨r, 0, none⟩ (.int .i64 2)).setCell ⟨r, 1, none⟩ (.int .i64 0)).setCell ⟨r, 2, none⟩ (.string ⟨#[]⟩)).setCell ⟨r, 3, none⟩ (.slice Av al.length al.length)) := four_below hb6 Hr.out _ _ _ _
     have hs8 : w6.heap.size ≤ ((((World.setCell w6 ⟨r, 0, none⟩ (.int .i64 2)).setCell ⟨r, 1, none⟩ (.int .i64 0)).setCell ⟨r, 2, none⟩ (.string ⟨#[]⟩)).setCell ⟨r, 3, none⟩ (.slice Av al.length al.length)).heap.size := by simp [World.setCell]
     have hold : ∀ y, y ≠ r → ((((World.setCell w6 ⟨r, 0, none⟩ (.int .i64 2)).setCell ⟨r, 1, none⟩ (.int .i64 0)).setCell ⟨r, 2, none⟩ (.string ⟨#[]⟩)).setCell ⟨r, 3, none⟩ (.slice Av al.length al.length)).heap[y]? = w6.heap[y]? := fun y hy => (((Below.heap_setCell _ ⟨r, 3, none⟩ _ y hy).trans (Below.heap_setCell _ ⟨r, 2, none⟩ _ y hy)).trans (Below.heap_setCell _ ⟨r, 1, none⟩ _ y hy)).trans (Below.heap_setCell _ ⟨r, 0, none⟩ _ y hy)
     have hk8 := NdsF.keep (F' := fun x => w.heap.size ≤ x) hs8 (fun y hF _ => ⟨hold y hF.2.1, hF.1⟩) _ _ hk6
     have hrw8 := hrw6.keep (F' := fun x => w.heap.size ≤ x) hs8 (fun y hF _ => ⟨hold y hF.2.1, hF.1⟩)
     clear hb6 hs8 hold hk6 hrw6 hn6 x0 x1 x2 x3
     have hr6 := (((hr6.set_ 0 (.int .i64 2)).set_ 1 (.int .i64 0)).set_ 2 (.string ⟨#[]⟩)).set_ 3 (.slice Av al.length al.length)
     simp at hr6
     clear k0 k1 k2 k3 y0 y1 y2 y3
     generalize ((((World.setCell w6 ⟨r, 0, none⟩ (.int .i64 2)).setCell ⟨r, 1, none⟩ (.int .i64 0)).setCell ⟨r, 2, none⟩ (.string ⟨#[]⟩)).setCell ⟨r, 3, none⟩ (.slice Av al.length al.length)) = w8 at *
     have k0 := hr6.cell 0
     have k1 := hr6.cell 1
     have k2 := hr6.cell 2
     have k3 := hr6.cell 3
     simp at k0 k1 k2 k3
     (try simp only [Exit.inBlock, Exit.then])
     refine bodyPost_ret (v := .agg #[(.int .i64 2), (.int .i64 0), (.string ⟨#[]⟩), (.slice Av al.length al.length)]) (by simp [results, Tryz.results12, go_sem, k0, k1, k2, k3]; try rfl) rfl ?_
     rw [Hkd.out, Hal.out]
     exact ⟨2, 0, [], Av, al.length, rfl, ⟨Av, cells, rfl, hrw8, hk8⟩, hb8⟩
def NodesC (p : Tr.PT) : Prop := ∀ (w : World) (F F' : Nat → Prop) (k tok : Nat) (t : Bs) (A : Option Addr) (n : Nat) (k' tok' : Nat) (t' : Bs) (A' : Option Addr) (n' : Nat), NdF w F p [.int .i64 (k : Int), .int .i64 (tok : Int), .string ⟨t.toArray⟩, .slice A n n] → NdF w F' p [.int .i64 (k' : Int), .int .i64 (tok' : Int), .string ⟨t'.toArray⟩, .slice A' n' n'] →
 Calls Tryz.prog 22 #[.agg #[.int .i64 (k : Int), .int .i64 (tok : Int), .string ⟨t.toArray⟩, .slice A n n], .agg #[.int .i64 (k' : Int), .int .i64 (tok' : Int), .string ⟨t'.toArray⟩, .slice A' n' n']] w fun e w' => e = .returned (.bool true) ∧ Below w.heap.size w w'
set_option maxHeartbeats 16000000 in
set_option maxRecDepth 100000 in
theorem nodes_core {w : World} {F F' : Nat → Prop} {k tok : Nat} {t : Bs} {A A2 : Option Addr} {l : List Tr.PT} {vs us : List Value}
  (hr : RowF w F A vs) (hn : NdsF w F l vs) (hr' : RowF w F' A2 us) (hn' : NdsF w F' l us) (hl : l.length ≤ 1000000000) (IH : ∀ p ∈ l, NodesC p) :
  Calls Tryz.prog 22 #[.agg #[.int .i64 (k : Int), .int .i64 (tok : Int), .string ⟨t.toArray⟩, .slice A l.length l.length], .agg #[.int .i64 (k : Int), .int .i64 (tok : Int), .string ⟨t.toArray⟩, .slice A2 l.length l.length]] w fun e w' => e = .returned (.bool true) ∧ Below w.heap.size w w' := by
 have hd1 : Below w.heap.size w (w.alloc (.cells #[.int .i64 (k : Int), .int .i64 (tok : Int), .string ⟨t.toArray⟩, .slice A l.length l.length] 26)) := (Below.refl _ _).alloc (Nat.le_refl _) _
 have hb1 : Blk (w.alloc (.cells #[.int .i64 (k : Int), .int .i64 (tok : Int), .string ⟨t.toArray⟩, .slice A l.length l.length] 26)) w.heap.size 26 #[.int .i64 (k : Int), .int .i64 (tok : Int), .string ⟨t.toArray⟩, .slice A l.length l.length] := Blk.new _ _ _
 have hz1 : (w.alloc (.cells #[.int .i64 (k : Int), .int .i64 (tok : Int), .string ⟨t.toArray⟩, .slice A l.length l.length] 26)).heap.size = w.heap.size + 1 := by simp
 have hd : Below w.heap.size w ((w.alloc (.cells #[.int .i64 (k : Int), .int .i64 (tok : Int), .string ⟨t.toArray⟩, .slice A l.length l.length] 26)).alloc (.cells #[.int .i64 (k : Int), .int .i64 (tok : Int), .string ⟨t.toArray⟩, .slice A2 l.length l.length] 26)) := hd1.alloc hd1.size _
 have hb := hb1.alloc (.cells #[.int .i64 (k : Int), .int .i64 (tok : Int), .string ⟨t.toArray⟩, .slice A2 l.length l.length] 26)
 have hb2 := Blk.new (w.alloc (.cells #[.int .i64 (k : Int), .int .i64 (tok : Int), .string ⟨t.toArray⟩, .slice A l.length l.length] 26)) 26 #[.int .i64 (k : Int), .int .i64 (tok : Int), .string ⟨t.toArray⟩, .slice A2 l.length l.length]
 rw [hz1] at hb2
 obtain ⟨bx, hbx⟩ : ∃ x, x = w.heap.size := ⟨_, rfl⟩
 obtain ⟨by_, hby⟩ : ∃ x, x = w.heap.size + 1 := ⟨_, rfl⟩
 rw [← hbx] at hb
 rw [← hby] at hb2
 clear hd1 hb1 hz1
 go_enter Tryz.func22, Tryz.ntmps22
 go_upto_region 1 with fail
 rw [← hby, ← hbx]
 clear hbx hby
 generalize (w.alloc (.cells #[.int .i64 (k : Int), .int .i64 (tok : Int), .string ⟨t.toArray⟩, .slice A l.length l.length] 26)).alloc (.cells #[.int .i64 (k : Int), .int .i64 (tok : Int), .string ⟨t.toArray⟩, .slice A2 l.length l.length] 26) = w2 at *
 have b0 := hb.cell 0
 have b1 := hb.cell 1
 have b2 := hb.cell 2
 have b3 := hb.cell 3
 have c0 := hb2.cell 0
 have c1 := hb2.cell 1
 have c2 := hb2.cell 2
 have c3 := hb2.cell 3
 simp at b0 b1 b2 b3 c0 c1 c2 c3
 have Hl := Lib.hid hl
 clear hl
 go_upto_if 34 with fail
 clear b0 b1 b2 b3 c0 c1 c2 c3
 go_wp2_with fail
 go_loopg [5] l.length (fun m v wr => ∃ i : Nat, v = .int .i64 (i : Int) ∧ i ≤ l.length ∧ l.length - i ≤ m ∧ Blk wr bx 26 #[.int .i64 (k : Int), .int .i64 (tok : Int), .string ⟨t.toArray⟩, .slice A l.length l.length] ∧ Blk wr by_ 26 #[.int .i64 (k : Int), .int .i64 (tok : Int), .string ⟨t.toArray⟩, .slice A2 l.length l.length] ∧ Below w.heap.size w wr)
 case atStart => exact ⟨0, rfl, Nat.zero_le _, Nat.le_refl _, hb, hb2, hd⟩
 case round =>
  clear hb hb2 hd
  obtain ⟨i, rfl, hi, hm, hb, hb2, hd⟩ := hrel
  have b3 := hb.cell 3
  have c3 := hb2.cell 3
  simp at b3 c3
  by_cases hlt : i < l.length
  ·have ii0 : (0 : Int) ≤ (i : Int) := by omega
   have ii1 : (i : Int) < (l.length : Int) := by omega
   obtain ⟨ka, kb, kt, kA, kn, v0, v1, v2, v3, hnd⟩ := hn.at_ hlt
   obtain ⟨la, lb, lt, lA, ln, u0, u1, u2, u3, hnu⟩ := hn'.at_ hlt
   obtain ⟨ba, oa, rfl, _, hba, hca⟩ := hr (by have := hn.len; omega)
   obtain ⟨bb, ob, rfl, _, hbb, hcb⟩ := hr' (by have := hn'.len; omega)
   have e0 := hca _ _ v0
   have e1 := hca _ _ v1
   have e2 := hca _ _ v2
   have e3 := hca _ _ v3
   have d0 := hcb _ _ u0
   have d1 := hcb _ _ u1
   have d2 := hcb _ _ u2
   have d3 := hcb _ _ u3
   rw [← Nat.add_assoc] at e1 e2 e3 d1 d2 d3
   have q0 := (hd.cell (p := ⟨ba, oa + i * 4, none⟩) hba).trans e0
   have q1 := (hd.cell (p := ⟨ba, oa + i * 4 + 1, none⟩) hba).trans e1
   have q2 := (hd.cell (p := ⟨ba, oa + i * 4 + 2, none⟩) hba).trans e2
   have q3 := (hd.cell (p := ⟨ba, oa + i * 4 + 3, none⟩) hba).trans e3
   have p0 := (hd.cell (p := ⟨bb, ob + i * 4, none⟩) hbb).trans d0
   have p1 := (hd.cell (p := ⟨bb, ob + i * 4 + 1, none⟩) hbb).trans d1
   have p2 := (hd.cell (p := ⟨bb, ob + i * 4 + 2, none⟩) hbb).trans d2
   have p3 := (hd.cell (p := ⟨bb, ob + i * 4 + 3, none⟩) hbb).trans d3
   have hsame := IH l[i] (List.getElem_mem hlt)
   generalize l[i] = p at *
   have Hlt := Lib.hid hlt
   have Hm := Lib.hid hm
   clear v0 v1 v2 v3 u0 u1 u2 u3 hca hcb e0 e1 e2 e3 d0 d1 d2 d3 hlt hm hi
   go_wp2_with fail
   refine wp_region_G 11 (fun w' : World => w'.cell? ⟨bx, 3, none⟩ = some (.slice (some ⟨ba, oa, none⟩) l.length l.length) ∧ w'.cell? ⟨ba, oa + i * 4, none⟩ = some (.int .i64 (ka : Int)) ∧ w'.cell? ⟨ba, oa + i * 4 + 1, none⟩ = some (.int .i64 (kb : Int)) ∧ w'.cell? ⟨ba, oa + i * 4 + 2, none⟩ = some (.string ⟨kt.toArray⟩) ∧ w'.cell? ⟨ba, oa + i * 4 + 3, none⟩ = some (.slice kA kn kn) ∧ w'.cell? ⟨by_, 3, none⟩ = some (.slice (some ⟨bb, ob, none⟩) l.length l.length) ∧ w'.cell? ⟨bb, ob + i * 4, none⟩ = some (.int .i64 (la : Int)) ∧ w'.cell? ⟨bb, ob + i * 4 + 1, none⟩ = some (.int .i64 (lb : Int)) ∧ w'.cell? ⟨bb, ob + i * 4 + 2, none⟩ = some (.string ⟨lt.toArray⟩) ∧ w'.cell? ⟨bb, ob + i * 4 + 3, none⟩ = some (.slice lA ln ln)) (by kernel_rfl) ?_
   have hdr : Below wr.heap.size wr wr.drew := (Below.refl _ _).drew
   have hb := hb.drew
   have hb2 := hb2.drew
   have hd := hd.drew
   have hS0 : (fun w' : World => w'.cell? ⟨bx, 3, none⟩ = some (.slice (some ⟨ba, oa, none⟩) l.length l.length) ∧ w'.cell? ⟨ba, oa + i * 4, none⟩ = some (.int .i64 (ka : Int)) ∧ w'.cell? ⟨ba, oa + i * 4 + 1, none⟩ = some (.int .i64 (kb : Int)) ∧ w'.cell? ⟨ba, oa + i * 4 + 2, none⟩ = some (.string ⟨kt.toArray⟩) ∧ w'.cell? ⟨ba, oa + i * 4 + 3, none⟩ = some (.slice kA kn kn) ∧ w'.cell? ⟨by_, 3, none⟩ = some (.slice (some ⟨bb, ob, none⟩) l.length l.length) ∧ w'.cell? ⟨bb, ob + i * 4, none⟩ = some (.int .i64 (la : Int)) ∧ w'.cell? ⟨bb, ob + i * 4 + 1, none⟩ = some (.int .i64 (lb : Int)) ∧ w'.cell? ⟨bb, ob + i * 4 + 2, none⟩ = some (.string ⟨lt.toArray⟩) ∧ w'.cell? ⟨bb, ob + i * 4 + 3, none⟩ = some (.slice lA ln ln)) wr.drew := ⟨b3, q0, q1, q2, q3, c3, p0, p1, p2, p3⟩
   have Hs := Lib.hid hS0
   have HsB : Hid (∀ w', Below wr.drew.heap.size wr.drew w' → (fun w' : World => w'.cell? ⟨bx, 3, none⟩ = some (.slice (some ⟨ba, oa, none⟩) l.length l.length) ∧ w'.cell? ⟨ba, oa + i * 4, none⟩ = some (.int .i64 (ka : Int)) ∧ w'.cell? ⟨ba, oa + i * 4 + 1, none⟩ = some (.int .i64 (kb : Int)) ∧ w'.cell? ⟨ba, oa + i * 4 + 2, none⟩ = some (.string ⟨kt.toArray⟩) ∧ w'.cell? ⟨ba, oa + i * 4 + 3, none⟩ = some (.slice kA kn kn) ∧ w'.cell? ⟨by_, 3, none⟩ = some (.slice (some ⟨bb, ob, none⟩) l.length l.length) ∧ w'.cell? ⟨bb, ob + i * 4, none⟩ = some (.int .i64 (la : Int)) ∧ w'.cell? ⟨bb, ob + i * 4 + 1, none⟩ = some (.int .i64 (lb : Int)) ∧ w'.cell? ⟨bb, ob + i * 4 + 2, none⟩ = some (.string ⟨lt.toArray⟩) ∧ w'.cell? ⟨bb, ob + i * 4 + 3, none⟩ = some (.slice lA ln ln)) w') := fun w' hb4 => by
    obtain ⟨x0, x1, x2, x3, x4, x5, x6, x7, x8, x9⟩ := Hs.out
    have g0 := World.block_lt_of_cell? _ _ x0
    have g1 := World.block_lt_of_cell? _ _ x1
    have g5 := World.block_lt_of_cell? _ _ x5
    have g6 := World.block_lt_of_cell? _ _ x6
    exact ⟨(hb4.cell g0).trans x0, (hb4.cell g1).trans x1, (hb4.cell (p := ⟨ba, oa + i * 4 + 1, none⟩) g1).trans x2, (hb4.cell (p := ⟨ba, oa + i * 4 + 2, none⟩) g1).trans x3, (hb4.cell (p := ⟨ba, oa + i * 4 + 3, none⟩) g1).trans x4, (hb4.cell g5).trans x5, (hb4.cell g6).trans x6, (hb4.cell (p := ⟨bb, ob + i * 4 + 1, none⟩) g6).trans x7, (hb4.cell (p := ⟨bb, ob + i * 4 + 2, none⟩) g6).trans x8, (hb4.cell (p := ⟨bb, ob + i * 4 + 3, none⟩) g6).trans x9⟩
   clear b3 c3 q0 q1 q2 q3 p0 p1 p2 p3 hdr Hs
   generalize wr.drew = w3 at *
   refine wpAnyG_tk 0 hS0 ?_
   simp only [Act.put, List.setIfInBounds_toArray]
   refine wpAnyG_tk 1 hS0 ?_
   simp only [Act.put]
   refine wpAnyG_tk 2 hS0 ?_
   simp only [Act.put]
   refine wpAnyG_tk 3 hS0 ?_
   simp only [Act.put]
   refine wpAnyG_tk 4 hS0 ?_
   simp only [Act.put]
   refine wpAnyG_tk 5 hS0 ?_
   simp only [Act.put]
   refine wpAnyG_tk 6 hS0 ?_
   simp only [Act.put]
   refine wpAnyG_tk 7 hS0 ?_
   simp only [Act.put]
   refine wpAnyG_tk 8 hS0 ?_
   simp only [Act.put]
   refine wpAnyG_tk 9 hS0 ?_
   simp only [Act.put]
   clear hS0
   have hcl := hsame w3 F F' ka kb kt kA kn la lb lt lA ln (NdF.keep (F' := F) hd.size (fun x hx hl => ⟨hd.block x hl, hx⟩) _ _ hnd) (NdF.keep (F' := F') hd.size (fun x hx hl => ⟨hd.block x hl, hx⟩) _ _ hnu)
   refine wpAnyG_on 10 fun C hC => ?_
   go_simp
   ((with_reducible refine hcl.mono ?_))
   clear hcl
   rintro e w4 ⟨rfl, hb4⟩
   refine hC.out _ _ (fun _ => HsB.out w4 hb4) ?_
   clear hC C HsB
   have hd := hd.trans (hb4.mono hd.size)
   have hb := hb.below hb4 hb.lt
   have hb2 := hb2.below hb4 hb2.lt
   clear hb4
   refine wpAnyG_on 11 fun C hC => ?_
   go_simp
   refine hC.out _ _ (fun h => absurd rfl h) ?_
   clear hC C
   refine wpAnyG_done (by kernel_rfl) ?_ _
   have c1 : IntKind.i64.wrap ((i : Int) + 1) = (i : Int) + 1 := IntWalk.i64_in _ (by have := Hlt.out; have := Hl.out; omega)
   go_wp2_with fail
   go_roundg (l.length - (i + 1))
   case rel => exact ⟨i + 1, by go_num, by have := Hlt.out; omega, Nat.le_refl _, hb, hb2, hd⟩
   case measure => have := Hlt.out; have := Hm.out; omega
  ·obtain rfl : i = l.length := by omega
   have i1 : ¬ (l.length : Int) < (l.length : Int) := by omega
   have i2 : decide (l.length < l.length) = false := by simp
   clear hlt
   go_wp2_with fail
   go_ret
   exact ⟨rfl, hd⟩
theorem four_inj {k k' tok tok' : Nat} {t t' : Bs} {A A' : Option Addr} {n n' : Nat} (h : ([.int .i64 (k : Int), .int .i64 (tok : Int), .string ⟨t.toArray⟩, .slice A n n] : List Value) = [.int .i64 (k' : Int), .int .i64 (tok' : Int), .string ⟨t'.toArray⟩, .slice A' n' n']) : k = k' ∧ tok = tok' ∧ t = t' ∧ A = A' ∧ n = n' := by
 injection h with h1 h
 injection h with h2 h
 injection h with h3 h
 injection h with h4 h
 injection h1 with _ h1
 injection h2 with _ h2
 injection h3 with h3
 injection h4 with h4 h5 h6
 injection h3 with h3
 have h3 : t = t' := by simpa using h3
 exact ⟨by omega, by omega, h3, h4, h5⟩
mutual
theorem nodes_same : ∀ p : Tr.PT, Tr.wfP p → NodesC p
 | .leaf lk lt a, _ => fun w F F' k tok t A n k' tok' t' A' n' h h' => by
  unfold NdF at h h'
  obtain ⟨rfl, rfl, rfl, rfl, rfl⟩ := four_inj (h.trans (show _ = ([.int .i64 ((0 : Nat) : Int), .int .i64 (lk : Int), .string ⟨lt.toArray⟩, .slice none 0 0] : List Value) from rfl))
  obtain ⟨rfl, rfl, rfl, rfl, rfl⟩ := four_inj (h'.trans (show _ = ([.int .i64 ((0 : Nat) : Int), .int .i64 (tok : Int), .string ⟨t.toArray⟩, .slice none 0 0] : List Value) from rfl))
  exact nodes_core (l := []) (vs := []) (us := []) (F := F) (F' := F') (fun h => absurd h (by simp)) rfl (fun h => absurd h (by simp)) rfl (by simp) (by simp)
 | .gap gt a d, _ => fun w F F' k tok t A n k' tok' t' A' n' h h' => by
  unfold NdF at h h'
  obtain ⟨rfl, rfl, rfl, rfl, rfl⟩ := four_inj (h.trans (show _ = ([.int .i64 ((1 : Nat) : Int), .int .i64 ((0 : Nat) : Int), .string ⟨gt.toArray⟩, .slice none 0 0] : List Value) from rfl))
  obtain ⟨rfl, rfl, rfl, rfl, rfl⟩ := four_inj (h'.trans (show _ = ([.int .i64 ((1 : Nat) : Int), .int .i64 ((0 : Nat) : Int), .string ⟨t.toArray⟩, .slice none 0 0] : List Value) from rfl))
  exact nodes_core (l := []) (vs := []) (us := []) (F := F) (F' := F') (fun h => absurd h (by simp)) rfl (fun h => absurd h (by simp)) rfl (by simp) (by simp)
 | .branch bk a l, hw => fun w F F' k tok t A n k' tok' t' A' n' h h' => by
  unfold Tr.wfP at hw
  unfold NdF at h h'
  obtain ⟨B, vs, e, hr, hn⟩ := h
  obtain ⟨B', us, e', hr', hn'⟩ := h'
  obtain ⟨rfl, rfl, rfl, rfl, rfl⟩ := four_inj (t' := []) (e.trans (show _ = ([.int .i64 (bk : Int), .int .i64 ((0 : Nat) : Int), .string ⟨([] : Bs).toArray⟩, .slice B l.length l.length] : List Value) from rfl))
  obtain ⟨rfl, rfl, rfl, rfl, rfl⟩ := four_inj (t' := []) (e'.trans (show _ = ([.int .i64 (k : Int), .int .i64 ((0 : Nat) : Int), .string ⟨([] : Bs).toArray⟩, .slice B' l.length l.length] : List Value) from rfl))
  exact nodes_core hr hn hr' hn' hw.2.1 (nodess_same l hw.2.2)
theorem nodess_same : ∀ l : List Tr.PT, Tr.wfsP l → ∀ p ∈ l, NodesC p
 | [], _, p, hp => absurd hp (by simp)
 | q :: l, hw, p, hp => by
  unfold Tr.wfsP at hw
  rcases List.mem_cons.1 hp with he | hp
  ·rw [he]; exact nodes_same q hw.1
  ·exact nodess_same l hw.2 p hp
end
end Go.Proofs.YtalklmeejdmifaaGreatDoor
