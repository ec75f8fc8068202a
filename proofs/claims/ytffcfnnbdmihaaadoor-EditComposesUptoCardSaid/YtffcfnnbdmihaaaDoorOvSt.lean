/-
  THE STATE of edit.over: the place, the pieces that are left, the pieces that are made; and what a step does to it.
-/
import Derived.Test.YtffcfnnbdmihaaaDoorPieces
namespace Go.Proofs.YtffcfnnbdmihaaaDoor.cp
open Go.RowKit

/-- how far a taking has come -/
structure TakeI (text : List UInt8) (keep : Bool) (a0 z : Int) (l0 out0 : List Pc) (a : Int) (l out : List Pc) : Prop where
  lo : a0 ≤ a
  hi : a ≤ z
  left : meanL text l = (meanL text l0).drop (a - a0).toNat
  made : if keep then meanL text out = meanL text out0 ++ (meanL text l0).take (a - a0).toNat else out = out0
  sorted : PSort text.length 0 (out ++ l)
  len : out.length + l.length ≤ out0.length + l0.length + if a < z then 0 else 1
  bytes : pcBytes (out ++ l) ≤ pcBytes (out0 ++ l0)
theorem takeI_start {text : List UInt8} {keep : Bool} {a0 z : Int} {l0 out0 : List Pc} (h : a0 ≤ z) (hs : PSort text.length 0 (out0 ++ l0)) : TakeI text keep a0 z l0 out0 a0 l0 out0 where
  lo := Int.le_refl _
  hi := h
  left := by simp
  made := by cases keep <;> simp
  sorted := hs
  len := by omega
  bytes := Nat.le_refl _
theorem TakeI.step {text : List UInt8} {keep : Bool} {a0 z : Int} {l0 out0 : List Pc} {a : Int} {p : Pc} {r out : List Pc} (h : TakeI text keep a0 z l0 out0 a (p :: r) out) {k : Nat} (hk0 : 0 < k) (hk : (k : Int) ≤ p.size) (hkt : a + k ≤ z)
    (hmin : (k : Int) = p.size ∨ a + k = z) : TakeI text keep a0 z l0 out0 (a + k) (rest1 p r k) (if keep then out ++ [p.cut 0 k] else out) := by
  have hs := psort_append.1 h.sorted
  have h0 : 0 ≤ lastP 0 out := lastP_le hs.1
  obtain ⟨s1, s2, s3, s4⟩ := step_keep h0 hs.2 hk0 hk
  have e1 : (a + (k : Int) - a0).toNat = (a - a0).toNat + k := by have := h.lo; omega
  have hlen := h.len
  have hlt : a < z := by omega
  rw [if_pos hlt] at hlen
  have hby := h.bytes
  have hrb := rest1_bytes (p := p) (r := r) (k := k) hk
  have hlo := h.lo
  refine ⟨by omega, hkt, ?_, ?_, ?_, ?_, ?_⟩
  · rw [s4, h.left, List.drop_drop, e1]
  · cases keep with
    | true =>
      have hm := h.made
      simp only [if_true] at hm ⊢
      rw [meanL_append, meanL_one, s3, h.left, hm, e1, List.take_add, List.append_assoc]
    | false => exact h.made
  · cases keep with
    | true => simp only [if_true]; rw [List.append_assoc]; exact psort_append.2 ⟨hs.1, s1⟩
    | false => exact psort_append.2 ⟨hs.1, s2⟩
  · have hr : (rest1 p r k).length = if (k : Int) = p.size then r.length else r.length + 1 := by unfold rest1; split <;> simp
    rw [hr]
    simp only [List.length_cons] at hlen
    rcases hmin with he | he
    · rw [if_pos he]
      cases keep with
      | true => simp only [if_true, List.length_append, List.length_singleton]; omega
      | false => simp only [Bool.false_eq_true, if_false]; omega
    · have hn : ¬ (a + (k : Int) < z) := by omega
      rw [if_neg hn]
      cases keep with
      | true => simp only [if_true, List.length_append, List.length_singleton]; split <;> omega
      | false => simp only [Bool.false_eq_true, if_false]; split <;> omega
  · rw [pcBytes_append] at hby ⊢
    cases keep with
    | true =>
      simp only [if_true]
      rw [pcBytes_append]
      have : pcBytes [p.cut 0 k] = (p.cut 0 k).s.size := by simp [pcBytes]
      omega
    | false => simp only [Bool.false_eq_true, if_false]; omega
/-- there is a first piece as long as not all is taken -/
theorem TakeI.first {text : List UInt8} {keep : Bool} {a0 z : Int} {l0 out0 : List Pc} {a : Int} {l out : List Pc} (h : TakeI text keep a0 z l0 out0 a l out) (hlt : a < z) (hX : z - a0 ≤ (meanL text l0).length) : ∃ p r, l = p :: r := by
  cases l with
  | cons p r => exact ⟨p, r, rfl⟩
  | nil =>
    have h1 := h.left
    have h2 : (meanL text ([] : List Pc)).length = ((meanL text l0).drop (a - a0).toNat).length := by rw [h1]
    have h3 : (meanL text ([] : List Pc)).length = 0 := rfl
    rw [List.length_drop] at h2
    have := h.lo
    omega
theorem TakeI.fine {text : List UInt8} {keep : Bool} {a0 z : Int} {l0 out0 : List Pc} {a : Int} {p : Pc} {r out : List Pc} (h : TakeI text keep a0 z l0 out0 a (p :: r) out) (hn : text.length ≤ 1048576) (hb : pcBytes (out0 ++ l0) ≤ 16777216) :
    Fine p ∧ 0 < p.size ∧ p.size ≤ 16777216 := by
  have hs := psort_append.1 h.sorted
  have h0 : 0 ≤ lastP 0 out := lastP_le hs.1
  have hp := pc_size_pos hs.2
  refine ⟨fun hk => ?_, hp, ?_⟩
  · have := (PSort.keep hk).1 hs.2
    omega
  · cases hq : p.put with
    | true =>
      have hby := h.bytes
      rw [pcBytes_append] at hby
      have e : pcBytes (p :: r) = p.s.size + pcBytes r := by simp [pcBytes]
      have : p.size = p.s.size := by simp [Pc.size, hq]
      omega
    | false =>
      have := (PSort.keep hq).1 hs.2
      have : p.size = p.t - p.f := by simp [Pc.size, hq]
      omega

/-- the state of edit.over in memory -/
structure OvV (w : World) (base ba bl bo : Nat) (a : Int) (A : Option Addr) (c : Nat) (l : List Pc) (v : Value) (out : List Pc) : Prop where
  at_ : Blk w ba 3 #[.int .i64 a]
  left : Blk w bl 120 #[.slice A l.length c]
  made : Blk w bo 120 #[v]
  rd : Rd w w.heap.size 4 A l.length (pcCells l)
  cap : l.length ≤ c
  nilc : A = none → c = 0
  own : w.ownsRow base 132 4 v out.length (pcCells out)
  far : 0 < l.length → ∀ b o, A = some ⟨b, o, none⟩ → v.ownBlock ≠ some b
  ba_ : base ≤ ba
  bl_ : base ≤ bl
  bo_ : base ≤ bo
  ne : bl ≠ bo
def OvS (w : World) (base ba bl bo : Nat) (a : Int) (l out : List Pc) : Prop := ∃ A c v, OvV w base ba bl bo a A c l v out
abbrev ovT : List TypeId := [3, 132, 120]

theorem rd_one {w : World} {B n : Nat} {A : Option Addr} {xs : List Value} {g : Nat} {t : TypeId} {u : Value} (h : Rd w B 4 A n xs) (hg : Blk w g t #[u]) : 0 < n → ∀ b o, A = some ⟨b, o, none⟩ → b ≠ g := by
  intro hn b o hA e
  obtain ⟨b', o', e', hb, hc⟩ := h.2 hn
  rw [hA] at e'
  injection e' with e'
  injection e' with e1 e2 _
  subst e1 e2 e
  have hl : 3 < xs.length := by have := h.1; omega
  have h3 := hc 3 _ (List.getElem?_eq_getElem hl)
  rw [hg.cell] at h3
  rw [Array.getElem?_eq_none (by simp)] at h3
  cases h3
theorem rd_block {w w' : World} {B n : Nat} {A : Option Addr} {xs : List Value} (h : Rd w B 4 A n xs) (hk : 0 < n → ∀ b o, A = some ⟨b, o, none⟩ → w'.heap[b]? = w.heap[b]?) : Rd w' B 4 A n xs :=
  ⟨h.1, fun hn => by
    obtain ⟨b, o, e, hb, hc⟩ := h.2 hn
    exact ⟨b, o, e, hb, fun j u hu => (World.cell?_of_block (a := ⟨b, o + j, none⟩) (hk hn b o e)).trans (hc j u hu)⟩⟩
theorem rd_lt {w : World} {B n : Nat} {A : Option Addr} {xs : List Value} (h : Rd w B 4 A n xs) : 0 < n → ∀ b o, A = some ⟨b, o, none⟩ → b < B := by
  intro hn b o hA
  obtain ⟨b', o', e', hb, hc⟩ := h.2 hn
  rw [hA] at e'
  injection e' with e'
  injection e' with e1 e2 _
  omega
theorem blk_ne {w : World} {g h : Nat} {t t' : TypeId} {cs cs' : Array Value} (hg : Blk w g t cs) (hh : Blk w h t' cs') (hne : t ≠ t') : g ≠ h := fun e => by
  unfold Blk at hg hh
  rw [e, hh] at hg
  injection hg with hg
  injection hg with _ hg _
  exact hne hg.symm

section
variable {w w' : World} {base ba bl bo : Nat} {a : Int} {A : Option Addr} {c : Nat} {l : List Pc} {v : Value} {out : List Pc}
theorem OvV.below (h : OvV w base ba bl bo a A c l v out) (hb : Below w.heap.size w w') : OvV w' base ba bl bo a A c l v out where
  at_ := h.at_.below hb h.at_.lt
  left := h.left.below hb h.left.lt
  made := h.made.below hb h.made.lt
  rd := (h.rd.below hb).more hb.size
  cap := h.cap
  nilc := h.nilc
  own := own_of_block h.own fun k hk => hb.block k (h.own.lt k hk).2
  far := h.far
  ba_ := h.ba_
  bl_ := h.bl_
  bo_ := h.bo_
  ne := h.ne
theorem OvV.seta (h : OvV w base ba bl bo a A c l v out) (a' : Int) : OvV (w.setCell ⟨ba, 0, none⟩ (.int .i64 a')) base ba bl bo a' A c l v out ∧ KeepX ovT w (w.setCell ⟨ba, 0, none⟩ (.int .i64 a')) ∧ Below base w (w.setCell ⟨ba, 0, none⟩ (.int .i64 a')) := by
  have n1 : bl ≠ ba := blk_ne h.left h.at_ (by decide)
  have n2 : bo ≠ ba := blk_ne h.made h.at_ (by decide)
  refine ⟨⟨h.at_.set_ 0 _, h.left.far n1 _, h.made.far n2 _, ?_, h.cap, h.nilc, own_of_block h.own fun k hk => Below.heap_setCell _ _ _ _ fun e => ?_, h.far, h.ba_, h.bl_, h.bo_, h.ne⟩, KeepX.setCell (KeepX.refl _ _) (p := ⟨ba, 0, none⟩) h.at_ (by decide) _, (Below.refl _ _).setCell (p := ⟨ba, 0, none⟩) h.ba_ _⟩
  · have := rd_block (w' := w.setCell ⟨ba, 0, none⟩ (.int .i64 a')) h.rd fun hn b o e => Below.heap_setCell _ _ _ _ (rd_one h.rd h.at_ hn b o e)
    simpa using this
  · subst e
    exact own_ne h.own h.at_ (by decide) hk.symm
theorem OvV.setl (h : OvV w base ba bl bo a A c l v out) {A' : Option Addr} {c' : Nat} {l' : List Pc} (hr : Rd w w.heap.size 4 A' l'.length (pcCells l')) (hc : l'.length ≤ c') (hnc : A' = none → c' = 0) (hf : 0 < l'.length → ∀ b o, A' = some ⟨b, o, none⟩ → v.ownBlock ≠ some b) :
    OvV (w.setCell ⟨bl, 0, none⟩ (.slice A' l'.length c')) base ba bl bo a A' c' l' v out ∧ KeepX ovT w (w.setCell ⟨bl, 0, none⟩ (.slice A' l'.length c')) ∧ Below base w (w.setCell ⟨bl, 0, none⟩ (.slice A' l'.length c')) := by
  have n1 : ba ≠ bl := blk_ne h.at_ h.left (by decide)
  refine ⟨⟨h.at_.far n1 _, h.left.set_ 0 _, h.made.far h.ne.symm _, ?_, hc, hnc, own_of_block h.own fun k hk => Below.heap_setCell _ _ _ _ fun e => ?_, hf, h.ba_, h.bl_, h.bo_, h.ne⟩, KeepX.setCell (KeepX.refl _ _) (p := ⟨bl, 0, none⟩) h.left (by decide) _, (Below.refl _ _).setCell (p := ⟨bl, 0, none⟩) h.bl_ _⟩
  · have := rd_block (w' := w.setCell ⟨bl, 0, none⟩ (.slice A' l'.length c')) hr fun hn b o e => Below.heap_setCell _ _ _ _ (rd_one hr h.left hn b o e)
    simpa using this
  · subst e
    exact own_ne h.own h.left (by decide) hk.symm
theorem OvV.push (h : OvV w base ba bl bo a A c l v out) {o : Obj} {w3 : World} {gg cap' : Nat} {q : Pc} (hbase : base ≤ w.heap.size) (hgrow : (w.alloc o).grownBy w3 v.ownBlock)
    (hown3 : w3.ownsRow base 132 4 (.slice (some ⟨gg, 0, none⟩) (out.length + 1) cap') (out.length + 1) (pcCells out ++ [.int .i64 q.f, .int .i64 q.t, .string q.s, .bool q.put])) (hat : v.ownBlock = some gg ∨ gg = w.heap.size + 1) :
    OvV (w3.setCell ⟨bo, 0, none⟩ (.slice (some ⟨gg, 0, none⟩) (out.length + 1) cap')) base ba bl bo a A c l (.slice (some ⟨gg, 0, none⟩) (out.length + 1) cap') (out ++ [q]) ∧
      KeepX ovT w (w3.setCell ⟨bo, 0, none⟩ (.slice (some ⟨gg, 0, none⟩) (out.length + 1) cap')) ∧ Below base w (w3.setCell ⟨bo, 0, none⟩ (.slice (some ⟨gg, 0, none⟩) (out.length + 1) cap')) := by
  have n1 : ba ≠ bo := blk_ne h.at_ h.made (by decide)
  have g1 := (h.at_.alloc o).grown hgrow (own_ne (h.own.alloc o) (h.at_.alloc o) (by decide))
  have g2 := (h.left.alloc o).grown hgrow (own_ne (h.own.alloc o) (h.left.alloc o) (by decide))
  have g3 := (h.made.alloc o).grown hgrow (own_ne (h.own.alloc o) (h.made.alloc o) (by decide))
  have hsz : w.heap.size ≤ w3.heap.size := by have := hgrow.size; simp at this; omega
  have hr3 : Rd w3 w3.heap.size 4 A l.length (pcCells l) := (rd_block h.rd fun hn b o' e => by
    have hlt := rd_lt h.rd hn b o' e
    rw [hgrow.block b (by simp; omega) (fun e2 => h.far hn b o' e e2.symm)]
    exact Below.heap_alloc w o b hlt).more hsz
  refine ⟨⟨g1.far n1 _, g2.far h.ne _, g3.set_ 0 _, ?_, h.cap, h.nilc, ?_, ?_, h.ba_, h.bl_, h.bo_, h.ne⟩, ?_, ?_⟩
  · have := rd_block (w' := w3.setCell ⟨bo, 0, none⟩ (.slice (some ⟨gg, 0, none⟩) (out.length + 1) cap')) hr3 fun hn b o e => Below.heap_setCell _ _ _ _ (rd_one hr3 g3 hn b o e)
    simpa using this
  · rw [pcCells_append, pcCells_one, List.length_append]
    refine own_of_block hown3 fun k hk => Below.heap_setCell _ _ _ _ fun e => ?_
    subst e
    exact own_ne hown3 g3 (by decide) hk.symm
  · intro hn b o' e e2
    simp only [Value.ownBlock, Option.some.injEq] at e2
    subst e2
    rcases hat with h1 | h1
    · exact h.far hn _ o' e h1
    · have := rd_lt h.rd hn _ o' e; omega
  · refine KeepX.setCell (KeepX.grown ((KeepX.refl _ _).alloc o) hgrow ?_) (p := ⟨bo, 0, none⟩) (cs := #[v]) (t := 120) (fr := (0, 0)) g3 (by decide) _
    intro g hg
    obtain ⟨cs, fr, h'⟩ := own_ty (h.own.alloc o) g hg
    exact ⟨cs, _, fr, h', by decide⟩
  · exact (((Below.refl base w).alloc hbase o).grown hgrow (by simp; omega) fun k hk => (h.own.lt k hk).1).setCell (p := ⟨bo, 0, none⟩) h.bo_ _
end
end Go.Proofs.YtffcfnnbdmihaaaDoor.cp
