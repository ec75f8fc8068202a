/-
  JOINED of the texts TF RegG TG TJ TH TK TI
-/
import Derived.Test.YtcjjfeephaddcaaGreatDoorJae
set_option linter.all false
namespace Go.Proofs.YtcjjfeephaddcaaGreatDoor
open Go.RowKit
structure Rdr (w : World) (K : Nat → Prop) (g gt : Nat) (s : Bs) (T : List Tk) (b n i : Nat) : Prop where
 rs : Rs3 w K g gt s T b n i
 inK : In K w
 hi : i ≤ T.length
 hb : b ≤ Tr.absP s T i
structure Txts (s : Bs) (T : List Tk) : Prop where
 good : Tr.Good s T
 hT : T.length ≤ 4194304
 hs : s.length ≤ 4194304
section
variable {w w' : World} {K : Nat → Prop} {g gt : Nat} {s : Bs} {T : List Tk} {b n i : Nat}
theorem Rdr.below (h : Rdr w K g gt s T b n i) (hb : Below w.heap.size w w') : Rdr w' K g gt s T b n i := ⟨h.rs.below hb h.inK, h.inK.after hb.size, h.hi, h.hb⟩
theorem Rdr.drewN (h : Rdr w K g gt s T b n i) (m : Nat) : Rdr (w.drewN m) K g gt s T b n i := h.below (below_drewN (Below.refl _ _) m)
end
set_option maxHeartbeats 4000000 in
set_option maxRecDepth 100000 in
theorem is_walk {w : World} {K : Nat → Prop} {g gt : Nat} {s : Bs} {T : List Tk} {b n i : Nat} (X : Txts s T) (R : Rdr w K g gt s T b n i) (A : Option Addr) (c : Nat) (l : List Bs) (hA : Rd w w.heap.size 1 A l.length (txtV l)) (hl : l.length ≤ 1000) :
  Calls Tryz.prog 150 #[.pointer (some ⟨g, 0, none⟩), .slice A l.length c] w fun e w' => e = .returned (.bool (Tr.isP s T l i)) ∧ Below w.heap.size w w' := by
 have h1 := next_walkT R.rs R.hi (by have := X.hT; omega)
 have hnl := Tr.next_le T i R.hi
 have hT := X.hT
 have h2 := text_walkT (Tr.nextP T i) R.rs X.good (by have := X.hs; omega) (by omega)
 have HR : Hid (Tr.isP s T l i = ((Tr.kindP T (Tr.nextP T i) == 4 || Tr.kindP T (Tr.nextP T i) == 7) && l.contains (Tr.textP s T (Tr.nextP T i)))) := rfl
 generalize Tr.isP s T l i = r at *
 generalize Tr.kindP T (Tr.nextP T i) = kd at *
 generalize Tr.textP s T (Tr.nextP T i) = tx at *
 generalize Tr.nextP T i = nx at *
 clear hnl hT R X
 go_enter Tryz.func150, Tryz.ntmps150
 go_wp2_with fail
 refine h1.mono ?_
 clear h1
 rintro e w1 ⟨rfl, rfl⟩
 go_wp2_with fail
 refine h2.mono ?_
 clear h2
 rintro e w2 ⟨rfl, hb⟩
 have hc := contains_walk8 A c l tx w2 ((hA.below hb).more hb.size) (by omega)
 generalize l.contains tx = cb at *
 by_cases k4 : kd = 4
 ·subst k4
  go_wp2_with fail
  refine hc.mono ?_
  clear hc
  rintro e w3 ⟨rfl, rfl⟩
  go_wp2_with fail
  go_ret
  exact ⟨by rw [HR.out]; rfl, hb⟩
 ·have e4 : ((kd : Int) == 4) = false := by simp; omega
  have f4 : (kd == 4) = false := by simpa using k4
  rw [f4, Bool.false_or] at HR
  by_cases k7 : kd = 7
  ·subst k7
   clear k4 f4
   go_wp2_with fail
   refine hc.mono ?_
   clear hc
   rintro e w3 ⟨rfl, rfl⟩
   go_wp2_with fail
   go_ret
   exact ⟨by rw [HR.out]; rfl, hb⟩
  ·have e7 : ((kd : Int) == 7) = false := by simp; omega
   have f7 : (kd == 7) = false := by simpa using k7
   rw [f7, Bool.false_and] at HR
   clear k4 f4 k7 f7 hc
   go_wp2_with fail
   go_ret
   exact ⟨by rw [HR.out]; rfl, hb⟩
set_option maxHeartbeats 4000000 in
set_option maxRecDepth 100000 in
theorem kindn_walk {w : World} {K : Nat → Prop} {g gt : Nat} {s : Bs} {T : List Tk} {b n i : Nat} (X : Txts s T) (R : Rdr w K g gt s T b n i) (k : Nat) :
  Calls Tryz.prog 229 #[.pointer (some ⟨g, 0, none⟩), .int .i64 (k : Int)] w fun e w' => e = .returned (.bool (Tr.kindP T (Tr.nextP T i) == k)) ∧ Below w.heap.size w w' := by
 have h1 := next_walkT R.rs R.hi (by have := X.hT; omega)
 have hnl := Tr.next_le T i R.hi
 have hT := X.hT
 have h2 := text_walkT (Tr.nextP T i) R.rs X.good (by have := X.hs; omega) (by omega)
 generalize Tr.kindP T (Tr.nextP T i) = kd at *
 generalize Tr.textP s T (Tr.nextP T i) = tx at *
 generalize Tr.nextP T i = nx at *
 clear hnl hT R X
 have HB : Hid (((kd : Int) == (k : Int)) = (kd == k)) := by
  show _ = _
  by_cases h : kd = k
  ·subst h; simp
  ·have : ¬ (kd : Int) = (k : Int) := by omega
   rw [beq_eq_false_iff_ne.2 h, beq_eq_false_iff_ne.2 this]
 go_enter Tryz.func229, Tryz.ntmps229
 go_wp2_with fail
 refine h1.mono ?_
 clear h1
 rintro e w1 ⟨rfl, rfl⟩
 go_wp2_with fail
 refine h2.mono ?_
 clear h2
 rintro e w2 ⟨rfl, hb⟩
 go_wp2_with fail
 go_ret
 exact ⟨by rw [← HB.out]; rfl, hb⟩
set_option maxHeartbeats 4000000 in
set_option maxRecDepth 100000 in
theorem branch_walk {w : World} {K : Nat → Prop} {g gt : Nat} {s : Bs} {T : List Tk} {b n i : Nat} (X : Txts s T) (R : Rdr w K g gt s T b n i) (kind : Nat) :
  Calls Tryz.prog 198 #[.pointer (some ⟨g, 0, none⟩), .int .i64 (kind : Int)] w fun e w' => e = .returned (.pointer (some ⟨w.heap.size, 0, none⟩)) ∧ Below w.heap.size w w' ∧ w'.heap.size = w.heap.size + 1 ∧ ∀ K, In K w → Br w' K w.heap.size kind (Tr.placeP s T b i) [] := by
 have hp := place_walk R.rs X.good R.hb (by have := X.hs; omega)
 generalize Tr.placeP s T b i = p at *
 clear R X
 go_enter Tryz.func198, Tryz.ntmps198
 go_wp2_with fail
 refine hp.mono ?_
 clear hp
 rintro e w1 ⟨rfl, m, rfl⟩
 go_wp2_with fail
 go_ret
 exact ⟨rfl, (below_drewN (Below.refl _ _) m).alloc (Nat.le_refl _) _, by simp, fun K hK => Br.new (w := w.drewN m) hK kind p⟩
section
variable {P : Program} {ops : Array Oper} {Q : Exit → Act → World → Prop} {md : Region.Mode} {S : World → Prop} {L : Nat}
def wpAnyG (P : Program) (md : Region.Mode) (ops : Array Oper) (Q : Exit → Act → World → Prop) (S : World → Prop) (L : Nat) : Nat → Array Bool → Act → World → Prop
 | 0, listed, a, w => Region.ready md ops listed = [] ∧ Q .normal a w
 | fuel + 1, listed, a, w =>
  (Region.ready md ops listed = [] → Q .normal a w) ∧
  ∀ i ∈ Region.ready md ops listed, wpOp P ops Q i (fun a' w' => (i ≠ L → S w') ∧ wpAnyG P md ops Q S L fuel (listed.setIfInBounds i true) a' w') a w
theorem wpAny_of_G : ∀ (fuel : Nat) (listed : Array Bool) (a : Act) (w : World), wpAnyG P md ops Q S L fuel listed a w → wpAny P md ops Q fuel listed a w
 | 0, _, _, _, h => h
 | fuel + 1, _, _, _, h => ⟨h.1, fun i hi => wpOp_mono (fun a' w' h' => wpAny_of_G fuel _ a' w' h'.2) (h.2 i hi)⟩
def waits (md : Region.Mode) (ops : Array Oper) (L i : Nat) : Bool :=
 match ops[L]? with
 | some o => o.after.toList.any fun e => Region.binds md e && e.on == i
 | none => true
theorem wpAnyG_first {i : Nat} {oi : Oper} {v : Value} (hi : ops[i]? = some oi) (hsel : ∀ (j : Nat) (o : Oper) cs b, ops[j]? = some o → o.op ≠ .select cs b)
  (hQ : ∀ c a w, Q (.panic c) (a.put oi.dst v) w → Q (.panic c) a w) (hL : waits md ops L i = true) :
  ∀ (fuel : Nat) (listed : Array Bool) (a : Act) (w : World),
   (∀ j oj, ops[j]? = some oj → j ≠ i → listed.getD j true = false → (∀ e ∈ oj.after, Region.binds md e = true → e.on ≠ i) → oi.apart ops oj = true) →
   i ∈ Region.ready md ops listed → YieldsIf P ops S oi v a → S w →
   wpAnyG P md ops Q S L fuel (listed.setIfInBounds i true) (a.put oi.dst v) w → wpAnyG P md ops Q S L (fuel + 1) listed a w := by
 intro fuel
 induction fuel with
 | zero =>
  intro listed a w _ hr hy hS H
  refine ⟨fun h => (by rw [h] at hr; cases hr), fun j hj => ?_⟩
  by_cases hji : j = i
  ·subst hji; exact hy.wpOp hi hS ⟨fun _ => hS, H⟩
  ·have := ready_mono hj hji
   rw [H.1] at this
   cases this
 | succ fuel ih =>
  intro listed a w hfree hr hy hS H
  refine ⟨fun h => (by rw [h] at hr; cases hr), fun j hj => ?_⟩
  by_cases hji : j = i
  ·subst hji; exact hy.wpOp hi hS ⟨fun _ => hS, H⟩
  ·have h1 := H.2 j (ready_mono hj hji)
   obtain ⟨hjun, oj, hoj, hall⟩ := mem_ready.1 hj
   have hnot : ∀ e ∈ oj.after, Region.binds md e = true → e.on ≠ i := fun e he hb heq => by
    have h1 := hall e he hb
    have h0 := (mem_ready.1 hr).1
    rw [heq] at h1
    rcases Nat.lt_or_ge i listed.size with h' | h'
    ·simp [h'] at h0 h1; rw [h0] at h1; cases h1
    ·simp [Array.getElem?_eq_none h'] at h1
   have hjL : j ≠ L := fun e => by
    subst e
    unfold waits at hL
    rw [hoj] at hL
    simp only [List.any_eq_true, Bool.and_eq_true, beq_iff_eq] at hL
    obtain ⟨e, he, hb, hon⟩ := hL
    exact hnot e (Array.mem_toList_iff.1 he) hb hon
   have h2 := wpOp_putIf hoj (hfree j oj hoj hji hjun hnot) (fun cs b => hsel i oi cs b hi) (fun cs b => hsel j oj cs b hoj) hQ hy h1
   have hfree' : ∀ k ok, ops[k]? = some ok → k ≠ i → (listed.setIfInBounds j true).getD k true = false →
     (∀ e ∈ ok.after, Region.binds md e = true → e.on ≠ i) → oi.apart ops ok = true := fun k ok hk hki hun hno => by
    refine hfree k ok hk hki ?_ hno
    by_cases hjk : j = k
    ·subst hjk; exact hjun
    ·rw [getD_set_ne true hjk] at hun; exact hun
   refine wpOp_mono (fun a' w' h3 => ⟨h3.2.1, ih (listed.setIfInBounds j true) a' w' hfree' (ready_mono hr (Ne.symm hji)) h3.1 (h3.2.1 hjL) ?_⟩) h2
   rw [Array.setIfInBounds_comm _ _ hji]
   exact h3.2.2
theorem wpAnyG_take {i : Nat} {oi : Oper} {v : Value} {fuel : Nat} {listed : Array Bool} {a : Act} {w : World} (hi : ops[i]? = some oi)
  (hs : Region.noSelect ops = true) (hf : Region.free md ops listed i = true) (hr : (Region.ready md ops listed).contains i = true) (hL : waits md ops L i = true)
  (hQ : ∀ c a w, Q (.panic c) (a.put oi.dst v) w → Q (.panic c) a w) (hy : YieldsIf P ops S oi v a) (hS : S w)
  (h : wpAnyG P md ops Q S L fuel (listed.setIfInBounds i true) (a.put oi.dst v) w) : wpAnyG P md ops Q S L (fuel + 1) listed a w :=
 wpAnyG_first hi (Region.noSelect_spec hs) hQ hL fuel listed a w (Region.free_spec hi hf) (by simpa using hr) hy hS h
theorem wpAnyG_one {i : Nat} {o : Oper} {fuel : Nat} {listed : Array Bool} {a : Act} {w : World} (hr : Region.ready md ops listed = [i]) (ho : ops[i]? = some o)
  (h : ∀ K' : Act → World → Prop, Shut (∀ a w, (i ≠ L → S w) → wpAnyG P md ops Q S L fuel (listed.setIfInBounds i true) a w → K' a w) → if Region.wanted o (yielded ops a.tmps) = true then Oper.wp P o a w K' Q else K' (a.put o.dst undef) w) :
  wpAnyG P md ops Q S L (fuel + 1) listed a w :=
 ⟨fun h0 => (by rw [h0] at hr; cases hr), fun j hj => by
  rw [hr, List.mem_singleton] at hj
  subst hj
  exact wpOp_step ho fun K' hK => h K' fun a w hS hW => hK a w ⟨hS, hW⟩⟩
theorem wpAnyG_tk (i : Nat) {oi : Oper} {v : Value} {fuel : Nat} {listed : Array Bool} {a : Act} {w : World} (hS : S w)
  (h : wpAnyG P md ops Q S L fuel (listed.setIfInBounds i true) (a.put oi.dst v) w)
  (hi : ops[i]? = some oi := by rfl) (hs : Region.noSelect ops = true := by kernel_rfl) (hf : Region.free md ops listed i = true := by kernel_rfl)
  (hr : (Region.ready md ops listed).contains i = true := by kernel_rfl) (hL : waits md ops L i = true := by kernel_rfl)
  (hQ : ∀ c a w, Q (.panic c) (a.put oi.dst v) w → Q (.panic c) a w := by exact fun _ _ _ h => h)
  (hy : YieldsIf P ops S oi v a := by
   refine Or.inl ⟨by rfl, ?_⟩
   intro w hSw
   try dsimp only at hSw
   repeat (have s := hSw.1; replace hSw := hSw.2)
   go_simp
   try with_reducible rfl) : wpAnyG P md ops Q S L (fuel + 1) listed a w :=
 wpAnyG_take hi hs hf hr hL hQ hy hS h
theorem wpAnyG_on (i : Nat) {o : Oper} {fuel : Nat} {listed : Array Bool} {a : Act} {w : World}
  (h : ∀ K' : Act → World → Prop, Shut (∀ a w, (i ≠ L → S w) → wpAnyG P md ops Q S L fuel (listed.setIfInBounds i true) a w → K' a w) → if Region.wanted o (yielded ops a.tmps) = true then Oper.wp P o a w K' Q else K' (a.put o.dst undef) w)
  (hr : Region.ready md ops listed = [i] := by kernel_rfl) (ho : ops[i]? = some o := by rfl) : wpAnyG P md ops Q S L (fuel + 1) listed a w := wpAnyG_one hr ho h
theorem wpAnyG_done {listed : Array Bool} {a : Act} {w : World} (hr : Region.ready md ops listed = []) (h : Q .normal a w) : ∀ fuel, wpAnyG P md ops Q S L fuel listed a w
 | 0 => ⟨hr, h⟩
 | _ + 1 => ⟨fun _ => h, by rw [hr]; simp⟩
theorem wp_region_G {id : Nat} {a : Act} {w : World} (L : Nat) (S : World → Prop) (hm : P.follows .mixedOrders = true)
  (h : wpAnyG P .any ops Q S L ops.size (Array.replicate ops.size false) a w.drew) : (Code.region id ops true).wp P Q a w :=
 wp_region_any hm (wpAny_of_G _ _ _ _ h)
end
structure Kept (K : Nat → Prop) (w w' : World) : Prop where
 size : w.heap.size ≤ w'.heap.size
 same : ∀ x, K x → w'.heap[x]? = w.heap[x]?
 calm : Calm w w'
section
variable {w w' w1 : World} {K : Nat → Prop} {g gt : Nat} {s : Bs} {T : List Tk} {b n i : Nat}
theorem Kept.aft (h : Kept K w w') (g : Nat) : Aft K g w w' := ⟨h.size, fun x hx _ => h.same x hx, h.calm⟩
theorem Kept.below (h : Below w.heap.size w w') (hK : In K w) : Kept K w w' := ⟨h.size, fun x hx => h.block x (hK x hx), Calm.below h⟩
theorem Rdr.kept (h : Rdr w K g gt s T b n i) (hk : Kept K w w') : Rdr w' K g gt s T b n i :=
 ⟨⟨(hk.same g h.rs.tr.kg).trans h.rs.rd, h.rs.tr.aft (hk.aft g)⟩, h.inK.after hk.size, h.hi, h.hb⟩
theorem Rdr.drew (h : Rdr w K g gt s T b n i) : Rdr w.drew K g gt s T b n i := h.below ((Below.refl _ _).drew)
end
theorem infoPart : (Tryz.prog.info? 122).map (fun i => (i.zero, i.size, i.bytes)) = some (some .nilIface, 1, 16) := by kernel_rfl
section
variable {w w' w5 : World} {K : Nat → Prop} {g h kind at_ : Nat} {pts : List Tr.PT} {A : Option Addr} {c : Nat} {vs : List Value}
theorem OB.below (hb : OB w K h kind at_ pts A c vs) (hbl : Below w.heap.size w w') : OB w' K h kind at_ pts A c vs :=
 ⟨hb.nk, hb.blk.below hbl hb.blk.lt, own_of_block hb.own fun q hq => hbl.block q (hb.row_lt q hq), hb.nr, PtsF.keep hbl.size (fun b hF hl => ⟨hbl.block b hl, hF⟩) _ _ hb.parts⟩
theorem Br.below (hb : Br w K h kind at_ pts) (hbl : Below w.heap.size w w') : Br w' K h kind at_ pts := by
 obtain ⟨A, c, vs, hb⟩ := hb
 exact ⟨A, c, vs, hb.below hbl⟩
theorem OB.push (hb : OB w K h kind at_ pts A c vs) (hK : In K w) {p : Tr.PT} {v : Value} {gg cap : Nat}
  (hp : PtF w (fun x => ¬ K x ∧ x ≠ h ∧ some x ≠ (Value.slice A pts.length c).ownBlock) p v)
  (hown : w5.ownsRow 0 122 1 (.slice (some ⟨gg, 0, none⟩) (pts.length + 1) cap) (pts.length + 1) (vs ++ [v]))
  (hgrow : (w.alloc (.cells #[v] 122)).grownBy w5 (Value.slice A pts.length c).ownBlock)
  (hat : (Value.slice A pts.length c).ownBlock = some gg ∨ gg = w.heap.size + 1) :
  Br (w5.setCell ⟨h, 1, none⟩ (.slice (some ⟨gg, 0, none⟩) (pts.length + 1) cap)) K h kind at_ (pts ++ [p]) ∧ Kept K w (w5.setCell ⟨h, 1, none⟩ (.slice (some ⟨gg, 0, none⟩) (pts.length + 1) cap)) := by
 have hz := hgrow.size
 simp at hz
 have old : ∀ x, x < w.heap.size → some x ≠ (Value.slice A pts.length c).ownBlock → x ≠ h → (w5.setCell ⟨h, 1, none⟩ (.slice (some ⟨gg, 0, none⟩) (pts.length + 1) cap)).heap[x]? = w.heap[x]? := fun x hx hr hh =>
  ((Below.heap_setCell w5 ⟨h, 1, none⟩ _ x hh).trans (hgrow.block x (by simp; omega) hr)).trans (Below.heap_alloc w _ x hx)
 have hrn : ∀ x, K x → some x ≠ (Value.slice A pts.length c).ownBlock := fun x hx e => hb.nr x e.symm hx
 have hhn : ∀ x, K x → x ≠ h := fun x hx e => hb.nk (e ▸ hx)
 have hgk : ¬ K gg := fun hk => by
  rcases hat with e | e
  ·exact hb.nr gg e hk
  ·have := hK gg hk; omega
 have hgn : ∀ x, x < w.heap.size → some x ≠ (Value.slice A pts.length c).ownBlock → some x ≠ some gg := fun x hx hr e => by
  rcases hat with e' | e'
  ·exact hr (e.trans e'.symm)
  ·injection e; omega
 have hhr : (h : Nat) ≠ gg := fun e => hgn h hb.blk.lt hb.row_ne (by rw [e])
 have hlen : (pts ++ [p]).length = pts.length + 1 := by simp
 have hB5 := ((hb.blk.alloc (.cells #[v] 122)).grown hgrow hb.row_ne).set_ 1 (.slice (some ⟨gg, 0, none⟩) (pts.length + 1) cap)
 have hsz : w5.heap.size ≤ (w5.setCell ⟨h, 1, none⟩ (.slice (some ⟨gg, 0, none⟩) (pts.length + 1) cap)).heap.size := by simp [World.setCell]
 refine ⟨⟨some ⟨gg, 0, none⟩, cap, vs ++ [v], hb.nk, ?_, ?_, ?_, ?_⟩, by omega, fun x hx => old x (hK x hx) (hrn x hx) (hhn x hx), ((show Calm w (w.alloc (.cells #[v] 122)) from ⟨rfl, rfl, rfl⟩).trans ⟨hgrow.os, hgrow.tape, hgrow.output⟩).trans (Calm.set w5 _ _)⟩
 ·rw [hlen]; exact hB5
 ·rw [hlen]
  exact own_of_block hown fun q hq => Below.heap_setCell w5 ⟨h, 1, none⟩ _ q (by simp only [Value.ownBlock, Option.some.injEq] at hq; subst hq; exact Ne.symm hhr)
 ·intro q hq
  simp only [Value.ownBlock, Option.some.injEq] at hq
  subst hq; exact hgk
 ·refine PtsF.app ?_ (PtsF.one ?_)
  ·exact PtsF.keep (by omega) (fun x hF hl => ⟨old x hl hF.2.2 hF.2.1, hF.1, hF.2.1, hgn x hl hF.2.2⟩) _ _ hb.parts
  ·exact PtF.keep (by omega) (fun x hF hl => ⟨old x hl hF.2.2 hF.2.1, hF.1, hF.2.1, hgn x hl hF.2.2⟩) _ _ hp
end
def StE (w : World) (K : Nat → Prop) (g gt h kind at_ : Nat) (s : Bs) (T : List Tk) (b n : Nat) (st : Tr.St) (e : Ending) (w' : World) : Prop :=
 e = .returned (.tuple #[]) ∧ Aft K g w w' ∧ Rdr w' K g gt s T b n st.2 ∧ Br w' K h kind at_ st.1
set_option maxHeartbeats 4000000 in
set_option maxRecDepth 100000 in
theorem missing_walk {w : World} {K : Nat → Prop} {g gt : Nat} {s : Bs} {T : List Tk} {b n i : Nat} {h kind at_ : Nat} {pts : List Tr.PT} (X : Txts s T) (R : Rdr w K g gt s T b n i) (hb : Br w K h kind at_ pts) (word : Bs) (hl : pts.length ≤ 100000000) :
  Calls Tryz.prog 228 #[.pointer (some ⟨g, 0, none⟩), .pointer (some ⟨h, 0, none⟩), .string ⟨word.toArray⟩] w (StE w K g gt h kind at_ s T b n (Tr.thn (pts, i) (Tr.missP s T b word))) := by
 obtain ⟨i0, ji, jz0, jz1, jz2⟩ := info_parts infoPart
 obtain ⟨A, c, vs, hb⟩ := hb
 have HP : Hid (Tr.thn (pts, i) (Tr.missP s T b word) = (pts ++ [.gap word (Tr.placeP s T b i) false], i)) := rfl
 rw [HP.out]
 clear HP
 go_enter Tryz.func228, Tryz.ntmps228
 refine wp_region_G 15 (fun w' : World => w'.cell? ⟨h, 1, none⟩ = some (.slice A pts.length c)) (by kernel_rfl) ?_
 have hd : Below w.heap.size w w.drew := (Below.refl _ _).drew
 have hA := Kept.aft (Kept.below hd R.inK) g
 have R := R.drew
 have hb := hb.below hd
 have hpl := place_walk R.rs X.good R.hb (by have := X.hs; omega)
 clear hd X
 generalize w.drew = w1 at *
 have o1 := hb.blk.cell 1
 simp at o1
 have hS0 : (fun w' : World => w'.cell? ⟨h, 1, none⟩ = some (.slice A pts.length c)) w1 := o1
 refine wpAnyG_tk 0 hS0 ?_
 simp only [Act.put, List.setIfInBounds_toArray]
 refine wpAnyG_tk 1 hS0 ?_
 simp only [Act.put]
 refine wpAnyG_tk 2 hS0 ?_
 simp only [Act.put]
 refine wpAnyG_tk 3 hS0 ?_
 simp only [Act.put]
 refine wpAnyG_tk 4 hS0 ?_
 simp only [Act.put]
 refine wpAnyG_tk 5 hS0 ?_
 simp only [Act.put]
 refine wpAnyG_tk 6 hS0 ?_
 simp only [Act.put]
 clear hS0
 generalize Tr.placeP s T b i = pl at *
 refine wpAnyG_on 7 fun C hC => ?_
 go_simp
 ((with_reducible refine hpl.mono ?_))
 clear hpl
 rintro e w2 ⟨rfl, m, rfl⟩
 have hd : Below w1.heap.size w1 (w1.drewN m) := below_drewN (Below.refl _ _) m
 have hA := hA.trans (Kept.aft (Kept.below hd R.inK) g)
 have R := R.below hd
 have hb := hb.below hd
 clear hd
 have o1 : (w1.drewN m).cell? ⟨h, 1, none⟩ = some (.slice A pts.length c) := o1
 refine hC.out _ _ (fun _ => o1) ?_
 clear hC C
 generalize w1.drewN m = w2 at *
 refine wpAnyG_on 8 fun C hC => ?_
 go_simp
 refine hC.out _ _ (fun _ => o1) ?_
 clear hC C
 have hd : Below w2.heap.size w2 (w2.alloc (.cells #[.string ⟨word.toArray⟩, .int .i64 (pl : Int), .bool false] 308)) := (Below.refl _ _).alloc (Nat.le_refl _) _
 have hBg : Blk (w2.alloc (.cells #[.string ⟨word.toArray⟩, .int .i64 (pl : Int), .bool false] 308)) w2.heap.size 308 #[.string ⟨word.toArray⟩, .int .i64 (pl : Int), .bool false] := Blk.new _ _ _
 have hA := hA.trans (Kept.aft (Kept.below hd R.inK) g)
 have hp : PtF (w2.alloc (.cells #[.string ⟨word.toArray⟩, .int .i64 (pl : Int), .bool false] 308)) (fun x => ¬ K x ∧ x ≠ h ∧ some x ≠ (Value.slice A pts.length c).ownBlock) (.gap word pl false) (.iface 176 (.pointer (some ⟨w2.heap.size, 0, none⟩))) :=
  ⟨w2.heap.size, rfl, ⟨fun hk => Nat.lt_irrefl _ (R.inK _ hk), fun e => by have := hb.blk.lt; omega, fun e => by have := hb.row_lt _ e.symm; omega⟩, hBg⟩
 have R := R.below hd
 have hb := hb.below hd
 clear hd hBg
 refine wpAnyG_on 9 fun C hC => ?_
 go_simp
 have o1 : (w2.alloc (.cells #[.string ⟨word.toArray⟩, .int .i64 (pl : Int), .bool false] 308)).cell? ⟨h, 1, none⟩ = some (.slice A pts.length c) := by
  have := hb.blk.cell 1
  simpa using this
 refine hC.out _ _ (fun _ => o1) ?_
 clear hC C
 obtain ⟨q, hq⟩ : ∃ q, q = w2.heap.size := ⟨_, rfl⟩
 rw [← hq] at hp ⊢
 clear hq
 generalize (w2.alloc (.cells #[.string ⟨word.toArray⟩, .int .i64 (pl : Int), .bool false] 308)) = w3 at *
 refine wpAnyG_on 10 fun C hC => ?_
 go_simp
 refine hC.out _ _ (fun _ => o1) ?_
 clear hC C
 refine wpAnyG_on 11 fun C hC => ?_
 go_simp
 refine hC.out _ _ (fun _ => (cell_alloc _ _ _ _ hb.blk.lt).trans o1) ?_
 clear hC C
 refine wpAnyG_on 12 fun C hC => ?_
 refine step_append_lies _ (by rfl) _ _ _ (by rfl) 0 122 i0 _ 1 16 Tryz.underlying119 ji jz0 jz1 jz2 rfl (by omega) (.slice A pts.length c) pts.length vs (by rfl) (hb.own.alloc (.cells #[.iface 176 (.pointer (some ⟨q, 0, none⟩))] 122)) ⟨w3.heap.size, 0, none⟩ 1 1 [.iface 176 (.pointer (some ⟨q, 0, none⟩))] (by rfl) (by rfl) (World.news_of_block (heap_alloc_new w3 _)) (by simp [Value.oneCell']) (by omega) (by unfold maxLen; omega) (by omega) (Nat.zero_le _) (w3.heap.size + 1) (by simp) ?_
 intro gg cap' w5 hown5 hgrow hat hlt5
 have hpu := hb.push R.inK hp hown5 hgrow hat
 have hg5 := (hb.blk.alloc (.cells #[.iface 176 (.pointer (some ⟨q, 0, none⟩))] 122)).grown hgrow hb.row_ne
 have b1 := hg5.cell 1
 have bf := hg5.frozen 1
 simp at b1
 refine hC.out _ _ (fun _ => b1) ?_
 clear hC C
 refine wpAnyG_on 13 fun C hC => ?_
 go_simp
 refine hC.out _ _ (fun _ => b1) ?_
 clear hC C
 refine wpAnyG_on 14 fun C hC => ?_
 go_simp
 refine hC.out _ _ (fun _ => b1) ?_
 clear hC C
 refine wpAnyG_on 15 fun C hC => ?_
 go_simp
 refine hC.out _ _ (fun h => absurd rfl h) ?_
 clear hC C
 refine wpAnyG_done (by kernel_rfl) ?_ _
 have hB := hpu.1
 have R := R.kept hpu.2
 have hA := hA.trans (hpu.2.aft g)
 clear hb hp o1 hown5 hgrow hat hlt5 hpu hg5 b1 bf
 go_end0
 exact ⟨rfl, hA, R, hB⟩
theorem nil_leaf (m : String) (a : Addr) (w : World) (hm : m = "From") : (nilAhead 542 171 (.pointer (some a)) m).run Tryz.prog w = .ok (some false) w := by subst hm; kernel_rfl
theorem from_leaf (a : Addr) (w : World) : (method 542 171 (.pointer (some a)) "From").run Tryz.prog w = .ok (324, .pointer (some a)) w := by kernel_rfl
theorem from_gap (a : Addr) (w : World) : (method 542 176 (.pointer (some a)) "From").run Tryz.prog w = .ok (327, .pointer (some a)) w := by kernel_rfl
theorem from_branch (a : Addr) (w : World) : (method 542 114 (.pointer (some a)) "From").run Tryz.prog w = .ok (322, .pointer (some a)) w := by kernel_rfl
theorem leaf_from {w : World} {a : Nat} (q : Nat) (h : w.cell? ⟨q, 2, none⟩ = some (.int .i64 (a : Int))) : Calls Tryz.prog 324 #[.pointer (some ⟨q, 0, none⟩)] w fun e w' => e = .returned (.int .i64 (a : Int)) ∧ w' = w := by
 go_enter Tryz.func324, Tryz.ntmps324
 go_wp2
 go_ret
 exact ⟨rfl, rfl⟩
theorem gap_from {w : World} {a : Nat} (q : Nat) (h : w.cell? ⟨q, 1, none⟩ = some (.int .i64 (a : Int))) : Calls Tryz.prog 327 #[.pointer (some ⟨q, 0, none⟩)] w fun e w' => e = .returned (.int .i64 (a : Int)) ∧ w' = w := by
 go_enter Tryz.func327, Tryz.ntmps327
 go_wp2
 go_ret
 exact ⟨rfl, rfl⟩
theorem branch_from {w : World} {a : Nat} (q : Nat) (h : w.cell? ⟨q, 2, none⟩ = some (.int .i64 (a : Int))) : Calls Tryz.prog 322 #[.pointer (some ⟨q, 0, none⟩)] w fun e w' => e = .returned (.int .i64 (a : Int)) ∧ w' = w := by
 go_enter Tryz.func322, Tryz.ntmps322
 go_wp2
 go_ret
 exact ⟨rfl, rfl⟩
def FromF (w : World) (t q F a : Nat) : Prop := (∀ w, (nilAhead 542 t (.pointer (some ⟨q, 0, none⟩)) "From").run Tryz.prog w = .ok (some false) w) ∧ (∀ w, (method 542 t (.pointer (some ⟨q, 0, none⟩)) "From").run Tryz.prog w = .ok (F, .pointer (some ⟨q, 0, none⟩)) w) ∧ (∀ args w, (callFunc F args).run Tryz.prog w = .ok (.enter F args) w) ∧
 ∀ w', Below w.heap.size w w' → Calls Tryz.prog F #[.pointer (some ⟨q, 0, none⟩)] w' fun e w'' => e = .returned (.int .i64 (a : Int)) ∧ w'' = w'
theorem PtF.from_ {w : World} {F : Nat → Prop} {p : Tr.PT} {v : Value} (h : PtF w F p v) : ∃ t q f, v = .iface t (.pointer (some ⟨q, 0, none⟩)) ∧ FromF w t q f p.from_ := by
 cases p with
 | leaf k t a =>
  obtain ⟨q, rfl, hF, hB⟩ := h
  refine ⟨_, q, _, rfl, fun w => nil_leaf _ _ _ rfl, from_leaf _, fun _ _ => by kernel_rfl, fun w' hb => leaf_from q ?_⟩
  have := (hB.below hb hB.lt).cell 2
  simpa [Tr.PT.from_] using this
 | gap t a d =>
  obtain ⟨q, rfl, hF, hB⟩ := h
  refine ⟨_, q, _, rfl, fun w => by kernel_rfl, from_gap _, fun _ _ => by kernel_rfl, fun w' hb => gap_from q ?_⟩
  have := (hB.below hb hB.lt).cell 1
  simpa [Tr.PT.from_] using this
 | branch k a l =>
  obtain ⟨q, rfl, hF, A, c, vs, hB, _⟩ := h
  refine ⟨_, q, _, rfl, fun w => by kernel_rfl, from_branch _, fun _ _ => by kernel_rfl, fun w' hb => branch_from q ?_⟩
  have := (hB.below hb hB.lt).cell 2
  simpa [Tr.PT.from_] using this
set_option maxHeartbeats 4000000 in
set_option maxRecDepth 100000 in
theorem around_walk {w : World} {K : Nat → Prop} (hK : In K w) (kind : Nat) {p : Tr.PT} {v : Value} (hp : PtF w (fun x => ¬ K x) p v) :
  Calls Tryz.prog 256 #[.int .i64 (kind : Int), v] w fun e w' => ∃ h, e = .returned (.pointer (some ⟨h, 0, none⟩)) ∧ Below w.heap.size w w' ∧ w.heap.size ≤ h ∧ Br w' K h kind p.from_ [p] := by
 obtain ⟨t, q, f, rfl, hn, hm, hcf, hc⟩ := hp.from_
 have hd : Below w.heap.size w (w.alloc (.cells #[.iface t (.pointer (some ⟨q, 0, none⟩))] 122)) := (Below.refl _ _).alloc (Nat.le_refl _) _
 have hc := hc _ hd
 generalize Tr.PT.from_ p = a at *
 go_enter Tryz.func256, Tryz.ntmps256
 go_wp2_with fail
 refine hc.mono ?_
 clear hc
 rintro e w' ⟨rfl, rfl⟩
 go_wp2_with fail
 go_ret
 have hB := Blk.new (w.alloc (.cells #[.iface t (.pointer (some ⟨q, 0, none⟩))] 122)) 178 #[.int .i64 (kind : Int), .slice (some ⟨w.heap.size, 0, none⟩) 1 1, .int .i64 (a : Int)]
 have hz : (w.alloc (.cells #[.iface t (.pointer (some ⟨q, 0, none⟩))] 122)).heap.size = w.heap.size + 1 := by simp
 rw [hz] at hB
 have hd2 : Below w.heap.size w ((w.alloc (.cells #[.iface t (.pointer (some ⟨q, 0, none⟩))] 122)).alloc (.cells #[.int .i64 (kind : Int), .slice (some ⟨w.heap.size, 0, none⟩) 1 1, .int .i64 (a : Int)] 178)) := hd.alloc hd.size _
 refine ⟨w.heap.size + 1, by rw [← hz]; rfl, hd2, by omega, some ⟨w.heap.size, 0, none⟩, 1, [.iface t (.pointer (some ⟨q, 0, none⟩))], ⟨fun h => by have := hK _ h; omega, hB, ?_, ?_, ?_⟩⟩
 ·have h0 := World.ownsRow_lit (base := 0) (e := 122) (size := 1) w #[.iface t (.pointer (some ⟨q, 0, none⟩))] 1 (Nat.zero_le _) (by unfold maxLen; omega) rfl
  exact h0.alloc _
 ·intro x hx
  simp only [Value.ownBlock, Option.some.injEq] at hx
  subst hx
  exact fun h => Nat.lt_irrefl _ (hK _ h)
 ·exact PtsF.one (PtF.keep hd2.size (fun x hF hl => ⟨hd2.block x hl, hF, by omega, fun e => by simp only [Value.ownBlock, Option.some.injEq] at e; omega⟩) _ _ hp)
def leavesP (s : Bs) (T : List Tk) (b i j : Nat) : List Tr.PT := ((T.drop i).take (j - i)).map (Tr.leafP s b)
theorem leaves_self (s : Bs) (T : List Tk) (b i : Nat) : leavesP s T b i i = [] := by unfold leavesP; simp
theorem leaves_succ (s : Bs) (T : List Tk) (b i j : Nat) (h : i ≤ j) (hj : j < T.length) : leavesP s T b i (j + 1) = leavesP s T b i j ++ [Tr.leafP s b T[j]] := by
 unfold leavesP
 rw [show j + 1 - i = j - i + 1 by omega, List.take_succ_eq_append_getElem (by rw [List.length_drop]; omega), List.map_append, List.getElem_drop]
 simp only [List.map_cons, List.map_nil]
 congr 3
 simp only [show i + (j - i) = j by omega]
theorem leaves_len (s : Bs) (T : List Tk) (b i j : Nat) : (leavesP s T b i j).length ≤ j - i := by
 unfold leavesP
 rw [List.length_map]
 exact List.length_take_le _ _
theorem Rdr.at_ {w : World} {K : Nat → Prop} {g gt : Nat} {s : Bs} {T : List Tk} {b n i j : Nat} (h : Rdr w K g gt s T b n i) (X : Txts s T) (hij : i ≤ j) (hj : j ≤ T.length) : Rdr (w.setCell ⟨g, 1, none⟩ (.int .i64 (j : Int))) K g gt s T b n j := by
 have h1 := (h.rs.rd.set_ 1 (.int .i64 (j : Int)))
 simp at h1
 have ha : Aft K g w (w.setCell ⟨g, 1, none⟩ (.int .i64 (j : Int))) := (Aft.refl K g w).set 1 _
 exact ⟨⟨h1, h.rs.tr.aft ha⟩, h.inK.after ha.size, hj, Nat.le_trans h.hb (X.good.up _ _ hij)⟩
theorem Rdr.ng {w : World} {K : Nat → Prop} {g gt : Nat} {s : Bs} {T : List Tk} {b n i : Nat} (h : Rdr w K g gt s T b n i) : K g := h.rs.tr.kg
theorem Br.seen {w : World} {K : Nat → Prop} {g h kind at_ : Nat} {pts : List Tr.PT} (hb : Br w K h kind at_ pts) (hg : K g) (i : Nat) (v : Value) : Br (w.setCell ⟨g, i, none⟩ v) K h kind at_ pts :=
 hb.aft ((Aft.refl (Old w) g w).set i v) hg
def LeafE (w : World) (K : Nat → Prop) (g gt h kind at_ : Nat) (s : Bs) (T : List Tk) (b n j : Nat) (pts : List Tr.PT) (w' : World) : Prop :=
 Aft K g w w' ∧ Rdr w' K g gt s T b n j ∧ Br w' K h kind at_ pts
set_option maxHeartbeats 8000000 in
set_option maxRecDepth 100000 in
theorem take_walk {w : World} {K : Nat → Prop} {g gt : Nat} {s : Bs} {T : List Tk} {b n i : Nat} {h kind at_ : Nat} {pts : List Tr.PT} (X : Txts s T) (R : Rdr w K g gt s T b n i) (hb : Br w K h kind at_ pts) (hl : pts.length ≤ 50000000) :
  Calls Tryz.prog 199 #[.pointer (some ⟨g, 0, none⟩), .pointer (some ⟨h, 0, none⟩)] w (StE w K g gt h kind at_ s T b n (Tr.thn (pts, i) (Tr.takeP s T b))) := by
 obtain ⟨i0, ji, jz0, jz1, jz2⟩ := info_parts infoPart
 have HP : Hid (Tr.thn (pts, i) (Tr.takeP s T b) = (pts ++ leavesP s T b i (Tr.toP T i), Tr.toP T i)) := rfl
 have hT := X.hT
 have hs := X.hs
 have hto1 := Tr.to_ge T i R.hi
 have hto2 := Tr.to_le T i
 have hnl := Tr.next_le T i R.hi
 have HT : Hid (Tr.toP T i = min (Tr.nextP T i + 1) T.length) := rfl
 have hi := R.hi
 have hnx := fun m => next_walkT (R.drewN m).rs R.hi (by omega)
 generalize Tr.toP T i = to_ at *
 rw [HP.out]
 clear HP
 generalize Tr.nextP T i = nx at *
 have hm1 : IntKind.i64.wrap ((nx : Int) + 1) = (nx : Int) + 1 := IntWalk.i64_in _ (by omega)
 have Hto : Hid (min ((nx : Int) + 1) (T.length : Int) = (to_ : Int)) := by show _ = _; rw [HT.out]; omega
 clear HT
 go_enter Tryz.func199, Tryz.ntmps199
 obtain ⟨g0, g1, g2, _⟩ := R.rs.cells
 obtain ⟨d, Ad, cd, t0, t1, d0, hrow⟩ := R.rs.tr.cells
 go_wp2_with fail
 go_quiet ((go_at_call 104; exact Calls.quiet_of_same (hnx _)))
 rw [Hto.out]
 have hd : Below w.heap.size w (w.drewN nq) := below_drewN (Below.refl _ _) _
 have hA := Kept.aft (Kept.below hd R.inK) g
 have R := R.below hd
 have hb := hb.below hd
 clear hd hnx hnl hm1 Hto g0 g1 g2 t0 t1 d0 hrow
 generalize w.drewN nq = w1 at *
 go_wp2_with fail
 go_loopg [5] (to_ - i) (fun q v wr => ∃ j, i ≤ j ∧ j ≤ to_ ∧ to_ - j ≤ q ∧ LeafE w K g gt h kind at_ s T b n j (pts ++ leavesP s T b i j) wr)
 case atStart => exact ⟨i, Nat.le_refl _, hto1, Nat.le_refl _, hA, R, by rw [leaves_self, List.append_nil]; exact hb⟩
 case round =>
  clear hA R hb
  obtain ⟨j, hij, hjt, hq, hA, R, hb⟩ := hrel
  obtain ⟨g0, g1, g2, _⟩ := R.rs.cells
  obtain ⟨d, Ad, ct, t0, t1, d0, hrow⟩ := R.rs.tr.cells
  by_cases hlt : j < to_
  ·have hjT : j < T.length := by omega
   have j0 : (0 : Int) ≤ (j : Int) := by omega
   have j1 : (j : Int) < (T.length : Int) := by omega
   have j2 : (j : Int) < (to_ : Int) := by omega
   obtain ⟨br, o, rfl, hbr, hbl, q0, q1, q2⟩ := hrow.tk hjT
   have HL := Lib.hid (leaves_succ s T b i j hij hjT)
   have hll := leaves_len s T b i j
   obtain ⟨h1, h2, h3⟩ := X.good.at_ hjT
   have HA := Lib.hid (Tr.abs_at s T j hjT)
   have hbj : b ≤ Tr.absP s T j := R.hb
   rw [HA.out] at hbj
   clear HA
   have Hlf : Hid (Tr.leafP s b T[j] = .leaf T[j].1 (Tr.subT s T[j]) (T[j].2.1 - b)) := rfl
   have Hsub := Lib.hid (sub_str s T[j])
   generalize T[j] = t at *
   obtain ⟨tk, ta, tl⟩ := t
   dsimp only at h1 h2 h3 q0 q1 q2 hbj Hlf Hsub
   have hpl : (pts ++ leavesP s T b i j).length ≤ 60000000 := by rw [List.length_append]; omega
   have HL2 : Hid (pts ++ leavesP s T b i (j + 1) = (pts ++ leavesP s T b i j) ++ [.leaf tk (Tr.subT s (tk, ta, tl)) (ta - b)]) := by
    show _ = _
    rw [HL.out, Hlf.out, List.append_assoc]
   clear HL Hlf hll hrow
   obtain ⟨A, c, vs, hb⟩ := hb
   generalize pts ++ leavesP s T b i j = ps at *
   obtain ⟨bx, hbx⟩ : ∃ x, x = wr.heap.size := ⟨_, rfl⟩
   go_upto_region 3 with fail
   refine wp_region_G 14 (fun w' : World => w'.cell? ⟨g, 0, none⟩ = some (.pointer (some ⟨gt, 0, none⟩)) ∧ w'.cell? ⟨g, 1, none⟩ = some (.int .i64 (j : Int)) ∧ w'.cell? ⟨gt, 1, none⟩ = some (.slice (some ⟨br, o, none⟩) T.length ct) ∧ w'.cell? ⟨br, o + j * 3, none⟩ = some (.int .i64 (tk : Int)) ∧ w'.cell? ⟨br, o + j * 3 + 1, none⟩ = some (.int .i64 (ta : Int)) ∧ w'.cell? ⟨br, o + j * 3 + 2, none⟩ = some (.int .i64 (tl : Int))) (by kernel_rfl) ?_
   have hgl := R.rs.rd.lt
   have hgtl := World.block_lt_of_cell? wr ⟨gt, 0, none⟩ t0
   have hS0 : (fun w' : World => w'.cell? ⟨g, 0, none⟩ = some (.pointer (some ⟨gt, 0, none⟩)) ∧ w'.cell? ⟨g, 1, none⟩ = some (.int .i64 (j : Int)) ∧ w'.cell? ⟨gt, 1, none⟩ = some (.slice (some ⟨br, o, none⟩) T.length ct) ∧ w'.cell? ⟨br, o + j * 3, none⟩ = some (.int .i64 (tk : Int)) ∧ w'.cell? ⟨br, o + j * 3 + 1, none⟩ = some (.int .i64 (ta : Int)) ∧ w'.cell? ⟨br, o + j * 3 + 2, none⟩ = some (.int .i64 (tl : Int))) wr.drew := ⟨g0, g1, t1, q0, q1, q2⟩
   refine wpAnyG_tk 0 hS0 ?_
   simp only [Act.put, List.setIfInBounds_toArray]
   refine wpAnyG_tk 1 hS0 ?_
   simp only [Act.put]
   refine wpAnyG_tk 2 hS0 ?_
   simp only [Act.put]
   refine wpAnyG_tk 3 hS0 ?_
   simp only [Act.put]
   refine wpAnyG_tk 4 hS0 ?_
   simp only [Act.put]
   refine wpAnyG_tk 5 hS0 ?_
   simp only [Act.put]
   refine wpAnyG_tk 6 hS0 ?_
   simp only [Act.put]
   refine wpAnyG_tk 7 hS0 ?_
   simp only [Act.put]
   refine wpAnyG_tk 8 hS0 ?_
   simp only [Act.put]
   refine wpAnyG_tk 9 hS0 ?_
   simp only [Act.put]
   refine wpAnyG_tk 10 hS0 ?_
   simp only [Act.put]
   refine wpAnyG_tk 11 hS0 ?_
   simp only [Act.put]
   refine wpAnyG_tk 12 hS0 ?_
   simp only [Act.put]
   clear hS0
   refine wpAnyG_on 13 fun C hC => ?_
   go_simp
   refine hC.out _ _ (fun _ => ⟨(cell_alloc _ _ _ _ hgl).trans g0, (cell_alloc _ _ _ _ hgl).trans g1, (cell_alloc _ _ _ _ hgtl).trans t1, (cell_alloc _ _ _ _ hbl).trans q0, (cell_alloc _ _ _ _ hbl).trans q1, (cell_alloc _ _ _ _ hbl).trans q2⟩) ?_
   clear hC C
   refine wpAnyG_on 14 fun C hC => ?_
   go_simp
   refine hC.out _ _ (fun h => absurd rfl h) ?_
   clear hC C
   refine wpAnyG_done (by kernel_rfl) ?_ _
   have hd : Below wr.heap.size wr ((wr.alloc (.cells #[.int .i64 (tk : Int), .int .i64 (ta : Int), .int .i64 (tl : Int)] 127)).drew) := ((Below.refl _ _).alloc (Nat.le_refl _) _).drew
   have hA := hA.trans (Kept.aft (Kept.below hd R.inK) g)
   have R := R.below hd
   have hb := hb.below hd
   have hBx : Blk ((wr.alloc (.cells #[.int .i64 (tk : Int), .int .i64 (ta : Int), .int .i64 (tl : Int)] 127)).drew) bx 127 #[.int .i64 (tk : Int), .int .i64 (ta : Int), .int .i64 (tl : Int)] := by rw [hbx]; exact (Blk.new _ _ _).drew
   rw [← hbx]
   clear hbx hd g0 g1 g2 t0 t1 d0 q0 q1 q2 hbl hbr hgl hgtl
   generalize (wr.alloc (.cells #[.int .i64 (tk : Int), .int .i64 (ta : Int), .int .i64 (tl : Int)] 127)).drew = w2 at *
   go_wp2_with fail
   refine wp_region_G 34 (fun w' : World => w'.cell? ⟨h, 1, none⟩ = some (.slice A ps.length c) ∧ w'.cell? ⟨bx, 0, none⟩ = some (.int .i64 (tk : Int)) ∧ w'.cell? ⟨bx, 1, none⟩ = some (.int .i64 (ta : Int)) ∧ w'.cell? ⟨bx, 2, none⟩ = some (.int .i64 (tl : Int)) ∧ w'.cell? ⟨g, 0, none⟩ = some (.pointer (some ⟨gt, 0, none⟩)) ∧ w'.cell? ⟨g, 2, none⟩ = some (.int .i64 (b : Int))) (by kernel_rfl) ?_
   have hd : Below w2.heap.size w2 w2.drew := (Below.refl _ _).drew
   have hA := hA.trans (Kept.aft (Kept.below hd R.inK) g)
   have R := R.below hd
   have hb := hb.below hd
   have hBx := hBx.drew
   clear hd
   generalize w2.drew = w3 at *
   have o1 := hb.blk.cell 1
   have b0 := hBx.cell 0
   have b1 := hBx.cell 1
   have b2 := hBx.cell 2
   simp at o1 b0 b1 b2
   obtain ⟨g0, _, g2, _⟩ := R.rs.cells
   obtain ⟨d, Ad, ct, t0, t1, d0, _⟩ := R.rs.tr.cells
   have hS0 : (fun w' : World => w'.cell? ⟨h, 1, none⟩ = some (.slice A ps.length c) ∧ w'.cell? ⟨bx, 0, none⟩ = some (.int .i64 (tk : Int)) ∧ w'.cell? ⟨bx, 1, none⟩ = some (.int .i64 (ta : Int)) ∧ w'.cell? ⟨bx, 2, none⟩ = some (.int .i64 (tl : Int)) ∧ w'.cell? ⟨g, 0, none⟩ = some (.pointer (some ⟨gt, 0, none⟩)) ∧ w'.cell? ⟨g, 2, none⟩ = some (.int .i64 (b : Int))) w3 := ⟨o1, b0, b1, b2, g0, g2⟩
   have a0 : IntKind.i64.wrap ((ta : Int) + tl) = (ta : Int) + tl := IntWalk.i64_in _ (by omega)
   have a1 : (0 : Int) ≤ (ta : Int) + tl := by omega
   have a2 : ((ta : Int) + tl).toNat = ta + tl := by omega
   have a3 : (ta : Int) + tl ≤ (s.length : Int) := by omega
   have a4 : (ta : Int) ≤ (ta : Int) + tl := by omega
   have a5 : ta ≤ ta + tl := by omega
   have a6 : ta + tl ≤ s.length := h1
   have a7 : IntKind.i64.wrap ((ta : Int) - b) = (ta : Int) - b := IntWalk.i64_in _ (by omega)
   have Hab : Hid ((ta : Int) - b = ((ta - b : Nat) : Int)) := by show _ = _; omega
   refine wpAnyG_tk 0 hS0 ?_
   simp only [Act.put, List.setIfInBounds_toArray]
   refine wpAnyG_tk 1 hS0 ?_
   simp only [Act.put]
   refine wpAnyG_tk 2 hS0 ?_
   simp only [Act.put]
   refine wpAnyG_tk 3 hS0 ?_
   simp only [Act.put]
   refine wpAnyG_tk 4 hS0 ?_
   simp only [Act.put]
   refine wpAnyG_tk 5 hS0 ?_
   simp only [Act.put]
   refine wpAnyG_tk 6 hS0 ?_
   simp only [Act.put]
   refine wpAnyG_tk 7 hS0 ?_
   simp only [Act.put]
   refine wpAnyG_tk 8 hS0 ?_
   simp only [Act.put]
   refine wpAnyG_tk 9 hS0 ?_
   simp only [Act.put]
   refine wpAnyG_tk 10 hS0 ?_
   simp only [Act.put]
   refine wpAnyG_tk 12 hS0 ?_
   simp only [Act.put]
   refine wpAnyG_tk 13 hS0 ?_
   simp only [Act.put]
   refine wpAnyG_tk 14 hS0 ?_
   simp only [Act.put]
   refine wpAnyG_tk 15 hS0 ?_
   simp only [Act.put]
   refine wpAnyG_tk 16 hS0 ?_
   simp only [Act.put]
   refine wpAnyG_tk 17 hS0 ?_
   simp only [Act.put]
   refine wpAnyG_tk 18 hS0 ?_
   simp only [Act.put]
   refine wpAnyG_tk 20 hS0 ?_
   simp only [Act.put]
   refine wpAnyG_tk 21 hS0 ?_
   simp only [Act.put]
   refine wpAnyG_tk 22 hS0 ?_
   simp only [Act.put]
   refine wpAnyG_tk 23 hS0 ?_
   simp only [Act.put]
   refine wpAnyG_tk 24 hS0 ?_
   simp only [Act.put]
   refine wpAnyG_tk 25 hS0 ?_
   simp only [Act.put]
   refine wpAnyG_tk 26 hS0 ?_
   simp only [Act.put]
   clear hS0
   refine wpAnyG_on 11 fun C hC => ?_
   go_simp
   ((with_reducible refine (ttext_walk t0 d0).mono ?_))
   rintro e w4 ⟨rfl, rfl⟩
   refine hC.out _ _ (fun _ => ⟨o1, b0, b1, b2, g0, g2⟩) ?_
   clear hC C
   refine wpAnyG_on 19 fun C hC => ?_
   go_simp
   refine hC.out _ _ (fun _ => ⟨o1, b0, b1, b2, g0, g2⟩) ?_
   clear hC C
   refine wpAnyG_on 27 fun C hC => ?_
   go_simp
   refine hC.out _ _ (fun _ => ⟨o1, b0, b1, b2, g0, g2⟩) ?_
   clear hC C
   have hd : Below w4.heap.size w4 (w4.alloc (.cells #[.int .i64 (tk : Int), .string ((⟨s.toArray⟩ : ByteArray).extract ta (ta + tl)), .int .i64 ((ta : Int) - b)] 173)) := (Below.refl _ _).alloc (Nat.le_refl _) _
   have hBg : Blk (w4.alloc (.cells #[.int .i64 (tk : Int), .string ((⟨s.toArray⟩ : ByteArray).extract ta (ta + tl)), .int .i64 ((ta : Int) - b)] 173)) w4.heap.size 173 #[.int .i64 (tk : Int), .string ((⟨s.toArray⟩ : ByteArray).extract ta (ta + tl)), .int .i64 ((ta : Int) - b)] := Blk.new _ _ _
   rw [show Value.string ((⟨s.toArray⟩ : ByteArray).extract ta (ta + tl)) = .string ⟨(Tr.subT s (tk, ta, tl)).toArray⟩ from Hsub.out, Hab.out] at hBg
   have hA := hA.trans (Kept.aft (Kept.below hd R.inK) g)
   have hp : PtF (w4.alloc (.cells #[.int .i64 (tk : Int), .string ((⟨s.toArray⟩ : ByteArray).extract ta (ta + tl)), .int .i64 ((ta : Int) - b)] 173)) (fun x => ¬ K x ∧ x ≠ h ∧ some x ≠ (Value.slice A ps.length c).ownBlock) (.leaf tk (Tr.subT s (tk, ta, tl)) (ta - b)) (.iface 171 (.pointer (some ⟨w4.heap.size, 0, none⟩))) :=
    ⟨w4.heap.size, rfl, ⟨fun hk => Nat.lt_irrefl _ (R.inK _ hk), fun e => by have := hb.blk.lt; omega, fun e => by have := hb.row_lt _ e.symm; omega⟩, by rw [show Value.string ((⟨s.toArray⟩ : ByteArray).extract ta (ta + tl)) = .string ⟨(Tr.subT s (tk, ta, tl)).toArray⟩ from Hsub.out, Hab.out]; exact hBg⟩
   have hbx3 := hBx.lt
   have hgl := R.rs.rd.lt
   refine wpAnyG_on 28 fun C hC => ?_
   go_simp
   have c0 := (cell_alloc w4 (.cells #[.int .i64 (tk : Int), .string ((⟨s.toArray⟩ : ByteArray).extract ta (ta + tl)), .int .i64 ((ta : Int) - b)] 173) bx 0 hbx3).trans b0
   have c1 := (cell_alloc w4 (.cells #[.int .i64 (tk : Int), .string ((⟨s.toArray⟩ : ByteArray).extract ta (ta + tl)), .int .i64 ((ta : Int) - b)] 173) bx 1 hbx3).trans b1
   have c2 := (cell_alloc w4 (.cells #[.int .i64 (tk : Int), .string ((⟨s.toArray⟩ : ByteArray).extract ta (ta + tl)), .int .i64 ((ta : Int) - b)] 173) bx 2 hbx3).trans b2
   have f0 := (cell_alloc w4 (.cells #[.int .i64 (tk : Int), .string ((⟨s.toArray⟩ : ByteArray).extract ta (ta + tl)), .int .i64 ((ta : Int) - b)] 173) g 0 hgl).trans g0
   have f2 := (cell_alloc w4 (.cells #[.int .i64 (tk : Int), .string ((⟨s.toArray⟩ : ByteArray).extract ta (ta + tl)), .int .i64 ((ta : Int) - b)] 173) g 2 hgl).trans g2
   have hBx := hBx.alloc (.cells #[.int .i64 (tk : Int), .string ((⟨s.toArray⟩ : ByteArray).extract ta (ta + tl)), .int .i64 ((ta : Int) - b)] 173)
   have R := R.below hd
   have hb := hb.below hd
   have o1 : (w4.alloc (.cells #[.int .i64 (tk : Int), .string ((⟨s.toArray⟩ : ByteArray).extract ta (ta + tl)), .int .i64 ((ta : Int) - b)] 173)).cell? ⟨h, 1, none⟩ = some (.slice A ps.length c) := by
    have := hb.blk.cell 1
    simpa using this
   refine hC.out _ _ (fun _ => ⟨o1, c0, c1, c2, f0, f2⟩) ?_
   clear hC C hd hBg b0 b1 b2 g0 g2 t0 t1 d0
   obtain ⟨q, hq⟩ : ∃ q, q = w4.heap.size := ⟨_, rfl⟩
   rw [← hq] at hp ⊢
   clear hq
   generalize (w4.alloc (.cells #[.int .i64 (tk : Int), .string ((⟨s.toArray⟩ : ByteArray).extract ta (ta + tl)), .int .i64 ((ta : Int) - b)] 173)) = w6 at *
   refine wpAnyG_on 29 fun C hC => ?_
   go_simp
   refine hC.out _ _ (fun _ => ⟨o1, c0, c1, c2, f0, f2⟩) ?_
   clear hC C
   refine wpAnyG_on 30 fun C hC => ?_
   go_simp
   refine hC.out _ _ (fun _ => ⟨(cell_alloc _ _ _ _ hb.blk.lt).trans o1, (cell_alloc _ _ _ _ hBx.lt).trans c0, (cell_alloc _ _ _ _ hBx.lt).trans c1, (cell_alloc _ _ _ _ hBx.lt).trans c2, (cell_alloc _ _ _ _ R.rs.rd.lt).trans f0, (cell_alloc _ _ _ _ R.rs.rd.lt).trans f2⟩) ?_
   clear hC C
   refine wpAnyG_on 31 fun C hC => ?_
   refine step_append_lies _ (by rfl) _ _ _ (by rfl) 0 122 i0 _ 1 16 Tryz.underlying119 ji jz0 jz1 jz2 rfl (by omega) (.slice A ps.length c) ps.length vs (by rfl) (hb.own.alloc (.cells #[.iface 171 (.pointer (some ⟨q, 0, none⟩))] 122)) ⟨w6.heap.size, 0, none⟩ 1 1 [.iface 171 (.pointer (some ⟨q, 0, none⟩))] (by rfl) (by rfl) (World.news_of_block (heap_alloc_new w6 _)) (by simp [Value.oneCell']) (by omega) (by unfold maxLen; omega) (by omega) (Nat.zero_le _) (w6.heap.size + 1) (by simp) ?_
   intro gg cap' w5 hown5 hgrow hat hlt5
   have hpu := hb.push R.inK hp hown5 hgrow hat
   have hg5 := (hb.blk.alloc (.cells #[.iface 171 (.pointer (some ⟨q, 0, none⟩))] 122)).grown hgrow hb.row_ne
   have b1 := hg5.cell 1
   have bf := hg5.frozen 1
   simp at b1
   have hx5 := (hBx.alloc (.cells #[.iface 171 (.pointer (some ⟨q, 0, none⟩))] 122)).grown hgrow (own_ne hb.own hBx (by decide))
   have hr5 := (R.rs.rd.alloc (.cells #[.iface 171 (.pointer (some ⟨q, 0, none⟩))] 122)).grown hgrow (own_ne hb.own R.rs.rd (by decide))
   have e0 := hx5.cell 0
   have e1 := hx5.cell 1
   have e2 := hx5.cell 2
   have k0 := hr5.cell 0
   have k2 := hr5.cell 2
   simp at e0 e1 e2 k0 k2
   refine hC.out _ _ (fun _ => ⟨b1, e0, e1, e2, k0, k2⟩) ?_
   clear hC C
   refine wpAnyG_on 32 fun C hC => ?_
   go_simp
   refine hC.out _ _ (fun _ => ⟨b1, e0, e1, e2, k0, k2⟩) ?_
   clear hC C
   refine wpAnyG_on 33 fun C hC => ?_
   go_simp
   refine hC.out _ _ (fun _ => ⟨b1, e0, e1, e2, k0, k2⟩) ?_
   clear hC C
   refine wpAnyG_on 34 fun C hC => ?_
   go_simp
   refine hC.out _ _ (fun h => absurd rfl h) ?_
   clear hC C
   refine wpAnyG_done (by kernel_rfl) ?_ _
   have hB := hpu.1
   have R := R.kept hpu.2
   have hA := hA.trans (hpu.2.aft g)
   clear hb hp o1 hown5 hgrow hat hlt5 hpu hg5 b1 bf
   clear o1 c0 c1 c2 f0 f2 hbx3 hgl hBx hx5 hr5 e0 e1 e2 k0 k2 a0 a1 a2 a3 a4 a5 a6 a7 Hab Hsub
   generalize (World.setCell w5 ⟨h, 1, none⟩ (.slice (some ⟨gg, 0, none⟩) (ps.length + 1) cap')) = w7 at *
   obtain ⟨_, g1, _, _⟩ := R.rs.cells
   have gf := R.rs.rd.frozen 1
   go_wp2_with fail
   go_roundg (to_ - (j + 1))
   case rel =>
    have hR := R.at_ X (j := j + 1) (by omega) (by omega)
    have hBs := hB.seen R.ng 1 (.int .i64 ((j + 1 : Nat) : Int))
    rw [← HL2.out, show ((j + 1 : Nat) : Int) = (j : Int) + 1 by omega] at hBs
    have hA2 := hA.set 1 (.int .i64 ((j : Int) + 1))
    rw [show ((j + 1 : Nat) : Int) = (j : Int) + 1 by omega] at hR
    exact ⟨j + 1, by omega, by omega, Nat.le_refl _, hA2, hR, hBs⟩
   case measure => omega
  ·obtain rfl : j = to_ := by omega
   have j2 : ¬ (j : Int) < (j : Int) := by omega
   go_wp2_with fail
   go_end0
   exact ⟨rfl, hA, R, hb⟩
def PtE (w : World) (K : Nat → Prop) (g gt : Nat) (s : Bs) (T : List Tk) (b n : Nat) (r : Tr.PT × Nat) (e : Ending) (w' : World) : Prop :=
 ∃ v, e = .returned v ∧ Aft K g w w' ∧ Rdr w' K g gt s T b n r.2 ∧ PtF w' (fun x => ¬ K x) r.1 v
structure OneC (g gt : Nat) (s : Bs) (T : List Tk) (b n : Nat) (F : Nat) (one : Nat → Tr.PT × Nat) : Prop where
 run : ∀ (args : Array Value) (w : World), (callFunc F args).run Tryz.prog w = .ok (.enter F args) w
 calls : ∀ (w : World) (K : Nat → Prop) (i : Nat), Rdr w K g gt s T b n i → Calls Tryz.prog F #[.pointer (some ⟨g, 0, none⟩)] w (PtE w K g gt s T b n (one i))
theorem PtF.form {w : World} {F : Nat → Prop} {p : Tr.PT} {v : Value} (h : PtF w F p v) : ∃ t q, v = .iface t (.pointer (some ⟨q, 0, none⟩)) := by
 obtain ⟨t, q, _, e, _⟩ := h.from_
 exact ⟨t, q, e⟩
theorem Rdr.old {w : World} {K : Nat → Prop} {g gt : Nat} {s : Bs} {T : List Tk} {b n i : Nat} (R : Rdr w K g gt s T b n i) : Rdr w (Old w) g gt s T b n i := ⟨R.rs.mono R.inK, Old.in_ w, R.hi, R.hb⟩
theorem Rdr.from_old {w w' : World} {K K' : Nat → Prop} {g gt : Nat} {s : Bs} {T : List Tk} {b n i i' n' : Nat} (R : Rdr w K g gt s T b n i) (R' : Rdr w' K' g gt s T b n' i') (ha : Aft K g w w') : Rdr w' K g gt s T b n' i' :=
 ⟨⟨R'.rs.rd, R.rs.tr.aft ha⟩, R.inK.after ha.size, R'.hi, R'.hb⟩
theorem PtF.from_old {w w' : World} {K : Nat → Prop} {p : Tr.PT} {v : Value} (h : PtF w' (fun x => ¬ Old w x) p v) (hK : In K w) : PtF w' (fun x => ¬ K x) p v :=
 PtF.keep (Nat.le_refl _) (fun _ hF _ => ⟨rfl, fun hk => hF (hK _ hk)⟩) p v h
theorem Br.kept {w w' : World} {K : Nat → Prop} {g h kind at_ : Nat} {pts : List Tr.PT} (hb : Br w K h kind at_ pts) (ha : Aft (Old w) g w w') (hg : K g) : Br w' K h kind at_ pts := hb.aft ha hg
set_option maxHeartbeats 4000000 in
set_option maxRecDepth 100000 in
theorem binary_walk {w : World} {K : Nat → Prop} {g gt : Nat} {s : Bs} {T : List Tk} {b n i : Nat} (X : Txts s T) (R : Rdr w K g gt s T b n i) {p : Tr.PT} {v : Value} (hp : PtF w (fun x => ¬ K x) p v) {F : Nat} {one : Nat → Tr.PT × Nat} (ho : OneC g gt s T b n F one) :
  Calls Tryz.prog 246 #[.pointer (some ⟨g, 0, none⟩), v, .func (.func F) #[.pointer (some ⟨g, 0, none⟩)] #[]] w (PtE w K g gt s T b n (Tr.binP s T b one (p, i))) := by
 obtain ⟨i0, ji, jz0, jz1, jz2⟩ := info_parts infoPart
 have har := around_walk R.inK 10 hp
 have hrun := ho.run
 have hT := X.hT
 have HP : Hid (Tr.binP s T b one (p, i) = (.branch 10 p.from_ ((Tr.thn ([p], i) (Tr.takeP s T b)).1 ++ [(one (Tr.thn ([p], i) (Tr.takeP s T b)).2).1]), (one (Tr.thn ([p], i) (Tr.takeP s T b)).2).2)) := rfl
 have hta := Tr.StOk.thn (i := i) (c := 1) (st := ([p], i)) ⟨Nat.le_refl _, R.hi, by simp⟩ (Tr.take_adv s T b)
 rw [HP.out]
 clear HP
 generalize p.from_ = fr at *
 go_enter Tryz.func246, Tryz.ntmps246
 go_wp2_with fail
 refine har.mono ?_
 clear har
 rintro e w1 ⟨h, rfl, hd, hhs, hb⟩
 have hA := Kept.aft (Kept.below hd R.inK) g
 have R := R.below hd
 clear hd
 have htk := take_walk X R hb (by simp)
 generalize Tr.thn ([p], i) (Tr.takeP s T b) = st at *
 obtain ⟨pts, i2⟩ := st
 have hpl : pts.length ≤ 10000000 := by have := hta.2.2; have := hta.2.1; dsimp only at *; omega
 go_wp2_with fail
 refine htk.mono ?_
 clear htk hb R hp
 intro e w2 h2
 obtain ⟨rfl, hA2, R, A, c, vs, hb⟩ := h2
 have hA := hA.trans hA2
 dsimp only at R hb
 clear hA2 hta
 go_upto_region 3 with fail
 refine wp_region_G 11 (fun w' : World => w'.cell? ⟨h, 1, none⟩ = some (.slice A pts.length c)) (by kernel_rfl) ?_
 have hd : Below w2.heap.size w2 w2.drew := (Below.refl _ _).drew
 have hA := hA.trans (Kept.aft (Kept.below hd R.inK) g)
 have R := R.drew
 have hb := hb.below hd
 clear hd
 generalize w2.drew = w3 at *
 have o1 := hb.blk.cell 1
 simp at o1
 have hS0 : (fun w' : World => w'.cell? ⟨h, 1, none⟩ = some (.slice A pts.length c)) w3 := o1
 refine wpAnyG_tk 0 hS0 ?_
 simp only [Act.put, List.setIfInBounds_toArray]
 refine wpAnyG_tk 1 hS0 ?_
 simp only [Act.put]
 refine wpAnyG_tk 2 hS0 ?_
 simp only [Act.put]
 refine wpAnyG_tk 3 hS0 ?_
 simp only [Act.put]
 refine wpAnyG_tk 4 hS0 ?_
 simp only [Act.put]
 refine wpAnyG_tk 5 hS0 ?_
 simp only [Act.put]
 clear hS0
 refine wpAnyG_on 6 fun C hC => ?_
 go_simp
 ((with_reducible refine (ho.calls _ _ _ R.old).mono ?_))
 intro e w4 h4
 obtain ⟨vp, rfl, hA4, R4, hp4⟩ := h4
 obtain ⟨tp, qp, rfl⟩ := hp4.form
 have hp : PtF w4 (fun x => ¬ K x ∧ x ≠ h ∧ some x ≠ (Value.slice A pts.length c).ownBlock) _ (.iface tp (.pointer (some ⟨qp, 0, none⟩))) := PtF.keep (Nat.le_refl _) (fun x hF _ => ⟨rfl, fun hk => hF (R.inK _ hk), fun e => hF (e ▸ hb.blk.lt), fun e => hF (hb.row_lt _ e.symm)⟩) _ _ hp4
 have hA := hA.trans (hA4.old R.inK)
 have hb := hb.aft hA4 R.ng (fun _ hx => hx)
 have R := R.from_old R4 (hA4.old R.inK)
 have o1 : w4.cell? ⟨h, 1, none⟩ = some (.slice A pts.length c) := by
  have := hb.blk.cell 1
  simpa using this
 refine hC.out _ _ (fun _ => o1) ?_
 clear hC C hA4 R4 hp4
 generalize (one i2).1 = pt at *
 generalize (one i2).2 = i3 at *
 refine wpAnyG_on 7 fun C hC => ?_
 go_simp
 refine hC.out _ _ (fun _ => (cell_alloc _ _ _ _ hb.blk.lt).trans o1) ?_
 clear hC C
 refine wpAnyG_on 8 fun C hC => ?_
 refine step_append_lies _ (by rfl) _ _ _ (by rfl) 0 122 i0 _ 1 16 Tryz.underlying119 ji jz0 jz1 jz2 rfl (by omega) (.slice A pts.length c) pts.length vs (by rfl) (hb.own.alloc (.cells #[.iface tp (.pointer (some ⟨qp, 0, none⟩))] 122)) ⟨w4.heap.size, 0, none⟩ 1 1 [.iface tp (.pointer (some ⟨qp, 0, none⟩))] (by rfl) (by rfl) (World.news_of_block (heap_alloc_new w4 _)) (by simp [Value.oneCell']) (by omega) (by unfold maxLen; omega) (by omega) (Nat.zero_le _) (w4.heap.size + 1) (by simp) ?_
 intro gg cap' w5 hown5 hgrow hat hlt5
 have hpu := hb.push R.inK hp hown5 hgrow hat
 have hg5 := (hb.blk.alloc (.cells #[.iface tp (.pointer (some ⟨qp, 0, none⟩))] 122)).grown hgrow hb.row_ne
 have b1 := hg5.cell 1
 have bf := hg5.frozen 1
 simp at b1
 refine hC.out _ _ (fun _ => b1) ?_
 clear hC C
 refine wpAnyG_on 9 fun C hC => ?_
 go_simp
 refine hC.out _ _ (fun _ => b1) ?_
 clear hC C
 refine wpAnyG_on 10 fun C hC => ?_
 go_simp
 refine hC.out _ _ (fun _ => b1) ?_
 clear hC C
 refine wpAnyG_on 11 fun C hC => ?_
 go_simp
 refine hC.out _ _ (fun h => absurd rfl h) ?_
 clear hC C
 refine wpAnyG_done (by kernel_rfl) ?_ _
 have hB := hpu.1
 have R := R.kept hpu.2
 have hA := hA.trans (hpu.2.aft g)
 clear hb hp o1 hown5 hgrow hat hlt5 hpu hg5 b1 bf
 generalize (World.setCell w5 ⟨h, 1, none⟩ (.slice (some ⟨gg, 0, none⟩) (pts.length + 1) cap')) = w6 at *
 go_wp2_with fail
 go_ret
 exact ⟨_, rfl, hA, R, hB.part⟩
set_option maxHeartbeats 4000000 in
set_option maxRecDepth 100000 in
theorem row_walk {w : World} {K : Nat → Prop} {g gt : Nat} {s : Bs} {T : List Tk} {b n i : Nat} (X : Txts s T) (R : Rdr w K g gt s T b n i) {F : Nat} {one : Nat → Tr.PT × Nat} (ho : OneC g gt s T b n F one) (hg : Tr.Goes T one) (A : Nat) (c : Nat) (l : List Bs) (hAK : K A) (hAg : A ≠ g) (hA : Rd w w.heap.size 1 (some ⟨A, 0, none⟩) l.length (txtV l)) (hl : l.length ≤ 1000) :
  Calls Tryz.prog 254 #[.pointer (some ⟨g, 0, none⟩), .func (.func F) #[.pointer (some ⟨g, 0, none⟩)] #[], .slice (some ⟨A, 0, none⟩) l.length c] w (PtE w K g gt s T b n (Tr.rowP s T b one l i)) := by
 have hrun := ho.run
 have hT := X.hT
 have H1 := ho.calls w K i R
 have Hg1 := hg i R.hi
 generalize hr : Tr.rowP s T b one l i = r
 have Hr : Hid (Tr.rowsP s T b one l (T.length + 1) (one i) = r) := hr
 clear hr
 go_enter Tryz.func254, Tryz.ntmps254
 go_wp2_with fail
 refine H1.mono ?_
 clear H1
 intro e w1 h1
 obtain ⟨v, rfl, hA1, R1, hp⟩ := h1
 generalize one i = q1 at *
 have hA0 : Hid (∀ w' : World, Aft K g w w' → Rd w' w'.heap.size 1 (some ⟨A, 0, none⟩) l.length (txtV l)) := fun w' ha => ⟨hA.1, fun hn => by
  obtain ⟨bq, oq, e, hlt, hc⟩ := hA.2 hn
  injection e with e
  injection e with e1 e2
  subst e1 e2
  exact ⟨A, 0, rfl, by have := ha.size; omega, fun j u hu => (World.cell?_of_block (a := ⟨A, 0 + j, none⟩) (ha.oth A hAK hAg)).trans (hc j u hu)⟩⟩
 clear hA hAK hAg
 go_wp2_with fail
 go_loopg [7] (T.length - q1.2) (fun q v wr => ∃ x : Tr.PT × Nat, q1.2 ≤ x.2 ∧ T.length - x.2 ≤ q ∧ Hid (Tr.rowsP s T b one l (T.length + 1) x = r) ∧ Aft K g w wr ∧ Rdr wr K g gt s T b n x.2 ∧ PtF wr (fun x => ¬ K x) x.1 v)
 case atStart => exact ⟨q1, Nat.le_refl _, Nat.le_refl _, Hr, hA1, R1, hp⟩
 case round =>
  clear hA1 R1 hp Hr
  obtain ⟨x, hx1, hq, Hx, hA, R, hp⟩ := hrel
  have hi := R.hi
  have his := is_walk X R _ c l (hA0.out wr hA) hl
  have Hstep : Hid (Tr.isP s T l x.2 = true → Tr.rowsP s T b one l (T.length + 1) (Tr.binP s T b one x) = r) := fun h => by rw [← Tr.rows_step s T b hg l x R.hi h]; exact Hx.out
  have Hstop : Hid (Tr.isP s T l x.2 = false → x = r) := fun h => by rw [← Tr.rows_stop s T b one l x h]; exact Hx.out
  have Hgt : Hid (Tr.isP s T l x.2 = true → x.2 < (Tr.binP s T b one x).2) := fun h => Tr.bin_gt s T b hg x R.hi (Tr.is_lt s T h)
  generalize Tr.isP s T l x.2 = vb at *
  go_wp2_with fail
  refine his.mono ?_
  clear his
  rintro e w2 ⟨rfl, hd⟩
  have hA := hA.trans (Kept.aft (Kept.below hd R.inK) g)
  have hp : PtF w2 (fun x => ¬ K x) x.1 u7 := PtF.keep hd.size (fun y hF hl => ⟨hd.block y hl, hF⟩) _ _ hp
  have R := R.below hd
  clear hd
  cases vb with
  | true =>
   have hst := Hstep.out rfl
   have hgt := Hgt.out rfl
   have Hst := Lib.hid hst
   clear Hstep Hstop Hgt Hx hst
   have hbw := binary_walk X R hp ho
   go_wp2_with fail
   refine hbw.mono ?_
   clear hbw R hp
   intro e w3 h3
   obtain ⟨v3, rfl, hA3, R3, hp3⟩ := h3
   have hA4 := hA.trans hA3
   clear hA hA3
   go_wp2_with fail
   go_roundg (T.length - (Tr.binP s T b one x).2)
   case rel => exact ⟨Tr.binP s T b one x, by omega, Nat.le_refl _, Hst, hA4, R3, hp3⟩
   case measure => have h2 : (Tr.binP s T b one x).2 ≤ T.length := R3.hi; omega
  | false =>
   have hst := Hstop.out rfl
   clear Hstep Hstop Hgt Hx
   subst hst
   go_wp2_with fail
   go_ret
   exact ⟨_, rfl, hA, R, hp⟩
theorem lit_rd (w : World) (l : List Bs) (t : TypeId) : Rd (w.alloc (.cells (txtV l).toArray t)) (w.alloc (.cells (txtV l).toArray t)).heap.size 1 (some ⟨w.heap.size, 0, none⟩) l.length (txtV l) :=
 ⟨by rw [txtV_len, Nat.mul_one], fun _ => ⟨w.heap.size, 0, rfl, by simp, fun j u hu => by
  rw [Nat.zero_add]
  have h := (Blk.new w t (txtV l).toArray).cell j
  rw [h]; simpa using hu⟩⟩
theorem is_lit {w : World} {K : Nat → Prop} {g gt : Nat} {s : Bs} {T : List Tk} {b n i : Nat} (X : Txts s T) (R : Rdr w K g gt s T b n i) (l : List Bs) (hl : l.length ≤ 1000) (c : Nat) :
  Calls Tryz.prog 150 #[.pointer (some ⟨g, 0, none⟩), .slice (some ⟨w.heap.size, 0, none⟩) l.length c] (w.alloc (.cells (txtV l).toArray 9)) fun e w' => e = .returned (.bool (Tr.isP s T l i)) ∧ Below w.heap.size w w' := by
 have hd : Below w.heap.size w (w.alloc (.cells (txtV l).toArray 9)) := (Below.refl _ _).alloc (Nat.le_refl _) _
 exact (is_walk X (R.below hd) _ c l (lit_rd w l _) hl).mono fun e w' ⟨h1, h2⟩ => ⟨h1, hd.trans (h2.mono hd.size)⟩
set_option maxHeartbeats 4000000 in
set_option maxRecDepth 100000 in
theorem want_walk {w : World} {K : Nat → Prop} {g gt : Nat} {s : Bs} {T : List Tk} {b n i : Nat} {h kind at_ : Nat} {pts : List Tr.PT} (X : Txts s T) (R : Rdr w K g gt s T b n i) (hb : Br w K h kind at_ pts) (word : Bs) (hl : pts.length ≤ 50000000) :
  Calls Tryz.prog 200 #[.pointer (some ⟨g, 0, none⟩), .pointer (some ⟨h, 0, none⟩), .string ⟨word.toArray⟩] w (StE w K g gt h kind at_ s T b n (Tr.thn (pts, i) (Tr.wantP s T b word))) := by
 have his : Calls Tryz.prog 150 #[.pointer (some ⟨g, 0, none⟩), .slice (some ⟨w.heap.size, 0, none⟩) 1 1] (w.alloc (.cells #[.string ⟨word.toArray⟩] 9)) fun e w' => e = .returned (.bool (Tr.isP s T [word] i)) ∧ Below w.heap.size w w' := is_lit X R [word] (by simp) 1
 have HT : Hid (Tr.isP s T [word] i = true → Tr.thn (pts, i) (Tr.wantP s T b word) = Tr.thn (pts, i) (Tr.takeP s T b)) := fun h => by
  unfold Tr.thn
  dsimp only
  unfold Tr.wantP
  rw [if_pos h]
 have HF : Hid (Tr.isP s T [word] i = false → Tr.thn (pts, i) (Tr.wantP s T b word) = Tr.thn (pts, i) (Tr.missP s T b word)) := fun h => by
  unfold Tr.thn
  dsimp only
  unfold Tr.wantP
  rw [if_neg (by rw [h]; simp)]
 generalize Tr.thn (pts, i) (Tr.wantP s T b word) = r at *
 go_enter Tryz.func200, Tryz.ntmps200
 go_wp2_with fail
 refine his.mono ?_
 clear his
 rintro e w2 ⟨rfl, hd⟩
 have hA := Kept.aft (Kept.below hd R.inK) g
 have R := R.below hd
 have hb := hb.below hd
 clear hd
 generalize Tr.isP s T [word] i = v at *
 cases v with
 | true =>
  have HR := Lib.hid (HT.out rfl)
  clear HT HF
  have htk := take_walk X R hb hl
  go_wp2_with fail
  refine htk.mono ?_
  clear htk hb R
  intro e w3 h3
  obtain ⟨rfl, hA3, R3, hB3⟩ := h3
  go_wp2_with fail
  go_end0
  rw [HR.out]
  exact ⟨rfl, hA.trans hA3, R3, hB3⟩
 | false =>
  have HR := Lib.hid (HF.out rfl)
  clear HT HF
  have htk := missing_walk X R hb word (by omega)
  go_wp2_with fail
  refine htk.mono ?_
  clear htk hb R
  intro e w3 h3
  obtain ⟨rfl, hA3, R3, hB3⟩ := h3
  go_wp2_with fail
  go_end0
  rw [HR.out]
  exact ⟨rfl, hA.trans hA3, R3, hB3⟩
set_option maxHeartbeats 4000000 in
set_option maxRecDepth 100000 in
theorem name_walkT {w : World} {K : Nat → Prop} {g gt : Nat} {s : Bs} {T : List Tk} {b n i : Nat} {h kind at_ : Nat} {pts : List Tr.PT} (X : Txts s T) (R : Rdr w K g gt s T b n i) (hb : Br w K h kind at_ pts) (hl : pts.length ≤ 50000000) :
  Calls Tryz.prog 201 #[.pointer (some ⟨g, 0, none⟩), .pointer (some ⟨h, 0, none⟩)] w (StE w K g gt h kind at_ s T b n (Tr.thn (pts, i) (Tr.nameP s T b))) := by
 have his := kindn_walk X R 3
 have HT : Hid ((Tr.kindP T (Tr.nextP T i) == 3) = true → Tr.thn (pts, i) (Tr.nameP s T b) = Tr.thn (pts, i) (Tr.takeP s T b)) := fun h => by
  unfold Tr.thn
  dsimp only
  unfold Tr.nameP
  rw [if_pos h]
 have HF : Hid ((Tr.kindP T (Tr.nextP T i) == 3) = false → Tr.thn (pts, i) (Tr.nameP s T b) = Tr.thn (pts, i) (Tr.missP s T b Tr.sName)) := fun h => by
  unfold Tr.thn
  dsimp only
  unfold Tr.nameP
  rw [if_neg (by rw [h]; simp)]
 generalize Tr.thn (pts, i) (Tr.nameP s T b) = r at *
 go_enter Tryz.func201, Tryz.ntmps201
 go_wp2_with fail
 refine his.mono ?_
 clear his
 rintro e w2 ⟨rfl, hd⟩
 have hA := Kept.aft (Kept.below hd R.inK) g
 have R := R.below hd
 have hb := hb.below hd
 clear hd
 generalize (Tr.kindP T (Tr.nextP T i) == 3) = v at *
 cases v with
 | true =>
  have HR := Lib.hid (HT.out rfl)
  clear HT HF
  have htk := take_walk X R hb hl
  go_wp2_with fail
  refine htk.mono ?_
  clear htk hb R
  intro e w3 h3
  obtain ⟨rfl, hA3, R3, hB3⟩ := h3
  go_wp2_with fail
  go_end0
  rw [HR.out]
  exact ⟨rfl, hA.trans hA3, R3, hB3⟩
 | false =>
  have HR := Lib.hid (HF.out rfl)
  clear HT HF
  have htk := missing_walk X R hb Tr.sName (by omega)
  go_wp2_with fail
  refine htk.mono ?_
  clear htk hb R
  intro e w3 h3
  obtain ⟨rfl, hA3, R3, hB3⟩ := h3
  go_wp2_with fail
  go_end0
  rw [HR.out]
  exact ⟨rfl, hA.trans hA3, R3, hB3⟩
end Go.Proofs.YtcjjfeephaddcaaGreatDoor
