/-
  JOINED of the texts RegC NL LI
-/
import Derived.Test.YtgpjcjnimheglaaDoorJac
import Derived.Deep.RegionHeld3
import Derived.Test.YtgpjcjnimheglaaDoorRows
import Derived.WalkKit
import Derived.WalkSpells
import Derived.WalkLawsBesides
import Derived.Below
import Derived.Laws.OwnMore
import Derived.Deep.AppendLies
import Derived.Deep.Draws
import Derived.Lib.Hide
import Derived.Deep.QuietTactic
import Derived.BigQuiet
import Derived.IntWalk
import Derived.Test.YtgpjcjnimheglaaDoorJaf
import Derived.StillTailTactics
import Derived.Deep.CutBlock
import Derived.Deep.LoopGhost
import Derived.Lib.ItoaNum
import Derived.Lib.RuneBytes
import Derived.Lib.Strings
import Derived.Lib.ConvBytes
import Derived.Laws.Strings3
import Derived.Laws.Closers25
import Derived.Laws.Closers25b
import Derived.BigCall
import Derived.BigGuard
import Derived.Test.YtgpjcjnimheglaaDoorShelfX
import Derived.Shelf.Spec.BytesIndexFunc
import Derived.Deep.DeepCutAuto
import Derived.Lib.IndexMore
import Derived.Test.YtgpjcjnimheglaaDoorShelfW
import Derived.Shelf.Strings.SlTrimAscii
import Derived.Lib.LaidTab
import Derived.Lib.AtoiAll
import Derived.Lib.IndexLaws
import Derived.Lib.SlTrimSet
import Derived.Lib.Atoi
import Derived.Test.YtgpjcjnimheglaaDoorShelf
import Derived.Shelf.Strings.Builder1
import Derived.WalkMore
import Derived.ScopeJumps
/-
  A REGION THAT DRAWS ITS ORDER: as the library's wpAnyH, but behind each operation j its own condition C j is asked; an operation is taken first under a condition S that C gives behind all but the operations L, which wait for it; where two are ready: each.
-/
namespace Go.Proofs.YtgpjcjnimheglaaDoor
open Go.RowKit
section
variable {P : Program} {ops : Array Oper} {Q : Exit → Act → World → Prop} {md : Region.Mode} {C : Nat → World → Prop}

def wpAnyC (P : Program) (md : Region.Mode) (ops : Array Oper) (Q : Exit → Act → World → Prop) (C : Nat → World → Prop) : Nat → Array Bool → Act → World → Prop
  | 0, listed, a, w => Region.ready md ops listed = [] ∧ Q .normal a w
  | fuel + 1, listed, a, w =>
    (Region.ready md ops listed = [] → Q .normal a w) ∧
    ∀ i ∈ Region.ready md ops listed, wpOp P ops Q i (fun a' w' => C i w' ∧ wpAnyC P md ops Q C fuel (listed.setIfInBounds i true) a' w') a w

theorem wpAny_of_C : ∀ (fuel : Nat) (listed : Array Bool) (a : Act) (w : World), wpAnyC P md ops Q C fuel listed a w → wpAny P md ops Q fuel listed a w
  | 0, _, _, _, h => h
  | fuel + 1, _, _, _, h => ⟨h.1, fun i hi => wpOp_mono (fun a' w' h' => wpAny_of_C fuel _ a' w' h'.2) (h.2 i hi)⟩

/-- operation L waitsC for operation i -/
def waitsC (md : Region.Mode) (ops : Array Oper) (L i : Nat) : Bool :=
  match ops[L]? with
  | some o => o.after.toList.any fun e => Region.binds md e && e.on == i
  | none => true

theorem wpAnyC_first {S : World → Prop} (L : List Nat) {i : Nat} {oi : Oper} {v : Value} (hi : ops[i]? = some oi) (hsel : ∀ (j : Nat) (o : Oper) cs b, ops[j]? = some o → o.op ≠ .select cs b)
    (hQ : ∀ c a w, Q (.panic c) (a.put oi.dst v) w → Q (.panic c) a w) (hL : L.all (fun l => waitsC md ops l i) = true) (hCi : ∀ w', S w' → C i w') :
    ∀ (fuel : Nat) (listed : Array Bool) (a : Act) (w : World),
      (∀ j oj, ops[j]? = some oj → j ≠ i → listed.getD j true = false → (∀ e ∈ oj.after, Region.binds md e = true → e.on ≠ i) → oi.apart ops oj = true) →
      (∀ j w', listed.getD j true = false → j ≠ i → j ∉ L → C j w' → S w') → i ∈ Region.ready md ops listed → YieldsIf P ops S oi v a → S w →
      wpAnyC P md ops Q C fuel (listed.setIfInBounds i true) (a.put oi.dst v) w → wpAnyC P md ops Q C (fuel + 1) listed a w := by
  intro fuel
  induction fuel with
  | zero =>
    intro listed a w _ _ hr hy hS H
    refine ⟨fun h => (by rw [h] at hr; cases hr), fun j hj => ?_⟩
    by_cases hji : j = i
    · subst hji; exact hy.wpOp hi hS ⟨hCi _ hS, H⟩
    · have := ready_mono hj hji
      rw [H.1] at this
      cases this
  | succ fuel ih =>
    intro listed a w hfree hC hr hy hS H
    refine ⟨fun h => (by rw [h] at hr; cases hr), fun j hj => ?_⟩
    by_cases hji : j = i
    · subst hji; exact hy.wpOp hi hS ⟨hCi _ hS, H⟩
    · have h1 := H.2 j (ready_mono hj hji)
      obtain ⟨hjun, oj, hoj, hall⟩ := mem_ready.1 hj
      have hnot : ∀ e ∈ oj.after, Region.binds md e = true → e.on ≠ i := fun e he hb heq => by
        have h1 := hall e he hb
        have h0 := (mem_ready.1 hr).1
        rw [heq] at h1
        rcases Nat.lt_or_ge i listed.size with h' | h'
        · simp [h'] at h0 h1; rw [h0] at h1; cases h1
        · simp [Array.getElem?_eq_none h'] at h1
      have hjL : j ∉ L := fun hjm => by
        have hL := List.all_eq_true.1 hL j hjm
        unfold waitsC at hL
        rw [hoj] at hL
        simp only [List.any_eq_true, Bool.and_eq_true, beq_iff_eq] at hL
        obtain ⟨e, he, hb, hon⟩ := hL
        exact hnot e (Array.mem_toList_iff.1 he) hb hon
      have h2 := wpOp_putIf hoj (hfree j oj hoj hji hjun hnot) (fun cs b => hsel i oi cs b hi) (fun cs b => hsel j oj cs b hoj) hQ hy h1
      have hfree' : ∀ k ok, ops[k]? = some ok → k ≠ i → (listed.setIfInBounds j true).getD k true = false →
          (∀ e ∈ ok.after, Region.binds md e = true → e.on ≠ i) → oi.apart ops ok = true := fun k ok hk hki hun hno => by
        refine hfree k ok hk hki ?_ hno
        by_cases hjk : j = k
        · subst hjk; exact hjun
        · rw [getD_set_ne true hjk] at hun; exact hun
      have hC' : ∀ k w', (listed.setIfInBounds j true).getD k true = false → k ≠ i → k ∉ L → C k w' → S w' := fun k w' hun hki hkL hCk => by
        refine hC k w' ?_ hki hkL hCk
        by_cases hjk : j = k
        · subst hjk; exact hjun
        · rw [getD_set_ne true hjk] at hun; exact hun
      refine wpOp_mono (fun a' w' h3 => ⟨h3.2.1, ih (listed.setIfInBounds j true) a' w' hfree' hC' (ready_mono hr (Ne.symm hji)) h3.1 (hC j w' hjun hji hjL h3.2.1) ?_⟩) h2
      rw [Array.setIfInBounds_comm _ _ hji]
      exact h3.2.2

theorem wpAnyC_take (S : World → Prop) (L : List Nat) {i : Nat} {oi : Oper} {v : Value} {fuel : Nat} {listed : Array Bool} {a : Act} {w : World} (hi : ops[i]? = some oi)
    (hs : Region.noSelect ops = true) (hf : Region.free md ops listed i = true) (hr : (Region.ready md ops listed).contains i = true) (hL : L.all (fun l => waitsC md ops l i) = true)
    (hQ : ∀ c a w, Q (.panic c) (a.put oi.dst v) w → Q (.panic c) a w) (hC : ∀ j w', listed.getD j true = false → j ≠ i → j ∉ L → C j w' → S w') (hCi : ∀ w', S w' → C i w') (hy : YieldsIf P ops S oi v a) (hS : S w)
    (h : wpAnyC P md ops Q C fuel (listed.setIfInBounds i true) (a.put oi.dst v) w) : wpAnyC P md ops Q C (fuel + 1) listed a w :=
  wpAnyC_first L hi (Region.noSelect_spec hs) hQ hL hCi fuel listed a w (Region.free_spec hi hf) hC (by simpa using hr) hy hS h

theorem wpAnyC_one {i : Nat} {o : Oper} {fuel : Nat} {listed : Array Bool} {a : Act} {w : World} (hr : Region.ready md ops listed = [i]) (ho : ops[i]? = some o)
    (h : ∀ K' : Act → World → Prop, Shut (∀ a w, C i w → wpAnyC P md ops Q C fuel (listed.setIfInBounds i true) a w → K' a w) → if Region.wanted o (yielded ops a.tmps) = true then Oper.wp P o a w K' Q else K' (a.put o.dst undef) w) :
    wpAnyC P md ops Q C (fuel + 1) listed a w :=
  ⟨fun h0 => (by rw [h0] at hr; cases hr), fun j hj => by
    rw [hr, List.mem_singleton] at hj
    subst hj
    exact wpOp_step ho fun K' hK => h K' fun a w hS hW => hK a w ⟨hS, hW⟩⟩

theorem wpAnyC_two {i j : Nat} {o o' : Oper} {fuel : Nat} {listed : Array Bool} {a : Act} {w : World} (hr : Region.ready md ops listed = [i, j]) (ho : ops[i]? = some o) (ho' : ops[j]? = some o')
    (h : ∀ K' : Act → World → Prop, Shut (∀ a w, C i w → wpAnyC P md ops Q C fuel (listed.setIfInBounds i true) a w → K' a w) → if Region.wanted o (yielded ops a.tmps) = true then Oper.wp P o a w K' Q else K' (a.put o.dst undef) w)
    (h' : ∀ K' : Act → World → Prop, Shut (∀ a w, C j w → wpAnyC P md ops Q C fuel (listed.setIfInBounds j true) a w → K' a w) → if Region.wanted o' (yielded ops a.tmps) = true then Oper.wp P o' a w K' Q else K' (a.put o'.dst undef) w) :
    wpAnyC P md ops Q C (fuel + 1) listed a w :=
  ⟨fun h0 => (by rw [h0] at hr; cases hr), fun m hm => by
    rw [hr] at hm
    simp only [List.mem_cons, List.mem_nil_iff, or_false] at hm
    rcases hm with rfl | rfl
    · exact wpOp_step ho fun K' hK => h K' fun a w hS hW => hK a w ⟨hS, hW⟩
    · exact wpOp_step ho' fun K' hK => h' K' fun a w hS hW => hK a w ⟨hS, hW⟩⟩

theorem wpAnyC_done {listed : Array Bool} {a : Act} {w : World} (hr : Region.ready md ops listed = []) (h : Q .normal a w) : ∀ fuel, wpAnyC P md ops Q C fuel listed a w
  | 0 => ⟨hr, h⟩
  | _ + 1 => ⟨fun _ => h, by rw [hr]; simp⟩

theorem wp_region_C {id : Nat} {a : Act} {w : World} (C : Nat → World → Prop) (hm : P.follows .mixedOrders = true)
    (h : wpAnyC P .any ops Q C ops.size (Array.replicate ops.size false) a w.drew) : (Code.region id ops true).wp P Q a w :=
  wp_region_any hm (wpAny_of_C _ _ _ _ h)
end
end Go.Proofs.YtgpjcjnimheglaaDoor
/-
  WALKS of package wire's reader: value's first closure.
-/
namespace Go.Proofs.YtgpjcjnimheglaaDoor
open Go.RowKit

/-- a value -/
def jVal (j : JT) (Ak : Option Addr) (ck : Nat) (Ad : Option Addr) (cd : Nat) : Value := .agg #[.int .i64 j.kind, .int .i64 j.num, strV j.text, .slice Ak j.keys.length ck, .slice Ad j.kids.length cd]
/-- how the reading of a value ends -/
def ValE (g : Nat) (s : Bs) (w : World) (f : Nat) (r : Jp.Rs JT) (e : Ending) (w' : World) : Prop :=
  AftR g w w' ∧ match r with
    | .ok j k => RdrAt w' g s k ∧ ∃ Ak ck Ad cd, e = .returned (jVal j Ak ck Ad cd) ∧ JInF w' (fun b => w.heap.size ≤ b) f j Ak ck Ad
    | .bad p er => e = .panicked (faultC p er)
section
variable {g : Nat} {s : Bs} {w w' : World} {f : Nat} {r : Jp.Rs JT}
theorem ValE.ok {j : JT} {k : Nat} {Ak Ad : Option Addr} {ck cd : Nat} (h : r = .ok j k) (ha : AftR g w w') (hr : RdrAt w' g s k) (hj : JInF w' (fun b => w.heap.size ≤ b) f j Ak ck Ad) : ValE g s w f r (.returned (jVal j Ak ck Ad cd)) w' := by
  subst h; exact ⟨ha, hr, Ak, ck, Ad, cd, rfl, hj⟩
theorem ValE.bad {p er : Nat} (h : r = .bad p er) (ha : AftR g w w') : ValE g s w f r (.panicked (faultC p er)) w' := by subst h; exact ⟨ha, rfl⟩
theorem ValE.is_ok {j : JT} {k : Nat} {e : Ending} (h : ValE g s w f (.ok j k) e w') : AftR g w w' ∧ RdrAt w' g s k ∧ ∃ Ak ck Ad cd, e = .returned (jVal j Ak ck Ad cd) ∧ JInF w' (fun b => w.heap.size ≤ b) f j Ak ck Ad := h
theorem ValE.is_bad {p er : Nat} {e : Ending} (h : ValE g s w f (.bad p er) e w') : AftR g w w' ∧ e = .panicked (faultC p er) := h
end

theorem infoJ : (Tryd.prog.info? 25).map (fun i => (i.zero, i.size, i.bytes)) = some (some (.agg #[.int .i64 0, .int .i64 0, .string ⟨#[]⟩, .slice none 0 0, .slice none 0 0]), 5, 80) := by kernel_rfl

theorem set5 (xs : List Value) (z0 z1 z2 z3 z4 u0 u1 u2 u3 u4 : Value) (n : Nat) (hn : xs.length = n) : (((((xs ++ [z0, z1, z2, z3, z4]).set n u0).set (n + 1) u1).set (n + 2) u2).set (n + 3) u3).set (n + 4) u4 = xs ++ [u0, u1, u2, u3, u4] := by
  subst hn
  induction xs with
  | nil => rfl
  | cons a l ih => simp [Nat.add_assoc]; try exact ih

/-- a value stored into the last place of a row of one's own -/
theorem own5 {w : World} {base : Nat} {t : TypeId} {gd n cap : Nat} {xs : List Value} {z0 z1 z2 z3 z4 : Value} (h : w.ownsRow base t 5 (.slice (some ⟨gd, 0, none⟩) (n + 1) cap) (n + 1) (xs ++ [z0, z1, z2, z3, z4])) (hx : xs.length = n * 5) (u0 u1 u2 u3 u4 : Value) :
    (((((w.setCell ⟨gd, n * 5, none⟩ u0).setCell ⟨gd, n * 5 + 1, none⟩ u1).setCell ⟨gd, n * 5 + 2, none⟩ u2).setCell ⟨gd, n * 5 + 3, none⟩ u3).setCell ⟨gd, n * 5 + 4, none⟩ u4).ownsRow base t 5 (.slice (some ⟨gd, 0, none⟩) (n + 1) cap) (n + 1) (xs ++ [u0, u1, u2, u3, u4]) := by
  have h5 := ((((h.stored (n * 5) u0).1.stored (n * 5 + 1) u1).1.stored (n * 5 + 2) u2).1.stored (n * 5 + 3) u3).1.stored (n * 5 + 4) u4
  rw [set5 xs z0 z1 z2 z3 z4 u0 u1 u2 u3 u4 (n * 5) hx] at h5
  exact h5.1
theorem far5 (w : World) (gd o k : Nat) (u0 u1 u2 u3 u4 : Value) (hk : k ≠ gd) : (((((w.setCell ⟨gd, o, none⟩ u0).setCell ⟨gd, o + 1, none⟩ u1).setCell ⟨gd, o + 2, none⟩ u2).setCell ⟨gd, o + 3, none⟩ u3).setCell ⟨gd, o + 4, none⟩ u4).heap[k]? = w.heap[k]? := by
  rw [Below.heap_setCell _ _ _ k (by simpa using hk), Below.heap_setCell _ _ _ k (by simpa using hk), Below.heap_setCell _ _ _ k (by simpa using hk), Below.heap_setCell _ _ _ k (by simpa using hk), Below.heap_setCell _ _ _ k (by simpa using hk)]

theorem AftR.far {g : Nat} {w1 w : World} (h : AftR g w1 w) {b : Nat} (hb : w1.heap.size ≤ b) (hg : g < w1.heap.size) (o : Nat) (u : Value) : AftR g w1 (w.setCell ⟨b, o, none⟩ u) :=
  ⟨h.bel.setCell (p := ⟨b, o, none⟩) (by show g ≤ b; omega) u, fun k hk hn => (Below.heap_setCell w ⟨b, o, none⟩ u k (by show k ≠ b; omega)).trans (h.oth k hk hn)⟩
theorem AftR.grown {g : Nat} {w1 w w' : World} {row : Option Nat} (h : AftR g w1 w) (hg : w.grownBy w' row) (hr : ∀ k, row = some k → w1.heap.size ≤ k) (hl : g < w1.heap.size) : AftR g w1 w' :=
  ⟨h.bel.grown hg (by have := h.bel.size; omega) (fun k hk => by have := hr k hk; omega), fun k hk hn => (hg.block k (by have := h.bel.size; have := h.oth; have := hg.size; exact Nat.lt_of_lt_of_le hk h.bel.size) (fun e => by have := hr k e.symm; omega)).trans (h.oth k hk hn)⟩
theorem AftR.five {g : Nat} {w1 w : World} (h : AftR g w1 w) {b : Nat} (hb : w1.heap.size ≤ b) (hg : g < w1.heap.size) (o : Nat) (u0 u1 u2 u3 u4 : Value) : AftR g w1 (((((w.setCell ⟨b, o, none⟩ u0).setCell ⟨b, o + 1, none⟩ u1).setCell ⟨b, o + 2, none⟩ u2).setCell ⟨b, o + 3, none⟩ u3).setCell ⟨b, o + 4, none⟩ u4) :=
  ((((h.far hb hg _ _).far hb hg _ _).far hb hg _ _).far hb hg _ _).far hb hg _ _

theorem blk_neJ {w : World} {g h : Nat} {t t' : TypeId} {cs cs' : Array Value} (hg : Blk w g t cs) (hh : Blk w h t' cs') (hne : t ≠ t') : g ≠ h := fun e => by
  subst e
  unfold Blk at hg hh
  rw [hg] at hh
  injection hh with hh
  injection hh with _ h1 _
  exact hne h1

/-- a kid more -/
theorem JSt.push {w0 : World} {g gj br bd f dep : Nat} {kind : Int} {w5 w6 w7 : World} {st : Jp.KK} {vK vD : Value} {xs : List Value} {g1 cap B : Nat} {j : JT} {Ak Ad : Option Addr} {ck cd : Nat} {zs : List Value}
    (hJ : JSt w0 g gj br bd f dep kind w5 st vK vD xs) (hj : JInF w5 (fun b => B ≤ b) f j Ak ck Ad) (_hB0 : w0.heap.size ≤ B) (hBj : gj < B) (hBr : br < B) (hBd : bd < B) (hBK : ∀ b, vK.ownBlock = some b → b < B) (hBD : ∀ b, vD.ownBlock = some b → b < B)
    (hgrow : w5.grownBy w6 vD.ownBlock) (hat : vD.ownBlock = some g1 ∨ g1 = w5.heap.size) (hown : w6.ownsRow (w0.heap.size + 3) 25 5 (.slice (some ⟨g1, 0, none⟩) (st.2.length + 1) cap) (st.2.length + 1) (xs ++ zs))
    (haft : AftR g w0 w7) (hobj : Blk w7 gj 25 #[.int .i64 kind, .int .i64 0, .string ⟨#[]⟩, vK, .slice (some ⟨g1, 0, none⟩) (st.2.length + 1) cap])
    (hown7 : w7.ownsRow (w0.heap.size + 3) 25 5 (.slice (some ⟨g1, 0, none⟩) (st.2.length + 1) cap) (st.2.length + 1) (xs ++ jcells j Ak ck Ad cd)) (hoth : ∀ b, b ≠ gj → b ≠ g1 → w7.heap[b]? = w6.heap[b]?) (hsz : w6.heap.size ≤ w7.heap.size) :
    JSt w0 g gj br bd f dep kind w7 (st.1, st.2 ++ [j]) vK (.slice (some ⟨g1, 0, none⟩) (st.2.length + 1) cap) (xs ++ jcells j Ak ck Ad cd) := by
  have hK6 := own_far hJ.keys hJ.kids hgrow (by decide)
  have hr6 : Blk w6 br 44 #[.pointer (some ⟨g, 0, none⟩)] := hJ.rbox.grown hgrow (own_ne hJ.kids hJ.rbox (by decide))
  have hd6 : Blk w6 bd 3 #[.int .i64 dep] := hJ.dbox.grown hgrow (own_ne hJ.kids hJ.dbox (by decide))
  have n1 : br ≠ g1 := fun e => own_ne hown hr6 (by decide) (by rw [e]; rfl)
  have n2 : bd ≠ g1 := fun e => own_ne hown hd6 (by decide) (by rw [e]; rfl)
  have n3 : br ≠ gj := blk_neJ hJ.rbox hJ.obj (by decide)
  have n4 : bd ≠ gj := blk_neJ hJ.dbox hJ.obj (by decide)
  have hkf : KeepF (fun b => w0.heap.size + 3 ≤ b ∧ b ≠ gj ∧ b ≠ br ∧ b ≠ bd ∧ vK.ownBlock ≠ some b ∧ vD.ownBlock ≠ some b) w5 w7 :=
    ⟨Nat.le_trans hgrow.size hsz, fun b hb hl => (hoth b hb.2.1 (fun e => by rcases hat with h | h; exact hb.2.2.2.2.2 (by rw [h, e]); omega)).trans (hgrow.block b hl (fun e => hb.2.2.2.2.2 e.symm))⟩
  have hFF : ∀ b, (w0.heap.size + 3 ≤ b ∧ b ≠ gj ∧ b ≠ br ∧ b ≠ bd ∧ vK.ownBlock ≠ some b ∧ vD.ownBlock ≠ some b) → b < w5.heap.size → (w0.heap.size + 3 ≤ b ∧ b ≠ gj ∧ b ≠ br ∧ b ≠ bd ∧ vK.ownBlock ≠ some b ∧ (Value.slice (some ⟨g1, 0, none⟩) (st.2.length + 1) cap).ownBlock ≠ some b) := fun b hb hl =>
    ⟨hb.1, hb.2.1, hb.2.2.1, hb.2.2.2.1, hb.2.2.2.2.1, fun e => by
      have e : g1 = b := by simpa [Value.ownBlock] using e
      rcases hat with h | h
      · exact hb.2.2.2.2.2 (by rw [h, e])
      · omega⟩
  have hlj := hJ.lj
  have hjF : JInF w5 (fun b => w0.heap.size + 3 ≤ b ∧ b ≠ gj ∧ b ≠ br ∧ b ≠ bd ∧ vK.ownBlock ≠ some b ∧ vD.ownBlock ≠ some b) f j Ak ck Ad :=
    hj.keep (KeepF.refl _ _) fun b hb _ => ⟨by omega, by omega, by omega, by omega, fun e => by have := hBK b e; omega, fun e => by have := hBD b e; omega⟩
  refine ⟨haft, hobj, (hoth br n3 n1).trans hr6, (hoth bd n4 n2).trans hd6, ?_, by simpa using hown7, (hJ.rows.snoc hjF).keep hkf hFF, hJ.gl, hJ.lj, hJ.lr, hJ.ld, fun e => by
    have e : g1 = gj := by simpa [Value.ownBlock] using e
    rcases hat with h | h
    · exact hJ.nej (by rw [h, e])
    · have := hJ.obj.lt; omega, (hoth _ (by have := hJ.lj; omega) (by have := (hown.lt g1 rfl).1; omega)).trans (hJ.res.grown hgrow (fun e => by have := (hJ.kids.lt _ e.symm).1; omega))⟩
  refine own_of_block hK6 fun b hb => hoth b ?_ ?_
  · intro e
    subst e
    exact own_ne hJ.keys hJ.obj (by decide) hb.symm
  · intro e
    subst e
    obtain ⟨cs, fr, h1⟩ := own_ty hK6 b hb
    obtain ⟨cs', fr', h2⟩ := own_ty hown b rfl
    rw [h1] at h2
    injection h2 with h2
    injection h2 with _ h2 _
    revert h2; decide

/-- five cells of a row stored -/
abbrev five (w : World) (gd o : Nat) (u0 u1 u2 u3 u4 : Value) : World := ((((w.setCell ⟨gd, o, none⟩ u0).setCell ⟨gd, o + 1, none⟩ u1).setCell ⟨gd, o + 2, none⟩ u2).setCell ⟨gd, o + 3, none⟩ u3).setCell ⟨gd, o + 4, none⟩ u4
theorem five_size (w : World) (gd o : Nat) (u0 u1 u2 u3 u4 : Value) : (five w gd o u0 u1 u2 u3 u4).heap.size = w.heap.size := by simp [five, World.setCell]
theorem at5 {xs zs : List Value} {n : Nat} (k : Nat) (hn : xs.length = n) : (xs ++ zs)[n + k]? = zs[k]? := by
  subst hn
  rw [List.getElem?_append_right (by omega)]
  congr 1
  omega

section
variable {w0 : World} {g gj br bd f dep : Nat} {kind : Int} {w5 w6 : World} {st : Jp.KK} {vK vD : Value} {xs : List Value} {g1 cap B k : Nat} {s : Bs} {j : JT} {Ak Ad : Option Addr} {ck cd : Nat}
theorem JSt.endA0 {W : World}
    (hJ : JSt w0 g gj br bd f dep kind w5 st vK vD xs) (hj : JInF w5 (fun b => B ≤ b) f j Ak ck Ad) (_hB0 : w0.heap.size ≤ B) (hBj : gj < B) (hBr : br < B) (hBd : bd < B) (hBK : ∀ b, vK.ownBlock = some b → b < B) (hBD : ∀ b, vD.ownBlock = some b → b < B)
    (hgrow : w5.grownBy w6 vD.ownBlock) (hat : vD.ownBlock = some g1 ∨ g1 = w5.heap.size) (hown : w6.ownsRow (w0.heap.size + 3) 25 5 (.slice (some ⟨g1, 0, none⟩) (st.2.length + 1) cap) (st.2.length + 1) (xs ++ [.int .i64 0, .int .i64 0, .string ⟨#[]⟩, .slice none 0 0, .slice none 0 0]))
    (hrd : RdrAt w6 g s k) (_ha6 : AftR g w0 w6) (hobj : Blk w6 gj 25 #[.int .i64 kind, .int .i64 0, .string ⟨#[]⟩, vK, vD]) (hg1 : gj ≠ g1) (hgg : g ≠ g1) (hggj : g ≠ gj)
    (h5 : W.ownsRow (w0.heap.size + 3) 25 5 (.slice (some ⟨g1, 0, none⟩) (st.2.length + 1) cap) (st.2.length + 1) (xs ++ jcells j Ak ck Ad cd)) (hf : ∀ k, k ≠ g1 → W.heap[k]? = w6.heap[k]?) (hs : W.heap.size = w6.heap.size) (ha : AftR g w0 W) :
    RdrAt (W.setCell ⟨gj, 4, none⟩ (.slice (some ⟨g1, 0, none⟩) (st.2.length + 1) cap)) g s k ∧
    JSt w0 g gj br bd f dep kind (W.setCell ⟨gj, 4, none⟩ (.slice (some ⟨g1, 0, none⟩) (st.2.length + 1) cap)) (st.1, st.2 ++ [j]) vK (.slice (some ⟨g1, 0, none⟩) (st.2.length + 1) cap) (xs ++ jcells j Ak ck Ad cd) := by
  refine ⟨Blk.far ((hf g hgg).trans hrd) hggj _, ?_⟩
  refine hJ.push hj _hB0 hBj hBr hBd hBK hBD hgrow hat hown (ha.far (Nat.le_trans (Nat.le_add_right _ 3) hJ.lj) hJ.gl _ _) ?_ ?_ ?_ ?_
  · have := Blk.set_ ((hf gj hg1).trans hobj : Blk W gj _ _) 4 (.slice (some ⟨g1, 0, none⟩) (st.2.length + 1) cap)
    simpa using this
  · exact own_of_block h5 fun k hk => Below.heap_setCell _ _ _ k (by
      have hk : g1 = k := by simpa [Value.ownBlock] using hk
      show k ≠ gj
      omega)
  · intro b h1 h2
    exact (Below.heap_setCell _ _ _ b h1).trans (hf b h2)
  · have hsz : (W.setCell ⟨gj, 4, none⟩ (.slice (some ⟨g1, 0, none⟩) (st.2.length + 1) cap)).heap.size = W.heap.size := by simp [World.setCell]
    rw [hsz, ← hs]; exact Nat.le_refl _
theorem JSt.endA
    (hJ : JSt w0 g gj br bd f dep kind w5 st vK vD xs) (hj : JInF w5 (fun b => B ≤ b) f j Ak ck Ad) (_hB0 : w0.heap.size ≤ B) (hBj : gj < B) (hBr : br < B) (hBd : bd < B) (hBK : ∀ b, vK.ownBlock = some b → b < B) (hBD : ∀ b, vD.ownBlock = some b → b < B)
    (hgrow : w5.grownBy w6 vD.ownBlock) (hat : vD.ownBlock = some g1 ∨ g1 = w5.heap.size) (hown : w6.ownsRow (w0.heap.size + 3) 25 5 (.slice (some ⟨g1, 0, none⟩) (st.2.length + 1) cap) (st.2.length + 1) (xs ++ [.int .i64 0, .int .i64 0, .string ⟨#[]⟩, .slice none 0 0, .slice none 0 0]))
    (hrd : RdrAt w6 g s k) (ha6 : AftR g w0 w6) (hobj : Blk w6 gj 25 #[.int .i64 kind, .int .i64 0, .string ⟨#[]⟩, vK, vD]) (hg1 : gj ≠ g1) (hgg : g ≠ g1) (hggj : g ≠ gj) :
    RdrAt (World.setCell (five w6 g1 (st.2.length * 5) (.int .i64 j.kind) (.int .i64 j.num) (strV j.text) (.slice Ak j.keys.length ck) (.slice Ad j.kids.length cd)) ⟨gj, 4, none⟩ (.slice (some ⟨g1, 0, none⟩) (st.2.length + 1) cap)) g s k ∧
    JSt w0 g gj br bd f dep kind (World.setCell (five w6 g1 (st.2.length * 5) (.int .i64 j.kind) (.int .i64 j.num) (strV j.text) (.slice Ak j.keys.length ck) (.slice Ad j.kids.length cd)) ⟨gj, 4, none⟩ (.slice (some ⟨g1, 0, none⟩) (st.2.length + 1) cap)) (st.1, st.2 ++ [j]) vK (.slice (some ⟨g1, 0, none⟩) (st.2.length + 1) cap) (xs ++ jcells j Ak ck Ad cd) :=
  JSt.endA0 hJ hj _hB0 hBj hBr hBd hBK hBD hgrow hat hown hrd ha6 hobj hg1 hgg hggj (own5 hown hJ.rows.1 _ _ _ _ _) (fun k hk => far5 _ _ _ k _ _ _ _ _ hk) (five_size _ _ _ _ _ _ _ _) (ha6.five (b := g1) (Nat.le_trans (Nat.le_add_right _ 3) (hown.lt g1 rfl).1) hJ.gl _ _ _ _ _ _)
theorem JSt.endB
    (hJ : JSt w0 g gj br bd f dep kind w5 st vK vD xs) (hj : JInF w5 (fun b => B ≤ b) f j Ak ck Ad) (_hB0 : w0.heap.size ≤ B) (hBj : gj < B) (hBr : br < B) (hBd : bd < B) (hBK : ∀ b, vK.ownBlock = some b → b < B) (hBD : ∀ b, vD.ownBlock = some b → b < B)
    (hgrow : w5.grownBy w6 vD.ownBlock) (hat : vD.ownBlock = some g1 ∨ g1 = w5.heap.size) (hown : w6.ownsRow (w0.heap.size + 3) 25 5 (.slice (some ⟨g1, 0, none⟩) (st.2.length + 1) cap) (st.2.length + 1) (xs ++ [.int .i64 0, .int .i64 0, .string ⟨#[]⟩, .slice none 0 0, .slice none 0 0]))
    (hrd : RdrAt w6 g s k) (ha6 : AftR g w0 w6) (hobj : Blk w6 gj 25 #[.int .i64 kind, .int .i64 0, .string ⟨#[]⟩, vK, vD]) (hg1 : gj ≠ g1) (hgg : g ≠ g1) (hggj : g ≠ gj) :
    RdrAt (five (w6.setCell ⟨gj, 4, none⟩ (.slice (some ⟨g1, 0, none⟩) (st.2.length + 1) cap)) g1 (st.2.length * 5) (.int .i64 j.kind) (.int .i64 j.num) (strV j.text) (.slice Ak j.keys.length ck) (.slice Ad j.kids.length cd)) g s k ∧
    JSt w0 g gj br bd f dep kind (five (w6.setCell ⟨gj, 4, none⟩ (.slice (some ⟨g1, 0, none⟩) (st.2.length + 1) cap)) g1 (st.2.length * 5) (.int .i64 j.kind) (.int .i64 j.num) (strV j.text) (.slice Ak j.keys.length ck) (.slice Ad j.kids.length cd)) (st.1, st.2 ++ [j]) vK (.slice (some ⟨g1, 0, none⟩) (st.2.length + 1) cap) (xs ++ jcells j Ak ck Ad cd) := by
  have hx : xs.length = st.2.length * 5 := hJ.rows.1
  have ha0 : AftR g w0 (w6.setCell ⟨gj, 4, none⟩ (.slice (some ⟨g1, 0, none⟩) (st.2.length + 1) cap)) := ha6.far (Nat.le_trans (Nat.le_add_right _ 3) hJ.lj) hJ.gl _ _
  have hb0 : Blk (w6.setCell ⟨gj, 4, none⟩ (.slice (some ⟨g1, 0, none⟩) (st.2.length + 1) cap)) gj 25 #[.int .i64 kind, .int .i64 0, .string ⟨#[]⟩, vK, .slice (some ⟨g1, 0, none⟩) (st.2.length + 1) cap] := by
    have := Blk.set_ hobj 4 (.slice (some ⟨g1, 0, none⟩) (st.2.length + 1) cap)
    simpa using this
  have ho0 : (w6.setCell ⟨gj, 4, none⟩ (.slice (some ⟨g1, 0, none⟩) (st.2.length + 1) cap)).ownsRow (w0.heap.size + 3) 25 5 (.slice (some ⟨g1, 0, none⟩) (st.2.length + 1) cap) (st.2.length + 1) (xs ++ [.int .i64 0, .int .i64 0, .string ⟨#[]⟩, .slice none 0 0, .slice none 0 0]) :=
    own_of_block hown fun k hk => Below.heap_setCell _ _ _ k (by
      have hk : g1 = k := by simpa [Value.ownBlock] using hk
      show k ≠ gj
      omega)
  have hr0 : RdrAt (w6.setCell ⟨gj, 4, none⟩ (.slice (some ⟨g1, 0, none⟩) (st.2.length + 1) cap)) g s k := Blk.far hrd hggj _
  have hoth : ∀ b, b ≠ gj → (w6.setCell ⟨gj, 4, none⟩ (.slice (some ⟨g1, 0, none⟩) (st.2.length + 1) cap)).heap[b]? = w6.heap[b]? := fun b hb => Below.heap_setCell _ _ _ b hb
  have hsz : (w6.setCell ⟨gj, 4, none⟩ (.slice (some ⟨g1, 0, none⟩) (st.2.length + 1) cap)).heap.size = w6.heap.size := by simp [World.setCell]
  generalize hW : w6.setCell ⟨gj, 4, none⟩ (.slice (some ⟨g1, 0, none⟩) (st.2.length + 1) cap) = W at *
  have h5 := own5 ho0 hx (.int .i64 j.kind) (.int .i64 j.num) (strV j.text) (.slice Ak j.keys.length ck) (.slice Ad j.kids.length cd)
  have hf := fun k hk => far5 W g1 (st.2.length * 5) k (.int .i64 j.kind) (.int .i64 j.num) (strV j.text) (.slice Ak j.keys.length ck) (.slice Ad j.kids.length cd) hk
  have hs := five_size W g1 (st.2.length * 5) (.int .i64 j.kind) (.int .i64 j.num) (strV j.text) (.slice Ak j.keys.length ck) (.slice Ad j.kids.length cd)
  have ha := ha0.five (b := g1) (Nat.le_trans (Nat.le_add_right _ 3) (hown.lt g1 rfl).1) hJ.gl (st.2.length * 5) (.int .i64 j.kind) (.int .i64 j.num) (strV j.text) (.slice Ak j.keys.length ck) (.slice Ad j.kids.length cd)
  refine ⟨(hf g hgg).trans hr0, ?_⟩
  exact hJ.push hj _hB0 hBj hBr hBd hBK hBD hgrow hat hown ha ((hf gj hg1).trans hb0) h5 (fun b h1 h2 => (hf b h2).trans (hoth b h1)) (by omega)
end

set_option maxHeartbeats 4000000 in
set_option maxRecDepth 100000 in
theorem val1_walk (w0 : World) (g gj br bd f dep : Nat) (s : Bs) (hv : ∀ (i : Nat) (w : World), RdrAt w g s i → i ≤ s.length → Calls Tryd.prog 10 #[.pointer (some ⟨g, 0, none⟩), .int .i64 ((dep : Int) + 1)] w (ValE g s w f (Jp.valF s f (dep + 1) i)))
    (hdep : dep ≤ 40) (st : Jp.KK) (k : Nat) (w : World) (hP : ∃ vK vD xs, JSt w0 g gj br bd f dep 4 w st vK vD xs) (hM : st.2.length ≤ k) (hr : RdrAt w g s k) (hk : k ≤ s.length) (hl : s.length ≤ 16777216) :
    Calls Tryd.prog 25 #[.pointer (some ⟨gj, 0, none⟩), .pointer (some ⟨br, 0, none⟩), .pointer (some ⟨bd, 0, none⟩)] w (OneE g s (fun w st => ∃ vK vD xs, JSt w0 g gj br bd f dep 4 w st vK vD xs) (AftR g w0) (Jp.oneL (Jp.valF s f (dep + 1)) st k)) := by
  obtain ⟨i0, ji, jz0, jz1, jz2⟩ := info_parts infoJ
  obtain ⟨vK, vD, xs, hJ⟩ := hP
  obtain ⟨Ao, co, rfl⟩ := own_form hJ.kids
  have hval := fun w h => hv k w h hk
  have hlen := hJ.rows.1
  generalize hRR : Jp.oneL (Jp.valF s f (dep + 1)) st k = R
  have HRb : Hid (∀ p e, Jp.valF s f (dep + 1) k = .bad p e → R = .bad p e) := fun p e h => by rw [← hRR]; unfold Jp.oneL; rw [h]
  have HRo : Hid (∀ j k', Jp.valF s f (dep + 1) k = .ok j k' → R = .ok (st.1, st.2 ++ [j]) k') := fun j k' h => by rw [← hRR]; unfold Jp.oneL; rw [h]
  clear hRR hv
  generalize Jp.valF s f (dep + 1) k = O at *
  have hdep1 : (dep : Int) + 1 ≤ 41 := by omega
  have hdep2 : IntKind.i64.wrap ((dep : Int) + 1) = (dep : Int) + 1 := IntWalk.i64_in _ (by omega)
  have hnl : st.2.length ≤ 16777216 := by omega
  go_enter Tryd.func25, Tryd.ntmps25
  refine wp_region_C (fun j w' => j ∉ [9, 10, 11, 12] → w'.cell? ⟨gj, 4, none⟩ = some (.slice Ao st.2.length co) ∧ w'.cell? ⟨br, 0, none⟩ = some (.pointer (some ⟨g, 0, none⟩)) ∧ w'.cell? ⟨bd, 0, none⟩ = some (.int .i64 dep)) (by kernel_rfl) ?_
  have hJ1 := hJ.after ((AftR.refl g w).drew)
  have hr1 := hr.drew
  clear hJ hr
  generalize World.drew w = w1 at *
  have c4 := hJ1.obj.cell 4
  have cr := hJ1.rbox.cell 0
  have cb := hJ1.dbox.cell 0
  simp at c4 cr cb
  have hS0 : (fun w' : World => w'.cell? ⟨gj, 4, none⟩ = some (.slice Ao st.2.length co) ∧ w'.cell? ⟨br, 0, none⟩ = some (.pointer (some ⟨g, 0, none⟩)) ∧ w'.cell? ⟨bd, 0, none⟩ = some (.int .i64 dep)) w1 := ⟨c4, cr, cb⟩
  refine wpAnyC_take (fun w' : World => w'.cell? ⟨gj, 4, none⟩ = some (.slice Ao st.2.length co) ∧ w'.cell? ⟨br, 0, none⟩ = some (.pointer (some ⟨g, 0, none⟩)) ∧ w'.cell? ⟨bd, 0, none⟩ = some (.int .i64 dep)) [9, 10, 11, 12] (i := 0) (v := ?_) rfl (by kernel_rfl) (by kernel_rfl) (by kernel_rfl) (by kernel_rfl) (fun _ _ _ h => h) (fun j w' _ _ hL h => h hL) (fun w' h _ => h) (Or.inl ⟨by rfl, ?_⟩) hS0 ?_; rotate_left; · (intro w hSw; (try dsimp only at hSw); obtain ⟨s0, s1, s2⟩ := hSw; go_simp; try with_reducible rfl)
  simp only [Act.put, List.setIfInBounds_toArray]
  refine wpAnyC_take (fun w' : World => w'.cell? ⟨gj, 4, none⟩ = some (.slice Ao st.2.length co) ∧ w'.cell? ⟨br, 0, none⟩ = some (.pointer (some ⟨g, 0, none⟩)) ∧ w'.cell? ⟨bd, 0, none⟩ = some (.int .i64 dep)) [9, 10, 11, 12] (i := 1) (v := ?_) rfl (by kernel_rfl) (by kernel_rfl) (by kernel_rfl) (by kernel_rfl) (fun _ _ _ h => h) (fun j w' _ _ hL h => h hL) (fun w' h _ => h) (Or.inl ⟨by rfl, ?_⟩) hS0 ?_; rotate_left; · (intro w hSw; (try dsimp only at hSw); obtain ⟨s0, s1, s2⟩ := hSw; go_simp; try with_reducible rfl)
  simp only [Act.put]
  refine wpAnyC_take (fun w' : World => w'.cell? ⟨gj, 4, none⟩ = some (.slice Ao st.2.length co) ∧ w'.cell? ⟨br, 0, none⟩ = some (.pointer (some ⟨g, 0, none⟩)) ∧ w'.cell? ⟨bd, 0, none⟩ = some (.int .i64 dep)) [9, 10, 11, 12] (i := 2) (v := ?_) rfl (by kernel_rfl) (by kernel_rfl) (by kernel_rfl) (by kernel_rfl) (fun _ _ _ h => h) (fun j w' _ _ hL h => h hL) (fun w' h _ => h) (Or.inl ⟨by rfl, ?_⟩) hS0 ?_; rotate_left; · (intro w hSw; (try dsimp only at hSw); obtain ⟨s0, s1, s2⟩ := hSw; go_simp; try with_reducible rfl)
  simp only [Act.put]
  refine wpAnyC_take (fun w' : World => w'.cell? ⟨gj, 4, none⟩ = some (.slice Ao st.2.length co) ∧ w'.cell? ⟨br, 0, none⟩ = some (.pointer (some ⟨g, 0, none⟩)) ∧ w'.cell? ⟨bd, 0, none⟩ = some (.int .i64 dep)) [9, 10, 11, 12] (i := 3) (v := ?_) rfl (by kernel_rfl) (by kernel_rfl) (by kernel_rfl) (by kernel_rfl) (fun _ _ _ h => h) (fun j w' _ _ hL h => h hL) (fun w' h _ => h) (Or.inl ⟨by rfl, ?_⟩) hS0 ?_; rotate_left; · (intro w hSw; (try dsimp only at hSw); obtain ⟨s0, s1, s2⟩ := hSw; go_simp; try with_reducible rfl)
  simp only [Act.put]
  refine wpAnyC_take (fun w' : World => w'.cell? ⟨gj, 4, none⟩ = some (.slice Ao st.2.length co) ∧ w'.cell? ⟨br, 0, none⟩ = some (.pointer (some ⟨g, 0, none⟩)) ∧ w'.cell? ⟨bd, 0, none⟩ = some (.int .i64 dep)) [9, 10, 11, 12] (i := 4) (v := ?_) rfl (by kernel_rfl) (by kernel_rfl) (by kernel_rfl) (by kernel_rfl) (fun _ _ _ h => h) (fun j w' _ _ hL h => h hL) (fun w' h _ => h) (Or.inl ⟨by rfl, ?_⟩) hS0 ?_; rotate_left; · (intro w hSw; (try dsimp only at hSw); obtain ⟨s0, s1, s2⟩ := hSw; go_simp; try with_reducible rfl)
  simp only [Act.put]
  refine wpAnyC_take (fun w' : World => w'.cell? ⟨gj, 4, none⟩ = some (.slice Ao st.2.length co) ∧ w'.cell? ⟨br, 0, none⟩ = some (.pointer (some ⟨g, 0, none⟩)) ∧ w'.cell? ⟨bd, 0, none⟩ = some (.int .i64 dep)) [9, 10, 11, 12] (i := 6) (v := ?_) rfl (by kernel_rfl) (by kernel_rfl) (by kernel_rfl) (by kernel_rfl) (fun _ _ _ h => h) (fun j w' _ _ hL h => h hL) (fun w' h _ => h) (Or.inl ⟨by rfl, ?_⟩) hS0 ?_; rotate_left; · (intro w hSw; (try dsimp only at hSw); obtain ⟨s0, s1, s2⟩ := hSw; go_simp; try with_reducible rfl)
  simp only [Act.put]
  clear hS0
  have hB1 := hJ1.obj.lt
  have hB2 := hJ1.rbox.lt
  have hB3 := hJ1.dbox.lt
  have HBK : Hid (∀ b, vK.ownBlock = some b → b < w1.heap.size) := fun b h => (hJ1.keys.lt b h).2
  have HBD : Hid (∀ b, (Value.slice Ao st.2.length co).ownBlock = some b → b < w1.heap.size) := fun b h => (hJ1.kids.lt b h).2
  have hB0 : w0.heap.size ≤ w1.heap.size := hJ1.aft.bel.size
  refine wpAnyC_two (i := 5) (j := 7) (by kernel_rfl) rfl rfl (fun K hK => ?_) (fun K hK => ?_)
  · go_simp
    ((with_reducible refine (hval w1 hr1).mono ?_))
    intro e w2 h2
    cases O with
    | bad p er =>
      obtain ⟨ha2, rfl⟩ := h2.is_bad
      exact ⟨rfl, OneE.bad (HRb.out _ _ rfl) (hJ1.aft.trans ha2)⟩
    | ok j k2 =>
      obtain ⟨ha2, hr2, Ak, ck, Ad, cd, rfl, hj⟩ := h2.is_ok
      have hJ2 := hJ1.after ha2
      clear c4 cr cb hval h2 hJ1 hr1
      have c4 := hJ2.obj.cell 4
      have cr := hJ2.rbox.cell 0
      have cdd := hJ2.dbox.cell 0
      simp at c4 cr cdd
      refine hK.out _ _ (fun _ => ⟨c4, cr, cdd⟩) ?_
      clear hK K
      refine wpAnyC_one (i := 7) (by kernel_rfl) rfl (fun K hK => ?_)
      go_simp
      obtain ⟨T, hT⟩ : ∃ T, T = w2.heap.size := ⟨_, rfl⟩
      rw [← hT]
      have hBT : Blk (World.alloc w2 (.cells #[.int .i64 0, .int .i64 0, .string ⟨#[]⟩, .slice none 0 0, .slice none 0 0] 25)) T 25 #[.int .i64 0, .int .i64 0, .string ⟨#[]⟩, .slice none 0 0, .slice none 0 0] := by rw [hT]; exact Blk.new _ _ _
      have hbl : Below w2.heap.size w2 (World.alloc w2 (.cells #[.int .i64 0, .int .i64 0, .string ⟨#[]⟩, .slice none 0 0, .slice none 0 0] 25)) := (Below.refl _ _).alloc (Nat.le_refl _) _
      have hJX := hJ2.after (AftR.of_below (g := g) hbl (Nat.le_of_lt hr2.lt))
      have hrX := hr2.below hbl
      have hjX := hj.keep (F' := fun b => w1.heap.size ≤ b) (KeepF.below hbl) (fun b hb _ => hb)
      clear hT hJ2 hr2 hj hbl c4 cr cdd
      generalize World.alloc w2 (.cells #[.int .i64 0, .int .i64 0, .string ⟨#[]⟩, .slice none 0 0, .slice none 0 0] 25) = wX at *
      have c4 := hJX.obj.cell 4
      have cr := hJX.rbox.cell 0
      have cdd := hJX.dbox.cell 0
      simp at c4 cr cdd
      refine hK.out _ _ (fun _ => ⟨c4, cr, cdd⟩) ?_
      clear hK K
      have hbX : w0.heap.size + 3 ≤ wX.heap.size := by have h1 := hJX.lj; have h2 := hJX.obj.lt; omega
      refine wpAnyC_one (i := 8) (by kernel_rfl) rfl (fun K hK => ?_)
      refine step_append_lies _ (by rfl) _ _ _ (by rfl) (w0.heap.size + 3) 25 i0 _ 5 80 Tryd.underlying23 ji jz0 jz1 jz2 rfl (by omega) (.slice Ao st.2.length co) st.2.length xs (by rfl) hJX.kids ⟨T, 0, none⟩ 1 1 [.int .i64 0, .int .i64 0, .string ⟨#[]⟩, .slice none 0 0, .slice none 0 0] (by rfl) (by rfl) (World.news_of_block (cs := #[.int .i64 0, .int .i64 0, .string ⟨#[]⟩, .slice none 0 0, .slice none 0 0]) (t := 25) (fr := (0, 0)) hBT) (by simp [Value.oneCell']) (by omega) (by unfold maxLen; omega) (by omega) hbX _ rfl ?_; intro g1 cap1 w6 hown hgrow hat hlt
      have hobj6 := hJX.obj.grown hgrow (fun e => hJX.nej e.symm)
      have hr6 := hJX.rbox.grown hgrow (own_ne hJX.kids hJX.rbox (by decide))
      have hd6 := hJX.dbox.grown hgrow (own_ne hJX.kids hJX.dbox (by decide))
      have ha6 := hJX.aft.grown hgrow (fun k hk => Nat.le_trans (Nat.le_add_right _ 3) (hJX.kids.lt k hk).1) hJX.gl
      have hrd6 := Blk.grown hrX hgrow (own_ne hJX.kids hrX (by decide))
      have hg1 : gj ≠ g1 := fun e => by
        rcases hat with h | h
        · exact hJX.nej (by rw [h, e])
        · have := hJX.obj.lt; omega
      have hgg : g ≠ g1 := fun e => own_ne hown hrd6 (by decide) (by rw [e]; rfl)
      have hggj : g ≠ gj := blk_neJ hrX hJX.obj (by decide)
      clear c4 cr cdd
      have c4 := hobj6.cell 4
      have cr := hr6.cell 0
      have cdd := hd6.cell 0
      simp at c4 cr cdd
      refine hK.out _ _ (fun _ => ⟨c4, cr, cdd⟩) ?_
      clear hK K c4 cr cdd
      have j0 : (0 : Int) ≤ (st.2.length : Int) := by omega
      have j1 : (st.2.length : Int) < (st.2.length : Int) + 1 := by omega
      refine wpAnyC_take (fun _ => True) [] (i := 9) (v := ?_) rfl (by kernel_rfl) (by kernel_rfl) (by kernel_rfl) (by kernel_rfl) (fun _ _ _ h => h) (fun _ _ _ _ _ _ => trivial) (fun _ _ h => absurd (by simp) h) (Or.inl ⟨by rfl, ?_⟩) trivial ?_; rotate_left; · (intro w hSw; go_simp; try with_reducible rfl)
      simp only [Act.put]
      refine wpAnyC_take (fun _ => True) [] (i := 11) (v := ?_) rfl (by kernel_rfl) (by kernel_rfl) (by kernel_rfl) (by kernel_rfl) (fun _ _ _ h => h) (fun _ _ _ _ _ _ => trivial) (fun _ _ h => absurd (by simp) h) (Or.inl ⟨by rfl, ?_⟩) trivial ?_; rotate_left; · (intro w hSw; go_simp; try with_reducible rfl)
      simp only [Act.put]
      have q0 : w6.cell? ⟨g1, st.2.length * 5, none⟩ = some (.int .i64 0) := own_cell hown _ _ ((at5 0 hlen).trans rfl)
      have q1 : w6.cell? ⟨g1, st.2.length * 5 + 1, none⟩ = some (.int .i64 0) := own_cell hown _ _ ((at5 1 hlen).trans rfl)
      have q2 : w6.cell? ⟨g1, st.2.length * 5 + 2, none⟩ = some (.string ⟨#[]⟩) := own_cell hown _ _ ((at5 2 hlen).trans rfl)
      have q3 : w6.cell? ⟨g1, st.2.length * 5 + 3, none⟩ = some (.slice none 0 0) := own_cell hown _ _ ((at5 3 hlen).trans rfl)
      have q4 : w6.cell? ⟨g1, st.2.length * 5 + 4, none⟩ = some (.slice none 0 0) := own_cell hown _ _ ((at5 4 hlen).trans rfl)
      have p0 := hown.frozenAt (st.2.length * 5)
      have p1 := hown.frozenAt (st.2.length * 5 + 1)
      have p2 := hown.frozenAt (st.2.length * 5 + 2)
      have p3 := hown.frozenAt (st.2.length * 5 + 3)
      have p4 := hown.frozenAt (st.2.length * 5 + 4)
      have d4 := hobj6.cell 4
      have d5 := hobj6.frozen 4
      simp at d4
      refine wpAnyC_two (i := 10) (j := 12) (by kernel_rfl) rfl rfl (fun K hK => ?_) (fun K hK => ?_)
      · unfold jVal strV
        go_simp
        refine hK.out _ _ (fun h => absurd (by simp) h) ?_
        clear hK K
        refine wpAnyC_one (i := 12) (by kernel_rfl) rfl (fun K hK => ?_)
        go_simp
        refine hK.out _ _ (fun h => absurd (by simp) h) ?_
        clear hK K
        refine wpAnyC_done (by kernel_rfl) ?_ _
        go_wp2_with fail
        go_end0
        have HE := JSt.endA (cd := cd) hJX hjX hB0 hB1 hB2 hB3 HBK.out HBD.out hgrow hat hown hrd6 ha6 hobj6 hg1 hgg hggj
        exact OneE.ok (HRo.out _ _ rfl) HE.1 ⟨_, _, _, HE.2⟩
      · go_simp
        refine hK.out _ _ (fun h => absurd (by simp) h) ?_
        clear hK K
        refine wpAnyC_one (i := 10) (by kernel_rfl) rfl (fun K hK => ?_)
        unfold jVal strV
        go_simp
        refine hK.out _ _ (fun h => absurd (by simp) h) ?_
        clear hK K
        refine wpAnyC_done (by kernel_rfl) ?_ _
        go_wp2_with fail
        go_end0
        have HE := JSt.endB (cd := cd) hJX hjX hB0 hB1 hB2 hB3 HBK.out HBD.out hgrow hat hown hrd6 ha6 hobj6 hg1 hgg hggj
        exact OneE.ok (HRo.out _ _ rfl) HE.1 ⟨_, _, _, HE.2⟩
  · go_simp
    obtain ⟨T, hT⟩ : ∃ T, T = w1.heap.size := ⟨_, rfl⟩
    rw [← hT]
    have hBT : Blk (World.alloc w1 (.cells #[.int .i64 0, .int .i64 0, .string ⟨#[]⟩, .slice none 0 0, .slice none 0 0] 25)) T 25 #[.int .i64 0, .int .i64 0, .string ⟨#[]⟩, .slice none 0 0, .slice none 0 0] := by rw [hT]; exact Blk.new _ _ _
    have hbl : Below w1.heap.size w1 (World.alloc w1 (.cells #[.int .i64 0, .int .i64 0, .string ⟨#[]⟩, .slice none 0 0, .slice none 0 0] 25)) := (Below.refl _ _).alloc (Nat.le_refl _) _
    have hsz := hbl.size
    have hJ2 := hJ1.after (AftR.of_below (g := g) hbl (Nat.le_of_lt hr1.lt))
    have hr2 := hr1.below hbl
    have hTg : T ≠ g := by have := hr1.lt; omega
    clear hT hJ1 hr1 hbl c4 cr cb
    generalize World.alloc w1 (.cells #[.int .i64 0, .int .i64 0, .string ⟨#[]⟩, .slice none 0 0, .slice none 0 0] 25) = w2 at *
    have c4 := hJ2.obj.cell 4
    have cr := hJ2.rbox.cell 0
    have cdd := hJ2.dbox.cell 0
    simp at c4 cr cdd
    refine hK.out _ _ (fun _ => ⟨c4, cr, cdd⟩) ?_
    clear hK K
    refine wpAnyC_one (i := 5) (by kernel_rfl) rfl (fun K hK => ?_)
    go_simp
    ((with_reducible refine (hval w2 hr2).mono ?_))
    intro e wX h2
    cases O with
    | bad p er =>
      obtain ⟨ha2, rfl⟩ := h2.is_bad
      exact ⟨rfl, OneE.bad (HRb.out _ _ rfl) (hJ2.aft.trans ha2)⟩
    | ok j k2 =>
      obtain ⟨ha2, hrX, Ak, ck, Ad, cd, rfl, hj⟩ := h2.is_ok
      have hJX := hJ2.after ha2
      have hBT : Blk wX T 25 #[.int .i64 0, .int .i64 0, .string ⟨#[]⟩, .slice none 0 0, .slice none 0 0] := (ha2.oth T hBT.lt hTg).trans hBT
      have hjX := hj.keep (F' := fun b => w1.heap.size ≤ b) (KeepF.refl _ _) (fun b hb _ => Nat.le_trans hsz hb)
      clear c4 cr cdd hval h2 hJ2 hr2 hj
      have c4 := hJX.obj.cell 4
      have cr := hJX.rbox.cell 0
      have cdd := hJX.dbox.cell 0
      simp at c4 cr cdd
      refine hK.out _ _ (fun _ => ⟨c4, cr, cdd⟩) ?_
      clear hK K
      have hbX : w0.heap.size + 3 ≤ wX.heap.size := by have h1 := hJX.lj; have h2 := hJX.obj.lt; omega
      refine wpAnyC_one (i := 8) (by kernel_rfl) rfl (fun K hK => ?_)
      refine step_append_lies _ (by rfl) _ _ _ (by rfl) (w0.heap.size + 3) 25 i0 _ 5 80 Tryd.underlying23 ji jz0 jz1 jz2 rfl (by omega) (.slice Ao st.2.length co) st.2.length xs (by rfl) hJX.kids ⟨T, 0, none⟩ 1 1 [.int .i64 0, .int .i64 0, .string ⟨#[]⟩, .slice none 0 0, .slice none 0 0] (by rfl) (by rfl) (World.news_of_block (cs := #[.int .i64 0, .int .i64 0, .string ⟨#[]⟩, .slice none 0 0, .slice none 0 0]) (t := 25) (fr := (0, 0)) hBT) (by simp [Value.oneCell']) (by omega) (by unfold maxLen; omega) (by omega) hbX _ rfl ?_; intro g1 cap1 w6 hown hgrow hat hlt
      have hobj6 := hJX.obj.grown hgrow (fun e => hJX.nej e.symm)
      have hr6 := hJX.rbox.grown hgrow (own_ne hJX.kids hJX.rbox (by decide))
      have hd6 := hJX.dbox.grown hgrow (own_ne hJX.kids hJX.dbox (by decide))
      have ha6 := hJX.aft.grown hgrow (fun k hk => Nat.le_trans (Nat.le_add_right _ 3) (hJX.kids.lt k hk).1) hJX.gl
      have hrd6 := Blk.grown hrX hgrow (own_ne hJX.kids hrX (by decide))
      have hg1 : gj ≠ g1 := fun e => by
        rcases hat with h | h
        · exact hJX.nej (by rw [h, e])
        · have := hJX.obj.lt; omega
      have hgg : g ≠ g1 := fun e => own_ne hown hrd6 (by decide) (by rw [e]; rfl)
      have hggj : g ≠ gj := blk_neJ hrX hJX.obj (by decide)
      clear c4 cr cdd
      have c4 := hobj6.cell 4
      have cr := hr6.cell 0
      have cdd := hd6.cell 0
      simp at c4 cr cdd
      refine hK.out _ _ (fun _ => ⟨c4, cr, cdd⟩) ?_
      clear hK K c4 cr cdd
      have j0 : (0 : Int) ≤ (st.2.length : Int) := by omega
      have j1 : (st.2.length : Int) < (st.2.length : Int) + 1 := by omega
      refine wpAnyC_take (fun _ => True) [] (i := 9) (v := ?_) rfl (by kernel_rfl) (by kernel_rfl) (by kernel_rfl) (by kernel_rfl) (fun _ _ _ h => h) (fun _ _ _ _ _ _ => trivial) (fun _ _ h => absurd (by simp) h) (Or.inl ⟨by rfl, ?_⟩) trivial ?_; rotate_left; · (intro w hSw; go_simp; try with_reducible rfl)
      simp only [Act.put]
      refine wpAnyC_take (fun _ => True) [] (i := 11) (v := ?_) rfl (by kernel_rfl) (by kernel_rfl) (by kernel_rfl) (by kernel_rfl) (fun _ _ _ h => h) (fun _ _ _ _ _ _ => trivial) (fun _ _ h => absurd (by simp) h) (Or.inl ⟨by rfl, ?_⟩) trivial ?_; rotate_left; · (intro w hSw; go_simp; try with_reducible rfl)
      simp only [Act.put]
      have q0 : w6.cell? ⟨g1, st.2.length * 5, none⟩ = some (.int .i64 0) := own_cell hown _ _ ((at5 0 hlen).trans rfl)
      have q1 : w6.cell? ⟨g1, st.2.length * 5 + 1, none⟩ = some (.int .i64 0) := own_cell hown _ _ ((at5 1 hlen).trans rfl)
      have q2 : w6.cell? ⟨g1, st.2.length * 5 + 2, none⟩ = some (.string ⟨#[]⟩) := own_cell hown _ _ ((at5 2 hlen).trans rfl)
      have q3 : w6.cell? ⟨g1, st.2.length * 5 + 3, none⟩ = some (.slice none 0 0) := own_cell hown _ _ ((at5 3 hlen).trans rfl)
      have q4 : w6.cell? ⟨g1, st.2.length * 5 + 4, none⟩ = some (.slice none 0 0) := own_cell hown _ _ ((at5 4 hlen).trans rfl)
      have p0 := hown.frozenAt (st.2.length * 5)
      have p1 := hown.frozenAt (st.2.length * 5 + 1)
      have p2 := hown.frozenAt (st.2.length * 5 + 2)
      have p3 := hown.frozenAt (st.2.length * 5 + 3)
      have p4 := hown.frozenAt (st.2.length * 5 + 4)
      have d4 := hobj6.cell 4
      have d5 := hobj6.frozen 4
      simp at d4
      refine wpAnyC_two (i := 10) (j := 12) (by kernel_rfl) rfl rfl (fun K hK => ?_) (fun K hK => ?_)
      · unfold jVal strV
        go_simp
        refine hK.out _ _ (fun h => absurd (by simp) h) ?_
        clear hK K
        refine wpAnyC_one (i := 12) (by kernel_rfl) rfl (fun K hK => ?_)
        go_simp
        refine hK.out _ _ (fun h => absurd (by simp) h) ?_
        clear hK K
        refine wpAnyC_done (by kernel_rfl) ?_ _
        go_wp2_with fail
        go_end0
        have HE := JSt.endA (cd := cd) hJX hjX hB0 hB1 hB2 hB3 HBK.out HBD.out hgrow hat hown hrd6 ha6 hobj6 hg1 hgg hggj
        exact OneE.ok (HRo.out _ _ rfl) HE.1 ⟨_, _, _, HE.2⟩
      · go_simp
        refine hK.out _ _ (fun h => absurd (by simp) h) ?_
        clear hK K
        refine wpAnyC_one (i := 10) (by kernel_rfl) rfl (fun K hK => ?_)
        unfold jVal strV
        go_simp
        refine hK.out _ _ (fun h => absurd (by simp) h) ?_
        clear hK K
        refine wpAnyC_done (by kernel_rfl) ?_ _
        go_wp2_with fail
        go_end0
        have HE := JSt.endB (cd := cd) hJX hjX hB0 hB1 hB2 hB3 HBK.out HBD.out hgrow hat hown hrd6 ha6 hobj6 hg1 hgg hggj
        exact OneE.ok (HRo.out _ _ rfl) HE.1 ⟨_, _, _, HE.2⟩
end Go.Proofs.YtgpjcjnimheglaaDoor
/-
  WALKS of package lex: sign, Word.
-/
namespace Go.Proofs.YtgpjcjnimheglaaDoor
open Go.RowKit

def IdxP (r : Int) (l : List Bs) (x : Bs) : Prop := decide (0 ≤ r) = l.contains x
set_option maxHeartbeats 1000000 in
set_option maxRecDepth 100000 in
theorem index_walk (A : Option Addr) (c : Nat) (l : List Bs) (x : Bs) (w : World) (h1 : Rd w w.heap.size 1 A l.length (txtV l)) (hl : l.length ≤ 4194304) :
    Calls Tryd.prog 36 #[.slice A l.length c, .string ⟨x.toArray⟩] w fun e w' => ∃ r : Int, e = .returned (.int .i64 r) ∧ IdxP r l x ∧ w' = w := by
  go_enter Tryd.func36, Tryd.ntmps36
  go_wp2_with fail
  go_loop [8] (fun i => ∃ k : Nat, k ≤ l.length ∧ i = .int .i64 k ∧ Hid (x ∉ l.take k)) (fun i => l.length - (intOf i).toNat)
  case atStart => exact ⟨0, Nat.zero_le _, rfl, by show _ ∉ _; simp⟩
  case round =>
    obtain ⟨k, hk, rfl, H⟩ := hrel
    by_cases hlt : k < l.length
    · obtain ⟨b, o, rfl, hbB, c0⟩ := Rd.txt h1 hlt
      have i1 : (0 : Int) ≤ (k : Int) := by omega
      have i2 : (k : Int) < (l.length : Int) := by omega
      have Hst : Hid (x ≠ l[k] → x ∉ l.take (k + 1)) := fun h => by
        rw [List.take_succ_eq_append_getElem hlt, List.mem_append, List.mem_singleton]
        rintro (h2 | h2)
        · exact H.out h2
        · exact h h2
      have Hin : Hid (x = l[k] → l.contains x = true) := fun h => by rw [h]; simp
      unfold strV at c0
      generalize l[k] = y at *
      by_cases hxy : x = y
      · have hc := Lib.hid (Hin.out hxy)
        subst hxy
        go_wp2_with fail
        go_ret
        exact ⟨_, rfl, by unfold IdxP; rw [hc.out]; simp, rfl⟩
      · have d1 : (x == y) = false := by simp [hxy]
        have Hn := Lib.hid (Hst.out hxy)
        clear hxy
        go_wp2_with fail
        go_round
        case rel => exact ⟨k + 1, by omega, by go_num, Hn.out⟩
        case measure => simp [intOf]; omega
    · obtain rfl : k = l.length := by omega
      have hc : Hid (l.contains x = false) := by
        show _ = _
        have := H.out
        rw [List.take_length] at this
        simpa using this
      go_wp2_with fail
      go_ret
      exact ⟨_, rfl, by unfold IdxP; rw [hc.out]; rfl, rfl⟩

set_option maxRecDepth 100000 in
theorem contains_walk (A : Option Addr) (c : Nat) (l : List Bs) (x : Bs) (w : World) (h1 : Rd w w.heap.size 1 A l.length (txtV l)) (hl : l.length ≤ 4194304) :
    Calls Tryd.prog 20 #[.slice A l.length c, .string ⟨x.toArray⟩] w fun e w' => e = .returned (.bool (l.contains x)) ∧ w' = w := by
  have hI := index_walk A c l x w h1 hl
  go_enter Tryd.func20, Tryd.ntmps20
  go_wp2_with fail
  refine hI.mono ?_
  clear hI
  rintro e w' ⟨r, rfl, Hr, rfl⟩
  go_wp2_with fail
  go_ret
  exact ⟨by rw [← show decide (0 ≤ r) = l.contains x from Hr]; rfl, rfl⟩

end Go.Proofs.YtgpjcjnimheglaaDoor
