/-
  JOINED of the texts RegC NL NU NV
-/
import Derived.Test.YtgpjcjnimheglaaGreatDoorBase
import Derived.Deep.RegionHeld3
import Derived.Test.YtgpjcjnimheglaaGreatDoorNJ
import Derived.Test.YtgpjcjnimheglaaGreatDoorLI
import Derived.Test.YtgpjcjnimheglaaGreatDoorJA
/-
  A REGION THAT DRAWS ITS ORDER: as the library's wpAnyH, but behind each operation j its own condition C j is asked; an operation is taken first under a condition S that C gives behind all but the operations L, which wait for it; where two are ready: each.
-/
namespace Go.Proofs.YtgpjcjnimheglaaGreatDoor
open Go.RowKit
section
variable {P : Program} {ops : Array Oper} {Q : Exit → Act → World → Prop} {md : Region.Mode} {C : Nat → World → Prop}

def wpAnyC (P : Program) (md : Region.Mode) (ops : Array Oper) (Q : Exit → Act → World → Prop) (C : Nat → World → Prop) : Nat → Array Bool → Act → World → Prop
  | 0, listed, a, w => Region.ready md ops listed = [] ∧ Q .normal a w
  | fuel + 1, listed, a, w =>
    (Region.ready md ops listed = [] → Q .normal a w) ∧
    ∀ i ∈ Region.ready md ops listed, wpOp P ops Q i (fun a' w' => C i w' ∧ wpAnyC P md ops Q C fuel (listed.setIfInBounds i true) a' w') a w

theorem wpAny_of_C : ∀ (fuel : Nat) (listed : Array Bool) (a : Act) (w : World), wpAnyC P md ops Q C fuel listed a w → wpAny P md ops Q fuel listed a w
  | 0, _, _, _, h => h
  | fuel + 1, _, _, _, h => ⟨h.1, fun i hi => wpOp_mono (fun a' w' h' => wpAny_of_C fuel _ a' w' h'.2) (h.2 i hi)⟩

/-- operation L waitsC for operation i -/
def waitsC (md : Region.Mode) (ops : Array Oper) (L i : Nat) : Bool :=
  match ops[L]? with
  | some o => o.after.toList.any fun e => Region.binds md e && e.on == i
  | none => true

theorem wpAnyC_first {S : World → Prop} (L : List Nat) {i : Nat} {oi : Oper} {v : Value} (hi : ops[i]? = some oi) (hsel : ∀ (j : Nat) (o : Oper) cs b, ops[j]? = some o → o.op ≠ .select cs b)
    (hQ : ∀ c a w, Q (.panic c) (a.put oi.dst v) w → Q (.panic c) a w) (hL : L.all (fun l => waitsC md ops l i) = true) (hCi : ∀ w', S w' → C i w') :
    ∀ (fuel : Nat) (listed : Array Bool) (a : Act) (w : World),
      (∀ j oj, ops[j]? = some oj → j ≠ i → listed.getD j true = false → (∀ e ∈ oj.after, Region.binds md e = true → e.on ≠ i) → oi.apart ops oj = true) →
      (∀ j w', listed.getD j true = false → j ≠ i → j ∉ L → C j w' → S w') → i ∈ Region.ready md ops listed → YieldsIf P ops S oi v a → S w →
      wpAnyC P md ops Q C fuel (listed.setIfInBounds i true) (a.put oi.dst v) w → wpAnyC P md ops Q C (fuel + 1) listed a w := by
  intro fuel
  induction fuel with
  | zero =>
    intro listed a w _ _ hr hy hS H
    refine ⟨fun h => (by rw [h] at hr; cases hr), fun j hj => ?_⟩
    by_cases hji : j = i
    · subst hji; exact hy.wpOp hi hS ⟨hCi _ hS, H⟩
    · have := ready_mono hj hji
      rw [H.1] at this
      cases this
  | succ fuel ih =>
    intro listed a w hfree hC hr hy hS H
    refine ⟨fun h => (by rw [h] at hr; cases hr), fun j hj => ?_⟩
    by_cases hji : j = i
    · subst hji; exact hy.wpOp hi hS ⟨hCi _ hS, H⟩
    · have h1 := H.2 j (ready_mono hj hji)
      obtain ⟨hjun, oj, hoj, hall⟩ := mem_ready.1 hj
      have hnot : ∀ e ∈ oj.after, Region.binds md e = true → e.on ≠ i := fun e he hb heq => by
        have h1 := hall e he hb
        have h0 := (mem_ready.1 hr).1
        rw [heq] at h1
        rcases Nat.lt_or_ge i listed.size with h' | h'
        · simp [h'] at h0 h1; rw [h0] at h1; cases h1
        · simp [Array.getElem?_eq_none h'] at h1
      have hjL : j ∉ L := fun hjm => by
        have hL := List.all_eq_true.1 hL j hjm
        unfold waitsC at hL
        rw [hoj] at hL
        simp only [List.any_eq_true, Bool.and_eq_true, beq_iff_eq] at hL
        obtain ⟨e, he, hb, hon⟩ := hL
        exact hnot e (Array.mem_toList_iff.1 he) hb hon
      have h2 := wpOp_putIf hoj (hfree j oj hoj hji hjun hnot) (fun cs b => hsel i oi cs b hi) (fun cs b => hsel j oj cs b hoj) hQ hy h1
      have hfree' : ∀ k ok, ops[k]? = some ok → k ≠ i → (listed.setIfInBounds j true).getD k true = false →
          (∀ e ∈ ok.after, Region.binds md e = true → e.on ≠ i) → oi.apart ops ok = true := fun k ok hk hki hun hno => by
        refine hfree k ok hk hki ?_ hno
        by_cases hjk : j = k
        · subst hjk; exact hjun
        · rw [getD_set_ne true hjk] at hun; exact hun
      have hC' : ∀ k w', (listed.setIfInBounds j true).getD k true = false → k ≠ i → k ∉ L → C k w' → S w' := fun k w' hun hki hkL hCk => by
        refine hC k w' ?_ hki hkL hCk
        by_cases hjk : j = k
        · subst hjk; exact hjun
        · rw [getD_set_ne true hjk] at hun; exact hun
      refine wpOp_mono (fun a' w' h3 => ⟨h3.2.1, ih (listed.setIfInBounds j true) a' w' hfree' hC' (ready_mono hr (Ne.symm hji)) h3.1 (hC j w' hjun hji hjL h3.2.1) ?_⟩) h2
      rw [Array.setIfInBounds_comm _ _ hji]
      exact h3.2.2

theorem wpAnyC_take (S : World → Prop) (L : List Nat) {i : Nat} {oi : Oper} {v : Value} {fuel : Nat} {listed : Array Bool} {a : Act} {w : World} (hi : ops[i]? = some oi)
    (hs : Region.noSelect ops = true) (hf : Region.free md ops listed i = true) (hr : (Region.ready md ops listed).contains i = true) (hL : L.all (fun l => waitsC md ops l i) = true)
    (hQ : ∀ c a w, Q (.panic c) (a.put oi.dst v) w → Q (.panic c) a w) (hC : ∀ j w', listed.getD j true = false → j ≠ i → j ∉ L → C j w' → S w') (hCi : ∀ w', S w' → C i w') (hy : YieldsIf P ops S oi v a) (hS : S w)
    (h : wpAnyC P md ops Q C fuel (listed.setIfInBounds i true) (a.put oi.dst v) w) : wpAnyC P md ops Q C (fuel + 1) listed a w :=
  wpAnyC_first L hi (Region.noSelect_spec hs) hQ hL hCi fuel listed a w (Region.free_spec hi hf) hC (by simpa using hr) hy hS h

theorem wpAnyC_one {i : Nat} {o : Oper} {fuel : Nat} {listed : Array Bool} {a : Act} {w : World} (hr : Region.ready md ops listed = [i]) (ho : ops[i]? = some o)
    (h : ∀ K' : Act → World → Prop, Shut (∀ a w, C i w → wpAnyC P md ops Q C fuel (listed.setIfInBounds i true) a w → K' a w) → if Region.wanted o (yielded ops a.tmps) = true then Oper.wp P o a w K' Q else K' (a.put o.dst undef) w) :
    wpAnyC P md ops Q C (fuel + 1) listed a w :=
  ⟨fun h0 => (by rw [h0] at hr; cases hr), fun j hj => by
    rw [hr, List.mem_singleton] at hj
    subst hj
    exact wpOp_step ho fun K' hK => h K' fun a w hS hW => hK a w ⟨hS, hW⟩⟩

theorem wpAnyC_two {i j : Nat} {o o' : Oper} {fuel : Nat} {listed : Array Bool} {a : Act} {w : World} (hr : Region.ready md ops listed = [i, j]) (ho : ops[i]? = some o) (ho' : ops[j]? = some o')
    (h : ∀ K' : Act → World → Prop, Shut (∀ a w, C i w → wpAnyC P md ops Q C fuel (listed.setIfInBounds i true) a w → K' a w) → if Region.wanted o (yielded ops a.tmps) = true then Oper.wp P o a w K' Q else K' (a.put o.dst undef) w)
    (h' : ∀ K' : Act → World → Prop, Shut (∀ a w, C j w → wpAnyC P md ops Q C fuel (listed.setIfInBounds j true) a w → K' a w) → if Region.wanted o' (yielded ops a.tmps) = true then Oper.wp P o' a w K' Q else K' (a.put o'.dst undef) w) :
    wpAnyC P md ops Q C (fuel + 1) listed a w :=
  ⟨fun h0 => (by rw [h0] at hr; cases hr), fun m hm => by
    rw [hr] at hm
    simp only [List.mem_cons, List.mem_nil_iff, or_false] at hm
    rcases hm with rfl | rfl
    · exact wpOp_step ho fun K' hK => h K' fun a w hS hW => hK a w ⟨hS, hW⟩
    · exact wpOp_step ho' fun K' hK => h' K' fun a w hS hW => hK a w ⟨hS, hW⟩⟩

theorem wpAnyC_done {listed : Array Bool} {a : Act} {w : World} (hr : Region.ready md ops listed = []) (h : Q .normal a w) : ∀ fuel, wpAnyC P md ops Q C fuel listed a w
  | 0 => ⟨hr, h⟩
  | _ + 1 => ⟨fun _ => h, by rw [hr]; simp⟩

theorem wp_region_C {id : Nat} {a : Act} {w : World} (C : Nat → World → Prop) (hm : P.follows .mixedOrders = true)
    (h : wpAnyC P .any ops Q C ops.size (Array.replicate ops.size false) a w.drew) : (Code.region id ops true).wp P Q a w :=
  wp_region_any hm (wpAny_of_C _ _ _ _ h)
end
end Go.Proofs.YtgpjcjnimheglaaGreatDoor
/-
  WALKS of package wire's reader: value's first closure.
-/
namespace Go.Proofs.YtgpjcjnimheglaaGreatDoor
open Go.RowKit

/-- a value -/
def jVal (j : JT) (Ak : Option Addr) (ck : Nat) (Ad : Option Addr) (cd : Nat) : Value := .agg #[.int .i64 j.kind, .int .i64 j.num, strV j.text, .slice Ak j.keys.length ck, .slice Ad j.kids.length cd]
/-- how the reading of a value ends -/
def ValE (g : Nat) (s : Bs) (w : World) (f : Nat) (r : Jp.Rs JT) (e : Ending) (w' : World) : Prop :=
  AftR g w w' ∧ match r with
    | .ok j k => RdrAt w' g s k ∧ ∃ Ak ck Ad cd, e = .returned (jVal j Ak ck Ad cd) ∧ JInF w' (fun b => w.heap.size ≤ b) f j Ak ck Ad
    | .bad p er => e = .panicked (faultC p er)
section
variable {g : Nat} {s : Bs} {w w' : World} {f : Nat} {r : Jp.Rs JT}
theorem ValE.ok {j : JT} {k : Nat} {Ak Ad : Option Addr} {ck cd : Nat} (h : r = .ok j k) (ha : AftR g w w') (hr : RdrAt w' g s k) (hj : JInF w' (fun b => w.heap.size ≤ b) f j Ak ck Ad) : ValE g s w f r (.returned (jVal j Ak ck Ad cd)) w' := by
  subst h; exact ⟨ha, hr, Ak, ck, Ad, cd, rfl, hj⟩
theorem ValE.bad {p er : Nat} (h : r = .bad p er) (ha : AftR g w w') : ValE g s w f r (.panicked (faultC p er)) w' := by subst h; exact ⟨ha, rfl⟩
theorem ValE.is_ok {j : JT} {k : Nat} {e : Ending} (h : ValE g s w f (.ok j k) e w') : AftR g w w' ∧ RdrAt w' g s k ∧ ∃ Ak ck Ad cd, e = .returned (jVal j Ak ck Ad cd) ∧ JInF w' (fun b => w.heap.size ≤ b) f j Ak ck Ad := h
theorem ValE.is_bad {p er : Nat} {e : Ending} (h : ValE g s w f (.bad p er) e w') : AftR g w w' ∧ e = .panicked (faultC p er) := h
end

theorem infoJ : (Tryz.prog.info? 70).map (fun i => (i.zero, i.size, i.bytes)) = some (some (.agg #[.int .i64 0, .int .i64 0, .string ⟨#[]⟩, .slice none 0 0, .slice none 0 0]), 5, 80) := by kernel_rfl

theorem set5 (xs : List Value) (z0 z1 z2 z3 z4 u0 u1 u2 u3 u4 : Value) (n : Nat) (hn : xs.length = n) : (((((xs ++ [z0, z1, z2, z3, z4]).set n u0).set (n + 1) u1).set (n + 2) u2).set (n + 3) u3).set (n + 4) u4 = xs ++ [u0, u1, u2, u3, u4] := by
  subst hn
  induction xs with
  | nil => rfl
  | cons a l ih => simp [Nat.add_assoc]; try exact ih

/-- a value stored into the last place of a row of one's own -/
theorem own5 {w : World} {base : Nat} {t : TypeId} {gd n cap : Nat} {xs : List Value} {z0 z1 z2 z3 z4 : Value} (h : w.ownsRow base t 5 (.slice (some ⟨gd, 0, none⟩) (n + 1) cap) (n + 1) (xs ++ [z0, z1, z2, z3, z4])) (hx : xs.length = n * 5) (u0 u1 u2 u3 u4 : Value) :
    (((((w.setCell ⟨gd, n * 5, none⟩ u0).setCell ⟨gd, n * 5 + 1, none⟩ u1).setCell ⟨gd, n * 5 + 2, none⟩ u2).setCell ⟨gd, n * 5 + 3, none⟩ u3).setCell ⟨gd, n * 5 + 4, none⟩ u4).ownsRow base t 5 (.slice (some ⟨gd, 0, none⟩) (n + 1) cap) (n + 1) (xs ++ [u0, u1, u2, u3, u4]) := by
  have h5 := ((((h.stored (n * 5) u0).1.stored (n * 5 + 1) u1).1.stored (n * 5 + 2) u2).1.stored (n * 5 + 3) u3).1.stored (n * 5 + 4) u4
  rw [set5 xs z0 z1 z2 z3 z4 u0 u1 u2 u3 u4 (n * 5) hx] at h5
  exact h5.1
theorem far5 (w : World) (gd o k : Nat) (u0 u1 u2 u3 u4 : Value) (hk : k ≠ gd) : (((((w.setCell ⟨gd, o, none⟩ u0).setCell ⟨gd, o + 1, none⟩ u1).setCell ⟨gd, o + 2, none⟩ u2).setCell ⟨gd, o + 3, none⟩ u3).setCell ⟨gd, o + 4, none⟩ u4).heap[k]? = w.heap[k]? := by
  rw [Below.heap_setCell _ _ _ k (by simpa using hk), Below.heap_setCell _ _ _ k (by simpa using hk), Below.heap_setCell _ _ _ k (by simpa using hk), Below.heap_setCell _ _ _ k (by simpa using hk), Below.heap_setCell _ _ _ k (by simpa using hk)]

theorem AftR.far {g : Nat} {w1 w : World} (h : AftR g w1 w) {b : Nat} (hb : w1.heap.size ≤ b) (hg : g < w1.heap.size) (o : Nat) (u : Value) : AftR g w1 (w.setCell ⟨b, o, none⟩ u) :=
  ⟨h.bel.setCell (p := ⟨b, o, none⟩) (by show g ≤ b; omega) u, fun k hk hn => (Below.heap_setCell w ⟨b, o, none⟩ u k (by show k ≠ b; omega)).trans (h.oth k hk hn)⟩
theorem AftR.grown {g : Nat} {w1 w w' : World} {row : Option Nat} (h : AftR g w1 w) (hg : w.grownBy w' row) (hr : ∀ k, row = some k → w1.heap.size ≤ k) (hl : g < w1.heap.size) : AftR g w1 w' :=
  ⟨h.bel.grown hg (by have := h.bel.size; omega) (fun k hk => by have := hr k hk; omega), fun k hk hn => (hg.block k (by have := h.bel.size; have := h.oth; have := hg.size; exact Nat.lt_of_lt_of_le hk h.bel.size) (fun e => by have := hr k e.symm; omega)).trans (h.oth k hk hn)⟩
theorem AftR.five {g : Nat} {w1 w : World} (h : AftR g w1 w) {b : Nat} (hb : w1.heap.size ≤ b) (hg : g < w1.heap.size) (o : Nat) (u0 u1 u2 u3 u4 : Value) : AftR g w1 (((((w.setCell ⟨b, o, none⟩ u0).setCell ⟨b, o + 1, none⟩ u1).setCell ⟨b, o + 2, none⟩ u2).setCell ⟨b, o + 3, none⟩ u3).setCell ⟨b, o + 4, none⟩ u4) :=
  ((((h.far hb hg _ _).far hb hg _ _).far hb hg _ _).far hb hg _ _).far hb hg _ _

theorem blk_neJ {w : World} {g h : Nat} {t t' : TypeId} {cs cs' : Array Value} (hg : Blk w g t cs) (hh : Blk w h t' cs') (hne : t ≠ t') : g ≠ h := fun e => by
  subst e
  unfold Blk at hg hh
  rw [hg] at hh
  injection hh with hh
  injection hh with _ h1 _
  exact hne h1

/-- a kid more -/
theorem JSt.push {w0 : World} {g gj br bd f dep : Nat} {kind : Int} {w5 w6 w7 : World} {st : Jp.KK} {vK vD : Value} {xs : List Value} {g1 cap B : Nat} {j : JT} {Ak Ad : Option Addr} {ck cd : Nat} {zs : List Value}
    (hJ : JSt w0 g gj br bd f dep kind w5 st vK vD xs) (hj : JInF w5 (fun b => B ≤ b) f j Ak ck Ad) (_hB0 : w0.heap.size ≤ B) (hBj : gj < B) (hBr : br < B) (hBd : bd < B) (hBK : ∀ b, vK.ownBlock = some b → b < B) (hBD : ∀ b, vD.ownBlock = some b → b < B)
    (hgrow : w5.grownBy w6 vD.ownBlock) (hat : vD.ownBlock = some g1 ∨ g1 = w5.heap.size) (hown : w6.ownsRow (w0.heap.size + 3) 70 5 (.slice (some ⟨g1, 0, none⟩) (st.2.length + 1) cap) (st.2.length + 1) (xs ++ zs))
    (haft : AftR g w0 w7) (hobj : Blk w7 gj 70 #[.int .i64 kind, .int .i64 0, .string ⟨#[]⟩, vK, .slice (some ⟨g1, 0, none⟩) (st.2.length + 1) cap])
    (hown7 : w7.ownsRow (w0.heap.size + 3) 70 5 (.slice (some ⟨g1, 0, none⟩) (st.2.length + 1) cap) (st.2.length + 1) (xs ++ jcells j Ak ck Ad cd)) (hoth : ∀ b, b ≠ gj → b ≠ g1 → w7.heap[b]? = w6.heap[b]?) (hsz : w6.heap.size ≤ w7.heap.size) :
    JSt w0 g gj br bd f dep kind w7 (st.1, st.2 ++ [j]) vK (.slice (some ⟨g1, 0, none⟩) (st.2.length + 1) cap) (xs ++ jcells j Ak ck Ad cd) := by
  have hK6 := own_far hJ.keys hJ.kids hgrow (by decide)
  have hr6 : Blk w6 br 135 #[.pointer (some ⟨g, 0, none⟩)] := hJ.rbox.grown hgrow (own_ne hJ.kids hJ.rbox (by decide))
  have hd6 : Blk w6 bd 3 #[.int .i64 dep] := hJ.dbox.grown hgrow (own_ne hJ.kids hJ.dbox (by decide))
  have n1 : br ≠ g1 := fun e => own_ne hown hr6 (by decide) (by rw [e]; rfl)
  have n2 : bd ≠ g1 := fun e => own_ne hown hd6 (by decide) (by rw [e]; rfl)
  have n3 : br ≠ gj := blk_neJ hJ.rbox hJ.obj (by decide)
  have n4 : bd ≠ gj := blk_neJ hJ.dbox hJ.obj (by decide)
  have hkf : KeepF (fun b => w0.heap.size + 3 ≤ b ∧ b ≠ gj ∧ b ≠ br ∧ b ≠ bd ∧ vK.ownBlock ≠ some b ∧ vD.ownBlock ≠ some b) w5 w7 :=
    ⟨Nat.le_trans hgrow.size hsz, fun b hb hl => (hoth b hb.2.1 (fun e => by rcases hat with h | h; exact hb.2.2.2.2.2 (by rw [h, e]); omega)).trans (hgrow.block b hl (fun e => hb.2.2.2.2.2 e.symm))⟩
  have hFF : ∀ b, (w0.heap.size + 3 ≤ b ∧ b ≠ gj ∧ b ≠ br ∧ b ≠ bd ∧ vK.ownBlock ≠ some b ∧ vD.ownBlock ≠ some b) → b < w5.heap.size → (w0.heap.size + 3 ≤ b ∧ b ≠ gj ∧ b ≠ br ∧ b ≠ bd ∧ vK.ownBlock ≠ some b ∧ (Value.slice (some ⟨g1, 0, none⟩) (st.2.length + 1) cap).ownBlock ≠ some b) := fun b hb hl =>
    ⟨hb.1, hb.2.1, hb.2.2.1, hb.2.2.2.1, hb.2.2.2.2.1, fun e => by
      have e : g1 = b := by simpa [Value.ownBlock] using e
      rcases hat with h | h
      · exact hb.2.2.2.2.2 (by rw [h, e])
      · omega⟩
  have hlj := hJ.lj
  have hjF : JInF w5 (fun b => w0.heap.size + 3 ≤ b ∧ b ≠ gj ∧ b ≠ br ∧ b ≠ bd ∧ vK.ownBlock ≠ some b ∧ vD.ownBlock ≠ some b) f j Ak ck Ad :=
    hj.keep (KeepF.refl _ _) fun b hb _ => ⟨by omega, by omega, by omega, by omega, fun e => by have := hBK b e; omega, fun e => by have := hBD b e; omega⟩
  refine ⟨haft, hobj, (hoth br n3 n1).trans hr6, (hoth bd n4 n2).trans hd6, ?_, by simpa using hown7, (hJ.rows.snoc hjF).keep hkf hFF, hJ.gl, hJ.lj, hJ.lr, hJ.ld, fun e => by
    have e : g1 = gj := by simpa [Value.ownBlock] using e
    rcases hat with h | h
    · exact hJ.nej (by rw [h, e])
    · have := hJ.obj.lt; omega, (hoth _ (by have := hJ.lj; omega) (by have := (hown.lt g1 rfl).1; omega)).trans (hJ.res.grown hgrow (fun e => by have := (hJ.kids.lt _ e.symm).1; omega))⟩
  refine own_of_block hK6 fun b hb => hoth b ?_ ?_
  · intro e
    subst e
    exact own_ne hJ.keys hJ.obj (by decide) hb.symm
  · intro e
    subst e
    obtain ⟨cs, fr, h1⟩ := own_ty hK6 b hb
    obtain ⟨cs', fr', h2⟩ := own_ty hown b rfl
    rw [h1] at h2
    injection h2 with h2
    injection h2 with _ h2 _
    revert h2; decide

/-- five cells of a row stored -/
abbrev five (w : World) (gd o : Nat) (u0 u1 u2 u3 u4 : Value) : World := ((((w.setCell ⟨gd, o, none⟩ u0).setCell ⟨gd, o + 1, none⟩ u1).setCell ⟨gd, o + 2, none⟩ u2).setCell ⟨gd, o + 3, none⟩ u3).setCell ⟨gd, o + 4, none⟩ u4
theorem five_size (w : World) (gd o : Nat) (u0 u1 u2 u3 u4 : Value) : (five w gd o u0 u1 u2 u3 u4).heap.size = w.heap.size := by simp [five, World.setCell]
theorem at5 {xs zs : List Value} {n : Nat} (k : Nat) (hn : xs.length = n) : (xs ++ zs)[n + k]? = zs[k]? := by
  subst hn
  rw [List.getElem?_append_right (by omega)]
  congr 1
  omega

section
variable {w0 : World} {g gj br bd f dep : Nat} {kind : Int} {w5 w6 : World} {st : Jp.KK} {vK vD : Value} {xs : List Value} {g1 cap B k : Nat} {s : Bs} {j : JT} {Ak Ad : Option Addr} {ck cd : Nat}
theorem JSt.endA0 {W : World}
    (hJ : JSt w0 g gj br bd f dep kind w5 st vK vD xs) (hj : JInF w5 (fun b => B ≤ b) f j Ak ck Ad) (_hB0 : w0.heap.size ≤ B) (hBj : gj < B) (hBr : br < B) (hBd : bd < B) (hBK : ∀ b, vK.ownBlock = some b → b < B) (hBD : ∀ b, vD.ownBlock = some b → b < B)
    (hgrow : w5.grownBy w6 vD.ownBlock) (hat : vD.ownBlock = some g1 ∨ g1 = w5.heap.size) (hown : w6.ownsRow (w0.heap.size + 3) 70 5 (.slice (some ⟨g1, 0, none⟩) (st.2.length + 1) cap) (st.2.length + 1) (xs ++ [.int .i64 0, .int .i64 0, .string ⟨#[]⟩, .slice none 0 0, .slice none 0 0]))
    (hrd : RdrAt w6 g s k) (_ha6 : AftR g w0 w6) (hobj : Blk w6 gj 70 #[.int .i64 kind, .int .i64 0, .string ⟨#[]⟩, vK, vD]) (hg1 : gj ≠ g1) (hgg : g ≠ g1) (hggj : g ≠ gj)
    (h5 : W.ownsRow (w0.heap.size + 3) 70 5 (.slice (some ⟨g1, 0, none⟩) (st.2.length + 1) cap) (st.2.length + 1) (xs ++ jcells j Ak ck Ad cd)) (hf : ∀ k, k ≠ g1 → W.heap[k]? = w6.heap[k]?) (hs : W.heap.size = w6.heap.size) (ha : AftR g w0 W) :
    RdrAt (W.setCell ⟨gj, 4, none⟩ (.slice (some ⟨g1, 0, none⟩) (st.2.length + 1) cap)) g s k ∧
    JSt w0 g gj br bd f dep kind (W.setCell ⟨gj, 4, none⟩ (.slice (some ⟨g1, 0, none⟩) (st.2.length + 1) cap)) (st.1, st.2 ++ [j]) vK (.slice (some ⟨g1, 0, none⟩) (st.2.length + 1) cap) (xs ++ jcells j Ak ck Ad cd) := by
  refine ⟨Blk.far ((hf g hgg).trans hrd) hggj _, ?_⟩
  refine hJ.push hj _hB0 hBj hBr hBd hBK hBD hgrow hat hown (ha.far (Nat.le_trans (Nat.le_add_right _ 3) hJ.lj) hJ.gl _ _) ?_ ?_ ?_ ?_
  · have := Blk.set_ ((hf gj hg1).trans hobj : Blk W gj _ _) 4 (.slice (some ⟨g1, 0, none⟩) (st.2.length + 1) cap)
    simpa using this
  · exact own_of_block h5 fun k hk => Below.heap_setCell _ _ _ k (by
      have hk : g1 = k := by simpa [Value.ownBlock] using hk
      show k ≠ gj
      omega)
  · intro b h1 h2
    exact (Below.heap_setCell _ _ _ b h1).trans (hf b h2)
  · have hsz : (W.setCell ⟨gj, 4, none⟩ (.slice (some ⟨g1, 0, none⟩) (st.2.length + 1) cap)).heap.size = W.heap.size := by simp [World.setCell]
    rw [hsz, ← hs]; exact Nat.le_refl _
theorem JSt.endA
    (hJ : JSt w0 g gj br bd f dep kind w5 st vK vD xs) (hj : JInF w5 (fun b => B ≤ b) f j Ak ck Ad) (_hB0 : w0.heap.size ≤ B) (hBj : gj < B) (hBr : br < B) (hBd : bd < B) (hBK : ∀ b, vK.ownBlock = some b → b < B) (hBD : ∀ b, vD.ownBlock = some b → b < B)
    (hgrow : w5.grownBy w6 vD.ownBlock) (hat : vD.ownBlock = some g1 ∨ g1 = w5.heap.size) (hown : w6.ownsRow (w0.heap.size + 3) 70 5 (.slice (some ⟨g1, 0, none⟩) (st.2.length + 1) cap) (st.2.length + 1) (xs ++ [.int .i64 0, .int .i64 0, .string ⟨#[]⟩, .slice none 0 0, .slice none 0 0]))
    (hrd : RdrAt w6 g s k) (ha6 : AftR g w0 w6) (hobj : Blk w6 gj 70 #[.int .i64 kind, .int .i64 0, .string ⟨#[]⟩, vK, vD]) (hg1 : gj ≠ g1) (hgg : g ≠ g1) (hggj : g ≠ gj) :
    RdrAt (World.setCell (five w6 g1 (st.2.length * 5) (.int .i64 j.kind) (.int .i64 j.num) (strV j.text) (.slice Ak j.keys.length ck) (.slice Ad j.kids.length cd)) ⟨gj, 4, none⟩ (.slice (some ⟨g1, 0, none⟩) (st.2.length + 1) cap)) g s k ∧
    JSt w0 g gj br bd f dep kind (World.setCell (five w6 g1 (st.2.length * 5) (.int .i64 j.kind) (.int .i64 j.num) (strV j.text) (.slice Ak j.keys.length ck) (.slice Ad j.kids.length cd)) ⟨gj, 4, none⟩ (.slice (some ⟨g1, 0, none⟩) (st.2.length + 1) cap)) (st.1, st.2 ++ [j]) vK (.slice (some ⟨g1, 0, none⟩) (st.2.length + 1) cap) (xs ++ jcells j Ak ck Ad cd) :=
  JSt.endA0 hJ hj _hB0 hBj hBr hBd hBK hBD hgrow hat hown hrd ha6 hobj hg1 hgg hggj (own5 hown hJ.rows.1 _ _ _ _ _) (fun k hk => far5 _ _ _ k _ _ _ _ _ hk) (five_size _ _ _ _ _ _ _ _) (ha6.five (b := g1) (Nat.le_trans (Nat.le_add_right _ 3) (hown.lt g1 rfl).1) hJ.gl _ _ _ _ _ _)
theorem JSt.endB
    (hJ : JSt w0 g gj br bd f dep kind w5 st vK vD xs) (hj : JInF w5 (fun b => B ≤ b) f j Ak ck Ad) (_hB0 : w0.heap.size ≤ B) (hBj : gj < B) (hBr : br < B) (hBd : bd < B) (hBK : ∀ b, vK.ownBlock = some b → b < B) (hBD : ∀ b, vD.ownBlock = some b → b < B)
    (hgrow : w5.grownBy w6 vD.ownBlock) (hat : vD.ownBlock = some g1 ∨ g1 = w5.heap.size) (hown : w6.ownsRow (w0.heap.size + 3) 70 5 (.slice (some ⟨g1, 0, none⟩) (st.2.length + 1) cap) (st.2.length + 1) (xs ++ [.int .i64 0, .int .i64 0, .string ⟨#[]⟩, .slice none 0 0, .slice none 0 0]))
    (hrd : RdrAt w6 g s k) (ha6 : AftR g w0 w6) (hobj : Blk w6 gj 70 #[.int .i64 kind, .int .i64 0, .string ⟨#[]⟩, vK, vD]) (hg1 : gj ≠ g1) (hgg : g ≠ g1) (hggj : g ≠ gj) :
    RdrAt (five (w6.setCell ⟨gj, 4, none⟩ (.slice (some ⟨g1, 0, none⟩) (st.2.length + 1) cap)) g1 (st.2.length * 5) (.int .i64 j.kind) (.int .i64 j.num) (strV j.text) (.slice Ak j.keys.length ck) (.slice Ad j.kids.length cd)) g s k ∧
    JSt w0 g gj br bd f dep kind (five (w6.setCell ⟨gj, 4, none⟩ (.slice (some ⟨g1, 0, none⟩) (st.2.length + 1) cap)) g1 (st.2.length * 5) (.int .i64 j.kind) (.int .i64 j.num) (strV j.text) (.slice Ak j.keys.length ck) (.slice Ad j.kids.length cd)) (st.1, st.2 ++ [j]) vK (.slice (some ⟨g1, 0, none⟩) (st.2.length + 1) cap) (xs ++ jcells j Ak ck Ad cd) := by
  have hx : xs.length = st.2.length * 5 := hJ.rows.1
  have ha0 : AftR g w0 (w6.setCell ⟨gj, 4, none⟩ (.slice (some ⟨g1, 0, none⟩) (st.2.length + 1) cap)) := ha6.far (Nat.le_trans (Nat.le_add_right _ 3) hJ.lj) hJ.gl _ _
  have hb0 : Blk (w6.setCell ⟨gj, 4, none⟩ (.slice (some ⟨g1, 0, none⟩) (st.2.length + 1) cap)) gj 70 #[.int .i64 kind, .int .i64 0, .string ⟨#[]⟩, vK, .slice (some ⟨g1, 0, none⟩) (st.2.length + 1) cap] := by
    have := Blk.set_ hobj 4 (.slice (some ⟨g1, 0, none⟩) (st.2.length + 1) cap)
    simpa using this
  have ho0 : (w6.setCell ⟨gj, 4, none⟩ (.slice (some ⟨g1, 0, none⟩) (st.2.length + 1) cap)).ownsRow (w0.heap.size + 3) 70 5 (.slice (some ⟨g1, 0, none⟩) (st.2.length + 1) cap) (st.2.length + 1) (xs ++ [.int .i64 0, .int .i64 0, .string ⟨#[]⟩, .slice none 0 0, .slice none 0 0]) :=
    own_of_block hown fun k hk => Below.heap_setCell _ _ _ k (by
      have hk : g1 = k := by simpa [Value.ownBlock] using hk
      show k ≠ gj
      omega)
  have hr0 : RdrAt (w6.setCell ⟨gj, 4, none⟩ (.slice (some ⟨g1, 0, none⟩) (st.2.length + 1) cap)) g s k := Blk.far hrd hggj _
  have hoth : ∀ b, b ≠ gj → (w6.setCell ⟨gj, 4, none⟩ (.slice (some ⟨g1, 0, none⟩) (st.2.length + 1) cap)).heap[b]? = w6.heap[b]? := fun b hb => Below.heap_setCell _ _ _ b hb
  have hsz : (w6.setCell ⟨gj, 4, none⟩ (.slice (some ⟨g1, 0, none⟩) (st.2.length + 1) cap)).heap.size = w6.heap.size := by simp [World.setCell]
  generalize hW : w6.setCell ⟨gj, 4, none⟩ (.slice (some ⟨g1, 0, none⟩) (st.2.length + 1) cap) = W at *
  have h5 := own5 ho0 hx (.int .i64 j.kind) (.int .i64 j.num) (strV j.text) (.slice Ak j.keys.length ck) (.slice Ad j.kids.length cd)
  have hf := fun k hk => far5 W g1 (st.2.length * 5) k (.int .i64 j.kind) (.int .i64 j.num) (strV j.text) (.slice Ak j.keys.length ck) (.slice Ad j.kids.length cd) hk
  have hs := five_size W g1 (st.2.length * 5) (.int .i64 j.kind) (.int .i64 j.num) (strV j.text) (.slice Ak j.keys.length ck) (.slice Ad j.kids.length cd)
  have ha := ha0.five (b := g1) (Nat.le_trans (Nat.le_add_right _ 3) (hown.lt g1 rfl).1) hJ.gl (st.2.length * 5) (.int .i64 j.kind) (.int .i64 j.num) (strV j.text) (.slice Ak j.keys.length ck) (.slice Ad j.kids.length cd)
  refine ⟨(hf g hgg).trans hr0, ?_⟩
  exact hJ.push hj _hB0 hBj hBr hBd hBK hBD hgrow hat hown ha ((hf gj hg1).trans hb0) h5 (fun b h1 h2 => (hf b h2).trans (hoth b h1)) (by omega)
end

set_option maxHeartbeats 4000000 in
set_option maxRecDepth 100000 in
theorem val1_walk (w0 : World) (g gj br bd f dep : Nat) (s : Bs) (hv : ∀ (i : Nat) (w : World), RdrAt w g s i → i ≤ s.length → Calls Tryz.prog 56 #[.pointer (some ⟨g, 0, none⟩), .int .i64 ((dep : Int) + 1)] w (ValE g s w f (Jp.valF s f (dep + 1) i)))
    (hdep : dep ≤ 40) (st : Jp.KK) (k : Nat) (w : World) (hP : ∃ vK vD xs, JSt w0 g gj br bd f dep 4 w st vK vD xs) (hM : st.2.length ≤ k) (hr : RdrAt w g s k) (hk : k ≤ s.length) (hl : s.length ≤ 16777216) :
    Calls Tryz.prog 87 #[.pointer (some ⟨gj, 0, none⟩), .pointer (some ⟨br, 0, none⟩), .pointer (some ⟨bd, 0, none⟩)] w (OneE g s (fun w st => ∃ vK vD xs, JSt w0 g gj br bd f dep 4 w st vK vD xs) (AftR g w0) (Jp.oneL (Jp.valF s f (dep + 1)) st k)) := by
  obtain ⟨i0, ji, jz0, jz1, jz2⟩ := info_parts infoJ
  obtain ⟨vK, vD, xs, hJ⟩ := hP
  obtain ⟨Ao, co, rfl⟩ := own_form hJ.kids
  have hval := fun w h => hv k w h hk
  have hlen := hJ.rows.1
  generalize hRR : Jp.oneL (Jp.valF s f (dep + 1)) st k = R
  have HRb : Hid (∀ p e, Jp.valF s f (dep + 1) k = .bad p e → R = .bad p e) := fun p e h => by rw [← hRR]; unfold Jp.oneL; rw [h]
  have HRo : Hid (∀ j k', Jp.valF s f (dep + 1) k = .ok j k' → R = .ok (st.1, st.2 ++ [j]) k') := fun j k' h => by rw [← hRR]; unfold Jp.oneL; rw [h]
  clear hRR hv
  generalize Jp.valF s f (dep + 1) k = O at *
  have hdep1 : (dep : Int) + 1 ≤ 41 := by omega
  have hdep2 : IntKind.i64.wrap ((dep : Int) + 1) = (dep : Int) + 1 := IntWalk.i64_in _ (by omega)
  have hnl : st.2.length ≤ 16777216 := by omega
  go_enter Tryz.func87, Tryz.ntmps87
  refine wp_region_C (fun j w' => j ∉ [9, 10, 11, 12] → w'.cell? ⟨gj, 4, none⟩ = some (.slice Ao st.2.length co) ∧ w'.cell? ⟨br, 0, none⟩ = some (.pointer (some ⟨g, 0, none⟩)) ∧ w'.cell? ⟨bd, 0, none⟩ = some (.int .i64 dep)) (by kernel_rfl) ?_
  have hJ1 := hJ.after ((AftR.refl g w).drew)
  have hr1 := hr.drew
  clear hJ hr
  generalize World.drew w = w1 at *
  have c4 := hJ1.obj.cell 4
  have cr := hJ1.rbox.cell 0
  have cb := hJ1.dbox.cell 0
  simp at c4 cr cb
  have hS0 : (fun w' : World => w'.cell? ⟨gj, 4, none⟩ = some (.slice Ao st.2.length co) ∧ w'.cell? ⟨br, 0, none⟩ = some (.pointer (some ⟨g, 0, none⟩)) ∧ w'.cell? ⟨bd, 0, none⟩ = some (.int .i64 dep)) w1 := ⟨c4, cr, cb⟩
  refine wpAnyC_take (fun w' : World => w'.cell? ⟨gj, 4, none⟩ = some (.slice Ao st.2.length co) ∧ w'.cell? ⟨br, 0, none⟩ = some (.pointer (some ⟨g, 0, none⟩)) ∧ w'.cell? ⟨bd, 0, none⟩ = some (.int .i64 dep)) [9, 10, 11, 12] (i := 0) (v := ?_) rfl (by kernel_rfl) (by kernel_rfl) (by kernel_rfl) (by kernel_rfl) (fun _ _ _ h => h) (fun j w' _ _ hL h => h hL) (fun w' h _ => h) (Or.inl ⟨by rfl, ?_⟩) hS0 ?_; rotate_left; · (intro w hSw; (try dsimp only at hSw); obtain ⟨s0, s1, s2⟩ := hSw; go_simp; try with_reducible rfl)
  simp only [Act.put, List.setIfInBounds_toArray]
  refine wpAnyC_take (fun w' : World => w'.cell? ⟨gj, 4, none⟩ = some (.slice Ao st.2.length co) ∧ w'.cell? ⟨br, 0, none⟩ = some (.pointer (some ⟨g, 0, none⟩)) ∧ w'.cell? ⟨bd, 0, none⟩ = some (.int .i64 dep)) [9, 10, 11, 12] (i := 1) (v := ?_) rfl (by kernel_rfl) (by kernel_rfl) (by kernel_rfl) (by kernel_rfl) (fun _ _ _ h => h) (fun j w' _ _ hL h => h hL) (fun w' h _ => h) (Or.inl ⟨by rfl, ?_⟩) hS0 ?_; rotate_left; · (intro w hSw; (try dsimp only at hSw); obtain ⟨s0, s1, s2⟩ := hSw; go_simp; try with_reducible rfl)
  simp only [Act.put]
  refine wpAnyC_take (fun w' : World => w'.cell? ⟨gj, 4, none⟩ = some (.slice Ao st.2.length co) ∧ w'.cell? ⟨br, 0, none⟩ = some (.pointer (some ⟨g, 0, none⟩)) ∧ w'.cell? ⟨bd, 0, none⟩ = some (.int .i64 dep)) [9, 10, 11, 12] (i := 2) (v := ?_) rfl (by kernel_rfl) (by kernel_rfl) (by kernel_rfl) (by kernel_rfl) (fun _ _ _ h => h) (fun j w' _ _ hL h => h hL) (fun w' h _ => h) (Or.inl ⟨by rfl, ?_⟩) hS0 ?_; rotate_left; · (intro w hSw; (try dsimp only at hSw); obtain ⟨s0, s1, s2⟩ := hSw; go_simp; try with_reducible rfl)
  simp only [Act.put]
  refine wpAnyC_take (fun w' : World => w'.cell? ⟨gj, 4, none⟩ = some (.slice Ao st.2.length co) ∧ w'.cell? ⟨br, 0, none⟩ = some (.pointer (some ⟨g, 0, none⟩)) ∧ w'.cell? ⟨bd, 0, none⟩ = some (.int .i64 dep)) [9, 10, 11, 12] (i := 3) (v := ?_) rfl (by kernel_rfl) (by kernel_rfl) (by kernel_rfl) (by kernel_rfl) (fun _ _ _ h => h) (fun j w' _ _ hL h => h hL) (fun w' h _ => h) (Or.inl ⟨by rfl, ?_⟩) hS0 ?_; rotate_left; · (intro w hSw; (try dsimp only at hSw); obtain ⟨s0, s1, s2⟩ := hSw; go_simp; try with_reducible rfl)
  simp only [Act.put]
  refine wpAnyC_take (fun w' : World => w'.cell? ⟨gj, 4, none⟩ = some (.slice Ao st.2.length co) ∧ w'.cell? ⟨br, 0, none⟩ = some (.pointer (some ⟨g, 0, none⟩)) ∧ w'.cell? ⟨bd, 0, none⟩ = some (.int .i64 dep)) [9, 10, 11, 12] (i := 4) (v := ?_) rfl (by kernel_rfl) (by kernel_rfl) (by kernel_rfl) (by kernel_rfl) (fun _ _ _ h => h) (fun j w' _ _ hL h => h hL) (fun w' h _ => h) (Or.inl ⟨by rfl, ?_⟩) hS0 ?_; rotate_left; · (intro w hSw; (try dsimp only at hSw); obtain ⟨s0, s1, s2⟩ := hSw; go_simp; try with_reducible rfl)
  simp only [Act.put]
  refine wpAnyC_take (fun w' : World => w'.cell? ⟨gj, 4, none⟩ = some (.slice Ao st.2.length co) ∧ w'.cell? ⟨br, 0, none⟩ = some (.pointer (some ⟨g, 0, none⟩)) ∧ w'.cell? ⟨bd, 0, none⟩ = some (.int .i64 dep)) [9, 10, 11, 12] (i := 6) (v := ?_) rfl (by kernel_rfl) (by kernel_rfl) (by kernel_rfl) (by kernel_rfl) (fun _ _ _ h => h) (fun j w' _ _ hL h => h hL) (fun w' h _ => h) (Or.inl ⟨by rfl, ?_⟩) hS0 ?_; rotate_left; · (intro w hSw; (try dsimp only at hSw); obtain ⟨s0, s1, s2⟩ := hSw; go_simp; try with_reducible rfl)
  simp only [Act.put]
  clear hS0
  have hB1 := hJ1.obj.lt
  have hB2 := hJ1.rbox.lt
  have hB3 := hJ1.dbox.lt
  have HBK : Hid (∀ b, vK.ownBlock = some b → b < w1.heap.size) := fun b h => (hJ1.keys.lt b h).2
  have HBD : Hid (∀ b, (Value.slice Ao st.2.length co).ownBlock = some b → b < w1.heap.size) := fun b h => (hJ1.kids.lt b h).2
  have hB0 : w0.heap.size ≤ w1.heap.size := hJ1.aft.bel.size
  refine wpAnyC_two (i := 5) (j := 7) (by kernel_rfl) rfl rfl (fun K hK => ?_) (fun K hK => ?_)
  · go_simp
    ((with_reducible refine (hval w1 hr1).mono ?_))
    intro e w2 h2
    cases O with
    | bad p er =>
      obtain ⟨ha2, rfl⟩ := h2.is_bad
      exact ⟨rfl, OneE.bad (HRb.out _ _ rfl) (hJ1.aft.trans ha2)⟩
    | ok j k2 =>
      obtain ⟨ha2, hr2, Ak, ck, Ad, cd, rfl, hj⟩ := h2.is_ok
      have hJ2 := hJ1.after ha2
      clear c4 cr cb hval h2 hJ1 hr1
      have c4 := hJ2.obj.cell 4
      have cr := hJ2.rbox.cell 0
      have cdd := hJ2.dbox.cell 0
      simp at c4 cr cdd
      refine hK.out _ _ (fun _ => ⟨c4, cr, cdd⟩) ?_
      clear hK K
      refine wpAnyC_one (i := 7) (by kernel_rfl) rfl (fun K hK => ?_)
      go_simp
      obtain ⟨T, hT⟩ : ∃ T, T = w2.heap.size := ⟨_, rfl⟩
      rw [← hT]
      have hBT : Blk (World.alloc w2 (.cells #[.int .i64 0, .int .i64 0, .string ⟨#[]⟩, .slice none 0 0, .slice none 0 0] 70)) T 70 #[.int .i64 0, .int .i64 0, .string ⟨#[]⟩, .slice none 0 0, .slice none 0 0] := by rw [hT]; exact Blk.new _ _ _
      have hbl : Below w2.heap.size w2 (World.alloc w2 (.cells #[.int .i64 0, .int .i64 0, .string ⟨#[]⟩, .slice none 0 0, .slice none 0 0] 70)) := (Below.refl _ _).alloc (Nat.le_refl _) _
      have hJX := hJ2.after (AftR.of_below (g := g) hbl (Nat.le_of_lt hr2.lt))
      have hrX := hr2.below hbl
      have hjX := hj.keep (F' := fun b => w1.heap.size ≤ b) (KeepF.below hbl) (fun b hb _ => hb)
      clear hT hJ2 hr2 hj hbl c4 cr cdd
      generalize World.alloc w2 (.cells #[.int .i64 0, .int .i64 0, .string ⟨#[]⟩, .slice none 0 0, .slice none 0 0] 70) = wX at *
      have c4 := hJX.obj.cell 4
      have cr := hJX.rbox.cell 0
      have cdd := hJX.dbox.cell 0
      simp at c4 cr cdd
      refine hK.out _ _ (fun _ => ⟨c4, cr, cdd⟩) ?_
      clear hK K
      have hbX : w0.heap.size + 3 ≤ wX.heap.size := by have h1 := hJX.lj; have h2 := hJX.obj.lt; omega
      refine wpAnyC_one (i := 8) (by kernel_rfl) rfl (fun K hK => ?_)
      refine step_append_lies _ (by rfl) _ _ _ (by rfl) (w0.heap.size + 3) 70 i0 _ 5 80 Tryz.underlying68 ji jz0 jz1 jz2 rfl (by omega) (.slice Ao st.2.length co) st.2.length xs (by rfl) hJX.kids ⟨T, 0, none⟩ 1 1 [.int .i64 0, .int .i64 0, .string ⟨#[]⟩, .slice none 0 0, .slice none 0 0] (by rfl) (by rfl) (World.news_of_block (cs := #[.int .i64 0, .int .i64 0, .string ⟨#[]⟩, .slice none 0 0, .slice none 0 0]) (t := 70) (fr := (0, 0)) hBT) (by simp [Value.oneCell']) (by omega) (by unfold maxLen; omega) (by omega) hbX _ rfl ?_; intro g1 cap1 w6 hown hgrow hat hlt
      have hobj6 := hJX.obj.grown hgrow (fun e => hJX.nej e.symm)
      have hr6 := hJX.rbox.grown hgrow (own_ne hJX.kids hJX.rbox (by decide))
      have hd6 := hJX.dbox.grown hgrow (own_ne hJX.kids hJX.dbox (by decide))
      have ha6 := hJX.aft.grown hgrow (fun k hk => Nat.le_trans (Nat.le_add_right _ 3) (hJX.kids.lt k hk).1) hJX.gl
      have hrd6 := Blk.grown hrX hgrow (own_ne hJX.kids hrX (by decide))
      have hg1 : gj ≠ g1 := fun e => by
        rcases hat with h | h
        · exact hJX.nej (by rw [h, e])
        · have := hJX.obj.lt; omega
      have hgg : g ≠ g1 := fun e => own_ne hown hrd6 (by decide) (by rw [e]; rfl)
      have hggj : g ≠ gj := blk_neJ hrX hJX.obj (by decide)
      clear c4 cr cdd
      have c4 := hobj6.cell 4
      have cr := hr6.cell 0
      have cdd := hd6.cell 0
      simp at c4 cr cdd
      refine hK.out _ _ (fun _ => ⟨c4, cr, cdd⟩) ?_
      clear hK K c4 cr cdd
      have j0 : (0 : Int) ≤ (st.2.length : Int) := by omega
      have j1 : (st.2.length : Int) < (st.2.length : Int) + 1 := by omega
      refine wpAnyC_take (fun _ => True) [] (i := 9) (v := ?_) rfl (by kernel_rfl) (by kernel_rfl) (by kernel_rfl) (by kernel_rfl) (fun _ _ _ h => h) (fun _ _ _ _ _ _ => trivial) (fun _ _ h => absurd (by simp) h) (Or.inl ⟨by rfl, ?_⟩) trivial ?_; rotate_left; · (intro w hSw; go_simp; try with_reducible rfl)
      simp only [Act.put]
      refine wpAnyC_take (fun _ => True) [] (i := 11) (v := ?_) rfl (by kernel_rfl) (by kernel_rfl) (by kernel_rfl) (by kernel_rfl) (fun _ _ _ h => h) (fun _ _ _ _ _ _ => trivial) (fun _ _ h => absurd (by simp) h) (Or.inl ⟨by rfl, ?_⟩) trivial ?_; rotate_left; · (intro w hSw; go_simp; try with_reducible rfl)
      simp only [Act.put]
      have q0 : w6.cell? ⟨g1, st.2.length * 5, none⟩ = some (.int .i64 0) := own_cell hown _ _ ((at5 0 hlen).trans rfl)
      have q1 : w6.cell? ⟨g1, st.2.length * 5 + 1, none⟩ = some (.int .i64 0) := own_cell hown _ _ ((at5 1 hlen).trans rfl)
      have q2 : w6.cell? ⟨g1, st.2.length * 5 + 2, none⟩ = some (.string ⟨#[]⟩) := own_cell hown _ _ ((at5 2 hlen).trans rfl)
      have q3 : w6.cell? ⟨g1, st.2.length * 5 + 3, none⟩ = some (.slice none 0 0) := own_cell hown _ _ ((at5 3 hlen).trans rfl)
      have q4 : w6.cell? ⟨g1, st.2.length * 5 + 4, none⟩ = some (.slice none 0 0) := own_cell hown _ _ ((at5 4 hlen).trans rfl)
      have p0 := hown.frozenAt (st.2.length * 5)
      have p1 := hown.frozenAt (st.2.length * 5 + 1)
      have p2 := hown.frozenAt (st.2.length * 5 + 2)
      have p3 := hown.frozenAt (st.2.length * 5 + 3)
      have p4 := hown.frozenAt (st.2.length * 5 + 4)
      have d4 := hobj6.cell 4
      have d5 := hobj6.frozen 4
      simp at d4
      refine wpAnyC_two (i := 10) (j := 12) (by kernel_rfl) rfl rfl (fun K hK => ?_) (fun K hK => ?_)
      · unfold jVal strV
        go_simp
        refine hK.out _ _ (fun h => absurd (by simp) h) ?_
        clear hK K
        refine wpAnyC_one (i := 12) (by kernel_rfl) rfl (fun K hK => ?_)
        go_simp
        refine hK.out _ _ (fun h => absurd (by simp) h) ?_
        clear hK K
        refine wpAnyC_done (by kernel_rfl) ?_ _
        go_wp2_with fail
        go_end0
        have HE := JSt.endA (cd := cd) hJX hjX hB0 hB1 hB2 hB3 HBK.out HBD.out hgrow hat hown hrd6 ha6 hobj6 hg1 hgg hggj
        exact OneE.ok (HRo.out _ _ rfl) HE.1 ⟨_, _, _, HE.2⟩
      · go_simp
        refine hK.out _ _ (fun h => absurd (by simp) h) ?_
        clear hK K
        refine wpAnyC_one (i := 10) (by kernel_rfl) rfl (fun K hK => ?_)
        unfold jVal strV
        go_simp
        refine hK.out _ _ (fun h => absurd (by simp) h) ?_
        clear hK K
        refine wpAnyC_done (by kernel_rfl) ?_ _
        go_wp2_with fail
        go_end0
        have HE := JSt.endB (cd := cd) hJX hjX hB0 hB1 hB2 hB3 HBK.out HBD.out hgrow hat hown hrd6 ha6 hobj6 hg1 hgg hggj
        exact OneE.ok (HRo.out _ _ rfl) HE.1 ⟨_, _, _, HE.2⟩
  · go_simp
    obtain ⟨T, hT⟩ : ∃ T, T = w1.heap.size := ⟨_, rfl⟩
    rw [← hT]
    have hBT : Blk (World.alloc w1 (.cells #[.int .i64 0, .int .i64 0, .string ⟨#[]⟩, .slice none 0 0, .slice none 0 0] 70)) T 70 #[.int .i64 0, .int .i64 0, .string ⟨#[]⟩, .slice none 0 0, .slice none 0 0] := by rw [hT]; exact Blk.new _ _ _
    have hbl : Below w1.heap.size w1 (World.alloc w1 (.cells #[.int .i64 0, .int .i64 0, .string ⟨#[]⟩, .slice none 0 0, .slice none 0 0] 70)) := (Below.refl _ _).alloc (Nat.le_refl _) _
    have hsz := hbl.size
    have hJ2 := hJ1.after (AftR.of_below (g := g) hbl (Nat.le_of_lt hr1.lt))
    have hr2 := hr1.below hbl
    have hTg : T ≠ g := by have := hr1.lt; omega
    clear hT hJ1 hr1 hbl c4 cr cb
    generalize World.alloc w1 (.cells #[.int .i64 0, .int .i64 0, .string ⟨#[]⟩, .slice none 0 0, .slice none 0 0] 70) = w2 at *
    have c4 := hJ2.obj.cell 4
    have cr := hJ2.rbox.cell 0
    have cdd := hJ2.dbox.cell 0
    simp at c4 cr cdd
    refine hK.out _ _ (fun _ => ⟨c4, cr, cdd⟩) ?_
    clear hK K
    refine wpAnyC_one (i := 5) (by kernel_rfl) rfl (fun K hK => ?_)
    go_simp
    ((with_reducible refine (hval w2 hr2).mono ?_))
    intro e wX h2
    cases O with
    | bad p er =>
      obtain ⟨ha2, rfl⟩ := h2.is_bad
      exact ⟨rfl, OneE.bad (HRb.out _ _ rfl) (hJ2.aft.trans ha2)⟩
    | ok j k2 =>
      obtain ⟨ha2, hrX, Ak, ck, Ad, cd, rfl, hj⟩ := h2.is_ok
      have hJX := hJ2.after ha2
      have hBT : Blk wX T 70 #[.int .i64 0, .int .i64 0, .string ⟨#[]⟩, .slice none 0 0, .slice none 0 0] := (ha2.oth T hBT.lt hTg).trans hBT
      have hjX := hj.keep (F' := fun b => w1.heap.size ≤ b) (KeepF.refl _ _) (fun b hb _ => Nat.le_trans hsz hb)
      clear c4 cr cdd hval h2 hJ2 hr2 hj
      have c4 := hJX.obj.cell 4
      have cr := hJX.rbox.cell 0
      have cdd := hJX.dbox.cell 0
      simp at c4 cr cdd
      refine hK.out _ _ (fun _ => ⟨c4, cr, cdd⟩) ?_
      clear hK K
      have hbX : w0.heap.size + 3 ≤ wX.heap.size := by have h1 := hJX.lj; have h2 := hJX.obj.lt; omega
      refine wpAnyC_one (i := 8) (by kernel_rfl) rfl (fun K hK => ?_)
      refine step_append_lies _ (by rfl) _ _ _ (by rfl) (w0.heap.size + 3) 70 i0 _ 5 80 Tryz.underlying68 ji jz0 jz1 jz2 rfl (by omega) (.slice Ao st.2.length co) st.2.length xs (by rfl) hJX.kids ⟨T, 0, none⟩ 1 1 [.int .i64 0, .int .i64 0, .string ⟨#[]⟩, .slice none 0 0, .slice none 0 0] (by rfl) (by rfl) (World.news_of_block (cs := #[.int .i64 0, .int .i64 0, .string ⟨#[]⟩, .slice none 0 0, .slice none 0 0]) (t := 70) (fr := (0, 0)) hBT) (by simp [Value.oneCell']) (by omega) (by unfold maxLen; omega) (by omega) hbX _ rfl ?_; intro g1 cap1 w6 hown hgrow hat hlt
      have hobj6 := hJX.obj.grown hgrow (fun e => hJX.nej e.symm)
      have hr6 := hJX.rbox.grown hgrow (own_ne hJX.kids hJX.rbox (by decide))
      have hd6 := hJX.dbox.grown hgrow (own_ne hJX.kids hJX.dbox (by decide))
      have ha6 := hJX.aft.grown hgrow (fun k hk => Nat.le_trans (Nat.le_add_right _ 3) (hJX.kids.lt k hk).1) hJX.gl
      have hrd6 := Blk.grown hrX hgrow (own_ne hJX.kids hrX (by decide))
      have hg1 : gj ≠ g1 := fun e => by
        rcases hat with h | h
        · exact hJX.nej (by rw [h, e])
        · have := hJX.obj.lt; omega
      have hgg : g ≠ g1 := fun e => own_ne hown hrd6 (by decide) (by rw [e]; rfl)
      have hggj : g ≠ gj := blk_neJ hrX hJX.obj (by decide)
      clear c4 cr cdd
      have c4 := hobj6.cell 4
      have cr := hr6.cell 0
      have cdd := hd6.cell 0
      simp at c4 cr cdd
      refine hK.out _ _ (fun _ => ⟨c4, cr, cdd⟩) ?_
      clear hK K c4 cr cdd
      have j0 : (0 : Int) ≤ (st.2.length : Int) := by omega
      have j1 : (st.2.length : Int) < (st.2.length : Int) + 1 := by omega
      refine wpAnyC_take (fun _ => True) [] (i := 9) (v := ?_) rfl (by kernel_rfl) (by kernel_rfl) (by kernel_rfl) (by kernel_rfl) (fun _ _ _ h => h) (fun _ _ _ _ _ _ => trivial) (fun _ _ h => absurd (by simp) h) (Or.inl ⟨by rfl, ?_⟩) trivial ?_; rotate_left; · (intro w hSw; go_simp; try with_reducible rfl)
      simp only [Act.put]
      refine wpAnyC_take (fun _ => True) [] (i := 11) (v := ?_) rfl (by kernel_rfl) (by kernel_rfl) (by kernel_rfl) (by kernel_rfl) (fun _ _ _ h => h) (fun _ _ _ _ _ _ => trivial) (fun _ _ h => absurd (by simp) h) (Or.inl ⟨by rfl, ?_⟩) trivial ?_; rotate_left; · (intro w hSw; go_simp; try with_reducible rfl)
      simp only [Act.put]
      have q0 : w6.cell? ⟨g1, st.2.length * 5, none⟩ = some (.int .i64 0) := own_cell hown _ _ ((at5 0 hlen).trans rfl)
      have q1 : w6.cell? ⟨g1, st.2.length * 5 + 1, none⟩ = some (.int .i64 0) := own_cell hown _ _ ((at5 1 hlen).trans rfl)
      have q2 : w6.cell? ⟨g1, st.2.length * 5 + 2, none⟩ = some (.string ⟨#[]⟩) := own_cell hown _ _ ((at5 2 hlen).trans rfl)
      have q3 : w6.cell? ⟨g1, st.2.length * 5 + 3, none⟩ = some (.slice none 0 0) := own_cell hown _ _ ((at5 3 hlen).trans rfl)
      have q4 : w6.cell? ⟨g1, st.2.length * 5 + 4, none⟩ = some (.slice none 0 0) := own_cell hown _ _ ((at5 4 hlen).trans rfl)
      have p0 := hown.frozenAt (st.2.length * 5)
      have p1 := hown.frozenAt (st.2.length * 5 + 1)
      have p2 := hown.frozenAt (st.2.length * 5 + 2)
      have p3 := hown.frozenAt (st.2.length * 5 + 3)
      have p4 := hown.frozenAt (st.2.length * 5 + 4)
      have d4 := hobj6.cell 4
      have d5 := hobj6.frozen 4
      simp at d4
      refine wpAnyC_two (i := 10) (j := 12) (by kernel_rfl) rfl rfl (fun K hK => ?_) (fun K hK => ?_)
      · unfold jVal strV
        go_simp
        refine hK.out _ _ (fun h => absurd (by simp) h) ?_
        clear hK K
        refine wpAnyC_one (i := 12) (by kernel_rfl) rfl (fun K hK => ?_)
        go_simp
        refine hK.out _ _ (fun h => absurd (by simp) h) ?_
        clear hK K
        refine wpAnyC_done (by kernel_rfl) ?_ _
        go_wp2_with fail
        go_end0
        have HE := JSt.endA (cd := cd) hJX hjX hB0 hB1 hB2 hB3 HBK.out HBD.out hgrow hat hown hrd6 ha6 hobj6 hg1 hgg hggj
        exact OneE.ok (HRo.out _ _ rfl) HE.1 ⟨_, _, _, HE.2⟩
      · go_simp
        refine hK.out _ _ (fun h => absurd (by simp) h) ?_
        clear hK K
        refine wpAnyC_one (i := 10) (by kernel_rfl) rfl (fun K hK => ?_)
        unfold jVal strV
        go_simp
        refine hK.out _ _ (fun h => absurd (by simp) h) ?_
        clear hK K
        refine wpAnyC_done (by kernel_rfl) ?_ _
        go_wp2_with fail
        go_end0
        have HE := JSt.endB (cd := cd) hJX hjX hB0 hB1 hB2 hB3 HBK.out HBD.out hgrow hat hown hrd6 ha6 hobj6 hg1 hgg hggj
        exact OneE.ok (HRo.out _ _ rfl) HE.1 ⟨_, _, _, HE.2⟩
end Go.Proofs.YtgpjcjnimheglaaGreatDoor
/-
  WALKS of the document's reader of messages: Text.
-/
namespace Go.Proofs.YtgpjcjnimheglaaGreatDoor
open Go.RowKit

/-- a row of bytes of the call's own, as a text -/
theorem own_bytes {w : World} {base : Nat} {v : Value} {l : Bs} (h : w.ownsRow base 5 1 v l.length (Lib.byteCells l)) : (convert 101 9 v).run Tryz.prog w = .ok (.string ⟨l.toArray⟩) w := by
  have h' := h
  rcases h.2 with ⟨rfl, h0⟩ | ⟨g, cap, cur, rfl, _⟩
  · obtain rfl : l = [] := List.eq_nil_of_length_eq_zero h0
    exact Lib.run_convert_nil_bytes w _ _ _ 0 Tryz.underlying101 Tryz.underlying5 Tryz.underlying9
  · refine run_convert_bytes_back w _ _ _ ⟨g, 0, none⟩ cap l Tryz.underlying101 Tryz.underlying5 Tryz.underlying9 fun j hj => ?_
    have e : (⟨g, 0, none⟩ : Addr).add j = ⟨g, j, none⟩ := by unfold Addr.add; split <;> simp_all
    rw [e]
    exact own_cell h' j _ (by simp [Lib.byteCells, hj])
/-- what is handed back where a text is wrong -/
def BadV {α : Type} (r : Jp.Rs α) (e : Ending) : Prop := match r with | .bad _ _ => e = .returned (.string ⟨#[]⟩) | .ok _ _ => True
theorem BadV.bad {α : Type} {r : Jp.Rs α} {p er : Nat} (h : r = .bad p er) : BadV r (.returned (.string ⟨#[]⟩)) := by subst h; exact rfl
theorem BadV.ok {α : Type} {r : Jp.Rs α} {a : α} {k : Nat} {e : Ending} (h : r = .ok a k) : BadV r e := by subst h; exact trivial
theorem BadV.is {α : Type} {p er : Nat} {e : Ending} (h : BadV (.bad p er : Jp.Rs α) e) : e = .returned (.string ⟨#[]⟩) := h
/-- the text that is being read -/
structure TxA (w wr : World) (g : Nat) (s : Bs) (m : Nat) (acc : Bs) (v : Value) : Prop where
  rd : RrAt wr g s m 0 0
  aft : AftR g w wr
  own : wr.ownsRow w.heap.size 5 1 v acc.length (Lib.byteCells acc)
section
variable {w wr wr' : World} {g : Nat} {s : Bs} {m : Nat} {acc : Bs} {v : Value}
theorem TxA.drewN (h : TxA w wr g s m acc v) (n : Nat) : TxA w (wr.drewN n) g s m acc v := ⟨h.rd.drewN n, h.aft.drewN n, own_of_block h.own fun _ _ => rfl⟩
theorem TxA.move (h : TxA w wr g s m acc v) (hg : g < w.heap.size) (k : Nat) : TxA w (wr.setCell ⟨g, 1, none⟩ (.int .i64 k)) g s k acc v :=
  ⟨h.rd.move k, h.aft.set 1 _, own_of_block h.own fun b hb => Below.heap_setCell _ _ _ b (by have := (h.own.lt b hb).1; show b ≠ g; omega)⟩
theorem TxA.below (h : TxA w wr g s m acc v) (hg : g < w.heap.size) (hb : Below wr.heap.size wr wr') : TxA w wr' g s m acc v :=
  ⟨h.rd.below hb h.rd.lt, h.aft.below hb (by omega), own_of_block h.own fun b hk => hb.block b (h.own.lt b hk).2⟩
theorem TxA.grown (h : TxA w wr g s m acc v) (hg : g < w.heap.size) {acc' : Bs} {v' : Value} (hgrow : wr.grownBy wr' v.ownBlock) (ho : wr'.ownsRow w.heap.size 5 1 v' acc'.length (Lib.byteCells acc')) : TxA w wr' g s m acc' v' :=
  ⟨Blk.grown h.rd hgrow (fun e => by have := (h.own.lt g e.symm).1; omega), h.aft.grown hgrow (fun k hk => (h.own.lt k hk).1) hg, ho⟩
end
theorem addr_add (b o j : Nat) : (⟨b, o, none⟩ : Addr).add j = ⟨b, o + j, none⟩ := by unfold Addr.add; split <;> simp_all
theorem byteCells_one (E : Bs) : ∀ u ∈ Lib.byteCells E, u.oneCell' = true := fun u hu => by
  simp only [Lib.byteCells, List.mem_map] at hu
  obtain ⟨b, _, rfl⟩ := hu
  rfl
theorem meB_cell (k : Nat) (b : UInt8) (h : Jp.meB[k]? = some b) : (#[.int .u8 34, .int .u8 92, .int .u8 47, .int .u8 8, .int .u8 12, .int .u8 10, .int .u8 13, .int .u8 9] : Array Value)[k]? = some (.int .u8 b.toNat) := by
  have e : (#[.int .u8 34, .int .u8 92, .int .u8 47, .int .u8 8, .int .u8 12, .int .u8 10, .int .u8 13, .int .u8 9] : Array Value) = (Jp.meB.map fun b => Value.int .u8 b.toNat).toArray := rfl
  rw [e]
  simp [h]
/-- which of the signs that stand for others is next -/
def isV (s : Bs) (m : Nat) : Int := match s[m + 1]? with | none => -1 | some c => Jp.isM c 8

set_option maxHeartbeats 8000000 in
set_option maxRecDepth 100000 in
theorem rtext_walk (g : Nat) (s : Bs) (i : Nat) (w : World) (h : RrAt w g s i 0 0) (hi : i < s.length) (hl : s.length ≤ 16777216) :
    Calls Tryz.prog 96 #[.pointer (some ⟨g, 0, none⟩)] w fun e w' => RrE g s w (fun (t : Bs) v _ => v = .string ⟨t.toArray⟩) (Jp.txtP s (i + 1)) e w' ∧ BadV (Jp.txtP s (i + 1)) e := by
  obtain ⟨i0, ji, jz0, jz1, jz2⟩ := info_parts bd_byte
  have hgl := h.lt
  have c1 := Blk.cell h 1
  have f1 := Blk.frozen h 1
  simp at c1
  have h1 : TxA w (w.setCell ⟨g, 1, none⟩ (.int .i64 ((i + 1 : Nat) : Int))) g s (i + 1) [] (.slice none 0 0) := ⟨h.move (i + 1), (AftR.refl g w).set 1 _, World.ownsRow_nil _ _ _ _⟩
  generalize hR : Jp.txtP s (i + 1) = R
  have HR : Hid (R = Jp.txtF s (s.length + 1) (i + 1) []) := hR.symm
  clear hR h
  go_enter Tryz.func96, Tryz.ntmps96
  go_upto_block 0 with fail
  clear c1 f1
  have E1 : Hid ((i : Int) + 1 = ((i + 1 : Nat) : Int)) := by show _ = _; omega
  try rw [E1.out]
  generalize w.setCell ⟨g, 1, none⟩ (.int .i64 ((i + 1 : Nat) : Int)) = w1 at *
  go_wp2_with fail
  go_loopg [3] (s.length - (i + 1)) (fun q v wr => ∃ (m fu : Nat) (acc : Bs), s.length - m ≤ q ∧ m ≤ s.length ∧ acc.length ≤ m ∧ TxA w wr g s m acc v ∧ Hid (R = Jp.txtF s (fu + 1) m acc) ∧ Hid (s.length ≤ fu + m))
  case atStart => exact ⟨i + 1, s.length, [], Nat.le_refl _, by omega, by simp, h1, HR.out, by show _ ≤ _; omega⟩
  case round =>
    clear h1 HR E1
    obtain ⟨m, fu, acc, hq, hm, hacc, hT, HR, HF⟩ := hrel
    obtain ⟨Av, cv, rfl⟩ := own_form hT.own
    have c0 := Blk.cell hT.rd 0
    have c1 := Blk.cell hT.rd 1
    have f1 := Blk.frozen hT.rd 1
    simp at c0 c1
    have j1 : (0 : Int) ≤ (m : Int) := by omega
    by_cases hlt : m < s.length
    · have j2 : (m : Int) < (s.length : Int) := by omega
      have d1 : decide (m < s.length) = true := by simp [hlt]
      go_wp2_with fail
      go_quiet (fail)
      have hT := hT.drewN nq
      clear c0 c1 f1
      generalize World.drewN wr nq = wr at *
      have c0 := Blk.cell hT.rd 0
      have c1 := Blk.cell hT.rd 1
      have f1 := Blk.frozen hT.rd 1
      simp at c0 c1
      go_wp2_with fail
      go_quiet (fail)
      go_upto_region 5 with fail
      have hT := hT.drewN nq
      clear c0 c1 f1
      generalize World.drewN wr nq = wr at *
      have c0 := Blk.cell hT.rd 0
      have c1 := Blk.cell hT.rd 1
      have f1 := Blk.frozen hT.rd 1
      simp at c0 c1
      have hq0 : s[m]? = some s[m] := List.getElem?_eq_getElem hlt
      have hce : ((⟨s.toArray⟩ : ByteArray)[m]'(by rw [mk_size]; exact hlt)) = s[m] := rfl
      rw [← hce] at hq0
      clear hce
      generalize ((⟨s.toArray⟩ : ByteArray)[m]'(by rw [mk_size]; exact hlt)) = c at *
      have HR2 : Hid (R = if c.toNat < 32 then .bad m 3 else if c = 34 then .ok acc (m + 1) else if c = 92 then (match Jp.escP s m with | .bad p e => .bad p e | .ok b k => Jp.txtF s fu k (acc ++ b)) else Jp.txtF s fu (m + 1) (acc ++ [c])) := by
        show _ = _
        rw [HR.out, Jp.txt_at hq0]
        rfl
      have Hq0 := Lib.hid hq0
      have hx8 := c.toNat_lt
      clear HR hq0 d1
      by_cases h34 : c = 34
      · as_aux_lemma =>
        have HB : Hid (R = .ok acc (m + 1)) := by show _ = _; rw [HR2.out, if_neg (by rw [h34]; decide), if_pos h34]
        subst h34
        have hT3 := hT.move hgl (m + 1)
        have hcv := own_bytes hT3.own
        rw [show (((m + 1 : Nat) : Int)) = (m : Int) + 1 by omega] at hcv
        clear HR2 hx8
        go_wp2_with fail
        go_ret
        exact ⟨RrE.ok HB.out hT3.aft hT3.rd rfl, BadV.ok HB.out⟩
      · by_cases h32 : c.toNat < 32
        · as_aux_lemma =>
          have HB : Hid (R = .bad m 3) := by show _ = _; rw [HR2.out, if_pos h32]
          have n34 : ((c.toNat : Int) == 34) = false := by rw [beq_eq_false_iff_ne]; intro e; exact h34 (UInt8.toNat_inj.1 (by show c.toNat = 34; omega))
          have y1 : (c.toNat : Int) < 32 := by omega
          have y2 : decide (c.toNat < 32) = true := decide_eq_true h32
          clear HR2 hx8 h34 h32
          go_wp2_with fail
          refine (rfail_first g s m 0 3 m _ hT.rd).mono ?_
          rintro e w2 ⟨rfl, h2, ha2⟩
          go_wp2_with fail
          go_ret
          exact ⟨RrE.bad HB.out (hT.aft.trans ha2) h2 (by omega), BadV.bad HB.out⟩
        · have n34 : ((c.toNat : Int) == 34) = false := by rw [beq_eq_false_iff_ne]; intro e; exact h34 (UInt8.toNat_inj.1 (by show c.toNat = 34; omega))
          have y1 : ¬ (c.toNat : Int) < 32 := by omega
          have y2 : decide (c.toNat < 32) = false := decide_eq_false h32
          by_cases h92 : c = 92
          · have HB : Hid (R = match Jp.escP s m with | .bad p e => .bad p e | .ok b k => Jp.txtF s fu k (acc ++ b)) := by
              show _ = _
              rw [HR2.out, if_neg h32, if_neg h34, if_pos h92]
            clear HR2 h34 h32
            subst h92
            have HC : Hid (∀ hlt1 : m + 1 < s.length, ((⟨s.toArray⟩ : ByteArray)[m + 1]'(by rw [mk_size]; exact hlt1)) = s[m + 1]) := fun _ => rfl
            go_upto_region 18 with fail
            obtain ⟨bm, hbm⟩ : ∃ b, b = wr.heap.size := ⟨_, rfl⟩
            rw [← hbm]
            have hbl : Below wr.heap.size wr (wr.alloc (.cells #[.int .u8 34, .int .u8 92, .int .u8 47, .int .u8 8, .int .u8 12, .int .u8 10, .int .u8 13, .int .u8 9] 5)) := (Below.refl _ _).alloc (Nat.le_refl _) _
            have hBM : Blk (wr.alloc (.cells #[.int .u8 34, .int .u8 92, .int .u8 47, .int .u8 8, .int .u8 12, .int .u8 10, .int .u8 13, .int .u8 9] 5)) bm 5 #[.int .u8 34, .int .u8 92, .int .u8 47, .int .u8 8, .int .u8 12, .int .u8 10, .int .u8 13, .int .u8 9] := by rw [hbm]; exact Blk.new _ _ _
            have hT4 := hT.below hgl hbl
            have hown : Hid (Value.ownBlock (.slice Av acc.length cv) ≠ some bm) := fun e => by have := (hT.own.lt bm e).2; omega
            have hmb : Hid (w.heap.size ≤ bm) := by show _ ≤ _; rw [hbm]; exact hT.aft.bel.size
            clear hbl hT c0 c1 f1 hbm
            generalize wr.alloc (.cells #[.int .u8 34, .int .u8 92, .int .u8 47, .int .u8 8, .int .u8 12, .int .u8 10, .int .u8 13, .int .u8 9] 5) = wr at *
            go_upto_block 2 with fail
            go_cut [8] (fun v wc => v = .int .i64 (isV s m) ∧ TxA w wc g s m acc (.slice Av acc.length cv) ∧ Blk wc bm 5 #[.int .u8 34, .int .u8 92, .int .u8 47, .int .u8 8, .int .u8 12, .int .u8 10, .int .u8 13, .int .u8 9])
            case first =>
              as_aux_lemma =>
              clear HB HF hx8 y1 y2 n34
              by_cases hlt1 : m + 1 < s.length
              · have d1 : decide ((m : Int) + 1 < (s.length : Int)) = true := decide_eq_true (by omega)
                have d2 : decide (m + 1 < s.length) = true := decide_eq_true hlt1
                have j3 : (m : Int) + 1 < (s.length : Int) := by omega
                have j4 : (0 : Int) ≤ (m : Int) + 1 := by omega
                have ht1 : ((m : Int) + 1).toNat = m + 1 := by omega
                have hw1 : IntKind.i64.wrap ((m : Int) + 1) = (m : Int) + 1 := IntWalk.i64_in _ (by omega)
                have HV : Hid (isV s m = Jp.isM s[m + 1] 8) := by show _ = _; unfold isV; rw [List.getElem?_eq_getElem hlt1]
                go_wp2_with fail
                go_loopg [8, 9] 8 (fun q v8 v9 wc => ∃ t : Nat, v8 = .int .i64 (Jp.isM s[m + 1] t) ∧ v9 = .int .i64 t ∧ 8 - t ≤ q ∧ t ≤ 8 ∧ TxA w wc g s m acc (.slice Av acc.length cv) ∧ Blk wc bm 5 #[.int .u8 34, .int .u8 92, .int .u8 47, .int .u8 8, .int .u8 12, .int .u8 10, .int .u8 13, .int .u8 9])
                case atStart => exact ⟨0, rfl, rfl, Nat.le_refl _, by omega, hT4, hBM⟩
                case round =>
                  clear hT4 hBM
                  obtain ⟨t, rfl, rfl, hq, ht8, hT4, hBM⟩ := hrel
                  have c0 := Blk.cell hT4.rd 0
                  have c1 := Blk.cell hT4.rd 1
                  simp at c0 c1
                  by_cases ht : t < 8
                  · have e1 : (t : Int) < 8 := by omega
                    have e2 : decide (t < 8) = true := decide_eq_true ht
                    have e3 : (0 : Int) ≤ (t : Int) := by omega
                    have hcs : ((⟨s.toArray⟩ : ByteArray)[m + 1]'(by rw [mk_size]; exact hlt1)) = s[m + 1] := rfl
                    have hb : ((((⟨s.toArray⟩ : ByteArray)[m + 1]'(by rw [mk_size]; exact hlt1)).toNat : Int) == ((((⟨#[34, 92, 47, 98, 102, 110, 114, 116]⟩ : ByteArray)[t]'ht).toNat : Nat) : Int)) = decide (Jp.nmB[t]? = some s[m + 1]) := by
                      rw [hcs]
                      have h1 : Jp.nmB[t]? = some (((⟨#[34, 92, 47, 98, 102, 110, 114, 116]⟩ : ByteArray)[t]'ht)) := List.getElem?_eq_getElem (l := Jp.nmB) ht
                      rw [h1, Bool.eq_iff_iff]
                      simp only [beq_iff_eq, decide_eq_true_eq, Option.some.injEq]
                      constructor
                      · intro e; exact UInt8.toNat_inj.1 (by omega)
                      · intro e; rw [e]
                    have HI : Hid (Jp.isM s[m + 1] (t + 1) = if decide (Jp.nmB[t]? = some s[m + 1]) = true then (t : Int) else Jp.isM s[m + 1] t) := by
                      show _ = _
                      rw [Jp.isM]
                      simp only [decide_eq_true_eq]
                    clear hcs
                    generalize decide (Jp.nmB[t]? = some s[m + 1]) = qq at *
                    generalize Jp.isM s[m + 1] t = it at *
                    cases qq with
                    | true =>
                      have HI2 : Hid (Jp.isM s[m + 1] (t + 1) = (t : Int)) := HI.out
                      clear HI
                      go_wp2_with fail
                      go_quiet (fail)
                      go_wp2_with fail
                      go_quiet (fail)
                      go_wp2_with fail
                      go_roundg (8 - (t + 1))
                      case rel => exact ⟨t + 1, by rw [HI2.out], rfl, Nat.le_refl _, by omega, hT4.drewN _, hBM.drewN _⟩
                      case measure => omega
                    | false =>
                      have HI2 : Hid (Jp.isM s[m + 1] (t + 1) = it) := HI.out
                      clear HI
                      go_wp2_with fail
                      go_quiet (fail)
                      go_wp2_with fail
                      go_quiet (fail)
                      go_wp2_with fail
                      go_roundg (8 - (t + 1))
                      case rel => exact ⟨t + 1, by rw [HI2.out], rfl, Nat.le_refl _, by omega, hT4.drewN _, hBM.drewN _⟩
                      case measure => omega
                  · obtain rfl : t = 8 := by omega
                    go_wp2_with fail
                    go_quiet (fail)
                    go_wp2_with fail
                    go_meet
                    exact ⟨by rw [HV.out], hT4.drewN _, hBM.drewN _⟩
              · have d1 : decide ((m : Int) + 1 < (s.length : Int)) = false := decide_eq_false (by omega)
                have d2 : decide (m + 1 < s.length) = false := decide_eq_false hlt1
                have hw1 : IntKind.i64.wrap ((m : Int) + 1) = (m : Int) + 1 := IntWalk.i64_in _ (by omega)
                have HV : Hid (isV s m = -1) := by show _ = _; unfold isV; rw [List.getElem?_eq_none (by omega)]
                go_wp2_with fail
                go_loopg [8, 9] 8 (fun q v8 v9 wc => v8 = .int .i64 (-1) ∧ v9 = .int .i64 0 ∧ TxA w wc g s m acc (.slice Av acc.length cv) ∧ Blk wc bm 5 #[.int .u8 34, .int .u8 92, .int .u8 47, .int .u8 8, .int .u8 12, .int .u8 10, .int .u8 13, .int .u8 9])
                case atStart => exact ⟨rfl, rfl, hT4, hBM⟩
                case round =>
                  clear hT4 hBM
                  obtain ⟨rfl, rfl, hT4, hBM⟩ := hrel
                  have c0 := Blk.cell hT4.rd 0
                  have c1 := Blk.cell hT4.rd 1
                  simp at c0 c1
                  go_wp2_with fail
                  go_quiet (fail)
                  go_wp2_with fail
                  go_meet
                  exact ⟨by rw [HV.out], hT4.drewN _, hBM.drewN _⟩
            case rest =>
              clear hT4 hBM
              obtain ⟨rfl, hT, hBM⟩ := hcut
              have c0 := Blk.cell hT.rd 0
              have c1 := Blk.cell hT.rd 1
              have f1 := Blk.frozen hT.rd 1
              simp at c0 c1
              by_cases hsim : ∃ c b, s[m + 1]? = some c ∧ Jp.simP c = some b
              · as_aux_lemma =>
                obtain ⟨c, b, hc, hb⟩ := hsim
                have HE := Lib.hid (Jp.esc_one hc hb)
                have hlt1 := Jp.get_lt hc
                obtain ⟨k, hk1, hk8, hkb⟩ := Jp.isM_sim c b hb
                have HV : Hid (isV s m = (k : Int)) := by show _ = _; unfold isV; rw [hc]; exact hk1
                have HB2 : Hid (R = Jp.txtF s fu (m + 2) (acc ++ [b])) := by show _ = _; rw [HB.out, HE.out]
                have ck := hBM.cell k
                rw [meB_cell k b hkb] at ck
                have k0 : (0 : Int) ≤ (k : Int) := by omega
                have k8 : (k : Int) < 8 := by omega
                rw [HV.out]
                clear HB HE hc hb hk1 hkb HV
                go_upto_region 24 with fail
                have hBN : (wc.alloc (.cells #[.int .u8 (b.toNat : Int)] 5)).heap[wc.heap.size]? = some (.cells #[.int .u8 (b.toNat : Int)] 5 (0, 0)) := heap_alloc_new _ _
                have hbl : Below wc.heap.size wc (wc.alloc (.cells #[.int .u8 (b.toNat : Int)] 5)) := (Below.refl _ _).alloc (Nat.le_refl _) _
                have hT4 := hT.below hgl hbl
                have hsz := hT4.aft.bel.size
                clear hbl
                go_upto_region 25 with (at_builtin; refine wpList_append_lies _ rfl _ _ 101 rfl w.heap.size 5 i0 _ 1 1 Tryz.underlying101 ji jz0 jz1 jz2 rfl (by omega) (.slice Av acc.length cv) acc.length (Lib.byteCells acc) rfl hT4.own ⟨wc.heap.size, 0, none⟩ 1 1 [.int .u8 (b.toNat : Int)] rfl rfl (World.news_of_block (cs := #[.int .u8 (b.toNat : Int)]) (t := 5) (fr := (0, 0)) hBN) (by simp [Value.oneCell']) (by omega) (by unfold maxLen; omega) (by omega) hsz _ rfl ?_; intro gg cap' w3 hown3 hgrow hat3 hlt3)
                have hT5 : TxA w w3 g s m (acc ++ [b]) (.slice (some ⟨gg, 0, none⟩) (acc.length + 1) cap') := hT4.grown hgl hgrow (by rw [List.length_append, Lib.byteCells_append]; exact hown3)
                clear hT4 hT hBN hsz hown3 hgrow hat3 hlt3 c0 c1 f1 ck
                have c1 := Blk.cell hT5.rd 1
                have f1 := Blk.frozen hT5.rd 1
                simp at c1
                go_wp2_with fail
                go_roundg (s.length - (m + 2))
                case rel =>
                  obtain ⟨fu', rfl⟩ : ∃ f', fu = f' + 1 := ⟨fu - 1, by have := HF.out; omega⟩
                  exact ⟨m + 2, fu', acc ++ [b], Nat.le_refl _, by omega, by simp; omega, hT5.move hgl (m + 2), HB2.out, by show _ ≤ _; have := HF.out; omega⟩
                case measure => omega
              · have hn : ∀ c, s[m + 1]? = some c → Jp.simP c = none := fun c hc => by
                  cases hs : Jp.simP c with
                  | none => rfl
                  | some b => exact absurd ⟨c, b, hc, hs⟩ hsim
                have HV : Hid (isV s m = -1) := by
                  show _ = _
                  unfold isV
                  cases hc : s[m + 1]? with
                  | none => rfl
                  | some c => exact Jp.isM_none c (hn c hc)
                obtain ⟨E1, E2, E3, E4⟩ := Jp.esc_hex Hq0.out hn
                have hx1 := rhex_walk g s m m wc hT.rd (by omega) hl
                have hx2 := fun w h => rhex_walk g s (m + 6) (m + 6) w h (by omega) hl
                have hr1 := Jp.hexR_lt s m
                have hr2 := Jp.hexR_lt s (m + 6)
                generalize hexR s m = n0 at *
                generalize hexR s (m + 6) = n1 at *
                have E1 := Lib.hid E1
                have E2 := Lib.hid E2
                have E3 := Lib.hid E3
                have E4 := Lib.hid E4
                rw [HV.out]
                clear hn hsim HV hBM y1 y2 n34 hx8
                go_wp2_with fail
                refine hx1.mono ?_
                clear hx1
                rintro e w2 ⟨rfl, rfl⟩
                have hT2 := hT.move hgl (m + 6)
                go_upto_region 28 with fail
                rw [show (m : Int) + 6 = ((m + 6 : Nat) : Int) by omega]
                clear hT c0 c1 f1
                have hT := hT2
                clear hT2
                generalize w2.setCell ⟨g, 1, none⟩ (.int .i64 ((m + 6 : Nat) : Int)) = w2 at *
                have hways : n0 < 0 ∨ (56320 ≤ n0 ∧ n0 ≤ 57343) ∨ (0 ≤ n0 ∧ n0 < 55296) ∨ 57343 < n0 ∨ (55296 ≤ n0 ∧ n0 ≤ 56319) := by omega
                rcases hways with g1 | ⟨g1, g2⟩ | ⟨g1, g2⟩ | g1 | ⟨g1, g2⟩
                · have HE := Lib.hid (E1.out g1)
                  clear E1 E2 E3 E4 hx2
                  have HB2 : Hid (R = .bad m 3) := by show _ = _; rw [HB.out, HE.out]
                  clear HB HE
                  go_wp2_with fail
                  refine (rfail_first g s _ 0 3 m _ hT.rd).mono ?_
                  rintro e w2 ⟨rfl, h2, ha2⟩
                  go_wp2_with fail
                  go_ret
                  exact ⟨RrE.bad HB2.out (hT.aft.trans ha2) h2 (by omega), BadV.bad HB2.out⟩
                · have HE := Lib.hid (E2.out ⟨g1, g2⟩)
                  have g3 : ¬ n0 ≤ 56319 := by omega
                  have g4 : ¬ n0 < 0 := by omega
                  have g5 : 55296 ≤ n0 := by omega
                  clear E1 E2 E3 E4 hx2
                  have HB2 : Hid (R = .bad m 3) := by show _ = _; rw [HB.out, HE.out]
                  clear HB HE
                  go_wp2_with fail
                  refine (rfail_first g s _ 0 3 m _ hT.rd).mono ?_
                  rintro e w2 ⟨rfl, h2, ha2⟩
                  go_wp2_with fail
                  go_ret
                  exact ⟨RrE.bad HB2.out (hT.aft.trans ha2) h2 (by omega), BadV.bad HB2.out⟩
                · have HE := Lib.hid (E3.out g1 (.inl g2))
                  clear E1 E2 E3 E4 hx2
                  obtain ⟨c, rfl⟩ := Int.eq_ofNat_of_zero_le g1
                  rw [Int.toNat_natCast] at HE
                  have g3 : ¬ (c : Int) < 0 := by omega
                  have g4 : ¬ (56320 : Int) ≤ (c : Int) := by omega
                  have g5 : ¬ (55296 : Int) ≤ (c : Int) := by omega
                  have hc9 : c ≤ 1114111 ∧ ¬ (55296 ≤ c ∧ c ≤ 57343) := by omega
                  have hU := fun w => utf_walk c w hc9
                  have hel := enc_len c
                  have HB2 : Hid (R = Jp.txtF s fu (m + 6) (acc ++ Lx.enc c)) := by show _ = _; rw [HB.out, HE.out]
                  have hpl : m + 6 ≤ s.length := by have := Jp.esc_ahead s m hlt; rw [HE.out] at this; exact this.2
                  clear HB HE
                  generalize Lx.enc c = E at *
                  go_wp2_with fail
                  refine (hU _).mono ?_
                  clear hU
                  rintro e w6 ⟨A, cap, rfl, hRd, hb6⟩
                  have hT6 := hT.below hgl hb6
                  obtain ⟨b, o, rfl, _, hcl⟩ := hRd.2 (by omega)
                  have hnw : ∀ j u, (Lib.byteCells E)[j]? = some u → w6.cell? ((⟨b, o, none⟩ : Addr).add j) = some u := fun j u hu => by rw [addr_add]; exact hcl j u hu
                  have hsz := hT6.aft.bel.size
                  have h1c : ∀ u ∈ Lib.byteCells E, u.oneCell' = true := byteCells_one E
                  have hln : (Lib.byteCells E).length = E.length * 1 := by rw [Lib.byteCells_length]; omega
                  clear hRd hb6 hT hcl
                  go_wp2_with (at_builtin; refine wpList_append_lies _ rfl _ _ 101 rfl w.heap.size 5 i0 _ 1 1 Tryz.underlying101 ji jz0 jz1 jz2 rfl (by omega) (.slice Av acc.length cv) acc.length (Lib.byteCells acc) rfl hT6.own ⟨b, o, none⟩ E.length cap (Lib.byteCells E) rfl hln hnw h1c (by omega) (by unfold maxLen; omega) (by omega) hsz _ rfl ?_; intro gg cap' w3 hown3 hgrow hat3 hlt3)
                  go_roundg (s.length - (m + 6))
                  case rel =>
                    obtain ⟨fu', rfl⟩ : ∃ f', fu = f' + 1 := ⟨fu - 1, by have := HF.out; omega⟩
                    exact ⟨m + 6, fu', acc ++ E, Nat.le_refl _, hpl, by simp; omega, hT6.grown hgl hgrow (by rw [List.length_append, Lib.byteCells_append]; exact hown3), HB2.out, by show _ ≤ _; have := HF.out; omega⟩
                  case measure => omega
                · have HE := Lib.hid (E3.out (by omega) (.inr g1))
                  clear E1 E2 E3 E4 hx2
                  obtain ⟨c, rfl⟩ := Int.eq_ofNat_of_zero_le (a := n0) (by omega)
                  rw [Int.toNat_natCast] at HE
                  have g3 : ¬ (c : Int) < 0 := by omega
                  have g4 : (56320 : Int) ≤ (c : Int) := by omega
                  have g5 : (55296 : Int) ≤ (c : Int) := by omega
                  have g6 : ¬ (c : Int) ≤ 56319 := by omega
                  have g7 : ¬ (c : Int) ≤ 57343 := by omega
                  have hc9 : c ≤ 1114111 ∧ ¬ (55296 ≤ c ∧ c ≤ 57343) := by omega
                  have hU := fun w => utf_walk c w hc9
                  have hel := enc_len c
                  have HB2 : Hid (R = Jp.txtF s fu (m + 6) (acc ++ Lx.enc c)) := by show _ = _; rw [HB.out, HE.out]
                  have hpl : m + 6 ≤ s.length := by have := Jp.esc_ahead s m hlt; rw [HE.out] at this; exact this.2
                  clear HB HE
                  generalize Lx.enc c = E at *
                  go_wp2_with fail
                  refine (hU _).mono ?_
                  clear hU
                  rintro e w6 ⟨A, cap, rfl, hRd, hb6⟩
                  have hT6 := hT.below hgl hb6
                  obtain ⟨b, o, rfl, _, hcl⟩ := hRd.2 (by omega)
                  have hnw : ∀ j u, (Lib.byteCells E)[j]? = some u → w6.cell? ((⟨b, o, none⟩ : Addr).add j) = some u := fun j u hu => by rw [addr_add]; exact hcl j u hu
                  have hsz := hT6.aft.bel.size
                  have h1c : ∀ u ∈ Lib.byteCells E, u.oneCell' = true := byteCells_one E
                  have hln : (Lib.byteCells E).length = E.length * 1 := by rw [Lib.byteCells_length]; omega
                  clear hRd hb6 hT hcl
                  go_wp2_with (at_builtin; refine wpList_append_lies _ rfl _ _ 101 rfl w.heap.size 5 i0 _ 1 1 Tryz.underlying101 ji jz0 jz1 jz2 rfl (by omega) (.slice Av acc.length cv) acc.length (Lib.byteCells acc) rfl hT6.own ⟨b, o, none⟩ E.length cap (Lib.byteCells E) rfl hln hnw h1c (by omega) (by unfold maxLen; omega) (by omega) hsz _ rfl ?_; intro gg cap' w3 hown3 hgrow hat3 hlt3)
                  go_roundg (s.length - (m + 6))
                  case rel =>
                    obtain ⟨fu', rfl⟩ : ∃ f', fu = f' + 1 := ⟨fu - 1, by have := HF.out; omega⟩
                    exact ⟨m + 6, fu', acc ++ E, Nat.le_refl _, hpl, by simp; omega, hT6.grown hgl hgrow (by rw [List.length_append, Lib.byteCells_append]; exact hown3), HB2.out, by show _ ≤ _; have := HF.out; omega⟩
                  case measure => omega
                · have c1 := Blk.cell hT.rd 1
                  have f1 := Blk.frozen hT.rd 1
                  simp at c1
                  obtain ⟨E5, E6⟩ := E4.out ⟨g1, g2⟩
                  have E5 := Lib.hid E5
                  have E6 := Lib.hid E6
                  clear E1 E2 E3 E4
                  go_wp2_with fail
                  refine (hx2 _ hT.rd).mono ?_
                  clear hx2
                  rintro e w4 ⟨rfl, rfl⟩
                  have hT2 := hT.move hgl (m + 12)
                  go_upto_region 31 with fail
                  first | rw [show (m : Int) + 6 + 6 = ((m + 12 : Nat) : Int) by omega] | rw [show (m : Int) + 12 = ((m + 12 : Nat) : Int) by omega] | skip
                  clear hT c1 f1
                  have hT := hT2
                  clear hT2
                  generalize w4.setCell ⟨g, 1, none⟩ (.int .i64 ((m + 12 : Nat) : Int)) = w4 at *
                  have hways : (56320 ≤ n1 ∧ n1 ≤ 57343) ∨ n1 < 56320 ∨ 57343 < n1 := by omega
                  rcases hways with ⟨g3, g4⟩ | g3 | g3
                  · have HE := Lib.hid (E5.out ⟨g3, g4⟩)
                    obtain ⟨c, hc⟩ := Int.eq_ofNat_of_zero_le (a := 65536 + (n0 - 55296) * 1024 + n1 - 56320) (by omega)
                    rw [hc, Int.toNat_natCast] at HE
                    have hc1 : (65536 : Int) ≤ (c : Int) := by omega
                    have hc2 : (c : Int) ≤ 1114111 := by omega
                    have g8 : ¬ (c : Int) < 0 := by omega
                    have g9 : (56320 : Int) ≤ (c : Int) := by omega
                    have g10 : ¬ (c : Int) ≤ 57343 := by omega
                    clear E5 E6
                    go_upto_region 34 with fail
                    try rw [hc]
                    clear hc g1 g2 g3 g4 hr1 hr2
                    have hc9 : c ≤ 1114111 ∧ ¬ (55296 ≤ c ∧ c ≤ 57343) := by omega
                    have hU := fun w => utf_walk c w hc9
                    have hel := enc_len c
                    have HB2 : Hid (R = Jp.txtF s fu (m + 12) (acc ++ Lx.enc c)) := by show _ = _; rw [HB.out, HE.out]
                    have hpl : m + 12 ≤ s.length := by have := Jp.esc_ahead s m hlt; rw [HE.out] at this; exact this.2
                    clear HB HE
                    generalize Lx.enc c = E at *
                    go_wp2_with fail
                    refine (hU _).mono ?_
                    clear hU
                    rintro e w6 ⟨A, cap, rfl, hRd, hb6⟩
                    have hT6 := hT.below hgl hb6
                    obtain ⟨b, o, rfl, _, hcl⟩ := hRd.2 (by omega)
                    have hnw : ∀ j u, (Lib.byteCells E)[j]? = some u → w6.cell? ((⟨b, o, none⟩ : Addr).add j) = some u := fun j u hu => by rw [addr_add]; exact hcl j u hu
                    have hsz := hT6.aft.bel.size
                    have h1c : ∀ u ∈ Lib.byteCells E, u.oneCell' = true := byteCells_one E
                    have hln : (Lib.byteCells E).length = E.length * 1 := by rw [Lib.byteCells_length]; omega
                    clear hRd hb6 hT hcl
                    go_wp2_with (at_builtin; refine wpList_append_lies _ rfl _ _ 101 rfl w.heap.size 5 i0 _ 1 1 Tryz.underlying101 ji jz0 jz1 jz2 rfl (by omega) (.slice Av acc.length cv) acc.length (Lib.byteCells acc) rfl hT6.own ⟨b, o, none⟩ E.length cap (Lib.byteCells E) rfl hln hnw h1c (by omega) (by unfold maxLen; omega) (by omega) hsz _ rfl ?_; intro gg cap' w3 hown3 hgrow hat3 hlt3)
                    go_roundg (s.length - (m + 12))
                    case rel =>
                      obtain ⟨fu', rfl⟩ : ∃ f', fu = f' + 1 := ⟨fu - 1, by have := HF.out; omega⟩
                      exact ⟨m + 12, fu', acc ++ E, Nat.le_refl _, hpl, by simp; omega, hT6.grown hgl hgrow (by rw [List.length_append, Lib.byteCells_append]; exact hown3), HB2.out, by show _ ≤ _; have := HF.out; omega⟩
                    case measure => omega
                  · have HE := Lib.hid (E6.out (by omega))
                    clear E5 E6
                    have HB2 : Hid (R = .bad m 3) := by show _ = _; rw [HB.out, HE.out]
                    clear HB HE
                    go_wp2_with fail
                    refine (rfail_first g s _ 0 3 m _ hT.rd).mono ?_
                    rintro e w2 ⟨rfl, h2, ha2⟩
                    go_wp2_with fail
                    go_ret
                    exact ⟨RrE.bad HB2.out (hT.aft.trans ha2) h2 (by omega), BadV.bad HB2.out⟩
                  · have HE := Lib.hid (E6.out (by omega))
                    have g4 : 56320 ≤ n1 := by omega
                    have g5 : ¬ n1 ≤ 57343 := by omega
                    clear E5 E6
                    have HB2 : Hid (R = .bad m 3) := by show _ = _; rw [HB.out, HE.out]
                    clear HB HE
                    go_wp2_with fail
                    refine (rfail_first g s _ 0 3 m _ hT.rd).mono ?_
                    rintro e w2 ⟨rfl, h2, ha2⟩
                    go_wp2_with fail
                    go_ret
                    exact ⟨RrE.bad HB2.out (hT.aft.trans ha2) h2 (by omega), BadV.bad HB2.out⟩
          · as_aux_lemma =>
            have HB : Hid (R = Jp.txtF s fu (m + 1) (acc ++ [c])) := by show _ = _; rw [HR2.out, if_neg h32, if_neg h34, if_neg h92]
            have n92 : ((c.toNat : Int) != 92) = true := by rw [bne_iff_ne]; intro e; exact h92 (UInt8.toNat_inj.1 (by show c.toNat = 92; omega))
            have n92' : ((c.toNat : Int) == 92) = false := by rw [beq_eq_false_iff_ne]; intro e; exact h92 (UInt8.toNat_inj.1 (by show c.toNat = 92; omega))
            clear HR2 h34 h32 h92 c0 c1 f1
            go_upto_region 12 with fail
            have hBN : (wr.alloc (.cells #[.int .u8 (c.toNat : Int)] 5)).heap[wr.heap.size]? = some (.cells #[.int .u8 (c.toNat : Int)] 5 (0, 0)) := heap_alloc_new _ _
            have hbl : Below wr.heap.size wr (wr.alloc (.cells #[.int .u8 (c.toNat : Int)] 5)) := (Below.refl _ _).alloc (Nat.le_refl _) _
            have hT4 := hT.below hgl hbl
            have hsz := hT4.aft.bel.size
            clear hbl
            go_upto_region 13 with (at_builtin; refine wpList_append_lies _ rfl _ _ 101 rfl w.heap.size 5 i0 _ 1 1 Tryz.underlying101 ji jz0 jz1 jz2 rfl (by omega) (.slice Av acc.length cv) acc.length (Lib.byteCells acc) rfl hT4.own ⟨wr.heap.size, 0, none⟩ 1 1 [.int .u8 (c.toNat : Int)] rfl rfl (World.news_of_block (cs := #[.int .u8 (c.toNat : Int)]) (t := 5) (fr := (0, 0)) hBN) (by simp [Value.oneCell']) (by omega) (by unfold maxLen; omega) (by omega) hsz _ rfl ?_; intro gg cap' w3 hown3 hgrow hat3 hlt3)
            have hT5 : TxA w w3 g s m (acc ++ [c]) (.slice (some ⟨gg, 0, none⟩) (acc.length + 1) cap') := hT4.grown hgl hgrow (by rw [List.length_append, Lib.byteCells_append]; exact hown3)
            clear hT4 hBN hsz hown3 hgrow hat3 hlt3
            have c1 := Blk.cell hT5.rd 1
            have f1 := Blk.frozen hT5.rd 1
            simp at c1
            go_wp2_with fail
            go_roundg (s.length - (m + 1))
            case rel =>
              obtain ⟨fu', rfl⟩ : ∃ f', fu = f' + 1 := ⟨fu - 1, by have := HF.out; omega⟩
              exact ⟨m + 1, fu', acc ++ [c], Nat.le_refl _, by omega, by simp; omega, hT5.move hgl (m + 1), HB.out, by show _ ≤ _; have := HF.out; omega⟩
            case measure => omega
    · obtain rfl : m = s.length := by omega
      have HB : Hid (R = .bad s.length 3) := by show _ = _; rw [HR.out, Jp.txt_none (List.getElem?_eq_none (Nat.le_refl _))]
      go_wp2_with fail
      go_quiet (fail)
      go_wp2_with fail
      refine (rfail_first g s s.length 0 3 s.length _ (hT.rd.drewN _)).mono ?_
      rintro e w2 ⟨rfl, h2, ha2⟩
      go_wp2_with fail
      go_ret
      exact ⟨RrE.bad HB.out ((hT.aft.drewN _).trans ha2) h2 (by omega), BadV.bad HB.out⟩
end Go.Proofs.YtgpjcjnimheglaaGreatDoor
/-
  VALUES that the document's reader makes; WALKS: many, at a list.
-/
namespace Go.Proofs.YtgpjcjnimheglaaGreatDoor
open Go.RowKit

/-- the pointers of a row that is being made, and what they lead to -/
def RKids (w : World) (F : Nat → Prop) (d : Nat) (l : List JT) (xs : List Value) : Prop :=
  xs.length = l.length ∧ ∀ k (h : k < l.length), ∃ b, xs[k]? = some (.pointer (some ⟨b, 0, none⟩)) ∧ RjF w F d l[k] b
theorem RKids.nil (w : World) (F : Nat → Prop) (d : Nat) : RKids w F d [] [] := ⟨rfl, fun k h => by simp at h⟩
theorem RKids.keep {w w' : World} {F F' : Nat → Prop} {d : Nat} {l : List JT} {xs : List Value} (h : RKids w F d l xs) (hk : KeepF F w w') (hF : ∀ b, F b → b < w.heap.size → F' b) : RKids w' F' d l xs :=
  ⟨h.1, fun k hkl => by
    obtain ⟨b, hc, hj⟩ := h.2 k hkl
    exact ⟨b, hc, hj.keep hk hF⟩⟩
theorem RKids.snoc {w : World} {F : Nat → Prop} {d : Nat} {l : List JT} {xs : List Value} (h : RKids w F d l xs) {j : JT} {b : Nat} (hj : RjF w F d j b) : RKids w F d (l ++ [j]) (xs ++ [.pointer (some ⟨b, 0, none⟩)]) := by
  refine ⟨by rw [List.length_append, List.length_append, h.1]; rfl, fun k hk => ?_⟩
  by_cases hkl : k < l.length
  · obtain ⟨b', hc, hj'⟩ := h.2 k hkl
    rw [List.getElem_append_left hkl]
    exact ⟨b', by rw [List.getElem?_append_left (by rw [h.1]; omega)]; exact hc, hj'⟩
  · have hkn : k = l.length := by simp at hk; omega
    have hget : (l ++ [j])[k] = j := by
      rw [List.getElem_append_right (by omega)]; simp
    rw [hget]
    exact ⟨b, by rw [List.getElem?_append_right (by rw [h.1]; omega), h.1, hkn]; simp, hj⟩
/-- what many works on -/
structure RSt (w0 : World) (g gj d : Nat) (kind : Int) (w : World) (st : Jp.KK) (vK vD : Value) (xs : List Value) : Prop where
  aft : AftR g w0 w
  obj : Blk w gj 78 #[.int .i64 kind, .int .i64 0, .string ⟨#[]⟩, vK, vD]
  keys : w.ownsRow w0.heap.size 9 1 vK st.1.length (txtV st.1)
  kids : w.ownsRow w0.heap.size 73 1 vD st.2.length xs
  rows : RKids w (fun b => w0.heap.size ≤ b ∧ b ≠ gj ∧ vK.ownBlock ≠ some b ∧ vD.ownBlock ≠ some b) d st.2 xs
  gl : g < w0.heap.size
  lj : w0.heap.size ≤ gj
section
variable {w0 w w' w5 w6 : World} {g gj d : Nat} {kind : Int} {st : Jp.KK} {vK vD : Value} {xs : List Value} {g1 cap : Nat}
theorem RSt.after (h : RSt w0 g gj d kind w st vK vD xs) (ha : AftR g w w') : RSt w0 g gj d kind w' st vK vD xs := by
  have hgl := h.gl
  have hlj := h.lj
  refine ⟨h.aft.trans ha, (ha.oth gj h.obj.lt (by omega)).trans h.obj, ?_, ?_, h.rows.keep ⟨ha.bel.size, fun b hb hl => ha.oth b hl (by have := hb.1; omega)⟩ (fun b hb _ => hb), hgl, hlj⟩
  · exact own_of_block h.keys fun b hb => ha.oth b (h.keys.lt b hb).2 (by have := (h.keys.lt b hb).1; omega)
  · exact own_of_block h.kids fun b hb => ha.oth b (h.kids.lt b hb).2 (by have := (h.kids.lt b hb).1; omega)
theorem RSt.key {key : Bs} (hJ : RSt w0 g gj d kind w5 st vK vD xs) (hgrow : w5.grownBy w6 vK.ownBlock) (hat : vK.ownBlock = some g1 ∨ g1 = w5.heap.size) (hown : w6.ownsRow w0.heap.size 9 1 (.slice (some ⟨g1, 0, none⟩) (st.1.length + 1) cap) (st.1.length + 1) (txtV st.1 ++ [.string ⟨key.toArray⟩])) :
    RSt w0 g gj d kind (w6.setCell ⟨gj, 3, none⟩ (.slice (some ⟨g1, 0, none⟩) (st.1.length + 1) cap)) (st.1 ++ [key], st.2) (.slice (some ⟨g1, 0, none⟩) (st.1.length + 1) cap) vD xs := by
  have hF : ∀ b, (w0.heap.size ≤ b ∧ b ≠ gj ∧ vK.ownBlock ≠ some b ∧ vD.ownBlock ≠ some b) → b < w5.heap.size → (w0.heap.size ≤ b ∧ b ≠ gj ∧ (Value.slice (some ⟨g1, 0, none⟩) (st.1.length + 1) cap).ownBlock ≠ some b ∧ vD.ownBlock ≠ some b) := fun b hb hl =>
    ⟨hb.1, hb.2.1, fun e => by
      have e : g1 = b := by simpa [Value.ownBlock] using e
      rcases hat with h | h
      · exact hb.2.2.1 (by rw [h, e])
      · omega, hb.2.2.2⟩
  have hobj6 := hJ.obj.grown hgrow (own_ne hJ.keys hJ.obj (by decide))
  have hoth : ∀ b, b ≠ gj → (w6.setCell ⟨gj, 3, none⟩ (.slice (some ⟨g1, 0, none⟩) (st.1.length + 1) cap)).heap[b]? = w6.heap[b]? := fun b hb => Below.heap_setCell _ _ _ b hb
  have hsz : (w6.setCell ⟨gj, 3, none⟩ (.slice (some ⟨g1, 0, none⟩) (st.1.length + 1) cap)).heap.size = w6.heap.size := by simp [World.setCell]
  refine ⟨(hJ.aft.grown hgrow (fun k hk => (hJ.keys.lt k hk).1) hJ.gl).far hJ.lj hJ.gl _ _, by simpa using hobj6.set_ 3 (.slice (some ⟨g1, 0, none⟩) (st.1.length + 1) cap), ?_, ?_, hJ.rows.keep ⟨by rw [hsz]; exact hgrow.size, fun b hb hl => (hoth b hb.2.1).trans (hgrow.block b hl (fun e => hb.2.2.1 e.symm))⟩ hF, hJ.gl, hJ.lj⟩
  · rw [List.length_append, show txtV (st.1 ++ [key]) = txtV st.1 ++ [.string ⟨key.toArray⟩] by simp [txtV, strV]]
    exact own_of_block hown fun b hb => hoth b fun e => own_ne hown hobj6 (by decide) (by rw [hb, e])
  · exact own_of_block (own_far hJ.kids hJ.keys hgrow (by decide)) fun b hb => hoth b fun e => own_ne hJ.kids hJ.obj (by decide) (by rw [hb, e])
theorem RSt.kid {j : JT} {bx B : Nat} (hJ : RSt w0 g gj d kind w5 st vK vD xs) (hj : RjF w5 (fun b => B ≤ b) d j bx) (hB0 : w0.heap.size ≤ B) (hBj : gj < B) (hBK : ∀ b, vK.ownBlock = some b → b < B) (hBD : ∀ b, vD.ownBlock = some b → b < B)
    (hgrow : w5.grownBy w6 vD.ownBlock) (hat : vD.ownBlock = some g1 ∨ g1 = w5.heap.size) (hown : w6.ownsRow w0.heap.size 73 1 (.slice (some ⟨g1, 0, none⟩) (st.2.length + 1) cap) (st.2.length + 1) (xs ++ [.pointer (some ⟨bx, 0, none⟩)])) :
    RSt w0 g gj d kind (w6.setCell ⟨gj, 4, none⟩ (.slice (some ⟨g1, 0, none⟩) (st.2.length + 1) cap)) (st.1, st.2 ++ [j]) vK (.slice (some ⟨g1, 0, none⟩) (st.2.length + 1) cap) (xs ++ [.pointer (some ⟨bx, 0, none⟩)]) := by
  have hF : ∀ b, (w0.heap.size ≤ b ∧ b ≠ gj ∧ vK.ownBlock ≠ some b ∧ vD.ownBlock ≠ some b) → b < w5.heap.size → (w0.heap.size ≤ b ∧ b ≠ gj ∧ vK.ownBlock ≠ some b ∧ (Value.slice (some ⟨g1, 0, none⟩) (st.2.length + 1) cap).ownBlock ≠ some b) := fun b hb hl =>
    ⟨hb.1, hb.2.1, hb.2.2.1, fun e => by
      have e : g1 = b := by simpa [Value.ownBlock] using e
      rcases hat with h | h
      · exact hb.2.2.2 (by rw [h, e])
      · omega⟩
  have hobj6 := hJ.obj.grown hgrow (own_ne hJ.kids hJ.obj (by decide))
  have hoth : ∀ b, b ≠ gj → (w6.setCell ⟨gj, 4, none⟩ (.slice (some ⟨g1, 0, none⟩) (st.2.length + 1) cap)).heap[b]? = w6.heap[b]? := fun b hb => Below.heap_setCell _ _ _ b hb
  have hsz : (w6.setCell ⟨gj, 4, none⟩ (.slice (some ⟨g1, 0, none⟩) (st.2.length + 1) cap)).heap.size = w6.heap.size := by simp [World.setCell]
  have hjF : RjF w5 (fun b => w0.heap.size ≤ b ∧ b ≠ gj ∧ vK.ownBlock ≠ some b ∧ vD.ownBlock ≠ some b) d j bx := hj.keep (KeepF.refl _ _) fun b hb _ => ⟨by omega, by omega, fun e => by have := hBK b e; omega, fun e => by have := hBD b e; omega⟩
  refine ⟨(hJ.aft.grown hgrow (fun k hk => (hJ.kids.lt k hk).1) hJ.gl).far hJ.lj hJ.gl _ _, by simpa using hobj6.set_ 4 (.slice (some ⟨g1, 0, none⟩) (st.2.length + 1) cap), ?_, ?_, (hJ.rows.snoc hjF).keep ⟨by rw [hsz]; exact hgrow.size, fun b hb hl => (hoth b hb.2.1).trans (hgrow.block b hl (fun e => hb.2.2.2 e.symm))⟩ hF, hJ.gl, hJ.lj⟩
  · exact own_of_block (own_far hJ.keys hJ.kids hgrow (by decide)) fun b hb => hoth b fun e => own_ne hJ.keys hJ.obj (by decide) (by rw [hb, e])
  · rw [List.length_append]
    exact own_of_block hown fun b hb => hoth b fun e => own_ne hown hobj6 (by decide) (by rw [hb, e])
theorem RSt.end_ (h : RSt w0 g gj d kind w st vK vD xs) : RjF w (fun b => w0.heap.size ≤ b) (d + 1) (.mk kind 0 [] st.1 st.2) gj := by
  obtain ⟨Ak, ck, rfl⟩ := own_form h.keys
  obtain ⟨Ad, cd, rfl⟩ := own_form h.kids
  refine ⟨h.lj, Ak, ck, Ad, cd, h.obj, ⟨(Rd.of_own h.keys).1, fun h0 => ?_⟩, fun h0 => ?_⟩
  · obtain ⟨b, o, e, hb, hc⟩ := (Rd.of_own h.keys).2 h0
    subst e
    obtain ⟨g', cap, hv, _, hlt⟩ := h.keys.form h0
    refine ⟨b, o, rfl, ?_, hb, hc⟩
    have hbo : (Value.slice (some ⟨b, o, none⟩) st.1.length ck).ownBlock = some b := rfl
    exact (h.keys.lt b hbo).1
  · obtain ⟨b, o, e, hb, hc⟩ := (Rd.of_own h.kids).2 h0
    subst e
    have hbo : (Value.slice (some ⟨b, o, none⟩) st.2.length cd).ownBlock = some b := rfl
    refine ⟨b, o, rfl, (h.kids.lt b hbo).1, hb, fun k hk => ?_⟩
    obtain ⟨b', hx, hj⟩ := h.rows.2 k hk
    exact ⟨b', hc k _ hx, hj.keep (KeepF.refl _ _) fun b hb _ => hb.1⟩
end
theorem RSt.start {w0 w1 : World} {g gj d : Nat} {kind : Int} (ha : AftR g w0 w1) (ho : Blk w1 gj 78 #[.int .i64 kind, .int .i64 0, .string ⟨#[]⟩, .slice none 0 0, .slice none 0 0]) (hg : g < w0.heap.size) (hj : w0.heap.size ≤ gj) : RSt w0 g gj d kind w1 ([], []) (.slice none 0 0) (.slice none 0 0) [] :=
  ⟨ha, ho, World.ownsRow_nil _ _ _ _, World.ownsRow_nil _ _ _ _, RKids.nil _ _ _, hg, hj⟩
namespace Jp
variable {σ : Type} {one : σ → Nat → Rs σ} {e : UInt8} {s : List UInt8} {f : Nat} {st st' : σ} {i k : Nat}
theorem many_bad {p er : Nat} (h : one st i = .bad p er) : manyF one e s (f + 1) st i = .bad p er := by unfold manyF; simp only [h]
theorem many_44 (h : one st i = .ok st' k) (h2 : s[skipP s k]? = some 44) : manyF one e s (f + 1) st i = manyF one e s f st' (skipP s k + 1) := by rw [manyF]; simp only [h, if_pos h2]
theorem many_e (h : one st i = .ok st' k) (h2 : s[skipP s k]? = some e) (he : e ≠ 44) : manyF one e s (f + 1) st i = .ok st' (skipP s k + 1) := by
  rw [manyF]; simp only [h]; rw [if_neg (fun h' => he (by rw [h2] at h'; exact Option.some.inj h')), if_pos h2]
theorem many_no (h : one st i = .ok st' k) (h1 : s[skipP s k]? ≠ some 44) (h2 : s[skipP s k]? ≠ some e) : manyF one e s (f + 1) st i = .bad (skipP s k) 3 := by
  rw [manyF]; simp only [h]; rw [if_neg h1, if_neg h2]
theorem oneL_bad {val : Nat → Rs JT} {st : KK} {i p er : Nat} (h : val i = .bad p er) : oneL val st i = .bad p er := by unfold oneL; rw [h]
theorem oneL_mk {val : Nat → Rs JT} {st : KK} {i k : Nat} {j : JT} (h : val i = .ok j k) : oneL val st i = .ok (st.1, st.2 ++ [j]) k := by unfold oneL; rw [h]
end Jp
theorem infoPJ : (Tryz.prog.info? 73).map (fun i => (i.zero, i.size, i.bytes)) = some (some (.pointer none), 1, 8) := by kernel_rfl

set_option maxHeartbeats 8000000 in
set_option maxRecDepth 100000 in
theorem rmanyL_walk (g f dep : Nat) (s : Bs) (hl : s.length ≤ 16777216) (hdep : dep ≤ 40)
    (hv : ∀ (i : Nat) (w : World), RrAt w g s i 0 0 → i ≤ s.length → Calls Tryz.prog 59 #[.pointer (some ⟨g, 0, none⟩), .int .i64 ((dep : Int) + 1)] w (RrE g s w (rjV w.heap.size f) (Jp.valF s f (dep + 1) i)))
    (i : Nat) (w : World) (h : RrAt w g s i 0 0) (hi : i < s.length) :
    Calls Tryz.prog 97 #[.pointer (some ⟨g, 0, none⟩), .int .u8 91, .int .i64 dep] w (RrE g s w (rjV w.heap.size (f + 1)) (Jp.listP (Jp.itemsP (Jp.oneL (Jp.valF s f (dep + 1))) 93 s ([], []) i) 4)) := by
  obtain ⟨i0, ji, jz0, jz1, jz2⟩ := info_parts infoPJ
  obtain ⟨i1, si, sz0, sz1, sz2⟩ := info_parts infoStr
  have hgl := h.lt
  obtain ⟨bj, hbj⟩ : ∃ b, b = w.heap.size := ⟨_, rfl⟩
  have hB4 : Blk (w.alloc (.cells #[.int .i64 4, .int .i64 0, .string ⟨#[]⟩, .slice none 0 0, .slice none 0 0] 78)) bj 78 #[.int .i64 4, .int .i64 0, .string ⟨#[]⟩, .slice none 0 0, .slice none 0 0] := by rw [hbj]; exact Blk.new _ _ _
  have hbl : Below w.heap.size w (w.alloc (.cells #[.int .i64 4, .int .i64 0, .string ⟨#[]⟩, .slice none 0 0, .slice none 0 0] 78)) := (Below.refl _ _).alloc (Nat.le_refl _) _
  have h1 := h.below hbl hgl
  have ha1 := AftR.of_below hbl (Nat.le_of_lt hgl)
  have hgj : Hid (w.heap.size ≤ bj) := by show _ ≤ _; omega
  have hgb : g < bj := by omega
  generalize hR : Jp.listP (Jp.itemsP (Jp.oneL (Jp.valF s f (dep + 1))) 93 s ([], []) i) 4 = R
  have HR : Hid (R = Jp.listP (if s[Jp.skipP s (i + 1)]? = some 93 then .ok ([], []) (Jp.skipP s (i + 1) + 1) else Jp.manyF (Jp.oneL (Jp.valF s f (dep + 1))) 93 s (s.length + 1) ([], []) (Jp.skipP s (i + 1))) 4) := hR.symm
  clear hR hbl
  go_enter Tryz.func97, Tryz.ntmps97
  go_upto_region 3 with fail
  rw [← hbj]
  have HBJ := Lib.hid hbj
  clear hbj h
  generalize w.alloc (.cells #[.int .i64 4, .int .i64 0, .string ⟨#[]⟩, .slice none 0 0, .slice none 0 0] 78) = w1 at *
  have c1 := Blk.cell h1 1
  have f1 := Blk.frozen h1 1
  simp at c1
  have h2 := h1.move (i + 1)
  have hJ2 : RSt w g bj f 4 (w1.setCell ⟨g, 1, none⟩ (.int .i64 ((i + 1 : Nat) : Int))) ([], []) (.slice none 0 0) (.slice none 0 0) [] := RSt.start (ha1.set 1 _) (hB4.far (p := ⟨g, 1, none⟩) (by simp; omega) _) hgl hgj.out
  have E1 : Hid ((i : Int) + 1 = ((i + 1 : Nat) : Int)) := by show _ = _; omega
  go_upto_region 7 with fail
  rw [E1.out]
  clear c1 f1 h1 ha1 hB4 E1
  generalize w1.setCell ⟨g, 1, none⟩ (.int .i64 ((i + 1 : Nat) : Int)) = w1 at *
  have hle := Jp.skip_le s (i + 1) (by omega)
  have hge := Jp.skip_ge s (i + 1)
  have hsg := rsign_walk g s (i + 1) 93 w1 h2 (by omega) hl
  generalize Jp.skipP s (i + 1) = q0 at *
  have HR1 : Hid (decide (s[q0]? = some 93) = true → R = Jp.listP (.ok ([], []) (q0 + 1)) 4) := fun h => by rw [HR.out, if_pos (of_decide_eq_true h)]
  have HR2 : Hid (decide (s[q0]? = some 93) = false → R = Jp.listP (Jp.manyF (Jp.oneL (Jp.valF s f (dep + 1))) 93 s (s.length + 1) ([], []) q0) 4) := fun h => by rw [HR.out, if_neg (of_decide_eq_false h)]
  have HQ : Hid (decide (s[q0]? = some 93) = true → q0 < s.length) := fun h => Jp.get_lt (of_decide_eq_true h)
  clear HR
  generalize decide (s[q0]? = some 93) = qd at *
  have Hv := Lib.hid hv
  clear hv
  go_wp2_with fail
  refine hsg.mono ?_
  clear hsg
  rintro en w2 ⟨rfl, h3, ha3⟩
  have hJ3 := hJ2.after ha3
  clear h2 hJ2 ha3
  go_upto_block 0 with fail
  go_wp2_with fail
  go_loopg [9] (s.length) (fun q v9 wr => ∃ (ov : Bool) (m : Nat) (st : Jp.KK) (vK vD : Value) (xs : List Value), v9 = .bool ov ∧ s.length - m ≤ q ∧ m ≤ s.length ∧ RrAt wr g s m 0 0 ∧ RSt w g bj f 4 wr st vK vD xs ∧ (4 * st.1.length ≤ m ∧ st.2.length ≤ m) ∧
    Hid (ov = true → R = Jp.listP (.ok st m) 4) ∧ Hid (ov = false → ∃ fu, s.length ≤ fu + m ∧ R = Jp.listP (Jp.manyF (Jp.oneL (Jp.valF s f (dep + 1))) 93 s (fu + 1) st m) 4))
  case atStart =>
    cases qd with
    | true => exact ⟨true, q0 + 1, ([], []), _, _, _, rfl, by omega, HQ.out rfl, h3, hJ3, ⟨by simp, by simp⟩, fun _ => HR1.out rfl, fun h => by cases h⟩
    | false => exact ⟨false, q0, ([], []), _, _, _, rfl, by omega, hle, h3, hJ3, ⟨by simp, by simp⟩, fun h => (by cases h), fun _ => ⟨s.length, by omega, HR2.out rfl⟩⟩
  case round =>
    clear h3 hJ3 HR1 HR2 HQ
    obtain ⟨ov, m, st, vK, vD, xs, rfl, hq, hm, h3, hJ, hM, HT, HF⟩ := hrel
    cases ov with
    | true =>
      have HB := Lib.hid (HT.out rfl)
      clear HT HF
      go_wp2_with fail
      go_ret
      exact RrE.ok (show R = .ok (.mk 4 0 [] st.1 st.2) m from HB.out) hJ.aft h3 ⟨bj, rfl, hJ.end_⟩
    | false =>
      obtain ⟨fu, hfu, hRm⟩ := HF.out rfl
      have HB : Hid (R = Jp.listP (Jp.manyF (Jp.oneL (Jp.valF s f (dep + 1))) 93 s (fu + 1) st m) 4) := hRm
      clear HT HF hRm
      have hval := Hv.out m wr h3 hm
      have hva := Jp.val_ahead s f (dep + 1) m hm
      have HO : Hid (∀ O, Jp.valF s f (dep + 1) m = O → (∀ p er, O = .bad p er → R = .bad p er) ∧ (∀ j k, O = .ok j k → Jp.oneL (Jp.valF s f (dep + 1)) st m = .ok (st.1, st.2 ++ [j]) k)) := fun O hO => ⟨fun p er h => by rw [HB.out, Jp.many_bad (Jp.oneL_bad (hO.trans h))]; rfl, fun j k h => Jp.oneL_mk (hO.trans h)⟩
      generalize hO : Jp.valF s f (dep + 1) m = O at hval hva
      obtain ⟨hO1, hO2⟩ := HO.out O hO
      have HO1 := Lib.hid hO1
      have HO2 := Lib.hid hO2
      clear hO HO hO1 hO2
      go_wp2_with fail
      refine hval.mono ?_
      clear hval
      cases O with
      | bad p er =>
        have HB2 : Hid (R = .bad p er) := HO1.out p er rfl
        intro en w5 h5
        obtain ⟨ha5, v, i5, rfl, h5, her⟩ := h5.is_bad
        have c2 := Blk.cell h5 2
        simp at c2
        have her1 : ((er : Int) != 0) = true := by rw [bne_iff_ne]; omega
        clear HB HO1 HO2
        go_wp2_with fail
        go_ret
        exact RrE.bad HB2.out (hJ.aft.trans ha5) h5 her
      | ok j k2 =>
        obtain ⟨hk1, hk2⟩ := hva
        intro en w5 h5
        obtain ⟨ha5, v, rfl, hr5, bx, rfl, hj⟩ := h5.is_ok
        have HO := Lib.hid (HO2.out j k2 rfl)
        clear HO1 HO2
        have hB0 : w.heap.size ≤ wr.heap.size := hJ.aft.bel.size
        have hBj : bj < wr.heap.size := hJ.obj.lt
        have hBK : Hid (∀ b, vK.ownBlock = some b → b < wr.heap.size) := fun b h => (hJ.keys.lt b h).2
        have hBD : Hid (∀ b, vD.ownBlock = some b → b < wr.heap.size) := fun b h => (hJ.kids.lt b h).2
        have hJ5 := hJ.after ha5
        clear hJ h3 ha5 h5
        have hJ := hJ5
        have h3 := hr5
        clear hJ5 hr5
        obtain ⟨B, hBe⟩ : ∃ B, B = wr.heap.size := ⟨_, rfl⟩
        rw [← hBe] at hj hB0 hBj hBK hBD
        clear hBe
        have c2 := Blk.cell h3 2
        simp at c2
        have hO := own_form hJ.kids
        obtain ⟨Ao, co, rfl⟩ := hO
        have d4 := hJ.obj.cell 4
        have f4 := hJ.obj.frozen 4
        simp at d4
        have hnl : st.2.length ≤ 16777216 := by omega
        have hBN : (w5.alloc (.cells #[.pointer (some ⟨bx, 0, none⟩)] 73)).heap[w5.heap.size]? = some (.cells #[.pointer (some ⟨bx, 0, none⟩)] 73 (0, 0)) := heap_alloc_new _ _
        have hbl : Below w5.heap.size w5 (w5.alloc (.cells #[.pointer (some ⟨bx, 0, none⟩)] 73)) := (Below.refl _ _).alloc (Nat.le_refl _) _
        have hJA := hJ.after (AftR.of_below (g := g) hbl (Nat.le_of_lt h3.lt))
        have h3A := h3.below hbl h3.lt
        have hjA := hj.keep (F' := fun b => B ≤ b) (KeepF.below hbl) (fun b hb _ => hb)
        have hsz := hJA.aft.bel.size
        have d4A := hJA.obj.cell 4
        simp at d4A
        clear hbl hJ h3 hj
        go_upto_region 33 with (at_builtin; refine wpList_append_lies _ rfl _ _ 76 rfl w.heap.size 73 i0 _ 1 8 Tryz.underlying76 ji jz0 jz1 jz2 rfl (by omega) (.slice Ao st.2.length co) st.2.length xs rfl hJA.kids ⟨w5.heap.size, 0, none⟩ 1 1 [.pointer (some ⟨bx, 0, none⟩)] rfl rfl (World.news_of_block (cs := #[.pointer (some ⟨bx, 0, none⟩)]) (t := 73) (fr := (0, 0)) hBN) (by simp [Value.oneCell']) (by omega) (by unfold maxLen; omega) (by omega) hsz _ rfl ?_; intro g1 cap1 w6 hown hgrow hat hlt6; have hobj6 := hJA.obj.grown hgrow (own_ne hJA.kids hJA.obj (by decide)); have f46 := hobj6.frozen 4; have d46 := hobj6.cell 4; simp at d46)
        have h6 : RrAt w6 g s k2 0 0 := Blk.grown h3A hgrow (own_ne hJA.kids h3A (by decide))
        have hgj6 : g ≠ bj := by omega
        have h7 : RrAt (w6.setCell ⟨bj, 4, none⟩ (.slice (some ⟨g1, 0, none⟩) (st.2.length + 1) cap1)) g s k2 0 0 := Blk.far h6 (p := ⟨bj, 4, none⟩) hgj6 _
        have hJ7 := hJA.kid hjA hB0 hBj hBK.out hBD.out hgrow hat hown
        clear hJA h3A hjA hsz d4 f4 d4A hBN hown hgrow hat hlt6 hobj6 f46 d46 h6
        generalize w6.setCell ⟨bj, 4, none⟩ (.slice (some ⟨g1, 0, none⟩) (st.2.length + 1) cap1) = w7 at *
        have hle := Jp.skip_le s k2 hk2
        have hge := Jp.skip_ge s k2
        have hss := Jp.skip_skip s _ k2 (Nat.le_refl _)
        have hsg := rsign_walk g s k2 93 w7 h7 hk2 hl
        have H44 : (s[Jp.skipP s k2]? = some 93 → Jp.manyF (Jp.oneL (Jp.valF s f (dep + 1))) 93 s (fu + 1) (st) m = .ok (st.1, st.2 ++ [j]) (Jp.skipP s k2 + 1)) ∧ (s[Jp.skipP s k2]? = some 44 → Jp.manyF (Jp.oneL (Jp.valF s f (dep + 1))) 93 s (fu + 1) (st) m = Jp.manyF (Jp.oneL (Jp.valF s f (dep + 1))) 93 s fu (st.1, st.2 ++ [j]) (Jp.skipP s k2 + 1)) ∧ (s[Jp.skipP s k2]? ≠ some 93 → s[Jp.skipP s k2]? ≠ some 44 → Jp.manyF (Jp.oneL (Jp.valF s f (dep + 1))) 93 s (fu + 1) (st) m = .bad (Jp.skipP s k2) 3) := ⟨fun h => Jp.many_e HO.out h (by decide), fun h => Jp.many_44 HO.out h, fun h h' => Jp.many_no HO.out h' h⟩
        generalize Jp.skipP s k2 = q1 at *
        have HA : Hid (decide (s[q1]? = some 93) = true → R = Jp.listP (.ok (st.1, st.2 ++ [j]) (q1 + 1)) 4 ∧ q1 < s.length) := fun h => ⟨by rw [HB.out, (H44.1 (of_decide_eq_true h))], Jp.get_lt (of_decide_eq_true h)⟩
        have HC : Hid (decide (s[q1]? = some 44) = true → R = Jp.listP (Jp.manyF (Jp.oneL (Jp.valF s f (dep + 1))) 93 s fu (st.1, st.2 ++ [j]) (q1 + 1)) 4 ∧ q1 < s.length) := fun h => ⟨by rw [HB.out, H44.2.1 (of_decide_eq_true h)], Jp.get_lt (of_decide_eq_true h)⟩
        have HD : Hid (decide (s[q1]? = some 93) = false → decide (s[q1]? = some 44) = false → R = .bad q1 3) := fun h h' => by rw [HB.out, H44.2.2 (of_decide_eq_false h) (of_decide_eq_false h')]; rfl
        have hsc := fun w h => rsign_walk g s q1 44 w h hle hl
        rw [hss] at hsc
        generalize decide (s[q1]? = some 93) = qe at *
        generalize decide (s[q1]? = some 44) = qc at *
        clear HB HO H44 hss
        go_wp2_with fail
        refine hsg.mono ?_
        clear hsg
        rintro en w8 ⟨rfl, h8, ha8⟩
        have hJ8 := hJ7.after ha8
        clear h7 hJ7 ha8
        cases qe with
        | true =>
          obtain ⟨hA1, hA2⟩ := HA.out (by first | rfl | trivial)
          have HA1 := Lib.hid hA1
          clear HA HC HD hA1 hsc
          go_wp2_with fail
          go_roundg (s.length - (q1 + 1))
          case rel => exact ⟨true, q1 + 1, _, _, _, _, rfl, Nat.le_refl _, by omega, h8, hJ8, ⟨by show 4 * st.1.length ≤ _; omega, by simp; omega⟩, fun _ => HA1.out, fun h => by cases h⟩
          case measure => omega
        | false =>
          go_wp2_with fail
          refine (hsc _ h8).mono ?_
          clear hsc
          rintro en w9 ⟨rfl, h9, ha9⟩
          have hJ9 := hJ8.after ha9
          clear h8 hJ8 ha9
          cases qc with
          | true =>
            obtain ⟨hC1, hC2⟩ := HC.out (by first | rfl | trivial)
            have HC1 := Lib.hid hC1
            clear HA HC HD hC1
            go_wp2_with fail
            go_roundg (s.length - (q1 + 1))
            case rel =>
              obtain ⟨fu', rfl⟩ : ∃ f', fu = f' + 1 := ⟨fu - 1, by omega⟩
              exact ⟨false, q1 + 1, _, _, _, _, rfl, Nat.le_refl _, by omega, h9, hJ9, ⟨by show 4 * st.1.length ≤ _; omega, by simp; omega⟩, fun h => (by cases h), fun _ => ⟨fu', by omega, HC1.out⟩⟩
            case measure => omega
          | false =>
            have HD1 : Hid (R = .bad q1 3) := HD.out (by first | rfl | trivial) (by first | rfl | trivial)
            have c1 := Blk.cell h9 1
            simp at c1
            clear HA HC HD
            go_wp2_with fail
            refine (rfail_first g s q1 0 3 q1 _ h9).mono ?_
            rintro en w10 ⟨rfl, h10, ha10⟩
            go_wp2_with fail
            go_ret
            exact RrE.bad HD1.out (hJ9.aft.trans ha10) h10 (by omega)
end Go.Proofs.YtgpjcjnimheglaaGreatDoor
