/-
  JOINED of the texts OpenT RegG PR PV PQ PP PD
-/
import Derived.Test.YtccljojceoidhaaDoorWF
import Derived.ProofKit
import Derived.OpenShut
import Derived.JoinedCond
import Derived.Deep.Slices
import Derived.Deep.Fields
import Derived.ChangeSame
import Derived.SliceStrings
import Derived.Test.YtccljojceoidhaaDoorBase
import Derived.Deep.RegionHeld3
import Derived.Test.YtccljojceoidhaaDoorPM
import Derived.Test.YtccljojceoidhaaDoorVG
import Derived.Test.YtccljojceoidhaaDoorShelfP
import Derived.Deep.AppendLies
import Derived.Lib.ItoaNum
/-
  ARGUMENTS OF TYPE []string AND []int, OPENED: what they read as; the bound of the second form bounds their number and their bytes.
-/
namespace Go.Proofs.YtccljojceoidhaaDoor
open Go.RowKit Go.ChangeShapes Go.WideShapes Go.Deep

namespace bulks
theorem one_le {H : Type} (d : DataW H) : 1 ≤ Rows.uptoBulk d := by
  cases d with
  | lit l => cases l <;> simp [Rows.uptoBulk]
  | nil => simp [Rows.uptoBulk]
  | ptr d => simp [Rows.uptoBulk]
  | slice elems spare => simp [Rows.uptoBulk]
  | agg parts => simp [Rows.uptoBulk]
  | iface t d => simp [Rows.uptoBulk]
  | map entries => simp [Rows.uptoBulk]
  | held h => simp [Rows.uptoBulk]
theorem append {H : Type} (l r : List (DataW H)) : Rows.uptoBulkAll (l ++ r) = Rows.uptoBulkAll l + Rows.uptoBulkAll r := by
  induction l with
  | nil => simp [Rows.uptoBulkAll]
  | cons x l ih => simp only [List.cons_append, Rows.uptoBulkAll, ih]; omega
theorem bound {H : Type} {l : List (DataW H)} (hk : Rows.uptoSmall H l = true) : Rows.uptoBulkAll l ≤ 1048576 := of_decide_eq_true hk
theorem many {H : Type} : ∀ l : List (DataW H), l.length ≤ Rows.uptoBulkAll l
  | [] => by simp [Rows.uptoBulkAll]
  | d :: l => by have := many l; have := one_le d; simp only [Rows.uptoBulkAll, List.length_cons]; omega
theorem strs {H : Type} : ∀ l : List ByteArray, l.length + (l.map fun s => s.data.toList.length).sum ≤ Rows.uptoBulkAll (Go.ChangeShapes.strs (H := H) l)
  | [] => by simp [Go.ChangeShapes.strs, Rows.uptoBulkAll]
  | s :: l => by
    have := strs (H := H) l
    simp only [Go.ChangeShapes.strs, List.map_cons, Rows.uptoBulkAll, Rows.uptoBulk, List.length_cons, List.sum_cons] at *
    omega
end bulks

theorem add_cells {w : World} {a : Addr} {k : Nat} {u : Value} (h : w.cell? (a.add k) = some u) : w.cell? ⟨a.block, a.off + k, none⟩ = some u := by
  unfold Addr.add at h
  by_cases hk : k = 0
  · subst hk
    simp only [if_true, Nat.add_zero] at h ⊢
    unfold World.cell? at h ⊢
    split at h
    · rename_i hh
      rw [hh]
      by_cases hs : a.spot.isSome = true
      · simp [hs] at h
      · simpa [hs] using h
    · cases h
  · rw [if_neg hk] at h; exact h

theorem spot_none {w : World} {a : Addr} {k : Nat} {u : Value} (h : w.cell? (a.add k) = some u) (hk : k = 0) : a = ⟨a.block, a.off, none⟩ := by
  subst hk
  unfold Addr.add at h
  simp only [if_true] at h
  obtain ⟨b, o, s⟩ := a
  unfold World.cell? at h
  split at h
  · cases s with
    | none => rfl
    | some _ => simp at h
  · cases h

set_option maxRecDepth 100000 in
theorem open_ints' {H : Type} {enc : TypeId × Value → H} {w : World} {base : Nat} {spare : Nat → Bool} {held : Bool} {b0 : Nat} {v : Value} {d : DataW H} {p : List MemPlace}
    (hv : Value.okWide Tryd.prog w .any b0 36 v) (h : DataW.Trod enc Tryd.prog w base spare held 36 v d p) :
    ∃ (A : Option Addr) (c : Nat) (l : List Int), v = .slice A l.length c ∧ Rd w w.heap.size 1 A l.length (intV l) ∧ l.length + 1 ≤ Rows.uptoBulk d := by
  obtain ⟨A, len, cap, rfl⟩ := okWide_slice Tryd.underlying36 hv
  obtain ⟨fuel, hf⟩ := h
  rcases Go.ChangeShapes.open_ints Tryd.underlying36 Tryd.underlying3 (by kernel_rfl) hf with ⟨hcs, hx⟩ | ⟨a, len', cap', zs, hcs, hbs, hl, hm, hzl, hx, hcell, hwf⟩
  · simp only [Value.cells, List.cons.injEq, Value.slice.injEq, and_true] at hcs
    obtain ⟨rfl, rfl, rfl⟩ := hcs
    exact ⟨none, 0, [], rfl, Rd.none_, by have := bulks.one_le d; simpa using this⟩
  · simp only [Value.cells, List.cons.injEq, Value.slice.injEq, and_true] at hcs
    obtain ⟨rfl, rfl, rfl⟩ := hcs
    have hlz : len ≤ zs.length := by rw [hzl]; split <;> omega
    have htl : (zs.take len).length = len := by simp; omega
    refine ⟨some a, cap, zs.take len, by rw [htl], ⟨by simp [intV], fun hn => ?_⟩, ?_⟩
    · rw [htl] at hn
      have h0 := hcell 0 (by omega)
      refine ⟨a.block, a.off, by rw [← spot_none h0 rfl], World.block_lt_of_cell? w ⟨a.block, _, none⟩ (add_cells h0), fun j u hu => ?_⟩
      have hj : j < len := by
        have := (List.getElem?_eq_some_iff.1 hu).1
        simp [intV] at this
        omega
      have h1 := add_cells (hcell j (by omega))
      rw [h1, ← hu]
      unfold intV
      rw [List.getElem?_map, List.getElem?_take, if_pos hj, List.getD_eq_getElem?_getD, List.getElem?_eq_getElem (by omega)]; rfl
    · simp only [Prod.mk.injEq] at hx
      rw [hx.1, htl]
      have := bulks.many (lits .i64 (zs.take len) : List (DataW H))
      have e : (lits .i64 (zs.take len) : List (DataW H)).length = len := by simp [lits]; omega
      rw [e] at this
      simp only [Rows.uptoBulk]
      omega

set_option maxRecDepth 100000 in
theorem open_texts_at {H : Type} {enc : TypeId × Value → H} {w : World} {base : Nat} {spare : Nat → Bool} {held : Bool} {fuel : Nat} {v : Value} {d : DataW H} {p : List MemPlace}
    (hf : DataW.trod enc Tryd.prog w base spare held fuel 22 [v] = some (d, p)) :
    ∃ (A : Option Addr) (c : Nat) (l : List Bs), v = .slice A l.length c ∧ Rd w w.heap.size 1 A l.length (txtV l) ∧ l.length + (l.map List.length).sum + 1 ≤ Rows.uptoBulk d := by
  rcases open_strings Tryd.underlying22 Tryd.underlying9 (by kernel_rfl) hf with ⟨hcs, hx⟩ | ⟨a, len, cap, ss, hcs, hbs, hl, hm, hzl, hx, hcell, _⟩
  · simp only [List.cons.injEq, and_true] at hcs
    subst hcs
    exact ⟨none, 0, [], rfl, Rd.none_, by have := bulks.one_le d; simpa using this⟩
  · simp only [List.cons.injEq, and_true] at hcs
    subst hcs
    have hlz : len ≤ ss.length := by rw [hzl]; split <;> omega
    have htl : ((ss.take len).map fun s => s.data.toList).length = len := by simp; omega
    refine ⟨some a, cap, (ss.take len).map fun s => s.data.toList, by rw [htl], ⟨by simp [txtV], fun hn => ?_⟩, ?_⟩
    · rw [htl] at hn
      have h0 := hcell 0 (by omega)
      refine ⟨a.block, a.off, by rw [← spot_none h0 rfl], World.block_lt_of_cell? w ⟨a.block, _, none⟩ (add_cells h0), fun j u hu => ?_⟩
      have hj : j < len := by
        have := (List.getElem?_eq_some_iff.1 hu).1
        simp [txtV] at this
        omega
      have h1 := add_cells (hcell j (by omega))
      rw [h1, ← hu]
      unfold txtV strV
      rw [List.getElem?_map, List.getElem?_map, List.getElem?_take, if_pos hj, List.getD_eq_getElem?_getD, List.getElem?_eq_getElem (by omega)]
      simp only [Option.map_some, Option.getD_some, Lib.mk_data]
    · simp only [Prod.mk.injEq] at hx
      rw [hx.1, htl]
      have := bulks.strs (H := H) (ss.take len)
      simp only [List.length_take, List.map_map] at this ⊢
      have e : (List.length ∘ fun s : ByteArray => s.data.toList) = fun s : ByteArray => s.data.toList.length := rfl
      rw [e]
      simp only [Rows.uptoBulk]
      omega
set_option maxRecDepth 100000 in
theorem open_texts {H : Type} {enc : TypeId × Value → H} {w : World} {base : Nat} {spare : Nat → Bool} {held : Bool} {b0 : Nat} {v : Value} {d : DataW H} {p : List MemPlace}
    (hv : Value.okWide Tryd.prog w .any b0 22 v) (h : DataW.Trod enc Tryd.prog w base spare held 22 v d p) :
    ∃ (A : Option Addr) (c : Nat) (l : List Bs), v = .slice A l.length c ∧ Rd w w.heap.size 1 A l.length (txtV l) ∧ l.length + (l.map List.length).sum + 1 ≤ Rows.uptoBulk d := by
  obtain ⟨A, len, cap, rfl⟩ := okWide_slice Tryd.underlying22 hv
  obtain ⟨fuel, hf⟩ := h
  exact open_texts_at hf
end Go.Proofs.YtccljojceoidhaaDoor
/-
  A REGION THAT DRAWS ITS ORDER, walked once: as the library's wpAnyH, but the condition S is asked only as long as operation number L (the store, which waits for all others) has not come up.
-/
namespace Go.Proofs.YtccljojceoidhaaDoor
open Go.RowKit
section
variable {P : Program} {ops : Array Oper} {Q : Exit → Act → World → Prop} {md : Region.Mode} {S : World → Prop} {L : Nat}

def wpAnyG (P : Program) (md : Region.Mode) (ops : Array Oper) (Q : Exit → Act → World → Prop) (S : World → Prop) (L : Nat) : Nat → Array Bool → Act → World → Prop
  | 0, listed, a, w => Region.ready md ops listed = [] ∧ Q .normal a w
  | fuel + 1, listed, a, w =>
    (Region.ready md ops listed = [] → Q .normal a w) ∧
    ∀ i ∈ Region.ready md ops listed, wpOp P ops Q i (fun a' w' => (i ≠ L → S w') ∧ wpAnyG P md ops Q S L fuel (listed.setIfInBounds i true) a' w') a w

theorem wpAny_of_G : ∀ (fuel : Nat) (listed : Array Bool) (a : Act) (w : World), wpAnyG P md ops Q S L fuel listed a w → wpAny P md ops Q fuel listed a w
  | 0, _, _, _, h => h
  | fuel + 1, _, _, _, h => ⟨h.1, fun i hi => wpOp_mono (fun a' w' h' => wpAny_of_G fuel _ a' w' h'.2) (h.2 i hi)⟩

/-- operation L waits for operation i -/
def waits (md : Region.Mode) (ops : Array Oper) (L i : Nat) : Bool :=
  match ops[L]? with
  | some o => o.after.toList.any fun e => Region.binds md e && e.on == i
  | none => true

theorem wpAnyG_first {i : Nat} {oi : Oper} {v : Value} (hi : ops[i]? = some oi) (hsel : ∀ (j : Nat) (o : Oper) cs b, ops[j]? = some o → o.op ≠ .select cs b)
    (hQ : ∀ c a w, Q (.panic c) (a.put oi.dst v) w → Q (.panic c) a w) (hL : waits md ops L i = true) :
    ∀ (fuel : Nat) (listed : Array Bool) (a : Act) (w : World),
      (∀ j oj, ops[j]? = some oj → j ≠ i → listed.getD j true = false → (∀ e ∈ oj.after, Region.binds md e = true → e.on ≠ i) → oi.apart ops oj = true) →
      i ∈ Region.ready md ops listed → YieldsIf P ops S oi v a → S w →
      wpAnyG P md ops Q S L fuel (listed.setIfInBounds i true) (a.put oi.dst v) w → wpAnyG P md ops Q S L (fuel + 1) listed a w := by
  intro fuel
  induction fuel with
  | zero =>
    intro listed a w _ hr hy hS H
    refine ⟨fun h => (by rw [h] at hr; cases hr), fun j hj => ?_⟩
    by_cases hji : j = i
    · subst hji; exact hy.wpOp hi hS ⟨fun _ => hS, H⟩
    · have := ready_mono hj hji
      rw [H.1] at this
      cases this
  | succ fuel ih =>
    intro listed a w hfree hr hy hS H
    refine ⟨fun h => (by rw [h] at hr; cases hr), fun j hj => ?_⟩
    by_cases hji : j = i
    · subst hji; exact hy.wpOp hi hS ⟨fun _ => hS, H⟩
    · have h1 := H.2 j (ready_mono hj hji)
      obtain ⟨hjun, oj, hoj, hall⟩ := mem_ready.1 hj
      have hnot : ∀ e ∈ oj.after, Region.binds md e = true → e.on ≠ i := fun e he hb heq => by
        have h1 := hall e he hb
        have h0 := (mem_ready.1 hr).1
        rw [heq] at h1
        rcases Nat.lt_or_ge i listed.size with h' | h'
        · simp [h'] at h0 h1; rw [h0] at h1; cases h1
        · simp [Array.getElem?_eq_none h'] at h1
      have hjL : j ≠ L := fun e => by
        subst e
        unfold waits at hL
        rw [hoj] at hL
        simp only [List.any_eq_true, Bool.and_eq_true, beq_iff_eq] at hL
        obtain ⟨e, he, hb, hon⟩ := hL
        exact hnot e (Array.mem_toList_iff.1 he) hb hon
      have h2 := wpOp_putIf hoj (hfree j oj hoj hji hjun hnot) (fun cs b => hsel i oi cs b hi) (fun cs b => hsel j oj cs b hoj) hQ hy h1
      have hfree' : ∀ k ok, ops[k]? = some ok → k ≠ i → (listed.setIfInBounds j true).getD k true = false →
          (∀ e ∈ ok.after, Region.binds md e = true → e.on ≠ i) → oi.apart ops ok = true := fun k ok hk hki hun hno => by
        refine hfree k ok hk hki ?_ hno
        by_cases hjk : j = k
        · subst hjk; exact hjun
        · rw [getD_set_ne true hjk] at hun; exact hun
      refine wpOp_mono (fun a' w' h3 => ⟨h3.2.1, ih (listed.setIfInBounds j true) a' w' hfree' (ready_mono hr (Ne.symm hji)) h3.1 (h3.2.1 hjL) ?_⟩) h2
      rw [Array.setIfInBounds_comm _ _ hji]
      exact h3.2.2

theorem wpAnyG_take {i : Nat} {oi : Oper} {v : Value} {fuel : Nat} {listed : Array Bool} {a : Act} {w : World} (hi : ops[i]? = some oi)
    (hs : Region.noSelect ops = true) (hf : Region.free md ops listed i = true) (hr : (Region.ready md ops listed).contains i = true) (hL : waits md ops L i = true)
    (hQ : ∀ c a w, Q (.panic c) (a.put oi.dst v) w → Q (.panic c) a w) (hy : YieldsIf P ops S oi v a) (hS : S w)
    (h : wpAnyG P md ops Q S L fuel (listed.setIfInBounds i true) (a.put oi.dst v) w) : wpAnyG P md ops Q S L (fuel + 1) listed a w :=
  wpAnyG_first hi (Region.noSelect_spec hs) hQ hL fuel listed a w (Region.free_spec hi hf) (by simpa using hr) hy hS h

theorem wpAnyG_one {i : Nat} {o : Oper} {fuel : Nat} {listed : Array Bool} {a : Act} {w : World} (hr : Region.ready md ops listed = [i]) (ho : ops[i]? = some o)
    (h : ∀ K' : Act → World → Prop, Shut (∀ a w, (i ≠ L → S w) → wpAnyG P md ops Q S L fuel (listed.setIfInBounds i true) a w → K' a w) → if Region.wanted o (yielded ops a.tmps) = true then Oper.wp P o a w K' Q else K' (a.put o.dst undef) w) :
    wpAnyG P md ops Q S L (fuel + 1) listed a w :=
  ⟨fun h0 => (by rw [h0] at hr; cases hr), fun j hj => by
    rw [hr, List.mem_singleton] at hj
    subst hj
    exact wpOp_step ho fun K' hK => h K' fun a w hS hW => hK a w ⟨hS, hW⟩⟩

theorem wpAnyG_done {listed : Array Bool} {a : Act} {w : World} (hr : Region.ready md ops listed = []) (h : Q .normal a w) : ∀ fuel, wpAnyG P md ops Q S L fuel listed a w
  | 0 => ⟨hr, h⟩
  | _ + 1 => ⟨fun _ => h, by rw [hr]; simp⟩

theorem wp_region_G {id : Nat} {a : Act} {w : World} (L : Nat) (S : World → Prop) (hm : P.follows .mixedOrders = true)
    (h : wpAnyG P .any ops Q S L ops.size (Array.replicate ops.size false) a w.drew) : (Code.region id ops true).wp P Q a w :=
  wp_region_any hm (wpAny_of_G _ _ _ _ h)
end
end Go.Proofs.YtccljojceoidhaaDoor
/-
  WALKS of package wire: right.
-/
namespace Go.Proofs.YtccljojceoidhaaDoor
open Go.RowKit

theorem digits_small (n : Nat) : ∀ k, 1 ≤ k → ((Lib.decDigits n).length ≤ k ↔ n < 10 ^ k) := by
  induction n using Nat.strongRecOn with
  | _ n ih =>
    intro k hk
    rw [Lib.decDigits]
    split
    · rename_i h
      simp only [List.length_cons, List.length_nil]
      constructor
      · intro _
        have : 10 ^ 1 ≤ 10 ^ k := Nat.pow_le_pow_right (by omega) hk
        omega
      · intro _; omega
    · rename_i h
      rw [List.length_append]
      simp only [List.length_cons, List.length_nil]
      cases k with
      | zero => omega
      | succ k =>
        cases k with
        | zero =>
          have h1 := (ih (n / 10) (by omega) 1 (by omega))
          constructor
          · intro hh
            have h2 : 1 ≤ (Lib.decDigits (n / 10)).length := by
              rw [Lib.decDigits]; split <;> simp
            omega
          · intro hh; omega
        | succ k =>
          have h1 := ih (n / 10) (by omega) (k + 1) (by omega)
          rw [Nat.pow_succ]
          constructor
          · intro hh
            have := h1.1 (by omega)
            omega
          · intro hh
            have := h1.2 (by omega)
            omega
theorem dec_head (n : Nat) : ∃ a t, Lib.decDigits n = a :: t ∧ a ≠ 45 := by
  induction n using Nat.strongRecOn with
  | _ n ih =>
    rw [Lib.decDigits]
    split
    · rename_i h
      refine ⟨_, [], rfl, fun e => ?_⟩
      have := congrArg UInt8.toNat e
      rw [UInt8.toNat_ofNat'] at this
      simp at this
      omega
    · obtain ⟨a, t, h1, h2⟩ := ih (n / 10) (by omega)
      exact ⟨a, t ++ [UInt8.ofNat (48 + n % 10)], by rw [h1]; rfl, h2⟩
theorem itoa_trim (n : Int) : ((Lib.trimPrefix (Lib.itoa n) [45]).length : Int) ≤ 18 ↔ (-999999999999999999 ≤ n ∧ n ≤ 999999999999999999) := by
  have key : ∀ m : Nat, ((Lib.decDigits m).length : Int) ≤ 18 ↔ m ≤ 999999999999999999 := fun m => by
    have := digits_small m 18 (by omega)
    rw [show (10 : Nat) ^ 18 = 1000000000000000000 from rfl] at this
    constructor
    · intro h; have := this.1 (by omega); omega
    · intro h; have := this.2 (by omega); omega
  by_cases hn : n < 0
  · have e : Lib.trimPrefix (Lib.itoa n) [45] = Lib.decDigits n.natAbs := by
      unfold Lib.itoa Lib.trimPrefix
      rw [if_pos hn]
      rw [show Lib.hasPrefix (45 :: Lib.decDigits n.natAbs) [45] = true by simp [Lib.hasPrefix, List.isPrefixOf]]; rfl
    rw [e, key]; omega
  · have e : Lib.trimPrefix (Lib.itoa n) [45] = Lib.decDigits n.toNat := by
      unfold Lib.itoa Lib.trimPrefix
      rw [if_neg hn]
      obtain ⟨a, t, h1, h2⟩ := dec_head n.toNat
      rw [h1]
      have : Lib.hasPrefix (a :: t) [45] = false := by simp [Lib.hasPrefix, List.isPrefixOf]; exact fun e => h2 e.symm
      rw [this]; rfl
    rw [e, key]; omega

def rightB (kind num : Int) (t : Bs) (nk nd : Nat) : Bool :=
  if kind = 0 then decide (num = 0) && decide (t = []) && decide (nk = 0) && decide (nd = 0)
  else if kind = 1 then decide (num = 0 ∨ num = 1) && decide (t = []) && decide (nk = 0) && decide (nd = 0)
  else if kind = 2 then decide (-999999999999999999 ≤ num ∧ num ≤ 999999999999999999) && decide (t = []) && decide (nk = 0) && decide (nd = 0)
  else if kind = 3 then decide (num = 0) && decide (nk = 0) && decide (nd = 0)
  else if kind = 4 then decide (num = 0) && decide (t = []) && decide (nk = 0)
  else if kind = 5 then decide (num = 0) && decide (t = []) && decide (nk = nd)
  else false
theorem Tab10.lt {w : World} (h : Tab10 w) : 2 < w.heap.size := World.block_lt_of_cell? w ⟨2, 0, none⟩ (Lib.TabIs.cell h g10 0 (by decide))
theorem right_eq (j : JT) : jright j = rightB j.kind j.num j.text j.keys.length j.kids.length := rfl

section
variable (kind num : Int) (t : Bs) (nk nd : Nat) (Ak Ad : Option Addr) (ck cd : Nat) (w : World)
abbrev jVal : Value := .agg #[.int .i64 kind, .int .i64 num, .string ⟨t.toArray⟩, .slice Ak nk ck, .slice Ad nd cd]
theorem trim1_walk (s : Bs) (w : World) : Calls Tryd.prog 88 #[.string ⟨s.toArray⟩, .string ⟨#[45]⟩] w fun e w' => e = .returned (.string ⟨(Lib.trimPrefix s [45]).toArray⟩) ∧ w' = w := (Tryd.strings_TrimPrefix ⟨s.toArray⟩ ⟨#[45]⟩ w).mono fun _ _ h => h

set_option maxHeartbeats 4000000 in
set_option maxRecDepth 100000 in
theorem right_0 (_hT : Tab10 w) (_h1 : -9223372036854775808 ≤ num) (_h2 : num ≤ 9223372036854775807) (_hk : nk ≤ 16777216) (_hd : nd ≤ 16777216) :
    Calls Tryd.prog 58 #[jVal 0 num t nk nd Ak Ad ck cd] w fun e w' => e = .returned (.bool (rightB 0 num t nk nd)) ∧ Below w.heap.size w w' := by
  have hb1 : Below w.heap.size w (w.alloc (.cells #[.int .i64 0, .int .i64 num, .string ⟨t.toArray⟩, .slice Ak nk ck, .slice Ad nd cd] 25)) := (Below.refl _ _).alloc (Nat.le_refl _) _
  have hB : Hid (rightB 0 num t nk nd = (decide (num = 0) && decide (t = []) && decide (nk = 0) && decide (nd = 0))) := rfl
  generalize rightB 0 num t nk nd = B at *
  by_cases h0 : num = 0
  rotate_left
  · have hR : Hid (B = false) := by show _ = _; rw [hB.out, decide_eq_false h0]; simp
    have e0 : ((num : Int) == 0) = false := by simp; omega
    clear h0 hB
    go_enter Tryd.func58, Tryd.ntmps58
    go_wp2_with fail
    go_ret
    exact ⟨by rw [hR.out]; rfl, hb1⟩
  subst h0
  by_cases h1 : t = []
  rotate_left
  · have hR : Hid (B = false) := by show _ = _; rw [hB.out, decide_eq_false h1]; simp
    have e1 : ((t : Bs) == []) = false := by simp; exact h1
    clear h1 hB
    go_enter Tryd.func58, Tryd.ntmps58
    go_wp2_with fail
    go_ret
    exact ⟨by rw [hR.out]; rfl, hb1⟩
  subst h1
  by_cases h2 : nk = 0
  rotate_left
  · have hR : Hid (B = false) := by show _ = _; rw [hB.out, decide_eq_false h2]; simp
    have e2 : ((nk : Int) == 0) = false := by simp; omega
    clear h2 hB
    go_enter Tryd.func58, Tryd.ntmps58
    go_wp2_with fail
    go_ret
    exact ⟨by rw [hR.out]; rfl, hb1⟩
  subst h2
  by_cases h3 : nd = 0
  rotate_left
  · have hR : Hid (B = false) := by show _ = _; rw [hB.out, decide_eq_false h3]; simp
    have e3 : ((nd : Int) == 0) = false := by simp; omega
    clear h3 hB
    go_enter Tryd.func58, Tryd.ntmps58
    go_wp2_with fail
    go_ret
    exact ⟨by rw [hR.out]; rfl, hb1⟩
  subst h3
  have hR : Hid (B = true) := by show _ = _; rw [hB.out]; first | (simp; done) | (simp; exact h0) | (simp; omega)
  clear hB
  go_enter Tryd.func58, Tryd.ntmps58
  go_wp2_with fail
  go_ret
  exact ⟨by rw [hR.out]; rfl, hb1⟩

set_option maxHeartbeats 4000000 in
set_option maxRecDepth 100000 in
theorem right_1 (_hT : Tab10 w) (_h1 : -9223372036854775808 ≤ num) (_h2 : num ≤ 9223372036854775807) (_hk : nk ≤ 16777216) (_hd : nd ≤ 16777216) :
    Calls Tryd.prog 58 #[jVal 1 num t nk nd Ak Ad ck cd] w fun e w' => e = .returned (.bool (rightB 1 num t nk nd)) ∧ Below w.heap.size w w' := by
  have hb1 : Below w.heap.size w (w.alloc (.cells #[.int .i64 1, .int .i64 num, .string ⟨t.toArray⟩, .slice Ak nk ck, .slice Ad nd cd] 25)) := (Below.refl _ _).alloc (Nat.le_refl _) _
  have hB : Hid (rightB 1 num t nk nd = (decide (num = 0 ∨ num = 1) && decide (t = []) && decide (nk = 0) && decide (nd = 0))) := rfl
  generalize rightB 1 num t nk nd = B at *
  by_cases h0 : num = 0 ∨ num = 1
  rotate_left
  · have hR : Hid (B = false) := by show _ = _; rw [hB.out, decide_eq_false h0]; rfl
    have e0 : ((num : Int) == 0) = false := by simp; omega
    have e0b : ((num : Int) == 1) = false := by simp; omega
    clear h0 hB
    go_enter Tryd.func58, Tryd.ntmps58
    go_wp2_with fail
    go_ret
    exact ⟨by rw [hR.out]; rfl, hb1⟩
  by_cases h1 : t = []
  rotate_left
  · have hR : Hid (B = false) := by show _ = _; rw [hB.out, decide_eq_false h1]; simp
    have e1 : ((t : Bs) == []) = false := by simp; exact h1
    clear h1 hB
    rcases h0 with rfl | rfl
    all_goals
      go_enter Tryd.func58, Tryd.ntmps58
      go_wp2_with fail
      go_ret
      exact ⟨by rw [hR.out]; rfl, hb1⟩
  subst h1
  by_cases h2 : nk = 0
  rotate_left
  · have hR : Hid (B = false) := by show _ = _; rw [hB.out, decide_eq_false h2]; simp
    have e2 : ((nk : Int) == 0) = false := by simp; omega
    clear h2 hB
    rcases h0 with rfl | rfl
    all_goals
      go_enter Tryd.func58, Tryd.ntmps58
      go_wp2_with fail
      go_ret
      exact ⟨by rw [hR.out]; rfl, hb1⟩
  subst h2
  by_cases h3 : nd = 0
  rotate_left
  · have hR : Hid (B = false) := by show _ = _; rw [hB.out, decide_eq_false h3]; simp
    have e3 : ((nd : Int) == 0) = false := by simp; omega
    clear h3 hB
    rcases h0 with rfl | rfl
    all_goals
      go_enter Tryd.func58, Tryd.ntmps58
      go_wp2_with fail
      go_ret
      exact ⟨by rw [hR.out]; rfl, hb1⟩
  subst h3
  have hR : Hid (B = true) := by show _ = _; rw [hB.out]; first | (simp; done) | (simp; exact h0) | (simp; omega)
  clear hB
  rcases h0 with rfl | rfl
  all_goals
    go_enter Tryd.func58, Tryd.ntmps58
    go_wp2_with fail
    go_ret
    exact ⟨by rw [hR.out]; rfl, hb1⟩

set_option maxHeartbeats 4000000 in
set_option maxRecDepth 100000 in
theorem right_2 (hT : Tab10 w) (_h1 : -9223372036854775808 ≤ num) (_h2 : num ≤ 9223372036854775807) (_hk : nk ≤ 16777216) (_hd : nd ≤ 16777216) :
    Calls Tryd.prog 58 #[jVal 2 num t nk nd Ak Ad ck cd] w fun e w' => e = .returned (.bool (rightB 2 num t nk nd)) ∧ Below w.heap.size w w' := by
  have hb1 : Below w.heap.size w (w.alloc (.cells #[.int .i64 2, .int .i64 num, .string ⟨t.toArray⟩, .slice Ak nk ck, .slice Ad nd cd] 25)) := (Below.refl _ _).alloc (Nat.le_refl _) _
  have hB : Hid (rightB 2 num t nk nd = (decide (-999999999999999999 ≤ num ∧ num ≤ 999999999999999999) && decide (t = []) && decide (nk = 0) && decide (nd = 0))) := rfl
  generalize rightB 2 num t nk nd = B at *
  have hit := fun (w : World) (hT : Tab10 w) => Tryd.strconv_Itoa num (by omega) (by omega) w hT
  have htl := itoa_trim num
  generalize Lib.itoa num = I at *
  have htr := fun w => trim1_walk I w
  generalize Lib.trimPrefix I [45] = J at *
  by_cases h0 : -999999999999999999 ≤ num ∧ num ≤ 999999999999999999
  rotate_left
  · have hR : Hid (B = false) := by show _ = _; rw [hB.out, decide_eq_false h0]; simp
    have e0 : ¬ (J.length : Int) ≤ 18 := fun h => h0 (htl.1 h)
    clear h0 hB
    go_enter Tryd.func58, Tryd.ntmps58
    go_wp2_with fail
    refine (hit _ (hT.below ((Below.refl _ _).alloc (Nat.le_refl _) _) (Tab10.lt hT))).mono ?_
    rintro e w2 ⟨rfl, kk, os, hw⟩
    have hb12 : Below (w.heap.size + 1) (w.alloc (.cells #[.int .i64 2, .int .i64 num, .string ⟨t.toArray⟩, .slice Ak nk ck, .slice Ad nd cd] 25)) w2 := by rw [hw]; exact (((below_drewN (Below.refl _ _) kk).trans (below_grow _ os)).mono (by simp))
    have hb2 : Below w.heap.size w w2 := hb1.trans (hb12.mono (by omega))
    have hBk := (Blk.new w 25 _).below hb12 (by omega)
    have b0 := hBk.cell 0
    have b1 := hBk.cell 1
    have b2 := hBk.cell 2
    have b3 := hBk.cell 3
    have b4 := hBk.cell 4
    simp at b0 b1 b2 b3 b4
    clear hw hBk hb12 hit
    go_wp2_with fail
    refine (htr _).mono ?_
    rintro e w3 ⟨rfl, rfl⟩
    go_wp2_with fail
    go_ret
    exact ⟨by rw [hR.out]; rfl, hb2⟩
  have e0 : (J.length : Int) ≤ 18 := htl.2 h0
  by_cases h1 : t = []
  rotate_left
  · have hR : Hid (B = false) := by show _ = _; rw [hB.out, decide_eq_false h1]; simp
    have e1 : ((t : Bs) == []) = false := by simp; exact h1
    clear h1 hB
    go_enter Tryd.func58, Tryd.ntmps58
    go_wp2_with fail
    refine (hit _ (hT.below ((Below.refl _ _).alloc (Nat.le_refl _) _) (Tab10.lt hT))).mono ?_
    rintro e w2 ⟨rfl, kk, os, hw⟩
    have hb12 : Below (w.heap.size + 1) (w.alloc (.cells #[.int .i64 2, .int .i64 num, .string ⟨t.toArray⟩, .slice Ak nk ck, .slice Ad nd cd] 25)) w2 := by rw [hw]; exact (((below_drewN (Below.refl _ _) kk).trans (below_grow _ os)).mono (by simp))
    have hb2 : Below w.heap.size w w2 := hb1.trans (hb12.mono (by omega))
    have hBk := (Blk.new w 25 _).below hb12 (by omega)
    have b0 := hBk.cell 0
    have b1 := hBk.cell 1
    have b2 := hBk.cell 2
    have b3 := hBk.cell 3
    have b4 := hBk.cell 4
    simp at b0 b1 b2 b3 b4
    clear hw hBk hb12 hit
    go_wp2_with fail
    refine (htr _).mono ?_
    rintro e w3 ⟨rfl, rfl⟩
    go_wp2_with fail
    go_ret
    exact ⟨by rw [hR.out]; rfl, hb2⟩
  subst h1
  by_cases h2 : nk = 0
  rotate_left
  · have hR : Hid (B = false) := by show _ = _; rw [hB.out, decide_eq_false h2]; simp
    have e2 : ((nk : Int) == 0) = false := by simp; omega
    clear h2 hB
    go_enter Tryd.func58, Tryd.ntmps58
    go_wp2_with fail
    refine (hit _ (hT.below ((Below.refl _ _).alloc (Nat.le_refl _) _) (Tab10.lt hT))).mono ?_
    rintro e w2 ⟨rfl, kk, os, hw⟩
    have hb12 : Below (w.heap.size + 1) (w.alloc (.cells #[.int .i64 2, .int .i64 num, .string ⟨([] : Bs).toArray⟩, .slice Ak nk ck, .slice Ad nd cd] 25)) w2 := by rw [hw]; exact (((below_drewN (Below.refl _ _) kk).trans (below_grow _ os)).mono (by simp))
    have hb2 : Below w.heap.size w w2 := hb1.trans (hb12.mono (by omega))
    have hBk := (Blk.new w 25 _).below hb12 (by omega)
    have b0 := hBk.cell 0
    have b1 := hBk.cell 1
    have b2 := hBk.cell 2
    have b3 := hBk.cell 3
    have b4 := hBk.cell 4
    simp at b0 b1 b2 b3 b4
    clear hw hBk hb12 hit
    go_wp2_with fail
    refine (htr _).mono ?_
    rintro e w3 ⟨rfl, rfl⟩
    go_wp2_with fail
    go_ret
    exact ⟨by rw [hR.out]; rfl, hb2⟩
  subst h2
  by_cases h3 : nd = 0
  rotate_left
  · have hR : Hid (B = false) := by show _ = _; rw [hB.out, decide_eq_false h3]; simp
    have e3 : ((nd : Int) == 0) = false := by simp; omega
    clear h3 hB
    go_enter Tryd.func58, Tryd.ntmps58
    go_wp2_with fail
    refine (hit _ (hT.below ((Below.refl _ _).alloc (Nat.le_refl _) _) (Tab10.lt hT))).mono ?_
    rintro e w2 ⟨rfl, kk, os, hw⟩
    have hb12 : Below (w.heap.size + 1) (w.alloc (.cells #[.int .i64 2, .int .i64 num, .string ⟨([] : Bs).toArray⟩, .slice Ak 0 ck, .slice Ad nd cd] 25)) w2 := by rw [hw]; exact (((below_drewN (Below.refl _ _) kk).trans (below_grow _ os)).mono (by simp))
    have hb2 : Below w.heap.size w w2 := hb1.trans (hb12.mono (by omega))
    have hBk := (Blk.new w 25 _).below hb12 (by omega)
    have b0 := hBk.cell 0
    have b1 := hBk.cell 1
    have b2 := hBk.cell 2
    have b3 := hBk.cell 3
    have b4 := hBk.cell 4
    simp at b0 b1 b2 b3 b4
    clear hw hBk hb12 hit
    go_wp2_with fail
    refine (htr _).mono ?_
    rintro e w3 ⟨rfl, rfl⟩
    go_wp2_with fail
    go_ret
    exact ⟨by rw [hR.out]; rfl, hb2⟩
  subst h3
  have hR : Hid (B = true) := by show _ = _; rw [hB.out]; first | (simp; done) | (simp; exact h0) | (simp; omega)
  clear hB
  go_enter Tryd.func58, Tryd.ntmps58
  go_wp2_with fail
  refine (hit _ (hT.below ((Below.refl _ _).alloc (Nat.le_refl _) _) (Tab10.lt hT))).mono ?_
  rintro e w2 ⟨rfl, kk, os, hw⟩
  have hb12 : Below (w.heap.size + 1) (w.alloc (.cells #[.int .i64 2, .int .i64 num, .string ⟨([] : Bs).toArray⟩, .slice Ak 0 ck, .slice Ad 0 cd] 25)) w2 := by rw [hw]; exact (((below_drewN (Below.refl _ _) kk).trans (below_grow _ os)).mono (by simp))
  have hb2 : Below w.heap.size w w2 := hb1.trans (hb12.mono (by omega))
  have hBk := (Blk.new w 25 _).below hb12 (by omega)
  have b0 := hBk.cell 0
  have b1 := hBk.cell 1
  have b2 := hBk.cell 2
  have b3 := hBk.cell 3
  have b4 := hBk.cell 4
  simp at b0 b1 b2 b3 b4
  clear hw hBk hb12 hit
  go_wp2_with fail
  refine (htr _).mono ?_
  rintro e w3 ⟨rfl, rfl⟩
  go_wp2_with fail
  go_ret
  exact ⟨by rw [hR.out]; rfl, hb2⟩

set_option maxHeartbeats 4000000 in
set_option maxRecDepth 100000 in
theorem right_3 (_hT : Tab10 w) (_h1 : -9223372036854775808 ≤ num) (_h2 : num ≤ 9223372036854775807) (_hk : nk ≤ 16777216) (_hd : nd ≤ 16777216) :
    Calls Tryd.prog 58 #[jVal 3 num t nk nd Ak Ad ck cd] w fun e w' => e = .returned (.bool (rightB 3 num t nk nd)) ∧ Below w.heap.size w w' := by
  have hb1 : Below w.heap.size w (w.alloc (.cells #[.int .i64 3, .int .i64 num, .string ⟨t.toArray⟩, .slice Ak nk ck, .slice Ad nd cd] 25)) := (Below.refl _ _).alloc (Nat.le_refl _) _
  have hB : Hid (rightB 3 num t nk nd = (decide (num = 0) && decide (nk = 0) && decide (nd = 0))) := rfl
  generalize rightB 3 num t nk nd = B at *
  by_cases h0 : num = 0
  rotate_left
  · have hR : Hid (B = false) := by show _ = _; rw [hB.out, decide_eq_false h0]; simp
    have e0 : ((num : Int) == 0) = false := by simp; omega
    clear h0 hB
    go_enter Tryd.func58, Tryd.ntmps58
    go_wp2_with fail
    go_ret
    exact ⟨by rw [hR.out]; rfl, hb1⟩
  subst h0
  by_cases h1 : nk = 0
  rotate_left
  · have hR : Hid (B = false) := by show _ = _; rw [hB.out, decide_eq_false h1]; simp
    have e1 : ((nk : Int) == 0) = false := by simp; omega
    clear h1 hB
    go_enter Tryd.func58, Tryd.ntmps58
    go_wp2_with fail
    go_ret
    exact ⟨by rw [hR.out]; rfl, hb1⟩
  subst h1
  by_cases h2 : nd = 0
  rotate_left
  · have hR : Hid (B = false) := by show _ = _; rw [hB.out, decide_eq_false h2]; simp
    have e2 : ((nd : Int) == 0) = false := by simp; omega
    clear h2 hB
    go_enter Tryd.func58, Tryd.ntmps58
    go_wp2_with fail
    go_ret
    exact ⟨by rw [hR.out]; rfl, hb1⟩
  subst h2
  have hR : Hid (B = true) := by show _ = _; rw [hB.out]; first | (simp; done) | (simp; exact h0) | (simp; omega)
  clear hB
  go_enter Tryd.func58, Tryd.ntmps58
  go_wp2_with fail
  go_ret
  exact ⟨by rw [hR.out]; rfl, hb1⟩

set_option maxHeartbeats 4000000 in
set_option maxRecDepth 100000 in
theorem right_4 (_hT : Tab10 w) (_h1 : -9223372036854775808 ≤ num) (_h2 : num ≤ 9223372036854775807) (_hk : nk ≤ 16777216) (_hd : nd ≤ 16777216) :
    Calls Tryd.prog 58 #[jVal 4 num t nk nd Ak Ad ck cd] w fun e w' => e = .returned (.bool (rightB 4 num t nk nd)) ∧ Below w.heap.size w w' := by
  have hb1 : Below w.heap.size w (w.alloc (.cells #[.int .i64 4, .int .i64 num, .string ⟨t.toArray⟩, .slice Ak nk ck, .slice Ad nd cd] 25)) := (Below.refl _ _).alloc (Nat.le_refl _) _
  have hB : Hid (rightB 4 num t nk nd = (decide (num = 0) && decide (t = []) && decide (nk = 0))) := rfl
  generalize rightB 4 num t nk nd = B at *
  by_cases h0 : num = 0
  rotate_left
  · have hR : Hid (B = false) := by show _ = _; rw [hB.out, decide_eq_false h0]; simp
    have e0 : ((num : Int) == 0) = false := by simp; omega
    clear h0 hB
    go_enter Tryd.func58, Tryd.ntmps58
    go_wp2_with fail
    go_ret
    exact ⟨by rw [hR.out]; rfl, hb1⟩
  subst h0
  by_cases h1 : t = []
  rotate_left
  · have hR : Hid (B = false) := by show _ = _; rw [hB.out, decide_eq_false h1]; simp
    have e1 : ((t : Bs) == []) = false := by simp; exact h1
    clear h1 hB
    go_enter Tryd.func58, Tryd.ntmps58
    go_wp2_with fail
    go_ret
    exact ⟨by rw [hR.out]; rfl, hb1⟩
  subst h1
  by_cases h2 : nk = 0
  rotate_left
  · have hR : Hid (B = false) := by show _ = _; rw [hB.out, decide_eq_false h2]; simp
    have e2 : ((nk : Int) == 0) = false := by simp; omega
    clear h2 hB
    go_enter Tryd.func58, Tryd.ntmps58
    go_wp2_with fail
    go_ret
    exact ⟨by rw [hR.out]; rfl, hb1⟩
  subst h2
  have hR : Hid (B = true) := by show _ = _; rw [hB.out]; first | (simp; done) | (simp; exact h0) | (simp; omega)
  clear hB
  go_enter Tryd.func58, Tryd.ntmps58
  go_wp2_with fail
  go_ret
  exact ⟨by rw [hR.out]; rfl, hb1⟩

set_option maxHeartbeats 4000000 in
set_option maxRecDepth 100000 in
theorem right_5 (_hT : Tab10 w) (_h1 : -9223372036854775808 ≤ num) (_h2 : num ≤ 9223372036854775807) (_hk : nk ≤ 16777216) (_hd : nd ≤ 16777216) :
    Calls Tryd.prog 58 #[jVal 5 num t nk nd Ak Ad ck cd] w fun e w' => e = .returned (.bool (rightB 5 num t nk nd)) ∧ Below w.heap.size w w' := by
  have hb1 : Below w.heap.size w (w.alloc (.cells #[.int .i64 5, .int .i64 num, .string ⟨t.toArray⟩, .slice Ak nk ck, .slice Ad nd cd] 25)) := (Below.refl _ _).alloc (Nat.le_refl _) _
  have hB : Hid (rightB 5 num t nk nd = (decide (num = 0) && decide (t = []) && decide (nk = nd))) := rfl
  generalize rightB 5 num t nk nd = B at *
  by_cases h0 : num = 0
  rotate_left
  · have hR : Hid (B = false) := by show _ = _; rw [hB.out, decide_eq_false h0]; simp
    have e0 : ((num : Int) == 0) = false := by simp; omega
    clear h0 hB
    go_enter Tryd.func58, Tryd.ntmps58
    go_wp2_with fail
    go_ret
    exact ⟨by rw [hR.out]; rfl, hb1⟩
  subst h0
  by_cases h1 : t = []
  rotate_left
  · have hR : Hid (B = false) := by show _ = _; rw [hB.out, decide_eq_false h1]; simp
    have e1 : ((t : Bs) == []) = false := by simp; exact h1
    clear h1 hB
    go_enter Tryd.func58, Tryd.ntmps58
    go_wp2_with fail
    go_ret
    exact ⟨by rw [hR.out]; rfl, hb1⟩
  subst h1
  by_cases h2 : nk = nd
  rotate_left
  · have hR : Hid (B = false) := by show _ = _; rw [hB.out, decide_eq_false h2]; simp
    have e2 : ((nk : Int) == (nd : Int)) = false := by simp; omega
    clear h2 hB
    go_enter Tryd.func58, Tryd.ntmps58
    go_wp2_with fail
    go_ret
    exact ⟨by rw [hR.out]; rfl, hb1⟩
  subst h2
  have hR : Hid (B = true) := by show _ = _; rw [hB.out]; first | (simp; done) | (simp; exact h0) | (simp; omega)
  clear hB
  go_enter Tryd.func58, Tryd.ntmps58
  go_wp2_with fail
  go_ret
  exact ⟨by rw [hR.out]; rfl, hb1⟩

set_option maxHeartbeats 4000000 in
set_option maxRecDepth 100000 in
theorem right_lo (h : kind < 0) :
    Calls Tryd.prog 58 #[jVal kind num t nk nd Ak Ad ck cd] w fun e w' => e = .returned (.bool (rightB kind num t nk nd)) ∧ Below w.heap.size w w' := by
  have hb1 : Below w.heap.size w (w.alloc (.cells #[.int .i64 kind, .int .i64 num, .string ⟨t.toArray⟩, .slice Ak nk ck, .slice Ad nd cd] 25)) := (Below.refl _ _).alloc (Nat.le_refl _) _
  have hR : Hid (rightB kind num t nk nd = false) := by
    show _ = _
    unfold rightB
    rw [if_neg (by omega), if_neg (by omega), if_neg (by omega), if_neg (by omega), if_neg (by omega), if_neg (by omega)]
  generalize rightB kind num t nk nd = B at *
  have q0 : (kind == 0) = false := by simp; omega
  have q1 : (kind == 1) = false := by simp; omega
  have q2 : (kind == 2) = false := by simp; omega
  have q3 : (kind == 3) = false := by simp; omega
  have q4 : (kind == 4) = false := by simp; omega
  have q5 : (kind == 5) = false := by simp; omega
  have g1 : ¬ (0 : Int) ≤ kind := by omega
  clear h
  go_enter Tryd.func58, Tryd.ntmps58
  go_wp2_with fail
  go_ret
  exact ⟨by rw [hR.out]; rfl, hb1⟩

set_option maxHeartbeats 4000000 in
set_option maxRecDepth 100000 in
theorem right_hi (h : 5 < kind) :
    Calls Tryd.prog 58 #[jVal kind num t nk nd Ak Ad ck cd] w fun e w' => e = .returned (.bool (rightB kind num t nk nd)) ∧ Below w.heap.size w w' := by
  have hb1 : Below w.heap.size w (w.alloc (.cells #[.int .i64 kind, .int .i64 num, .string ⟨t.toArray⟩, .slice Ak nk ck, .slice Ad nd cd] 25)) := (Below.refl _ _).alloc (Nat.le_refl _) _
  have hR : Hid (rightB kind num t nk nd = false) := by
    show _ = _
    unfold rightB
    rw [if_neg (by omega), if_neg (by omega), if_neg (by omega), if_neg (by omega), if_neg (by omega), if_neg (by omega)]
  generalize rightB kind num t nk nd = B at *
  have q0 : (kind == 0) = false := by simp; omega
  have q1 : (kind == 1) = false := by simp; omega
  have q2 : (kind == 2) = false := by simp; omega
  have q3 : (kind == 3) = false := by simp; omega
  have q4 : (kind == 4) = false := by simp; omega
  have q5 : (kind == 5) = false := by simp; omega
  have g1 : (0 : Int) ≤ kind := by omega
  have g2 : ¬ kind ≤ 5 := by omega
  clear h
  go_enter Tryd.func58, Tryd.ntmps58
  go_wp2_with fail
  go_ret
  exact ⟨by rw [hR.out]; rfl, hb1⟩

theorem right_walk (hT : Tab10 w) (h1 : -9223372036854775808 ≤ num) (h2 : num ≤ 9223372036854775807) (hk : nk ≤ 16777216) (hd : nd ≤ 16777216) :
    Calls Tryd.prog 58 #[jVal kind num t nk nd Ak Ad ck cd] w fun e w' => e = .returned (.bool (rightB kind num t nk nd)) ∧ Below w.heap.size w w' := by
  have hw : kind < 0 ∨ kind = 0 ∨ kind = 1 ∨ kind = 2 ∨ kind = 3 ∨ kind = 4 ∨ kind = 5 ∨ 5 < kind := by omega
  rcases hw with h | rfl | rfl | rfl | rfl | rfl | rfl | h
  · exact right_lo kind num t nk nd Ak Ad ck cd w h
  · exact right_0 num t nk nd Ak Ad ck cd w hT h1 h2 hk hd
  · exact right_1 num t nk nd Ak Ad ck cd w hT h1 h2 hk hd
  · exact right_2 num t nk nd Ak Ad ck cd w hT h1 h2 hk hd
  · exact right_3 num t nk nd Ak Ad ck cd w hT h1 h2 hk hd
  · exact right_4 num t nk nd Ak Ad ck cd w hT h1 h2 hk hd
  · exact right_5 num t nk nd Ak Ad ck cd w hT h1 h2 hk hd
  · exact right_hi kind num t nk nd Ak Ad ck cd w h
end
end Go.Proofs.YtccljojceoidhaaDoor
/-
  VALUES OF MESSAGES IN MEMORY.
-/
namespace Go.Proofs.YtccljojceoidhaaDoor
open Go.RowKit Go.ChangeShapes Go.WideShapes Go.Deep

/-- a row of values, so deep, all below block B -/
def JsAt (w : World) (B : Nat) : Nat → List JT → Option Addr → Prop
  | 0, l, _ => l = []
  | d + 1, l, A => 0 < l.length → ∃ b o, A = some ⟨b, o, none⟩ ∧ b < B ∧ ∀ k (h : k < l.length), ∃ Ak ck Ad cd,
      w.cell? ⟨b, o + k * 5, none⟩ = some (.int .i64 l[k].kind) ∧ w.cell? ⟨b, o + k * 5 + 1, none⟩ = some (.int .i64 l[k].num) ∧ w.cell? ⟨b, o + k * 5 + 2, none⟩ = some (strV l[k].text) ∧ w.cell? ⟨b, o + k * 5 + 3, none⟩ = some (.slice Ak l[k].keys.length ck) ∧ w.cell? ⟨b, o + k * 5 + 4, none⟩ = some (.slice Ad l[k].kids.length cd) ∧
      Rd w B 1 Ak l[k].keys.length (txtV l[k].keys) ∧ l[k].keys.length ≤ ck ∧ JsAt w B d l[k].kids Ad ∧ (-9223372036854775808 ≤ l[k].num ∧ l[k].num ≤ 9223372036854775807) ∧ (-9223372036854775808 ≤ l[k].kind ∧ l[k].kind ≤ 9223372036854775807)
/-- a value's rows -/
def JIn (w : World) (B d : Nat) (j : JT) (Ak : Option Addr) (ck : Nat) (Ad : Option Addr) : Prop := Rd w B 1 Ak j.keys.length (txtV j.keys) ∧ j.keys.length ≤ ck ∧ JsAt w B d j.kids Ad ∧ (-9223372036854775808 ≤ j.num ∧ j.num ≤ 9223372036854775807) ∧ (-9223372036854775808 ≤ j.kind ∧ j.kind ≤ 9223372036854775807)

theorem JsAt.below {w w' : World} {B : Nat} : ∀ {d : Nat} {l : List JT} {A : Option Addr}, JsAt w B d l A → Below B w w' → JsAt w' B d l A
  | 0, _, _, h, _ => h
  | d + 1, l, A, h, hb => fun hn => by
    obtain ⟨b, o, e, hB, hk⟩ := h hn
    refine ⟨b, o, e, hB, fun k hkl => ?_⟩
    obtain ⟨Ak, ck, Ad, cd, c0, c1, c2, c3, c4, hr, hle, hj, hn1, hn2⟩ := hk k hkl
    have hc : ∀ j, w'.cell? ⟨b, j, none⟩ = w.cell? ⟨b, j, none⟩ := fun j => hb.cell (p := ⟨b, j, none⟩) hB
    exact ⟨Ak, ck, Ad, cd, (hc _).trans c0, (hc _).trans c1, (hc _).trans c2, (hc _).trans c3, (hc _).trans c4, hr.below hb, hle, JsAt.below hj hb, hn1, hn2⟩
theorem JIn.below {w w' : World} {B d : Nat} {j : JT} {Ak Ad : Option Addr} {ck : Nat} (h : JIn w B d j Ak ck Ad) (hb : Below B w w') : JIn w' B d j Ak ck Ad := ⟨h.1.below hb, h.2.1, h.2.2.1.below hb, h.2.2.2⟩
/-- a value of a row -/
theorem JsAt.get {w : World} {B d : Nat} {l : List JT} {A : Option Addr} {k : Nat} (h : JsAt w B d l A) (hk : k < l.length) :
    ∃ b o Ak ck Ad cd d', A = some ⟨b, o, none⟩ ∧ b < B ∧ w.cell? ⟨b, o + k * 5, none⟩ = some (.int .i64 l[k].kind) ∧ w.cell? ⟨b, o + k * 5 + 1, none⟩ = some (.int .i64 l[k].num) ∧ w.cell? ⟨b, o + k * 5 + 2, none⟩ = some (strV l[k].text) ∧ w.cell? ⟨b, o + k * 5 + 3, none⟩ = some (.slice Ak l[k].keys.length ck) ∧ w.cell? ⟨b, o + k * 5 + 4, none⟩ = some (.slice Ad l[k].kids.length cd) ∧ JIn w B d' l[k] Ak ck Ad := by
  cases d with
  | zero => have : l = [] := h; subst this; simp at hk
  | succ d =>
    obtain ⟨b, o, e, hB, hh⟩ := h (by omega)
    obtain ⟨Ak, ck, Ad, cd, c0, c1, c2, c3, c4, hr, hle, hj, hn1, hn2⟩ := hh k hk
    exact ⟨b, o, Ak, ck, Ad, cd, d, e, hB, c0, c1, c2, c3, c4, hr, hle, hj, hn1, hn2⟩
theorem JT.keyW_sum (ks : List Bs) : JT.keyW ks ≤ 8 * (ks.length + (ks.map List.length).sum) := by
  unfold JT.keyW
  induction ks with
  | nil => simp
  | cons k ks ih => simp only [List.map_cons, List.sum_cons, List.length_cons]; omega
theorem JT.wts_append (l m : List JT) : JT.wts (l ++ m) = JT.wts l + JT.wts m := by
  induction l with
  | nil => simp [JT.wts]
  | cons a l ih => simp only [List.cons_append, JT.wts, ih]; omega

section
variable {H : Type} {enc : TypeId × Value → H} {P : Program} {w : World} {base : Nat} {spare : Nat → Bool} {held : Bool}
theorem open_slice_fields {t e : TypeId} {fs : Array Field} {fuel : Nat} {cs : List Value} {x : DataW H × List MemPlace} (ht : P.underlying t = some (.slice e)) (he : P.underlying e = some (.struct fs))
    (hone : oneCellFields P fs = true) (hC : P.cellsOf e = fs.size) (h : DataW.trod enc P w base spare held fuel t cs = some x) :
    (cs = [.slice none 0 0] ∧ x = (.nil, [])) ∨
    ∃ (a : Addr) (len cap m : Nat) (D : Nat → DataW H) (Pl : Nat → List MemPlace), cs = [.slice (some a) len cap] ∧ base ≤ a.block ∧ len ≤ cap ∧ cap ≤ maxLen ∧ m = (if spare a.block then cap else len) ∧
      x = (.slice ((List.range len).map D) ((List.range (m - len)).map fun j => D (len + j)), MemPlace.row a (m * fs.size) ++ (List.range m).flatMap Pl) ∧
      ∀ i, i < m → ∃ (ys : List (DataW H × List MemPlace)) (n : Nat), D i = .agg (ys.map (·.1)) ∧ Pl i = ys.flatMap (·.2) ∧ ys.length = fs.size ∧
        ∀ (j : Nat) (f : Field), fs[j]? = some f → ∃ (v : Value) (y : DataW H × List MemPlace), w.cell? (a.add (i * fs.size + j)) = some v ∧ ys[j]? = some y ∧ DataW.trod enc P w base spare held n f.type [v] = some y := by
  rcases open_slice ht h with h0 | ⟨a, len, cap, m, n, D, Pl, hcs, hb, hl, hm, hmm, hx, hi⟩
  · exact .inl h0
  · refine .inr ⟨a, len, cap, m, D, Pl, hcs, hb, hl, hm, hmm, by rw [hC] at hx; exact hx, fun i him => ?_⟩
    obtain ⟨cs', hc, ht'⟩ := hi i him
    rw [hC] at hc
    obtain ⟨ys, n', hn', hy, hlen, hyl, hf⟩ := DataW.trod_struct he ht'
    obtain ⟨_, hcl, hat⟩ := World.cells?_some hc
    simp only [Prod.mk.injEq] at hy
    refine ⟨ys, n', hy.1, hy.2, hyl, fun j f hj => ?_⟩
    obtain ⟨ho, hk⟩ := hone_of hone j f hj
    have hjl : j < fs.size := (Array.getElem?_eq_some_iff.1 hj).1
    have hcell := hat j hjl
    have hv : cs'[j]? = some (cs'[j]'(by omega)) := List.getElem?_eq_getElem (by omega)
    have h1 := hf j f hj
    rw [ho, hk] at h1
    have hone' : (cs'.drop j).take 1 = [cs'[j]'(by omega)] := by
      rw [List.drop_eq_getElem_cons (by omega)]
      rfl
    rw [hone'] at h1
    have hys : ys[j]? = some (ys[j]'(by omega)) := List.getElem?_eq_getElem (by omega)
    refine ⟨_, _, ?_, hys, h1.trans hys⟩
    rw [← Go.Deep.add_add, hcell, hv]
end

theorem slice_le {H : Type} {enc : TypeId × Value → H} {w : World} {base : Nat} {spare : Nat → Bool} {held : Bool} {t e : TypeId} {fuel n c : Nat} {A : Option Addr} {x : DataW H × List MemPlace} (ht : Tryd.prog.underlying t = some (.slice e)) (h : DataW.trod enc Tryd.prog w base spare held fuel t [.slice A n c] = some x) : n ≤ c := by
  rcases open_slice ht h with ⟨hcs, _⟩ | ⟨a, len, cap, m, k, D, Pl, hcs, hb, hl, _⟩
  · simp only [List.cons.injEq, Value.slice.injEq, and_true] at hcs; omega
  · simp only [List.cons.injEq, Value.slice.injEq, and_true] at hcs; omega
theorem bulk_range {H : Type} (D : Nat → DataW H) : ∀ m n, n ≤ m → Rows.uptoBulkAll ((List.range n).map D) ≤ Rows.uptoBulkAll ((List.range m).map D) := by
  intro m
  induction m with
  | zero => intro n h; obtain rfl : n = 0 := by omega
            exact Nat.le_refl _
  | succ m ih =>
    intro n h
    by_cases hn : n = m + 1
    · subst hn; exact Nat.le_refl _
    · have h1 := ih n (by omega)
      rw [List.range_succ (n := m), List.map_append, bulks.append]
      omega
set_option maxRecDepth 100000 in
theorem open_jsons {H : Type} {enc : TypeId × Value → H} {w : World} {base : Nat} {spare : Nat → Bool} {held : Bool} : ∀ (N : Nat) {fuel : Nat} {v : Value} {d : DataW H} {p : List MemPlace},
    DataW.trod enc Tryd.prog w base spare held fuel 23 [v] = some (d, p) → Rows.uptoBulk d ≤ N →
    ∃ (A : Option Addr) (c : Nat) (l : List JT), v = .slice A l.length c ∧ JsAt w w.heap.size N l A ∧ l.length + 1 ≤ Rows.uptoBulk d ∧ JT.wts l + 8 ≤ 8 * Rows.uptoBulk d := by
  intro N
  induction N with
  | zero => intro _ _ d _ _ h; have := bulks.one_le d; omega
  | succ N ih =>
    intro fuel v d p hf hN
    rcases open_slice_fields Tryd.underlying23 Tryd.underlying25 (by kernel_rfl) (by kernel_rfl) hf with ⟨hcs, hx⟩ | ⟨a, len, cap, m, D, Pl, hcs, hbs, hl, hm, hmm, hx, hi⟩
    · simp only [List.cons.injEq, and_true] at hcs
      subst hcs
      refine ⟨none, 0, [], rfl, fun h => by simp at h, ?_, ?_⟩
      · have := bulks.one_le d; simpa using this
      · have := bulks.one_le d; simp only [JT.wts]; omega
    · simp only [List.cons.injEq, and_true] at hcs
      subst hcs
      have hlm : len ≤ m := by rw [hmm]; split <;> omega
      simp only [Prod.mk.injEq] at hx
      have hxb : Rows.uptoBulkAll ((List.range len).map D) + 1 ≤ Rows.uptoBulk d := by
        rw [hx.1]; simp only [Rows.uptoBulk]; omega
      have key : ∀ n, n ≤ len → ∃ l : List JT, l.length = n ∧ (∀ k (hk : k < l.length), ∃ Ak ck Ad cd,
          w.cell? ⟨a.block, a.off + k * 5, none⟩ = some (.int .i64 l[k].kind) ∧ w.cell? ⟨a.block, a.off + k * 5 + 1, none⟩ = some (.int .i64 l[k].num) ∧ w.cell? ⟨a.block, a.off + k * 5 + 2, none⟩ = some (strV l[k].text) ∧ w.cell? ⟨a.block, a.off + k * 5 + 3, none⟩ = some (.slice Ak l[k].keys.length ck) ∧ w.cell? ⟨a.block, a.off + k * 5 + 4, none⟩ = some (.slice Ad l[k].kids.length cd) ∧
          Rd w w.heap.size 1 Ak l[k].keys.length (txtV l[k].keys) ∧ l[k].keys.length ≤ ck ∧ JsAt w w.heap.size N l[k].kids Ad ∧ (-9223372036854775808 ≤ l[k].num ∧ l[k].num ≤ 9223372036854775807) ∧ (-9223372036854775808 ≤ l[k].kind ∧ l[k].kind ≤ 9223372036854775807)) ∧
          l.length ≤ Rows.uptoBulkAll ((List.range n).map D) ∧ JT.wts l ≤ 8 * Rows.uptoBulkAll ((List.range n).map D) := by
        intro n
        induction n with
        | zero => intro _; exact ⟨[], rfl, by simp, by simp, by simp [JT.wts]⟩
        | succ n ihn =>
          intro hn
          obtain ⟨l, hln, hc, hbk, hbw⟩ := ihn (by omega)
          obtain ⟨ys, k, hD, _, hyl, hfs⟩ := hi n (by omega)
          obtain ⟨v0, y0, c0, e0, t0⟩ := hfs 0 _ rfl
          obtain ⟨v1, y1, c1, e1, t1⟩ := hfs 1 _ rfl
          obtain ⟨v2, y2, c2, e2, t2⟩ := hfs 2 _ rfl
          obtain ⟨v3, y3, c3, e3, t3⟩ := hfs 3 _ rfl
          obtain ⟨v4, y4, c4, e4, t4⟩ := hfs 4 _ rfl
          obtain ⟨x0, q0, rfl, w0⟩ := DataW.trod_int Tryd.underlying3 t0
          obtain ⟨x1, q1, rfl, w1⟩ := DataW.trod_int Tryd.underlying3 t1
          obtain ⟨x2, q2, rfl, _⟩ := DataW.trod_string Tryd.underlying9 t2
          obtain ⟨d3, p3⟩ := y3
          obtain ⟨d4, p4⟩ := y4
          have hb4 : Rows.uptoBulk (D n) = Rows.uptoBulkAll (ys.map (·.1)) + 1 := by rw [hD]; simp only [Rows.uptoBulk]
          have hall : Rows.uptoBulkAll (ys.map (·.1)) = 2 + (x2.data.toList.length + 1) + Rows.uptoBulk d3 + Rows.uptoBulk d4 := by
            match ys, hyl, e0, e1, e2, e3, e4 with
            | [z0, z1, z2, z3, z4], _, e0, e1, e2, e3, e4 =>
              simp at e0 e1 e2 e3 e4
              subst e0 e1 e2 e3 e4
              simp only [List.map_cons, List.map_nil, Rows.uptoBulkAll, Rows.uptoBulk]
              omega
          have hsum : Rows.uptoBulkAll ((List.range (n + 1)).map D) = Rows.uptoBulkAll ((List.range n).map D) + Rows.uptoBulk (D n) := by
            rw [List.range_succ, List.map_append, bulks.append]; simp [Rows.uptoBulkAll]
          have hle : Rows.uptoBulkAll ((List.range (n + 1)).map D) ≤ Rows.uptoBulkAll ((List.range len).map D) := bulk_range D len (n + 1) (by omega)
          obtain ⟨Ak, ck, ks, rfl, hrk, hbk3⟩ := open_texts_at t3
          obtain ⟨Ad, cd, kd, rfl, hjd, hb5, hw5⟩ := ih t4 (by omega)
          simp only [List.cons.injEq, and_true] at q0 q1 q2
          subst q0 q1 q2
          have hW : JT.wts [JT.mk x0 x1 x2.data.toList ks kd] ≤ 8 * Rows.uptoBulk (D n) := by
            have := JT.keyW_sum ks
            simp only [JT.wts, JT.wt]
            omega
          have b0 := bounds_i64 w0
          have b1 := bounds_i64 w1
          refine ⟨l ++ [JT.mk x0 x1 x2.data.toList ks kd], by simp [hln], fun i hi => ?_, ?_, ?_⟩
          · by_cases hil : i < l.length
            · rw [List.getElem_append_left hil]
              exact hc i hil
            · have hin : i = n := by simp at hi; omega
              have hget : (l ++ [JT.mk x0 x1 x2.data.toList ks kd])[i] = JT.mk x0 x1 x2.data.toList ks kd := by
                rw [List.getElem_append_right (by omega)]; simp
              rw [hget, hin]
              have g0 := add_cells c0
              have g1 := add_cells c1
              have g2 := add_cells c2
              have g3 := add_cells c3
              have g4 := add_cells c4
              refine ⟨Ak, ck, Ad, cd, g0, g1, ?_, g3, g4, hrk, slice_le Tryd.underlying22 t3, hjd, ⟨b1.1, b1.2⟩, b0.1, b0.2⟩
              unfold strV
              simp only [JT.text, Lib.mk_data]
              exact g2
          · rw [hsum]; have := bulks.one_le (D n); simp only [List.length_append, List.length_singleton]; omega
          · rw [hsum, JT.wts_append]; omega
      obtain ⟨l, hln, hc, hbk, hbw⟩ := key len (Nat.le_refl _)
      subst hln
      refine ⟨some a, cap, l, rfl, fun hn => ?_, by omega, by omega⟩
      obtain ⟨ys, k, _, _, _, hfs⟩ := hi 0 (by omega)
      obtain ⟨v0, y0, c0, _⟩ := hfs 0 _ rfl
      exact ⟨a.block, a.off, by rw [← spot_none c0 (by simp)], World.block_lt_of_cell? w ⟨a.block, _, none⟩ (add_cells c0), hc⟩

theorem list5 {α : Type} : ∀ {l : List α}, l.length = 5 → ∃ a b c d e, l = [a, b, c, d, e]
  | [a, b, c, d, e], _ => ⟨a, b, c, d, e, rfl⟩
theorem array5 {α : Type} {l : Array α} (h : l.size = 5) : ∃ a b c d e, l = #[a, b, c, d, e] := by
  obtain ⟨a, b, c, d, e, hl⟩ := list5 (l := l.toList) (by simpa using h)
  exact ⟨a, b, c, d, e, by rw [← Array.toArray_toList (xs := l), hl]⟩
set_option maxRecDepth 100000 in
/-- a value that is an argument -/
theorem open_json {H : Type} {enc : TypeId × Value → H} {w : World} {base : Nat} {spare : Nat → Bool} {held : Bool} {b0 : Nat} {v : Value} {d : DataW H} {p : List MemPlace}
    (hv : Value.okWide Tryd.prog w .any b0 25 v) (h : DataW.Trod enc Tryd.prog w base spare held 25 v d p) :
    ∃ (j : JT) (Ak Ad : Option Addr) (ck cd N : Nat), v = jVal j.kind j.num j.text j.keys.length j.kids.length Ak Ad ck cd ∧ JIn w w.heap.size N j Ak ck Ad ∧ j.wt ≤ 8 * Rows.uptoBulk d ∧ j.keys.length ≤ Rows.uptoBulk d ∧ j.kids.length ≤ Rows.uptoBulk d ∧ j.text.length ≤ Rows.uptoBulk d := by
  obtain ⟨cs, rfl, hsz⟩ := okWide_struct Tryd.underlying25 hv
  obtain ⟨s0, s1, s2, s3, s4, rfl⟩ := array5 (hsz.trans (by kernel_rfl))
  obtain ⟨fuel, hf⟩ := h
  obtain ⟨ys, n', hn', hy, hlen, hyl, hfs⟩ := DataW.trod_struct Tryd.underlying25 hf
  simp only [Prod.mk.injEq] at hy
  have hone : oneCellFields Tryd.prog #[{ name := "Kind", type := 3, offset := 0, embedded := false, tag := "", pkgPath := "", byteOffset := 0 }] = true := by kernel_rfl
  have h3 : Tryd.prog.cellsOf 3 = 1 := by kernel_rfl
  have h9 : Tryd.prog.cellsOf 9 = 1 := by kernel_rfl
  have h22 : Tryd.prog.cellsOf 22 = 1 := by kernel_rfl
  have h23 : Tryd.prog.cellsOf 23 = 1 := by kernel_rfl
  clear hone
  match ys, hyl with
  | [y0, y1, y2, y3, y4], _ =>
    have t0 := hfs 0 _ rfl
    have t1 := hfs 1 _ rfl
    have t2 := hfs 2 _ rfl
    have t3 := hfs 3 _ rfl
    have t4 := hfs 4 _ rfl
    simp [Value.cells, h3, h9, h22, h23] at t0 t1 t2 t3 t4
    obtain ⟨x0, q0, rfl, w0⟩ := DataW.trod_int Tryd.underlying3 t0
    obtain ⟨x1, q1, rfl, w1⟩ := DataW.trod_int Tryd.underlying3 t1
    obtain ⟨x2, q2, rfl, _⟩ := DataW.trod_string Tryd.underlying9 t2
    obtain ⟨d3, p3⟩ := y3
    obtain ⟨d4, p4⟩ := y4
    obtain ⟨Ak, ck, ks, rfl, hrk, hbk3⟩ := open_texts_at t3
    obtain ⟨Ad, cd, kd, rfl, hjd, hb5, hw5⟩ := open_jsons _ t4 (Nat.le_refl _)
    simp only [List.cons.injEq, and_true] at q0 q1 q2
    subst q0 q1 q2
    have hbd : Rows.uptoBulk d = 2 + (x2.data.toList.length + 1) + Rows.uptoBulk d3 + Rows.uptoBulk d4 + 1 := by
      rw [hy.1]
      simp only [List.map_cons, List.map_nil, Rows.uptoBulk, Rows.uptoBulkAll]
      omega
    have b0 := bounds_i64 w0
    have b1 := bounds_i64 w1
    refine ⟨JT.mk x0 x1 x2.data.toList ks kd, Ak, Ad, ck, cd, _, ?_, ⟨hrk, slice_le Tryd.underlying22 t3, hjd, b1, b0⟩, ?_, ?_, ?_, ?_⟩
    · unfold jVal
      simp only [JT.kind, JT.num, JT.text, JT.keys, JT.kids, Lib.mk_data]
    · have := JT.keyW_sum ks
      simp only [JT.wt]
      omega
    · simp only [JT.keys]; omega
    · simp only [JT.kids]; omega
    · simp only [JT.text]; omega
end Go.Proofs.YtccljojceoidhaaDoor
/-
  WALKS: quoting in messages (package wire; package amanuensisref11).
-/
namespace Go.Proofs.YtccljojceoidhaaDoor
open Go.RowKit

theorem jqu_ways (a : UInt8) : (a = 34 ∧ jquB a = [92, 34]) ∨ (a = 92 ∧ jquB a = [92, 92]) ∨ (a = 10 ∧ jquB a = [92, 110]) ∨ (a = 13 ∧ jquB a = [92, 114]) ∨ (a = 9 ∧ jquB a = [92, 116]) ∨ (a ≠ 10 ∧ a ≠ 13 ∧ a ≠ 9 ∧ a.toNat < 32 ∧ jquB a = [92, 117, 48, 48, Lx.hexD (a.toNat / 16), Lx.hexD (a.toNat % 16)]) ∨ (32 ≤ a.toNat ∧ a ≠ 34 ∧ a ≠ 92 ∧ jquB a = [a]) := by
  have h : ∀ i : Fin 256, let a := UInt8.ofNat i.val; (a = 34 ∧ jquB a = [92, 34]) ∨ (a = 92 ∧ jquB a = [92, 92]) ∨ (a = 10 ∧ jquB a = [92, 110]) ∨ (a = 13 ∧ jquB a = [92, 114]) ∨ (a = 9 ∧ jquB a = [92, 116]) ∨ (a ≠ 10 ∧ a ≠ 13 ∧ a ≠ 9 ∧ a.toNat < 32 ∧ jquB a = [92, 117, 48, 48, Lx.hexD (a.toNat / 16), Lx.hexD (a.toNat % 16)]) ∨ (32 ≤ a.toNat ∧ a ≠ 34 ∧ a ≠ 92 ∧ jquB a = [a]) := by decide +kernel
  have := h ⟨a.toNat, a.toNat_lt⟩
  simpa using this
theorem and15b (n : Nat) (h : n < 256) : bits .and .u8 (n : Int) 15 = (n : Int) % 16 := by
  have h2 : ∀ i : Fin 256, bits .and .u8 (i.val : Int) 15 = (i.val : Int) % 16 := by decide +kernel
  exact h2 ⟨n, h⟩

set_option maxHeartbeats 4000000 in
set_option maxRecDepth 100000 in
theorem rjquote_walk (s : Bs) (w : World) (hl : s.length ≤ 16777216) :
    Calls Tryd.prog 37 #[.string ⟨s.toArray⟩] w fun e w' => e = .returned (.string ⟨(jquM s).toArray⟩) ∧ Below w.heap.size w w' := by
  obtain ⟨i0, ji, jz0, jz1, jz2⟩ := info_parts bd_byte
  generalize hU : jquM s = U
  have HU : Hid (U = [34] ++ (jquI s ++ [34])) := by show _ = _; rw [← hU]; rfl
  clear hU
  go_enter Tryd.func37, Tryd.ntmps37
  go_wp2_with fail
  go_loopw [4, 5] (fun v iv wr => ∃ (i : Nat) (done : Bs), iv = .int .i64 i ∧ i ≤ s.length ∧ done.length ≤ 1 + 6 * i ∧ wr.ownsRow w.heap.size 5 1 v done.length (Lib.byteCells done) ∧ Below w.heap.size w wr ∧ Hid (U = done ++ (jquI (s.drop i) ++ [34]))) (fun _ iv _ => s.length - (intOf iv).toNat)
  case atStart => exact ⟨0, [34], rfl, by omega, by simp, World.ownsRow_lit (base := w.heap.size) (size := 1) (e := 5) w #[.int .u8 34] 1 (Nat.le_refl _) (by unfold maxLen; omega) rfl, (Below.refl _ _).alloc (Nat.le_refl _) _, HU⟩
  case round =>
    obtain ⟨i, done, rfl, hi, hdl, hown, hb, HX⟩ := hrel
    have hbs := hb.size
    by_cases hlt : i < s.length
    · have j0 : (0 : Int) ≤ (i : Int) := by omega
      have j1 : (i : Int) < (s.length : Int) := by omega
      have HX2 : Hid (U = (done ++ jquB s[i]) ++ (jquI (s.drop (i + 1)) ++ [34])) := by
        show _ = _
        rw [HX.out, List.drop_eq_getElem_cons hlt]
        simp only [jquI, List.flatMap_cons, List.append_assoc]
      have hql := jquB_len s[i]
      have hww := jqu_ways s[i]
      have hby : (((⟨s.toArray⟩ : ByteArray)[i]'(by rw [mk_size]; exact hlt)).toNat : Int) = (s[i].toNat : Int) := byte_of hlt rfl
      have Hby := Lib.hid hby
      generalize s[i] = a at *
      obtain ⟨Av, cv, rfl⟩ := own_form hown
      clear HX hby
      rcases hww with ⟨rfl, hq⟩ | ⟨rfl, hq⟩ | ⟨rfl, hq⟩ | ⟨rfl, hq⟩ | ⟨rfl, hq⟩ | ⟨h10, h13, h9, h32, hq⟩ | ⟨h32, h34, h92, hq⟩
      · have hb0 : (((⟨s.toArray⟩ : ByteArray)[i]'(by rw [mk_size]; exact hlt)).toNat : Int) = 34 := Hby.out
        have HQ := Lib.hid hq
        clear hq
        go_wp2_with (at_builtin; have hBN3 : (wr.alloc (.cells #[.int .u8 92, .int .u8 34] 5)).heap[wr.heap.size]? = some (.cells #[.int .u8 92, .int .u8 34] 5 (0, 0)) := heap_alloc_new _ _; have hoA3 := hown.alloc (.cells #[.int .u8 92, .int .u8 34] 5); have hbA3 := hb.alloc hbs (.cells #[.int .u8 92, .int .u8 34] 5); refine wpList_append_lies _ rfl _ _ 63 rfl w.heap.size 5 i0 _ 1 1 Tryd.underlying63 ji jz0 jz1 jz2 rfl (by omega) (.slice Av done.length cv) done.length (Lib.byteCells done) rfl hoA3 ⟨wr.heap.size, 0, none⟩ 2 2 [.int .u8 92, .int .u8 34] rfl rfl (World.news_of_block (cs := #[.int .u8 92, .int .u8 34]) (t := 5) (fr := (0, 0)) hBN3) (by simp [Value.oneCell']) (by omega) (by unfold maxLen; omega) (by omega) (by simp; omega) _ rfl ?_; intro gg3 cap3 w3 hown3 hgrow3 hat3 hlt3; have hb3 := hbA3.grown hgrow3 (by simp; omega) (fun g hg => (hown.lt g hg).1); have hbs3 := hb3.size)
        go_roundw
        case rel =>
          refine ⟨i + 1, done ++ jquB 34, by go_num, by omega, by rw [List.length_append]; omega, ?_, hb3, HX2⟩
          rw [List.length_append, Lib.byteCells_append, HQ.out]
          exact hown3
        case measure => simp [intOf]; omega
      · have hb0 : (((⟨s.toArray⟩ : ByteArray)[i]'(by rw [mk_size]; exact hlt)).toNat : Int) = 92 := Hby.out
        have HQ := Lib.hid hq
        clear hq
        go_wp2_with (at_builtin; have hBN3 : (wr.alloc (.cells #[.int .u8 92, .int .u8 92] 5)).heap[wr.heap.size]? = some (.cells #[.int .u8 92, .int .u8 92] 5 (0, 0)) := heap_alloc_new _ _; have hoA3 := hown.alloc (.cells #[.int .u8 92, .int .u8 92] 5); have hbA3 := hb.alloc hbs (.cells #[.int .u8 92, .int .u8 92] 5); refine wpList_append_lies _ rfl _ _ 63 rfl w.heap.size 5 i0 _ 1 1 Tryd.underlying63 ji jz0 jz1 jz2 rfl (by omega) (.slice Av done.length cv) done.length (Lib.byteCells done) rfl hoA3 ⟨wr.heap.size, 0, none⟩ 2 2 [.int .u8 92, .int .u8 92] rfl rfl (World.news_of_block (cs := #[.int .u8 92, .int .u8 92]) (t := 5) (fr := (0, 0)) hBN3) (by simp [Value.oneCell']) (by omega) (by unfold maxLen; omega) (by omega) (by simp; omega) _ rfl ?_; intro gg3 cap3 w3 hown3 hgrow3 hat3 hlt3; have hb3 := hbA3.grown hgrow3 (by simp; omega) (fun g hg => (hown.lt g hg).1); have hbs3 := hb3.size)
        go_roundw
        case rel =>
          refine ⟨i + 1, done ++ jquB 92, by go_num, by omega, by rw [List.length_append]; omega, ?_, hb3, HX2⟩
          rw [List.length_append, Lib.byteCells_append, HQ.out]
          exact hown3
        case measure => simp [intOf]; omega
      · have hb0 : (((⟨s.toArray⟩ : ByteArray)[i]'(by rw [mk_size]; exact hlt)).toNat : Int) = 10 := Hby.out
        have HQ := Lib.hid hq
        clear hq
        go_wp2_with (at_builtin; have hBN3 : (wr.alloc (.cells #[.int .u8 92, .int .u8 110] 5)).heap[wr.heap.size]? = some (.cells #[.int .u8 92, .int .u8 110] 5 (0, 0)) := heap_alloc_new _ _; have hoA3 := hown.alloc (.cells #[.int .u8 92, .int .u8 110] 5); have hbA3 := hb.alloc hbs (.cells #[.int .u8 92, .int .u8 110] 5); refine wpList_append_lies _ rfl _ _ 63 rfl w.heap.size 5 i0 _ 1 1 Tryd.underlying63 ji jz0 jz1 jz2 rfl (by omega) (.slice Av done.length cv) done.length (Lib.byteCells done) rfl hoA3 ⟨wr.heap.size, 0, none⟩ 2 2 [.int .u8 92, .int .u8 110] rfl rfl (World.news_of_block (cs := #[.int .u8 92, .int .u8 110]) (t := 5) (fr := (0, 0)) hBN3) (by simp [Value.oneCell']) (by omega) (by unfold maxLen; omega) (by omega) (by simp; omega) _ rfl ?_; intro gg3 cap3 w3 hown3 hgrow3 hat3 hlt3; have hb3 := hbA3.grown hgrow3 (by simp; omega) (fun g hg => (hown.lt g hg).1); have hbs3 := hb3.size)
        go_roundw
        case rel =>
          refine ⟨i + 1, done ++ jquB 10, by go_num, by omega, by rw [List.length_append]; omega, ?_, hb3, HX2⟩
          rw [List.length_append, Lib.byteCells_append, HQ.out]
          exact hown3
        case measure => simp [intOf]; omega
      · have hb0 : (((⟨s.toArray⟩ : ByteArray)[i]'(by rw [mk_size]; exact hlt)).toNat : Int) = 13 := Hby.out
        have HQ := Lib.hid hq
        clear hq
        go_wp2_with (at_builtin; have hBN3 : (wr.alloc (.cells #[.int .u8 92, .int .u8 114] 5)).heap[wr.heap.size]? = some (.cells #[.int .u8 92, .int .u8 114] 5 (0, 0)) := heap_alloc_new _ _; have hoA3 := hown.alloc (.cells #[.int .u8 92, .int .u8 114] 5); have hbA3 := hb.alloc hbs (.cells #[.int .u8 92, .int .u8 114] 5); refine wpList_append_lies _ rfl _ _ 63 rfl w.heap.size 5 i0 _ 1 1 Tryd.underlying63 ji jz0 jz1 jz2 rfl (by omega) (.slice Av done.length cv) done.length (Lib.byteCells done) rfl hoA3 ⟨wr.heap.size, 0, none⟩ 2 2 [.int .u8 92, .int .u8 114] rfl rfl (World.news_of_block (cs := #[.int .u8 92, .int .u8 114]) (t := 5) (fr := (0, 0)) hBN3) (by simp [Value.oneCell']) (by omega) (by unfold maxLen; omega) (by omega) (by simp; omega) _ rfl ?_; intro gg3 cap3 w3 hown3 hgrow3 hat3 hlt3; have hb3 := hbA3.grown hgrow3 (by simp; omega) (fun g hg => (hown.lt g hg).1); have hbs3 := hb3.size)
        go_roundw
        case rel =>
          refine ⟨i + 1, done ++ jquB 13, by go_num, by omega, by rw [List.length_append]; omega, ?_, hb3, HX2⟩
          rw [List.length_append, Lib.byteCells_append, HQ.out]
          exact hown3
        case measure => simp [intOf]; omega
      · have hb0 : (((⟨s.toArray⟩ : ByteArray)[i]'(by rw [mk_size]; exact hlt)).toNat : Int) = 9 := Hby.out
        have HQ := Lib.hid hq
        clear hq
        go_wp2_with (at_builtin; have hBN3 : (wr.alloc (.cells #[.int .u8 92, .int .u8 116] 5)).heap[wr.heap.size]? = some (.cells #[.int .u8 92, .int .u8 116] 5 (0, 0)) := heap_alloc_new _ _; have hoA3 := hown.alloc (.cells #[.int .u8 92, .int .u8 116] 5); have hbA3 := hb.alloc hbs (.cells #[.int .u8 92, .int .u8 116] 5); refine wpList_append_lies _ rfl _ _ 63 rfl w.heap.size 5 i0 _ 1 1 Tryd.underlying63 ji jz0 jz1 jz2 rfl (by omega) (.slice Av done.length cv) done.length (Lib.byteCells done) rfl hoA3 ⟨wr.heap.size, 0, none⟩ 2 2 [.int .u8 92, .int .u8 116] rfl rfl (World.news_of_block (cs := #[.int .u8 92, .int .u8 116]) (t := 5) (fr := (0, 0)) hBN3) (by simp [Value.oneCell']) (by omega) (by unfold maxLen; omega) (by omega) (by simp; omega) _ rfl ?_; intro gg3 cap3 w3 hown3 hgrow3 hat3 hlt3; have hb3 := hbA3.grown hgrow3 (by simp; omega) (fun g hg => (hown.lt g hg).1); have hbs3 := hb3.size)
        go_roundw
        case rel =>
          refine ⟨i + 1, done ++ jquB 9, by go_num, by omega, by rw [List.length_append]; omega, ?_, hb3, HX2⟩
          rw [List.length_append, Lib.byteCells_append, HQ.out]
          exact hown3
        case measure => simp [intOf]; omega
      · have hb0 : (((⟨s.toArray⟩ : ByteArray)[i]'(by rw [mk_size]; exact hlt)).toNat : Int) = (a.toNat : Int) := Hby.out
        have e34 : ((a.toNat : Int) == 34) = false := by simp; omega
        have e92 : ((a.toNat : Int) == 92) = false := by simp; omega
        have e10 : ((a.toNat : Int) == 10) = false := by simp; exact fun e => h10 (UInt8.toNat_inj.1 (show a.toNat = 10 by omega))
        have e13 : ((a.toNat : Int) == 13) = false := by simp; exact fun e => h13 (UInt8.toNat_inj.1 (show a.toNat = 13 by omega))
        have e9 : ((a.toNat : Int) == 9) = false := by simp; exact fun e => h9 (UInt8.toNat_inj.1 (show a.toNat = 9 by omega))
        have l32 : (a.toNat : Int) < 32 := by omega
        have hx1 := hex_at (a.toNat / 16) (by have := a.toNat_lt; omega)
        have hx2 := hex_at (a.toNat % 16) (by omega)
        have hw1 : IntKind.u8.wrap ((a.toNat : Int) / 16) = (a.toNat : Int) / 16 := by have := a.toNat_lt; unfold IntKind.wrap; simp [IntKind.bits, IntKind.signed]; omega
        have hw2 : IntKind.u8.wrap ((a.toNat : Int) % 16) = (a.toNat : Int) % 16 := by unfold IntKind.wrap; simp [IntKind.bits, IntKind.signed]; omega
        have hw3 : (a.toNat : Int).tmod 16 = (a.toNat : Int) % 16 := Int.tmod_eq_emod_of_nonneg (by omega)
        have hn1 : ((a.toNat : Int) / 16).toNat = a.toNat / 16 := by omega
        have hn2 : ((a.toNat : Int) % 16).toNat = a.toNat % 16 := by omega
        have hi1 : (0 : Int) ≤ (a.toNat : Int) / 16 := by omega
        have hi2 : (a.toNat : Int) / 16 < 16 := by omega
        have hi3 : (0 : Int) ≤ (a.toNat : Int) % 16 := by omega
        have hi4 : (a.toNat : Int) % 16 < 16 := by omega
        have HQ := Lib.hid hq
        clear hq
        go_wp2_with fail
        refine wp_region_G 11 (fun _ => True) (by kernel_rfl) ?_
        refine wpAnyG_take (i := 0) (v := ?_) rfl (by kernel_rfl) (by kernel_rfl) (by kernel_rfl) (by kernel_rfl) (fun _ _ _ h => h) (Or.inl ⟨by rfl, ?_⟩) trivial ?_; rotate_left; · (intro w hSw; go_simp; try with_reducible rfl)
        simp only [Act.put, List.setIfInBounds_toArray]
        refine wpAnyG_take (i := 1) (v := ?_) rfl (by kernel_rfl) (by kernel_rfl) (by kernel_rfl) (by kernel_rfl) (fun _ _ _ h => h) (Or.inl ⟨by rfl, ?_⟩) trivial ?_; rotate_left; · (intro w hSw; go_simp; try with_reducible rfl)
        simp only [Act.put]
        refine wpAnyG_take (i := 2) (v := ?_) rfl (by kernel_rfl) (by kernel_rfl) (by kernel_rfl) (by kernel_rfl) (fun _ _ _ h => h) (Or.inl ⟨by rfl, ?_⟩) trivial ?_; rotate_left; · (intro w hSw; go_simp; try with_reducible rfl)
        simp only [Act.put]
        refine wpAnyG_take (i := 3) (v := ?_) rfl (by kernel_rfl) (by kernel_rfl) (by kernel_rfl) (by kernel_rfl) (fun _ _ _ h => h) (Or.inl ⟨by rfl, ?_⟩) trivial ?_; rotate_left; · (intro w hSw; go_simp; try with_reducible rfl)
        simp only [Act.put]
        refine wpAnyG_take (i := 4) (v := ?_) rfl (by kernel_rfl) (by kernel_rfl) (by kernel_rfl) (by kernel_rfl) (fun _ _ _ h => h) (Or.inl ⟨by rfl, ?_⟩) trivial ?_; rotate_left; · (intro w hSw; go_simp; try with_reducible rfl)
        simp only [Act.put]
        refine wpAnyG_take (i := 5) (v := ?_) rfl (by kernel_rfl) (by kernel_rfl) (by kernel_rfl) (by kernel_rfl) (fun _ _ _ h => h) (Or.inl ⟨by rfl, ?_⟩) trivial ?_; rotate_left; · (intro w hSw; go_simp; try with_reducible rfl)
        simp only [Act.put]
        refine wpAnyG_take (i := 6) (v := ?_) rfl (by kernel_rfl) (by kernel_rfl) (by kernel_rfl) (by kernel_rfl) (fun _ _ _ h => h) (Or.inl ⟨by rfl, ?_⟩) trivial ?_; rotate_left; · (intro w hSw; go_simp; try with_reducible rfl)
        simp only [Act.put]
        refine wpAnyG_take (i := 7) (v := ?_) rfl (by kernel_rfl) (by kernel_rfl) (by kernel_rfl) (by kernel_rfl) (fun _ _ _ h => h) (Or.inl ⟨by rfl, ?_⟩) trivial ?_; rotate_left; · (intro w hSw; go_simp; try with_reducible rfl)
        simp only [Act.put]
        refine wpAnyG_take (i := 8) (v := ?_) rfl (by kernel_rfl) (by kernel_rfl) (by kernel_rfl) (by kernel_rfl) (fun _ _ _ h => h) (Or.inl ⟨by rfl, ?_⟩) trivial ?_; rotate_left; · (intro w hSw; go_simp; try with_reducible rfl)
        simp only [Act.put]
        refine wpAnyG_one (i := 9) (by kernel_rfl) rfl (fun K hK => ?_)
        go_simp
        refine hK.out _ _ (fun _ => trivial) ?_
        clear hK K
        refine wpAnyG_one (i := 10) (by kernel_rfl) rfl (fun K hK => ?_)
        have hownD : wr.drew.ownsRow w.heap.size 5 1 (.slice Av done.length cv) done.length (Lib.byteCells done) := hown
        refine step_append_lies _ (by rfl) _ _ _ (by rfl) w.heap.size 5 i0 _ 1 1 Tryd.underlying63 ji jz0 jz1 jz2 rfl (by omega) (.slice Av done.length cv) done.length (Lib.byteCells done) (by rfl) (hownD.alloc (.cells #[.int .u8 92, .int .u8 117, .int .u8 48, .int .u8 48, .int .u8 ((Lx.hexD (a.toNat / 16)).toNat : Int), .int .u8 ((Lx.hexD (a.toNat % 16)).toNat : Int)] 5)) ⟨wr.heap.size, 0, none⟩ 6 6 [.int .u8 92, .int .u8 117, .int .u8 48, .int .u8 48, .int .u8 ((Lx.hexD (a.toNat / 16)).toNat : Int), .int .u8 ((Lx.hexD (a.toNat % 16)).toNat : Int)] (by rfl) (by rfl) (World.news_of_block (cs := #[.int .u8 92, .int .u8 117, .int .u8 48, .int .u8 48, .int .u8 ((Lx.hexD (a.toNat / 16)).toNat : Int), .int .u8 ((Lx.hexD (a.toNat % 16)).toNat : Int)]) (t := 5) (fr := (0, 0)) (heap_alloc_new wr.drew _)) (by simp [Value.oneCell']) (by omega) (by unfold maxLen; omega) (by omega) (by simp; omega) _ rfl ?_; intro gg3 cap3 w3 hown3 hgrow3 hat3 hlt3
        have hb3 := ((hb.drew).alloc (show w.heap.size ≤ wr.drew.heap.size from hbs) (.cells #[.int .u8 92, .int .u8 117, .int .u8 48, .int .u8 48, .int .u8 ((Lx.hexD (a.toNat / 16)).toNat : Int), .int .u8 ((Lx.hexD (a.toNat % 16)).toNat : Int)] 5)).grown hgrow3 (by simp; omega) (fun g hg => (hown.lt g hg).1)
        have hbs3 := hb3.size
        refine hK.out _ _ (fun _ => trivial) ?_
        clear hK K
        refine wpAnyG_one (i := 11) (by kernel_rfl) rfl (fun K hK => ?_)
        go_simp
        refine hK.out _ _ (fun h => absurd rfl h) ?_
        clear hK K
        refine wpAnyG_done (by kernel_rfl) ?_ _
        go_wp2_with fail
        go_roundw
        case rel =>
          refine ⟨i + 1, done ++ jquB a, by go_num, by omega, by rw [List.length_append]; omega, ?_, hb3, HX2⟩
          rw [List.length_append, Lib.byteCells_append, HQ.out]
          exact hown3
        case measure => simp [intOf]; omega
      · have hb0 : (((⟨s.toArray⟩ : ByteArray)[i]'(by rw [mk_size]; exact hlt)).toNat : Int) = (a.toNat : Int) := Hby.out
        have e34 : ((a.toNat : Int) == 34) = false := by simp; exact fun e => h34 (UInt8.toNat_inj.1 (show a.toNat = 34 by omega))
        have e92 : ((a.toNat : Int) == 92) = false := by simp; exact fun e => h92 (UInt8.toNat_inj.1 (show a.toNat = 92 by omega))
        have e10 : ((a.toNat : Int) == 10) = false := by simp; omega
        have e13 : ((a.toNat : Int) == 13) = false := by simp; omega
        have e9 : ((a.toNat : Int) == 9) = false := by simp; omega
        have l32 : ¬ (a.toNat : Int) < 32 := by omega
        have HQ := Lib.hid hq
        clear hq
        go_wp2_with (at_builtin; have hBN3 : (wr.alloc (.cells #[.int .u8 (a.toNat : Int)] 5)).heap[wr.heap.size]? = some (.cells #[.int .u8 (a.toNat : Int)] 5 (0, 0)) := heap_alloc_new _ _; have hoA3 := hown.alloc (.cells #[.int .u8 (a.toNat : Int)] 5); have hbA3 := hb.alloc hbs (.cells #[.int .u8 (a.toNat : Int)] 5); refine wpList_append_lies _ rfl _ _ 63 rfl w.heap.size 5 i0 _ 1 1 Tryd.underlying63 ji jz0 jz1 jz2 rfl (by omega) (.slice Av done.length cv) done.length (Lib.byteCells done) rfl hoA3 ⟨wr.heap.size, 0, none⟩ 1 1 [.int .u8 (a.toNat : Int)] rfl rfl (World.news_of_block (cs := #[.int .u8 (a.toNat : Int)]) (t := 5) (fr := (0, 0)) hBN3) (by simp [Value.oneCell']) (by omega) (by unfold maxLen; omega) (by omega) (by simp; omega) _ rfl ?_; intro gg3 cap3 w3 hown3 hgrow3 hat3 hlt3; have hb3 := hbA3.grown hgrow3 (by simp; omega) (fun g hg => (hown.lt g hg).1); have hbs3 := hb3.size)
        go_roundw
        case rel =>
          refine ⟨i + 1, done ++ jquB a, by go_num, by omega, by rw [List.length_append]; omega, ?_, hb3, HX2⟩
          rw [List.length_append, Lib.byteCells_append, HQ.out]
          exact hown3
        case measure => simp [intOf]; omega
    · obtain rfl : i = s.length := by omega
      have hUd : Hid (U = done ++ [34]) := by show _ = _; rw [HX.out, List.drop_length]; rfl
      obtain ⟨Av, cv, rfl⟩ := own_form hown
      go_wp2_with (at_builtin; have hBN3 : (wr.alloc (.cells #[.int .u8 34] 5)).heap[wr.heap.size]? = some (.cells #[.int .u8 34] 5 (0, 0)) := heap_alloc_new _ _; have hoA3 := hown.alloc (.cells #[.int .u8 34] 5); have hbA3 := hb.alloc hbs (.cells #[.int .u8 34] 5); refine wpList_append_lies _ rfl _ _ 63 rfl w.heap.size 5 i0 _ 1 1 Tryd.underlying63 ji jz0 jz1 jz2 rfl (by omega) (.slice Av done.length cv) done.length (Lib.byteCells done) rfl hoA3 ⟨wr.heap.size, 0, none⟩ 1 1 [.int .u8 34] rfl rfl (World.news_of_block (cs := #[.int .u8 34]) (t := 5) (fr := (0, 0)) hBN3) (by simp [Value.oneCell']) (by omega) (by unfold maxLen; omega) (by omega) (by simp; omega) _ rfl ?_; intro gg3 cap3 w3 hown3 hgrow3 hat3 hlt3; have hb3 := hbA3.grown hgrow3 (by simp; omega) (fun g hg => (hown.lt g hg).1); have hbs3 := hb3.size; have hcv : (convert 63 9 (.slice (some ⟨gg3, 0, none⟩) (done.length + 1) cap3)).run Tryd.prog w3 = .ok (.string ⟨(done ++ [34] : Bs).toArray⟩) w3 := own_str (l := done ++ [34]) (by rw [List.length_append, Lib.byteCells_append]; exact hown3))
      go_wp2_with fail
      go_ret
      rw [hUd.out]
      exact ⟨rfl, hb3⟩

set_option maxHeartbeats 4000000 in
set_option maxRecDepth 100000 in
theorem ljquote_walk (s : Bs) (w : World) (hD : DB w) (hl : s.length ≤ 16777216) :
    Calls Tryd.prog 60 #[.string ⟨s.toArray⟩] w fun e w' => e = .returned (.string ⟨(jquM s).toArray⟩) ∧ Below w.heap.size w w' := by
  generalize hU : jquM s = U
  have HU : Hid (U = [34] ++ (jquI s ++ [34])) := by show _ = _; rw [← hU]; rfl
  clear hU
  have hI0 := IsB.fresh w
  have hb0 : Below w.heap.size w (w.alloc (.cells #[.pointer none, .slice none 0 0] 65)) := (Below.refl _ _).alloc (Nat.le_refl _) _
  go_enter Tryd.func60, Tryd.ntmps60
  go_wp2_with fail
  have hw1 : Calls Tryd.prog 51 #[.pointer (some ⟨w.heap.size, 0, none⟩), .int .u8 34] (w.alloc (.cells #[.pointer none, .slice none 0 0] 65)) _ := writeByte_walk hI0 34 (by simp) (by simp)
  refine hw1.mono ?_
  clear hw1
  rintro e w1 ⟨rfl, hI1, hb1, hk1⟩
  have hb1 := hb0.trans hb1
  clear hI0 hb0 hk1
  go_wp2_with fail
  go_loopw [9] (fun iv wr => ∃ (i : Nat) (done : Bs), iv = .int .i64 i ∧ i ≤ s.length ∧ done.length ≤ 1 + 6 * i ∧ IsB w.heap.size w.heap.size done wr ∧ Below w.heap.size w wr ∧ Hid (U = done ++ (jquI (s.drop i) ++ [34]))) (fun iv _ => s.length - (intOf iv).toNat)
  case atStart => exact ⟨0, [34], rfl, by omega, by simp, hI1, hb1, HU⟩
  case round =>
    obtain ⟨i, done, rfl, hi, hdl, hI, hb, HX⟩ := hrel
    have hbs := hb.size
    clear hI1 hb1
    by_cases hlt : i < s.length
    · have j0 : (0 : Int) ≤ (i : Int) := by omega
      have j1 : (i : Int) < (s.length : Int) := by omega
      have j2 : (i : Int) + 1 ≤ (s.length : Int) := by omega
      have HX2 : Hid (U = (done ++ jquB s[i]) ++ (jquI (s.drop (i + 1)) ++ [34])) := by
        show _ = _
        rw [HX.out, List.drop_eq_getElem_cons hlt]
        simp only [jquI, List.flatMap_cons, List.append_assoc]
      have hql := jquB_len s[i]
      have hww := jqu_ways s[i]
      have hby : (((⟨s.toArray⟩ : ByteArray)[i]'(by rw [mk_size]; exact hlt)).toNat : Int) = (s[i].toNat : Int) := byte_of hlt rfl
      have Hby := Lib.hid hby
      have Hone := Lib.hid (ext_one s i hlt)
      generalize s[i] = a at *
      clear HX hby
      have hD2 := hD.below (hb.mono (Nat.le_refl _))
      have hwr := fun (x : Bs) (hx : jquB a = x) => writeStr_walk hI x (by rw [← hx]; omega) hbs
      rcases hww with ⟨rfl, hq⟩ | ⟨rfl, hq⟩ | ⟨rfl, hq⟩ | ⟨rfl, hq⟩ | ⟨rfl, hq⟩ | ⟨h10, h13, h9, h32, hq⟩ | ⟨h32, h34, h92, hq⟩
      · have hb0 : (((⟨s.toArray⟩ : ByteArray)[i]'(by rw [mk_size]; exact hlt)).toNat : Int) = 34 := Hby.out
        have hws : Calls Tryd.prog 53 #[.pointer (some ⟨w.heap.size, 0, none⟩), .string ((⟨#[92]⟩ : ByteArray) ++ (⟨s.toArray⟩ : ByteArray).extract i (i + 1))] wr fun e w' => e = .returned (.tuple #[.int .i64 (([92, 34] : Bs).length : Nat), .nilIface]) ∧ IsB w.heap.size w.heap.size (done ++ [92, 34]) w' ∧ Below w.heap.size wr w' ∧ KeepX [65, 5] wr w' := by rw [Hone.out]; exact hwr [92, 34] hq
        have HQ := Lib.hid hq
        clear hq hwr
        go_wp2_with fail
        refine hws.mono ?_
        clear hws
        rintro e w2 ⟨rfl, hI2, hb2, hk2⟩
        have hb2 := hb.trans hb2
        go_wp2_with fail
        go_roundw
        case rel => exact ⟨i + 1, done ++ jquB 34, by go_num, by omega, by rw [List.length_append]; omega, by rw [HQ.out]; exact hI2, hb2, HX2⟩
        case measure => simp [intOf]; omega
      · have hb0 : (((⟨s.toArray⟩ : ByteArray)[i]'(by rw [mk_size]; exact hlt)).toNat : Int) = 92 := Hby.out
        have hws : Calls Tryd.prog 53 #[.pointer (some ⟨w.heap.size, 0, none⟩), .string ((⟨#[92]⟩ : ByteArray) ++ (⟨s.toArray⟩ : ByteArray).extract i (i + 1))] wr fun e w' => e = .returned (.tuple #[.int .i64 (([92, 92] : Bs).length : Nat), .nilIface]) ∧ IsB w.heap.size w.heap.size (done ++ [92, 92]) w' ∧ Below w.heap.size wr w' ∧ KeepX [65, 5] wr w' := by rw [Hone.out]; exact hwr [92, 92] hq
        have HQ := Lib.hid hq
        clear hq hwr
        go_wp2_with fail
        refine hws.mono ?_
        clear hws
        rintro e w2 ⟨rfl, hI2, hb2, hk2⟩
        have hb2 := hb.trans hb2
        go_wp2_with fail
        go_roundw
        case rel => exact ⟨i + 1, done ++ jquB 92, by go_num, by omega, by rw [List.length_append]; omega, by rw [HQ.out]; exact hI2, hb2, HX2⟩
        case measure => simp [intOf]; omega
      · have hb0 : (((⟨s.toArray⟩ : ByteArray)[i]'(by rw [mk_size]; exact hlt)).toNat : Int) = 10 := Hby.out
        have hws : Calls Tryd.prog 53 #[.pointer (some ⟨w.heap.size, 0, none⟩), .string ⟨#[92, 110]⟩] wr fun e w' => e = .returned (.tuple #[.int .i64 (([92, 110] : Bs).length : Nat), .nilIface]) ∧ IsB w.heap.size w.heap.size (done ++ [92, 110]) w' ∧ Below w.heap.size wr w' ∧ KeepX [65, 5] wr w' := hwr [92, 110] hq
        have HQ := Lib.hid hq
        clear hq hwr
        go_wp2_with fail
        refine hws.mono ?_
        clear hws
        rintro e w2 ⟨rfl, hI2, hb2, hk2⟩
        have hb2 := hb.trans hb2
        go_wp2_with fail
        go_roundw
        case rel => exact ⟨i + 1, done ++ jquB 10, by go_num, by omega, by rw [List.length_append]; omega, by rw [HQ.out]; exact hI2, hb2, HX2⟩
        case measure => simp [intOf]; omega
      · have hb0 : (((⟨s.toArray⟩ : ByteArray)[i]'(by rw [mk_size]; exact hlt)).toNat : Int) = 13 := Hby.out
        have hws : Calls Tryd.prog 53 #[.pointer (some ⟨w.heap.size, 0, none⟩), .string ⟨#[92, 114]⟩] wr fun e w' => e = .returned (.tuple #[.int .i64 (([92, 114] : Bs).length : Nat), .nilIface]) ∧ IsB w.heap.size w.heap.size (done ++ [92, 114]) w' ∧ Below w.heap.size wr w' ∧ KeepX [65, 5] wr w' := hwr [92, 114] hq
        have HQ := Lib.hid hq
        clear hq hwr
        go_wp2_with fail
        refine hws.mono ?_
        clear hws
        rintro e w2 ⟨rfl, hI2, hb2, hk2⟩
        have hb2 := hb.trans hb2
        go_wp2_with fail
        go_roundw
        case rel => exact ⟨i + 1, done ++ jquB 13, by go_num, by omega, by rw [List.length_append]; omega, by rw [HQ.out]; exact hI2, hb2, HX2⟩
        case measure => simp [intOf]; omega
      · have hb0 : (((⟨s.toArray⟩ : ByteArray)[i]'(by rw [mk_size]; exact hlt)).toNat : Int) = 9 := Hby.out
        have hws : Calls Tryd.prog 53 #[.pointer (some ⟨w.heap.size, 0, none⟩), .string ⟨#[92, 116]⟩] wr fun e w' => e = .returned (.tuple #[.int .i64 (([92, 116] : Bs).length : Nat), .nilIface]) ∧ IsB w.heap.size w.heap.size (done ++ [92, 116]) w' ∧ Below w.heap.size wr w' ∧ KeepX [65, 5] wr w' := hwr [92, 116] hq
        have HQ := Lib.hid hq
        clear hq hwr
        go_wp2_with fail
        refine hws.mono ?_
        clear hws
        rintro e w2 ⟨rfl, hI2, hb2, hk2⟩
        have hb2 := hb.trans hb2
        go_wp2_with fail
        go_roundw
        case rel => exact ⟨i + 1, done ++ jquB 9, by go_num, by omega, by rw [List.length_append]; omega, by rw [HQ.out]; exact hI2, hb2, HX2⟩
        case measure => simp [intOf]; omega
      · have hb0 : (((⟨s.toArray⟩ : ByteArray)[i]'(by rw [mk_size]; exact hlt)).toNat : Int) = (a.toNat : Int) := Hby.out
        have e34 : ((a.toNat : Int) == 34) = false := by simp; omega
        have e92 : ((a.toNat : Int) == 92) = false := by simp; omega
        have e10 : ((a.toNat : Int) == 10) = false := by simp; exact fun e => h10 (UInt8.toNat_inj.1 (show a.toNat = 10 by omega))
        have e13 : ((a.toNat : Int) == 13) = false := by simp; exact fun e => h13 (UInt8.toNat_inj.1 (show a.toNat = 13 by omega))
        have e9 : ((a.toNat : Int) == 9) = false := by simp; exact fun e => h9 (UInt8.toNat_inj.1 (show a.toNat = 9 by omega))
        have l32 : (a.toNat : Int) < 32 := by omega
        have ha := and15b a.toNat a.toNat_lt
        have hqx : jquB a = [92, 117, 48, 48] ++ Lx.hexS (a.toNat / 16) ++ Lx.hexS (a.toNat % 16) := by rw [hq]; unfold Lx.hexS; rw [if_pos (by omega), if_pos (by omega)]; rfl
        have hxl : (Lx.hexS (a.toNat / 16)).length ≤ 6 := (Lx.ctl_fin ⟨a.toNat / 16, by have := a.toNat_lt; omega⟩).2.2.1
        have hyl : (Lx.hexS (a.toNat % 16)).length ≤ 6 := (Lx.ctl_fin ⟨a.toNat % 16, by omega⟩).2.2.1
        have hf1 := fun (w : World) (h : DB w) => fmt16_walk (a.toNat / 16) w (by have := a.toNat_lt; omega) h
        have hf2 := fun (w : World) (h : DB w) => fmt16_walk (a.toNat % 16) w (by omega) h
        rw [show ((a.toNat / 16 : Nat) : Int) = (a.toNat : Int) / 16 by omega] at hf1
        rw [show ((a.toNat % 16 : Nat) : Int) = (a.toNat : Int) % 16 by omega] at hf2
        generalize Lx.hexS (a.toNat / 16) = X at *
        generalize Lx.hexS (a.toNat % 16) = Y at *
        have HQ := Lib.hid hqx
        clear hq hqx hwr
        go_wp2_with fail
        refine (hf1 _ hD2).mono ?_
        clear hf1
        rintro e w3 ⟨rfl, hb3⟩
        have hI3 := hI.below' hb3
        have hD3 := hD2.below hb3
        have hb3 := hb.trans (hb3.mono hbs)
        have hbs3 := hb3.size
        go_wp2_with fail
        refine (hf2 _ hD3).mono ?_
        clear hf2
        rintro e w4 ⟨rfl, hb4⟩
        have hI4 := hI3.below' hb4
        have hb4 := hb3.trans (hb4.mono hbs3)
        have hbs4 := hb4.size
        have hws : Calls Tryd.prog 53 #[.pointer (some ⟨w.heap.size, 0, none⟩), .string ((⟨#[92, 117, 48, 48]⟩ : ByteArray) ++ ⟨X.toArray⟩ ++ ⟨Y.toArray⟩)] w4 fun e w' => e = .returned (.tuple #[.int .i64 ((([92, 117, 48, 48] ++ X ++ Y) : Bs).length : Nat), .nilIface]) ∧ IsB w.heap.size w.heap.size (done ++ ([92, 117, 48, 48] ++ X ++ Y)) w' ∧ Below w.heap.size w4 w' ∧ KeepX [65, 5] w4 w' := by
          have h := writeStr_walk hI4 ([92, 117, 48, 48] ++ X ++ Y) (by have := hql; rw [HQ.out] at this; omega) hbs4
          rw [← ba_app, ← ba_app] at h
          exact h
        go_wp2_with fail
        refine hws.mono ?_
        clear hws
        rintro e w2 ⟨rfl, hI2, hb2, hk2⟩
        have hb2 := hb4.trans hb2
        go_wp2_with fail
        go_roundw
        case rel => exact ⟨i + 1, done ++ jquB a, by go_num, by omega, by rw [List.length_append]; omega, by rw [HQ.out]; exact hI2, hb2, HX2⟩
        case measure => simp [intOf]; omega
      · have hb0 : (((⟨s.toArray⟩ : ByteArray)[i]'(by rw [mk_size]; exact hlt)).toNat : Int) = (a.toNat : Int) := Hby.out
        have e34 : ((a.toNat : Int) == 34) = false := by simp; exact fun e => h34 (UInt8.toNat_inj.1 (show a.toNat = 34 by omega))
        have e92 : ((a.toNat : Int) == 92) = false := by simp; exact fun e => h92 (UInt8.toNat_inj.1 (show a.toNat = 92 by omega))
        have e10 : ((a.toNat : Int) == 10) = false := by simp; omega
        have e13 : ((a.toNat : Int) == 13) = false := by simp; omega
        have e9 : ((a.toNat : Int) == 9) = false := by simp; omega
        have l32 : ¬ (a.toNat : Int) < 32 := by omega
        have hws := writeByte_walk hI a (by omega) hbs
        have HQ := Lib.hid hq
        clear hq hwr
        go_wp2_with fail
        refine hws.mono ?_
        clear hws
        rintro e w2 ⟨rfl, hI2, hb2, hk2⟩
        have hb2 := hb.trans hb2
        go_wp2_with fail
        go_roundw
        case rel => exact ⟨i + 1, done ++ jquB a, by go_num, by omega, by rw [List.length_append]; omega, by rw [HQ.out]; exact hI2, hb2, HX2⟩
        case measure => simp [intOf]; omega
    · obtain rfl : i = s.length := by omega
      have hUd : Hid (U = done ++ [34]) := by show _ = _; rw [HX.out, List.drop_length]; rfl
      have hws : Calls Tryd.prog 51 #[.pointer (some ⟨w.heap.size, 0, none⟩), .int .u8 34] wr _ := writeByte_walk hI 34 (by omega) hbs
      clear HX
      go_wp2_with fail
      refine hws.mono ?_
      clear hws
      rintro e w2 ⟨rfl, hI2, hb2, hk2⟩
      have hb2 := hb.trans hb2
      go_wp2_with fail
      refine (bString_walk hI2 hb2.size).mono ?_
      rintro e w3 ⟨rfl, hb3⟩
      go_wp2_with fail
      go_ret
      rw [hUd.out]
      exact ⟨rfl, hb2.trans hb3⟩
end Go.Proofs.YtccljojceoidhaaDoor
/-
  WALKS of package wire: print, of values without parts; what is wrong.
-/
namespace Go.Proofs.YtccljojceoidhaaDoor
open Go.RowKit

theorem DB.keep {w w' : World} {B : Nat} (h : DB w) (hb : Below B w w') (hB : 9 < B) : DB w' := (hb.cell (p := ⟨9, 15, none⟩) hB).trans h
theorem IsB.base {B b : Nat} {l : Bs} {w : World} (h : IsB B b l w) : B ≤ b := by rcases h with h | h <;> exact h.1
/-- what print leaves -/
def PrP (B0 b : Nat) (w : World) (bs : Bs) (W : Nat) (X : Nat × Bs) (e : Ending) (w' : World) : Prop :=
  e = .returned (.int .i64 X.1) ∧ ∃ bs', IsB B0 b bs' w' ∧ bs'.length ≤ bs.length + W ∧ (X.1 = 0 → bs' = bs ++ X.2) ∧ Below B0 w w' ∧ KeepX [65, 5] w w'
/-- what print finds -/
structure PrI (B0 b : Nat) (w : World) (bs : Bs) : Prop where
  I : IsB B0 b bs w
  T : Tab10 w
  D : DB w
  gT : 2 < B0
  gD : 9 < B0
theorem PrI.size {B0 b : Nat} {w : World} {bs : Bs} (h : PrI B0 b w bs) : B0 ≤ w.heap.size := Nat.le_trans h.I.base (Nat.le_of_lt h.I.lt)
theorem PrI.alloc {B0 b : Nat} {w : World} {bs : Bs} (h : PrI B0 b w bs) (o : Obj) : PrI B0 b (w.alloc o) bs :=
  ⟨h.I.alloc o, h.T.below ((Below.refl B0 _).alloc h.size o) h.gT, h.D.keep ((Below.refl B0 _).alloc h.size o) h.gD, h.gT, h.gD⟩
theorem PrI.below {B0 b : Nat} {w w' : World} {bs : Bs} (h : PrI B0 b w bs) (hb : Below w.heap.size w w') : PrI B0 b w' bs :=
  ⟨h.I.below' hb, h.T.below hb (Nat.lt_of_lt_of_le h.gT h.size), h.D.below hb, h.gT, h.gD⟩
theorem PrI.next {B0 b : Nat} {w w' : World} {bs bs' : Bs} (h : PrI B0 b w bs) (hI : IsB B0 b bs' w') (hb : Below B0 w w') : PrI B0 b w' bs' :=
  ⟨hI, h.T.below hb h.gT, h.D.keep hb h.gD, h.gT, h.gD⟩

section
variable (kind num : Int) (t : Bs) (keys : List Bs) (kids : List JT) (Ak Ad : Option Addr) (ck cd dp B0 b : Nat) (bs : Bs) (w : World)

set_option maxHeartbeats 4000000 in
set_option maxRecDepth 100000 in
theorem print_bad (hP : PrI B0 b w bs) (h1 : (-9223372036854775808 : Int) ≤ num ∧ (num : Int) ≤ 9223372036854775807) (hk : keys.length ≤ 16777216) (hd : kids.length ≤ 16777216) (hR : rightB kind num t keys.length kids.length = false) :
    Calls Tryd.prog 34 #[jVal kind num t keys.length kids.length Ak Ad ck cd, .int .i64 dp, .pointer (some ⟨b, 0, none⟩)] w (PrP B0 b w bs 0 (3, [])) := by
  have hrt := fun (w1 : World) (hT : Tab10 w1) => right_walk kind num t keys.length kids.length Ak Ad ck cd w1 hT h1.1 h1.2 hk hd
  rw [hR] at hrt
  have hP1 := hP.alloc (.cells #[.int .i64 kind, .int .i64 num, .string ⟨t.toArray⟩, .slice Ak keys.length ck, .slice Ad kids.length cd] 25)
  have hz := hP.size
  have hb1 : Below B0 w (w.alloc (.cells #[.int .i64 kind, .int .i64 num, .string ⟨t.toArray⟩, .slice Ak keys.length ck, .slice Ad kids.length cd] 25)) := (Below.refl _ _).alloc hz _
  have hk1 : KeepX [65, 5] w (w.alloc (.cells #[.int .i64 kind, .int .i64 num, .string ⟨t.toArray⟩, .slice Ak keys.length ck, .slice Ad kids.length cd] 25)) := (KeepX.refl _ _).alloc _
  have hBk1 : Blk (w.alloc (.cells #[.int .i64 kind, .int .i64 num, .string ⟨t.toArray⟩, .slice Ak keys.length ck, .slice Ad kids.length cd] 25)) w.heap.size 25 #[.int .i64 kind, .int .i64 num, .string ⟨t.toArray⟩, .slice Ak keys.length ck, .slice Ad kids.length cd] := Blk.new _ _ _
  clear hR
  go_enter Tryd.func34, Tryd.ntmps34
  go_wp2_with fail
  refine (hrt _ hP1.T).mono ?_
  clear hrt
  rintro e w2 ⟨rfl, hbr⟩
  have hP2 := hP1.below hbr
  have hz2 := hP2.size
  have hb2 := hb1.trans (hbr.mono (by have := hP1.size; exact this))
  have hk2 := hk1.below hbr (Nat.le_refl _)
  have hBk2 := hBk1.below hbr hBk1.lt
  have b0 := hBk2.cell 0
  have b1 := hBk2.cell 1
  have b2 := hBk2.cell 2
  have b3 := hBk2.cell 3
  have b4 := hBk2.cell 4
  simp at b0 b1 b2 b3 b4
  clear hP1 hbr hb1 hk1 hBk1 hP
  go_wp2_with fail
  go_ret
  exact ⟨rfl, bs, hP2.I, by omega, (fun h => by cases h), hb2, hk2⟩

set_option maxHeartbeats 4000000 in
set_option maxRecDepth 100000 in
theorem print_full (hP : PrI B0 b w bs) (h1 : (-9223372036854775808 : Int) ≤ num ∧ (num : Int) ≤ 9223372036854775807) (hk : keys.length ≤ 16777216) (hd : kids.length ≤ 16777216) (hR : rightB kind num t keys.length kids.length = true) (hK : kind = 4 ∨ kind = 5) (hdp : dp = 40) :
    Calls Tryd.prog 34 #[jVal kind num t keys.length kids.length Ak Ad ck cd, .int .i64 dp, .pointer (some ⟨b, 0, none⟩)] w (PrP B0 b w bs 0 (12, [])) := by
  have hk4 : (4 : Int) ≤ kind := by omega
  have hd40 : (40 : Int) ≤ (dp : Int) := by omega
  clear hK hdp
  have hrt := fun (w1 : World) (hT : Tab10 w1) => right_walk kind num t keys.length kids.length Ak Ad ck cd w1 hT h1.1 h1.2 hk hd
  rw [hR] at hrt
  have hP1 := hP.alloc (.cells #[.int .i64 kind, .int .i64 num, .string ⟨t.toArray⟩, .slice Ak keys.length ck, .slice Ad kids.length cd] 25)
  have hz := hP.size
  have hb1 : Below B0 w (w.alloc (.cells #[.int .i64 kind, .int .i64 num, .string ⟨t.toArray⟩, .slice Ak keys.length ck, .slice Ad kids.length cd] 25)) := (Below.refl _ _).alloc hz _
  have hk1 : KeepX [65, 5] w (w.alloc (.cells #[.int .i64 kind, .int .i64 num, .string ⟨t.toArray⟩, .slice Ak keys.length ck, .slice Ad kids.length cd] 25)) := (KeepX.refl _ _).alloc _
  have hBk1 : Blk (w.alloc (.cells #[.int .i64 kind, .int .i64 num, .string ⟨t.toArray⟩, .slice Ak keys.length ck, .slice Ad kids.length cd] 25)) w.heap.size 25 #[.int .i64 kind, .int .i64 num, .string ⟨t.toArray⟩, .slice Ak keys.length ck, .slice Ad kids.length cd] := Blk.new _ _ _
  clear hR
  go_enter Tryd.func34, Tryd.ntmps34
  go_wp2_with fail
  refine (hrt _ hP1.T).mono ?_
  clear hrt
  rintro e w2 ⟨rfl, hbr⟩
  have hP2 := hP1.below hbr
  have hz2 := hP2.size
  have hb2 := hb1.trans (hbr.mono (by have := hP1.size; exact this))
  have hk2 := hk1.below hbr (Nat.le_refl _)
  have hBk2 := hBk1.below hbr hBk1.lt
  have b0 := hBk2.cell 0
  have b1 := hBk2.cell 1
  have b2 := hBk2.cell 2
  have b3 := hBk2.cell 3
  have b4 := hBk2.cell 4
  simp at b0 b1 b2 b3 b4
  clear hP1 hbr hb1 hk1 hBk1 hP
  go_wp2_with fail
  go_ret
  exact ⟨rfl, bs, hP2.I, by omega, (fun h => by cases h), hb2, hk2⟩

set_option maxHeartbeats 4000000 in
set_option maxRecDepth 100000 in
theorem print_null (hP : PrI B0 b w bs) (h1 : (-9223372036854775808 : Int) ≤ num ∧ (num : Int) ≤ 9223372036854775807) (hk : keys.length ≤ 16777216) (hd : kids.length ≤ 16777216) (_hl : bs.length ≤ 1000000000) (hR : rightB 0 num t keys.length kids.length = true) :
    Calls Tryd.prog 34 #[jVal 0 num t keys.length kids.length Ak Ad ck cd, .int .i64 dp, .pointer (some ⟨b, 0, none⟩)] w (PrP B0 b w bs 4 (0, [110, 117, 108, 108])) := by
  have hd40 : ((40 : Int) ≤ (dp : Int)) ∨ ¬ ((40 : Int) ≤ (dp : Int)) := by omega
  rcases hd40 with hd40 | hd40
  all_goals
    have hrt := fun (w1 : World) (hT : Tab10 w1) => right_walk 0 num t keys.length kids.length Ak Ad ck cd w1 hT h1.1 h1.2 hk hd
    rw [hR] at hrt
    have hP1 := hP.alloc (.cells #[.int .i64 0, .int .i64 num, .string ⟨t.toArray⟩, .slice Ak keys.length ck, .slice Ad kids.length cd] 25)
    have hz := hP.size
    have hb1 : Below B0 w (w.alloc (.cells #[.int .i64 0, .int .i64 num, .string ⟨t.toArray⟩, .slice Ak keys.length ck, .slice Ad kids.length cd] 25)) := (Below.refl _ _).alloc hz _
    have hk1 : KeepX [65, 5] w (w.alloc (.cells #[.int .i64 0, .int .i64 num, .string ⟨t.toArray⟩, .slice Ak keys.length ck, .slice Ad kids.length cd] 25)) := (KeepX.refl _ _).alloc _
    have hBk1 : Blk (w.alloc (.cells #[.int .i64 0, .int .i64 num, .string ⟨t.toArray⟩, .slice Ak keys.length ck, .slice Ad kids.length cd] 25)) w.heap.size 25 #[.int .i64 0, .int .i64 num, .string ⟨t.toArray⟩, .slice Ak keys.length ck, .slice Ad kids.length cd] := Blk.new _ _ _
    clear hR
    go_enter Tryd.func34, Tryd.ntmps34
    go_wp2_with fail
    refine (hrt _ hP1.T).mono ?_
    clear hrt
    rintro e w2 ⟨rfl, hbr⟩
    have hP2 := hP1.below hbr
    have hz2 := hP2.size
    have hb2 := hb1.trans (hbr.mono (by have := hP1.size; exact this))
    have hk2 := hk1.below hbr (Nat.le_refl _)
    have hBk2 := hBk1.below hbr hBk1.lt
    have b0 := hBk2.cell 0
    have b1 := hBk2.cell 1
    have b2 := hBk2.cell 2
    have b3 := hBk2.cell 3
    have b4 := hBk2.cell 4
    simp at b0 b1 b2 b3 b4
    clear hP1 hbr hb1 hk1 hBk1 hP
    have hws : Calls Tryd.prog 53 #[.pointer (some ⟨b, 0, none⟩), .string ⟨#[110, 117, 108, 108]⟩] w2 _ := writeStr_walk hP2.I [110, 117, 108, 108] (by simp; omega) hz2
    go_wp2_with fail
    refine hws.mono ?_
    clear hws
    rintro e w4 ⟨rfl, hI4, hb4, hk4⟩
    have hBk4 := hBk2.keep hk4 (by decide)
    have d0 := hBk4.cell 0
    simp at d0
    go_wp2_with fail
    go_ret
    exact ⟨rfl, _, hI4, by simp; try omega, fun _ => rfl, hb2.trans hb4, hk2.trans hk4⟩

set_option maxHeartbeats 4000000 in
set_option maxRecDepth 100000 in
theorem print_no (hP : PrI B0 b w bs) (h1 : (-9223372036854775808 : Int) ≤ 0 ∧ (0 : Int) ≤ 9223372036854775807) (hk : keys.length ≤ 16777216) (hd : kids.length ≤ 16777216) (_hl : bs.length ≤ 1000000000) (hR : rightB 1 0 t keys.length kids.length = true) :
    Calls Tryd.prog 34 #[jVal 1 0 t keys.length kids.length Ak Ad ck cd, .int .i64 dp, .pointer (some ⟨b, 0, none⟩)] w (PrP B0 b w bs 5 (0, [102, 97, 108, 115, 101])) := by
  have hd40 : ((40 : Int) ≤ (dp : Int)) ∨ ¬ ((40 : Int) ≤ (dp : Int)) := by omega
  rcases hd40 with hd40 | hd40
  all_goals
    have hrt := fun (w1 : World) (hT : Tab10 w1) => right_walk 1 0 t keys.length kids.length Ak Ad ck cd w1 hT h1.1 h1.2 hk hd
    rw [hR] at hrt
    have hP1 := hP.alloc (.cells #[.int .i64 1, .int .i64 0, .string ⟨t.toArray⟩, .slice Ak keys.length ck, .slice Ad kids.length cd] 25)
    have hz := hP.size
    have hb1 : Below B0 w (w.alloc (.cells #[.int .i64 1, .int .i64 0, .string ⟨t.toArray⟩, .slice Ak keys.length ck, .slice Ad kids.length cd] 25)) := (Below.refl _ _).alloc hz _
    have hk1 : KeepX [65, 5] w (w.alloc (.cells #[.int .i64 1, .int .i64 0, .string ⟨t.toArray⟩, .slice Ak keys.length ck, .slice Ad kids.length cd] 25)) := (KeepX.refl _ _).alloc _
    have hBk1 : Blk (w.alloc (.cells #[.int .i64 1, .int .i64 0, .string ⟨t.toArray⟩, .slice Ak keys.length ck, .slice Ad kids.length cd] 25)) w.heap.size 25 #[.int .i64 1, .int .i64 0, .string ⟨t.toArray⟩, .slice Ak keys.length ck, .slice Ad kids.length cd] := Blk.new _ _ _
    clear hR
    go_enter Tryd.func34, Tryd.ntmps34
    go_wp2_with fail
    refine (hrt _ hP1.T).mono ?_
    clear hrt
    rintro e w2 ⟨rfl, hbr⟩
    have hP2 := hP1.below hbr
    have hz2 := hP2.size
    have hb2 := hb1.trans (hbr.mono (by have := hP1.size; exact this))
    have hk2 := hk1.below hbr (Nat.le_refl _)
    have hBk2 := hBk1.below hbr hBk1.lt
    have b0 := hBk2.cell 0
    have b1 := hBk2.cell 1
    have b2 := hBk2.cell 2
    have b3 := hBk2.cell 3
    have b4 := hBk2.cell 4
    simp at b0 b1 b2 b3 b4
    clear hP1 hbr hb1 hk1 hBk1 hP
    have hfb : Calls Tryd.prog 59 #[.bool false] w2 fun e w' => e = .returned (.string ⟨#[102, 97, 108, 115, 101]⟩) ∧ w' = w2 := Tryd.strconv_FormatBool false w2
    have hws : Calls Tryd.prog 53 #[.pointer (some ⟨b, 0, none⟩), .string ⟨#[102, 97, 108, 115, 101]⟩] w2 _ := writeStr_walk hP2.I [102, 97, 108, 115, 101] (by simp; omega) hz2
    go_wp2_with fail
    refine hfb.mono ?_
    clear hfb
    rintro e w3 ⟨rfl, rfl⟩
    go_wp2_with fail
    refine hws.mono ?_
    clear hws
    rintro e w4 ⟨rfl, hI4, hb4, hk4⟩
    have hBk4 := hBk2.keep hk4 (by decide)
    have d0 := hBk4.cell 0
    simp at d0
    go_wp2_with fail
    go_ret
    exact ⟨rfl, _, hI4, by simp; try omega, fun _ => rfl, hb2.trans hb4, hk2.trans hk4⟩

set_option maxHeartbeats 4000000 in
set_option maxRecDepth 100000 in
theorem print_yes (hP : PrI B0 b w bs) (h1 : (-9223372036854775808 : Int) ≤ 1 ∧ (1 : Int) ≤ 9223372036854775807) (hk : keys.length ≤ 16777216) (hd : kids.length ≤ 16777216) (_hl : bs.length ≤ 1000000000) (hR : rightB 1 1 t keys.length kids.length = true) :
    Calls Tryd.prog 34 #[jVal 1 1 t keys.length kids.length Ak Ad ck cd, .int .i64 dp, .pointer (some ⟨b, 0, none⟩)] w (PrP B0 b w bs 5 (0, [116, 114, 117, 101])) := by
  have hd40 : ((40 : Int) ≤ (dp : Int)) ∨ ¬ ((40 : Int) ≤ (dp : Int)) := by omega
  rcases hd40 with hd40 | hd40
  all_goals
    have hrt := fun (w1 : World) (hT : Tab10 w1) => right_walk 1 1 t keys.length kids.length Ak Ad ck cd w1 hT h1.1 h1.2 hk hd
    rw [hR] at hrt
    have hP1 := hP.alloc (.cells #[.int .i64 1, .int .i64 1, .string ⟨t.toArray⟩, .slice Ak keys.length ck, .slice Ad kids.length cd] 25)
    have hz := hP.size
    have hb1 : Below B0 w (w.alloc (.cells #[.int .i64 1, .int .i64 1, .string ⟨t.toArray⟩, .slice Ak keys.length ck, .slice Ad kids.length cd] 25)) := (Below.refl _ _).alloc hz _
    have hk1 : KeepX [65, 5] w (w.alloc (.cells #[.int .i64 1, .int .i64 1, .string ⟨t.toArray⟩, .slice Ak keys.length ck, .slice Ad kids.length cd] 25)) := (KeepX.refl _ _).alloc _
    have hBk1 : Blk (w.alloc (.cells #[.int .i64 1, .int .i64 1, .string ⟨t.toArray⟩, .slice Ak keys.length ck, .slice Ad kids.length cd] 25)) w.heap.size 25 #[.int .i64 1, .int .i64 1, .string ⟨t.toArray⟩, .slice Ak keys.length ck, .slice Ad kids.length cd] := Blk.new _ _ _
    clear hR
    go_enter Tryd.func34, Tryd.ntmps34
    go_wp2_with fail
    refine (hrt _ hP1.T).mono ?_
    clear hrt
    rintro e w2 ⟨rfl, hbr⟩
    have hP2 := hP1.below hbr
    have hz2 := hP2.size
    have hb2 := hb1.trans (hbr.mono (by have := hP1.size; exact this))
    have hk2 := hk1.below hbr (Nat.le_refl _)
    have hBk2 := hBk1.below hbr hBk1.lt
    have b0 := hBk2.cell 0
    have b1 := hBk2.cell 1
    have b2 := hBk2.cell 2
    have b3 := hBk2.cell 3
    have b4 := hBk2.cell 4
    simp at b0 b1 b2 b3 b4
    clear hP1 hbr hb1 hk1 hBk1 hP
    have hfb : Calls Tryd.prog 59 #[.bool true] w2 fun e w' => e = .returned (.string ⟨#[116, 114, 117, 101]⟩) ∧ w' = w2 := Tryd.strconv_FormatBool true w2
    have hws : Calls Tryd.prog 53 #[.pointer (some ⟨b, 0, none⟩), .string ⟨#[116, 114, 117, 101]⟩] w2 _ := writeStr_walk hP2.I [116, 114, 117, 101] (by simp; omega) hz2
    go_wp2_with fail
    refine hfb.mono ?_
    clear hfb
    rintro e w3 ⟨rfl, rfl⟩
    go_wp2_with fail
    refine hws.mono ?_
    clear hws
    rintro e w4 ⟨rfl, hI4, hb4, hk4⟩
    have hBk4 := hBk2.keep hk4 (by decide)
    have d0 := hBk4.cell 0
    simp at d0
    go_wp2_with fail
    go_ret
    exact ⟨rfl, _, hI4, by simp; try omega, fun _ => rfl, hb2.trans hb4, hk2.trans hk4⟩

set_option maxHeartbeats 4000000 in
set_option maxRecDepth 100000 in
theorem print_num (hP : PrI B0 b w bs) (h1 : (-9223372036854775808 : Int) ≤ num ∧ (num : Int) ≤ 9223372036854775807) (hk : keys.length ≤ 16777216) (hd : kids.length ≤ 16777216) (_hl : bs.length ≤ 1000000000) (_hX : (Lib.itoa num).length ≤ 40) (hR : rightB 2 num t keys.length kids.length = true) :
    Calls Tryd.prog 34 #[jVal 2 num t keys.length kids.length Ak Ad ck cd, .int .i64 dp, .pointer (some ⟨b, 0, none⟩)] w (PrP B0 b w bs 40 (0, Lib.itoa num)) := by
  have hd40 : ((40 : Int) ≤ (dp : Int)) ∨ ¬ ((40 : Int) ≤ (dp : Int)) := by omega
  rcases hd40 with hd40 | hd40
  all_goals
    have hrt := fun (w1 : World) (hT : Tab10 w1) => right_walk 2 num t keys.length kids.length Ak Ad ck cd w1 hT h1.1 h1.2 hk hd
    rw [hR] at hrt
    have hP1 := hP.alloc (.cells #[.int .i64 2, .int .i64 num, .string ⟨t.toArray⟩, .slice Ak keys.length ck, .slice Ad kids.length cd] 25)
    have hz := hP.size
    have hb1 : Below B0 w (w.alloc (.cells #[.int .i64 2, .int .i64 num, .string ⟨t.toArray⟩, .slice Ak keys.length ck, .slice Ad kids.length cd] 25)) := (Below.refl _ _).alloc hz _
    have hk1 : KeepX [65, 5] w (w.alloc (.cells #[.int .i64 2, .int .i64 num, .string ⟨t.toArray⟩, .slice Ak keys.length ck, .slice Ad kids.length cd] 25)) := (KeepX.refl _ _).alloc _
    have hBk1 : Blk (w.alloc (.cells #[.int .i64 2, .int .i64 num, .string ⟨t.toArray⟩, .slice Ak keys.length ck, .slice Ad kids.length cd] 25)) w.heap.size 25 #[.int .i64 2, .int .i64 num, .string ⟨t.toArray⟩, .slice Ak keys.length ck, .slice Ad kids.length cd] := Blk.new _ _ _
    clear hR
    go_enter Tryd.func34, Tryd.ntmps34
    go_wp2_with fail
    refine (hrt _ hP1.T).mono ?_
    clear hrt
    rintro e w2 ⟨rfl, hbr⟩
    have hP2 := hP1.below hbr
    have hz2 := hP2.size
    have hb2 := hb1.trans (hbr.mono (by have := hP1.size; exact this))
    have hk2 := hk1.below hbr (Nat.le_refl _)
    have hBk2 := hBk1.below hbr hBk1.lt
    have b0 := hBk2.cell 0
    have b1 := hBk2.cell 1
    have b2 := hBk2.cell 2
    have b3 := hBk2.cell 3
    have b4 := hBk2.cell 4
    simp at b0 b1 b2 b3 b4
    clear hP1 hbr hb1 hk1 hBk1 hP
    have hit := Tryd.strconv_Itoa num (by omega) (by omega) w2 hP2.T
    generalize Lib.itoa num = X at *
    go_wp2_with fail
    refine hit.mono ?_
    clear hit
    rintro e w3 ⟨rfl, kk, os, hw⟩
    have hbi : Below w2.heap.size w2 w3 := by rw [hw]; exact ((below_drewN (Below.refl w2.heap.size w2) kk).trans ((below_grow (w2.drewN kk) os).mono (Nat.le_refl _)))
    clear hw
    have hP3 := hP2.below hbi
    have hz3 := hP3.size
    have hb3 := hb2.trans (hbi.mono hz2)
    have hk3 := hk2.below hbi (Nat.le_refl _)
    have hBk3 := hBk2.below hbi hBk2.lt
    have hws : Calls Tryd.prog 53 #[.pointer (some ⟨b, 0, none⟩), .string ⟨X.toArray⟩] w3 _ := writeStr_walk hP3.I X (by omega) hz3
    go_wp2_with fail
    refine hws.mono ?_
    clear hws
    rintro e w4 ⟨rfl, hI4, hb4, hk4⟩
    have hBk4 := hBk3.keep hk4 (by decide)
    have d0 := hBk4.cell 0
    simp at d0
    go_wp2_with fail
    go_ret
    exact ⟨rfl, _, hI4, by rw [List.length_append]; omega, fun _ => rfl, hb3.trans hb4, hk3.trans hk4⟩

set_option maxHeartbeats 4000000 in
set_option maxRecDepth 100000 in
theorem print_text (hP : PrI B0 b w bs) (h1 : (-9223372036854775808 : Int) ≤ num ∧ (num : Int) ≤ 9223372036854775807) (hk : keys.length ≤ 16777216) (hd : kids.length ≤ 16777216) (_hl : bs.length ≤ 1000000000) (ht : t.length ≤ 16777216) (hR : rightB 3 num t keys.length kids.length = true) :
    Calls Tryd.prog 34 #[jVal 3 num t keys.length kids.length Ak Ad ck cd, .int .i64 dp, .pointer (some ⟨b, 0, none⟩)] w (PrP B0 b w bs (6 * t.length + 2) (0, jquM t)) := by
  have hd40 : ((40 : Int) ≤ (dp : Int)) ∨ ¬ ((40 : Int) ≤ (dp : Int)) := by omega
  have hjl := jquM_len t
  rcases hd40 with hd40 | hd40
  all_goals
    have hrt := fun (w1 : World) (hT : Tab10 w1) => right_walk 3 num t keys.length kids.length Ak Ad ck cd w1 hT h1.1 h1.2 hk hd
    rw [hR] at hrt
    have hP1 := hP.alloc (.cells #[.int .i64 3, .int .i64 num, .string ⟨t.toArray⟩, .slice Ak keys.length ck, .slice Ad kids.length cd] 25)
    have hz := hP.size
    have hb1 : Below B0 w (w.alloc (.cells #[.int .i64 3, .int .i64 num, .string ⟨t.toArray⟩, .slice Ak keys.length ck, .slice Ad kids.length cd] 25)) := (Below.refl _ _).alloc hz _
    have hk1 : KeepX [65, 5] w (w.alloc (.cells #[.int .i64 3, .int .i64 num, .string ⟨t.toArray⟩, .slice Ak keys.length ck, .slice Ad kids.length cd] 25)) := (KeepX.refl _ _).alloc _
    have hBk1 : Blk (w.alloc (.cells #[.int .i64 3, .int .i64 num, .string ⟨t.toArray⟩, .slice Ak keys.length ck, .slice Ad kids.length cd] 25)) w.heap.size 25 #[.int .i64 3, .int .i64 num, .string ⟨t.toArray⟩, .slice Ak keys.length ck, .slice Ad kids.length cd] := Blk.new _ _ _
    clear hR
    go_enter Tryd.func34, Tryd.ntmps34
    go_wp2_with fail
    refine (hrt _ hP1.T).mono ?_
    clear hrt
    rintro e w2 ⟨rfl, hbr⟩
    have hP2 := hP1.below hbr
    have hz2 := hP2.size
    have hb2 := hb1.trans (hbr.mono (by have := hP1.size; exact this))
    have hk2 := hk1.below hbr (Nat.le_refl _)
    have hBk2 := hBk1.below hbr hBk1.lt
    have b0 := hBk2.cell 0
    have b1 := hBk2.cell 1
    have b2 := hBk2.cell 2
    have b3 := hBk2.cell 3
    have b4 := hBk2.cell 4
    simp at b0 b1 b2 b3 b4
    clear hP1 hbr hb1 hk1 hBk1 hP
    have hit := ljquote_walk t w2 hP2.D ht
    generalize jquM t = X at *
    go_wp2_with fail
    refine hit.mono ?_
    clear hit
    rintro e w3 ⟨rfl, hbi⟩
    have hP3 := hP2.below hbi
    have hz3 := hP3.size
    have hb3 := hb2.trans (hbi.mono hz2)
    have hk3 := hk2.below hbi (Nat.le_refl _)
    have hBk3 := hBk2.below hbi hBk2.lt
    have hws : Calls Tryd.prog 53 #[.pointer (some ⟨b, 0, none⟩), .string ⟨X.toArray⟩] w3 _ := writeStr_walk hP3.I X (by omega) hz3
    go_wp2_with fail
    refine hws.mono ?_
    clear hws
    rintro e w4 ⟨rfl, hI4, hb4, hk4⟩
    have hBk4 := hBk3.keep hk4 (by decide)
    have d0 := hBk4.cell 0
    simp at d0
    go_wp2_with fail
    go_ret
    exact ⟨rfl, _, hI4, by rw [List.length_append]; omega, fun _ => rfl, hb3.trans hb4, hk3.trans hk4⟩
end
end Go.Proofs.YtccljojceoidhaaDoor
/-
  WALKS: the digits of a number (package amanuensisref11).
-/
namespace Go.Proofs.YtccljojceoidhaaDoor
open Go.RowKit

theorem dec_len : ∀ n : Nat, (Lib.decDigits n).length ≤ n + 1 := by
  intro n
  induction n using Nat.strongRecOn with
  | _ n ih =>
    rw [Lib.decDigits]
    split
    · simp
    · have := ih (n / 10) (by omega)
      rw [List.length_append]
      simp only [List.length_cons, List.length_nil]
      omega
theorem dig_one (n : Nat) (h : n < 10) : (⟨#[48, 49, 50, 51, 52, 53, 54, 55, 56, 57]⟩ : ByteArray).extract n (n + 1) = ⟨(Lib.decDigits n).toArray⟩ := by
  have h2 : ∀ i : Fin 10, (⟨#[48, 49, 50, 51, 52, 53, 54, 55, 56, 57]⟩ : ByteArray).extract i.val (i.val + 1) = ⟨[UInt8.ofNat (48 + i.val)].toArray⟩ := by decide +kernel
  rw [Lib.decDigits, dif_pos h]
  exact h2 ⟨n, h⟩

set_option maxHeartbeats 1000000 in
set_option maxRecDepth 100000 in
theorem rdig_nat : ∀ (n : Nat) (w : World), n ≤ 999999999999999999 → Calls Tryd.prog 36 #[.int .i64 n] w fun e w' => e = .returned (.string ⟨(Lib.decDigits n).toArray⟩) ∧ w' = w := by
  intro n
  induction n using Nat.strongRecOn with
  | _ n ih =>
    intro w hn
    have h0 : ¬ (n : Int) < 0 := by omega
    by_cases h : n < 10
    · have h1 : (n : Int) < 10 := by omega
      have hx := dig_one n h
      generalize Lib.decDigits n = D at *
      have i0 : (0 : Int) ≤ (n : Int) := by omega
      have i1 : (n : Int) + 1 ≤ 10 := by omega
      clear ih h
      go_enter Tryd.func36, Tryd.ntmps36
      go_wp2_with fail
      go_ret
      exact ⟨by first | rfl | rw [hx], rfl⟩
    · have h1 : ¬ (n : Int) < 10 := by omega
      have hD : Hid (Lib.decDigits n = Lib.decDigits (n / 10) ++ Lib.decDigits (n % 10)) := by
        show _ = _
        rw [Lib.decDigits, dif_neg h, Lib.decDigits.eq_1 (n % 10), dif_pos (by omega)]
      have k1 := fun w => ih (n / 10) (by omega) w (by omega)
      have k2 := fun w => ih (n % 10) (by omega) w (by omega)
      have l1 := dec_len (n / 10)
      have l2 := dec_len (n % 10)
      rw [show ((n / 10 : Nat) : Int) = (n : Int) / 10 by omega] at k1
      rw [show ((n % 10 : Nat) : Int) = (n : Int) % 10 by omega] at k2
      generalize Lib.decDigits (n / 10) = X at *
      generalize Lib.decDigits (n % 10) = Y at *
      generalize Lib.decDigits n = D at *
      have i0 : (0 : Int) ≤ (n : Int) := by omega
      have l3 : X.length + Y.length ≤ 999999999999999999 := by omega
      clear ih h
      go_enter Tryd.func36, Tryd.ntmps36
      go_wp2_with fail
      refine (k1 _).mono ?_
      clear k1
      rintro e w1 ⟨rfl, rfl⟩
      go_wp2_with fail
      refine (k2 _).mono ?_
      clear k2
      rintro e w1 ⟨rfl, rfl⟩
      go_wp2_with fail
      go_ret
      rw [hD.out, ← ba_app]
      exact ⟨rfl, rfl⟩

set_option maxHeartbeats 1000000 in
set_option maxRecDepth 100000 in
theorem rdig_walk (n : Int) (w : World) (h1 : -999999999999999999 ≤ n) (h2 : n ≤ 999999999999999999) : Calls Tryd.prog 36 #[.int .i64 n] w fun e w' => e = .returned (.string ⟨(Lib.itoa n).toArray⟩) ∧ w' = w := by
  by_cases hn : n < 0
  · obtain ⟨m, rfl⟩ : ∃ m : Nat, n = -(m : Int) := ⟨n.natAbs, by omega⟩
    have k := rdig_nat m w (by omega)
    have hI : Hid (Lib.itoa (-(m : Int)) = [45] ++ Lib.decDigits m) := by
      show _ = _
      unfold Lib.itoa
      rw [if_pos hn, Int.natAbs_neg, Int.natAbs_natCast]; rfl
    have l1 := dec_len m
    generalize Lib.itoa (-(m : Int)) = D at *
    generalize Lib.decDigits m = X at *
    have l3 : X.length ≤ 1000000000000000000 := by omega
    go_enter Tryd.func36, Tryd.ntmps36
    go_wp2_with fail
    refine k.mono ?_
    rintro e w1 ⟨rfl, rfl⟩
    go_wp2_with fail
    go_ret
    rw [hI.out, ← ba_app]
    exact ⟨rfl, rfl⟩
  · obtain ⟨m, rfl⟩ : ∃ m : Nat, n = (m : Int) := ⟨n.toNat, by omega⟩
    have hI : Lib.itoa (m : Int) = Lib.decDigits m := by
      unfold Lib.itoa
      rw [if_neg hn]; rfl
    rw [hI]
    exact rdig_nat m w (by omega)
end Go.Proofs.YtccljojceoidhaaDoor
