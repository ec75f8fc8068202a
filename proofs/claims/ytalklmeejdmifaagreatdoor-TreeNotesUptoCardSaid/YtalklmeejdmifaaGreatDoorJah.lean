/-
  JOINED of the texts TF RegG TG TJ
-/
import Derived.Test.YtalklmeejdmifaaGreatDoorJag
import Derived.Deep.QuietTactic
import Derived.BigQuiet
import Derived.Lib.RuneBytes
import Derived.Lib.Strings
import Derived.Deep.DeepCutAuto
import Derived.Lib.ConvBytes
import Derived.Laws.Strings3
import Derived.Laws.Closers25
import Derived.Laws.Closers25b
import Derived.BigCall
import Derived.BigGuard
import Derived.Test.YtalklmeejdmifaaGreatDoorShelfX
import Derived.Shelf.Spec.BytesIndexFunc
import Derived.Deep.RegionHeld3
import Derived.Lib.IndexMore
import Derived.Test.YtalklmeejdmifaaGreatDoorRows
import Derived.WalkKit
import Derived.WalkSpells
import Derived.WalkLawsBesides
import Derived.Below
import Derived.Laws.OwnMore
import Derived.Deep.AppendLies
import Derived.Deep.Draws
import Derived.Lib.Hide
import Derived.IntWalk
import Derived.Test.YtalklmeejdmifaaGreatDoorShelfW
import Derived.Shelf.Strings.SlTrimAscii
import Derived.Lib.LaidTab
import Derived.Lib.AtoiAll
import Derived.Lib.IndexLaws
import Derived.Lib.SlTrimSet
import Derived.Lib.ItoaNum
import Derived.Lib.Atoi
import Derived.WalkMore
import Derived.ScopeJumps
import Derived.Test.YtalklmeejdmifaaGreatDoorJaa
/-
  WALKS of package tree: is, kind, branch.
-/
namespace Go.Proofs.YtalklmeejdmifaaGreatDoor
open Go.RowKit

/-- what a text and its tokens are, and a reader of them -/
structure Rdr (w : World) (K : Nat → Prop) (g gt : Nat) (s : Bs) (T : List Tk) (b n i : Nat) : Prop where
  rs : Rs3 w K g gt s T b n i
  inK : In K w
  hi : i ≤ T.length
  hb : b ≤ Tr.absP s T i
/-- tokens that a reader can read -/
structure Txts (s : Bs) (T : List Tk) : Prop where
  good : Tr.Good s T
  hT : T.length ≤ 4194304
  hs : s.length ≤ 4194304
section
variable {w w' : World} {K : Nat → Prop} {g gt : Nat} {s : Bs} {T : List Tk} {b n i : Nat}
theorem Rdr.below (h : Rdr w K g gt s T b n i) (hb : Below w.heap.size w w') : Rdr w' K g gt s T b n i := ⟨h.rs.below hb h.inK, h.inK.after hb.size, h.hi, h.hb⟩
theorem Rdr.drewN (h : Rdr w K g gt s T b n i) (m : Nat) : Rdr (w.drewN m) K g gt s T b n i := h.below (below_drewN (Below.refl _ _) m)
end

set_option maxHeartbeats 4000000 in
set_option maxRecDepth 100000 in
theorem is_walk {w : World} {K : Nat → Prop} {g gt : Nat} {s : Bs} {T : List Tk} {b n i : Nat} (X : Txts s T) (R : Rdr w K g gt s T b n i) (A : Option Addr) (c : Nat) (l : List Bs) (hA : Rd w w.heap.size 1 A l.length (txtV l)) (hl : l.length ≤ 1000) :
    Calls Tryz.prog 119 #[.pointer (some ⟨g, 0, none⟩), .slice A l.length c] w fun e w' => e = .returned (.bool (Tr.isP s T l i)) ∧ Below w.heap.size w w' := by
  have h1 := next_walkT R.rs R.hi (by have := X.hT; omega)
  have hnl := Tr.next_le T i R.hi
  have hT := X.hT
  have h2 := text_walkT (Tr.nextP T i) R.rs X.good (by have := X.hs; omega) (by omega)
  have HR : Hid (Tr.isP s T l i = ((Tr.kindP T (Tr.nextP T i) == 4 || Tr.kindP T (Tr.nextP T i) == 7) && l.contains (Tr.textP s T (Tr.nextP T i)))) := rfl
  generalize Tr.isP s T l i = r at *
  generalize Tr.kindP T (Tr.nextP T i) = kd at *
  generalize Tr.textP s T (Tr.nextP T i) = tx at *
  generalize Tr.nextP T i = nx at *
  clear hnl hT R X
  go_enter Tryz.func119, Tryz.ntmps119
  go_wp2_with fail
  refine h1.mono ?_
  clear h1
  rintro e w1 ⟨rfl, rfl⟩
  go_wp2_with fail
  refine h2.mono ?_
  clear h2
  rintro e w2 ⟨rfl, hb⟩
  have hc := contains_walk8 A c l tx w2 ((hA.below hb).more hb.size) (by omega)
  generalize l.contains tx = cb at *
  by_cases k4 : kd = 4
  · subst k4
    go_wp2_with fail
    refine hc.mono ?_
    clear hc
    rintro e w3 ⟨rfl, rfl⟩
    go_wp2_with fail
    go_ret
    exact ⟨by rw [HR.out]; rfl, hb⟩
  · have e4 : ((kd : Int) == 4) = false := by simp; omega
    have f4 : (kd == 4) = false := by simpa using k4
    rw [f4, Bool.false_or] at HR
    by_cases k7 : kd = 7
    · subst k7
      clear k4 f4
      go_wp2_with fail
      refine hc.mono ?_
      clear hc
      rintro e w3 ⟨rfl, rfl⟩
      go_wp2_with fail
      go_ret
      exact ⟨by rw [HR.out]; rfl, hb⟩
    · have e7 : ((kd : Int) == 7) = false := by simp; omega
      have f7 : (kd == 7) = false := by simpa using k7
      rw [f7, Bool.false_and] at HR
      clear k4 f4 k7 f7 hc
      go_wp2_with fail
      go_ret
      exact ⟨by rw [HR.out]; rfl, hb⟩

set_option maxHeartbeats 4000000 in
set_option maxRecDepth 100000 in
theorem kindn_walk {w : World} {K : Nat → Prop} {g gt : Nat} {s : Bs} {T : List Tk} {b n i : Nat} (X : Txts s T) (R : Rdr w K g gt s T b n i) (k : Nat) :
    Calls Tryz.prog 196 #[.pointer (some ⟨g, 0, none⟩), .int .i64 (k : Int)] w fun e w' => e = .returned (.bool (Tr.kindP T (Tr.nextP T i) == k)) ∧ Below w.heap.size w w' := by
  have h1 := next_walkT R.rs R.hi (by have := X.hT; omega)
  have hnl := Tr.next_le T i R.hi
  have hT := X.hT
  have h2 := text_walkT (Tr.nextP T i) R.rs X.good (by have := X.hs; omega) (by omega)
  generalize Tr.kindP T (Tr.nextP T i) = kd at *
  generalize Tr.textP s T (Tr.nextP T i) = tx at *
  generalize Tr.nextP T i = nx at *
  clear hnl hT R X
  have HB : Hid (((kd : Int) == (k : Int)) = (kd == k)) := by
    show _ = _
    by_cases h : kd = k
    · subst h; simp
    · have : ¬ (kd : Int) = (k : Int) := by omega
      rw [beq_eq_false_iff_ne.2 h, beq_eq_false_iff_ne.2 this]
  go_enter Tryz.func196, Tryz.ntmps196
  go_wp2_with fail
  refine h1.mono ?_
  clear h1
  rintro e w1 ⟨rfl, rfl⟩
  go_wp2_with fail
  refine h2.mono ?_
  clear h2
  rintro e w2 ⟨rfl, hb⟩
  go_wp2_with fail
  go_ret
  exact ⟨by rw [← HB.out]; rfl, hb⟩

set_option maxHeartbeats 4000000 in
set_option maxRecDepth 100000 in
theorem branch_walk {w : World} {K : Nat → Prop} {g gt : Nat} {s : Bs} {T : List Tk} {b n i : Nat} (X : Txts s T) (R : Rdr w K g gt s T b n i) (kind : Nat) :
    Calls Tryz.prog 153 #[.pointer (some ⟨g, 0, none⟩), .int .i64 (kind : Int)] w fun e w' => e = .returned (.pointer (some ⟨w.heap.size, 0, none⟩)) ∧ Below w.heap.size w w' ∧ w'.heap.size = w.heap.size + 1 ∧ ∀ K, In K w → Br w' K w.heap.size kind (Tr.placeP s T b i) [] := by
  have hp := place_walk R.rs X.good R.hb (by have := X.hs; omega)
  generalize Tr.placeP s T b i = p at *
  clear R X
  go_enter Tryz.func153, Tryz.ntmps153
  go_wp2_with fail
  refine hp.mono ?_
  clear hp
  rintro e w1 ⟨rfl, m, rfl⟩
  go_wp2_with fail
  go_ret
  exact ⟨rfl, (below_drewN (Below.refl _ _) m).alloc (Nat.le_refl _) _, by simp, fun K hK => Br.new (w := w.drewN m) hK kind p⟩
end Go.Proofs.YtalklmeejdmifaaGreatDoor
/-
  A REGION THAT DRAWS ITS ORDER, walked once: as the library's wpAnyH, but the condition S is asked only as long as operation number L (the store, which waits for all others) has not come up.
-/
namespace Go.Proofs.YtalklmeejdmifaaGreatDoor
open Go.RowKit
section
variable {P : Program} {ops : Array Oper} {Q : Exit → Act → World → Prop} {md : Region.Mode} {S : World → Prop} {L : Nat}

def wpAnyG (P : Program) (md : Region.Mode) (ops : Array Oper) (Q : Exit → Act → World → Prop) (S : World → Prop) (L : Nat) : Nat → Array Bool → Act → World → Prop
  | 0, listed, a, w => Region.ready md ops listed = [] ∧ Q .normal a w
  | fuel + 1, listed, a, w =>
    (Region.ready md ops listed = [] → Q .normal a w) ∧
    ∀ i ∈ Region.ready md ops listed, wpOp P ops Q i (fun a' w' => (i ≠ L → S w') ∧ wpAnyG P md ops Q S L fuel (listed.setIfInBounds i true) a' w') a w

theorem wpAny_of_G : ∀ (fuel : Nat) (listed : Array Bool) (a : Act) (w : World), wpAnyG P md ops Q S L fuel listed a w → wpAny P md ops Q fuel listed a w
  | 0, _, _, _, h => h
  | fuel + 1, _, _, _, h => ⟨h.1, fun i hi => wpOp_mono (fun a' w' h' => wpAny_of_G fuel _ a' w' h'.2) (h.2 i hi)⟩

/-- operation L waits for operation i -/
def waits (md : Region.Mode) (ops : Array Oper) (L i : Nat) : Bool :=
  match ops[L]? with
  | some o => o.after.toList.any fun e => Region.binds md e && e.on == i
  | none => true

theorem wpAnyG_first {i : Nat} {oi : Oper} {v : Value} (hi : ops[i]? = some oi) (hsel : ∀ (j : Nat) (o : Oper) cs b, ops[j]? = some o → o.op ≠ .select cs b)
    (hQ : ∀ c a w, Q (.panic c) (a.put oi.dst v) w → Q (.panic c) a w) (hL : waits md ops L i = true) :
    ∀ (fuel : Nat) (listed : Array Bool) (a : Act) (w : World),
      (∀ j oj, ops[j]? = some oj → j ≠ i → listed.getD j true = false → (∀ e ∈ oj.after, Region.binds md e = true → e.on ≠ i) → oi.apart ops oj = true) →
      i ∈ Region.ready md ops listed → YieldsIf P ops S oi v a → S w →
      wpAnyG P md ops Q S L fuel (listed.setIfInBounds i true) (a.put oi.dst v) w → wpAnyG P md ops Q S L (fuel + 1) listed a w := by
  intro fuel
  induction fuel with
  | zero =>
    intro listed a w _ hr hy hS H
    refine ⟨fun h => (by rw [h] at hr; cases hr), fun j hj => ?_⟩
    by_cases hji : j = i
    · subst hji; exact hy.wpOp hi hS ⟨fun _ => hS, H⟩
    · have := ready_mono hj hji
      rw [H.1] at this
      cases this
  | succ fuel ih =>
    intro listed a w hfree hr hy hS H
    refine ⟨fun h => (by rw [h] at hr; cases hr), fun j hj => ?_⟩
    by_cases hji : j = i
    · subst hji; exact hy.wpOp hi hS ⟨fun _ => hS, H⟩
    · have h1 := H.2 j (ready_mono hj hji)
      obtain ⟨hjun, oj, hoj, hall⟩ := mem_ready.1 hj
      have hnot : ∀ e ∈ oj.after, Region.binds md e = true → e.on ≠ i := fun e he hb heq => by
        have h1 := hall e he hb
        have h0 := (mem_ready.1 hr).1
        rw [heq] at h1
        rcases Nat.lt_or_ge i listed.size with h' | h'
        · simp [h'] at h0 h1; rw [h0] at h1; cases h1
        · simp [Array.getElem?_eq_none h'] at h1
      have hjL : j ≠ L := fun e => by
        subst e
        unfold waits at hL
        rw [hoj] at hL
        simp only [List.any_eq_true, Bool.and_eq_true, beq_iff_eq] at hL
        obtain ⟨e, he, hb, hon⟩ := hL
        exact hnot e (Array.mem_toList_iff.1 he) hb hon
      have h2 := wpOp_putIf hoj (hfree j oj hoj hji hjun hnot) (fun cs b => hsel i oi cs b hi) (fun cs b => hsel j oj cs b hoj) hQ hy h1
      have hfree' : ∀ k ok, ops[k]? = some ok → k ≠ i → (listed.setIfInBounds j true).getD k true = false →
          (∀ e ∈ ok.after, Region.binds md e = true → e.on ≠ i) → oi.apart ops ok = true := fun k ok hk hki hun hno => by
        refine hfree k ok hk hki ?_ hno
        by_cases hjk : j = k
        · subst hjk; exact hjun
        · rw [getD_set_ne true hjk] at hun; exact hun
      refine wpOp_mono (fun a' w' h3 => ⟨h3.2.1, ih (listed.setIfInBounds j true) a' w' hfree' (ready_mono hr (Ne.symm hji)) h3.1 (h3.2.1 hjL) ?_⟩) h2
      rw [Array.setIfInBounds_comm _ _ hji]
      exact h3.2.2

theorem wpAnyG_take {i : Nat} {oi : Oper} {v : Value} {fuel : Nat} {listed : Array Bool} {a : Act} {w : World} (hi : ops[i]? = some oi)
    (hs : Region.noSelect ops = true) (hf : Region.free md ops listed i = true) (hr : (Region.ready md ops listed).contains i = true) (hL : waits md ops L i = true)
    (hQ : ∀ c a w, Q (.panic c) (a.put oi.dst v) w → Q (.panic c) a w) (hy : YieldsIf P ops S oi v a) (hS : S w)
    (h : wpAnyG P md ops Q S L fuel (listed.setIfInBounds i true) (a.put oi.dst v) w) : wpAnyG P md ops Q S L (fuel + 1) listed a w :=
  wpAnyG_first hi (Region.noSelect_spec hs) hQ hL fuel listed a w (Region.free_spec hi hf) (by simpa using hr) hy hS h

theorem wpAnyG_one {i : Nat} {o : Oper} {fuel : Nat} {listed : Array Bool} {a : Act} {w : World} (hr : Region.ready md ops listed = [i]) (ho : ops[i]? = some o)
    (h : ∀ K' : Act → World → Prop, Shut (∀ a w, (i ≠ L → S w) → wpAnyG P md ops Q S L fuel (listed.setIfInBounds i true) a w → K' a w) → if Region.wanted o (yielded ops a.tmps) = true then Oper.wp P o a w K' Q else K' (a.put o.dst undef) w) :
    wpAnyG P md ops Q S L (fuel + 1) listed a w :=
  ⟨fun h0 => (by rw [h0] at hr; cases hr), fun j hj => by
    rw [hr, List.mem_singleton] at hj
    subst hj
    exact wpOp_step ho fun K' hK => h K' fun a w hS hW => hK a w ⟨hS, hW⟩⟩

theorem wpAnyG_done {listed : Array Bool} {a : Act} {w : World} (hr : Region.ready md ops listed = []) (h : Q .normal a w) : ∀ fuel, wpAnyG P md ops Q S L fuel listed a w
  | 0 => ⟨hr, h⟩
  | _ + 1 => ⟨fun _ => h, by rw [hr]; simp⟩

theorem wp_region_G {id : Nat} {a : Act} {w : World} (L : Nat) (S : World → Prop) (hm : P.follows .mixedOrders = true)
    (h : wpAnyG P .any ops Q S L ops.size (Array.replicate ops.size false) a w.drew) : (Code.region id ops true).wp P Q a w :=
  wp_region_any hm (wpAny_of_G _ _ _ _ h)
end
end Go.Proofs.YtalklmeejdmifaaGreatDoor
/-
  WALKS of package tree: missing, want, name; a part is laid into a branch.
-/
namespace Go.Proofs.YtalklmeejdmifaaGreatDoor
open Go.RowKit

/-- the blocks K are as they were -/
structure Kept (K : Nat → Prop) (w w' : World) : Prop where
  size : w.heap.size ≤ w'.heap.size
  same : ∀ x, K x → w'.heap[x]? = w.heap[x]?
  calm : Calm w w'
section
variable {w w' w1 : World} {K : Nat → Prop} {g gt : Nat} {s : Bs} {T : List Tk} {b n i : Nat}
theorem Kept.aft (h : Kept K w w') (g : Nat) : Aft K g w w' := ⟨h.size, fun x hx _ => h.same x hx, h.calm⟩
theorem Kept.below (h : Below w.heap.size w w') (hK : In K w) : Kept K w w' := ⟨h.size, fun x hx => h.block x (hK x hx), Calm.below h⟩
theorem Rdr.kept (h : Rdr w K g gt s T b n i) (hk : Kept K w w') : Rdr w' K g gt s T b n i :=
  ⟨⟨(hk.same g h.rs.tr.kg).trans h.rs.rd, h.rs.tr.aft (hk.aft g)⟩, h.inK.after hk.size, h.hi, h.hb⟩
theorem Rdr.drew (h : Rdr w K g gt s T b n i) : Rdr w.drew K g gt s T b n i := h.below ((Below.refl _ _).drew)
end
theorem infoPart : (Tryz.prog.info? 94).map (fun i => (i.zero, i.size, i.bytes)) = some (some .nilIface, 1, 16) := by kernel_rfl
section
variable {w w' w5 : World} {K : Nat → Prop} {g h kind at_ : Nat} {pts : List Tr.PT} {A : Option Addr} {c : Nat} {vs : List Value}
theorem OB.below (hb : OB w K h kind at_ pts A c vs) (hbl : Below w.heap.size w w') : OB w' K h kind at_ pts A c vs :=
  ⟨hb.nk, hb.blk.below hbl hb.blk.lt, own_of_block hb.own fun q hq => hbl.block q (hb.row_lt q hq), hb.nr, PtsF.keep hbl.size (fun b hF hl => ⟨hbl.block b hl, hF⟩) _ _ hb.parts⟩
theorem Br.below (hb : Br w K h kind at_ pts) (hbl : Below w.heap.size w w') : Br w' K h kind at_ pts := by
  obtain ⟨A, c, vs, hb⟩ := hb
  exact ⟨A, c, vs, hb.below hbl⟩
/-- a part is laid into a branch -/
theorem OB.push (hb : OB w K h kind at_ pts A c vs) (hK : In K w) {p : Tr.PT} {v : Value} {gg cap : Nat}
    (hp : PtF w (fun x => ¬ K x ∧ x ≠ h ∧ some x ≠ (Value.slice A pts.length c).ownBlock) p v)
    (hown : w5.ownsRow 0 94 1 (.slice (some ⟨gg, 0, none⟩) (pts.length + 1) cap) (pts.length + 1) (vs ++ [v]))
    (hgrow : (w.alloc (.cells #[v] 94)).grownBy w5 (Value.slice A pts.length c).ownBlock)
    (hat : (Value.slice A pts.length c).ownBlock = some gg ∨ gg = w.heap.size + 1) :
    Br (w5.setCell ⟨h, 1, none⟩ (.slice (some ⟨gg, 0, none⟩) (pts.length + 1) cap)) K h kind at_ (pts ++ [p]) ∧ Kept K w (w5.setCell ⟨h, 1, none⟩ (.slice (some ⟨gg, 0, none⟩) (pts.length + 1) cap)) := by
  have hz := hgrow.size
  simp at hz
  have old : ∀ x, x < w.heap.size → some x ≠ (Value.slice A pts.length c).ownBlock → x ≠ h → (w5.setCell ⟨h, 1, none⟩ (.slice (some ⟨gg, 0, none⟩) (pts.length + 1) cap)).heap[x]? = w.heap[x]? := fun x hx hr hh =>
    ((Below.heap_setCell w5 ⟨h, 1, none⟩ _ x hh).trans (hgrow.block x (by simp; omega) hr)).trans (Below.heap_alloc w _ x hx)
  have hrn : ∀ x, K x → some x ≠ (Value.slice A pts.length c).ownBlock := fun x hx e => hb.nr x e.symm hx
  have hhn : ∀ x, K x → x ≠ h := fun x hx e => hb.nk (e ▸ hx)
  have hgk : ¬ K gg := fun hk => by
    rcases hat with e | e
    · exact hb.nr gg e hk
    · have := hK gg hk; omega
  have hgn : ∀ x, x < w.heap.size → some x ≠ (Value.slice A pts.length c).ownBlock → some x ≠ some gg := fun x hx hr e => by
    rcases hat with e' | e'
    · exact hr (e.trans e'.symm)
    · injection e; omega
  have hhr : (h : Nat) ≠ gg := fun e => hgn h hb.blk.lt hb.row_ne (by rw [e])
  have hlen : (pts ++ [p]).length = pts.length + 1 := by simp
  have hB5 := ((hb.blk.alloc (.cells #[v] 94)).grown hgrow hb.row_ne).set_ 1 (.slice (some ⟨gg, 0, none⟩) (pts.length + 1) cap)
  have hsz : w5.heap.size ≤ (w5.setCell ⟨h, 1, none⟩ (.slice (some ⟨gg, 0, none⟩) (pts.length + 1) cap)).heap.size := by simp [World.setCell]
  refine ⟨⟨some ⟨gg, 0, none⟩, cap, vs ++ [v], hb.nk, ?_, ?_, ?_, ?_⟩, by omega, fun x hx => old x (hK x hx) (hrn x hx) (hhn x hx), ((show Calm w (w.alloc (.cells #[v] 94)) from ⟨rfl, rfl, rfl⟩).trans ⟨hgrow.os, hgrow.tape, hgrow.output⟩).trans (Calm.set w5 _ _)⟩
  · rw [hlen]; exact hB5
  · rw [hlen]
    exact own_of_block hown fun q hq => Below.heap_setCell w5 ⟨h, 1, none⟩ _ q (by simp only [Value.ownBlock, Option.some.injEq] at hq; subst hq; exact Ne.symm hhr)
  · intro q hq
    simp only [Value.ownBlock, Option.some.injEq] at hq
    subst hq; exact hgk
  · refine PtsF.app ?_ (PtsF.one ?_)
    · exact PtsF.keep (by omega) (fun x hF hl => ⟨old x hl hF.2.2 hF.2.1, hF.1, hF.2.1, hgn x hl hF.2.2⟩) _ _ hb.parts
    · exact PtF.keep (by omega) (fun x hF hl => ⟨old x hl hF.2.2 hF.2.1, hF.1, hF.2.1, hgn x hl hF.2.2⟩) _ _ hp
end

/-- what a reading step does: parts are laid into a branch, the reader goes ahead -/
def StE (w : World) (K : Nat → Prop) (g gt h kind at_ : Nat) (s : Bs) (T : List Tk) (b n : Nat) (st : Tr.St) (e : Ending) (w' : World) : Prop :=
  e = .returned (.tuple #[]) ∧ Aft K g w w' ∧ Rdr w' K g gt s T b n st.2 ∧ Br w' K h kind at_ st.1

set_option maxHeartbeats 4000000 in
set_option maxRecDepth 100000 in
theorem missing_walk {w : World} {K : Nat → Prop} {g gt : Nat} {s : Bs} {T : List Tk} {b n i : Nat} {h kind at_ : Nat} {pts : List Tr.PT} (X : Txts s T) (R : Rdr w K g gt s T b n i) (hb : Br w K h kind at_ pts) (word : Bs) (hl : pts.length ≤ 100000000) :
    Calls Tryz.prog 195 #[.pointer (some ⟨g, 0, none⟩), .pointer (some ⟨h, 0, none⟩), .string ⟨word.toArray⟩] w (StE w K g gt h kind at_ s T b n (Tr.thn (pts, i) (Tr.missP s T b word))) := by
  obtain ⟨i0, ji, jz0, jz1, jz2⟩ := info_parts infoPart
  obtain ⟨A, c, vs, hb⟩ := hb
  have HP : Hid (Tr.thn (pts, i) (Tr.missP s T b word) = (pts ++ [.gap word (Tr.placeP s T b i) false], i)) := rfl
  rw [HP.out]
  clear HP
  go_enter Tryz.func195, Tryz.ntmps195
  refine wp_region_G 15 (fun w' : World => w'.cell? ⟨h, 1, none⟩ = some (.slice A pts.length c)) (by kernel_rfl) ?_
  have hd : Below w.heap.size w w.drew := (Below.refl _ _).drew
  have hA := Kept.aft (Kept.below hd R.inK) g
  have R := R.drew
  have hb := hb.below hd
  have hpl := place_walk R.rs X.good R.hb (by have := X.hs; omega)
  clear hd X
  generalize w.drew = w1 at *
  have o1 := hb.blk.cell 1
  simp at o1
  have hS0 : (fun w' : World => w'.cell? ⟨h, 1, none⟩ = some (.slice A pts.length c)) w1 := o1
  refine wpAnyG_take (i := 0) (v := ?_) rfl (by kernel_rfl) (by kernel_rfl) (by kernel_rfl) (by kernel_rfl) (fun _ _ _ h => h) (Or.inl ⟨by rfl, ?_⟩) hS0 ?_; rotate_left; · (intro w hSw; (try dsimp only at hSw); have s0 := hSw; go_simp; try with_reducible rfl)
  simp only [Act.put, List.setIfInBounds_toArray]
  refine wpAnyG_take (i := 1) (v := ?_) rfl (by kernel_rfl) (by kernel_rfl) (by kernel_rfl) (by kernel_rfl) (fun _ _ _ h => h) (Or.inl ⟨by rfl, ?_⟩) hS0 ?_; rotate_left; · (intro w hSw; (try dsimp only at hSw); have s0 := hSw; go_simp; try with_reducible rfl)
  simp only [Act.put]
  refine wpAnyG_take (i := 2) (v := ?_) rfl (by kernel_rfl) (by kernel_rfl) (by kernel_rfl) (by kernel_rfl) (fun _ _ _ h => h) (Or.inl ⟨by rfl, ?_⟩) hS0 ?_; rotate_left; · (intro w hSw; (try dsimp only at hSw); have s0 := hSw; go_simp; try with_reducible rfl)
  simp only [Act.put]
  refine wpAnyG_take (i := 3) (v := ?_) rfl (by kernel_rfl) (by kernel_rfl) (by kernel_rfl) (by kernel_rfl) (fun _ _ _ h => h) (Or.inl ⟨by rfl, ?_⟩) hS0 ?_; rotate_left; · (intro w hSw; (try dsimp only at hSw); have s0 := hSw; go_simp; try with_reducible rfl)
  simp only [Act.put]
  refine wpAnyG_take (i := 4) (v := ?_) rfl (by kernel_rfl) (by kernel_rfl) (by kernel_rfl) (by kernel_rfl) (fun _ _ _ h => h) (Or.inl ⟨by rfl, ?_⟩) hS0 ?_; rotate_left; · (intro w hSw; (try dsimp only at hSw); have s0 := hSw; go_simp; try with_reducible rfl)
  simp only [Act.put]
  refine wpAnyG_take (i := 5) (v := ?_) rfl (by kernel_rfl) (by kernel_rfl) (by kernel_rfl) (by kernel_rfl) (fun _ _ _ h => h) (Or.inl ⟨by rfl, ?_⟩) hS0 ?_; rotate_left; · (intro w hSw; (try dsimp only at hSw); have s0 := hSw; go_simp; try with_reducible rfl)
  simp only [Act.put]
  refine wpAnyG_take (i := 6) (v := ?_) rfl (by kernel_rfl) (by kernel_rfl) (by kernel_rfl) (by kernel_rfl) (fun _ _ _ h => h) (Or.inl ⟨by rfl, ?_⟩) hS0 ?_; rotate_left; · (intro w hSw; (try dsimp only at hSw); have s0 := hSw; go_simp; try with_reducible rfl)
  simp only [Act.put]
  clear hS0
  generalize Tr.placeP s T b i = pl at *
  refine wpAnyG_one (i := 7) (by kernel_rfl) rfl (fun C hC => ?_)
  go_simp
  ((with_reducible refine hpl.mono ?_))
  clear hpl
  rintro e w2 ⟨rfl, m, rfl⟩
  have hd : Below w1.heap.size w1 (w1.drewN m) := below_drewN (Below.refl _ _) m
  have hA := hA.trans (Kept.aft (Kept.below hd R.inK) g)
  have R := R.below hd
  have hb := hb.below hd
  clear hd
  have o1 : (w1.drewN m).cell? ⟨h, 1, none⟩ = some (.slice A pts.length c) := o1
  refine hC.out _ _ (fun _ => o1) ?_
  clear hC C
  generalize w1.drewN m = w2 at *
  refine wpAnyG_one (i := 8) (by kernel_rfl) rfl (fun C hC => ?_)
  go_simp
  refine hC.out _ _ (fun _ => o1) ?_
  clear hC C
  have hd : Below w2.heap.size w2 (w2.alloc (.cells #[.string ⟨word.toArray⟩, .int .i64 (pl : Int), .bool false] 297)) := (Below.refl _ _).alloc (Nat.le_refl _) _
  have hBg : Blk (w2.alloc (.cells #[.string ⟨word.toArray⟩, .int .i64 (pl : Int), .bool false] 297)) w2.heap.size 297 #[.string ⟨word.toArray⟩, .int .i64 (pl : Int), .bool false] := Blk.new _ _ _
  have hA := hA.trans (Kept.aft (Kept.below hd R.inK) g)
  have hp : PtF (w2.alloc (.cells #[.string ⟨word.toArray⟩, .int .i64 (pl : Int), .bool false] 297)) (fun x => ¬ K x ∧ x ≠ h ∧ some x ≠ (Value.slice A pts.length c).ownBlock) (.gap word pl false) (.iface 107 (.pointer (some ⟨w2.heap.size, 0, none⟩))) :=
    ⟨w2.heap.size, rfl, ⟨fun hk => Nat.lt_irrefl _ (R.inK _ hk), fun e => by have := hb.blk.lt; omega, fun e => by have := hb.row_lt _ e.symm; omega⟩, hBg⟩
  have R := R.below hd
  have hb := hb.below hd
  clear hd hBg
  refine wpAnyG_one (i := 9) (by kernel_rfl) rfl (fun C hC => ?_)
  go_simp
  have o1 : (w2.alloc (.cells #[.string ⟨word.toArray⟩, .int .i64 (pl : Int), .bool false] 297)).cell? ⟨h, 1, none⟩ = some (.slice A pts.length c) := by
    have := hb.blk.cell 1
    simpa using this
  refine hC.out _ _ (fun _ => o1) ?_
  clear hC C
  obtain ⟨q, hq⟩ : ∃ q, q = w2.heap.size := ⟨_, rfl⟩
  rw [← hq] at hp ⊢
  clear hq
  generalize (w2.alloc (.cells #[.string ⟨word.toArray⟩, .int .i64 (pl : Int), .bool false] 297)) = w3 at *
  refine wpAnyG_one (i := 10) (by kernel_rfl) rfl (fun C hC => ?_)
  go_simp
  refine hC.out _ _ (fun _ => o1) ?_
  clear hC C
  refine wpAnyG_one (i := 11) (by kernel_rfl) rfl (fun C hC => ?_)
  go_simp
  refine hC.out _ _ (fun _ => (cell_alloc _ _ _ _ hb.blk.lt).trans o1) ?_
  clear hC C
  refine wpAnyG_one (i := 12) (by kernel_rfl) rfl (fun C hC => ?_)
  refine step_append_lies _ (by rfl) _ _ _ (by rfl) 0 94 i0 _ 1 16 Tryz.underlying85 ji jz0 jz1 jz2 rfl (by omega) (.slice A pts.length c) pts.length vs (by rfl) (hb.own.alloc (.cells #[.iface 107 (.pointer (some ⟨q, 0, none⟩))] 94)) ⟨w3.heap.size, 0, none⟩ 1 1 [.iface 107 (.pointer (some ⟨q, 0, none⟩))] (by rfl) (by rfl) (World.news_of_block (heap_alloc_new w3 _)) (by simp [Value.oneCell']) (by omega) (by unfold maxLen; omega) (by omega) (Nat.zero_le _) (w3.heap.size + 1) (by simp) ?_
  intro gg cap' w5 hown5 hgrow hat hlt5
  have hpu := hb.push R.inK hp hown5 hgrow hat
  have hg5 := (hb.blk.alloc (.cells #[.iface 107 (.pointer (some ⟨q, 0, none⟩))] 94)).grown hgrow hb.row_ne
  have b1 := hg5.cell 1
  have bf := hg5.frozen 1
  simp at b1
  refine hC.out _ _ (fun _ => b1) ?_
  clear hC C
  refine wpAnyG_one (i := 13) (by kernel_rfl) rfl (fun C hC => ?_)
  go_simp
  refine hC.out _ _ (fun _ => b1) ?_
  clear hC C
  refine wpAnyG_one (i := 14) (by kernel_rfl) rfl (fun C hC => ?_)
  go_simp
  refine hC.out _ _ (fun _ => b1) ?_
  clear hC C
  refine wpAnyG_one (i := 15) (by kernel_rfl) rfl (fun C hC => ?_)
  go_simp
  refine hC.out _ _ (fun h => absurd rfl h) ?_
  clear hC C
  refine wpAnyG_done (by kernel_rfl) ?_ _
  have hB := hpu.1
  have R := R.kept hpu.2
  have hA := hA.trans (hpu.2.aft g)
  clear hb hp o1 hown5 hgrow hat hlt5 hpu hg5 b1 bf
  go_end0
  exact ⟨rfl, hA, R, hB⟩
end Go.Proofs.YtalklmeejdmifaaGreatDoor
/-
  WALKS of package tree: From, around.
-/
namespace Go.Proofs.YtalklmeejdmifaaGreatDoor
open Go.RowKit

theorem nil_leaf (m : String) (a : Addr) (w : World) (hm : m = "From") : (nilAhead 517 104 (.pointer (some a)) m).run Tryz.prog w = .ok (some false) w := by subst hm; kernel_rfl
theorem from_leaf (a : Addr) (w : World) : (method 517 104 (.pointer (some a)) "From").run Tryz.prog w = .ok (309, .pointer (some a)) w := by kernel_rfl
theorem from_gap (a : Addr) (w : World) : (method 517 107 (.pointer (some a)) "From").run Tryz.prog w = .ok (312, .pointer (some a)) w := by kernel_rfl
theorem from_branch (a : Addr) (w : World) : (method 517 90 (.pointer (some a)) "From").run Tryz.prog w = .ok (306, .pointer (some a)) w := by kernel_rfl

theorem leaf_from {w : World} {a : Nat} (q : Nat) (h : w.cell? ⟨q, 2, none⟩ = some (.int .i64 (a : Int))) : Calls Tryz.prog 309 #[.pointer (some ⟨q, 0, none⟩)] w fun e w' => e = .returned (.int .i64 (a : Int)) ∧ w' = w := by
  go_enter Tryz.func309, Tryz.ntmps309
  go_wp2
  go_ret
  exact ⟨rfl, rfl⟩
theorem gap_from {w : World} {a : Nat} (q : Nat) (h : w.cell? ⟨q, 1, none⟩ = some (.int .i64 (a : Int))) : Calls Tryz.prog 312 #[.pointer (some ⟨q, 0, none⟩)] w fun e w' => e = .returned (.int .i64 (a : Int)) ∧ w' = w := by
  go_enter Tryz.func312, Tryz.ntmps312
  go_wp2
  go_ret
  exact ⟨rfl, rfl⟩
theorem branch_from {w : World} {a : Nat} (q : Nat) (h : w.cell? ⟨q, 2, none⟩ = some (.int .i64 (a : Int))) : Calls Tryz.prog 306 #[.pointer (some ⟨q, 0, none⟩)] w fun e w' => e = .returned (.int .i64 (a : Int)) ∧ w' = w := by
  go_enter Tryz.func306, Tryz.ntmps306
  go_wp2
  go_ret
  exact ⟨rfl, rfl⟩

/-- where a part begins, at whatever part -/
def FromF (w : World) (t q F a : Nat) : Prop := (∀ w, (nilAhead 517 t (.pointer (some ⟨q, 0, none⟩)) "From").run Tryz.prog w = .ok (some false) w) ∧ (∀ w, (method 517 t (.pointer (some ⟨q, 0, none⟩)) "From").run Tryz.prog w = .ok (F, .pointer (some ⟨q, 0, none⟩)) w) ∧ (∀ args w, (callFunc F args).run Tryz.prog w = .ok (.enter F args) w) ∧
  ∀ w', Below w.heap.size w w' → Calls Tryz.prog F #[.pointer (some ⟨q, 0, none⟩)] w' fun e w'' => e = .returned (.int .i64 (a : Int)) ∧ w'' = w'
theorem PtF.from_ {w : World} {F : Nat → Prop} {p : Tr.PT} {v : Value} (h : PtF w F p v) : ∃ t q f, v = .iface t (.pointer (some ⟨q, 0, none⟩)) ∧ FromF w t q f p.from_ := by
  cases p with
  | leaf k t a =>
    obtain ⟨q, rfl, hF, hB⟩ := h
    refine ⟨_, q, _, rfl, fun w => nil_leaf _ _ _ rfl, from_leaf _, fun _ _ => by kernel_rfl, fun w' hb => leaf_from q ?_⟩
    have := (hB.below hb hB.lt).cell 2
    simpa [Tr.PT.from_] using this
  | gap t a d =>
    obtain ⟨q, rfl, hF, hB⟩ := h
    refine ⟨_, q, _, rfl, fun w => by kernel_rfl, from_gap _, fun _ _ => by kernel_rfl, fun w' hb => gap_from q ?_⟩
    have := (hB.below hb hB.lt).cell 1
    simpa [Tr.PT.from_] using this
  | branch k a l =>
    obtain ⟨q, rfl, hF, A, c, vs, hB, _⟩ := h
    refine ⟨_, q, _, rfl, fun w => by kernel_rfl, from_branch _, fun _ _ => by kernel_rfl, fun w' hb => branch_from q ?_⟩
    have := (hB.below hb hB.lt).cell 2
    simpa [Tr.PT.from_] using this

set_option maxHeartbeats 4000000 in
set_option maxRecDepth 100000 in
theorem around_walk {w : World} {K : Nat → Prop} (hK : In K w) (kind : Nat) {p : Tr.PT} {v : Value} (hp : PtF w (fun x => ¬ K x) p v) :
    Calls Tryz.prog 234 #[.int .i64 (kind : Int), v] w fun e w' => ∃ h, e = .returned (.pointer (some ⟨h, 0, none⟩)) ∧ Below w.heap.size w w' ∧ w.heap.size ≤ h ∧ Br w' K h kind p.from_ [p] := by
  obtain ⟨t, q, f, rfl, hn, hm, hcf, hc⟩ := hp.from_
  have hd : Below w.heap.size w (w.alloc (.cells #[.iface t (.pointer (some ⟨q, 0, none⟩))] 94)) := (Below.refl _ _).alloc (Nat.le_refl _) _
  have hc := hc _ hd
  generalize Tr.PT.from_ p = a at *
  go_enter Tryz.func234, Tryz.ntmps234
  go_wp2_with fail
  refine hc.mono ?_
  clear hc
  rintro e w' ⟨rfl, rfl⟩
  go_wp2_with fail
  go_ret
  have hB := Blk.new (w.alloc (.cells #[.iface t (.pointer (some ⟨q, 0, none⟩))] 94)) 109 #[.int .i64 (kind : Int), .slice (some ⟨w.heap.size, 0, none⟩) 1 1, .int .i64 (a : Int)]
  have hz : (w.alloc (.cells #[.iface t (.pointer (some ⟨q, 0, none⟩))] 94)).heap.size = w.heap.size + 1 := by simp
  rw [hz] at hB
  have hd2 : Below w.heap.size w ((w.alloc (.cells #[.iface t (.pointer (some ⟨q, 0, none⟩))] 94)).alloc (.cells #[.int .i64 (kind : Int), .slice (some ⟨w.heap.size, 0, none⟩) 1 1, .int .i64 (a : Int)] 109)) := hd.alloc hd.size _
  refine ⟨w.heap.size + 1, by rw [← hz]; rfl, hd2, by omega, some ⟨w.heap.size, 0, none⟩, 1, [.iface t (.pointer (some ⟨q, 0, none⟩))], ⟨fun h => by have := hK _ h; omega, hB, ?_, ?_, ?_⟩⟩
  · have h0 := World.ownsRow_lit (base := 0) (e := 94) (size := 1) w #[.iface t (.pointer (some ⟨q, 0, none⟩))] 1 (Nat.zero_le _) (by unfold maxLen; omega) rfl
    exact h0.alloc _
  · intro x hx
    simp only [Value.ownBlock, Option.some.injEq] at hx
    subst hx
    exact fun h => Nat.lt_irrefl _ (hK _ h)
  · exact PtsF.one (PtF.keep hd2.size (fun x hF hl => ⟨hd2.block x hl, hF, by omega, fun e => by simp only [Value.ownBlock, Option.some.injEq] at e; omega⟩) _ _ hp)
end Go.Proofs.YtalklmeejdmifaaGreatDoor
