/-
  TWO SHEETS side by side, that keep clear of one another.
-/
import Derived.Test.YtnadldoebfmgmaaDoorAM
import Derived.Test.YtnadldoebfmgmaaDoorAP
import Derived.Test.YtnadldoebfmgmaaDoorSameII
import Derived.Test.YtnadldoebfmgmaaDoorQU
namespace Go.Proofs.YtnadldoebfmgmaaDoor.q
open Go.RowKit

/-- where a sheet lies -/
structure Pl where
  sp : Nat
  ps : List Nat
  vc : Value
  rb : Nat
  rc : Nat
/-- two sheets in memory; each block is kept from one of them -/
structure Two (w : World) (B : Nat) (NS NT : Nat → Prop) (p q : Pl) (s t : Sh) : Prop where
  s_ : ShAt NS w B p.sp 0 p.ps p.vc p.rb p.rc s
  t_ : ShAt NT w B q.sp 0 q.ps q.vc q.rb q.rc t
  cov : ∀ j, j < w.heap.size → NS j ∨ NT j
  ls : ∀ j, NS j → j < w.heap.size
  lt : ∀ j, NT j → j < w.heap.size
  base : B ≤ w.heap.size
section
variable {w w' : World} {B : Nat} {NS NT : Nat → Prop} {p q : Pl} {s t s' t' : Sh}
/-- the first is turned -/
theorem Two.turnS (h : Two w B NS NT p q s t) (hS : ShAt NS w' B p.sp 0 p.ps p.vc p.rb p.rc s') (hK : KeepN NS w w') (hb : Below B w w') :
    Two w' B NS (fun j => NT j ∨ (w.heap.size ≤ j ∧ j < w'.heap.size)) p q s' t := by
  have hz := hb.size
  refine ⟨hS, h.t_.other (fun j hj hn => hK j ((h.cov j hj).resolve_right hn)) fun j hj => hj.imp id fun h => h.1, fun j hj => ?_, fun j hj => Nat.lt_of_lt_of_le (h.ls j hj) hz, fun j hj => ?_, Nat.le_trans h.base hz⟩
  · by_cases hw : j < w.heap.size
    · rcases h.cov j hw with h1 | h1
      · exact .inl h1
      · exact .inr (.inl h1)
    · exact .inr (.inr ⟨by omega, hj⟩)
  · rcases hj with h1 | h1
    · exact Nat.lt_of_lt_of_le (h.lt j h1) hz
    · exact h1.2
theorem Two.swap (h : Two w B NS NT p q s t) : Two w B NT NS q p t s := ⟨h.t_, h.s_, fun j hj => (h.cov j hj).symm, h.lt, h.ls, h.base⟩
/-- the second is turned -/
theorem Two.turnT (h : Two w B NS NT p q s t) (hT : ShAt NT w' B q.sp 0 q.ps q.vc q.rb q.rc t') (hK : KeepN NT w w') (hb : Below B w w') :
    Two w' B (fun j => NS j ∨ (w.heap.size ≤ j ∧ j < w'.heap.size)) NT p q s t' := (h.swap.turnS hT hK hb).swap
/-- neither is turned: new blocks are kept from both -/
theorem Two.more (h : Two w B NS NT p q s t) (hb : Below w.heap.size w w') :
    Two w' B (fun j => NS j ∨ (w.heap.size ≤ j ∧ j < w'.heap.size)) (fun j => NT j ∨ (w.heap.size ≤ j ∧ j < w'.heap.size)) p q s t := by
  have hz := hb.size
  refine ⟨h.s_.other (fun j hj _ => hb.block j hj) fun j hj => hj.imp id fun h => h.1, h.t_.other (fun j hj _ => hb.block j hj) fun j hj => hj.imp id fun h => h.1, fun j hj => ?_, fun j hj => ?_, fun j hj => ?_, Nat.le_trans h.base hz⟩
  · by_cases hw : j < w.heap.size
    · exact (h.cov j hw).imp .inl .inl
    · exact .inl (.inr ⟨by omega, hj⟩)
  · rcases hj with h1 | h1
    · exact Nat.lt_of_lt_of_le (h.ls j h1) hz
    · exact h1.2
  · rcases hj with h1 | h1
    · exact Nat.lt_of_lt_of_le (h.lt j h1) hz
    · exact h1.2
theorem Two.drewN (h : Two w B NS NT p q s t) (n : Nat) : Two (w.drewN n) B NS NT p q s t := ⟨h.s_.drewN n, h.t_.drewN n, h.cov, h.ls, h.lt, h.base⟩
/-- a second sheet is made beside a first -/
theorem Two.make (hS : ShAt (fun j => j < B) w B p.sp 0 p.ps p.vc p.rb p.rc s) (hT : ShAt (fun j => j < w.heap.size) w' w.heap.size q.sp 0 q.ps q.vc q.rb q.rc t) (hb : Below w.heap.size w w') (hz : B ≤ w.heap.size)
    (hbT : ShAt (fun j => j < w.heap.size) w' B q.sp 0 q.ps q.vc q.rb q.rc t) : Two w' B (fun j => j < B ∨ (w.heap.size ≤ j ∧ j < w'.heap.size)) (fun j => j < w.heap.size) p q s t := by
  have h2 := hb.size
  refine ⟨hS.other (fun j hj _ => hb.block j hj) fun j hj => hj.imp id fun h => h.1, hbT, fun j hj => ?_, fun j hj => ?_, fun j hj => by omega, by omega⟩
  · by_cases hw : j < w.heap.size
    · exact .inr hw
    · exact .inl (.inr ⟨by omega, hj⟩)
  · rcases hj with h1 | h1 <;> omega
/-- what is from a higher block on is from a lower one on -/
theorem own_base {e : TypeId} {size n b b' : Nat} {v : Value} {xs : List Value} (h : w.ownsRow b e size v n xs) (hb : b' ≤ b) : w.ownsRow b' e size v n xs := by
  refine ⟨h.1, ?_⟩
  rcases h.2 with h0 | ⟨g, cap, cur, h1, h2, h3⟩
  · exact .inl h0
  · exact .inr ⟨g, cap, cur, h1, by omega, h3⟩
theorem ShAt.lower {N : Nat → Prop} {b b' sp rb rc : Nat} {lk : Int} {ps : List Nat} {vc : Value} (h : ShAt N w b sp lk ps vc rb rc s) (hb : b' ≤ b) : ShAt N w b' sp lk ps vc rb rc s where
  sheet := h.sheet
  cells := own_base h.cells hb
  runs := own_base h.runs hb
  each i hi := by
    obtain ⟨vd, vl, hv⟩ := h.each i hi
    exact ⟨vd, vl, hv.blk, own_base hv.deps hb, fun e => own_base (hv.l1 e) hb, hv.l0, Nat.le_trans hb hv.base_, hv.np, hv.nd, hv.nl⟩
  nod := h.nod
  len := h.len
  base_ := Nat.le_trans hb h.base_
  nsp := h.nsp
  nc := h.nc
  nr := h.nr
end
theorem Back.eqv {s s1 y : Sh} (h : Back s s1 y) (hs : s1.sets = s.sets) (hm : s.most = -1) : Eqv s y := ⟨h.len, h.sets.trans hs, h.most.trans hm.symm, fun j => ⟨_, h.cel j⟩⟩
theorem Eqv.symm {s t : Sh} (h : Eqv s t) : Eqv t s := ⟨h.len.symm, h.sets.symm, h.most.symm, fun j => by
  obtain ⟨o, e⟩ := h.cel j
  exact ⟨(s.at j).once, by rw [e]⟩⟩
theorem Eqv.runsV {s t : Sh} (h : Eqv s t) : runsV t = runsV s := by
  unfold q.runsV
  congr 1
  apply List.ext_getElem?
  intro j
  rw [List.getElem?_map, List.getElem?_map]
  by_cases hj : j < s.cs.length
  · have hj' : j < t.cs.length := by rw [h.len]; exact hj
    have e1 : s.at j = s.cs[j] := by unfold Sh.at; rw [List.getD_eq_getElem?_getD, List.getElem?_eq_getElem hj]; rfl
    have e2 : t.at j = t.cs[j] := by unfold Sh.at; rw [List.getD_eq_getElem?_getD, List.getElem?_eq_getElem hj']; rfl
    rw [List.getElem?_eq_getElem hj, List.getElem?_eq_getElem hj', ← e1, ← e2]
    simp [h.runs j]
  · rw [List.getElem?_eq_none (show t.cs.length ≤ j by rw [h.len]; omega), List.getElem?_eq_none (show s.cs.length ≤ j by omega)]
theorem Eqv.rest {s t : Sh} (h : Eqv s t) {B : Nat} (hr : s.Rest B) : t.Rest B := by
  have ho : ∀ j, (t.at j).op = (s.at j).op ∧ (t.at j).runs = (s.at j).runs ∧ (t.at j).busy = (s.at j).busy ∧ (t.at j).e = (s.at j).e ∧ (t.at j).looks = (s.at j).looks ∧ (t.at j).deps = (s.at j).deps ∧ (t.at j).n = (s.at j).n := fun j => by
    obtain ⟨o, e⟩ := h.cel j
    rw [e]
    exact ⟨rfl, rfl, rfl, rfl, rfl, rfl, rfl⟩
  refine ⟨⟨fun c hc => ?_, fun c hc x hx => ?_, fun c hc d hd => ?_, fun c hc => ?_⟩, fun j => by rw [(ho j).2.2.1]; exact hr.busy j, by rw [h.len]; exact hr.small, by rw [h.most]; exact hr.neg, by rw [h.most]; exact hr.low, fun j => by rw [(ho j).2.2.2.2.2.2]; exact hr.num j, fun j => by rw [(ho j).2.1]; exact hr.runs j⟩
  all_goals obtain ⟨j, hj, rfl⟩ := mem_at hc
  all_goals rw [h.len] at hj
  · rw [(ho j).1]; exact hr.ok.ops _ (at_mem hj)
  · rw [(ho j).2.2.2.2.1] at hx; rw [h.len]; exact hr.ok.looks _ (at_mem hj) x hx
  · rw [(ho j).2.2.2.2.2.1] at hd; rw [h.len]; exact hr.ok.deps _ (at_mem hj) d hd
  · rw [(ho j).2.2.2.1]; exact hr.ok.errs _ (at_mem hj)
theorem Rd.runs {w : World} {g : Nat} {s : Sh} (h : Blk w g 3 (runsV s)) (hs : s.cs.length ≤ 1048576) : Rd w w.heap.size 1 (some ⟨g, 0, none⟩) (runsL s).length (intsV (runsL s)) := by
  refine ⟨by simp [intsV], fun _ => ⟨g, 0, rfl, h.lt, fun j u hu => ?_⟩⟩
  have hc := h.cell j
  rw [show 0 + j = j by omega, hc, ← hu]
  simp [runsV, intsV, runsL]
  rfl
/-- counts that are alike -/
theorem runs_same {w : World} {g1 g2 n1 n2 : Nat} {x y : Sh} (hE : Eqv y x) (h1 : Blk w g1 3 (runsV x)) (h2 : Blk w g2 3 (runsV y)) (e1 : n1 = x.cs.length) (e2 : n2 = y.cs.length) (hs : y.cs.length ≤ 1048576) :
    Calls Tryd.prog 16 #[.slice (some ⟨g1, 0, none⟩) n1 n1, .slice (some ⟨g2, 0, none⟩) n2 n2] w fun e w' => e = .returned (.bool true) ∧ Below w.heap.size w w' := by
  have hl : runsL x = runsL y := by
    apply List.ext_getElem?
    intro j
    by_cases hj : j < y.cs.length
    · rw [runsL_get (by rw [hE.len]; exact hj), runsL_get hj, hE.runs j]
    · rw [List.getElem?_eq_none (by simp [runsL, hE.len]; omega), List.getElem?_eq_none (by simp [runsL]; omega)]
  have e3 : n1 = (runsL x).length := by simp [runsL, e1]
  have e4 : n2 = (runsL y).length := by simp [runsL, e2]
  rw [e3, e4]
  refine (sameIntsI_walk _ _ _ _ (runsL x) (runsL y) w (Rd.runs h1 (by rw [hE.len]; exact hs)) (Rd.runs h2 hs) (by simp [runsL, hE.len]; exact hs) (by simp [runsL]; exact hs)).mono ?_
  rintro e w' ⟨rfl, hb⟩
  exact ⟨by rw [decide_eq_true hl], hb⟩
end Go.Proofs.YtnadldoebfmgmaaDoor.q
