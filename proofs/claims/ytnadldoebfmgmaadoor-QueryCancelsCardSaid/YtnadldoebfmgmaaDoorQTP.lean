/-
  THE PLAIN LAW of QueryTrue, its reference: what a cell is, with nothing remembered.
-/
import Derived.Test.YtnadldoebfmgmaaDoorQTM
namespace Go.Proofs.YtnadldoebfmgmaaDoor.q

/-- a number modulo another one, as the reference has it -/
def lowR (n m : Int) : Int := if n.tmod m < 0 then n.tmod m + m else n.tmod m
theorem lowR_eq (n m : Int) (hm : 0 < m) : lowR n m = posM n m := by
  have h1 := Int.lt_tmod_of_pos n hm
  have h2 := Int.tmod_lt_of_pos n hm
  unfold lowR posM
  by_cases h : n.tmod m < 0
  · rw [if_pos h, Int.emod_eq_of_lt (by omega) (by omega)]
  · rw [if_neg h, Int.add_emod_right, Int.emod_eq_of_lt (by omega) h2]
def reckR (op x y : Int) : Int :=
  if op = 1 then (lowR x 1000003 + lowR y 1000003).tmod 1000003
  else if op = 2 then (lowR x 1000003 * lowR y 1000003).tmod 1000003
  else if x < y then 1 else 0
theorem posM_id {n m : Int} (h : 0 ≤ n) (hm : 0 < m) : posM n m = n.tmod m := by
  rw [← lowR_eq n m hm]
  unfold lowR
  rw [if_neg (by have := Int.tmod_nonneg m h; omega)]
theorem reckR_eq {op x y : Int} (h : op = 1 ∨ op = 2 ∨ op = 3) : reckR op x y = reckonM op x y := by
  have p0 := posM_bd x 1000003 (by omega)
  have p1 := posM_bd y 1000003 (by omega)
  unfold reckR reckonM
  rw [lowR_eq x _ (by omega), lowR_eq y _ (by omega)]
  have q1 : posM (posM x 1000003 + posM y 1000003) 1000003 = (posM x 1000003 + posM y 1000003).tmod 1000003 := posM_id (by omega) (by omega)
  have q2 : posM (posM x 1000003 * posM y 1000003) 1000003 = (posM x 1000003 * posM y 1000003).tmod 1000003 := posM_id (Int.mul_nonneg p0.1 p1.1) (by omega)
  rw [q1, q2]
  rcases h with h | h | h
  · simp only [h, if_true]
  · have e1 : ¬ (2 : Int) = 1 := by omega
    simp only [h, e1, if_true, if_false]
  · have e1 : ¬ (3 : Int) = 1 := by omega
    have e2 : ¬ (3 : Int) = 2 := by omega
    simp only [h, e1, e2, if_true, if_false]
def Ru.dflt : Ru := ⟨0, 0, 0, 0⟩
def ruNx (r : Ru) (x : Int) : Int := if r.op = 4 ∧ x = 0 then r.c else r.b
/-- what a cell is, with nothing remembered: on is the way to it -/
def trueM (l : List Ru) (vs : List Int) : Nat → Nat → List Bool → Int × Bool
  | 0, _, _ => (0, true)
  | f + 1, k, on =>
    if (l.getD k Ru.dflt).op = 0 then (vs.getD k 0, false)
    else if on.getD k false = true then (0, true)
    else
      let a := trueM l vs f (l.getD k Ru.dflt).a.toNat (on.set k true)
      if a.2 = true then a
      else if (l.getD k Ru.dflt).op = 5 then (lowR a.1 4, false)
      else
        let b := trueM l vs f (ruNx (l.getD k Ru.dflt) a.1).toNat (on.set k true)
        if (l.getD k Ru.dflt).op = 4 ∨ b.2 = true then b else (reckR (l.getD k Ru.dflt).op a.1 b.1, false)
/-- how many cells are not on the way -/
def offs (on : List Bool) : Nat := on.countP fun b => !b
theorem offs_set : ∀ (on : List Bool) (k : Nat), k < on.length → on.getD k false = false → offs (on.set k true) + 1 = offs on
  | [], _, h, _ => by simp at h
  | b :: on, 0, _, h => by
    have hb : b = false := by simpa using h
    subst hb
    simp [offs]
  | b :: on, k + 1, h, h2 => by
    have := offs_set on k (by simpa using h) (by simpa using h2)
    unfold offs at *
    simp only [List.set_cons_succ, List.countP_cons]
    omega
theorem on_set {on : List Bool} {k j : Nat} (h : (on.set k true).getD j false = true) : j = k ∨ on.getD j false = true := by
  by_cases hj : k = j
  · exact .inl hj.symm
  · right
    rw [List.getD_eq_getElem?_getD, List.getElem?_set_ne hj, ← List.getD_eq_getElem?_getD] at h
    exact h

/-- the sheet's rules and inputs are these -/
structure Mt (s : Sh) (l : List Ru) (vs : List Int) : Prop where
  len : s.cs.length = l.length
  vlen : vs.length = l.length
  ru : ∀ k, k < l.length → (s.at k).op = (l.getD k Ru.dflt).op ∧ (s.at k).a = (l.getD k Ru.dflt).a ∧ (s.at k).b = (l.getD k Ru.dflt).b ∧ (s.at k).c = (l.getD k Ru.dflt).c
  val : ∀ k, k < l.length → (s.at k).op = 0 → (s.at k).n = vs.getD k 0
theorem Mt.same {s t : Sh} {l : List Ru} {vs : List Int} (h : Mt s l vs) (hs : SameR s t) (hl : t.cs.length = s.cs.length) : Mt t l vs :=
  ⟨hl.trans h.len, h.vlen, fun k hk => by
    obtain ⟨a1, a2, a3, a4, _⟩ := hs k
    obtain ⟨b1, b2, b3, b4⟩ := h.ru k hk
    exact ⟨a1.trans b1, a2.trans b2, a3.trans b3, a4.trans b4⟩, fun k hk ho => by
    obtain ⟨a1, _, _, _, a5⟩ := hs k
    have ho' : (s.at k).op = 0 := by rw [← a1]; exact ho
    rw [a5 ho']; exact h.val k hk ho'⟩
theorem true_spec {s : Sh} {l : List Ru} {vs : List Int} (mt : Mt s l vs) (ok : s.Ok) : ∀ (f k : Nat) (on : List Bool), k < l.length → on.length = l.length → offs on < f → (∀ b, on.getD b false = true → Need s b k) →
    Spec s k ((trueM l vs f k on).1, if (trueM l vs f k on).2 = true then 7 else 0)
  | 0, _, _, _, _, h, _ => by omega
  | f + 1, k, on, hk, hl, hf, hn => by
    obtain ⟨u1, u2, u3, u4⟩ := mt.ru k hk
    have hks : k < s.cs.length := by rw [mt.len]; exact hk
    have hops := ok.ops _ (at_mem hks)
    have hlk := ok.looks _ (at_mem hks)
    have hlen := mt.len
    unfold trueM
    by_cases h0 : (l.getD k Ru.dflt).op = 0
    · rw [if_pos h0]
      rw [← u1] at h0
      rw [← mt.val k hk h0]
      exact Spec.val (ev_input (f := 0) h0)
    · rw [if_neg h0]
      have hop : (s.at k).op ≠ 0 := by rw [u1]; exact h0
      by_cases hon : on.getD k false = true
      · rw [if_pos hon]
        exact Spec.ring (need_self (hn k hon))
      · rw [if_neg hon]
        have hon' : on.getD k false = false := by simpa using hon
        have hoff := offs_set on k (by omega) hon'
        have ha := hlk _ (looks_a ⟨by omega, hops.2⟩)
        have need1 : ∀ b, (on.set k true).getD b false = true → Need s b (s.at k).a.toNat := fun b hb => by
          rcases on_set hb with e | e
          · subst e; exact Need.a hop
          · exact .tr (hn b e) (Need.a hop)
        have sa := true_spec mt ok f (s.at k).a.toNat (on.set k true) (by omega) (by simpa using hl) (by omega) need1
        rw [u2] at sa
        simp only
        rw [← u2] at sa ⊢
        obtain ⟨x, hx⟩ : ∃ x, trueM l vs f (s.at k).a.toNat (on.set k true) = x := ⟨_, rfl⟩
        rw [hx] at sa ⊢
        by_cases hr : x.2 = true
        · rw [if_pos hr] at sa
          rw [if_pos hr, if_pos hr]
          have h7 : Spec s k (0, 7) := spec_err hop sa (by simp)
          have hx0 : x.1 = 0 := by
            rcases sa with ⟨h, _⟩ | ⟨h, _⟩
            · cases h
            · exact congrArg Prod.fst h
          rw [hx0]; exact h7
        · rw [if_neg hr] at sa
          rw [if_neg hr]
          by_cases h5 : (l.getD k Ru.dflt).op = 5
          · rw [if_pos h5]
            have := spec_five hop sa rfl (by rw [u1]; exact h5)
            have e : reckonM 5 x.1 0 = lowR x.1 4 := by rw [lowR_eq _ _ (by omega)]; rfl
            rw [e] at this
            exact this
          · rw [if_neg h5]
            have h5' : (s.at k).op ≠ 5 := by rw [u1]; exact h5
            have hnb := need_b hop sa rfl h5'
            have enx : nxt (s.at k) x.1 = ruNx (l.getD k Ru.dflt) x.1 := by unfold nxt ruNx; rw [u1, u3, u4]
            have hnx : 0 ≤ nxt (s.at k) x.1 ∧ nxt (s.at k) x.1 < s.cs.length := by
              unfold nxt
              split
              · rename_i h; exact hlk _ (looks_c h.1)
              · exact hlk _ (looks_b ⟨by omega, by omega⟩)
            have need2 : ∀ b, (on.set k true).getD b false = true → Need s b (nxt (s.at k) x.1).toNat := fun b hb => by
              rcases on_set hb with e | e
              · subst e; exact hnb
              · exact .tr (hn b e) hnb
            have sb := true_spec mt ok f (nxt (s.at k) x.1).toNat (on.set k true) (by omega) (by simpa using hl) (by omega) need2
            have st := spec_two hop sa rfl h5' sb
            rw [enx] at st
            obtain ⟨y, hy⟩ : ∃ y, trueM l vs f (ruNx (l.getD k Ru.dflt) x.1).toNat (on.set k true) = y := ⟨_, rfl⟩
            rw [enx, hy] at sb
            rw [hy] at st
            show Spec s k ((if _ ∨ (trueM l vs f (ruNx (l.getD k Ru.dflt) x.1).toNat (on.set k true)).2 = true then trueM l vs f (ruNx (l.getD k Ru.dflt) x.1).toNat (on.set k true) else _).1, if (if _ ∨ (trueM l vs f (ruNx (l.getD k Ru.dflt) x.1).toNat (on.set k true)).2 = true then trueM l vs f (ruNx (l.getD k Ru.dflt) x.1).toNat (on.set k true) else _).2 = true then 7 else 0)
            rw [hy]
            by_cases hyr : y.2 = true
            · rw [if_pos (.inr hyr), if_pos hyr]
              rw [if_pos hyr] at st sb
              rw [if_pos (by simp)] at st
              have hy0 : y.1 = 0 := by
                rcases sb with ⟨h, _⟩ | ⟨h, _⟩
                · cases h
                · exact congrArg Prod.fst h
              rw [hy0]; exact st
            · rw [if_neg hyr] at st
              rw [if_neg (by simp)] at st
              by_cases h4 : (l.getD k Ru.dflt).op = 4
              · rw [if_pos (.inl h4), if_neg hyr]
                have e : reckonM (s.at k).op x.1 y.1 = y.1 := by rw [u1, h4]; simp [reckonM]
                simp only [e] at st
                exact st
              · rw [if_neg (by rintro (h | h); exact h4 h; exact hyr h)]
                have e : reckonM (s.at k).op x.1 y.1 = reckR (l.getD k Ru.dflt).op x.1 y.1 := by rw [u1]; exact (reckR_eq (by omega)).symm
                simp only [e] at st
                exact st

/-- an input of the reference is made a number -/
def setV (l : List Ru) (vs : List Int) (k : Nat) (v : Int) : List Int := if k < l.length ∧ (l.getD k Ru.dflt).op = 0 then vs.set k v else vs
/-- a sheet, and what its reference has -/
structure St (l : List Ru) (vs : List Int) (s : Sh) (B : Nat) : Prop where
  rest : s.Rest B
  inv : Inv s
  mt : Mt s l vs
section
variable {l : List Ru} {vs : List Int} {s : Sh} {B : Nat}
theorem getD_lt {α : Type} {l : List α} {d : α} {k : Nat} (h : k < l.length) : l.getD k d = l[k] := by rw [List.getD_eq_getElem?_getD, List.getElem?_eq_getElem h]; rfl
theorem St.new (hf : faultM l = 0) : St l (List.replicate l.length 0) (newS l) 1 := by
  refine ⟨new_rest hf, ⟨fun j ho _ hs => ?_, fun j _ hr => ?_, fun j _ => ?_, fun j _ => ?_, fun j => ?_⟩, ⟨by simp [newS], by simp, fun k hk => ?_, fun k hk _ => ?_⟩⟩
  · have : ((newS l).at j).since = 0 := new_all l (P := fun c => c.since = 0) rfl (fun _ => rfl) j
    rw [this] at hs; cases hs
  · have : ((newS l).at j).ran = false := new_all l (P := fun c => c.ran = false) rfl (fun _ => rfl) j
    rw [this] at hr; cases hr
  · exact new_all l (P := fun c => c.deps = []) rfl (fun _ => rfl) j
  · exact new_all l (P := fun c => c.e = 0) rfl (fun _ => rfl) j
  · exact new_all l (P := fun c => c.since ≤ 1) (by decide) (fun _ => by simp [ruCel]) j
  · rw [new_at l k hk, getD_lt hk]; exact ⟨rfl, rfl, rfl, rfl⟩
  · rw [new_at l k hk, getD_lt (by simpa using hk)]; simp [ruCel]
theorem St.get (h : St l vs s B) (hB : B ≤ 500000000000000000) (k : Int) : St l vs (getM s k).1 (B + 64) ∧ (getM s k).1.sets = s.sets := by
  obtain ⟨g1, _, g3⟩ := get_rest (k := k) h.rest (by omega)
  refine ⟨⟨g1, ?_, h.mt.same (SameR.of_keeps g3) g3.len⟩, g3.sets⟩
  unfold getM
  by_cases hk : 0 ≤ k ∧ k < s.cs.length
  · rw [if_pos hk]
    have hp := phi_le s
    have hsm := h.rest.small
    exact (bring_inv 65 s k.toNat h.rest.ok (by omega) (by omega) h.inv (fun b hb => by rw [h.rest.busy b] at hb; cases hb)).1
  · rw [if_neg hk]; exact h.inv
theorem St.true_ (h : St l vs s B) {k : Nat} (hk : k < l.length) : (getM s k).2 = ((trueM l vs (l.length + 1) k (List.replicate l.length false)).1, if (trueM l vs (l.length + 1) k (List.replicate l.length false)).2 = true then 7 else 0) := by
  have hks : k < s.cs.length := by rw [h.mt.len]; exact hk
  have hp := phi_le s
  have hsm := h.rest.small
  have h1 := (bring_inv 65 s k h.rest.ok hks (by omega) h.inv (fun b hb => by rw [h.rest.busy b] at hb; cases hb)).2
  have h2 := true_spec h.mt h.rest.ok (l.length + 1) k (List.replicate l.length false) hk (by simp) (by
    have : offs (List.replicate l.length false) ≤ (List.replicate l.length false).length := List.countP_le_length
    simp at this
    omega) (fun b hb => by
    rw [List.getD_eq_getElem?_getD, List.getElem?_replicate] at hb
    split at hb <;> cases hb)
  have e : (getM s k).2 = (bringM 65 s k).2 := by
    unfold getM
    rw [if_pos (by omega)]
    simp only [Int.toNat_natCast]
    rcases h1 with ⟨h1, _⟩ | ⟨h1, _⟩
    · rw [if_pos h1]
    · rw [h1]; rfl
  rw [e]
  exact h1.det h2
theorem St.set (h : St l vs s B) {k : Nat} (hk : k < l.length) {v : Int} (hv : I64 v) : St l (setV l vs k v) (setM s k v).1 B := by
  have hks : k < s.cs.length := by rw [h.mt.len]; exact hk
  obtain ⟨u1, u2, u3, u4⟩ := h.mt.ru k hk
  have hrest := set_rest (k := (k : Int)) h.rest hv
  by_cases ho : (s.at k).op = 0
  · have ev : setV l vs k v = vs.set k v := by unfold setV; rw [if_pos ⟨hk, by rw [← u1]; exact ho⟩]
    rw [ev]
    by_cases hn : (s.at k).n = v
    · have e := set_same hks ho hn
      rw [e] at hrest ⊢
      have e2 : vs.set k v = vs := by
        apply List.ext_getElem?
        intro j
        by_cases hj : k = j
        · subst hj
          rw [List.getElem?_set_self (by rw [h.mt.vlen]; exact hk), ← hn, h.mt.val k hk ho, getD_lt (by rw [h.mt.vlen]; exact hk), List.getElem?_eq_getElem (by rw [h.mt.vlen]; exact hk)]
        · rw [List.getElem?_set_ne hj]
      rw [e2]
      exact ⟨hrest, h.inv, h.mt⟩
    · have e := set_new hks ho hn
      rw [e] at hrest ⊢
      simp only at hrest ⊢
      have at_ne : ∀ j, k ≠ j → ({ s.upd k (fun c => { c with n := v }) with sets := s.sets + 1 } : Sh).at j = s.at j := fun j hj => upd_at_ne (s := s) hj
      have at_k : ({ s.upd k (fun c => { c with n := v }) with sets := s.sets + 1 } : Sh).at k = { s.at k with n := v } := upd_at_same (s := s) hks
      have hl : ({ s.upd k (fun c => { c with n := v }) with sets := s.sets + 1 } : Sh).cs.length = s.cs.length := upd_len (s := s)
      have hss : ({ s.upd k (fun c => { c with n := v }) with sets := s.sets + 1 } : Sh).sets = s.sets + 1 := rfl
      generalize ({ s.upd k (fun c => { c with n := v }) with sets := s.sets + 1 } : Sh) = t at *
      have hsince : ∀ j, (t.at j).since = (s.at j).since := fun j => by
        by_cases hj : k = j
        · subst hj; rw [at_k]
        · rw [at_ne j hj]
      refine ⟨hrest, ⟨fun j _ _ hs => ?_, fun j ho' hr => ?_, fun j hr => ?_, fun j ho' => ?_, fun j => ?_⟩, ⟨by rw [hl]; exact h.mt.len, by rw [List.length_set]; exact h.mt.vlen, fun j hj => ?_, fun j hj ho' => ?_⟩⟩
      · rw [hsince, hss] at hs
        have := h.inv.since j
        omega
      · by_cases hj : k = j
        · subst hj; rw [at_k] at ho'; exact absurd ho ho'
        · rw [at_ne j hj] at ho' hr ⊢; exact h.inv.rec_ j ho' hr
      · by_cases hj : k = j
        · subst hj; rw [at_k] at hr ⊢; exact h.inv.none_ k hr
        · rw [at_ne j hj] at hr ⊢; exact h.inv.none_ j hr
      · by_cases hj : k = j
        · subst hj; rw [at_k]; exact h.inv.inp k ho
        · rw [at_ne j hj] at ho' ⊢; exact h.inv.inp j ho'
      · rw [hsince, hss]
        have := h.inv.since j
        omega
      · by_cases hjk : k = j
        · subst hjk; rw [at_k]; exact h.mt.ru k hj
        · rw [at_ne j hjk]; exact h.mt.ru j hj
      · by_cases hjk : k = j
        · subst hjk
          rw [at_k, getD_lt (by rw [List.length_set, h.mt.vlen]; exact hj), List.getElem_set_self]
        · rw [at_ne j hjk] at ho' ⊢
          rw [List.getD_eq_getElem?_getD, List.getElem?_set_ne hjk, ← List.getD_eq_getElem?_getD]
          exact h.mt.val j hj ho'
  · have ev : setV l vs k v = vs := by unfold setV; rw [if_neg (fun h => ho (by rw [u1]; exact h.2))]
    have e : setM s k v = (s, 1) := set_no fun h => ho (by simpa using h.2.2)
    rw [ev]
    rw [e] at hrest ⊢
    exact ⟨hrest, h.inv, h.mt⟩
end
end Go.Proofs.YtnadldoebfmgmaaDoor.q
