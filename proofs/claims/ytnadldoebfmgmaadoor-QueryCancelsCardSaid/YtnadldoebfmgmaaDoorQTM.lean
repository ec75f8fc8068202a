/-
  THE PLAIN LAW of QueryTrue: what is remembered is what would be reckoned from nothing.
-/
import Derived.Test.YtnadldoebfmgmaaDoorQP
namespace Go.Proofs.YtnadldoebfmgmaaDoor.q

def nxt (c : Cel) (x : Int) : Int := if c.op = 4 ∧ x = 0 then c.c else c.b
/-- what a cell comes to, reckoned f steps deep -/
def evF (s : Sh) : Nat → Nat → Option Int
  | 0, _ => none
  | f + 1, k =>
    if (s.at k).op = 0 then some (s.at k).n
    else match evF s f (s.at k).a.toNat with
      | none => none
      | some x => if (s.at k).op = 5 then some (reckonM 5 x 0)
        else match evF s f (nxt (s.at k) x).toNat with
          | none => none
          | some y => some (reckonM (s.at k).op x y)
section
variable {s t : Sh} {k j f g : Nat} {x y v : Int}
theorem ev_input (h : (s.at k).op = 0) : evF s (f + 1) k = some (s.at k).n := by unfold evF; rw [if_pos h]
theorem ev_none (h : (s.at k).op ≠ 0) (ha : evF s f (s.at k).a.toNat = none) : evF s (f + 1) k = none := by unfold evF; rw [if_neg h, ha]
theorem ev_five (h : (s.at k).op ≠ 0) (ha : evF s f (s.at k).a.toNat = some x) (h5 : (s.at k).op = 5) : evF s (f + 1) k = some (reckonM 5 x 0) := by unfold evF; rw [if_neg h, ha]; simp only [if_pos h5]
theorem ev_two (h : (s.at k).op ≠ 0) (ha : evF s f (s.at k).a.toNat = some x) (h5 : (s.at k).op ≠ 5) : evF s (f + 1) k = (evF s f (nxt (s.at k) x).toNat).map (reckonM (s.at k).op x) := by
  conv => lhs; unfold evF
  rw [if_neg h, ha]; simp only [if_neg h5]
  cases evF s f (nxt (s.at k) x).toNat <;> rfl
theorem ev_succ : ∀ (f k : Nat) (v : Int), evF s f k = some v → evF s (f + 1) k = some v
  | 0, _, _, h => by cases h
  | f + 1, k, v, h => by
    by_cases h0 : (s.at k).op = 0
    · rw [ev_input h0] at h; rw [ev_input h0]; exact h
    · cases ha : evF s f (s.at k).a.toNat with
      | none => rw [ev_none h0 ha] at h; cases h
      | some x =>
        have ha' := ev_succ f _ _ ha
        by_cases h5 : (s.at k).op = 5
        · rw [ev_five h0 ha h5] at h; rw [ev_five h0 ha' h5]; exact h
        · rw [ev_two h0 ha h5] at h
          rw [ev_two h0 ha' h5]
          cases hb : evF s f (nxt (s.at k) x).toNat with
          | none => rw [hb] at h; cases h
          | some y => rw [hb] at h; rw [ev_succ f _ _ hb]; exact h
theorem ev_mono (h : evF s f k = some v) (hfg : f ≤ g) : evF s g k = some v := by
  induction hfg with
  | refl => exact h
  | step _ ih => exact ev_succ _ _ _ ih
theorem ev_det (h : evF s f k = some v) (h' : evF s g k = some x) : v = x := by
  rcases Nat.le_total f g with hl | hl
  · have := ev_mono h hl; rw [h'] at this; exact (Option.some.inj this).symm
  · have := ev_mono h' hl; rw [h] at this; exact Option.some.inj this

/-- to reckon k, j must be reckoned -/
inductive Need (s : Sh) : Nat → Nat → Prop
  | a {k : Nat} (h : (s.at k).op ≠ 0) : Need s k (s.at k).a.toNat
  | b {k f : Nat} {x : Int} (h : (s.at k).op ≠ 0) (h5 : (s.at k).op ≠ 5) (hx : evF s f (s.at k).a.toNat = some x) : Need s k (nxt (s.at k) x).toNat
  | tr {k j i : Nat} (h : Need s k j) (h' : Need s j i) : Need s k i
theorem need_lt (h : Need s k j) : ∀ f v, evF s f k = some v → ∃ g v', g < f ∧ evF s g j = some v' := by
  induction h with
  | @a k h0 =>
    intro f v hv
    cases f with
    | zero => cases hv
    | succ f =>
      cases ha : evF s f (s.at k).a.toNat with
      | none => rw [ev_none h0 ha] at hv; cases hv
      | some x => exact ⟨f, x, by omega, ha⟩
  | @b k f' x h0 h5 hx =>
    intro f v hv
    cases f with
    | zero => cases hv
    | succ f =>
      cases ha : evF s f (s.at k).a.toNat with
      | none => rw [ev_none h0 ha] at hv; cases hv
      | some x' =>
        obtain rfl := ev_det hx ha
        rw [ev_two h0 ha h5] at hv
        cases hb : evF s f (nxt (s.at k) x).toNat with
        | none => rw [hb] at hv; cases hv
        | some y => exact ⟨f, y, by omega, hb⟩
  | tr _ _ ih1 ih2 =>
    intro f v hv
    obtain ⟨g, v', h1, h2⟩ := ih1 f v hv
    obtain ⟨g', v'', h3, h4⟩ := ih2 g v' h2
    exact ⟨g', v'', by omega, h4⟩
theorem need_self (h : Need s k k) : ∀ f, evF s f k = none := by
  intro f
  induction f using Nat.strongRecOn with
  | _ f ih =>
    cases hv : evF s f k with
    | none => rfl
    | some v =>
      obtain ⟨g, v', h1, h2⟩ := need_lt h f v hv
      rw [ih g h1] at h2; cases h2

/-- the outcome o is what cell k comes to, or that it comes to nothing -/
def Spec (s : Sh) (k : Nat) (o : Int × Int) : Prop := (o.2 = 0 ∧ ∃ f, evF s f k = some o.1) ∨ (o = (0, 7) ∧ ∀ f, evF s f k = none)
theorem Spec.ring (h : ∀ f, evF s f k = none) : Spec s k (0, 7) := .inr ⟨rfl, h⟩
theorem Spec.val (h : evF s f k = some v) : Spec s k (v, 0) := .inl ⟨rfl, f, h⟩
theorem Spec.det {o o' : Int × Int} (h : Spec s k o) (h' : Spec s k o') : o = o' := by
  obtain ⟨n, e⟩ := o
  obtain ⟨n', e'⟩ := o'
  rcases h with ⟨h1, f, h2⟩ | ⟨h1, h2⟩
  · rcases h' with ⟨h3, g, h4⟩ | ⟨h3, h4⟩
    · simp only at h1 h2 h3 h4
      rw [h1, h3, ev_det h2 h4]
    · rw [h4 f] at h2; cases h2
  · rcases h' with ⟨h3, g, h4⟩ | ⟨h3, h4⟩
    · rw [h2 g] at h4; cases h4
    · rw [h1, h3]
/-- out of its parts -/
theorem spec_err (h0 : (s.at k).op ≠ 0) {o : Int × Int} (ha : Spec s (s.at k).a.toNat o) (he : o.2 ≠ 0) : Spec s k (0, 7) := by
  rcases ha with ⟨h1, _⟩ | ⟨_, h2⟩
  · exact absurd h1 he
  · refine Spec.ring fun f => ?_
    cases f with
    | zero => rfl
    | succ f => exact ev_none h0 (h2 f)
theorem spec_five (h0 : (s.at k).op ≠ 0) {o : Int × Int} (ha : Spec s (s.at k).a.toNat o) (he : o.2 = 0) (h5 : (s.at k).op = 5) : Spec s k (reckonM 5 o.1 0, 0) := by
  rcases ha with ⟨_, f, h1⟩ | ⟨h1, _⟩
  · exact Spec.val (ev_five h0 h1 h5)
  · rw [h1] at he; cases he
theorem spec_two (h0 : (s.at k).op ≠ 0) {o o' : Int × Int} (ha : Spec s (s.at k).a.toNat o) (he : o.2 = 0) (h5 : (s.at k).op ≠ 5) (hb : Spec s (nxt (s.at k) o.1).toNat o') :
    Spec s k (if o'.2 ≠ 0 then (0, 7) else (reckonM (s.at k).op o.1 o'.1, 0)) := by
  rcases ha with ⟨_, f, h1⟩ | ⟨h1, _⟩
  · rcases hb with ⟨h2, g, h3⟩ | ⟨h2, h3⟩
    · rw [if_neg (by simpa using h2)]
      refine Spec.val (f := max f g + 1) ?_
      rw [ev_two h0 (ev_mono h1 (Nat.le_max_left f g)) h5, ev_mono h3 (Nat.le_max_right f g)]; rfl
    · rw [if_pos (by rw [h2]; decide)]
      refine Spec.ring fun f' => ?_
      cases f' with
      | zero => rfl
      | succ f' =>
        cases h4 : evF s f' (s.at k).a.toNat with
        | none => exact ev_none h0 h4
        | some x => rw [ev_two h0 h4 h5, ← ev_det h1 h4, h3 f']; rfl
  · rw [h1] at he; cases he
theorem need_b (h0 : (s.at k).op ≠ 0) {o : Int × Int} (ha : Spec s (s.at k).a.toNat o) (he : o.2 = 0) (h5 : (s.at k).op ≠ 5) : Need s k (nxt (s.at k) o.1).toNat := by
  rcases ha with ⟨_, f, h1⟩ | ⟨h1, _⟩
  · exact Need.b h0 h5 h1
  · rw [h1] at he; cases he

/-- the rules and the inputs are the same -/
def SameR (s t : Sh) : Prop := ∀ j, (t.at j).op = (s.at j).op ∧ (t.at j).a = (s.at j).a ∧ (t.at j).b = (s.at j).b ∧ (t.at j).c = (s.at j).c ∧ ((s.at j).op = 0 → (t.at j).n = (s.at j).n)
theorem SameR.of_keeps (h : Keeps s t) : SameR s t := fun j => by
  obtain ⟨a1, a2, a3, a4⟩ := h.rule j
  exact ⟨a1, a2, a3, a4, fun ho => by rw [h.input j ho]⟩
theorem SameR.nxt (h : SameR s t) (j : Nat) (x : Int) : nxt (t.at j) x = nxt (s.at j) x := by
  obtain ⟨a1, a2, a3, a4, _⟩ := h j
  unfold q.nxt; rw [a1, a3, a4]
theorem SameR.ev (h : SameR s t) : ∀ f k, evF t f k = evF s f k
  | 0, _ => rfl
  | f + 1, k => by
    obtain ⟨a1, a2, a3, a4, a5⟩ := h k
    by_cases h0 : (s.at k).op = 0
    · rw [ev_input h0, ev_input (by rw [a1]; exact h0), a5 h0]
    · have h0' : (t.at k).op ≠ 0 := by rw [a1]; exact h0
      have ih := SameR.ev h f (s.at k).a.toNat
      cases ha : evF s f (s.at k).a.toNat with
      | none => rw [ev_none h0 ha, ev_none h0' (by rw [a2, ih]; exact ha)]
      | some x =>
        have ha' : evF t f (t.at k).a.toNat = some x := by rw [a2, ih]; exact ha
        by_cases h5 : (s.at k).op = 5
        · rw [ev_five h0 ha h5, ev_five h0' ha' (by rw [a1]; exact h5)]
        · rw [ev_two h0 ha h5, ev_two h0' ha' (by rw [a1]; exact h5), h.nxt, SameR.ev h f, a1]
theorem SameR.spec (h : SameR s t) {o : Int × Int} : Spec t k o ↔ Spec s k o := by
  unfold Spec
  simp only [h.ev]
theorem SameR.symm (h : SameR s t) : SameR t s := fun j => by
  obtain ⟨a1, a2, a3, a4, a5⟩ := h j
  exact ⟨a1.symm, a2.symm, a3.symm, a4.symm, fun ho => (a5 (by rw [← a1]; exact ho)).symm⟩
theorem SameR.need (h : SameR s t) (hn : Need s k j) : Need t k j := by
  induction hn with
  | @a k h0 =>
    have := Need.a (s := t) (k := k) (by rw [(h k).1]; exact h0)
    rw [(h k).2.1] at this; exact this
  | @b k f x h0 h5 hx =>
    have := Need.b (s := t) (k := k) (f := f) (x := x) (by rw [(h k).1]; exact h0) (by rw [(h k).1]; exact h5) (by rw [(h k).2.1, h.ev]; exact hx)
    rw [h.nxt] at this; exact this
  | tr _ _ ih1 ih2 => exact .tr ih1 ih2
end

/-- what a cell remembers hangs together -/
def RecOk (c : Cel) : Prop := ∃ x e0 : Int,
  (e0 ≠ 0 ∧ c.deps = [⟨c.a.toNat, x, e0⟩] ∧ (c.n, c.e) = (0, 7)) ∨
  (e0 = 0 ∧ c.op = 5 ∧ c.deps = [⟨c.a.toNat, x, 0⟩] ∧ (c.n, c.e) = (reckonM 5 x 0, 0)) ∨
  (e0 = 0 ∧ c.op ≠ 5 ∧ ∃ y e1, c.deps = [⟨c.a.toNat, x, 0⟩, ⟨(nxt c x).toNat, y, e1⟩] ∧ (c.n, c.e) = (if e1 ≠ 0 then ((0 : Int), (7 : Int)) else (reckonM c.op x y, 0)))
structure Inv (s : Sh) : Prop where
  fresh : ∀ j, (s.at j).op ≠ 0 → (s.at j).busy = false → (s.at j).since = s.sets → Spec s j ((s.at j).n, (s.at j).e)
  rec_ : ∀ j, (s.at j).op ≠ 0 → (s.at j).ran = true → RecOk (s.at j)
  none_ : ∀ j, (s.at j).ran = false → (s.at j).deps = []
  inp : ∀ j, (s.at j).op = 0 → (s.at j).e = 0
  since : ∀ j, (s.at j).since ≤ s.sets
section
variable {s t : Sh} {k j f : Nat} {br : Sh → Nat → Sh × (Int × Int)}
theorem SameR.of_but (h : KeepsBut k s t) (ho : (s.at k).op ≠ 0) : SameR s t := fun j => by
  obtain ⟨a1, a2, a3, a4⟩ := h.rule j
  refine ⟨a1, a2, a3, a4, fun h0 => ?_⟩
  by_cases hj : j = k
  · subst hj; exact absurd h0 ho
  · rw [h.input j hj h0]
theorem upd_out (hk : s.cs.length ≤ k) (g : Cel → Cel) (j : Nat) : (s.upd k g).at j = s.at j := by
  unfold Sh.upd Sh.at
  simp only [List.getD_eq_getElem?_getD]
  by_cases hj : k = j
  · subst hj; rw [List.getElem?_eq_none hk, List.getElem?_eq_none (by simpa using hk)]
  · rw [List.getElem?_modify_ne _ _ hj]
theorem SameR.upd (hk : k < s.cs.length) {g : Cel → Cel} (hr : (g (s.at k)).op = (s.at k).op ∧ (g (s.at k)).a = (s.at k).a ∧ (g (s.at k)).b = (s.at k).b ∧ (g (s.at k)).c = (s.at k).c) (hn : (s.at k).op = 0 → (g (s.at k)).n = (s.at k).n) : SameR s (s.upd k g) := fun j => by
  by_cases hj : k = j
  · subst hj; rw [upd_at_same hk]; exact ⟨hr.1, hr.2.1, hr.2.2.1, hr.2.2.2, hn⟩
  · rw [upd_at_ne hj]; exact ⟨rfl, rfl, rfl, rfl, fun _ => rfl⟩
theorem Inv.upd (h : Inv s) (hk : k < s.cs.length) {g : Cel → Cel} (hr : (g (s.at k)).op = (s.at k).op ∧ (g (s.at k)).a = (s.at k).a ∧ (g (s.at k)).b = (s.at k).b ∧ (g (s.at k)).c = (s.at k).c) (ho : (s.at k).op ≠ 0)
    (h1 : (g (s.at k)).busy = false → (g (s.at k)).since = s.sets → Spec s k ((g (s.at k)).n, (g (s.at k)).e)) (h2 : (g (s.at k)).ran = true → RecOk (g (s.at k))) (h3 : (g (s.at k)).ran = false → (g (s.at k)).deps = []) (h5 : (g (s.at k)).since ≤ s.sets) : Inv (s.upd k g) := by
  have hs : SameR s (s.upd k g) := SameR.upd hk hr fun e => absurd e ho
  refine ⟨fun j => ?_, fun j => ?_, fun j => ?_, fun j => ?_, fun j => ?_⟩
  all_goals by_cases hj : k = j
  · subst hj; rw [upd_at_same hk]; intro _ hb hsn; exact hs.spec.2 (h1 hb hsn)
  · rw [upd_at_ne hj]; intro a b c; exact hs.spec.2 (h.fresh j a b c)
  · subst hj; rw [upd_at_same hk]; exact fun _ => h2
  · rw [upd_at_ne hj]; exact h.rec_ j
  · subst hj; rw [upd_at_same hk]; exact h3
  · rw [upd_at_ne hj]; exact h.none_ j
  · subst hj; rw [upd_at_same hk, hr.1]; exact fun e => absurd e ho
  · rw [upd_at_ne hj]; exact h.inp j
  · subst hj; rw [upd_at_same hk]; exact h5
  · rw [upd_at_ne hj]; exact h.since j
theorem Inv.most (h : Inv s) (m : Int) : Inv { s with most := m } := by
  have hs : SameR s { s with most := m } := fun j => ⟨rfl, rfl, rfl, rfl, fun _ => rfl⟩
  exact ⟨fun j a b c => hs.spec.2 (h.fresh j a b c), h.rec_, h.none_, h.inp, h.since⟩
theorem beg_same (hk : k < s.cs.length) : SameR s (begM s k) := fun j => by
  have := SameR.upd (s := s) (g := fun c => { c with runs := c.runs + 1, once := true }) hk ⟨rfl, rfl, rfl, rfl⟩ fun _ => rfl
  exact this j
theorem beg_inv (h : Inv s) (hk : k < s.cs.length) (ho : (s.at k).op ≠ 0) (hb : (s.at k).busy = true) : Inv (begM s k) :=
  Inv.most (h.upd (g := fun c => { c with runs := c.runs + 1, once := true }) hk ⟨rfl, rfl, rfl, rfl⟩ ho (fun e => by simp only at e; rw [hb] at e; cases e) (fun e => h.rec_ k ho e) (fun e => h.none_ k e) (h.since k)) _

def Good2 (br : Sh → Nat → Sh × (Int × Int)) (f : Nat) : Prop := ∀ s k, s.Ok → k < s.cs.length → s.phi < f → Inv s → (∀ b, (s.at b).busy = true → Need s b k) → Inv (br s k).1 ∧ Spec s k (br s k).2

/-- a run's end -/
theorem end_inv (h : Inv t) (hk : k < t.cs.length) (ho : (t.at k).op ≠ 0) (hb : (t.at k).busy = true) {deps : List Dep} {o : Int × Int} (hrec : RecOk { t.at k with ran := true, deps := deps, n := o.1, e := o.2 }) : Inv (endM t k deps o) :=
  h.upd (g := fun c => { c with ran := true, deps := deps, n := o.1, e := o.2 }) hk ⟨rfl, rfl, rfl, rfl⟩ ho (fun e => by simp only at e; rw [hb] at e; cases e) (fun _ => hrec) (fun e => by cases e) (h.since k)
theorem end_at (hk : k < t.cs.length) {deps : List Dep} {o : Int × Int} : ((endM t k deps o).at k).n = o.1 ∧ ((endM t k deps o).at k).e = o.2 := by
  have : (endM t k deps o).at k = { t.at k with ran := true, deps := deps, n := o.1, e := o.2 } := upd_at_same hk
  rw [this]; exact ⟨rfl, rfl⟩
theorem run_inv (hg : Good br f) (hb : Good2 br f) (ok : s.Ok) (hk : k < s.cs.length) (hbusy : (s.at k).busy = true) (hop : (s.at k).op ≠ 0) (hf : s.phi < f) (hi : Inv s) (hn : ∀ b, b ≠ k → (s.at b).busy = true → Need s b k) :
    Inv (runM br s k) ∧ Spec s k (((runM br s k).at k).n, ((runM br s k).at k).e) := by
  have hops := ok.ops _ (at_mem hk)
  have hlk := ok.looks _ (at_mem hk)
  have ha := hlk _ (looks_a ⟨by omega, hops.2⟩)
  have bs := beg_same hk
  have bat := beg_at hk
  have need1 : ∀ b, ((begM s k).at b).busy = true → Need (begM s k) b (s.at k).a.toNat := fun b hbb => by
    by_cases hbk : b = k
    · subst hbk; exact bs.need (Need.a hop)
    · rw [beg_but.busy b hbk] at hbb
      exact bs.need (.tr (hn b hbk hbb) (Need.a hop))
  have gx := hg (begM s k) (s.at k).a.toNat (beg_ok ok hk) (by rw [beg_len]; omega) (by rw [beg_phi]; exact hf)
  obtain ⟨ix, sx⟩ := hb (begM s k) (s.at k).a.toNat (beg_ok ok hk) (by rw [beg_len]; omega) (by rw [beg_phi]; exact hf) (beg_inv hi hk hop hbusy) need1
  have sx' : Spec s (s.at k).a.toNat (br (begM s k) (s.at k).a.toNat).2 := bs.spec.1 sx
  obtain ⟨x, hx⟩ : ∃ x, br (begM s k) (s.at k).a.toNat = x := ⟨_, rfl⟩
  rw [hx] at gx ix sx sx'
  have hxl : x.1.cs.length = s.cs.length := gx.keeps.len.trans beg_len
  have xat : x.1.at k = { s.at k with runs := (s.at k).runs + 1, once := true } := by rw [gx.keeps.held k (by rw [bat]; exact hbusy), bat]
  have hkx : k < x.1.cs.length := by omega
  have xop : (x.1.at k).op ≠ 0 := by rw [xat]; exact hop
  have xb : (x.1.at k).busy = true := by rw [xat]; exact hbusy
  by_cases h1 : x.2.2 ≠ 0
  · rw [runM_err rfl hx h1]
    refine ⟨end_inv ix hkx xop xb ?_, ?_⟩
    · rw [xat]; exact ⟨x.2.1, x.2.2, .inl ⟨h1, rfl, rfl⟩⟩
    · rw [(end_at hkx).1, (end_at hkx).2]; exact spec_err hop sx' h1
  · have h1' : x.2.2 = 0 := by simpa using h1
    by_cases h5 : (s.at k).op = 5
    · rw [runM_five rfl hx h1' h5, h5]
      refine ⟨end_inv ix hkx xop xb ?_, ?_⟩
      · rw [xat]; exact ⟨x.2.1, 0, .inr (.inl ⟨rfl, h5, by rw [h1'], rfl⟩)⟩
      · rw [(end_at hkx).1, (end_at hkx).2]; exact spec_five hop sx' h1' h5
    · have hnx : 0 ≤ nxt (s.at k) x.2.1 ∧ nxt (s.at k) x.2.1 < s.cs.length := by
        unfold nxt
        split
        · rename_i h; exact hlk _ (looks_c h.1)
        · exact hlk _ (looks_b ⟨by omega, by omega⟩)
      have xs : SameR s x.1 := fun j => by
        obtain ⟨a1, a2, a3, a4, a5⟩ := bs j
        obtain ⟨b1, b2, b3, b4, b5⟩ := SameR.of_keeps gx.keeps j
        exact ⟨b1.trans a1, b2.trans a2, b3.trans a3, b4.trans a4, fun e => (b5 (by rw [a1]; exact e)).trans (a5 e)⟩
      have hnb := need_b hop sx' h1' h5
      have hxp := gx.keeps.phi
      rw [beg_phi] at hxp
      have need2 : ∀ b, (x.1.at b).busy = true → Need x.1 b (nxt (s.at k) x.2.1).toNat := fun b hbb => by
        by_cases hbk : b = k
        · subst hbk; exact xs.need hnb
        · rw [gx.keeps.busy b, beg_but.busy b hbk] at hbb
          exact xs.need (.tr (hn b hbk hbb) hnb)
      have gy := hg x.1 (nxt (s.at k) x.2.1).toNat gx.ok (by omega) (by omega)
      obtain ⟨iy, sy⟩ := hb x.1 (nxt (s.at k) x.2.1).toNat gx.ok (by omega) (by omega) ix need2
      have sy' : Spec s (nxt (s.at k) x.2.1).toNat (br x.1 (nxt (s.at k) x.2.1).toNat).2 := xs.spec.1 sy
      have hsp := spec_two hop sx' h1' h5 sy'
      obtain ⟨kn, hnk⟩ : ∃ kn, (nxt (s.at k) x.2.1).toNat = kn := ⟨_, rfl⟩
      rw [hnk] at gy iy sy sy' hsp
      obtain ⟨y, hy⟩ : ∃ y, br x.1 kn = y := ⟨_, rfl⟩
      rw [hy] at gy iy sy sy' hsp
      rw [runM_two rfl hx h1' h5 rfl hnk hy]
      have hyl : k < y.1.cs.length := by rw [gy.keeps.len]; exact hkx
      have yat : y.1.at k = { s.at k with runs := (s.at k).runs + 1, once := true } := by rw [gy.keeps.held k xb, xat]
      have yop : (y.1.at k).op ≠ 0 := by rw [yat]; exact hop
      have yb : (y.1.at k).busy = true := by rw [yat]; exact hbusy
      by_cases h2 : y.2.2 ≠ 0
      · rw [if_pos h2] at hsp
        have e2 : ¬ (y.2.2 == 0) = true := by simpa using h2
        rw [if_neg e2]
        refine ⟨end_inv iy hyl yop yb ?_, ?_⟩
        · rw [yat]; exact ⟨x.2.1, 0, .inr (.inr ⟨rfl, h5, y.2.1, y.2.2, by rw [h1', ← hnk]; rfl, by rw [if_pos h2]⟩)⟩
        · rw [(end_at hyl).1, (end_at hyl).2]; exact hsp
      · rw [if_neg h2] at hsp
        have e2 : (y.2.2 == 0) = true := by simpa using h2
        rw [if_pos e2]
        refine ⟨end_inv iy hyl yop yb ?_, ?_⟩
        · rw [yat]; exact ⟨x.2.1, 0, .inr (.inr ⟨rfl, h5, y.2.1, y.2.2, by rw [h1', ← hnk]; rfl, by rw [if_neg h2]⟩)⟩
        · rw [(end_at hyl).1, (end_at hyl).2]; exact hsp
theorem check_cons (br : Sh → Nat → Sh × (Int × Int)) (s : Sh) (d : Dep) (r : List Dep) (a : Bool) {x : Sh × (Int × Int)} (hx : br s d.c = x) : checkM br s (d :: r) a = if x.2.1 = d.n ∧ x.2.2 = d.e then checkM br x.1 r a else (x.1, true) := by
  subst hx; rfl
theorem check_inv (hg : Good br f) (hb : Good2 br f) (ok : s.Ok) (hk : k < s.cs.length) (hop : (s.at k).op ≠ 0) (hf : s.phi < f) (hi : Inv s) (hn : ∀ b, b ≠ k → (s.at b).busy = true → Need s b k) {X : Sh × Bool} (hX : checkM br s (s.at k).deps (!(s.at k).ran) = X) :
    Inv X.1 ∧ (X.2 = false → Spec s k ((s.at k).n, (s.at k).e)) := by
  have hops := ok.ops _ (at_mem hk)
  have hlk := ok.looks _ (at_mem hk)
  have ha := hlk _ (looks_a ⟨by omega, hops.2⟩)
  have need1 : ∀ b, (s.at b).busy = true → Need s b (s.at k).a.toNat := fun b hbb => by
    by_cases hbk : b = k
    · subst hbk; exact Need.a hop
    · exact .tr (hn b hbk hbb) (Need.a hop)
  cases hr : (s.at k).ran with
  | false =>
    rw [hi.none_ k hr, hr] at hX
    subst hX
    exact ⟨hi, fun h => by cases h⟩
  | true =>
    obtain ⟨ix, sx⟩ := hb s (s.at k).a.toNat ok (by omega) hf hi need1
    have gx := hg s (s.at k).a.toNat ok (by omega) hf
    obtain ⟨x, hx⟩ : ∃ x, br s (s.at k).a.toNat = x := ⟨_, rfl⟩
    rw [hx] at ix sx gx
    rw [hr] at hX
    have one : ∀ n e : Int, (s.at k).deps = [⟨(s.at k).a.toNat, n, e⟩] → Inv X.1 ∧ (X.2 = false → x.2 = (n, e)) := fun n e hd => by
      rw [hd, check_cons br s _ _ _ hx] at hX
      by_cases hs : x.2.1 = n ∧ x.2.2 = e
      · rw [if_pos hs] at hX
        subst hX
        exact ⟨ix, fun _ => Prod.ext hs.1 hs.2⟩
      · rw [if_neg hs] at hX
        subst hX
        exact ⟨ix, fun h => by cases h⟩
    obtain ⟨n, e0, h | h | h⟩ := hi.rec_ k hop hr
    · obtain ⟨h1, hd, hne⟩ := h
      obtain ⟨o1, o2⟩ := one n e0 hd
      refine ⟨o1, fun h => ?_⟩
      rw [hne]
      exact spec_err hop sx (by rw [o2 h]; exact h1)
    · obtain ⟨h1, h5, hd, hne⟩ := h
      obtain ⟨o1, o2⟩ := one n 0 hd
      refine ⟨o1, fun h => ?_⟩
      have := spec_five hop sx (by rw [o2 h]) h5
      rw [o2 h] at this
      rw [hne]; exact this
    · obtain ⟨h1, h5, m, e1, hd, hne⟩ := h
      rw [hd, check_cons br s _ _ _ hx] at hX
      by_cases hs : x.2.1 = n ∧ x.2.2 = 0
      · rw [if_pos hs] at hX
        have hx2 : x.2 = (n, 0) := Prod.ext hs.1 hs.2
        rw [hx2] at sx
        have hnb := need_b hop sx rfl h5
        have hnx : 0 ≤ nxt (s.at k) n ∧ nxt (s.at k) n < s.cs.length := by
          unfold nxt
          split
          · rename_i h; exact hlk _ (looks_c h.1)
          · exact hlk _ (looks_b ⟨by omega, by omega⟩)
        have xs := SameR.of_keeps gx.keeps
        have need2 : ∀ b, (x.1.at b).busy = true → Need x.1 b (nxt (s.at k) n).toNat := fun b hbb => by
          rw [gx.keeps.busy b] at hbb
          by_cases hbk : b = k
          · subst hbk; exact xs.need hnb
          · exact xs.need (.tr (hn b hbk hbb) hnb)
        have hxp := gx.keeps.phi
        have hxl := gx.keeps.len
        obtain ⟨iy, sy⟩ := hb x.1 (nxt (s.at k) n).toNat gx.ok (by omega) (by omega) ix need2
        obtain ⟨y, hy⟩ : ∃ y, br x.1 (nxt (s.at k) n).toNat = y := ⟨_, rfl⟩
        rw [hy] at iy sy
        rw [check_cons br x.1 _ _ _ hy] at hX
        by_cases hs2 : y.2.1 = m ∧ y.2.2 = e1
        · rw [if_pos hs2] at hX
          subst hX
          refine ⟨iy, fun _ => ?_⟩
          have hy2 : y.2 = (m, e1) := Prod.ext hs2.1 hs2.2
          have := spec_two hop sx rfl h5 (xs.spec.1 sy)
          rw [hy2] at this
          rw [hne]; exact this
        · rw [if_neg hs2] at hX
          subst hX
          exact ⟨iy, fun h => by cases h⟩
      · rw [if_neg hs] at hX
        subst hX
        exact ⟨ix, fun h => by cases h⟩

theorem bring_inv : ∀ f, Good2 (bringM f) f := by
  intro f
  induction f with
  | zero => intro s k _ _ h; omega
  | succ f ih =>
    intro s k ok hk hf hi hn
    by_cases ho : (s.at k).op = 0
    · have e : bringM (f + 1) s k = (s, ((s.at k).n, (s.at k).e)) := by unfold bringM; simp only; rw [if_pos (.inl ho)]
      rw [e, hi.inp k ho]
      exact ⟨hi, Spec.val (ev_input (f := 0) ho)⟩
    · by_cases hb : (s.at k).busy = true
      · have e : bringM (f + 1) s k = (s, (0, 7)) := by
          unfold bringM; simp only; rw [if_neg (by rintro (h | ⟨_, h⟩); exact ho h; rw [hb] at h; cases h), if_pos hb]
        rw [e]
        exact ⟨hi, Spec.ring (need_self (hn k hb))⟩
      · have hb' : (s.at k).busy = false := by simpa using hb
        by_cases h1 : (s.at k).since = s.sets
        · have e : bringM (f + 1) s k = (s, ((s.at k).n, (s.at k).e)) := by unfold bringM; simp only; rw [if_pos (.inr ⟨h1, hb'⟩)]
          rw [e]
          exact ⟨hi, hi.fresh k ho hb' h1⟩
        · have hno : ¬ ((s.at k).op = 0 ∨ ((s.at k).since = s.sets ∧ (s.at k).busy = false)) := by rintro (h | ⟨h, _⟩); exact ho h; exact h1 h
          have hopen := open_of hno hb
          have hphi := phi_busy hk hopen
          obtain ⟨X, hX⟩ : ∃ X, checkM (bringM f) (s.upd k fun c => { c with busy := true }) (s.at k).deps (!(s.at k).ran) = X := ⟨_, rfl⟩
          rw [bring_eq hno hb hX]
          have ok1 : (s.upd k fun c => { c with busy := true }).Ok := ok.upd (fun _ => ⟨rfl, rfl, rfl, rfl⟩) (fun d hd => ok.deps (s.at k) (at_mem hk) d hd) (ok.errs (s.at k) (at_mem hk))
          have at1 : (s.upd k fun c => { c with busy := true }).at k = { s.at k with busy := true } := upd_at_same hk
          have ss1 : SameR s (s.upd k fun c => { c with busy := true }) := SameR.upd hk ⟨rfl, rfl, rfl, rfl⟩ fun _ => rfl
          have i1 : Inv (s.upd k fun c => { c with busy := true }) := hi.upd hk ⟨rfl, rfl, rfl, rfl⟩ ho (fun e => by cases e) (fun e => hi.rec_ k ho e) (fun e => hi.none_ k e) (hi.since k)
          have n1 : ∀ b, b ≠ k → ((s.upd k fun c => { c with busy := true }).at b).busy = true → Need (s.upd k fun c => { c with busy := true }) b k := fun b hbk hbb => by
            rw [upd_at_ne (Ne.symm hbk)] at hbb
            exact ss1.need (hn b hbb)
          have l1 : (s.upd k fun c => { c with busy := true }).cs.length = s.cs.length := upd_len
          have sets1 : (s.upd k fun c => { c with busy := true }).sets = s.sets := rfl
          generalize (s.upd k fun c => { c with busy := true }) = s1 at *
          have hX' : checkM (bringM f) s1 (s1.at k).deps (!(s1.at k).ran) = X := by rw [at1]; exact hX
          obtain ⟨iX, sX⟩ := check_inv (bring_good f) ih ok1 (by omega) (by rw [at1]; exact ho) (by omega) i1 n1 hX'
          obtain ⟨c1, c2, _, _⟩ := check_good (bring_good f) (s.at k).deps s1 (!(s.at k).ran) ok1 (by omega) (fun d hd => by rw [l1]; exact ok.deps _ (at_mem hk) d hd)
          rw [hX] at c1 c2
          have xat : X.1.at k = { s.at k with busy := true } := by rw [c1.held k (by rw [at1]), at1]
          have xs := SameR.of_keeps c1
          have hxp := c1.phi
          have hxl := c1.len
          -- behind the run, if there is one
          obtain ⟨y, hy, iy, sy, ky⟩ : ∃ y, y = (if X.2 = true then runM (bringM f) X.1 k else X.1) ∧ Inv y ∧ Spec s k ((y.at k).n, (y.at k).e) ∧ KeepsBut k X.1 y := by
            cases hX2 : X.2 with
            | true =>
              rw [if_pos rfl]
              obtain ⟨r1, r2⟩ := run_inv (bring_good f) ih c2 (k := k) (by omega) (by rw [xat]) (by rw [xat]; exact ho) (by omega) iX (fun b hbk hbb => by rw [c1.busy b] at hbb; exact xs.need (n1 b hbk hbb))
              obtain ⟨g1, _⟩ := run_good (bring_good f) c2 (k := k) (by omega) (by rw [xat]) (by rw [xat]; exact ho) (by omega)
              exact ⟨_, rfl, r1, ss1.spec.1 (xs.spec.1 r2), g1⟩
            | false =>
              rw [if_neg (by decide)]
              refine ⟨_, rfl, iX, ?_, ⟨rfl, rfl, fun _ => ⟨rfl, rfl, rfl, rfl⟩, fun _ _ => rfl, fun _ _ _ => rfl, fun _ _ _ => rfl, fun _ _ => .inl rfl, fun _ _ _ => rfl⟩⟩
              have := ss1.spec.1 (sX hX2)
              rw [at1] at this
              rw [xat]; exact this
          rw [← hy]
          have hyk : k < y.cs.length := by rw [ky.len]; omega
          have yop : (y.at k).op ≠ 0 := by rw [(ky.rule k).1, xat]; exact ho
          have ysets : y.sets = s.sets := by rw [ky.sets, c1.sets, sets1]
          have ys : SameR s y := fun j => by
            obtain ⟨a1, a2, a3, a4, a5⟩ := ss1 j
            obtain ⟨b1, b2, b3, b4, b5⟩ := xs j
            obtain ⟨d1, d2, d3, d4, d5⟩ := SameR.of_but ky (by rw [xat]; exact ho) j
            exact ⟨d1.trans (b1.trans a1), d2.trans (b2.trans a2), d3.trans (b3.trans a3), d4.trans (b4.trans a4), fun e => (d5 (by rw [b1, a1]; exact e)).trans ((b5 (by rw [a1]; exact e)).trans (a5 e))⟩
          unfold brEnd
          refine ⟨?_, sy⟩
          rw [upd_upd]
          refine iy.upd hyk ⟨rfl, rfl, rfl, rfl⟩ yop (fun _ _ => ys.spec.2 sy) (fun e => iy.rec_ k yop e) (fun e => iy.none_ k e) (by show s.sets ≤ y.sets; omega)
end
end Go.Proofs.YtnadldoebfmgmaaDoor.q
