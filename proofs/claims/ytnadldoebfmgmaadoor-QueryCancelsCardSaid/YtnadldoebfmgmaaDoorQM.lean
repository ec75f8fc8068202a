/-
  SHEETS, plainly: what package query does, as functions on lists (no program in sight).
-/
import Derived.Test.YtnadldoebfmgmaaDoorRows
namespace Go.Proofs.YtnadldoebfmgmaaDoor.q

/-- a cell to which a rule was led, with what it was -/
structure Dep where
  c : Nat
  n : Int
  e : Int
structure Cel where
  op : Int
  a : Int
  b : Int
  c : Int
  ran : Bool
  n : Int
  e : Int
  deps : List Dep
  since : Int
  busy : Bool
  once : Bool
  runs : Int
structure Sh where
  cs : List Cel
  sets : Int
  most : Int

def Cel.dflt : Cel := ⟨0, 0, 0, 0, false, 0, 0, [], 0, false, false, 0⟩
def Sh.at (s : Sh) (k : Nat) : Cel := s.cs.getD k Cel.dflt
def Sh.upd (s : Sh) (k : Nat) (f : Cel → Cel) : Sh := { s with cs := s.cs.modify k f }
/-- the cells at which a rule may look -/
def looksL (op a b c : Int) : List Int :=
  if op = 1 ∨ op = 2 ∨ op = 3 then [a, b] else if op = 4 then [a, b, c] else if op = 5 then [a] else []
def Cel.looks (x : Cel) : List Int := looksL x.op x.a x.b x.c

def posM (n m : Int) : Int := (n.tmod m + m) % m
def reckonM (op n0 n1 : Int) : Int :=
  if op = 1 then posM (posM n0 1000003 + posM n1 1000003) 1000003
  else if op = 2 then posM (posM n0 1000003 * posM n1 1000003) 1000003
  else if op = 3 then (if n0 < n1 then 1 else 0)
  else if op = 5 then posM n0 4
  else n1

/-- the deps are looked at again: is one not what it was? -/
def checkM (br : Sh → Nat → Sh × (Int × Int)) : Sh → List Dep → Bool → Sh × Bool
  | s, [], again => (s, again)
  | s, d :: r, again =>
    let x := br s d.c
    if x.2.1 = d.n ∧ x.2.2 = d.e then checkM br x.1 r again else (x.1, true)
/-- the rule's run has begun -/
def begM (s : Sh) (k : Nat) : Sh := { (s.upd k fun c => { c with runs := c.runs + 1, once := true }) with most := s.most - 1 }
/-- .. and ends -/
def endM (s : Sh) (k : Nat) (deps : List Dep) (o : Int × Int) : Sh := s.upd k fun c => { c with ran := true, deps := deps, n := o.1, e := o.2 }
def runM (br : Sh → Nat → Sh × (Int × Int)) (s : Sh) (k : Nat) : Sh :=
  let c := s.at k
  let x := br (begM s k) c.a.toNat
  let d0 : Dep := ⟨c.a.toNat, x.2.1, x.2.2⟩
  if x.2.2 ≠ 0 then endM x.1 k [d0] (0, 7)
  else if c.op = 5 then endM x.1 k [d0] (reckonM 5 x.2.1 0, 0)
  else
    let nx := if c.op = 4 ∧ x.2.1 = 0 then c.c else c.b
    let y := br x.1 nx.toNat
    let d1 : Dep := ⟨nx.toNat, y.2.1, y.2.2⟩
    if y.2.2 ≠ 0 then endM y.1 k [d0, d1] (0, 7) else endM y.1 k [d0, d1] (reckonM c.op x.2.1 y.2.1, 0)
/-- a cell is brought up to date -/
def bringM : Nat → Sh → Nat → Sh × (Int × Int)
  | 0, s, k => (s, ((s.at k).n, (s.at k).e))
  | f + 1, s, k =>
    let c := s.at k
    if c.op = 0 ∨ (c.since = s.sets ∧ c.busy = false) then (s, (c.n, c.e))
    else if c.busy = true then (s, (0, 7))
    else
      let x := checkM (bringM f) (s.upd k fun c => { c with busy := true }) c.deps (!c.ran)
      let y := if x.2 then runM (bringM f) x.1 k else x.1
      let z := y.upd k fun c => { c with since := s.sets, busy := false }
      (z, ((z.at k).n, (z.at k).e))

/-- cells that may still be brought up to date -/
def Cel.open_ (sets : Int) (c : Cel) : Bool := decide (c.op ≠ 0) && !c.busy && decide (c.since ≠ sets)
def Sh.phi (s : Sh) : Nat := (List.range s.cs.length).countP fun j => (s.at j).open_ s.sets

/-- as it must be: all that a rule may look at is there; what was looked at is there -/
structure Sh.Ok (s : Sh) : Prop where
  ops : ∀ c ∈ s.cs, 0 ≤ c.op ∧ c.op ≤ 5
  looks : ∀ c ∈ s.cs, ∀ x ∈ c.looks, 0 ≤ x ∧ x < s.cs.length
  deps : ∀ c ∈ s.cs, ∀ d ∈ c.deps, d.c < s.cs.length
  errs : ∀ c ∈ s.cs, c.e = 0 ∨ c.e = 7

section
variable {s : Sh} {k j : Nat} {f g : Cel → Cel}
theorem upd_at_same (h : k < s.cs.length) : (s.upd k f).at k = f (s.at k) := by
  unfold Sh.upd Sh.at
  simp only [List.getD_eq_getElem?_getD]
  rw [List.getElem?_modify_eq, List.getElem?_eq_getElem h]; rfl
theorem upd_at_ne (h : k ≠ j) : (s.upd k f).at j = s.at j := by
  unfold Sh.upd Sh.at
  simp only [List.getD_eq_getElem?_getD]
  rw [List.getElem?_modify_ne _ _ h]
theorem upd_len : (s.upd k f).cs.length = s.cs.length := by unfold Sh.upd; simp
theorem upd_sets : (s.upd k f).sets = s.sets := rfl
theorem upd_most : (s.upd k f).most = s.most := rfl
theorem at_mem (h : k < s.cs.length) : s.at k ∈ s.cs := by
  unfold Sh.at
  rw [List.getD_eq_getElem?_getD, List.getElem?_eq_getElem h]
  exact List.getElem_mem h
theorem mem_at {c : Cel} (h : c ∈ s.cs) : ∃ k, k < s.cs.length ∧ s.at k = c := by
  obtain ⟨k, hk, e⟩ := List.mem_iff_getElem.1 h
  refine ⟨k, hk, ?_⟩
  unfold Sh.at
  rw [List.getD_eq_getElem?_getD, List.getElem?_eq_getElem hk]
  exact e
end

/-- what a bringing keeps of a sheet: all but what is remembered of cells that are not being brought up to date -/
structure Keeps (s t : Sh) : Prop where
  len : t.cs.length = s.cs.length
  sets : t.sets = s.sets
  rule : ∀ j, (t.at j).op = (s.at j).op ∧ (t.at j).a = (s.at j).a ∧ (t.at j).b = (s.at j).b ∧ (t.at j).c = (s.at j).c
  busy : ∀ j, (t.at j).busy = (s.at j).busy
  held : ∀ j, (s.at j).busy = true → t.at j = s.at j
  still : ∀ j, (s.at j).since = s.sets → t.at j = s.at j
  runs : ∀ j, (t.at j).runs = (s.at j).runs ∨ ((t.at j).runs = (s.at j).runs + 1 ∧ (s.at j).op ≠ 0 ∧ (s.at j).since ≠ s.sets ∧ (t.at j).since = s.sets)
  input : ∀ j, (s.at j).op = 0 → t.at j = s.at j
theorem Keeps.refl (s : Sh) : Keeps s s := ⟨rfl, rfl, fun _ => ⟨rfl, rfl, rfl, rfl⟩, fun _ => rfl, fun _ _ => rfl, fun _ _ => rfl, fun _ => .inl rfl, fun _ _ => rfl⟩
theorem Keeps.trans {s t u : Sh} (h : Keeps s t) (h' : Keeps t u) : Keeps s u where
  len := h'.len.trans h.len
  sets := h'.sets.trans h.sets
  rule j := by
    obtain ⟨a1, a2, a3, a4⟩ := h.rule j
    obtain ⟨b1, b2, b3, b4⟩ := h'.rule j
    exact ⟨b1.trans a1, b2.trans a2, b3.trans a3, b4.trans a4⟩
  busy j := (h'.busy j).trans (h.busy j)
  held j hb := (h'.held j ((h.busy j).trans hb)).trans (h.held j hb)
  still j hs := (h'.still j (by rw [h.still j hs, hs, h.sets])).trans (h.still j hs)
  runs j := by
    rcases h.runs j with h1 | ⟨h1, h2, h3, h4⟩
    · rcases h'.runs j with k1 | ⟨k1, k2, k3, k4⟩
      · exact .inl (k1.trans h1)
      · refine .inr ⟨by rw [k1, h1], by rw [← (h.rule j).1]; exact k2, fun hs => k3 ?_, k4.trans h.sets⟩
        rw [h.still j hs, hs, h.sets]
    · have e := h'.still j (by rw [h4, h.sets])
      exact .inr ⟨by rw [e, h1], h2, h3, by rw [e, h4]⟩
  input j ho := (h'.input j (by rw [h.input j ho, ho])).trans (h.input j ho)
theorem count_le {p q : Nat → Bool} (n : Nat) (h : ∀ j, q j = true → p j = true) : (List.range n).countP q ≤ (List.range n).countP p :=
  List.countP_mono_left fun j _ hj => h j hj
theorem count_one {p q : Nat → Bool} {n k : Nat} (hk : k < n) (hp : p k = true) (hq : q k = false) (h : ∀ j, j ≠ k → q j = p j) : (List.range n).countP q + 1 = (List.range n).countP p := by
  induction n with
  | zero => omega
  | succ n ih =>
    rw [List.range_succ, List.countP_append, List.countP_append]
    by_cases e : k = n
    · subst e
      have : (List.range k).countP q = (List.range k).countP p := List.countP_congr fun j hj => by
        rw [h j (by have := List.mem_range.1 hj; omega)]
      rw [this]
      simp [hp, hq]
    · have := ih (by omega)
      have e2 : [n].countP q = [n].countP p := by simp [List.countP_cons, h n (Ne.symm e)]
      rw [e2]
      omega
theorem Keeps.phi {s t : Sh} (h : Keeps s t) : t.phi ≤ s.phi := by
  unfold Sh.phi
  rw [h.len]
  refine count_le _ fun j hj => ?_
  unfold Cel.open_ at hj ⊢
  rw [(h.rule j).1, h.busy j, h.sets] at hj
  simp only [Bool.and_eq_true, decide_eq_true_eq, Bool.not_eq_true'] at hj ⊢
  refine ⟨hj.1, fun e => hj.2 ?_⟩
  rw [h.still j e, e]
theorem phi_busy {s : Sh} {k : Nat} (hk : k < s.cs.length) (ho : (s.at k).open_ s.sets = true) : (s.upd k fun c => { c with busy := true }).phi + 1 = s.phi := by
  unfold Sh.phi
  rw [upd_len, upd_sets]
  refine count_one hk ho ?_ fun j hj => ?_
  · rw [upd_at_same hk]; simp [Cel.open_]
  · rw [upd_at_ne (Ne.symm hj)]
theorem open_of {s : Sh} {k : Nat} (h1 : ¬ ((s.at k).op = 0 ∨ ((s.at k).since = s.sets ∧ (s.at k).busy = false))) (h2 : ¬ (s.at k).busy = true) : (s.at k).open_ s.sets = true := by
  unfold Cel.open_
  have hb : (s.at k).busy = false := by simpa using h2
  have h3 : (s.at k).op ≠ 0 := fun e => h1 (.inl e)
  have h4 : (s.at k).since ≠ s.sets := fun e => h1 (.inr ⟨e, hb⟩)
  simp [hb, h3, h4]

/-- the rules, what was looked at, the errors of an updated sheet -/
theorem Sh.Ok.upd {s : Sh} (h : s.Ok) {k : Nat} {f : Cel → Cel} (hr : ∀ c, (f c).op = c.op ∧ (f c).a = c.a ∧ (f c).b = c.b ∧ (f c).c = c.c) (hd : ∀ d ∈ (f (s.at k)).deps, d.c < s.cs.length) (he : (f (s.at k)).e = 0 ∨ (f (s.at k)).e = 7) : (s.upd k f).Ok := by
  have key : ∀ c ∈ (s.upd k f).cs, c ∈ s.cs ∨ (k < s.cs.length ∧ c = f (s.at k)) := by
    intro c hc
    obtain ⟨j, hj, e⟩ := mem_at hc
    rw [upd_len] at hj
    by_cases hkj : k = j
    · subst hkj
      rw [upd_at_same hj] at e
      exact .inr ⟨hj, e.symm⟩
    · rw [upd_at_ne hkj] at e
      exact .inl (e ▸ at_mem hj)
  refine ⟨fun c hc => ?_, fun c hc x hx => ?_, fun c hc d hd' => ?_, fun c hc => ?_⟩
  · rcases key c hc with h1 | ⟨hk, rfl⟩
    · exact h.ops c h1
    · rw [(hr _).1]; exact h.ops _ (at_mem hk)
  · rw [upd_len]
    rcases key c hc with h1 | ⟨hk, rfl⟩
    · exact h.looks c h1 x hx
    · refine h.looks _ (at_mem hk) x ?_
      obtain ⟨r1, r2, r3, r4⟩ := hr (s.at k)
      unfold Cel.looks at hx ⊢
      rwa [r1, r2, r3, r4] at hx
  · rw [upd_len]
    rcases key c hc with h1 | ⟨hk, rfl⟩
    · exact h.deps c h1 d hd'
    · exact hd d hd'
  · rcases key c hc with h1 | ⟨hk, rfl⟩
    · exact h.errs c h1
    · exact he
end Go.Proofs.YtnadldoebfmgmaaDoor.q
