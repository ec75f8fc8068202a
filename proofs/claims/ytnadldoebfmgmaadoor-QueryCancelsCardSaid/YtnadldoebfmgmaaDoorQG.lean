/-
  SHEETS, plainly: what a bringing keeps; how often rules are run.
-/
import Derived.Test.YtnadldoebfmgmaaDoorQM
namespace Go.Proofs.YtnadldoebfmgmaaDoor.q

structure KeepsBut (k : Nat) (s t : Sh) : Prop where
  len : t.cs.length = s.cs.length
  sets : t.sets = s.sets
  rule : ∀ j, (t.at j).op = (s.at j).op ∧ (t.at j).a = (s.at j).a ∧ (t.at j).b = (s.at j).b ∧ (t.at j).c = (s.at j).c
  busy : ∀ j, j ≠ k → (t.at j).busy = (s.at j).busy
  held : ∀ j, j ≠ k → (s.at j).busy = true → t.at j = s.at j
  still : ∀ j, j ≠ k → (s.at j).since = s.sets → t.at j = s.at j
  runs : ∀ j, j ≠ k → (t.at j).runs = (s.at j).runs ∨ ((t.at j).runs = (s.at j).runs + 1 ∧ (s.at j).op ≠ 0 ∧ (s.at j).since ≠ s.sets ∧ (t.at j).since = s.sets)
  input : ∀ j, j ≠ k → (s.at j).op = 0 → t.at j = s.at j
theorem Keeps.but {s t : Sh} (h : Keeps s t) (k : Nat) : KeepsBut k s t :=
  ⟨h.len, h.sets, h.rule, fun j _ => h.busy j, fun j _ => h.held j, fun j _ => h.still j, fun j _ => h.runs j, fun j _ => h.input j⟩
theorem KeepsBut.trans {k : Nat} {s t u : Sh} (h : KeepsBut k s t) (h' : KeepsBut k t u) : KeepsBut k s u where
  len := h'.len.trans h.len
  sets := h'.sets.trans h.sets
  rule j := by
    obtain ⟨a1, a2, a3, a4⟩ := h.rule j
    obtain ⟨b1, b2, b3, b4⟩ := h'.rule j
    exact ⟨b1.trans a1, b2.trans a2, b3.trans a3, b4.trans a4⟩
  busy j hj := (h'.busy j hj).trans (h.busy j hj)
  held j hj hb := (h'.held j hj ((h.busy j hj).trans hb)).trans (h.held j hj hb)
  still j hj hs := (h'.still j hj (by rw [h.still j hj hs, hs, h.sets])).trans (h.still j hj hs)
  runs j hj := by
    rcases h.runs j hj with h1 | ⟨h1, h2, h3, h4⟩
    · rcases h'.runs j hj with k1 | ⟨k1, k2, k3, k4⟩
      · exact .inl (k1.trans h1)
      · refine .inr ⟨by rw [k1, h1], by rw [← (h.rule j).1]; exact k2, fun hs => k3 ?_, k4.trans h.sets⟩
        rw [h.still j hj hs, hs, h.sets]
    · have e := h'.still j hj (by rw [h4, h.sets])
      exact .inr ⟨by rw [e, h1], h2, h3, by rw [e, h4]⟩
  input j hj ho := (h'.input j hj (by rw [h.input j hj ho, ho])).trans (h.input j hj ho)
theorem keepsBut_upd {s : Sh} {k : Nat} {f : Cel → Cel} (hr : ∀ c, (f c).op = c.op ∧ (f c).a = c.a ∧ (f c).b = c.b ∧ (f c).c = c.c) : KeepsBut k s (s.upd k f) where
  len := upd_len
  sets := rfl
  rule j := by
    by_cases hkj : k = j
    · subst hkj
      rcases Nat.lt_or_ge k s.cs.length with h | h
      · rw [upd_at_same h]; exact hr _
      · have e : (s.upd k f).at k = s.at k := by
          unfold Sh.upd Sh.at
          simp only [List.getD_eq_getElem?_getD]
          rw [List.getElem?_eq_none h, List.getElem?_eq_none (by simpa using h)]
        rw [e]; exact ⟨rfl, rfl, rfl, rfl⟩
    · rw [upd_at_ne hkj]; exact ⟨rfl, rfl, rfl, rfl⟩
  busy j hj := by rw [upd_at_ne (Ne.symm hj)]
  held j hj _ := upd_at_ne (Ne.symm hj)
  still j hj _ := upd_at_ne (Ne.symm hj)
  runs j hj := .inl (by rw [upd_at_ne (Ne.symm hj)])
  input j hj _ := upd_at_ne (Ne.symm hj)
theorem keepsBut_most {s : Sh} {k : Nat} (m : Int) : KeepsBut k s { s with most := m } :=
  ⟨rfl, rfl, fun _ => ⟨rfl, rfl, rfl, rfl⟩, fun _ _ => rfl, fun _ _ _ => rfl, fun _ _ _ => rfl, fun _ _ => .inl rfl, fun _ _ _ => rfl⟩
theorem phi_same {s : Sh} {k : Nat} {f : Cel → Cel} (h : (f (s.at k)).open_ s.sets = (s.at k).open_ s.sets) : (s.upd k f).phi = s.phi := by
  unfold Sh.phi
  rw [upd_len, upd_sets]
  refine List.countP_congr fun j hj => ?_
  by_cases hkj : k = j
  · subst hkj
    rw [upd_at_same (List.mem_range.1 hj), h]
  · rw [upd_at_ne hkj]
theorem phi_most (s : Sh) (m : Int) : ({ s with most := m } : Sh).phi = s.phi := rfl

/-- what a bringing gives -/
structure Gives (s : Sh) (k : Nat) (x : Sh × (Int × Int)) : Prop where
  keeps : Keeps s x.1
  ok : x.1.Ok
  err : x.2.2 = 0 ∨ x.2.2 = 7
  most1 : x.1.most ≤ s.most
  most2 : s.most - s.phi ≤ x.1.most - x.1.phi
  fresh : (s.at k).op ≠ 0 → (s.at k).busy = false → (x.1.at k).since = s.sets
def Good (br : Sh → Nat → Sh × (Int × Int)) (f : Nat) : Prop := ∀ s k, s.Ok → k < s.cs.length → s.phi < f → Gives s k (br s k)

theorem check_good {br : Sh → Nat → Sh × (Int × Int)} {f : Nat} (hb : Good br f) : ∀ (l : List Dep) (s : Sh) (again : Bool), s.Ok → s.phi < f → (∀ d ∈ l, d.c < s.cs.length) →
    Keeps s (checkM br s l again).1 ∧ (checkM br s l again).1.Ok ∧ (checkM br s l again).1.most ≤ s.most ∧ s.most - s.phi ≤ (checkM br s l again).1.most - (checkM br s l again).1.phi := by
  intro l
  induction l with
  | nil => intro s again ok _ _; exact ⟨Keeps.refl s, ok, Int.le_refl _, Int.le_refl _⟩
  | cons d r ih =>
    intro s again ok hp hd
    have g := hb s d.c ok (hd d (List.mem_cons_self ..)) hp
    unfold checkM
    by_cases he : (br s d.c).2.1 = d.n ∧ (br s d.c).2.2 = d.e
    · simp only [he, and_self, if_true]
      have hph := g.keeps.phi
      obtain ⟨i1, i2, i3, i4⟩ := ih (br s d.c).1 again g.ok (by omega) (fun d' hd' => by rw [g.keeps.len]; exact hd d' (List.mem_cons_of_mem _ hd'))
      have := g.most1
      have := g.most2
      exact ⟨g.keeps.trans i1, i2, by omega, by omega⟩
    · simp only [he, if_false]
      exact ⟨g.keeps, g.ok, g.most1, g.most2⟩

theorem looks_a {c : Cel} (h : 1 ≤ c.op ∧ c.op ≤ 5) : c.a ∈ c.looks := by
  have : c.op = 1 ∨ c.op = 2 ∨ c.op = 3 ∨ c.op = 4 ∨ c.op = 5 := by omega
  unfold Cel.looks looksL
  rcases this with e | e | e | e | e <;> simp [e]
theorem looks_b {c : Cel} (h : 1 ≤ c.op ∧ c.op ≤ 4) : c.b ∈ c.looks := by
  have : c.op = 1 ∨ c.op = 2 ∨ c.op = 3 ∨ c.op = 4 := by omega
  unfold Cel.looks looksL
  rcases this with e | e | e | e <;> simp [e]
theorem looks_c {c : Cel} (h : c.op = 4) : c.c ∈ c.looks := by
  unfold Cel.looks looksL
  simp [h]

theorem beg_at {s : Sh} {k : Nat} (hk : k < s.cs.length) : (begM s k).at k = { s.at k with runs := (s.at k).runs + 1, once := true } := upd_at_same (s := s) hk
theorem beg_ok {s : Sh} {k : Nat} (ok : s.Ok) (hk : k < s.cs.length) : (begM s k).Ok := by
  have := ok.upd (k := k) (f := fun c => { c with runs := c.runs + 1, once := true }) (fun _ => ⟨rfl, rfl, rfl, rfl⟩) (fun d hd => ok.deps (s.at k) (at_mem hk) d hd) (ok.errs (s.at k) (at_mem hk))
  exact ⟨this.ops, this.looks, this.deps, this.errs⟩
theorem beg_but {s : Sh} {k : Nat} : KeepsBut k s (begM s k) := (keepsBut_upd (s := s) (k := k) (f := fun c => { c with runs := c.runs + 1, once := true }) fun _ => ⟨rfl, rfl, rfl, rfl⟩).trans (keepsBut_most _)
theorem beg_phi {s : Sh} {k : Nat} : (begM s k).phi = s.phi := phi_same (s := s) (k := k) (f := fun c => { c with runs := c.runs + 1, once := true }) rfl
theorem beg_len {s : Sh} {k : Nat} : (begM s k).cs.length = s.cs.length := upd_len (s := s)

/-- the end of a run -/
theorem end_good {s t : Sh} {k : Nat} {f : Nat} (hk : k < s.cs.length) (hbusy : (s.at k).busy = true) (hK : Keeps (begM s k) t) (ok : t.Ok) (hm1 : t.most ≤ s.most - 1) (hm2 : s.most - 1 - s.phi ≤ t.most - t.phi) (_hf : s.phi < f)
    {deps : List Dep} (hd : ∀ d ∈ deps, d.c < s.cs.length) {o : Int × Int} (ho : o.2 = 0 ∨ o.2 = 7) :
    KeepsBut k s (endM t k deps o) ∧ (endM t k deps o).Ok ∧ ((endM t k deps o).at k).since = (s.at k).since ∧ ((endM t k deps o).at k).busy = true ∧ ((endM t k deps o).at k).runs = (s.at k).runs + 1 ∧
      (endM t k deps o).most ≤ s.most - 1 ∧ s.most - 1 - s.phi ≤ (endM t k deps o).most - (endM t k deps o).phi := by
  have hlen : t.cs.length = s.cs.length := hK.len.trans beg_len
  have hat : t.at k = { s.at k with runs := (s.at k).runs + 1, once := true } := by
    rw [hK.held k (by rw [beg_at hk]; exact hbusy), beg_at hk]
  have hkt : k < t.cs.length := by omega
  have e : (endM t k deps o).at k = { t.at k with ran := true, deps := deps, n := o.1, e := o.2 } := upd_at_same (s := t) hkt
  have hphi : (endM t k deps o).phi = t.phi := phi_same (s := t) (k := k) (f := fun c => { c with ran := true, deps := deps, n := o.1, e := o.2 }) rfl
  refine ⟨(beg_but.trans (hK.but k)).trans (keepsBut_upd (s := t) fun _ => ⟨rfl, rfl, rfl, rfl⟩), ok.upd (fun _ => ⟨rfl, rfl, rfl, rfl⟩) (fun d h => by rw [hlen]; exact hd d h) ho, ?_, ?_, ?_, hm1, by rw [hphi]; exact hm2⟩
  · rw [e, hat]
  · rw [e, hat]; exact hbusy
  · rw [e, hat]

theorem run_good {br : Sh → Nat → Sh × (Int × Int)} {f : Nat} (hb : Good br f) {s : Sh} {k : Nat} (ok : s.Ok) (hk : k < s.cs.length) (hbusy : (s.at k).busy = true) (hop : (s.at k).op ≠ 0) (hf : s.phi < f) :
    KeepsBut k s (runM br s k) ∧ (runM br s k).Ok ∧ ((runM br s k).at k).since = (s.at k).since ∧ ((runM br s k).at k).busy = true ∧ ((runM br s k).at k).runs = (s.at k).runs + 1 ∧
      (runM br s k).most ≤ s.most - 1 ∧ s.most - 1 - s.phi ≤ (runM br s k).most - (runM br s k).phi := by
  have hops := ok.ops _ (at_mem hk)
  have hlk := ok.looks _ (at_mem hk)
  have ha := hlk _ (looks_a ⟨by omega, hops.2⟩)
  have gx := hb (begM s k) (s.at k).a.toNat (beg_ok ok hk) (by rw [beg_len]; omega) (by rw [beg_phi]; exact hf)
  have mx1 : (br (begM s k) (s.at k).a.toNat).1.most ≤ s.most - 1 := gx.most1
  have mx2 : s.most - 1 - s.phi ≤ (br (begM s k) (s.at k).a.toNat).1.most - (br (begM s k) (s.at k).a.toNat).1.phi := by
    have := gx.most2; rw [beg_phi] at this; exact this
  unfold runM
  simp only
  generalize hx : br (begM s k) (s.at k).a.toNat = x at *
  have hd0 : ∀ d ∈ [(⟨(s.at k).a.toNat, x.2.1, x.2.2⟩ : Dep)], d.c < s.cs.length := by
    intro d hd; simp only [List.mem_singleton] at hd; subst hd; show (s.at k).a.toNat < _; omega
  by_cases h1 : x.2.2 ≠ 0
  · rw [if_pos h1]
    exact end_good hk hbusy gx.keeps gx.ok mx1 mx2 hf hd0 (.inr rfl)
  · rw [if_neg h1]
    by_cases h5 : (s.at k).op = 5
    · rw [if_pos h5]
      exact end_good hk hbusy gx.keeps gx.ok mx1 mx2 hf hd0 (.inl rfl)
    · rw [if_neg h5]
      have hnx : 0 ≤ (if (s.at k).op = 4 ∧ x.2.1 = 0 then (s.at k).c else (s.at k).b) ∧ (if (s.at k).op = 4 ∧ x.2.1 = 0 then (s.at k).c else (s.at k).b) < s.cs.length := by
        split
        · rename_i h; exact hlk _ (looks_c h.1)
        · exact hlk _ (looks_b ⟨by omega, by omega⟩)
      generalize (if (s.at k).op = 4 ∧ x.2.1 = 0 then (s.at k).c else (s.at k).b) = nx at *
      have hxl : x.1.cs.length = s.cs.length := gx.keeps.len.trans beg_len
      have hxp := gx.keeps.phi
      rw [beg_phi] at hxp
      have gy := hb x.1 nx.toNat gx.ok (by omega) (by omega)
      generalize br x.1 nx.toNat = y at *
      have my1 := gy.most1
      have my2 := gy.most2
      have hd1 : ∀ d ∈ [(⟨(s.at k).a.toNat, x.2.1, x.2.2⟩ : Dep), ⟨nx.toNat, y.2.1, y.2.2⟩], d.c < s.cs.length := by
        intro d hd
        simp only [List.mem_cons, List.mem_nil_iff, or_false] at hd
        rcases hd with rfl | rfl
        · show (s.at k).a.toNat < _; omega
        · show nx.toNat < _; omega
      by_cases h2 : y.2.2 ≠ 0
      · rw [if_pos h2]
        exact end_good hk hbusy (gx.keeps.trans gy.keeps) gy.ok (by omega) (by omega) hf hd1 (.inr rfl)
      · rw [if_neg h2]
        exact end_good hk hbusy (gx.keeps.trans gy.keeps) gy.ok (by omega) (by omega) hf hd1 (.inl rfl)

theorem bring_good : ∀ f, Good (bringM f) f := by
  intro f
  induction f with
  | zero => intro s k _ _ h; omega
  | succ f ih =>
    intro s k ok hk hf
    unfold bringM
    simp only
    by_cases h1 : (s.at k).op = 0 ∨ ((s.at k).since = s.sets ∧ (s.at k).busy = false)
    · rw [if_pos h1]
      refine ⟨Keeps.refl s, ok, ok.errs _ (at_mem hk), Int.le_refl _, Int.le_refl _, fun h2 _ => ?_⟩
      rcases h1 with h | h
      · exact absurd h h2
      · exact h.1
    · rw [if_neg h1]
      by_cases h2 : (s.at k).busy = true
      · rw [if_pos h2]
        exact ⟨Keeps.refl s, ok, .inr rfl, Int.le_refl _, Int.le_refl _, fun _ h => by rw [h2] at h; cases h⟩
      · rw [if_neg h2]
        have hopen := open_of h1 h2
        have hphi := phi_busy hk hopen
        have hop : (s.at k).op ≠ 0 := fun e => h1 (.inl e)
        have hb0 : (s.at k).busy = false := by simpa using h2
        have hsn : (s.at k).since ≠ s.sets := fun e => h1 (.inr ⟨e, hb0⟩)
        have ok1 : (s.upd k fun c => { c with busy := true }).Ok := ok.upd (fun _ => ⟨rfl, rfl, rfl, rfl⟩) (fun d hd => ok.deps (s.at k) (at_mem hk) d hd) (ok.errs (s.at k) (at_mem hk))
        have at1 : (s.upd k fun c => { c with busy := true }).at k = { s.at k with busy := true } := upd_at_same hk
        have b1 : KeepsBut k s (s.upd k fun c => { c with busy := true }) := keepsBut_upd fun _ => ⟨rfl, rfl, rfl, rfl⟩
        have m1 : (s.upd k fun c => { c with busy := true }).most = s.most := rfl
        have l1 : (s.upd k fun c => { c with busy := true }).cs.length = s.cs.length := upd_len
        have s1s : (s.upd k fun c => { c with busy := true }).sets = s.sets := rfl
        generalize (s.upd k fun c => { c with busy := true }) = s1 at *
        obtain ⟨c1, c2, c3, c4⟩ := check_good ih (s.at k).deps s1 (!(s.at k).ran) ok1 (by omega) (fun d hd => by rw [l1]; exact ok.deps _ (at_mem hk) d hd)
        generalize checkM (bringM f) s1 (s.at k).deps (!(s.at k).ran) = x at *
        have xat : x.1.at k = { s.at k with busy := true } := by rw [c1.held k (by rw [at1]), at1]
        have hxl : x.1.cs.length = s.cs.length := c1.len.trans l1
        have hxp := c1.phi
        have hxs : x.1.sets = s.sets := c1.sets.trans s1s
        -- what the run, if there is one, leaves
        obtain ⟨y, hy, y1, y2, y3, y4, y5, y6, y7⟩ : ∃ y, y = (if x.2 = true then runM (bringM f) x.1 k else x.1) ∧ KeepsBut k x.1 y ∧ y.Ok ∧ (y.at k).since = (s.at k).since ∧ (y.at k).busy = true ∧ ((y.at k).runs = (s.at k).runs ∨ (y.at k).runs = (s.at k).runs + 1) ∧ y.most ≤ s.most ∧ s.most - s.phi ≤ y.most - y.phi := by
          by_cases h3 : x.2 = true
          · rw [if_pos h3]
            obtain ⟨r1, r2, r3, r4, r5, r6, r7⟩ := run_good (k := k) ih c2 (by omega) (by rw [xat]) (by rw [xat]; exact hop) (by omega)
            exact ⟨_, rfl, r1, r2, by rw [r3, xat], r4, .inr (by rw [r5, xat]), by omega, by omega⟩
          · rw [if_neg h3]
            refine ⟨_, rfl, ⟨rfl, rfl, fun _ => ⟨rfl, rfl, rfl, rfl⟩, fun _ _ => rfl, fun _ _ _ => rfl, fun _ _ _ => rfl, fun _ _ => .inl rfl, fun _ _ _ => rfl⟩, c2, by rw [xat], by rw [xat], .inl (by rw [xat]), by omega, by omega⟩
        rw [← hy]
        clear hy
        have hkb := (b1.trans (c1.but k)).trans y1
        have hyl : k < y.cs.length := by rw [hkb.len]; exact hk
        have zat : (y.upd k fun c => { c with since := s.sets, busy := false }).at k = { y.at k with since := s.sets, busy := false } := upd_at_same hyl
        have zb : KeepsBut k s (y.upd k fun c => { c with since := s.sets, busy := false }) := hkb.trans (keepsBut_upd fun _ => ⟨rfl, rfl, rfl, rfl⟩)
        have zphi : (y.upd k fun c => { c with since := s.sets, busy := false }).phi = y.phi := phi_same (by
          unfold Cel.open_
          rw [hkb.sets]
          simp [y4])
        have zok : (y.upd k fun c => { c with since := s.sets, busy := false }).Ok := y2.upd (fun _ => ⟨rfl, rfl, rfl, rfl⟩) (fun d hd => y2.deps (y.at k) (at_mem hyl) d hd) (y2.errs (y.at k) (at_mem hyl))
        have zm : (y.upd k fun c => { c with since := s.sets, busy := false }).most = y.most := rfl
        have zl : (y.upd k fun c => { c with since := s.sets, busy := false }).cs.length = y.cs.length := upd_len
        generalize (y.upd k fun c => { c with since := s.sets, busy := false }) = z at *
        refine ⟨⟨zb.len, zb.sets, zb.rule, fun j => ?_, fun j hj => ?_, fun j hj => ?_, fun j => ?_, fun j hj => ?_⟩, zok, zok.errs _ (at_mem (by omega)), by rw [zm]; exact y6, by rw [zm, zphi]; exact y7, fun _ _ => by rw [zat]⟩
        · by_cases hjk : j = k
          · subst hjk; rw [zat, hb0]
          · exact zb.busy j hjk
        · by_cases hjk : j = k
          · subst hjk; rw [hb0] at hj; cases hj
          · exact zb.held j hjk hj
        · by_cases hjk : j = k
          · subst hjk; exact absurd hj hsn
          · exact zb.still j hjk hj
        · by_cases hjk : j = k
          · subst hjk
            rcases y5 with h | h
            · exact .inl (by rw [zat]; exact h)
            · exact .inr ⟨by rw [zat]; exact h, hop, hsn, by rw [zat]⟩
          · exact zb.runs j hjk
        · by_cases hjk : j = k
          · subst hjk; exact absurd hj hop
          · exact zb.input j hjk hj
end Go.Proofs.YtnadldoebfmgmaaDoor.q
