/-
  THE WALK of (*amanuensisref7.S).True.
-/
import Derived.Test.YtnadldoebfmgmaaDoorR7Small
namespace Go.Proofs.YtnadldoebfmgmaaDoor.q
open Go.RowKit

def onV (on : List Bool) : List Value := on.map Value.bool
/-- what the rules must be -/
def RuOk (l : List Ru) : Prop := l.length ≤ 64 ∧ ∀ r ∈ l, r.bad l.length = false
theorem RuOk.get {l : List Ru} (h : RuOk l) {k : Nat} (hk : k < l.length) : (0 ≤ (l.getD k Ru.dflt).op ∧ (l.getD k Ru.dflt).op ≤ 5) ∧ ∀ x ∈ (l.getD k Ru.dflt).looks, 0 ≤ x ∧ x < l.length := by
  have h1 := h.2 _ (List.getElem_mem hk)
  rw [getD_lt hk]
  unfold Ru.bad at h1
  simp only [Bool.or_eq_false_iff, decide_eq_false_iff_not] at h1
  refine ⟨by omega, fun x hx => ?_⟩
  have h3 := List.any_eq_false.1 h1.2 x hx
  simp only [outB, Bool.or_eq_true, decide_eq_true_eq] at h3
  omega
theorem ru_cells {l : List Ru} {k : Nat} (hk : k < l.length) (j : Nat) (hj : j < 4) : (ruCells l)[k * 4 + j]? = ((l.getD k Ru.dflt).cells)[j]? := by rw [getD_lt hk]; exact ruCells_get l k j hj hk
theorem o_cells {vs : List Int} {k : Nat} (hk : k < vs.length) (j : Nat) (hj : j < 2) : (oCells vs)[k * 2 + j]? = ([.int .i64 (vs.getD k 0), .bool false] : List Value)[j]? := by rw [getD_lt hk]; exact oCells_get vs k j hj hk
/-- the contract of True, for ways that leave fewer than f cells -/
def TrOk (f : Nat) : Prop := ∀ (w : World) (H1 H2 rp : Nat) (l : List Ru) (vs : List Int) (k : Nat) (A : Option Addr) (c : Nat) (on : List Bool), Ref w H1 H2 rp l vs → H2 ≤ w.heap.size → RuOk l → (∀ x ∈ vs, I64 x) → k < l.length → on.length = l.length →
  Rd w w.heap.size 1 A on.length (onV on) → offs on < f →
  Calls Tryd.prog 9 #[.pointer (some ⟨rp, 0, none⟩), .int .i64 k, .slice A on.length c] w fun e w' => e = .returned (.agg #[.int .i64 (trueM l vs f k on).1, .bool (trueM l vs f k on).2]) ∧ Below w.heap.size w w'
theorem true_out {w : World} {g : Nat} {n : Int} {b : Bool} {tmps : Array Value} (h6 : tmps.getD 6 undef = .pointer (some ⟨g, 0, none⟩)) (hB : Blk w g 35 #[.int .i64 n, .bool b]) :
    (results Tryd.f9 tmps).run Tryd.prog w = .ok (.agg #[.int .i64 n, .bool b]) w :=
  results_cell_row (hu := Tryd.underlying35) (h := rfl) (tmps := tmps) (w := w) (g := g) (hp := h6) (hg := hB) (hd := rfl) (hi := by kernel_rfl)
theorem Ref.below {w w' : World} {H1 H2 rp : Nat} {l : List Ru} {vs : List Int} (h : Ref w H1 H2 rp l vs) (hz : H2 ≤ w.heap.size) (hb : Below w.heap.size w w') : Ref w' H1 H2 rp l vs := h.keep fun j _ hj => hb.block j (by omega)
/-- what a walk of True needs of the reference, at cell k -/
theorem ref_facts {w : World} {H1 H2 rp : Nat} {l : List Ru} {vs : List Int} {k : Nat} (h : Ref w H1 H2 rp l vs) (hk : k < l.length) :
    ∃ gR cR gI cI, w.cell? ⟨rp, 0, none⟩ = some (.slice (some ⟨gR, 0, none⟩) l.length cR) ∧ w.cell? ⟨rp, 1, none⟩ = some (.slice (some ⟨gI, 0, none⟩) l.length cI) ∧
      (w.cell? ⟨gR, k * 4, none⟩ = some (.int .i64 (l.getD k Ru.dflt).op) ∧ w.cell? ⟨gR, k * 4 + 1, none⟩ = some (.int .i64 (l.getD k Ru.dflt).a) ∧ w.cell? ⟨gR, k * 4 + 2, none⟩ = some (.int .i64 (l.getD k Ru.dflt).b) ∧ w.cell? ⟨gR, k * 4 + 3, none⟩ = some (.int .i64 (l.getD k Ru.dflt).c)) ∧
      (w.cell? ⟨gI, k * 2, none⟩ = some (.int .i64 (vs.getD k 0)) ∧ w.cell? ⟨gI, k * 2 + 1, none⟩ = some (.bool false)) ∧ gR < H2 ∧ gI < H2 := by
  obtain ⟨vR, vI, vF, x2, x3, x4, x6, x7, R⟩ := h
  obtain ⟨gR, cR, rfl, _, _⟩ := R.ru.form (by omega)
  obtain ⟨gI, cI, rfl, _, _⟩ := R.is.form (by omega)
  have m0 := R.blk.cell 0
  have m1 := R.blk.cell 1
  simp at m0 m1
  have hv : k < vs.length := by rw [R.vlen]; exact hk
  have a0 := own_cell R.ru (k * 4 + 0) _ ((ru_cells hk 0 (by omega)).trans rfl)
  have a1 := own_cell R.ru (k * 4 + 1) _ ((ru_cells hk 1 (by omega)).trans rfl)
  have a2 := own_cell R.ru (k * 4 + 2) _ ((ru_cells hk 2 (by omega)).trans rfl)
  have a3 := own_cell R.ru (k * 4 + 3) _ ((ru_cells hk 3 (by omega)).trans rfl)
  have b0 := own_cell R.is (k * 2 + 0) _ ((o_cells hv 0 (by omega)).trans rfl)
  have b1 := own_cell R.is (k * 2 + 1) _ ((o_cells hv 1 (by omega)).trans rfl)
  exact ⟨gR, cR, gI, cI, m0, m1, ⟨a0, a1, a2, a3⟩, ⟨b0, b1⟩, R.hr gR rfl, R.hI gI rfl⟩

theorem true_box {w w2 : World} (h : Below w.heap.size w w2) {x y : Value} (hB : Blk w2 w.heap.size 35 #[x, y]) (n : Int) (b : Bool) :
    Blk ((w2.setCell ⟨w.heap.size, 0, none⟩ (.int .i64 n)).setCell ⟨w.heap.size, 1, none⟩ (.bool b)) w.heap.size 35 #[.int .i64 n, .bool b] ∧
    Below w.heap.size w ((w2.setCell ⟨w.heap.size, 0, none⟩ (.int .i64 n)).setCell ⟨w.heap.size, 1, none⟩ (.bool b)) := by
  refine ⟨(hB.set_ 0 (.int .i64 n)).set_ 1 (.bool b), (h.setCell (p := ⟨w.heap.size, 0, none⟩) (Nat.le_refl _) _).setCell (p := ⟨w.heap.size, 1, none⟩) (Nat.le_refl _) _⟩
set_option maxHeartbeats 2000000 in
set_option maxRecDepth 100000 in
/-- an input -/
theorem true_input {f : Nat} (w : World) (H1 H2 rp : Nat) (l : List Ru) (vs : List Int) (k : Nat) (A : Option Addr) (c : Nat) (on : List Bool) (h : Ref w H1 H2 rp l vs) (hz : H2 ≤ w.heap.size) (hk : k < l.length) (ho : (l.getD k Ru.dflt).op = 0) :
    Calls Tryd.prog 9 #[.pointer (some ⟨rp, 0, none⟩), .int .i64 k, .slice A on.length c] w fun e w' => e = .returned (.agg #[.int .i64 (trueM l vs (f + 1) k on).1, .bool (trueM l vs (f + 1) k on).2]) ∧ Below w.heap.size w w' := by
  have hm : trueM l vs (f + 1) k on = (vs.getD k 0, false) := by unfold trueM; rw [if_pos ho]
  rw [hm]
  have h2 := h.below (w' := (w.alloc (.cells #[.int .i64 0, .bool false] 35))) hz ((Below.refl _ _).alloc (Nat.le_refl _) _)
  obtain ⟨gR, cR, gI, cI, m0, m1, ⟨a0, a1, a2, a3⟩, ⟨b0, b1⟩, hgR, hgI⟩ := ref_facts h2 hk
  rw [ho] at a0
  generalize (l.getD k Ru.dflt).a = ra at *
  generalize (l.getD k Ru.dflt).b = rb at *
  generalize (l.getD k Ru.dflt).c = rc at *
  have hrp : rp < w.heap.size + 1 := by
    have := World.block_lt_of_cell? _ ⟨rp, 0, none⟩ m0
    simpa using this
  have m1' : ((w.alloc (.cells #[.int .i64 0, .bool false] 35)).alloc (.cells #[.int .i64 0, .int .i64 ra, .int .i64 rb, .int .i64 rc] 83)).cell? ⟨rp, 1, none⟩ = some (.slice (some ⟨gI, 0, none⟩) l.length cI) := (cell_alloc _ _ _ _ (by simpa using hrp)).trans m1
  have b0' : ((w.alloc (.cells #[.int .i64 0, .bool false] 35)).alloc (.cells #[.int .i64 0, .int .i64 ra, .int .i64 rb, .int .i64 rc] 83)).cell? ⟨gI, k * 2, none⟩ = some (.int .i64 (vs.getD k 0)) := (cell_alloc _ _ _ _ (by simp; omega)).trans b0
  have b1' : ((w.alloc (.cells #[.int .i64 0, .bool false] 35)).alloc (.cells #[.int .i64 0, .int .i64 ra, .int .i64 rb, .int .i64 rc] 83)).cell? ⟨gI, k * 2 + 1, none⟩ = some (.bool false) := (cell_alloc _ _ _ _ (by simp; omega)).trans b1
  generalize vs.getD k 0 = v at *
  have i1 : (0 : Int) ≤ (k : Int) := by omega
  have i2 : (k : Int) < (l.length : Int) := by omega
  clear h h2 hm ho hrp
  go_enter Tryd.func9, Tryd.ntmps9
  go_wp2_with fail
  have hx := And.intro ((Blk.new w 35 #[.int .i64 v, .bool false]).alloc (.cells #[.int .i64 0, .int .i64 ra, .int .i64 rb, .int .i64 rc] 83)) (((Below.refl w.heap.size w).alloc (Nat.le_refl _) (.cells #[.int .i64 v, .bool false] 35)).alloc (by simp) (.cells #[.int .i64 0, .int .i64 ra, .int .i64 rb, .int .i64 rc] 83))
  exact bodyPost_ret (true_out (by rfl) hx.1) rfl ⟨rfl, hx.2⟩

set_option maxHeartbeats 2000000 in
set_option maxRecDepth 100000 in
/-- a ring -/
theorem true_on {f : Nat} (w : World) (H1 H2 rp : Nat) (l : List Ru) (vs : List Int) (k : Nat) (A : Option Addr) (c : Nat) (on : List Bool) (h : Ref w H1 H2 rp l vs) (hz : H2 ≤ w.heap.size) (hk : k < l.length) (hl : on.length = l.length)
    (hr : Rd w w.heap.size 1 A on.length (onV on)) (ho : (l.getD k Ru.dflt).op ≠ 0) (hon : on.getD k false = true) :
    Calls Tryd.prog 9 #[.pointer (some ⟨rp, 0, none⟩), .int .i64 k, .slice A on.length c] w fun e w' => e = .returned (.agg #[.int .i64 (trueM l vs (f + 1) k on).1, .bool (trueM l vs (f + 1) k on).2]) ∧ Below w.heap.size w w' := by
  have hm : trueM l vs (f + 1) k on = (0, true) := by unfold trueM; rw [if_neg ho, if_pos hon]
  rw [hm]
  have h2 := h.below (w' := (w.alloc (.cells #[.int .i64 0, .bool false] 35))) hz ((Below.refl _ _).alloc (Nat.le_refl _) _)
  obtain ⟨gR, cR, gI, cI, m0, m1, ⟨a0, a1, a2, a3⟩, ⟨b0, b1⟩, hgR, hgI⟩ := ref_facts h2 hk
  have hop : ((l.getD k Ru.dflt).op == 0) = false := by simpa using ho
  generalize (l.getD k Ru.dflt).op = op at *
  generalize (l.getD k Ru.dflt).a = ra at *
  generalize (l.getD k Ru.dflt).b = rb at *
  generalize (l.getD k Ru.dflt).c = rc at *
  obtain ⟨bo, oo, rfl, hbo, hcs⟩ := hr.2 (by omega)
  have con := hcs k (.bool true) (by unfold onV; rw [List.getElem?_map, List.getElem?_eq_getElem (by omega), ← hon, getD_lt (by omega)]; rfl)
  have con' : ((w.alloc (.cells #[.int .i64 0, .bool false] 35)).alloc (.cells #[.int .i64 op, .int .i64 ra, .int .i64 rb, .int .i64 rc] 83)).cell? ⟨bo, oo + k, none⟩ = some (.bool true) := (cell_alloc _ _ _ _ (by simp; omega)).trans ((cell_alloc _ _ _ _ hbo).trans con)
  have i1 : (0 : Int) ≤ (k : Int) := by omega
  have i2 : (k : Int) < (l.length : Int) := by omega
  have i3 : (k : Int) < (on.length : Int) := by omega
  clear h h2 hm ho hon hl hcs hr b0 b1 m1 con
  go_enter Tryd.func9, Tryd.ntmps9
  go_wp2_with fail
  have hx := And.intro ((Blk.new w 35 #[.int .i64 0, .bool true]).alloc (.cells #[.int .i64 op, .int .i64 ra, .int .i64 rb, .int .i64 rc] 83)) (((Below.refl w.heap.size w).alloc (Nat.le_refl _) (.cells #[.int .i64 0, .bool true] 35)).alloc (by simp) (.cells #[.int .i64 op, .int .i64 ra, .int .i64 rb, .int .i64 rc] 83))
  exact bodyPost_ret (true_out (by rfl) hx.1) rfl ⟨rfl, hx.2⟩

/-- the numbers are the machine's -/
theorem true_i64 {l : List Ru} {vs : List Int} (hv : ∀ x ∈ vs, I64 x) : ∀ f k on, I64 (trueM l vs f k on).1
  | 0, _, _ => i64_0
  | f + 1, k, on => by
    unfold trueM
    by_cases h0 : (l.getD k Ru.dflt).op = 0
    · rw [if_pos h0]
      show I64 (vs.getD k 0)
      rcases Nat.lt_or_ge k vs.length with hk | hk
      · rw [getD_lt hk]; exact hv _ (List.getElem_mem hk)
      · rw [List.getD_eq_getElem?_getD, List.getElem?_eq_none hk]; exact i64_0
    · rw [if_neg h0]
      by_cases h1 : on.getD k false = true
      · rw [if_pos h1]; exact i64_0
      · rw [if_neg h1]
        simp only
        have ha := true_i64 (l := l) hv f (l.getD k Ru.dflt).a.toNat (on.set k true)
        generalize trueM l vs f (l.getD k Ru.dflt).a.toNat (on.set k true) = x at *
        by_cases h2 : x.2 = true
        · rw [if_pos h2]; exact ha
        · rw [if_neg h2]
          by_cases h5 : (l.getD k Ru.dflt).op = 5
          · rw [if_pos h5]
            show I64 (lowR x.1 4)
            rw [lowR_eq _ _ (by omega)]
            have := posM_bd x.1 4 (by omega)
            exact ⟨by omega, by omega⟩
          · rw [if_neg h5]
            have hb := true_i64 (l := l) hv f (ruNx (l.getD k Ru.dflt) x.1).toNat (on.set k true)
            generalize trueM l vs f (ruNx (l.getD k Ru.dflt) x.1).toNat (on.set k true) = y at *
            by_cases h6 : (l.getD k Ru.dflt).op = 4 ∨ y.2 = true
            · rw [if_pos h6]; exact hb
            · rw [if_neg h6]
              show I64 (reckR (l.getD k Ru.dflt).op x.1 y.1)
              by_cases h7 : (l.getD k Ru.dflt).op = 1 ∨ (l.getD k Ru.dflt).op = 2 ∨ (l.getD k Ru.dflt).op = 3
              · rw [reckR_eq h7]; exact reckon_i64 hb
              · unfold reckR
                rw [if_neg (fun e => h7 (.inl e)), if_neg (fun e => h7 (.inr (.inl e)))]
                split <;> exact ⟨by omega, by omega⟩

theorem cell_addr {w : World} {o : Obj} {bo oo j H : Nat} {u : Value} (h : w.cell? ⟨bo, oo + j, none⟩ = some u) (_ : bo < H) : (w.alloc o).cell? ((⟨bo, oo, none⟩ : Addr).add j) = some u := by
  have hlt := World.block_lt_of_cell? w ⟨bo, oo + j, none⟩ h
  have e : (⟨bo, oo, none⟩ : Addr).add j = ⟨bo, oo + j, none⟩ := by
    unfold Addr.add
    by_cases hj : j = 0
    · subst hj; simp
    · simp [hj]
  rw [e]
  exact (cell_alloc _ _ _ _ hlt).trans h
set_option maxHeartbeats 8000000 in
set_option maxRecDepth 100000 in
/-- a cell that is reckoned -/
theorem true_go {f : Nat} (ih : TrOk f) (w : World) (H1 H2 rp : Nat) (l : List Ru) (vs : List Int) (k : Nat) (A : Option Addr) (c : Nat) (on : List Bool) (h : Ref w H1 H2 rp l vs) (hz : H2 ≤ w.heap.size) (hok : RuOk l) (hvs : ∀ x ∈ vs, I64 x) (hk : k < l.length) (hl : on.length = l.length)
    (hr : Rd w w.heap.size 1 A on.length (onV on)) (hf : offs on < f + 1) (ho : (l.getD k Ru.dflt).op ≠ 0) (hon : on.getD k false = false) :
    Calls Tryd.prog 9 #[.pointer (some ⟨rp, 0, none⟩), .int .i64 k, .slice A on.length c] w fun e w' => e = .returned (.agg #[.int .i64 (trueM l vs (f + 1) k on).1, .bool (trueM l vs (f + 1) k on).2]) ∧ Below w.heap.size w w' := by
  have hoff := offs_set on k (by omega) hon
  obtain ⟨⟨q1, q2⟩, hlk⟩ := hok.get hk
  have h64 := hok.1
  have h2 := h.below (w' := (w.alloc (.cells #[.int .i64 0, .bool false] 35))) hz ((Below.refl _ _).alloc (Nat.le_refl _) _)
  obtain ⟨gR, cR, gI, cI, m0, m1, ⟨a0, a1, a2, a3⟩, ⟨b0, b1⟩, hgR, hgI⟩ := ref_facts h2 hk
  have hop : ((l.getD k Ru.dflt).op == 0) = false := by simpa using ho
  obtain ⟨r, hrr⟩ : ∃ r, l.getD k Ru.dflt = r := ⟨_, rfl⟩
  rw [hrr] at ho q1 q2 hlk a0 a1 a2 a3 hop
  have Hrr := Lib.hid hrr
  clear hrr
  obtain ⟨bo, oo, rfl, hbo, hcs⟩ := hr.2 (by omega)
  have con := hcs k (.bool false) (by unfold onV; rw [List.getElem?_map, List.getElem?_eq_getElem (by omega), ← hon, getD_lt (by omega)]; rfl)
  have con' : ((w.alloc (.cells #[.int .i64 0, .bool false] 35)).alloc (.cells #[.int .i64 r.op, .int .i64 r.a, .int .i64 r.b, .int .i64 r.c] 83)).cell? ⟨bo, oo + k, none⟩ = some (.bool false) := (cell_alloc _ _ _ _ (by simp; omega)).trans ((cell_alloc _ _ _ _ hbo).trans con)
  have i1 : (0 : Int) ≤ (k : Int) := by omega
  have i2 : (k : Int) < (l.length : Int) := by omega
  have i3 : (k : Int) < (on.length : Int) := by omega
  have HR := Lib.hid h
  have Hcs := Lib.hid hcs
  have Hl := Lib.hid hl
  have Hon := Lib.hid hon
  have hl1 : 0 < on.length := by omega
  have hl2 : on.length ≤ 64 := by omega
  clear h h2 hon hl hcs hr b0 b1 m1 con
  go_enter Tryd.func9, Tryd.ntmps9
  go_upto_region 6 with fail
  have hb2 : Below w.heap.size w ((w.alloc (.cells #[.int .i64 0, .bool false] 35)).alloc (.cells #[.int .i64 r.op, .int .i64 r.a, .int .i64 r.b, .int .i64 r.c] 83)) := ((Below.refl _ _).alloc (Nat.le_refl _) _).alloc (by simp) _
  have hO : Blk ((w.alloc (.cells #[.int .i64 0, .bool false] 35)).alloc (.cells #[.int .i64 r.op, .int .i64 r.a, .int .i64 r.b, .int .i64 r.c] 83)) w.heap.size 35 #[.int .i64 0, .bool false] := (Blk.new _ _ _).alloc _
  have hRB : Blk ((w.alloc (.cells #[.int .i64 0, .bool false] 35)).alloc (.cells #[.int .i64 r.op, .int .i64 r.a, .int .i64 r.b, .int .i64 r.c] 83)) (w.heap.size + 1) 83 #[.int .i64 r.op, .int .i64 r.a, .int .i64 r.b, .int .i64 r.c] := blk_new1 _ _ _ _
  obtain ⟨H, hH⟩ : ∃ H, H = w.heap.size := ⟨_, rfl⟩
  have HhH := Lib.hid hH
  rw [← hH] at hb2 hO hRB hbo hz ⊢
  have HR2 : Hid (Ref ((w.alloc (.cells #[.int .i64 0, .bool false] 35)).alloc (.cells #[.int .i64 r.op, .int .i64 r.a, .int .i64 r.b, .int .i64 r.c] 83)) H1 H2 rp l vs) := HR.out.keep fun j _ hj => hb2.block j (by omega)
  have hs2 : H + 1 < ((w.alloc (.cells #[.int .i64 0, .bool false] 35)).alloc (.cells #[.int .i64 r.op, .int .i64 r.a, .int .i64 r.b, .int .i64 r.c] 83)).heap.size := hRB.lt
  have hcs2 : Hid (∀ j u, (onV on)[j]? = some u → ((w.alloc (.cells #[.int .i64 0, .bool false] 35)).alloc (.cells #[.int .i64 r.op, .int .i64 r.a, .int .i64 r.b, .int .i64 r.c] 83)).cell? ⟨bo, oo + j, none⟩ = some u) := fun j u hu => (hb2.cell (p := ⟨bo, oo + j, none⟩) hbo).trans (Hcs.out j u hu)
  clear hH m0 a0 a1 a2 a3 con' Hcs
  generalize (w.alloc (.cells #[.int .i64 0, .bool false] 35)).alloc (.cells #[.int .i64 r.op, .int .i64 r.a, .int .i64 r.b, .int .i64 r.c] 83) = w2 at *
  obtain ⟨ib, ji, jz0, jz1, jz2⟩ := info_parts infoBool7
  go_upto_region 7 with (at_builtin; refine wpList_append_lies _ rfl _ _ 37 rfl H 4 ib _ 1 1 Tryd.underlying37 ji jz0 jz1 jz2 rfl (by omega) (.slice (some ⟨w2.heap.size, 0, none⟩) 0 0) 0 [] rfl ⟨by simp, .inr ⟨w2.heap.size, 0, #[], rfl, by omega, heap_alloc_new w2 _, Nat.le_refl _, by unfold maxLen; omega, rfl, rfl⟩⟩ ⟨bo, oo, none⟩ on.length c (onV on) rfl (by simp [onV]) (fun j u hu => (cell_addr (hcs2.out j u hu) hbo)) (by intro u hu; simp only [onV, List.mem_map] at hu; obtain ⟨b, _, rfl⟩ := hu; rfl) hl1 (by unfold maxLen; omega) (by omega) (by simp; omega) (w2.heap.size + 1) (by simp) ?_; intro g cap w3 own3 hgrow hat hlt)
  have hw2s : w2.heap.size = w2.heap.size := rfl
  simp only [Nat.zero_add, List.nil_append] at own3
  have hgg : w2.heap.size ≤ g := by
    rcases hat with e | e
    · simp only [Value.ownBlock, Option.some.injEq] at e; omega
    · omega
  have hb3 : Below H w w3 := (hb2.alloc (by omega) (.cells #[] 4)).grown hgrow (by simp; omega) fun j hj => by simp only [Value.ownBlock, Option.some.injEq] at hj; omega
  have hO3 : Blk w3 H 35 #[.int .i64 0, .bool false] := (hO.alloc _).grown hgrow (by simp [Value.ownBlock]; omega)
  have hRB3 : Blk w3 (H + 1) 83 #[.int .i64 r.op, .int .i64 r.a, .int .i64 r.b, .int .i64 r.c] := (hRB.alloc _).grown hgrow (by simp [Value.ownBlock]; omega)
  clear hb2 hO hRB HR2 hcs2 hgrow hat hw2s
  have hon4 : (onV on)[k]? = some (.bool false) := by unfold onV; rw [List.getElem?_map, List.getElem?_eq_getElem (by have := Hl.out; omega), ← Hon.out, getD_lt (by have := Hl.out; omega)]; rfl
  have cg := own_cell own3 k _ hon4
  have fg := own3.frozenAt k
  have own4 := (own3.stored k (.bool true)).1
  have hb4 : Below H w (w3.setCell ⟨g, k, none⟩ (.bool true)) := hb3.setCell (p := ⟨g, k, none⟩) (by show H ≤ g; omega) _
  have hO4 := hO3.far (p := ⟨g, k, none⟩) (by show H ≠ g; omega) (.bool true)
  have hRB4 := hRB3.far (p := ⟨g, k, none⟩) (by show H + 1 ≠ g; omega) (.bool true)
  have HR4 : Hid (Ref (w3.setCell ⟨g, k, none⟩ (.bool true)) H1 H2 rp l vs) := HR.out.keep fun j _ hj => hb4.block j (by omega)
  have hs4 : H + 1 < (w3.setCell ⟨g, k, none⟩ (.bool true)).heap.size := hRB4.lt
  have hway : (onV on).set k (.bool true) = onV (on.set k true) := by unfold onV; rw [List.map_set]
  rw [hway] at own4
  have HC : Hid (∀ w' (kn : Nat), Below (w3.setCell ⟨g, k, none⟩ (.bool true)).heap.size (w3.setCell ⟨g, k, none⟩ (.bool true)) w' → kn < l.length → Calls Tryd.prog 9 #[.pointer (some ⟨rp, 0, none⟩), .int .i64 kn, .slice (some ⟨g, 0, none⟩) on.length cap] w' fun e w'' =>
      e = .returned (.agg #[.int .i64 (trueM l vs f kn (on.set k true)).1, .bool (trueM l vs f kn (on.set k true)).2]) ∧ Below w'.heap.size w' w'') := fun w' kn hb hkn => by
    have hlen : (on.set k true).length = on.length := by simp
    have h := ih w' H1 H2 rp l vs kn (some ⟨g, 0, none⟩) cap (on.set k true) (HR4.out.keep fun j _ hj => hb.block j (by omega)) (by have := hb.size; omega) hok hvs hkn (by rw [hlen]; exact Hl.out) (by
      rw [hlen]
      exact ((Rd.of_own own4).below hb).more hb.size) (by omega)
    rw [hlen] at h
    exact h
  clear own3 hb3 hO3 hRB3 own4 hway hon4
  go_upto_region 8 with fail
  clear cg fg
  generalize w3.setCell ⟨g, k, none⟩ (.bool true) = w4 at *
  have ca := hRB4.cell 1
  simp at ca
  have ha := hlk _ (looks_a (c := ruCel r) ⟨by show 1 ≤ r.op; omega, q2⟩)
  obtain ⟨ka, hka⟩ : ∃ ka : Nat, r.a = ka := ⟨r.a.toNat, by have : (0 : Int) ≤ r.a := ha.1; omega⟩
  have hka2 : ka < l.length := by have : r.a < (l.length : Int) := ha.2; omega
  rw [hka] at ca
  have hka3 : (l.getD k Ru.dflt).a.toNat = ka := by rw [Hrr.out, hka]; simp
  have Hka := Lib.hid hka3
  clear hka3
  have HC1 := Lib.hid (HC.out w4 ka (Below.refl _ _) hka2)
  have hx64 := true_i64 (l := l) hvs f ka (on.set k true)
  obtain ⟨x, hx⟩ : ∃ x, trueM l vs f ka (on.set k true) = x := ⟨_, rfl⟩
  rw [hx] at HC1 hx64
  have Hx := Lib.hid hx
  clear hx ha hka
  obtain ⟨xn, xr⟩ := x
  simp only at hx64
  go_wp2_with fail
  refine HC1.out.mono ?_
  rintro e w5 ⟨rfl, hb5⟩
  go_upto_region 9 with fail
  have hz5 := hb5.size
  have hB9 := Blk.new w5 35 #[.int .i64 xn, .bool xr]
  have hb6 : Below w4.heap.size w4 (w5.alloc (.cells #[.int .i64 xn, .bool xr] 35)) := hb5.alloc hz5 _
  obtain ⟨b9, hb9⟩ : ∃ b9, b9 = w5.heap.size := ⟨_, rfl⟩
  have h9 : w4.heap.size ≤ b9 := by omega
  rw [← hb9] at hB9 ⊢
  clear hb9 hz5 hb5 HC1
  have hO6 := hO4.below hb6 hO4.lt
  have hRB6 := hRB4.below hb6 hRB4.lt
  have hbW6 : Below H w (w5.alloc (.cells #[.int .i64 xn, .bool xr] 35)) := hb4.trans (hb6.mono (by omega))
  generalize w5.alloc (.cells #[.int .i64 xn, .bool xr] 35) = w6 at *
  clear hO4 hRB4 hb4
  have x0 := hB9.cell 0
  have x1 := hB9.cell 1
  have o0 := hO6.cell 0
  have o1 := hO6.cell 1
  have fo0 := hO6.frozen 0
  have fo1 := hO6.frozen 1
  have r0 := hRB6.cell 0
  have r2 := hRB6.cell 2
  have r3 := hRB6.cell 3
  simp at x0 x1 o0 o1 r0 r2 r3
  have hbX := fun n b => true_box (w := w) (w2 := w6) (x := .int .i64 0) (y := .bool false) (by rw [← HhH.out]; exact hbW6) (by rw [← HhH.out]; exact hO6) n b
  rw [← HhH.out] at hbX
  have HBX := Lib.hid hbX
  clear hbX
  cases xr with
  | true =>
    have hm : Hid (trueM l vs (f + 1) k on = (xn, true)) := by
      show _ = _
      unfold trueM
      rw [if_neg (by rw [Hrr.out]; exact ho), if_neg (by rw [Hon.out]; simp), Hka.out, Hx.out]
      simp
    go_wp2_with fail
    rw [hm.out]
    obtain ⟨y1, y2⟩ := HBX.out xn true
    exact bodyPost_ret (true_out (by rfl) y1) rfl ⟨rfl, by rw [← HhH.out]; exact y2⟩
  | false =>
    by_cases h5 : r.op = 5
    · have e5 : (r.op == 5) = true := by simpa using h5
      have hm : Hid (trueM l vs (f + 1) k on = (lowR xn 4, false)) := by
        show _ = _
        unfold trueM
        rw [if_neg (by rw [Hrr.out]; exact ho), if_neg (by rw [Hon.out]; simp), Hka.out, Hx.out]
        simp only [Hrr.out, h5, if_true]
        simp
      clear h5
      go_wp2_with fail
      refine (low_walk xn 4 _ (by omega) (by omega) hx64).mono ?_
      rintro e w' ⟨rfl, rfl⟩
      go_wp2_with fail
      rw [hm.out]
      obtain ⟨y1, y2⟩ := HBX.out (lowR xn 4) false
      exact bodyPost_ret (true_out (by rfl) y1) rfl ⟨rfl, by rw [← HhH.out]; exact y2⟩
    · have e5 : (r.op == 5) = false := by simpa using h5
      have hb1 := hlk _ (looks_b (c := ruCel r) ⟨by show 1 ≤ r.op; omega, by show r.op ≤ 4; omega⟩)
      by_cases h4 : r.op = 4
      · have e4 : (r.op == 4) = true := by simpa using h4
        have hc1 := hlk _ (looks_c (c := ruCel r) h4)
        by_cases hx0 : xn = 0
        · have en : (xn == 0) = true := by simpa using hx0
          have hn : 0 ≤ r.c ∧ r.c < (l.length : Int) := hc1
          clear hb1 hc1
          obtain ⟨kn, hkn⟩ : ∃ kn : Nat, r.c = kn := ⟨(r.c).toNat, by have : (0 : Int) ≤ r.c := hn.1; omega⟩
          have hkn2 : kn < l.length := by have : r.c < (l.length : Int) := hn.2; omega
          rw [hkn] at r3
          have hnk : (ruNx (l.getD k Ru.dflt) xn).toNat = kn := by rw [Hrr.out]; unfold ruNx; rw [if_pos ⟨h4, hx0⟩]; rw [hkn]; simp
          have Hnk := Lib.hid hnk
          have HC2 := Lib.hid (HC.out w6 kn hb6 hkn2)
          have hy64 := true_i64 (l := l) hvs f kn (on.set k true)
          obtain ⟨y, hy⟩ : ∃ y, trueM l vs f kn (on.set k true) = y := ⟨_, rfl⟩
          rw [hy] at HC2 hy64
          have Hy := Lib.hid hy
          have Hop := Lib.hid h4
          have H5 := Lib.hid h5
          clear hy hnk hkn h4 h5 hn hx0
          obtain ⟨yn, yr⟩ := y
          simp only at hy64
          go_wp2_with fail
          refine HC2.out.mono ?_
          rintro e w7 ⟨rfl, hb7⟩
          go_upto_region 18 with fail
          have hz7 := hb7.size
          have hz6 := hb6.size
          have hB12 := Blk.new w7 35 #[.int .i64 yn, .bool yr]
          have hb8 : Below w6.heap.size w6 (w7.alloc (.cells #[.int .i64 yn, .bool yr] 35)) := hb7.alloc hz7 _
          obtain ⟨b12, hb12⟩ : ∃ b12, b12 = w7.heap.size := ⟨_, rfl⟩
          have h12 : w6.heap.size ≤ b12 := by omega
          rw [← hb12] at hB12 ⊢
          clear hb12 hz7 hb7 HC2
          have hO8 := hO6.below hb8 hO6.lt
          have hRB8 := hRB6.below hb8 hRB6.lt
          have hB98 := hB9.below hb8 hB9.lt
          have hbW8 : Below H w (w7.alloc (.cells #[.int .i64 yn, .bool yr] 35)) := hbW6.trans (hb8.mono (by omega))
          generalize w7.alloc (.cells #[.int .i64 yn, .bool yr] 35) = w8 at *
          clear x0 x1 o0 o1 fo0 fo1 r0 r2 r3 HBX
          have y0 := hB12.cell 0
          have y1 := hB12.cell 1
          have x0 := hB98.cell 0
          have o0 := hO8.cell 0
          have o1 := hO8.cell 1
          have fo0 := hO8.frozen 0
          have fo1 := hO8.frozen 1
          have r0 := hRB8.cell 0
          simp at y0 y1 x0 o0 o1 r0
          have hbX := fun n b => true_box (w := w) (w2 := w8) (x := .int .i64 0) (y := .bool false) (by rw [← HhH.out]; exact hbW8) (by rw [← HhH.out]; exact hO8) n b
          rw [← HhH.out] at hbX
          have HBX := Lib.hid hbX
          clear hbX
          have hm : Hid (trueM l vs (f + 1) k on = (yn, yr)) := by
            show _ = _
            unfold trueM
            rw [if_neg (by rw [Hrr.out]; exact ho), if_neg (by rw [Hon.out]; simp), Hka.out, Hx.out]
            simp only [Bool.false_eq_true, if_false]
            rw [if_neg (by rw [Hrr.out]; exact H5.out), Hnk.out, Hy.out]
            rw [if_pos (.inl (by rw [Hrr.out]; exact Hop.out))]
          go_wp2_with fail
          rw [hm.out]
          obtain ⟨z1, z2⟩ := HBX.out yn yr
          exact bodyPost_ret (true_out (by rfl) z1) rfl ⟨rfl, by rw [← HhH.out]; exact z2⟩
        · have en : (xn == 0) = false := by simpa using hx0
          have hn : 0 ≤ r.b ∧ r.b < (l.length : Int) := hb1
          clear hb1 hc1
          obtain ⟨kn, hkn⟩ : ∃ kn : Nat, r.b = kn := ⟨(r.b).toNat, by have : (0 : Int) ≤ r.b := hn.1; omega⟩
          have hkn2 : kn < l.length := by have : r.b < (l.length : Int) := hn.2; omega
          rw [hkn] at r2
          have hnk : (ruNx (l.getD k Ru.dflt) xn).toNat = kn := by rw [Hrr.out]; unfold ruNx; rw [if_neg (fun e => hx0 e.2)]; rw [hkn]; simp
          have Hnk := Lib.hid hnk
          have HC2 := Lib.hid (HC.out w6 kn hb6 hkn2)
          have hy64 := true_i64 (l := l) hvs f kn (on.set k true)
          obtain ⟨y, hy⟩ : ∃ y, trueM l vs f kn (on.set k true) = y := ⟨_, rfl⟩
          rw [hy] at HC2 hy64
          have Hy := Lib.hid hy
          have Hop := Lib.hid h4
          have H5 := Lib.hid h5
          clear hy hnk hkn h4 h5 hn hx0
          obtain ⟨yn, yr⟩ := y
          simp only at hy64
          go_wp2_with fail
          refine HC2.out.mono ?_
          rintro e w7 ⟨rfl, hb7⟩
          go_upto_region 18 with fail
          have hz7 := hb7.size
          have hz6 := hb6.size
          have hB12 := Blk.new w7 35 #[.int .i64 yn, .bool yr]
          have hb8 : Below w6.heap.size w6 (w7.alloc (.cells #[.int .i64 yn, .bool yr] 35)) := hb7.alloc hz7 _
          obtain ⟨b12, hb12⟩ : ∃ b12, b12 = w7.heap.size := ⟨_, rfl⟩
          have h12 : w6.heap.size ≤ b12 := by omega
          rw [← hb12] at hB12 ⊢
          clear hb12 hz7 hb7 HC2
          have hO8 := hO6.below hb8 hO6.lt
          have hRB8 := hRB6.below hb8 hRB6.lt
          have hB98 := hB9.below hb8 hB9.lt
          have hbW8 : Below H w (w7.alloc (.cells #[.int .i64 yn, .bool yr] 35)) := hbW6.trans (hb8.mono (by omega))
          generalize w7.alloc (.cells #[.int .i64 yn, .bool yr] 35) = w8 at *
          clear x0 x1 o0 o1 fo0 fo1 r0 r2 r3 HBX
          have y0 := hB12.cell 0
          have y1 := hB12.cell 1
          have x0 := hB98.cell 0
          have o0 := hO8.cell 0
          have o1 := hO8.cell 1
          have fo0 := hO8.frozen 0
          have fo1 := hO8.frozen 1
          have r0 := hRB8.cell 0
          simp at y0 y1 x0 o0 o1 r0
          have hbX := fun n b => true_box (w := w) (w2 := w8) (x := .int .i64 0) (y := .bool false) (by rw [← HhH.out]; exact hbW8) (by rw [← HhH.out]; exact hO8) n b
          rw [← HhH.out] at hbX
          have HBX := Lib.hid hbX
          clear hbX
          have hm : Hid (trueM l vs (f + 1) k on = (yn, yr)) := by
            show _ = _
            unfold trueM
            rw [if_neg (by rw [Hrr.out]; exact ho), if_neg (by rw [Hon.out]; simp), Hka.out, Hx.out]
            simp only [Bool.false_eq_true, if_false]
            rw [if_neg (by rw [Hrr.out]; exact H5.out), Hnk.out, Hy.out]
            rw [if_pos (.inl (by rw [Hrr.out]; exact Hop.out))]
          go_wp2_with fail
          rw [hm.out]
          obtain ⟨z1, z2⟩ := HBX.out yn yr
          exact bodyPost_ret (true_out (by rfl) z1) rfl ⟨rfl, by rw [← HhH.out]; exact z2⟩
      · have e4 : (r.op == 4) = false := by simpa using h4
        have hn : 0 ≤ r.b ∧ r.b < (l.length : Int) := hb1
        clear hb1
        obtain ⟨kn, hkn⟩ : ∃ kn : Nat, r.b = kn := ⟨(r.b).toNat, by have : (0 : Int) ≤ r.b := hn.1; omega⟩
        have hkn2 : kn < l.length := by have : r.b < (l.length : Int) := hn.2; omega
        rw [hkn] at r2
        have hnk : (ruNx (l.getD k Ru.dflt) xn).toNat = kn := by rw [Hrr.out]; unfold ruNx; rw [if_neg (fun e => h4 e.1)]; rw [hkn]; simp
        have Hnk := Lib.hid hnk
        have HC2 := Lib.hid (HC.out w6 kn hb6 hkn2)
        have hy64 := true_i64 (l := l) hvs f kn (on.set k true)
        obtain ⟨y, hy⟩ : ∃ y, trueM l vs f kn (on.set k true) = y := ⟨_, rfl⟩
        rw [hy] at HC2 hy64
        have Hy := Lib.hid hy
        have Hop := Lib.hid h4
        have H5 := Lib.hid h5
        clear hy hnk hkn h4 h5 hn 
        obtain ⟨yn, yr⟩ := y
        simp only at hy64
        go_wp2_with fail
        refine HC2.out.mono ?_
        rintro e w7 ⟨rfl, hb7⟩
        go_upto_region 18 with fail
        have hz7 := hb7.size
        have hz6 := hb6.size
        have hB12 := Blk.new w7 35 #[.int .i64 yn, .bool yr]
        have hb8 : Below w6.heap.size w6 (w7.alloc (.cells #[.int .i64 yn, .bool yr] 35)) := hb7.alloc hz7 _
        obtain ⟨b12, hb12⟩ : ∃ b12, b12 = w7.heap.size := ⟨_, rfl⟩
        have h12 : w6.heap.size ≤ b12 := by omega
        rw [← hb12] at hB12 ⊢
        clear hb12 hz7 hb7 HC2
        have hO8 := hO6.below hb8 hO6.lt
        have hRB8 := hRB6.below hb8 hRB6.lt
        have hB98 := hB9.below hb8 hB9.lt
        have hbW8 : Below H w (w7.alloc (.cells #[.int .i64 yn, .bool yr] 35)) := hbW6.trans (hb8.mono (by omega))
        generalize w7.alloc (.cells #[.int .i64 yn, .bool yr] 35) = w8 at *
        clear x0 x1 o0 o1 fo0 fo1 r0 r2 r3 HBX
        have y0 := hB12.cell 0
        have y1 := hB12.cell 1
        have x0 := hB98.cell 0
        have o0 := hO8.cell 0
        have o1 := hO8.cell 1
        have fo0 := hO8.frozen 0
        have fo1 := hO8.frozen 1
        have r0 := hRB8.cell 0
        simp at y0 y1 x0 o0 o1 r0
        have hbX := fun n b => true_box (w := w) (w2 := w8) (x := .int .i64 0) (y := .bool false) (by rw [← HhH.out]; exact hbW8) (by rw [← HhH.out]; exact hO8) n b
        rw [← HhH.out] at hbX
        have HBX := Lib.hid hbX
        clear hbX
        cases yr with
        | true =>
          have hm : Hid (trueM l vs (f + 1) k on = (yn, true)) := by
            show _ = _
            unfold trueM
            rw [if_neg (by rw [Hrr.out]; exact ho), if_neg (by rw [Hon.out]; simp), Hka.out, Hx.out]
            simp only [Bool.false_eq_true, if_false]
            rw [if_neg (by rw [Hrr.out]; exact H5.out), Hnk.out, Hy.out]
            rw [if_pos (.inr rfl)]
          go_wp2_with fail
          rw [hm.out]
          obtain ⟨z1, z2⟩ := HBX.out yn true
          exact bodyPost_ret (true_out (by rfl) z1) rfl ⟨rfl, by rw [← HhH.out]; exact z2⟩
        | false =>
          have hm : Hid (trueM l vs (f + 1) k on = (reckR r.op xn yn, false)) := by
            show _ = _
            unfold trueM
            rw [if_neg (by rw [Hrr.out]; exact ho), if_neg (by rw [Hon.out]; simp), Hka.out, Hx.out]
            simp only [Bool.false_eq_true, if_false]
            rw [if_neg (by rw [Hrr.out]; exact H5.out), Hnk.out, Hy.out]
            rw [if_neg (by rw [Hrr.out]; rintro (e | e); exact Hop.out e; cases e), Hrr.out]
          have p0 := posM_bd xn 1000003 (by omega)
          have p1 := posM_bd yn 1000003 (by omega)
          rw [← lowR_eq _ _ (by omega)] at p0 p1
          have hops : r.op = 1 ∨ r.op = 2 ∨ r.op = 3 := by have := Hop.out; have := H5.out; omega
          have hmb := mul_bd p0 p1
          have hlw : ∀ w, Calls Tryd.prog 24 #[.int .i64 xn, .int .i64 1000003] w fun e w' => e = .returned (.int .i64 (lowR xn 1000003)) ∧ w = w' := fun w => low_walk xn 1000003 w (by omega) (by omega) hx64
          have hlw2 : ∀ w, Calls Tryd.prog 24 #[.int .i64 yn, .int .i64 1000003] w fun e w' => e = .returned (.int .i64 (lowR yn 1000003)) ∧ w = w' := fun w => low_walk yn 1000003 w (by omega) (by omega) hy64
          have HL1 := Lib.hid hlw
          have HL2 := Lib.hid hlw2
          clear hlw hlw2
          rcases hops with h1 | h1 | h1
          · have hv : Hid (reckR r.op xn yn = ((lowR xn 1000003 + lowR yn 1000003).tmod 1000003)) := by show _ = _; unfold reckR; simp [h1]
            rw [h1] at r0
            clear h1
            generalize hqa : lowR xn 1000003 = qa at *
            generalize hqb : lowR yn 1000003 = qb at *
            go_wp2_with fail
            refine (HL1.out _).mono ?_
            rintro e w' ⟨rfl, rfl⟩
            go_wp2_with fail
            refine (HL2.out _).mono ?_
            rintro e w' ⟨rfl, rfl⟩
            go_wp2_with fail
            rw [hm.out, hv.out, Int.tmod_eq_emod_of_nonneg (a := (qa + qb)) (by omega)]
            obtain ⟨z1, z2⟩ := HBX.out ((qa + qb) % 1000003) false
            exact bodyPost_ret (true_out (by rfl) z1) rfl ⟨rfl, by rw [← HhH.out]; exact z2⟩
          · have hv : Hid (reckR r.op xn yn = ((lowR xn 1000003 * lowR yn 1000003).tmod 1000003)) := by show _ = _; unfold reckR; simp [h1]
            rw [h1] at r0
            clear h1
            generalize hqa : lowR xn 1000003 = qa at *
            generalize hqb : lowR yn 1000003 = qb at *
            go_wp2_with fail
            refine (HL1.out _).mono ?_
            rintro e w' ⟨rfl, rfl⟩
            go_wp2_with fail
            refine (HL2.out _).mono ?_
            rintro e w' ⟨rfl, rfl⟩
            go_wp2_with fail
            rw [hm.out, hv.out, Int.tmod_eq_emod_of_nonneg (a := (qa * qb)) (by omega)]
            obtain ⟨z1, z2⟩ := HBX.out ((qa * qb) % 1000003) false
            exact bodyPost_ret (true_out (by rfl) z1) rfl ⟨rfl, by rw [← HhH.out]; exact z2⟩
          · rw [h1] at r0
            by_cases hlt : xn < yn
            · have hv : Hid (reckR r.op xn yn = 1) := by show _ = _; unfold reckR; simp [h1, hlt]
              have d : decide (xn < yn) = true := by simpa using hlt
              clear h1 p0 p1 hmb
              go_wp2_with fail
              refine (HL1.out _).mono ?_
              rintro e w' ⟨rfl, rfl⟩
              go_wp2_with fail
              refine (HL2.out _).mono ?_
              rintro e w' ⟨rfl, rfl⟩
              go_wp2_with fail
              rw [hm.out, hv.out]
              obtain ⟨z1, z2⟩ := HBX.out 1 false
              exact bodyPost_ret (true_out (by rfl) z1) rfl ⟨rfl, by rw [← HhH.out]; exact z2⟩
            · have hv : Hid (reckR r.op xn yn = 0) := by show _ = _; unfold reckR; simp [h1, hlt]
              have d : decide (xn < yn) = false := by simpa using hlt
              clear h1 p0 p1 hmb
              go_wp2_with fail
              refine (HL1.out _).mono ?_
              rintro e w' ⟨rfl, rfl⟩
              go_wp2_with fail
              refine (HL2.out _).mono ?_
              rintro e w' ⟨rfl, rfl⟩
              go_wp2_with fail
              rw [hm.out, hv.out]
              obtain ⟨z1, z2⟩ := HBX.out 0 false
              exact bodyPost_ret (true_out (by rfl) z1) rfl ⟨rfl, by rw [← HhH.out]; exact z2⟩

theorem true_ok : ∀ f, TrOk f := by
  intro f
  induction f with
  | zero => intro _ _ _ _ _ _ _ _ _ _ _ _ _ _ _ _ _ h; omega
  | succ f ih =>
    intro w H1 H2 rp l vs k A c on h hz hok hvs hk hl hr hf
    by_cases ho : (l.getD k Ru.dflt).op = 0
    · exact true_input w H1 H2 rp l vs k A c on h hz hk ho
    · cases hon : on.getD k false with
      | true => exact true_on w H1 H2 rp l vs k A c on h hz hk hl hr ho hon
      | false => exact true_go ih w H1 H2 rp l vs k A c on h hz hok hvs hk hl hr hf ho hon
end Go.Proofs.YtnadldoebfmgmaaDoor.q
