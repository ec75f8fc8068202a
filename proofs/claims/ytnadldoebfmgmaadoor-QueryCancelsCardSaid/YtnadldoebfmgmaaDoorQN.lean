/-
  SHEETS that are made: rules; query.New.
-/
import Derived.Test.YtnadldoebfmgmaaDoorQT

import Derived.Deep.OwnRows
namespace Go.Proofs.YtnadldoebfmgmaaDoor.q
open Go.RowKit

structure Ru where
  op : Int
  a : Int
  b : Int
  c : Int
def Ru.cells (r : Ru) : List Value := [.int .i64 r.op, .int .i64 r.a, .int .i64 r.b, .int .i64 r.c]
def ruCells (l : List Ru) : List Value := l.flatMap Ru.cells
def Ru.looks (r : Ru) : List Int := looksL r.op r.a r.b r.c
def outB (n : Nat) (x : Int) : Bool := decide (x < 0) || decide ((n : Int) ≤ x)
def Ru.bad (n : Nat) (r : Ru) : Bool := decide (r.op < 0) || decide (5 < r.op) || r.looks.any (outB n)
def ruCel (r : Ru) : Cel := ⟨r.op, r.a, r.b, r.c, false, 0, 0, [], 0, false, false, 0⟩
def newS (l : List Ru) : Sh := ⟨l.map ruCel, 1, -1⟩
/-- what is wrong with rules -/
def faultM (l : List Ru) : Int := if 64 < l.length then 12 else if l.any (Ru.bad l.length) then 1 else 0
theorem ruCells_get (l : List Ru) (k j : Nat) (hj : j < 4) (hk : k < l.length) : (ruCells l)[k * 4 + j]? = (l[k].cells)[j]? := by
  induction l generalizing k with
  | nil => simp at hk
  | cons a l ih =>
    cases k with
    | zero => simp only [ruCells, List.flatMap_cons]; rw [List.getElem?_append_left (by simp [Ru.cells]; omega)]; simp
    | succ k =>
      simp only [ruCells, List.flatMap_cons]
      rw [List.getElem?_append_right (by simp [Ru.cells]; omega)]
      have e : (k + 1) * 4 + j - (Ru.cells a).length = k * 4 + j := by simp [Ru.cells]; omega
      rw [e]
      have := ih k (by simpa using hk)
      simpa [ruCells] using this
theorem Rd_ru {w : World} {B : Nat} {A : Option Addr} {l : List Ru} {k : Nat} (h : Rd w B 4 A l.length (ruCells l)) (hk : k < l.length) :
    ∃ b o, A = some ⟨b, o, none⟩ ∧ b < B ∧ ∀ (j : Nat) (hj : j < l.length), w.cell? ⟨b, o + j * 4, none⟩ = some (.int .i64 l[j].op) ∧ w.cell? ⟨b, o + j * 4 + 1, none⟩ = some (.int .i64 l[j].a) ∧ w.cell? ⟨b, o + j * 4 + 2, none⟩ = some (.int .i64 l[j].b) ∧ w.cell? ⟨b, o + j * 4 + 3, none⟩ = some (.int .i64 l[j].c) := by
  obtain ⟨b, o, e, hb, hc⟩ := h.2 (by omega)
  refine ⟨b, o, e, hb, fun j hj => ⟨?_, ?_, ?_, ?_⟩⟩
  · have := hc (j * 4 + 0) _ (ruCells_get l j 0 (by omega) hj); simpa [Nat.add_assoc] using this
  · have := hc (j * 4 + 1) _ (ruCells_get l j 1 (by omega) hj); simpa [Nat.add_assoc] using this
  · have := hc (j * 4 + 2) _ (ruCells_get l j 2 (by omega) hj); simpa [Nat.add_assoc] using this
  · have := hc (j * 4 + 3) _ (ruCells_get l j 3 (by omega) hj); simpa [Nat.add_assoc] using this
theorem fault_zero {l : List Ru} (h : faultM l = 0) : l.length ≤ 64 ∧ ∀ r ∈ l, r.bad l.length = false := by
  unfold faultM at h
  by_cases h1 : 64 < l.length
  · rw [if_pos h1] at h; cases h
  · rw [if_neg h1] at h
    by_cases h2 : l.any (Ru.bad l.length) = true
    · rw [if_pos h2] at h; cases h
    · refine ⟨by omega, fun r hr => ?_⟩
      cases hb : r.bad l.length with
      | false => rfl
      | true => exact absurd (List.any_eq_true.2 ⟨r, hr, hb⟩) h2
theorem fault_one {l : List Ru} (h : l.length ≤ 64) {k : Nat} (hk : k < l.length) (hb : l[k].bad l.length = true) : faultM l = 1 := by
  unfold faultM
  rw [if_neg (by omega), if_pos (List.any_eq_true.2 ⟨_, List.getElem_mem hk, hb⟩)]
theorem fault_none {l : List Ru} (h : l.length ≤ 64) (hb : ∀ k (hk : k < l.length), l[k].bad l.length = false) : faultM l = 0 := by
  unfold faultM
  rw [if_neg (by omega), if_neg]
  intro h2
  obtain ⟨r, hr, h3⟩ := List.any_eq_true.1 h2
  obtain ⟨k, hk, rfl⟩ := List.mem_iff_getElem.1 hr
  rw [hb k hk] at h3; cases h3
theorem new_at (l : List Ru) (k : Nat) (hk : k < l.length) : (newS l).at k = ruCel l[k] := by
  unfold Sh.at newS
  simp only [List.getD_eq_getElem?_getD]
  rw [List.getElem?_map, List.getElem?_eq_getElem hk]; rfl
theorem new_at_ge (l : List Ru) (k : Nat) (hk : l.length ≤ k) : (newS l).at k = Cel.dflt := by
  unfold Sh.at newS
  simp only [List.getD_eq_getElem?_getD]
  rw [List.getElem?_map, List.getElem?_eq_none hk]; rfl
theorem new_all (l : List Ru) {P : Cel → Prop} (h0 : P Cel.dflt) (h : ∀ r, P (ruCel r)) (j : Nat) : P ((newS l).at j) := by
  rcases Nat.lt_or_ge j l.length with hj | hj
  · rw [new_at l j hj]; exact h _
  · rw [new_at_ge l j hj]; exact h0
theorem new_rest {l : List Ru} (h : faultM l = 0) : (newS l).Rest 1 := by
  obtain ⟨h1, h2⟩ := fault_zero h
  refine ⟨⟨?_, ?_, ?_, ?_⟩, new_all l (P := fun c => c.busy = false) rfl fun _ => rfl, by simpa [newS] using h1, by simp [newS], by simp [newS], new_all l (P := fun c => I64 c.n) i64_0 fun _ => i64_0, new_all l (P := fun c => 0 ≤ c.runs ∧ c.runs ≤ ((1 : Nat) : Int)) (by simp [Cel.dflt]) fun _ => by simp [ruCel]⟩
  · intro c hc
    obtain ⟨r, hr, rfl⟩ := List.mem_map.1 hc
    have := h2 r hr
    simp only [Ru.bad, Bool.or_eq_false_iff, decide_eq_false_iff_not] at this
    show 0 ≤ r.op ∧ r.op ≤ 5
    omega
  · intro c hc x hx
    obtain ⟨r, hr, rfl⟩ := List.mem_map.1 hc
    have := h2 r hr
    simp only [Ru.bad, Bool.or_eq_false_iff] at this
    have h3 := List.any_eq_false.1 this.2 x hx
    simp only [outB, Bool.or_eq_true, decide_eq_true_eq] at h3
    have e : (newS l).cs.length = l.length := by simp [newS]
    rw [e]
    omega
  · intro c hc d hd
    obtain ⟨r, hr, rfl⟩ := List.mem_map.1 hc
    simp [ruCel] at hd
  · intro c hc
    obtain ⟨r, hr, rfl⟩ := List.mem_map.1 hc
    exact .inl rfl

/-- what New gives -/
def NewPost (l : List Ru) (w : World) (e : Ending) (w' : World) : Prop :=
  Below w.heap.size w w' ∧ ((faultM l ≠ 0 ∧ e = .returned (.tuple #[.pointer none, errQ (faultM l)])) ∨
    (faultM l = 0 ∧ ∃ sp ps vc rb rc, e = .returned (.tuple #[.pointer (some ⟨sp, 0, none⟩), .nilIface]) ∧ ShAt (fun j => j < w.heap.size) w' w.heap.size sp 0 ps vc rb rc (newS l)))
theorem infoRuns : (Tryd.prog.info? 95).map (fun i => (i.zero, i.size, i.bytes)) = some (some (.agg #[.int .i64 0]), 1, 8) := by kernel_rfl

/-- a sheet that is being made: its first k cells -/
structure NewP (w wr : World) (sp rb n k : Nat) (ps : List Nat) (vc : Value) (l : List Ru) : Prop where
  sheet : Blk wr sp 62 #[.int .i32 0, .int .u32 0, vc, .slice (some ⟨rb, 0, none⟩) n n, .int .i64 1, .int .i64 (-1)]
  cells : wr.ownsRow w.heap.size 77 1 vc k (ps.map fun p => Value.pointer (some ⟨p, 0, none⟩))
  runs : Blk wr rb 95 (madeCells #[.int .i64 0] n)
  each : ∀ i (h : i < ps.length) (hl : i < l.length), Blk wr ps[i] 76 (celCells (ruCel l[i]) (.slice none 0 0) (.slice none 0 0))
  nod : ps.Nodup
  len : ps.length = k
  base_ : ∀ p ∈ ps, w.heap.size ≤ p
  bsp : w.heap.size ≤ sp
  brb : w.heap.size ≤ rb
  below : Below w.heap.size w wr
section
variable {w wr w' : World} {sp rb n k : Nat} {ps : List Nat} {vc : Value} {l : List Ru}
theorem NewP.keep (h : NewP w wr sp rb n k ps vc l) (hb : Below wr.heap.size wr w') : NewP w w' sp rb n k ps vc l where
  sheet := h.sheet.below hb h.sheet.lt
  cells := own_of_block h.cells fun b hb' => hb.block b (h.cells.lt b hb').2
  runs := h.runs.below hb h.runs.lt
  each i hi hl := (h.each i hi hl).below hb (h.each i hi hl).lt
  nod := h.nod
  len := h.len
  base_ := h.base_
  bsp := h.bsp
  brb := h.brb
  below := h.below.trans (hb.mono h.below.size)
theorem NewP.done (h : NewP w wr sp rb n k ps vc l) (hk : k = l.length) (hn : n = l.length) (h64 : l.length ≤ 64) : ShAt (fun j => j < w.heap.size) wr w.heap.size sp 0 ps vc rb n (newS l) where
  sheet := by
    have := h.sheet
    have e : ps.length = n := by rw [h.len, hk, hn]
    rw [e]
    exact this
  cells := by have := h.cells; rw [← h.len] at this; exact this
  runs := by
    have e : ps.length = n := by rw [h.len, hk, hn]
    rw [e]
    refine ⟨by simp [newS, hn], .inr ⟨rb, n, _, rfl, h.brb, h.runs, Nat.le_refl _, by unfold maxLen; omega, by rw [← Array.length_toList, toList_madeCells_one, List.length_replicate]; omega, ?_⟩⟩
    rw [toList_madeCells_one, List.take_of_length_le (by simp)]
    have e : ∀ m : List Ru, List.replicate m.length (Value.int .i64 0) = (m.map ruCel).map fun c => Value.int .i64 c.runs := fun m => by
      induction m with
      | nil => rfl
      | cons a m ih => simp only [List.length_cons, List.replicate_succ, List.map_cons]; rw [ih]; rfl
    rw [hn]
    exact e l
  each i hi := by
    have hil : i < l.length := by have := h.len; omega
    rw [new_at l i hil]
    refine ⟨.slice none 0 0, .slice none 0 0, ⟨h.each i hi hil, World.ownsRow_nil _ _ _ _, fun e => (by cases e), fun _ => rfl, h.base_ _ (List.getElem_mem hi), fun hn => ?_, fun k hk => (by cases hk), fun k hk => (by cases hk)⟩⟩
    have := h.base_ _ (List.getElem_mem hi)
    omega
  nod := h.nod
  len := by rw [h.len, hk]; simp [newS]
  base_ := h.bsp
  nsp hn := by have := h.bsp; omega
  nc j hj hn := by have := (h.cells.lt j hj).1; omega
  nr hn := by have := h.brb; omega
theorem looks_le (op a b c : Int) : (looksL op a b c).length ≤ 3 := by
  unfold looksL
  split
  · simp
  · split
    · simp
    · split <;> simp
theorem NewP.next {w7 w9 w10 : World} {p : Nat} {v' : Value} (h : NewP w w7 sp rb n k ps vc l) (hb : Below w7.heap.size w7 w9) (hk : k < l.length) (hp : Blk w9 p 76 (celCells (ruCel l[k]) (.slice none 0 0) (.slice none 0 0))) (hpg : w7.heap.size ≤ p)
    (hg : w9.grownBy w10 vc.ownBlock) (ho : w10.ownsRow w.heap.size 77 1 v' (k + 1) ((ps.map fun p => Value.pointer (some ⟨p, 0, none⟩)) ++ [.pointer (some ⟨p, 0, none⟩)])) :
    NewP w (w10.setCell ⟨sp, 2, none⟩ v') sp rb n (k + 1) (ps ++ [p]) v' l := by
  have h9 := h.keep hb
  have far : ∀ {b : Nat} {t : TypeId} {cs : Array Value}, Blk w9 b t cs → t ≠ 77 → Blk w10 b t cs := fun hB ht => hB.grown hg (own_ne h9.cells hB (Ne.symm ht))
  have hs10 := far h9.sheet (by decide)
  have hpl := hp.lt
  have hnew : ∀ q ∈ ps, q < w7.heap.size := fun q hq => by
    obtain ⟨i, hi, rfl⟩ := List.mem_iff_getElem.1 hq
    exact (h.each i hi (by have := h.len; omega)).lt
  have hcell : ∀ {b : Nat} {cs : Array Value}, Blk w9 b 76 cs → Blk (w10.setCell ⟨sp, 2, none⟩ v') b 76 cs := fun hB => (far hB (by decide)).far (p := ⟨sp, 2, none⟩) (blk_ne (far hB (by decide)) hs10 (by decide)) _
  refine ⟨hs10.set_ 2 v', ?_, (far h9.runs (by decide)).far (p := ⟨sp, 2, none⟩) (blk_ne (far h9.runs (by decide)) hs10 (by decide)) _, fun i hi hl => ?_, ?_, by simp [h.len], fun q hq => ?_, h.bsp, h.brb, ?_⟩
  · rw [List.map_append]
    exact own_of_block ho fun b hb' => Below.heap_setCell _ _ _ _ fun e => own_ne ho hs10 (by decide) (by rw [hb', e])
  · by_cases hik : i < ps.length
    · have e : (ps ++ [p])[i] = ps[i] := List.getElem_append_left hik
      rw [e]
      exact hcell (h9.each i hik hl)
    · have hie : i = k := by have := h.len; simp at hi; omega
      subst hie
      have e : (ps ++ [p])[i] = p := by
        have := h.len
        rw [List.getElem_append_right (by omega)]
        simp
      rw [e]
      exact hcell hp
  · rw [List.nodup_append]
    refine ⟨h.nod, by simp, fun a ha b hb' => ?_⟩
    simp only [List.mem_singleton] at hb'
    have := hnew a ha
    omega
  · rcases List.mem_append.1 hq with hq | hq
    · exact h.base_ q hq
    · simp only [List.mem_singleton] at hq
      have := h.below.size
      omega
  · exact (h9.below.grown hg h9.below.size fun g hg' => (h9.cells.lt g hg').1).setCell (p := ⟨sp, 2, none⟩) h.bsp _
end
theorem infoPCell : (Tryd.prog.info? 77).map (fun i => (i.zero, i.size, i.bytes)) = some (some (.pointer none), 1, 8) := by kernel_rfl

theorem make_runs (n : Nat) (hn : n ≤ 1048576) (w : World) : (Instr.makeSlice 60 (.int .i64 (n : Int)) (.int .i64 (n : Int))).run Tryd.prog w = .ok (.slice (some ⟨w.heap.size, 0, none⟩) n n) (w.alloc (.cells (madeCells #[.int .i64 0] n) 95)) := by
  obtain ⟨i, hi, hzz⟩ := Option.map_eq_some_iff.1 infoRuns
  simp only [Prod.mk.injEq] at hzz
  obtain ⟨hz, hs, hb⟩ := hzz
  have hr := run_make (P := Tryd.prog) w 60 95 i _ Tryd.underlying60 hi hz .i64 .i64 n n (by omega) (Int.le_refl _) (by rw [hb]; omega) (by omega)
  simp only [Int.toNat_natCast, hs, Nat.mul_one] at hr
  exact hr
set_option maxHeartbeats 4000000 in
set_option maxRecDepth 100000 in
theorem New_walk (A : Option Addr) (c : Nat) (l : List Ru) (w : World) (hr : Rd w w.heap.size 4 A l.length (ruCells l)) (h64 : l.length ≤ 64) :
    Calls Tryd.prog 13 #[.slice A l.length c] w (NewPost l w) := by
  have hmk := make_runs l.length (by omega)
  go_enter Tryd.func13, Tryd.ntmps13
  go_upto_region 4 with fail
  have hP0 : NewP w ((w.alloc (.cells (madeCells #[.int .i64 0] l.length) 95)).alloc (.cells #[.int .i32 0, .int .u32 0, .slice none 0 0, .slice (some ⟨w.heap.size, 0, none⟩) l.length l.length, .int .i64 1, .int .i64 (-1)] 62)) (w.heap.size + 1) w.heap.size l.length 0 [] (.slice none 0 0) l :=
    ⟨blk_new1 _ _ _ _, World.ownsRow_nil _ _ _ _, (Blk.new _ _ _).alloc _, fun i hi => by simp at hi, List.nodup_nil, rfl, fun p hp => (by cases hp), by omega, Nat.le_refl _, ((Below.refl _ _).alloc (Nat.le_refl _) _).alloc (by simp) _⟩
  obtain ⟨sp, hsp⟩ : ∃ sp, sp = w.heap.size + 1 := ⟨_, rfl⟩
  rw [← hsp] at hP0 ⊢
  have Hsp := Lib.hid hsp
  clear hsp hmk
  obtain ⟨rb, hrb⟩ : ∃ rb, rb = w.heap.size := ⟨_, rfl⟩
  have HP0 : Hid (NewP w ((w.alloc (.cells (madeCells #[.int .i64 0] l.length) 95)).alloc (.cells #[.int .i32 0, .int .u32 0, .slice none 0 0, .slice (some ⟨w.heap.size, 0, none⟩) l.length l.length, .int .i64 1, .int .i64 (-1)] 62)) sp rb l.length 0 [] (.slice none 0 0) l) := by rw [hrb]; exact hP0
  clear hP0 hrb
  generalize (w.alloc (.cells (madeCells #[.int .i64 0] l.length) 95)).alloc (.cells #[.int .i32 0, .int .u32 0, .slice none 0 0, .slice (some ⟨w.heap.size, 0, none⟩) l.length l.length, .int .i64 1, .int .i64 (-1)] 62) = w2 at *
  go_wp2_with fail
  go_loopw [20] (fun i wr => ∃ k : Nat, ∃ ps vc, i = .int .i64 k ∧ k ≤ l.length ∧ Hid (NewP w wr sp rb l.length k ps vc l) ∧ Hid (∀ j (hj : j < l.length), j < k → l[j].bad l.length = false)) (fun i _ => l.length - (intOf i).toNat)
  case atStart => exact ⟨0, [], _, rfl, Nat.zero_le _, HP0, fun j _ hj => by omega⟩
  case round =>
    clear HP0
    obtain ⟨k, ps, vc, rfl, hk, HP, HB⟩ := hrel
    by_cases hlt : k < l.length
    · obtain ⟨b, o, rfl, hbB, hcs⟩ := Rd_ru (hr.below HP.out.below) hlt
      obtain ⟨r0, r1, r2, r3⟩ := hcs k hlt
      have hbw : b < wr.heap.size := Nat.lt_of_lt_of_le hbB HP.out.below.size
      have HF : Hid (l[k].bad l.length = true → faultM l = 1) := fault_one h64 hlt
      have HG : Hid (l[k] = l[k]) := rfl
      clear hcs
      obtain ⟨r, hrr⟩ : ∃ r, r = l[k] := ⟨_, rfl⟩
      rw [← hrr] at r0 r1 r2 r3 HF
      have Hrr := Lib.hid hrr
      clear hrr HG
      obtain ⟨op, ra, rb', rc'⟩ := r
      simp only at r0 r1 r2 r3
      have i1 : (0 : Int) ≤ (k : Int) := by omega
      have i2 : (k : Int) < (l.length : Int) := by omega
      have i3 : decide (k < l.length) = true := by simpa using hlt
      by_cases hop : 0 ≤ op ∧ op ≤ 5
      · have o1 : decide (op < 0) = false := by simp; omega
        have o2 : decide (5 < op) = false := by simp; omega
        obtain ⟨p1, p2⟩ := hop
        have HP5 := Lib.hid (HP.out.keep ((Below.refl _ _).alloc (Nat.le_refl _) (.cells #[.int .i64 op, .int .i64 ra, .int .i64 rb', .int .i64 rc'] 65)))
        have hbx := Blk.new wr 65 #[.int .i64 op, .int .i64 ra, .int .i64 rb', .int .i64 rc']
        go_wp2_with fail
        refine (looks_walk op ra rb' rc' _ ⟨p1, p2⟩).mono ?_
        rintro e w7 ⟨v, rfl, hown, hb7⟩
        obtain ⟨g, hg⟩ : ∃ g, g = wr.heap.size := ⟨_, rfl⟩
        rw [← hg] at hbx ⊢
        have Hg := Lib.hid hg
        clear hg
        have hbx7 := hbx.below hb7 hbx.lt
        have HP7 := Lib.hid (HP5.out.keep hb7)
        obtain ⟨Av, cv, rfl⟩ := own_form hown
        have hL := Rd.of_own hown
        obtain ⟨L, hLL⟩ : ∃ L, L = looksL op ra rb' rc' := ⟨_, rfl⟩
        rw [← hLL] at hL ⊢
        have HLL := Lib.hid hLL
        have hLs : L.length ≤ 3 := by rw [hLL]; exact looks_le _ _ _ _
        have HbB : Hid (∀ j (hj : j < L.length), outB l.length L[j] = true → faultM l = 1) := fun j hj h => HF.out (by
          unfold Ru.bad
          have h1 : ({ op := op, a := ra, b := rb', c := rc' } : Ru).looks.any (outB l.length) = true := by
            show (looksL op ra rb' rc').any _ = true
            rw [← HLL.out]
            exact List.any_eq_true.2 ⟨_, List.getElem_mem hj, h⟩
          rw [h1]; simp)
        have HbG : Hid ((∀ j (hj : j < L.length), outB l.length L[j] = false) → (⟨op, ra, rb', rc'⟩ : Ru).bad l.length = false) := fun h => by
          unfold Ru.bad
          have h1 : ({ op := op, a := ra, b := rb', c := rc' } : Ru).looks.any (outB l.length) = false := by
            show (looksL op ra rb' rc').any _ = false
            rw [← HLL.out]
            rw [List.any_eq_false]
            intro x hx
            obtain ⟨j, hj, rfl⟩ := List.mem_iff_getElem.1 hx
            rw [h j hj]; simp
          rw [h1]; simp; omega
        have Hbx := Lib.hid hbx7
        clear hLL hown r0 r1 r2 r3 HF HP5 hbx hbx7 hb7 p1 p2 o1 o2
        go_wp2_with fail
        go_loop [36] (fun i => ∃ m : Nat, i = .int .i64 m ∧ m ≤ L.length ∧ Hid (∀ j (hj : j < L.length), j < m → outB l.length L[j] = false)) (fun i => L.length - (intOf i).toNat)
        case atStart => exact ⟨0, rfl, Nat.zero_le _, fun j _ hj => by omega⟩
        case round =>
          obtain ⟨m, rfl, hm, HM⟩ := hrel
          by_cases hmt : m < L.length
          · have j1 : (0 : Int) ≤ (m : Int) := by omega
            have j2 : (m : Int) < (L.length : Int) := by omega
            have j3 : decide (m < L.length) = true := by simpa using hmt
            obtain ⟨bv, ov, rfl, _, hcv⟩ := hL.2 (by omega)
            have cm := hcv m (.int .i64 L[m]) (by unfold intsV; rw [List.getElem?_map, List.getElem?_eq_getElem hmt]; rfl)
            clear hcv
            have HbM : Hid (outB l.length L[m] = true → faultM l = 1) := HbB.out m hmt
            have HbN : Hid (outB l.length L[m] = false → ∀ j (hj : j < L.length), j < m + 1 → outB l.length L[j] = false) := fun h j hj hjm => by
              by_cases e : j = m
              · subst e; exact h
              · exact HM.out j hj (by omega)
            generalize L[m] = x at cm HbM HbN
            by_cases hx : x < 0
            · have HF := Lib.hid (HbM.out (by unfold outB; simp [hx]))
              have j4 : decide (x < 0) = true := by simpa using hx
              clear hx
              go_wp2_with fail
              go_ret2
              exact ⟨HP7.out.below, .inl ⟨by rw [HF.out]; decide, by rw [HF.out]; rfl⟩⟩
            · have j4 : decide (x < 0) = false := by simpa using hx
              by_cases hx2 : (l.length : Int) ≤ x
              · have HF := Lib.hid (HbM.out (by unfold outB; simp [hx2]))
                have j5 : decide ((l.length : Int) ≤ x) = true := by simpa using hx2
                clear hx
                go_wp2_with fail
                go_ret2
                exact ⟨HP7.out.below, .inl ⟨by rw [HF.out]; decide, by rw [HF.out]; rfl⟩⟩
              · have j5 : decide ((l.length : Int) ≤ x) = false := by simpa using hx2
                have HN := Lib.hid (HbN.out (by unfold outB; simp; omega))
                go_wp2_with fail
                go_round
                case rel => exact ⟨m + 1, by go_num, by omega, HN⟩
                case measure => simp [intOf]; omega
          · have j3 : decide (m < L.length) = false := by simpa using hmt
            have HG : Hid ((⟨op, ra, rb', rc'⟩ : Ru).bad l.length = false) := HbG.out fun j hj => HM.out j hj (by omega)
            go_upto_region 15 with fail
            obtain ⟨Ac, cc, rfl⟩ := own_form HP7.out.cells
            have m2 := HP7.out.sheet.cell 2
            have x0 := Hbx.out.cell 0
            have x1 := Hbx.out.cell 1
            have x2 := Hbx.out.cell 2
            have x3 := Hbx.out.cell 3
            have fs := HP7.out.sheet.frozen 2
            simp at m2 x0 x1 x2 x3
            obtain ⟨ip, ji, jz0, jz1, jz2⟩ := info_parts infoPCell
            refine wp_region_C (fun j w' => j ∉ [10, 11, 12] → (fun w' : World => w'.cell? ⟨sp, 2, none⟩ = some (.slice Ac k cc) ∧ w'.cell? ⟨g, 0, none⟩ = some (.int .i64 op) ∧ w'.cell? ⟨g, 1, none⟩ = some (.int .i64 ra) ∧ w'.cell? ⟨g, 2, none⟩ = some (.int .i64 rb') ∧ w'.cell? ⟨g, 3, none⟩ = some (.int .i64 rc')) w') (by kernel_rfl) ?_
            have hS0 : (fun w' : World => w'.cell? ⟨sp, 2, none⟩ = some (.slice Ac k cc) ∧ w'.cell? ⟨g, 0, none⟩ = some (.int .i64 op) ∧ w'.cell? ⟨g, 1, none⟩ = some (.int .i64 ra) ∧ w'.cell? ⟨g, 2, none⟩ = some (.int .i64 rb') ∧ w'.cell? ⟨g, 3, none⟩ = some (.int .i64 rc')) w7.drew := ⟨m2, x0, x1, x2, x3⟩
            refine wpAnyC_take (fun w' : World => w'.cell? ⟨sp, 2, none⟩ = some (.slice Ac k cc) ∧ w'.cell? ⟨g, 0, none⟩ = some (.int .i64 op) ∧ w'.cell? ⟨g, 1, none⟩ = some (.int .i64 ra) ∧ w'.cell? ⟨g, 2, none⟩ = some (.int .i64 rb') ∧ w'.cell? ⟨g, 3, none⟩ = some (.int .i64 rc')) [10, 11, 12] (i := 0) (v := ?_) rfl (by kernel_rfl) (by kernel_rfl) (by kernel_rfl) (by kernel_rfl) (fun _ _ _ h => h) (fun j w' _ _ hL h => h hL) (fun w' h _ => h) (Or.inl ⟨by rfl, ?_⟩) hS0 ?_; rotate_left; · (intro w hSw; (try dsimp only at hSw); obtain ⟨s0, s1, s2, s3, s4⟩ := hSw; go_simp; try with_reducible rfl)
            simp only [Act.put, List.setIfInBounds_toArray]
            refine wpAnyC_take (fun w' : World => w'.cell? ⟨sp, 2, none⟩ = some (.slice Ac k cc) ∧ w'.cell? ⟨g, 0, none⟩ = some (.int .i64 op) ∧ w'.cell? ⟨g, 1, none⟩ = some (.int .i64 ra) ∧ w'.cell? ⟨g, 2, none⟩ = some (.int .i64 rb') ∧ w'.cell? ⟨g, 3, none⟩ = some (.int .i64 rc')) [10, 11, 12] (i := 1) (v := ?_) rfl (by kernel_rfl) (by kernel_rfl) (by kernel_rfl) (by kernel_rfl) (fun _ _ _ h => h) (fun j w' _ _ hL h => h hL) (fun w' h _ => h) (Or.inl ⟨by rfl, ?_⟩) hS0 ?_; rotate_left; · (intro w hSw; (try dsimp only at hSw); obtain ⟨s0, s1, s2, s3, s4⟩ := hSw; go_simp; try with_reducible rfl)
            simp only [Act.put]
            refine wpAnyC_take (fun w' : World => w'.cell? ⟨sp, 2, none⟩ = some (.slice Ac k cc) ∧ w'.cell? ⟨g, 0, none⟩ = some (.int .i64 op) ∧ w'.cell? ⟨g, 1, none⟩ = some (.int .i64 ra) ∧ w'.cell? ⟨g, 2, none⟩ = some (.int .i64 rb') ∧ w'.cell? ⟨g, 3, none⟩ = some (.int .i64 rc')) [10, 11, 12] (i := 2) (v := ?_) rfl (by kernel_rfl) (by kernel_rfl) (by kernel_rfl) (by kernel_rfl) (fun _ _ _ h => h) (fun j w' _ _ hL h => h hL) (fun w' h _ => h) (Or.inl ⟨by rfl, ?_⟩) hS0 ?_; rotate_left; · (intro w hSw; (try dsimp only at hSw); obtain ⟨s0, s1, s2, s3, s4⟩ := hSw; go_simp; try with_reducible rfl)
            simp only [Act.put]
            refine wpAnyC_take (fun w' : World => w'.cell? ⟨sp, 2, none⟩ = some (.slice Ac k cc) ∧ w'.cell? ⟨g, 0, none⟩ = some (.int .i64 op) ∧ w'.cell? ⟨g, 1, none⟩ = some (.int .i64 ra) ∧ w'.cell? ⟨g, 2, none⟩ = some (.int .i64 rb') ∧ w'.cell? ⟨g, 3, none⟩ = some (.int .i64 rc')) [10, 11, 12] (i := 3) (v := ?_) rfl (by kernel_rfl) (by kernel_rfl) (by kernel_rfl) (by kernel_rfl) (fun _ _ _ h => h) (fun j w' _ _ hL h => h hL) (fun w' h _ => h) (Or.inl ⟨by rfl, ?_⟩) hS0 ?_; rotate_left; · (intro w hSw; (try dsimp only at hSw); obtain ⟨s0, s1, s2, s3, s4⟩ := hSw; go_simp; try with_reducible rfl)
            simp only [Act.put]
            refine wpAnyC_take (fun w' : World => w'.cell? ⟨sp, 2, none⟩ = some (.slice Ac k cc) ∧ w'.cell? ⟨g, 0, none⟩ = some (.int .i64 op) ∧ w'.cell? ⟨g, 1, none⟩ = some (.int .i64 ra) ∧ w'.cell? ⟨g, 2, none⟩ = some (.int .i64 rb') ∧ w'.cell? ⟨g, 3, none⟩ = some (.int .i64 rc')) [10, 11, 12] (i := 4) (v := ?_) rfl (by kernel_rfl) (by kernel_rfl) (by kernel_rfl) (by kernel_rfl) (fun _ _ _ h => h) (fun j w' _ _ hL h => h hL) (fun w' h _ => h) (Or.inl ⟨by rfl, ?_⟩) hS0 ?_; rotate_left; · (intro w hSw; (try dsimp only at hSw); obtain ⟨s0, s1, s2, s3, s4⟩ := hSw; go_simp; try with_reducible rfl)
            simp only [Act.put]
            refine wpAnyC_take (fun w' : World => w'.cell? ⟨sp, 2, none⟩ = some (.slice Ac k cc) ∧ w'.cell? ⟨g, 0, none⟩ = some (.int .i64 op) ∧ w'.cell? ⟨g, 1, none⟩ = some (.int .i64 ra) ∧ w'.cell? ⟨g, 2, none⟩ = some (.int .i64 rb') ∧ w'.cell? ⟨g, 3, none⟩ = some (.int .i64 rc')) [10, 11, 12] (i := 5) (v := ?_) rfl (by kernel_rfl) (by kernel_rfl) (by kernel_rfl) (by kernel_rfl) (fun _ _ _ h => h) (fun j w' _ _ hL h => h hL) (fun w' h _ => h) (Or.inl ⟨by rfl, ?_⟩) hS0 ?_; rotate_left; · (intro w hSw; (try dsimp only at hSw); obtain ⟨s0, s1, s2, s3, s4⟩ := hSw; go_simp; try with_reducible rfl)
            simp only [Act.put]
            refine wpAnyC_take (fun w' : World => w'.cell? ⟨sp, 2, none⟩ = some (.slice Ac k cc) ∧ w'.cell? ⟨g, 0, none⟩ = some (.int .i64 op) ∧ w'.cell? ⟨g, 1, none⟩ = some (.int .i64 ra) ∧ w'.cell? ⟨g, 2, none⟩ = some (.int .i64 rb') ∧ w'.cell? ⟨g, 3, none⟩ = some (.int .i64 rc')) [10, 11, 12] (i := 6) (v := ?_) rfl (by kernel_rfl) (by kernel_rfl) (by kernel_rfl) (by kernel_rfl) (fun _ _ _ h => h) (fun j w' _ _ hL h => h hL) (fun w' h _ => h) (Or.inl ⟨by rfl, ?_⟩) hS0 ?_; rotate_left; · (intro w hSw; (try dsimp only at hSw); obtain ⟨s0, s1, s2, s3, s4⟩ := hSw; go_simp; try with_reducible rfl)
            simp only [Act.put]
            have hb78 : Below w7.heap.size w7 (w7.drew.alloc (.cells (celCells (ruCel ⟨op, ra, rb', rc'⟩) (.slice none 0 0) (.slice none 0 0)) 76)) := (Below.refl w7.heap.size w7).drew.alloc (Nat.le_refl _) _
            have hB8 : Blk (w7.drew.alloc (.cells (celCells (ruCel ⟨op, ra, rb', rc'⟩) (.slice none 0 0) (.slice none 0 0)) 76)) w7.heap.size 76 (celCells (ruCel ⟨op, ra, rb', rc'⟩) (.slice none 0 0) (.slice none 0 0)) := Blk.new w7.drew _ _
            refine wpAnyC_one (i := 7) (by kernel_rfl) rfl (fun K hK => ?_)
            go_simp
            show K _ (w7.drew.alloc (.cells (celCells (ruCel ⟨op, ra, rb', rc'⟩) (.slice none 0 0) (.slice none 0 0)) 76))
            obtain ⟨w8, hw8⟩ : ∃ w8, w8 = (w7.drew.alloc (.cells (celCells (ruCel ⟨op, ra, rb', rc'⟩) (.slice none 0 0) (.slice none 0 0)) 76)) := ⟨_, rfl⟩
            rw [← hw8] at hb78 hB8 ⊢
            have hP8 := HP7.out.keep hb78
            have hx8 := Hbx.out.below hb78 Hbx.out.lt
            have hs8 : w8.heap.size = w7.heap.size + 1 := by rw [hw8]; simp
            have Hs8 := Lib.hid hs8
            clear hw8 hs8 m2 x0 x1 x2 x3 hS0
            have m2 := hP8.sheet.cell 2
            have x0 := hx8.cell 0
            have x1 := hx8.cell 1
            have x2 := hx8.cell 2
            have x3 := hx8.cell 3
            simp at m2 x0 x1 x2 x3
            obtain ⟨p, hp⟩ : ∃ p, p = w7.heap.size := ⟨_, rfl⟩
            rw [← hp] at hB8 ⊢
            have Hp := Lib.hid hp
            have hb78' : Hid (Below w7.heap.size w7 w8) := hb78
            clear hp hb78
            refine hK.out _ _ (fun _ => ⟨m2, x0, x1, x2, x3⟩) ?_
            clear hK K
            refine wpAnyC_one (i := 8) (by kernel_rfl) rfl (fun K hK => ?_)
            go_simp
            have hb89 : Below w8.heap.size w8 (w8.alloc (.cells #[.pointer (some ⟨p, 0, none⟩)] 77)) := (Below.refl _ _).alloc (Nat.le_refl _) _
            have hN9 := Blk.new w8 77 #[.pointer (some ⟨p, 0, none⟩)]
            obtain ⟨q, hq⟩ : ∃ q, q = w8.heap.size := ⟨_, rfl⟩
            rw [← hq] at hN9 ⊢
            have Hq := Lib.hid hq
            clear hq
            have hP9 := hP8.keep hb89
            have hx9 := hx8.below hb89 hx8.lt
            have hB9 := hB8.below hb89 hB8.lt
            have Hb79 : Hid (Below w7.heap.size w7 (w8.alloc (.cells #[.pointer (some ⟨p, 0, none⟩)] 77))) := hb78'.out.trans (hb89.mono (by rw [Hs8.out]; omega))
            clear hb89 hP8 hx8 hB8 m2 x0 x1 x2 x3
            generalize w8.alloc (.cells #[.pointer (some ⟨p, 0, none⟩)] 77) = w9 at *
            have m2 := hP9.sheet.cell 2
            have x0 := hx9.cell 0
            have x1 := hx9.cell 1
            have x2 := hx9.cell 2
            have x3 := hx9.cell 3
            simp at m2 x0 x1 x2 x3
            refine hK.out _ _ (fun _ => ⟨m2, x0, x1, x2, x3⟩) ?_
            clear hK K
            refine wpAnyC_one (i := 9) (by kernel_rfl) rfl (fun K hK => ?_)
            have hsz9 : w.heap.size ≤ w9.heap.size := hP9.below.size
            refine step_append_lies _ (by rfl) _ _ _ (by rfl) w.heap.size 77 ip _ 1 8 Tryd.underlying59 ji jz0 jz1 jz2 rfl (by omega) (.slice Ac k cc) k (ps.map fun p => Value.pointer (some ⟨p, 0, none⟩)) (by rfl) hP9.cells ⟨q, 0, none⟩ 1 1 [.pointer (some ⟨p, 0, none⟩)] (by rfl) (by rfl) (World.news_of_block (cs := #[.pointer (some ⟨p, 0, none⟩)]) (t := 77) (fr := (0, 0)) hN9) (by simp [Value.oneCell']) (by omega) (by unfold maxLen; omega) (by omega) hsz9 _ rfl ?_; intro g1 cap1 w10 own1 hgrow hat1 hlt1
            have hs10 := hP9.sheet.grown hgrow (own_ne hP9.cells hP9.sheet (by decide))
            have hx10 := hx9.grown hgrow (own_ne hP9.cells hx9 (by decide))
            have f2 := hs10.frozen 2
            have n2 := hs10.cell 2
            have y0 := hx10.cell 0
            have y1 := hx10.cell 1
            have y2 := hx10.cell 2
            have y3 := hx10.cell 3
            simp at n2 y0 y1 y2 y3
            refine hK.out _ _ (fun _ => ⟨n2, y0, y1, y2, y3⟩) ?_
            clear hK K
            refine wpAnyC_one (i := 10) (by kernel_rfl) rfl (fun K hK => ?_)
            go_simp
            refine hK.out _ _ (fun h => absurd (by simp) h) ?_
            clear hK K
            refine wpAnyC_one (i := 11) (by kernel_rfl) rfl (fun K hK => ?_)
            go_simp
            refine hK.out _ _ (fun h => absurd (by simp) h) ?_
            clear hK K
            refine wpAnyC_one (i := 12) (by kernel_rfl) rfl (fun K hK => ?_)
            go_simp
            refine hK.out _ _ (fun h => absurd (by simp) h) ?_
            clear hK K
            refine wpAnyC_done (by kernel_rfl) ?_ _
            have HNX : Hid (NewP w (w10.setCell ⟨sp, 2, none⟩ (.slice (some ⟨g1, 0, none⟩) (k + 1) cap1)) sp rb l.length (k + 1) (ps ++ [p]) (.slice (some ⟨g1, 0, none⟩) (k + 1) cap1) l) :=
              HP7.out.next Hb79.out hlt (by rw [← Hrr.out]; exact hB9) (by rw [Hp.out]; exact Nat.le_refl _) hgrow own1
            have HBX : Hid (∀ j (hj : j < l.length), j < k + 1 → l[j].bad l.length = false) := fun j hj hjk => by
              by_cases e : j = k
              · subst e; rw [← Hrr.out]; exact HG.out
              · exact HB.out j hj (by omega)
            clear hP9 hx9 hB9 hN9 hs10 hx10 own1 hgrow hat1 hlt1 m2 x0 x1 x2 x3 n2 y0 y1 y2 y3 f2
            generalize w10.setCell ⟨sp, 2, none⟩ (.slice (some ⟨g1, 0, none⟩) (k + 1) cap1) = w11 at *
            go_wp2_with fail
            go_roundw
            case rel => exact ⟨k + 1, _, _, by go_num, by omega, HNX, HBX⟩
            case measure => simp [intOf]; omega
      · have hbad := HF.out (by unfold Ru.bad; simp only [Bool.or_eq_true, decide_eq_true_eq]; omega)
        have Hbad := Lib.hid hbad
        clear hbad
        have HW := Lib.hid (HP.out.keep ((Below.refl _ _).alloc (Nat.le_refl _) (.cells #[.int .i64 op, .int .i64 ra, .int .i64 rb', .int .i64 rc'] 65))).below
        by_cases hop0 : op < 0
        · have o1 : decide (op < 0) = true := by simpa using hop0
          clear hop
          go_wp2_with fail
          go_ret2
          exact ⟨HW.out, .inl ⟨by rw [Hbad.out]; decide, by rw [Hbad.out]; rfl⟩⟩
        · have o1 : decide (op < 0) = false := by simpa using hop0
          have o2 : decide (5 < op) = true := by simp; omega
          clear hop
          go_wp2_with fail
          go_ret2
          exact ⟨HW.out, .inl ⟨by rw [Hbad.out]; decide, by rw [Hbad.out]; rfl⟩⟩
    · have hke : k = l.length := by omega
      have hf0 : faultM l = 0 := fault_none h64 fun j hj => HB.out j hj (by omega)
      have HS := Lib.hid (HP.out.done hke rfl h64)
      have HW := Lib.hid HP.out.below
      have HF := Lib.hid hf0
      have i3 : decide (k < l.length) = false := by simpa using hlt
      clear hke hf0 HP HB
      go_wp2_with fail
      go_ret2
      exact ⟨HW.out, .inr ⟨HF.out, sp, ps, vc, rb, _, rfl, HS.out⟩⟩
end Go.Proofs.YtnadldoebfmgmaaDoor.q
