/-
  THE WALKS of amanuensisref1.Means, Does, Apply.
-/
import Derived.Test.YtffcfnnbdmihaaaDoorSame
import Derived.Test.YtffcfnnbdmihaaaDoorEdMath
import Derived.Deep.OwnRows
import Derived.BigRegion
import Derived.Deep.DeepCutAuto
namespace Go.Proofs.YtffcfnnbdmihaaaDoor
open Go.RowKit

theorem infoB : (Tryd.prog.info? 4).map (fun i => (i.zero, i.size, i.bytes)) = some (some (.bool false), 1, 1) := by kernel_rfl
theorem infoS : (Tryd.prog.info? 9).map (fun i => (i.zero, i.size, i.bytes)) = some (some (.string ⟨#[]⟩), 1, 16) := by kernel_rfl

def EV (n g1 g2 : Nat) : Value := .agg #[.int .i64 n, .slice (some ⟨g1, 0, none⟩) n n, .slice (some ⟨g2, 0, none⟩) (n + 1) (n + 1)]
/-- an edit as amanuensisref1.E has it: what is put in at each gap, what is taken out -/
def EAt (w : World) (B : Nat) (v : Value) (n : Nat) (I : Nat → List UInt8) (O : Nat → Bool) : Prop :=
  ∃ g1 g2, v = EV n g1 g2 ∧ g1 < B ∧ g2 < B ∧ (∀ k, k < n → w.cell? ⟨g1, k, none⟩ = some (.bool (O k))) ∧ (∀ k, k ≤ n → w.cell? ⟨g2, k, none⟩ = some (.string ⟨(I k).toArray⟩))
section
variable {w w' : World} {B B' n : Nat} {v : Value} {I : Nat → List UInt8} {O : Nat → Bool}
theorem EAt.keep (h : EAt w B v n I O) (hk : ∀ b o, b < B → w'.cell? ⟨b, o, none⟩ = w.cell? ⟨b, o, none⟩) : EAt w' B v n I O := by
  obtain ⟨g1, g2, e, h1, h2, h3, h4⟩ := h
  exact ⟨g1, g2, e, h1, h2, fun k hk' => (hk _ _ h1).trans (h3 k hk'), fun k hk' => (hk _ _ h2).trans (h4 k hk')⟩
theorem EAt.below (h : EAt w B v n I O) (hb : Below B w w') : EAt w' B v n I O := h.keep fun _ _ hp => hb.cell hp
theorem EAt.more (h : EAt w B v n I O) (hB : B ≤ B') : EAt w B' v n I O := by
  obtain ⟨g1, g2, e, h1, h2, h3, h4⟩ := h
  exact ⟨g1, g2, e, by omega, by omega, h3, h4⟩
end

theorem Blk.new' (w : World) (t : TypeId) (cs : Array Value) (g : Nat) (h : g = w.heap.size) : Blk (w.alloc (.cells cs t)) g t cs := by subst h; exact Blk.new w t cs
theorem lt_of_some {c : Array Value} {j : Nat} {v : Value} (h : c[j]? = some v) : j < c.size := by
  rcases Nat.lt_or_ge j c.size with h' | h'
  · exact h'
  · rw [Array.getElem?_eq_none h'] at h; cases h
theorem means_out {c : Array Value} {n f m : Nat} {u : Nat → Bool} (H : ∀ j, j < n → c[j]? = some (.bool (u j || (decide (f ≤ j) && decide (j < m))))) (hf : f ≤ m) :
    ∀ j, j < n → (c.setIfInBounds m (.bool true))[j]? = some (.bool (u j || (decide (f ≤ j) && decide (j < m + 1)))) := fun j hj => by
  rw [Array.getElem?_setIfInBounds]
  by_cases h : m = j
  · subst h
    rw [if_pos rfl, if_pos (lt_of_some (H m hj))]
    simp [hf]
  · rw [if_neg h, H j hj]
    have : decide (j < m + 1) = decide (j < m) := by simp; omega
    rw [this]
theorem mk_append (a : List UInt8) (y : ByteArray) : (⟨a.toArray⟩ : ByteArray) ++ y = ⟨(a ++ y.data.toList).toArray⟩ := ByteArray.ext (by simp)
theorem made_get (z : Value) (n k : Nat) (hk : k < n) : (madeCells #[z] n)[k]? = some z := by
  rw [← Array.getElem?_toList, toList_madeCells_one, List.getElem?_replicate, if_pos hk]
theorem inB_le (l : List Sp) (g : Nat) : (inB l g).length ≤ spBytes l := by
  induction l with
  | nil => simp [inB]
  | cons s r ih =>
    rw [inB_cons, List.length_append]
    have e : spBytes (s :: r) = s.s.size + spBytes r := by simp [spBytes]
    have e2 := dlen s.s
    split
    · omega
    · simp; omega

set_option maxHeartbeats 1000000 in
set_option maxRecDepth 100000 in
theorem means_walk (n : Nat) (A : Option Addr) (c : Nat) (l : List Sp) (w : World) (hr : Rd w w.heap.size 3 A l.length (spCells l)) (hl : l.length ≤ 1048576) (hn : n ≤ 16777216) (hby : spBytes l ≤ 16777216) (hc : Chain n 0 l) :
    Calls Tryd.prog 32 #[.int .i64 n, .slice A l.length c] w fun e w' => ∃ v, e = .returned v ∧ EAt w' w'.heap.size v n (inB l) (outB l) ∧ Below w.heap.size w w' := by
  have hmk1 := run_make_row' (P := Tryd.prog) 59 4 (.bool false) 1 Tryd.underlying59 infoB rfl .i64 .i64 n (by omega) (by omega)
  have hmk2 := run_make_row' (P := Tryd.prog) 60 9 (.string ⟨#[]⟩) 16 Tryd.underlying60 infoS rfl .i64 .i64 (n + 1) (by omega) (by omega)
  have e0 : ((n + 1 : Nat) : Int) = (n : Int) + 1 := by omega
  rw [e0] at hmk2
  have Hc := Lib.hid hc
  clear hc
  go_enter Tryd.func32, Tryd.ntmps32
  go_upto_region 1 with fail
  go_cut [5] (fun s5 wc => ∃ g1 g2 e, s5 = .pointer (some ⟨e, 0, none⟩) ∧ Blk wc w.heap.size 62 #[.int .i64 0, .slice none 0 0, .slice none 0 0] ∧
    Blk wc g1 4 (madeCells #[.bool false] n) ∧ Blk wc g2 9 (madeCells #[.string ⟨#[]⟩] (n + 1)) ∧ Blk wc e 62 #[.int .i64 n, .slice (some ⟨g1, 0, none⟩) n n, .slice (some ⟨g2, 0, none⟩) (n + 1) (n + 1)] ∧ w.heap.size < g1 ∧ w.heap.size < g2 ∧ w.heap.size < e ∧ Below w.heap.size w wc)
  case first =>
    have hz : w.heap.size ≤ w.heap.size := Nat.le_refl _
    go_region
    all_goals (go_wp2_with fail; go_meet)
    all_goals first
      | (refine ⟨w.heap.size + 1, w.heap.size + 1 + 1, w.heap.size + 1 + 1 + 1, rfl, Blk.drew ?_, Blk.drew ?_, Blk.drew ?_, Blk.drew ?_, by omega, by omega, by omega, Below.drew ?_⟩ <;> (repeat (first | exact Below.refl _ _ | (refine Blk.new' _ _ _ _ ?_; simp; done) | refine Blk.alloc ?_ _ | refine Below.alloc ?_ (by simp <;> omega) _)); done)
      | (refine ⟨w.heap.size + 1, w.heap.size + 1 + 1 + 1, w.heap.size + 1 + 1, rfl, Blk.drew ?_, Blk.drew ?_, Blk.drew ?_, Blk.drew ?_, by omega, by omega, by omega, Below.drew ?_⟩ <;> (repeat (first | exact Below.refl _ _ | (refine Blk.new' _ _ _ _ ?_; simp; done) | refine Blk.alloc ?_ _ | refine Below.alloc ?_ (by simp <;> omega) _)); done)
      | (refine ⟨w.heap.size + 1 + 1, w.heap.size + 1, w.heap.size + 1 + 1 + 1, rfl, Blk.drew ?_, Blk.drew ?_, Blk.drew ?_, Blk.drew ?_, by omega, by omega, by omega, Below.drew ?_⟩ <;> (repeat (first | exact Below.refl _ _ | (refine Blk.new' _ _ _ _ ?_; simp; done) | refine Blk.alloc ?_ _ | refine Below.alloc ?_ (by simp <;> omega) _)); done)
      | (refine ⟨w.heap.size + 1 + 1, w.heap.size + 1 + 1 + 1, w.heap.size + 1, rfl, Blk.drew ?_, Blk.drew ?_, Blk.drew ?_, Blk.drew ?_, by omega, by omega, by omega, Below.drew ?_⟩ <;> (repeat (first | exact Below.refl _ _ | (refine Blk.new' _ _ _ _ ?_; simp; done) | refine Blk.alloc ?_ _ | refine Below.alloc ?_ (by simp <;> omega) _)); done)
      | (refine ⟨w.heap.size + 1 + 1 + 1, w.heap.size + 1, w.heap.size + 1 + 1, rfl, Blk.drew ?_, Blk.drew ?_, Blk.drew ?_, Blk.drew ?_, by omega, by omega, by omega, Below.drew ?_⟩ <;> (repeat (first | exact Below.refl _ _ | (refine Blk.new' _ _ _ _ ?_; simp; done) | refine Blk.alloc ?_ _ | refine Below.alloc ?_ (by simp <;> omega) _)); done)
      | (refine ⟨w.heap.size + 1 + 1 + 1, w.heap.size + 1 + 1, w.heap.size + 1, rfl, Blk.drew ?_, Blk.drew ?_, Blk.drew ?_, Blk.drew ?_, by omega, by omega, by omega, Below.drew ?_⟩ <;> (repeat (first | exact Below.refl _ _ | (refine Blk.new' _ _ _ _ ?_; simp; done) | refine Blk.alloc ?_ _ | refine Below.alloc ?_ (by simp <;> omega) _)); done)
  case rest =>
    obtain ⟨g1, g2, e, rfl, hR, hB1, hB2, hE, hg1, hg2, he, hb⟩ := hcut
    go_wp2_with fail
    go_loopw [6] (fun i wr => ∃ k : Nat, ∃ c1 c2, k ≤ l.length ∧ i = .int .i64 k ∧ Blk wr g1 4 c1 ∧ Blk wr g2 9 c2 ∧ Below w.heap.size w wr ∧ Hid (∀ j, j < n → c1[j]? = some (.bool (outB (l.take k) j))) ∧ Hid (∀ j, j ≤ n → c2[j]? = some (.string ⟨(inB (l.take k) j).toArray⟩)) ∧ Blk wr w.heap.size 62 #[.int .i64 0, .slice none 0 0, .slice none 0 0] ∧ Blk wr e 62 #[.int .i64 n, .slice (some ⟨g1, 0, none⟩) n n, .slice (some ⟨g2, 0, none⟩) (n + 1) (n + 1)]) (fun i _ => l.length - (intOf i).toNat)
    case atStart => exact ⟨0, _, _, Nat.zero_le _, rfl, hB1, hB2, hb, fun j hj => by have := made_get (.bool false) n j hj; simpa [outB] using this, fun j hj => by have := made_get (.string ⟨#[]⟩) (n + 1) j (by omega); simpa [inB] using this, hR, hE⟩
    case round =>
      clear hB1 hB2 hb hR hE
      obtain ⟨k, c1, c2, hk, rfl, hB1, hB2, hb, H1, H2, hR, hE⟩ := hrel
      have hbs := hb.size
      by_cases hlt : k < l.length
      · obtain ⟨b, o, rfl, hbB, hcs⟩ := (hr.below hb).sp hlt
        obtain ⟨a0, a1, a2⟩ := hcs k hlt
        clear hcs
        obtain ⟨q1, q2, q3, q4⟩ := Hc.out.at_ hlt
        obtain ⟨f, hf⟩ := Int.eq_ofNat_of_zero_le (a := l[k].f) (by omega)
        obtain ⟨t, ht⟩ := Int.eq_ofNat_of_zero_le (a := l[k].t) (by omega)
        have HI : Hid (∀ j : Nat, inB (l.take (k + 1)) j = inB (l.take k) j ++ if f = j then l[k].s.data.toList else []) := fun j => by
          rw [List.take_succ_eq_append_getElem hlt, inB_snoc, hf]
          by_cases h : f = j
          · simp [h]
          · rw [if_neg (by omega), if_neg h]
        have HO : Hid (∀ j : Nat, outB (l.take (k + 1)) j = (outB (l.take k) j || (decide (f ≤ j) && decide (j < t)))) := fun j => by
          rw [List.take_succ_eq_append_getElem hlt, outB_snoc, hf, ht]; simp
        have hlen : (inB (l.take k) f).length + l[k].s.size ≤ 16777216 := by
          have h1 := inB_le (l.take k) f
          have h2 := spBytes_take_le l (k + 1)
          rw [List.take_succ_eq_append_getElem hlt, spBytes_snoc] at h2
          omega
        rw [hf] at a0 q2
        have hbw : ∀ j, wr.cell? ⟨b, j, none⟩ = w.cell? ⟨b, j, none⟩ := fun j => hb.cell (p := ⟨b, j, none⟩) hbB
        rw [ht] at a1 q2 q3
        have A0 := Lib.hid ((hbw _).symm.trans a0)
        have A1 := Lib.hid ((hbw _).symm.trans a1)
        clear q1 q4 hf ht hbw
        generalize l[k].s = y at *
        have q5 : f ≤ t := by omega
        have q6 : t ≤ n := by omega
        clear q2 q3
        have d2 := H2.out f (by omega)
        have hc2 := hB2.cell f
        rw [d2] at hc2
        have hf2 := hB2.frozen f
        have he0 := hE.cell 0
        have he1 := hE.cell 1
        have he2 := hE.cell 2
        simp at he0 he1 he2
        have hsz : (⟨(inB (l.take k) f).toArray⟩ : ByteArray).size + y.size ≤ 9223372036854775807 := by rw [mk_size]; omega
        have Hap := Lib.hid (mk_append (inB (l.take k) f) y)
        generalize (⟨(inB (l.take k) f).toArray⟩ : ByteArray) = z at *
        have i1 : (0 : Int) ≤ (k : Int) := by omega
        have i2 : (k : Int) < (l.length : Int) := by omega
        go_wp2_with fail
        go_region
        all_goals go_wp2_with fail
        have hne12 : g1 ≠ g2 := fun e1 => by have h1 := hB1; have h2 := hB2; unfold Blk at h1 h2; rw [e1] at h1; rw [h1] at h2; cases h2
        have hneE : e ≠ g2 := fun e1 => by have h1 := hE; have h2 := hB2; unfold Blk at h1 h2; rw [e1] at h1; rw [h1] at h2; cases h2
        have hneE1 : e ≠ g1 := fun e1 => by have h1 := hE; have h2 := hB1; unfold Blk at h1 h2; rw [e1] at h1; rw [h1] at h2; cases h2
        obtain ⟨wi, hwi⟩ : ∃ wi, wi = (wr.setCell ⟨g2, f, none⟩ (.string (z ++ y))).drew := ⟨_, rfl⟩
        rw [← hwi]
        have hX1 : Blk wi g1 4 c1 := by rw [hwi]; exact (hB1.far hne12 _).drew
        have hX2 : Blk wi g2 9 (c2.setIfInBounds f (.string (z ++ y))) := by rw [hwi]; exact (hB2.set_ _ _).drew
        have hXE : Blk wi e 62 #[.int .i64 n, .slice (some ⟨g1, 0, none⟩) n n, .slice (some ⟨g2, 0, none⟩) (n + 1) (n + 1)] := by rw [hwi]; exact (hE.far hneE _).drew
        have hXR : Blk wi w.heap.size 62 #[.int .i64 0, .slice none 0 0, .slice none 0 0] := by rw [hwi]; exact (hR.far (by show w.heap.size ≠ g2; omega) _).drew
        have hXb : Below w.heap.size w wi := by rw [hwi]; exact (hb.setCell (p := ⟨g2, f, none⟩) (by show w.heap.size ≤ g2; omega) _).drew
        clear hwi hB1 hB2 hE hR hb a0 a1 a2 hc2 hf2 he0 he1 he2
        have HC2 : Hid (∀ j, j ≤ n → (c2.setIfInBounds f (.string (z ++ y)))[j]? = some (.string ⟨(inB (l.take (k + 1)) j).toArray⟩)) := fun j hj => by
          have h2 := H2.out j hj
          rw [HI.out j, Array.getElem?_setIfInBounds]
          by_cases hfj : f = j
          · subst hfj
            have h3 := lt_of_some (H2.out f hj)
            rw [if_pos rfl, if_pos h3, if_pos rfl, Hap.out]
          · rw [if_neg hfj, if_neg hfj, List.append_nil]; exact h2
        generalize c2.setIfInBounds f (.string (z ++ y)) = c2' at *
        clear H2 d2 Hap hsz hlen
        go_loopw [7] (fun i wj => ∃ m : Nat, ∃ c1', f ≤ m ∧ m ≤ t ∧ i = .int .i64 m ∧ Blk wj g1 4 c1' ∧ Blk wj g2 9 c2' ∧ Below w.heap.size w wj ∧ Hid (∀ j, j < n → c1'[j]? = some (.bool (outB (l.take k) j || (decide (f ≤ j) && decide (j < m))))) ∧ Blk wj w.heap.size 62 #[.int .i64 0, .slice none 0 0, .slice none 0 0] ∧ Blk wj e 62 #[.int .i64 n, .slice (some ⟨g1, 0, none⟩) n n, .slice (some ⟨g2, 0, none⟩) (n + 1) (n + 1)]) (fun i _ => t - (intOf i).toNat)
        case atStart => exact ⟨f, c1, Nat.le_refl _, q5, rfl, hX1, hX2, hXb, fun j hj => by rw [H1.out j hj, show (decide (f ≤ j) && decide (j < f)) = false from by simp <;> omega, Bool.or_false], hXR, hXE⟩
        case round =>
          clear hX1 hX2 hXE hXR hXb
          obtain ⟨m, c3, hm1, hm2, rfl, hB1, hB2, hb, H3, hR, hE⟩ := hrel
          have hbs2 := hb.size
          have e1 : ∀ j, wr.cell? ⟨b, j, none⟩ = w.cell? ⟨b, j, none⟩ := fun j => hb.cell (p := ⟨b, j, none⟩) hbB
          have a1 := (e1 _).trans A1.out
          have a0 := (e1 _).trans A0.out
          clear e1
          have he1 := hE.cell 1
          simp at he1
          by_cases hmt : m < t
          · have d1 := hB1.cell m
            rw [H3.out m (by omega)] at d1
            have f1 := hB1.frozen m
            go_wp2
            go_roundw
            case rel => exact ⟨m + 1, _, by omega, by omega, by go_num, hB1.set_ m _, hB2.far (Ne.symm hne12) _, hb.setCell (p := ⟨g1, m, none⟩) (by show w.heap.size ≤ g1; omega) _, means_out H3.out hm1, hR.far (by show w.heap.size ≠ g1; omega) _, hE.far hneE1 _⟩
            case measure => simp [intOf]; omega
          · go_wp2
            go_roundw
            case rel =>
              obtain rfl : m = t := by omega
              exact ⟨k + 1, _, _, by omega, by go_num, hB1, hB2, hb, fun j hj => by rw [H3.out j hj, HO.out j], HC2.out, hR, hE⟩
            case measure => simp [intOf]; omega
      · obtain rfl : k = l.length := by omega
        have he0 := hE.cell 0
        have he1 := hE.cell 1
        have he2 := hE.cell 2
        have hr0 := hR.cell 0
        have hr1 := hR.cell 1
        have hr2 := hR.cell 2
        have hfr := hR.frozen 0
        have hfr1 := hR.frozen 1
        have hfr2 := hR.frozen 2
        simp at he0 he1 he2 hr0 hr1 hr2
        go_wp2_with fail
        have hn1 : g1 ≠ w.heap.size := by omega
        have hn2 : g2 ≠ w.heap.size := by omega
        have hs1 := hB1.lt
        have hs2 := hB2.lt
        have hres : Tryd.f32.results = #[.cell 4 62] := by kernel_rfl
        refine bodyPost_ret (v := EV n g1 g2) ?_ rfl ⟨_, rfl, ⟨g1, g2, rfl, by simpa using hs1, by simpa using hs2, fun k hk => ?_, fun k hk => ?_⟩, ?_⟩
        · simp only [results, hres]
          go_simp
          rfl
        · rw [List.take_length] at H1
          exact ((((hB1.far (p := ⟨w.heap.size, 0, none⟩) hn1 _).far (p := ⟨w.heap.size, 1, none⟩) hn1 _).far (p := ⟨w.heap.size, 2, none⟩) hn1 _).cell k).trans (H1.out k hk)
        · rw [List.take_length] at H2
          exact ((((hB2.far (p := ⟨w.heap.size, 0, none⟩) hn2 _).far (p := ⟨w.heap.size, 1, none⟩) hn2 _).far (p := ⟨w.heap.size, 2, none⟩) hn2 _).cell k).trans (H2.out k hk)
        · exact ((hb.setCell (p := ⟨w.heap.size, 0, none⟩) (Nat.le_refl _) _).setCell (p := ⟨w.heap.size, 1, none⟩) (Nat.le_refl _) _).setCell (p := ⟨w.heap.size, 2, none⟩) (Nat.le_refl _) _
end Go.Proofs.YtffcfnnbdmihaaaDoor
