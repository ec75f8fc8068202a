/-
  THE WALK of amanuensisref1.Both.
-/
import Derived.Test.YtffcfnnbdmihaaaDoorMeans
namespace Go.Proofs.YtffcfnnbdmihaaaDoor
open Go.RowKit

theorem both_c1 {c : Array Value} {n g : Nat} {F : Nat → Bool} (H : ∀ j, j < n → c[j]? = some (.bool (if j < g then F j else false))) :
    ∀ j, j < n → (c.setIfInBounds g (.bool (F g)))[j]? = some (.bool (if j < g + 1 then F j else false)) := fun j hj => by
  rw [Array.getElem?_setIfInBounds]
  by_cases h : g = j
  · subst h
    rw [if_pos rfl, if_pos (lt_of_some (H g hj)), if_pos (by omega)]
  · rw [if_neg h, H j hj]
    by_cases h2 : j < g
    · rw [if_pos h2, if_pos (by omega)]
    · rw [if_neg h2, if_neg (by omega)]
theorem both_c2 {c : Array Value} {n g : Nat} {F : Nat → List UInt8} (H : ∀ j, j ≤ n → c[j]? = some (.string ⟨(if j < g then F j else []).toArray⟩)) :
    ∀ j, j ≤ n → (c.setIfInBounds g (.string ⟨(F g).toArray⟩))[j]? = some (.string ⟨(if j < g + 1 then F j else []).toArray⟩) := fun j hj => by
  rw [Array.getElem?_setIfInBounds]
  by_cases h : g = j
  · subst h
    rw [if_pos rfl, if_pos (lt_of_some (H g hj)), if_pos (by omega)]
  · rw [if_neg h, H j hj]
    by_cases h2 : j < g
    · rw [if_pos h2, if_pos (by omega)]
    · rw [if_neg h2, if_neg (by omega)]

set_option maxHeartbeats 1000000 in
set_option maxRecDepth 100000 in
theorem both_walk (n : Nat) (v1 v2 : Value) (I1 I2 : Nat → List UInt8) (O1 O2 : Nat → Bool) (w : World) (h1 : EAt w w.heap.size v1 n I1 O1) (h2 : EAt w w.heap.size v2 n I2 O2) (hn : n ≤ 16777216) (hsz : ∀ k, k ≤ n → (I1 k).length + (I2 k).length ≤ 16777216) :
    Calls Tryd.prog 36 #[v1, v2] w fun e w' => ∃ v, e = .returned v ∧ EAt w' w'.heap.size v n (fun g => I1 g ++ I2 g) (fun k => O1 k || O2 k) ∧ Below w.heap.size w w' := by
  obtain ⟨a1, a2, rfl, ha1, ha2, hA1, hA2⟩ := h1
  obtain ⟨b1, b2, rfl, hb1, hb2, hB1, hB2⟩ := h2
  have A1 := Lib.hid hA1
  have A2 := Lib.hid hA2
  have B1 := Lib.hid hB1
  have B2 := Lib.hid hB2
  have Hsz := Lib.hid hsz
  clear hA1 hA2 hB1 hB2 hsz
  unfold EV
  have hmk1 := run_make_row' (P := Tryd.prog) 59 4 (.bool false) 1 Tryd.underlying59 infoB rfl .i64 .i64 n (by omega) (by omega)
  have hmk2 := run_make_row' (P := Tryd.prog) 60 9 (.string ⟨#[]⟩) 16 Tryd.underlying60 infoS rfl .i64 .i64 (n + 1) (by omega) (by omega)
  have e0 : ((n + 1 : Nat) : Int) = (n : Int) + 1 := by omega
  rw [e0] at hmk2
  go_enter Tryd.func36, Tryd.ntmps36
  go_upto_region 1 with fail
  go_cut [5] (fun s5 wc => ∃ g1 g2 e, s5 = .pointer (some ⟨e, 0, none⟩) ∧ Blk wc (w.heap.size + 1 + 1) 62 #[.int .i64 0, .slice none 0 0, .slice none 0 0] ∧ Blk wc w.heap.size 62 #[.int .i64 n, .slice (some ⟨a1, 0, none⟩) n n, .slice (some ⟨a2, 0, none⟩) (n + 1) (n + 1)] ∧ Blk wc (w.heap.size + 1) 62 #[.int .i64 n, .slice (some ⟨b1, 0, none⟩) n n, .slice (some ⟨b2, 0, none⟩) (n + 1) (n + 1)] ∧
    Blk wc g1 4 (madeCells #[.bool false] n) ∧ Blk wc g2 9 (madeCells #[.string ⟨#[]⟩] (n + 1)) ∧ Blk wc e 62 #[.int .i64 n, .slice (some ⟨g1, 0, none⟩) n n, .slice (some ⟨g2, 0, none⟩) (n + 1) (n + 1)] ∧ w.heap.size + 1 + 1 < g1 ∧ w.heap.size + 1 + 1 < g2 ∧ w.heap.size + 1 + 1 < e ∧ Below w.heap.size w wc)
  case first =>
    have hz : w.heap.size ≤ w.heap.size := Nat.le_refl _
    go_region
    all_goals (go_wp2_with fail; go_meet)
    all_goals first
      | (refine ⟨w.heap.size + 1 + 1 + 1, w.heap.size + 1 + 1 + 1 + 1, w.heap.size + 1 + 1 + 1 + 1 + 1, rfl, Blk.drew ?_, Blk.drew ?_, Blk.drew ?_, Blk.drew ?_, Blk.drew ?_, Blk.drew ?_, by omega, by omega, by omega, Below.drew ?_⟩ <;> (repeat (first | exact Below.refl _ _ | (refine Blk.new' _ _ _ _ ?_; simp; done) | refine Blk.alloc ?_ _ | refine Below.alloc ?_ (by simp <;> omega) _)); done)
      | (refine ⟨w.heap.size + 1 + 1 + 1, w.heap.size + 1 + 1 + 1 + 1 + 1, w.heap.size + 1 + 1 + 1 + 1, rfl, Blk.drew ?_, Blk.drew ?_, Blk.drew ?_, Blk.drew ?_, Blk.drew ?_, Blk.drew ?_, by omega, by omega, by omega, Below.drew ?_⟩ <;> (repeat (first | exact Below.refl _ _ | (refine Blk.new' _ _ _ _ ?_; simp; done) | refine Blk.alloc ?_ _ | refine Below.alloc ?_ (by simp <;> omega) _)); done)
      | (refine ⟨w.heap.size + 1 + 1 + 1 + 1, w.heap.size + 1 + 1 + 1, w.heap.size + 1 + 1 + 1 + 1 + 1, rfl, Blk.drew ?_, Blk.drew ?_, Blk.drew ?_, Blk.drew ?_, Blk.drew ?_, Blk.drew ?_, by omega, by omega, by omega, Below.drew ?_⟩ <;> (repeat (first | exact Below.refl _ _ | (refine Blk.new' _ _ _ _ ?_; simp; done) | refine Blk.alloc ?_ _ | refine Below.alloc ?_ (by simp <;> omega) _)); done)
      | (refine ⟨w.heap.size + 1 + 1 + 1 + 1, w.heap.size + 1 + 1 + 1 + 1 + 1, w.heap.size + 1 + 1 + 1, rfl, Blk.drew ?_, Blk.drew ?_, Blk.drew ?_, Blk.drew ?_, Blk.drew ?_, Blk.drew ?_, by omega, by omega, by omega, Below.drew ?_⟩ <;> (repeat (first | exact Below.refl _ _ | (refine Blk.new' _ _ _ _ ?_; simp; done) | refine Blk.alloc ?_ _ | refine Below.alloc ?_ (by simp <;> omega) _)); done)
      | (refine ⟨w.heap.size + 1 + 1 + 1 + 1 + 1, w.heap.size + 1 + 1 + 1, w.heap.size + 1 + 1 + 1 + 1, rfl, Blk.drew ?_, Blk.drew ?_, Blk.drew ?_, Blk.drew ?_, Blk.drew ?_, Blk.drew ?_, by omega, by omega, by omega, Below.drew ?_⟩ <;> (repeat (first | exact Below.refl _ _ | (refine Blk.new' _ _ _ _ ?_; simp; done) | refine Blk.alloc ?_ _ | refine Below.alloc ?_ (by simp <;> omega) _)); done)
      | (refine ⟨w.heap.size + 1 + 1 + 1 + 1 + 1, w.heap.size + 1 + 1 + 1 + 1, w.heap.size + 1 + 1 + 1, rfl, Blk.drew ?_, Blk.drew ?_, Blk.drew ?_, Blk.drew ?_, Blk.drew ?_, Blk.drew ?_, by omega, by omega, by omega, Below.drew ?_⟩ <;> (repeat (first | exact Below.refl _ _ | (refine Blk.new' _ _ _ _ ?_; simp; done) | refine Blk.alloc ?_ _ | refine Below.alloc ?_ (by simp <;> omega) _)); done)
  case rest =>
    obtain ⟨g1, g2, e, rfl, hR, hXA, hXB, hB1, hB2, hE, hg1, hg2, he, hb⟩ := hcut
    go_wp2_with fail
    go_loopw [6] (fun i wr => ∃ g : Nat, ∃ c1 c2, g ≤ n + 1 ∧ i = .int .i64 g ∧ Blk wr g1 4 c1 ∧ Blk wr g2 9 c2 ∧ Below w.heap.size w wr ∧ Hid (∀ j, j < n → c1[j]? = some (.bool (if j < g then O1 j || O2 j else false))) ∧ Hid (∀ j, j ≤ n → c2[j]? = some (.string ⟨(if j < g then I1 j ++ I2 j else []).toArray⟩)) ∧ Blk wr (w.heap.size + 1 + 1) 62 #[.int .i64 0, .slice none 0 0, .slice none 0 0] ∧ Blk wr w.heap.size 62 #[.int .i64 n, .slice (some ⟨a1, 0, none⟩) n n, .slice (some ⟨a2, 0, none⟩) (n + 1) (n + 1)] ∧ Blk wr (w.heap.size + 1) 62 #[.int .i64 n, .slice (some ⟨b1, 0, none⟩) n n, .slice (some ⟨b2, 0, none⟩) (n + 1) (n + 1)] ∧ Blk wr e 62 #[.int .i64 n, .slice (some ⟨g1, 0, none⟩) n n, .slice (some ⟨g2, 0, none⟩) (n + 1) (n + 1)]) (fun i _ => n + 1 - (intOf i).toNat)
    case atStart => exact ⟨0, _, _, Nat.zero_le _, rfl, hB1, hB2, hb, fun j hj => by have := made_get (.bool false) n j hj; simpa using this, fun j hj => by have := made_get (.string ⟨#[]⟩) (n + 1) j (by omega); simpa using this, hR, hXA, hXB, hE⟩
    case round =>
      clear hB1 hB2 hb hR hE hXA hXB
      obtain ⟨g, c1, c2, hg, rfl, hB1, hB2, hb, H1, H2, hR, hXA, hXB, hE⟩ := hrel
      have hbs := hb.size
      have he0 := hE.cell 0
      have he1 := hE.cell 1
      have he2 := hE.cell 2
      have ra0 := hXA.cell 0
      have ra1 := hXA.cell 1
      have ra2 := hXA.cell 2
      have rb1 := hXB.cell 1
      have rb2 := hXB.cell 2
      simp at he0 he1 he2 ra0 ra1 ra2 rb1 rb2
      have hne12 : g1 ≠ g2 := fun e1 => by have h1 := hB1; have h2 := hB2; unfold Blk at h1 h2; rw [e1] at h1; rw [h1] at h2; cases h2
      have hneE : e ≠ g2 := fun e1 => by have h1 := hE; have h2 := hB2; unfold Blk at h1 h2; rw [e1] at h1; rw [h1] at h2; cases h2
      have hneE1 : e ≠ g1 := fun e1 => by have h1 := hE; have h2 := hB1; unfold Blk at h1 h2; rw [e1] at h1; rw [h1] at h2; cases h2
      by_cases hle : g ≤ n
      · have x2 := (hb.cell (p := ⟨a2, g, none⟩) ha2).trans (A2.out g hle)
        have y2 := (hb.cell (p := ⟨b2, g, none⟩) hb2).trans (B2.out g hle)
        have d2 := hB2.cell g
        rw [H2.out g hle] at d2
        have f2 := hB2.frozen g
        have hsz := Hsz.out g hle
        have hs2 : (⟨(I1 g).toArray⟩ : ByteArray).size + (⟨(I2 g).toArray⟩ : ByteArray).size ≤ 9223372036854775807 := by rw [mk_size, mk_size]; omega
        have Hap : Hid ((⟨(I1 g).toArray⟩ : ByteArray) ++ (⟨(I2 g).toArray⟩ : ByteArray) = ⟨(I1 g ++ I2 g).toArray⟩) := mk_append _ _
        have HC2 := Lib.hid (both_c2 (F := fun g => I1 g ++ I2 g) H2.out)
        generalize (⟨(I1 g).toArray⟩ : ByteArray) = z1 at *
        generalize (⟨(I2 g).toArray⟩ : ByteArray) = z2 at *
        generalize (⟨(if g < g then I1 g ++ I2 g else []).toArray⟩ : ByteArray) = z0 at *
        clear hsz
        by_cases hlt : g < n
        all_goals
          go_wp2_with fail
          go_region
          all_goals go_wp2_with fail
          obtain ⟨wi, hwi⟩ : ∃ wi, wi = (wr.setCell ⟨g2, g, none⟩ (.string (z1 ++ z2))).drew := ⟨_, rfl⟩
          rw [← hwi]
          have hX1 : Blk wi g1 4 c1 := by rw [hwi]; exact (hB1.far hne12 _).drew
          have hX2 : Blk wi g2 9 (c2.setIfInBounds g (.string (z1 ++ z2))) := by rw [hwi]; exact (hB2.set_ _ _).drew
          have hXE : Blk wi e 62 #[.int .i64 n, .slice (some ⟨g1, 0, none⟩) n n, .slice (some ⟨g2, 0, none⟩) (n + 1) (n + 1)] := by rw [hwi]; exact (hE.far hneE _).drew
          have hXR : Blk wi (w.heap.size + 1 + 1) 62 #[.int .i64 0, .slice none 0 0, .slice none 0 0] := by rw [hwi]; exact (hR.far (by show w.heap.size + 1 + 1 ≠ g2; omega) _).drew
          have hYA : Blk wi w.heap.size 62 #[.int .i64 n, .slice (some ⟨a1, 0, none⟩) n n, .slice (some ⟨a2, 0, none⟩) (n + 1) (n + 1)] := by rw [hwi]; exact (hXA.far (by show w.heap.size ≠ g2; omega) _).drew
          have hYB : Blk wi (w.heap.size + 1) 62 #[.int .i64 n, .slice (some ⟨b1, 0, none⟩) n n, .slice (some ⟨b2, 0, none⟩) (n + 1) (n + 1)] := by rw [hwi]; exact (hXB.far (by show w.heap.size + 1 ≠ g2; omega) _).drew
          have hXb : Below w.heap.size w wi := by rw [hwi]; exact (hb.setCell (p := ⟨g2, g, none⟩) (by show w.heap.size ≤ g2; omega) _).drew
          rw [show (Value.string ⟨(I1 g ++ I2 g).toArray⟩) = .string (z1 ++ z2) from by rw [Hap.out]] at HC2
          clear hwi hB1 hB2 hE hR hb hXA hXB x2 y2 d2 f2 he0 he1 he2 ra0 ra1 ra2 rb1 rb2 H2 Hap hs2
          generalize c2.setIfInBounds g (.string (z1 ++ z2)) = c2' at *
          have he1 := hXE.cell 1
          have ra0 := hYA.cell 0
          have ra1 := hYA.cell 1
          have rb1 := hYB.cell 1
          simp at he1 ra0 ra1 rb1
        · have x1 := (hXb.cell (p := ⟨a1, g, none⟩) ha1).trans (A1.out g hlt)
          have y1 := (hXb.cell (p := ⟨b1, g, none⟩) hb1).trans (B1.out g hlt)
          have d1 := hX1.cell g
          rw [H1.out g hlt] at d1
          have f1 := hX1.frozen g
          have HC1 := Lib.hid (both_c1 (F := fun g => O1 g || O2 g) H1.out)
          generalize (if g < g then O1 g || O2 g else false) = o0 at *
          generalize O1 g = o1 at *
          generalize O2 g = o2 at *
          cases o1
          all_goals
            go_wp2_with fail
            go_region
            all_goals go_wp2_with fail
            go_roundw
            case rel => exact ⟨g + 1, _, c2', by omega, by go_num, (hX1.set_ g _).drew, (hX2.far (Ne.symm hne12) _).drew, (hXb.setCell (p := ⟨g1, g, none⟩) (by show w.heap.size ≤ g1; omega) _).drew, HC1, HC2, (hXR.far (by show w.heap.size + 1 + 1 ≠ g1; omega) _).drew, (hYA.far (by show w.heap.size ≠ g1; omega) _).drew, (hYB.far (by show w.heap.size + 1 ≠ g1; omega) _).drew, (hXE.far hneE1 _).drew⟩
            case measure => simp [intOf]; omega
        · go_wp2_with fail
          go_roundw
          case rel => exact ⟨g + 1, c1, c2', by omega, by go_num, hX1, hX2, hXb, fun j hj => by rw [H1.out j hj, if_pos (by omega), if_pos (by omega)], HC2, hXR, hYA, hYB, hXE⟩
          case measure => simp [intOf]; omega
      · obtain rfl : g = n + 1 := by omega
        have hr0 := hR.cell 0
        have hr1 := hR.cell 1
        have hr2 := hR.cell 2
        have hfr := hR.frozen 0
        have hfr1 := hR.frozen 1
        have hfr2 := hR.frozen 2
        simp at hr0 hr1 hr2
        go_wp2_with fail
        have hn1 : g1 ≠ w.heap.size + 1 + 1 := by omega
        have hn2 : g2 ≠ w.heap.size + 1 + 1 := by omega
        have hs1 := hB1.lt
        have hs2 := hB2.lt
        have hres : Tryd.f36.results = #[.cell 4 62] := by kernel_rfl
        refine bodyPost_ret (v := EV n g1 g2) ?_ rfl ⟨_, rfl, ⟨g1, g2, rfl, by simpa using hs1, by simpa using hs2, fun k hk => ?_, fun k hk => ?_⟩, ?_⟩
        · simp only [results, hres]
          go_simp
          rfl
        · refine ((((hB1.far (p := ⟨w.heap.size + 1 + 1, 0, none⟩) hn1 _).far (p := ⟨w.heap.size + 1 + 1, 1, none⟩) hn1 _).far (p := ⟨w.heap.size + 1 + 1, 2, none⟩) hn1 _).cell k).trans ((H1.out k hk).trans ?_)
          rw [if_pos (by omega)]
        · refine ((((hB2.far (p := ⟨w.heap.size + 1 + 1, 0, none⟩) hn2 _).far (p := ⟨w.heap.size + 1 + 1, 1, none⟩) hn2 _).far (p := ⟨w.heap.size + 1 + 1, 2, none⟩) hn2 _).cell k).trans ((H2.out k hk).trans ?_)
          rw [if_pos (by omega)]
        · exact ((hb.setCell (p := ⟨w.heap.size + 1 + 1, 0, none⟩) (by show w.heap.size ≤ w.heap.size + 1 + 1; omega) _).setCell (p := ⟨w.heap.size + 1 + 1, 1, none⟩) (by show w.heap.size ≤ w.heap.size + 1 + 1; omega) _).setCell (p := ⟨w.heap.size + 1 + 1, 2, none⟩) (by show w.heap.size ≤ w.heap.size + 1 + 1; omega) _
end Go.Proofs.YtffcfnnbdmihaaaDoor
