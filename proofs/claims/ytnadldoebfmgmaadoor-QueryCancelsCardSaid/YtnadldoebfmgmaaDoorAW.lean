/-
  THE WALK of the law QueryCancels.
-/
import Derived.Test.YtnadldoebfmgmaaDoorAT
namespace Go.Proofs.YtnadldoebfmgmaaDoor.q
open Go.RowKit

/-- what the law reads -/
structure CanIn (w : World) (A0 : Option Addr) (l : List Ru) (A1 : Option Addr) (first : List Int) : Prop where
  ru : Rd w w.heap.size 4 A0 l.length (ruCells l)
  fi : Rd w w.heap.size 1 A1 first.length (intsV first)
  n2 : (first.length : Int) ≤ 100000000000000
  i64 : ∀ x ∈ first, I64 x
  g : ErrT w

set_option maxHeartbeats 1000000 in
set_option maxRecDepth 100000 in
theorem canc_bad (A0 : Option Addr) (c0 : Nat) (l : List Ru) (A1 : Option Addr) (c1 : Nat) (first : List Int) (key most : Int) (w : World) (h : CanIn w A0 l A1 first) (hf : faultM l ≠ 0) :
    Calls Tryd.prog 4 #[.slice A0 l.length c0, .slice A1 first.length c1, .int .i64 key, .int .i64 most] w fun e w' => e = .returned (.bool true) ∧ Below w.heap.size w w' := by
  have HI := Lib.hid h
  have HF := Lib.hid hf
  clear h hf
  go_enter Tryd.func4, Tryd.ntmps4
  go_wp2_with fail
  refine (lives_walk _).mono ?_
  rintro e w1 ⟨rfl, hb1⟩
  have hz1 := hb1.size
  have HN := Lib.hid (New_bad A0 c0 l w1 ((HI.out.ru.below hb1).more hz1) HF.out)
  have HB1 := Lib.hid hb1
  clear hb1
  go_wp2_with fail
  refine HN.out.mono ?_
  rintro e w2 ⟨rfl, hb2⟩
  have HB2 := Lib.hid (HB1.out.trans (hb2.mono hz1))
  have hz2 := HB2.out.size
  have HN2 := Lib.hid (New_bad A0 c0 l w2 ((HI.out.ru.below HB2.out).more hz2) HF.out)
  clear hb2 HN
  go_wp2_with fail
  refine HN2.out.mono ?_
  rintro e w3 ⟨rfl, hb3⟩
  have HB3 := Lib.hid (HB2.out.trans (hb3.mono hz2))
  clear hb3 HN2
  go_wp2_with fail
  go_ret
  exact ⟨rfl, HB3.out⟩

set_option maxHeartbeats 8000000 in
set_option maxRecDepth 100000 in
theorem canc_good (A0 : Option Addr) (c0 : Nat) (l : List Ru) (A1 : Option Addr) (c1 : Nat) (first : List Int) (key most : Int) (w : World) (h : CanIn w A0 l A1 first) (hf : faultM l = 0) (hm : I64 most) :
    Calls Tryd.prog 4 #[.slice A0 l.length c0, .slice A1 first.length c1, .int .i64 key, .int .i64 most] w fun e w' => e = .returned (.bool true) ∧ Below w.heap.size w w' := by
  have hn2 := h.n2
  have h64 := (fault_zero hf).1
  have HI := Lib.hid h
  have HF := Lib.hid hf
  have HM := Lib.hid hm
  have HR0 := Lib.hid (new_rest hf)
  clear h hf hm
  go_enter Tryd.func4, Tryd.ntmps4
  go_wp2_with fail
  refine (lives_walk _).mono ?_
  rintro e w1 ⟨rfl, hb1⟩
  have hz1 := hb1.size
  have HN := Lib.hid (New_good A0 c0 l w1 ((HI.out.ru.below hb1).more hz1) HF.out)
  have HB1 := Lib.hid hb1
  clear hb1
  go_wp2_with fail
  refine HN.out.mono ?_
  rintro e w2 ⟨sp, ps, vc, rb, rc, rfl, hS2, hb2⟩
  have hz2 := hb2.size
  have HN2 := Lib.hid (New_good A0 c0 l w2 (((HI.out.ru.below HB1.out).below (hb2.mono hz1)).more (by omega)) HF.out)
  have HS2 := Lib.hid hS2
  have HB2 := Lib.hid hb2
  clear hS2 hb2 HN
  go_wp2_with fail
  refine HN2.out.mono ?_
  rintro e w3 ⟨sq, qs, vq, qb, qc, rfl, hS3, hb3⟩
  obtain ⟨B, hB⟩ : ∃ B, B = w1.heap.size := ⟨_, rfl⟩
  have HT : Hid (∃ NS NT, Two w3 B NS NT ⟨sp, ps, vc, rb, rc⟩ ⟨sq, qs, vq, qb, qc⟩ (newS l) (newS l)) := by
    have h2 := HS2.out
    rw [← hB] at h2
    exact ⟨_, _, Two.make (p := ⟨sp, ps, vc, rb, rc⟩) (q := ⟨sq, qs, vq, qb, qc⟩) h2 hS3 hb3 (by omega) (hS3.lower (by omega))⟩
  have HB0 : Hid (Below B w1 w3) := by rw [hB]; exact HB2.out.trans (hb3.mono hz2)
  have hHw : w.heap.size ≤ B := by omega
  clear HN2 hS3 hb3 HS2 HB2 hz1 hz2 hB
  have RF : Hid (∀ wr, Below B w1 wr → Rd wr w.heap.size 1 A1 first.length (intsV first)) := fun wr hb => (HI.out.fi.below HB1.out).below (hb.mono hHw)
  have FIN : Hid (∀ wr, Below B w1 wr → Below w.heap.size w wr) := fun wr hb => HB1.out.trans (hb.mono hHw)
  have GG : Hid (∀ wr, Below B w1 wr → ErrT wr) := fun wr hb => HI.out.g.below (HB1.out.trans (hb.mono hHw)) HI.out.g.lt
  have I64F := Lib.hid HI.out.i64
  clear HI HB1
  go_wp2_with fail
  -- the inputs
  go_loopw [14] (fun i wr => ∃ k : Nat, i = .int .i64 k ∧ k ≤ first.length ∧ Hid (∃ NS NT, Two wr B NS NT ⟨sp, ps, vc, rb, rc⟩ ⟨sq, qs, vq, qb, qc⟩ (setTo (newS l) first k) (setTo (newS l) first k)) ∧ Hid (Below B w1 wr)) (fun i _ => first.length - (intOf i).toNat)
  case atStart => exact ⟨0, rfl, Nat.zero_le _, HT, HB0⟩
  case round =>
    clear HT HB0
    obtain ⟨k, rfl, hk, HT, HB⟩ := hrel
    obtain ⟨NS, NT, hT⟩ := HT.out
    clear HT
    by_cases hlt : k < first.length
    · obtain ⟨b, o, rfl, hbB, hcs⟩ := (RF.out _ HB.out).2 (by omega)
      have ck := hcs k (.int .i64 first[k]) (by unfold intsV; rw [List.getElem?_map, List.getElem?_eq_getElem hlt]; rfl)
      clear hcs
      have i1 : (0 : Int) ≤ (k : Int) := by omega
      have i2 : (k : Int) < (first.length : Int) := by omega
      have i3 : decide (k < first.length) = true := by simpa using hlt
      have a1 := setTo_all (newS l) first k
      have a2 := a1.hi
      have a3 := a1.lo
      have a4 : (setTo (newS l) first k).cs.length ≤ 1048576 := by rw [a1.len]; simp [newS]; omega
      have a5 : (newS l).sets = 1 := rfl
      have HC := Lib.hid (Set_walk hT.s_ k first[k] a4 (by omega) (by omega))
      have HC2 : Hid (∀ w' NT', Two w' B NS NT' ⟨sp, ps, vc, rb, rc⟩ ⟨sq, qs, vq, qb, qc⟩ (setTo (newS l) first (k + 1)) (setTo (newS l) first k) → Calls Tryd.prog 6 #[.pointer (some ⟨sq, 0, none⟩), .int .i64 k, .int .i64 first[k]] w' fun e w'' => e = .returned (errQ (setM (setTo (newS l) first k) k first[k]).2) ∧ ShAt NT' w'' B sq 0 qs vq qb qc (setM (setTo (newS l) first k) k first[k]).1 ∧ KeepN NT' w' w'' ∧ Below B w' w'') := fun w' NT' h => Set_walk h.t_ k first[k] a4 (by omega) (by omega)
      have HE : Hid ((setM (setTo (newS l) first k) k first[k]).1 = setTo (newS l) first (k + 1)) := by
        show _ = (setM _ _ (first.getD k 0)).1
        rw [List.getD_eq_getElem?_getD, List.getElem?_eq_getElem hlt]; rfl
      have HT := Lib.hid hT
      have HK : Hid (∀ wr', Below B w1 wr' → wr'.cell? ⟨b, o + k, none⟩ = some (.int .i64 first[k])) := fun wr' hb => by
        obtain ⟨b2, o2, e2, _, hc2⟩ := (RF.out _ hb).2 (by omega)
        injection e2 with e2
        injection e2 with e3 e4
        subst e3 e4
        exact hc2 k _ (by unfold intsV; rw [List.getElem?_map, List.getElem?_eq_getElem hlt]; rfl)
      clear a1 a2 a3 a4 a5 hT
      go_wp2_with fail
      refine HC.out.mono ?_
      rintro e w4 ⟨rfl, hS4, hk4, hb4⟩
      rw [HE.out] at hS4
      have HT4 := Lib.hid (HT.out.turnS hS4 hk4 hb4)
      have HB4 := Lib.hid (HB.out.trans hb4)
      have HC3 := Lib.hid (HC2.out w4 _ HT4.out)
      have ck := HK.out w4 HB4.out
      clear hS4 hk4 hb4 HC HC2
      go_wp2_with fail
      refine HC3.out.mono ?_
      rintro e w5 ⟨rfl, hS5, hk5, hb5⟩
      rw [HE.out] at hS5
      have HT5 : Hid (∃ NS NT, Two w5 B NS NT ⟨sp, ps, vc, rb, rc⟩ ⟨sq, qs, vq, qb, qc⟩ (setTo (newS l) first (k + 1)) (setTo (newS l) first (k + 1))) := ⟨_, _, HT4.out.turnT hS5 hk5 hb5⟩
      have HB5 := Lib.hid (HB4.out.trans hb5)
      clear hS5 hk5 hb5 HC3
      go_wp2_with fail
      go_roundw
      case rel => exact ⟨k + 1, by go_num, by omega, HT5, HB5⟩
      case measure => simp [intOf]; omega
    · have i3 : decide (k < first.length) = false := by simpa using hlt
      have hke : k = first.length := by omega
      have HR1 := Lib.hid (setTo_rest HR0.out I64F.out first.length (Nat.le_refl _))
      have HA1 := Lib.hid (setTo_all (newS l) first first.length)
      rw [hke] at hT
      obtain ⟨s1, hs1⟩ : ∃ s1, setTo (newS l) first first.length = s1 := ⟨_, rfl⟩
      rw [hs1] at hT HR1 HA1
      have HT := Lib.hid hT
      clear hs1 hke hT hlt hk HR0
      have h0 : ∀ j, (s1.at j).runs = 0 := fun j => (HA1.out.op j).2.1.trans (new_all l (P := fun c => c.runs = 0) rfl (fun _ => rfl) j)
      have HSo := Lib.hid (Some_walk HT.out.s_ HT.out.ls HT.out.base HR1.out h0 key most HM.out)
      have hm1 : s1.most = -1 := by have := HR1.out.neg; have := HR1.out.low; omega
      have Hm1 := Lib.hid hm1
      have hzB := HT.out.base
      clear h0 hm1
      go_wp2_with fail
      refine HSo.out.mono ?_
      rintro e w4 ⟨n, er, rfl, hk4, hb4, hres⟩
      have HB4 := Lib.hid (HB.out.trans hb4)
      have hz4 : B ≤ w4.heap.size := Nat.le_trans hzB hb4.size
      have hg := GG.out w4 HB4.out
      have HK4 := Lib.hid hk4
      have Hb4 := Lib.hid hb4
      clear HSo hk4 hb4
      rcases hres with (rfl | rfl | rfl) | ⟨rfl, sx, s2, hS4, hss, hBk⟩
      · have HEr : Hid (Calls Tryd.prog 11 #[.nilIface, .int .i64 14] w4 fun e w' => e = .returned (.bool false) ∧ Below w4.heap.size w4 w') := error_no 0 14 _ hg (by decide)
        simp only [errQ]
        go_wp2_with fail
        refine HEr.out.mono ?_
        rintro e w5 ⟨rfl, hb5⟩
        have HB5 := Lib.hid (HB4.out.trans (hb5.mono hz4))
        clear hb5
        go_wp2_with fail
        go_ret
        exact ⟨rfl, FIN.out _ HB5.out⟩
      · have HEr : Hid (Calls Tryd.prog 11 #[.iface 66 (.int .i64 1), .int .i64 14] w4 fun e w' => e = .returned (.bool false) ∧ Below w4.heap.size w4 w') := error_no 1 14 _ hg (by decide)
        simp only [errQ]
        go_wp2_with fail
        refine HEr.out.mono ?_
        rintro e w5 ⟨rfl, hb5⟩
        have HB5 := Lib.hid (HB4.out.trans (hb5.mono hz4))
        clear hb5
        go_wp2_with fail
        go_ret
        exact ⟨rfl, FIN.out _ HB5.out⟩
      · have HEr : Hid (Calls Tryd.prog 11 #[.iface 66 (.int .i64 7), .int .i64 14] w4 fun e w' => e = .returned (.bool false) ∧ Below w4.heap.size w4 w') := error_no 7 14 _ hg (by decide)
        simp only [errQ]
        go_wp2_with fail
        refine HEr.out.mono ?_
        rintro e w5 ⟨rfl, hb5⟩
        have HB5 := Lib.hid (HB4.out.trans (hb5.mono hz4))
        clear hb5
        go_wp2_with fail
        go_ret
        exact ⟨rfl, FIN.out _ HB5.out⟩
      · have HEr : Hid (Calls Tryd.prog 11 #[.iface 66 (.int .i64 14), .int .i64 14] w4 fun e w' => e = .returned (.bool true) ∧ Below w4.heap.size w4 w') := error_yes 14 14 _ hg rfl
        have HQ : Hid (Eqv s1 s2) := hBk.eqv hss Hm1.out
        have HT4 := Lib.hid (HT.out.turnS hS4 HK4.out Hb4.out)
        clear hss hBk hS4
        simp only [errQ]
        go_wp2_with fail
        refine HEr.out.mono ?_
        rintro e w5 ⟨rfl, hb5⟩
        have HB5 := Lib.hid (HB4.out.trans (hb5.mono hz4))
        have HT5 := Lib.hid (HT4.out.more hb5)
        clear hb5 HT4 HEr
        have hsm : s2.cs.length ≤ 1048576 := by rw [HQ.out.len]; have := HR1.out.small; omega
        have hsm1 : s1.cs.length ≤ 1048576 := by have := HR1.out.small; omega
        have HRu := Lib.hid (Runs_walk HT5.out.s_ hsm)
        go_wp2_with fail
        refine HRu.out.mono ?_
        rintro e w6 ⟨g1, rfl, hg1, _, hb6⟩
        have HT6 := Lib.hid (HT5.out.more hb6)
        have HB6 := Lib.hid (HB5.out.trans (hb6.mono HT5.out.base))
        have HG1 := Lib.hid hg1
        clear hb6 hg1 HRu HT5
        have HRu := Lib.hid (Runs_walk HT6.out.t_ hsm1)
        go_wp2_with fail
        refine HRu.out.mono ?_
        rintro e w7 ⟨g2, rfl, hg2, _, hb7⟩
        have HT7 := Lib.hid (HT6.out.more hb7)
        have HB7 := Lib.hid (HB6.out.trans (hb7.mono HT6.out.base))
        have HG7 : Hid (Blk w7 g1 3 (runsV s2)) := HG1.out.below hb7 HG1.out.lt
        have HG2 := Lib.hid hg2
        clear hb7 hg2 HRu HT6 HG1
        have hpl : ps.length = s2.cs.length := HT7.out.s_.len
        have hql : qs.length = s1.cs.length := HT7.out.t_.len
        have HI := Lib.hid (runs_same HQ.out HG7.out HG2.out hpl hql hsm1)
        clear hpl hql
        go_wp2_with fail
        refine HI.out.mono ?_
        rintro e w8 ⟨rfl, hb8⟩
        have HT8 := Lib.hid (HT7.out.more hb8)
        have HB8 := Lib.hid (HB7.out.trans (hb8.mono HT7.out.base))
        have hl1 : s1.cs.length = l.length := by rw [HA1.out.len]; simp [newS]
        have HL1 := Lib.hid hl1
        have HY : Hid (∃ NS NT y t, Two w8 B NS NT ⟨sp, ps, vc, rb, rc⟩ ⟨sq, qs, vq, qb, qc⟩ y t ∧ Eqv t y ∧ t.Rest (1 + 64 * (l.length - l.length)) ∧ t.cs.length = l.length) := ⟨_, _, s2, s1, HT8.out, HQ.out, by rw [Nat.sub_self]; exact HR1.out, hl1⟩
        clear hb8 HI HT7 HB7 HG7 HG2 HT8 hl1 hsm hsm1
        go_wp2_with fail
        go_loopw [18, 19] (fun b i wr => b = .bool true ∧ ∃ k : Nat, i = .int .i64 ((k : Int) - 1) ∧ k ≤ l.length ∧ Hid (∃ NS NT y t, Two wr B NS NT ⟨sp, ps, vc, rb, rc⟩ ⟨sq, qs, vq, qb, qc⟩ y t ∧ Eqv t y ∧ t.Rest (1 + 64 * (l.length - k)) ∧ t.cs.length = l.length) ∧ Hid (Below B w1 wr)) (fun _ i _ => (intOf i + 1).toNat)
        case atStart => exact ⟨rfl, l.length, rfl, Nat.le_refl _, HY, HB8⟩
        case round =>
          clear HY HB8
          obtain ⟨rfl, k, rfl, hk, HY, HB⟩ := hrel
          by_cases hk0 : k = 0
          · subst hk0
            go_wp2_with fail
            go_ret
            exact ⟨rfl, FIN.out _ HB.out⟩
          · obtain ⟨m, rfl⟩ : ∃ m, k = m + 1 := ⟨k - 1, by omega⟩
            obtain ⟨NS, NT, y, t, hT, hE, hR, hl⟩ := HY.out
            rw [show (((m + 1 : Nat) : Int) - 1) = (m : Int) by omega]
            have i1 : (0 : Int) ≤ (m : Int) := by omega
            have hBB : 1 + 64 * (l.length - (m + 1)) ≤ 1000000000000000000 := by omega
            have hmt : m < t.cs.length := by omega
            have HGy := Lib.hid (Get_walk hT.s_ hT.ls hT.base (hE.rest hR) hBB m)
            obtain ⟨hEx, hx2⟩ := get_eqv hE m
            obtain ⟨hRx, _, hKx⟩ := get_rest (k := m) hR hBB
            have hxe : (getM t m).2.2 = 0 ∨ (getM t m).2.2 = 7 := by
              obtain ⟨_, _, g⟩ := bring_rest hR hBB (k := m) hmt
              have := g.err
              unfold getM
              rw [if_pos (by omega)]
              simpa using this
            have hsy : (getM y m).1.cs.length ≤ 1048576 := by rw [hEx.len, hKx.len]; have := hR.small; omega
            have hst : (getM t m).1.cs.length ≤ 1048576 := by rw [hKx.len]; have := hR.small; omega
            have hlx : (getM t m).1.cs.length = l.length := by rw [hKx.len]; exact hl
            replace hRx : (getM t m).1.Rest (1 + 64 * (l.length - m)) := hRx.mono (by omega)
            rw [← hx2] at HGy
            obtain ⟨x, hx⟩ : ∃ x, getM t m = x := ⟨_, rfl⟩
            rw [hx] at HGy hEx hRx hxe hst hlx
            obtain ⟨x1, xn, xe⟩ := x
            simp only at hEx hRx hxe hst hlx HGy
            clear hKx hx2 HY hE hk0
            go_wp2_with fail
            refine HGy.out.mono ?_
            rintro e w2' ⟨rfl, hSy, hKy, hby⟩
            have HT2 := Lib.hid (hT.turnS hSy hKy hby)
            have HB2 := Lib.hid (HB.out.trans hby)
            have HGt := Lib.hid (Get_walk HT2.out.t_ HT2.out.lt HT2.out.base hR hBB m)
            rw [hx] at HGt
            clear hSy hKy hby HGy
            go_wp2_with fail
            refine HGt.out.mono ?_
            rintro e w3' ⟨rfl, hSt, hKt, hbt⟩
            have HT3 := Lib.hid (HT2.out.turnT hSt hKt hbt)
            have HB3 := Lib.hid (HB2.out.trans hbt)
            clear hSt hKt hbt HGt HT2
            have HRu := Lib.hid (Runs_walk HT3.out.s_ hsy)
            go_wp2_with fail
            refine HRu.out.mono ?_
            rintro e w4' ⟨g3, rfl, hg3, _, hb4'⟩
            have HT4 := Lib.hid (HT3.out.more hb4')
            have HB4 := Lib.hid (HB3.out.trans (hb4'.mono HT3.out.base))
            have HG3 := Lib.hid hg3
            clear hb4' hg3 HRu HT3
            have HRu := Lib.hid (Runs_walk HT4.out.t_ hst)
            go_wp2_with fail
            refine HRu.out.mono ?_
            rintro e w5' ⟨g4, rfl, hg4, _, hb5'⟩
            have HT5 := Lib.hid (HT4.out.more hb5')
            have HB5 := Lib.hid (HB4.out.trans (hb5'.mono HT4.out.base))
            have HG5 : Hid (Blk w5' g3 3 (runsV (getM y m).1)) := HG3.out.below hb5' HG3.out.lt
            have hpl : ps.length = (getM y m).1.cs.length := HT5.out.s_.len
            have hql : qs.length = x1.cs.length := HT5.out.t_.len
            have HI := Lib.hid (runs_same hEx HG5.out hg4 hpl hql hst)
            clear hb5' hg4 HRu HT4 HG3 hpl hql
            go_wp2_with fail
            refine HI.out.mono ?_
            rintro e w6' ⟨rfl, hb6'⟩
            have HT6 := Lib.hid (HT5.out.more hb6')
            have HB6 := Lib.hid (HB5.out.trans (hb6'.mono HT5.out.base))
            clear hb6' HI HT5 HG5
            rcases hxe with rfl | rfl
            all_goals
              simp only [errQ]
              go_wp2_with fail
              go_quiet (fail)
              go_wp2_with fail
              go_roundw
              case rel => exact ⟨by simp, m, by go_num, by omega, ⟨_, _, _, _, Two.drewN HT6.out _, hEx, hRx, hlx⟩, below_drewN HB6.out _⟩
              case measure => simp [intOf] <;> omega
end Go.Proofs.YtnadldoebfmgmaaDoor.q
