/-
  THE WALK of the law ColourDiffs.
-/
import Derived.Test.YtnigmmnhpmdbbaaDoorDiff
import Derived.Test.YtnigmmnhpmdbbaaDoorPatch
import Derived.Test.YtnigmmnhpmdbbaaDoorTold
namespace Go.Proofs.YtnigmmnhpmdbbaaDoor
open Go.RowKit

theorem patch_get {a b : List Co} {at_ dr k : Nat} (hd : at_ + dr ≤ a.length) (hk : k < (patchL a b at_ dr).length) :
    (k < at_ ∧ ∃ h : k < a.length, (patchL a b at_ dr)[k] = a[k]) ∨ (at_ ≤ k ∧ k < at_ + b.length ∧ ∃ h : k - at_ < b.length, (patchL a b at_ dr)[k] = b[k - at_]) ∨ (at_ + b.length ≤ k ∧ ∃ h : k - b.length + dr < a.length, (patchL a b at_ dr)[k] = a[k - b.length + dr]) := by
  unfold patchL at hk ⊢
  have hl : (a.take at_).length = at_ := by rw [List.length_take]; omega
  rw [List.length_append, List.length_append, hl, List.length_drop] at hk
  rcases Nat.lt_or_ge k at_ with h | h
  · left
    refine ⟨h, by omega, ?_⟩
    rw [List.getElem_append_left (by omega), List.getElem_take]
  · right
    rcases Nat.lt_or_ge k (at_ + b.length) with h2 | h2
    · left
      refine ⟨h, h2, by omega, ?_⟩
      rw [List.getElem_append_right (by omega), List.getElem_append_left (by omega)]
      simp only [hl]
    · right
      refine ⟨h2, by omega, ?_⟩
      rw [List.getElem_append_right (by omega), List.getElem_append_right (by omega), List.getElem_drop]
      congr 1
      omega

set_option maxHeartbeats 4000000 in
set_option maxRecDepth 100000 in
theorem colourDiffs_walk (A1 : Option Addr) (c1 : Nat) (a : List Co) (A2 : Option Addr) (c2 : Nat) (b : List Co) (at_ dr : Int) (w : World) (hg : ErrT w) (hr1 : Rd w w.heap.size 4 A1 a.length (coCells a)) (hr2 : Rd w w.heap.size 4 A2 b.length (coCells b))
    (hl1 : a.length ≤ 1048576) (hl2 : b.length ≤ 1048576) (hcap1 : a.length ≤ c1) (hnil1 : A1 = none → c1 = 0) (hcap : b.length ≤ c2) (hnil : A2 = none → c2 = 0) :
    Calls Tryd.prog 3 #[.slice A1 a.length c1, .slice A2 b.length c2, .int .i64 at_, .int .i64 dr] w fun e w' => e = .returned (.bool true) ∧ Below w.heap.size w w' := by
  have hdw := diff_walk A1 c1 a A2 c2 b w hr1 hr2 hl1 hl2 hcap hnil
  obtain ⟨hp1, hp2⟩ := pre_le a b
  have hpn : ∀ k, k ≤ pre a b → ∀ (ha : k < a.length) (hb : k < b.length), a[k] = b[k] → k + 1 ≤ pre a b := fun k => pre_next
  have hps : ∀ k, k ≤ pre a b → (∀ (ha : k < a.length) (hb : k < b.length), a[k] ≠ b[k]) → pre a b = k := fun k => pre_stop
  have hsn := fun k => suf_next (a := a) (b := b) (at_ := pre a b) (k := k)
  have hss := fun k => suf_stop (a := a) (b := b) (at_ := pre a b) (k := k)
  obtain ⟨hs1, hs2⟩ := suf_le a b (pre a b)
  have Hpn := Lib.hid hpn
  have Hps := Lib.hid hps
  have Hsn := Lib.hid hsn
  have Hss := Lib.hid hss
  clear hpn hps hsn hss
  generalize suf a b (pre a b) = sf at *
  generalize pre a b = p at *
  generalize hm0 : b.length - p - sf = m at hdw
  have hm : b.length - p - sf = m := hm0
  have hmI : (b.length : Int) - p - sf = m := by omega
  have Hm := Lib.hid hm0
  have HmI := Lib.hid hmI
  clear hm0 hm hmI
  go_enter Tryd.func3, Tryd.ntmps3
  go_wp2_with fail
  refine hdw.mono ?_
  clear hdw
  rintro e w1 ⟨Av, rfl, hPr, hb1⟩
  have h1r := (hr1.below hb1).more hb1.size
  have h2r := (hr2.below hb1).more hb1.size
  go_upto_block 0 with fail
  go_cut [12] (fun s wc => s = .int .i64 p ∧ Below w1.heap.size w1 wc)
  case first =>
    go_wp2_with fail
    go_loopw [12] (fun i wr => ∃ k : Nat, i = .int .i64 k ∧ Hid (k ≤ p) ∧ k ≤ a.length ∧ k ≤ b.length ∧ Below w1.heap.size w1 wr) (fun i _ => a.length - (intOf i).toNat)
    case atStart => exact ⟨0, rfl, Nat.zero_le _, Nat.zero_le _, Nat.zero_le _, Below.refl _ _⟩
    case round =>
      obtain ⟨k, rfl, HK, hka, hkb, hb⟩ := hrel
      have hways : (∃ (h1 : k < a.length) (h2 : k < b.length), a[k] = b[k]) ∨ (∃ (h1 : k < a.length) (h2 : k < b.length), a[k] ≠ b[k]) ∨ (k < a.length ∧ k = b.length) ∨ k = a.length := by
        by_cases h1 : k < a.length
        · by_cases h2 : k < b.length
          · by_cases h3 : a[k] = b[k]
            · exact .inl ⟨h1, h2, h3⟩
            · exact .inr (.inl ⟨h1, h2, h3⟩)
          · exact .inr (.inr (.inl ⟨h1, by omega⟩))
        · exact .inr (.inr (.inr (by omega)))
      have i1 : (0 : Int) ≤ (k : Int) := by omega
      rcases hways with ⟨h1, h2, he⟩ | hstop
      · obtain ⟨b1, o1, rfl, hbB, hcs⟩ := (h1r.below hb).co h1
        obtain ⟨p0, p1, p2, p3⟩ := hcs k h1
        clear hcs
        obtain ⟨b2, o2, rfl, hbB2, hcs⟩ := (h2r.below hb).co h2
        obtain ⟨q0, q1, q2, q3⟩ := hcs k h2
        clear hcs
        have Hnx : Hid (k + 1 ≤ p) := Hpn.out k HK.out h1 h2 he
        rw [he] at p0 p1 p2 p3
        clear he
        generalize b[k] = x at *
        have d1 : decide (k < a.length) = true := by simp [h1]
        have d2 : decide (k < b.length) = true := by simp [h2]
        have i2 : (k : Int) < (a.length : Int) := by omega
        have i3 : (k : Int) < (b.length : Int) := by omega
        go_wp2_with fail
        go_quiet (fail)
        go_wp2_with fail
        go_roundw
        case rel => exact ⟨k + 1, by go_num, Hnx, by omega, by omega, below_drewN hb _⟩
        case measure => simp [intOf]; omega
      · have Hst : Hid (p = k) := by
          rcases hstop with ⟨h1, h2, h3⟩ | ⟨h1, h2⟩ | h1
          · exact Hps.out k HK.out fun _ _ => h3
          · exact Hps.out k HK.out fun _ hb => by omega
          · exact Hps.out k HK.out fun ha _ => by omega
        rcases hstop with ⟨h1, h2, h3⟩ | ⟨h1, h2⟩ | h1
        · obtain ⟨b1, o1, rfl, hbB, hcs⟩ := (h1r.below hb).co h1
          obtain ⟨p0, p1, p2, p3⟩ := hcs k h1
          clear hcs
          obtain ⟨b2, o2, rfl, hbB2, hcs⟩ := (h2r.below hb).co h2
          obtain ⟨q0, q1, q2, q3⟩ := hcs k h2
          clear hcs
          have hne := Co.ne_ways h3
          clear h3
          generalize a[k] = x at *
          generalize b[k] = y at *
          obtain ⟨xl, xu, xn, xk⟩ := x
          obtain ⟨yl, yu, yn, yk⟩ := y
          simp only at p0 p1 p2 p3 q0 q1 q2 q3 hne
          have d1 : decide (k < a.length) = true := by simp [h1]
          have d2 : decide (k < b.length) = true := by simp [h2]
          have i2 : (k : Int) < (a.length : Int) := by omega
          have i3 : (k : Int) < (b.length : Int) := by omega
          rcases hne with e1 | ⟨rfl, e2⟩ | ⟨rfl, rfl, e3⟩ | ⟨rfl, rfl, rfl, e4⟩
          all_goals
            go_wp2_with fail
            go_quiet (fail)
            go_wp2_with fail
            go_meet
            exact ⟨by rw [Hst.out], below_drewN hb _⟩
        · have d1 : decide (k < a.length) = true := by simp [h1]
          have d2 : decide (k < b.length) = false := by simp; omega
          subst h2
          go_wp2_with fail
          go_quiet (fail)
          go_wp2_with fail
          go_meet
          exact ⟨by rw [Hst.out], below_drewN hb _⟩
        · have d1 : decide (k < a.length) = false := by simp; omega
          subst h1
          go_wp2_with fail
          go_quiet (fail)
          go_wp2_with fail
          go_meet
          exact ⟨by rw [Hst.out], below_drewN hb _⟩
  case rest =>
    obtain ⟨rfl, hb⟩ := hcut
    go_upto_block 2 with fail
    go_cut [13] (fun s w2 => s = .int .i64 sf ∧ Below w1.heap.size w1 w2)
    case first =>
      go_wp2_with fail
      go_loopw [13] (fun i wr => ∃ k : Nat, i = .int .i64 k ∧ Hid (k ≤ sf) ∧ k + p ≤ a.length ∧ k + p ≤ b.length ∧ Below w1.heap.size w1 wr) (fun i _ => a.length - (intOf i).toNat)
      case atStart => exact ⟨0, rfl, Nat.zero_le _, by omega, by omega, hb⟩
      case round =>
        clear hb
        obtain ⟨k, rfl, HK, hka, hkb, hb⟩ := hrel
        have i1 : (0 : Int) ≤ (k : Int) := by omega
        have w1 : IntKind.i64.wrap ((a.length : Int) - p) = a.length - p := by rw [IntWalk.i64_in _ (by omega)]
        have w2 : IntKind.i64.wrap ((b.length : Int) - p) = b.length - p := by rw [IntWalk.i64_in _ (by omega)]
        have hways : (k + p < a.length ∧ k + p < b.length) ∨ (k + p < a.length ∧ k + p = b.length) ∨ k + p = a.length := by omega
        rcases hways with ⟨h1, h2⟩ | hstop
        · obtain ⟨ia, hia⟩ : ∃ ia, ia + 1 + k = a.length := ⟨a.length - 1 - k, by omega⟩
          obtain ⟨ib, hib⟩ : ∃ ib, ib + 1 + k = b.length := ⟨b.length - 1 - k, by omega⟩
          have g1 : ia < a.length := by omega
          have g2 : ib < b.length := by omega
          have w3 : IntKind.i64.wrap ((a.length : Int) - 1) = a.length - 1 := by rw [IntWalk.i64_in _ (by omega)]
          have w4 : IntKind.i64.wrap ((b.length : Int) - 1) = b.length - 1 := by rw [IntWalk.i64_in _ (by omega)]
          have w5 : IntKind.i64.wrap ((a.length : Int) - 1 - k) = ia := by rw [IntWalk.i64_in _ (by omega)]; omega
          have w6 : IntKind.i64.wrap ((b.length : Int) - 1 - k) = ib := by rw [IntWalk.i64_in _ (by omega)]; omega
          have j1 : (0 : Int) ≤ (ia : Int) := by omega
          have j2 : (ia : Int) < (a.length : Int) := by omega
          have j3 : (0 : Int) ≤ (ib : Int) := by omega
          have j4 : (ib : Int) < (b.length : Int) := by omega
          have d1 : decide ((k : Int) < (a.length : Int) - p) = true := by simp; omega
          have d2 : decide ((k : Int) < (b.length : Int) - p) = true := by simp; omega
          obtain ⟨b1, o1, rfl, hbB, hcs⟩ := (h1r.below hb).co g1
          obtain ⟨p0, p1, p2, p3⟩ := hcs ia g1
          clear hcs
          obtain ⟨b2, o2, rfl, hbB2, hcs⟩ := (h2r.below hb).co g2
          obtain ⟨q0, q1, q2, q3⟩ := hcs ib g2
          clear hcs
          have ea : a.length - 1 - k = ia := by omega
          have eb : b.length - 1 - k = ib := by omega
          have Hnx : Hid (a[ia] = b[ib] → k + 1 ≤ sf) := fun h => by
            refine Hsn.out k HK.out (by omega) (by omega) ?_
            simp only [ea, eb]; exact h
          have Hst : Hid (a[ia] ≠ b[ib] → sf = k) := fun h => by
            refine Hss.out k HK.out fun _ _ => ?_
            simp only [ea, eb]; exact h
          clear ea eb hia hib
          by_cases hxy : a[ia] = b[ib]
          · have Hn2 := Lib.hid (Hnx.out hxy)
            rw [hxy] at p0 p1 p2 p3
            clear hxy Hnx Hst
            generalize b[ib] = x at *
            go_wp2_with fail
            go_quiet (fail)
            clear w1 w2 w3 w4 w5 w6
            go_wp2_with fail
            go_roundw
            case rel => exact ⟨k + 1, by go_num, Hn2, by omega, by omega, below_drewN hb _⟩
            case measure => simp [intOf]; omega
          · have Hs2 := Lib.hid (Hst.out hxy)
            have hne := Co.ne_ways hxy
            clear hxy Hnx Hst
            generalize a[ia] = x at *
            generalize b[ib] = y at *
            obtain ⟨xl, xu, xn, xk⟩ := x
            obtain ⟨yl, yu, yn, yk⟩ := y
            simp only at p0 p1 p2 p3 q0 q1 q2 q3 hne
            rcases hne with e1 | ⟨rfl, e2⟩ | ⟨rfl, rfl, e3⟩ | ⟨rfl, rfl, rfl, e4⟩
            all_goals
              go_wp2_with fail
              go_quiet (fail)
              go_wp2_with fail
              go_meet
              exact ⟨by rw [Hs2.out], below_drewN hb _⟩
        · have Hst : Hid (sf = k) := Hss.out k HK.out fun ha hb => by omega
          rcases hstop with ⟨h1, h2⟩ | h1
          · have d1 : decide ((k : Int) < (a.length : Int) - p) = true := by simp; omega
            have d2 : decide ((k : Int) < (b.length : Int) - p) = false := by simp; omega
            clear h2
            go_wp2_with fail
            go_quiet (fail)
            go_wp2_with fail
            go_meet
            exact ⟨by rw [Hst.out], below_drewN hb _⟩
          · have d1 : decide ((k : Int) < (a.length : Int) - p) = false := by simp; omega
            clear h1
            go_wp2_with fail
            go_quiet (fail)
            go_wp2_with fail
            go_meet
            exact ⟨by rw [Hst.out], below_drewN hb _⟩
    case rest =>
      clear hb
      obtain ⟨rfl, hb⟩ := hcut
      have hmI := HmI.out
      have hmm := Hm.out
      go_wp2_with fail
      clear hmI
      have hml : ((b.drop p).take m).length = m := by rw [List.length_take, List.length_drop]; omega
      have hLk : ∀ k (h : k < ((b.drop p).take m).length), ∃ h2 : p + k < b.length, ((b.drop p).take m)[k] = b[p + k] := fun k h => by
        have h2 : k < m := by rw [← hml]; exact h
        refine ⟨by omega, ?_⟩
        rw [List.getElem_take, List.getElem_drop]
      have hPr' : Rd w1 w1.heap.size 4 Av ((b.drop p).take m).length (coCells ((b.drop p).take m)) := by rw [hml]; exact hPr
      have HLk := Lib.hid hLk
      clear hPr hLk hmm
      generalize (b.drop p).take m = L at *
      have hmb : m ≤ 1048576 := by have := Hm.out; omega
      go_loopw [14] (fun i wr => ∃ k : Nat, i = .int .i64 k ∧ k ≤ m ∧ Below w1.heap.size w1 wr) (fun i _ => m - (intOf i).toNat)
      case atStart => exact ⟨0, rfl, Nat.zero_le _, hb⟩
      case round =>
        clear hb
        obtain ⟨k, rfl, hkm, hb⟩ := hrel
        by_cases hlt : k < m
        · have hkL : k < L.length := by rw [hml]; exact hlt
          obtain ⟨hpk, heq⟩ := HLk.out k hkL
          obtain ⟨bq, oq, hq, hbB, hcs⟩ := (hPr'.below hb).co hkL
          obtain ⟨p0, p1, p2, p3⟩ := hcs k hkL
          clear hcs
          obtain ⟨b2, o2, hq2, hbB2, hcs⟩ := (h2r.below hb).co hpk
          obtain ⟨q0, q1, q2, q3⟩ := hcs (p + k) hpk
          clear hcs
          rw [heq] at p0 p1 p2 p3
          clear heq
          generalize b[p + k] = x at *
          have w1' : IntKind.i64.wrap ((p : Int) + k) = p + k := by rw [IntWalk.i64_in _ (by omega)]
          have w2' : ((p : Int) + k).toNat = p + k := by omega
          have w3' : (0 : Int) ≤ (p : Int) + k := by omega
          have w4' : (p : Int) + k < (b.length : Int) := by omega
          have i1 : (0 : Int) ≤ (k : Int) := by omega
          have i2 : (k : Int) < (m : Int) := by omega
          subst hq hq2
          go_wp2_with fail
          go_quiet (fail)
          clear w1' w2'
          go_wp2_with fail
          go_roundw
          case rel => exact ⟨k + 1, by go_num, by omega, below_drewN hb _⟩
          case measure => simp [intOf]; omega
        · obtain rfl : k = m := by omega
          have hb0 := hb1.trans (hb.mono hb1.size)
          have h1q := (h1r.below hb).more hb.size
          have h2q := (h2r.below hb).more hb.size
          have hgq := hg.size hb0
          have hb0s := hb0.size
          clear hPr' h1r h2r hr1 hr2 hb hb1 HLk
          obtain ⟨wq, hwq⟩ : ∃ wq, wq = wr := ⟨_, rfl⟩
          subst hwq
          by_cases hok : 0 ≤ at_ ∧ 0 ≤ dr ∧ at_ ≤ (a.length : Int) ∧ dr ≤ (a.length : Int) - at_
          · obtain ⟨k1, k2, k3, k4⟩ := hok
            obtain ⟨i, rfl⟩ := Int.eq_ofNat_of_zero_le k1
            obtain ⟨d, rfl⟩ := Int.eq_ofNat_of_zero_le k2
            have hd : i + d ≤ a.length := by omega
            have hpo := patch_ok A1 c1 a i d A2 c2 b wq h1q h2q hl1 hl2 hcap1 hnil1 hnil hd
            have hPl : (a.length : Int) - d + b.length = ((patchL a b i d).length : Nat) := by unfold patchL; simp; omega
            have hPn : (patchL a b i d).length ≤ 4194304 := by unfold patchL; simp; omega
            have hPg := fun k => patch_get (a := a) (b := b) (at_ := i) (dr := d) (k := k) hd
            have HPg := Lib.hid hPg
            clear hPg
            generalize patchL a b i d = P at *
            have d1 : decide ((i : Int) < 0) = false := by simp
            have d2 : decide ((d : Int) < 0) = false := by simp
            have d3 : decide (a.length < i) = false := by simp; omega
            have d4 : decide ((a.length : Int) - i < d) = false := by simp; omega
            go_wp2_with fail
            refine hpo.mono ?_
            clear hpo
            rintro e w5 ⟨A5, rfl, hP5, hb5⟩
            have hb05 := hb0.trans (hb5.mono hb0s)
            have h15 := (h1q.below hb5).more hb5.size
            have h25 := (h2q.below hb5).more hb5.size
            clear h1q h2q hb5 hb0 hgq
            go_wp2_with fail
            clear hPl d1 d2 d3 d4
            go_loopw [18] (fun i wr => ∃ k : Nat, i = .int .i64 k ∧ k ≤ P.length ∧ Below w5.heap.size w5 wr) (fun i _ => P.length - (intOf i).toNat)
            case atStart => exact ⟨0, rfl, Nat.zero_le _, Below.refl _ _⟩
            case round =>
              obtain ⟨k, rfl, hkP, hb⟩ := hrel
              have hbs := hb.size
              by_cases hlt : k < P.length
              · obtain ⟨b5, o5, hq5, hbB5, hcs⟩ := (hP5.below hb).co hlt
                obtain ⟨p0, p1, p2, p3⟩ := hcs k hlt
                clear hcs
                have i1 : (0 : Int) ≤ (k : Int) := by omega
                have i2 : (k : Int) < (P.length : Int) := by omega
                subst hq5
                have hx5 : b5 < wr.heap.size := by omega
                rcases HPg.out k hlt with ⟨g1, g2, g3⟩ | ⟨g1, g2, g3, g4⟩ | ⟨g1, g2, g3⟩
                · obtain ⟨bx, ox, hqx, hbx, hcs⟩ := (h15.below hb).co g2
                  obtain ⟨q0, q1, q2, q3⟩ := hcs k g2
                  clear hcs
                  rw [g3] at p0 p1 p2 p3
                  clear g3
                  generalize a[k] = x at *
                  subst hqx
                  have hxa : bx < wr.heap.size := by omega
                  have d1 : decide (k < i) = true := by simp [g1]
                  go_wp2_with fail
                  go_quiet (fail)
                  go_wp2_with fail
                  go_roundw
                  case rel => exact ⟨k + 1, by go_num, by omega, below_drewN (hb.alloc hbs _) _⟩
                  case measure => simp [intOf]; omega
                · obtain ⟨bx, ox, hqx, hbx, hcs⟩ := (h25.below hb).co g3
                  obtain ⟨q0, q1, q2, q3⟩ := hcs (k - i) g3
                  clear hcs
                  rw [g4] at p0 p1 p2 p3
                  clear g4
                  generalize b[k - i] = x at *
                  subst hqx
                  have hxa : bx < wr.heap.size := by omega
                  have d1 : decide (k < i) = false := by simp; omega
                  have d2 : decide ((k : Int) < (i : Int) + b.length) = true := by simp; omega
                  have e1 : ((k : Int) - i).toNat = k - i := by omega
                  have e2 : (0 : Int) ≤ (k : Int) - i := by omega
                  have e3 : (k : Int) - i < (b.length : Int) := by omega
                  go_wp2_with fail
                  go_quiet (fail)
                  clear e1
                  go_wp2_with fail
                  go_roundw
                  case rel => exact ⟨k + 1, by go_num, by omega, below_drewN (hb.alloc hbs _) _⟩
                  case measure => simp [intOf]; omega
                · obtain ⟨bx, ox, hqx, hbx, hcs⟩ := (h15.below hb).co g2
                  obtain ⟨q0, q1, q2, q3⟩ := hcs (k - b.length + d) g2
                  clear hcs
                  rw [g3] at p0 p1 p2 p3
                  clear g3
                  generalize a[k - b.length + d] = x at *
                  subst hqx
                  have hxa : bx < wr.heap.size := by omega
                  have d1 : decide (k < i) = false := by simp; omega
                  have d2 : decide ((k : Int) < (i : Int) + b.length) = false := by simp; omega
                  have e1 : ((k : Int) - b.length + d).toNat = k - b.length + d := by omega
                  have e2 : (0 : Int) ≤ (k : Int) - b.length + d := by omega
                  have e3 : (k : Int) - b.length + d < (a.length : Int) := by omega
                  go_wp2_with fail
                  go_quiet (fail)
                  clear e1
                  go_wp2_with fail
                  go_roundw
                  case rel => exact ⟨k + 1, by go_num, by omega, below_drewN (hb.alloc hbs _) _⟩
                  case measure => simp [intOf]; omega
              · obtain rfl : k = P.length := by omega
                go_wp2_with fail
                go_ret
                exact ⟨rfl, hb05.trans (hb.mono hb05.size)⟩
          · have hways : at_ < 0 ∨ (0 ≤ at_ ∧ dr < 0) ∨ (0 ≤ at_ ∧ 0 ≤ dr ∧ (a.length : Int) < at_) ∨ (0 ≤ at_ ∧ 0 ≤ dr ∧ at_ ≤ a.length ∧ (a.length : Int) - at_ < dr) := by omega
            have hpb := patch_bad A1 c1 a.length at_ dr (.slice A2 b.length c2) wq hl1 hok
            clear hok
            rcases hways with h1 | ⟨h1, h2⟩ | ⟨h1, h2, h3⟩ | ⟨h1, h2, h3, h4⟩
            · have d1 : decide (at_ < 0) = true := by simp [h1]
              go_wp2_with fail
              refine hpb.mono ?_
              clear hpb
              rintro e w' ⟨rfl, rfl⟩
              go_wp2_with fail
              refine (error_yes 1 1 _ hgq rfl).mono ?_
              rintro e w6 ⟨rfl, hb6⟩
              go_wp2_with fail
              go_ret
              exact ⟨rfl, hb0.trans (hb6.mono hb0s)⟩
            · have d1 : decide (at_ < 0) = false := by simp; omega
              have d2 : decide (dr < 0) = true := by simp [h2]
              go_wp2_with fail
              refine hpb.mono ?_
              clear hpb
              rintro e w' ⟨rfl, rfl⟩
              go_wp2_with fail
              refine (error_yes 1 1 _ hgq rfl).mono ?_
              rintro e w6 ⟨rfl, hb6⟩
              go_wp2_with fail
              go_ret
              exact ⟨rfl, hb0.trans (hb6.mono hb0s)⟩
            · have d1 : decide (at_ < 0) = false := by simp; omega
              have d2 : decide (dr < 0) = false := by simp; omega
              have d3 : decide ((a.length : Int) < at_) = true := by simp [h3]
              go_wp2_with fail
              refine hpb.mono ?_
              clear hpb
              rintro e w' ⟨rfl, rfl⟩
              go_wp2_with fail
              refine (error_yes 1 1 _ hgq rfl).mono ?_
              rintro e w6 ⟨rfl, hb6⟩
              go_wp2_with fail
              go_ret
              exact ⟨rfl, hb0.trans (hb6.mono hb0s)⟩
            · have d1 : decide (at_ < 0) = false := by simp; omega
              have d2 : decide (dr < 0) = false := by simp; omega
              have d3 : decide ((a.length : Int) < at_) = false := by simp; omega
              have d4 : decide ((a.length : Int) - at_ < dr) = true := by simp [h4]
              go_wp2_with fail
              refine hpb.mono ?_
              clear hpb
              rintro e w' ⟨rfl, rfl⟩
              go_wp2_with fail
              refine (error_yes 1 1 _ hgq rfl).mono ?_
              rintro e w6 ⟨rfl, hb6⟩
              go_wp2_with fail
              go_ret
              exact ⟨rfl, hb0.trans (hb6.mono hb0s)⟩
end Go.Proofs.YtnigmmnhpmdbbaaDoor
