/-
  THE WALK of colour.Diff.
-/
import Derived.Test.YtnigmmnhpmdbbaaDoorClone
import Derived.Deep.DeepCutAuto
import Derived.Deep.CutBlock
import Derived.Deep.Slices
namespace Go.Proofs.YtnigmmnhpmdbbaaDoor
open Go.RowKit

set_option maxHeartbeats 2000000 in
set_option maxRecDepth 100000 in
theorem diff_walk (A1 : Option Addr) (c1 : Nat) (a : List Co) (A2 : Option Addr) (c2 : Nat) (b : List Co) (w : World) (hr1 : Rd w w.heap.size 4 A1 a.length (coCells a)) (hr2 : Rd w w.heap.size 4 A2 b.length (coCells b))
    (hl1 : a.length ≤ 1048576) (hl2 : b.length ≤ 1048576) (hcap : b.length ≤ c2) (hnil : A2 = none → c2 = 0) :
    Calls Tryd.prog 4 #[.slice A1 a.length c1, .slice A2 b.length c2] w fun e w' => ∃ Av, e = .returned (.tuple #[.int .i64 (pre a b), .int .i64 (a.length - pre a b - suf a b (pre a b)), .slice Av (b.length - pre a b - suf a b (pre a b)) (b.length - pre a b - suf a b (pre a b))]) ∧ Rd w' w'.heap.size 4 Av (b.length - pre a b - suf a b (pre a b)) (coCells ((b.drop (pre a b)).take (b.length - pre a b - suf a b (pre a b)))) ∧ Below w.heap.size w w' := by
  obtain ⟨hp1, hp2⟩ := pre_le a b
  have hpn : ∀ k, k ≤ pre a b → ∀ (ha : k < a.length) (hb : k < b.length), a[k] = b[k] → k + 1 ≤ pre a b := fun k => pre_next
  have hps : ∀ k, k ≤ pre a b → (∀ (ha : k < a.length) (hb : k < b.length), a[k] ≠ b[k]) → pre a b = k := fun k => pre_stop
  have hsn := fun k => suf_next (a := a) (b := b) (at_ := pre a b) (k := k)
  have hss := fun k => suf_stop (a := a) (b := b) (at_ := pre a b) (k := k)
  obtain ⟨hs1, hs2⟩ := suf_le a b (pre a b)
  have Hpn := Lib.hid hpn
  have Hps := Lib.hid hps
  have Hsn := Lib.hid hsn
  have Hss := Lib.hid hss
  clear hpn hps hsn hss
  generalize suf a b (pre a b) = sf at *
  generalize pre a b = p at *
  generalize hm0 : b.length - p - sf = m
  have Hm0 := Lib.hid hm0
  clear hm0
  go_enter Tryd.func4, Tryd.ntmps4
  go_upto_block 0 with fail
  go_cut [4] (fun s wc => s = .int .i64 p ∧ Below w.heap.size w wc)
  case first =>
    go_wp2_with fail
    go_loopw [4] (fun i wr => ∃ k : Nat, i = .int .i64 k ∧ Hid (k ≤ p) ∧ k ≤ a.length ∧ k ≤ b.length ∧ Below w.heap.size w wr) (fun i _ => a.length - (intOf i).toNat)
    case atStart => exact ⟨0, rfl, Nat.zero_le _, Nat.zero_le _, Nat.zero_le _, Below.refl _ _⟩
    case round =>
      obtain ⟨k, rfl, HK, hka, hkb, hb⟩ := hrel
      have hways : (∃ (h1 : k < a.length) (h2 : k < b.length), a[k] = b[k]) ∨ (∃ (h1 : k < a.length) (h2 : k < b.length), a[k] ≠ b[k]) ∨ (k < a.length ∧ k = b.length) ∨ k = a.length := by
        by_cases h1 : k < a.length
        · by_cases h2 : k < b.length
          · by_cases h3 : a[k] = b[k]
            · exact .inl ⟨h1, h2, h3⟩
            · exact .inr (.inl ⟨h1, h2, h3⟩)
          · exact .inr (.inr (.inl ⟨h1, by omega⟩))
        · exact .inr (.inr (.inr (by omega)))
      have i1 : (0 : Int) ≤ (k : Int) := by omega
      rcases hways with ⟨h1, h2, he⟩ | hstop
      · obtain ⟨b1, o1, rfl, hbB, hcs⟩ := (hr1.below hb).co h1
        obtain ⟨p0, p1, p2, p3⟩ := hcs k h1
        clear hcs
        obtain ⟨b2, o2, rfl, hbB2, hcs⟩ := (hr2.below hb).co h2
        obtain ⟨q0, q1, q2, q3⟩ := hcs k h2
        clear hcs
        have Hnx : Hid (k + 1 ≤ p) := Hpn.out k HK.out h1 h2 he
        rw [he] at p0 p1 p2 p3
        clear he
        generalize b[k] = x at *
        have d1 : decide (k < a.length) = true := by simp [h1]
        have d2 : decide (k < b.length) = true := by simp [h2]
        have i2 : (k : Int) < (a.length : Int) := by omega
        have i3 : (k : Int) < (b.length : Int) := by omega
        go_wp2_with fail
        go_quiet (fail)
        go_wp2_with fail
        go_roundw
        case rel => exact ⟨k + 1, by go_num, Hnx, by omega, by omega, below_drewN hb _⟩
        case measure => simp [intOf]; omega
      · have Hst : Hid (p = k) := by
          rcases hstop with ⟨h1, h2, h3⟩ | ⟨h1, h2⟩ | h1
          · exact Hps.out k HK.out fun _ _ => h3
          · exact Hps.out k HK.out fun _ hb => by omega
          · exact Hps.out k HK.out fun ha _ => by omega
        rcases hstop with ⟨h1, h2, h3⟩ | ⟨h1, h2⟩ | h1
        · obtain ⟨b1, o1, rfl, hbB, hcs⟩ := (hr1.below hb).co h1
          obtain ⟨p0, p1, p2, p3⟩ := hcs k h1
          clear hcs
          obtain ⟨b2, o2, rfl, hbB2, hcs⟩ := (hr2.below hb).co h2
          obtain ⟨q0, q1, q2, q3⟩ := hcs k h2
          clear hcs
          have hne := Co.ne_ways h3
          clear h3
          generalize a[k] = x at *
          generalize b[k] = y at *
          obtain ⟨xl, xu, xn, xk⟩ := x
          obtain ⟨yl, yu, yn, yk⟩ := y
          simp only at p0 p1 p2 p3 q0 q1 q2 q3 hne
          have d1 : decide (k < a.length) = true := by simp [h1]
          have d2 : decide (k < b.length) = true := by simp [h2]
          have i2 : (k : Int) < (a.length : Int) := by omega
          have i3 : (k : Int) < (b.length : Int) := by omega
          rcases hne with e1 | ⟨rfl, e2⟩ | ⟨rfl, rfl, e3⟩ | ⟨rfl, rfl, rfl, e4⟩
          all_goals
            go_wp2_with fail
            go_quiet (fail)
            go_wp2_with fail
            go_meet
            exact ⟨by rw [Hst.out], below_drewN hb _⟩
        · have d1 : decide (k < a.length) = true := by simp [h1]
          have d2 : decide (k < b.length) = false := by simp; omega
          subst h2
          go_wp2_with fail
          go_quiet (fail)
          go_wp2_with fail
          go_meet
          exact ⟨by rw [Hst.out], below_drewN hb _⟩
        · have d1 : decide (k < a.length) = false := by simp; omega
          subst h1
          go_wp2_with fail
          go_quiet (fail)
          go_wp2_with fail
          go_meet
          exact ⟨by rw [Hst.out], below_drewN hb _⟩
  case rest =>
    obtain ⟨rfl, hb⟩ := hcut
    go_upto_block 2 with fail
    go_cut [7] (fun s w2 => s = .int .i64 sf ∧ Below w.heap.size w w2)
    case first =>
      go_wp2_with fail
      go_loopw [7] (fun i wr => ∃ k : Nat, i = .int .i64 k ∧ Hid (k ≤ sf) ∧ k + p ≤ a.length ∧ k + p ≤ b.length ∧ Below w.heap.size w wr) (fun i _ => a.length - (intOf i).toNat)
      case atStart => exact ⟨0, rfl, Nat.zero_le _, by omega, by omega, hb⟩
      case round =>
        clear hb
        obtain ⟨k, rfl, HK, hka, hkb, hb⟩ := hrel
        have i1 : (0 : Int) ≤ (k : Int) := by omega
        have w1 : IntKind.i64.wrap ((a.length : Int) - p) = a.length - p := by rw [IntWalk.i64_in _ (by omega)]
        have w2 : IntKind.i64.wrap ((b.length : Int) - p) = b.length - p := by rw [IntWalk.i64_in _ (by omega)]
        have hways : (k + p < a.length ∧ k + p < b.length) ∨ (k + p < a.length ∧ k + p = b.length) ∨ k + p = a.length := by omega
        rcases hways with ⟨h1, h2⟩ | hstop
        · obtain ⟨ia, hia⟩ : ∃ ia, ia + 1 + k = a.length := ⟨a.length - 1 - k, by omega⟩
          obtain ⟨ib, hib⟩ : ∃ ib, ib + 1 + k = b.length := ⟨b.length - 1 - k, by omega⟩
          have g1 : ia < a.length := by omega
          have g2 : ib < b.length := by omega
          have w3 : IntKind.i64.wrap ((a.length : Int) - 1) = a.length - 1 := by rw [IntWalk.i64_in _ (by omega)]
          have w4 : IntKind.i64.wrap ((b.length : Int) - 1) = b.length - 1 := by rw [IntWalk.i64_in _ (by omega)]
          have w5 : IntKind.i64.wrap ((a.length : Int) - 1 - k) = ia := by rw [IntWalk.i64_in _ (by omega)]; omega
          have w6 : IntKind.i64.wrap ((b.length : Int) - 1 - k) = ib := by rw [IntWalk.i64_in _ (by omega)]; omega
          have j1 : (0 : Int) ≤ (ia : Int) := by omega
          have j2 : (ia : Int) < (a.length : Int) := by omega
          have j3 : (0 : Int) ≤ (ib : Int) := by omega
          have j4 : (ib : Int) < (b.length : Int) := by omega
          have d1 : decide ((k : Int) < (a.length : Int) - p) = true := by simp; omega
          have d2 : decide ((k : Int) < (b.length : Int) - p) = true := by simp; omega
          obtain ⟨b1, o1, rfl, hbB, hcs⟩ := (hr1.below hb).co g1
          obtain ⟨p0, p1, p2, p3⟩ := hcs ia g1
          clear hcs
          obtain ⟨b2, o2, rfl, hbB2, hcs⟩ := (hr2.below hb).co g2
          obtain ⟨q0, q1, q2, q3⟩ := hcs ib g2
          clear hcs
          have ea : a.length - 1 - k = ia := by omega
          have eb : b.length - 1 - k = ib := by omega
          have Hnx : Hid (a[ia] = b[ib] → k + 1 ≤ sf) := fun h => by
            refine Hsn.out k HK.out (by omega) (by omega) ?_
            simp only [ea, eb]; exact h
          have Hst : Hid (a[ia] ≠ b[ib] → sf = k) := fun h => by
            refine Hss.out k HK.out fun _ _ => ?_
            simp only [ea, eb]; exact h
          clear ea eb hia hib
          by_cases hxy : a[ia] = b[ib]
          · have Hn2 := Lib.hid (Hnx.out hxy)
            rw [hxy] at p0 p1 p2 p3
            clear hxy Hnx Hst
            generalize b[ib] = x at *
            go_wp2_with fail
            go_quiet (fail)
            clear w1 w2 w3 w4 w5 w6
            go_wp2_with fail
            go_roundw
            case rel => exact ⟨k + 1, by go_num, Hn2, by omega, by omega, below_drewN hb _⟩
            case measure => simp [intOf]; omega
          · have Hs2 := Lib.hid (Hst.out hxy)
            have hne := Co.ne_ways hxy
            clear hxy Hnx Hst
            generalize a[ia] = x at *
            generalize b[ib] = y at *
            obtain ⟨xl, xu, xn, xk⟩ := x
            obtain ⟨yl, yu, yn, yk⟩ := y
            simp only at p0 p1 p2 p3 q0 q1 q2 q3 hne
            rcases hne with e1 | ⟨rfl, e2⟩ | ⟨rfl, rfl, e3⟩ | ⟨rfl, rfl, rfl, e4⟩
            all_goals
              go_wp2_with fail
              go_quiet (fail)
              go_wp2_with fail
              go_meet
              exact ⟨by rw [Hs2.out], below_drewN hb _⟩
        · have Hst : Hid (sf = k) := Hss.out k HK.out fun ha hb => by omega
          rcases hstop with ⟨h1, h2⟩ | h1
          · have d1 : decide ((k : Int) < (a.length : Int) - p) = true := by simp; omega
            have d2 : decide ((k : Int) < (b.length : Int) - p) = false := by simp; omega
            clear h2
            go_wp2_with fail
            go_quiet (fail)
            go_wp2_with fail
            go_meet
            exact ⟨by rw [Hst.out], below_drewN hb _⟩
          · have d1 : decide ((k : Int) < (a.length : Int) - p) = false := by simp; omega
            clear h1
            go_wp2_with fail
            go_quiet (fail)
            go_wp2_with fail
            go_meet
            exact ⟨by rw [Hst.out], below_drewN hb _⟩
    case rest =>
      clear hb
      obtain ⟨rfl, hb⟩ := hcut
      have hm : b.length - sf - p = m := by have := Hm0.out; omega
      have hml : ((b.drop p).take m).length = m := by rw [List.length_take, List.length_drop]; omega
      have hx1 : p ≤ b.length - sf := by omega
      have hx2 : b.length - sf ≤ c2 := by omega
      have hx3 : p ≤ c2 := by omega
      have hsl : sf ≤ b.length := by omega
      have hmb : m ≤ 1048576 := by omega
      have hca : CoAt wc A2 b := (hr2.coAt).below hb
      have hcd : c2 ≠ p → CoAt wc (A2.map (fun x => x.add (p * 4))) ((b.drop p).take m) := fun _ => by
        constructor
        · intro h
          have := hca.1 (by cases A2 <;> simp_all)
          rw [this]; simp
        · intro ad hA j u hu
          cases A2 with
          | none => cases hA
          | some a2 =>
            injection hA with hA
            subst hA
            have h1 : (coCells b)[p * 4 + j]? = some u := by
              rw [← coCells_take, List.getElem?_take] at hu
              split at hu
              · rw [← coCells_drop, List.getElem?_drop] at hu; exact hu
              · cases hu
            have := hca.2 a2 rfl _ _ h1
            rwa [Go.Deep.add_add]
      have hcz : c2 = p → m = 0 := fun h => by omega
      have Hcd := Lib.hid hcd
      have Hcz := Lib.hid hcz
      have Hca := Lib.hid hca
      have Hml := Lib.hid hml
      clear hcd hcz hca hml
      by_cases hcp : c2 = p
      · have hm0 := Hcz.out hcp
        subst hcp
        subst hm0
        have hcl := clone_walk A2 0 [] wc ⟨fun _ => rfl, fun ad _ j u hu => by simp [coCells] at hu⟩ (fun _ => rfl) (Nat.zero_le _)
        have ht0 : (b.drop c2).take 0 = [] := by simp
        have Ht0 := Lib.hid ht0
        clear ht0
        go_wp2_with fail
        refine hcl.mono ?_
        clear hcl
        rintro e w3 ⟨v, rfl, hown, hb3⟩
        have hmc : ∃ Av cv, v = .slice Av 0 cv ∧ 0 ≤ cv ∧ (Av = none → cv = 0) := by
          rcases hown.2 with ⟨rfl, -⟩ | ⟨g, cap, cur, rfl, _, _, hle, _⟩
          · exact ⟨none, 0, rfl, Nat.le_refl _, fun _ => rfl⟩
          · exact ⟨_, cap, rfl, hle, fun h => by cases h⟩
        obtain ⟨Av, cv, rfl, hle, hvn⟩ := hmc
        have hRd := Rd.of_own hown
        have hRd2 : Rd w3 w3.heap.size 4 Av 0 (coCells ((b.drop c2).take 0)) := by rw [Ht0.out]; exact hRd
        go_wp2_with fail
        refine (clip_walk Av 0 cv _ hle hvn).mono ?_
        rintro e w' ⟨rfl, rfl⟩
        go_wp2_with fail
        go_ret3
        exact ⟨Av, by first | rfl | (simp; done) | (simp; omega), hRd2, hb.trans (hb3.mono hb.size)⟩
      · have hcl := clone_walk (A2.map (fun x => x.add (p * 4))) (c2 - p) ((b.drop p).take m) wc (Hcd.out hcp) (fun h => by have := hnil (by cases A2 <;> simp_all); omega) (by rw [Hml.out]; omega)
        rw [Hml.out] at hcl
        go_wp2_with fail
        refine hcl.mono ?_
        clear hcl
        rintro e w3 ⟨v, rfl, hown, hb3⟩
        have hmc : ∃ Av cv, v = .slice Av m cv ∧ m ≤ cv ∧ (Av = none → cv = 0) := by
          rcases hown.2 with ⟨rfl, rfl⟩ | ⟨g, cap, cur, rfl, _, _, hle, _⟩
          · exact ⟨none, 0, rfl, Nat.le_refl _, fun _ => rfl⟩
          · exact ⟨_, cap, rfl, hle, fun h => by cases h⟩
        obtain ⟨Av, cv, rfl, hle, hvn⟩ := hmc
        have hRd := Rd.of_own hown
        go_wp2_with fail
        refine (clip_walk Av m cv _ hle hvn).mono ?_
        rintro e w' ⟨rfl, rfl⟩
        go_wp2_with fail
        go_ret3
        exact ⟨Av, by first | rfl | (simp; done) | (simp; omega), hRd, hb.trans (hb3.mono hb.size)⟩
end Go.Proofs.YtnigmmnhpmdbbaaDoor
