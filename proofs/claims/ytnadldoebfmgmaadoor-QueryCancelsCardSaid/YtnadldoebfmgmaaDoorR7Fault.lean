/-
  THE WALK of amanuensisref7.Fault.
-/
import Derived.Test.YtnadldoebfmgmaaDoorR7Rules
namespace Go.Proofs.YtnadldoebfmgmaaDoor.q
open Go.RowKit

theorem looksR_cases (op : Int) : looksR op = -1 ∨ looksR op = 0 ∨ looksR op = 1 ∨ looksR op = 2 ∨ looksR op = 3 := by
  by_cases h0 : op = 0
  · right; left; unfold looksR; rw [if_pos h0]
  · by_cases h1 : op = 1 ∨ op = 2 ∨ op = 3
    · right; right; right; left; unfold looksR; rw [if_neg h0, if_pos h1]
    · by_cases h4 : op = 4
      · right; right; right; right; unfold looksR; rw [if_neg h0, if_neg h1, if_pos h4]
      · by_cases h5 : op = 5
        · right; right; left; unfold looksR; rw [if_neg h0, if_neg h1, if_neg h4, if_pos h5]
        · left; unfold looksR; rw [if_neg h0, if_neg h1, if_neg h4, if_neg h5]
set_option maxHeartbeats 8000000 in
set_option maxRecDepth 100000 in
theorem rfault_walk (A : Option Addr) (c : Nat) (l : List Ru) (w : World) (hr : Rd w w.heap.size 4 A l.length (ruCells l)) :
    Calls Tryd.prog 18 #[.slice A l.length c] w fun e w' => e = .returned (.int .i64 (faultM l)) ∧ w = w' := by
  by_cases h64 : 64 < l.length
  · have e : faultM l = 12 := by unfold faultM; rw [if_pos h64]
    rw [e]
    have i1 : (64 : Int) < (l.length : Int) := by omega
    clear e
    go_enter Tryd.func18, Tryd.ntmps18
    go_wp2
    go_ret
    exact ⟨rfl, rfl⟩
  · have h64' : l.length ≤ 64 := by omega
    have i0 : decide ((64 : Int) < (l.length : Int)) = false := by simp; omega
    clear h64
    go_enter Tryd.func18, Tryd.ntmps18
    go_wp2_with fail
    go_loopw [3] (fun i wr => ∃ k : Nat, i = .int .i64 k ∧ k ≤ l.length ∧ w = wr ∧ Hid (∀ j (hj : j < l.length), j < k → l[j].bad l.length = false)) (fun i _ => l.length - (intOf i).toNat)
    case atStart => exact ⟨0, rfl, Nat.zero_le _, rfl, fun j _ hj => by omega⟩
    case round =>
      obtain ⟨k, rfl, hk, rfl, HB⟩ := hrel
      by_cases hlt : k < l.length
      · obtain ⟨b, o, rfl, hbB, hcs⟩ := Rd_ru hr hlt
        obtain ⟨r0, r1, r2, r3⟩ := hcs k hlt
        clear hcs
        have HF : Hid (l[k].bad l.length = true → faultM l = 1) := fault_one h64' hlt
        have HN : Hid (l[k].bad l.length = false → ∀ j (hj : j < l.length), j < k + 1 → l[j].bad l.length = false) := fun h j hj hjk => by
          by_cases e : j = k
          · subst e; exact h
          · exact HB.out j hj (by omega)
        generalize l[k] = r at *
        have j1 : (0 : Int) ≤ (k : Int) := by omega
        have j2 : (k : Int) < (l.length : Int) := by omega
        have j3 : decide (k < l.length) = true := by simpa using hlt
        go_wp2_with fail
        refine (looksR_walk r.op _).mono ?_
        rintro e w' ⟨rfl, rfl⟩
        have HBad := Lib.hid (bad_ref l.length r)
        have hlr : looksR r.op = -1 ∨ looksR r.op = 0 ∨ looksR r.op = 1 ∨ looksR r.op = 2 ∨ looksR r.op = 3 := looksR_cases r.op
        generalize looksR r.op = N at *
        clear r0
        rcases hlr with rfl | hN
        · have hbad : r.bad l.length = true := by rw [HBad.out]; simp
          have HE := Lib.hid (HF.out hbad)
          clear hbad
          go_wp2_with fail
          go_ret
          rw [HE.out]
          exact ⟨rfl, rfl⟩
        · have n0 : decide (N < 0) = false := by simp; omega
          go_upto_region 9 with fail
          go_cut [5] (fun s wc => s = .bool (outB l.length r.a) ∧ w = wc)
          case first =>
            by_cases x1 : r.a < 0
            · have d1 : decide (r.a < 0) = true := by simpa using x1
              have hv : Hid (outB l.length r.a = true) := by show _ = _; unfold outB; simp [x1]
              clear x1 hN
              go_wp2_with fail
              go_meet
              rw [hv.out]
              exact ⟨rfl, rfl⟩
            · have d1 : decide (r.a < 0) = false := by simpa using x1
              have hv : Hid (outB l.length r.a = decide ((l.length : Int) ≤ r.a)) := by show _ = _; unfold outB; simp [d1]
              clear x1 hN
              go_wp2_with fail
              go_meet
              rw [hv.out]
              exact ⟨rfl, rfl⟩
          case rest =>
            obtain ⟨rfl, rfl⟩ := hcut
            go_upto_region 10 with fail
            go_cut [6] (fun s wc => s = .bool (outB l.length r.b) ∧ w = wc)
            case first =>
              by_cases x1 : r.b < 0
              · have d1 : decide (r.b < 0) = true := by simpa using x1
                have hv : Hid (outB l.length r.b = true) := by show _ = _; unfold outB; simp [x1]
                clear x1 hN
                go_wp2_with fail
                go_meet
                rw [hv.out]
                exact ⟨rfl, rfl⟩
              · have d1 : decide (r.b < 0) = false := by simpa using x1
                have hv : Hid (outB l.length r.b = decide ((l.length : Int) ≤ r.b)) := by show _ = _; unfold outB; simp [d1]
                clear x1 hN
                go_wp2_with fail
                go_meet
                rw [hv.out]
                exact ⟨rfl, rfl⟩
            case rest =>
              obtain ⟨rfl, rfl⟩ := hcut
              go_upto_region 11 with fail
              go_cut [7] (fun s wc => s = .bool (outB l.length r.c) ∧ w = wc)
              case first =>
                by_cases x1 : r.c < 0
                · have d1 : decide (r.c < 0) = true := by simpa using x1
                  have hv : Hid (outB l.length r.c = true) := by show _ = _; unfold outB; simp [x1]
                  clear x1 hN
                  go_wp2_with fail
                  go_meet
                  rw [hv.out]
                  exact ⟨rfl, rfl⟩
                · have d1 : decide (r.c < 0) = false := by simpa using x1
                  have hv : Hid (outB l.length r.c = decide ((l.length : Int) ≤ r.c)) := by show _ = _; unfold outB; simp [d1]
                  clear x1 hN
                  go_wp2_with fail
                  go_meet
                  rw [hv.out]
                  exact ⟨rfl, rfl⟩
              case rest =>
                obtain ⟨rfl, rfl⟩ := hcut
                generalize outB l.length r.a = ba at *
                generalize outB l.length r.b = bb at *
                generalize outB l.length r.c = bc at *
                clear r1 r2 r3 n0
                rcases hN with rfl | rfl | rfl | rfl
                · have HG : Hid (r.bad l.length = false) := by show _ = _; rw [HBad.out]; simp
                  go_wp2_with fail
                  go_roundw
                  case rel => exact ⟨k + 1, by go_num, by omega, by trivial, HN.out HG.out⟩
                  case measure => simp [intOf]; omega
                · cases ba
                  · have HG : Hid (r.bad l.length = false) := by show _ = _; rw [HBad.out]; simp
                    go_wp2_with fail
                    go_roundw
                    case rel => exact ⟨k + 1, by go_num, by omega, by trivial, HN.out HG.out⟩
                    case measure => simp [intOf]; omega
                  · have HE := Lib.hid (HF.out (by rw [HBad.out]; simp))
                    go_wp2_with fail
                    go_ret
                    rw [HE.out]
                    exact ⟨rfl, rfl⟩
                · cases ba
                  · cases bb
                    · have HG : Hid (r.bad l.length = false) := by show _ = _; rw [HBad.out]; simp
                      go_wp2_with fail
                      go_roundw
                      case rel => exact ⟨k + 1, by go_num, by omega, by trivial, HN.out HG.out⟩
                      case measure => simp [intOf]; omega
                    · have HE := Lib.hid (HF.out (by rw [HBad.out]; simp))
                      go_wp2_with fail
                      go_ret
                      rw [HE.out]
                      exact ⟨rfl, rfl⟩
                  · have HE := Lib.hid (HF.out (by rw [HBad.out]; simp))
                    go_wp2_with fail
                    go_ret
                    rw [HE.out]
                    exact ⟨rfl, rfl⟩
                · cases ba
                  · cases bb
                    · cases bc
                      · have HG : Hid (r.bad l.length = false) := by show _ = _; rw [HBad.out]; simp
                        go_wp2_with fail
                        go_roundw
                        case rel => exact ⟨k + 1, by go_num, by omega, by trivial, HN.out HG.out⟩
                        case measure => simp [intOf]; omega
                      · have HE := Lib.hid (HF.out (by rw [HBad.out]; simp))
                        go_wp2_with fail
                        go_ret
                        rw [HE.out]
                        exact ⟨rfl, rfl⟩
                    · have HE := Lib.hid (HF.out (by rw [HBad.out]; simp))
                      go_wp2_with fail
                      go_ret
                      rw [HE.out]
                      exact ⟨rfl, rfl⟩
                  · have HE := Lib.hid (HF.out (by rw [HBad.out]; simp))
                    go_wp2_with fail
                    go_ret
                    rw [HE.out]
                    exact ⟨rfl, rfl⟩
      · have j3 : decide (k < l.length) = false := by simpa using hlt
        have HE : Hid (faultM l = 0) := fault_none h64' fun j hj => HB.out j hj (by omega)
        go_wp2_with fail
        go_ret
        rw [HE.out]
        exact ⟨rfl, rfl⟩
end Go.Proofs.YtnadldoebfmgmaaDoor.q
