/-
  WALKS of package wire's reader: items, by a contract of what it calls.
-/
import Derived.Test.YtgpjcjnimheglaaGreatDoorNH
namespace Go.Proofs.YtgpjcjnimheglaaGreatDoor
open Go.RowKit

/-- how a reading that keeps a state in memory ends -/
def OneE {σ : Type} (g : Nat) (s : Bs) (P : World → σ → Prop) (Q : World → Prop) (r : Jp.Rs σ) (e : Ending) (w' : World) : Prop :=
  match r with
  | .ok st k => e = .returned (.tuple #[]) ∧ RdrAt w' g s k ∧ P w' st
  | .bad p er => e = .panicked (faultC p er) ∧ Q w'
section
variable {σ : Type} {g : Nat} {s : Bs} {P : World → σ → Prop} {Q : World → Prop} {r : Jp.Rs σ} {w' : World}
theorem OneE.ok {st : σ} {k : Nat} (h : r = .ok st k) (hr : RdrAt w' g s k) (hp : P w' st) : OneE g s P Q r (.returned (.tuple #[])) w' := by subst h; exact ⟨rfl, hr, hp⟩
theorem OneE.bad {p er : Nat} (h : r = .bad p er) (hq : Q w') : OneE g s P Q r (.panicked (faultC p er)) w' := by subst h; exact ⟨rfl, hq⟩
theorem OneE.is_ok {st : σ} {k : Nat} {e : Ending} (h : OneE g s P Q (.ok st k) e w') : e = .returned (.tuple #[]) ∧ RdrAt w' g s k ∧ P w' st := h
theorem OneE.is_bad {p er : Nat} {e : Ending} (h : OneE g s P Q (.bad p er) e w') : e = .panicked (faultC p er) ∧ Q w' := h
end

set_option maxHeartbeats 4000000 in
set_option maxRecDepth 100000 in
theorem jitems_walk {σ : Type} (g : Nat) (s : Bs) (F : Nat) (caps : Array Value) (one : σ → Nat → Jp.Rs σ) (P : World → σ → Prop) (Q : World → Prop) (M : σ → Nat → Prop) (c : UInt8) (st0 : σ) (i : Nat) (w : World)
    (hE : ∀ args w, (callFunc F args).run Tryz.prog w = .ok (.enter F args) w)
    (hF : ∀ (st : σ) (k : Nat) (w : World), P w st → M st k → RdrAt w g s k → k ≤ s.length → Calls Tryz.prog F caps w (OneE g s P Q (one st k)))
    (hA : ∀ st k, k ≤ s.length → (one st k).Ahead k s.length)
    (hM : ∀ st k st' k', M st k → one st k = .ok st' k' → M st' k') (hMm : ∀ st k k', M st k → k ≤ k' → M st k') (hM0 : M st0 i)
    (hP : ∀ (st : σ) (w w' : World), P w st → AftR g w w' → P w' st) (hQ : ∀ (st : σ) (w : World), P w st → Q w)
    (h : RdrAt w g s i) (hp : P w st0) (hi : i < s.length) (hl : s.length ≤ 16777216) :
    Calls Tryz.prog 86 #[.pointer (some ⟨g, 0, none⟩), .int .u8 c.toNat, .func (.func F) #[] caps] w (OneE g s P Q (Jp.itemsP one c s st0 i)) := by
  generalize hR : Jp.itemsP one c s st0 i = R
  have hR2 : (if s[Jp.skipP s (i + 1)]? = some c then Jp.Rs.ok st0 (Jp.skipP s (i + 1) + 1) else Jp.manyF one c s (s.length + 1) st0 (Jp.skipP s (i + 1))) = R := hR
  clear hR
  have c1 := h.c1
  have f1 := h.f1
  have h1 := h.move (i + 1)
  have a1 := (AftR.refl g w).set 1 (.int .i64 ((i + 1 : Nat) : Int))
  have hp1 := hP st0 _ _ hp a1
  have hsk := jskip_walk g s (i + 1) _ h1 (by omega) hl
  have hle := Jp.skip_le s (i + 1) (by omega)
  have HA := Lib.hid hA
  have HM := Lib.hid hM
  have HMm := Lib.hid hMm
  have hgi := Jp.skip_ge s (i + 1)
  have Hsk : Hid (∀ k, Jp.skipP s (Jp.skipP s k) = Jp.skipP s k) := fun k => Jp.skip_skip s _ k (Nat.le_refl _)
  generalize hq0 : Jp.skipP s (i + 1) = q0 at *
  have HM0 : Hid (M st0 q0) := hMm st0 i q0 hM0 (by omega)
  clear hq0 hA h hp a1 hM hMm hM0 hgi
  have HR1 : Hid (decide (s[q0]? = some c) = true → R = .ok st0 (q0 + 1)) := fun h => by rw [← hR2, if_pos (of_decide_eq_true h)]
  have HR2 : Hid (decide (s[q0]? = some c) = false → R = Jp.manyF one c s (s.length + 1) st0 q0) := fun h => by rw [← hR2, if_neg (of_decide_eq_false h)]
  clear hR2
  have his := fun w h => jis_walk g s q0 c w h hle hl
  generalize decide (s[q0]? = some c) = qd at *
  go_enter Tryz.func86, Tryz.ntmps86
  go_upto_region 1 with fail
  have E1 : Hid ((i : Int) + 1 = ((i + 1 : Nat) : Int)) := by show _ = _; omega
  try rw [E1.out]
  clear c1 f1
  generalize w.setCell ⟨g, 1, none⟩ (.int .i64 ((i + 1 : Nat) : Int)) = w1 at *
  go_wp2_with fail
  refine hsk.mono ?_
  clear hsk
  rintro e w2 ⟨rfl, h2, a2⟩
  have hp2 := hP st0 _ _ hp1 a2
  clear hp1 a2 h1
  go_wp2_with fail
  refine (his w2 h2).mono ?_
  clear his
  rintro e w3 ⟨rfl, n3, rfl⟩
  have h3 := h2.drewN n3
  have hp3 := hP st0 _ _ hp2 ((AftR.refl g w2).drewN n3)
  clear h2 hp2
  generalize w2.drewN n3 = w3 at *
  have c1 := h3.c1
  have f1 := h3.f1
  cases qd with
  | true =>
    have HB := Lib.hid (HR1.out (by first | rfl | trivial))
    have h4 := h3.move (q0 + 1)
    have hp4 := hP st0 _ _ hp3 ((AftR.refl g w3).set 1 (.int .i64 ((q0 + 1 : Nat) : Int)))
    clear HR1 HR2
    go_wp2_with fail
    go_end0
    exact OneE.ok HB.out h4 hp4
  | false =>
    have HB := Lib.hid (HR2.out (by first | rfl | trivial))
    clear HR1 HR2
    go_wp2_with fail
    clear c1 f1
    go_loopg [] (s.length - q0) (fun q wr => ∃ (m f : Nat) (st : σ), s.length - m ≤ q ∧ m ≤ s.length ∧ RdrAt wr g s m ∧ P wr st ∧ Hid (M st m) ∧ Hid (R = Jp.manyF one c s (f + 1) st m) ∧ Hid (s.length + 1 ≤ f + 1 + m))
    case atStart => exact ⟨q0, s.length, st0, Nat.le_refl _, hle, h3, hp3, HM0.out, HB.out, by show _ ≤ _; omega⟩
    case round =>
      clear h3 hp3 HB
      obtain ⟨m, f, st, hq, hm, hr, hp, HMs, HR, HF⟩ := hrel
      have ho := hF st m wr hp HMs.out hr hm
      have HM2 : Hid (∀ st' k, one st m = .ok st' k → M st' k) := fun st' k h => HM.out st m st' k HMs.out h
      have hah := HA.out st m hm
      have HR2 : Hid (R = match one st m with | .bad p er => .bad p er | .ok st' k => if s[Jp.skipP s k]? = some 44 then Jp.manyF one c s f st' (Jp.skipP s k + 1) else if s[Jp.skipP s k]? = some c then .ok st' (Jp.skipP s k + 1) else .bad (Jp.skipP s k) 3) := HR.out
      clear HR
      generalize one st m = O at *
      cases O with
      | bad p er =>
        have HB := HR2
        clear HR2
        go_wp2_with fail
        refine ho.mono ?_
        intro e w6 h6
        obtain ⟨rfl, hq6⟩ := h6.is_bad
        go_wp2_with fail
        exact ⟨rfl, OneE.bad HB.out hq6⟩
      | ok st' k =>
        obtain ⟨hk1, hk2⟩ := hah
        have HM3 : Hid (M st' k) := HM2.out st' k rfl
        clear HM2
        go_wp2_with fail
        refine ho.mono ?_
        clear ho
        intro e w6 h6
        obtain ⟨rfl, hr6, hp6⟩ := h6.is_ok
        clear h6 hp hr
        have hsk := jskip_walk g s k w6 hr6 hk2 hl
        have hqg := Jp.skip_ge s k
        have hql := Jp.skip_le s k hk2
        have hss := Hsk.out k
        generalize Jp.skipP s k = q1 at *
        have Hss := Lib.hid hss
        have hih := fun w h => jis_walk g s q1 44 w h hql hl
        have H44 : Hid (decide (s[q1]? = some 44) = true → R = Jp.manyF one c s f st' (q1 + 1)) := fun h => by rw [HR2.out]; rw [if_pos (of_decide_eq_true h)]
        have H44n : Hid (decide (s[q1]? = some 44) = false → R = if s[q1]? = some c then .ok st' (q1 + 1) else .bad q1 3) := fun h => by rw [HR2.out]; rw [if_neg (of_decide_eq_false h)]
        have Hlt : Hid (decide (s[q1]? = some 44) = true → q1 < s.length) := fun h => Jp.get_lt (of_decide_eq_true h)
        generalize decide (s[q1]? = some 44) = qq at *
        clear HR2 hss
        go_wp2_with fail
        refine hsk.mono ?_
        clear hsk
        rintro e w7 ⟨rfl, hr7, ha7⟩
        have hp7 := hP st' _ _ hp6 ha7
        clear hp6 hr6 ha7
        go_wp2_with fail
        refine (hih w7 hr7).mono ?_
        clear hih
        rintro e w8 ⟨rfl, n8, rfl⟩
        have hr8 := hr7.drewN n8
        have hp8 := hP st' _ _ hp7 ((AftR.refl g w7).drewN n8)
        clear hr7 hp7
        generalize w7.drewN n8 = w8 at *
        have c1 := hr8.c1
        have f1 := hr8.f1
        cases qq with
        | true =>
          have HB := Lib.hid (H44.out (by first | rfl | trivial))
          have hlt := Hlt.out (by first | rfl | trivial)
          have hr9 := hr8.move (q1 + 1)
          have hp9 := hP st' _ _ hp8 ((AftR.refl g w8).set 1 (.int .i64 ((q1 + 1 : Nat) : Int)))
          clear H44 H44n Hlt
          go_wp2_with fail
          go_roundg (s.length - (q1 + 1))
          case rel =>
            obtain ⟨f', rfl⟩ : ∃ f', f = f' + 1 := ⟨f - 1, by have := HF.out; omega⟩
            exact ⟨q1 + 1, f', st', Nat.le_refl _, by omega, hr9, hp9, HMm.out st' k (q1 + 1) HM3.out (by omega), HB.out, by show _ ≤ _; have := HF.out; omega⟩
          case measure => omega
        | false =>
          have HB := Lib.hid (H44n.out (by first | rfl | trivial))
          have hnd := jneed_walk g s q1 c w8 hr8 hql hl
          clear H44 H44n Hlt
          by_cases hc : s[q1]? = some c
          · have hN : Jp.needP s c q1 = .ok () (q1 + 1) := by unfold Jp.needP; rw [Hss.out, if_pos hc]
            rw [hN] at hnd
            have HB2 : Hid (R = .ok st' (q1 + 1)) := by show _ = _; rw [HB.out, if_pos hc]
            clear HB hc hN
            go_wp2_with fail
            refine hnd.mono ?_
            intro e w9 h9
            obtain ⟨ha9, rfl, hr9⟩ := h9.is_ok
            go_wp2_with fail
            go_end0
            exact OneE.ok HB2.out hr9 (hP st' _ _ hp8 ha9)
          · have hN : Jp.needP s c q1 = .bad q1 3 := by unfold Jp.needP; rw [Hss.out, if_neg hc]
            rw [hN] at hnd
            have HB2 : Hid (R = .bad q1 3) := by show _ = _; rw [HB.out, if_neg hc]
            clear HB hc hN
            go_wp2_with fail
            refine hnd.mono ?_
            intro e w9 h9
            obtain ⟨ha9, rfl⟩ := h9.is_bad
            go_wp2_with fail
            exact ⟨rfl, OneE.bad HB2.out (hQ st' _ (hP st' _ _ hp8 ha9))⟩
end Go.Proofs.YtgpjcjnimheglaaGreatDoor
