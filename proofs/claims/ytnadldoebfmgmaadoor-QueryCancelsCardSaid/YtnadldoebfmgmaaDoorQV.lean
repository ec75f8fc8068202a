/-
  THE WALKS of (*query.Sheet).Get and Set.
-/
import Derived.Test.YtnadldoebfmgmaaDoorQT
namespace Go.Proofs.YtnadldoebfmgmaaDoor.q
open Go.RowKit

section
variable {N : Nat → Prop} {w : World} {base sp rb rc : Nat} {ps : List Nat} {vc : Value} {s : Sh}
theorem lock_sheet {lk : Int} (hS : ShAt N w base sp lk ps vc rb rc s) (l : Int) :
    ShAt N (w.setCell ⟨sp, 0, none⟩ (.int .i32 l)) base sp l ps vc rb rc s ∧ KeepN N w (w.setCell ⟨sp, 0, none⟩ (.int .i32 l)) ∧ Below base w (w.setCell ⟨sp, 0, none⟩ (.int .i32 l)) ∧ (w.setCell ⟨sp, 0, none⟩ (.int .i32 l)).heap.size = w.heap.size :=
  ⟨hS.setSheet (j := 0) (u := .int .i32 l) (lk' := l) (sets' := s.sets) (most' := s.most) rfl, KeepN.setCell (p := ⟨sp, 0, none⟩) hS.nsp _, (Below.refl _ _).setCell (p := ⟨sp, 0, none⟩) hS.base_ _, by simp⟩

set_option maxHeartbeats 1000000 in
set_option maxRecDepth 100000 in
theorem Get_walk {B : Nat} (hS : ShAt N w base sp 0 ps vc rb rc s) (hN : ∀ j, N j → j < w.heap.size) (hz : base ≤ w.heap.size) (hr : s.Rest B) (hB : B ≤ 1000000000000000000) (k : Int) :
    Calls Tryd.prog 8 #[.pointer (some ⟨sp, 0, none⟩), .int .i64 k] w fun e w' => e = .returned (.tuple #[.int .i64 (getM s k).2.1, errQ (getM s k).2.2]) ∧ ShAt N w' base sp 0 ps vc rb rc (getM s k).1 ∧ KeepN N w w' ∧ Below base w w' := by
  have m0 := hS.sheet.cell 0
  have f0 := hS.sheet.frozen 0
  simp at m0
  obtain ⟨l1, l2, l3, l4⟩ := lock_sheet hS 1
  have HL2 := Lib.hid l2
  have HG := Lib.hid (get_walk l1 (fun j hj => by rw [l4]; exact hN j hj) (by rw [l4]; exact hz) hr hB k)
  have hz1 : base ≤ (w.setCell ⟨sp, 0, none⟩ (.int .i32 1)).heap.size := by rw [l4]; exact hz
  clear hS l1 l2 l4 hN
  generalize getM s k = x at *
  go_enter_defers Tryd.func8, Tryd.ntmps8
  go_wp2_with fail
  refine (lock_free ⟨sp, 0, none⟩ _ m0 f0).mono ?_
  rintro e w' ⟨rfl, rfl⟩
  clear m0 f0
  generalize w.setCell ⟨sp, 0, none⟩ (.int .i32 1) = w1 at *
  go_wp2_with fail
  refine HG.out.mono ?_
  rintro e w2 ⟨rfl, hS2, hk2, hb2⟩
  obtain ⟨u1, u2, u3, _⟩ := lock_sheet hS2 0
  have HU1 := Lib.hid u1
  have HU2 := Lib.hid (hk2.trans u2)
  have hb3 := hb2.trans u3
  have m0 := hS2.sheet.cell 0
  have f0 := hS2.sheet.frozen 0
  simp at m0
  clear hS2 hk2 hb2 u1 u2 u3
  go_wp2_with fail
  refine leaves_cons (f := 21) (args := #[.pointer (some ⟨sp, 0, none⟩)]) (by simp) (by simp [go_sem]) ?_
  refine (unlock_deferred ⟨sp, 0, none⟩ _ _ m0 f0).mono ?_
  rintro e u' w'' ⟨rfl, rfl, rfl⟩
  refine ⟨.tuple #[.int .i64 x.2.1, errQ x.2.2], by simp [results, Tryd.results8, go_sem], rfl, HU1.out, HL2.out.trans HU2.out, l3.trans hb3⟩

/-- an input is made a number -/
def setM (s : Sh) (k v : Int) : Sh × Int :=
  if 0 ≤ k ∧ k < s.cs.length ∧ (s.at k.toNat).op = 0 then
    (if (s.at k.toNat).n = v then s else { s.upd k.toNat (fun c => { c with n := v }) with sets := s.sets + 1 }, 0)
  else (s, 1)
theorem set_no {s : Sh} {k v : Int} (h : ¬ (0 ≤ k ∧ k < s.cs.length ∧ (s.at k.toNat).op = 0)) : setM s k v = (s, 1) := by unfold setM; rw [if_neg h]
theorem set_same {s : Sh} {k : Nat} {v : Int} (h : k < s.cs.length) (ho : (s.at k).op = 0) (hn : (s.at k).n = v) : setM s k v = (s, 0) := by
  unfold setM; rw [if_pos ⟨by omega, by omega, by simpa using ho⟩, if_pos (by simpa using hn)]
theorem set_new {s : Sh} {k : Nat} {v : Int} (h : k < s.cs.length) (ho : (s.at k).op = 0) (hn : (s.at k).n ≠ v) : setM s k v = ({ s.upd k (fun c => { c with n := v }) with sets := s.sets + 1 }, 0) := by
  unfold setM; rw [if_pos ⟨by omega, by omega, by simpa using ho⟩, if_neg (by simpa using hn)]; simp

set_option maxHeartbeats 1000000 in
set_option maxRecDepth 100000 in
theorem Set_walk (hS : ShAt N w base sp 0 ps vc rb rc s) (k v : Int) (hsm : s.cs.length ≤ 1048576) (hs1 : -1000000000000000 ≤ s.sets) (hs2 : s.sets ≤ 1000000000000000) :
    Calls Tryd.prog 6 #[.pointer (some ⟨sp, 0, none⟩), .int .i64 k, .int .i64 v] w fun e w' => e = .returned (errQ (setM s k v).2) ∧ ShAt N w' base sp 0 ps vc rb rc (setM s k v).1 ∧ KeepN N w w' ∧ Below base w w' := by
  have hlen := hS.len
  have hpsm : ps.length ≤ 1048576 := by omega
  have m0 := hS.sheet.cell 0
  have f0 := hS.sheet.frozen 0
  simp at m0
  obtain ⟨l1, l2, l3, _⟩ := lock_sheet hS 1
  have HL2 := Lib.hid l2
  clear l2
  by_cases hk : 0 ≤ k ∧ k < ps.length
  · obtain ⟨n, rfl⟩ := Int.eq_ofNat_of_zero_le hk.1
    have hn : n < ps.length := by omega
    have hns : n < s.cs.length := by omega
    obtain ⟨gc, gcap, rfl, hgc, _⟩ := l1.cells.form (by omega)
    obtain ⟨vd, vl, hv⟩ := l1.each n hn
    have m2 := l1.sheet.cell 2
    have cg : (w.setCell ⟨sp, 0, none⟩ (.int .i32 1)).cell? ⟨gc, n, none⟩ = some (.pointer (some ⟨ps[n], 0, none⟩)) := own_cell l1.cells n _ (by rw [List.getElem?_map, List.getElem?_eq_getElem hn]; rfl)
    have c0 := hv.blk.cell 0
    have c5 := hv.blk.cell 5
    simp [celCells] at m2 c0 c5
    have i1 : (0 : Int) ≤ (n : Int) := by omega
    have i2 : (n : Int) < (ps.length : Int) := by omega
    have HT := Lib.hid (there_yes l1 n hn)
    have HS := Lib.hid l1
    have Hlen := Lib.hid hlen
    clear hk hlen l1 hS
    by_cases ho : (s.at n).op = 0
    · rw [ho] at c0
      by_cases hnv : (s.at n).n = v
      · have hm : Hid (setM s n v = (s, 0)) := set_same hns ho hnv
        rw [hnv] at c5
        obtain ⟨u1, u2, u3, _⟩ := lock_sheet HS.out 0
        have u0 := HS.out.sheet.cell 0
        have g0 := HS.out.sheet.frozen 0
        simp at u0
        have HU1 := Lib.hid u1
        have HU2 := Lib.hid u2
        have hB3 := l3.trans u3
        clear ho hnv u1 u2 l3 u3 hv HS
        go_enter_defers Tryd.func6, Tryd.ntmps6
        go_wp2_with fail
        refine (lock_free ⟨sp, 0, none⟩ _ m0 f0).mono ?_
        rintro e w' ⟨rfl, rfl⟩
        clear m0 f0
        generalize w.setCell ⟨sp, 0, none⟩ (.int .i32 1) = w1 at *
        go_wp2_with fail
        refine HT.out.mono ?_
        rintro e w' ⟨rfl, rfl⟩
        go_wp2_with fail
        refine leaves_cons (f := 21) (args := #[.pointer (some ⟨sp, 0, none⟩)]) (by simp) (by simp [go_sem]) ?_
        refine (unlock_deferred ⟨sp, 0, none⟩ _ _ u0 g0).mono ?_
        rintro e u' w'' ⟨rfl, rfl, rfl⟩
        exact ⟨errQ 0, by simp [results, Tryd.results6, go_sem, errQ], by rw [hm.out], by rw [hm.out]; exact HU1.out, HL2.out.trans HU2.out, hB3⟩
      · have hm : Hid (setM s n v = ({ s.upd n (fun c => { c with n := v }) with sets := s.sets + 1 }, 0)) := set_new hns ho hnv
        have e5 : ((s.at n).n != v) = true := by simpa using hnv
        have f5 := hv.blk.frozen 5
        have hS2 := HS.out.set hn (f := fun c => { c with n := v }) (j := 5) (u := .int .i64 v) (fun _ _ => rfl) rfl rfl rfl rfl
        have hS3 := hS2.setSheet (j := 4) (u := .int .i64 (s.sets + 1)) (lk' := 1) (sets' := s.sets + 1) (most' := s.most) rfl
        have m4 := hS2.sheet.cell 4
        have f4 := hS2.sheet.frozen 4
        have u0 := hS3.sheet.cell 0
        have g0 := hS3.sheet.frozen 0
        simp at m4 u0
        rw [upd_sets] at m4
        have hw : IntKind.i64.wrap (s.sets + 1) = s.sets + 1 := IntWalk.i64_in _ (by omega)
        obtain ⟨u1, u2, u3, _⟩ := lock_sheet hS3 0
        have HU1 := Lib.hid u1
        have HU2 := Lib.hid (((KeepN.setCell (w := w.setCell ⟨sp, 0, none⟩ (.int .i32 1)) (p := ⟨ps[n], 5, none⟩) hv.np (.int .i64 v)).trans (KeepN.setCell (p := ⟨sp, 4, none⟩) HS.out.nsp (.int .i64 (s.sets + 1)))).trans u2)
        have hB3 := ((l3.setCell (p := ⟨ps[n], 5, none⟩) hv.base_ (.int .i64 v)).setCell (p := ⟨sp, 4, none⟩) HS.out.base_ (.int .i64 (s.sets + 1))).trans u3
        clear ho hnv u1 u2 l3 u3 hv HS hS2 hS3
        go_enter_defers Tryd.func6, Tryd.ntmps6
        go_wp2_with fail
        refine (lock_free ⟨sp, 0, none⟩ _ m0 f0).mono ?_
        rintro e w' ⟨rfl, rfl⟩
        clear m0 f0
        generalize w.setCell ⟨sp, 0, none⟩ (.int .i32 1) = w1 at *
        go_wp2_with fail
        refine HT.out.mono ?_
        rintro e w' ⟨rfl, rfl⟩
        go_wp2_with fail
        refine leaves_cons (f := 21) (args := #[.pointer (some ⟨sp, 0, none⟩)]) (by simp) (by simp [go_sem]) ?_
        refine (unlock_deferred ⟨sp, 0, none⟩ _ _ u0 g0).mono ?_
        rintro e u' w'' ⟨rfl, rfl, rfl⟩
        exact ⟨errQ 0, by simp [results, Tryd.results6, go_sem, errQ], by rw [hm.out], by rw [hm.out]; exact HU1.out, HL2.out.trans HU2.out, hB3⟩
    · have hm : Hid (setM s n v = (s, 1)) := set_no fun h => ho (by simpa using h.2.2)
      have e0 : ((s.at n).op != 0) = true := by simpa using ho
      obtain ⟨u1, u2, u3, _⟩ := lock_sheet HS.out 0
      have u0 := HS.out.sheet.cell 0
      have g0 := HS.out.sheet.frozen 0
      simp at u0
      have HU1 := Lib.hid u1
      have HU2 := Lib.hid u2
      have hB3 := l3.trans u3
      clear ho u1 u2 l3 u3 hv HS
      go_enter_defers Tryd.func6, Tryd.ntmps6
      go_wp2_with fail
      refine (lock_free ⟨sp, 0, none⟩ _ m0 f0).mono ?_
      rintro e w' ⟨rfl, rfl⟩
      clear m0 f0
      generalize w.setCell ⟨sp, 0, none⟩ (.int .i32 1) = w1 at *
      go_wp2_with fail
      refine HT.out.mono ?_
      rintro e w' ⟨rfl, rfl⟩
      go_wp2_with fail
      refine leaves_cons (f := 21) (args := #[.pointer (some ⟨sp, 0, none⟩)]) (by simp) (by simp [go_sem]) ?_
      refine (unlock_deferred ⟨sp, 0, none⟩ _ _ u0 g0).mono ?_
      rintro e u' w'' ⟨rfl, rfl, rfl⟩
      exact ⟨errQ 1, by simp [results, Tryd.results6, go_sem, errQ], by rw [hm.out], by rw [hm.out]; exact HU1.out, HL2.out.trans HU2.out, hB3⟩
  · have hm : Hid (setM s k v = (s, 1)) := set_no fun h => hk (by omega)
    have HT := Lib.hid (there_no l1 k hk)
    obtain ⟨u1, u2, u3, _⟩ := lock_sheet l1 0
    have u0 := l1.sheet.cell 0
    have g0 := l1.sheet.frozen 0
    simp at u0
    have HU1 := Lib.hid u1
    have HU2 := Lib.hid u2
    have hB3 := l3.trans u3
    clear hk hlen u1 u2 l3 u3 l1 hS
    go_enter_defers Tryd.func6, Tryd.ntmps6
    go_wp2_with fail
    refine (lock_free ⟨sp, 0, none⟩ _ m0 f0).mono ?_
    rintro e w' ⟨rfl, rfl⟩
    clear m0 f0
    generalize w.setCell ⟨sp, 0, none⟩ (.int .i32 1) = w1 at *
    go_wp2_with fail
    refine HT.out.mono ?_
    rintro e w' ⟨rfl, rfl⟩
    go_wp2_with fail
    refine leaves_cons (f := 21) (args := #[.pointer (some ⟨sp, 0, none⟩)]) (by simp) (by simp [go_sem]) ?_
    refine (unlock_deferred ⟨sp, 0, none⟩ _ _ u0 g0).mono ?_
    rintro e u' w'' ⟨rfl, rfl, rfl⟩
    exact ⟨errQ 1, by simp [results, Tryd.results6, go_sem, errQ], by rw [hm.out], by rw [hm.out]; exact HU1.out, HL2.out.trans HU2.out, hB3⟩
end
end Go.Proofs.YtnadldoebfmgmaaDoor.q
