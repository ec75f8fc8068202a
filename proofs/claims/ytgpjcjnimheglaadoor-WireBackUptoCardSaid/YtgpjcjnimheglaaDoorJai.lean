/-
  JOINED of the texts NC NW
-/
import Derived.Test.YtgpjcjnimheglaaDoorJad
import Derived.Test.YtgpjcjnimheglaaDoorJae
import Derived.Test.YtgpjcjnimheglaaDoorJah
import Derived.Deep.CutBlock
import Derived.Deep.LoopGhost
import Derived.Lib.ItoaNum
import Derived.Lib.RuneBytes
import Derived.Lib.Strings
import Derived.Lib.ConvBytes
import Derived.Laws.Strings3
import Derived.Laws.Closers25
import Derived.Laws.Closers25b
import Derived.BigCall
import Derived.BigGuard
import Derived.Test.YtgpjcjnimheglaaDoorShelfX
import Derived.Shelf.Spec.BytesIndexFunc
import Derived.Deep.RegionHeld3
import Derived.Deep.DeepCutAuto
import Derived.Lib.IndexMore
import Derived.Test.YtgpjcjnimheglaaDoorRows
import Derived.WalkKit
import Derived.WalkSpells
import Derived.WalkLawsBesides
import Derived.Below
import Derived.Laws.OwnMore
import Derived.Deep.AppendLies
import Derived.Deep.Draws
import Derived.Lib.Hide
import Derived.Deep.QuietTactic
import Derived.BigQuiet
import Derived.IntWalk
import Derived.Test.YtgpjcjnimheglaaDoorShelfW
import Derived.Shelf.Strings.SlTrimAscii
import Derived.Lib.LaidTab
import Derived.Lib.AtoiAll
import Derived.Lib.IndexLaws
import Derived.Lib.SlTrimSet
import Derived.Lib.Atoi
import Derived.Test.YtgpjcjnimheglaaDoorJab
/-
  WALKS of package wire's reader: word, number.
-/
namespace Go.Proofs.YtgpjcjnimheglaaDoor
open Go.RowKit

/-- the cells of a value without lists -/
def jz (k n : Int) (t : Bs) : Array Value := #[.int .i64 k, .int .i64 n, .string ⟨t.toArray⟩, .slice none 0 0, .slice none 0 0]

set_option maxHeartbeats 2000000 in
set_option maxRecDepth 100000 in
theorem jword_walk (g : Nat) (s wd : Bs) (kn nn : Int) (i : Nat) (w : World) (h : RdrAt w g s i) (hi : i ≤ s.length) (hl : s.length ≤ 16777216) (hwl : wd.length ≤ 100) :
    Calls Tryd.prog 21 #[.pointer (some ⟨g, 0, none⟩), .string ⟨wd.toArray⟩, .agg (jz kn nn [])] w fun e w' => AftR g w w' ∧
      if wd.isPrefixOf (s.drop i) then e = .returned (.agg (jz kn nn [])) ∧ RdrAt w' g s (i + wd.length) else e = .panicked (faultC i 3) := by
  have hgl := h.lt
  have hb2 : Below w.heap.size w ((w.alloc (.cells (jz kn nn []) 25)).alloc (.cells (jz 0 0 []) 25)) := ((Below.refl _ _).alloc (Nat.le_refl _) _).alloc (by simp) _
  have hB5 : Blk ((w.alloc (.cells (jz kn nn []) 25)).alloc (.cells (jz 0 0 []) 25)) w.heap.size 25 (jz kn nn []) := (Blk.new w _ _).alloc _
  have hB6 : Blk ((w.alloc (.cells (jz kn nn []) 25)).alloc (.cells (jz 0 0 []) 25)) (w.heap.size + 1) 25 (jz 0 0 []) := by
    have := Blk.new (w.alloc (.cells (jz kn nn []) 25)) 25 (jz 0 0 [])
    simpa using this
  have h2 := h.below hb2
  have ha2 := AftR.of_below hb2 (Nat.le_of_lt hgl)
  unfold jz at hB5 hB6 h2 ha2 ⊢
  obtain ⟨b5, e5⟩ : ∃ b, b = w.heap.size := ⟨_, rfl⟩
  have hp : ∀ n, Calls Tryd.prog 37 #[.string ((⟨s.toArray⟩ : ByteArray).extract i s.length), .string ⟨wd.toArray⟩] (((w.alloc (.cells #[.int .i64 kn, .int .i64 nn, .string ⟨#[]⟩, .slice none 0 0, .slice none 0 0] 25)).alloc (.cells #[.int .i64 0, .int .i64 0, .string ⟨#[]⟩, .slice none 0 0, .slice none 0 0] 25)).drewN n) fun e w' => e = .returned (.bool (wd.isPrefixOf (s.drop i))) ∧ w' = ((w.alloc (.cells #[.int .i64 kn, .int .i64 nn, .string ⟨#[]⟩, .slice none 0 0, .slice none 0 0] 25)).alloc (.cells #[.int .i64 0, .int .i64 0, .string ⟨#[]⟩, .slice none 0 0, .slice none 0 0] 25)).drewN n := fun n => by
    rw [ext_drop]
    exact pre_walk (s.drop i) wd _
  have hb : Below w.heap.size w ((w.alloc (.cells #[.int .i64 kn, .int .i64 nn, .string ⟨#[]⟩, .slice none 0 0, .slice none 0 0] 25)).alloc (.cells #[.int .i64 0, .int .i64 0, .string ⟨#[]⟩, .slice none 0 0, .slice none 0 0] 25)) := hb2
  have c0 := h2.c0
  have c1 := h2.c1
  have f1 := h2.f1
  have j1 : (0 : Int) ≤ (i : Int) := by omega
  have j2 : (i : Int) ≤ (s.length : Int) := by omega
  clear hb2
  rw [← e5] at hB5 hB6
  have hg5 : g < b5 := by omega
  have E5 := Lib.hid e5
  clear e5
  generalize hq : wd.isPrefixOf (s.drop i) = q at *
  clear hq
  cases q with
  | true =>
    simp only [if_true]
    go_enter Tryd.func21, Tryd.ntmps21
    go_wp2_with fail
    go_quiet ((go_at_call 37; exact Calls.quiet_of_same (hp _)))
    go_upto_region 3 with fail
    rw [← E5.out]
    have h3 := h2.drewN nq
    have ha3 := ha2.drewN nq
    have hB5q := hB5.drewN nq
    have hB6q := hB6.drewN nq
    clear h2 ha2 hB5 hB6 hp hb c0 c1 f1
    generalize ((w.alloc (.cells #[.int .i64 kn, .int .i64 nn, .string ⟨#[]⟩, .slice none 0 0, .slice none 0 0] 25)).alloc (.cells #[.int .i64 0, .int .i64 0, .string ⟨#[]⟩, .slice none 0 0, .slice none 0 0] 25)).drewN nq = wq at *
    have c1 := h3.c1
    have f1 := h3.f1
    have h4 := h3.move (i + wd.length)
    have ha4 := ha3.set 1 (.int .i64 ((i + wd.length : Nat) : Int))
    have hB5r := hB5q.far (p := ⟨g, 1, none⟩) (by simp; omega) (.int .i64 ((i + wd.length : Nat) : Int))
    have hB6r := hB6q.far (p := ⟨g, 1, none⟩) (by simp; omega) (.int .i64 ((i + wd.length : Nat) : Int))
    have E1 : Hid ((i : Int) + wd.length = ((i + wd.length : Nat) : Int)) := by show _ = _; omega
    go_upto_region 4 with fail
    rw [E1.out]
    clear h3 ha3 hB5q hB6q c1 f1 E1
    generalize wq.setCell ⟨g, 1, none⟩ (.int .i64 ((i + wd.length : Nat) : Int)) = wz at *
    have c0 := hB5r.cell 0
    have c1 := hB5r.cell 1
    have c2 := hB5r.cell 2
    have c3 := hB5r.cell 3
    have c4 := hB5r.cell 4
    have d0 := hB6r.cell 0
    have d1 := hB6r.cell 1
    have d2 := hB6r.cell 2
    have d3 := hB6r.cell 3
    have d4 := hB6r.cell 4
    have f0 := hB6r.frozen 0
    have f1 := hB6r.frozen 1
    have f2 := hB6r.frozen 2
    have f3 := hB6r.frozen 3
    have f4 := hB6r.frozen 4
    simp at c0 c1 c2 c3 c4 d0 d1 d2 d3 d4
    have hBf := ((((hB6r.set_ 0 (.int .i64 kn)).set_ 1 (.int .i64 nn)).set_ 2 (.string ⟨#[]⟩)).set_ 3 (.slice none 0 0)).set_ 4 (.slice none 0 0)
    have haf := AftR.json (w1 := w) wz (b5 + 1) kn nn ⟨#[]⟩ (.slice none 0 0) (.slice none 0 0) (by omega) (by have := E5.out; omega) ha4
    have hrf := ((((Blk.far h4 (p := ⟨b5 + 1, 0, none⟩) (by simp; omega) (.int .i64 kn)).far (p := ⟨b5 + 1, 1, none⟩) (by simp; omega) (.int .i64 nn)).far (p := ⟨b5 + 1, 2, none⟩) (by simp; omega) (.string ⟨#[]⟩)).far (p := ⟨b5 + 1, 3, none⟩) (by simp; omega) (.slice none 0 0)).far (p := ⟨b5 + 1, 4, none⟩) (by simp; omega) (.slice none 0 0)
    go_wp2_with fail
    exact bodyPost_ret (v := .agg #[.int .i64 kn, .int .i64 nn, .string ⟨#[]⟩, .slice none 0 0, .slice none 0 0]) (results_cell_row (hu := Tryd.underlying25) (h := rfl) (hp := rfl) (hg := hBf) (hd := rfl) (hi := by kernel_rfl)) rfl ⟨haf, rfl, hrf⟩
  | false =>
    simp only [Bool.false_eq_true, if_false]
    go_enter Tryd.func21, Tryd.ntmps21
    go_wp2_with fail
    go_quiet ((go_at_call 37; exact Calls.quiet_of_same (hp _)))
    go_wp2_with fail
    refine (fail_walk i 3 _).mono ?_
    rintro e w3 ⟨rfl, rfl⟩
    go_wp2_with fail
    exact ⟨rfl, ha2.drewN _, rfl⟩

theorem atoi_any (l : Bs) (v : Int) (h : Lib.atoiAll l = .ok v) (w : World) (hl : l.length ≤ 100) : Calls Tryd.prog 40 #[.string ⟨l.toArray⟩] w fun e w' => e = .returned (.tuple #[.int .i64 v, .nilIface]) ∧ Below w.heap.size w w' :=
  (Tryd.strconv_Atoi_ok ⟨l.toArray⟩ (by rw [mk_size]; omega) v h w).mono fun e w' h => by
    refine ⟨h.1, ?_⟩
    rcases h.2 with rfl | ⟨t, rfl⟩
    · exact Below.refl _ _
    · exact Lib.bytesWorld_below _ _ _
theorem dig_form (b : UInt8) : Jp.digB b = (decide (48 ≤ b.toNat) && decide (b.toNat ≤ 57)) := rfl

set_option maxHeartbeats 4000000 in
set_option maxRecDepth 100000 in
theorem jnum_walk (g : Nat) (s : Bs) (i : Nat) (w : World) (h : RdrAt w g s i) (hi : i ≤ s.length) (hl : s.length ≤ 16777216) :
    Calls Tryd.prog 23 #[.pointer (some ⟨g, 0, none⟩)] w (RsP g s w (fun n : Int => .agg (jz 2 n [])) (Jp.numP s i)) := by
  have hgl := h.lt
  have hfl := Jp.first_le s i hi
  have hfi1 : Hid (Jp.firstP s i ≤ i + 1) := by
    show _ ≤ _
    unfold Jp.firstP; split <;> omega
  have hkg := Jp.dig_ge s (Jp.firstP s i)
  have hkl := Jp.dig_le s (Jp.firstP s i) hfl.2
  have Hf1 : Hid (s[i]? = some 45 → Jp.firstP s i = i + 1) := fun h => if_pos h
  have Hf2 : Hid (s[i]? ≠ some 45 → Jp.firstP s i = i) := fun h => if_neg h
  have Hat : Hid (Jp.digP s (Jp.firstP s i) ≠ Jp.firstP s i → ¬ 18 < Jp.digP s (Jp.firstP s i) - Jp.firstP s i → Lib.atoiAll ((s.take (Jp.digP s (Jp.firstP s i))).drop i) = .ok (Jp.numV s i)) := Jp.num_atoi s i
  have HDe : Hid ((s.take (Jp.digP s (Jp.firstP s i))).drop (Jp.firstP s i) = (s.drop (Jp.firstP s i)).takeWhile Jp.digB) := Jp.dig_take s _
  have hDl := Jp.dig_len s (Jp.firstP s i)
  have HD0 : Hid (∀ h : 0 < ((s.drop (Jp.firstP s i)).takeWhile Jp.digB).length, s[Jp.firstP s i]? = some ((s.drop (Jp.firstP s i)).takeWhile Jp.digB)[0]) := fun h => by
    have hp : (s.drop (Jp.firstP s i)).takeWhile Jp.digB <+: s.drop (Jp.firstP s i) := List.takeWhile_prefix _
    rw [hp.getElem h, List.getElem_drop]
    exact List.getElem?_eq_getElem _
  have hb1 : Below w.heap.size w (w.alloc (.cells (jz 0 0 []) 25)) := (Below.refl _ _).alloc (Nat.le_refl _) _
  have hB1 : Blk (w.alloc (.cells (jz 0 0 []) 25)) w.heap.size 25 (jz 0 0 []) := Blk.new w _ _
  have h1 := h.below hb1
  have ha1 := AftR.of_below hb1 (Nat.le_of_lt hgl)
  obtain ⟨b2, e2⟩ : ∃ b, b = w.heap.size := ⟨_, rfl⟩
  rw [← e2] at hB1
  have hg2 : g < b2 := by omega
  have E2 := Lib.hid e2
  clear e2 hb1
  generalize hR0 : Jp.numP s i = R
  have hR : (if Jp.digP s (Jp.firstP s i) = Jp.firstP s i then (Jp.Rs.bad (Jp.firstP s i) 3 : Jp.Rs Int) else if 18 < Jp.digP s (Jp.firstP s i) - Jp.firstP s i ∨ (1 < Jp.digP s (Jp.firstP s i) - Jp.firstP s i ∧ s[Jp.firstP s i]? = some 48) then .bad i 3 else .ok (Jp.numV s i) (Jp.digP s (Jp.firstP s i))) = R := hR0
  clear hR0
  generalize hK : Jp.digP s (Jp.firstP s i) = k at *
  generalize hF : Jp.firstP s i = f at *
  have HK := Lib.hid hK
  clear hK hF
  generalize (s.drop f).takeWhile Jp.digB = D at *
  obtain ⟨hfi, hfl⟩ := hfl
  have HR := Lib.hid hR
  clear hR
  unfold jz at hB1 h1 ha1
  have his := jis_walk g s i 45 _ h1 hi hl
  have Hq1 : Hid (decide (s[i]? = some 45) = true → f = i + 1) := fun h => Hf1.out (of_decide_eq_true h)
  have Hq2 : Hid (decide (s[i]? = some 45) = false → f = i) := fun h => Hf2.out (of_decide_eq_false h)
  clear Hf1 Hf2
  generalize decide (s[i]? = some 45) = qd at *
  have c1 := h1.c1
  have f1 := h1.f1
  go_enter Tryd.func23, Tryd.ntmps23
  go_wp2_with fail
  refine his.mono ?_
  clear his
  rintro e w2 ⟨rfl, n2, rfl⟩
  rw [← E2.out]
  have h2 := h1.drewN n2
  have ha2 := ha1.drewN n2
  have hB2 := hB1.drewN n2
  clear h1 ha1 hB1 c1 f1
  generalize (w.alloc (.cells #[.int .i64 0, .int .i64 0, .string ⟨#[]⟩, .slice none 0 0, .slice none 0 0] 25)).drewN n2 = w2 at *
  have c1 := h2.c1
  have f1 := h2.f1
  go_upto_if 13 with fail
  go_cut [] (fun wc => RdrAt wc g s f ∧ AftR g w wc ∧ Blk wc b2 25 #[.int .i64 0, .int .i64 0, .string ⟨#[]⟩, .slice none 0 0, .slice none 0 0])
  case first =>
    cases qd with
    | true =>
      have hf := Hq1.out rfl
      have h3 : RdrAt (w2.setCell ⟨g, 1, none⟩ (.int .i64 ((i + 1 : Nat) : Int))) g s f := by rw [hf]; exact h2.move (i + 1)
      have ha3 := ha2.set 1 (.int .i64 ((i + 1 : Nat) : Int))
      have hB3 := hB2.far (p := ⟨g, 1, none⟩) (by simp; omega) (.int .i64 ((i + 1 : Nat) : Int))
      clear hf
      go_wp2_with fail
      go_meet
      exact ⟨h3, ha3, hB3⟩
    | false =>
      have hf := Hq2.out rfl
      rw [← hf] at h2
      have Hf := Lib.hid hf
      clear hf
      go_wp2_with fail
      go_meet
      exact ⟨h2, ha2, hB2⟩
  case rest =>
    clear h2 ha2 hB2 c1 f1
    obtain ⟨h3, ha3, hB3⟩ := hcut
    have c1 := h3.c1
    clear Hq1 Hq2
    go_upto_block 0 with fail
    go_cut [] (fun wc => RdrAt wc g s k ∧ AftR g w wc ∧ Blk wc b2 25 #[.int .i64 0, .int .i64 0, .string ⟨#[]⟩, .slice none 0 0, .slice none 0 0])
    case first =>
      as_aux_lemma =>
        go_wp2_with fail
        go_loopg [] (s.length - f) (fun q wr => ∃ m, s.length - m ≤ q ∧ m ≤ s.length ∧ RdrAt wr g s m ∧ AftR g w wr ∧ Blk wr b2 25 #[.int .i64 0, .int .i64 0, .string ⟨#[]⟩, .slice none 0 0, .slice none 0 0] ∧ Hid (Jp.digP s f = Jp.digP s m))
        case atStart => exact ⟨f, Nat.le_refl _, hfl, h3, ha3, hB3, rfl⟩
        case round =>
          clear h3 ha3 hB3 c1
          obtain ⟨m, hq, hm, h3, ha3, hB3, HS⟩ := hrel
          have c0 := h3.c0
          have c1 := h3.c1
          have f1 := h3.f1
          have j1 : (0 : Int) ≤ (m : Int) := by omega
          by_cases hlt : m < s.length
          · have j2 : (m : Int) < (s.length : Int) := by omega
            have d1 : decide (m < s.length) = true := by simp [hlt]
            have Hgo : Hid (Jp.digB s[m] = true → Jp.digP s m = Jp.digP s (m + 1)) := Jp.dig_go s m hlt
            have Hst : Hid (Jp.digB s[m] = false → Jp.digP s m = m) := Jp.dig_stop s m hlt
            rw [dig_form] at Hgo Hst
            have hbe : ((⟨s.toArray⟩ : ByteArray)[m]'(by rw [mk_size]; exact hlt)).toNat = s[m].toNat := rfl
            rw [← hbe] at Hgo Hst
            clear hbe
            by_cases g1 : 48 ≤ ((⟨s.toArray⟩ : ByteArray)[m]'(by rw [mk_size]; exact hlt)).toNat
            · have d2 := decide_eq_true g1
              have d4 : decide ((48 : Int) ≤ (((⟨s.toArray⟩ : ByteArray)[m]'(by rw [mk_size]; exact hlt)).toNat : Int)) = true := decide_eq_true (by omega)
              by_cases g2 : ((⟨s.toArray⟩ : ByteArray)[m]'(by rw [mk_size]; exact hlt)).toNat ≤ 57
              · have d3 := decide_eq_true g2
                have d5 : decide ((((⟨s.toArray⟩ : ByteArray)[m]'(by rw [mk_size]; exact hlt)).toNat : Int) ≤ 57) = true := decide_eq_true (by omega)
                have HG := Lib.hid (Hgo.out (by rw [d2, d3]; rfl))
                clear Hgo Hst g1 g2
                go_wp2_with fail
                go_quiet (fail)
                go_wp2_with fail
                go_roundg (s.length - (m + 1))
                case rel => exact ⟨m + 1, Nat.le_refl _, by omega, (h3.drewN _).move (m + 1), (ha3.drewN _).set 1 _, (hB3.drewN _).far (p := ⟨g, 1, none⟩) (by simp; omega) _, by show _ = _; rw [HS.out, HG.out]⟩
                case measure => omega
              · have d3 := decide_eq_false g2
                have d5 : decide ((((⟨s.toArray⟩ : ByteArray)[m]'(by rw [mk_size]; exact hlt)).toNat : Int) ≤ 57) = false := decide_eq_false (by omega)
                have HG := Lib.hid (Hst.out (by rw [d2, d3]; rfl))
                clear Hgo Hst g1 g2
                have hmk : RdrAt wr g s k := by rw [← HK.out, HS.out, HG.out]; exact h3
                go_wp2_with fail
                go_quiet (fail)
                go_wp2_with fail
                go_meet
                exact ⟨hmk.drewN _, ha3.drewN _, hB3.drewN _⟩
            · have d2 := decide_eq_false g1
              have d4 : decide ((48 : Int) ≤ (((⟨s.toArray⟩ : ByteArray)[m]'(by rw [mk_size]; exact hlt)).toNat : Int)) = false := decide_eq_false (by omega)
              have HG := Lib.hid (Hst.out (by rw [d2]; rfl))
              clear Hgo Hst g1
              have hmk : RdrAt wr g s k := by rw [← HK.out, HS.out, HG.out]; exact h3
              go_wp2_with fail
              go_quiet (fail)
              go_wp2_with fail
              go_meet
              exact ⟨hmk.drewN _, ha3.drewN _, hB3.drewN _⟩
          · obtain rfl : m = s.length := by omega
            have HG := Lib.hid (Jp.dig_end s s.length (Nat.le_refl _))
            have hmk : RdrAt wr g s k := by rw [← HK.out, HS.out, HG.out]; exact h3
            go_wp2_with fail
            go_quiet (fail)
            go_wp2_with fail
            go_meet
            exact ⟨hmk.drewN _, ha3.drewN _, hB3.drewN _⟩
    case rest =>
      clear h3 ha3 hB3 c1
      obtain ⟨h3, ha3, hB3⟩ := hcut
      have c0 := h3.c0
      have c1 := h3.c1
      have j1 : (0 : Int) ≤ (f : Int) := by omega
      have j2 : (f : Int) ≤ (k : Int) := by omega
      have j3 : (k : Int) ≤ (s.length : Int) := by omega
      go_upto_region 7 with fail
      go_cut [5] (fun v wc => v = .string ⟨D.toArray⟩ ∧ RdrAt wc g s k ∧ AftR g w wc ∧ Blk wc b2 25 #[.int .i64 0, .int .i64 0, .string ⟨#[]⟩, .slice none 0 0, .slice none 0 0])
      case first =>
        have Hx := ext_str s f k
        rw [HDe.out] at Hx
        have Hx := Lib.hid Hx
        go_quiet (fail)
        go_wp2_with fail
        go_meet
        exact ⟨by first | exact Hx.out | rfl, h3.drewN _, ha3.drewN _, hB3.drewN _⟩
      case rest =>
        clear h3 ha3 hB3 c0 c1
        obtain ⟨rfl, h3, ha3, hB3⟩ := hcut
        have c0 := h3.c0
        have c1 := h3.c1
        by_cases hD : D = []
        · subst hD
          have hkf : k = f := by simp at hDl; omega
          subst hkf
          have HR1 : Hid (R = .bad k 3) := by show _ = _; rw [← HR.out, if_pos rfl]
          clear HR
          go_wp2_with fail
          refine (fail_walk k 3 _).mono ?_
          rintro e w3 ⟨rfl, rfl⟩
          go_wp2_with fail
          exact ⟨rfl, RsP.bad HR1.out ha3⟩
        · have hD1 : 0 < D.length := List.length_pos_iff.2 hD
          have hkf : ¬ k = f := by omega
          have hs0 := HD0.out hD1
          have hb0 : ((((⟨D.toArray⟩ : ByteArray)[0]'(by rw [mk_size]; exact hD1)).toNat : Int) == (48 : Int)) = decide (D[0] = 48) := b0_eq D hD1 48
          have Hkf := Lib.hid hkf
          clear hkf
          have hDl2 := Lib.hid hDl
          clear hDl
          have hD0 : (D == []) = false := by simpa using hD
          have Hs0 : Hid (s[f]? = some D[0]) := hs0
          have H48 : Hid (D[0] = 48 → s[f]? = some 48) := fun h => by rw [← h]; exact Hs0.out
          have H48n : Hid (¬ D[0] = 48 → ¬ s[f]? = some 48) := fun h e => h (by rw [Hs0.out] at e; exact Option.some.inj e)
          clear hs0 Hs0
          generalize hqe : decide (D[0] = 48) = q8 at *
          have H48 : Hid (q8 = true → s[f]? = some 48) := fun h => H48.out (of_decide_eq_true (hqe.trans h))
          have H48n : Hid (q8 = false → ¬ s[f]? = some 48) := fun h => H48n.out (of_decide_eq_false (hqe.trans h))
          clear hqe HD0
          have HB1 : Hid (decide (18 < D.length ∨ (1 < D.length ∧ q8 = true)) = true → R = .bad i 3) := fun h => by
            have hDl := hDl2.out
            have h := of_decide_eq_true h
            rw [← HR.out, if_neg Hkf.out, if_pos]
            rcases h with h | ⟨h, h'⟩
            · left; omega
            · exact .inr ⟨by omega, H48.out h'⟩
          have HB2 : Hid (decide (18 < D.length ∨ (1 < D.length ∧ q8 = true)) = false → R = .ok (Jp.numV s i) k ∧ Lib.atoiAll ((s.take k).drop i) = .ok (Jp.numV s i) ∧ D.length ≤ 18) := fun h => by
            have hDl := hDl2.out
            have h := of_decide_eq_false h
            have h18 : ¬ 18 < k - f := fun h' => h (.inl (by omega))
            refine ⟨?_, Hat.out Hkf.out h18, by omega⟩
            rw [← HR.out, if_neg Hkf.out, if_neg]
            rintro (h' | ⟨h1, h2⟩)
            · exact h18 h'
            · refine h (.inr ⟨by omega, ?_⟩)
              cases q8 with
              | true => rfl
              | false => exact absurd h2 (H48n.out rfl)
          clear HR Hat H48 H48n
          go_upto_region 10 with fail
          go_cut [84] (fun v wc => v = .bool (decide (18 < D.length ∨ (1 < D.length ∧ q8 = true))) ∧ RdrAt wc g s k ∧ AftR g w wc ∧ Blk wc b2 25 #[.int .i64 0, .int .i64 0, .string ⟨#[]⟩, .slice none 0 0, .slice none 0 0])
          case first =>
            by_cases g1 : 18 < D.length
            · have d1 : decide ((18 : Int) < (D.length : Int)) = true := decide_eq_true (by omega)
              have d1' : decide (18 < D.length) = true := decide_eq_true g1
              have HV : Hid (decide (18 < D.length ∨ (1 < D.length ∧ q8 = true)) = true) := decide_eq_true (.inl g1)
              clear g1
              go_wp2_with fail
              go_meet
              exact ⟨by rw [HV.out], h3, ha3, hB3⟩
            · have d1 : decide ((18 : Int) < (D.length : Int)) = false := decide_eq_false (by omega)
              have d1' : decide (18 < D.length) = false := decide_eq_false g1
              by_cases g2 : 1 < D.length
              · have d2 : decide ((1 : Int) < (D.length : Int)) = true := decide_eq_true (by omega)
                have d2' : decide (1 < D.length) = true := decide_eq_true g2
                have HV : Hid (decide (18 < D.length ∨ (1 < D.length ∧ q8 = true)) = q8) := by
                  show _ = _
                  cases q8 <;> simp [g1, g2]
                clear g1 g2
                go_wp2_with fail
                go_meet
                exact ⟨by rw [HV.out], h3, ha3, hB3⟩
              · have d2 : decide ((1 : Int) < (D.length : Int)) = false := decide_eq_false (by omega)
                have d2' : decide (1 < D.length) = false := decide_eq_false g2
                have HV : Hid (decide (18 < D.length ∨ (1 < D.length ∧ q8 = true)) = false) := by
                  show _ = _
                  simp [g1, g2]
                clear g1 g2
                go_wp2_with fail
                go_meet
                exact ⟨by rw [HV.out], h3, ha3, hB3⟩
          case rest =>
            clear h3 ha3 hB3 c0 c1 hb0
            obtain ⟨rfl, h3, ha3, hB3⟩ := hcut
            have c0 := h3.c0
            have c1 := h3.c1
            generalize decide (18 < D.length ∨ (1 < D.length ∧ q8 = true)) = bd at *
            cases bd with
            | true =>
              have HR1 := Lib.hid (HB1.out rfl)
              clear HB1 HB2
              go_wp2_with fail
              refine (fail_walk i 3 _).mono ?_
              rintro e w3 ⟨rfl, rfl⟩
              go_wp2_with fail
              exact ⟨rfl, RsP.bad HR1.out ha3⟩
            | false =>
              obtain ⟨HR1, HA, hD18⟩ := HB2.out rfl
              have HR1 := Lib.hid HR1
              have HA := Lib.hid HA
              clear HB1 HB2
              have i1 : (0 : Int) ≤ (i : Int) := by omega
              have i2 : (i : Int) ≤ (k : Int) := by omega
              have Hx := ext_str s i k
              have hat := fun w => atoi_any ((s.take k).drop i) (Jp.numV s i) HA.out w (by
                have := hDl2.out
                have hfi2 := hfi1.out
                rw [List.length_drop, List.length_take]; omega)
              go_upto_region 12 with fail
              refine wp_region_G 15 (fun w' : World => w'.cell? ⟨g, 0, none⟩ = some (.string ⟨s.toArray⟩) ∧ w'.cell? ⟨g, 1, none⟩ = some (.int .i64 k)) (by kernel_rfl) ?_
              have h4 := h3.drew
              have ha4 := ha3.drew
              have hB4 := hB3.drew
              clear h3 ha3 hB3 c0 c1
              generalize wc.drew = w4 at *
              have c0 := h4.c0
              have c1 := h4.c1
              have hS0 : (fun w' : World => w'.cell? ⟨g, 0, none⟩ = some (.string ⟨s.toArray⟩) ∧ w'.cell? ⟨g, 1, none⟩ = some (.int .i64 k)) w4 := ⟨c0, c1⟩
              refine wpAnyG_take (i := 0) (v := ?_) rfl (by kernel_rfl) (by kernel_rfl) (by kernel_rfl) (by kernel_rfl) (fun _ _ _ h => h) (Or.inl ⟨by rfl, ?_⟩) hS0 ?_; rotate_left; · (intro w hSw; (try dsimp only at hSw); obtain ⟨s0, s1⟩ := hSw; go_simp; try with_reducible rfl)
              simp only [Act.put, List.setIfInBounds_toArray]
              refine wpAnyG_take (i := 1) (v := ?_) rfl (by kernel_rfl) (by kernel_rfl) (by kernel_rfl) (by kernel_rfl) (fun _ _ _ h => h) (Or.inl ⟨by rfl, ?_⟩) hS0 ?_; rotate_left; · (intro w hSw; (try dsimp only at hSw); obtain ⟨s0, s1⟩ := hSw; go_simp; try with_reducible rfl)
              simp only [Act.put]
              refine wpAnyG_take (i := 2) (v := ?_) rfl (by kernel_rfl) (by kernel_rfl) (by kernel_rfl) (by kernel_rfl) (fun _ _ _ h => h) (Or.inl ⟨by rfl, ?_⟩) hS0 ?_; rotate_left; · (intro w hSw; (try dsimp only at hSw); obtain ⟨s0, s1⟩ := hSw; go_simp; try with_reducible rfl)
              simp only [Act.put]
              refine wpAnyG_take (i := 3) (v := ?_) rfl (by kernel_rfl) (by kernel_rfl) (by kernel_rfl) (by kernel_rfl) (fun _ _ _ h => h) (Or.inl ⟨by rfl, ?_⟩) hS0 ?_; rotate_left; · (intro w hSw; (try dsimp only at hSw); obtain ⟨s0, s1⟩ := hSw; go_simp; try with_reducible rfl)
              simp only [Act.put]
              refine wpAnyG_take (i := 4) (v := ?_) rfl (by kernel_rfl) (by kernel_rfl) (by kernel_rfl) (by kernel_rfl) (fun _ _ _ h => h) (Or.inl ⟨by rfl, ?_⟩) hS0 ?_; rotate_left; · (intro w hSw; (try dsimp only at hSw); obtain ⟨s0, s1⟩ := hSw; go_simp; try with_reducible rfl)
              simp only [Act.put]
              refine wpAnyG_take (i := 5) (v := ?_) rfl (by kernel_rfl) (by kernel_rfl) (by kernel_rfl) (by kernel_rfl) (fun _ _ _ h => h) (Or.inl ⟨by rfl, ?_⟩) hS0 ?_; rotate_left; · (intro w hSw; (try dsimp only at hSw); obtain ⟨s0, s1⟩ := hSw; go_simp; try with_reducible rfl)
              simp only [Act.put]
              refine wpAnyG_take (i := 6) (v := ?_) rfl (by kernel_rfl) (by kernel_rfl) (by kernel_rfl) (by kernel_rfl) (fun _ _ _ h => h) (Or.inl ⟨by rfl, ?_⟩) hS0 ?_; rotate_left; · (intro w hSw; (try dsimp only at hSw); obtain ⟨s0, s1⟩ := hSw; go_simp; try with_reducible rfl)
              simp only [Act.put]
              refine wpAnyG_take (i := 7) (v := ?_) rfl (by kernel_rfl) (by kernel_rfl) (by kernel_rfl) (by kernel_rfl) (fun _ _ _ h => h) (Or.inl ⟨by rfl, ?_⟩) hS0 ?_; rotate_left; · (intro w hSw; (try dsimp only at hSw); obtain ⟨s0, s1⟩ := hSw; go_simp; try with_reducible rfl)
              simp only [Act.put]
              refine wpAnyG_take (i := 8) (v := ?_) rfl (by kernel_rfl) (by kernel_rfl) (by kernel_rfl) (by kernel_rfl) (fun _ _ _ h => h) (Or.inl ⟨by rfl, ?_⟩) hS0 ?_; rotate_left; · (intro w hSw; (try dsimp only at hSw); obtain ⟨s0, s1⟩ := hSw; go_simp; try with_reducible rfl)
              simp only [Act.put]
              refine wpAnyG_take (i := 9) (v := ?_) rfl (by kernel_rfl) (by kernel_rfl) (by kernel_rfl) (by kernel_rfl) (fun _ _ _ h => h) (Or.inl ⟨by rfl, ?_⟩) hS0 ?_; rotate_left; · (intro w hSw; (try dsimp only at hSw); obtain ⟨s0, s1⟩ := hSw; go_simp; try with_reducible rfl)
              simp only [Act.put]
              refine wpAnyG_one (i := 10) (by kernel_rfl) rfl (fun K hK => ?_)
              go_simp
              refine (hat _).mono ?_
              rintro e w5 ⟨rfl, hb5⟩
              have h5 := h4.below hb5
              have ha5 := ha4.below hb5 (Nat.le_of_lt hgl)
              have hB5 := hB4.below hb5 hB4.lt
              clear h4 ha4 hB4 hS0 c0 c1 hb5
              have c0 := h5.c0
              have c1 := h5.c1
              have hS0 : (fun w' : World => w'.cell? ⟨g, 0, none⟩ = some (.string ⟨s.toArray⟩) ∧ w'.cell? ⟨g, 1, none⟩ = some (.int .i64 k)) w5 := ⟨c0, c1⟩
              refine hK.out _ _ (fun _ => hS0) ?_
              clear hK K
              refine wpAnyG_take (i := 11) (v := ?_) rfl (by kernel_rfl) (by kernel_rfl) (by kernel_rfl) (by kernel_rfl) (fun _ _ _ h => h) (Or.inl ⟨by rfl, ?_⟩) hS0 ?_; rotate_left; · (intro w hSw; (try dsimp only at hSw); obtain ⟨s0, s1⟩ := hSw; go_simp; try with_reducible rfl)
              simp only [Act.put]
              refine wpAnyG_take (i := 12) (v := ?_) rfl (by kernel_rfl) (by kernel_rfl) (by kernel_rfl) (by kernel_rfl) (fun _ _ _ h => h) (Or.inl ⟨by rfl, ?_⟩) hS0 ?_; rotate_left; · (intro w hSw; (try dsimp only at hSw); obtain ⟨s0, s1⟩ := hSw; go_simp; try with_reducible rfl)
              simp only [Act.put]
              refine wpAnyG_take (i := 13) (v := ?_) rfl (by kernel_rfl) (by kernel_rfl) (by kernel_rfl) (by kernel_rfl) (fun _ _ _ h => h) (Or.inl ⟨by rfl, ?_⟩) hS0 ?_; rotate_left; · (intro w hSw; (try dsimp only at hSw); obtain ⟨s0, s1⟩ := hSw; go_simp; try with_reducible rfl)
              simp only [Act.put]
              refine wpAnyG_take (i := 14) (v := ?_) rfl (by kernel_rfl) (by kernel_rfl) (by kernel_rfl) (by kernel_rfl) (fun _ _ _ h => h) (Or.inl ⟨by rfl, ?_⟩) hS0 ?_; rotate_left; · (intro w hSw; (try dsimp only at hSw); obtain ⟨s0, s1⟩ := hSw; go_simp; try with_reducible rfl)
              simp only [Act.put]
              refine wpAnyG_one (i := 15) (by kernel_rfl) rfl (fun K hK => ?_)
              go_simp
              refine hK.out _ _ (fun h => absurd rfl h) ?_
              clear hK K
              refine wpAnyG_done (by kernel_rfl) ?_ _
              clear hS0 c0 c1 hat HA
              have d0 := hB5.cell 0
              have d1 := hB5.cell 1
              have d2 := hB5.cell 2
              have d3 := hB5.cell 3
              have d4 := hB5.cell 4
              have f0 := hB5.frozen 0
              have f1 := hB5.frozen 1
              have f2 := hB5.frozen 2
              have f3 := hB5.frozen 3
              have f4 := hB5.frozen 4
              simp at d0 d1 d2 d3 d4
              have hBf := ((((hB5.set_ 0 (.int .i64 2)).set_ 1 (.int .i64 (Jp.numV s i))).set_ 2 (.string ⟨#[]⟩)).set_ 3 (.slice none 0 0)).set_ 4 (.slice none 0 0)
              have haf := AftR.json (w1 := w) w5 b2 2 (Jp.numV s i) ⟨#[]⟩ (.slice none 0 0) (.slice none 0 0) (by omega) (by have := E2.out; omega) ha5
              have hrf := ((((Blk.far h5 (p := ⟨b2, 0, none⟩) (by simp; omega) (.int .i64 2)).far (p := ⟨b2, 1, none⟩) (by simp; omega) (.int .i64 (Jp.numV s i))).far (p := ⟨b2, 2, none⟩) (by simp; omega) (.string ⟨#[]⟩)).far (p := ⟨b2, 3, none⟩) (by simp; omega) (.slice none 0 0)).far (p := ⟨b2, 4, none⟩) (by simp; omega) (.slice none 0 0)
              generalize Jp.numV s i = V at *
              go_wp2_with fail
              exact bodyPost_ret (v := .agg #[.int .i64 2, .int .i64 V, .string ⟨#[]⟩, .slice none 0 0, .slice none 0 0]) (results_cell_row (hu := Tryd.underlying25) (h := rfl) (hp := rfl) (hg := hBf) (hd := rfl) (hi := by kernel_rfl)) rfl (RsP.ok (val := fun n : Int => .agg (jz 2 n [])) HR1.out haf hrf)
end Go.Proofs.YtgpjcjnimheglaaDoor
/-
  THE PLAIN LAW of WireBack: what is printed of a value is read as that value.
-/
namespace Go.Proofs.YtgpjcjnimheglaaDoor.Jp
open Go.Lib

/-- what follows does not go on with a number -/
def Stop (l : List UInt8) : Prop := ∀ c, l[0]? = some c → digB c = false
theorem drop_at {s t rest : List UInt8} {i : Nat} (h : s.drop i = t ++ rest) (k : Nat) (hk : k < t.length) : s[i + k]? = t[k]? := by
  rw [← List.getElem?_drop, h, List.getElem?_append_left hk]
theorem drop_next {s t rest : List UInt8} {i : Nat} (h : s.drop i = t ++ rest) : s.drop (i + t.length) = rest := by
  rw [← List.drop_drop, h, List.drop_left]
theorem drop_hd {s rest : List UInt8} {c : UInt8} {i : Nat} (h : s.drop i = c :: rest) : s[i]? = some c := by
  have := drop_at (t := [c]) (rest := rest) (by simpa using h) 0 (by simp)
  simpa using this
theorem drop_tl {s rest : List UInt8} {c : UInt8} {i : Nat} (h : s.drop i = c :: rest) : s.drop (i + 1) = rest := drop_next (t := [c]) (by simpa using h)

/-! ### texts -/
theorem quo_fin : ∀ i : Fin 256, (jquB (UInt8.ofNat i.val) = [UInt8.ofNat i.val] ∧ 32 ≤ (UInt8.ofNat i.val).toNat ∧ UInt8.ofNat i.val ≠ 34 ∧ UInt8.ofNat i.val ≠ 92) ∨
    (jquB (UInt8.ofNat i.val) = [92, (jquB (UInt8.ofNat i.val)).getD 1 0] ∧ simP ((jquB (UInt8.ofNat i.val)).getD 1 0) = some (UInt8.ofNat i.val)) ∨
    (jquB (UInt8.ofNat i.val) = [92, 117, 48, 48, (jquB (UInt8.ofNat i.val)).getD 4 0, (jquB (UInt8.ofNat i.val)).getD 5 0] ∧ hex4 [48, 48, (jquB (UInt8.ofNat i.val)).getD 4 0, (jquB (UInt8.ofNat i.val)).getD 5 0] = some (UInt8.ofNat i.val).toNat ∧ (UInt8.ofNat i.val).toNat < 32) := by decide +kernel
theorem quo_ways (c : UInt8) : (jquB c = [c] ∧ 32 ≤ c.toNat ∧ c ≠ 34 ∧ c ≠ 92) ∨ (∃ x, jquB c = [92, x] ∧ simP x = some c) ∨ (∃ x y, jquB c = [92, 117, 48, 48, x, y] ∧ hex4 [48, 48, x, y] = some c.toNat ∧ c.toNat < 32) := by
  have h := quo_fin ⟨c.toNat, c.toNat_lt⟩
  simp only [UInt8.ofNat_toNat] at h
  rcases h with h | h | h
  · exact .inl h
  · exact .inr (.inl ⟨_, h⟩)
  · exact .inr (.inr ⟨_, _, h⟩)
theorem enc_low_fin : ∀ i : Fin 32, Lx.enc i.val = [UInt8.ofNat i.val] := by decide +kernel
theorem enc_low (c : UInt8) (h : c.toNat < 32) : Lx.enc c.toNat = [c] := by
  have := enc_low_fin ⟨c.toNat, h⟩
  simpa using this
theorem hex4_app (a b c d : UInt8) (l : List UInt8) : hex4 (a :: b :: c :: d :: l) = hex4 [a, b, c, d] := rfl
theorem txt_quo (s rest : List UInt8) : ∀ (t : List UInt8) (f i : Nat) (acc : List UInt8), s.drop i = jquI t ++ 34 :: rest → t.length < f → txtF s f i acc = .ok (acc ++ t) (i + (jquI t).length + 1)
  | [], f, i, acc, h, hf => by
    obtain ⟨f, rfl⟩ : ∃ g, f = g + 1 := ⟨f - 1, by omega⟩
    have h0 : s[i]? = some 34 := drop_hd (rest := rest) (by simpa [jquI] using h)
    unfold txtF
    rw [h0]
    simp only
    rw [if_neg (by decide), if_pos (by trivial)]
    simp [jquI]
  | c :: t, f, i, acc, h, hf => by
    obtain ⟨f, rfl⟩ : ∃ g, f = g + 1 := ⟨f - 1, by omega⟩
    have e : jquI (c :: t) = jquB c ++ jquI t := by simp [jquI]
    rw [e, List.append_assoc] at h
    have hd := drop_next h
    have ih := txt_quo s rest t f (i + (jquB c).length) (acc ++ [c]) hd (by simp only [List.length_cons] at hf; omega)
    have key : txtF s (f + 1) i acc = txtF s f (i + (jquB c).length) (acc ++ [c]) := by
      rcases quo_ways c with ⟨hq, h32, n34, n92⟩ | ⟨x, hq, hs⟩ | ⟨x, y, hq, h4, hlt⟩
      · have h0 : s[i]? = some c := drop_hd (by rw [h, hq]; rfl)
        rw [hq]
        conv => lhs; unfold txtF
        rw [h0]
        simp only
        rw [if_neg (by omega), if_neg n34, if_neg n92]
        rfl
      · have h0 : s[i]? = some 92 := drop_hd (by rw [h, hq]; rfl)
        have h1 : s[i + 1]? = some x := by rw [drop_at h 1 (by rw [hq]; simp), hq]; rfl
        have he : escP s i = .ok [c] (i + 2) := by unfold escP; rw [h1]; simp only [hs]
        rw [hq]
        conv => lhs; unfold txtF
        rw [h0]
        simp only [he]
        rw [if_neg (by decide), if_neg (by decide), if_pos (by trivial)]
        rfl
      · have h0 : s[i]? = some 92 := drop_hd (by rw [h, hq]; rfl)
        have h1 : s[i + 1]? = some 117 := by rw [drop_at h 1 (by rw [hq]; simp), hq]; rfl
        have hdd : s.drop (i + 2) = 48 :: 48 :: x :: y :: (jquI t ++ 34 :: rest) := drop_next (t := [92, 117]) (by rw [h, hq]; rfl)
        have hf4 : fourP s (i + 2) = some c.toNat := by unfold fourP; rw [hdd, hex4_app]; exact h4
        have he : escP s i = .ok [c] (i + 6) := by
          unfold escP
          rw [h1]
          simp only
          rw [show simP 117 = none from by decide]
          simp only [if_true]
          unfold uniP
          rw [hf4]
          simp only
          rw [if_neg (by omega), if_pos (by omega), enc_low c hlt]
        rw [hq]
        conv => lhs; unfold txtF
        rw [h0]
        simp only [he]
        rw [if_neg (by decide), if_neg (by decide), if_pos (by trivial)]
        rfl
    rw [key, ih, e, List.length_append]
    simp only [List.append_assoc, List.singleton_append]
    congr 1
    omega
theorem text_quo (s rest t : List UInt8) (i : Nat) (h : s.drop i = jquM t ++ rest) : textP s i = .ok t (i + (jquM t).length) := by
  have h' : s.drop i = 34 :: (jquI t ++ 34 :: rest) := by rw [h]; simp [jquM]
  have h0 := drop_hd h'
  have hsk := get_skip_not s i 34 h0 (by decide)
  have hn : needP s 34 i = .ok () (i + 1) := by unfold needP; rw [hsk, if_pos h0]
  unfold textP
  rw [hn]
  simp only
  unfold txtP
  have hl : t.length < s.length + 1 := by
    have h1 := congrArg List.length h'
    simp only [List.length_drop, List.length_cons, List.length_append] at h1
    have h2 : t.length ≤ (jquI t).length := by
      clear h h' h0 hsk hn h1
      induction t with
      | nil => simp
      | cons c t ih =>
        have e : jquI (c :: t) = jquB c ++ jquI t := by simp [jquI]
        have hc : 1 ≤ (jquB c).length := by
          rcases quo_ways c with ⟨hq, _⟩ | ⟨x, hq, _⟩ | ⟨x, y, hq, _⟩ <;> rw [hq] <;> simp
        rw [e, List.length_append, List.length_cons]; omega
    omega
  rw [txt_quo s rest t _ (i + 1) [] (drop_tl h') hl]
  simp only [jquM, List.nil_append, List.length_cons, List.length_append, List.length_nil]
  congr 1
  omega

/-! ### numbers -/
theorem dec_dig (u : Nat) : ∀ b ∈ decDigits u, digB b = true := by
  induction u using Nat.strongRecOn with
  | _ u ih =>
    have key : ∀ d, d < 10 → digB (UInt8.ofNat (48 + d)) = true := fun d hd => by
      have h : ∀ i : Fin 10, digB (UInt8.ofNat (48 + i.val)) = true := by decide +kernel
      exact h ⟨d, hd⟩
    intro b hb
    by_cases h : u < 10
    · rw [decDigits, dif_pos h] at hb
      rw [List.mem_singleton] at hb; subst hb; exact key u h
    · rw [decDigits, dif_neg h] at hb
      simp only [List.mem_append, List.mem_singleton] at hb
      rcases hb with hb | hb
      · exact ih (u / 10) (by omega) b hb
      · subst hb; exact key _ (by omega)
theorem dec_valN (u : Nat) : valN (decDigits u) = u := by
  induction u using Nat.strongRecOn with
  | _ u ih =>
    have key : ∀ d, d < 10 → (UInt8.ofNat (48 + d)).toNat - 48 = d := fun d hd => by
      have h : ∀ i : Fin 10, (UInt8.ofNat (48 + i.val)).toNat - 48 = i.val := by decide +kernel
      exact h ⟨d, hd⟩
    by_cases h : u < 10
    · rw [decDigits, dif_pos h]
      simp only [valN, List.foldl_cons, List.foldl_nil, key u h]
      omega
    · have := ih (u / 10) (by omega)
      rw [decDigits, dif_neg h]
      unfold valN at this ⊢
      rw [List.foldl_append, this]
      simp only [List.foldl_cons, List.foldl_nil, key (u % 10) (by omega)]
      omega
theorem dec_head (u : Nat) (h1 : 1 ≤ u) : (decDigits u)[0]? ≠ some 48 := by
  induction u using Nat.strongRecOn with
  | _ u ih =>
    have key : ∀ d, d < 10 → 1 ≤ d → (UInt8.ofNat (48 + d)) ≠ 48 := fun d hd => by
      have h : ∀ i : Fin 10, 1 ≤ i.val → UInt8.ofNat (48 + i.val) ≠ 48 := by decide +kernel
      exact h ⟨d, hd⟩
    by_cases h : u < 10
    · rw [decDigits, dif_pos h]
      simp only [List.getElem?_cons_zero, ne_eq, Option.some.injEq]
      exact key u h h1
    · rw [decDigits, dif_neg h]
      have hp := nDigits_pos (u / 10)
      rw [List.getElem?_append_left (by rw [decDigits_length]; omega)]
      exact ih (u / 10) (by omega) (by omega)
theorem nd_le : ∀ k u, u < 10 ^ (k + 1) → nDigits u ≤ k + 1
  | 0, u, h => by rw [nDigits_small (by simpa using h)]; omega
  | k + 1, u, h => by
    by_cases hu : u < 10
    · rw [nDigits_small hu]; omega
    · rw [nDigits_big hu]
      have := nd_le k (u / 10) (by rw [Nat.pow_succ] at h; omega)
      omega
theorem dec_le (u : Nat) (h : u ≤ 999999999999999999) : (decDigits u).length ≤ 18 := by
  rw [decDigits_length]
  exact nd_le 17 u (by have e : (10 : Nat) ^ (17 + 1) = 1000000000000000000 := by decide
                       omega)
theorem take_digs (l rest : List UInt8) (hl : ∀ b ∈ l, digB b = true) (hr : Stop rest) : (l ++ rest).takeWhile digB = l := by
  rw [List.takeWhile_append_of_pos hl]
  cases rest with
  | nil => simp
  | cons c r => rw [List.takeWhile_cons_of_neg (by have := hr c rfl; simp [this])]; simp
theorem num_dec (s rest : List UInt8) (n : Int) (i : Nat) (h1 : -999999999999999999 ≤ n) (h2 : n ≤ 999999999999999999) (h : s.drop i = itoa n ++ rest) (hr : Stop rest) : numP s i = .ok n (i + (itoa n).length) := by
  have go : ∀ (u p : Nat), u ≤ 999999999999999999 → s.drop p = decDigits u ++ rest → (s.drop p).takeWhile digB = decDigits u ∧ digP s p = p + (decDigits u).length ∧ s[p]? = (decDigits u)[0]? ∧ (1 < (decDigits u).length → s[p]? ≠ some 48) ∧ 1 ≤ (decDigits u).length ∧ (decDigits u).length ≤ 18 := fun u p hu hp => by
    have ht := take_digs (decDigits u) rest (dec_dig u) hr
    have hl : 1 ≤ (decDigits u).length := by rw [decDigits_length]; exact nDigits_pos u
    have hh : s[p]? = (decDigits u)[0]? := by have := drop_at hp 0 (by omega); simpa using this
    refine ⟨by rw [hp, ht], by unfold digP; rw [hp, ht], hh, fun h1 => ?_, hl, dec_le u hu⟩
    rw [hh]
    refine dec_head u ?_
    rcases Nat.eq_zero_or_pos u with h0 | h0
    · subst h0; rw [decDigits, dif_pos (by omega)] at h1; simp at h1
    · exact h0
  unfold itoa at h ⊢
  by_cases hn : n < 0
  · rw [if_pos hn] at h ⊢
    have h0 : s[i]? = some 45 := drop_hd (rest := decDigits n.natAbs ++ rest) (by simpa using h)
    have hd : s.drop (i + 1) = decDigits n.natAbs ++ rest := drop_tl (by simpa using h)
    obtain ⟨g1, g2, g3, g4, g5, g6⟩ := go n.natAbs (i + 1) (by omega) hd
    have hf : firstP s i = i + 1 := by unfold firstP; rw [if_pos h0]
    unfold numP
    rw [hf, g2, if_neg (by omega), if_neg (by
      rintro (h | ⟨h, h'⟩)
      · omega
      · exact g4 (by omega) h')]
    unfold numV
    rw [if_pos h0, g1, dec_valN]
    simp only [List.length_cons]
    congr 1 <;> omega
  · rw [if_neg hn] at h ⊢
    obtain ⟨g1, g2, g3, g4, g5, g6⟩ := go n.toNat i (by omega) h
    have h0 : ¬ s[i]? = some 45 := fun e => by
      rw [g3] at e
      have hm := List.mem_of_getElem? e
      have := dec_dig n.toNat 45 hm
      revert this; decide
    have hf : firstP s i = i := by unfold firstP; rw [if_neg h0]
    unfold numP
    rw [hf, g2, if_neg (by omega), if_neg (by
      rintro (h | ⟨h, h'⟩)
      · omega
      · exact g4 (by omega) h')]
    unfold numV
    rw [if_neg h0, g1, dec_valN]
    congr 1 <;> omega
theorem itoa_head (n : Int) : ∃ c r, itoa n = c :: r ∧ (c = 45 ∨ digB c = true) := by
  unfold itoa
  split
  · exact ⟨45, _, rfl, .inl rfl⟩
  · have hp := nDigits_pos n.toNat
    cases hd : decDigits n.toNat with
    | nil => have := decDigits_length n.toNat; rw [hd] at this; simp at this; omega
    | cons c r => exact ⟨c, r, rfl, .inr (dec_dig n.toNat c (by rw [hd]; simp))⟩
end Go.Proofs.YtgpjcjnimheglaaDoor.Jp
