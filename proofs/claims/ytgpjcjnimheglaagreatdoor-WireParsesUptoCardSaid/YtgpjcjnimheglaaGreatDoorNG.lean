/-
  WALKS of package wire's reader: text.
-/
import Derived.Test.YtgpjcjnimheglaaGreatDoorNF
import Derived.Test.YtgpjcjnimheglaaGreatDoorBB
import Derived.StillTailTactics
namespace Go.Proofs.YtgpjcjnimheglaaGreatDoor
open Go.RowKit

theorem AftR.past {g B : Nat} {w w1 w' : World} (h : AftR g w w1) (hb : Below B w1 w') (hg : g ≤ B) (hB : w.heap.size ≤ B) : AftR g w w' :=
  ⟨h.bel.trans (hb.mono hg), fun k hk hn => (hb.block k (by omega)).trans (h.oth k hk hn)⟩
theorem RdrAt.past {g B : Nat} {s : Bs} {i : Nat} {w w' : World} (h : RdrAt w g s i) (hb : Below B w w') (hg : g < B) : RdrAt w' g s i := Blk.below h hb hg
theorem IsB.aft {B b g : Nat} {l : Bs} {w w' : World} (h : IsB B b l w) (ha : AftR g w w') (hg : g < B) : IsB B b l w' := h.keep fun k hk hkB => ha.oth k hk (by omega)
theorem IsB.moved {B b g : Nat} {l : Bs} {w : World} (h : IsB B b l w) (hg : g < B) (u : Value) : IsB B b l (w.setCell ⟨g, 1, none⟩ u) := h.keep fun k _ hkB => Below.heap_setCell _ _ _ _ (by simp; omega)

set_option maxRecDepth 100000 in
theorem jenc_len (c : Nat) : (Lx.enc c).length ≤ 4 := by
  unfold Lx.enc Utf8.encode
  generalize (if Utf8.valid (c : Int) = true then (c : Int).toNat else Utf8.runeError) = n
  by_cases h1 : n < 0x80
  · simp only [if_pos h1]; simp
  · by_cases h2 : n < 0x800
    · simp only [if_neg h1, if_pos h2]; simp
    · by_cases h3 : n < 0x10000
      · simp only [if_neg h1, if_neg h2, if_pos h3]; simp
      · simp only [if_neg h1, if_neg h2, if_neg h3]; simp
namespace Jp
theorem low_len {s : List UInt8} {i n k : Nat} {b : List UInt8} (h : lowP s i n = .ok b k) : b.length ≤ 4 := by
  unfold lowP at h
  split at h
  · split at h
    · split at h
      · injection h with h1 h2; rw [← h1]; exact jenc_len _
      · cases h
    · cases h
  · cases h
theorem uni_len {s : List UInt8} {i k : Nat} {b : List UInt8} (h : uniP s i = .ok b k) : b.length ≤ 4 := by
  unfold uniP at h
  split at h
  · cases h
  · split at h
    · cases h
    · split at h
      · injection h with h1 h2; rw [← h1]; exact jenc_len _
      · exact low_len h
theorem esc_len {s : List UInt8} {i k : Nat} {b : List UInt8} (h : escP s i = .ok b k) : b.length ≤ 4 := by
  unfold escP at h
  split at h
  · cases h
  · split at h
    · injection h with h1 h2; rw [← h1]; simp
    · split at h
      · exact uni_len h
      · cases h
end Jp

set_option maxHeartbeats 4000000 in
set_option maxRecDepth 100000 in
/-- the rest of a text -/
theorem jtext_walk (g : Nat) (s : Bs) (i : Nat) (w : World) (h : RdrAt w g s i) (hi : i ≤ s.length) (hl : s.length ≤ 16777216) :
    Calls Tryz.prog 84 #[.pointer (some ⟨g, 0, none⟩)] w (RsP g s w (fun t : Bs => .string ⟨t.toArray⟩) (Jp.textP s i)) := by
  have hnd := jneed_walk g s i 34 w h hi hl
  have hna := Jp.need_ahead s 34 i hi
  have hgl := h.lt
  generalize hR : Jp.textP s i = R
  have hR2 : (match Jp.needP s 34 i with | .bad p e => Jp.Rs.bad p e | .ok _ k => Jp.txtP s k) = R := hR
  clear hR
  generalize Jp.needP s 34 i = N at *
  cases N with
  | bad p er =>
    have HR := Lib.hid hR2.symm
    clear hR2
    go_enter Tryz.func84, Tryz.ntmps84
    go_wp2_with fail
    refine hnd.mono ?_
    intro e w1 h1
    obtain ⟨ha1, rfl⟩ := h1.is_bad
    go_wp2_with fail
    exact ⟨rfl, RsP.bad HR.out ha1⟩
  | ok u k =>
    obtain ⟨hk1, hk2⟩ := hna
    have HR : Hid (R = Jp.txtF s (s.length + 1) k []) := hR2.symm
    clear hR2
    go_enter Tryz.func84, Tryz.ntmps84
    go_wp2_with fail
    refine hnd.mono ?_
    clear hnd
    intro e w1 h1
    obtain ⟨ha1, rfl, hr1⟩ := h1.is_ok
    clear h1
    go_upto_block 0 with fail
    have hI1 : IsB w1.heap.size w1.heap.size [] (w1.alloc (.cells #[.pointer none, .slice none 0 0] 103)) := IsB.fresh w1
    have hbA : Below w1.heap.size w1 (w1.alloc (.cells #[.pointer none, .slice none 0 0] 103)) := (Below.refl _ _).alloc (Nat.le_refl _) _
    have hr2 := hr1.below hbA
    have ha2 := ha1.below hbA (Nat.le_of_lt hgl)
    obtain ⟨bb, ebb⟩ : ∃ b, b = w1.heap.size := ⟨_, rfl⟩
    have hwb : w.heap.size ≤ bb := by have := ha1.bel.size; omega
    have hgb : g < bb := by omega
    rw [← ebb] at hI1 ⊢
    clear ebb hbA hr1 ha1
    generalize w1.alloc (.cells #[.pointer none, .slice none 0 0] 103) = w2 at *
    go_wp2_with fail
    go_loopg [] (s.length - k) (fun q wr => ∃ m f acc, s.length - m ≤ q ∧ m ≤ s.length ∧ RdrAt wr g s m ∧ AftR g w wr ∧ IsB bb bb acc wr ∧ Hid (R = Jp.txtF s (f + 1) m acc) ∧ Hid (s.length + 1 ≤ f + 1 + m) ∧ acc.length ≤ 4 * m)
    case atStart => exact ⟨k, s.length, [], Nat.le_refl _, hk2, hr2, ha2, hI1, HR.out, by show _ ≤ _; omega, by simp⟩
    case round =>
      clear hI1 hr2 ha2 HR
      obtain ⟨m, f, acc, hq, hm, hr, ha, hI, HR, HF, hacc⟩ := hrel
      have c0 := hr.c0
      have c1 := hr.c1
      have f1 := hr.f1
      have j1 : (0 : Int) ≤ (m : Int) := by omega
      have HR2 : Hid (R = match s[m]? with | none => .bad m 3 | some c => if c.toNat < 32 then .bad m 3 else if c = 34 then .ok acc (m + 1) else if c = 92 then (match Jp.escP s m with | .bad p e => .bad p e | .ok b k => Jp.txtF s f k (acc ++ b)) else Jp.txtF s f (m + 1) (acc ++ [c])) := HR.out
      clear HR
      by_cases hlt : m < s.length
      · have j2 : (m : Int) < (s.length : Int) := by omega
        have d1 : ((m : Int) == (s.length : Int)) = false := by simp; omega
        have hg : s[m]? = some s[m] := List.getElem?_eq_getElem hlt
        have hi34 := fun w (h : RdrAt w g s m) => jis_walk g s m 34 w h hm hl
        have hi92 := fun w (h : RdrAt w g s m) => jis_walk g s m 92 w h hm hl
        simp only [hg, Option.some.injEq] at hi34 hi92
        by_cases g32 : s[m].toNat < 32
        · have d2 : decide ((((⟨s.toArray⟩ : ByteArray)[m]'(by rw [mk_size]; exact hlt)).toNat : Int) < 32) = true := decide_eq_true (by show ((s[m].toNat : Nat) : Int) < 32; omega)
          have HB : Hid (R = .bad m 3) := by show _ = _; rw [HR2.out, hg]; simp only; rw [if_pos g32]
          clear HR2 hg g32
          go_wp2_with fail
          go_quiet (fail)
          go_wp2_with fail
          refine (fail_walk m 3 _).mono ?_
          rintro e w3 ⟨rfl, rfl⟩
          go_wp2_with fail
          exact ⟨rfl, RsP.bad HB.out (ha.drewN _)⟩
        · have d2 : decide ((((⟨s.toArray⟩ : ByteArray)[m]'(by rw [mk_size]; exact hlt)).toNat : Int) < 32) = false := decide_eq_false (by show ¬ ((s[m].toNat : Nat) : Int) < 32; omega)
          have HC : Hid (R = if s[m] = 34 then .ok acc (m + 1) else if s[m] = 92 then (match Jp.escP s m with | .bad p e => .bad p e | .ok b k => Jp.txtF s f k (acc ++ b)) else Jp.txtF s f (m + 1) (acc ++ [s[m]])) := by
            show _ = _
            rw [HR2.out, hg]
            simp only
            rw [if_neg g32]
          have H34 : Hid (decide (s[m] = 34) = true → R = .ok acc (m + 1)) := fun h => by rw [HC.out, if_pos (of_decide_eq_true h)]
          have H92 : Hid (decide (s[m] = 34) = false → decide (s[m] = 92) = true → R = match Jp.escP s m with | .bad p e => .bad p e | .ok b k => Jp.txtF s f k (acc ++ b)) := fun h h' => by rw [HC.out, if_neg (of_decide_eq_false h), if_pos (of_decide_eq_true h')]
          have Hdf : Hid (decide (s[m] = 34) = false → decide (s[m] = 92) = false → R = Jp.txtF s f (m + 1) (acc ++ [s[m]])) := fun h h' => by rw [HC.out, if_neg (of_decide_eq_false h), if_neg (of_decide_eq_false h')]
          have hF0 : 0 < f := by have := HF.out; omega
          clear HR2 HC hg g32
          generalize decide (s[m] = 34) = q34 at *
          generalize decide (s[m] = 92) = q92 at *
          go_wp2_with fail
          go_quiet (fail)
          have hr3 := hr.drewN nq
          have ha3 := ha.drewN nq
          have hI3 := hI.drewN nq
          clear hr ha hI c0 c1 f1
          generalize wr.drewN nq = w3 at *
          go_wp2_with fail
          refine (hi34 w3 hr3).mono ?_
          rintro e w4 ⟨rfl, n4, rfl⟩
          have hr4 := hr3.drewN n4
          have ha4 := ha3.drewN n4
          have hI4 := hI3.drewN n4
          clear hr3 ha3 hI3
          generalize w3.drewN n4 = w4 at *
          have c0 := hr4.c0
          have c1 := hr4.c1
          have f1 := hr4.f1
          have hwz : bb ≤ w4.heap.size := by have := hI4.lt; omega
          cases q34 with
          | true =>
            have HB := Lib.hid (H34.out rfl)
            clear H34 H92 Hdf
            have hr5 := hr4.move (m + 1)
            have ha5 := ha4.set 1 (.int .i64 ((m + 1 : Nat) : Int))
            have hI5 := hI4.moved hgb (.int .i64 ((m + 1 : Nat) : Int))
            have hst := bString_walk hI5 (by simp; omega)
            go_wp2_with fail
            refine hst.mono ?_
            rintro e w5 ⟨rfl, hb5⟩
            go_wp2_with fail
            go_ret
            exact RsP.ok (val := fun t : Bs => Value.string ⟨t.toArray⟩) HB.out (ha5.past hb5 (Nat.le_of_lt hgb) hwb) (hr5.past hb5 hgb)
          | false =>
            go_wp2_with fail
            refine (hi92 w4 hr4).mono ?_
            rintro e w5 ⟨rfl, n5, rfl⟩
            have hr5 := hr4.drewN n5
            have ha5 := ha4.drewN n5
            have hI5 := hI4.drewN n5
            clear hr4 ha4 hI4 c0 c1 f1 hwz
            generalize w4.drewN n5 = w5 at *
            have c0 := hr5.c0
            have c1 := hr5.c1
            have f1 := hr5.f1
            have hwz : bb ≤ w5.heap.size := by have := hI5.lt; omega
            cases q92 with
            | true =>
              have HB := Lib.hid (H92.out (by first | rfl | trivial) (by first | rfl | trivial))
              clear H34 H92 Hdf
              have hes := jesc_walk g s m w5 hr5 hlt hl
              have hah := Jp.esc_ahead s m hlt
              have hel : ∀ b k, Jp.escP s m = .ok b k → b.length ≤ 4 := fun b k h => Jp.esc_len h
              generalize Jp.escP s m = E at *
              cases E with
              | bad p er =>
                go_wp2_with fail
                refine hes.mono ?_
                intro e w6 h6
                obtain ⟨ha6, rfl⟩ := h6.is_bad
                go_wp2_with fail
                exact ⟨rfl, RsP.bad HB.out (ha5.trans ha6)⟩
              | ok b k' =>
                have hbl := hel b k' rfl
                obtain ⟨hm1, hm2⟩ := hah
                go_wp2_with fail
                refine hes.mono ?_
                clear hes
                intro e w6 h6
                obtain ⟨ha6, rfl, hr6⟩ := h6.is_ok
                clear h6
                have hI6 := hI5.aft ha6 hgb
                have ha6 := ha5.trans ha6
                have hwz6 : bb ≤ w6.heap.size := by have := hI6.lt; omega
                go_wp2_with fail
                refine (writeStr_walk hI6 b (by omega) hwz6).mono ?_
                rintro e w7 ⟨rfl, hI7, hb7, -⟩
                go_wp2_with fail
                go_roundg (s.length - k')
                case rel =>
                  obtain ⟨f', rfl⟩ : ∃ f', f = f' + 1 := ⟨f - 1, by omega⟩
                  exact ⟨k', f', acc ++ b, Nat.le_refl _, hm2, hr6.past hb7 hgb, ha6.past hb7 (Nat.le_of_lt hgb) hwb, hI7, HB.out, by show _ ≤ _; have := HF.out; omega, by rw [List.length_append]; omega⟩
                case measure => omega
            | false =>
              have HB := Lib.hid (Hdf.out (by first | rfl | trivial) (by first | rfl | trivial))
              clear H34 H92 Hdf
              go_wp2_with fail
              go_still_tail 9, (by kernel_rfl)
              change wpList _ _ _ _ _ w5.drew
              have hr6 := hr5.drew
              have ha6 := ha5.drew
              have hI6 := hI5.drew
              have hwz6 : bb ≤ w5.drew.heap.size := hwz
              have hwb6 := writeByte_walk hI6 s[m] (by omega) hwz6
              clear hr5 ha5 hI5 c0 c1 f1 hwz
              generalize w5.drew = w6 at *
              go_wp2_with fail
              refine hwb6.mono ?_
              clear hwb6
              rintro e w7 ⟨rfl, hI7, hb7, -⟩
              have hr7 := hr6.past hb7 hgb
              have ha7 := ha6.past hb7 (Nat.le_of_lt hgb) hwb
              have c1 := hr7.c1
              have f1 := hr7.f1
              have hr8 := hr7.move (m + 1)
              have ha8 := ha7.set 1 (.int .i64 ((m + 1 : Nat) : Int))
              have hI8 := hI7.moved hgb (.int .i64 ((m + 1 : Nat) : Int))
              go_wp2_with fail
              go_roundg (s.length - (m + 1))
              case rel =>
                obtain ⟨f', rfl⟩ : ∃ f', f = f' + 1 := ⟨f - 1, by omega⟩
                exact ⟨m + 1, f', acc ++ [s[m]], Nat.le_refl _, by omega, hr8, ha8, hI8, HB.out, by show _ ≤ _; have := HF.out; omega, by rw [List.length_append]; simp; omega⟩
              case measure => omega
      · obtain rfl : m = s.length := by omega
        have HB : Hid (R = .bad s.length 3) := by show _ = _; rw [HR2.out, List.getElem?_eq_none (Nat.le_refl _)]
        have d1 : ((s.length : Int) == (s.length : Int)) = true := by simp
        clear HR2
        go_wp2_with fail
        go_quiet (fail)
        go_wp2_with fail
        refine (fail_walk s.length 3 _).mono ?_
        rintro e w3 ⟨rfl, rfl⟩
        go_wp2_with fail
        exact ⟨rfl, RsP.bad HB.out (ha.drewN _)⟩
end Go.Proofs.YtgpjcjnimheglaaGreatDoor
