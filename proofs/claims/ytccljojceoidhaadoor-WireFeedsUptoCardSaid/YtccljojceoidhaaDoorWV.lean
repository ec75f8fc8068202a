/-
  THE WALK of the law WireFeeds.
-/
import Derived.Test.YtccljojceoidhaaDoorWW
import Derived.Test.YtccljojceoidhaaDoorWK
import Derived.Test.YtccljojceoidhaaDoorToldQ
namespace Go.Proofs.YtccljojceoidhaaDoor
open Go.RowKit

namespace Wire
open Go.Lib
theorem refF_err : ∀ (n : Nat) (s : List UInt8) (size : Int) (o : List (List UInt8)), (refF n s size o).2 = 0 ∨ (refF n s size o).2 = 3 ∨ (refF n s size o).2 = 12
  | 0, _, _, _ => .inl rfl
  | n + 1, s, size, o => by
    simp only [refF]
    split
    · simp only; split
      · exact .inr (.inr rfl)
      · exact .inl rfl
    · split
      · exact .inr (.inr rfl)
      · split
        · split
          · exact .inr (.inl rfl)
          · exact refF_err n _ _ _
        · split
          · exact .inr (.inl rfl)
          · split
            · exact .inl rfl
            · exact refF_err n _ _ _
theorem refF_count : ∀ (n : Nat) (s : List UInt8) (size : Int) (o : List (List UInt8)), (refF n s size o).1.length ≤ o.length + s.length
  | 0, _, _, _ => by simp [refF]
  | n + 1, s, size, o => by
    simp only [refF]
    cases hc : (cut s crlf).2.2 with
    | false => simp
    | true =>
      have hl := cut_len s hc
      rw [if_neg (by simp)]
      split
      · simp
      · split
        · split
          · simp
          · have := refF_count n (cut s crlf).2.1 (if 0 ≤ lengthM (cut s crlf).1 then lengthM (cut s crlf).1 else size) o
            omega
        · split
          · simp
          · split
            · simp
            · have := refF_count n ((cut s crlf).2.1.drop size.toNat) (-1) (o ++ [(cut s crlf).2.1.take size.toNat])
              rw [List.length_append, List.length_drop] at this
              simp only [List.length_singleton] at this
              omega
theorem step_rest (r : RS) : (stepM r).1.rest.length ≤ r.rest.length := by
  unfold stepM
  split
  · split
    · exact Nat.le_refl _
    · simp
  · split
    · exact Nat.le_refl _
    · rename_i h
      have := cut_len r.rest (by simpa using h)
      simp only [lineM_rest]
      omega
theorem run_rest : ∀ (n : Nat) (r : RS) (o : List (List UInt8)), (runM n r o).1.rest.length ≤ r.rest.length
  | 0, _, _ => Nat.le_refl _
  | n + 1, r, o => by
    simp only [runM]
    split
    · exact Nat.le_trans (run_rest n _ _) (step_rest r)
    · exact step_rest r
theorem feed_rest (r : RS) (x : List UInt8) : (feedM r x).1.rest.length ≤ r.rest.length + x.length := by
  unfold feedM
  split
  · have := run_rest (phi { r with rest := r.rest ++ x } + 1) { r with rest := r.rest ++ x } []
    simpa using this
  · simp
end Wire

theorem errI_nat (n : Nat) : errI (n : Int) = errV n := by
  unfold errI
  cases n with
  | zero => rfl
  | succ n => rw [if_neg (by omega)]; rfl

/-- where a reader is to which S has been fed -/
def FedAt (S : Bs) (r : Wire.RS) (seen : Nat) : Prop :=
  (r.err = 0 → r = (Wire.allM S).1 ∧ r.good ∧ seen = (Wire.allM S).2.length) ∧ seen ≤ (Wire.allM S).2.length ∧ (r.err = 0 ∨ r.err = 3 ∨ r.err = 12) ∧ r.rest.length ≤ S.length
theorem fed0 : FedAt [] Wire.r0 0 := by
  have h : Wire.allM [] = (Wire.r0, []) := by
    rw [Wire.all_run, Wire.runM_stop]
    · rw [show Wire.stepM { Wire.r0 with rest := Wire.r0.rest ++ [] } = (Wire.r0, none, false) from rfl]
    · rfl
  refine ⟨fun _ => ⟨by rw [h], Wire.r0_good, by rw [h]; rfl⟩, Nat.zero_le _, .inl rfl, Nat.le_refl _⟩
theorem fed_ok {S x : Bs} {r : Wire.RS} {seen : Nat} (h : FedAt S r seen) (he : r.err = 0) :
    Wire.allM (S ++ x) = ((Wire.feedM r x).1, (Wire.allM S).2 ++ (Wire.feedM r x).2) ∧ FedAt (S ++ x) (Wire.feedM r x).1 (Wire.allM (S ++ x)).2.length := by
  obtain ⟨h1, h2, h3, h4⟩ := h
  obtain ⟨k1, k2, k3⟩ := h1 he
  have ha := (Wire.feed_all S x (by rw [← k1]; exact he)).1
  rw [← k1] at ha
  refine ⟨ha, fun he2 => ⟨by rw [ha], ?_, rfl⟩, Nat.le_refl _, ?_, by have := Wire.feed_rest r x; rw [List.length_append]; omega⟩
  · have := (Wire.feed_all (S ++ x) [] (by rw [ha]; exact he2)).2
    rw [ha] at this
    exact this
  · have := Wire.refF_err ((S ++ x).length + 1) (S ++ x) (-1) []
    have e : (Wire.framesM (S ++ x)).2 = (Wire.feedM r x).1.err := by rw [Wire.frames_all, ha]
    rw [← e]; exact this
theorem fed_bad {S x : Bs} {r : Wire.RS} {seen : Nat} (h : FedAt S r seen) (he : r.err ≠ 0) : Wire.feedM r x = (r, []) ∧ FedAt (S ++ x) r seen ∧ seen ≤ (Wire.allM (S ++ x)).2.length := by
  obtain ⟨h1, h2, h3, h4⟩ := h
  have hle := Nat.le_trans h2 (Wire.all_pre S x)
  exact ⟨by unfold Wire.feedM; rw [if_neg he], ⟨fun h => absurd h he, hle, h3, by rw [List.length_append]; omega⟩, hle⟩
theorem count_le (S : Bs) : (Wire.allM S).2.length ≤ S.length := by
  have := Wire.refF_count (S.length + 1) S (-1) []
  have e : (Wire.framesM S).1 = (Wire.allM S).2 := by rw [Wire.frames_all]
  rw [← e]
  unfold Wire.framesM
  simpa using this
theorem flat_take (P : List Bs) (k : Nat) : (P.take k).flatten.length ≤ P.flatten.length := by
  conv => rhs; rw [← List.take_append_drop k P, List.flatten_append, List.length_append]
  omega

set_option maxHeartbeats 2000000 in
set_option maxRecDepth 100000 in
theorem wireFeeds_walk (T : ByteArray) (A2 : Option Addr) (c2 : Nat) (cuts : List Int) (w : World) (m : Int) (hM : MaxL w m) (hgE : ErrT w)
    (R1 : Rd w w.heap.size 1 A2 cuts.length (intV cuts)) (hn : T.size ≤ 1048576) (hc : cuts.length ≤ 1048576) :
    Calls Tryd.prog 6 #[.string T, .slice A2 cuts.length c2] w fun e w' => e = .returned (.bool true) ∧ Below w.heap.size w w' := by
  obtain ⟨s, rfl⟩ : ∃ s : Bs, T = ⟨s.toArray⟩ := ⟨T.data.toList, (Lib.mk_data T).symm⟩
  have hgb := hM.lt
  have hge := hgE.lt
  have hsl : s.length ≤ 1048576 := by have := mk_size s; omega
  clear hn
  have hcut := fun (w1 : World) (hb1 : Below w.heap.size w w1) => cut_walk s A2 c2 cuts w1 ((R1.below hb1).more hb1.size) (by omega) hc
  have hPf := Wire.cutsM_flat s cuts 0 (Nat.zero_le _)
  have hPn := Wire.cutsM_ne s cuts 0
  have hPl := cuts_len s cuts 0
  generalize Wire.cutsM s 0 cuts = P at *
  rw [List.drop_zero] at hPf
  have Hcut := Lib.hid hcut
  have HPf := Lib.hid hPf
  clear hcut hPf
  go_enter Tryd.func6, Tryd.ntmps6
  go_wp2_with fail
  refine (wnew_walk w).mono ?_
  rintro e w' ⟨rfl, rfl⟩
  obtain ⟨p, hp⟩ : ∃ p, p = w.heap.size := ⟨_, rfl⟩
  have hP1 : Blk (w.alloc (.cells #[.string ⟨#[]⟩, .int .i64 (-1), .bool false, .int .i64 0] 75)) p 75 (rdC Wire.r0) := by rw [hp]; exact Blk.new _ _ _
  have hb1 : Below w.heap.size w (w.alloc (.cells #[.string ⟨#[]⟩, .int .i64 (-1), .bool false, .int .i64 0] 75)) := (Below.refl _ _).alloc (Nat.le_refl _) _
  have hpb : w.heap.size ≤ p := by omega
  rw [← hp]
  generalize w.alloc (.cells #[.string ⟨#[]⟩, .int .i64 (-1), .bool false, .int .i64 0] 75) = w1 at *
  clear hp
  have hbs1 := hb1.size
  have hcut := Hcut.out w1 hb1
  unfold strV at hcut
  go_wp2_with fail
  refine hcut.mono ?_
  clear hcut Hcut
  rintro e w2 ⟨lv, rfl, hown2, hb2⟩
  have hlv : ∃ g cl, lv = .slice (some ⟨g, 0, none⟩) P.length cl := by
    rcases hown2.2 with ⟨_, h0⟩ | ⟨g, cl, cur, h0, _⟩
    · exact absurd (List.eq_nil_of_length_eq_zero h0) hPn
    · exact ⟨g, cl, h0⟩
  obtain ⟨lg, cl, rfl⟩ := hlv
  have hb02 := hb1.trans (hb2.mono hbs1)
  have hP2 := hP1.below hb2 hP1.lt
  have hown2 := own_mono hown2 hbs1
  clear hP1 hb1 hb2 hbs1 R1
  go_wp2_with fail
  go_loopw [7, 8, 9, 10] (fun so se ov i wx => ∃ (k : Nat) (S : Bs) (r : Wire.RS) (n : Nat), k ≤ P.length ∧ i = .int .i64 k ∧ so = .string ⟨S.toArray⟩ ∧ se = .int .i64 n ∧ ov = .int .i64 r.err ∧ wx.ownsRow w.heap.size 9 1 (.slice (some ⟨lg, 0, none⟩) P.length cl) P.length (txtV P) ∧ Blk wx p 75 (rdC r) ∧ Below w.heap.size w wx ∧ Hid (FedAt S r n) ∧ Hid (S = (P.take k).flatten)) (fun _ _ _ i _ => P.length - (intOf i).toNat)
  case atStart => exact ⟨0, [], Wire.r0, 0, Nat.zero_le _, rfl, rfl, rfl, rfl, hown2, hP2, hb02, fed0, (rfl : _ = _)⟩
  case round =>
    clear hown2 hP2 hb02
    obtain ⟨k, S, r, n, hk, rfl, rfl, rfl, rfl, hol, hP, hb, Hfed, HS⟩ := hrel
    have hbs := hb.size
    by_cases hlt : k < P.length
    · have c0 := own_cell hol k _ (txtV_get P hlt)
      have i1 : (0 : Int) ≤ (k : Int) := by omega
      have i2 : (k : Int) < (P.length : Int) := by omega
      have HS2 : Hid (S ++ P[k] = (P.take (k + 1)).flatten) := by
        show _ = _
        rw [List.take_succ_eq_append_getElem hlt, List.flatten_append, HS.out]; simp
      have hSl : S.length + P[k].length ≤ 1048576 := by
        have h1 := flat_take P (k + 1)
        rw [← HS2.out, HPf.out, List.length_append] at h1
        omega
      generalize P[k] = x at *
      have e0 : ¬ 9223372036854775807 < S.length + x.length := by omega
      have hcat : Value.string ((⟨S.toArray⟩ : ByteArray) ++ ⟨x.toArray⟩) = strV (S ++ x) := str_cat S x
      have Hf := Hfed.out
      have hrl : (r.rest ++ x).length ≤ 100000000 := by rw [List.length_append]; have := Hf.2.2.2; omega
      have hf := feed_walk wr w.heap.size p r x m (hM.below hb hgb) hP hpb hbs hgb (fun he => (Hf.1 he).2.1) hrl
      have hfr := fun w => frames_walk (S ++ x) w (by rw [List.length_append]; omega)
      rw [Wire.frames_all, ← hcat] at hfr
      have hcnt := count_le (S ++ x)
      rw [List.length_append] at hcnt
      by_cases he : r.err = 0
      · obtain ⟨ha, hfed2⟩ := fed_ok (x := x) Hf he
        have hseen := (Hf.1 he).2.2
        obtain ⟨en, hen⟩ : ∃ en : Nat, (Wire.feedM r x).1.err = en := ⟨(Wire.feedM r x).1.err.toNat, by have := hfed2.2.2.1; omega⟩
        rw [ha] at hfr hcnt hfed2
        rw [hen, errI_nat] at hf
        simp only [hen] at hfr
        rw [he]
        generalize (Wire.allM S).2 = old at *
        have Hfed2 := Lib.hid hfed2
        have Hen := Lib.hid hen
        clear hfed2 hen ha Hf Hfed he
        generalize Wire.feedM r x = FR at *
        obtain ⟨r2, o2⟩ := FR
        simp only at hf hfr hcnt
        subst hseen
        unfold strV at c0 hf
        clear hcat
        have Hfr := Lib.hid hfr
        clear hfr
        go_wp2_with fail
        refine hf.mono ?_
        clear hf
        rintro e w3 ⟨⟨v2, rfl, ho2, hnil⟩, hP3, hb3, hoth⟩
        have hb03 := hb.trans hb3
        have hbs3 := hb03.size
        have hz3 : wr.heap.size ≤ w3.heap.size := hb3.size
        have hol3 : w3.ownsRow w.heap.size 9 1 (.slice (some ⟨lg, 0, none⟩) P.length cl) P.length (txtV P) := own_of_block hol fun b hbk => hoth b (hol.lt b hbk).2 fun e => own_ne hol hP (by decide) (by rw [hbk, e])
        clear hol hP hoth hb3 c0
        go_wp2_with fail
        refine (Hfr.out _).mono ?_
        clear Hfr
        rintro e w4 ⟨v4, rfl, ho4, hb4⟩
        have hP4 := hP3.below hb4 hP3.lt
        have hol4 := own_of_block hol3 fun b hbk => hb4.block b (hol3.lt b hbk).2
        have ho24 := own_of_block ho2 fun b hbk => hb4.block b (ho2.lt b hbk).2
        have hb04 := hb03.trans (hb4.mono hbs3)
        have hbs4 := hb04.size
        clear hP3 hol3 ho2 hb03 hb4
        go_wp2_with fail
        refine (error_yes en en w4 (hgE.below hb04 hge) rfl).mono ?_
        rintro e w5 ⟨rfl, hb5⟩
        have hP5 := hP4.below hb5 hP4.lt
        have hol5 := own_of_block hol4 fun b hbk => hb5.block b (hol4.lt b hbk).2
        have ho5 := own_of_block ho4 fun b hbk => hb5.block b (ho4.lt b hbk).2
        have ho25 := own_of_block ho24 fun b hbk => hb5.block b (ho24.lt b hbk).2
        have hb05 := hb04.trans (hb5.mono hbs4)
        have hbs5 := hb05.size
        clear hP4 hol4 ho4 ho24 hb04 hb5
        obtain ⟨A2', c2', rfl⟩ := own_form ho25
        have hnl : ¬ ((old ++ o2).length : Int) < (old.length : Int) := by rw [List.length_append]; omega
        have hol2 : o2.length ≤ 4194304 := by rw [List.length_append] at hcnt; omega
        have hT : ∀ (A : Option Addr) (c : Nat), Rd w5 w5.heap.size 1 A o2.length (txtV o2) → Calls Tryd.prog 19 #[.slice A2' o2.length c2', .slice A o2.length c] w5 fun e w' => e = .returned (.bool true) ∧ Below w5.heap.size w5 w' := fun A c hR => by
          have := texts_walk A2' A c2' c o2 o2 w5 (Rd.of_own ho25) hR hol2 hol2
          rwa [decide_eq_true rfl] at this
        have hrel : Hid (∀ w6, Below w5.heap.size w5 w6 → w6.ownsRow w.heap.size 9 1 (.slice (some ⟨lg, 0, none⟩) P.length cl) P.length (txtV P) ∧ Blk w6 p 75 (rdC r2) ∧ Below w.heap.size w w6) := fun w6 hb6 =>
          ⟨own_of_block hol5 fun b hbk => hb6.block b (hol5.lt b hbk).2, hP5.below hb6 hP5.lt, hb05.trans (hb6.mono hbs5)⟩
        have hstr : Hid (Value.string ((⟨S.toArray⟩ : ByteArray) ++ ⟨x.toArray⟩) = .string ⟨(S ++ x).toArray⟩) := str_cat S x
        have hRd : Hid (∀ g cap, (Value.slice (some ⟨g, 0, none⟩) (old ++ o2).length cap) = (Value.slice (some ⟨g, 0, none⟩) (old ++ o2).length cap) → w5.ownsRow w3.heap.size 9 1 (Value.slice (some ⟨g, 0, none⟩) (old ++ o2).length cap) (old ++ o2).length (txtV (old ++ o2)) → Rd w5 w5.heap.size 1 (some ⟨g, old.length, none⟩) o2.length (txtV o2)) := fun g cap _ ho =>
          ⟨by rw [txtV_len]; omega, fun _ => ⟨g, old.length, rfl, (ho.lt g rfl).2, fun j u hu => own_cell ho (old.length + j) u (by
            rw [show txtV (old ++ o2) = txtV old ++ txtV o2 by simp [txtV], List.getElem?_append_right (by rw [txtV_len]; omega), txtV_len, show old.length + j - old.length = j by omega]
            exact hu)⟩⟩
        clear hol5 hP5 hb05
        have HT := Lib.hid hT
        have Ho5 := Lib.hid ho5
        clear hT ho5
        rcases Ho5.out.2 with ⟨rfl, h0⟩ | ⟨g, cap, cur, rfl, hg1, hg2, hg3, hg4⟩
        · have h1 : old = [] := by have := List.eq_nil_of_length_eq_zero h0; exact (List.append_eq_nil_iff.1 this).1
          have h2 : o2 = [] := by have := List.eq_nil_of_length_eq_zero h0; exact (List.append_eq_nil_iff.1 this).2
          subst h1 h2
          have hC := HT.out none 0 Rd.none_
          simp only [List.length_nil] at hC
          clear HT Ho5 h0
          go_wp2_with fail
          refine hC.mono ?_
          clear hC
          rintro e w6 ⟨rfl, hb6⟩
          have hr6 := hrel.out w6 hb6
          clear hb6 hrel
          go_wp2_with fail
          go_roundw
          case rel => exact ⟨k + 1, S ++ x, r2, 0, by omega, by go_num, hstr.out, by simp, by rw [Hen.out], hr6.1, hr6.2.1, hr6.2.2, Hfed2.out, HS2.out⟩
          case measure => simp [intOf]; omega
        · have hcap : old.length + o2.length ≤ cap := by rw [List.length_append] at hg3; exact hg3
          by_cases hc2 : cap = old.length
          · have h2 : o2 = [] := List.eq_nil_of_length_eq_zero (by omega)
            subst h2 hc2
            have hC := HT.out (some ⟨g, 0, none⟩) 0 ⟨rfl, fun h => absurd h (by simp)⟩
            simp only [List.length_nil] at hC
            clear HT Ho5 hg2 hg4
            go_wp2_with fail
            refine hC.mono ?_
            clear hC
            rintro e w6 ⟨rfl, hb6⟩
            have hr6 := hrel.out w6 hb6
            clear hb6 hrel
            go_wp2_with fail
            go_roundw
            case rel => exact ⟨k + 1, S ++ x, r2, old.length, by omega, by go_num, hstr.out, by simp, by rw [Hen.out], hr6.1, hr6.2.1, hr6.2.2, by have h9 := Hfed2.out; rw [List.append_nil] at h9; exact h9, HS2.out⟩
            case measure => simp [intOf]; omega
          · have hC := HT.out (some ⟨g, old.length, none⟩) (cap - old.length) (hRd.out g cap rfl (own_mono Ho5.out (Nat.le_refl _)))
            clear HT Ho5 hg2 hg4 hRd
            go_wp2_with fail
            refine hC.mono ?_
            clear hC
            rintro e w6 ⟨rfl, hb6⟩
            have hr6 := hrel.out w6 hb6
            clear hb6 hrel
            go_wp2_with fail
            go_roundw
            case rel => exact ⟨k + 1, S ++ x, r2, (old ++ o2).length, by omega, by go_num, hstr.out, by simp, by rw [Hen.out], hr6.1, hr6.2.1, hr6.2.2, Hfed2.out, HS2.out⟩
            case measure => simp [intOf]; omega
      · obtain ⟨hfm, hfed2, hle⟩ := fed_bad (x := x) Hf he
        obtain ⟨en, hen⟩ : ∃ en : Nat, r.err = en := ⟨r.err.toNat, by have := Hf.2.2.1; omega⟩
        have hen0 : ((en : Int) == 0) = false := by rw [← hen]; simp [he]
        rw [hfm, hen, errI_nat] at hf
        rw [hen]
        generalize (Wire.allM (S ++ x)).2 = W at *
        generalize (Wire.allM (S ++ x)).1.err = E at *
        have Hfed2 := Lib.hid hfed2
        have Hen := Lib.hid hen
        clear hfed2 hfm hen Hf Hfed he
        simp only at hf
        unfold strV at c0 hf
        clear hcat
        have Hfr := Lib.hid hfr
        clear hfr
        go_wp2_with fail
        refine hf.mono ?_
        clear hf
        rintro e w3 ⟨⟨v2, rfl, ho2, hnil⟩, hP3, hb3, hoth⟩
        obtain rfl := hnil trivial
        have hb03 := hb.trans hb3
        have hbs3 := hb03.size
        have hol3 : w3.ownsRow w.heap.size 9 1 (.slice (some ⟨lg, 0, none⟩) P.length cl) P.length (txtV P) := own_of_block hol fun b hbk => hoth b (hol.lt b hbk).2 fun e => own_ne hol hP (by decide) (by rw [hbk, e])
        clear hol hP hoth hb3 c0 ho2 hnil
        go_wp2_with fail
        refine (Hfr.out _).mono ?_
        clear Hfr
        rintro e w4 ⟨v4, rfl, ho4, hb4⟩
        have hP4 := hP3.below hb4 hP3.lt
        have hol4 := own_of_block hol3 fun b hbk => hb4.block b (hol3.lt b hbk).2
        have hb04 := hb03.trans (hb4.mono hbs3)
        have hbs4 := hb04.size
        have hErr := error_yes en en w4 (hgE.below hb04 hge) rfl
        have hT : ∀ (w5 : World) (A : Option Addr) (c : Nat), Calls Tryd.prog 19 #[.slice none 0 0, .slice A 0 c] w5 fun e w' => e = .returned (.bool true) ∧ Below w5.heap.size w5 w' := fun w5 A c => by
          have := texts_walk none A 0 c [] [] w5 Rd.none_ ⟨rfl, fun h => absurd h (by simp)⟩ (by simp) (by simp)
          rwa [decide_eq_true rfl] at this
        have hrel : Hid (∀ w5 w6, Below w4.heap.size w4 w5 → Below w5.heap.size w5 w6 → w6.ownsRow w.heap.size 9 1 (.slice (some ⟨lg, 0, none⟩) P.length cl) P.length (txtV P) ∧ Blk w6 p 75 (rdC r) ∧ Below w.heap.size w w6) := fun w5 w6 hb5 hb6 =>
          have hb46 := hb5.trans (hb6.mono hb5.size)
          ⟨own_of_block hol4 fun b hbk => hb46.block b (hol4.lt b hbk).2, hP4.below hb46 hP4.lt, hb04.trans (hb46.mono hbs4)⟩
        have hstr : Hid (Value.string ((⟨S.toArray⟩ : ByteArray) ++ ⟨x.toArray⟩) = .string ⟨(S ++ x).toArray⟩) := str_cat S x
        clear hP3 hol3 hb03 hb4 hP4 hol4 hb04
        rcases ho4.2 with ⟨rfl, h0⟩ | ⟨g, cap, cur, rfl, hg1, hg2, hg3, hg4⟩
        · obtain rfl : n = 0 := by omega
          clear ho4
          go_wp2_with fail
          refine hErr.mono ?_
          clear hErr
          rintro e w5 ⟨rfl, hb5⟩
          go_wp2_with fail
          refine (hT _ _ _).mono ?_
          clear hT
          rintro e w6 ⟨rfl, hb6⟩
          have hr6 := hrel.out w5 w6 hb5 hb6
          clear hb5 hb6 hrel
          go_wp2_with fail
          go_roundw
          case rel => exact ⟨k + 1, S ++ x, r, 0, by omega, by go_num, hstr.out, by simp, by rw [Hen.out], hr6.1, hr6.2.1, hr6.2.2, Hfed2.out, HS2.out⟩
          case measure => simp [intOf]; omega
        · have hcap : n ≤ cap := by omega
          clear ho4 hg2 hg4
          by_cases hc2 : cap = n
          · subst hc2
            go_wp2_with fail
            refine hErr.mono ?_
            clear hErr
            rintro e w5 ⟨rfl, hb5⟩
            go_wp2_with fail
            refine (hT _ _ _).mono ?_
            clear hT
            rintro e w6 ⟨rfl, hb6⟩
            have hr6 := hrel.out w5 w6 hb5 hb6
            clear hb5 hb6 hrel
            go_wp2_with fail
            go_roundw
            case rel => exact ⟨k + 1, S ++ x, r, cap, by omega, by go_num, hstr.out, by simp, by rw [Hen.out], hr6.1, hr6.2.1, hr6.2.2, Hfed2.out, HS2.out⟩
            case measure => simp [intOf]; omega
          · go_wp2_with fail
            refine hErr.mono ?_
            clear hErr
            rintro e w5 ⟨rfl, hb5⟩
            go_wp2_with fail
            refine (hT _ _ _).mono ?_
            clear hT
            rintro e w6 ⟨rfl, hb6⟩
            have hr6 := hrel.out w5 w6 hb5 hb6
            clear hb5 hb6 hrel
            go_wp2_with fail
            go_roundw
            case rel => exact ⟨k + 1, S ++ x, r, n, by omega, by go_num, hstr.out, by simp, by rw [Hen.out], hr6.1, hr6.2.1, hr6.2.2, Hfed2.out, HS2.out⟩
            case measure => simp [intOf]; omega
    · obtain rfl : k = P.length := by omega
      clear hol hP Hfed HS
      go_wp2_with fail
      go_ret
      exact ⟨rfl, hb⟩
end Go.Proofs.YtccljojceoidhaaDoor
