/-
  WALKS of package lex: text, sign, Word.
-/
import Derived.Test.YtgpjcjnimheglaaGreatDoorLG
import Derived.Test.YtgpjcjnimheglaaGreatDoorLC
namespace Go.Proofs.YtgpjcjnimheglaaGreatDoor
open Go.RowKit

theorem dec0_walk (w : World) (hT : T8 w) : Calls Tryz.prog 105 #[.string ⟨([] : Bs).toArray⟩] w fun e w' => e = .returned (.tuple #[.int .i32 65533, .int .i64 0]) ∧ Below w.heap.size w w' :=
  Tryz.utf8_DecodeRuneInString ⟨([] : Bs).toArray⟩ w hT
theorem take_line (t : Bs) (_h : (34 : UInt8) ≠ 10) : ((34 :: t : Bs).takeWhile (· != 10)).length = (t.takeWhile (· != 10)).length + 1 := by
  rw [List.takeWhile_cons, if_pos (by simp)]; rfl

set_option maxHeartbeats 2000000 in
set_option maxRecDepth 100000 in
theorem text_walk (s : Bs) (t : Bs) (hst : s = 34 :: t) (m : Int) (w : World) (hM : MaxL w m) (hT : T8 w) (hl : s.length ≤ 100000000) :
    Calls Tryz.prog 115 #[.string ⟨s.toArray⟩] w fun e w' => e = .returned (.tuple #[.int .i64 (((Lx.textM t).1 + 1 : Nat) : Int), .bool ((Lx.textM t).2.1 && (Lx.textM t).2.2)]) ∧ Below w.heap.size w w' := by
  have hline := Lx.textR_line _ t true rfl
  have hln : ((s.takeWhile (· != 10)).length : Int) = ((t.takeWhile (· != 10)).length + 1 : Nat) := by rw [hst, take_line t (by decide)]
  have hdrop : s.drop 1 = t := by rw [hst]; rfl
  have hs1 : 1 ≤ s.length := by rw [hst]; simp
  generalize hX : Lx.textM t = X
  have HX : Hid (X = Lx.textR true (s.drop 1)) := by show _ = _; rw [← hX, hdrop]; rfl
  have Hline : Hid (X.2.1 = false → ((s.takeWhile (· != 10)).length : Int) = ((X.1 + 1 : Nat) : Int)) := fun h => by
    rw [hln]
    have := hline.2.1
    rw [show Lx.textR true t = X from hX] at this
    rw [this h]
  clear hline hln hdrop hst hX t
  go_enter Tryz.func115, Tryz.ntmps115
  go_wp2_with fail
  go_loopw [4, 5] (fun rt i wr => ∃ (b : Bool) (k : Nat), rt = .bool b ∧ i = .int .i64 k ∧ 1 ≤ k ∧ k ≤ s.length ∧ Below w.heap.size w wr ∧ Hid (X = ((Lx.textR b (s.drop k)).1 + (k - 1), (Lx.textR b (s.drop k)).2))) (fun _ i _ => s.length - (intOf i).toNat)
  case atStart => exact ⟨true, 1, rfl, rfl, by omega, hs1, Below.refl _ _, by show _ = _; rw [HX.out]; simp⟩
  case round =>
    obtain ⟨b, k, rfl, rfl, hk1, hk2, hb, H⟩ := hrel
    have hbs := hb.size
    have i0 : (0 : Int) ≤ (k : Int) := by omega
    by_cases hlt : k < s.length
    · have i1 : (k : Int) < (s.length : Int) := by omega
      have hdk : s.drop k = s[k] :: s.drop (k + 1) := List.drop_eq_getElem_cons hlt
      have e10 := bk_eq s k hlt 10
      have e34 := bk_eq s k hlt 34
      have e92 := bk_eq s k hlt 92
      rw [show (((10 : UInt8).toNat : Nat) : Int) = 10 from rfl] at e10
      rw [show (((34 : UInt8).toNat : Nat) : Int) = 34 from rfl] at e34
      rw [show (((92 : UInt8).toNat : Nat) : Int) = 92 from rfl] at e92
      have Hd := Lib.hid hdk
      clear hdk
      by_cases g1 : s[k] = 10
      · rw [decide_eq_true g1] at e10
        have n10 : ((((⟨s.toArray⟩ : ByteArray)[k]'(by rw [mk_size]; exact hlt)).toNat : Int) != 10) = false := by rw [bne, e10]; rfl
        have hE : Hid (X.2.1 = false ∧ X.2.2 = b) := by
          have h2 := H.out
          rw [Hd.out, g1, Lx.textR_end] at h2
          rw [h2]; exact ⟨rfl, rfl⟩
        have hcut := cut_walk1 10 s m wr (hM.below hb hM.lt) hl
        have hv := Hline.out hE.out.1
        clear e34 e92 e10 g1 H Hline HX
        go_wp2_with fail
        refine hcut.mono ?_
        clear hcut
        rintro e w2 ⟨rfl, n, rfl⟩
        go_wp2_with fail
        go_ret2
        refine ⟨?_, below_drewN hb n⟩
        rw [hE.out.1]
        show _ = Ending.returned (.tuple #[.int .i64 ((X.1 + 1 : Nat) : Int), .bool false])
        rw [show ((X.1 + 1 : Nat) : Int) = (X.1 : Int) + 1 by omega]; rfl
      · rw [decide_eq_false g1] at e10
        have n10 : ((((⟨s.toArray⟩ : ByteArray)[k]'(by rw [mk_size]; exact hlt)).toNat : Int) != 10) = true := by rw [bne, e10]; rfl
        by_cases g2 : s[k] = 34
        · rw [decide_eq_true g2] at e34
          have hE : Hid (X = (1 + (k - 1), true, b)) := by
            show _ = _
            have h2 := H.out
            rw [Hd.out, g2, Lx.textR_shut] at h2
            exact h2
          clear e92 e10 g1 g2 H Hline HX
          go_wp2_with fail
          go_ret2
          rw [hE.out]
          refine ⟨?_, hb⟩
          show _ = Ending.returned (.tuple #[.int .i64 ((1 + (k - 1) + 1 : Nat) : Int), .bool (true && b)])
          rw [show ((1 + (k - 1) + 1 : Nat) : Int) = (k : Int) + 1 by omega, Bool.true_and]; rfl
        · rw [decide_eq_false g2] at e34
          by_cases g3 : s[k] = 92
          · rw [decide_eq_true g3] at e92
            have j1 : (k : Int) + 1 ≤ (s.length : Int) := by omega
            have hes := escape_walk (s.drop (k + 1)) m wr (hM.below hb hM.lt) (by rw [List.length_drop]; omega)
            rw [← ext_drop] at hes
            cases hesc : Lx.escM (s.drop (k + 1)) with
            | some x =>
              obtain ⟨c, n⟩ := x
              obtain ⟨q1, q2, _⟩ := Lx.esc_le _ _ _ hesc
              rw [List.length_drop] at q2
              have hE : Hid (X = ((Lx.textR b (s.drop (k + 1 + n))).1 + (k + 1 + n - 1), (Lx.textR b (s.drop (k + 1 + n))).2)) := by
                show _ = _
                have h2 := H.out
                rw [Hd.out, g3, Lx.textR_esc b _ c n hesc, List.drop_drop] at h2
                rw [h2]
                refine Prod.ext ?_ rfl
                simp only
                omega
              rw [hesc] at hes
              have hes : Calls Tryz.prog 140 _ wr fun e w' => e = .returned (.tuple #[.string (Utf8.encode c), .int .i64 n]) ∧ Below wr.heap.size wr w' := hes
              have n0 : ((n : Int) == 0) = false := by simp; omega
              clear e10 g1 g2 g3 H Hline HX hesc Hd
              go_wp2_with fail
              refine hes.mono ?_
              clear hes
              rintro e w2 ⟨rfl, hb2⟩
              go_wp2_with fail
              go_roundw
              case rel => exact ⟨b, k + 1 + n, rfl, by congr 1; omega, by omega, by omega, hb.trans (hb2.mono hbs), hE⟩
              case measure => simp [intOf]; omega
            | none =>
              rw [hesc] at hes
              have hes : Calls Tryz.prog 140 _ wr fun e w' => e = .returned (.tuple #[.string ⟨#[]⟩, .int .i64 0]) ∧ Below wr.heap.size wr w' := hes
              have h2 := H.out
              rw [Hd.out, g3, Lx.textR_bad b _ hesc _ rfl] at h2
              by_cases hend : k + 1 < s.length
              · have hne : s.drop (k + 1) ≠ [] := by intro e; have := congrArg List.length e; simp at this; omega
                have hd := fun w2 (hb2 : Below w.heap.size w w2) => dec_walk (s.drop (k + 1)) hne w2 (hT.below hb2)
                have hsz := (dec_size (s.drop (k + 1))).1
                have hle := dec_le (s.drop (k + 1)) hne
                rw [List.length_drop] at hle
                rw [← ext_drop] at hd
                have hby : byteAt (s.drop (k + 1)) 0 = s[k + 1].toNat := by
                  unfold byteAt
                  rw [List.getElem?_drop]
                  show (s[k + 1]?.getD 0).toNat = _
                  rw [List.getElem?_eq_getElem hend]; rfl
                have x10 := bk_eq s (k + 1) hend 10
                rw [show (((10 : UInt8).toNat : Nat) : Int) = 10 from rfl] at x10
                have j2 : (k : Int) + 1 < (s.length : Int) := by omega
                by_cases q10 : s[k + 1] = 10
                · rw [decide_eq_true q10] at x10
                  rw [if_pos (.inr (by rw [hby, q10]; rfl)), List.drop_zero] at h2
                  have hE : Hid (X = ((Lx.textR false (s.drop (k + 1))).1 + (k + 1 - 1), (Lx.textR false (s.drop (k + 1))).2)) := by
                    show _ = _
                    rw [h2]
                    refine Prod.ext ?_ rfl
                    simp only
                    omega
                  generalize dec (s.drop (k + 1)) = D at *
                  obtain ⟨c, z⟩ := D
                  simp only at hd hsz
                  have Hdd := Lib.hid hd
                  clear e10 g1 g2 g3 H Hline HX hesc Hd h2 hle hby q10 hne hd
                  go_wp2_with fail
                  refine hes.mono ?_
                  clear hes
                  rintro e w2 ⟨rfl, hb2⟩
                  go_wp2_with fail
                  refine (Hdd.out w2 (hb.trans (hb2.mono hbs))).mono ?_
                  clear Hdd
                  rintro e w3 ⟨rfl, hb3⟩
                  go_wp2_with fail
                  go_roundw
                  case rel => exact ⟨false, k + 1, rfl, by go_num, by omega, by omega, (hb.trans (hb2.mono hbs)).trans (hb3.mono (by have := hb2.size; omega)), hE⟩
                  case measure => simp [intOf]; omega
                · rw [decide_eq_false q10] at x10
                  rw [if_neg (by
                    rintro (h | h)
                    · exact hne (List.isEmpty_iff.1 h)
                    · rw [hby] at h; exact q10 (UInt8.toNat_inj.1 (show s[k + 1].toNat = 10 from h))), List.drop_drop] at h2
                  have hE : Hid (X = ((Lx.textR false (s.drop (k + 1 + (dec (s.drop (k + 1))).2))).1 + (k + 1 + (dec (s.drop (k + 1))).2 - 1), (Lx.textR false (s.drop (k + 1 + (dec (s.drop (k + 1))).2))).2)) := by
                    show _ = _
                    rw [h2]
                    refine Prod.ext ?_ rfl
                    simp only
                    omega
                  generalize dec (s.drop (k + 1)) = D at *
                  obtain ⟨c, z⟩ := D
                  simp only at hd hsz hle hE
                  have Hdd := Lib.hid hd
                  clear e10 g1 g2 g3 H Hline HX hesc Hd h2 hby q10 hne hd
                  go_wp2_with fail
                  refine hes.mono ?_
                  clear hes
                  rintro e w2 ⟨rfl, hb2⟩
                  go_wp2_with fail
                  refine (Hdd.out w2 (hb.trans (hb2.mono hbs))).mono ?_
                  clear Hdd
                  rintro e w3 ⟨rfl, hb3⟩
                  go_wp2_with fail
                  go_roundw
                  case rel => exact ⟨false, k + 1 + z, rfl, by congr 1; omega, by omega, by omega, (hb.trans (hb2.mono hbs)).trans (hb3.mono (by have := hb2.size; omega)), hE⟩
                  case measure => simp [intOf]; omega
              · have he0 : s.drop (k + 1) = [] := List.drop_of_length_le (by omega)
                have hd := fun w2 (hb2 : Below w.heap.size w w2) => dec0_walk w2 (hT.below hb2)
                rw [if_pos (.inl (by rw [he0]; rfl)), List.drop_zero] at h2
                rw [← he0, ← ext_drop] at hd
                have hE : Hid (X = ((Lx.textR false (s.drop (k + 1))).1 + (k + 1 - 1), (Lx.textR false (s.drop (k + 1))).2)) := by
                  show _ = _
                  rw [h2]
                  refine Prod.ext ?_ rfl
                  simp only
                  omega
                have Hdd := Lib.hid hd
                clear e10 g1 g2 g3 H Hline HX hesc Hd h2 he0 hd
                go_wp2_with fail
                refine hes.mono ?_
                clear hes
                rintro e w2 ⟨rfl, hb2⟩
                go_wp2_with fail
                refine (Hdd.out w2 (hb.trans (hb2.mono hbs))).mono ?_
                clear Hdd
                rintro e w3 ⟨rfl, hb3⟩
                go_wp2_with fail
                go_roundw
                case rel => exact ⟨false, k + 1, rfl, by go_num, by omega, by omega, (hb.trans (hb2.mono hbs)).trans (hb3.mono (by have := hb2.size; omega)), hE⟩
                case measure => simp [intOf]; omega
          · rw [decide_eq_false g3] at e92
            have hE : Hid (X = ((Lx.textR b (s.drop (k + 1))).1 + (k + 1 - 1), (Lx.textR b (s.drop (k + 1))).2)) := by
              show _ = _
              have h2 := H.out
              rw [Hd.out, Lx.textR_plain b _ _ g1 g2 g3] at h2
              rw [h2]
              refine Prod.ext ?_ rfl
              simp only
              omega
            clear e10 g1 g2 g3 H Hline HX Hd
            go_wp2_with fail
            go_roundw
            case rel => exact ⟨b, k + 1, rfl, by go_num, by omega, by omega, hb, hE⟩
            case measure => simp [intOf]; omega
    · obtain rfl : k = s.length := by omega
      have hE : Hid (X.2.1 = false) := by
        have h2 := H.out
        rw [List.drop_length, Lx.textR_nil] at h2
        rw [h2]; rfl
      have hcut := cut_walk1 10 s m wr (hM.below hb hM.lt) hl
      have hv := Hline.out hE.out
      clear H Hline HX
      go_wp2_with fail
      refine hcut.mono ?_
      clear hcut
      rintro e w2 ⟨rfl, n, rfl⟩
      go_wp2_with fail
      go_ret2
      refine ⟨?_, below_drewN hb n⟩
      rw [hE.out]
      show _ = Ending.returned (.tuple #[.int .i64 ((X.1 + 1 : Nat) : Int), .bool false])
      rw [show ((X.1 + 1 : Nat) : Int) = (X.1 : Int) + 1 by omega]; rfl
end Go.Proofs.YtgpjcjnimheglaaGreatDoor
