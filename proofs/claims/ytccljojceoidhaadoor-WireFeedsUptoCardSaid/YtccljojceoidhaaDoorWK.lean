/-
  THE WALK of the document's Frames.
-/
import Derived.Test.YtccljojceoidhaaDoorWG
namespace Go.Proofs.YtccljojceoidhaaDoor
open Go.RowKit

namespace Wire
open Go.Lib
theorem cut_first (s : List UInt8) (j : Nat) (h1 : s[j]? = some 13) (h2 : s[j + 1]? = some 10) (hn : ∀ i, i < j → s[i]? = some 13 → s[i + 1]? = some 10 → False) : cut s crlf = (s.take j, s.drop (j + 2), true) := by
  have hj : j < s.length := (List.getElem?_eq_some_iff.1 h1).1
  have hi : index s crlf = (j : Nat) := by
    refine index_first (by omega) ((occ_iff _ _).2 ⟨h1, h2⟩) fun i hi => ?_
    cases ho : occAt s crlf i with
    | false => rfl
    | true => exact absurd ((occ_iff _ _).1 ho).2 (fun h => hn i hi ((occ_iff _ _).1 ho).1 h)
  unfold cut
  rw [hi, if_pos (by omega)]
  rfl
theorem refF_fuel (n m : Nat) (s : List UInt8) (size : Int) (o : List (List UInt8)) (h1 : -1 ≤ size) (h2 : size ≤ 9999999999) (hn : s.length < n) (hm : s.length < m) : refF n s size o = refF m s size o :=
  (ref_run n s size o hn h1 h2 _ (Nat.lt_succ_self _)).trans (ref_run m s size o hm h1 h2 _ (Nat.lt_succ_self _)).symm
theorem lengthM_bound (l : List UInt8) : -2 ≤ lengthM l ∧ lengthM l ≤ 9999999999 := by
  unfold lengthM
  split
  · rename_i h
    have := valD_bound (l.drop 16) (lenB_parts h).2.2.1
    omega
  · split <;> omega
/-- the frames from a place on -/
def from_ (s : List UInt8) (i : Nat) (size : Int) (o : List (List UInt8)) : List (List UInt8) × Int := refF (s.length + 1) (s.drop i) size o
theorem from_step (s : List UInt8) (i : Nat) (size : Int) (o : List (List UInt8)) (h1 : -1 ≤ size) (h2 : size ≤ 9999999999) : from_ s i size o =
    if (cut (s.drop i) crlf).2.2 = false then (o, if tooLong (s.drop i) then 12 else 0)
    else if 1000 < (cut (s.drop i) crlf).1.length then (o, 12)
    else if (cut (s.drop i) crlf).1 ≠ [] then
      if lengthM (cut (s.drop i) crlf).1 = -2 then (o, 3)
      else refF (s.length + 1) (cut (s.drop i) crlf).2.1 (if 0 ≤ lengthM (cut (s.drop i) crlf).1 then lengthM (cut (s.drop i) crlf).1 else size) o
    else if size < 0 then (o, 3)
    else if ((cut (s.drop i) crlf).2.1.length : Int) < size then (o, 0)
    else refF (s.length + 1) ((cut (s.drop i) crlf).2.1.drop size.toNat) (-1) (o ++ [(cut (s.drop i) crlf).2.1.take size.toNat]) := by
  unfold from_
  conv => lhs; rw [refF]
  cases hc : (cut (s.drop i) crlf).2.2 with
  | false => rfl
  | true =>
    have hl := cut_len (s.drop i) hc
    rw [List.length_drop] at hl
    have hv := lengthM_bound (cut (s.drop i) crlf).1
    have e1 : refF s.length (cut (s.drop i) crlf).2.1 (if 0 ≤ lengthM (cut (s.drop i) crlf).1 then lengthM (cut (s.drop i) crlf).1 else size) o = refF (s.length + 1) (cut (s.drop i) crlf).2.1 (if 0 ≤ lengthM (cut (s.drop i) crlf).1 then lengthM (cut (s.drop i) crlf).1 else size) o :=
      refF_fuel _ _ _ _ _ (by split <;> omega) (by split <;> omega) (by omega) (by omega)
    have e2 : refF s.length ((cut (s.drop i) crlf).2.1.drop size.toNat) (-1) (o ++ [(cut (s.drop i) crlf).2.1.take size.toNat]) = refF (s.length + 1) ((cut (s.drop i) crlf).2.1.drop size.toNat) (-1) (o ++ [(cut (s.drop i) crlf).2.1.take size.toNat]) :=
      refF_fuel _ _ _ _ _ (by omega) (by omega) (by rw [List.length_drop]; omega) (by rw [List.length_drop]; omega)
    rw [e1, e2]
theorem from_miss (s : List UInt8) (i : Nat) (size : Int) (o : List (List UInt8)) (h1 : -1 ≤ size) (h2 : size ≤ 9999999999) (h : cut (s.drop i) crlf = (s.drop i, [], false)) : from_ s i size o = (o, if tooLong (s.drop i) then 12 else 0) := by
  rw [from_step s i size o h1 h2, h, if_pos rfl]
/-- what comes of a line that ends at k -/
theorem from_hit (s : List UInt8) (i k : Nat) (size : Int) (o : List (List UInt8)) (h1 : -1 ≤ size) (h2 : size ≤ 9999999999) (hik : i ≤ k) (hk : k + 1 < s.length) (h : cut (s.drop i) crlf = ((s.drop i).take (k - i), (s.drop i).drop (k - i + 2), true)) : from_ s i size o =
    if 1000 < k - i then (o, 12)
    else if k - i ≠ 0 then
      if lengthM ((s.drop i).take (k - i)) = -2 then (o, 3)
      else from_ s (k + 2) (if 0 ≤ lengthM ((s.drop i).take (k - i)) then lengthM ((s.drop i).take (k - i)) else size) o
    else if size < 0 then (o, 3)
    else if ((s.length - (k + 2) : Nat) : Int) < size then (o, 0)
    else from_ s (k + 2 + size.toNat) (-1) (o ++ [(s.drop (k + 2)).take size.toNat]) := by
  have e2 : (s.drop i).drop (k - i + 2) = s.drop (k + 2) := by rw [List.drop_drop]; congr 1; omega
  have el : ((s.drop i).take (k - i)).length = k - i := by rw [List.length_take, List.length_drop]; omega
  rw [from_step s i size o h1 h2, h]
  simp only [e2]
  rw [if_neg (by simp), el]
  have en : (s.drop i).take (k - i) ≠ [] ↔ k - i ≠ 0 := by
    rw [← List.length_pos_iff, el]; omega
  by_cases h0 : k - i ≠ 0
  · rw [if_pos (en.2 h0), if_pos h0]; rfl
  · rw [if_neg (fun h => h0 (en.1 h)), if_neg h0, List.length_drop, List.drop_drop]; rfl
end Wire

theorem txt_slice (s : Bs) (i k : Nat) : Value.string ((⟨s.toArray⟩ : ByteArray).extract i k) = strV ((s.drop i).take (k - i)) := by
  rw [ext_str]
  congr 1
  rw [List.drop_take]

set_option maxHeartbeats 4000000 in
set_option maxRecDepth 100000 in
theorem frames_walk (s : Bs) (w : World) (hl : s.length ≤ 100000000) :
    Calls Tryd.prog 22 #[strV s] w fun e w' => ∃ v, e = .returned (.tuple #[v, .int .i64 (Wire.framesM s).2]) ∧ w'.ownsRow w.heap.size 9 1 v (Wire.framesM s).1.length (txtV (Wire.framesM s).1) ∧ Below w.heap.size w w' := by
  obtain ⟨i0, ji, jz0, jz1, jz2⟩ := info_parts infoStr
  have hfr : Wire.framesM s = Wire.from_ s 0 (-1) [] := rfl
  generalize hR : Wire.framesM s = R at *
  have HR := Lib.hid hfr
  clear hfr hR
  unfold strV
  go_enter Tryd.func22, Tryd.ntmps22
  go_wp2_with fail
  go_loopw [4, 5, 6] (fun v i sz wr => ∃ (j : Nat) (z : Int) (o : List Bs), i = .int .i64 j ∧ sz = .int .i64 z ∧ j ≤ s.length ∧ -1 ≤ z ∧ z ≤ 9999999999 ∧ o.length ≤ j ∧ wr.ownsRow w.heap.size 9 1 v o.length (txtV o) ∧ Below w.heap.size w wr ∧ Hid (R = Wire.from_ s j z o)) (fun _ i _ _ => s.length - (intOf i).toNat)
  case atStart => exact ⟨0, -1, [], rfl, rfl, Nat.zero_le _, by omega, by omega, Nat.le_refl _, World.ownsRow_nil _ _ _ _, Below.refl _ _, HR.out⟩
  case round =>
    obtain ⟨j, z, o, rfl, rfl, hj, hz1, hz2, hol, hown, hb, H⟩ := hrel
    have hbs := hb.size
    go_wp2_with fail
    go_loop [7] (fun kk => ∃ k : Nat, kk = .int .i64 k ∧ j ≤ k ∧ k ≤ s.length ∧ Hid (∀ i, i < k - j → (s.drop j)[i]? = some (13 : UInt8) → (s.drop j)[i + 1]? = some (10 : UInt8) → False)) (fun kk => s.length - (intOf kk).toNat)
    case atStart => exact ⟨j, rfl, Nat.le_refl _, hj, fun i h => by omega⟩
    case round =>
      obtain ⟨k, rfl, hjk, hks, Hno⟩ := hrel
      have i0' : (0 : Int) ≤ (k : Int) := by omega
      have i1 : (0 : Int) ≤ (k : Int) + 1 := by omega
      have hgo : (s[k]? ≠ some 13 ∨ s[k + 1]? ≠ some 10) → Hid (∀ i, i < k + 1 - j → (s.drop j)[i]? = some (13 : UInt8) → (s.drop j)[i + 1]? = some (10 : UInt8) → False) := fun h i hi h1 h2 => by
        rcases Nat.lt_or_ge i (k - j) with h3 | h3
        · exact Hno.out i h3 h1 h2
        · obtain rfl : i = k - j := by omega
          rw [List.getElem?_drop, show j + (k - j) = k by omega] at h1
          rw [List.getElem?_drop, show j + (k - j + 1) = k + 1 by omega] at h2
          rcases h with h | h
          · exact h h1
          · exact h h2
      have Hgo := Lib.hid hgo
      clear hgo
      by_cases hk1 : k + 1 < s.length
      · have i2 : (k : Int) + 1 < (s.length : Int) := by omega
        have i3 : (k : Int) < (s.length : Int) := by omega
        have hk0 : k < s.length := by omega
        by_cases hx : s[k] = 13
        · have e1 : ((((⟨s.toArray⟩ : ByteArray)[k]'(by rw [mk_size]; exact hk0)).toNat : Int) != 13) = false := by rw [bAt s k hk0, hx]; rfl
          by_cases hy : s[k + 1] = 10
          · have e2 : ((((⟨s.toArray⟩ : ByteArray)[k + 1]'(by rw [mk_size]; exact hk1)).toNat : Int) != 10) = false := by rw [bAt s (k + 1) hk1, hy]; rfl
            have Hcut : Hid (Lib.cut (s.drop j) Wire.crlf = ((s.drop j).take (k - j), (s.drop j).drop (k - j + 2), true)) :=
              Wire.cut_first (s.drop j) (k - j) (by rw [List.getElem?_drop, show j + (k - j) = k by omega, List.getElem?_eq_getElem hk0, hx]) (by rw [List.getElem?_drop, show j + (k - j + 1) = k + 1 by omega, List.getElem?_eq_getElem hk1, hy]) Hno.out
            have HF : Hid (R = _) := H.out.trans (Wire.from_hit s j k z o hz1 hz2 hjk hk1 Hcut.out)
            clear hx hy Hno Hgo Hcut H
            by_cases b1 : 1000 < k - j
            · have hR : Hid (R = (o, 12)) := by show _ = _; rw [HF.out, if_pos b1]
              have b1' : (1000 : Int) < (k : Int) - (j : Int) := by omega
              clear HF
              go_wp2_with fail
              go_ret2
              rw [hR.out]
              exact ⟨_, rfl, hown, hb⟩
            · have HF2 := HF.out
              rw [if_neg b1] at HF2
              have b1' : ¬ (1000 : Int) < (k : Int) - (j : Int) := by omega
              have hsz : ((⟨s.toArray⟩ : ByteArray).extract j k).size = k - j := by
                rw [ByteArray.size_extract, mk_size]; omega
              by_cases b2 : k - j ≠ 0
              · rw [if_pos b2] at HF2
                have hLw := fun w => length_walk ((s.drop j).take (k - j)) w (by rw [List.length_take]; omega)
                rw [← txt_slice] at hLw
                have hLb := Wire.lengthM_bound ((s.drop j).take (k - j))
                have HF3 := Lib.hid HF2
                clear HF HF2
                generalize Wire.lengthM ((s.drop j).take (k - j)) = M at *
                have b2' : 0 < k - j := by omega
                go_wp2_with fail
                refine (hLw _).mono ?_
                clear hLw
                rintro e w' ⟨rfl, rfl⟩
                by_cases hm : M = -2
                · have hR : Hid (R = (o, 3)) := by show _ = _; rw [HF3.out, if_pos hm]
                  subst hm
                  clear HF3
                  go_wp2_with fail
                  go_ret2
                  rw [hR.out]
                  exact ⟨_, rfl, hown, hb⟩
                · have HF4 := HF3.out
                  rw [if_neg hm] at HF4
                  have hm' : (M == -2) = false := by simp [hm]
                  by_cases hp : 0 ≤ M
                  · rw [if_pos hp] at HF4
                    have HF5 := Lib.hid HF4
                    clear HF3 HF4
                    go_wp2_with fail
                    go_roundw
                    case rel => exact ⟨k + 2, M, o, by go_num, rfl, by omega, by omega, hLb.2, by omega, hown, hb, HF5.out⟩
                    case measure => simp [intOf]; omega
                  · rw [if_neg hp] at HF4
                    have HF5 := Lib.hid HF4
                    clear HF3 HF4
                    go_wp2_with fail
                    go_roundw
                    case rel => exact ⟨k + 2, z, o, by go_num, rfl, by omega, hz1, hz2, by omega, hown, hb, HF5.out⟩
                    case measure => simp [intOf]; omega
              · rw [if_neg b2] at HF2
                have hsz0 : ((⟨s.toArray⟩ : ByteArray).extract j k).size = 0 := by rw [hsz]; omega
                clear hsz
                by_cases hzn : z < 0
                · rw [if_pos hzn] at HF2
                  have HF5 := Lib.hid HF2
                  clear HF HF2
                  go_wp2_with fail
                  go_ret2
                  rw [HF5.out]
                  exact ⟨_, rfl, hown, hb⟩
                · rw [if_neg hzn] at HF2
                  by_cases hsh : ((s.length - (k + 2) : Nat) : Int) < z
                  · rw [if_pos hsh] at HF2
                    have HF5 := Lib.hid HF2
                    have hsh' : (s.length : Int) - ((k : Int) + 2) < z := by omega
                    clear HF HF2 hsh
                    go_wp2_with fail
                    go_ret2
                    rw [HF5.out]
                    exact ⟨_, rfl, hown, hb⟩
                  · rw [if_neg hsh] at HF2
                    have HF5 := Lib.hid HF2
                    clear HF HF2
                    obtain ⟨n, rfl⟩ : ∃ n : Nat, z = n := ⟨z.toNat, by omega⟩
                    have hsh' : ¬ (s.length : Int) - ((k : Int) + 2) < (n : Int) := by omega
                    have hkn : k + 2 + n ≤ s.length := by omega
                    obtain ⟨Av, cv, rfl⟩ := own_form hown
                    clear hsh
                    go_wp2_with (at_builtin; refine wpList_append_lies _ rfl _ _ 22 rfl w.heap.size 9 i0 _ 1 16 Tryd.underlying22 ji jz0 jz1 jz2 rfl (by omega) _ o.length (txtV o) rfl (hown.alloc _) ⟨wr.heap.size, 0, none⟩ 1 1 [.string ((⟨s.toArray⟩ : ByteArray).extract (k + 2) (k + 2 + n))] rfl rfl (World.news_of_block (cs := #[.string ((⟨s.toArray⟩ : ByteArray).extract (k + 2) (k + 2 + n))]) (t := 9) (fr := (0, 0)) (heap_alloc_new wr _)) (by simp [Value.oneCell']) (by omega) (by unfold maxLen; omega) (by omega) (by simp; omega) _ rfl ?_; intro gg cap' w3 hown3 hgrow hat hlt3)
                    go_roundw
                    case rel =>
                      rw [txt_slice, show k + 2 + n - (k + 2) = n by omega] at hown3
                      refine ⟨k + 2 + n, -1, o ++ [(s.drop (k + 2)).take n], by go_num, rfl, hkn, by omega, by omega, by simp; omega, by rw [txtV_snoc, List.length_append]; exact hown3, (hb.alloc hbs _).grown hgrow (by simp; omega) (fun g hg => (hown.lt g hg).1), ?_⟩
                      show _ = _
                      rw [HF5.out]; rfl
                    case measure => simp [intOf]; omega
          · have e2 : ((((⟨s.toArray⟩ : ByteArray)[k + 1]'(by rw [mk_size]; exact hk1)).toNat : Int) != 10) = true := by
              rw [bAt s (k + 1) hk1]
              simp
              intro e
              exact hy (UInt8.toNat_inj.1 (show s[k + 1].toNat = 10 by omega))
            have Hn := Hgo.out (.inr (by rw [List.getElem?_eq_getElem hk1]; intro e; injection e with e; exact hy e))
            clear hx hy Hno Hgo
            go_wp2_with fail
            go_round
            case rel => exact ⟨k + 1, by go_num, by omega, by omega, Hn⟩
            case measure => simp [intOf]; omega
        · have e1 : ((((⟨s.toArray⟩ : ByteArray)[k]'(by rw [mk_size]; exact hk0)).toNat : Int) != 13) = true := by
            rw [bAt s k hk0]
            simp
            intro e
            exact hx (UInt8.toNat_inj.1 (show s[k].toNat = 13 by omega))
          have Hn := Hgo.out (.inl (by rw [List.getElem?_eq_getElem hk0]; intro e; injection e with e; exact hx e))
          clear hx Hno Hgo
          go_wp2_with fail
          go_round
          case rel => exact ⟨k + 1, by go_num, by omega, by omega, Hn⟩
          case measure => simp [intOf]; omega
      · have i2 : ¬ (k : Int) + 1 < (s.length : Int) := by omega
        have Hcut : Hid (Lib.cut (s.drop j) Wire.crlf = (s.drop j, [], false)) := Wire.cut_none _ fun i h1 h2 => by
          have h3 := (List.getElem?_eq_some_iff.1 h2).1
          rw [List.length_drop] at h3
          exact Hno.out i (by omega) h1 h2
        have HF : Hid (R = _) := H.out.trans (Wire.from_miss s j z o hz1 hz2 Hcut.out)
        have hdl : (s.drop j).length = s.length - j := List.length_drop
        clear Hno Hgo Hcut H
        by_cases m1 : (s.length : Int) - (j : Int) ≤ 1000
        · have ht : Wire.tooLong (s.drop j) = false := by
            unfold Wire.tooLong
            rw [hdl]
            have : decide (1000 < s.length - j) = false := decide_eq_false (by omega)
            rw [this]; rfl
          have HF5 : Hid (R = (o, 0)) := by show _ = _; rw [HF.out, ht]; rfl
          have m1' : ¬ (1000 : Int) < (s.length : Int) - (j : Int) := by omega
          clear HF ht hdl
          go_wp2_with fail
          go_ret2
          rw [HF5.out]
          exact ⟨_, rfl, hown, hb⟩
        · by_cases m2 : 1001 < (s.length : Int) - (j : Int)
          · have ht : Wire.tooLong (s.drop j) = true := by
              unfold Wire.tooLong
              rw [hdl]
              have h1 : decide (1000 < s.length - j) = true := decide_eq_true (by omega)
              have h2 : decide (1001 < s.length - j) = true := decide_eq_true (by omega)
              rw [h1, h2]; rfl
            have HF5 : Hid (R = (o, 12)) := by show _ = _; rw [HF.out, ht]; rfl
            have m1' : (1000 : Int) < (s.length : Int) - (j : Int) := by omega
            clear HF ht hdl
            go_wp2_with fail
            go_ret2
            rw [HF5.out]
            exact ⟨_, rfl, hown, hb⟩
          · have m1' : (1000 : Int) < (s.length : Int) - (j : Int) := by omega
            have hlast : s.length - 1 < s.length := by omega
            have q1 : (0 : Int) ≤ (s.length : Int) - 1 := by omega
            have q2 : (s.length : Int) - 1 < (s.length : Int) := by omega
            have hlg : (s.drop j).getLast? = some s[s.length - 1] := by
              rw [List.getLast?_drop, if_neg (by omega), List.getLast?_eq_getElem?, List.getElem?_eq_getElem hlast]
            have h1 : decide (1000 < s.length - j) = true := decide_eq_true (by omega)
            have h2 : decide (1001 < s.length - j) = false := decide_eq_false (by omega)
            by_cases hb13 : s[s.length - 1] = 13
            · have ht : Wire.tooLong (s.drop j) = false := by
                unfold Wire.tooLong
                rw [hdl, h1, h2, hlg, hb13]; rfl
              have HF5 : Hid (R = (o, 0)) := by show _ = _; rw [HF.out, ht]; rfl
              have e3 : ((((⟨s.toArray⟩ : ByteArray)[s.length - 1]'(by rw [mk_size]; exact hlast)).toNat : Int)) = 13 := by rw [bAt s _ hlast, hb13]; rfl
              clear HF ht hdl h1 h2 hlg hb13
              go_wp2_with fail
              go_ret2
              rw [HF5.out]
              exact ⟨_, rfl, hown, hb⟩
            · have ht : Wire.tooLong (s.drop j) = true := by
                unfold Wire.tooLong
                rw [hdl, h1, h2, hlg]
                simp [hb13]
              have HF5 : Hid (R = (o, 12)) := by show _ = _; rw [HF.out, ht]; rfl
              have e3 : ¬ ((((⟨s.toArray⟩ : ByteArray)[s.length - 1]'(by rw [mk_size]; exact hlast)).toNat : Int)) = 13 := by
                rw [bAt s _ hlast]
                intro e
                exact hb13 (UInt8.toNat_inj.1 (show s[s.length - 1].toNat = 13 by omega))
              clear HF ht hdl h1 h2 hlg hb13
              go_wp2_with fail
              go_ret2
              rw [HF5.out]
              exact ⟨_, rfl, hown, hb⟩
end Go.Proofs.YtccljojceoidhaaDoor
