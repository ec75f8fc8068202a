/-
  THE WALK of the document's length.
-/
import Derived.Test.YtccljojceoidhaaDoorWD
import Derived.Test.YtccljojceoidhaaDoorWI
namespace Go.Proofs.YtccljojceoidhaaDoor
open Go.RowKit

theorem bAt (l : Bs) (k : Nat) (h : k < l.length) : ((⟨l.toArray⟩ : ByteArray)[k]'(by rw [mk_size]; exact h)).toNat = l[k].toNat := rfl
theorem ext_list (s : Bs) (a f : Nat) : ((⟨s.toArray⟩ : ByteArray).extract a f).toList = (s.take f).drop a := by
  rw [Lib.toList_data, ext_data]
  simp [List.drop_take]
theorem digits_all {l : Bs} {k : Nat} {P : UInt8 → Prop} (h : ∀ j (hj : j < l.length), j < k → P l[j]) (hk : l.length ≤ k) : ∀ b ∈ l, P b := fun b hb => by
  obtain ⟨j, hj, rfl⟩ := List.getElem_of_mem hb
  exact h j hj (by omega)

set_option maxHeartbeats 1000000 in
set_option maxRecDepth 100000 in
theorem length_walk (l : Bs) (w : World) (hl : l.length ≤ 100000000) :
    Calls Tryd.prog 45 #[strV l] w fun e w' => e = .returned (.int .i64 (Wire.lengthM l)) ∧ w = w' := by
  have hc := Wire.cN_le l
  generalize hL : Wire.lengthM l = L
  have HL := Lib.hid hL
  clear hL
  unfold strV
  go_enter Tryd.func45, Tryd.ntmps45
  go_wp2_with fail
  go_loop [3] (fun i => ∃ k : Nat, i = .int .i64 k ∧ k ≤ Wire.cN l) (fun i => l.length - (intOf i).toNat)
  case atStart => exact ⟨0, rfl, Nat.zero_le _⟩
  case round =>
    obtain ⟨k, rfl, hk⟩ := hrel
    have i1 : (0 : Int) ≤ (k : Int) := by omega
    by_cases hlt : k < Wire.cN l
    · have i2 : (k : Int) < (l.length : Int) := by omega
      have hkl : k < l.length := by omega
      obtain ⟨b, hb, hn⟩ := Wire.cN_before l k hlt
      have e1 : ((((⟨l.toArray⟩ : ByteArray)[k]'(by rw [mk_size]; exact hkl)).toNat : Int) != 58) = true := by
        rw [bAt l k hkl]
        rw [List.getElem?_eq_getElem hkl] at hb
        injection hb with hb
        rw [hb]
        simp
        intro e
        exact hn (UInt8.toNat_inj.1 (show b.toNat = 58 by omega))
      clear hb hn
      go_wp2_with fail
      go_round
      case rel => exact ⟨k + 1, by go_num, by omega⟩
      case measure => simp [intOf]; omega
    · obtain rfl : k = Wire.cN l := by omega
      clear hlt hk
      by_cases hend : Wire.cN l = l.length
      · have hM : Hid (L = -2) := by rw [← HL.out]; exact Wire.len_none l hend
        generalize Wire.cN l = k at *
        subst hend
        go_wp2_with fail
        go_ret
        exact ⟨by rw [hM.out]; rfl, rfl⟩
      · have hlt : Wire.cN l < l.length := by omega
        have i2 : (Wire.cN l : Int) < (l.length : Int) := by omega
        have h58 := Wire.cN_at l hlt
        have e1 : ((((⟨l.toArray⟩ : ByteArray)[Wire.cN l]'(by rw [mk_size]; exact hlt)).toNat : Int) != 58) = false := by
          rw [bAt l _ hlt]
          rw [List.getElem?_eq_getElem hlt] at h58
          injection h58 with h58
          rw [h58]; rfl
        have e2 : ((Wire.cN l : Int) == (l.length : Int)) = false := by simp; omega
        by_cases hn : l.take (Wire.cN l) = Wire.hd
        · have e3 : (((⟨l.toArray⟩ : ByteArray).extract 0 (Wire.cN l)).toList == [67, 111, 110, 116, 101, 110, 116, 45, 76, 101, 110, 103, 116, 104]) = true := by
            rw [ext_list, List.drop_zero, hn]; rfl
          have h14 := Wire.c14 hn
          have Hn := Lib.hid hn
          have Hlt := Lib.hid hlt
          have Hwrong : Hid (Wire.lenB l = false → L = -2) := fun hB => by rw [← HL.out]; exact Wire.len_wrong l Hlt.out Hn.out hB
          have Hof : Hid (l[15]? = some 32 → 17 ≤ l.length → l.length ≤ 26 → (∀ b ∈ l.drop 16, 48 ≤ b.toNat ∧ b.toNat ≤ 57) → Wire.lenB l = true) := fun h1 h2 h3 h4 => Wire.lenB_of Hlt.out Hn.out h1 h2 h3 h4
          clear hn h58 hend Hn Hlt
          generalize Wire.cN l = k at *
          subst h14
          by_cases hd1 : (l.length : Int) - 14 - 2 < 1
          · have hM : Hid (L = -2) := Hwrong.out (by
              cases hB : Wire.lenB l with
              | false => rfl
              | true => have := (Wire.lenB_need hB).2.1; omega)
            go_wp2_with fail
            go_ret
            exact ⟨by rw [hM.out]; rfl, rfl⟩
          · by_cases hd2 : 10 < (l.length : Int) - 14 - 2
            · have hM : Hid (L = -2) := Hwrong.out (by
                cases hB : Wire.lenB l with
                | false => rfl
                | true => have := (Wire.lenB_need hB).2.2.1; omega)
              go_wp2_with fail
              go_ret
              exact ⟨by rw [hM.out]; rfl, rfl⟩
            · have h15 : 14 + 1 < l.length := by omega
              have j1 : (0 : Int) ≤ (14 : Int) + 1 := by omega
              have j2 : (14 : Int) + 1 < (l.length : Int) := by omega
              by_cases h32 : l[14 + 1] = 32
              · have e4 : ((((⟨l.toArray⟩ : ByteArray)[14 + 1]'(by rw [mk_size]; exact h15)).toNat : Int) != 32) = false := by
                  rw [bAt l _ h15, h32]; rfl
                have H32 : Hid (l[15]? = some 32) := by show _ = _; rw [List.getElem?_eq_getElem h15, h32]
                clear h32
                have hDl : (l.drop 16).length = l.length - 16 := List.length_drop ..
                go_wp2_with fail
                go_loop [4, 6] (fun n i => ∃ j nv : Nat, i = .int .i64 j ∧ n = .int .i64 nv ∧ 16 ≤ j ∧ j ≤ l.length ∧ Hid (Lib.decFrom 0 ((l.drop 16).take (j - 16)) = some nv) ∧ Hid (∀ i (hi : i < (l.drop 16).length), i < j - 16 → 48 ≤ (l.drop 16)[i].toNat ∧ (l.drop 16)[i].toNat ≤ 57)) (fun _ i => l.length - (intOf i).toNat)
                case atStart => exact ⟨16, 0, rfl, rfl, by omega, by omega, rfl, fun i hi h => by omega⟩
                case round =>
                  obtain ⟨j, nv, rfl, rfl, hj1, hj2, Hd, Ha⟩ := hrel
                  have hnv : nv < 10000000000 := by
                    have h1 := Lib.decFrom_lt _ 0 nv Hd.out
                    have h2 : ((l.drop 16).take (j - 16)).length ≤ 10 := by rw [List.length_take]; omega
                    have h3 : 10 ^ ((l.drop 16).take (j - 16)).length ≤ 10 ^ 10 := Nat.pow_le_pow_right (by omega) h2
                    omega
                  by_cases hjl : j < l.length
                  · have q1 : (0 : Int) ≤ (j : Int) := by omega
                    have q2 : (j : Int) < (l.length : Int) := by omega
                    have hget : (l.drop 16)[j - 16]? = some l[j] := by rw [List.getElem?_drop, show 16 + (j - 16) = j by omega, List.getElem?_eq_getElem hjl]
                    have hb256 : (((⟨l.toArray⟩ : ByteArray)[j]'(by rw [mk_size]; exact hjl)).toNat : Int) < 256 := by rw [bAt l _ hjl]; have := l[j].toNat_lt; omega
                    by_cases hdig : 48 ≤ l[j].toNat ∧ l[j].toNat ≤ 57
                    · have f1 : ¬ (((⟨l.toArray⟩ : ByteArray)[j]'(by rw [mk_size]; exact hjl)).toNat : Int) < 48 := by rw [bAt l _ hjl]; omega
                      have f2 : ¬ (57 : Int) < (((⟨l.toArray⟩ : ByteArray)[j]'(by rw [mk_size]; exact hjl)).toNat : Int) := by rw [bAt l _ hjl]; omega
                      have Hd2 : Hid (Lib.decFrom 0 ((l.drop 16).take (j + 1 - 16)) = some (nv * 10 + (l[j].toNat - 48))) := by
                        show _ = _
                        rw [show j + 1 - 16 = (j - 16) + 1 by omega]
                        exact Wire.dec_next _ _ _ _ Hd.out hget hdig
                      have Ha2 : Hid (∀ i (hi : i < (l.drop 16).length), i < j + 1 - 16 → 48 ≤ (l.drop 16)[i].toNat ∧ (l.drop 16)[i].toNat ≤ 57) := fun i hi h => by
                        rcases Nat.lt_or_ge i (j - 16) with h1 | h1
                        · exact Ha.out i hi h1
                        · obtain rfl : i = j - 16 := by omega
                          rw [List.getElem?_eq_getElem hi] at hget
                          injection hget with hget
                          rw [hget]; exact hdig
                      have hval : Hid ((((⟨l.toArray⟩ : ByteArray)[j]'(by rw [mk_size]; exact hjl)).toNat : Int) = ((l[j].toNat : Nat) : Int)) := rfl
                      have hlo := hdig.1
                      clear hdig hget
                      go_wp2_with fail
                      go_round
                      case rel =>
                        refine ⟨j + 1, nv * 10 + (l[j].toNat - 48), by go_num, ?_, by omega, by omega, Hd2, Ha2⟩
                        have := hval.out
                        congr 1
                        omega
                      case measure => simp [intOf]; omega
                    · have hM : Hid (L = -2) := Hwrong.out (by
                        cases hB : Wire.lenB l with
                        | false => rfl
                        | true => exact absurd ((Wire.lenB_need hB).2.2.2 _ (List.mem_of_getElem? hget)) hdig)
                      have hout : (((⟨l.toArray⟩ : ByteArray)[j]'(by rw [mk_size]; exact hjl)).toNat : Int) < 48 ∨ (¬ (((⟨l.toArray⟩ : ByteArray)[j]'(by rw [mk_size]; exact hjl)).toNat : Int) < 48 ∧ (57 : Int) < (((⟨l.toArray⟩ : ByteArray)[j]'(by rw [mk_size]; exact hjl)).toNat : Int)) := by
                        rw [bAt l _ hjl]; omega
                      clear hdig hget
                      rcases hout with g1 | ⟨g1, g2⟩
                      · go_wp2_with fail
                        go_ret
                        exact ⟨by rw [hM.out]; rfl, rfl⟩
                      · go_wp2_with fail
                        go_ret
                        exact ⟨by rw [hM.out]; rfl, rfl⟩
                  · obtain rfl : j = l.length := by omega
                    have hB : Wire.lenB l = true := Hof.out H32.out (by omega) (by omega) (digits_all (k := l.length - 16) Ha.out (by omega))
                    have hM : Hid (L = nv) := by
                      rw [← HL.out]
                      show Wire.lengthM l = _
                      unfold Wire.lengthM Wire.valD
                      rw [if_pos hB]
                      have h1 := Hd.out
                      rw [List.take_of_length_le (by omega)] at h1
                      rw [h1]; rfl
                    clear hB
                    go_wp2_with fail
                    go_ret
                    exact ⟨by rw [hM.out]; rfl, rfl⟩
              · have e4 : ((((⟨l.toArray⟩ : ByteArray)[14 + 1]'(by rw [mk_size]; exact h15)).toNat : Int) != 32) = true := by
                  rw [bAt l _ h15]
                  simp
                  intro e
                  exact h32 (UInt8.toNat_inj.1 (show l[15].toNat = 32 by omega))
                have hM : Hid (L = -2) := Hwrong.out (by
                  cases hB : Wire.lenB l with
                  | false => rfl
                  | true =>
                    have := (Wire.lenB_need hB).1
                    rw [List.getElem?_eq_getElem h15] at this
                    injection this with this
                    exact absurd this h32)
                clear h32
                go_wp2_with fail
                go_ret
                exact ⟨by rw [hM.out]; rfl, rfl⟩
        · have e3 : (((⟨l.toArray⟩ : ByteArray).extract 0 (Wire.cN l)).toList == [67, 111, 110, 116, 101, 110, 116, 45, 76, 101, 110, 103, 116, 104]) = false := by
            rw [ext_list, List.drop_zero]
            cases hh : (List.take (Wire.cN l) l == [67, 111, 110, 116, 101, 110, 116, 45, 76, 101, 110, 103, 116, 104]) with
            | false => rfl
            | true => exact absurd (eq_of_beq hh) hn
          have hM : Hid (L = -1) := by rw [← HL.out]; exact Wire.len_other l hlt hn
          clear hn h58 hend
          generalize Wire.cN l = k at *
          go_wp2_with fail
          go_ret
          exact ⟨by rw [hM.out]; rfl, rfl⟩
end Go.Proofs.YtccljojceoidhaaDoor
