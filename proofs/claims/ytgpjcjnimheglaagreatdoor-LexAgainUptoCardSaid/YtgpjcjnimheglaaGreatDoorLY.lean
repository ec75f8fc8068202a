/-
  THE WALK of the document's Stay.
-/
import Derived.Test.YtgpjcjnimheglaaGreatDoorLV
import Derived.Test.YtgpjcjnimheglaaGreatDoorUH
import Derived.Deep.CutBlock
namespace Go.Proofs.YtgpjcjnimheglaaGreatDoor
open Go.RowKit

theorem now_data (s ins : Bs) (frm til : Nat) (_h2 : til ≤ s.length) : ((⟨s.toArray⟩ : ByteArray).extract 0 frm ++ (⟨ins.toArray⟩ : ByteArray) ++ (⟨s.toArray⟩ : ByteArray).extract til s.length) = (⟨(Lx.nowM s frm til ins).toArray⟩ : ByteArray) := by
  rw [← Lib.mk_data ((⟨s.toArray⟩ : ByteArray).extract 0 frm ++ (⟨ins.toArray⟩ : ByteArray) ++ (⟨s.toArray⟩ : ByteArray).extract til s.length)]
  congr 2
  rw [ByteArray.data_append, ByteArray.data_append, Array.toList_append, Array.toList_append, ext_data, ext_data]
  unfold Lx.nowM
  simp [List.take_of_length_le]

set_option maxHeartbeats 2000000 in
set_option maxRecDepth 100000 in
theorem stay_walk (s : Bs) (frm til : Nat) (ins : Bs) (w : World) (h1 : frm ≤ til) (h2 : til ≤ s.length) (hl : s.length + ins.length ≤ 4194304) :
    Calls Tryz.prog 12 #[.string ⟨s.toArray⟩, .int .i64 frm, .int .i64 til, .string ⟨ins.toArray⟩] w fun e w' =>
      e = .returned (.tuple #[.int .i64 (Lx.headM (Lx.tokR 0 s) frm), .int .i64 ((Lx.tokR 0 s).length - Lx.behindM s frm til ins), .int .i64 (Lx.anewM s frm til ins).length]) ∧ Below w.heap.size w w' := by
  have hk := rtokens_walk s w (by omega)
  have hTl := Lx.tokR_length 0 s
  have hn := now_data s ins frm til h2
  have hnl : Hid ((Lx.nowM s frm til ins).length = frm + ins.length + (s.length - til)) := Lx.now_len s frm til ins h1 h2
  have hnz : (Lx.nowM s frm til ins).length ≤ 4194304 := by rw [hnl.out]; omega
  have hor := fun (k : Nat) (h : k < (Lx.nowM s frm til ins).length) w => rone_walk (Lx.nowM s frm til ins) k w h (by omega)
  have Hor := Lib.hid hor
  clear hor
  have HG : Hid (Lx.nowM s frm til ins = Lx.nowM s frm til ins) := rfl
  generalize hnow : Lx.nowM s frm til ins = now at hn hnl hnz Hor
  have Hnow := Lib.hid hnow
  clear hnow HG
  have H1 := Lib.hid h1
  have H2 := Lib.hid h2
  have Hh : Hid (∀ k, k ≤ (Lx.tokR 0 s).length → (∀ j (hj : j < (Lx.tokR 0 s).length), j < k → (Lx.tokR 0 s)[j].2.1 + (Lx.tokR 0 s)[j].2.2 + 4 ≤ frm) → (∀ h : k < (Lx.tokR 0 s).length, ¬ (Lx.tokR 0 s)[k].2.1 + (Lx.tokR 0 s)[k].2.2 + 4 ≤ frm) → Lx.headM (Lx.tokR 0 s) frm = k) := Lx.headM_eq (Lx.tokR 0 s) frm
  have Hz : Hid (Lx.headM (Lx.tokR 0 s) frm = 0 → Lx.at0M s frm = 0) := Lx.at0_zero s frm
  have Hs : Hid (∀ k, Lx.headM (Lx.tokR 0 s) frm = k + 1 → ∃ hk : k < (Lx.tokR 0 s).length, Lx.at0M s frm = (Lx.tokR 0 s)[k].2.1 + (Lx.tokR 0 s)[k].2.2) := Lx.at0_succ s frm
  have hhl := Lx.headM_le (Lx.tokR 0 s) frm
  have Ha0 : Hid (Lx.at0M s frm ≤ now.length) := by
    show _ ≤ _
    have := Lx.at0_le s frm (by omega) til ins
    have := hnl.out
    omega
  have HN0 : Hid (Lx.anewM s frm til ins = [] ++ Lx.newR (Lx.tokR 0 s) (frm + ins.length) til (Lx.at0M s frm) (now.drop (Lx.at0M s frm))) := by
    show _ = _
    rw [List.nil_append, ← Hnow.out]; rfl
  have Htk : Hid (∀ j (hj : j < (Lx.tokR 0 s).length), (Lx.tokR 0 s)[j].2.1 + (Lx.tokR 0 s)[j].2.2 ≤ s.length) := Lx.tok_end s
  generalize hH : Lx.headM (Lx.tokR 0 s) frm = H at *
  generalize hA0 : Lx.at0M s frm = a0 at *
  have HA0 := Lib.hid hA0
  clear hH hA0
  go_enter Tryz.func12, Tryz.ntmps12
  go_wp2_with fail
  refine hk.mono ?_
  rintro e w1 ⟨A, c, rfl, hrd, hb1⟩
  clear hk
  generalize hT : Lx.tokR 0 s = T at *
  have HT := Lib.hid hT
  clear hT
  have i1 : (0 : Int) ≤ (frm : Int) := by omega
  have i2 : (frm : Int) ≤ (s.length : Int) := by omega
  have i3 : (0 : Int) ≤ (til : Int) := by omega
  have i4 : (til : Int) ≤ (s.length : Int) := by omega
  go_wp2_with fail
  go_quiet (fail)
  clear hn
  go_upto_block 0 with fail
  go_cut [14] (fun v wc => v = .int .i64 H ∧ Below w1.heap.size w1 wc)
  case first =>
    go_wp2_with fail
    go_loopw [14] (fun i wr => ∃ k : Nat, i = .int .i64 k ∧ k ≤ T.length ∧ Below w1.heap.size w1 wr ∧ Hid (∀ j (hj : j < T.length), j < k → T[j].2.1 + T[j].2.2 + 4 ≤ frm)) (fun i _ => T.length - (intOf i).toNat)
    case atStart => exact ⟨0, rfl, Nat.zero_le _, below_drewN (Below.refl _ _) _, fun _ _ h => by omega⟩
    case round =>
      obtain ⟨k, rfl, hk, hb, HK⟩ := hrel
      have j1 : (0 : Int) ≤ (k : Int) := by omega
      by_cases hlt : k < T.length
      · obtain ⟨b, o, rfl, hbB, c0, c1, c2⟩ := Rd.tk (hrd.below hb) hlt
        have htk := Htk.out k hlt
        have j2 : (k : Int) < (T.length : Int) := by omega
        have d1 : decide (k < T.length) = true := by simp [hlt]
        by_cases hc : T[k].2.1 + T[k].2.2 + 4 ≤ frm
        · have HK2 : Hid (∀ j (hj : j < T.length), j < k + 1 → T[j].2.1 + T[j].2.2 + 4 ≤ frm) := fun j hj hjk => by
            by_cases he : j = k
            · subst he; exact hc
            · exact HK.out j hj (by omega)
          generalize T[k] = x at *
          have d2 : decide ((x.2.1 : Int) + x.2.2 + 4 ≤ frm) = true := by simp; omega
          go_wp2_with fail
          go_quiet (fail)
          go_wp2_with fail
          go_roundw
          case rel => exact ⟨k + 1, by go_num, by omega, below_drewN hb _, HK2.out⟩
          case measure => simp [intOf]; omega
        · have HH := Hh.out k (by omega) HK.out (fun _ => hc)
          generalize T[k] = x at *
          have d2 : decide ((x.2.1 : Int) + x.2.2 + 4 ≤ frm) = false := by simp; omega
          have HH := Lib.hid HH
          go_wp2_with fail
          go_quiet (fail)
          go_wp2_with fail
          go_meet
          exact ⟨by rw [HH.out], below_drewN hb _⟩
      · have HH := Lib.hid (Hh.out k hk HK.out (fun h => absurd h hlt))
        have d1 : decide (k < T.length) = false := by simp; omega
        go_wp2_with fail
        go_quiet (fail)
        go_wp2_with fail
        go_meet
        exact ⟨by rw [HH.out], below_drewN hb _⟩
  case rest =>
    obtain ⟨rfl, hb⟩ := hcut
    go_upto_if 58 with fail
    go_cut [15] (fun v wc => v = .int .i64 a0 ∧ Below w1.heap.size w1 wc)
    case first =>
      by_cases h0 : H = 0
      · subst h0
        have Ha := Lib.hid (Hz.out rfl)
        go_wp2_with fail
        go_meet
        exact ⟨by rw [Ha.out]; rfl, hb⟩
      · obtain ⟨h, rfl⟩ : ∃ h, H = h + 1 := ⟨H - 1, by omega⟩
        obtain ⟨hlt, ha⟩ := Hs.out h rfl
        obtain ⟨b, o, rfl, hbB, c0, c1, c2⟩ := Rd.tk (hrd.below hb) hlt
        have htk := Htk.out h hlt
        have Ha := Lib.hid ha
        clear ha
        generalize T[h] = x at *
        have j1 : (0 : Int) ≤ (h : Int) := by omega
        have j2 : (h : Int) < (T.length : Int) := by omega
        go_wp2_with fail
        go_quiet (fail)
        go_wp2_with fail
        go_meet
        exact ⟨by rw [Ha.out]; rfl, below_drewN hb _⟩
    case rest =>
      clear hb
      obtain ⟨rfl, hb⟩ := hcut
      clear Hh Hz Hs
      go_wp2_with fail
      go_loopw [15, 16] (fun av nv wr => ∃ (a : Nat) (acc : List Tk), av = .int .i64 a ∧ nv = .int .i64 acc.length ∧ a ≤ now.length ∧ acc.length ≤ a ∧ Below w1.heap.size w1 wr ∧ Hid (Lx.anewM s frm til ins = acc ++ Lx.newR T (frm + ins.length) til a (now.drop a)) ∧ Hid (Lx.endM a0 acc = a)) (fun av _ _ => now.length - (intOf av).toNat)
      case atStart => exact ⟨a0, [], rfl, rfl, Ha0.out, Nat.zero_le _, hb, HN0.out, rfl⟩
      case round =>
        clear hb
        obtain ⟨a, acc, rfl, rfl, ha, hacc, hb, HA, HE⟩ := hrel
        have j1 : (0 : Int) ≤ (a : Int) := by omega
        by_cases hlt : a < now.length
        · have j2 : (a : Int) < (now.length : Int) := by omega
          go_upto_region 12 with fail
          go_cut [88] (fun v wc => v = .bool (decide (frm + ins.length ≤ a)) ∧ Below w1.heap.size w1 wc)
          case first =>
            by_cases hlim : frm + ins.length ≤ a
            · have d1 : decide ((frm : Int) + ins.length ≤ a) = true := by simp; omega
              have d2 : decide ((til : Int) ≤ (a : Int) - ((now.length : Int) - s.length)) = true := by have := hnl.out; simp; omega
              go_wp2_with fail
              go_meet
              exact ⟨by rw [decide_eq_true hlim], hb⟩
            · have d1 : decide ((frm : Int) + ins.length ≤ a) = false := by simp; omega
              go_wp2_with fail
              go_meet
              exact ⟨by rw [decide_eq_false hlim], hb⟩
          case rest =>
            clear hb
            obtain ⟨rfl, hb⟩ := hcut
            go_upto_if 88 with fail
            go_cut [] (fun wc => Below w1.heap.size w1 wc ∧ Hid (Lx.stopB T (frm + ins.length) til a = false))
            case first =>
              by_cases hlim : frm + ins.length ≤ a
              · have d1 : decide (frm + ins.length ≤ a) = true := by simp; omega
                have HL := Lib.hid hlim
                clear hlim
                go_wp2_with fail
                go_loopw [17] (fun kv wr => ∃ k : Nat, kv = .int .i64 k ∧ k ≤ T.length ∧ Below w1.heap.size w1 wr ∧ Hid (∀ j (hj : j < T.length), j < k → T[j].2.1 + (frm + ins.length) ≠ a + til)) (fun kv _ => T.length - (intOf kv).toNat)
                case atStart => exact ⟨0, rfl, Nat.zero_le _, hb, fun _ _ h => by omega⟩
                case round =>
                  clear hb
                  obtain ⟨k, rfl, hk, hb, HK⟩ := hrel
                  have k1 : (0 : Int) ≤ (k : Int) := by omega
                  by_cases hkt : k < T.length
                  · obtain ⟨b, o, rfl, hbB, c0, c1, c2⟩ := Rd.tk (hrd.below hb) hkt
                    have htk := Htk.out k hkt
                    have k2 : (k : Int) < (T.length : Int) := by omega
                    by_cases he : T[k].2.1 + (frm + ins.length) = a + til
                    · have HX := Lx.stay_stop (s := s) (frm := frm) (til := til) (ins := ins) (at_ := a) (k := k) (acc := acc) (by rw [Hnow.out, HT.out]; exact HA.out) (by rw [HA0.out]; exact HE.out) HL.out (by rw [HT.out]; exact hkt) (by simp only [HT.out]; exact he)
                      have HX := Lib.hid HX
                      generalize T[k] = x at *
                      have e1 : ((x.2.1 : Int) == (a : Int) - ((now.length : Int) - s.length)) = true := by have := hnl.out; have := H2.out; simp; omega
                      clear he
                      go_wp2_with fail
                      go_ret3
                      refine ⟨?_, hb1.trans (hb.mono hb1.size)⟩
                      rw [HX.out.1, HX.out.2, HT.out]
                      rfl
                    · have HK2 : Hid (∀ j (hj : j < T.length), j < k + 1 → T[j].2.1 + (frm + ins.length) ≠ a + til) := fun j hj hjk => by
                        by_cases he2 : j = k
                        · subst he2; exact he
                        · exact HK.out j hj (by omega)
                      generalize T[k] = x at *
                      have e1 : ((x.2.1 : Int) == (a : Int) - ((now.length : Int) - s.length)) = false := by have := hnl.out; have := H2.out; simp; omega
                      clear he
                      go_wp2_with fail
                      go_roundw
                      case rel => exact ⟨k + 1, by go_num, by omega, hb, HK2.out⟩
                      case measure => simp [intOf]; omega
                  · obtain rfl : k = T.length := by omega
                    have HX : Hid (Lx.stopB T (frm + ins.length) til a = false) := by
                      have := Lx.stay_go (s := s) (frm := frm) (til := til) (ins := ins) (at_ := a) (by rw [HT.out]; exact fun j hj => HK.out j hj hj)
                      rw [HT.out] at this
                      exact this
                    go_wp2_with fail
                    go_meet
                    exact ⟨hb, HX.out⟩
              · have d1 : decide (frm + ins.length ≤ a) = false := by simp; omega
                have HX : Hid (Lx.stopB T (frm + ins.length) til a = false) := by
                  have := Lx.Kp.go_low (s := s) (frm := frm) (til := til) (ins := ins) hlim
                  rw [HT.out] at this
                  exact this
                go_wp2_with fail
                go_meet
                exact ⟨hb, HX.out⟩
            case rest =>
              clear hb
              obtain ⟨hb, HS⟩ := hcut
              have hne : now.drop a ≠ [] := by intro e; have := congrArg List.length e; rw [List.length_drop, List.length_nil] at this; omega
              have hone := Lx.one_le (now.drop a) hne
              rw [List.length_drop] at hone
              have HA2 : Hid (Lx.anewM s frm til ins = (acc ++ [((Lx.oneM (now.drop a)).1, a, (Lx.oneM (now.drop a)).2)]) ++ Lx.newR T (frm + ins.length) til (a + (Lx.oneM (now.drop a)).2) (now.drop (a + (Lx.oneM (now.drop a)).2))) := by
                show _ = _
                rw [HA.out, Lx.newR_go _ _ _ _ HS.out hne, List.drop_drop]; simp
              have hcall := Hor.out a hlt wc
              generalize Lx.oneM (now.drop a) = X at *
              obtain ⟨x1, x2⟩ := X
              simp only at hone HA2
              have hcall : Calls Tryz.prog 35 _ wc fun e w' => e = .returned (.agg #[.int .i64 x1, .int .i64 a, .int .i64 x2]) ∧ Below wc.heap.size wc w' := hcall
              obtain ⟨o1, o2, o3, o4⟩ := hone
              clear hne HA HE HS o3 o4
              go_wp2_with fail
              refine hcall.mono ?_
              clear hcall
              rintro e w2 ⟨rfl, hb2⟩
              have hb12 := hb.trans (hb2.mono hb.size)
              have hbA : Below w1.heap.size w1 (w2.alloc (.cells #[.int .i64 x1, .int .i64 a, .int .i64 x2] 85)) := hb12.alloc hb12.size _
              go_wp2_with fail
              go_roundw
              case rel => exact ⟨a + x2, acc ++ [(x1, a, x2)], by go_num, by simp, by omega, by simp; omega, hbA, HA2.out, by show _ = _; rw [Lx.endM_snoc]⟩
              case measure => simp [intOf]; omega
        · obtain rfl : a = now.length := by omega
          have HX := Lx.stay_end (s := s) (frm := frm) (til := til) (ins := ins) (at_ := now.length) (acc := acc) (by rw [Hnow.out, HT.out]; exact HA.out) (by rw [HA0.out]; exact HE.out) H1.out H2.out (by rw [Hnow.out])
          rw [HT.out] at HX
          have HX := Lib.hid HX
          clear HA HE
          go_wp2_with fail
          go_ret3
          refine ⟨?_, hb1.trans (hb.mono hb1.size)⟩
          rw [HX.out.1, HX.out.2, HT.out]
          simp
end Go.Proofs.YtgpjcjnimheglaaGreatDoor
