/-
  JOINED of the texts OB OC OD
-/
import Derived.Test.YtgpjcjnimheglaaGreatDoorJB
import Derived.Test.YtgpjcjnimheglaaGreatDoorJC
/-
  WALKS of the document's reader of messages: many, at a map.
-/
namespace Go.Proofs.YtgpjcjnimheglaaGreatDoor
open Go.RowKit

namespace Jp
variable {s : List UInt8} {val : Nat → Rs JT} {st : KK} {i k k2 k3 p er : Nat} {key : List UInt8} {j : JT}
theorem oneM_tbad (h : textP s (skipP s i) = .bad p er) : oneM s val st i = .bad p er := by unfold oneM; rw [h]
theorem oneM_dup (h : textP s (skipP s i) = .ok key k) (hk : key ∈ st.1) : oneM s val st i = .bad (skipP s i) 5 := by unfold oneM; rw [h]; simp only [hk, if_true]
theorem oneM_col (h : textP s (skipP s i) = .ok key k) (hk : key ∉ st.1) (hn : s[skipP s k]? ≠ some 58) : oneM s val st i = .bad (skipP s k) 3 := by
  unfold oneM; rw [h]; simp only [hk, if_false]; unfold needP; rw [if_neg hn]
theorem oneM_vbad (h : textP s (skipP s i) = .ok key k) (hk : key ∉ st.1) (hn : s[skipP s k]? = some 58) (hv : val (skipP s k + 1) = .bad p er) : oneM s val st i = .bad p er := by
  unfold oneM; rw [h]; simp only [hk, if_false]; unfold needP; rw [if_pos hn]; simp only [hv]
theorem oneM_mk (h : textP s (skipP s i) = .ok key k) (hk : key ∉ st.1) (hn : s[skipP s k]? = some 58) (hv : val (skipP s k + 1) = .ok j k3) : oneM s val st i = .ok (st.1 ++ [key], st.2 ++ [j]) k3 := by
  unfold oneM; rw [h]; simp only [hk, if_false]; unfold needP; rw [if_pos hn]; simp only [hv]
theorem text_no (h : s[skipP s i]? ≠ some 34) : textP s (skipP s i) = .bad (skipP s i) 3 := by
  unfold textP needP; rw [skip_skip s _ i (Nat.le_refl _), if_neg h]
theorem text_yes (h : s[skipP s i]? = some 34) : textP s (skipP s i) = txtP s (skipP s i + 1) := by
  unfold textP needP; rw [skip_skip s _ i (Nat.le_refl _), if_pos h]
end Jp

set_option maxHeartbeats 8000000 in
set_option maxRecDepth 100000 in
theorem rmanyM_walk (g f dep : Nat) (s : Bs) (hl : s.length ≤ 16777216) (hdep : dep ≤ 40)
    (hv : ∀ (i : Nat) (w : World), RrAt w g s i 0 0 → i ≤ s.length → Calls Tryz.prog 59 #[.pointer (some ⟨g, 0, none⟩), .int .i64 ((dep : Int) + 1)] w (RrE g s w (rjV w.heap.size f) (Jp.valF s f (dep + 1) i)))
    (i : Nat) (w : World) (h : RrAt w g s i 0 0) (hi : i < s.length) :
    Calls Tryz.prog 97 #[.pointer (some ⟨g, 0, none⟩), .int .u8 123, .int .i64 dep] w (RrE g s w (rjV w.heap.size (f + 1)) (Jp.listP (Jp.itemsP (Jp.oneM s (Jp.valF s f (dep + 1))) 125 s ([], []) i) 5)) := by
  obtain ⟨i0, ji, jz0, jz1, jz2⟩ := info_parts infoPJ
  obtain ⟨i1, si, sz0, sz1, sz2⟩ := info_parts infoStr
  have hgl := h.lt
  obtain ⟨bj, hbj⟩ : ∃ b, b = w.heap.size := ⟨_, rfl⟩
  have hB4 : Blk (w.alloc (.cells #[.int .i64 4, .int .i64 0, .string ⟨#[]⟩, .slice none 0 0, .slice none 0 0] 78)) bj 78 #[.int .i64 4, .int .i64 0, .string ⟨#[]⟩, .slice none 0 0, .slice none 0 0] := by rw [hbj]; exact Blk.new _ _ _
  have hbl : Below w.heap.size w (w.alloc (.cells #[.int .i64 4, .int .i64 0, .string ⟨#[]⟩, .slice none 0 0, .slice none 0 0] 78)) := (Below.refl _ _).alloc (Nat.le_refl _) _
  have h1 := h.below hbl hgl
  have ha1 := AftR.of_below hbl (Nat.le_of_lt hgl)
  have hgj : Hid (w.heap.size ≤ bj) := by show _ ≤ _; omega
  have hgb : g < bj := by omega
  generalize hR : Jp.listP (Jp.itemsP (Jp.oneM s (Jp.valF s f (dep + 1))) 125 s ([], []) i) 5 = R
  have HR : Hid (R = Jp.listP (if s[Jp.skipP s (i + 1)]? = some 125 then .ok ([], []) (Jp.skipP s (i + 1) + 1) else Jp.manyF (Jp.oneM s (Jp.valF s f (dep + 1))) 125 s (s.length + 1) ([], []) (Jp.skipP s (i + 1))) 5) := hR.symm
  clear hR hbl
  go_enter Tryz.func97, Tryz.ntmps97
  go_upto_region 3 with fail
  rw [← hbj]
  have HBJ := Lib.hid hbj
  clear hbj h
  generalize w.alloc (.cells #[.int .i64 4, .int .i64 0, .string ⟨#[]⟩, .slice none 0 0, .slice none 0 0] 78) = w1 at *
  have hB5 : Blk (w1.setCell ⟨bj, 0, none⟩ (.int .i64 5)) bj 78 #[.int .i64 5, .int .i64 0, .string ⟨#[]⟩, .slice none 0 0, .slice none 0 0] := by
    have := hB4.set_ 0 (.int .i64 5)
    simpa using this
  have h5 : RrAt (w1.setCell ⟨bj, 0, none⟩ (.int .i64 5)) g s i 0 0 := Blk.far h1 (p := ⟨bj, 0, none⟩) (by simp; omega) (.int .i64 5)
  have ha5 := ha1.far (b := bj) hgj.out hgl 0 (.int .i64 5)
  have f0 := hB4.frozen 0
  have d0 := hB4.cell 0
  simp at d0
  go_upto_region 6 with fail
  clear hB4 h1 ha1 f0 d0
  have hB4 := hB5
  have h1 := h5
  have ha1 := ha5
  clear hB5 h5 ha5
  generalize w1.setCell ⟨bj, 0, none⟩ (.int .i64 5) = w1 at *
  have c1 := Blk.cell h1 1
  have f1 := Blk.frozen h1 1
  simp at c1
  have h2 := h1.move (i + 1)
  have hJ2 : RSt w g bj f 5 (w1.setCell ⟨g, 1, none⟩ (.int .i64 ((i + 1 : Nat) : Int))) ([], []) (.slice none 0 0) (.slice none 0 0) [] := RSt.start (ha1.set 1 _) (hB4.far (p := ⟨g, 1, none⟩) (by simp; omega) _) hgl hgj.out
  have E1 : Hid ((i : Int) + 1 = ((i + 1 : Nat) : Int)) := by show _ = _; omega
  go_upto_region 7 with fail
  rw [E1.out]
  clear c1 f1 h1 ha1 hB4 E1
  generalize w1.setCell ⟨g, 1, none⟩ (.int .i64 ((i + 1 : Nat) : Int)) = w1 at *
  have hle := Jp.skip_le s (i + 1) (by omega)
  have hge := Jp.skip_ge s (i + 1)
  have hsg := rsign_walk g s (i + 1) 125 w1 h2 (by omega) hl
  generalize Jp.skipP s (i + 1) = q0 at *
  have HR1 : Hid (decide (s[q0]? = some 125) = true → R = Jp.listP (.ok ([], []) (q0 + 1)) 5) := fun h => by rw [HR.out, if_pos (of_decide_eq_true h)]
  have HR2 : Hid (decide (s[q0]? = some 125) = false → R = Jp.listP (Jp.manyF (Jp.oneM s (Jp.valF s f (dep + 1))) 125 s (s.length + 1) ([], []) q0) 5) := fun h => by rw [HR.out, if_neg (of_decide_eq_false h)]
  have HQ : Hid (decide (s[q0]? = some 125) = true → q0 < s.length) := fun h => Jp.get_lt (of_decide_eq_true h)
  clear HR
  generalize decide (s[q0]? = some 125) = qd at *
  have Hv := Lib.hid hv
  clear hv
  go_wp2_with fail
  refine hsg.mono ?_
  clear hsg
  rintro en w2 ⟨rfl, h3, ha3⟩
  have hJ3 := hJ2.after ha3
  clear h2 hJ2 ha3
  go_upto_block 0 with fail
  go_wp2_with fail
  go_loopg [9] (s.length) (fun q v9 wr => ∃ (ov : Bool) (m : Nat) (st : Jp.KK) (vK vD : Value) (xs : List Value), v9 = .bool ov ∧ s.length - m ≤ q ∧ m ≤ s.length ∧ RrAt wr g s m 0 0 ∧ RSt w g bj f 5 wr st vK vD xs ∧ (4 * st.1.length ≤ m ∧ st.2.length ≤ m) ∧
    Hid (ov = true → R = Jp.listP (.ok st m) 5) ∧ Hid (ov = false → ∃ fu, s.length ≤ fu + m ∧ R = Jp.listP (Jp.manyF (Jp.oneM s (Jp.valF s f (dep + 1))) 125 s (fu + 1) st m) 5))
  case atStart =>
    cases qd with
    | true => exact ⟨true, q0 + 1, ([], []), _, _, _, rfl, by omega, HQ.out rfl, h3, hJ3, ⟨by simp, by simp⟩, fun _ => HR1.out rfl, fun h => by cases h⟩
    | false => exact ⟨false, q0, ([], []), _, _, _, rfl, by omega, hle, h3, hJ3, ⟨by simp, by simp⟩, fun h => (by cases h), fun _ => ⟨s.length, by omega, HR2.out rfl⟩⟩
  case round =>
    clear h3 hJ3 HR1 HR2 HQ
    obtain ⟨ov, m, st, vK, vD, xs, rfl, hq, hm, h3, hJ, hM, HT, HF⟩ := hrel
    cases ov with
    | true =>
      have HB := Lib.hid (HT.out rfl)
      clear HT HF
      go_wp2_with fail
      go_ret
      exact RrE.ok (show R = .ok (.mk 5 0 [] st.1 st.2) m from HB.out) hJ.aft h3 ⟨bj, rfl, hJ.end_⟩
    | false =>
      obtain ⟨fu, hfu, hRm⟩ := HF.out rfl
      have HB : Hid (R = Jp.listP (Jp.manyF (Jp.oneM s (Jp.valF s f (dep + 1))) 125 s (fu + 1) st m) 5) := hRm
      clear HT HF hRm
      have hmge := Jp.skip_ge s m
      have hmle := Jp.skip_le s m hm
      have hbk := rblank_walk g s m 0 0 wr h3 hm hl
      have HT0 : Hid (s[Jp.skipP s m]? ≠ some 34 → Jp.textP s (Jp.skipP s m) = .bad (Jp.skipP s m) 3) := Jp.text_no
      have HT1 : Hid (s[Jp.skipP s m]? = some 34 → Jp.textP s (Jp.skipP s m) = Jp.txtP s (Jp.skipP s m + 1)) := Jp.text_yes
      have HTA : Hid ((Jp.textP s (Jp.skipP s m)).Ahead (Jp.skipP s m) s.length) := Jp.text_ahead s _ hmle
      have HX1 : Hid (∀ p er, Jp.textP s (Jp.skipP s m) = .bad p er → R = .bad p er) := fun p er h => by rw [HB.out, Jp.many_bad (Jp.oneM_tbad h)]; rfl
      have HX2 : Hid (∀ key k, Jp.textP s (Jp.skipP s m) = .ok key k → key ∈ st.1 → R = .bad (Jp.skipP s m) 5) := fun key k h hk => by rw [HB.out, Jp.many_bad (Jp.oneM_dup h hk)]; rfl
      have HX3 : Hid (∀ key k, Jp.textP s (Jp.skipP s m) = .ok key k → key ∉ st.1 → s[Jp.skipP s k]? ≠ some 58 → R = .bad (Jp.skipP s k) 3) := fun key k h hk hn => by rw [HB.out, Jp.many_bad (Jp.oneM_col h hk hn)]; rfl
      have HX4 : Hid (∀ key k, Jp.textP s (Jp.skipP s m) = .ok key k → key ∉ st.1 → s[Jp.skipP s k]? = some 58 → ∀ p er, Jp.valF s f (dep + 1) (Jp.skipP s k + 1) = .bad p er → R = .bad p er) := fun key k h hk hn p er hv => by rw [HB.out, Jp.many_bad (Jp.oneM_vbad h hk hn hv)]; rfl
      have HX5 : Hid (∀ key k, Jp.textP s (Jp.skipP s m) = .ok key k → key ∉ st.1 → s[Jp.skipP s k]? = some 58 → ∀ j k3, Jp.valF s f (dep + 1) (Jp.skipP s k + 1) = .ok j k3 → Jp.oneM s (Jp.valF s f (dep + 1)) st m = .ok (st.1 ++ [key], st.2 ++ [j]) k3) := fun key k h hk hn j k3 hv => Jp.oneM_mk h hk hn hv
      have HXL : Hid (∀ key k, Jp.textP s (Jp.skipP s m) = .ok key k → Jp.skipP s m + 2 ≤ k) := fun key k h => by have := Jp.text_len h; omega
      generalize hTe : Jp.textP s (Jp.skipP s m) = T at HT0 HT1 HTA HX1 HX2 HX3 HX4 HX5 HXL
      clear hTe
      generalize Jp.skipP s m = q at *
      go_wp2_with fail
      refine hbk.mono ?_
      clear hbk
      rintro en w2 ⟨rfl, h2, ha2⟩
      have hJ2 := hJ.after ha2
      clear h3 hJ ha2
      have c0 := Blk.cell h2 0
      have c1 := Blk.cell h2 1
      simp at c0 c1
      have j1 : (0 : Int) ≤ (q : Int) := by omega
      by_cases h34 : s[q]? = some 34
      · have hql := Jp.get_lt h34
        have j2 : (q : Int) < (s.length : Int) := by omega
        have d1 : decide (s.length ≤ q) = false := decide_eq_false (by omega)
        have d2 : decide ((s.length : Int) ≤ (q : Int)) = false := decide_eq_false (by omega)
        have hb : ((((⟨s.toArray⟩ : ByteArray)[q]'(by rw [mk_size]; exact hql)).toNat : Int) == (34 : Int)) = true := by
          rw [show (34 : Int) = ((34 : UInt8).toNat : Int) from rfl, bk_eq s q hql 34]
          rw [List.getElem?_eq_getElem hql] at h34
          exact decide_eq_true (Option.some.inj h34)
        have hbn : ((((⟨s.toArray⟩ : ByteArray)[q]'(by rw [mk_size]; exact hql)).toNat : Int) != (34 : Int)) = false := by unfold bne; rw [hb]; rfl
        have HT2 := Lib.hid (HT1.out h34)
        have HTX := fun w h => rtext_walk g s q w h hql hl
        rw [← HT2.out] at HTX
        clear HT0 HT1 HT2 h34
        go_wp2_with fail
        go_quiet (fail)
        go_wp2_with fail
        refine (HTX _ (h2.drewN _)).mono ?_
        clear HTX hb hbn d1 d2
        have hJ2 := hJ2.after ((AftR.refl g w2).drewN nq)
        cases T with
        | bad p er =>
          have HB2 : Hid (R = .bad p er) := HX1.out p er rfl
          intro en w5 h5
          obtain ⟨ha5, v, i5, rfl, h5, her⟩ := h5.1.is_bad
          have c2 := Blk.cell h5 2
          simp at c2
          have her1 : ((er : Int) != 0) = true := by rw [bne_iff_ne]; omega
          clear HB HX1 HX2 HX3 HX4 HX5 HXL
          go_wp2_with fail
          go_ret
          exact RrE.bad HB2.out (hJ2.aft.trans ha5) h5 her
        | ok key k1 =>
          obtain ⟨hk1, hk2⟩ := HTA.out
          intro en w5 h5
          obtain ⟨ha5, v, rfl, hr5, rfl⟩ := h5.1.is_ok
          have hJ5 := hJ2.after ha5
          clear h5 h2 hJ2 ha5 c0 c1
          have hXL := HXL.out key k1 rfl
          have c2 := Blk.cell hr5 2
          simp at c2
          obtain ⟨Ak, ck, rfl⟩ := own_form hJ5.keys
          have d3 := hJ5.obj.cell 3
          simp at d3
          have hnk : st.1.length ≤ 16777216 := by omega
          have hkc : Hid (∀ t (h : t < st.1.length), ∃ b o, Ak = some ⟨b, o, none⟩ ∧ w5.cell? ⟨b, o + t, none⟩ = some (.string ⟨(st.1[t]).toArray⟩)) := fun t ht => by
            obtain ⟨b, o, e, _, hc⟩ := (Rd.of_own hJ5.keys).2 (by omega)
            exact ⟨b, o, e, hc t _ (by simp [txtV, strV, ht])⟩
          have HDup := HX2.out key k1 rfl
          go_wp2_with fail
          go_loopg [12] (st.1.length) (fun qq v wr => wr = w5 ∧ ∃ t : Nat, v = .int .i64 t ∧ st.1.length - t ≤ qq ∧ t ≤ st.1.length ∧ Hid (key ∉ st.1.take t))
          case atStart => exact ⟨rfl, 0, rfl, Nat.le_refl _, Nat.zero_le _, by show _ ∉ _; simp⟩
          case round =>
            obtain ⟨rfl, t, rfl, hqq, htn, HNo⟩ := hrel
            have j0 : (0 : Int) ≤ (t : Int) := by omega
            by_cases ht : t < st.1.length
            · have j3 : (t : Int) < (st.1.length : Int) := by omega
              obtain ⟨b, o, rfl, hcell⟩ := hkc.out t ht
              by_cases hke : st.1[t] = key
              · have hm1 : key ∈ st.1 := by rw [← hke]; exact List.getElem_mem ht
                have HB2 := Lib.hid (HDup hm1)
                rw [hke] at hcell
                clear HDup HB HX1 HX2 HX3 HX4 HX5 HXL hke hm1 hkc
                go_wp2_with fail
                refine (rfail_first g s k1 0 5 q _ hr5).mono ?_
                rintro en w6 ⟨rfl, h6, ha6⟩
                go_wp2_with fail
                go_ret
                exact RrE.bad HB2.out (hJ5.aft.trans ha6) h6 (by omega)
              · have hne : (st.1[t] == key) = false := by simpa using hke
                have HNo2 : Hid (key ∉ st.1.take (t + 1)) := by
                  show _ ∉ _
                  rw [List.take_succ_eq_append_getElem ht]
                  intro h
                  rw [List.mem_append, List.mem_singleton] at h
                  rcases h with h | h
                  · exact HNo.out h
                  · exact hke h.symm
                generalize st.1[t] = kt at *
                clear HDup
                go_wp2_with fail
                go_roundg (st.1.length - (t + 1))
                case rel => exact ⟨rfl, t + 1, rfl, Nat.le_refl _, by omega, HNo2.out⟩
                case measure => omega
            · obtain rfl : t = st.1.length := by omega
              have hno : key ∉ st.1 := by have := HNo.out; rwa [List.take_length] at this
              have HX3 := Lib.hid (HX3.out key k1 rfl hno)
              have HX4 := Lib.hid (HX4.out key k1 rfl hno)
              have HX5 := Lib.hid (HX5.out key k1 rfl hno)
              clear HDup HNo hno hkc HX1 HX2 HXL
              go_upto_region 24 with fail
              have f3 := hJ5.obj.frozen 3
              have hBN : (wr.alloc (.cells #[.string ⟨key.toArray⟩] 9)).heap[wr.heap.size]? = some (.cells #[.string ⟨key.toArray⟩] 9 (0, 0)) := heap_alloc_new _ _
              have hbl : Below wr.heap.size wr (wr.alloc (.cells #[.string ⟨key.toArray⟩] 9)) := (Below.refl _ _).alloc (Nat.le_refl _) _
              have hJA := hJ5.after (AftR.of_below (g := g) hbl (Nat.le_of_lt hr5.lt))
              have h3A := hr5.below hbl hr5.lt
              have hsz := hJA.aft.bel.size
              have d3A := hJA.obj.cell 3
              simp at d3A
              clear hbl hJ5 hr5
              go_upto_region 25 with (at_builtin; refine wpList_append_lies _ rfl _ _ 67 rfl w.heap.size 9 i1 _ 1 16 Tryz.underlying67 si sz0 sz1 sz2 rfl (by omega) (.slice Ak st.1.length ck) st.1.length (txtV st.1) rfl hJA.keys ⟨wr.heap.size, 0, none⟩ 1 1 [.string ⟨key.toArray⟩] rfl rfl (World.news_of_block (cs := #[.string ⟨key.toArray⟩]) (t := 9) (fr := (0, 0)) hBN) (by simp [Value.oneCell']) (by omega) (by unfold maxLen; omega) (by omega) hsz _ rfl ?_; intro g1 cap1 w6 hown hgrow hat hlt6; have hobj6 := hJA.obj.grown hgrow (own_ne hJA.keys hJA.obj (by decide)); have f36 := hobj6.frozen 3; have d36 := hobj6.cell 3; simp at d36)
              have h6 : RrAt w6 g s k1 0 0 := Blk.grown h3A hgrow (own_ne hJA.keys h3A (by decide))
              have hgj6 : g ≠ bj := by omega
              have h7 : RrAt (w6.setCell ⟨bj, 3, none⟩ (.slice (some ⟨g1, 0, none⟩) (st.1.length + 1) cap1)) g s k1 0 0 := Blk.far h6 (p := ⟨bj, 3, none⟩) hgj6 _
              have hJ7 := hJA.key hgrow hat hown
              clear hJA h3A hsz d3 f3 d3A hBN hown hgrow hat hlt6 hobj6 f36 d36 h6
              generalize w6.setCell ⟨bj, 3, none⟩ (.slice (some ⟨g1, 0, none⟩) (st.1.length + 1) cap1) = w7 at *
              generalize Value.slice (some ⟨g1, 0, none⟩) (st.1.length + 1) cap1 = vK at *
              have hcle := Jp.skip_le s k1 hk2
              have hcge := Jp.skip_ge s k1
              have hsg := rsign_walk g s k1 58 w7 h7 hk2 hl
              have HCL : Hid (decide (s[Jp.skipP s k1]? = some 58) = true → Jp.skipP s k1 < s.length) := fun h => Jp.get_lt (of_decide_eq_true h)
              have HX3 : Hid (decide (s[Jp.skipP s k1]? = some 58) = false → R = .bad (Jp.skipP s k1) 3) := fun h => HX3.out (of_decide_eq_false h)
              have HX4 : Hid (decide (s[Jp.skipP s k1]? = some 58) = true → ∀ p er, Jp.valF s f (dep + 1) (Jp.skipP s k1 + 1) = .bad p er → R = .bad p er) := fun h => HX4.out (of_decide_eq_true h)
              have HX5 : Hid (decide (s[Jp.skipP s k1]? = some 58) = true → ∀ j k3, Jp.valF s f (dep + 1) (Jp.skipP s k1 + 1) = .ok j k3 → Jp.oneM s (Jp.valF s f (dep + 1)) st m = .ok (st.1 ++ [key], st.2 ++ [j]) k3) := fun h => HX5.out (of_decide_eq_true h)
              generalize decide (s[Jp.skipP s k1]? = some 58) = qcol at *
              generalize Jp.skipP s k1 = kc at *
              obtain ⟨st', hst'⟩ : ∃ st' : Jp.KK, st' = (st.1 ++ [key], st.2) := ⟨_, rfl⟩
              rw [← hst'] at hJ7
              have hs1 : Hid (st'.1 = st.1 ++ [key] ∧ st'.2 = st.2) := by rw [hst']; exact ⟨rfl, rfl⟩
              have hM2 : 4 * st'.1.length ≤ k1 + 1 + 1 ∧ st'.2.length ≤ k1 := by rw [hs1.out.1, hs1.out.2]; simp; omega
              clear hst'
              go_wp2_with fail
              refine hsg.mono ?_
              clear hsg
              rintro en w8 ⟨rfl, h8, ha8⟩
              have hJ8 := hJ7.after ha8
              clear h7 hJ7 ha8
              cases qcol with
              | false =>
                have HB2 := Lib.hid (HX3.out (by first | rfl | trivial))
                have c1 := Blk.cell h8 1
                simp at c1
                clear HX3 HX4 HX5 HB HCL
                go_wp2_with fail
                refine (rfail_first g s kc 0 3 kc _ h8).mono ?_
                rintro en w10 ⟨rfl, h10, ha10⟩
                go_wp2_with fail
                go_ret
                exact RrE.bad HB2.out (hJ8.aft.trans ha10) h10 (by omega)
              | true =>
                have hcl := HCL.out (by first | rfl | trivial)
                have HX4 := Lib.hid (HX4.out (by first | rfl | trivial))
                have HX5 := Lib.hid (HX5.out (by first | rfl | trivial))
                have h8 : RrAt w8 g s (kc + 1) 0 0 := h8
                clear HX3 HCL
                have hval := Hv.out (kc + 1) w8 h8 (by omega)
                have hva := Jp.val_ahead s f (dep + 1) (kc + 1) (by omega)
                have HO0 : Hid (∀ O, Jp.valF s f (dep + 1) (kc + 1) = O → (∀ p er, O = .bad p er → R = .bad p er) ∧ (∀ j k, O = .ok j k → Jp.oneM s (Jp.valF s f (dep + 1)) st m = .ok (st'.1, st'.2 ++ [j]) k)) := fun O hO => ⟨fun p er h => HX4.out p er (hO.trans h), fun j k h => by rw [hs1.out.1, hs1.out.2]; exact HX5.out j k (hO.trans h)⟩
                clear HX4 HX5
                generalize hO : Jp.valF s f (dep + 1) (kc + 1) = O at hval hva
                obtain ⟨hO1, hO2⟩ := HO0.out O hO
                have HO1 := Lib.hid hO1
                have HO2 := Lib.hid hO2
                clear hO HO0 hO1 hO2
                go_wp2_with fail
                refine hval.mono ?_
                clear hval
                cases O with
                | bad p er =>
                  have HB2 : Hid (R = .bad p er) := HO1.out p er rfl
                  intro en w9 h9
                  obtain ⟨ha9, v, i9, rfl, h9, her⟩ := h9.is_bad
                  have c2 := Blk.cell h9 2
                  simp at c2
                  have her1 : ((er : Int) != 0) = true := by rw [bne_iff_ne]; omega
                  clear HB HO1 HO2
                  go_wp2_with fail
                  go_ret
                  exact RrE.bad HB2.out (hJ8.aft.trans ha9) h9 her
                | ok j k2 =>
                  obtain ⟨hk3, hk2⟩ := hva
                  intro en w5 h5
                  obtain ⟨ha5, v, rfl, hr5, bx, rfl, hj⟩ := h5.is_ok
                  have HO := Lib.hid (HO2.out j k2 rfl)
                  clear HO1 HO2
                  have hB0 : w.heap.size ≤ w8.heap.size := hJ8.aft.bel.size
                  have hBj : bj < w8.heap.size := hJ8.obj.lt
                  have hBK : Hid (∀ b, vK.ownBlock = some b → b < w8.heap.size) := fun b h => (hJ8.keys.lt b h).2
                  have hBD : Hid (∀ b, vD.ownBlock = some b → b < w8.heap.size) := fun b h => (hJ8.kids.lt b h).2
                  have hJ5 := hJ8.after ha5
                  clear hJ8 h8 ha5 h5
                  have hJ := hJ5
                  have h3 := hr5
                  clear hJ5 hr5
                  obtain ⟨B, hBe⟩ : ∃ B, B = w8.heap.size := ⟨_, rfl⟩
                  rw [← hBe] at hj hB0 hBj hBK hBD
                  clear hBe
                  have c2 := Blk.cell h3 2
                  simp at c2
                  have hO := own_form hJ.kids
                  obtain ⟨Ao, co, rfl⟩ := hO
                  have d4 := hJ.obj.cell 4
                  have f4 := hJ.obj.frozen 4
                  simp at d4
                  have hnl : st'.2.length ≤ 16777216 := by omega
                  have hBN : (w5.alloc (.cells #[.pointer (some ⟨bx, 0, none⟩)] 73)).heap[w5.heap.size]? = some (.cells #[.pointer (some ⟨bx, 0, none⟩)] 73 (0, 0)) := heap_alloc_new _ _
                  have hbl : Below w5.heap.size w5 (w5.alloc (.cells #[.pointer (some ⟨bx, 0, none⟩)] 73)) := (Below.refl _ _).alloc (Nat.le_refl _) _
                  have hJA := hJ.after (AftR.of_below (g := g) hbl (Nat.le_of_lt h3.lt))
                  have h3A := h3.below hbl h3.lt
                  have hjA := hj.keep (F' := fun b => B ≤ b) (KeepF.below hbl) (fun b hb _ => hb)
                  have hsz := hJA.aft.bel.size
                  have d4A := hJA.obj.cell 4
                  simp at d4A
                  clear hbl hJ h3 hj
                  go_upto_region 33 with (at_builtin; refine wpList_append_lies _ rfl _ _ 76 rfl w.heap.size 73 i0 _ 1 8 Tryz.underlying76 ji jz0 jz1 jz2 rfl (by omega) (.slice Ao st'.2.length co) st'.2.length xs rfl hJA.kids ⟨w5.heap.size, 0, none⟩ 1 1 [.pointer (some ⟨bx, 0, none⟩)] rfl rfl (World.news_of_block (cs := #[.pointer (some ⟨bx, 0, none⟩)]) (t := 73) (fr := (0, 0)) hBN) (by simp [Value.oneCell']) (by omega) (by unfold maxLen; omega) (by omega) hsz _ rfl ?_; intro g1 cap1 w6 hown hgrow hat hlt6; have hobj6 := hJA.obj.grown hgrow (own_ne hJA.kids hJA.obj (by decide)); have f46 := hobj6.frozen 4; have d46 := hobj6.cell 4; simp at d46)
                  have h6 : RrAt w6 g s k2 0 0 := Blk.grown h3A hgrow (own_ne hJA.kids h3A (by decide))
                  have hgj6 : g ≠ bj := by omega
                  have h7 : RrAt (w6.setCell ⟨bj, 4, none⟩ (.slice (some ⟨g1, 0, none⟩) (st'.2.length + 1) cap1)) g s k2 0 0 := Blk.far h6 (p := ⟨bj, 4, none⟩) hgj6 _
                  have hJ7 := hJA.kid hjA hB0 hBj hBK.out hBD.out hgrow hat hown
                  clear hJA h3A hjA hsz d4 f4 d4A hBN hown hgrow hat hlt6 hobj6 f46 d46 h6
                  generalize w6.setCell ⟨bj, 4, none⟩ (.slice (some ⟨g1, 0, none⟩) (st'.2.length + 1) cap1) = w7 at *
                  have hle := Jp.skip_le s k2 hk2
                  have hge := Jp.skip_ge s k2
                  have hss := Jp.skip_skip s _ k2 (Nat.le_refl _)
                  have hsg := rsign_walk g s k2 125 w7 h7 hk2 hl
                  have H44 : (s[Jp.skipP s k2]? = some 125 → Jp.manyF (Jp.oneM s (Jp.valF s f (dep + 1))) 125 s (fu + 1) (st) m = .ok (st'.1, st'.2 ++ [j]) (Jp.skipP s k2 + 1)) ∧ (s[Jp.skipP s k2]? = some 44 → Jp.manyF (Jp.oneM s (Jp.valF s f (dep + 1))) 125 s (fu + 1) (st) m = Jp.manyF (Jp.oneM s (Jp.valF s f (dep + 1))) 125 s fu (st'.1, st'.2 ++ [j]) (Jp.skipP s k2 + 1)) ∧ (s[Jp.skipP s k2]? ≠ some 125 → s[Jp.skipP s k2]? ≠ some 44 → Jp.manyF (Jp.oneM s (Jp.valF s f (dep + 1))) 125 s (fu + 1) (st) m = .bad (Jp.skipP s k2) 3) := ⟨fun h => Jp.many_e HO.out h (by decide), fun h => Jp.many_44 HO.out h, fun h h' => Jp.many_no HO.out h' h⟩
                  generalize Jp.skipP s k2 = q1 at *
                  have HA : Hid (decide (s[q1]? = some 125) = true → R = Jp.listP (.ok (st'.1, st'.2 ++ [j]) (q1 + 1)) 5 ∧ q1 < s.length) := fun h => ⟨by rw [HB.out, (H44.1 (of_decide_eq_true h))], Jp.get_lt (of_decide_eq_true h)⟩
                  have HC : Hid (decide (s[q1]? = some 44) = true → R = Jp.listP (Jp.manyF (Jp.oneM s (Jp.valF s f (dep + 1))) 125 s fu (st'.1, st'.2 ++ [j]) (q1 + 1)) 5 ∧ q1 < s.length) := fun h => ⟨by rw [HB.out, H44.2.1 (of_decide_eq_true h)], Jp.get_lt (of_decide_eq_true h)⟩
                  have HD : Hid (decide (s[q1]? = some 125) = false → decide (s[q1]? = some 44) = false → R = .bad q1 3) := fun h h' => by rw [HB.out, H44.2.2 (of_decide_eq_false h) (of_decide_eq_false h')]; rfl
                  have hsc := fun w h => rsign_walk g s q1 44 w h hle hl
                  rw [hss] at hsc
                  generalize decide (s[q1]? = some 125) = qe at *
                  generalize decide (s[q1]? = some 44) = qc at *
                  clear HB HO H44 hss
                  go_wp2_with fail
                  refine hsg.mono ?_
                  clear hsg
                  rintro en w8 ⟨rfl, h8, ha8⟩
                  have hJ8 := hJ7.after ha8
                  clear h7 hJ7 ha8
                  cases qe with
                  | true =>
                    obtain ⟨hA1, hA2⟩ := HA.out (by first | rfl | trivial)
                    have HA1 := Lib.hid hA1
                    clear HA HC HD hA1 hsc
                    go_wp2_with fail
                    go_roundg (s.length - (q1 + 1))
                    case rel => exact ⟨true, q1 + 1, _, _, _, _, rfl, Nat.le_refl _, by omega, h8, hJ8, ⟨by show 4 * st'.1.length ≤ _; omega, by simp; omega⟩, fun _ => HA1.out, fun h => by cases h⟩
                    case measure => omega
                  | false =>
                    go_wp2_with fail
                    refine (hsc _ h8).mono ?_
                    clear hsc
                    rintro en w9 ⟨rfl, h9, ha9⟩
                    have hJ9 := hJ8.after ha9
                    clear h8 hJ8 ha9
                    cases qc with
                    | true =>
                      obtain ⟨hC1, hC2⟩ := HC.out (by first | rfl | trivial)
                      have HC1 := Lib.hid hC1
                      clear HA HC HD hC1
                      go_wp2_with fail
                      go_roundg (s.length - (q1 + 1))
                      case rel =>
                        obtain ⟨fu', rfl⟩ : ∃ f', fu = f' + 1 := ⟨fu - 1, by omega⟩
                        exact ⟨false, q1 + 1, _, _, _, _, rfl, Nat.le_refl _, by omega, h9, hJ9, ⟨by show 4 * st'.1.length ≤ _; omega, by simp; omega⟩, fun h => (by cases h), fun _ => ⟨fu', by omega, HC1.out⟩⟩
                      case measure => omega
                    | false =>
                      have HD1 : Hid (R = .bad q1 3) := HD.out (by first | rfl | trivial) (by first | rfl | trivial)
                      have c1 := Blk.cell h9 1
                      simp at c1
                      clear HA HC HD
                      go_wp2_with fail
                      refine (rfail_first g s q1 0 3 q1 _ h9).mono ?_
                      rintro en w10 ⟨rfl, h10, ha10⟩
                      go_wp2_with fail
                      go_ret
                      exact RrE.bad HD1.out (hJ9.aft.trans ha10) h10 (by omega)
      · have HB2 : Hid (R = .bad q 3) := HX1.out q 3 (HT0.out h34)
        have hfl := rfail_first g s q 0 3 q
        by_cases hql : q < s.length
        · have j2 : (q : Int) < (s.length : Int) := by omega
          have d1 : decide (s.length ≤ q) = false := decide_eq_false (by omega)
          have d2 : decide ((s.length : Int) ≤ (q : Int)) = false := decide_eq_false (by omega)
          have hb : ((((⟨s.toArray⟩ : ByteArray)[q]'(by rw [mk_size]; exact hql)).toNat : Int) == (34 : Int)) = false := by
            rw [show (34 : Int) = ((34 : UInt8).toNat : Int) from rfl, bk_eq s q hql 34]
            rw [List.getElem?_eq_getElem hql] at h34
            exact decide_eq_false (fun e => h34 (by rw [e]))
          have hbn : ((((⟨s.toArray⟩ : ByteArray)[q]'(by rw [mk_size]; exact hql)).toNat : Int) != (34 : Int)) = true := by unfold bne; rw [hb]; rfl
          clear HT0 HT1 HTA HX1 HX2 HX3 HX4 HX5 HXL HB h34
          go_wp2_with fail
          go_quiet (fail)
          go_wp2_with fail
          refine (hfl _ (h2.drewN _)).mono ?_
          rintro en w10 ⟨rfl, h10, ha10⟩
          go_wp2_with fail
          go_ret
          exact RrE.bad HB2.out ((hJ2.aft.drewN _).trans ha10) h10 (by omega)
        · have d1 : decide (s.length ≤ q) = true := decide_eq_true (by omega)
          have d2 : decide ((s.length : Int) ≤ (q : Int)) = true := decide_eq_true (by omega)
          clear HT0 HT1 HTA HX1 HX2 HX3 HX4 HX5 HXL HB h34
          go_wp2_with fail
          go_quiet (fail)
          go_wp2_with fail
          refine (hfl _ (h2.drewN _)).mono ?_
          rintro en w10 ⟨rfl, h10, ha10⟩
          go_wp2_with fail
          go_ret
          exact RrE.bad HB2.out ((hJ2.aft.drewN _).trans ha10) h10 (by omega)
end Go.Proofs.YtgpjcjnimheglaaGreatDoor
/-
  WALKS of the document's reader of messages: Value.
-/
namespace Go.Proofs.YtgpjcjnimheglaaGreatDoor
open Go.RowKit

theorem rjV.mono {B B' d : Nat} {j : JT} {v : Value} {w : World} (h : rjV B' d j v w) (hB : B ≤ B') : rjV B d j v w := by
  obtain ⟨b, e, hj⟩ := h
  exact ⟨b, e, hj.keep (KeepF.refl _ _) fun b hb _ => Nat.le_trans hB hb⟩
theorem rjV.box {w : World} {B d : Nat} {kn nn : Int} {t : Bs} (hB : B ≤ w.heap.size) : rjV B (d + 1) (.mk kn nn t [] []) (.pointer (some ⟨w.heap.size, 0, none⟩)) (w.alloc (.cells #[.int .i64 kn, .int .i64 nn, .string ⟨t.toArray⟩, .slice none 0 0, .slice none 0 0] 78)) :=
  rjV.leaf (Blk.new w _ _) hB

set_option maxHeartbeats 8000000 in
set_option maxRecDepth 100000 in
theorem rvalue_step (g f dep : Nat) (s : Bs) (hl : s.length ≤ 16777216) (hfd : f + dep = 40)
    (ih : 0 < f → ∀ (i : Nat) (w : World), RrAt w g s i 0 0 → i ≤ s.length → Calls Tryz.prog 59 #[.pointer (some ⟨g, 0, none⟩), .int .i64 ((dep : Int) + 1)] w (RrE g s w (rjV w.heap.size f) (Jp.valF s f (dep + 1) i)))
    (i : Nat) (w : World) (h : RrAt w g s i 0 0) (hi : i ≤ s.length) :
    Calls Tryz.prog 59 #[.pointer (some ⟨g, 0, none⟩), .int .i64 dep] w (RrE g s w (rjV w.heap.size (f + 1)) (Jp.valF s (f + 1) dep i)) := by
  have hgl := h.lt
  have hbk := rblank_walk g s i 0 0 w h hi hl
  have hle := Jp.skip_le s i hi
  generalize hRR : Jp.valF s (f + 1) dep i = R
  have HR : Hid ((match s[Jp.skipP s i]? with
    | none => .bad (Jp.skipP s i) 3
    | some c => Jp.valP s (Jp.valF s f (dep + 1)) dep c (Jp.skipP s i)) = R) := hRR
  clear hRR
  generalize Jp.skipP s i = q at *
  have j1 : (0 : Int) ≤ (q : Int) := by omega
  have jd : (0 : Int) ≤ (dep : Int) := by omega
  go_enter Tryz.func59, Tryz.ntmps59
  go_wp2_with fail
  refine hbk.mono ?_
  clear hbk
  rintro e w2 ⟨rfl, h2, haa⟩
  clear h
  have c0 := Blk.cell h2 0
  have c1 := Blk.cell h2 1
  have c2 := Blk.cell h2 2
  simp at c0 c1 c2
  by_cases hlt : q < s.length
  · have hq0 : s[q]? = some s[q] := List.getElem?_eq_getElem hlt
    have j2 : (q : Int) < (s.length : Int) := by omega
    have d1 : decide (s.length ≤ q) = false := decide_eq_false (by omega)
    have d2 : decide ((s.length : Int) ≤ (q : Int)) = false := decide_eq_false (by omega)
    go_wp2_with fail
    go_quiet (fail)
    have h2 := h2.drewN nq
    have haa := haa.drewN nq
    clear c0 c1 c2
    generalize World.drewN w2 nq = w2 at *
    have c0 := Blk.cell h2 0
    have c1 := Blk.cell h2 1
    have c2 := Blk.cell h2 2
    simp at c0 c1 c2
    go_wp2_with fail
    go_quiet (fail)
    go_upto_region 8 with fail
    have h2 := h2.drewN nq
    have haa := haa.drewN nq
    clear c0 c1 c2
    generalize World.drewN w2 nq = w2 at *
    have c0 := Blk.cell h2 0
    have c1 := Blk.cell h2 1
    have c2 := Blk.cell h2 2
    simp at c0 c1 c2
    have hce : ((⟨s.toArray⟩ : ByteArray)[q]'(by rw [mk_size]; exact hlt)) = s[q] := rfl
    rw [← hce] at hq0
    clear hce
    generalize ((⟨s.toArray⟩ : ByteArray)[q]'(by rw [mk_size]; exact hlt)) = c at *
    obtain ⟨x, hx⟩ : ∃ x : Int, x = c.toNat := ⟨_, rfl⟩
    rw [← hx]
    have HR2 : Hid (Jp.valP s (Jp.valF s f (dep + 1)) dep c q = R) := by
      show _ = _
      rw [← HR.out, hq0]
    have Hq0 := Lib.hid hq0
    clear HR hq0 j2 d1 d2
    have hsz := haa.bel.size
    by_cases hc110 : c = 110
    · as_aux_lemma =>
      subst hc110
      have hx1 : x = 110 := hx
      clear hx
      subst hx1
      have hw : ∀ w, RrAt w g s q 0 0 → Calls Tryz.prog 94 #[.pointer (some ⟨g, 0, none⟩), .string ⟨#[110, 117, 108, 108]⟩, .int .i64 0, .int .i64 0] w (RrE g s w (rjV w.heap.size (f + 1)) (Jp.wordP s Jp.wN (.mk 0 0 [] [] []) q)) := fun w h => rword_walk g s Jp.wN 0 0 q w h hle hl (by decide) f
      have HT1 : Hid (∀ a k, Jp.wordP s Jp.wN (.mk 0 0 [] [] []) q = .ok a k → R = .ok a k) := fun a k h => by rw [← HR2.out, Jp.valP_110]; exact h
      have HT2 : Hid (∀ p er, Jp.wordP s Jp.wN (.mk 0 0 [] [] []) q = .bad p er → R = .bad p er) := fun p er h => by rw [← HR2.out, Jp.valP_110]; exact h
      clear HR2
      generalize Jp.wordP s Jp.wN (.mk 0 0 [] [] []) q = T at *
      go_wp2_with fail
      refine (hw w2 h2).mono ?_
      clear hw
      cases T with
      | ok a k =>
        intro e w3 h5
        obtain ⟨ha2, v, rfl, h3, hv⟩ := h5.is_ok
        have HB := Lib.hid (HT1.out a k rfl)
        clear h5 HT1 HT2
        go_wp2_with fail
        go_ret
        exact RrE.ok HB.out (haa.trans ha2) h3 (hv.mono hsz)
      | bad p er =>
        intro e w3 h5
        obtain ⟨ha2, v, i5, rfl, h3, her⟩ := h5.is_bad
        have HB := Lib.hid (HT2.out p er rfl)
        clear h5 HT1 HT2
        go_wp2_with fail
        go_ret
        exact RrE.bad HB.out (haa.trans ha2) h3 her
    by_cases hc116 : c = 116
    · as_aux_lemma =>
      subst hc116
      have hx1 : x = 116 := hx
      clear hx
      subst hx1
      have hw : ∀ w, RrAt w g s q 0 0 → Calls Tryz.prog 94 #[.pointer (some ⟨g, 0, none⟩), .string ⟨#[116, 114, 117, 101]⟩, .int .i64 1, .int .i64 1] w (RrE g s w (rjV w.heap.size (f + 1)) (Jp.wordP s Jp.wT (.mk 1 1 [] [] []) q)) := fun w h => rword_walk g s Jp.wT 1 1 q w h hle hl (by decide) f
      have HT1 : Hid (∀ a k, Jp.wordP s Jp.wT (.mk 1 1 [] [] []) q = .ok a k → R = .ok a k) := fun a k h => by rw [← HR2.out, Jp.valP_116]; exact h
      have HT2 : Hid (∀ p er, Jp.wordP s Jp.wT (.mk 1 1 [] [] []) q = .bad p er → R = .bad p er) := fun p er h => by rw [← HR2.out, Jp.valP_116]; exact h
      clear HR2
      generalize Jp.wordP s Jp.wT (.mk 1 1 [] [] []) q = T at *
      go_wp2_with fail
      refine (hw w2 h2).mono ?_
      clear hw
      cases T with
      | ok a k =>
        intro e w3 h5
        obtain ⟨ha2, v, rfl, h3, hv⟩ := h5.is_ok
        have HB := Lib.hid (HT1.out a k rfl)
        clear h5 HT1 HT2
        go_wp2_with fail
        go_ret
        exact RrE.ok HB.out (haa.trans ha2) h3 (hv.mono hsz)
      | bad p er =>
        intro e w3 h5
        obtain ⟨ha2, v, i5, rfl, h3, her⟩ := h5.is_bad
        have HB := Lib.hid (HT2.out p er rfl)
        clear h5 HT1 HT2
        go_wp2_with fail
        go_ret
        exact RrE.bad HB.out (haa.trans ha2) h3 her
    by_cases hc102 : c = 102
    · as_aux_lemma =>
      subst hc102
      have hx1 : x = 102 := hx
      clear hx
      subst hx1
      have hw : ∀ w, RrAt w g s q 0 0 → Calls Tryz.prog 94 #[.pointer (some ⟨g, 0, none⟩), .string ⟨#[102, 97, 108, 115, 101]⟩, .int .i64 1, .int .i64 0] w (RrE g s w (rjV w.heap.size (f + 1)) (Jp.wordP s Jp.wF (.mk 1 0 [] [] []) q)) := fun w h => rword_walk g s Jp.wF 1 0 q w h hle hl (by decide) f
      have HT1 : Hid (∀ a k, Jp.wordP s Jp.wF (.mk 1 0 [] [] []) q = .ok a k → R = .ok a k) := fun a k h => by rw [← HR2.out, Jp.valP_102]; exact h
      have HT2 : Hid (∀ p er, Jp.wordP s Jp.wF (.mk 1 0 [] [] []) q = .bad p er → R = .bad p er) := fun p er h => by rw [← HR2.out, Jp.valP_102]; exact h
      clear HR2
      generalize Jp.wordP s Jp.wF (.mk 1 0 [] [] []) q = T at *
      go_wp2_with fail
      refine (hw w2 h2).mono ?_
      clear hw
      cases T with
      | ok a k =>
        intro e w3 h5
        obtain ⟨ha2, v, rfl, h3, hv⟩ := h5.is_ok
        have HB := Lib.hid (HT1.out a k rfl)
        clear h5 HT1 HT2
        go_wp2_with fail
        go_ret
        exact RrE.ok HB.out (haa.trans ha2) h3 (hv.mono hsz)
      | bad p er =>
        intro e w3 h5
        obtain ⟨ha2, v, i5, rfl, h3, her⟩ := h5.is_bad
        have HB := Lib.hid (HT2.out p er rfl)
        clear h5 HT1 HT2
        go_wp2_with fail
        go_ret
        exact RrE.bad HB.out (haa.trans ha2) h3 her
    by_cases hc45 : c = 45
    · as_aux_lemma =>
      have HD : Hid (c = 45 ∨ Jp.digB c = true) := .inl hc45
      subst hc45
      have hx1 : x = 45 := hx
      clear hx
      subst hx1
      have hw := fun w h => rnum_walk g s q w h hlt hl f
      have HT1 : Hid (∀ a k, Jp.numP s q = .ok a k → R = .ok (.mk 2 a [] [] []) k) := fun a k h => by rw [← HR2.out, Jp.valP_n _ HD.out, h]
      have HT2 : Hid (∀ p er, Jp.numP s q = .bad p er → R = .bad p er) := fun p er h => by rw [← HR2.out, Jp.valP_n _ HD.out, h]
      clear HR2
      generalize Jp.numP s q = T at *
      go_wp2_with fail
      refine (hw w2 h2).mono ?_
      clear hw
      cases T with
      | ok a k =>
        intro e w3 h5
        obtain ⟨ha2, v, rfl, h3, hv⟩ := h5.is_ok
        have HB := Lib.hid (HT1.out a k rfl)
        clear h5 HT1 HT2
        go_wp2_with fail
        go_ret
        exact RrE.ok HB.out (haa.trans ha2) h3 (hv.mono hsz)
      | bad p er =>
        intro e w3 h5
        obtain ⟨ha2, v, i5, rfl, h3, her⟩ := h5.is_bad
        have HB := Lib.hid (HT2.out p er rfl)
        clear h5 HT1 HT2
        go_wp2_with fail
        go_ret
        exact RrE.bad HB.out (haa.trans ha2) h3 her
    by_cases hdg : Jp.digB c = true
    · as_aux_lemma =>
      have HD : Hid (c = 45 ∨ Jp.digB c = true) := .inr hdg
      have hdr : 48 ≤ c.toNat ∧ c.toNat ≤ 57 := by
        rw [dig_form, Bool.and_eq_true, decide_eq_true_eq, decide_eq_true_eq] at hdg; exact hdg
      have g1 : (48 : Int) ≤ x := by omega
      have g2 : x ≤ (57 : Int) := by omega
      clear hdg hx hdr
      have hw := fun w h => rnum_walk g s q w h hlt hl f
      have HT1 : Hid (∀ a k, Jp.numP s q = .ok a k → R = .ok (.mk 2 a [] [] []) k) := fun a k h => by rw [← HR2.out, Jp.valP_n _ HD.out, h]
      have HT2 : Hid (∀ p er, Jp.numP s q = .bad p er → R = .bad p er) := fun p er h => by rw [← HR2.out, Jp.valP_n _ HD.out, h]
      clear HR2
      generalize Jp.numP s q = T at *
      go_wp2_with fail
      refine (hw w2 h2).mono ?_
      clear hw
      cases T with
      | ok a k =>
        intro e w3 h5
        obtain ⟨ha2, v, rfl, h3, hv⟩ := h5.is_ok
        have HB := Lib.hid (HT1.out a k rfl)
        clear h5 HT1 HT2
        go_wp2_with fail
        go_ret
        exact RrE.ok HB.out (haa.trans ha2) h3 (hv.mono hsz)
      | bad p er =>
        intro e w3 h5
        obtain ⟨ha2, v, i5, rfl, h3, her⟩ := h5.is_bad
        have HB := Lib.hid (HT2.out p er rfl)
        clear h5 HT1 HT2
        go_wp2_with fail
        go_ret
        exact RrE.bad HB.out (haa.trans ha2) h3 her
    by_cases hc34 : c = 34
    · as_aux_lemma =>
      subst hc34
      have hx1 : x = 34 := hx
      clear hx
      subst hx1
      have hw := fun w h => rtext_walk g s q w h hlt hl
      have HTe : Hid (Jp.textP s q = Jp.txtP s (q + 1)) := by show _ = _; unfold Jp.textP Jp.needP; rw [Jp.get_skip_not s q 34 Hq0.out (by decide), if_pos Hq0.out]
      have HT1 : Hid (∀ a k, Jp.txtP s (q + 1) = .ok a k → R = .ok (.mk 3 0 a [] []) k) := fun a k h => by rw [← HR2.out, Jp.valP_34, HTe.out, h]
      have HT2 : Hid (∀ p er, Jp.txtP s (q + 1) = .bad p er → R = .bad p er) := fun p er h => by rw [← HR2.out, Jp.valP_34, HTe.out, h]
      clear HR2 HTe
      generalize Jp.txtP s (q + 1) = T at *
      go_wp2_with fail
      refine (hw w2 h2).mono ?_
      clear hw
      cases T with
      | ok a k =>
        intro e w3 h5
        obtain ⟨ha2, v, rfl, h3, hv⟩ := h5.1.is_ok
        have HB := Lib.hid (HT1.out a k rfl)
        clear h5 HT1 HT2
        subst hv
        go_wp2_with fail
        go_ret
        have hbl : Below w3.heap.size w3 (w3.alloc (.cells #[.int .i64 3, .int .i64 0, .string ⟨a.toArray⟩, .slice none 0 0, .slice none 0 0] 78)) := (Below.refl _ _).alloc (Nat.le_refl _) _
        have ha3 := haa.trans ha2
        exact RrE.ok HB.out (ha3.below hbl (by omega)) (h3.below hbl h3.lt) (rjV.box ha3.bel.size)
      | bad p er =>
        intro e w3 h5
        obtain rfl := h5.2.is
        obtain ⟨ha2, v, i5, _, h3, her⟩ := h5.1.is_bad
        have HB := Lib.hid (HT2.out p er rfl)
        clear h5 HT1 HT2
        have ha3 := haa.trans ha2
        go_wp2_with fail
        go_ret
        have hbl : Below w3.heap.size w3 (w3.alloc (.cells #[.int .i64 3, .int .i64 0, .string ⟨#[]⟩, .slice none 0 0, .slice none 0 0] 78)) := (Below.refl _ _).alloc (Nat.le_refl _) _
        exact RrE.bad HB.out (ha3.below hbl (by omega)) (h3.below hbl h3.lt) her
    by_cases hc91 : c = 91
    · as_aux_lemma =>
      subst hc91
      have hx1 : x = 91 := hx
      clear hx
      subst hx1
      by_cases hd : 40 ≤ dep
      · obtain rfl : dep = 40 := by omega
        have HB : Hid (R = .bad q 12) := by
          show _ = _
          rw [← HR2.out]
          exact Jp.valP_f _ hd (by decide)
        go_wp2_with fail
        refine (rfail_first g s q 0 12 q _ h2).mono ?_
        rintro e w3 ⟨rfl, h3, ha3⟩
        go_wp2_with fail
        go_ret
        exact RrE.bad HB.out (haa.trans ha3) h3 (by omega)
      · have hf0 : 0 < f := by omega
        have hd1 : ((dep : Int) == 40) = false := by rw [beq_eq_false_iff_ne]; omega
        have hw := fun w h => rmanyL_walk g f dep s hl (by omega) (ih hf0) q w h hlt
        have HT1 : Hid (∀ a k, Jp.listP (Jp.itemsP (Jp.oneL (Jp.valF s f (dep + 1))) 93 s ([], []) q) 4 = .ok a k → R = .ok a k) := fun a k h => by rw [← HR2.out, Jp.valP_91 hd]; exact h
        have HT2 : Hid (∀ p er, Jp.listP (Jp.itemsP (Jp.oneL (Jp.valF s f (dep + 1))) 93 s ([], []) q) 4 = .bad p er → R = .bad p er) := fun p er h => by rw [← HR2.out, Jp.valP_91 hd]; exact h
        clear HR2
        generalize Jp.listP (Jp.itemsP (Jp.oneL (Jp.valF s f (dep + 1))) 93 s ([], []) q) 4 = T at *
        go_wp2_with fail
        refine (hw w2 h2).mono ?_
        clear hw
        cases T with
        | ok a k =>
          intro e w3 h5
          obtain ⟨ha2, v, rfl, h3, hv⟩ := h5.is_ok
          have HB := Lib.hid (HT1.out a k rfl)
          clear h5 HT1 HT2
          go_wp2_with fail
          go_ret
          exact RrE.ok HB.out (haa.trans ha2) h3 (hv.mono hsz)
        | bad p er =>
          intro e w3 h5
          obtain ⟨ha2, v, i5, rfl, h3, her⟩ := h5.is_bad
          have HB := Lib.hid (HT2.out p er rfl)
          clear h5 HT1 HT2
          go_wp2_with fail
          go_ret
          exact RrE.bad HB.out (haa.trans ha2) h3 her
    by_cases hc123 : c = 123
    · as_aux_lemma =>
      subst hc123
      have hx1 : x = 123 := hx
      clear hx
      subst hx1
      by_cases hd : 40 ≤ dep
      · obtain rfl : dep = 40 := by omega
        have HB : Hid (R = .bad q 12) := by
          show _ = _
          rw [← HR2.out]
          exact Jp.valP_f _ hd (by decide)
        go_wp2_with fail
        refine (rfail_first g s q 0 12 q _ h2).mono ?_
        rintro e w3 ⟨rfl, h3, ha3⟩
        go_wp2_with fail
        go_ret
        exact RrE.bad HB.out (haa.trans ha3) h3 (by omega)
      · have hf0 : 0 < f := by omega
        have hd1 : ((dep : Int) == 40) = false := by rw [beq_eq_false_iff_ne]; omega
        have hw := fun w h => rmanyM_walk g f dep s hl (by omega) (ih hf0) q w h hlt
        have HT1 : Hid (∀ a k, Jp.listP (Jp.itemsP (Jp.oneM s (Jp.valF s f (dep + 1))) 125 s ([], []) q) 5 = .ok a k → R = .ok a k) := fun a k h => by rw [← HR2.out, Jp.valP_123 hd]; exact h
        have HT2 : Hid (∀ p er, Jp.listP (Jp.itemsP (Jp.oneM s (Jp.valF s f (dep + 1))) 125 s ([], []) q) 5 = .bad p er → R = .bad p er) := fun p er h => by rw [← HR2.out, Jp.valP_123 hd]; exact h
        clear HR2
        generalize Jp.listP (Jp.itemsP (Jp.oneM s (Jp.valF s f (dep + 1))) 125 s ([], []) q) 5 = T at *
        go_wp2_with fail
        refine (hw w2 h2).mono ?_
        clear hw
        cases T with
        | ok a k =>
          intro e w3 h5
          obtain ⟨ha2, v, rfl, h3, hv⟩ := h5.is_ok
          have HB := Lib.hid (HT1.out a k rfl)
          clear h5 HT1 HT2
          go_wp2_with fail
          go_ret
          exact RrE.ok HB.out (haa.trans ha2) h3 (hv.mono hsz)
        | bad p er =>
          intro e w3 h5
          obtain ⟨ha2, v, i5, rfl, h3, her⟩ := h5.is_bad
          have HB := Lib.hid (HT2.out p er rfl)
          clear h5 HT1 HT2
          go_wp2_with fail
          go_ret
          exact RrE.bad HB.out (haa.trans ha2) h3 her
    have HX := Lib.hid (Jp.valP_x (s := s) (m := Jp.valF s f (dep + 1)) (d := dep) (k := q) c (fun h => by rcases h.2 with h | h; exact hc91 h; exact hc123 h) hc110 hc116 hc102 hc34 (fun h => h.elim hc45 hdg) hc91 hc123)
    have HB : Hid (R = .bad q 3) := by
      show _ = _
      rw [← HR2.out]; exact HX.out
    have e110 : (x == 110) = false := by rw [beq_eq_false_iff_ne]; intro h; exact hc110 (UInt8.toNat_inj.1 (by show c.toNat = 110; omega))
    have e116 : (x == 116) = false := by rw [beq_eq_false_iff_ne]; intro h; exact hc116 (UInt8.toNat_inj.1 (by show c.toNat = 116; omega))
    have e102 : (x == 102) = false := by rw [beq_eq_false_iff_ne]; intro h; exact hc102 (UInt8.toNat_inj.1 (by show c.toNat = 102; omega))
    have e34 : (x == 34) = false := by rw [beq_eq_false_iff_ne]; intro h; exact hc34 (UInt8.toNat_inj.1 (by show c.toNat = 34; omega))
    have e45 : (x == 45) = false := by rw [beq_eq_false_iff_ne]; intro h; exact hc45 (UInt8.toNat_inj.1 (by show c.toNat = 45; omega))
    have e91 : (x == 91) = false := by rw [beq_eq_false_iff_ne]; intro h; exact hc91 (UInt8.toNat_inj.1 (by show c.toNat = 91; omega))
    have e123 : (x == 123) = false := by rw [beq_eq_false_iff_ne]; intro h; exact hc123 (UInt8.toNat_inj.1 (by show c.toNat = 123; omega))
    have hdr : c.toNat < 48 ∨ 57 < c.toNat := by
      rw [dig_form, Bool.and_eq_true, decide_eq_true_eq, decide_eq_true_eq] at hdg; omega
    have hxr : x < 48 ∨ (48 ≤ x ∧ 57 < x) := by omega
    clear hdr hx HX hc110 hc116 hc102 hc34 hc45 hdg hc91 hc123 HR2
    rcases hxr with g1 | ⟨g1, g2⟩
    all_goals
      go_wp2_with fail
      refine (rfail_first g s q 0 3 q _ h2).mono ?_
      rintro e w3 ⟨rfl, h3, ha3⟩
      go_wp2_with fail
      go_ret
      exact RrE.bad HB.out (haa.trans ha3) h3 (by omega)
  · obtain rfl : q = s.length := by omega
    have HB : Hid (R = .bad s.length 3) := by
      show _ = _
      rw [← HR.out, List.getElem?_eq_none (Nat.le_refl _)]
    have d1 : decide (s.length ≤ s.length) = true := decide_eq_true (by omega)
    go_wp2_with fail
    go_quiet (fail)
    go_wp2_with fail
    refine (rfail_first g s s.length 0 3 s.length _ (h2.drewN _)).mono ?_
    rintro e w3 ⟨rfl, h3, ha3⟩
    go_wp2_with fail
    go_ret
    exact RrE.bad HB.out ((haa.drewN _).trans ha3) h3 (by omega)
/-- a value of the document's, read -/
theorem rvalue_walk (g : Nat) (s : Bs) (hl : s.length ≤ 16777216) : ∀ (f dep : Nat), f + dep = 40 → ∀ (i : Nat) (w : World), RrAt w g s i 0 0 → i ≤ s.length →
    Calls Tryz.prog 59 #[.pointer (some ⟨g, 0, none⟩), .int .i64 dep] w (RrE g s w (rjV w.heap.size (f + 1)) (Jp.valF s (f + 1) dep i))
  | 0, dep, hd, i, w, h, hi => rvalue_step g 0 dep s hl hd (fun h => absurd h (by omega)) i w h hi
  | f + 1, dep, hd, i, w, h, hi => rvalue_step g (f + 1) dep s hl hd (fun _ i w h hi => rvalue_walk g s hl f (dep + 1) (by omega) i w h hi) i w h hi
end Go.Proofs.YtgpjcjnimheglaaGreatDoor
/-
  WALKS of the document's reader of messages: Parse.
-/
namespace Go.Proofs.YtgpjcjnimheglaaGreatDoor
open Go.RowKit

set_option maxHeartbeats 2000000 in
set_option maxRecDepth 100000 in
theorem rblank_any (g : Nat) (s : Bs) (i e b : Nat) (w : World) (h : RrAt w g s i e b) (hl : s.length ≤ 16777216) :
    Calls Tryz.prog 60 #[.pointer (some ⟨g, 0, none⟩)] w fun en w' => en = .returned (.tuple #[]) ∧ (∃ i', RrAt w' g s i' e b) ∧ AftR g w w' := by
  by_cases hi : i ≤ s.length
  · exact (rblank_walk g s i e b w h hi hl).mono fun en w' ⟨h1, h2, h3⟩ => ⟨h1, ⟨_, h2⟩, h3⟩
  · go_enter Tryz.func60, Tryz.ntmps60
    go_wp2_with fail
    go_loopg [] 0 (fun q wr => wr = w)
    case atStart => rfl
    case round =>
      obtain rfl := hrel
      have c0 := Blk.cell h 0
      have c1 := Blk.cell h 1
      simp at c0 c1
      have d1 : decide (i < s.length) = false := decide_eq_false (by omega)
      have d2 : decide ((i : Int) < (s.length : Int)) = false := decide_eq_false (by omega)
      go_wp2_with fail
      go_quiet (fail)
      go_wp2_with fail
      go_end0
      exact ⟨rfl, ⟨i, h.drewN _⟩, (AftR.refl g wr).drewN _⟩

/-- how the document's parsing of a text ends -/
def RpE (w : World) (r : Jp.Rs JT) (e : Ending) (w' : World) : Prop :=
  Below w.heap.size w w' ∧ match r with
    | .ok j _ => ∃ v, e = .returned (.tuple #[v, .int .i64 0, .int .i64 0]) ∧ rjV w.heap.size 41 j v w'
    | .bad p er => e = .returned (.tuple #[.pointer none, .int .i64 p, .int .i64 er]) ∧ 0 < er
theorem RpE.ok {w w' : World} {r : Jp.Rs JT} {j : JT} {k : Nat} {v : Value} (h : r = .ok j k) (hb : Below w.heap.size w w') (hv : rjV w.heap.size 41 j v w') : RpE w r (.returned (.tuple #[v, .int .i64 0, .int .i64 0])) w' := by
  subst h; exact ⟨hb, v, rfl, hv⟩
theorem RpE.bad {w w' : World} {r : Jp.Rs JT} {p er : Nat} (h : r = .bad p er) (hb : Below w.heap.size w w') (he : 0 < er) : RpE w r (.returned (.tuple #[.pointer none, .int .i64 p, .int .i64 er])) w' := by
  subst h; exact ⟨hb, rfl, he⟩
set_option maxHeartbeats 4000000 in
set_option maxRecDepth 100000 in
theorem rparse_walk (s : Bs) (hl : s.length ≤ 16777216) (w : World) : Calls Tryz.prog 31 #[.string ⟨s.toArray⟩] w (RpE w (Jp.parseP s)) := by
  generalize hR : Jp.parseP s = R
  have HR : Hid ((match Jp.valF s 41 0 0 with
    | .bad p e => .bad p e
    | .ok j k => if Jp.skipP s k < s.length then .bad (Jp.skipP s k) 3 else .ok j 0) = R) := hR
  clear hR
  have hb1 : Below w.heap.size w (w.alloc (.cells #[.string ⟨s.toArray⟩, .int .i64 0, .int .i64 0, .int .i64 0] 142)) := (Below.refl _ _).alloc (Nat.le_refl _) _
  have hr1 : RrAt (w.alloc (.cells #[.string ⟨s.toArray⟩, .int .i64 0, .int .i64 0, .int .i64 0] 142)) w.heap.size s 0 0 0 := Blk.new w _ _
  obtain ⟨g, hg⟩ : ∃ g, g = w.heap.size := ⟨_, rfl⟩
  have hwg : Hid (w.heap.size ≤ g) := by show _ ≤ _; omega
  go_enter Tryz.func31, Tryz.ntmps31
  go_upto_region 2 with fail
  rw [← hg] at hr1
  rw [← hg]
  clear hg
  generalize w.alloc (.cells #[.string ⟨s.toArray⟩, .int .i64 0, .int .i64 0, .int .i64 0] 142) = w1 at *
  have hv : Calls Tryz.prog 59 #[.pointer (some ⟨g, 0, none⟩), .int .i64 0] w1 (RrE g s w1 (rjV w1.heap.size 41) (Jp.valF s 41 0 0)) := rvalue_walk g s hl 40 0 rfl 0 w1 hr1 (Nat.zero_le _)
  have hva := Jp.val_ahead s 41 0 0 (Nat.zero_le _)
  generalize Jp.valF s 41 0 0 = V at *
  go_wp2_with fail
  refine hv.mono ?_
  clear hv
  cases V with
  | bad p er =>
    have HB : Hid (R = .bad p er) := HR.out.symm
    intro e w2 h2
    obtain ⟨ha2, v, i2, rfl, hr2, her⟩ := h2.is_bad
    have hb2 := hb1.trans (ha2.bel.mono hwg.out)
    clear h2 HR hr1 hb1 ha2
    go_wp2_with fail
    refine (rblank_any g s i2 er p w2 hr2 hl).mono ?_
    rintro e w3 ⟨rfl, ⟨i3, hr3⟩, ha3⟩
    have hb3 := hb2.trans (ha3.bel.mono hwg.out)
    have c1 := Blk.cell hr3 1
    have c2 := Blk.cell hr3 2
    have c3 := Blk.cell hr3 3
    simp at c1 c2 c3
    have e1 : ((er : Int) == 0) = false := by rw [beq_eq_false_iff_ne]; omega
    have e2 : ((er : Int) != 0) = true := by rw [bne_iff_ne]; omega
    clear hr2 hb2 ha3
    go_wp2_with fail
    go_quiet (fail)
    go_wp2_with fail
    go_ret3
    exact RpE.bad HB.out (below_drewN hb3 _) her
  | ok j k =>
    obtain ⟨_, hk2⟩ := hva
    have HR2 : Hid ((if Jp.skipP s k < s.length then .bad (Jp.skipP s k) 3 else .ok j 0) = R) := HR.out
    intro e w2 h2
    obtain ⟨ha2, v, rfl, hr2, hj⟩ := h2.is_ok
    have hb2 := hb1.trans (ha2.bel.mono hwg.out)
    have hgs : Hid (g < w1.heap.size ∧ w.heap.size ≤ w1.heap.size) := ⟨hr1.lt, hb1.size⟩
    clear h2 HR hr1 ha2
    have hle := Jp.skip_le s k hk2
    have hbk := rblank_walk g s k 0 0 w2 hr2 hk2 hl
    generalize Jp.skipP s k = q at *
    go_wp2_with fail
    refine hbk.mono ?_
    clear hbk
    rintro e w3 ⟨rfl, hr3, ha3⟩
    have hb3 := hb2.trans (ha3.bel.mono hwg.out)
    have hj3 : rjV w.heap.size 41 j v w3 := by
      obtain ⟨b, e, hj⟩ := hj
      exact ⟨b, e, hj.keep (F' := fun b => w.heap.size ≤ b) ⟨ha3.bel.size, fun b hb hl => ha3.oth b hl (by have := hgs.out; omega)⟩ (fun b hb _ => by have := hgs.out; omega)⟩
    have c1 := Blk.cell hr3 1
    have c2 := Blk.cell hr3 2
    simp at c1 c2
    clear hr2 hb2 ha3 hj hb1
    by_cases hq : q < s.length
    · have HB : Hid (R = .bad q 3) := by show _ = _; rw [← HR2.out, if_pos hq]
      have hq1 : (q : Int) < (s.length : Int) := by omega
      clear HR2 hq
      go_wp2_with fail
      refine (rfail_first g s q 0 3 q _ hr3).mono ?_
      rintro e w5 ⟨rfl, h5, ha5⟩
      have hb5 := hb3.trans (ha5.bel.mono hwg.out)
      have c2 := Blk.cell h5 2
      have c3 := Blk.cell h5 3
      simp at c2 c3
      go_wp2_with fail
      go_quiet (fail)
      go_wp2_with fail
      go_ret3
      exact RpE.bad (er := 3) HB.out (below_drewN hb5 _) (by decide)
    · have HB : Hid (R = .ok j 0) := by show _ = _; rw [← HR2.out, if_neg hq]
      have hq1 : ¬ (q : Int) < (s.length : Int) := by omega
      clear HR2 hq
      go_wp2_with fail
      go_ret3
      exact RpE.ok HB.out hb3 hj3
end Go.Proofs.YtgpjcjnimheglaaGreatDoor
