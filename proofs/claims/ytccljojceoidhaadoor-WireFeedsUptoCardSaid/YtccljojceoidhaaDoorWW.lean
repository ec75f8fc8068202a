/-
  THE WALK of the law WireFrames.
-/
import Derived.Test.YtccljojceoidhaaDoorWD
import Derived.Laws.AppendOwnNone
namespace Go.Proofs.YtccljojceoidhaaDoor
open Go.RowKit

theorem flat_snoc (l : List Bs) (x : Bs) : Wire.flat (l ++ [x]) = Wire.flat l ++ Wire.frameL x := by simp [Wire.flat]
theorem str_cat (a b : Bs) : Value.string ((⟨a.toArray⟩ : ByteArray) ++ ⟨b.toArray⟩) = strV (a ++ b) := by unfold strV; congr 1
theorem sum_take (l : List Bs) (k : Nat) : ((l.take k).map List.length).sum ≤ (l.map List.length).sum := by
  have h : l.map List.length = (l.take k).map List.length ++ (l.drop k).map List.length := by rw [← List.map_append, List.take_append_drop]
  rw [h, List.sum_append]; omega
theorem sum_mem (l : List Bs) (b : Bs) (h : b ∈ l) : b.length ≤ (l.map List.length).sum := by
  induction l with
  | nil => cases h
  | cons a t ih =>
    rw [List.map_cons, List.sum_cons]
    rcases List.mem_cons.1 h with rfl | h
    · omega
    · have := ih h; omega
/-- the table's block -/
theorem Tab10.lt {w : World} (h : Tab10 w) : 2 < w.heap.size := by
  unfold Tab10 Lib.TabIs World.var? at h
  rw [g10] at h
  simp only [Option.bind_some] at h
  rcases Nat.lt_or_ge 2 w.heap.size with h1 | h1
  · exact h1
  · rw [Array.getElem?_eq_none h1] at h; cases h
theorem ph_len {bs : List Bs} {r : Wire.RS} {U : Bs} (h : Wire.Ph bs r U) (hs : ∀ b ∈ bs, b.length < 1000000000) : (r.rest ++ U).length ≤ (bs.map List.length).sum + 29 * bs.length := by
  have hf := Wire.flat_len bs hs
  cases h with
  | a _ _ h => rw [h]; exact hf
  | b x t e _ _ h =>
    subst e
    rw [h]
    have := Wire.flat_len t fun b hb => hs b (by simp [hb])
    simp only [List.cons_append, List.length_cons, List.length_append, List.map_cons, List.sum_cons] at *
    omega
  | c x t e _ _ h =>
    subst e
    rw [h]
    have := Wire.flat_len t fun b hb => hs b (by simp [hb])
    simp only [List.length_append, List.map_cons, List.sum_cons, List.length_cons] at *
    omega

set_option maxHeartbeats 2000000 in
set_option maxRecDepth 100000 in
theorem wireFrames_walk (A : Option Addr) (c : Nat) (bs : List Bs) (A2 : Option Addr) (c2 : Nat) (cuts : List Int) (w : World) (m : Int) (hM : MaxL w m) (hT : Tab10 w)
    (R0 : Rd w w.heap.size 1 A bs.length (txtV bs)) (R1 : Rd w w.heap.size 1 A2 cuts.length (intV cuts)) (hn : bs.length + (bs.map List.length).sum ≤ 1048576) (hc : cuts.length ≤ 1048576) :
    Calls Tryd.prog 4 #[.slice A bs.length c, .slice A2 cuts.length c2] w fun e w' => e = .returned (.bool true) ∧ Below w.heap.size w w' := by
  have hgb := hM.lt
  have hgt := hT.lt
  have hlb : ∀ b ∈ bs, b.length < 1000000000 := fun b hb => by have := sum_mem bs b hb; omega
  go_enter Tryd.func4, Tryd.ntmps4
  go_wp2
  go_loopw [5, 6] (fun tx i wr => ∃ k : Nat, k ≤ bs.length ∧ i = .int .i64 k ∧ tx = strV (Wire.flat (bs.take k)) ∧ Below w.heap.size w wr) (fun _ i _ => bs.length - (intOf i).toNat)
  case atStart => exact ⟨0, Nat.zero_le _, rfl, rfl, Below.refl _ _⟩
  case round =>
    obtain ⟨k, hk, rfl, rfl, hb⟩ := hrel
    have hbs := hb.size
    have hfl := Wire.flat_len (bs.take k) (fun b hb => hlb b (List.mem_of_mem_take hb))
    have hst := sum_take bs k
    rw [List.length_take] at hfl
    by_cases hlt : k < bs.length
    · obtain ⟨b, o, rfl, hbB, c0⟩ := Rd.txt (R0.below hb) hlt
      have i1 : (0 : Int) ≤ (k : Int) := by omega
      have i2 : (k : Int) < (bs.length : Int) := by omega
      have Hs : Hid (Wire.flat (bs.take (k + 1)) = Wire.flat (bs.take k) ++ Wire.frameL bs[k]) := by
        show _ = _; rw [List.take_succ_eq_append_getElem hlt, flat_snoc]
      have hx : bs[k].length ≤ 1048576 := by have := sum_mem bs bs[k] (List.getElem_mem hlt); omega
      have hxf := Wire.frame_len bs[k] (by omega)
      generalize bs[k] = x at *
      generalize hfx : Wire.frameL x = F at *
      have hF := frame_walk x wr (hT.below hb hgt) hx
      rw [hfx] at hF
      clear hfx
      have e0 : ¬ 9223372036854775807 < (Wire.flat (bs.take k)).length + F.length := by omega
      generalize Wire.flat (bs.take k) = T at *
      unfold strV at c0 hF ⊢
      go_wp2_with fail
      refine hF.mono ?_
      rintro e w2 ⟨rfl, hb2⟩
      go_wp2_with fail
      go_roundw
      case rel => exact ⟨k + 1, by omega, by go_num, by rw [Hs.out]; exact str_cat _ _, hb.trans (hb2.mono hbs)⟩
      case measure => simp [intOf]; omega
    · obtain rfl : k = bs.length := by omega
      clear hst
      rw [List.take_length] at hfl ⊢
      have hTl : (Wire.flat bs).length ≤ 100000000 := by omega
      go_wp2_with fail
      refine (wnew_walk wr).mono ?_
      rintro e w' ⟨rfl, rfl⟩
      obtain ⟨p, hp⟩ : ∃ p, p = wr.heap.size := ⟨_, rfl⟩
      have hP1 : Blk (wr.alloc (.cells #[.string ⟨#[]⟩, .int .i64 (-1), .bool false, .int .i64 0] 75)) p 75 (rdC Wire.r0) := by rw [hp]; exact Blk.new _ _ _
      have hb1 : Below w.heap.size w (wr.alloc (.cells #[.string ⟨#[]⟩, .int .i64 (-1), .bool false, .int .i64 0] 75)) := hb.alloc hbs _
      rw [← hp]
      have hpb : w.heap.size ≤ p := by omega
      generalize wr.alloc (.cells #[.string ⟨#[]⟩, .int .i64 (-1), .bool false, .int .i64 0] 75) = w1 at *
      have R0' := Lib.hid R0
      clear hp hb hbs R0
      have hbs1 := hb1.size
      have hcut := cut_walk (Wire.flat bs) A2 c2 cuts w1 ((R1.below hb1).more hbs1) hTl hc
      have hPf := Wire.cutsM_flat (Wire.flat bs) cuts 0 (Nat.zero_le _)
      have hPn := Wire.cutsM_ne (Wire.flat bs) cuts 0
      have hPl := cuts_len (Wire.flat bs) cuts 0
      generalize Wire.cutsM (Wire.flat bs) 0 cuts = P at *
      rw [List.drop_zero] at hPf
      have hph0 : Hid (Wire.Ph bs Wire.r0 (P.drop 0).flatten) := by rw [List.drop_zero, hPf]; exact Wire.r0_ph bs
      clear hPf
      generalize Wire.flat bs = T at *
      unfold strV at hcut ⊢
      go_wp2_with fail
      refine hcut.mono ?_
      clear hcut
      rintro e w2 ⟨lv, rfl, hown2, hb2⟩
      have hlv : ∃ g cl, lv = .slice (some ⟨g, 0, none⟩) P.length cl := by
        rcases hown2.2 with ⟨_, h0⟩ | ⟨g, cl, cur, h0, _⟩
        · exact absurd (List.eq_nil_of_length_eq_zero h0) hPn
        · exact ⟨g, cl, h0⟩
      obtain ⟨lg, cl, rfl⟩ := hlv
      have hb02 := hb1.trans (hb2.mono hbs1)
      have hbs2 := hb02.size
      have hP2 := hP1.below hb2 hP1.lt
      have hown2 := own_mono hown2 hbs1
      have hPpos : 0 < P.length := List.length_pos_iff.2 hPn
      clear hP1 hb1 hb2
      go_wp2_with fail
      go_loopw [10, 11] (fun v i wx => ∃ (k : Nat) (outs : List Bs) (r : Wire.RS) (bs' : List Bs), k ≤ P.length ∧ i = .int .i64 k ∧ wx.ownsRow w.heap.size 9 1 v outs.length (txtV outs) ∧ wx.ownsRow w.heap.size 9 1 (.slice (some ⟨lg, 0, none⟩) P.length cl) P.length (txtV P) ∧ Blk wx p 75 (rdC r) ∧ Below w.heap.size w wx ∧ r.err = 0 ∧ r.good ∧ Hid (Wire.Ph bs' r (P.drop k).flatten) ∧ Hid (bs = outs ++ bs') ∧ Hid (k = P.length → bs' = []) ∧ v.ownBlock ≠ some lg) (fun _ i _ => P.length - (intOf i).toNat)
      case atStart => exact ⟨0, [], Wire.r0, bs, Nat.zero_le _, rfl, World.ownsRow_nil _ _ _ _, hown2, hP2, hb02, rfl, Wire.r0_good, hph0, (rfl : _ = _), fun h => by omega, by simp [Value.ownBlock]⟩
      case round =>
        clear hown2 hP2 hb02 hbs2 hph0
        obtain ⟨k, outs, r, bs', hk, rfl, hov, hol, hP, hb, her, hg, Hph, Hbs, Hend, hnl⟩ := hrel
        have hbs := hb.size
        have hsz := Hbs.out
        have hs' : ∀ b ∈ bs', b.length < 1000000000 := fun b hb => hlb b (by rw [hsz]; simp [hb])
        have hsum : (bs'.map List.length).sum + bs'.length + outs.length ≤ 1048576 := by
          have h1 := hn
          rw [hsz] at h1
          simp only [List.map_append, List.sum_append, List.length_append] at h1
          omega
        by_cases hlt : k < P.length
        · have hpl := ph_len Hph.out hs'
          have hdk : P.drop k = P[k] :: P.drop (k + 1) := List.drop_eq_getElem_cons hlt
          have hph := Hph.out
          rw [hdk, List.flatten_cons] at hph hpl
          have c0 := own_cell hol k _ (txtV_get P hlt)
          have i1 : (0 : Int) ≤ (k : Int) := by omega
          have i2 : (k : Int) < (P.length : Int) := by omega
          obtain ⟨f1, f2, bs2, f3, f4, f5⟩ := Wire.feed_ph bs' hs' r P[k] (P.drop (k + 1)).flatten her hg hph
          have hf := feed_walk wr w.heap.size p r P[k] m (hM.below hb hgb) hP hpb hbs hgb (fun _ => hg) (by rw [List.length_append]; simp only [List.length_append] at hpl; omega)
          have hlast : k + 1 = P.length → bs2 = [] := fun e => f5 (by rw [List.drop_of_length_le (by omega)]; rfl)
          rw [f1] at hf
          have hlen2 : (Wire.feedM r P[k]).2.length ≤ 1048576 := by
            have := congrArg List.length f3
            rw [List.length_append] at this
            omega
          generalize Wire.feedM r P[k] = FR at *
          obtain ⟨r2, o2⟩ := FR
          simp only at f1 f2 f3 f4 f5 hf hlen2
          have HF : Hid (r2.err = 0 ∧ r2.good ∧ Wire.Ph bs2 r2 (P.drop (k + 1)).flatten ∧ (k + 1 = P.length → bs2 = []) ∧ bs = (outs ++ o2) ++ bs2) := ⟨f1, f2, f4, hlast, by rw [hsz, f3, List.append_assoc]⟩
          have hlgw : lg < wr.heap.size := (hol.lt lg rfl).2
          have hpx := hP.lt
          unfold strV at c0 hf
          generalize P[k] = x at *
          clear f1 f2 f3 f4 f5 hlast hph hpl hdk Hph Hbs Hend hsz hs' her hg hlb
          rw [show errI 0 = .nilIface from rfl] at hf
          obtain ⟨Av, cv, rfl⟩ := own_form hov
          obtain ⟨i0, ji, jz0, jz1, jz2⟩ := info_parts infoStr
          go_wp2_with fail
          refine hf.mono ?_
          clear hf
          rintro e w3 ⟨⟨v2, rfl, ho2, hnil⟩, hP3, hb3, hoth⟩
          have hb03 := hb.trans hb3
          have hne1 := own_ne hov hP (by decide)
          have hov3 : w3.ownsRow w.heap.size 9 1 (.slice Av outs.length cv) outs.length (txtV outs) := own_of_block hov fun b hbk => hoth b (hov.lt b hbk).2 fun e => hne1 (by rw [hbk, e])
          have hol3 : w3.ownsRow w.heap.size 9 1 (.slice (some ⟨lg, 0, none⟩) P.length cl) P.length (txtV P) := own_of_block hol fun b hbk => hoth b (hol.lt b hbk).2 fun e => own_ne hol hP (by decide) (by rw [hbk, e])
          have hbs3 := hb03.size
          have hz3 : wr.heap.size ≤ w3.heap.size := hb3.size
          clear hov hol hP hoth hb3 c0
          by_cases ho : o2 = []
          · obtain rfl := hnil ho
            subst ho
            go_wp2_with (at_builtin; refine wpList_append_own_none rfl _ _ 22 rfl w.heap.size 9 i0 1 Tryd.underlying22 ji (.slice Av outs.length cv) outs.length (txtV outs) rfl hov3 rfl ?_)
            go_roundw
            case rel => exact ⟨k + 1, outs, r2, bs2, by omega, by go_num, hov3, hol3, hP3, hb03, HF.out.1, HF.out.2.1, HF.out.2.2.1, by show _ = _; simpa using HF.out.2.2.2.2, HF.out.2.2.2.1, hnl⟩
            case measure => simp [intOf]; omega
          · have hpos : 0 < o2.length := List.length_pos_iff.2 ho
            have hv2 : ∃ g2 cl2, v2 = .slice (some ⟨g2, 0, none⟩) o2.length cl2 := by
              rcases ho2.2 with ⟨_, h0⟩ | ⟨g, cl, cur, h0, _⟩
              · omega
              · exact ⟨g, cl, h0⟩
            obtain ⟨g2, cl2, rfl⟩ := hv2
            clear hnil ho
            have hgP := own_ne hov3 hP3 (by decide)
            go_wp2_with (at_builtin; refine wpList_append_lies _ rfl _ _ 22 rfl w.heap.size 9 i0 _ 1 16 Tryd.underlying22 ji jz0 jz1 jz2 rfl (by omega) (.slice Av outs.length cv) outs.length (txtV outs) rfl hov3 ⟨g2, 0, none⟩ o2.length cl2 (txtV o2) rfl (by rw [txtV_len]; omega) (fun j u hu => ho2.cells rfl j u hu) (txtV_one o2) hpos (by unfold maxLen; omega) (by omega) hbs3 _ rfl ?_; intro gg cap' w4 hown4 hgrow hat hlt4)
            go_roundw
            case rel =>
              have hcat : txtV outs ++ txtV o2 = txtV (outs ++ o2) := by simp [txtV]
              rw [hcat, ← List.length_append] at hown4
              refine ⟨k + 1, outs ++ o2, r2, bs2, by omega, by go_num, ?_, own_of_block hol3 fun b hbk => hgrow.block b (hol3.lt b hbk).2 (fun e => hnl (by rw [← e, ← hbk]; rfl)), hP3.grown hgrow hgP, hb03.grown hgrow hbs3 (fun g hg => (hov3.lt g hg).1), HF.out.1, HF.out.2.1, HF.out.2.2.1, HF.out.2.2.2.2, HF.out.2.2.2.1, fun e => ?_⟩
              · rw [← List.length_append]; exact hown4
              · have e1 : gg = lg := by injection e
                rcases hat with h1 | h1
                · exact hnl (by rw [h1, e1])
                · omega
            case measure => simp [intOf]; omega
        · obtain rfl : k = P.length := by omega
          obtain rfl := Hend.out rfl
          have ho : bs = outs := by have := Hbs.out; rwa [List.append_nil] at this
          obtain ⟨Av, cv, rfl⟩ := own_form hov
          have ht := texts_walk Av A cv c outs bs wr (Rd.of_own hov) ((R0'.out.below hb).more hbs) (by omega) (by omega)
          rw [decide_eq_true ho.symm] at ht
          clear hov hol hP Hph Hbs Hend hsz ho
          go_wp2_with fail
          refine ht.mono ?_
          clear ht
          rintro e w2 ⟨rfl, hb2⟩
          go_wp2_with fail
          go_ret
          exact ⟨rfl, hb.trans (hb2.mono hbs)⟩
end Go.Proofs.YtccljojceoidhaaDoor
