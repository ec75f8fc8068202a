/-
  JOINED of the texts PL PK PN PJ
-/
import Derived.Test.YtccljojceoidhaaDoorJA
import Derived.Test.YtccljojceoidhaaDoorLK
/-
  WALKS of package wire: print, of lists and maps.
-/
namespace Go.Proofs.YtccljojceoidhaaDoor
open Go.RowKit

section
variable (num : Int) (t : Bs) (keys : List Bs) (kids : List JT) (Ak Ad : Option Addr) (ck cd dp B0 b : Nat) (bs : Bs) (w : World)
/-- what is known of values of one level less -/
def PrIH (B0 b B dp : Nat) (f : JT → Nat × Bs) : Prop := ∀ (j : JT) (d : Nat) (Ak Ad : Option Addr) (ck cd : Nat) (bs : Bs) (w : World), PrI B0 b w bs → JIn w B d j Ak ck Ad → bs.length + j.wt ≤ 100000000 → j.wt ≤ 9000000 →
  Calls Tryd.prog 34 #[jVal j.kind j.num j.text j.keys.length j.kids.length Ak Ad ck cd, .int .i64 ((dp : Int) + 1), .pointer (some ⟨b, 0, none⟩)] w (PrP B0 b w bs j.wt (f j))
theorem wts_at (kids : List JT) {i : Nat} (h : i < kids.length) : JT.wts (kids.drop i) = kids[i].wt + 2 + JT.wts (kids.drop (i + 1)) := by
  rw [List.drop_eq_getElem_cons h, JT.wts]
theorem keyW_at (keys : List Bs) {i : Nat} (h : i < keys.length) : JT.keyW (keys.drop i) = (6 * keys[i].length + 8) + JT.keyW (keys.drop (i + 1)) := by
  unfold JT.keyW
  rw [List.drop_eq_getElem_cons h, List.map_cons, List.sum_cons]
theorem wt_le_wts (kids : List JT) {i : Nat} (h : i < kids.length) : kids[i].wt + 2 ≤ JT.wts (kids.drop i) := by
  rw [wts_at kids h]; omega
theorem Rd.takeT {w : World} {B : Nat} {A : Option Addr} {l : List Bs} {i : Nat} (h : Rd w B 1 A l.length (txtV l)) (hi : i ≤ l.length) : Rd w B 1 A i (txtV (l.take i)) := by
  refine ⟨by rw [txtV_len, List.length_take]; omega, fun hn => ?_⟩
  obtain ⟨b, o, e, hb, hc⟩ := h.2 (by omega)
  refine ⟨b, o, e, hb, fun j u hu => hc j u ?_⟩
  unfold txtV at hu ⊢
  rw [List.map_take, List.getElem?_take] at hu
  split at hu
  · exact hu
  · cases hu
theorem PrI.drewN {B0 b : Nat} {w : World} {bs : Bs} (h : PrI B0 b w bs) (n : Nat) : PrI B0 b (w.drewN n) bs := ⟨h.I, h.T, h.D, h.gT, h.gD⟩
theorem keyW_le (keys : List Bs) (i : Nat) : JT.keyW (keys.drop (i + 1)) ≤ JT.keyW (keys.drop i) := by
  by_cases h : i < keys.length
  · rw [keyW_at keys h]; omega
  · rw [List.drop_of_length_le (by omega), List.drop_of_length_le (by omega)]; exact Nat.le_refl _
theorem wts_drop (kids : List JT) (i : Nat) : JT.wts (kids.drop i) ≤ JT.wts kids := by
  have h := JT.wts_append (kids.take i) (kids.drop i)
  rw [List.take_append_drop] at h; omega

set_option maxHeartbeats 8000000 in
set_option maxRecDepth 100000 in
theorem print_many4 (f : JT → Nat × Bs) (B d : Nat) (hP : PrI B0 b w bs) (hj : JIn w B d (JT.mk 4 num t keys kids) Ak ck Ad) (hBB : B ≤ B0) (ih : PrIH B0 b B dp f) (hdp : dp ≤ 39)
    (hs1 : bs.length + (JT.mk 4 num t keys kids).wt ≤ 100000000) (hs2 : (JT.mk 4 num t keys kids).wt ≤ 9000000) (hk : keys.length ≤ 4194304) (hd : kids.length ≤ 4194304) (hR : rightB 4 num t keys.length kids.length = true) :
    Calls Tryd.prog 34 #[jVal 4 num t keys.length kids.length Ak Ad ck cd, .int .i64 dp, .pointer (some ⟨b, 0, none⟩)] w (PrP B0 b w bs (JT.mk 4 num t keys kids).wt (if (itemsM f false keys 0 kids).1 ≠ 0 then ((itemsM f false keys 0 kids).1, []) else (0, [91] ++ (itemsM f false keys 0 kids).2 ++ [93]))) := by
  have h1 : (-9223372036854775808 : Int) ≤ num ∧ (num : Int) ≤ 9223372036854775807 := hj.2.2.2.1
  have hW : Hid ((JT.mk 4 num t keys kids).wt = 40 + 6 * t.length + JT.keyW keys + JT.wts kids) := by show _ = _; simp only [JT.wt]
  have hWl : 40 + JT.keyW keys + JT.wts kids ≤ (JT.mk 4 num t keys kids).wt := by have := hW.out; omega
  obtain ⟨hrk, hck, hjs, _, _⟩ := hj
  have hrk : Rd w B 1 Ak keys.length (txtV keys) := hrk
  have hck : keys.length ≤ ck := hck
  have hjs : JsAt w B d kids Ad := hjs
  generalize (JT.mk 4 num t keys kids).wt = W at *
  have hd39 : ¬ (40 : Int) ≤ (dp : Int) := by omega
  generalize hXX : (if (itemsM f false keys 0 kids).1 ≠ 0 then ((itemsM f false keys 0 kids).1, []) else (0, [91] ++ (itemsM f false keys 0 kids).2 ++ [93]) : Nat × Bs) = X
  generalize hPP : itemsM f false keys 0 kids = P at hXX
  have HP := Lib.hid hPP
  have HX : Hid (X = if P.1 ≠ 0 then (P.1, []) else (0, [91] ++ P.2 ++ [93])) := hXX.symm
  have hnP : Hid (JIn w B d (JT.mk 4 num t keys kids) Ak ck Ad → True) := fun _ => trivial
  clear hPP hnP hW hXX
  have hrk' := fun (w' : World) (hb : Below B0 w w') => hrk.below (hb.mono hBB)
  have hjs' := fun (w' : World) (hb : Below B0 w w') => hjs.below (hb.mono hBB)
  have HK := Lib.hid hrk'
  have HJ := Lib.hid hjs'
  have IH := Lib.hid ih
  clear hrk hjs hrk' hjs' ih
  have hk : keys.length ≤ 16777216 := by omega
  have hd : kids.length ≤ 16777216 := by omega
  have hrt := fun (w1 : World) (hT : Tab10 w1) => right_walk 4 num t keys.length kids.length Ak Ad ck cd w1 hT h1.1 h1.2 hk hd
  rw [hR] at hrt
  have hP1 := hP.alloc (.cells #[.int .i64 4, .int .i64 num, .string ⟨t.toArray⟩, .slice Ak keys.length ck, .slice Ad kids.length cd] 25)
  have hz := hP.size
  have hb1 : Below B0 w (w.alloc (.cells #[.int .i64 4, .int .i64 num, .string ⟨t.toArray⟩, .slice Ak keys.length ck, .slice Ad kids.length cd] 25)) := (Below.refl _ _).alloc hz _
  have hk1 : KeepX [65, 5] w (w.alloc (.cells #[.int .i64 4, .int .i64 num, .string ⟨t.toArray⟩, .slice Ak keys.length ck, .slice Ad kids.length cd] 25)) := (KeepX.refl _ _).alloc _
  have hBk1 : Blk (w.alloc (.cells #[.int .i64 4, .int .i64 num, .string ⟨t.toArray⟩, .slice Ak keys.length ck, .slice Ad kids.length cd] 25)) w.heap.size 25 #[.int .i64 4, .int .i64 num, .string ⟨t.toArray⟩, .slice Ak keys.length ck, .slice Ad kids.length cd] := Blk.new _ _ _
  clear hR
  go_enter Tryd.func34, Tryd.ntmps34
  go_wp2_with fail
  refine (hrt _ hP1.T).mono ?_
  clear hrt
  rintro e w2 ⟨rfl, hbr⟩
  have hP2 := hP1.below hbr
  have hz2 := hP2.size
  have hb2 := hb1.trans (hbr.mono (by have := hP1.size; exact this))
  have hk2 := hk1.below hbr (Nat.le_refl _)
  have hBk2 := hBk1.below hbr hBk1.lt
  have b0 := hBk2.cell 0
  have b1 := hBk2.cell 1
  have b2 := hBk2.cell 2
  have b3 := hBk2.cell 3
  have b4 := hBk2.cell 4
  simp at b0 b1 b2 b3 b4
  clear hP1 hbr hb1 hk1 hBk1 hP
  have hws : Calls Tryd.prog 51 #[.pointer (some ⟨b, 0, none⟩), .int .u8 91] w2 _ := writeByte_walk hP2.I 91 (by omega) hz2
  go_wp2_with fail
  refine hws.mono ?_
  clear hws
  rintro e w4 ⟨rfl, hI4, hb4, hk4⟩
  have hP4 := hP2.next hI4 hb4
  have hBk4 := hBk2.keep hk4 (by decide)
  have hb4 := hb2.trans hb4
  have hk4 := hk2.trans hk4
  have b0 := hBk4.cell 0
  have b1 := hBk4.cell 1
  have b2 := hBk4.cell 2
  have b3 := hBk4.cell 3
  have b4 := hBk4.cell 4
  simp at b0 b1 b2 b3 b4
  clear hBk2 hb2 hk2 hP2 hI4
  go_wp2_with fail
  go_loopw [64] (fun iv wr => ∃ (i : Nat) (done : Bs), iv = .int .i64 i ∧ i ≤ kids.length ∧ PrI B0 b wr done ∧ Below B0 w wr ∧ KeepX [65, 5] w wr ∧ Blk wr w.heap.size 25 #[.int .i64 4, .int .i64 num, .string ⟨t.toArray⟩, .slice Ak keys.length ck, .slice Ad kids.length cd] ∧ done.length + JT.wts (kids.drop i) + JT.keyW (keys.drop i) + 30 ≤ bs.length + W ∧ Hid (P.1 = (itemsM f false keys i (kids.drop i)).1 ∧ ((itemsM f false keys i (kids.drop i)).1 = 0 → bs ++ ([91] ++ P.2) = done ++ (itemsM f false keys i (kids.drop i)).2))) (fun iv _ => kids.length - (intOf iv).toNat)
  case atStart => exact ⟨0, bs ++ [91], rfl, by omega, hP4, hb4, hk4, hBk4, by rw [List.drop_zero, List.drop_zero, List.length_append]; simp only [List.length_cons, List.length_nil]; omega, ⟨by rw [List.drop_zero, HP.out], fun _ => by rw [List.drop_zero, HP.out, List.append_assoc]⟩⟩
  case round =>
    obtain ⟨i, done, rfl, hi, hPr, hb, hk, hBk, hbud, H⟩ := hrel
    clear hP4 hb4 hk4 hBk4 b0 b1 b2 b3 b4 hz hz2
    have hbs := hPr.size
    by_cases hlt : i < kids.length
    · obtain ⟨b', o', Ak', ck', Ad', cd', d', rfl, hbB', c0, c1, c2, c3, c4, hjin⟩ := JsAt.get (HJ.out wr hb) hlt
      have hwt := wts_at kids hlt
      have hwd := wts_drop kids i
      have j0 : (0 : Int) ≤ (i : Int) := by omega
      have j1 : (i : Int) < (kids.length : Int) := by omega
      have Hst : Hid (itemsM f false keys i (kids.drop i) = if false = true ∧ keys.getD i [] ∈ keys.take i then (5, []) else if (f kids[i]).1 ≠ 0 then ((f kids[i]).1, []) else ((itemsM f false keys (i + 1) (kids.drop (i + 1))).1, (if i = 0 then [] else [44]) ++ (if false then jquM (keys.getD i []) ++ [58] else []) ++ (f kids[i]).2 ++ (itemsM f false keys (i + 1) (kids.drop (i + 1))).2)) := by
        show _ = _
        rw [List.drop_eq_getElem_cons hlt, itemsM]
      have hkw := keyW_le keys i
      have IH2 := fun bs w => IH.out kids[i] d' Ak' Ad' ck' cd' bs w
      unfold strV at c2
      generalize kids[i] = kid at *
      have Hj := Lib.hid hjin
      have Hih := Lib.hid IH2
      clear hjin IH2 IH
      have hbB2 : b' < wr.heap.size := by omega
      have hP5 := hPr.alloc (.cells #[.int .i64 kid.kind, .int .i64 kid.num, .string ⟨kid.text.toArray⟩, .slice Ak' kid.keys.length ck', .slice Ad' kid.kids.length cd'] 25)
      have hb5 := hb.alloc hbs (.cells #[.int .i64 kid.kind, .int .i64 kid.num, .string ⟨kid.text.toArray⟩, .slice Ak' kid.keys.length ck', .slice Ad' kid.kids.length cd'] 25)
      have hk5 := hk.alloc (.cells #[.int .i64 kid.kind, .int .i64 kid.num, .string ⟨kid.text.toArray⟩, .slice Ak' kid.keys.length ck', .slice Ad' kid.kids.length cd'] 25)
      have hBk5 := hBk.alloc (.cells #[.int .i64 kid.kind, .int .i64 kid.num, .string ⟨kid.text.toArray⟩, .slice Ak' kid.keys.length ck', .slice Ad' kid.kids.length cd'] 25)
      have hBn5 := Blk.new wr 25 #[.int .i64 kid.kind, .int .i64 kid.num, .string ⟨kid.text.toArray⟩, .slice Ak' kid.keys.length ck', .slice Ad' kid.kids.length cd']
      clear hPr hb hk hBk
      by_cases hi0 : i = 0
      · subst hi0
        simp only [Nat.zero_mul, Nat.add_zero] at c0 c1 c2 c3 c4
        have hdl : done.length ≤ bs.length + W := by omega
        have b0 := hBk5.cell 0
        have b1 := hBk5.cell 1
        have b2 := hBk5.cell 2
        have b3 := hBk5.cell 3
        have b4 := hBk5.cell 4
        have n0 := hBn5.cell 0
        have n1 := hBn5.cell 1
        have n2 := hBn5.cell 2
        have n3 := hBn5.cell 3
        have n4 := hBn5.cell 4
        simp at b0 b1 b2 b3 b4 n0 n1 n2 n3 n4
        have hdone : Hid (done ++ ((if (0 : Nat) = 0 then [] else [44]) : Bs) = done) := by show _ = _; simp
        go_wp2_with fail
        refine (Hih.out _ _ hP5 (Hj.out.below ((Below.refl B _).alloc (by omega) _)) (by omega) (by omega)).mono ?_
        rintro e w7 ⟨rfl, bs7, hI7, hl7, hx7, hb7, hk7⟩
        by_cases hfe : (f kid).1 = 0
        · have hstep : Hid (itemsM f false keys 0 (kids.drop 0) = ((itemsM f false keys (0 + 1) (kids.drop (0 + 1))).1, (if 0 = 0 then [] else [44]) ++ [] ++ (f kid).2 ++ (itemsM f false keys (0 + 1) (kids.drop (0 + 1))).2)) := by
            show _ = _
            rw [Hst.out, if_neg (by simp), if_neg (by rw [hfe]; simp)]; rfl
          have hbs7 := hx7 hfe
          have hHn : Hid (P.1 = (itemsM f false keys (0 + 1) (kids.drop (0 + 1))).1 ∧ ((itemsM f false keys (0 + 1) (kids.drop (0 + 1))).1 = 0 → bs ++ ([91] ++ P.2) = bs7 ++ (itemsM f false keys (0 + 1) (kids.drop (0 + 1))).2)) := by
            have h2 := H.out
            rw [hstep.out] at h2
            refine ⟨h2.1, fun h => ?_⟩
            rw [h2.2 h, hbs7]
            simp [List.append_assoc]
          rw [hfe]
          have hP7 := (hP5).next hI7 hb7
          have hbe := (hb5).trans hb7
          have hke := (hk5).trans hk7
          have hBk7 := (hBk5).keep hk7 (by decide)
          clear H Hst HX hstep hx7 hbs7 hfe
          go_wp2_with fail
          go_roundw
          case rel => exact ⟨0 + 1, bs7, by go_num, by omega, hP7, hbe, hke, hBk7, by omega, hHn.out⟩
          case measure => simp [intOf]; omega
        · have hXe : Hid (X = ((f kid).1, [])) := by
            show _ = _
            have h2 := H.out
            rw [Hst.out, if_neg (by simp), if_pos hfe] at h2
            rw [HX.out, if_pos (by rw [h2.1]; exact hfe), h2.1]
          have hfe2 : ((((f kid).1 : Nat) : Int) != 0) = true := by simp; exact hfe
          generalize f kid = fk at *
          have Hfe := Lib.hid hfe
          clear H HX Hst hfe
          go_wp2_with fail
          go_ret
          rw [hXe.out]
          exact ⟨rfl, bs7, hI7, by omega, fun h => absurd h Hfe.out, (hb5).trans hb7, (hk5).trans hk7⟩
      · have hip : (0 : Int) < (i : Int) := by omega
        have b0 := hBk5.cell 0
        have b1 := hBk5.cell 1
        have b2 := hBk5.cell 2
        have b3 := hBk5.cell 3
        have b4 := hBk5.cell 4
        have n0 := hBn5.cell 0
        have n1 := hBn5.cell 1
        have n2 := hBn5.cell 2
        have n3 := hBn5.cell 3
        have n4 := hBn5.cell 4
        simp at b0 b1 b2 b3 b4 n0 n1 n2 n3 n4
        have hws : Calls Tryd.prog 51 #[.pointer (some ⟨b, 0, none⟩), .int .u8 44] (wr.alloc (.cells #[.int .i64 kid.kind, .int .i64 kid.num, .string ⟨kid.text.toArray⟩, .slice Ak' kid.keys.length ck', .slice Ad' kid.kids.length cd'] 25)) _ := writeByte_walk hP5.I 44 (by omega) hP5.size
        go_wp2_with fail
        refine hws.mono ?_
        clear hws
        rintro e w6 ⟨rfl, hI6, hb6, hk6⟩
        have hP6 := hP5.next hI6 hb6
        have hbB6 : Below B wr w6 := ((Below.refl B _).alloc (by omega) _).trans (hb6.mono hBB)
        have hb6 := hb5.trans hb6
        have hBk6 := hBk5.keep hk6 (by decide)
        have hBn6 := hBn5.keep hk6 (by decide)
        have hk6 := hk5.trans hk6
        have hl6 : (done ++ [44]).length = done.length + 1 := by rw [List.length_append]; rfl
        have b0 := hBk6.cell 0
        have b1 := hBk6.cell 1
        have b2 := hBk6.cell 2
        have b3 := hBk6.cell 3
        have b4 := hBk6.cell 4
        have n0 := hBn6.cell 0
        have n1 := hBn6.cell 1
        have n2 := hBn6.cell 2
        have n3 := hBn6.cell 3
        have n4 := hBn6.cell 4
        simp at b0 b1 b2 b3 b4 n0 n1 n2 n3 n4
        go_wp2_with fail
        refine (Hih.out _ _ hP6 (Hj.out.below hbB6) (by omega) (by omega)).mono ?_
        rintro e w7 ⟨rfl, bs7, hI7, hl7, hx7, hb7, hk7⟩
        by_cases hfe : (f kid).1 = 0
        · have hstep : Hid (itemsM f false keys i (kids.drop i) = ((itemsM f false keys (i + 1) (kids.drop (i + 1))).1, (if i = 0 then [] else [44]) ++ [] ++ (f kid).2 ++ (itemsM f false keys (i + 1) (kids.drop (i + 1))).2)) := by
            show _ = _
            rw [Hst.out, if_neg (by simp), if_neg (by rw [hfe]; simp)]; rfl
          have hbs7 := hx7 hfe
          have hHn : Hid (P.1 = (itemsM f false keys (i + 1) (kids.drop (i + 1))).1 ∧ ((itemsM f false keys (i + 1) (kids.drop (i + 1))).1 = 0 → bs ++ ([91] ++ P.2) = bs7 ++ (itemsM f false keys (i + 1) (kids.drop (i + 1))).2)) := by
            have h2 := H.out
            rw [hstep.out] at h2
            refine ⟨h2.1, fun h => ?_⟩
            rw [h2.2 h, hbs7]
            simp [List.append_assoc, hi0]
          rw [hfe]
          have hP7 := (hP6).next hI7 hb7
          have hbe := (hb6).trans hb7
          have hke := (hk6).trans hk7
          have hBk7 := (hBk6).keep hk7 (by decide)
          clear H Hst HX hstep hx7 hbs7 hfe
          go_wp2_with fail
          go_roundw
          case rel => exact ⟨i + 1, bs7, by go_num, by omega, hP7, hbe, hke, hBk7, by omega, hHn.out⟩
          case measure => simp [intOf]; omega
        · have hXe : Hid (X = ((f kid).1, [])) := by
            show _ = _
            have h2 := H.out
            rw [Hst.out, if_neg (by simp), if_pos hfe] at h2
            rw [HX.out, if_pos (by rw [h2.1]; exact hfe), h2.1]
          have hfe2 : ((((f kid).1 : Nat) : Int) != 0) = true := by simp; exact hfe
          generalize f kid = fk at *
          have Hfe := Lib.hid hfe
          clear H HX Hst hfe
          go_wp2_with fail
          go_ret
          rw [hXe.out]
          exact ⟨rfl, bs7, hI7, by omega, fun h => absurd h Hfe.out, (hb6).trans hb7, (hk6).trans hk7⟩
    · obtain rfl : i = kids.length := by omega
      have hH : Hid (P.1 = 0 ∧ bs ++ ([91] ++ P.2) = done) := by
        have h2 := H.out
        rw [List.drop_length, itemsM] at h2
        exact ⟨h2.1, by have := h2.2 rfl; rw [List.append_nil] at this; exact this⟩
      have hXe : Hid (X = (0, [91] ++ P.2 ++ [93])) := by show _ = _; rw [HX.out, if_neg (by rw [hH.out.1]; simp)]
      have hws : Calls Tryd.prog 51 #[.pointer (some ⟨b, 0, none⟩), .int .u8 93] wr _ := writeByte_walk hPr.I 93 (by omega) hbs
      clear H HX
      go_wp2_with fail
      refine hws.mono ?_
      clear hws
      rintro e w5 ⟨rfl, hI5, hb5, hk5⟩
      go_wp2_with fail
      go_ret
      rw [hXe.out]
      exact ⟨rfl, _, hI5, by rw [List.length_append]; simp only [List.length_cons, List.length_nil]; omega, fun _ => by rw [← hH.out.2]; simp, hb.trans hb5, hk.trans hk5⟩
end
end Go.Proofs.YtccljojceoidhaaDoor
/-
  WALKS of package wire: print, of maps.
-/
namespace Go.Proofs.YtccljojceoidhaaDoor
open Go.RowKit

section
variable (num : Int) (t : Bs) (keys : List Bs) (kids : List JT) (Ak Ad : Option Addr) (ck cd dp B0 b : Nat) (bs : Bs) (w : World)

set_option maxHeartbeats 8000000 in
set_option maxRecDepth 100000 in
theorem print_many5 (f : JT → Nat × Bs) (B d : Nat) (hP : PrI B0 b w bs) (hj : JIn w B d (JT.mk 5 num t keys kids) Ak ck Ad) (hBB : B ≤ B0) (ih : PrIH B0 b B dp f) (hdp : dp ≤ 39)
    (hs1 : bs.length + (JT.mk 5 num t keys kids).wt ≤ 100000000) (hs2 : (JT.mk 5 num t keys kids).wt ≤ 9000000) (hk : keys.length ≤ 4194304) (hd : kids.length ≤ 4194304) (hR : rightB 5 num t keys.length kids.length = true) :
    Calls Tryd.prog 34 #[jVal 5 num t keys.length kids.length Ak Ad ck cd, .int .i64 dp, .pointer (some ⟨b, 0, none⟩)] w (PrP B0 b w bs (JT.mk 5 num t keys kids).wt (if (itemsM f true keys 0 kids).1 ≠ 0 then ((itemsM f true keys 0 kids).1, []) else (0, [123] ++ (itemsM f true keys 0 kids).2 ++ [125]))) := by
  have h1 : (-9223372036854775808 : Int) ≤ num ∧ (num : Int) ≤ 9223372036854775807 := hj.2.2.2.1
  have hW : Hid ((JT.mk 5 num t keys kids).wt = 40 + 6 * t.length + JT.keyW keys + JT.wts kids) := by show _ = _; simp only [JT.wt]
  have hWl : 40 + JT.keyW keys + JT.wts kids ≤ (JT.mk 5 num t keys kids).wt := by have := hW.out; omega
  obtain ⟨hrk, hck, hjs, _, _⟩ := hj
  have hrk : Rd w B 1 Ak keys.length (txtV keys) := hrk
  have hck : keys.length ≤ ck := hck
  have hjs : JsAt w B d kids Ad := hjs
  generalize (JT.mk 5 num t keys kids).wt = W at *
  have hd39 : ¬ (40 : Int) ≤ (dp : Int) := by omega
  have hkk : Hid (keys.length = kids.length) := by
    show _ = _
    unfold rightB at hR; simp at hR; exact hR.2
  generalize hXX : (if (itemsM f true keys 0 kids).1 ≠ 0 then ((itemsM f true keys 0 kids).1, []) else (0, [123] ++ (itemsM f true keys 0 kids).2 ++ [125]) : Nat × Bs) = X
  generalize hPP : itemsM f true keys 0 kids = P at hXX
  have HP := Lib.hid hPP
  have HX : Hid (X = if P.1 ≠ 0 then (P.1, []) else (0, [123] ++ P.2 ++ [125])) := hXX.symm
  have hnP : Hid (JIn w B d (JT.mk 5 num t keys kids) Ak ck Ad → True) := fun _ => trivial
  clear hPP hnP hW hXX
  have hrk' := fun (w' : World) (hb : Below B0 w w') => hrk.below (hb.mono hBB)
  have hjs' := fun (w' : World) (hb : Below B0 w w') => hjs.below (hb.mono hBB)
  have HK := Lib.hid hrk'
  have HJ := Lib.hid hjs'
  have IH := Lib.hid ih
  clear hrk hjs hrk' hjs' ih
  have hk : keys.length ≤ 16777216 := by omega
  have hd : kids.length ≤ 16777216 := by omega
  have hrt := fun (w1 : World) (hT : Tab10 w1) => right_walk 5 num t keys.length kids.length Ak Ad ck cd w1 hT h1.1 h1.2 hk hd
  rw [hR] at hrt
  have hP1 := hP.alloc (.cells #[.int .i64 5, .int .i64 num, .string ⟨t.toArray⟩, .slice Ak keys.length ck, .slice Ad kids.length cd] 25)
  have hz := hP.size
  have hb1 : Below B0 w (w.alloc (.cells #[.int .i64 5, .int .i64 num, .string ⟨t.toArray⟩, .slice Ak keys.length ck, .slice Ad kids.length cd] 25)) := (Below.refl _ _).alloc hz _
  have hk1 : KeepX [65, 5] w (w.alloc (.cells #[.int .i64 5, .int .i64 num, .string ⟨t.toArray⟩, .slice Ak keys.length ck, .slice Ad kids.length cd] 25)) := (KeepX.refl _ _).alloc _
  have hBk1 : Blk (w.alloc (.cells #[.int .i64 5, .int .i64 num, .string ⟨t.toArray⟩, .slice Ak keys.length ck, .slice Ad kids.length cd] 25)) w.heap.size 25 #[.int .i64 5, .int .i64 num, .string ⟨t.toArray⟩, .slice Ak keys.length ck, .slice Ad kids.length cd] := Blk.new _ _ _
  clear hR
  go_enter Tryd.func34, Tryd.ntmps34
  go_wp2_with fail
  refine (hrt _ hP1.T).mono ?_
  clear hrt
  rintro e w2 ⟨rfl, hbr⟩
  have hP2 := hP1.below hbr
  have hz2 := hP2.size
  have hb2 := hb1.trans (hbr.mono (by have := hP1.size; exact this))
  have hk2 := hk1.below hbr (Nat.le_refl _)
  have hBk2 := hBk1.below hbr hBk1.lt
  have b0 := hBk2.cell 0
  have b1 := hBk2.cell 1
  have b2 := hBk2.cell 2
  have b3 := hBk2.cell 3
  have b4 := hBk2.cell 4
  simp at b0 b1 b2 b3 b4
  clear hP1 hbr hb1 hk1 hBk1 hP
  have hws : Calls Tryd.prog 51 #[.pointer (some ⟨b, 0, none⟩), .int .u8 123] w2 _ := writeByte_walk hP2.I 123 (by omega) hz2
  go_wp2_with fail
  refine hws.mono ?_
  clear hws
  rintro e w4 ⟨rfl, hI4, hb4, hk4⟩
  have hP4 := hP2.next hI4 hb4
  have hBk4 := hBk2.keep hk4 (by decide)
  have hb4 := hb2.trans hb4
  have hk4 := hk2.trans hk4
  have b0 := hBk4.cell 0
  have b1 := hBk4.cell 1
  have b2 := hBk4.cell 2
  have b3 := hBk4.cell 3
  have b4 := hBk4.cell 4
  simp at b0 b1 b2 b3 b4
  clear hBk2 hb2 hk2 hP2 hI4
  go_wp2_with fail
  go_loopw [64] (fun iv wr => ∃ (i : Nat) (done : Bs), iv = .int .i64 i ∧ i ≤ kids.length ∧ PrI B0 b wr done ∧ Below B0 w wr ∧ KeepX [65, 5] w wr ∧ Blk wr w.heap.size 25 #[.int .i64 5, .int .i64 num, .string ⟨t.toArray⟩, .slice Ak keys.length ck, .slice Ad kids.length cd] ∧ done.length + JT.wts (kids.drop i) + JT.keyW (keys.drop i) + 30 ≤ bs.length + W ∧ Hid (P.1 = (itemsM f true keys i (kids.drop i)).1 ∧ ((itemsM f true keys i (kids.drop i)).1 = 0 → bs ++ ([123] ++ P.2) = done ++ (itemsM f true keys i (kids.drop i)).2))) (fun iv _ => kids.length - (intOf iv).toNat)
  case atStart => exact ⟨0, bs ++ [123], rfl, by omega, hP4, hb4, hk4, hBk4, by rw [List.drop_zero, List.drop_zero, List.length_append]; simp only [List.length_cons, List.length_nil]; omega, ⟨by rw [List.drop_zero, HP.out], fun _ => by rw [List.drop_zero, HP.out, List.append_assoc]⟩⟩
  case round =>
    obtain ⟨i, done, rfl, hi, hPr, hb, hk, hBk, hbud, H⟩ := hrel
    clear hP4 hb4 hk4 hBk4 b0 b1 b2 b3 b4 hz hz2
    have hbs := hPr.size
    by_cases hlt : i < kids.length
    · obtain ⟨b', o', Ak', ck', Ad', cd', d', rfl, hbB', c0, c1, c2, c3, c4, hjin⟩ := JsAt.get (HJ.out wr hb) hlt
      have hwt := wts_at kids hlt
      have hwd := wts_drop kids i
      have j0 : (0 : Int) ≤ (i : Int) := by omega
      have j1 : (i : Int) < (kids.length : Int) := by omega
      have Hst : Hid (itemsM f true keys i (kids.drop i) = if true = true ∧ keys.getD i [] ∈ keys.take i then (5, []) else if (f kids[i]).1 ≠ 0 then ((f kids[i]).1, []) else ((itemsM f true keys (i + 1) (kids.drop (i + 1))).1, (if i = 0 then [] else [44]) ++ (if true then jquM (keys.getD i []) ++ [58] else []) ++ (f kids[i]).2 ++ (itemsM f true keys (i + 1) (kids.drop (i + 1))).2)) := by
        show _ = _
        rw [List.drop_eq_getElem_cons hlt, itemsM]
      have hkw := keyW_le keys i
      have IH2 := fun bs w => IH.out kids[i] d' Ak' Ad' ck' cd' bs w
      have hi5 : i < keys.length := by have := hkk.out; omega
      have hkw5 := keyW_at keys hi5
      have hgd : Hid (keys.getD i [] = keys[i]) := by show _ = _; rw [List.getD_eq_getElem?_getD, List.getElem?_eq_getElem hi5]; rfl
      have htk : (keys.take i).length = i := by rw [List.length_take]; omega
      obtain ⟨bk, ok, rfl, hbkB, _⟩ := Rd.txt (HK.out wr hb) hi5
      have HC : Hid (∀ w', Below B0 w w' → w'.cell? ⟨bk, ok + i, none⟩ = some (strV keys[i])) := fun w' hb => by
        obtain ⟨b2, o2, e, _, c⟩ := Rd.txt (HK.out w' hb) hi5
        injection e with e; injection e with e1 e2 _
        subst e1 e2; exact c
      have HCT : Hid (∀ w', Below B0 w w' → B0 ≤ w'.heap.size → Calls Tryd.prog 49 #[.slice (some ⟨bk, ok, none⟩) i ck, .string ⟨keys[i].toArray⟩] w' fun e w'' => e = .returned (.bool ((keys.take i).contains keys[i])) ∧ w'' = w') := fun w' hb hz => by
        have h := contains_walk (some ⟨bk, ok, none⟩) ck (keys.take i) keys[i] w' (by rw [htk]; exact ((HK.out w' hb).takeT (by omega)).more (by omega)) (by omega)
        rw [htk] at h; exact h
      have HQ : Hid ((keys.take i).contains keys[i] = true ↔ keys.getD i [] ∈ keys.take i) := by
        show _ ↔ _
        rw [hgd.out]; simp
      generalize (keys.take i).contains keys[i] = Q at *
      generalize keys[i] = key at *
      unfold strV at HC
      clear htk
      unfold strV at c2
      generalize kids[i] = kid at *
      have Hj := Lib.hid hjin
      have Hih := Lib.hid IH2
      clear hjin IH2 IH
      have hbB2 : b' < wr.heap.size := by omega
      have hP5 := hPr.alloc (.cells #[.int .i64 kid.kind, .int .i64 kid.num, .string ⟨kid.text.toArray⟩, .slice Ak' kid.keys.length ck', .slice Ad' kid.kids.length cd'] 25)
      have hb5 := hb.alloc hbs (.cells #[.int .i64 kid.kind, .int .i64 kid.num, .string ⟨kid.text.toArray⟩, .slice Ak' kid.keys.length ck', .slice Ad' kid.kids.length cd'] 25)
      have hk5 := hk.alloc (.cells #[.int .i64 kid.kind, .int .i64 kid.num, .string ⟨kid.text.toArray⟩, .slice Ak' kid.keys.length ck', .slice Ad' kid.kids.length cd'] 25)
      have hBk5 := hBk.alloc (.cells #[.int .i64 kid.kind, .int .i64 kid.num, .string ⟨kid.text.toArray⟩, .slice Ak' kid.keys.length ck', .slice Ad' kid.kids.length cd'] 25)
      have hBn5 := Blk.new wr 25 #[.int .i64 kid.kind, .int .i64 kid.num, .string ⟨kid.text.toArray⟩, .slice Ak' kid.keys.length ck', .slice Ad' kid.kids.length cd']
      clear hPr hb hk hBk
      by_cases hi0 : i = 0
      · subst hi0
        simp only [Nat.zero_mul, Nat.add_zero] at c0 c1 c2 c3 c4
        have hdl : done.length ≤ bs.length + W := by omega
        have b0 := hBk5.cell 0
        have b1 := hBk5.cell 1
        have b2 := hBk5.cell 2
        have b3 := hBk5.cell 3
        have b4 := hBk5.cell 4
        have n0 := hBn5.cell 0
        have n1 := hBn5.cell 1
        have n2 := hBn5.cell 2
        have n3 := hBn5.cell 3
        have n4 := hBn5.cell 4
        simp at b0 b1 b2 b3 b4 n0 n1 n2 n3 n4
        have hdone : Hid (done ++ ((if (0 : Nat) = 0 then [] else [44]) : Bs) = done) := by show _ = _; simp
        have hBE := hb5
        have hct : ∀ n, Calls Tryd.prog 49 #[.slice (some ⟨bk, ok, none⟩) 0 ck, .string ⟨key.toArray⟩] ((wr.alloc (.cells #[.int .i64 kid.kind, .int .i64 kid.num, .string ⟨kid.text.toArray⟩, .slice Ak' kid.keys.length ck', .slice Ad' kid.kids.length cd'] 25)).drewN n) fun e w' => e = .returned (.bool Q) ∧ w' = (wr.alloc (.cells #[.int .i64 kid.kind, .int .i64 kid.num, .string ⟨kid.text.toArray⟩, .slice Ak' kid.keys.length ck', .slice Ad' kid.kids.length cd'] 25)).drewN n := fun n => HCT.out ((wr.alloc (.cells #[.int .i64 kid.kind, .int .i64 kid.num, .string ⟨kid.text.toArray⟩, .slice Ak' kid.keys.length ck', .slice Ad' kid.kids.length cd'] 25)).drewN n) (below_drewN hBE n) (hP5).size
        have ckx := HC.out (wr.alloc (.cells #[.int .i64 kid.kind, .int .i64 kid.num, .string ⟨kid.text.toArray⟩, .slice Ak' kid.keys.length ck', .slice Ad' kid.kids.length cd'] 25)) hBE
        simp only [Nat.add_zero] at ckx
        have j5 : (0 : Int) < (keys.length : Int) := by omega
        have j6 : (0 : Int) ≤ (ck : Int) := by omega
        go_wp2_with fail
        go_quiet ((go_at_call 49; exact Calls.quiet_of_same (hct _)))
        have hPq := (hP5).drewN nq
        have hBq := below_drewN hBE nq
        have hKq := KeepX.drewN (hk5) nq
        have hBkq := (hBk5).drewN nq
        have hBnq := (hBn5).drewN nq
        have hJq := ((Hj.out.below ((Below.refl B wr).alloc (by omega) (.cells #[.int .i64 kid.kind, .int .i64 kid.num, .string ⟨kid.text.toArray⟩, .slice Ak' kid.keys.length ck', .slice Ad' kid.kids.length cd'] 25)))).below (below_drewN (Below.refl B _) nq)
        generalize World.drewN _ nq = wq at *
        clear hct ckx b0 b1 b2 b3 b4 n0 n1 n2 n3 n4
        have b0 := hBkq.cell 0
        have b1 := hBkq.cell 1
        have b2 := hBkq.cell 2
        have b3 := hBkq.cell 3
        have b4 := hBkq.cell 4
        simp at b0 b1 b2 b3 b4
        have ckx := HC.out wq hBq
        simp only [Nat.add_zero] at ckx
        cases Q with
        | true =>
          have hXe : Hid (X = (5, [])) := by
            show _ = _
            have h2 := H.out
            rw [Hst.out, if_pos ⟨by first | rfl | trivial, HQ.out.1 (by first | rfl | trivial)⟩] at h2
            rw [HX.out, if_pos (by rw [h2.1]; simp), h2.1]
          clear H HX Hst
          go_wp2_with fail
          go_ret
          rw [hXe.out]
          exact ⟨rfl, _, hPq.I, by omega, fun h => absurd h (by simp), hBq, hKq⟩
        | false =>
          have hnotin : Hid (keys.getD 0 [] ∉ keys.take 0) := fun h => by have := HQ.out.2 h; cases this
          have hqu := ljquote_walk key wq hPq.D (by omega)
          have hql := jquM_len key
          have Hgj : Hid (jquM (keys.getD 0 []) = jquM key) := by show _ = _; rw [hgd.out]
          generalize jquM key = Y at *
          go_wp2_with fail
          refine hqu.mono ?_
          clear hqu
          rintro e w8 ⟨rfl, hb8⟩
          have hP8 := hPq.below hb8
          have hB8 := hBq.trans (hb8.mono hPq.size)
          have hK8 := hKq.below hb8 (Nat.le_refl _)
          have hBk8 := hBkq.below hb8 hBkq.lt
          have hBn8 := hBnq.below hb8 hBnq.lt
          have hJ8 := hJq.below (hb8.mono (Nat.le_trans hBB hPq.size))
          have hyl : Y.length ≤ 100000000 := by omega
          have hws : Calls Tryd.prog 53 #[.pointer (some ⟨b, 0, none⟩), .string ((⟨Y.toArray⟩ : ByteArray) ++ ⟨#[58]⟩)] w8 fun e w' => e = .returned (.tuple #[.int .i64 ((Y ++ [58] : Bs).length : Nat), .nilIface]) ∧ IsB B0 b (done ++ (Y ++ [58])) w' ∧ Below B0 w8 w' ∧ KeepX [65, 5] w8 w' := by
            have h := writeStr_walk hP8.I (Y ++ [58]) (by simp only [List.length_append, List.length_cons, List.length_nil]; omega) hP8.size
            rw [← ba_app] at h
            exact h
          go_wp2_with fail
          refine hws.mono ?_
          clear hws
          rintro e w9 ⟨rfl, hI9, hb9, hk9⟩
          have hP9 := hP8.next hI9 hb9
          have hB9 := hB8.trans hb9
          have hK9 := hK8.trans hk9
          have hBk9 := hBk8.keep hk9 (by decide)
          have hBn9 := hBn8.keep hk9 (by decide)
          have hJ9 := hJ8.below (hb9.mono hBB)
          have hl9 : (done ++ (Y ++ [58])).length = done.length + (Y.length + 1) := by simp only [List.length_append, List.length_cons, List.length_nil]
          clear b0 b1 b2 b3 b4 ckx
          have b0 := hBk9.cell 0
          have b1 := hBk9.cell 1
          have b2 := hBk9.cell 2
          have b3 := hBk9.cell 3
          have b4 := hBk9.cell 4
          have n0 := hBn9.cell 0
          have n1 := hBn9.cell 1
          have n2 := hBn9.cell 2
          have n3 := hBn9.cell 3
          have n4 := hBn9.cell 4
          simp at b0 b1 b2 b3 b4 n0 n1 n2 n3 n4
          go_wp2_with fail
          refine (Hih.out _ _ hP9 hJ9 (by omega) (by omega)).mono ?_
          rintro e w7 ⟨rfl, bs7, hI7, hl7, hx7, hb7, hk7⟩
          by_cases hfe : (f kid).1 = 0
          · have hstep : Hid (itemsM f true keys 0 (kids.drop 0) = ((itemsM f true keys (0 + 1) (kids.drop (0 + 1))).1, (if 0 = 0 then [] else [44]) ++ (jquM (keys.getD 0 []) ++ [58]) ++ (f kid).2 ++ (itemsM f true keys (0 + 1) (kids.drop (0 + 1))).2)) := by
              show _ = _
              rw [Hst.out, if_neg (by rintro ⟨_, h⟩; exact hnotin.out h), if_neg (by rw [hfe]; simp)]; rfl
            have hbs7 := hx7 hfe
            have hHn : Hid (P.1 = (itemsM f true keys (0 + 1) (kids.drop (0 + 1))).1 ∧ ((itemsM f true keys (0 + 1) (kids.drop (0 + 1))).1 = 0 → bs ++ ([123] ++ P.2) = bs7 ++ (itemsM f true keys (0 + 1) (kids.drop (0 + 1))).2)) := by
              have h2 := H.out
              rw [hstep.out] at h2
              refine ⟨h2.1, fun h => ?_⟩
              rw [h2.2 h, hbs7, Hgj.out]
              simp [List.append_assoc]
            rw [hfe]
            have hP7 := (hP9).next hI7 hb7
            have hbe := (hB9).trans hb7
            have hke := (hK9).trans hk7
            have hBk7 := (hBk9).keep hk7 (by decide)
            clear H Hst HX hstep hx7 hbs7 hfe
            go_wp2_with fail
            go_roundw
            case rel => exact ⟨0 + 1, bs7, by go_num, by omega, hP7, hbe, hke, hBk7, by omega, hHn.out⟩
            case measure => simp [intOf]; omega
          · have hXe : Hid (X = ((f kid).1, [])) := by
              show _ = _
              have h2 := H.out
              rw [Hst.out, if_neg (by rintro ⟨_, h⟩; exact hnotin.out h), if_pos hfe] at h2
              rw [HX.out, if_pos (by rw [h2.1]; exact hfe), h2.1]
            have hfe2 : ((((f kid).1 : Nat) : Int) != 0) = true := by simp; exact hfe
            generalize f kid = fk at *
            have Hfe := Lib.hid hfe
            clear H HX Hst hfe
            go_wp2_with fail
            go_ret
            rw [hXe.out]
            exact ⟨rfl, bs7, hI7, by omega, fun h => absurd h Hfe.out, (hB9).trans hb7, (hK9).trans hk7⟩
      · have hip : (0 : Int) < (i : Int) := by omega
        have b0 := hBk5.cell 0
        have b1 := hBk5.cell 1
        have b2 := hBk5.cell 2
        have b3 := hBk5.cell 3
        have b4 := hBk5.cell 4
        have n0 := hBn5.cell 0
        have n1 := hBn5.cell 1
        have n2 := hBn5.cell 2
        have n3 := hBn5.cell 3
        have n4 := hBn5.cell 4
        simp at b0 b1 b2 b3 b4 n0 n1 n2 n3 n4
        have hws : Calls Tryd.prog 51 #[.pointer (some ⟨b, 0, none⟩), .int .u8 44] (wr.alloc (.cells #[.int .i64 kid.kind, .int .i64 kid.num, .string ⟨kid.text.toArray⟩, .slice Ak' kid.keys.length ck', .slice Ad' kid.kids.length cd'] 25)) _ := writeByte_walk hP5.I 44 (by omega) hP5.size
        go_wp2_with fail
        refine hws.mono ?_
        clear hws
        rintro e w6 ⟨rfl, hI6, hb6, hk6⟩
        have hP6 := hP5.next hI6 hb6
        have hbB6 : Below B wr w6 := ((Below.refl B _).alloc (by omega) _).trans (hb6.mono hBB)
        have hb6 := hb5.trans hb6
        have hBk6 := hBk5.keep hk6 (by decide)
        have hBn6 := hBn5.keep hk6 (by decide)
        have hk6 := hk5.trans hk6
        have hl6 : (done ++ [44]).length = done.length + 1 := by rw [List.length_append]; rfl
        have b0 := hBk6.cell 0
        have b1 := hBk6.cell 1
        have b2 := hBk6.cell 2
        have b3 := hBk6.cell 3
        have b4 := hBk6.cell 4
        have n0 := hBn6.cell 0
        have n1 := hBn6.cell 1
        have n2 := hBn6.cell 2
        have n3 := hBn6.cell 3
        have n4 := hBn6.cell 4
        simp at b0 b1 b2 b3 b4 n0 n1 n2 n3 n4
        have hBE := hb6
        have hct : ∀ n, Calls Tryd.prog 49 #[.slice (some ⟨bk, ok, none⟩) i ck, .string ⟨key.toArray⟩] (w6.drewN n) fun e w' => e = .returned (.bool Q) ∧ w' = w6.drewN n := fun n => HCT.out (w6.drewN n) (below_drewN hBE n) (hP6).size
        have ckx := HC.out w6 hBE
        have j5 : (i : Int) < (keys.length : Int) := by omega
        have j6 : (i : Int) ≤ (ck : Int) := by omega
        go_wp2_with fail
        go_quiet ((go_at_call 49; exact Calls.quiet_of_same (hct _)))
        have hPq := (hP6).drewN nq
        have hBq := below_drewN hBE nq
        have hKq := KeepX.drewN (hk6) nq
        have hBkq := (hBk6).drewN nq
        have hBnq := (hBn6).drewN nq
        have hJq := ((Hj.out.below hbB6)).below (below_drewN (Below.refl B _) nq)
        generalize World.drewN _ nq = wq at *
        clear hct ckx b0 b1 b2 b3 b4 n0 n1 n2 n3 n4
        have b0 := hBkq.cell 0
        have b1 := hBkq.cell 1
        have b2 := hBkq.cell 2
        have b3 := hBkq.cell 3
        have b4 := hBkq.cell 4
        simp at b0 b1 b2 b3 b4
        have ckx := HC.out wq hBq
        cases Q with
        | true =>
          have hXe : Hid (X = (5, [])) := by
            show _ = _
            have h2 := H.out
            rw [Hst.out, if_pos ⟨by first | rfl | trivial, HQ.out.1 (by first | rfl | trivial)⟩] at h2
            rw [HX.out, if_pos (by rw [h2.1]; simp), h2.1]
          clear H HX Hst
          go_wp2_with fail
          go_ret
          rw [hXe.out]
          exact ⟨rfl, _, hPq.I, by omega, fun h => absurd h (by simp), hBq, hKq⟩
        | false =>
          have hnotin : Hid (keys.getD i [] ∉ keys.take i) := fun h => by have := HQ.out.2 h; cases this
          have hqu := ljquote_walk key wq hPq.D (by omega)
          have hql := jquM_len key
          have Hgj : Hid (jquM (keys.getD i []) = jquM key) := by show _ = _; rw [hgd.out]
          generalize jquM key = Y at *
          go_wp2_with fail
          refine hqu.mono ?_
          clear hqu
          rintro e w8 ⟨rfl, hb8⟩
          have hP8 := hPq.below hb8
          have hB8 := hBq.trans (hb8.mono hPq.size)
          have hK8 := hKq.below hb8 (Nat.le_refl _)
          have hBk8 := hBkq.below hb8 hBkq.lt
          have hBn8 := hBnq.below hb8 hBnq.lt
          have hJ8 := hJq.below (hb8.mono (Nat.le_trans hBB hPq.size))
          have hyl : Y.length ≤ 100000000 := by omega
          have hws : Calls Tryd.prog 53 #[.pointer (some ⟨b, 0, none⟩), .string ((⟨Y.toArray⟩ : ByteArray) ++ ⟨#[58]⟩)] w8 fun e w' => e = .returned (.tuple #[.int .i64 ((Y ++ [58] : Bs).length : Nat), .nilIface]) ∧ IsB B0 b ((done ++ [44]) ++ (Y ++ [58])) w' ∧ Below B0 w8 w' ∧ KeepX [65, 5] w8 w' := by
            have h := writeStr_walk hP8.I (Y ++ [58]) (by simp only [List.length_append, List.length_cons, List.length_nil]; omega) hP8.size
            rw [← ba_app] at h
            exact h
          go_wp2_with fail
          refine hws.mono ?_
          clear hws
          rintro e w9 ⟨rfl, hI9, hb9, hk9⟩
          have hP9 := hP8.next hI9 hb9
          have hB9 := hB8.trans hb9
          have hK9 := hK8.trans hk9
          have hBk9 := hBk8.keep hk9 (by decide)
          have hBn9 := hBn8.keep hk9 (by decide)
          have hJ9 := hJ8.below (hb9.mono hBB)
          have hl9 : ((done ++ [44]) ++ (Y ++ [58])).length = (done ++ [44]).length + (Y.length + 1) := by simp only [List.length_append, List.length_cons, List.length_nil]
          clear b0 b1 b2 b3 b4 ckx
          have b0 := hBk9.cell 0
          have b1 := hBk9.cell 1
          have b2 := hBk9.cell 2
          have b3 := hBk9.cell 3
          have b4 := hBk9.cell 4
          have n0 := hBn9.cell 0
          have n1 := hBn9.cell 1
          have n2 := hBn9.cell 2
          have n3 := hBn9.cell 3
          have n4 := hBn9.cell 4
          simp at b0 b1 b2 b3 b4 n0 n1 n2 n3 n4
          go_wp2_with fail
          refine (Hih.out _ _ hP9 hJ9 (by omega) (by omega)).mono ?_
          rintro e w7 ⟨rfl, bs7, hI7, hl7, hx7, hb7, hk7⟩
          by_cases hfe : (f kid).1 = 0
          · have hstep : Hid (itemsM f true keys i (kids.drop i) = ((itemsM f true keys (i + 1) (kids.drop (i + 1))).1, (if i = 0 then [] else [44]) ++ (jquM (keys.getD i []) ++ [58]) ++ (f kid).2 ++ (itemsM f true keys (i + 1) (kids.drop (i + 1))).2)) := by
              show _ = _
              rw [Hst.out, if_neg (by rintro ⟨_, h⟩; exact hnotin.out h), if_neg (by rw [hfe]; simp)]; rfl
            have hbs7 := hx7 hfe
            have hHn : Hid (P.1 = (itemsM f true keys (i + 1) (kids.drop (i + 1))).1 ∧ ((itemsM f true keys (i + 1) (kids.drop (i + 1))).1 = 0 → bs ++ ([123] ++ P.2) = bs7 ++ (itemsM f true keys (i + 1) (kids.drop (i + 1))).2)) := by
              have h2 := H.out
              rw [hstep.out] at h2
              refine ⟨h2.1, fun h => ?_⟩
              rw [h2.2 h, hbs7, Hgj.out]
              simp [List.append_assoc, hi0]
            rw [hfe]
            have hP7 := (hP9).next hI7 hb7
            have hbe := (hB9).trans hb7
            have hke := (hK9).trans hk7
            have hBk7 := (hBk9).keep hk7 (by decide)
            clear H Hst HX hstep hx7 hbs7 hfe
            go_wp2_with fail
            go_roundw
            case rel => exact ⟨i + 1, bs7, by go_num, by omega, hP7, hbe, hke, hBk7, by omega, hHn.out⟩
            case measure => simp [intOf]; omega
          · have hXe : Hid (X = ((f kid).1, [])) := by
              show _ = _
              have h2 := H.out
              rw [Hst.out, if_neg (by rintro ⟨_, h⟩; exact hnotin.out h), if_pos hfe] at h2
              rw [HX.out, if_pos (by rw [h2.1]; exact hfe), h2.1]
            have hfe2 : ((((f kid).1 : Nat) : Int) != 0) = true := by simp; exact hfe
            generalize f kid = fk at *
            have Hfe := Lib.hid hfe
            clear H HX Hst hfe
            go_wp2_with fail
            go_ret
            rw [hXe.out]
            exact ⟨rfl, bs7, hI7, by omega, fun h => absurd h Hfe.out, (hB9).trans hb7, (hK9).trans hk7⟩
    · obtain rfl : i = kids.length := by omega
      have hH : Hid (P.1 = 0 ∧ bs ++ ([123] ++ P.2) = done) := by
        have h2 := H.out
        rw [List.drop_length, itemsM] at h2
        exact ⟨h2.1, by have := h2.2 rfl; rw [List.append_nil] at this; exact this⟩
      have hXe : Hid (X = (0, [123] ++ P.2 ++ [125])) := by show _ = _; rw [HX.out, if_neg (by rw [hH.out.1]; simp)]
      have hws : Calls Tryd.prog 51 #[.pointer (some ⟨b, 0, none⟩), .int .u8 125] wr _ := writeByte_walk hPr.I 125 (by omega) hbs
      clear H HX
      go_wp2_with fail
      refine hws.mono ?_
      clear hws
      rintro e w5 ⟨rfl, hI5, hb5, hk5⟩
      go_wp2_with fail
      go_ret
      rw [hXe.out]
      exact ⟨rfl, _, hI5, by rw [List.length_append]; simp only [List.length_cons, List.length_nil]; omega, fun _ => by rw [← hH.out.2]; simp, hb.trans hb5, hk.trans hk5⟩
end
end Go.Proofs.YtccljojceoidhaaDoor
/-
  WALKS of package wire: print of any value; Print.
-/
namespace Go.Proofs.YtccljojceoidhaaDoor
open Go.RowKit

theorem printM_eq (r : Nat) (j : JT) : printM r j = if jright j = false then (3, []) else if j.kind = 0 then (0, [110, 117, 108, 108]) else if j.kind = 1 then (0, if j.num = 1 then [116, 114, 117, 101] else [102, 97, 108, 115, 101]) else if j.kind = 2 then (0, Lib.itoa j.num) else if j.kind = 3 then (0, jquM j.text) else (match r with
    | 0 => (12, [])
    | r + 1 => if (itemsM (printM r) (decide (j.kind = 5)) j.keys 0 j.kids).1 ≠ 0 then ((itemsM (printM r) (decide (j.kind = 5)) j.keys 0 j.kids).1, []) else (0, (if decide (j.kind = 5) then [123] else [91]) ++ (itemsM (printM r) (decide (j.kind = 5)) j.keys 0 j.kids).2 ++ (if decide (j.kind = 5) then [125] else [93]))) := by
  cases r <;> rfl
theorem keyW_ge (ks : List Bs) : 8 * ks.length ≤ JT.keyW ks := by
  unfold JT.keyW
  induction ks with
  | nil => simp
  | cons k ks ih => simp only [List.map_cons, List.sum_cons, List.length_cons]; omega
theorem wts_ge (l : List JT) : 42 * l.length ≤ JT.wts l := by
  induction l with
  | nil => simp [JT.wts]
  | cons k ks ih => have := JT.wt_eq k; simp only [JT.wts, List.length_cons]; omega
theorem right_kind {j : JT} (h : jright j = true) : j.kind = 0 ∨ (j.kind = 1 ∧ (j.num = 0 ∨ j.num = 1)) ∨ (j.kind = 2 ∧ -999999999999999999 ≤ j.num ∧ j.num ≤ 999999999999999999) ∨ j.kind = 3 ∨ j.kind = 4 ∨ j.kind = 5 := by
  unfold jright at h
  split at h
  · rename_i e; exact .inl e
  split at h
  · rename_i e
    simp only [Bool.and_eq_true, decide_eq_true_eq] at h
    exact .inr (.inl ⟨e, h.1.1.1⟩)
  split at h
  · rename_i e
    simp only [Bool.and_eq_true, decide_eq_true_eq] at h
    exact .inr (.inr (.inl ⟨e, h.1.1.1⟩))
  split at h
  · rename_i e; exact .inr (.inr (.inr (.inl e)))
  split at h
  · rename_i e; exact .inr (.inr (.inr (.inr (.inl e))))
  split at h
  · rename_i e; exact .inr (.inr (.inr (.inr (.inr e))))
  · cases h
theorem itoa_len40 {n : Int} (h1 : -999999999999999999 ≤ n) (h2 : n ≤ 999999999999999999) : (Lib.itoa n).length ≤ 40 := by
  have key : ∀ m : Nat, m ≤ 999999999999999999 → (Lib.decDigits m).length ≤ 18 := fun m hm => (digits_small m 18 (by omega)).2 (by rw [show (10 : Nat) ^ 18 = 1000000000000000000 from rfl]; omega)
  unfold Lib.itoa
  split
  · have := key n.natAbs (by omega); simp only [List.length_cons]; omega
  · have := key n.toNat (by omega); omega
theorem PrP.mono {B0 b : Nat} {w : World} {bs : Bs} {W W' : Nat} {X : Nat × Bs} {e : Ending} {w' : World} (h : PrP B0 b w bs W X e w') (hW : W ≤ W') : PrP B0 b w bs W' X e w' := by
  obtain ⟨h1, bs', h2, h3, h4⟩ := h
  exact ⟨h1, bs', h2, by omega, h4⟩

/-- what is known of values at a level -/
def PrAt (B0 b B dp : Nat) (f : JT → Nat × Bs) : Prop := ∀ (j : JT) (d : Nat) (Ak Ad : Option Addr) (ck cd : Nat) (bs : Bs) (w : World), PrI B0 b w bs → JIn w B d j Ak ck Ad → bs.length + j.wt ≤ 100000000 → j.wt ≤ 9000000 →
  Calls Tryd.prog 34 #[jVal j.kind j.num j.text j.keys.length j.kids.length Ak Ad ck cd, .int .i64 (dp : Nat), .pointer (some ⟨b, 0, none⟩)] w (PrP B0 b w bs j.wt (f j))

/-- lists and maps are what is left -/
theorem print_step (B0 b B dp r : Nat)
    (hmany : ∀ (k : Int) (num : Int) (t : Bs) (keys : List Bs) (kids : List JT) (d : Nat) (Ak Ad : Option Addr) (ck cd : Nat) (bs : Bs) (w : World), (k = 4 ∨ k = 5) → jright (JT.mk k num t keys kids) = true → PrI B0 b w bs → JIn w B d (JT.mk k num t keys kids) Ak ck Ad → bs.length + (JT.mk k num t keys kids).wt ≤ 100000000 → (JT.mk k num t keys kids).wt ≤ 9000000 →
      Calls Tryd.prog 34 #[jVal k num t keys.length kids.length Ak Ad ck cd, .int .i64 (dp : Nat), .pointer (some ⟨b, 0, none⟩)] w (PrP B0 b w bs (JT.mk k num t keys kids).wt (printM r (JT.mk k num t keys kids)))) : PrAt B0 b B dp (printM r) := by
  intro j d Ak Ad ck cd bs w hP hj h1 h2
  have hwt := JT.wt_eq j
  have hkg := keyW_ge j.keys
  have hdg := wts_ge j.kids
  have hn := hj.2.2.2.1
  cases hr : jright j with
  | false =>
    have e : printM r j = (3, []) := by rw [printM_eq, if_pos hr]
    rw [e]
    exact (print_bad j.kind j.num j.text j.keys j.kids Ak Ad ck cd dp B0 b bs w hP hn (by omega) (by omega) hr).mono fun e w' h => PrP.mono h (by omega)
  | true =>
    have hnf : ¬ jright j = false := by rw [hr]; simp
    obtain ⟨k, num, t, keys, kids⟩ := j
    simp only [JT.kind, JT.num, JT.text, JT.keys, JT.kids] at *
    rcases right_kind hr with hk | ⟨hk, hk2⟩ | ⟨hk, hk2, hk3⟩ | hk | hk
    · have hk : k = 0 := hk
      subst hk
      have e : printM r (JT.mk 0 num t keys kids) = (0, [110, 117, 108, 108]) := by rw [printM_eq, if_neg hnf]; rfl
      rw [e]
      exact (print_null num t keys kids Ak Ad ck cd dp B0 b bs w hP hn (by omega) (by omega) (by omega) hr).mono fun e w' h => PrP.mono h (by omega)
    · have hk : k = 1 := hk
      have hk2 : num = 0 ∨ num = 1 := hk2
      subst hk
      rcases hk2 with hk2 | hk2
      · subst hk2
        have e : printM r (JT.mk 1 0 t keys kids) = (0, [102, 97, 108, 115, 101]) := by rw [printM_eq, if_neg hnf]; rfl
        rw [e]
        exact (print_no t keys kids Ak Ad ck cd dp B0 b bs w hP hn (by omega) (by omega) (by omega) hr).mono fun e w' h => PrP.mono h (by omega)
      · subst hk2
        have e : printM r (JT.mk 1 1 t keys kids) = (0, [116, 114, 117, 101]) := by rw [printM_eq, if_neg hnf]; rfl
        rw [e]
        exact (print_yes t keys kids Ak Ad ck cd dp B0 b bs w hP hn (by omega) (by omega) (by omega) hr).mono fun e w' h => PrP.mono h (by omega)
    · have hk : k = 2 := hk
      subst hk
      have e : printM r (JT.mk 2 num t keys kids) = (0, Lib.itoa num) := by rw [printM_eq, if_neg hnf]; rfl
      rw [e]
      exact (print_num num t keys kids Ak Ad ck cd dp B0 b bs w hP hn (by omega) (by omega) (by omega) (itoa_len40 hk2 hk3) hr).mono fun e w' h => PrP.mono h (by omega)
    · have hk : k = 3 := hk
      subst hk
      have e : printM r (JT.mk 3 num t keys kids) = (0, jquM t) := by rw [printM_eq, if_neg hnf]; rfl
      rw [e]
      exact (print_text num t keys kids Ak Ad ck cd dp B0 b bs w hP hn (by omega) (by omega) (by omega) (by omega) hr).mono fun e w' h => PrP.mono h (by omega)
    · exact hmany k num t keys kids d Ak Ad ck cd bs w hk hr hP hj h1 h2

theorem print_any (B0 b B : Nat) (hBB : B ≤ B0) : ∀ (r dp : Nat), dp + r = 40 → PrAt B0 b B dp (printM r) := by
  intro r
  induction r with
  | zero =>
    intro dp hdp
    refine print_step B0 b B dp 0 fun k num t keys kids d Ak Ad ck cd bs w hk hr hP hj h1 h2 => ?_
    have hwt := JT.wt_eq (JT.mk k num t keys kids)
    simp only [JT.kind, JT.num, JT.text, JT.keys, JT.kids] at hwt
    have hkg := keyW_ge keys
    have hdg := wts_ge kids
    have e : printM 0 (JT.mk k num t keys kids) = (12, []) := by
      rw [printM_eq, if_neg (by rw [hr]; simp)]
      rcases hk with rfl | rfl <;> rfl
    rw [e]
    exact (print_full k num t keys kids Ak Ad ck cd dp B0 b bs w hP hj.2.2.2.1 (by omega) (by omega) hr hk (by omega)).mono fun e w' h => PrP.mono h (by omega)
  | succ r ih =>
    intro dp hdp
    refine print_step B0 b B dp (r + 1) fun k num t keys kids d Ak Ad ck cd bs w hk hr hP hj h1 h2 => ?_
    have hwt := JT.wt_eq (JT.mk k num t keys kids)
    simp only [JT.kind, JT.num, JT.text, JT.keys, JT.kids] at hwt
    have hkg := keyW_ge keys
    have hdg := wts_ge kids
    have ihh : PrIH B0 b B dp (printM r) := fun j d Ak Ad ck cd bs w h1 h2 h3 h4 => by
      have := ih (dp + 1) (by omega) j d Ak Ad ck cd bs w h1 h2 h3 h4
      rwa [show ((dp + 1 : Nat) : Int) = (dp : Int) + 1 by omega] at this
    rcases hk with rfl | rfl
    · have e : printM (r + 1) (JT.mk 4 num t keys kids) = (if (itemsM (printM r) false keys 0 kids).1 ≠ 0 then ((itemsM (printM r) false keys 0 kids).1, []) else (0, [91] ++ (itemsM (printM r) false keys 0 kids).2 ++ [93])) := by
        rw [printM_eq, if_neg (by rw [hr]; simp)]; rfl
      rw [e]
      exact print_many4 num t keys kids Ak Ad ck cd dp B0 b bs w (printM r) B d hP hj hBB ihh (by omega) h1 h2 (by omega) (by omega) hr
    · have e : printM (r + 1) (JT.mk 5 num t keys kids) = (if (itemsM (printM r) true keys 0 kids).1 ≠ 0 then ((itemsM (printM r) true keys 0 kids).1, []) else (0, [123] ++ (itemsM (printM r) true keys 0 kids).2 ++ [125])) := by
        rw [printM_eq, if_neg (by rw [hr]; simp)]; rfl
      rw [e]
      exact print_many5 num t keys kids Ak Ad ck cd dp B0 b bs w (printM r) B d hP hj hBB ihh (by omega) h1 h2 (by omega) (by omega) hr

/-- what Print answers -/
def wpV (X : Nat × Bs) : Value := if X.1 = 0 then .tuple #[.string ⟨X.2.toArray⟩, .nilIface] else .tuple #[.string ⟨#[]⟩, .iface 66 (.int .i64 X.1)]
set_option maxHeartbeats 2000000 in
set_option maxRecDepth 100000 in
theorem wprint_walk (j : JT) (B d : Nat) (Ak Ad : Option Addr) (ck cd : Nat) (w : World) (hT : Tab10 w) (hD : DB w) (hj : JIn w B d j Ak ck Ad) (hB : B ≤ w.heap.size) (h2 : j.wt ≤ 9000000) :
    Calls Tryd.prog 11 #[jVal j.kind j.num j.text j.keys.length j.kids.length Ak Ad ck cd] w fun e w' => e = .returned (wpV (printM 40 j)) ∧ Below w.heap.size w w' := by
  have hb1 : Below w.heap.size w (w.alloc (.cells #[.int .i64 j.kind, .int .i64 j.num, .string ⟨j.text.toArray⟩, .slice Ak j.keys.length ck, .slice Ad j.kids.length cd] 25)) := (Below.refl _ _).alloc (Nat.le_refl _) _
  have hb2 := hb1.alloc (by simp) (.cells #[.pointer none, .slice none 0 0] 65)
  have hI : IsB (w.heap.size + 1) (w.heap.size + 1) [] ((w.alloc (.cells #[.int .i64 j.kind, .int .i64 j.num, .string ⟨j.text.toArray⟩, .slice Ak j.keys.length ck, .slice Ad j.kids.length cd] 25)).alloc (.cells #[.pointer none, .slice none 0 0] 65)) := by
    have := IsB.fresh (w.alloc (.cells #[.int .i64 j.kind, .int .i64 j.num, .string ⟨j.text.toArray⟩, .slice Ak j.keys.length ck, .slice Ad j.kids.length cd] 25))
    simpa using this
  have hP : PrI (w.heap.size + 1) (w.heap.size + 1) ((w.alloc (.cells #[.int .i64 j.kind, .int .i64 j.num, .string ⟨j.text.toArray⟩, .slice Ak j.keys.length ck, .slice Ad j.kids.length cd] 25)).alloc (.cells #[.pointer none, .slice none 0 0] 65)) [] :=
    ⟨hI, hT.below hb2 hT.lt, hD.below hb2, by have := hT.lt; omega, by have := hD.lt; omega⟩
  have hpr := print_any (w.heap.size + 1) (w.heap.size + 1) B (by omega) 40 0 rfl j d Ak Ad ck cd [] _ hP (hj.below (hb2.mono hB)) (by simp only [List.length_nil]; omega) h2
  generalize hX : printM 40 j = X at *
  have HX := Lib.hid hX
  clear hX hP hI hj
  obtain ⟨fe, ft⟩ := X
  have hpr : Calls Tryd.prog 34 #[jVal j.kind j.num j.text j.keys.length j.kids.length Ak Ad ck cd, .int .i64 0, .pointer (some ⟨w.heap.size + 1, 0, none⟩)] _ _ := hpr
  have Hpr := Lib.hid hpr
  clear hpr
  go_enter Tryd.func11, Tryd.ntmps11
  go_wp2_with fail
  refine Hpr.out.mono ?_
  clear Hpr
  rintro e w3 ⟨rfl, bs3, hI3, _, hx3, hb3, _⟩
  have hb03 : Below w.heap.size w w3 := hb2.trans (hb3.mono (by omega))
  by_cases hfe : fe = 0
  · subst hfe
    have hx := hx3 rfl
    rw [List.nil_append] at hx
    have hbs := (bString_walk hI3 (Nat.le_trans hI3.base (Nat.le_of_lt hI3.lt)))
    rw [hx] at hbs
    clear hx hx3 hI3
    go_wp2_with fail
    refine hbs.mono ?_
    rintro e w4 ⟨rfl, hb4⟩
    go_wp2_with fail
    go_ret2
    exact ⟨rfl, hb03.trans (hb4.mono (by omega))⟩
  · have hfe2 : ((fe : Int) != 0) = true := by simp; exact hfe
    have HV : Hid (wpV (fe, ft) = .tuple #[.string ⟨#[]⟩, .iface 66 (.int .i64 fe)]) := by show _ = _; unfold wpV; rw [if_neg hfe]
    clear hx3 hI3 hfe
    go_wp2_with fail
    go_ret2
    exact ⟨by rw [HV.out]; rfl, hb03⟩
end Go.Proofs.YtccljojceoidhaaDoor
/-
  WALKS of package amanuensissame: Json, the document's form of a value.
-/
namespace Go.Proofs.YtccljojceoidhaaDoor
open Go.RowKit

/-- the document's form of a value, in blocks of N -/
def RjAt (w : World) (N : Nat → Prop) : Nat → JT → Nat → Prop
  | 0, _, _ => False
  | d + 1, j, p => N p ∧ ∃ Ak ck Ad cd, Blk w p 71 #[.int .i64 j.kind, .int .i64 j.num, strV j.text, .slice Ak j.keys.length ck, .slice Ad j.kids.length cd] ∧
      (0 < j.keys.length → ∃ b, Ak = some ⟨b, 0, none⟩ ∧ N b ∧ ∀ k (h : k < j.keys.length), w.cell? ⟨b, k, none⟩ = some (strV j.keys[k])) ∧
      (0 < j.kids.length → ∃ b, Ad = some ⟨b, 0, none⟩ ∧ N b ∧ ∀ k (h : k < j.kids.length), ∃ q, w.cell? ⟨b, k, none⟩ = some (.pointer (some ⟨q, 0, none⟩)) ∧ RjAt w N d j.kids[k] q)
theorem RjAt.keep {w w' : World} {N N' : Nat → Prop} (hN : ∀ b, N b → N' b) (hb : ∀ b, N b → w'.heap[b]? = w.heap[b]?) : ∀ {d : Nat} {j : JT} {p : Nat}, RjAt w N d j p → RjAt w' N' d j p
  | 0, _, _, h => h
  | d + 1, j, p, h => by
    obtain ⟨hp, Ak, ck, Ad, cd, hB, hk, hd⟩ := h
    refine ⟨hN _ hp, Ak, ck, Ad, cd, (hb p hp).trans hB, fun h0 => ?_, fun h0 => ?_⟩
    · obtain ⟨b, e, hn, hc⟩ := hk h0
      exact ⟨b, e, hN _ hn, fun k hk => (World.cell?_of_block (a := ⟨b, k, none⟩) (hb b hn)).trans (hc k hk)⟩
    · obtain ⟨b, e, hn, hc⟩ := hd h0
      refine ⟨b, e, hN _ hn, fun k hk => ?_⟩
      obtain ⟨q, h1, h2⟩ := hc k hk
      exact ⟨q, (World.cell?_of_block (a := ⟨b, k, none⟩) (hb b hn)).trans h1, RjAt.keep hN hb h2⟩
theorem JsAt.get' {w : World} {B d : Nat} {l : List JT} {A : Option Addr} {k : Nat} (h : JsAt w B d l A) (hk : k < l.length) :
    ∃ b o Ak ck Ad cd d', d = d' + 1 ∧ A = some ⟨b, o, none⟩ ∧ b < B ∧ w.cell? ⟨b, o + k * 5, none⟩ = some (.int .i64 l[k].kind) ∧ w.cell? ⟨b, o + k * 5 + 1, none⟩ = some (.int .i64 l[k].num) ∧ w.cell? ⟨b, o + k * 5 + 2, none⟩ = some (strV l[k].text) ∧ w.cell? ⟨b, o + k * 5 + 3, none⟩ = some (.slice Ak l[k].keys.length ck) ∧ w.cell? ⟨b, o + k * 5 + 4, none⟩ = some (.slice Ad l[k].kids.length cd) ∧ JIn w B d' l[k] Ak ck Ad := by
  cases d with
  | zero => have : l = [] := h; subst this; simp at hk
  | succ d =>
    obtain ⟨b, o, e, hB, hh⟩ := h (by omega)
    obtain ⟨Ak, ck, Ad, cd, c0, c1, c2, c3, c4, hr, hle, hj, hn1, hn2⟩ := hh k hk
    exact ⟨b, o, Ak, ck, Ad, cd, d, rfl, e, hB, c0, c1, c2, c3, c4, hr, hle, hj, hn1, hn2⟩
theorem infoPJ : (Tryd.prog.info? 30).map (fun i => (i.zero, i.size, i.bytes)) = some (some (.pointer none), 1, 8) := by kernel_rfl
def ptrV (l : List Nat) : List Value := l.map fun q => .pointer (some ⟨q, 0, none⟩)

/-- what Json answers of values so deep -/
def JsonC (d : Nat) : Prop := ∀ (j : JT) (B : Nat) (Ak Ad : Option Addr) (ck cd : Nat) (w : World), JIn w B d j Ak ck Ad → B ≤ w.heap.size → j.wt ≤ 9000000 →
  Calls Tryd.prog 12 #[jVal j.kind j.num j.text j.keys.length j.kids.length Ak Ad ck cd] w fun e w' => ∃ p, e = .returned (.pointer (some ⟨p, 0, none⟩)) ∧ RjAt w' (fun b => w.heap.size ≤ b ∧ b < w'.heap.size) (d + 1) j p ∧ Below w.heap.size w w'
theorem keyW_ge' (ks : List Bs) : 8 * ks.length ≤ JT.keyW ks := by
  unfold JT.keyW
  induction ks with
  | nil => simp
  | cons k ks ih => simp only [List.map_cons, List.sum_cons, List.length_cons]; omega
theorem wts_ge' (l : List JT) : 42 * l.length ≤ JT.wts l := by
  induction l with
  | nil => simp [JT.wts]
  | cons k ks ih => have := JT.wt_eq k; simp only [JT.wts, List.length_cons]; omega
theorem wt_get (l : List JT) {k : Nat} (h : k < l.length) : l[k].wt ≤ JT.wts l := by
  induction l generalizing k with
  | nil => simp at h
  | cons a l ih =>
    cases k with
    | zero => simp only [List.getElem_cons_zero, JT.wts]; omega
    | succ k => have := ih (k := k) (by simpa using h); simp only [List.getElem_cons_succ, JT.wts]; omega

section
variable (kind num : Int) (t : Bs) (keys : List Bs) (kids : List JT) (Ak Ad : Option Addr) (ck cd : Nat) (w : World)
/-- what holds in the midst -/
structure JMid (wr : World) (d i : Nat) (vK v : Value) (ps : List Nat) : Prop where
  box : Blk wr w.heap.size 25 #[.int .i64 kind, .int .i64 num, .string ⟨t.toArray⟩, .slice Ak keys.length ck, .slice Ad kids.length cd]
  jb : Blk wr (w.heap.size + 1) 71 #[.int .i64 kind, .int .i64 num, .string ⟨t.toArray⟩, vK, v]
  ky : wr.ownsRow w.heap.size 9 1 vK keys.length (txtV keys)
  own : wr.ownsRow w.heap.size 30 1 v i (ptrV ps)
  len : ps.length = i
  le : i ≤ kids.length
  sub : ∀ k (h : k < ps.length) (h2 : k < kids.length), ∃ lo hi, RjAt wr (fun b => lo ≤ b ∧ b < hi) d kids[k] ps[k] ∧ w.heap.size + 1 < lo ∧ hi ≤ wr.heap.size ∧ ∀ g, v.ownBlock = some g → g < lo ∨ hi ≤ g
  bel : Below w.heap.size w wr
set_option maxHeartbeats 8000000 in
set_option maxRecDepth 100000 in
theorem json_step (d B : Nat) (ih : ∀ d', d = d' + 1 → JsonC d') (hj : JIn w B d (JT.mk kind num t keys kids) Ak ck Ad) (hB : B ≤ w.heap.size) (hwt : (JT.mk kind num t keys kids).wt ≤ 9000000) :
    Calls Tryd.prog 12 #[jVal kind num t keys.length kids.length Ak Ad ck cd] w fun e w' => ∃ p, e = .returned (.pointer (some ⟨p, 0, none⟩)) ∧ RjAt w' (fun b => w.heap.size ≤ b ∧ b < w'.heap.size) (d + 1) (JT.mk kind num t keys kids) p ∧ Below w.heap.size w w' := by
  obtain ⟨i0, ji, jz0, jz1, jz2⟩ := info_parts infoPJ
  obtain ⟨k0, ki, kz0, kz1, kz2⟩ := info_parts infoStr
  have hw2 : 40 + 6 * t.length + JT.keyW keys + JT.wts kids ≤ 9000000 := by simp only [JT.wt] at hwt; exact hwt
  have hkl : keys.length ≤ 4194304 := by have := keyW_ge' keys; omega
  have hdl : kids.length ≤ 4194304 := by have := wts_ge' kids; omega
  obtain ⟨hrk, hck, hjs, _, _⟩ := hj
  have hrk : Rd w B 1 Ak keys.length (txtV keys) := hrk
  have hjs : JsAt w B d kids Ad := hjs
  have HJ : Hid (∀ w', Below w.heap.size w w' → JsAt w' B d kids Ad) := fun w' hb => hjs.below (hb.mono hB)
  have IH := Lib.hid ih
  clear hwt hjs ih
  generalize hPost : (fun (e : Ending) (w' : World) => ∃ p, e = .returned (.pointer (some ⟨p, 0, none⟩)) ∧ RjAt w' (fun b => w.heap.size ≤ b ∧ b < w'.heap.size) (d + 1) (JT.mk kind num t keys kids) p ∧ Below w.heap.size w w') = Post
  have HPost := Lib.hid hPost
  clear hPost
  cases Ak with
  | none =>
    have hk0 : keys = [] := by
      rcases Nat.eq_zero_or_pos keys.length with h | h
      · exact List.eq_nil_of_length_eq_zero h
      · obtain ⟨b, o, e, _⟩ := hrk.2 h; cases e
    subst hk0
    clear hrk
    have hB1 : Blk (w.alloc (.cells #[.int .i64 kind, .int .i64 num, .string ⟨t.toArray⟩, .slice none 0 ck, .slice Ad kids.length cd] 25)) w.heap.size 25 _ := Blk.new _ _ _
    have hB3 := (hB1.alloc (.cells #[.int .i64 kind, .int .i64 num, .string ⟨t.toArray⟩, .slice (some ⟨w.heap.size + 1 + 1, 0, none⟩) 0 0, .slice none 0 0] 71)).alloc (.cells #[] 9)
    have hJ2 : Blk ((w.alloc (.cells #[.int .i64 kind, .int .i64 num, .string ⟨t.toArray⟩, .slice none 0 ck, .slice Ad kids.length cd] 25)).alloc (.cells #[.int .i64 kind, .int .i64 num, .string ⟨t.toArray⟩, .slice (some ⟨w.heap.size + 1 + 1, 0, none⟩) 0 0, .slice none 0 0] 71)) (w.heap.size + 1) 71 #[.int .i64 kind, .int .i64 num, .string ⟨t.toArray⟩, .slice (some ⟨w.heap.size + 1 + 1, 0, none⟩) 0 0, .slice none 0 0] := by
      have h := Blk.new (w.alloc (.cells #[.int .i64 kind, .int .i64 num, .string ⟨t.toArray⟩, .slice none 0 ck, .slice Ad kids.length cd] 25)) 71 #[.int .i64 kind, .int .i64 num, .string ⟨t.toArray⟩, .slice (some ⟨w.heap.size + 1 + 1, 0, none⟩) 0 0, .slice none 0 0]
      simpa using h
    have hJ3 := hJ2.alloc (.cells #[] 9)
    have hb3 : Below w.heap.size w (((w.alloc (.cells #[.int .i64 kind, .int .i64 num, .string ⟨t.toArray⟩, .slice none 0 ck, .slice Ad kids.length cd] 25)).alloc (.cells #[.int .i64 kind, .int .i64 num, .string ⟨t.toArray⟩, .slice (some ⟨w.heap.size + 1 + 1, 0, none⟩) 0 0, .slice none 0 0] 71)).alloc (.cells #[] 9)) := (((Below.refl _ _).alloc (Nat.le_refl _) _).alloc (by simp) _).alloc (by simp; omega) _
    have hO3 : (((w.alloc (.cells #[.int .i64 kind, .int .i64 num, .string ⟨t.toArray⟩, .slice none 0 ck, .slice Ad kids.length cd] 25)).alloc (.cells #[.int .i64 kind, .int .i64 num, .string ⟨t.toArray⟩, .slice (some ⟨w.heap.size + 1 + 1, 0, none⟩) 0 0, .slice none 0 0] 71)).alloc (.cells #[] 9)).ownsRow w.heap.size 9 1 (.slice (some ⟨w.heap.size + 1 + 1, 0, none⟩) 0 0) 0 [] := by
      have h := World.ownsRow_lit (base := w.heap.size) (size := 1) (e := 9) ((w.alloc (.cells #[.int .i64 kind, .int .i64 num, .string ⟨t.toArray⟩, .slice none 0 ck, .slice Ad kids.length cd] 25)).alloc (.cells #[.int .i64 kind, .int .i64 num, .string ⟨t.toArray⟩, .slice (some ⟨w.heap.size + 1 + 1, 0, none⟩) 0 0, .slice none 0 0] 71)) #[] 0 (by simp; omega) (by unfold maxLen; omega) rfl
      simpa using h
    have hrp : ∀ w' : World, Sem.run Tryd.prog (pure #[] : Sem (Array Value)) w' = .ok #[] w' := fun _ => by first | rfl | exact Sem.run_pure _ _ _
    have hst : ∀ (a : Addr) (w' : World), Sem.run Tryd.prog (storeCells a []) w' = .ok () w' := fun _ _ => by first | rfl | exact Sem.run_pure _ _ _
    have hM0 : JMid kind num t [] kids none Ad ck cd w (((w.alloc (.cells #[.int .i64 kind, .int .i64 num, .string ⟨t.toArray⟩, .slice none 0 ck, .slice Ad kids.length cd] 25)).alloc (.cells #[.int .i64 kind, .int .i64 num, .string ⟨t.toArray⟩, .slice (some ⟨w.heap.size + 1 + 1, 0, none⟩) 0 0, .slice none 0 0] 71)).alloc (.cells #[] 9)) d 0 (.slice (some ⟨w.heap.size + 1 + 1, 0, none⟩) 0 0) (.slice none 0 0) [] :=
      ⟨hB3, hJ3, hO3, World.ownsRow_nil _ _ _ _, rfl, Nat.zero_le _, fun k h => by simp at h, hb3⟩
    clear hB1 hB3 hJ2 hb3 hO3
    go_enter Tryd.func12, Tryd.ntmps12
    go_wp2_with fail
    go_loopw [4] (fun iv wr => ∃ (i : Nat) (vK v : Value) (ps : List Nat), iv = .int .i64 i ∧ JMid kind num t [] kids none Ad ck cd w wr d i vK v ps) (fun iv _ => kids.length - (intOf iv).toNat)
    case atStart => exact ⟨0, _, .slice none 0 0, [], rfl, hM0⟩
    case round =>
      obtain ⟨i, vK, v, ps, rfl, M⟩ := hrel
      have b4 := M.box.cell 4
      simp at b4
      have hi := M.le
      have hsz := M.bel.size
      by_cases hlt : i < kids.length
      · obtain ⟨b', o', Ak', ck', Ad', cd', d', hd', rfl, hbB', c0, c1, c2, c3, c4, hjin⟩ := JsAt.get' (HJ.out wr M.bel) hlt
        have hbB2 : b' < wr.heap.size := by omega
        have hkw := wt_get kids hlt
        have j0 : (0 : Int) ≤ (i : Int) := by omega
        have j1 : (i : Int) < (kids.length : Int) := by omega
        have hcall := IH.out d' hd' kids[i] B Ak' Ad' ck' cd' wr hjin (by omega) (by omega)
        have HD := Lib.hid hd'
        rw [← hd'] at hcall
        have HM := Lib.hid M
        unfold strV at c2
        have hkid : Hid (∀ (h : i < kids.length), kids[i] = kids[i]) := fun _ => rfl
        generalize hkd : kids[i] = kid at *
        have HK := Lib.hid hkd
        have Hcall := Lib.hid hcall
        clear M hd' hjin hkid hkd hcall
        go_wp2_with fail
        refine Hcall.out.mono ?_
        clear Hcall
        rintro e w5 ⟨q, rfl, hq, hb5⟩
        have M := HM.out
        have hz5 := hb5.size
        have hown5 := own_of_block M.own fun b hbk => hb5.block b (M.own.lt b hbk).2
        have hky5 := own_of_block M.ky fun b hbk => hb5.block b (M.ky.lt b hbk).2
        have hjb5 := M.jb.below hb5 M.jb.lt
        have hbx5 := M.box.below hb5 M.box.lt
        have hbel5 := M.bel.trans (hb5.mono hsz)
        have hsub5 : ∀ k (h : k < ps.length) (h2 : k < kids.length), ∃ lo hi, RjAt w5 (fun b => lo ≤ b ∧ b < hi) d kids[k] ps[k] ∧ w.heap.size + 1 < lo ∧ hi ≤ wr.heap.size ∧ ∀ g, v.ownBlock = some g → g < lo ∨ hi ≤ g := fun k h h2 => by
          obtain ⟨lo, hi, h3, h4, h5, h6⟩ := M.sub k h h2
          exact ⟨lo, hi, h3.keep (fun _ h => h) (fun b hb => hb5.block b (by omega)), h4, h5, h6⟩
        have hpl := M.len
        have hjl := M.jb.lt
        have p4 := hjb5.cell 4
        have f4 := hjb5.frozen 4
        simp at p4
        obtain ⟨Av, cv, rfl⟩ := own_form hown5
        have hoA := hown5.alloc (.cells #[.pointer (some ⟨q, 0, none⟩)] 30)
        have hBN : (w5.alloc (.cells #[.pointer (some ⟨q, 0, none⟩)] 30)).heap[w5.heap.size]? = some (.cells #[.pointer (some ⟨q, 0, none⟩)] 30 (0, 0)) := heap_alloc_new _ _
        have hjbA := hjb5.alloc (.cells #[.pointer (some ⟨q, 0, none⟩)] 30)
        have hbxA := hbx5.alloc (.cells #[.pointer (some ⟨q, 0, none⟩)] 30)
        have hkyA := hky5.alloc (.cells #[.pointer (some ⟨q, 0, none⟩)] 30)
        have hbelA := hbel5.alloc (by omega) (.cells #[.pointer (some ⟨q, 0, none⟩)] 30)
        have hvl := fun g hg => (M.own.lt g hg).2
        clear HM M
        go_wp2_with (at_builtin; refine wpList_append_lies _ rfl _ _ 69 rfl w.heap.size 30 i0 _ 1 8 Tryd.underlying69 ji jz0 jz1 jz2 rfl (by omega) (.slice Av i cv) i (ptrV ps) rfl hoA ⟨w5.heap.size, 0, none⟩ 1 1 [.pointer (some ⟨q, 0, none⟩)] rfl rfl (World.news_of_block (cs := #[.pointer (some ⟨q, 0, none⟩)]) (t := 30) (fr := (0, 0)) hBN) (by simp [Value.oneCell']) (by omega) (by unfold maxLen; omega) (by omega) (by simp; omega) _ rfl ?_; intro gg cap' w6 hown6 hgrow hat hlt6; have hjb6 := hjbA.grown hgrow (own_ne hoA hjbA (by decide)); have q4 := hjb6.frozen 4; have q4c := hjb6.cell 4; simp at q4c)
        go_roundw
        case rel =>
          have hbx6 := hbxA.grown hgrow (own_ne hoA hbxA (by decide))
          have hky6 := own_of_block hkyA fun b hbk => hgrow.block b (hkyA.lt b hbk).2 (fun e => by
            obtain ⟨cs', fr', h1⟩ := own_ty hkyA b hbk
            obtain ⟨cs2, fr2, h2⟩ := own_ty hoA b e.symm
            rw [h1] at h2; injection h2 with h2; injection h2 with _ h2 _; exact absurd h2 (by decide))
          have hbel6 := hbelA.grown hgrow (by simp; omega) (fun g hg => (hown5.lt g hg).1)
          have hz6 := hgrow.size
          simp at hz6
          have hne6 : ∀ g, (Value.slice (some ⟨gg, 0, none⟩) (i + 1) cap').ownBlock = some g → some g ≠ some (w.heap.size + 1) := fun g hg e => own_ne hown6 hjb6 (by decide) (by rw [hg, e])
          refine ⟨i + 1, vK, .slice (some ⟨gg, 0, none⟩) (i + 1) cap', ps ++ [q], by go_num, ?_⟩
          refine ⟨hbx6.far (p := ⟨w.heap.size + 1, 4, none⟩) (by simp) _, hjb6.set_ 4 _, own_of_block hky6 fun b hbk => Below.heap_setCell _ _ _ _ fun e => ?_, ?_, by simp; omega, by omega, ?_, hbel6.setCell (p := ⟨w.heap.size + 1, 4, none⟩) (by simp) _⟩
          · exact own_ne hky6 hjb6 (by decide) (by rw [hbk, e])
          · have h := own_of_block (w' := w6.setCell ⟨w.heap.size + 1, 4, none⟩ (.slice (some ⟨gg, 0, none⟩) (i + 1) cap')) hown6 fun b hbk => Below.heap_setCell _ _ _ _ fun e => hne6 b hbk (by rw [e])
            simpa [ptrV] using h
          · intro k hk h2
            have hgg : gg < w5.heap.size + 1 ∨ True := .inr trivial
            by_cases hkp : k < ps.length
            · obtain ⟨lo, hi, h3, h4, h5, h6⟩ := hsub5 k hkp h2
              rw [List.getElem_append_left hkp]
              refine ⟨lo, hi, h3.keep (fun _ h => h) (fun b hb => ?_), h4, ?_, ?_⟩
              · refine (Below.heap_setCell _ _ _ _ (by simp only; omega)).trans ((hgrow.block b (by simp; omega) (fun e => ?_)).trans (Below.heap_alloc _ _ b (by omega)))
                have := h6 b e.symm; omega
              · simp; omega
              · intro g hg
                simp only [Value.ownBlock, Option.some.injEq] at hg
                subst hg
                rcases hat with hat | hat
                · exact h6 _ hat
                · simp at hat; omega
            · have hki : k = i := by simp at hk; omega
              subst hki
              have hget : (ps ++ [q])[k] = q := by rw [List.getElem_append_right (by omega)]; simp
              rw [hget, HK.out]
              refine ⟨wr.heap.size, w5.heap.size, hq.keep (fun _ h => h) (fun b hb => ?_), by omega, ?_, ?_⟩
              · refine (Below.heap_setCell _ _ _ _ (by simp only; omega)).trans ((hgrow.block b (by simp; omega) (fun e => ?_)).trans (Below.heap_alloc _ _ b (by omega)))
                have := hvl b e.symm; omega
              · simp; omega
              · intro g hg
                simp only [Value.ownBlock, Option.some.injEq] at hg
                subst hg
                rcases hat with hat | hat
                · have := hvl _ hat; omega
                · simp at hat; omega
        case measure => simp [intOf]; omega
      · obtain rfl : i = kids.length := by omega
        clear HJ IH
        have HM := Lib.hid M
        clear M
        go_wp2_with fail
        rw [← HPost.out]
        have M := HM.out
        refine ⟨_, rfl, ⟨⟨by omega, M.jb.lt⟩, ?_⟩, M.bel⟩
        obtain ⟨Av, cv, rfl⟩ := own_form M.own
        obtain ⟨Bv, dv, rfl⟩ := own_form M.ky
        refine ⟨Bv, dv, Av, cv, M.jb, fun h0 => ?_, fun h0 => ?_⟩
        · obtain ⟨g, cap, hv, _, hlt⟩ := M.ky.form h0
          have hA : Bv = some ⟨g, 0, none⟩ := by injection hv
          subst hA
          refine ⟨g, rfl, ⟨(M.ky.lt g rfl).1, hlt⟩, fun k hk => ?_⟩
          have := own_cell M.ky k _ (txtV_get [] hk)
          exact this
        · obtain ⟨g, cap, hv, _, hlt⟩ := M.own.form h0
          have hA : Av = some ⟨g, 0, none⟩ := by injection hv
          subst hA
          refine ⟨g, rfl, ⟨(M.own.lt g rfl).1, hlt⟩, fun k hk => ?_⟩
          have hk : k < kids.length := hk
          have hkp : k < ps.length := by have := M.len; omega
          refine ⟨ps[k], own_cell M.own k _ (by simp [ptrV, hkp]), ?_⟩
          obtain ⟨lo, hi, h3, h4, h5, _⟩ := M.sub k hkp hk
          exact h3.keep (fun b hb => ⟨by omega, by omega⟩) (fun _ _ => rfl)
  | some a =>
    have hnew : ∀ w', Below w.heap.size w w' → ∀ j u, (txtV keys)[j]? = some u → w'.cell? (a.add j) = some u := fun w' hb j u hu => by
      have h0 : 0 < keys.length := by
        have := (List.getElem?_eq_some_iff.1 hu).1
        rw [txtV_len] at this; omega
      obtain ⟨b, o, e, hbb, hc⟩ := hrk.2 h0
      injection e with e
      subst e
      have ea : (⟨b, o, none⟩ : Addr).add j = ⟨b, o + j, none⟩ := by unfold Addr.add; split <;> simp_all
      rw [ea]
      exact (hb.cell (p := ⟨b, o + j, none⟩) (by show b < _; omega)).trans (hc j u hu)
    clear hrk
    have hB1 : Blk (w.alloc (.cells #[.int .i64 kind, .int .i64 num, .string ⟨t.toArray⟩, .slice (some a) keys.length ck, .slice Ad kids.length cd] 25)) w.heap.size 25 _ := Blk.new _ _ _
    have hB3 := (hB1.alloc (.cells #[.int .i64 kind, .int .i64 num, .string ⟨t.toArray⟩, .slice none 0 0, .slice none 0 0] 71)).alloc (.cells #[] 9)
    have hJ2 : Blk ((w.alloc (.cells #[.int .i64 kind, .int .i64 num, .string ⟨t.toArray⟩, .slice (some a) keys.length ck, .slice Ad kids.length cd] 25)).alloc (.cells #[.int .i64 kind, .int .i64 num, .string ⟨t.toArray⟩, .slice none 0 0, .slice none 0 0] 71)) (w.heap.size + 1) 71 #[.int .i64 kind, .int .i64 num, .string ⟨t.toArray⟩, .slice none 0 0, .slice none 0 0] := by
      have h := Blk.new (w.alloc (.cells #[.int .i64 kind, .int .i64 num, .string ⟨t.toArray⟩, .slice (some a) keys.length ck, .slice Ad kids.length cd] 25)) 71 #[.int .i64 kind, .int .i64 num, .string ⟨t.toArray⟩, .slice none 0 0, .slice none 0 0]
      simpa using h
    have hJ3 := hJ2.alloc (.cells #[] 9)
    have hb3 : Below w.heap.size w (((w.alloc (.cells #[.int .i64 kind, .int .i64 num, .string ⟨t.toArray⟩, .slice (some a) keys.length ck, .slice Ad kids.length cd] 25)).alloc (.cells #[.int .i64 kind, .int .i64 num, .string ⟨t.toArray⟩, .slice none 0 0, .slice none 0 0] 71)).alloc (.cells #[] 9)) := (((Below.refl _ _).alloc (Nat.le_refl _) _).alloc (by simp) _).alloc (by simp; omega) _
    have hO3 : (((w.alloc (.cells #[.int .i64 kind, .int .i64 num, .string ⟨t.toArray⟩, .slice (some a) keys.length ck, .slice Ad kids.length cd] 25)).alloc (.cells #[.int .i64 kind, .int .i64 num, .string ⟨t.toArray⟩, .slice none 0 0, .slice none 0 0] 71)).alloc (.cells #[] 9)).ownsRow w.heap.size 9 1 (.slice (some ⟨w.heap.size + 1 + 1, 0, none⟩) 0 0) 0 [] := by
      have h := World.ownsRow_lit (base := w.heap.size) (size := 1) (e := 9) ((w.alloc (.cells #[.int .i64 kind, .int .i64 num, .string ⟨t.toArray⟩, .slice (some a) keys.length ck, .slice Ad kids.length cd] 25)).alloc (.cells #[.int .i64 kind, .int .i64 num, .string ⟨t.toArray⟩, .slice none 0 0, .slice none 0 0] 71)) #[] 0 (by simp; omega) (by unfold maxLen; omega) rfl
      simpa using h
    have hn3 := hnew _ hb3
    have Hn3 := Lib.hid hn3
    clear hB1 hJ2 hnew hn3
    go_enter Tryd.func12, Tryd.ntmps12
    go_wp2_with (at_builtin; refine wpList_append_own _ rfl _ _ 22 rfl w.heap.size 9 k0 _ 1 16 Tryd.underlying22 ki kz0 kz1 kz2 rfl (by decide) (.slice (some ⟨w.heap.size + 1 + 1, 0, none⟩) 0 0) 0 [] rfl hO3 a keys.length ck (txtV keys) rfl (by rw [txtV_len]; omega) Hn3.out (txtV_one keys) (by unfold maxLen; omega) (by omega) (by first | (simp; done) | (simp; omega)) ?_; intro vK w4 hownK hgrowK _; rw [Nat.zero_add, List.nil_append] at hownK; obtain ⟨AK, cK, rfl⟩ := own_form hownK; have hJ4 := hJ3.grown hgrowK (own_ne hO3 hJ3 (by decide)); have c3 := hJ4.frozen 3; have c3c := hJ4.cell 3; simp at c3c)
    have hB4 := hB3.grown hgrowK (own_ne hO3 hB3 (by decide))
    have hb4 := hb3.grown hgrowK (by first | (simp; done) | (simp; omega)) (fun g hg => (hO3.lt g hg).1)
    have hO4 : w4.ownsRow w.heap.size 9 1 (.slice AK keys.length cK) keys.length (txtV keys) := hownK
    have hM0 : JMid kind num t keys kids (some a) Ad ck cd w (w4.setCell ⟨w.heap.size + 1, 3, none⟩ (.slice AK keys.length cK)) d 0 (.slice AK keys.length cK) (.slice none 0 0) [] :=
      ⟨hB4.far (p := ⟨w.heap.size + 1, 3, none⟩) (by simp) _, hJ4.set_ 3 _, own_of_block hO4 fun b hbk => Below.heap_setCell _ _ _ _ (fun e => own_ne hO4 hJ4 (by decide) (by rw [hbk, e])), World.ownsRow_nil _ _ _ _, rfl, Nat.zero_le _, fun k h => by simp at h, hb4.setCell (p := ⟨w.heap.size + 1, 3, none⟩) (by simp) _⟩
    clear hB3 hJ3 hb3 hO3 hownK hgrowK hB4 hb4 hO4 hJ4 Hn3
    go_loopw [4] (fun iv wr => ∃ (i : Nat) (vK v : Value) (ps : List Nat), iv = .int .i64 i ∧ JMid kind num t keys kids (some a) Ad ck cd w wr d i vK v ps) (fun iv _ => kids.length - (intOf iv).toNat)
    case atStart => exact ⟨0, _, .slice none 0 0, [], rfl, hM0⟩
    case round =>
      obtain ⟨i, vK, v, ps, rfl, M⟩ := hrel
      have b4 := M.box.cell 4
      simp at b4
      have hi := M.le
      have hsz := M.bel.size
      by_cases hlt : i < kids.length
      · obtain ⟨b', o', Ak', ck', Ad', cd', d', hd', rfl, hbB', c0, c1, c2, c3, c4, hjin⟩ := JsAt.get' (HJ.out wr M.bel) hlt
        have hbB2 : b' < wr.heap.size := by omega
        have hkw := wt_get kids hlt
        have j0 : (0 : Int) ≤ (i : Int) := by omega
        have j1 : (i : Int) < (kids.length : Int) := by omega
        have hcall := IH.out d' hd' kids[i] B Ak' Ad' ck' cd' wr hjin (by omega) (by omega)
        have HD := Lib.hid hd'
        rw [← hd'] at hcall
        have HM := Lib.hid M
        unfold strV at c2
        have hkid : Hid (∀ (h : i < kids.length), kids[i] = kids[i]) := fun _ => rfl
        generalize hkd : kids[i] = kid at *
        have HK := Lib.hid hkd
        have Hcall := Lib.hid hcall
        clear M hd' hjin hkid hkd hcall
        go_wp2_with fail
        refine Hcall.out.mono ?_
        clear Hcall
        rintro e w5 ⟨q, rfl, hq, hb5⟩
        have M := HM.out
        have hz5 := hb5.size
        have hown5 := own_of_block M.own fun b hbk => hb5.block b (M.own.lt b hbk).2
        have hky5 := own_of_block M.ky fun b hbk => hb5.block b (M.ky.lt b hbk).2
        have hjb5 := M.jb.below hb5 M.jb.lt
        have hbx5 := M.box.below hb5 M.box.lt
        have hbel5 := M.bel.trans (hb5.mono hsz)
        have hsub5 : ∀ k (h : k < ps.length) (h2 : k < kids.length), ∃ lo hi, RjAt w5 (fun b => lo ≤ b ∧ b < hi) d kids[k] ps[k] ∧ w.heap.size + 1 < lo ∧ hi ≤ wr.heap.size ∧ ∀ g, v.ownBlock = some g → g < lo ∨ hi ≤ g := fun k h h2 => by
          obtain ⟨lo, hi, h3, h4, h5, h6⟩ := M.sub k h h2
          exact ⟨lo, hi, h3.keep (fun _ h => h) (fun b hb => hb5.block b (by omega)), h4, h5, h6⟩
        have hpl := M.len
        have hjl := M.jb.lt
        have p4 := hjb5.cell 4
        have f4 := hjb5.frozen 4
        simp at p4
        obtain ⟨Av, cv, rfl⟩ := own_form hown5
        have hoA := hown5.alloc (.cells #[.pointer (some ⟨q, 0, none⟩)] 30)
        have hBN : (w5.alloc (.cells #[.pointer (some ⟨q, 0, none⟩)] 30)).heap[w5.heap.size]? = some (.cells #[.pointer (some ⟨q, 0, none⟩)] 30 (0, 0)) := heap_alloc_new _ _
        have hjbA := hjb5.alloc (.cells #[.pointer (some ⟨q, 0, none⟩)] 30)
        have hbxA := hbx5.alloc (.cells #[.pointer (some ⟨q, 0, none⟩)] 30)
        have hkyA := hky5.alloc (.cells #[.pointer (some ⟨q, 0, none⟩)] 30)
        have hbelA := hbel5.alloc (by omega) (.cells #[.pointer (some ⟨q, 0, none⟩)] 30)
        have hvl := fun g hg => (M.own.lt g hg).2
        clear HM M
        go_wp2_with (at_builtin; refine wpList_append_lies _ rfl _ _ 69 rfl w.heap.size 30 i0 _ 1 8 Tryd.underlying69 ji jz0 jz1 jz2 rfl (by omega) (.slice Av i cv) i (ptrV ps) rfl hoA ⟨w5.heap.size, 0, none⟩ 1 1 [.pointer (some ⟨q, 0, none⟩)] rfl rfl (World.news_of_block (cs := #[.pointer (some ⟨q, 0, none⟩)]) (t := 30) (fr := (0, 0)) hBN) (by simp [Value.oneCell']) (by omega) (by unfold maxLen; omega) (by omega) (by simp; omega) _ rfl ?_; intro gg cap' w6 hown6 hgrow hat hlt6; have hjb6 := hjbA.grown hgrow (own_ne hoA hjbA (by decide)); have q4 := hjb6.frozen 4; have q4c := hjb6.cell 4; simp at q4c)
        go_roundw
        case rel =>
          have hbx6 := hbxA.grown hgrow (own_ne hoA hbxA (by decide))
          have hky6 := own_of_block hkyA fun b hbk => hgrow.block b (hkyA.lt b hbk).2 (fun e => by
            obtain ⟨cs', fr', h1⟩ := own_ty hkyA b hbk
            obtain ⟨cs2, fr2, h2⟩ := own_ty hoA b e.symm
            rw [h1] at h2; injection h2 with h2; injection h2 with _ h2 _; exact absurd h2 (by decide))
          have hbel6 := hbelA.grown hgrow (by simp; omega) (fun g hg => (hown5.lt g hg).1)
          have hz6 := hgrow.size
          simp at hz6
          have hne6 : ∀ g, (Value.slice (some ⟨gg, 0, none⟩) (i + 1) cap').ownBlock = some g → some g ≠ some (w.heap.size + 1) := fun g hg e => own_ne hown6 hjb6 (by decide) (by rw [hg, e])
          refine ⟨i + 1, vK, .slice (some ⟨gg, 0, none⟩) (i + 1) cap', ps ++ [q], by go_num, ?_⟩
          refine ⟨hbx6.far (p := ⟨w.heap.size + 1, 4, none⟩) (by simp) _, hjb6.set_ 4 _, own_of_block hky6 fun b hbk => Below.heap_setCell _ _ _ _ fun e => ?_, ?_, by simp; omega, by omega, ?_, hbel6.setCell (p := ⟨w.heap.size + 1, 4, none⟩) (by simp) _⟩
          · exact own_ne hky6 hjb6 (by decide) (by rw [hbk, e])
          · have h := own_of_block (w' := w6.setCell ⟨w.heap.size + 1, 4, none⟩ (.slice (some ⟨gg, 0, none⟩) (i + 1) cap')) hown6 fun b hbk => Below.heap_setCell _ _ _ _ fun e => hne6 b hbk (by rw [e])
            simpa [ptrV] using h
          · intro k hk h2
            have hgg : gg < w5.heap.size + 1 ∨ True := .inr trivial
            by_cases hkp : k < ps.length
            · obtain ⟨lo, hi, h3, h4, h5, h6⟩ := hsub5 k hkp h2
              rw [List.getElem_append_left hkp]
              refine ⟨lo, hi, h3.keep (fun _ h => h) (fun b hb => ?_), h4, ?_, ?_⟩
              · refine (Below.heap_setCell _ _ _ _ (by simp only; omega)).trans ((hgrow.block b (by simp; omega) (fun e => ?_)).trans (Below.heap_alloc _ _ b (by omega)))
                have := h6 b e.symm; omega
              · simp; omega
              · intro g hg
                simp only [Value.ownBlock, Option.some.injEq] at hg
                subst hg
                rcases hat with hat | hat
                · exact h6 _ hat
                · simp at hat; omega
            · have hki : k = i := by simp at hk; omega
              subst hki
              have hget : (ps ++ [q])[k] = q := by rw [List.getElem_append_right (by omega)]; simp
              rw [hget, HK.out]
              refine ⟨wr.heap.size, w5.heap.size, hq.keep (fun _ h => h) (fun b hb => ?_), by omega, ?_, ?_⟩
              · refine (Below.heap_setCell _ _ _ _ (by simp only; omega)).trans ((hgrow.block b (by simp; omega) (fun e => ?_)).trans (Below.heap_alloc _ _ b (by omega)))
                have := hvl b e.symm; omega
              · simp; omega
              · intro g hg
                simp only [Value.ownBlock, Option.some.injEq] at hg
                subst hg
                rcases hat with hat | hat
                · have := hvl _ hat; omega
                · simp at hat; omega
        case measure => simp [intOf]; omega
      · obtain rfl : i = kids.length := by omega
        clear HJ IH
        have HM := Lib.hid M
        clear M
        go_wp2_with fail
        rw [← HPost.out]
        have M := HM.out
        refine ⟨_, rfl, ⟨⟨by omega, M.jb.lt⟩, ?_⟩, M.bel⟩
        obtain ⟨Av, cv, rfl⟩ := own_form M.own
        obtain ⟨Bv, dv, rfl⟩ := own_form M.ky
        refine ⟨Bv, dv, Av, cv, M.jb, fun h0 => ?_, fun h0 => ?_⟩
        · obtain ⟨g, cap, hv, _, hlt⟩ := M.ky.form h0
          have hA : Bv = some ⟨g, 0, none⟩ := by injection hv
          subst hA
          refine ⟨g, rfl, ⟨(M.ky.lt g rfl).1, hlt⟩, fun k hk => ?_⟩
          have := own_cell M.ky k _ (txtV_get keys hk)
          exact this
        · obtain ⟨g, cap, hv, _, hlt⟩ := M.own.form h0
          have hA : Av = some ⟨g, 0, none⟩ := by injection hv
          subst hA
          refine ⟨g, rfl, ⟨(M.own.lt g rfl).1, hlt⟩, fun k hk => ?_⟩
          have hk : k < kids.length := hk
          have hkp : k < ps.length := by have := M.len; omega
          refine ⟨ps[k], own_cell M.own k _ (by simp [ptrV, hkp]), ?_⟩
          obtain ⟨lo, hi, h3, h4, h5, _⟩ := M.sub k hkp hk
          exact h3.keep (fun b hb => ⟨by omega, by omega⟩) (fun _ _ => rfl)
end
theorem json_walk : ∀ d : Nat, JsonC d := by
  intro d
  induction d with
  | zero => intro j B Ak Ad ck cd w hj hB hw; obtain ⟨k, n, t, ks, l⟩ := j; exact json_step k n t ks l Ak Ad ck cd w 0 B (fun d' h => by omega) hj hB hw
  | succ d ih =>
    intro j B Ak Ad ck cd w hj hB hw
    obtain ⟨k, n, t, ks, l⟩ := j
    refine json_step k n t ks l Ak Ad ck cd w (d + 1) B (fun d' h => ?_) hj hB hw
    obtain rfl : d' = d := by omega
    exact ih
end Go.Proofs.YtccljojceoidhaaDoor
