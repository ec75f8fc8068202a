/-
  JOINED of the texts PL CW PK
-/
import Derived.Test.YtgpjcjnimheglaaDoorJan
import Derived.Test.YtgpjcjnimheglaaDoorShelfP
import Derived.Lib.ItoaNum
import Derived.Lib.RuneBytes
import Derived.Lib.Strings
import Derived.Lib.BufferRead
import Derived.Deep.DeepCutAuto
import Derived.Deep.RegionHeld3
import Derived.Lib.IndexMore
import Derived.Test.YtgpjcjnimheglaaDoorRows
import Derived.WalkKit
import Derived.WalkSpells
import Derived.WalkLawsBesides
import Derived.Below
import Derived.Laws.OwnMore
import Derived.Deep.AppendLies
import Derived.Deep.Draws
import Derived.Lib.Hide
import Derived.Deep.QuietTactic
import Derived.BigQuiet
import Derived.IntWalk
import Derived.Lib.ConvBytes
import Derived.Laws.Strings3
import Derived.Laws.Closers25
import Derived.Laws.Closers25b
import Derived.BigCall
import Derived.BigGuard
import Derived.Test.YtgpjcjnimheglaaDoorShelfX
import Derived.Shelf.Spec.BytesIndexFunc
import Derived.Test.YtgpjcjnimheglaaDoorShelfW
import Derived.Shelf.Strings.SlTrimAscii
import Derived.Lib.LaidTab
import Derived.Lib.AtoiAll
import Derived.Lib.IndexLaws
import Derived.Lib.SlTrimSet
import Derived.Lib.Atoi
import Derived.WalkMore
import Derived.ScopeJumps
import Derived.Test.YtgpjcjnimheglaaDoorShelf
import Derived.Shelf.Strings.Builder1
import Derived.ProofKit
import Derived.OpenShut
import Derived.JoinedCond
import Derived.Deep.Slices
import Derived.Deep.Fields
import Derived.ChangeSame
import Derived.SliceStrings
import Derived.Test.YtgpjcjnimheglaaDoorJac
/-
  WALKS of package wire: print, of lists and maps.
-/
namespace Go.Proofs.YtgpjcjnimheglaaDoor
open Go.RowKit

section
variable (num : Int) (t : Bs) (keys : List Bs) (kids : List JT) (Ak Ad : Option Addr) (ck cd dp B0 b : Nat) (bs : Bs) (w : World)
/-- what is known of values of one level less -/
def PrIH (B0 b B dp : Nat) (f : JT → Nat × Bs) : Prop := ∀ (j : JT) (d : Nat) (Ak Ad : Option Addr) (ck cd : Nat) (bs : Bs) (w : World), PrI B0 b w bs → JIn w B d j Ak ck Ad → bs.length + j.wt ≤ 100000000 → j.wt ≤ 60000000 →
  Calls Tryd.prog 7 #[jPV j.kind j.num j.text j.keys.length j.kids.length Ak Ad ck cd, .int .i64 ((dp : Int) + 1), .pointer (some ⟨b, 0, none⟩)] w (PrP B0 b w bs j.wt (f j))
theorem wts_at (kids : List JT) {i : Nat} (h : i < kids.length) : JT.wts (kids.drop i) = kids[i].wt + 2 + JT.wts (kids.drop (i + 1)) := by
  rw [List.drop_eq_getElem_cons h, JT.wts]
theorem keyW_at (keys : List Bs) {i : Nat} (h : i < keys.length) : JT.keyW (keys.drop i) = (6 * keys[i].length + 8) + JT.keyW (keys.drop (i + 1)) := by
  unfold JT.keyW
  rw [List.drop_eq_getElem_cons h, List.map_cons, List.sum_cons]
theorem wt_le_wts (kids : List JT) {i : Nat} (h : i < kids.length) : kids[i].wt + 2 ≤ JT.wts (kids.drop i) := by
  rw [wts_at kids h]; omega
theorem Rd.takeT {w : World} {B : Nat} {A : Option Addr} {l : List Bs} {i : Nat} (h : Rd w B 1 A l.length (txtV l)) (hi : i ≤ l.length) : Rd w B 1 A i (txtV (l.take i)) := by
  refine ⟨by rw [txtV_len, List.length_take]; omega, fun hn => ?_⟩
  obtain ⟨b, o, e, hb, hc⟩ := h.2 (by omega)
  refine ⟨b, o, e, hb, fun j u hu => hc j u ?_⟩
  unfold txtV at hu ⊢
  rw [List.map_take, List.getElem?_take] at hu
  split at hu
  · exact hu
  · cases hu
theorem PrI.drewN {B0 b : Nat} {w : World} {bs : Bs} (h : PrI B0 b w bs) (n : Nat) : PrI B0 b (w.drewN n) bs := ⟨h.I, h.T, h.D, h.gT, h.gD⟩
theorem keyW_le (keys : List Bs) (i : Nat) : JT.keyW (keys.drop (i + 1)) ≤ JT.keyW (keys.drop i) := by
  by_cases h : i < keys.length
  · rw [keyW_at keys h]; omega
  · rw [List.drop_of_length_le (by omega), List.drop_of_length_le (by omega)]; exact Nat.le_refl _
theorem wts_drop (kids : List JT) (i : Nat) : JT.wts (kids.drop i) ≤ JT.wts kids := by
  have h := JT.wts_append (kids.take i) (kids.drop i)
  rw [List.take_append_drop] at h; omega

set_option maxHeartbeats 8000000 in
set_option maxRecDepth 100000 in
theorem print_many4 (f : JT → Nat × Bs) (B d : Nat) (hP : PrI B0 b w bs) (hj : JIn w B d (JT.mk 4 num t keys kids) Ak ck Ad) (hBB : B ≤ B0) (ih : PrIH B0 b B dp f) (hdp : dp ≤ 39)
    (hs1 : bs.length + (JT.mk 4 num t keys kids).wt ≤ 100000000) (hs2 : (JT.mk 4 num t keys kids).wt ≤ 60000000) (hk : keys.length ≤ 8388608) (hd : kids.length ≤ 8388608) (hR : rightB 4 num t keys.length kids.length = true) :
    Calls Tryd.prog 7 #[jPV 4 num t keys.length kids.length Ak Ad ck cd, .int .i64 dp, .pointer (some ⟨b, 0, none⟩)] w (PrP B0 b w bs (JT.mk 4 num t keys kids).wt (if (itemsM f false keys 0 kids).1 ≠ 0 then ((itemsM f false keys 0 kids).1, []) else (0, [91] ++ (itemsM f false keys 0 kids).2 ++ [93]))) := by
  have h1 : (-9223372036854775808 : Int) ≤ num ∧ (num : Int) ≤ 9223372036854775807 := hj.2.2.2.1
  have hW : Hid ((JT.mk 4 num t keys kids).wt = 40 + 6 * t.length + JT.keyW keys + JT.wts kids) := by show _ = _; simp only [JT.wt]
  have hWl : 40 + JT.keyW keys + JT.wts kids ≤ (JT.mk 4 num t keys kids).wt := by have := hW.out; omega
  obtain ⟨hrk, hck, hjs, _, _⟩ := hj
  have hrk : Rd w B 1 Ak keys.length (txtV keys) := hrk
  have hck : keys.length ≤ ck := hck
  have hjs : JsAt w B d kids Ad := hjs
  generalize (JT.mk 4 num t keys kids).wt = W at *
  have hd39 : ¬ (40 : Int) ≤ (dp : Int) := by omega
  generalize hXX : (if (itemsM f false keys 0 kids).1 ≠ 0 then ((itemsM f false keys 0 kids).1, []) else (0, [91] ++ (itemsM f false keys 0 kids).2 ++ [93]) : Nat × Bs) = X
  generalize hPP : itemsM f false keys 0 kids = P at hXX
  have HP := Lib.hid hPP
  have HX : Hid (X = if P.1 ≠ 0 then (P.1, []) else (0, [91] ++ P.2 ++ [93])) := hXX.symm
  have hnP : Hid (JIn w B d (JT.mk 4 num t keys kids) Ak ck Ad → True) := fun _ => trivial
  clear hPP hnP hW hXX
  have hrk' := fun (w' : World) (hb : Below B0 w w') => hrk.below (hb.mono hBB)
  have hjs' := fun (w' : World) (hb : Below B0 w w') => hjs.below (hb.mono hBB)
  have HK := Lib.hid hrk'
  have HJ := Lib.hid hjs'
  have IH := Lib.hid ih
  clear hrk hjs hrk' hjs' ih
  have hk : keys.length ≤ 16777216 := by omega
  have hd : kids.length ≤ 16777216 := by omega
  have hrt := fun (w1 : World) (hT : Tab10 w1) => right_walk 4 num t keys.length kids.length Ak Ad ck cd w1 hT h1.1 h1.2 hk hd
  rw [hR] at hrt
  have hP1 := hP.alloc (.cells #[.int .i64 4, .int .i64 num, .string ⟨t.toArray⟩, .slice Ak keys.length ck, .slice Ad kids.length cd] 25)
  have hz := hP.size
  have hb1 : Below B0 w (w.alloc (.cells #[.int .i64 4, .int .i64 num, .string ⟨t.toArray⟩, .slice Ak keys.length ck, .slice Ad kids.length cd] 25)) := (Below.refl _ _).alloc hz _
  have hk1 : KeepX [37, 5] w (w.alloc (.cells #[.int .i64 4, .int .i64 num, .string ⟨t.toArray⟩, .slice Ak keys.length ck, .slice Ad kids.length cd] 25)) := (KeepX.refl _ _).alloc _
  have hBk1 : Blk (w.alloc (.cells #[.int .i64 4, .int .i64 num, .string ⟨t.toArray⟩, .slice Ak keys.length ck, .slice Ad kids.length cd] 25)) w.heap.size 25 #[.int .i64 4, .int .i64 num, .string ⟨t.toArray⟩, .slice Ak keys.length ck, .slice Ad kids.length cd] := Blk.new _ _ _
  clear hR
  go_enter Tryd.func7, Tryd.ntmps7
  go_wp2_with fail
  refine (hrt _ hP1.T).mono ?_
  clear hrt
  rintro e w2 ⟨rfl, hbr⟩
  have hP2 := hP1.below hbr
  have hz2 := hP2.size
  have hb2 := hb1.trans (hbr.mono (by have := hP1.size; exact this))
  have hk2 := hk1.below hbr (Nat.le_refl _)
  have hBk2 := hBk1.below hbr hBk1.lt
  have b0 := hBk2.cell 0
  have b1 := hBk2.cell 1
  have b2 := hBk2.cell 2
  have b3 := hBk2.cell 3
  have b4 := hBk2.cell 4
  simp at b0 b1 b2 b3 b4
  clear hP1 hbr hb1 hk1 hBk1 hP
  have hws : Calls Tryd.prog 19 #[.pointer (some ⟨b, 0, none⟩), .int .u8 91] w2 _ := writeByte_walk hP2.I 91 (by omega) hz2
  go_wp2_with fail
  refine hws.mono ?_
  clear hws
  rintro e w4 ⟨rfl, hI4, hb4, hk4⟩
  have hP4 := hP2.next hI4 hb4
  have hBk4 := hBk2.keep hk4 (by decide)
  have hb4 := hb2.trans hb4
  have hk4 := hk2.trans hk4
  have b0 := hBk4.cell 0
  have b1 := hBk4.cell 1
  have b2 := hBk4.cell 2
  have b3 := hBk4.cell 3
  have b4 := hBk4.cell 4
  simp at b0 b1 b2 b3 b4
  clear hBk2 hb2 hk2 hP2 hI4
  go_wp2_with fail
  go_loopw [64] (fun iv wr => ∃ (i : Nat) (done : Bs), iv = .int .i64 i ∧ i ≤ kids.length ∧ PrI B0 b wr done ∧ Below B0 w wr ∧ KeepX [37, 5] w wr ∧ Blk wr w.heap.size 25 #[.int .i64 4, .int .i64 num, .string ⟨t.toArray⟩, .slice Ak keys.length ck, .slice Ad kids.length cd] ∧ done.length + JT.wts (kids.drop i) + JT.keyW (keys.drop i) + 30 ≤ bs.length + W ∧ Hid (P.1 = (itemsM f false keys i (kids.drop i)).1 ∧ ((itemsM f false keys i (kids.drop i)).1 = 0 → bs ++ ([91] ++ P.2) = done ++ (itemsM f false keys i (kids.drop i)).2))) (fun iv _ => kids.length - (intOf iv).toNat)
  case atStart => exact ⟨0, bs ++ [91], rfl, by omega, hP4, hb4, hk4, hBk4, by rw [List.drop_zero, List.drop_zero, List.length_append]; simp only [List.length_cons, List.length_nil]; omega, ⟨by rw [List.drop_zero, HP.out], fun _ => by rw [List.drop_zero, HP.out, List.append_assoc]⟩⟩
  case round =>
    obtain ⟨i, done, rfl, hi, hPr, hb, hk, hBk, hbud, H⟩ := hrel
    clear hP4 hb4 hk4 hBk4 b0 b1 b2 b3 b4 hz hz2
    have hbs := hPr.size
    by_cases hlt : i < kids.length
    · obtain ⟨b', o', Ak', ck', Ad', cd', d', rfl, hbB', c0, c1, c2, c3, c4, hjin⟩ := JsAt.get (HJ.out wr hb) hlt
      have hwt := wts_at kids hlt
      have hwd := wts_drop kids i
      have j0 : (0 : Int) ≤ (i : Int) := by omega
      have j1 : (i : Int) < (kids.length : Int) := by omega
      have Hst : Hid (itemsM f false keys i (kids.drop i) = if false = true ∧ keys.getD i [] ∈ keys.take i then (5, []) else if (f kids[i]).1 ≠ 0 then ((f kids[i]).1, []) else ((itemsM f false keys (i + 1) (kids.drop (i + 1))).1, (if i = 0 then [] else [44]) ++ (if false then jquM (keys.getD i []) ++ [58] else []) ++ (f kids[i]).2 ++ (itemsM f false keys (i + 1) (kids.drop (i + 1))).2)) := by
        show _ = _
        rw [List.drop_eq_getElem_cons hlt, itemsM]
      have hkw := keyW_le keys i
      have IH2 := fun bs w => IH.out kids[i] d' Ak' Ad' ck' cd' bs w
      unfold strV at c2
      generalize kids[i] = kid at *
      have Hj := Lib.hid hjin
      have Hih := Lib.hid IH2
      clear hjin IH2 IH
      have hbB2 : b' < wr.heap.size := by omega
      have hP5 := hPr.alloc (.cells #[.int .i64 kid.kind, .int .i64 kid.num, .string ⟨kid.text.toArray⟩, .slice Ak' kid.keys.length ck', .slice Ad' kid.kids.length cd'] 25)
      have hb5 := hb.alloc hbs (.cells #[.int .i64 kid.kind, .int .i64 kid.num, .string ⟨kid.text.toArray⟩, .slice Ak' kid.keys.length ck', .slice Ad' kid.kids.length cd'] 25)
      have hk5 := hk.alloc (.cells #[.int .i64 kid.kind, .int .i64 kid.num, .string ⟨kid.text.toArray⟩, .slice Ak' kid.keys.length ck', .slice Ad' kid.kids.length cd'] 25)
      have hBk5 := hBk.alloc (.cells #[.int .i64 kid.kind, .int .i64 kid.num, .string ⟨kid.text.toArray⟩, .slice Ak' kid.keys.length ck', .slice Ad' kid.kids.length cd'] 25)
      have hBn5 := Blk.new wr 25 #[.int .i64 kid.kind, .int .i64 kid.num, .string ⟨kid.text.toArray⟩, .slice Ak' kid.keys.length ck', .slice Ad' kid.kids.length cd']
      clear hPr hb hk hBk
      by_cases hi0 : i = 0
      · subst hi0
        simp only [Nat.zero_mul, Nat.add_zero] at c0 c1 c2 c3 c4
        have hdl : done.length ≤ bs.length + W := by omega
        have b0 := hBk5.cell 0
        have b1 := hBk5.cell 1
        have b2 := hBk5.cell 2
        have b3 := hBk5.cell 3
        have b4 := hBk5.cell 4
        have n0 := hBn5.cell 0
        have n1 := hBn5.cell 1
        have n2 := hBn5.cell 2
        have n3 := hBn5.cell 3
        have n4 := hBn5.cell 4
        simp at b0 b1 b2 b3 b4 n0 n1 n2 n3 n4
        have hdone : Hid (done ++ ((if (0 : Nat) = 0 then [] else [44]) : Bs) = done) := by show _ = _; simp
        go_wp2_with fail
        refine (Hih.out _ _ hP5 (Hj.out.below ((Below.refl B _).alloc (by omega) _)) (by omega) (by omega)).mono ?_
        rintro e w7 ⟨rfl, bs7, hI7, hl7, hx7, hb7, hk7⟩
        by_cases hfe : (f kid).1 = 0
        · have hstep : Hid (itemsM f false keys 0 (kids.drop 0) = ((itemsM f false keys (0 + 1) (kids.drop (0 + 1))).1, (if 0 = 0 then [] else [44]) ++ [] ++ (f kid).2 ++ (itemsM f false keys (0 + 1) (kids.drop (0 + 1))).2)) := by
            show _ = _
            rw [Hst.out, if_neg (by simp), if_neg (by rw [hfe]; simp)]; rfl
          have hbs7 := hx7 hfe
          have hHn : Hid (P.1 = (itemsM f false keys (0 + 1) (kids.drop (0 + 1))).1 ∧ ((itemsM f false keys (0 + 1) (kids.drop (0 + 1))).1 = 0 → bs ++ ([91] ++ P.2) = bs7 ++ (itemsM f false keys (0 + 1) (kids.drop (0 + 1))).2)) := by
            have h2 := H.out
            rw [hstep.out] at h2
            refine ⟨h2.1, fun h => ?_⟩
            rw [h2.2 h, hbs7]
            simp [List.append_assoc]
          rw [hfe]
          have hP7 := (hP5).next hI7 hb7
          have hbe := (hb5).trans hb7
          have hke := (hk5).trans hk7
          have hBk7 := (hBk5).keep hk7 (by decide)
          clear H Hst HX hstep hx7 hbs7 hfe
          go_wp2_with fail
          go_roundw
          case rel => exact ⟨0 + 1, bs7, by go_num, by omega, hP7, hbe, hke, hBk7, by omega, hHn.out⟩
          case measure => simp [intOf]; omega
        · have hXe : Hid (X = ((f kid).1, [])) := by
            show _ = _
            have h2 := H.out
            rw [Hst.out, if_neg (by simp), if_pos hfe] at h2
            rw [HX.out, if_pos (by rw [h2.1]; exact hfe), h2.1]
          have hfe2 : ((((f kid).1 : Nat) : Int) != 0) = true := by simp; exact hfe
          generalize f kid = fk at *
          have Hfe := Lib.hid hfe
          clear H HX Hst hfe
          go_wp2_with fail
          go_ret
          rw [hXe.out]
          exact ⟨rfl, bs7, hI7, by omega, fun h => absurd h Hfe.out, (hb5).trans hb7, (hk5).trans hk7⟩
      · have hip : (0 : Int) < (i : Int) := by omega
        have b0 := hBk5.cell 0
        have b1 := hBk5.cell 1
        have b2 := hBk5.cell 2
        have b3 := hBk5.cell 3
        have b4 := hBk5.cell 4
        have n0 := hBn5.cell 0
        have n1 := hBn5.cell 1
        have n2 := hBn5.cell 2
        have n3 := hBn5.cell 3
        have n4 := hBn5.cell 4
        simp at b0 b1 b2 b3 b4 n0 n1 n2 n3 n4
        have hws : Calls Tryd.prog 19 #[.pointer (some ⟨b, 0, none⟩), .int .u8 44] (wr.alloc (.cells #[.int .i64 kid.kind, .int .i64 kid.num, .string ⟨kid.text.toArray⟩, .slice Ak' kid.keys.length ck', .slice Ad' kid.kids.length cd'] 25)) _ := writeByte_walk hP5.I 44 (by omega) hP5.size
        go_wp2_with fail
        refine hws.mono ?_
        clear hws
        rintro e w6 ⟨rfl, hI6, hb6, hk6⟩
        have hP6 := hP5.next hI6 hb6
        have hbB6 : Below B wr w6 := ((Below.refl B _).alloc (by omega) _).trans (hb6.mono hBB)
        have hb6 := hb5.trans hb6
        have hBk6 := hBk5.keep hk6 (by decide)
        have hBn6 := hBn5.keep hk6 (by decide)
        have hk6 := hk5.trans hk6
        have hl6 : (done ++ [44]).length = done.length + 1 := by rw [List.length_append]; rfl
        have b0 := hBk6.cell 0
        have b1 := hBk6.cell 1
        have b2 := hBk6.cell 2
        have b3 := hBk6.cell 3
        have b4 := hBk6.cell 4
        have n0 := hBn6.cell 0
        have n1 := hBn6.cell 1
        have n2 := hBn6.cell 2
        have n3 := hBn6.cell 3
        have n4 := hBn6.cell 4
        simp at b0 b1 b2 b3 b4 n0 n1 n2 n3 n4
        go_wp2_with fail
        refine (Hih.out _ _ hP6 (Hj.out.below hbB6) (by omega) (by omega)).mono ?_
        rintro e w7 ⟨rfl, bs7, hI7, hl7, hx7, hb7, hk7⟩
        by_cases hfe : (f kid).1 = 0
        · have hstep : Hid (itemsM f false keys i (kids.drop i) = ((itemsM f false keys (i + 1) (kids.drop (i + 1))).1, (if i = 0 then [] else [44]) ++ [] ++ (f kid).2 ++ (itemsM f false keys (i + 1) (kids.drop (i + 1))).2)) := by
            show _ = _
            rw [Hst.out, if_neg (by simp), if_neg (by rw [hfe]; simp)]; rfl
          have hbs7 := hx7 hfe
          have hHn : Hid (P.1 = (itemsM f false keys (i + 1) (kids.drop (i + 1))).1 ∧ ((itemsM f false keys (i + 1) (kids.drop (i + 1))).1 = 0 → bs ++ ([91] ++ P.2) = bs7 ++ (itemsM f false keys (i + 1) (kids.drop (i + 1))).2)) := by
            have h2 := H.out
            rw [hstep.out] at h2
            refine ⟨h2.1, fun h => ?_⟩
            rw [h2.2 h, hbs7]
            simp [List.append_assoc, hi0]
          rw [hfe]
          have hP7 := (hP6).next hI7 hb7
          have hbe := (hb6).trans hb7
          have hke := (hk6).trans hk7
          have hBk7 := (hBk6).keep hk7 (by decide)
          clear H Hst HX hstep hx7 hbs7 hfe
          go_wp2_with fail
          go_roundw
          case rel => exact ⟨i + 1, bs7, by go_num, by omega, hP7, hbe, hke, hBk7, by omega, hHn.out⟩
          case measure => simp [intOf]; omega
        · have hXe : Hid (X = ((f kid).1, [])) := by
            show _ = _
            have h2 := H.out
            rw [Hst.out, if_neg (by simp), if_pos hfe] at h2
            rw [HX.out, if_pos (by rw [h2.1]; exact hfe), h2.1]
          have hfe2 : ((((f kid).1 : Nat) : Int) != 0) = true := by simp; exact hfe
          generalize f kid = fk at *
          have Hfe := Lib.hid hfe
          clear H HX Hst hfe
          go_wp2_with fail
          go_ret
          rw [hXe.out]
          exact ⟨rfl, bs7, hI7, by omega, fun h => absurd h Hfe.out, (hb6).trans hb7, (hk6).trans hk7⟩
    · obtain rfl : i = kids.length := by omega
      have hH : Hid (P.1 = 0 ∧ bs ++ ([91] ++ P.2) = done) := by
        have h2 := H.out
        rw [List.drop_length, itemsM] at h2
        exact ⟨h2.1, by have := h2.2 rfl; rw [List.append_nil] at this; exact this⟩
      have hXe : Hid (X = (0, [91] ++ P.2 ++ [93])) := by show _ = _; rw [HX.out, if_neg (by rw [hH.out.1]; simp)]
      have hws : Calls Tryd.prog 19 #[.pointer (some ⟨b, 0, none⟩), .int .u8 93] wr _ := writeByte_walk hPr.I 93 (by omega) hbs
      clear H HX
      go_wp2_with fail
      refine hws.mono ?_
      clear hws
      rintro e w5 ⟨rfl, hI5, hb5, hk5⟩
      go_wp2_with fail
      go_ret
      rw [hXe.out]
      exact ⟨rfl, _, hI5, by rw [List.length_append]; simp only [List.length_cons, List.length_nil]; omega, fun _ => by rw [← hH.out.2]; simp, hb.trans hb5, hk.trans hk5⟩
end
end Go.Proofs.YtgpjcjnimheglaaDoor
/-
  WALKS: slices.Contains at []string, of longer lists.
-/
namespace Go.Proofs.YtgpjcjnimheglaaDoor
open Go.RowKit

def IdxP8 (r : Int) (l : List Bs) (x : Bs) : Prop := decide (0 ≤ r) = l.contains x
set_option maxHeartbeats 1000000 in
set_option maxRecDepth 100000 in
theorem index_walk8 (A : Option Addr) (c : Nat) (l : List Bs) (x : Bs) (w : World) (h1 : Rd w w.heap.size 1 A l.length (txtV l)) (hl : l.length ≤ 8388608) :
    Calls Tryd.prog 36 #[.slice A l.length c, .string ⟨x.toArray⟩] w fun e w' => ∃ r : Int, e = .returned (.int .i64 r) ∧ IdxP8 r l x ∧ w' = w := by
  go_enter Tryd.func36, Tryd.ntmps36
  go_wp2_with fail
  go_loop [8] (fun i => ∃ k : Nat, k ≤ l.length ∧ i = .int .i64 k ∧ Hid (x ∉ l.take k)) (fun i => l.length - (intOf i).toNat)
  case atStart => exact ⟨0, Nat.zero_le _, rfl, by show _ ∉ _; simp⟩
  case round =>
    obtain ⟨k, hk, rfl, H⟩ := hrel
    by_cases hlt : k < l.length
    · obtain ⟨b, o, rfl, hbB, c0⟩ := Rd.txt h1 hlt
      have i1 : (0 : Int) ≤ (k : Int) := by omega
      have i2 : (k : Int) < (l.length : Int) := by omega
      have Hst : Hid (x ≠ l[k] → x ∉ l.take (k + 1)) := fun h => by
        rw [List.take_succ_eq_append_getElem hlt, List.mem_append, List.mem_singleton]
        rintro (h2 | h2)
        · exact H.out h2
        · exact h h2
      have Hin : Hid (x = l[k] → l.contains x = true) := fun h => by rw [h]; simp
      unfold strV at c0
      generalize l[k] = y at *
      by_cases hxy : x = y
      · have hc := Lib.hid (Hin.out hxy)
        subst hxy
        go_wp2_with fail
        go_ret
        exact ⟨_, rfl, by unfold IdxP8; rw [hc.out]; simp, rfl⟩
      · have d1 : (x == y) = false := by simp [hxy]
        have Hn := Lib.hid (Hst.out hxy)
        clear hxy
        go_wp2_with fail
        go_round
        case rel => exact ⟨k + 1, by omega, by go_num, Hn.out⟩
        case measure => simp [intOf]; omega
    · obtain rfl : k = l.length := by omega
      have hc : Hid (l.contains x = false) := by
        show _ = _
        have := H.out
        rw [List.take_length] at this
        simpa using this
      go_wp2_with fail
      go_ret
      exact ⟨_, rfl, by unfold IdxP8; rw [hc.out]; rfl, rfl⟩

set_option maxRecDepth 100000 in
theorem contains_walk8 (A : Option Addr) (c : Nat) (l : List Bs) (x : Bs) (w : World) (h1 : Rd w w.heap.size 1 A l.length (txtV l)) (hl : l.length ≤ 8388608) :
    Calls Tryd.prog 20 #[.slice A l.length c, .string ⟨x.toArray⟩] w fun e w' => e = .returned (.bool (l.contains x)) ∧ w' = w := by
  have hI := index_walk8 A c l x w h1 hl
  go_enter Tryd.func20, Tryd.ntmps20
  go_wp2_with fail
  refine hI.mono ?_
  clear hI
  rintro e w' ⟨r, rfl, Hr, rfl⟩
  go_wp2_with fail
  go_ret
  exact ⟨by rw [← show decide (0 ≤ r) = l.contains x from Hr]; rfl, rfl⟩
end Go.Proofs.YtgpjcjnimheglaaDoor
/-
  WALKS of package wire: print, of maps.
-/
namespace Go.Proofs.YtgpjcjnimheglaaDoor
open Go.RowKit

section
variable (num : Int) (t : Bs) (keys : List Bs) (kids : List JT) (Ak Ad : Option Addr) (ck cd dp B0 b : Nat) (bs : Bs) (w : World)

set_option maxHeartbeats 8000000 in
set_option maxRecDepth 100000 in
theorem print_many5 (f : JT → Nat × Bs) (B d : Nat) (hP : PrI B0 b w bs) (hj : JIn w B d (JT.mk 5 num t keys kids) Ak ck Ad) (hBB : B ≤ B0) (ih : PrIH B0 b B dp f) (hdp : dp ≤ 39)
    (hs1 : bs.length + (JT.mk 5 num t keys kids).wt ≤ 100000000) (hs2 : (JT.mk 5 num t keys kids).wt ≤ 60000000) (hk : keys.length ≤ 8388608) (hd : kids.length ≤ 8388608) (hR : rightB 5 num t keys.length kids.length = true) :
    Calls Tryd.prog 7 #[jPV 5 num t keys.length kids.length Ak Ad ck cd, .int .i64 dp, .pointer (some ⟨b, 0, none⟩)] w (PrP B0 b w bs (JT.mk 5 num t keys kids).wt (if (itemsM f true keys 0 kids).1 ≠ 0 then ((itemsM f true keys 0 kids).1, []) else (0, [123] ++ (itemsM f true keys 0 kids).2 ++ [125]))) := by
  have h1 : (-9223372036854775808 : Int) ≤ num ∧ (num : Int) ≤ 9223372036854775807 := hj.2.2.2.1
  have hW : Hid ((JT.mk 5 num t keys kids).wt = 40 + 6 * t.length + JT.keyW keys + JT.wts kids) := by show _ = _; simp only [JT.wt]
  have hWl : 40 + JT.keyW keys + JT.wts kids ≤ (JT.mk 5 num t keys kids).wt := by have := hW.out; omega
  obtain ⟨hrk, hck, hjs, _, _⟩ := hj
  have hrk : Rd w B 1 Ak keys.length (txtV keys) := hrk
  have hck : keys.length ≤ ck := hck
  have hjs : JsAt w B d kids Ad := hjs
  generalize (JT.mk 5 num t keys kids).wt = W at *
  have hd39 : ¬ (40 : Int) ≤ (dp : Int) := by omega
  have hkk : Hid (keys.length = kids.length) := by
    show _ = _
    unfold rightB at hR; simp at hR; exact hR.2
  generalize hXX : (if (itemsM f true keys 0 kids).1 ≠ 0 then ((itemsM f true keys 0 kids).1, []) else (0, [123] ++ (itemsM f true keys 0 kids).2 ++ [125]) : Nat × Bs) = X
  generalize hPP : itemsM f true keys 0 kids = P at hXX
  have HP := Lib.hid hPP
  have HX : Hid (X = if P.1 ≠ 0 then (P.1, []) else (0, [123] ++ P.2 ++ [125])) := hXX.symm
  have hnP : Hid (JIn w B d (JT.mk 5 num t keys kids) Ak ck Ad → True) := fun _ => trivial
  clear hPP hnP hW hXX
  have hrk' := fun (w' : World) (hb : Below B0 w w') => hrk.below (hb.mono hBB)
  have hjs' := fun (w' : World) (hb : Below B0 w w') => hjs.below (hb.mono hBB)
  have HK := Lib.hid hrk'
  have HJ := Lib.hid hjs'
  have IH := Lib.hid ih
  clear hrk hjs hrk' hjs' ih
  have hk : keys.length ≤ 16777216 := by omega
  have hd : kids.length ≤ 16777216 := by omega
  have hrt := fun (w1 : World) (hT : Tab10 w1) => right_walk 5 num t keys.length kids.length Ak Ad ck cd w1 hT h1.1 h1.2 hk hd
  rw [hR] at hrt
  have hP1 := hP.alloc (.cells #[.int .i64 5, .int .i64 num, .string ⟨t.toArray⟩, .slice Ak keys.length ck, .slice Ad kids.length cd] 25)
  have hz := hP.size
  have hb1 : Below B0 w (w.alloc (.cells #[.int .i64 5, .int .i64 num, .string ⟨t.toArray⟩, .slice Ak keys.length ck, .slice Ad kids.length cd] 25)) := (Below.refl _ _).alloc hz _
  have hk1 : KeepX [37, 5] w (w.alloc (.cells #[.int .i64 5, .int .i64 num, .string ⟨t.toArray⟩, .slice Ak keys.length ck, .slice Ad kids.length cd] 25)) := (KeepX.refl _ _).alloc _
  have hBk1 : Blk (w.alloc (.cells #[.int .i64 5, .int .i64 num, .string ⟨t.toArray⟩, .slice Ak keys.length ck, .slice Ad kids.length cd] 25)) w.heap.size 25 #[.int .i64 5, .int .i64 num, .string ⟨t.toArray⟩, .slice Ak keys.length ck, .slice Ad kids.length cd] := Blk.new _ _ _
  clear hR
  go_enter Tryd.func7, Tryd.ntmps7
  go_wp2_with fail
  refine (hrt _ hP1.T).mono ?_
  clear hrt
  rintro e w2 ⟨rfl, hbr⟩
  have hP2 := hP1.below hbr
  have hz2 := hP2.size
  have hb2 := hb1.trans (hbr.mono (by have := hP1.size; exact this))
  have hk2 := hk1.below hbr (Nat.le_refl _)
  have hBk2 := hBk1.below hbr hBk1.lt
  have b0 := hBk2.cell 0
  have b1 := hBk2.cell 1
  have b2 := hBk2.cell 2
  have b3 := hBk2.cell 3
  have b4 := hBk2.cell 4
  simp at b0 b1 b2 b3 b4
  clear hP1 hbr hb1 hk1 hBk1 hP
  have hws : Calls Tryd.prog 19 #[.pointer (some ⟨b, 0, none⟩), .int .u8 123] w2 _ := writeByte_walk hP2.I 123 (by omega) hz2
  go_wp2_with fail
  refine hws.mono ?_
  clear hws
  rintro e w4 ⟨rfl, hI4, hb4, hk4⟩
  have hP4 := hP2.next hI4 hb4
  have hBk4 := hBk2.keep hk4 (by decide)
  have hb4 := hb2.trans hb4
  have hk4 := hk2.trans hk4
  have b0 := hBk4.cell 0
  have b1 := hBk4.cell 1
  have b2 := hBk4.cell 2
  have b3 := hBk4.cell 3
  have b4 := hBk4.cell 4
  simp at b0 b1 b2 b3 b4
  clear hBk2 hb2 hk2 hP2 hI4
  go_wp2_with fail
  go_loopw [64] (fun iv wr => ∃ (i : Nat) (done : Bs), iv = .int .i64 i ∧ i ≤ kids.length ∧ PrI B0 b wr done ∧ Below B0 w wr ∧ KeepX [37, 5] w wr ∧ Blk wr w.heap.size 25 #[.int .i64 5, .int .i64 num, .string ⟨t.toArray⟩, .slice Ak keys.length ck, .slice Ad kids.length cd] ∧ done.length + JT.wts (kids.drop i) + JT.keyW (keys.drop i) + 30 ≤ bs.length + W ∧ Hid (P.1 = (itemsM f true keys i (kids.drop i)).1 ∧ ((itemsM f true keys i (kids.drop i)).1 = 0 → bs ++ ([123] ++ P.2) = done ++ (itemsM f true keys i (kids.drop i)).2))) (fun iv _ => kids.length - (intOf iv).toNat)
  case atStart => exact ⟨0, bs ++ [123], rfl, by omega, hP4, hb4, hk4, hBk4, by rw [List.drop_zero, List.drop_zero, List.length_append]; simp only [List.length_cons, List.length_nil]; omega, ⟨by rw [List.drop_zero, HP.out], fun _ => by rw [List.drop_zero, HP.out, List.append_assoc]⟩⟩
  case round =>
    obtain ⟨i, done, rfl, hi, hPr, hb, hk, hBk, hbud, H⟩ := hrel
    clear hP4 hb4 hk4 hBk4 b0 b1 b2 b3 b4 hz hz2
    have hbs := hPr.size
    by_cases hlt : i < kids.length
    · obtain ⟨b', o', Ak', ck', Ad', cd', d', rfl, hbB', c0, c1, c2, c3, c4, hjin⟩ := JsAt.get (HJ.out wr hb) hlt
      have hwt := wts_at kids hlt
      have hwd := wts_drop kids i
      have j0 : (0 : Int) ≤ (i : Int) := by omega
      have j1 : (i : Int) < (kids.length : Int) := by omega
      have Hst : Hid (itemsM f true keys i (kids.drop i) = if true = true ∧ keys.getD i [] ∈ keys.take i then (5, []) else if (f kids[i]).1 ≠ 0 then ((f kids[i]).1, []) else ((itemsM f true keys (i + 1) (kids.drop (i + 1))).1, (if i = 0 then [] else [44]) ++ (if true then jquM (keys.getD i []) ++ [58] else []) ++ (f kids[i]).2 ++ (itemsM f true keys (i + 1) (kids.drop (i + 1))).2)) := by
        show _ = _
        rw [List.drop_eq_getElem_cons hlt, itemsM]
      have hkw := keyW_le keys i
      have IH2 := fun bs w => IH.out kids[i] d' Ak' Ad' ck' cd' bs w
      have hi5 : i < keys.length := by have := hkk.out; omega
      have hkw5 := keyW_at keys hi5
      have hgd : Hid (keys.getD i [] = keys[i]) := by show _ = _; rw [List.getD_eq_getElem?_getD, List.getElem?_eq_getElem hi5]; rfl
      have htk : (keys.take i).length = i := by rw [List.length_take]; omega
      obtain ⟨bk, ok, rfl, hbkB, _⟩ := Rd.txt (HK.out wr hb) hi5
      have HC : Hid (∀ w', Below B0 w w' → w'.cell? ⟨bk, ok + i, none⟩ = some (strV keys[i])) := fun w' hb => by
        obtain ⟨b2, o2, e, _, c⟩ := Rd.txt (HK.out w' hb) hi5
        injection e with e; injection e with e1 e2 _
        subst e1 e2; exact c
      have HCT : Hid (∀ w', Below B0 w w' → B0 ≤ w'.heap.size → Calls Tryd.prog 20 #[.slice (some ⟨bk, ok, none⟩) i ck, .string ⟨keys[i].toArray⟩] w' fun e w'' => e = .returned (.bool ((keys.take i).contains keys[i])) ∧ w'' = w') := fun w' hb hz => by
        have h := contains_walk8 (some ⟨bk, ok, none⟩) ck (keys.take i) keys[i] w' (by rw [htk]; exact ((HK.out w' hb).takeT (by omega)).more (by omega)) (by omega)
        rw [htk] at h; exact h
      have HQ : Hid ((keys.take i).contains keys[i] = true ↔ keys.getD i [] ∈ keys.take i) := by
        show _ ↔ _
        rw [hgd.out]; simp
      generalize (keys.take i).contains keys[i] = Q at *
      generalize keys[i] = key at *
      unfold strV at HC
      clear htk
      unfold strV at c2
      generalize kids[i] = kid at *
      have Hj := Lib.hid hjin
      have Hih := Lib.hid IH2
      clear hjin IH2 IH
      have hbB2 : b' < wr.heap.size := by omega
      have hP5 := hPr.alloc (.cells #[.int .i64 kid.kind, .int .i64 kid.num, .string ⟨kid.text.toArray⟩, .slice Ak' kid.keys.length ck', .slice Ad' kid.kids.length cd'] 25)
      have hb5 := hb.alloc hbs (.cells #[.int .i64 kid.kind, .int .i64 kid.num, .string ⟨kid.text.toArray⟩, .slice Ak' kid.keys.length ck', .slice Ad' kid.kids.length cd'] 25)
      have hk5 := hk.alloc (.cells #[.int .i64 kid.kind, .int .i64 kid.num, .string ⟨kid.text.toArray⟩, .slice Ak' kid.keys.length ck', .slice Ad' kid.kids.length cd'] 25)
      have hBk5 := hBk.alloc (.cells #[.int .i64 kid.kind, .int .i64 kid.num, .string ⟨kid.text.toArray⟩, .slice Ak' kid.keys.length ck', .slice Ad' kid.kids.length cd'] 25)
      have hBn5 := Blk.new wr 25 #[.int .i64 kid.kind, .int .i64 kid.num, .string ⟨kid.text.toArray⟩, .slice Ak' kid.keys.length ck', .slice Ad' kid.kids.length cd']
      clear hPr hb hk hBk
      by_cases hi0 : i = 0
      · subst hi0
        simp only [Nat.zero_mul, Nat.add_zero] at c0 c1 c2 c3 c4
        have hdl : done.length ≤ bs.length + W := by omega
        have b0 := hBk5.cell 0
        have b1 := hBk5.cell 1
        have b2 := hBk5.cell 2
        have b3 := hBk5.cell 3
        have b4 := hBk5.cell 4
        have n0 := hBn5.cell 0
        have n1 := hBn5.cell 1
        have n2 := hBn5.cell 2
        have n3 := hBn5.cell 3
        have n4 := hBn5.cell 4
        simp at b0 b1 b2 b3 b4 n0 n1 n2 n3 n4
        have hdone : Hid (done ++ ((if (0 : Nat) = 0 then [] else [44]) : Bs) = done) := by show _ = _; simp
        have hBE := hb5
        have hct : ∀ n, Calls Tryd.prog 20 #[.slice (some ⟨bk, ok, none⟩) 0 ck, .string ⟨key.toArray⟩] ((wr.alloc (.cells #[.int .i64 kid.kind, .int .i64 kid.num, .string ⟨kid.text.toArray⟩, .slice Ak' kid.keys.length ck', .slice Ad' kid.kids.length cd'] 25)).drewN n) fun e w' => e = .returned (.bool Q) ∧ w' = (wr.alloc (.cells #[.int .i64 kid.kind, .int .i64 kid.num, .string ⟨kid.text.toArray⟩, .slice Ak' kid.keys.length ck', .slice Ad' kid.kids.length cd'] 25)).drewN n := fun n => HCT.out ((wr.alloc (.cells #[.int .i64 kid.kind, .int .i64 kid.num, .string ⟨kid.text.toArray⟩, .slice Ak' kid.keys.length ck', .slice Ad' kid.kids.length cd'] 25)).drewN n) (below_drewN hBE n) (hP5).size
        have ckx := HC.out (wr.alloc (.cells #[.int .i64 kid.kind, .int .i64 kid.num, .string ⟨kid.text.toArray⟩, .slice Ak' kid.keys.length ck', .slice Ad' kid.kids.length cd'] 25)) hBE
        simp only [Nat.add_zero] at ckx
        have j5 : (0 : Int) < (keys.length : Int) := by omega
        have j6 : (0 : Int) ≤ (ck : Int) := by omega
        go_wp2_with fail
        go_quiet ((go_at_call 20; exact Calls.quiet_of_same (hct _)))
        have hPq := (hP5).drewN nq
        have hBq := below_drewN hBE nq
        have hKq := KeepX.drewN (hk5) nq
        have hBkq := (hBk5).drewN nq
        have hBnq := (hBn5).drewN nq
        have hJq := ((Hj.out.below ((Below.refl B wr).alloc (by omega) (.cells #[.int .i64 kid.kind, .int .i64 kid.num, .string ⟨kid.text.toArray⟩, .slice Ak' kid.keys.length ck', .slice Ad' kid.kids.length cd'] 25)))).below (below_drewN (Below.refl B _) nq)
        generalize World.drewN _ nq = wq at *
        clear hct ckx b0 b1 b2 b3 b4 n0 n1 n2 n3 n4
        have b0 := hBkq.cell 0
        have b1 := hBkq.cell 1
        have b2 := hBkq.cell 2
        have b3 := hBkq.cell 3
        have b4 := hBkq.cell 4
        simp at b0 b1 b2 b3 b4
        have ckx := HC.out wq hBq
        simp only [Nat.add_zero] at ckx
        cases Q with
        | true =>
          have hXe : Hid (X = (5, [])) := by
            show _ = _
            have h2 := H.out
            rw [Hst.out, if_pos ⟨by first | rfl | trivial, HQ.out.1 (by first | rfl | trivial)⟩] at h2
            rw [HX.out, if_pos (by rw [h2.1]; simp), h2.1]
          clear H HX Hst
          go_wp2_with fail
          go_ret
          rw [hXe.out]
          exact ⟨rfl, _, hPq.I, by omega, fun h => absurd h (by simp), hBq, hKq⟩
        | false =>
          have hnotin : Hid (keys.getD 0 [] ∉ keys.take 0) := fun h => by have := HQ.out.2 h; cases this
          have hqu := ljquote_walk key wq hPq.D (by omega)
          have hql := jquM_len key
          have Hgj : Hid (jquM (keys.getD 0 []) = jquM key) := by show _ = _; rw [hgd.out]
          generalize jquM key = Y at *
          go_wp2_with fail
          refine hqu.mono ?_
          clear hqu
          rintro e w8 ⟨rfl, hb8⟩
          have hP8 := hPq.below hb8
          have hB8 := hBq.trans (hb8.mono hPq.size)
          have hK8 := hKq.below hb8 (Nat.le_refl _)
          have hBk8 := hBkq.below hb8 hBkq.lt
          have hBn8 := hBnq.below hb8 hBnq.lt
          have hJ8 := hJq.below (hb8.mono (Nat.le_trans hBB hPq.size))
          have hyl : Y.length ≤ 100000000 := by omega
          have hws : Calls Tryd.prog 15 #[.pointer (some ⟨b, 0, none⟩), .string ((⟨Y.toArray⟩ : ByteArray) ++ ⟨#[58]⟩)] w8 fun e w' => e = .returned (.tuple #[.int .i64 ((Y ++ [58] : Bs).length : Nat), .nilIface]) ∧ IsB B0 b (done ++ (Y ++ [58])) w' ∧ Below B0 w8 w' ∧ KeepX [37, 5] w8 w' := by
            have h := writeStr_walk hP8.I (Y ++ [58]) (by simp only [List.length_append, List.length_cons, List.length_nil]; omega) hP8.size
            rw [← ba_app] at h
            exact h
          go_wp2_with fail
          refine hws.mono ?_
          clear hws
          rintro e w9 ⟨rfl, hI9, hb9, hk9⟩
          have hP9 := hP8.next hI9 hb9
          have hB9 := hB8.trans hb9
          have hK9 := hK8.trans hk9
          have hBk9 := hBk8.keep hk9 (by decide)
          have hBn9 := hBn8.keep hk9 (by decide)
          have hJ9 := hJ8.below (hb9.mono hBB)
          have hl9 : (done ++ (Y ++ [58])).length = done.length + (Y.length + 1) := by simp only [List.length_append, List.length_cons, List.length_nil]
          clear b0 b1 b2 b3 b4 ckx
          have b0 := hBk9.cell 0
          have b1 := hBk9.cell 1
          have b2 := hBk9.cell 2
          have b3 := hBk9.cell 3
          have b4 := hBk9.cell 4
          have n0 := hBn9.cell 0
          have n1 := hBn9.cell 1
          have n2 := hBn9.cell 2
          have n3 := hBn9.cell 3
          have n4 := hBn9.cell 4
          simp at b0 b1 b2 b3 b4 n0 n1 n2 n3 n4
          go_wp2_with fail
          refine (Hih.out _ _ hP9 hJ9 (by omega) (by omega)).mono ?_
          rintro e w7 ⟨rfl, bs7, hI7, hl7, hx7, hb7, hk7⟩
          by_cases hfe : (f kid).1 = 0
          · have hstep : Hid (itemsM f true keys 0 (kids.drop 0) = ((itemsM f true keys (0 + 1) (kids.drop (0 + 1))).1, (if 0 = 0 then [] else [44]) ++ (jquM (keys.getD 0 []) ++ [58]) ++ (f kid).2 ++ (itemsM f true keys (0 + 1) (kids.drop (0 + 1))).2)) := by
              show _ = _
              rw [Hst.out, if_neg (by rintro ⟨_, h⟩; exact hnotin.out h), if_neg (by rw [hfe]; simp)]; rfl
            have hbs7 := hx7 hfe
            have hHn : Hid (P.1 = (itemsM f true keys (0 + 1) (kids.drop (0 + 1))).1 ∧ ((itemsM f true keys (0 + 1) (kids.drop (0 + 1))).1 = 0 → bs ++ ([123] ++ P.2) = bs7 ++ (itemsM f true keys (0 + 1) (kids.drop (0 + 1))).2)) := by
              have h2 := H.out
              rw [hstep.out] at h2
              refine ⟨h2.1, fun h => ?_⟩
              rw [h2.2 h, hbs7, Hgj.out]
              simp [List.append_assoc]
            rw [hfe]
            have hP7 := (hP9).next hI7 hb7
            have hbe := (hB9).trans hb7
            have hke := (hK9).trans hk7
            have hBk7 := (hBk9).keep hk7 (by decide)
            clear H Hst HX hstep hx7 hbs7 hfe
            go_wp2_with fail
            go_roundw
            case rel => exact ⟨0 + 1, bs7, by go_num, by omega, hP7, hbe, hke, hBk7, by omega, hHn.out⟩
            case measure => simp [intOf]; omega
          · have hXe : Hid (X = ((f kid).1, [])) := by
              show _ = _
              have h2 := H.out
              rw [Hst.out, if_neg (by rintro ⟨_, h⟩; exact hnotin.out h), if_pos hfe] at h2
              rw [HX.out, if_pos (by rw [h2.1]; exact hfe), h2.1]
            have hfe2 : ((((f kid).1 : Nat) : Int) != 0) = true := by simp; exact hfe
            generalize f kid = fk at *
            have Hfe := Lib.hid hfe
            clear H HX Hst hfe
            go_wp2_with fail
            go_ret
            rw [hXe.out]
            exact ⟨rfl, bs7, hI7, by omega, fun h => absurd h Hfe.out, (hB9).trans hb7, (hK9).trans hk7⟩
      · have hip : (0 : Int) < (i : Int) := by omega
        have b0 := hBk5.cell 0
        have b1 := hBk5.cell 1
        have b2 := hBk5.cell 2
        have b3 := hBk5.cell 3
        have b4 := hBk5.cell 4
        have n0 := hBn5.cell 0
        have n1 := hBn5.cell 1
        have n2 := hBn5.cell 2
        have n3 := hBn5.cell 3
        have n4 := hBn5.cell 4
        simp at b0 b1 b2 b3 b4 n0 n1 n2 n3 n4
        have hws : Calls Tryd.prog 19 #[.pointer (some ⟨b, 0, none⟩), .int .u8 44] (wr.alloc (.cells #[.int .i64 kid.kind, .int .i64 kid.num, .string ⟨kid.text.toArray⟩, .slice Ak' kid.keys.length ck', .slice Ad' kid.kids.length cd'] 25)) _ := writeByte_walk hP5.I 44 (by omega) hP5.size
        go_wp2_with fail
        refine hws.mono ?_
        clear hws
        rintro e w6 ⟨rfl, hI6, hb6, hk6⟩
        have hP6 := hP5.next hI6 hb6
        have hbB6 : Below B wr w6 := ((Below.refl B _).alloc (by omega) _).trans (hb6.mono hBB)
        have hb6 := hb5.trans hb6
        have hBk6 := hBk5.keep hk6 (by decide)
        have hBn6 := hBn5.keep hk6 (by decide)
        have hk6 := hk5.trans hk6
        have hl6 : (done ++ [44]).length = done.length + 1 := by rw [List.length_append]; rfl
        have b0 := hBk6.cell 0
        have b1 := hBk6.cell 1
        have b2 := hBk6.cell 2
        have b3 := hBk6.cell 3
        have b4 := hBk6.cell 4
        have n0 := hBn6.cell 0
        have n1 := hBn6.cell 1
        have n2 := hBn6.cell 2
        have n3 := hBn6.cell 3
        have n4 := hBn6.cell 4
        simp at b0 b1 b2 b3 b4 n0 n1 n2 n3 n4
        have hBE := hb6
        have hct : ∀ n, Calls Tryd.prog 20 #[.slice (some ⟨bk, ok, none⟩) i ck, .string ⟨key.toArray⟩] (w6.drewN n) fun e w' => e = .returned (.bool Q) ∧ w' = w6.drewN n := fun n => HCT.out (w6.drewN n) (below_drewN hBE n) (hP6).size
        have ckx := HC.out w6 hBE
        have j5 : (i : Int) < (keys.length : Int) := by omega
        have j6 : (i : Int) ≤ (ck : Int) := by omega
        go_wp2_with fail
        go_quiet ((go_at_call 20; exact Calls.quiet_of_same (hct _)))
        have hPq := (hP6).drewN nq
        have hBq := below_drewN hBE nq
        have hKq := KeepX.drewN (hk6) nq
        have hBkq := (hBk6).drewN nq
        have hBnq := (hBn6).drewN nq
        have hJq := ((Hj.out.below hbB6)).below (below_drewN (Below.refl B _) nq)
        generalize World.drewN _ nq = wq at *
        clear hct ckx b0 b1 b2 b3 b4 n0 n1 n2 n3 n4
        have b0 := hBkq.cell 0
        have b1 := hBkq.cell 1
        have b2 := hBkq.cell 2
        have b3 := hBkq.cell 3
        have b4 := hBkq.cell 4
        simp at b0 b1 b2 b3 b4
        have ckx := HC.out wq hBq
        cases Q with
        | true =>
          have hXe : Hid (X = (5, [])) := by
            show _ = _
            have h2 := H.out
            rw [Hst.out, if_pos ⟨by first | rfl | trivial, HQ.out.1 (by first | rfl | trivial)⟩] at h2
            rw [HX.out, if_pos (by rw [h2.1]; simp), h2.1]
          clear H HX Hst
          go_wp2_with fail
          go_ret
          rw [hXe.out]
          exact ⟨rfl, _, hPq.I, by omega, fun h => absurd h (by simp), hBq, hKq⟩
        | false =>
          have hnotin : Hid (keys.getD i [] ∉ keys.take i) := fun h => by have := HQ.out.2 h; cases this
          have hqu := ljquote_walk key wq hPq.D (by omega)
          have hql := jquM_len key
          have Hgj : Hid (jquM (keys.getD i []) = jquM key) := by show _ = _; rw [hgd.out]
          generalize jquM key = Y at *
          go_wp2_with fail
          refine hqu.mono ?_
          clear hqu
          rintro e w8 ⟨rfl, hb8⟩
          have hP8 := hPq.below hb8
          have hB8 := hBq.trans (hb8.mono hPq.size)
          have hK8 := hKq.below hb8 (Nat.le_refl _)
          have hBk8 := hBkq.below hb8 hBkq.lt
          have hBn8 := hBnq.below hb8 hBnq.lt
          have hJ8 := hJq.below (hb8.mono (Nat.le_trans hBB hPq.size))
          have hyl : Y.length ≤ 100000000 := by omega
          have hws : Calls Tryd.prog 15 #[.pointer (some ⟨b, 0, none⟩), .string ((⟨Y.toArray⟩ : ByteArray) ++ ⟨#[58]⟩)] w8 fun e w' => e = .returned (.tuple #[.int .i64 ((Y ++ [58] : Bs).length : Nat), .nilIface]) ∧ IsB B0 b ((done ++ [44]) ++ (Y ++ [58])) w' ∧ Below B0 w8 w' ∧ KeepX [37, 5] w8 w' := by
            have h := writeStr_walk hP8.I (Y ++ [58]) (by simp only [List.length_append, List.length_cons, List.length_nil]; omega) hP8.size
            rw [← ba_app] at h
            exact h
          go_wp2_with fail
          refine hws.mono ?_
          clear hws
          rintro e w9 ⟨rfl, hI9, hb9, hk9⟩
          have hP9 := hP8.next hI9 hb9
          have hB9 := hB8.trans hb9
          have hK9 := hK8.trans hk9
          have hBk9 := hBk8.keep hk9 (by decide)
          have hBn9 := hBn8.keep hk9 (by decide)
          have hJ9 := hJ8.below (hb9.mono hBB)
          have hl9 : ((done ++ [44]) ++ (Y ++ [58])).length = (done ++ [44]).length + (Y.length + 1) := by simp only [List.length_append, List.length_cons, List.length_nil]
          clear b0 b1 b2 b3 b4 ckx
          have b0 := hBk9.cell 0
          have b1 := hBk9.cell 1
          have b2 := hBk9.cell 2
          have b3 := hBk9.cell 3
          have b4 := hBk9.cell 4
          have n0 := hBn9.cell 0
          have n1 := hBn9.cell 1
          have n2 := hBn9.cell 2
          have n3 := hBn9.cell 3
          have n4 := hBn9.cell 4
          simp at b0 b1 b2 b3 b4 n0 n1 n2 n3 n4
          go_wp2_with fail
          refine (Hih.out _ _ hP9 hJ9 (by omega) (by omega)).mono ?_
          rintro e w7 ⟨rfl, bs7, hI7, hl7, hx7, hb7, hk7⟩
          by_cases hfe : (f kid).1 = 0
          · have hstep : Hid (itemsM f true keys i (kids.drop i) = ((itemsM f true keys (i + 1) (kids.drop (i + 1))).1, (if i = 0 then [] else [44]) ++ (jquM (keys.getD i []) ++ [58]) ++ (f kid).2 ++ (itemsM f true keys (i + 1) (kids.drop (i + 1))).2)) := by
              show _ = _
              rw [Hst.out, if_neg (by rintro ⟨_, h⟩; exact hnotin.out h), if_neg (by rw [hfe]; simp)]; rfl
            have hbs7 := hx7 hfe
            have hHn : Hid (P.1 = (itemsM f true keys (i + 1) (kids.drop (i + 1))).1 ∧ ((itemsM f true keys (i + 1) (kids.drop (i + 1))).1 = 0 → bs ++ ([123] ++ P.2) = bs7 ++ (itemsM f true keys (i + 1) (kids.drop (i + 1))).2)) := by
              have h2 := H.out
              rw [hstep.out] at h2
              refine ⟨h2.1, fun h => ?_⟩
              rw [h2.2 h, hbs7, Hgj.out]
              simp [List.append_assoc, hi0]
            rw [hfe]
            have hP7 := (hP9).next hI7 hb7
            have hbe := (hB9).trans hb7
            have hke := (hK9).trans hk7
            have hBk7 := (hBk9).keep hk7 (by decide)
            clear H Hst HX hstep hx7 hbs7 hfe
            go_wp2_with fail
            go_roundw
            case rel => exact ⟨i + 1, bs7, by go_num, by omega, hP7, hbe, hke, hBk7, by omega, hHn.out⟩
            case measure => simp [intOf]; omega
          · have hXe : Hid (X = ((f kid).1, [])) := by
              show _ = _
              have h2 := H.out
              rw [Hst.out, if_neg (by rintro ⟨_, h⟩; exact hnotin.out h), if_pos hfe] at h2
              rw [HX.out, if_pos (by rw [h2.1]; exact hfe), h2.1]
            have hfe2 : ((((f kid).1 : Nat) : Int) != 0) = true := by simp; exact hfe
            generalize f kid = fk at *
            have Hfe := Lib.hid hfe
            clear H HX Hst hfe
            go_wp2_with fail
            go_ret
            rw [hXe.out]
            exact ⟨rfl, bs7, hI7, by omega, fun h => absurd h Hfe.out, (hB9).trans hb7, (hK9).trans hk7⟩
    · obtain rfl : i = kids.length := by omega
      have hH : Hid (P.1 = 0 ∧ bs ++ ([123] ++ P.2) = done) := by
        have h2 := H.out
        rw [List.drop_length, itemsM] at h2
        exact ⟨h2.1, by have := h2.2 rfl; rw [List.append_nil] at this; exact this⟩
      have hXe : Hid (X = (0, [123] ++ P.2 ++ [125])) := by show _ = _; rw [HX.out, if_neg (by rw [hH.out.1]; simp)]
      have hws : Calls Tryd.prog 19 #[.pointer (some ⟨b, 0, none⟩), .int .u8 125] wr _ := writeByte_walk hPr.I 125 (by omega) hbs
      clear H HX
      go_wp2_with fail
      refine hws.mono ?_
      clear hws
      rintro e w5 ⟨rfl, hI5, hb5, hk5⟩
      go_wp2_with fail
      go_ret
      rw [hXe.out]
      exact ⟨rfl, _, hI5, by rw [List.length_append]; simp only [List.length_cons, List.length_nil]; omega, fun _ => by rw [← hH.out.2]; simp, hb.trans hb5, hk.trans hk5⟩
end
end Go.Proofs.YtgpjcjnimheglaaDoor
