/-
  JOINED of the texts PN SM PO NZ
-/
import Derived.Test.YtgpjcjnimheglaaDoorJao
import Derived.Test.YtgpjcjnimheglaaDoorShelfP
import Derived.Lib.ItoaNum
import Derived.Lib.RuneBytes
import Derived.Lib.Strings
import Derived.Lib.BufferRead
import Derived.Deep.DeepCutAuto
import Derived.Deep.RegionHeld3
import Derived.Lib.IndexMore
import Derived.Test.YtgpjcjnimheglaaDoorRows
import Derived.WalkKit
import Derived.WalkSpells
import Derived.WalkLawsBesides
import Derived.Below
import Derived.Laws.OwnMore
import Derived.Deep.AppendLies
import Derived.Deep.Draws
import Derived.Lib.Hide
import Derived.Deep.QuietTactic
import Derived.BigQuiet
import Derived.IntWalk
import Derived.Lib.ConvBytes
import Derived.Laws.Strings3
import Derived.Laws.Closers25
import Derived.Laws.Closers25b
import Derived.BigCall
import Derived.BigGuard
import Derived.Test.YtgpjcjnimheglaaDoorShelfX
import Derived.Shelf.Spec.BytesIndexFunc
import Derived.Test.YtgpjcjnimheglaaDoorShelfW
import Derived.Shelf.Strings.SlTrimAscii
import Derived.Lib.LaidTab
import Derived.Lib.AtoiAll
import Derived.Lib.IndexLaws
import Derived.Lib.SlTrimSet
import Derived.Lib.Atoi
import Derived.WalkMore
import Derived.ScopeJumps
import Derived.Test.YtgpjcjnimheglaaDoorShelf
import Derived.Shelf.Strings.Builder1
import Derived.ProofKit
import Derived.OpenShut
import Derived.JoinedCond
import Derived.Deep.Slices
import Derived.Deep.Fields
import Derived.ChangeSame
import Derived.SliceStrings
import Derived.Test.YtgpjcjnimheglaaDoorJal
import Derived.StillTailTactics
import Derived.Recover
import Derived.RegionTactic
import Derived.ChangeAlike
import Derived.Deep.CutBlock
import Derived.Deep.LoopGhost
import Derived.Test.YtgpjcjnimheglaaDoorJaj
/-
  WALKS of package wire: print of any value; Print.
-/
namespace Go.Proofs.YtgpjcjnimheglaaDoor
open Go.RowKit

theorem printM_eq (r : Nat) (j : JT) : printM r j = if jright j = false then (3, []) else if j.kind = 0 then (0, [110, 117, 108, 108]) else if j.kind = 1 then (0, if j.num = 1 then [116, 114, 117, 101] else [102, 97, 108, 115, 101]) else if j.kind = 2 then (0, Lib.itoa j.num) else if j.kind = 3 then (0, jquM j.text) else (match r with
    | 0 => (12, [])
    | r + 1 => if (itemsM (printM r) (decide (j.kind = 5)) j.keys 0 j.kids).1 ≠ 0 then ((itemsM (printM r) (decide (j.kind = 5)) j.keys 0 j.kids).1, []) else (0, (if decide (j.kind = 5) then [123] else [91]) ++ (itemsM (printM r) (decide (j.kind = 5)) j.keys 0 j.kids).2 ++ (if decide (j.kind = 5) then [125] else [93]))) := by
  cases r <;> rfl
theorem keyW_ge (ks : List Bs) : 8 * ks.length ≤ JT.keyW ks := by
  unfold JT.keyW
  induction ks with
  | nil => simp
  | cons k ks ih => simp only [List.map_cons, List.sum_cons, List.length_cons]; omega
theorem wts_ge (l : List JT) : 42 * l.length ≤ JT.wts l := by
  induction l with
  | nil => simp [JT.wts]
  | cons k ks ih => have := JT.wt_eq k; simp only [JT.wts, List.length_cons]; omega
theorem right_kind {j : JT} (h : jright j = true) : j.kind = 0 ∨ (j.kind = 1 ∧ (j.num = 0 ∨ j.num = 1)) ∨ (j.kind = 2 ∧ -999999999999999999 ≤ j.num ∧ j.num ≤ 999999999999999999) ∨ j.kind = 3 ∨ j.kind = 4 ∨ j.kind = 5 := by
  unfold jright at h
  split at h
  · rename_i e; exact .inl e
  split at h
  · rename_i e
    simp only [Bool.and_eq_true, decide_eq_true_eq] at h
    exact .inr (.inl ⟨e, h.1.1.1⟩)
  split at h
  · rename_i e
    simp only [Bool.and_eq_true, decide_eq_true_eq] at h
    exact .inr (.inr (.inl ⟨e, h.1.1.1⟩))
  split at h
  · rename_i e; exact .inr (.inr (.inr (.inl e)))
  split at h
  · rename_i e; exact .inr (.inr (.inr (.inr (.inl e))))
  split at h
  · rename_i e; exact .inr (.inr (.inr (.inr (.inr e))))
  · cases h
theorem itoa_len40 {n : Int} (h1 : -999999999999999999 ≤ n) (h2 : n ≤ 999999999999999999) : (Lib.itoa n).length ≤ 40 := by
  have key : ∀ m : Nat, m ≤ 999999999999999999 → (Lib.decDigits m).length ≤ 18 := fun m hm => (digits_small m 18 (by omega)).2 (by rw [show (10 : Nat) ^ 18 = 1000000000000000000 from rfl]; omega)
  unfold Lib.itoa
  split
  · have := key n.natAbs (by omega); simp only [List.length_cons]; omega
  · have := key n.toNat (by omega); omega
theorem PrP.mono {B0 b : Nat} {w : World} {bs : Bs} {W W' : Nat} {X : Nat × Bs} {e : Ending} {w' : World} (h : PrP B0 b w bs W X e w') (hW : W ≤ W') : PrP B0 b w bs W' X e w' := by
  obtain ⟨h1, bs', h2, h3, h4⟩ := h
  exact ⟨h1, bs', h2, by omega, h4⟩

/-- what is known of values at a level -/
def PrAt (B0 b B dp : Nat) (f : JT → Nat × Bs) : Prop := ∀ (j : JT) (d : Nat) (Ak Ad : Option Addr) (ck cd : Nat) (bs : Bs) (w : World), PrI B0 b w bs → JIn w B d j Ak ck Ad → bs.length + j.wt ≤ 100000000 → j.wt ≤ 60000000 →
  Calls Tryd.prog 7 #[jPV j.kind j.num j.text j.keys.length j.kids.length Ak Ad ck cd, .int .i64 (dp : Nat), .pointer (some ⟨b, 0, none⟩)] w (PrP B0 b w bs j.wt (f j))

/-- lists and maps are what is left -/
theorem print_step (B0 b B dp r : Nat)
    (hmany : ∀ (k : Int) (num : Int) (t : Bs) (keys : List Bs) (kids : List JT) (d : Nat) (Ak Ad : Option Addr) (ck cd : Nat) (bs : Bs) (w : World), (k = 4 ∨ k = 5) → jright (JT.mk k num t keys kids) = true → PrI B0 b w bs → JIn w B d (JT.mk k num t keys kids) Ak ck Ad → bs.length + (JT.mk k num t keys kids).wt ≤ 100000000 → (JT.mk k num t keys kids).wt ≤ 60000000 →
      Calls Tryd.prog 7 #[jPV k num t keys.length kids.length Ak Ad ck cd, .int .i64 (dp : Nat), .pointer (some ⟨b, 0, none⟩)] w (PrP B0 b w bs (JT.mk k num t keys kids).wt (printM r (JT.mk k num t keys kids)))) : PrAt B0 b B dp (printM r) := by
  intro j d Ak Ad ck cd bs w hP hj h1 h2
  have hwt := JT.wt_eq j
  have hkg := keyW_ge j.keys
  have hdg := wts_ge j.kids
  have hn := hj.2.2.2.1
  cases hr : jright j with
  | false =>
    have e : printM r j = (3, []) := by rw [printM_eq, if_pos hr]
    rw [e]
    exact (print_bad j.kind j.num j.text j.keys j.kids Ak Ad ck cd dp B0 b bs w hP hn (by omega) (by omega) hr).mono fun e w' h => PrP.mono h (by omega)
  | true =>
    have hnf : ¬ jright j = false := by rw [hr]; simp
    obtain ⟨k, num, t, keys, kids⟩ := j
    simp only [JT.kind, JT.num, JT.text, JT.keys, JT.kids] at *
    rcases right_kind hr with hk | ⟨hk, hk2⟩ | ⟨hk, hk2, hk3⟩ | hk | hk
    · have hk : k = 0 := hk
      subst hk
      have e : printM r (JT.mk 0 num t keys kids) = (0, [110, 117, 108, 108]) := by rw [printM_eq, if_neg hnf]; rfl
      rw [e]
      exact (print_null num t keys kids Ak Ad ck cd dp B0 b bs w hP hn (by omega) (by omega) (by omega) hr).mono fun e w' h => PrP.mono h (by omega)
    · have hk : k = 1 := hk
      have hk2 : num = 0 ∨ num = 1 := hk2
      subst hk
      rcases hk2 with hk2 | hk2
      · subst hk2
        have e : printM r (JT.mk 1 0 t keys kids) = (0, [102, 97, 108, 115, 101]) := by rw [printM_eq, if_neg hnf]; rfl
        rw [e]
        exact (print_no t keys kids Ak Ad ck cd dp B0 b bs w hP hn (by omega) (by omega) (by omega) hr).mono fun e w' h => PrP.mono h (by omega)
      · subst hk2
        have e : printM r (JT.mk 1 1 t keys kids) = (0, [116, 114, 117, 101]) := by rw [printM_eq, if_neg hnf]; rfl
        rw [e]
        exact (print_yes t keys kids Ak Ad ck cd dp B0 b bs w hP hn (by omega) (by omega) (by omega) hr).mono fun e w' h => PrP.mono h (by omega)
    · have hk : k = 2 := hk
      subst hk
      have e : printM r (JT.mk 2 num t keys kids) = (0, Lib.itoa num) := by rw [printM_eq, if_neg hnf]; rfl
      rw [e]
      exact (print_num num t keys kids Ak Ad ck cd dp B0 b bs w hP hn (by omega) (by omega) (by omega) (itoa_len40 hk2 hk3) hr).mono fun e w' h => PrP.mono h (by omega)
    · have hk : k = 3 := hk
      subst hk
      have e : printM r (JT.mk 3 num t keys kids) = (0, jquM t) := by rw [printM_eq, if_neg hnf]; rfl
      rw [e]
      exact (print_text num t keys kids Ak Ad ck cd dp B0 b bs w hP hn (by omega) (by omega) (by omega) (by omega) hr).mono fun e w' h => PrP.mono h (by omega)
    · exact hmany k num t keys kids d Ak Ad ck cd bs w hk hr hP hj h1 h2

theorem print_any (B0 b B : Nat) (hBB : B ≤ B0) : ∀ (r dp : Nat), dp + r = 40 → PrAt B0 b B dp (printM r) := by
  intro r
  induction r with
  | zero =>
    intro dp hdp
    refine print_step B0 b B dp 0 fun k num t keys kids d Ak Ad ck cd bs w hk hr hP hj h1 h2 => ?_
    have hwt := JT.wt_eq (JT.mk k num t keys kids)
    simp only [JT.text, JT.keys, JT.kids] at hwt
    have hkg := keyW_ge keys
    have hdg := wts_ge kids
    have e : printM 0 (JT.mk k num t keys kids) = (12, []) := by
      rw [printM_eq, if_neg (by rw [hr]; simp)]
      rcases hk with rfl | rfl <;> rfl
    rw [e]
    exact (print_full k num t keys kids Ak Ad ck cd dp B0 b bs w hP hj.2.2.2.1 (by omega) (by omega) hr hk (by omega)).mono fun e w' h => PrP.mono h (by omega)
  | succ r ih =>
    intro dp hdp
    refine print_step B0 b B dp (r + 1) fun k num t keys kids d Ak Ad ck cd bs w hk hr hP hj h1 h2 => ?_
    have hwt := JT.wt_eq (JT.mk k num t keys kids)
    simp only [JT.text, JT.keys, JT.kids] at hwt
    have hkg := keyW_ge keys
    have hdg := wts_ge kids
    have ihh : PrIH B0 b B dp (printM r) := fun j d Ak Ad ck cd bs w h1 h2 h3 h4 => by
      have := ih (dp + 1) (by omega) j d Ak Ad ck cd bs w h1 h2 h3 h4
      rwa [show ((dp + 1 : Nat) : Int) = (dp : Int) + 1 by omega] at this
    rcases hk with rfl | rfl
    · have e : printM (r + 1) (JT.mk 4 num t keys kids) = (if (itemsM (printM r) false keys 0 kids).1 ≠ 0 then ((itemsM (printM r) false keys 0 kids).1, []) else (0, [91] ++ (itemsM (printM r) false keys 0 kids).2 ++ [93])) := by
        rw [printM_eq, if_neg (by rw [hr]; simp)]; rfl
      rw [e]
      exact print_many4 num t keys kids Ak Ad ck cd dp B0 b bs w (printM r) B d hP hj hBB ihh (by omega) h1 h2 (by omega) (by omega) hr
    · have e : printM (r + 1) (JT.mk 5 num t keys kids) = (if (itemsM (printM r) true keys 0 kids).1 ≠ 0 then ((itemsM (printM r) true keys 0 kids).1, []) else (0, [123] ++ (itemsM (printM r) true keys 0 kids).2 ++ [125])) := by
        rw [printM_eq, if_neg (by rw [hr]; simp)]; rfl
      rw [e]
      exact print_many5 num t keys kids Ak Ad ck cd dp B0 b bs w (printM r) B d hP hj hBB ihh (by omega) h1 h2 (by omega) (by omega) hr

/-- what Print answers -/
def wpV (X : Nat × Bs) : Value := if X.1 = 0 then .tuple #[.string ⟨X.2.toArray⟩, .nilIface] else .tuple #[.string ⟨#[]⟩, .iface 38 (.int .i64 X.1)]
set_option maxHeartbeats 2000000 in
set_option maxRecDepth 100000 in
theorem wprint_walk (j : JT) (B d : Nat) (Ak Ad : Option Addr) (ck cd : Nat) (w : World) (hT : Tab10 w) (hD : DB w) (hj : JIn w B d j Ak ck Ad) (hB : B ≤ w.heap.size) (h2 : j.wt ≤ 60000000) :
    Calls Tryd.prog 4 #[jPV j.kind j.num j.text j.keys.length j.kids.length Ak Ad ck cd] w fun e w' => e = .returned (wpV (printM 40 j)) ∧ Below w.heap.size w w' := by
  have hb1 : Below w.heap.size w (w.alloc (.cells #[.int .i64 j.kind, .int .i64 j.num, .string ⟨j.text.toArray⟩, .slice Ak j.keys.length ck, .slice Ad j.kids.length cd] 25)) := (Below.refl _ _).alloc (Nat.le_refl _) _
  have hb2 := hb1.alloc (by simp) (.cells #[.pointer none, .slice none 0 0] 37)
  have hI : IsB (w.heap.size + 1) (w.heap.size + 1) [] ((w.alloc (.cells #[.int .i64 j.kind, .int .i64 j.num, .string ⟨j.text.toArray⟩, .slice Ak j.keys.length ck, .slice Ad j.kids.length cd] 25)).alloc (.cells #[.pointer none, .slice none 0 0] 37)) := by
    have := IsB.fresh (w.alloc (.cells #[.int .i64 j.kind, .int .i64 j.num, .string ⟨j.text.toArray⟩, .slice Ak j.keys.length ck, .slice Ad j.kids.length cd] 25))
    simpa using this
  have hP : PrI (w.heap.size + 1) (w.heap.size + 1) ((w.alloc (.cells #[.int .i64 j.kind, .int .i64 j.num, .string ⟨j.text.toArray⟩, .slice Ak j.keys.length ck, .slice Ad j.kids.length cd] 25)).alloc (.cells #[.pointer none, .slice none 0 0] 37)) [] :=
    ⟨hI, hT.below hb2 hT.lt, hD.below hb2, by have := hT.lt; omega, by have := hD.lt; omega⟩
  have hpr := print_any (w.heap.size + 1) (w.heap.size + 1) B (by omega) 40 0 rfl j d Ak Ad ck cd [] _ hP (hj.below (hb2.mono hB)) (by simp only [List.length_nil]; omega) h2
  generalize hX : printM 40 j = X at *
  have HX := Lib.hid hX
  clear hX hP hI hj
  obtain ⟨fe, ft⟩ := X
  have hpr : Calls Tryd.prog 7 #[jPV j.kind j.num j.text j.keys.length j.kids.length Ak Ad ck cd, .int .i64 0, .pointer (some ⟨w.heap.size + 1, 0, none⟩)] _ _ := hpr
  have Hpr := Lib.hid hpr
  clear hpr
  go_enter Tryd.func4, Tryd.ntmps4
  go_wp2_with fail
  refine Hpr.out.mono ?_
  clear Hpr
  rintro e w3 ⟨rfl, bs3, hI3, _, hx3, hb3, _⟩
  have hb03 : Below w.heap.size w w3 := hb2.trans (hb3.mono (by omega))
  by_cases hfe : fe = 0
  · subst hfe
    have hx := hx3 rfl
    rw [List.nil_append] at hx
    have hbs := (bString_walk hI3 (Nat.le_trans hI3.base (Nat.le_of_lt hI3.lt)))
    rw [hx] at hbs
    clear hx hx3 hI3
    go_wp2_with fail
    refine hbs.mono ?_
    rintro e w4 ⟨rfl, hb4⟩
    go_wp2_with fail
    go_ret2
    exact ⟨rfl, hb03.trans (hb4.mono (by omega))⟩
  · have hfe2 : ((fe : Int) != 0) = true := by simp; exact hfe
    have HV : Hid (wpV (fe, ft) = .tuple #[.string ⟨#[]⟩, .iface 38 (.int .i64 fe)]) := by show _ = _; unfold wpV; rw [if_neg hfe]
    clear hx3 hI3 hfe
    go_wp2_with fail
    go_ret2
    exact ⟨by rw [HV.out]; rfl, hb03⟩
end Go.Proofs.YtgpjcjnimheglaaDoor
/-
  WALKS: amanuensislaw7.same, at two values in memory that are one value.
-/
namespace Go.Proofs.YtgpjcjnimheglaaDoor
open Go.RowKit

set_option maxHeartbeats 1000000 in
set_option maxRecDepth 100000 in
theorem texts_walk8 (A A' : Option Addr) (c c' : Nat) (l m : List Bs) (w : World) (h1 : Rd w w.heap.size 1 A l.length (txtV l)) (h2 : Rd w w.heap.size 1 A' m.length (txtV m)) (hl : l.length ≤ 8388608) (hm : m.length ≤ 8388608) :
    Calls Tryd.prog 13 #[.slice A l.length c, .slice A' m.length c'] w fun e w' => e = .returned (.bool (decide (l = m))) ∧ Below w.heap.size w w' := by
  by_cases hlen : l.length = m.length
  · have Hlen := Lib.hid hlen
    have H2 := Lib.hid h2
    clear hlen h2
    have Hm2 : Hid (m.length = l.length) := Hlen.out.symm
    generalize hml : m.length = ml at *
    obtain rfl : ml = l.length := Hm2.out
    have Hml := Lib.hid hml
    clear hml Hm2 Hlen
    generalize hR : decide (l = m) = R
    have HR := Lib.hid hR
    clear hR
    go_enter Tryd.func13, Tryd.ntmps13
    go_wp2
    go_loopw [5] (fun i wr => ∃ k : Nat, k ≤ l.length ∧ i = .int .i64 k ∧ Below w.heap.size w wr ∧ Hid (l.take k = m.take k)) (fun i _ => l.length - (intOf i).toNat)
    case atStart => exact ⟨0, Nat.zero_le _, rfl, Below.refl _ _, rfl⟩
    case round =>
      obtain ⟨k, hk, rfl, hb, Hsm⟩ := hrel
      have hbs := hb.size
      by_cases hlt : k < l.length
      · have hlt2 : k < m.length := by have := Hml.out; omega
        obtain ⟨b, o, rfl, hbB, c0⟩ := Rd.txt (h1.below hb) hlt
        obtain ⟨b', o', rfl, hbB', c0'⟩ := Rd.txt (Rd.below (show Rd w w.heap.size 1 A' m.length (txtV m) by rw [Hml.out]; exact H2.out) hb) hlt2
        have i1 : (0 : Int) ≤ (k : Int) := by omega
        have i2 : (k : Int) < (l.length : Int) := by omega
        have Hst : Hid (l[k] = m[k] → l.take (k + 1) = m.take (k + 1)) := fun h => by
          rw [List.take_succ_eq_append_getElem hlt, List.take_succ_eq_append_getElem hlt2, Hsm.out, h]
        have Hne : Hid (l[k] ≠ m[k] → R = false) := fun h => by rw [← HR.out]; exact take_neT hlt hlt2 h
        unfold strV at c0 c0'
        generalize l[k] = x at *
        generalize m[k] = y at *
        clear hlt2
        by_cases hxy : x = y
        · subst hxy
          go_wp2
          go_quiet (fail)
          go_wp2
          go_roundw
          case rel => exact ⟨k + 1, by omega, by go_num, below_drewN hb _, Hst.out (by simp)⟩
          case measure => simp [intOf]; omega
        · have d1 : (x == y) = false := by simp [hxy]
          go_wp2
          go_quiet (fail)
          go_wp2
          go_ret
          exact ⟨by rw [Hne.out hxy]; rfl, below_drewN hb _⟩
      · obtain rfl : k = l.length := by omega
        go_wp2
        go_ret
        refine ⟨?_, hb⟩
        have : l = m := by
          have := Hsm.out
          rwa [List.take_length, ← Hml.out, List.take_length] at this
        rw [← HR.out, decide_eq_true this]; rfl
  · have hR : decide (l = m) = false := decide_eq_false fun e => hlen (by rw [e])
    rw [hR]
    have d1 : ¬ (l.length : Int) = (m.length : Int) := by omega
    go_enter Tryd.func13, Tryd.ntmps13
    go_wp2
    go_ret
    exact ⟨rfl, Below.refl _ _⟩


theorem wts_mem {l : List JT} {j : JT} (h : j ∈ l) : j.wt + 2 ≤ JT.wts l := by
  induction l with
  | nil => cases h
  | cons a l ih =>
    simp only [JT.wts]
    rcases List.mem_cons.1 h with rfl | h
    · omega
    · have := ih h; omega
theorem wts_len (l : List JT) : 2 * l.length ≤ JT.wts l := by
  induction l with
  | nil => simp [JT.wts]
  | cons a l ih => simp only [JT.wts, List.length_cons]; omega
theorem keyW_len (l : List Bs) : 8 * l.length ≤ JT.keyW l := by
  unfold JT.keyW
  induction l with
  | nil => simp
  | cons a l ih => simp only [List.map_cons, List.sum_cons, List.length_cons]; omega

/-- what a reading makes, as what is only read -/
theorem JsF.toAt {w : World} {F : Nat → Prop} : ∀ {d : Nat} {l : List JT} {A : Option Addr}, JsF w F d l A → JsAt w w.heap.size d l A
  | 0, _, _, h => h
  | d + 1, l, A, h => fun hn => by
    obtain ⟨b, o, e, _, hl, hh⟩ := h hn
    refine ⟨b, o, e, hl, fun k hk => ?_⟩
    obtain ⟨Ak, ck, Ad, cd, hc, hr, hle, hj, hf⟩ := hh k hk
    exact ⟨Ak, ck, Ad, cd, hc 0 _ rfl, hc 1 _ rfl, hc 2 _ rfl, hc 3 _ rfl, hc 4 _ rfl, hr.rd, hle, JsF.toAt hj, hf⟩
theorem JInF.toIn {w : World} {F : Nat → Prop} {d : Nat} {j : JT} {Ak Ad : Option Addr} {ck : Nat} (h : JInF w F d j Ak ck Ad) : JIn w w.heap.size d j Ak ck Ad :=
  ⟨h.1.rd, h.2.1, h.2.2.1.toAt, h.2.2.2⟩
theorem JsAt.more {w : World} {B B' : Nat} (hB : B ≤ B') : ∀ {d : Nat} {l : List JT} {A : Option Addr}, JsAt w B d l A → JsAt w B' d l A
  | 0, _, _, h => h
  | d + 1, l, A, h => fun hn => by
    obtain ⟨b, o, e, hl, hh⟩ := h hn
    refine ⟨b, o, e, by omega, fun k hk => ?_⟩
    obtain ⟨Ak, ck, Ad, cd, c0, c1, c2, c3, c4, hr, hle, hj, hf⟩ := hh k hk
    exact ⟨Ak, ck, Ad, cd, c0, c1, c2, c3, c4, hr.more hB, hle, JsAt.more hB hj, hf⟩
theorem JIn.more {w : World} {B B' d : Nat} {j : JT} {Ak Ad : Option Addr} {ck : Nat} (h : JIn w B d j Ak ck Ad) (hB : B ≤ B') : JIn w B' d j Ak ck Ad := ⟨h.1.more hB, h.2.1, h.2.2.1.more hB, h.2.2.2⟩
theorem JIn.on {w w' : World} {d : Nat} {j : JT} {Ak Ad : Option Addr} {ck : Nat} (h : JIn w w.heap.size d j Ak ck Ad) (hb : Below w.heap.size w w') : JIn w' w'.heap.size d j Ak ck Ad := (h.below hb).more hb.size

/-- what is known of values within -/
def SameIH (d d' : Nat) : Prop := ∀ (j : JT) (Ak Ad Ak2 Ad2 : Option Addr) (ck cd ck2 cd2 : Nat) (w : World), j.wt ≤ 60000000 → JIn w w.heap.size d j Ak ck Ad → JIn w w.heap.size d' j Ak2 ck2 Ad2 →
    Calls Tryd.prog 6 #[.agg #[.int .i64 j.kind, .int .i64 j.num, strV j.text, .slice Ak j.keys.length ck, .slice Ad j.kids.length cd], .agg #[.int .i64 j.kind, .int .i64 j.num, strV j.text, .slice Ak2 j.keys.length ck2, .slice Ad2 j.kids.length cd2]] w fun e w' => e = .returned (.bool true) ∧ Below w.heap.size w w'

set_option maxHeartbeats 8000000 in
set_option maxRecDepth 100000 in
theorem same_step (d d' : Nat) (j : JT) (ih : 0 < j.kids.length → SameIH d d')
    (Ak Ad Ak2 Ad2 : Option Addr) (ck cd ck2 cd2 : Nat) (w : World) (hw : j.wt ≤ 60000000) (hj : JIn w w.heap.size (d + 1) j Ak ck Ad) (hr : JIn w w.heap.size (d' + 1) j Ak2 ck2 Ad2) :
    Calls Tryd.prog 6 #[.agg #[.int .i64 j.kind, .int .i64 j.num, strV j.text, .slice Ak j.keys.length ck, .slice Ad j.kids.length cd], .agg #[.int .i64 j.kind, .int .i64 j.num, strV j.text, .slice Ak2 j.keys.length ck2, .slice Ad2 j.kids.length cd2]] w fun e w' => e = .returned (.bool true) ∧ Below w.heap.size w w' := by
  have hwk := JT.wt_eq j
  have hkl := keyW_len j.keys
  have hdl := wts_len j.kids
  have hk8 : j.keys.length ≤ 8388608 := by omega
  have hd8 : j.kids.length ≤ 30000000 := by omega
  obtain ⟨hk2, _, hd2, _⟩ := hr
  obtain ⟨hk1, _, hd1, _⟩ := hj
  have hbl : Below w.heap.size w ((w.alloc (.cells #[.int .i64 j.kind, .int .i64 j.num, .string ⟨j.text.toArray⟩, .slice Ak j.keys.length ck, .slice Ad j.kids.length cd] 25)).alloc (.cells #[.int .i64 j.kind, .int .i64 j.num, .string ⟨j.text.toArray⟩, .slice Ak2 j.keys.length ck2, .slice Ad2 j.kids.length cd2] 25)) := ((Below.refl _ _).alloc (Nat.le_refl _) _).alloc (by simp) _
  obtain ⟨bx, hbx⟩ : ∃ b, b = w.heap.size := ⟨_, rfl⟩
  obtain ⟨by_, hby⟩ : ∃ b, b = w.heap.size + 1 := ⟨_, rfl⟩
  have hBx : Blk ((w.alloc (.cells #[.int .i64 j.kind, .int .i64 j.num, .string ⟨j.text.toArray⟩, .slice Ak j.keys.length ck, .slice Ad j.kids.length cd] 25)).alloc (.cells #[.int .i64 j.kind, .int .i64 j.num, .string ⟨j.text.toArray⟩, .slice Ak2 j.keys.length ck2, .slice Ad2 j.kids.length cd2] 25)) bx 25 #[.int .i64 j.kind, .int .i64 j.num, .string ⟨j.text.toArray⟩, .slice Ak j.keys.length ck, .slice Ad j.kids.length cd] := by rw [hbx]; exact (Blk.new _ _ _).alloc _
  have hBy : Blk ((w.alloc (.cells #[.int .i64 j.kind, .int .i64 j.num, .string ⟨j.text.toArray⟩, .slice Ak j.keys.length ck, .slice Ad j.kids.length cd] 25)).alloc (.cells #[.int .i64 j.kind, .int .i64 j.num, .string ⟨j.text.toArray⟩, .slice Ak2 j.keys.length ck2, .slice Ad2 j.kids.length cd2] 25)) by_ 25 #[.int .i64 j.kind, .int .i64 j.num, .string ⟨j.text.toArray⟩, .slice Ak2 j.keys.length ck2, .slice Ad2 j.kids.length cd2] := by
    rw [hby]
    have h := Blk.new (w.alloc (.cells #[.int .i64 j.kind, .int .i64 j.num, .string ⟨j.text.toArray⟩, .slice Ak j.keys.length ck, .slice Ad j.kids.length cd] 25)) 25 #[.int .i64 j.kind, .int .i64 j.num, .string ⟨j.text.toArray⟩, .slice Ak2 j.keys.length ck2, .slice Ad2 j.kids.length cd2]
    simpa using h
  have Hkids := Lib.hid (And.intro hd1 hd2)
  have Hw := Lib.hid (⟨hw, hwk⟩ : j.wt ≤ 60000000 ∧ j.wt = _)
  have Hk1 := Lib.hid hk1
  have Hk2 := Lib.hid hk2
  clear hd1 hd2 hw hwk hkl hdl hk1 hk2
  unfold strV
  go_enter Tryd.func6, Tryd.ntmps6
  go_upto_region 1 with fail
  rw [← hby, ← hbx]
  clear hbx hby
  generalize ((w.alloc (.cells #[.int .i64 j.kind, .int .i64 j.num, .string ⟨j.text.toArray⟩, .slice Ak j.keys.length ck, .slice Ad j.kids.length cd] 25)).alloc (.cells #[.int .i64 j.kind, .int .i64 j.num, .string ⟨j.text.toArray⟩, .slice Ak2 j.keys.length ck2, .slice Ad2 j.kids.length cd2] 25)) = w1 at *
  have c3 := hBx.cell 3
  have e3 := hBy.cell 3
  simp at c3 e3
  have hx1 : Rd w1 w1.heap.size 1 Ak j.keys.length (txtV j.keys) := (Hk1.out.below hbl).more hbl.size
  have hx2 : Rd w1 w1.heap.size 1 Ak2 j.keys.length (txtV j.keys) := (Hk2.out.below hbl).more hbl.size
  have htx := texts_walk8 Ak Ak2 ck ck2 j.keys j.keys w1 hx1 hx2 hk8 hk8
  rw [decide_eq_true rfl] at htx
  clear hx1 hx2
  go_wp2_with fail
  refine htx.mono ?_
  clear htx c3 e3
  rintro e w3 ⟨rfl, hb3⟩
  have hBx3 := hBx.below hb3 hBx.lt
  have hb4 := hBy.below hb3 hBy.lt
  have hbl3 := hbl.trans (hb3.mono hbl.size)
  clear hBx hBy hbl hb3
  have c0 := hBx3.cell 0
  have c1 := hBx3.cell 1
  have c2 := hBx3.cell 2
  have c4 := hBx3.cell 4
  have e0 := hb4.cell 0
  have e1 := hb4.cell 1
  have e2 := hb4.cell 2
  have e4 := hb4.cell 4
  simp at c0 c1 c2 c4 e0 e1 e2 e4
  go_wp2_with fail
  clear c0 c1 c2 c4 e0 e1 e2 e4
  go_loopg [6] (j.kids.length) (fun q v wr => ∃ k : Nat, v = .int .i64 k ∧ j.kids.length - k ≤ q ∧ k ≤ j.kids.length ∧ Blk wr bx 25 #[.int .i64 j.kind, .int .i64 j.num, .string ⟨j.text.toArray⟩, .slice Ak j.keys.length ck, .slice Ad j.kids.length cd] ∧ Blk wr by_ 25 #[.int .i64 j.kind, .int .i64 j.num, .string ⟨j.text.toArray⟩, .slice Ak2 j.keys.length ck2, .slice Ad2 j.kids.length cd2] ∧ Below w.heap.size w wr)
  case atStart => exact ⟨0, rfl, by omega, Nat.zero_le _, hBx3, hb4, hbl3⟩
  case round =>
    clear hBx3 hb4 hbl3
    obtain ⟨k, rfl, hq, hkn, hBx, hb, hbl⟩ := hrel
    have c4 := hBx.cell 4
    have e4 := hb.cell 4
    simp at c4 e4
    have j0 : (0 : Int) ≤ (k : Int) := by omega
    by_cases hk : k < j.kids.length
    · have j1 : (k : Int) < (j.kids.length : Int) := by omega
      obtain ⟨hd1, hd2⟩ := Hkids.out
      obtain ⟨ba, oa, rfl, hba, hda⟩ := hd1 (by omega)
      obtain ⟨bc, oc, rfl, hbc, hdc⟩ := hd2 (by omega)
      obtain ⟨Akk, ckk, Adk, cdk, q0, q1, q2, q3, q4, hr1⟩ := hda k hk
      obtain ⟨Akm, ckm, Adm, cdm, r0, r1, r2, r3, r4, hr2⟩ := hdc k hk
      have hwj : (j.kids[k]).wt ≤ 60000000 := by
        have h1 := wts_mem (List.getElem_mem hk)
        have h2 := Hw.out.1
        have h3 := Hw.out.2
        omega
      have hjk : JIn w w.heap.size d j.kids[k] Akk ckk Adk := hr1
      have hjm : JIn w w.heap.size d' j.kids[k] Akm ckm Adm := hr2
      have hkp : 0 < j.kids.length := by omega
      clear hd1 hd2 hda hdc hr1 hr2
      generalize j.kids[k] = jk at *
      unfold strV at q2 r2
      have p0 := (hbl.cell (p := ⟨ba, oa + k * 5, none⟩) hba).trans q0
      have p1 := (hbl.cell (p := ⟨ba, oa + k * 5 + 1, none⟩) hba).trans q1
      have p2 := (hbl.cell (p := ⟨ba, oa + k * 5 + 2, none⟩) hba).trans q2
      have p3 := (hbl.cell (p := ⟨ba, oa + k * 5 + 3, none⟩) hba).trans q3
      have p4 := (hbl.cell (p := ⟨ba, oa + k * 5 + 4, none⟩) hba).trans q4
      have s0 := (hbl.cell (p := ⟨bc, oc + k * 5, none⟩) hbc).trans r0
      have s1 := (hbl.cell (p := ⟨bc, oc + k * 5 + 1, none⟩) hbc).trans r1
      have s2 := (hbl.cell (p := ⟨bc, oc + k * 5 + 2, none⟩) hbc).trans r2
      have s3 := (hbl.cell (p := ⟨bc, oc + k * 5 + 3, none⟩) hbc).trans r3
      have s4 := (hbl.cell (p := ⟨bc, oc + k * 5 + 4, none⟩) hbc).trans r4
      have hjw := hjk.on hbl
      have hrw := hjm.on hbl
      clear q0 q1 q2 q3 q4 r0 r1 r2 r3 r4 hjk hjm
      go_upto_region 7 with fail
      go_still_tail 10, (by kernel_rfl)
      change wpList _ _ _ _ _ wr.drew
      have hbd : Below wr.heap.size wr wr.drew := (Below.refl _ _).drew
      have hc := ih hkp jk Akk Adk Akm Adm ckk cdk ckm cdm (World.drew wr) hwj (hjw.on hbd) (hrw.on hbd)
      have hBx1 := hBx.drew
      have hb2 := hb.drew
      have hbl1 := hbl.drew
      unfold strV at hc
      clear hBx hb hbl c4 e4 p0 p1 p2 p3 p4 s0 s1 s2 s3 s4 hjw hrw hbd
      generalize World.drew wr = wr at *
      go_wp2_with fail
      refine hc.mono ?_
      clear hc
      rintro e w3 ⟨rfl, hb3⟩
      have hBx3 := hBx1.below hb3 hBx1.lt
      have hb4 := hb2.below hb3 hb2.lt
      have hbl3 := hbl1.trans (hb3.mono hbl1.size)
      clear hBx1 hb2 hbl1 hb3
      go_wp2_with fail
      go_roundg (j.kids.length - (k + 1))
      case rel => exact ⟨k + 1, rfl, Nat.le_refl _, by omega, hBx3, hb4, hbl3⟩
      case measure => omega
    · obtain rfl : k = j.kids.length := by omega
      go_wp2_with fail
      go_ret
      exact ⟨rfl, hbl⟩
theorem JsAt.succ {w : World} {B : Nat} : ∀ {d : Nat} {l : List JT} {A : Option Addr}, JsAt w B d l A → JsAt w B (d + 1) l A
  | 0, l, A, h => fun hn => by
    have h : l = [] := h
    subst h
    exact absurd hn (by simp)
  | d + 1, l, A, h => fun hn => by
    obtain ⟨b, o, e, hb, hh⟩ := h hn
    refine ⟨b, o, e, hb, fun k hkl => ?_⟩
    obtain ⟨Ak, ck, Ad, cd, c0, c1, c2, c3, c4, hr, hle, hj, hf⟩ := hh k hkl
    exact ⟨Ak, ck, Ad, cd, c0, c1, c2, c3, c4, hr, hle, JsAt.succ hj, hf⟩
theorem same_walk : ∀ (d d' : Nat), SameIH d d'
  | 0, d' => fun j Ak Ad Ak2 Ad2 ck cd ck2 cd2 w hw hj hr => same_step 0 d' j (fun h => absurd h (by have : j.kids = [] := hj.2.2.1; rw [this]; simp)) Ak Ad Ak2 Ad2 ck cd ck2 cd2 w hw ⟨hj.1, hj.2.1, hj.2.2.1.succ, hj.2.2.2⟩ ⟨hr.1, hr.2.1, hr.2.2.1.succ, hr.2.2.2⟩
  | d + 1, 0 => fun j Ak Ad Ak2 Ad2 ck cd ck2 cd2 w hw hj hr => same_step d 0 j (fun h => absurd h (by have : j.kids = [] := hr.2.2.1; rw [this]; simp)) Ak Ad Ak2 Ad2 ck cd ck2 cd2 w hw hj ⟨hr.1, hr.2.1, hr.2.2.1.succ, hr.2.2.2⟩
  | d + 1, d' + 1 => fun j Ak Ad Ak2 Ad2 ck cd ck2 cd2 w hw hj hr => same_step d d' j (fun _ => same_walk d d') Ak Ad Ak2 Ad2 ck cd ck2 cd2 w hw hj hr
end Go.Proofs.YtgpjcjnimheglaaDoor
/-
  VALUES OF MESSAGES: how long what is printed of them is.
-/
namespace Go.Proofs.YtgpjcjnimheglaaDoor
open Go.RowKit

theorem itemsM_len (f : JT → Nat × Bs) (hf : ∀ j, (f j).2.length ≤ j.wt) (m : Bool) (keys : List Bs) : ∀ (l : List JT) (i : Nat), (m = true → i + l.length ≤ keys.length) → (itemsM f m keys i l).2.length ≤ JT.wts l + JT.keyW (keys.drop i)
  | [], i, _ => by simp [itemsM]
  | k :: l, i, hm => by
    have ih := itemsM_len f hf m keys l (i + 1) (fun h => by have := hm h; simp only [List.length_cons] at this; omega)
    have h1 := hf k
    have h2 := keyW_le keys i
    rw [itemsM]
    split
    · simp
    · split
      · simp
      · simp only [List.length_append, JT.wts]
        have hc : (if i = 0 then [] else [44] : Bs).length ≤ 1 := by split <;> simp
        cases m with
        | false => simp only [Bool.false_eq_true, if_false, List.length_nil]; omega
        | true =>
          have hi : i < keys.length := by have := hm rfl; simp only [List.length_cons] at this; omega
          have h3 := keyW_at keys hi
          have hg : keys.getD i [] = keys[i] := by rw [List.getD_eq_getElem?_getD, List.getElem?_eq_getElem hi]; rfl
          have h4 := jquM_len keys[i]
          rw [hg]
          simp only [if_true, List.length_append, List.length_cons, List.length_nil]
          omega
theorem printM_len : ∀ (r : Nat) (j : JT), (printM r j).2.length ≤ j.wt := by
  intro r
  induction r with
  | zero =>
    intro j
    have hw := JT.wt_eq j
    rw [printM_eq]
    split
    · simp
    split
    · simp; omega
    split
    · simp only; split <;> (simp; omega)
    split
    · rename_i hn _ _ h2
      have hr : jright j = true := by simpa using hn
      rcases right_kind hr with h | ⟨h, _⟩ | ⟨_, h3, h4⟩ | h | h | h <;> first | (rw [h2] at h; simp at h) | skip
      have := itoa_len40 h3 h4
      simp only; omega
    split
    · have := jquM_len j.text; simp only; omega
    · simp
  | succ r ih =>
    intro j
    have hw := JT.wt_eq j
    rw [printM_eq]
    split
    · simp
    split
    · simp; omega
    split
    · simp only; split <;> (simp; omega)
    split
    · rename_i hn _ _ h2
      have hr : jright j = true := by simpa using hn
      rcases right_kind hr with h | ⟨h, _⟩ | ⟨_, h3, h4⟩ | h | h | h <;> first | (rw [h2] at h; simp at h) | skip
      have := itoa_len40 h3 h4
      simp only; omega
    split
    · have := jquM_len j.text; simp only; omega
    · rename_i hn _ _ _ _
      have hr : jright j = true := by simpa using hn
      have hl := itemsM_len (printM r) ih (decide (j.kind = 5)) j.keys j.kids 0 (fun h => by
        have h5 : j.kind = 5 := by simpa using h
        unfold jright at hr
        rw [h5] at hr
        simp at hr
        omega)
      rw [List.drop_zero] at hl
      by_cases hz : (itemsM (printM r) (decide (j.kind = 5)) j.keys 0 j.kids).1 ≠ 0
      · simp only [if_pos hz]; simp
      · simp only [if_neg hz]
        rw [List.length_append, List.length_append]
        have h1 : (if decide (j.kind = 5) = true then [123] else [91] : Bs).length ≤ 1 := by split <;> simp
        have h2 : (if decide (j.kind = 5) = true then [125] else [93] : Bs).length ≤ 1 := by split <;> simp
        omega
end Go.Proofs.YtgpjcjnimheglaaDoor
/-
  PLAIN LAW: how long the text of a value is that was read (WireBack).
-/
namespace Go.Proofs.YtgpjcjnimheglaaDoor.Jp

theorem jqu_raw (c : UInt8) (h1 : ¬ c.toNat < 32) (h2 : c ≠ 34) (h3 : c ≠ 92) : (jquB c).length = 1 := by
  rcases quo_ways c with ⟨h, _⟩ | ⟨x, h, hs⟩ | ⟨x, y, h, _, h4⟩
  · rw [h]; rfl
  · have hall : ∀ i : Fin 256, ¬ (UInt8.ofNat i.val).toNat < 32 → UInt8.ofNat i.val ≠ 34 → UInt8.ofNat i.val ≠ 92 → (jquB (UInt8.ofNat i.val)).length = 1 := by decide +kernel
    have := hall ⟨c.toNat, c.toNat_lt⟩
    simp only [UInt8.ofNat_toNat] at this
    exact this h1 h2 h3
  · exact absurd h4 h1
theorem jquI_app (a b : List UInt8) : jquI (a ++ b) = jquI a ++ jquI b := by unfold jquI; rw [List.flatMap_append]
theorem hexV_lt {b : UInt8} {x : Nat} (h : Lx.hexV b = some x) : x < 16 := by
  unfold Lx.hexV at h
  split at h
  · injection h with h; omega
  · split at h
    · injection h with h; omega
    · split at h
      · injection h with h; omega
      · exact absurd h (by simp)
theorem fourP_lt {s : List UInt8} {i n : Nat} (h : fourP s i = some n) : n < 65536 := by
  unfold fourP hex4 at h
  split at h
  · split at h
    · rename_i h1 h2 h3 h4
      injection h with h
      have := hexV_lt h1
      have := hexV_lt h2
      have := hexV_lt h3
      have := hexV_lt h4
      omega
    · exact absurd h (by simp)
  · exact absurd h (by simp)
set_option maxRecDepth 100000 in
theorem enc_le3 (c : Nat) (hc : c < 65536) : (Lx.enc c).length ≤ 3 := by
  unfold Lx.enc Utf8.encode
  have hn : (if Utf8.valid (c : Int) = true then (c : Int).toNat else Utf8.runeError) < 0x10000 := by
    split
    · omega
    · decide
  generalize (if Utf8.valid (c : Int) = true then (c : Int).toNat else Utf8.runeError) = n at *
  by_cases h1 : n < 0x80
  · simp only [if_pos h1]; simp
  · by_cases h2 : n < 0x800
    · simp only [if_neg h1, if_pos h2]; simp
    · simp only [if_neg h1, if_neg h2, if_pos hn]; simp
theorem enc_pl (n : Nat) : (jquI (Lx.enc n)).length ≤ 24 := by
  have h4 := enc_le4 n
  have := jquI_len (Lx.enc n)
  omega
theorem esc_pl {s : List UInt8} {i k : Nat} {b : List UInt8} (h : escP s i = .ok b k) : (jquI b).length + 3 * i ≤ 3 * k := by
  unfold escP at h
  split at h
  · exact absurd h (by simp)
  · rename_i c hc
    split at h
    · rename_i x hx
      injection h with h1 h2
      subst h1; subst h2
      have := jquI_len [x]
      simp only [List.length_cons, List.length_nil] at this
      omega
    · split at h
      · unfold uniP at h
        split at h
        · exact absurd h (by simp)
        · split at h
          · exact absurd h (by simp)
          · split at h
            · injection h with h1 h2
              subst h1; subst h2
              rename_i n hn _ _
              have h3 := enc_le3 n (fourP_lt hn)
              have := jquI_len (Lx.enc n)
              omega
            · unfold lowP at h
              split at h
              · split at h
                · split at h
                  · injection h with h1 h2
                    subst h1; subst h2
                    exact Nat.le_trans (Nat.add_le_add_right (enc_pl _) _) (by omega)
                  · exact absurd h (by simp)
                · exact absurd h (by simp)
              · exact absurd h (by simp)
      · exact absurd h (by simp)
theorem txt_pl (s : List UInt8) : ∀ (f i : Nat) (acc t : List UInt8) (k : Nat), txtF s f i acc = .ok t k → (jquI t).length + 3 * i + 3 ≤ 3 * k + (jquI acc).length
  | 0, i, acc, t, k, h => by simp [txtF] at h
  | f + 1, i, acc, t, k, h => by
    unfold txtF at h
    split at h
    · exact absurd h (by simp)
    · rename_i c hc
      split at h
      · exact absurd h (by simp)
      · rename_i h32
        split at h
        · injection h with h1 h2; subst h1; subst h2; omega
        · rename_i h34
          split at h
          · split at h
            · exact absurd h (by simp)
            · rename_i b k' hb
              have h1 := esc_pl hb
              have h2 := txt_pl s f k' (acc ++ b) t k h
              rw [jquI_app, List.length_append] at h2
              omega
          · rename_i h92
            have h2 := txt_pl s f (i + 1) (acc ++ [c]) t k h
            have h3 : (jquI [c]).length = 1 := by rw [show jquI [c] = jquB c by simp [jquI]]; exact jqu_raw c h32 h34 h92
            rw [jquI_app, List.length_append, h3] at h2
            omega
theorem text_pl {s : List UInt8} {i k : Nat} {t : List UInt8} (h : textP s i = .ok t k) : (jquM t).length + 3 * i + 4 ≤ 3 * k := by
  have hg := skip_ge s i
  unfold textP at h
  split at h
  · exact absurd h (by simp)
  · rename_i k1 hk1
    have e2 : k1 = skipP s i + 1 := by
      unfold needP at hk1
      split at hk1
      · injection hk1 with _ h2; exact h2.symm
      · exact absurd hk1 (by simp)
    have := txt_pl s _ _ _ _ _ h
    simp only [jquI, List.flatMap_nil, List.length_nil] at this
    simp only [jquM, List.length_cons, List.length_append, List.length_nil, jquI]
    omega
def keyL (ks : List (List UInt8)) : Nat := (ks.map fun k => (jquM k).length + 1).sum
def kidL (f : JT → Nat × List UInt8) (l : List JT) : Nat := (l.map fun j => (f j).2.length + 1).sum
theorem keyL_snoc (ks : List (List UInt8)) (k : List UInt8) : keyL (ks ++ [k]) = keyL ks + ((jquM k).length + 1) := by simp [keyL]
theorem kidL_snoc (f : JT → Nat × List UInt8) (l : List JT) (j : JT) : kidL f (l ++ [j]) = kidL f l + ((f j).2.length + 1) := by simp [kidL]
theorem items_pl (f : JT → Nat × List UInt8) (m : Bool) (keys : List (List UInt8)) : ∀ (ks : List JT) (n : Nat), n + ks.length ≤ keys.length ∨ m = false → (itemsM f m keys n ks).2.length ≤ kidL f ks + (if m then keyL (keys.drop n) else 0)
  | [], n, _ => by simp [itemsM]
  | j :: ks, n, hn => by
    unfold itemsM
    split
    · simp
    · split
      · simp
      · have ih := items_pl f m keys ks (n + 1) (by rcases hn with h | h; left; simp at h; omega; right; exact h)
        have e1 : (if n = 0 then ([] : List UInt8) else [44]).length ≤ 1 := by split <;> simp
        have e2 : kidL f (j :: ks) = (f j).2.length + 1 + kidL f ks := by simp [kidL]
        cases m with
        | false =>
          simp only [List.length_append, e2, Bool.false_eq_true, if_false, List.length_nil] at ih ⊢
          omega
        | true =>
          rcases hn with hn | hn
          · simp only [List.length_cons] at hn
            have hlt : n < keys.length := by omega
            have e3 : keyL (keys.drop n) = (jquM (keys.getD n [])).length + 1 + keyL (keys.drop (n + 1)) := by
              unfold keyL
              rw [List.drop_eq_getElem_cons hlt, List.map_cons, List.sum_cons, List.getD_eq_getElem?_getD, List.getElem?_eq_getElem hlt]
              rfl
            simp only [List.length_append, e2, if_true, e3, List.length_cons, List.length_nil] at ih ⊢
            omega
          · cases hn
theorem mem_tw {α : Type} (p : α → Bool) (l : List α) : ∀ b ∈ l.takeWhile p, p b = true := by
  induction l with
  | nil => intro b hb; cases hb
  | cons a l ih =>
    intro b hb
    rw [List.takeWhile_cons] at hb
    split at hb
    · rename_i ha
      rcases List.mem_cons.1 hb with rfl | hb
      · exact ha
      · exact ih b hb
    · cases hb
theorem num_pl {s : List UInt8} {i k : Nat} {n : Int} (h : numP s i = .ok n k) : (Lib.itoa n).length + 3 * i ≤ 3 * k := by
  have hf : i ≤ firstP s i := by unfold firstP; split <;> omega
  have hd := dig_ge s (firstP s i)
  unfold numP at h
  split at h
  · exact absurd h (by simp)
  · rename_i h0
    split at h
    · exact absurd h (by simp)
    · injection h with h3 h4
      have hl := dig_len s (firstP s i)
      have hv := valN_lt ((s.drop (firstP s i)).takeWhile digB) (mem_tw _ _)
      have ha : n.natAbs = valN ((s.drop (firstP s i)).takeWhile digB) := by
        rw [← h3]
        unfold numV firstP
        split <;> simp
      rw [hl] at hv
      have h5 : (Lib.itoa n).length ≤ 1 + Lib.nDigits n.natAbs := by
        unfold Lib.itoa
        split
        · rw [List.length_cons, Lib.decDigits_length]; omega
        · rw [Lib.decDigits_length, show n.toNat = n.natAbs by omega]; omega
      have h6 := nd_le (digP s (firstP s i) - firstP s i - 1) n.natAbs (by rw [ha, show digP s (firstP s i) - firstP s i - 1 + 1 = digP s (firstP s i) - firstP s i by omega]; exact hv)
      omega
theorem print_pl (r : Nat) (kind : Int) (keys : List (List UInt8)) (kids : List JT) (hk : kind = 4 ∧ keys = [] ∨ kind = 5 ∧ keys.length = kids.length) : (printM r (.mk kind 0 [] keys kids)).2.length ≤ kidL (printM (r - 1)) kids + keyL keys + 2 := by
  rcases hk with ⟨rfl, rfl⟩ | ⟨rfl, hl⟩
  · cases r with
    | zero => rw [print_eq']; simp [JT.kind]; split <;> simp
    | succ r =>
      rw [print_l]
      split
      · simp
      · have := items_pl (printM r) false [] kids 0 (.inr rfl)
        simp only [Bool.false_eq_true, if_false] at this
        simp only [List.length_append, Nat.add_sub_cancel, List.length_cons, List.length_nil]
        omega
  · cases r with
    | zero => rw [print_eq']; simp [JT.kind]; split <;> simp
    | succ r =>
      rw [print_m _ _ _ hl]
      split
      · simp
      · have := items_pl (printM r) true keys kids 0 (.inl (by omega))
        simp only [if_true, List.drop_zero] at this
        simp only [List.length_append, Nat.add_sub_cancel, List.length_cons, List.length_nil]
        omega
/-- the text of a value that was read is at most three times as long as what it was read of -/
theorem val_pl (s : List UInt8) : ∀ (f d i : Nat) (j : JT) (k r : Nat), valF s f d i = .ok j k → (printM r j).2.length + 3 * i ≤ 3 * k
  | 0, d, i, j, k, r, h => by simp [valF] at h
  | f + 1, d, i, j, k, r, h => by
    have hg := skip_ge s i
    unfold valF at h
    split at h
    · exact absurd h (by simp)
    · rename_i c hc
      unfold valP at h
      split at h
      · exact absurd h (by simp)
      · split at h
        · obtain ⟨rfl, rfl⟩ := word_ok h
          rw [print_eq']; simp [jright, JT.kind, JT.num, JT.text, JT.keys, JT.kids, wN]; omega
        split at h
        · obtain ⟨rfl, rfl⟩ := word_ok h
          rw [print_eq']; simp [jright, JT.kind, JT.num, JT.text, JT.keys, JT.kids, wT]; omega
        split at h
        · obtain ⟨rfl, rfl⟩ := word_ok h
          rw [print_eq']; simp [jright, JT.kind, JT.num, JT.text, JT.keys, JT.kids, wF]; omega
        split at h
        · split at h
          · exact absurd h (by simp)
          · rename_i t e ht
            injection h with h h2; subst h; subst h2
            have := text_pl ht
            rw [print_eq']; simp [jright, JT.kind, JT.num, JT.text, JT.keys, JT.kids]; omega
        split at h
        · split at h
          · exact absurd h (by simp)
          · rename_i n e hn
            injection h with h h2; subst h; subst h2
            have hb := (num_ok hn).1
            have := num_pl hn
            rw [print_eq']; simp [jright, JT.kind, JT.num, JT.text, JT.keys, JT.kids, hb]; omega
        split at h
        · obtain ⟨st, hst, rfl⟩ := listP_ok h
          have hq := items_pos (fun (st : KK) i' => st.1 = [] ∧ kidL (printM (r - 1)) st.2 + 3 * skipP s i + 3 ≤ 3 * i') (fun st k => st.1 = [] ∧ kidL (printM (r - 1)) st.2 + 3 * skipP s i + 2 ≤ 3 * k)
            (fun st i' st' k hp ho => by
              obtain ⟨j, hv, rfl⟩ := oneL_ok ho
              have hw := val_pl s f (d + 1) i' j k (r - 1) hv
              refine ⟨hp.1, ?_⟩
              have := hp.2
              show kidL _ (st.2 ++ [j]) + 3 * skipP s i + 2 ≤ 3 * k
              rw [kidL_snoc]
              omega)
            (fun st k k' h _ => ⟨h.1, by have := h.2; omega⟩) (fun i' _ => ⟨rfl, by simp only [kidL, List.map_nil, List.sum_nil]; omega⟩) hst
          have hq2 : st.1 = [] ∧ kidL (printM (r - 1)) st.2 + 3 * skipP s i + 2 ≤ 3 * k := by
            rcases hq with ⟨e, hk⟩ | ⟨k, h, hk⟩
            · obtain ⟨e1, e2⟩ := kk_eq e
              exact ⟨e1, by rw [e2]; simp only [kidL, List.map_nil, List.sum_nil]; omega⟩
            · exact ⟨h.1, by have := h.2; omega⟩
          obtain ⟨q1, q2⟩ := hq2
          have := print_pl r 4 [] st.2 (.inl ⟨rfl, rfl⟩)
          rw [q1]
          simp only [keyL, List.map_nil, List.sum_nil] at this
          omega
        split at h
        · obtain ⟨st, hst, rfl⟩ := listP_ok h
          have hq := items_pos (fun (st : KK) i' => st.1.length = st.2.length ∧ keyL st.1 + kidL (printM (r - 1)) st.2 + 3 * skipP s i + 3 ≤ 3 * i') (fun st k => st.1.length = st.2.length ∧ keyL st.1 + kidL (printM (r - 1)) st.2 + 3 * skipP s i + 2 ≤ 3 * k)
            (fun st i' st' k hp ho => by
              obtain ⟨key, k1, j, ht, _, hv, rfl⟩ := oneM_ok ho
              have hw := val_pl s f (d + 1) _ j k (r - 1) hv
              have ht := text_pl ht
              have g1 := skip_ge s i'
              have g2 := skip_ge s k1
              refine ⟨by simp [hp.1], ?_⟩
              have := hp.2
              show keyL (st.1 ++ [key]) + kidL _ (st.2 ++ [j]) + 3 * skipP s i + 2 ≤ 3 * k
              rw [kidL_snoc, keyL_snoc]
              omega)
            (fun st k k' h _ => ⟨h.1, by have := h.2; omega⟩) (fun i' _ => ⟨rfl, by simp only [kidL, keyL, List.map_nil, List.sum_nil]; omega⟩) hst
          have hq2 : st.1.length = st.2.length ∧ keyL st.1 + kidL (printM (r - 1)) st.2 + 3 * skipP s i + 2 ≤ 3 * k := by
            rcases hq with ⟨e, hk⟩ | ⟨k, h, hk⟩
            · obtain ⟨e1, e2⟩ := kk_eq e
              exact ⟨by rw [e1, e2]; rfl, by rw [e1, e2]; simp only [kidL, keyL, List.map_nil, List.sum_nil]; omega⟩
            · exact ⟨h.1, by have := h.2; omega⟩
          have := print_pl r 5 st.1 st.2 (.inr ⟨rfl, hq2.1⟩)
          have := hq2.2
          omega
        · exact absurd h (by simp)
theorem parse_pl {s : List UInt8} {j : JT} {k : Nat} (h : parseP s = .ok j k) (r : Nat) : (printM r j).2.length ≤ 3 * s.length := by
  unfold parseP at h
  split at h
  · exact absurd h (by simp)
  · rename_i j' k' hv
    split at h
    · exact absurd h (by simp)
    · injection h with h1 h2
      subst h1
      have hw := val_pl s 41 0 0 j' k' r hv
      have ha := val_ahead s 41 0 0 (Nat.zero_le _)
      rw [hv] at ha
      have hk := ha.2
      omega
end Go.Proofs.YtgpjcjnimheglaaDoor.Jp
