/-
  JOINED of the texts TQ TP TS
-/
import Derived.Test.YtalklmeejdmifaaGreatDoorJaj
import Derived.Maps.OwnOps
import Derived.Carry
import Derived.Deep.CutBlock
import Derived.Deep.AppendLies
import Derived.Deep.QuietTactic
import Derived.BigQuiet
import Derived.Lib.RuneBytes
import Derived.Lib.Strings
import Derived.Deep.DeepCutAuto
import Derived.Lib.ConvBytes
import Derived.Laws.Strings3
import Derived.Laws.Closers25
import Derived.Laws.Closers25b
import Derived.BigCall
import Derived.BigGuard
import Derived.Test.YtalklmeejdmifaaGreatDoorShelfX
import Derived.Shelf.Spec.BytesIndexFunc
import Derived.Deep.RegionHeld3
import Derived.Lib.IndexMore
import Derived.Test.YtalklmeejdmifaaGreatDoorRows
import Derived.WalkKit
import Derived.WalkSpells
import Derived.WalkLawsBesides
import Derived.Below
import Derived.Laws.OwnMore
import Derived.Deep.Draws
import Derived.Lib.Hide
import Derived.IntWalk
import Derived.Test.YtalklmeejdmifaaGreatDoorShelfW
import Derived.Shelf.Strings.SlTrimAscii
import Derived.Lib.LaidTab
import Derived.Lib.AtoiAll
import Derived.Lib.IndexLaws
import Derived.Lib.SlTrimSet
import Derived.Lib.ItoaNum
import Derived.Lib.Atoi
import Derived.WalkMore
import Derived.ScopeJumps
/-
  WALKS of package tree: part, on a reading of expressions.
-/
namespace Go.Proofs.YtalklmeejdmifaaGreatDoor
open Go.RowKit Go.Maps

theorem wpList_insert_own {H : Type} {P : Program} (w : World) {ops : Array Oper} {rest : List Oper} {o : Oper} {a : Act} {Q : Exit → Act → World → Prop}
    (hg : o.guard = none) (m x v : Operand) (t : TypeId) (hop : o.op = Op.insert t m x v)
    (k e : TypeId) (K : Keyed P k) (ht : P.underlying t = some (.map k e)) (R : Value → Option (DataW H × List MemPlace)) (b n : Nat) (D : DataW H)
    (hm : a.eval m = .map (some b)) (hown : w.ownsMap P k R b n D) (hn : n < maxLen) (key val : Value) (kl : Lit) (hx : a.eval x = key) (hv : a.eval v = val) (hkey : keyOf P k key = some kl)
    (d : DataW H) (ps : List MemPlace) (hval : R val = some (d, ps))
    (hK : ∀ w', w'.ownsMap P k R b (n + 1) (D.put kl d) → w.grownBy w' (some b) → wpList P ops Q rest (a.put o.dst undef) w') :
    wpList P ops Q (o :: rest) a w := by
  refine wpList_plain hg fun K' hK' => ?_
  obtain ⟨w', hrun, r1, r2⟩ := hown.update K ht hn hkey hval
  unfold Oper.wp
  simp [execOp, hop, hm, hx, hv, hrun, Result.andThen]
  exact hK' _ _ (hK w' r1 r2)
theorem intKeys : Keyed Tryz.prog 3 := int_keyed Tryz.underlying3
theorem zeroInt (w : World) : (zeroValue 3).run Tryz.prog w = .ok (.int .i64 0) w := by kernel_rfl
/-- what the map of kinds tells -/
def mapK (k : Nat) : Nat := if k = 5 then 15 else if k = 6 then 16 else if k = 3 then 18 else 0
theorem nine {k : Nat} (h : k ≤ 8) : k = 0 ∨ k = 1 ∨ k = 2 ∨ k = 3 ∨ k = 4 ∨ k = 5 ∨ k = 6 ∨ k = 7 ∨ k = 8 := by omega
theorem wfk (k : Nat) (h : k ≤ 8) : (Lit.int .i64 (k : Int)).wf = true := by
  rcases nine h with rfl | rfl | rfl | rfl | rfl | rfl | rfl | rfl | rfl <;> decide
theorem kinds_at (k : Nat) (h : k ≤ 8) : ((((DataW.map (H := Unit) []).put (.int .i64 5) (.lit (.int .i64 15))).put (.int .i64 6) (.lit (.int .i64 16))).put (.int .i64 3) (.lit (.int .i64 18))).atKey (.int .i64 (k : Int)) (.lit (.int .i64 0)) = .lit (.int .i64 (mapK k : Int)) := by
  rcases nine h with rfl | rfl | rfl | rfl | rfl | rfl | rfl | rfl | rfl <;> rfl
/-- the first of a branch of one part -/
theorem Br.first {w : World} {K : Nat → Prop} {h kind at_ : Nat} {p : Tr.PT} (hb : Br w K h kind at_ [p]) : ∃ q cap v, w.cell? ⟨h, 1, none⟩ = some (.slice (some ⟨q, 0, none⟩) 1 cap) ∧ w.cell? ⟨q, 0, none⟩ = some v ∧ PtF w (fun x => ¬ K x) p v := by
  obtain ⟨A, c, vs, hb⟩ := hb
  have c1 := hb.blk.cell 1
  obtain ⟨v, vs', rfl, hp, hl⟩ := hb.parts
  rcases hb.own.2 with ⟨e, e2⟩ | ⟨q, cap, cur, e, _, hq, hle, _, hz, hx⟩
  · simp at e2
  · injection e with e1 e2 e3
    subst e1 e3
    exact ⟨q, c, v, by simpa using c1, own_cell hb.own 0 v rfl, PtF.keep (Nat.le_refl _) (fun b hF _ => ⟨rfl, hF.1⟩) _ _ hp⟩
set_option maxHeartbeats 8000000 in
set_option maxRecDepth 100000 in
theorem part1_walk {w : World} {K : Nat → Prop} {g gt hl kl pl : Nat} {s : Bs} {T : List Tk} {b n i : Nat} {e : Nat → Tr.St} (X : Txts s T) (E : ExC g gt s T b n e) (S : StR w K g gt hl kl pl s T b n i 0 ([], i) w) (qr ql : Nat)
    (HB : Hid (∀ w', Aft K g w w' → w'.cell? ⟨qr, 0, none⟩ = some (.pointer (some ⟨g, 0, none⟩)) ∧ w'.cell? ⟨ql, 0, none⟩ = some (.pointer (some ⟨hl, 0, none⟩)))) :
    Calls Tryz.prog 263 #[.pointer (some ⟨qr, 0, none⟩), .pointer (some ⟨ql, 0, none⟩)] w (StE w K g gt hl kl pl s T b n (Tr.thn (Tr.thn (Tr.takeP s T b i) e) (Tr.wantP s T b [41]))) := by
  obtain ⟨k0, k1⟩ := HB.out _ S.A
  have htk := take_st X S (by omega)
  rw [thn_nil] at htk
  clear S
  go_enter Tryz.func263, Tryz.ntmps263
  go_wp2_with fail
  refine htk.mono ?_
  clear htk k0 k1
  rintro e1 w2 ⟨rfl, S⟩
  obtain ⟨k0, k1⟩ := HB.out _ S.A
  have hex := expr_st X E S (by omega)
  clear S
  go_wp2_with fail
  refine hex.mono ?_
  clear hex k0 k1
  rintro e1 w3 ⟨rfl, S⟩
  obtain ⟨k0, k1⟩ := HB.out _ S.A
  have hwt := want_st X S [41] (by omega)
  clear S
  go_wp2_with fail
  refine hwt.mono ?_
  clear hwt k0 k1
  rintro e1 w4 ⟨rfl, S⟩
  go_wp2_with fail
  go_end0
  exact ⟨rfl, S.A, S.R, S.B⟩

theorem kind_le {s : Bs} {T : List Tk} (X : Txts s T) (k : Nat) : Tr.kindP T k ≤ 8 := by
  by_cases h : k < T.length
  · rw [Tr.kind_at T k h]; exact (X.good.at_ h).2.2
  · rw [Tr.kind_end T k (by omega)]; omega

set_option maxHeartbeats 8000000 in
set_option maxRecDepth 100000 in
theorem part_walk {w : World} {K : Nat → Prop} {g gt : Nat} {s : Bs} {T : List Tk} {b n i : Nat} {e : Nat → Tr.St} (X : Txts s T) (E : ExC g gt s T b (n + 1) e) (R : Rdr w K g gt s T b n i) (hn : n ≤ 1000) :
    Calls Tryz.prog 253 #[.pointer (some ⟨g, 0, none⟩)] w (PtE w K g gt s T b n (Tr.partP s T b e i)) := by
  have hT := X.hT
  have hgl := R.rs.rd.lt
  have hnl := Tr.next_le T i R.hi
  have hkl := kind_le X (Tr.nextP T i)
  generalize hr : Tr.partP s T b e i = r
  have HP1 : Hid (0 < Tr.leafK (Tr.kindP T (Tr.nextP T i)) (Tr.textP s T (Tr.nextP T i)) → r = (.branch (Tr.leafK (Tr.kindP T (Tr.nextP T i)) (Tr.textP s T (Tr.nextP T i))) (Tr.placeP s T b i) (Tr.takeP s T b i).1, (Tr.takeP s T b i).2)) := fun h => by rw [← hr]; unfold Tr.partP; rw [if_pos h]; rfl
  have HP2 : Hid (¬ 0 < Tr.leafK (Tr.kindP T (Tr.nextP T i)) (Tr.textP s T (Tr.nextP T i)) → Tr.isP s T [[40]] i = true → r = (.branch 14 (Tr.placeP s T b i) (Tr.thn (Tr.thn (Tr.takeP s T b i) e) (Tr.wantP s T b [41])).1, (Tr.thn (Tr.thn (Tr.takeP s T b i) e) (Tr.wantP s T b [41])).2)) := fun h h2 => by rw [← hr]; unfold Tr.partP; rw [if_neg h, if_pos h2]; rfl
  have HP3 : Hid (¬ 0 < Tr.leafK (Tr.kindP T (Tr.nextP T i)) (Tr.textP s T (Tr.nextP T i)) → Tr.isP s T [[40]] i = false → Tr.isP s T [[91]] i = true → r = Tr.listP s T b e 13 [93] i) := fun h h2 h3 => by rw [← hr]; unfold Tr.partP; rw [if_neg h, if_neg (by rw [h2]; simp), if_pos h3]
  have HP4 : Hid (¬ 0 < Tr.leafK (Tr.kindP T (Tr.nextP T i)) (Tr.textP s T (Tr.nextP T i)) → Tr.isP s T [[40]] i = false → Tr.isP s T [[91]] i = false → r = (.gap Tr.sExpr (Tr.placeP s T b i) false, i)) := fun h h2 h3 => by rw [← hr]; unfold Tr.partP; rw [if_neg h, if_neg (by rw [h2]; simp), if_neg (by rw [h3]; simp)]
  clear hr
  have hd1 : Below w.heap.size w (w.alloc (.cells #[.pointer (some ⟨g, 0, none⟩)] 181)) := (Below.refl _ _).alloc (Nat.le_refl _) _
  have hq : Blk (w.alloc (.cells #[.pointer (some ⟨g, 0, none⟩)] 181)) w.heap.size 181 #[.pointer (some ⟨g, 0, none⟩)] := Blk.new _ _ _
  have R1 := (R.below hd1).old
  obtain ⟨q, hqe⟩ : ∃ x, x = w.heap.size := ⟨_, rfl⟩
  rw [← hqe] at hq
  have hqg : q ≠ g := by omega
  go_enter Tryz.func253, Tryz.ntmps253
  go_upto_region 1 with fail
  rw [← hqe]
  clear hqe
  generalize (w.alloc (.cells #[.pointer (some ⟨g, 0, none⟩)] 181)) = w1 at *
  refine wp_region_G 8 (fun w' : World => w'.cell? ⟨q, 0, none⟩ = some (.pointer (some ⟨g, 0, none⟩))) (by kernel_rfl) ?_
  have hq2 := hq.drew
  have R2 : Rdr w1.drew (Old w1) g gt s T b n i := R1.drew
  have h1 := next_walkT R2.rs R2.hi (by omega)
  have h2 := text_walkT (Tr.nextP T i) R2.rs X.good (by have := X.hs; omega) (by omega)
  generalize Tr.kindP T (Tr.nextP T i) = kd at *
  generalize Tr.textP s T (Tr.nextP T i) = tx at *
  generalize Tr.nextP T i = nx at *
  have hd2 : Below w1.heap.size w1 w1.drew := (Below.refl _ _).drew
  generalize w1.drew = w2 at *
  have k0 := hq2.cell 0
  simp at k0
  have hS0 : (fun w' : World => w'.cell? ⟨q, 0, none⟩ = some (.pointer (some ⟨g, 0, none⟩))) w2 := k0
  refine wpAnyG_take (i := 0) (v := ?_) rfl (by kernel_rfl) (by kernel_rfl) (by kernel_rfl) (by kernel_rfl) (fun _ _ _ h => h) (Or.inl ⟨by rfl, ?_⟩) hS0 ?_; rotate_left; · (intro w hSw; (try dsimp only at hSw); have s0 := hSw; go_simp; try with_reducible rfl)
  simp only [Act.put, List.setIfInBounds_toArray]
  refine wpAnyG_take (i := 1) (v := ?_) rfl (by kernel_rfl) (by kernel_rfl) (by kernel_rfl) (by kernel_rfl) (fun _ _ _ h => h) (Or.inl ⟨by rfl, ?_⟩) hS0 ?_; rotate_left; · (intro w hSw; (try dsimp only at hSw); have s0 := hSw; go_simp; try with_reducible rfl)
  simp only [Act.put]
  clear hS0
  refine wpAnyG_one (i := 2) (by kernel_rfl) rfl (fun C hC => ?_)
  go_simp
  ((with_reducible refine h1.mono ?_))
  clear h1
  rintro e1 w3 ⟨rfl, rfl⟩
  refine hC.out _ _ (fun _ => k0) ?_
  clear hC C
  refine wpAnyG_one (i := 3) (by kernel_rfl) rfl (fun C hC => ?_)
  go_simp
  ((with_reducible refine h2.mono ?_))
  clear h2
  rintro e1 w4 ⟨rfl, hd3⟩
  have hq4 := hq2.below hd3 hq2.lt
  have R4 := R2.below hd3
  have hd14 : Below w1.heap.size w1 w4 := hd2.trans (hd3.mono hd2.size)
  have k0 := hq4.cell 0
  simp at k0
  refine hC.out _ _ (fun _ => k0) ?_
  clear hC C hq hq2 R1 R2 hd2 hd3
  refine wpAnyG_one (i := 4) (by kernel_rfl) rfl (fun C hC => ?_)
  go_simp
  refine hC.out _ _ (fun _ => k0) ?_
  clear hC C
  have hS0 : (fun w' : World => w'.cell? ⟨q, 0, none⟩ = some (.pointer (some ⟨g, 0, none⟩))) w4 := k0
  refine wpAnyG_take (i := 5) (v := ?_) rfl (by kernel_rfl) (by kernel_rfl) (by kernel_rfl) (by kernel_rfl) (fun _ _ _ h => h) (Or.inl ⟨by rfl, ?_⟩) hS0 ?_; rotate_left; · (intro w hSw; (try dsimp only at hSw); have s0 := hSw; go_simp; try with_reducible rfl)
  simp only [Act.put]
  refine wpAnyG_take (i := 6) (v := ?_) rfl (by kernel_rfl) (by kernel_rfl) (by kernel_rfl) (by kernel_rfl) (fun _ _ _ h => h) (Or.inl ⟨by rfl, ?_⟩) hS0 ?_; rotate_left; · (intro w hSw; (try dsimp only at hSw); have s0 := hSw; go_simp; try with_reducible rfl)
  simp only [Act.put]
  clear hS0
  refine wpAnyG_one (i := 7) (by kernel_rfl) rfl (fun C hC => ?_)
  go_simp
  refine hC.out _ _ (fun _ => k0) ?_
  clear hC C
  refine wpAnyG_one (i := 8) (by kernel_rfl) rfl (fun C hC => ?_)
  go_simp
  refine hC.out _ _ (fun h => absurd rfl h) ?_
  clear hC C
  refine wpAnyG_done (by kernel_rfl) ?_ _
  go_upto_region 2 with fail
  go_cut [5] (fun v wc => v = .int .i64 (mapK kd : Int) ∧ Below w4.heap.size w4 wc)
  case first =>
    have h00 := World.ownsMap_made (H := Unit) w4 Tryz.prog 3 (plainElem Tryz.prog 3)
    have hmm := @run_makeMap Tryz.prog
    go_wp2_with (first | (refine wpList_insert_own (H := Unit) _ rfl _ _ _ 366 rfl 3 3 intKeys Tryz.underlying366 _ w4.heap.size 0 _ rfl h00 (by unfold maxLen; omega) _ _ _ rfl rfl (keyOf_int_mk Tryz.underlying3 (by decide)) _ [] (plainElem_int Tryz.underlying3 (by decide)) ?_; intro wa hwa gwa) | (refine wpList_insert_own (H := Unit) _ rfl _ _ _ 366 rfl 3 3 intKeys Tryz.underlying366 _ w4.heap.size 1 _ rfl hwa (by unfold maxLen; omega) _ _ _ rfl rfl (keyOf_int_mk Tryz.underlying3 (by decide)) _ [] (plainElem_int Tryz.underlying3 (by decide)) ?_; intro wb hwb gwb) | (refine wpList_insert_own (H := Unit) _ rfl _ _ _ 366 rfl 3 3 intKeys Tryz.underlying366 _ w4.heap.size 2 _ rfl hwb (by unfold maxLen; omega) _ _ _ rfl rfl (keyOf_int_mk Tryz.underlying3 (by decide)) _ [] (plainElem_int Tryz.underlying3 (by decide)) ?_; intro wd hwd gwd) | (refine wpList_lookup_own_int (H := Unit) _ rfl _ _ 366 rfl 3 3 .i64 intKeys Tryz.underlying366 Tryz.underlying3 (zeroInt _) w4.heap.size 3 _ rfl hwd _ _ rfl (keyOf_int_mk Tryz.underlying3 (wfk kd hkl)) ?_; intro c hat hwc))
    go_meet
    have hc2 : DataW.lit (H := Unit) (.int .i64 c) = .lit (.int .i64 (mapK kd : Int)) := hat.symm.trans (kinds_at kd hkl)
    injection hc2 with hc2
    injection hc2 with _ hc2
    refine ⟨by rw [hc2], ?_⟩
    have z0 : Below w4.heap.size w4 (w4.alloc (.map #[] 0)) := (Below.refl _ _).alloc (Nat.le_refl _) _
    have z1 := z0.grown gwa z0.size (fun j hj => by cases hj; exact Nat.le_refl _)
    have z2 := z1.grown gwb z1.size (fun j hj => by cases hj; exact Nat.le_refl _)
    exact z2.grown gwd z2.size (fun j hj => by cases hj; exact Nat.le_refl _)
  case rest =>
    obtain ⟨rfl, hd⟩ := hcut
    clear hkl
    go_upto_block 0 with fail
    go_cut [5] (fun v wd => v = .int .i64 (Tr.leafK kd tx : Int) ∧ wd = wc)
    case first =>
      have HL : Hid (Tr.leafK kd tx = (if kd = 4 ∧ (tx = Tr.sTrue ∨ tx = Tr.sFalse) then 17 else if kd = 7 ∧ tx = [63] then 19 else if kd = 5 then 15 else if kd = 6 then 16 else if kd = 3 then 18 else 0)) := rfl
      have HM : Hid (mapK kd = (if kd = 5 then 15 else if kd = 6 then 16 else if kd = 3 then 18 else 0)) := rfl
      generalize Tr.leafK kd tx = L at *
      generalize mapK kd = M at *
      clear hd hd1 R R4 X E HP1 HP2 HP3 HP4
      by_cases h4 : kd = 4
      · subst h4
        by_cases ht : tx = Tr.sTrue
        · have HV : Hid (L = 17) := by show _ = _; rw [HL.out, if_pos ⟨rfl, .inl ht⟩]
          subst ht
          clear HL HM
          unfold Tr.sTrue
          go_wp2_with fail
          go_meet
          exact ⟨by rw [HV.out]; rfl, rfl⟩
        · by_cases hf : tx = Tr.sFalse
          · have HV : Hid (L = 17) := by show _ = _; rw [HL.out, if_pos ⟨rfl, .inr hf⟩]
            subst hf
            clear HL HM ht
            unfold Tr.sFalse
            go_wp2_with fail
            go_meet
            exact ⟨by rw [HV.out]; rfl, rfl⟩
          · have HV : Hid (L = M) := by show _ = _; rw [HL.out, HM.out, if_neg (fun h => h.2.elim ht hf), if_neg (fun h => by omega)]
            have d3 : ¬ tx = [116, 114, 117, 101] := ht
            have d4 : ¬ tx = [102, 97, 108, 115, 101] := hf
            have d1 : (tx == [116, 114, 117, 101]) = false := beq_eq_false_iff_ne.2 d3
            have d2 : (tx == [102, 97, 108, 115, 101]) = false := beq_eq_false_iff_ne.2 d4
            clear HL HM ht hf
            go_wp2_with fail
            go_meet
            exact ⟨by rw [HV.out], rfl⟩
      · have e4 : ((kd : Int) == 4) = false := by simp; omega
        by_cases h7 : kd = 7
        · subst h7
          clear h4 e4
          by_cases ht : tx = [63]
          · have HV : Hid (L = 19) := by show _ = _; rw [HL.out, if_neg (fun h => by omega), if_pos ⟨rfl, ht⟩]
            subst ht
            clear HL HM
            go_wp2_with fail
            go_meet
            exact ⟨by rw [HV.out]; rfl, rfl⟩
          · have HV : Hid (L = M) := by show _ = _; rw [HL.out, HM.out, if_neg (fun h => by omega), if_neg (fun h => ht h.2)]
            have d1 : (tx == [63]) = false := by simpa using ht
            clear HL HM
            go_wp2_with fail
            go_meet
            exact ⟨by rw [HV.out], rfl⟩
        · have e7 : ((kd : Int) == 7) = false := by simp; omega
          have HV : Hid (L = M) := by show _ = _; rw [HL.out, HM.out, if_neg (fun h => h4 h.1), if_neg (fun h => h7 h.1)]
          clear HL HM h4 h7
          go_wp2_with fail
          go_meet
          exact ⟨by rw [HV.out], rfl⟩
    case rest =>
      obtain ⟨rfl, rfl⟩ := hcut
      have hdw : Below w.heap.size w wc := hd1.trans ((hd14.trans (hd.mono hd14.size)).mono hd1.size)
      have hqc := hq4.below hd hq4.lt
      clear hd hd14 hd1 R4 hq4
      have hdn : Below wc.heap.size wc (wc.alloc (.cells #[.int .i64 0, .slice none 0 0, .int .i64 0] 109)) := (Below.refl _ _).alloc (Nat.le_refl _) _
      have hqd := hqc.below hdn hqc.lt
      have hdb := hdw.trans (hdn.mono hdw.size)
      have hBb : ∀ K, In K wc → Br (wc.alloc (.cells #[.int .i64 0, .slice none 0 0, .int .i64 0] 109)) K wc.heap.size 0 0 [] := fun K hK => Br.new hK 0 0
      have hIn : In K wc := R.inK.after hdw.size
      obtain ⟨bb, hbb⟩ : ∃ x, x = wc.heap.size := ⟨_, rfl⟩
      rw [← hbb] at hBb
      have hBk := hBb K hIn
      go_upto_region 9 with fail
      rw [← hbb]
      clear hbb hdn hqc hBb hdw
      generalize wc.alloc (.cells #[.int .i64 0, .slice none 0 0, .int .i64 0] 109) = wd at *
      have R5 := R.below hdb
      have k0 := hqd.cell 0
      simp at k0
      by_cases hL : 0 < Tr.leafK kd tx
      · have HP := Lib.hid (HP1.out hL)
        clear HP1 HP2 HP3 HP4 hBk E
        generalize Tr.leafK kd tx = L at *
        have i1 : (0 : Int) < (L : Int) := by omega
        have hbr := branch_st X R5 L
        obtain ⟨hl, hhl⟩ : ∃ x, x = wd.heap.size := ⟨_, rfl⟩
        rw [← hhl] at hbr
        have HN : Hid (hl = wd.heap.size) := hhl
        clear hhl
        go_wp2_with fail
        refine hbr.mono ?_
        clear hbr
        rintro e1 we ⟨rfl, -, hdz, S⟩
        rw [HN.out] at hdz
        have hqe := hqd.below hdz hqd.lt
        have k0 := hqe.cell 0
        simp at k0
        have htk := take_st X S (by omega)
        rw [thn_nil] at htk
        clear S
        go_wp2_with fail
        refine htk.mono ?_
        clear htk
        rintro e1 wf ⟨rfl, S⟩
        rw [HN.out] at S
        have hp := S.B.part
        have hA := (Kept.aft (Kept.below hdb R.inK) g).trans (S.A.old R5.inK)
        have hp2 := hp.from_old R5.inK
        have hR := R.from_old S.R hA
        clear S hp k0
        go_wp2_with fail
        go_ret
        rw [HP.out]
        exact ⟨_, rfl, hA, hR, by rw [HN.out]; exact hp2⟩
      · have HP2' := Lib.hid (HP2.out hL)
        have HP3' := Lib.hid (HP3.out hL)
        have HP4' := Lib.hid (HP4.out hL)
        clear HP1 HP2 HP3 HP4
        generalize Tr.leafK kd tx = L at *
        have i1 : ¬ (0 : Int) < (L : Int) := by omega
        have his : Calls Tryz.prog 119 #[.pointer (some ⟨g, 0, none⟩), .slice (some ⟨wd.heap.size, 0, none⟩) 1 1] (wd.alloc (.cells #[.string ⟨#[40]⟩] 9)) fun e w' => e = .returned (.bool (Tr.isP s T [[40]] i)) ∧ Below wd.heap.size wd w' := is_lit X R5 [[40]] (by simp) 1
        generalize Tr.isP s T [[40]] i = vb at *
        go_wp2_with fail
        refine his.mono ?_
        clear his k0
        rintro e1 we ⟨rfl, hdz⟩
        have R6 := R5.below hdz
        have hB6 := hBk.below hdz
        have hqe := hqd.below hdz hqd.lt
        have hdb6 := hdb.trans (hdz.mono hdb.size)
        clear R5 hBk hqd hdb hdz
        have k0 := hqe.cell 0
        simp at k0
        cases vb with
        | true =>
          have HP := Lib.hid (HP2'.out rfl)
          clear HP2' HP3' HP4' hB6
          have hbr := branch_st X R6 14
          obtain ⟨hl, hhl⟩ : ∃ x, x = we.heap.size := ⟨_, rfl⟩
          rw [← hhl] at hbr
          have HN : Hid (hl = we.heap.size) := hhl
          clear hhl
          go_wp2_with fail
          refine hbr.mono ?_
          clear hbr
          rintro e1 w2 ⟨rfl, hz2, hd2, S⟩
          rw [HN.out] at hd2 hz2
          have Hz2 := Lib.hid hz2
          clear hz2 k0
          have hq1 := hqe.below hd2 hqe.lt
          have hd3 : Below w2.heap.size w2 (w2.alloc (.cells #[.pointer (some ⟨hl, 0, none⟩)] 90)) := (Below.refl _ _).alloc (Nat.le_refl _) _
          have hq3 : Blk (w2.alloc (.cells #[.pointer (some ⟨hl, 0, none⟩)] 90)) w2.heap.size 90 #[.pointer (some ⟨hl, 0, none⟩)] := Blk.new _ _ _
          have hq1 := hq1.below hd3 hq1.lt
          have R3 := S.R.boxed (.cells #[.pointer (some ⟨hl, 0, none⟩)] 90)
          have B3 := S.B.boxed (.cells #[.pointer (some ⟨hl, 0, none⟩)] 90)
          have hd13 : Below we.heap.size we (w2.alloc (.cells #[.pointer (some ⟨hl, 0, none⟩)] 90)) := hd2.trans (hd3.mono hd2.size)
          have hok := S.ok
          have hql1 := hqe.lt
          have hgl2 := R6.rs.rd.lt
          clear S hd2 hd3
          obtain ⟨ql, hql⟩ : ∃ x, x = w2.heap.size := ⟨_, rfl⟩
          rw [← hql] at R3 B3 hq3
          have hqg3 : ql ≠ g := by have := Hz2.out; omega
          go_upto_region 15 with fail
          rw [← hql]
          clear hql
          generalize (w2.alloc (.cells #[.pointer (some ⟨hl, 0, none⟩)] 90)) = w3 at *
          have k0 := hq1.cell 0
          simp at k0
          have HBX : Hid (∀ w0, Aft (Old w3) g w3 w0 → ∀ w', Aft (fun x => Old we x ∨ x = ql) g w0 w' → w'.cell? ⟨q, 0, none⟩ = some (.pointer (some ⟨g, 0, none⟩)) ∧ w'.cell? ⟨ql, 0, none⟩ = some (.pointer (some ⟨hl, 0, none⟩))) := fun w0 ha w' ha' =>
            ⟨cell_box (hq1.aft ha hq1.lt hqg) ha' (.inl hql1) hqg, cell_box (hq3.aft ha hq3.lt hqg3) ha' (.inr rfl) hqg3⟩
          generalize Tr.placeP s T b i = pl at *
          have hdp := deeper_walk (h := hl) (kind := 14) (at_ := pl) R3 hn 263 #[.pointer (some ⟨q, 0, none⟩), .pointer (some ⟨ql, 0, none⟩)] (Tr.thn (Tr.thn (Tr.takeP s T b i) e) (Tr.wantP s T b [41])) (fun _ _ => by kernel_rfl) (fun w0 ha R0 =>
            part1_walk X E ⟨Aft.refl _ _ _, R0, B3.aft ha R0.ng, hok⟩ q ql (HBX.out w0 ha))
          clear hok B3
          go_wp2_with fail
          refine hdp.mono ?_
          clear hdp k0
          intro e1 w4 h4
          obtain ⟨rfl, hA4, R4, B4⟩ := h4
          have hA04 : Aft (Old w) g w w4 := (Kept.aft (Kept.below hdb6 (Old.in_ w)) g).trans ((Kept.aft (Kept.below hd13 (fun x hx => Nat.lt_of_lt_of_le hx hdb6.size)) g).trans (hA4.mono fun x hx => .inl (Nat.lt_of_lt_of_le hx hdb6.size)))
          have hR := R.from_old R4 (hA04.old R.inK)
          have hA := hA04.old R.inK
          have hp4 := PtF.keep (F' := fun x => ¬ K x) (Nat.le_refl _) (fun x hF _ => ⟨rfl, fun hx => hF (.inl (Nat.lt_of_lt_of_le (R.inK x hx) hdb6.size))⟩) _ _ B4.part
          have hq3 := hq3.aft hA4 (.inr rfl) hqg3
          have k1 := hq3.cell 0
          simp at k1
          clear hA04 hA4 R4 B4 hq1 HBX R3 hd13 hq3 E
          go_wp2_with fail
          go_ret
          rw [HP.out]
          exact ⟨_, rfl, hA, hR, hp4⟩
        | false =>
          have hL2 := Lib.hid (HP3'.out rfl)
          have hL3 := Lib.hid (HP4'.out rfl)
          clear HP2' HP3' HP4'
          have his : Calls Tryz.prog 119 #[.pointer (some ⟨g, 0, none⟩), .slice (some ⟨we.heap.size, 0, none⟩) 1 1] (we.alloc (.cells #[.string ⟨#[91]⟩] 9)) fun e w' => e = .returned (.bool (Tr.isP s T [[91]] i)) ∧ Below we.heap.size we w' := is_lit X R6 [[91]] (by simp) 1
          generalize Tr.isP s T [[91]] i = vc at *
          go_wp2_with fail
          refine his.mono ?_
          clear his k0
          rintro e1 wf ⟨rfl, hdz⟩
          have R7 := R6.below hdz
          have hB7 := hB6.below hdz
          have hqf := hqe.below hdz hqe.lt
          have hdb7 := hdb6.trans (hdz.mono hdb6.size)
          clear R6 hB6 hqe hdb6 hdz
          have k0 := hqf.cell 0
          simp at k0
          have hA7 := Kept.aft (Kept.below hdb7 R.inK) g
          cases vc with
          | true =>
            have HP := Lib.hid (hL2.out rfl)
            clear hL2 hL3
            have hls := list_walk X E R7 hB7 (by simp) hn 13 [93]
            go_wp2_with fail
            refine hls.mono ?_
            clear hls k0 hqf R7 hB7
            intro e1 w4 h4
            obtain ⟨rfl, hA4, R4, B4⟩ := h4
            rw [show (Tr.thn ([], i) fun i => Tr.oneP (Tr.listP s T b e 13 [93] i)) = ([(Tr.listP s T b e 13 [93] i).1], (Tr.listP s T b e 13 [93] i).2) from rfl] at R4 B4
            generalize Tr.listP s T b e 13 [93] i = x at *
            obtain ⟨q2, cap2, v2, y1, y2, hp⟩ := B4.first
            have hA8 := hA7.trans hA4
            clear B4 hA4 hA7 E
            go_wp2_with fail
            go_ret
            rw [HP.out]
            exact ⟨_, rfl, hA8, R4, hp⟩
          | false =>
            have HP := Lib.hid (hL3.out rfl)
            clear hL2 hL3
            have hls := missing_walk X R7 hB7 Tr.sExpr (by simp)
            unfold Tr.sExpr at hls
            go_wp2_with fail
            refine hls.mono ?_
            clear hls k0 hqf R7 hB7
            intro e1 w4 h4
            obtain ⟨rfl, hA4, R4, B4⟩ := h4
            rw [show (Tr.thn ([], i) (Tr.missP s T b [101, 120, 112, 114, 101, 115, 115, 105, 111, 110])) = ([(Tr.PT.gap Tr.sExpr (Tr.placeP s T b i) false)], i) from rfl] at R4 B4
            generalize (Tr.PT.gap Tr.sExpr (Tr.placeP s T b i) false) = x at *
            obtain ⟨q2, cap2, v2, y1, y2, hp⟩ := B4.first
            have hA8 := hA7.trans hA4
            clear B4 hA4 hA7 E
            go_wp2_with fail
            go_ret
            rw [HP.out]
            exact ⟨_, rfl, hA8, R4, hp⟩
end Go.Proofs.YtalklmeejdmifaaGreatDoor
/-
  WALKS of package tree: call, on a reading of parts.
-/
namespace Go.Proofs.YtalklmeejdmifaaGreatDoor
open Go.RowKit

set_option maxHeartbeats 8000000 in
set_option maxRecDepth 100000 in
theorem call_walk {w : World} {K : Nat → Prop} {g gt : Nat} {s : Bs} {T : List Tk} {b n i : Nat} {e : Nat → Tr.St} (X : Txts s T) (E : ExC g gt s T b (n + 1) e) (R : Rdr w K g gt s T b n i) (hn : n ≤ 1000)
    (hpart : Calls Tryz.prog 253 #[.pointer (some ⟨g, 0, none⟩)] w (PtE w K g gt s T b n (Tr.partP s T b e i))) :
    Calls Tryz.prog 242 #[.pointer (some ⟨g, 0, none⟩)] w (PtE w K g gt s T b n (Tr.callP s T b e i)) := by
  have hT := X.hT
  have Hg1 := Tr.part_goes s T b E.adv i R.hi
  generalize hr : Tr.callP s T b e i = r
  have Hr : Hid (Tr.callsP s T b e (T.length + 1) (Tr.partP s T b e i) = r) := hr
  clear hr
  go_enter Tryz.func242, Tryz.ntmps242
  go_wp2_with fail
  refine hpart.mono ?_
  clear hpart
  intro e1 w1 h1
  obtain ⟨v, rfl, hA1, R1, hp⟩ := h1
  generalize Tr.partP s T b e i = q1 at *
  go_wp2_with fail
  go_loopg [3, 4] (T.length - q1.2) (fun q v _ wr => ∃ x : Tr.PT × Nat, q1.2 ≤ x.2 ∧ T.length - x.2 ≤ q ∧ Hid (Tr.callsP s T b e (T.length + 1) x = r) ∧ Aft K g w wr ∧ Rdr wr K g gt s T b n x.2 ∧ PtF wr (fun x => ¬ K x) x.1 v)
  case atStart => exact ⟨q1, Nat.le_refl _, Nat.le_refl _, Hr, hA1, R1, hp⟩
  case round =>
    clear hA1 R1 hp Hr
    obtain ⟨x, hx1, hq, Hx, hA, R, hp⟩ := hrel
    have hi := R.hi
    have his : Calls Tryz.prog 119 #[.pointer (some ⟨g, 0, none⟩), .slice (some ⟨wr.heap.size, 0, none⟩) 1 1] (wr.alloc (.cells #[.string ⟨#[40]⟩] 9)) fun e w' => e = .returned (.bool (Tr.isP s T [[40]] x.2)) ∧ Below wr.heap.size wr w' := is_lit X R [[40]] (by simp) 1
    have Hstep : Hid (Tr.isP s T [[40]] x.2 = true → Tr.callsP s T b e (T.length + 1) (Tr.callR s T b e x) = r ∧ x.2 < (Tr.callR s T b e x).2) := fun h => ⟨by rw [← Tr.calls_step s T b E.adv x R.hi h]; exact Hx.out, Tr.list_gt s T b E.adv 12 [41] x.2 R.hi (Tr.is_lt s T h)⟩
    have Hstop : Hid (Tr.isP s T [[40]] x.2 = false → x = r) := fun h => by rw [← Tr.calls_stop s T b e x h]; exact Hx.out
    generalize Tr.isP s T [[40]] x.2 = vb at *
    go_wp2_with fail
    refine his.mono ?_
    clear his
    rintro e1 w2 ⟨rfl, hd⟩
    have hA := hA.trans (Kept.aft (Kept.below hd R.inK) g)
    have hp := PtF.keep (F' := fun x => ¬ K x) hd.size (fun y hF hl => ⟨hd.block y hl, hF⟩) _ _ hp
    have R := R.below hd
    clear hd
    cases vb with
    | true =>
      obtain ⟨hst, hgt⟩ := Hstep.out rfl
      have Hst := Lib.hid hst
      clear Hstep Hstop Hx hst
      have har := around_walk R.inK 11 hp
      have hxr : Hid (Tr.callR s T b e x = (.branch 11 x.1.from_ [x.1, (Tr.listP s T b e 12 [41] x.2).1], (Tr.listP s T b e 12 [41] x.2).2)) := rfl
      generalize x.1.from_ = fr at *
      go_wp2_with fail
      refine har.mono ?_
      clear har
      rintro e1 w3 ⟨h, rfl, hd, hhs, hb⟩
      have hA := hA.trans (Kept.aft (Kept.below hd R.inK) g)
      have R := R.below hd
      clear hd hp
      have hls := list_walk X E R hb (by simp) hn 12 [41]
      go_wp2_with fail
      refine hls.mono ?_
      clear hls hb R
      intro e1 w4 h4
      obtain ⟨rfl, hA4, R4, B4⟩ := h4
      have hA4 := hA.trans hA4
      have hp4 := B4.part
      have hx : Tr.thn ([x.1], x.2) (fun i => Tr.oneP (Tr.listP s T b e 12 [41] i)) = ([x.1, (Tr.listP s T b e 12 [41] x.2).1], (Tr.listP s T b e 12 [41] x.2).2) := rfl
      rw [hx] at R4 hp4
      clear hA hx
      have R5 : Rdr w4 K g gt s T b n (Tr.callR s T b e x).2 := by rw [hxr.out]; exact R4
      have hp5 : PtF w4 (fun x => ¬ K x) (Tr.callR s T b e x).1 (.iface 90 (.pointer (some ⟨h, 0, none⟩))) := by rw [hxr.out]; exact hp4
      clear R4 hp4 hxr B4
      generalize Tr.callR s T b e x = y at *
      go_wp2_with fail
      go_roundg (T.length - y.2)
      case rel => exact ⟨y, by omega, Nat.le_refl _, Hst, hA4, R5, hp5⟩
      case measure => have h2 : y.2 ≤ T.length := R5.hi; omega
    | false =>
      have hst := Hstop.out rfl
      clear Hstep Hstop Hx
      subst hst
      go_wp2_with fail
      go_ret
      exact ⟨_, rfl, hA, R, hp⟩
end Go.Proofs.YtalklmeejdmifaaGreatDoor
/-
  WALKS of package tree: what let, if and fun read; calls, products, sums as methods.
-/
namespace Go.Proofs.YtalklmeejdmifaaGreatDoor
open Go.RowKit

theorem params_st {w0 w : World} {K : Nat → Prop} {g gt h kind at_ : Nat} {s : Bs} {T : List Tk} {b n i c : Nat} {st : Tr.St} (X : Txts s T) (S : StR w0 K g gt h kind at_ s T b n i c st w) (hc : c ≤ 1000) :
    Calls Tryz.prog 157 #[.pointer (some ⟨g, 0, none⟩), .pointer (some ⟨h, 0, none⟩)] w fun e w' => e = .returned (.tuple #[]) ∧ StR w0 K g gt h kind at_ s T b n i (c + 1) (Tr.thn st fun i => Tr.oneP (Tr.paramsP s T b i)) w' :=
  (params_walk X S.R S.B (by have := S.len X hc; omega)).mono fun _ _ he => S.step (Tr.Adv.one (Tr.params_goes s T b)) he

section
variable {g gt : Nat} {s : Bs} {T : List Tk} {b n : Nat} {e : Nat → Tr.St}
theorem one_call (X : Txts s T) (E : ExC g gt s T b (n + 1) e) (hn : n ≤ 1000) : OneC g gt s T b n 242 (Tr.callP s T b e) :=
  ⟨fun _ _ => by kernel_rfl, fun _ _ _ R => call_walk X E R hn (part_walk X E R hn)⟩
theorem one_product (X : Txts s T) (E : ExC g gt s T b (n + 1) e) (hn : n ≤ 1000) : OneC g gt s T b n 233 (Tr.productP s T b e) :=
  ⟨fun _ _ => by kernel_rfl, fun _ _ _ R => product_walk X R (one_call X E hn) (Tr.call_goes s T b E.adv)⟩
theorem one_sum (X : Txts s T) (E : ExC g gt s T b (n + 1) e) (hn : n ≤ 1000) : OneC g gt s T b n 223 (Tr.sumP s T b e) :=
  ⟨fun _ _ => by kernel_rfl, fun _ _ _ R => sum_walk X R (one_product X E hn) (Tr.product_goes s T b E.adv)⟩
theorem comp_walk {w : World} {K : Nat → Prop} {i : Nat} (X : Txts s T) (E : ExC g gt s T b (n + 1) e) (hn : n ≤ 1000) (R : Rdr w K g gt s T b n i) :
    Calls Tryz.prog 201 #[.pointer (some ⟨g, 0, none⟩)] w (PtE w K g gt s T b n (Tr.compP s T b e i)) := comparison_walk X R (one_sum X E hn)
end

set_option maxHeartbeats 8000000 in
set_option maxRecDepth 100000 in
theorem expr1_walk {w : World} {K : Nat → Prop} {g gt hl kl pl : Nat} {s : Bs} {T : List Tk} {b n i : Nat} {e : Nat → Tr.St} (X : Txts s T) (E : ExC g gt s T b n e) (S : StR w K g gt hl kl pl s T b n i 0 ([], i) w) (qr ql : Nat)
    (HB : Hid (∀ w', Aft K g w w' → w'.cell? ⟨qr, 0, none⟩ = some (.pointer (some ⟨g, 0, none⟩)) ∧ w'.cell? ⟨ql, 0, none⟩ = some (.pointer (some ⟨hl, 0, none⟩)))) :
    Calls Tryz.prog 198 #[.pointer (some ⟨qr, 0, none⟩), .pointer (some ⟨ql, 0, none⟩)] w (StE w K g gt hl kl pl s T b n (Tr.thn (Tr.thn (Tr.thn (Tr.thn (Tr.thn (Tr.takeP s T b i) (Tr.nameP s T b)) (Tr.wantP s T b [61])) e) (Tr.wantP s T b [105, 110])) e)) := by
  obtain ⟨k0, k1⟩ := HB.out _ S.A
  have hst := take_st X S (by omega)
  rw [thn_nil] at hst
  clear S
  go_enter Tryz.func198, Tryz.ntmps198
  go_wp2_with fail
  refine hst.mono ?_
  clear hst k0 k1
  rintro e1 w1 ⟨rfl, S⟩
  obtain ⟨k0, k1⟩ := HB.out _ S.A
  have hst := name_st X S (by omega)
  clear S
  go_wp2_with fail
  refine hst.mono ?_
  clear hst k0 k1
  rintro e1 w2 ⟨rfl, S⟩
  obtain ⟨k0, k1⟩ := HB.out _ S.A
  have hst := want_st X S [61] (by omega)
  clear S
  go_wp2_with fail
  refine hst.mono ?_
  clear hst k0 k1
  rintro e1 w3 ⟨rfl, S⟩
  obtain ⟨k0, k1⟩ := HB.out _ S.A
  have hst := expr_st X E S (by omega)
  clear S
  go_wp2_with fail
  refine hst.mono ?_
  clear hst k0 k1
  rintro e1 w4 ⟨rfl, S⟩
  obtain ⟨k0, k1⟩ := HB.out _ S.A
  have hst := want_st X S [105, 110] (by omega)
  clear S
  go_wp2_with fail
  refine hst.mono ?_
  clear hst k0 k1
  rintro e1 w5 ⟨rfl, S⟩
  obtain ⟨k0, k1⟩ := HB.out _ S.A
  have hst := expr_st X E S (by omega)
  clear S
  go_wp2_with fail
  refine hst.mono ?_
  clear hst k0 k1
  rintro e1 w6 ⟨rfl, S⟩
  go_wp2_with fail
  go_end0
  exact ⟨rfl, S.A, S.R, S.B⟩

set_option maxHeartbeats 8000000 in
set_option maxRecDepth 100000 in
theorem expr2_walk {w : World} {K : Nat → Prop} {g gt hl kl pl : Nat} {s : Bs} {T : List Tk} {b n i : Nat} {e : Nat → Tr.St} (X : Txts s T) (E : ExC g gt s T b n e) (S : StR w K g gt hl kl pl s T b n i 0 ([], i) w) (qr ql : Nat)
    (HB : Hid (∀ w', Aft K g w w' → w'.cell? ⟨qr, 0, none⟩ = some (.pointer (some ⟨g, 0, none⟩)) ∧ w'.cell? ⟨ql, 0, none⟩ = some (.pointer (some ⟨hl, 0, none⟩)))) :
    Calls Tryz.prog 199 #[.pointer (some ⟨qr, 0, none⟩), .pointer (some ⟨ql, 0, none⟩)] w (StE w K g gt hl kl pl s T b n (Tr.thn (Tr.thn (Tr.thn (Tr.thn (Tr.thn (Tr.takeP s T b i) e) (Tr.wantP s T b [116, 104, 101, 110])) e) (Tr.wantP s T b [101, 108, 115, 101])) e)) := by
  obtain ⟨k0, k1⟩ := HB.out _ S.A
  have hst := take_st X S (by omega)
  rw [thn_nil] at hst
  clear S
  go_enter Tryz.func199, Tryz.ntmps199
  go_wp2_with fail
  refine hst.mono ?_
  clear hst k0 k1
  rintro e1 w1 ⟨rfl, S⟩
  obtain ⟨k0, k1⟩ := HB.out _ S.A
  have hst := expr_st X E S (by omega)
  clear S
  go_wp2_with fail
  refine hst.mono ?_
  clear hst k0 k1
  rintro e1 w2 ⟨rfl, S⟩
  obtain ⟨k0, k1⟩ := HB.out _ S.A
  have hst := want_st X S [116, 104, 101, 110] (by omega)
  clear S
  go_wp2_with fail
  refine hst.mono ?_
  clear hst k0 k1
  rintro e1 w3 ⟨rfl, S⟩
  obtain ⟨k0, k1⟩ := HB.out _ S.A
  have hst := expr_st X E S (by omega)
  clear S
  go_wp2_with fail
  refine hst.mono ?_
  clear hst k0 k1
  rintro e1 w4 ⟨rfl, S⟩
  obtain ⟨k0, k1⟩ := HB.out _ S.A
  have hst := want_st X S [101, 108, 115, 101] (by omega)
  clear S
  go_wp2_with fail
  refine hst.mono ?_
  clear hst k0 k1
  rintro e1 w5 ⟨rfl, S⟩
  obtain ⟨k0, k1⟩ := HB.out _ S.A
  have hst := expr_st X E S (by omega)
  clear S
  go_wp2_with fail
  refine hst.mono ?_
  clear hst k0 k1
  rintro e1 w6 ⟨rfl, S⟩
  go_wp2_with fail
  go_end0
  exact ⟨rfl, S.A, S.R, S.B⟩

set_option maxHeartbeats 8000000 in
set_option maxRecDepth 100000 in
theorem expr3_walk {w : World} {K : Nat → Prop} {g gt hl kl pl : Nat} {s : Bs} {T : List Tk} {b n i : Nat} {e : Nat → Tr.St} (X : Txts s T) (E : ExC g gt s T b n e) (S : StR w K g gt hl kl pl s T b n i 0 ([], i) w) (qr ql : Nat)
    (HB : Hid (∀ w', Aft K g w w' → w'.cell? ⟨qr, 0, none⟩ = some (.pointer (some ⟨g, 0, none⟩)) ∧ w'.cell? ⟨ql, 0, none⟩ = some (.pointer (some ⟨hl, 0, none⟩)))) :
    Calls Tryz.prog 200 #[.pointer (some ⟨qr, 0, none⟩), .pointer (some ⟨ql, 0, none⟩)] w (StE w K g gt hl kl pl s T b n (Tr.thn (Tr.thn (Tr.thn (Tr.takeP s T b i) fun i => Tr.oneP (Tr.paramsP s T b i)) (Tr.wantP s T b [61, 62])) e)) := by
  obtain ⟨k0, k1⟩ := HB.out _ S.A
  have hst := take_st X S (by omega)
  rw [thn_nil] at hst
  clear S
  go_enter Tryz.func200, Tryz.ntmps200
  go_wp2_with fail
  refine hst.mono ?_
  clear hst k0 k1
  rintro e1 w1 ⟨rfl, S⟩
  obtain ⟨k0, k1⟩ := HB.out _ S.A
  have hst := params_st X S (by omega)
  clear S
  go_wp2_with fail
  refine hst.mono ?_
  clear hst k0 k1
  rintro e1 w2 ⟨rfl, S⟩
  obtain ⟨k0, k1⟩ := HB.out _ S.A
  have hst := want_st X S [61, 62] (by omega)
  clear S
  go_wp2_with fail
  refine hst.mono ?_
  clear hst k0 k1
  rintro e1 w3 ⟨rfl, S⟩
  obtain ⟨k0, k1⟩ := HB.out _ S.A
  have hst := expr_st X E S (by omega)
  clear S
  go_wp2_with fail
  refine hst.mono ?_
  clear hst k0 k1
  rintro e1 w4 ⟨rfl, S⟩
  go_wp2_with fail
  go_end0
  exact ⟨rfl, S.A, S.R, S.B⟩

end Go.Proofs.YtalklmeejdmifaaGreatDoor
