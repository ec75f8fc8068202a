/-
  JOINED of the texts UK YI YJ
-/
import Derived.Test.YtalklmeejdmifaaGreatDoorJao
import Derived.Test.YtalklmeejdmifaaGreatDoorJau
import Derived.StillTailTactics
import Derived.Handy
import Derived.Deep.RegionHeld3
import Derived.Maps.OwnOps
import Derived.Carry
import Derived.Deep.CutBlock
import Derived.Deep.AppendLies
import Derived.Deep.QuietTactic
import Derived.BigQuiet
import Derived.Lib.RuneBytes
import Derived.Lib.Strings
import Derived.Deep.DeepCutAuto
import Derived.Lib.ConvBytes
import Derived.Laws.Strings3
import Derived.Laws.Closers25
import Derived.Laws.Closers25b
import Derived.BigCall
import Derived.BigGuard
import Derived.Test.YtalklmeejdmifaaGreatDoorShelfX
import Derived.Shelf.Spec.BytesIndexFunc
import Derived.Lib.IndexMore
import Derived.Test.YtalklmeejdmifaaGreatDoorRows
import Derived.WalkKit
import Derived.WalkSpells
import Derived.WalkLawsBesides
import Derived.Below
import Derived.Laws.OwnMore
import Derived.Deep.Draws
import Derived.Lib.Hide
import Derived.IntWalk
import Derived.Test.YtalklmeejdmifaaGreatDoorShelfW
import Derived.Shelf.Strings.SlTrimAscii
import Derived.Lib.LaidTab
import Derived.Lib.AtoiAll
import Derived.Lib.IndexLaws
import Derived.Lib.SlTrimSet
import Derived.Lib.ItoaNum
import Derived.Lib.Atoi
import Derived.WalkMore
import Derived.ScopeJumps
import Derived.Laws.AppendOwnNone
import Derived.Test.YtalklmeejdmifaaGreatDoorJat
/-
  WALKS of package tree: New.
-/
namespace Go.Proofs.YtalklmeejdmifaaGreatDoor
open Go.RowKit

/-- a text's tree in memory, all its blocks of F -/
structure TreeOf (w : World) (F : Nat → Prop) (gt : Nat) (s : Bs) (T : List Tk) (ks : List Tr.Kd) (ts : List Tr.PT) : Prop where
  ex : ∃ d A c, TreeIs w F gt d A c T ks ts ∧ DocAt w d s T ∧ F d ∧ RowF w F A (tksC T) ∧ T.length ≤ c ∧ d ≠ gt
  at_ : F gt
theorem Aft.toBelow {w w' : World} {g : Nat} {B : Nat} (h : Aft (Old w) g w w') (hB : B ≤ w.heap.size) (hg : B ≤ g) : Below B w w' :=
  ⟨h.calm.os, h.calm.tape, h.calm.output, h.size, fun x hx => h.oth x (Nat.lt_of_lt_of_le hx hB) (by omega)⟩
set_option maxHeartbeats 4000000 in
set_option maxRecDepth 100000 in
theorem tnew_walk (s : Bs) (m : Int) (w : World) (hM : MaxL w m) (hT8 : T8 w) (hW : WordsIs w) (hl : s.length ≤ 1048576) :
    Calls Tryz.prog 11 #[.string ⟨s.toArray⟩] w fun e w' => ∃ gt, e = .returned (.pointer (some ⟨gt, 0, none⟩)) ∧ TreeOf w' (fun x => w.heap.size ≤ x) gt s (Lx.tokR 0 s) (Tr.kidsP s (Lx.tokR 0 s) ((Lx.tokR 0 s).length + 1) 0).1 (Tr.tailP s (Lx.tokR 0 s) (Tr.kidsP s (Lx.tokR 0 s) ((Lx.tokR 0 s).length + 1) 0).2) ∧ Below w.heap.size w w' := by
  have hnew := lnew_walk s m w hM hT8 hW (by omega)
  have hTl := Lx.tokR_len s.length 0 s (Nat.le_refl _)
  obtain ⟨hS, -⟩ := Lx.tok_side s (by omega) hTl
  generalize Lx.tokR 0 s = T at *
  have X : Txts s T := ⟨hS.good, by omega, by omega⟩
  have HTl : Hid (T.length ≤ 1048576) := by show _ ≤ _; omega
  clear hS hTl hM hT8 hW hl
  go_enter Tryz.func11, Tryz.ntmps11
  go_wp2_with fail
  refine hnew.mono ?_
  clear hnew
  rintro e w1 ⟨d, rfl, hd, hD, hb1⟩
  have hd2 : Below w1.heap.size w1 (w1.alloc (.cells #[.pointer (some ⟨d, 0, none⟩), .slice none 0 0, .slice none 0 0, .slice none 0 0] 87)) := (Below.refl _ _).alloc (Nat.le_refl _) _
  have hB : Blk (w1.alloc (.cells #[.pointer (some ⟨d, 0, none⟩), .slice none 0 0, .slice none 0 0, .slice none 0 0] 87)) w1.heap.size 87 #[.pointer (some ⟨d, 0, none⟩), .slice none 0 0, .slice none 0 0, .slice none 0 0] := Blk.new _ _ _
  have hD2 := hD.below hd2
  obtain ⟨gt, hgt⟩ : ∃ g, g = w1.heap.size := ⟨_, rfl⟩
  rw [← hgt] at hB
  have hdl : d < gt := by obtain ⟨_, _, h, _⟩ := hD; rw [hgt]; exact h.lt
  have Hgt := Lib.hid hgt
  go_upto_region 2 with fail
  rw [← hgt]
  clear hgt
  generalize w1.alloc (.cells #[.pointer (some ⟨d, 0, none⟩), .slice none 0 0, .slice none 0 0, .slice none 0 0] 87) = w2 at *
  have htk := ltokens_walk d s T w2 hD2 (by have := HTl.out; omega)
  have z0 := hB.cell 0
  simp at z0
  go_wp2_with fail
  refine htk.mono ?_
  clear htk
  rintro e w3 ⟨A, rfl, ⟨c0, hown⟩, hd3⟩
  have hB3 := hB.below hd3 hB.lt
  have z1 := hB3.cell 1
  have y1 := hB3.frozen 1
  simp at z1
  have hB4 := hB3.set_ 1 (.slice A T.length T.length)
  simp at hB4
  have hrow : RowF w3 (fun x => w2.heap.size ≤ x) A (tksC T) := (own_row hown fun q hq => (hown.lt q hq).1).2
  have hgl := hB.lt
  go_upto_region 3 with fail
  have hz4 : w3.heap.size ≤ (w3.setCell ⟨gt, 1, none⟩ (.slice A T.length T.length)).heap.size := by simp [World.setCell]
  have hrow4 : RowF (w3.setCell ⟨gt, 1, none⟩ (.slice A T.length T.length)) (fun x => w2.heap.size ≤ x) A (tksC T) := hrow.keep hz4 fun x hx _ => ⟨Below.heap_setCell _ ⟨gt, 1, none⟩ _ x (by have hx : w2.heap.size ≤ x := hx; show x ≠ gt; omega), hx⟩
  have hb4 : Below gt w1 (w3.setCell ⟨gt, 1, none⟩ (.slice A T.length T.length)) := (((by have := hd2; rwa [← Hgt.out] at this) : Below gt w1 w2).trans (hd3.mono (Nat.le_of_lt hgl))).setCell (p := ⟨gt, 1, none⟩) (Nat.le_refl _) _
  clear z0 z1 y1 hB hB3 hown hrow hd3 hD2 hd2
  generalize w3.setCell ⟨gt, 1, none⟩ (.slice A T.length T.length) = w4 at *
  have hD4 := hD.below (by have := hb4; rwa [Hgt.out] at this)
  obtain ⟨A1, c1, hB1, _⟩ := id hD4
  have hrd := read_nil X hB4 hB1 (hrow4.keep (F' := fun x => x ≠ gt) (Nat.le_refl _) fun x hx _ => ⟨rfl, (by have hx : w2.heap.size ≤ x := hx; show x ≠ gt; omega)⟩) (Nat.le_refl _)
  go_wp2_with fail
  refine hrd.mono ?_
  clear hrd
  rintro e w5 ⟨n, rfl, hA, hTr⟩
  go_wp2_with fail
  go_ret
  have hbz := hb1.size
  have hgt1 := Hgt.out
  have hz2 := hb4.size
  have hb5 : Below gt w1 w5 := hb4.trans (hA.toBelow (by omega) (Nat.le_refl _))
  have hD5 := hD.below (by rwa [hgt1] at hb5)
  refine ⟨gt, rfl, ⟨⟨d, A, T.length, ?_, hD5, hd, ?_, Nat.le_refl _, by omega⟩, by show _ ≤ _; omega⟩, hb1.trans (hb5.mono (by omega))⟩
  · obtain ⟨Av, cv, At, ct, vs, us, h1, h2, h3, h4, h5, h6, h7⟩ := hTr.ex
    exact ⟨Av, cv, At, ct, vs, us, h1, h2, h3, h4.keep (Nat.le_refl _) (fun x hx _ => ⟨rfl, by have hx : w4.heap.size ≤ x := hx; show _ ≤ _; omega⟩), KdsF.keep (Nat.le_refl _) (fun x hx _ => ⟨rfl, by have hx : w4.heap.size ≤ x := hx; show _ ≤ _; omega⟩) _ _ h5, h6.keep (Nat.le_refl _) (fun x hx _ => ⟨rfl, by have hx : w4.heap.size ≤ x := hx; show _ ≤ _; omega⟩), PtsF.keep (Nat.le_refl _) (fun x hx _ => ⟨rfl, by have hx : w4.heap.size ≤ x := hx; show _ ≤ _; omega⟩) _ _ h7⟩
  · exact hrow4.keep hA.size fun x hx hl => ⟨hA.oth x hl (by have hx : w2.heap.size ≤ x := hx; omega), by have hx : w2.heap.size ≤ x := hx; show _ ≤ _; omega⟩
end Go.Proofs.YtalklmeejdmifaaGreatDoor
/-
  WALKS: the document's notes.
-/
namespace Go.Proofs.YtalklmeejdmifaaGreatDoor
open Go.RowKit

theorem infoRM : (Tryz.prog.info? 127).map (fun i => (i.zero, i.size, i.bytes)) = some (some (.agg #[.int .i64 0, .int .i64 0, .int .i64 0]), 3, 24) := by kernel_rfl
theorem rm_lit (w : World) (f t e : Value) : ∀ j u, [f, t, e][j]? = some u → (w.alloc (.cells #[f, t, e] 127)).cell? (Addr.add ⟨w.heap.size, 0, none⟩ j) = some u := World.news_of_block (cs := #[f, t, e]) (t := 127) (fr := (0, 0)) (heap_alloc_new w _)
theorem own_drew {w : World} {B : Nat} {e : TypeId} {size n : Nat} {v : Value} {xs : List Value} (h : w.ownsRow B e size v n xs) : w.drew.ownsRow B e size v n xs := own_of_block h fun _ _ => rfl
/-- what the document's Notes tells -/
def RnE (w : World) (B : Nat) (out : List Tr.Nt) (e : Ending) (w' : World) : Prop := ∃ A c, e = .returned (.slice A out.length c) ∧ w'.ownsRow B 127 3 (.slice A out.length c) out.length (ntC out) ∧ Below B w w'
def RnC (p : Tr.PT) : Prop := ∀ (w : World) (F : Nat → Prop) (a : Nat) (fp : List Nat) (v : Value) (out : List Tr.Nt) (A : Option Addr) (c B : Nat), NpF w F p a fp v → w.ownsRow B 127 3 (.slice A out.length c) out.length (ntC out) → (∀ x, F x → x < B) → B ≤ w.heap.size → (out ++ Tr.rnotesP p a).length ≤ 1000000000 →
  Calls Tryz.prog 17 #[v, .slice A out.length c] w (RnE w B (out ++ Tr.rnotesP p a))
theorem NpsF.pl : ∀ {w : World} {F : Nat → Prop} {l : List Tr.PT} {a : Nat} {fps : List Nat} {vs : List Value} {i : Nat}, NpsF w F l a fps vs → ∀ (h : i < l.length), ∃ q a' fp, vs[i]? = some (.pointer (some ⟨q, 0, none⟩)) ∧ NpF w F l[i] a' fp (.pointer (some ⟨q, 0, none⟩)) ∧ Tr.rnotessP (l.take (i + 1)) a = Tr.rnotessP (l.take i) a ++ Tr.rnotesP l[i] a' ∧ a' = a + Tr.widesP (l.take i)
  | _, _, [], _, _, _, _, _, h => absurd h (by simp)
  | w, F, p :: l, a, fps, vs, 0, hp, _ => by
    obtain ⟨fp, fps', v, vs', rfl, rfl, h, _⟩ := hp
    obtain ⟨q, rfl⟩ := h.form
    exact ⟨q, a, fp, rfl, h, by simp [Tr.rnotessP], by simp [Tr.widesP]⟩
  | w, F, p :: l, a, fps, vs, i + 1, hp, h => by
    obtain ⟨fp, fps', v, vs', rfl, rfl, _, hl⟩ := hp
    obtain ⟨q, a', fp', h1, h2, h3, h4⟩ := NpsF.pl (i := i) hl (by simpa using h)
    refine ⟨q, a', fp', by simpa using h1, by simpa using h2, ?_, ?_⟩
    · simp only [List.take_succ_cons, Tr.rnotessP, List.getElem_cons_succ, List.append_assoc] at h3 ⊢
      rw [h3]
    · rw [h4, Tr.put_end]
      simp only [List.take_succ_cons, Tr.widesP]
      omega
theorem rnotess_le (l : List Tr.PT) (a i : Nat) : (Tr.rnotessP (l.take i) a).length ≤ (Tr.rnotessP l a).length := by
  have h := Tr.rnotess_app (l.take i) (l.drop i) a
  rw [List.take_append_drop] at h
  rw [h, List.length_append]
  omega

set_option maxHeartbeats 16000000 in
set_option maxRecDepth 100000 in
theorem rnotes_core {w : World} {F : Nat → Prop} {q k tok a cc : Nat} {t : Bs} {Ar : Option Addr} {e f u : Int} {lk : Bool} {l : List Tr.PT} {fps : List Nat} {vs : List Value} {out o1 o2 o3 : List Tr.Nt} {A : Option Addr} {c B : Nat}
    (hq : F q) (hB : Blk w q 121 (genC k tok t Ar l.length cc (a : Int) e f u lk)) (hrow : RowF w F Ar vs) (hps : NpsF w F l a fps vs) (hl : l.length ≤ 1000000000) (IH : ∀ p ∈ l, RnC p)
    (ho1 : k = 0 ∧ tok = 8 → o1 = [((a : Int), e, 3)]) (ho1' : ¬ (k = 0 ∧ tok = 8) → o1 = []) (ho2 : k = 1 → o2 = [((a : Int), (a : Int), 9)]) (ho2' : ¬ k = 1 → o2 = []) (ho3 : k = 5 → o3 = [(f, u, 3)]) (ho3' : ¬ k = 5 → o3 = [])
    (hown : w.ownsRow B 127 3 (.slice A out.length c) out.length (ntC out)) (hF : ∀ x, F x → x < B) (hBw : B ≤ w.heap.size) (hlen : (out ++ o1 ++ o2 ++ o3 ++ Tr.rnotessP l a).length ≤ 1000000000) :
    Calls Tryz.prog 17 #[.pointer (some ⟨q, 0, none⟩), .slice A out.length c] w (RnE w B (out ++ o1 ++ o2 ++ o3 ++ Tr.rnotessP l a)) := by
  obtain ⟨i0, ji, jz0, jz1, jz2⟩ := info_parts infoRM
  have hN0 := fun (w' : World) (hb : Below B w w') => (show Blk w' q 121 (genC k tok t Ar l.length cc (a : Int) e f u lk) from (hb.block q (hF q hq)).trans hB)
  have hb : Below B w w := Below.refl _ _
  have HB : Hid (B ≤ w.heap.size) := hBw
  have Hl := Lib.hid hl
  have Hlen := Lib.hid hlen
  obtain ⟨out1, hout1⟩ : ∃ x, x = out ++ o1 := ⟨_, rfl⟩
  obtain ⟨out2, hout2⟩ : ∃ x, x = out1 ++ o2 := ⟨_, rfl⟩
  obtain ⟨out3, hout3⟩ : ∃ x, x = out2 ++ o3 := ⟨_, rfl⟩
  have H1 : Hid (k = 0 ∧ tok = 8 → out1 = out ++ [((a : Int), e, 3)]) := fun h => by rw [hout1, ho1 h]
  have H1' : Hid (¬ (k = 0 ∧ tok = 8) → out1 = out) := fun h => by rw [hout1, ho1' h, List.append_nil]
  have H2 : Hid (k = 1 → out2 = out1 ++ [((a : Int), (a : Int), 9)]) := fun h => by rw [hout2, ho2 h]
  have H2' : Hid (¬ k = 1 → out2 = out1) := fun h => by rw [hout2, ho2' h, List.append_nil]
  have H3 : Hid (k = 5 → out3 = out2 ++ [(f, u, 3)]) := fun h => by rw [hout3, ho3 h]
  have H3' : Hid (¬ k = 5 → out3 = out2) := fun h => by rw [hout3, ho3' h, List.append_nil]
  have Hn3 : Hid (out3.length ≤ 1000000000) := by show _ ≤ _; rw [hout3, hout2, hout1]; rw [List.length_append] at hlen; omega
  have Hn2 : Hid (out2.length ≤ 1000000000) := by show _ ≤ _; have := Hn3.out; rw [hout3, List.length_append] at this; omega
  have Hn1 : Hid (out1.length ≤ 1000000000) := by show _ ≤ _; have := Hn2.out; rw [hout2, List.length_append] at this; omega
  have Hn : Hid (out.length ≤ 1000000000) := by show _ ≤ _; have := Hn1.out; rw [hout1, List.length_append] at this; omega
  rw [← hout1, ← hout2, ← hout3] at Hlen ⊢
  clear hlen hl hBw ho1 ho1' ho2 ho2' ho3 ho3' hout1 hout2 hout3
  have HF := Lib.hid hF
  have k0 := hB.cell 0
  have k1 := hB.cell 1
  simp [genC] at k0 k1
  clear hF
  go_enter Tryz.func17, Tryz.ntmps17
  obtain ⟨b1, hb1⟩ : ∃ b1 : Bool, b1 = (decide (k = 0) && decide (tok = 8)) := ⟨_, rfl⟩
  have G1 : Hid (b1 = (decide (k = 0) && decide (tok = 8))) := hb1
  clear hb1
  go_upto_region 1 with fail
  go_cut [17] (fun v wc => v = .bool b1 ∧ w = wc)
  case first =>
    by_cases k2 : k = 0
    · have e0 : ((k : Int) == 0) = true := by simp; omega
      by_cases k3 : tok = 8
      · have e1 : ((tok : Int) == 8) = true := by simp; omega
        have G2 : Hid (b1 = true) := by show _ = _; rw [G1.out]; simp [k2, k3]
        clear k2 k3 G1
        go_wp2_with fail
        go_meet
        exact ⟨by rw [G2.out], rfl⟩
      · have e1 : ((tok : Int) == 8) = false := by simp; omega
        have G2 : Hid (b1 = false) := by show _ = _; rw [G1.out]; simp [k3]
        clear k2 k3 G1
        go_wp2_with fail
        go_meet
        exact ⟨by rw [G2.out], rfl⟩
    · have e0 : ((k : Int) == 0) = false := by simp; omega
      have G2 : Hid (b1 = false) := by show _ = _; rw [G1.out]; simp [k2]
      clear k2 G1
      go_wp2_with fail
      go_meet
      exact ⟨by rw [G2.out], rfl⟩
  case rest =>
  obtain ⟨rfl, rfl⟩ := hcut
  clear k0 k1
  go_upto_if 17 with fail
  go_cut [1] (fun v wc => ∃ A1 c1, v = .slice A1 out1.length c1 ∧ wc.ownsRow B 127 3 (.slice A1 out1.length c1) out1.length (ntC out1) ∧ Below B w wc)
  case first =>
    cases b1 with
    | false =>
      have Ho := Lib.hid (H1'.out (by have := G1.out; simpa using this))
      clear H1 H1' G1
      go_wp2_with fail
      go_meet
      exact ⟨A, c, by rw [Ho.out], by rw [Ho.out]; exact hown, hb⟩
    | true =>
      have Ho := Lib.hid (H1.out (by have := G1.out; simpa using this.symm))
      clear H1 H1' G1
      go_upto_region 2 with fail
      refine wp_region_G 12 (fun w' : World => w'.cell? ⟨q, 4, none⟩ = some (.int .i64 (a : Int)) ∧ w'.cell? ⟨q, 5, none⟩ = some (.int .i64 e)) (by kernel_rfl) ?_
      have hb := hb.drew
      have hown := own_drew hown
      skip
      generalize World.drew _ = wd at *
      have hBs := hb.size
      have hN := hN0 wd hb
      have s0 := hN.cell 4
      have s1 := hN.cell 5
      simp [genC] at s0 s1
      have hS0 : (fun w' : World => w'.cell? ⟨q, 4, none⟩ = some (.int .i64 (a : Int)) ∧ w'.cell? ⟨q, 5, none⟩ = some (.int .i64 e)) wd := ⟨s0, s1⟩
      refine wpAnyG_take (i := 0) (v := ?_) rfl (by kernel_rfl) (by kernel_rfl) (by kernel_rfl) (by kernel_rfl) (fun _ _ _ h => h) (Or.inl ⟨by rfl, ?_⟩) hS0 ?_; rotate_left; · (intro w hSw; (try dsimp only at hSw); obtain ⟨s0, s1⟩ := hSw; go_simp; try with_reducible rfl)
      simp only [Act.put, List.setIfInBounds_toArray]
      refine wpAnyG_take (i := 1) (v := ?_) rfl (by kernel_rfl) (by kernel_rfl) (by kernel_rfl) (by kernel_rfl) (fun _ _ _ h => h) (Or.inl ⟨by rfl, ?_⟩) hS0 ?_; rotate_left; · (intro w hSw; (try dsimp only at hSw); obtain ⟨s0, s1⟩ := hSw; go_simp; try with_reducible rfl)
      simp only [Act.put]
      refine wpAnyG_take (i := 2) (v := ?_) rfl (by kernel_rfl) (by kernel_rfl) (by kernel_rfl) (by kernel_rfl) (fun _ _ _ h => h) (Or.inl ⟨by rfl, ?_⟩) hS0 ?_; rotate_left; · (intro w hSw; (try dsimp only at hSw); obtain ⟨s0, s1⟩ := hSw; go_simp; try with_reducible rfl)
      simp only [Act.put]
      refine wpAnyG_take (i := 3) (v := ?_) rfl (by kernel_rfl) (by kernel_rfl) (by kernel_rfl) (by kernel_rfl) (fun _ _ _ h => h) (Or.inl ⟨by rfl, ?_⟩) hS0 ?_; rotate_left; · (intro w hSw; (try dsimp only at hSw); obtain ⟨s0, s1⟩ := hSw; go_simp; try with_reducible rfl)
      simp only [Act.put]
      refine wpAnyG_take (i := 4) (v := ?_) rfl (by kernel_rfl) (by kernel_rfl) (by kernel_rfl) (by kernel_rfl) (fun _ _ _ h => h) (Or.inl ⟨by rfl, ?_⟩) hS0 ?_; rotate_left; · (intro w hSw; (try dsimp only at hSw); obtain ⟨s0, s1⟩ := hSw; go_simp; try with_reducible rfl)
      simp only [Act.put]
      refine wpAnyG_take (i := 5) (v := ?_) rfl (by kernel_rfl) (by kernel_rfl) (by kernel_rfl) (by kernel_rfl) (fun _ _ _ h => h) (Or.inl ⟨by rfl, ?_⟩) hS0 ?_; rotate_left; · (intro w hSw; (try dsimp only at hSw); obtain ⟨s0, s1⟩ := hSw; go_simp; try with_reducible rfl)
      simp only [Act.put]
      refine wpAnyG_take (i := 6) (v := ?_) rfl (by kernel_rfl) (by kernel_rfl) (by kernel_rfl) (by kernel_rfl) (fun _ _ _ h => h) (Or.inl ⟨by rfl, ?_⟩) hS0 ?_; rotate_left; · (intro w hSw; (try dsimp only at hSw); obtain ⟨s0, s1⟩ := hSw; go_simp; try with_reducible rfl)
      simp only [Act.put]
      refine wpAnyG_take (i := 7) (v := ?_) rfl (by kernel_rfl) (by kernel_rfl) (by kernel_rfl) (by kernel_rfl) (fun _ _ _ h => h) (Or.inl ⟨by rfl, ?_⟩) hS0 ?_; rotate_left; · (intro w hSw; (try dsimp only at hSw); obtain ⟨s0, s1⟩ := hSw; go_simp; try with_reducible rfl)
      simp only [Act.put]
      refine wpAnyG_take (i := 8) (v := ?_) rfl (by kernel_rfl) (by kernel_rfl) (by kernel_rfl) (by kernel_rfl) (fun _ _ _ h => h) (Or.inl ⟨by rfl, ?_⟩) hS0 ?_; rotate_left; · (intro w hSw; (try dsimp only at hSw); obtain ⟨s0, s1⟩ := hSw; go_simp; try with_reducible rfl)
      simp only [Act.put]
      refine wpAnyG_take (i := 9) (v := ?_) rfl (by kernel_rfl) (by kernel_rfl) (by kernel_rfl) (by kernel_rfl) (fun _ _ _ h => h) (Or.inl ⟨by rfl, ?_⟩) hS0 ?_; rotate_left; · (intro w hSw; (try dsimp only at hSw); obtain ⟨s0, s1⟩ := hSw; go_simp; try with_reducible rfl)
      simp only [Act.put]
      clear hS0
      refine wpAnyG_one (i := 10) (by kernel_rfl) rfl (fun C hC => ?_)
      go_simp
      refine hC.out _ _ (fun _ => ⟨(cell_alloc _ _ _ _ hN.lt).trans s0, (cell_alloc _ _ _ _ hN.lt).trans s1⟩) ?_
      clear hC C
      refine wpAnyG_one (i := 11) (by kernel_rfl) rfl (fun C hC => ?_)
      refine step_append_lies _ (by rfl) _ _ _ (by rfl) B 127 i0 _ 3 24 Tryz.underlying35 ji jz0 jz1 jz2 rfl (by omega) (.slice A out.length c) out.length (ntC out) (by rfl) (hown.alloc _) ⟨wd.heap.size, 0, none⟩ 1 1 [.int .i64 (a : Int), .int .i64 e, .int .i64 3] (by rfl) (by rfl) (rm_lit wd _ _ _) (by simp [Value.oneCell']) (by omega) (by have := Hn.out; unfold maxLen; omega) (by have := Hn.out; omega) (by have := HB.out; simp; omega) (wd.heap.size + 1) (by simp) ?_
      intro gg cap' w5 hown5 hgrow hat hlt5
      have hb5 := (hb.alloc (by have := HB.out; omega) (.cells #[.int .i64 (a : Int), .int .i64 e, .int .i64 3] 127)).grown hgrow (by have := HB.out; simp; omega) (fun y hy => (hown.lt y hy).1)
      have hN5 := hN0 w5 hb5
      have s50 := hN5.cell 4
      have s51 := hN5.cell 5
      simp [genC] at s50 s51
      refine hC.out _ _ (fun _ => ⟨s50, s51⟩) ?_
      clear hC C
      refine wpAnyG_one (i := 12) (by kernel_rfl) rfl (fun C hC => ?_)
      go_simp
      refine hC.out _ _ (fun h => absurd rfl h) ?_
      clear hC C
      refine wpAnyG_done (by kernel_rfl) ?_ _
      clear hN hN5 hgrow hat hlt5 s0 s1 s50 s51 hown hBs
      go_wp2_with fail
      go_meet
      refine ⟨some ⟨gg, 0, none⟩, cap', ?_, ?_, hb5⟩
      · rw [Ho.out, List.length_append]; rfl
      · rw [Ho.out, List.length_append, ntC_snoc]; exact hown5
  case rest =>
  clear hown hb H1 H1' G1 Hn
  obtain ⟨A1, c1, rfl, hown, hb⟩ := hcut
  have k0 := (hN0 wc hb).cell 0
  simp [genC] at k0
  have Hn := Lib.hid Hn1.out
  go_upto_if 34 with fail
  go_cut [1] (fun v wd => ∃ A2 c2, v = .slice A2 out2.length c2 ∧ wd.ownsRow B 127 3 (.slice A2 out2.length c2) out2.length (ntC out2) ∧ Below B w wd)
  case first =>
    clear k0
    by_cases k2 : k = 1
    · have Ho := Lib.hid (H2.out k2)
      have e0 : ((k : Int) == 1) = true := by simp; omega
      clear k2 H2 H2' H3 H3'
      go_upto_region 4 with fail
      refine wp_region_G 12 (fun w' : World => w'.cell? ⟨q, 4, none⟩ = some (.int .i64 (a : Int)) ∧ w'.cell? ⟨q, 4, none⟩ = some (.int .i64 (a : Int))) (by kernel_rfl) ?_
      have hb := hb.drew
      have hown := own_drew hown
      skip
      generalize World.drew _ = wd at *
      have hBs := hb.size
      have hN := hN0 wd hb
      have s0 := hN.cell 4
      have s1 := hN.cell 4
      simp [genC] at s0 s1
      have hS0 : (fun w' : World => w'.cell? ⟨q, 4, none⟩ = some (.int .i64 (a : Int)) ∧ w'.cell? ⟨q, 4, none⟩ = some (.int .i64 (a : Int))) wd := ⟨s0, s1⟩
      refine wpAnyG_take (i := 0) (v := ?_) rfl (by kernel_rfl) (by kernel_rfl) (by kernel_rfl) (by kernel_rfl) (fun _ _ _ h => h) (Or.inl ⟨by rfl, ?_⟩) hS0 ?_; rotate_left; · (intro w hSw; (try dsimp only at hSw); obtain ⟨s0, s1⟩ := hSw; go_simp; try with_reducible rfl)
      simp only [Act.put, List.setIfInBounds_toArray]
      refine wpAnyG_take (i := 1) (v := ?_) rfl (by kernel_rfl) (by kernel_rfl) (by kernel_rfl) (by kernel_rfl) (fun _ _ _ h => h) (Or.inl ⟨by rfl, ?_⟩) hS0 ?_; rotate_left; · (intro w hSw; (try dsimp only at hSw); obtain ⟨s0, s1⟩ := hSw; go_simp; try with_reducible rfl)
      simp only [Act.put]
      refine wpAnyG_take (i := 2) (v := ?_) rfl (by kernel_rfl) (by kernel_rfl) (by kernel_rfl) (by kernel_rfl) (fun _ _ _ h => h) (Or.inl ⟨by rfl, ?_⟩) hS0 ?_; rotate_left; · (intro w hSw; (try dsimp only at hSw); obtain ⟨s0, s1⟩ := hSw; go_simp; try with_reducible rfl)
      simp only [Act.put]
      refine wpAnyG_take (i := 3) (v := ?_) rfl (by kernel_rfl) (by kernel_rfl) (by kernel_rfl) (by kernel_rfl) (fun _ _ _ h => h) (Or.inl ⟨by rfl, ?_⟩) hS0 ?_; rotate_left; · (intro w hSw; (try dsimp only at hSw); obtain ⟨s0, s1⟩ := hSw; go_simp; try with_reducible rfl)
      simp only [Act.put]
      refine wpAnyG_take (i := 4) (v := ?_) rfl (by kernel_rfl) (by kernel_rfl) (by kernel_rfl) (by kernel_rfl) (fun _ _ _ h => h) (Or.inl ⟨by rfl, ?_⟩) hS0 ?_; rotate_left; · (intro w hSw; (try dsimp only at hSw); obtain ⟨s0, s1⟩ := hSw; go_simp; try with_reducible rfl)
      simp only [Act.put]
      refine wpAnyG_take (i := 5) (v := ?_) rfl (by kernel_rfl) (by kernel_rfl) (by kernel_rfl) (by kernel_rfl) (fun _ _ _ h => h) (Or.inl ⟨by rfl, ?_⟩) hS0 ?_; rotate_left; · (intro w hSw; (try dsimp only at hSw); obtain ⟨s0, s1⟩ := hSw; go_simp; try with_reducible rfl)
      simp only [Act.put]
      refine wpAnyG_take (i := 6) (v := ?_) rfl (by kernel_rfl) (by kernel_rfl) (by kernel_rfl) (by kernel_rfl) (fun _ _ _ h => h) (Or.inl ⟨by rfl, ?_⟩) hS0 ?_; rotate_left; · (intro w hSw; (try dsimp only at hSw); obtain ⟨s0, s1⟩ := hSw; go_simp; try with_reducible rfl)
      simp only [Act.put]
      refine wpAnyG_take (i := 7) (v := ?_) rfl (by kernel_rfl) (by kernel_rfl) (by kernel_rfl) (by kernel_rfl) (fun _ _ _ h => h) (Or.inl ⟨by rfl, ?_⟩) hS0 ?_; rotate_left; · (intro w hSw; (try dsimp only at hSw); obtain ⟨s0, s1⟩ := hSw; go_simp; try with_reducible rfl)
      simp only [Act.put]
      refine wpAnyG_take (i := 8) (v := ?_) rfl (by kernel_rfl) (by kernel_rfl) (by kernel_rfl) (by kernel_rfl) (fun _ _ _ h => h) (Or.inl ⟨by rfl, ?_⟩) hS0 ?_; rotate_left; · (intro w hSw; (try dsimp only at hSw); obtain ⟨s0, s1⟩ := hSw; go_simp; try with_reducible rfl)
      simp only [Act.put]
      refine wpAnyG_take (i := 9) (v := ?_) rfl (by kernel_rfl) (by kernel_rfl) (by kernel_rfl) (by kernel_rfl) (fun _ _ _ h => h) (Or.inl ⟨by rfl, ?_⟩) hS0 ?_; rotate_left; · (intro w hSw; (try dsimp only at hSw); obtain ⟨s0, s1⟩ := hSw; go_simp; try with_reducible rfl)
      simp only [Act.put]
      clear hS0
      refine wpAnyG_one (i := 10) (by kernel_rfl) rfl (fun C hC => ?_)
      go_simp
      refine hC.out _ _ (fun _ => ⟨(cell_alloc _ _ _ _ hN.lt).trans s0, (cell_alloc _ _ _ _ hN.lt).trans s1⟩) ?_
      clear hC C
      refine wpAnyG_one (i := 11) (by kernel_rfl) rfl (fun C hC => ?_)
      refine step_append_lies _ (by rfl) _ _ _ (by rfl) B 127 i0 _ 3 24 Tryz.underlying35 ji jz0 jz1 jz2 rfl (by omega) (.slice A1 out1.length c1) out1.length (ntC out1) (by rfl) (hown.alloc _) ⟨wd.heap.size, 0, none⟩ 1 1 [.int .i64 (a : Int), .int .i64 (a : Int), .int .i64 9] (by rfl) (by rfl) (rm_lit wd _ _ _) (by simp [Value.oneCell']) (by omega) (by have := Hn.out; unfold maxLen; omega) (by have := Hn.out; omega) (by have := HB.out; simp; omega) (wd.heap.size + 1) (by simp) ?_
      intro gg cap' w5 hown5 hgrow hat hlt5
      have hb5 := (hb.alloc (by have := HB.out; omega) (.cells #[.int .i64 (a : Int), .int .i64 (a : Int), .int .i64 9] 127)).grown hgrow (by have := HB.out; simp; omega) (fun y hy => (hown.lt y hy).1)
      have hN5 := hN0 w5 hb5
      have s50 := hN5.cell 4
      have s51 := hN5.cell 4
      simp [genC] at s50 s51
      refine hC.out _ _ (fun _ => ⟨s50, s51⟩) ?_
      clear hC C
      refine wpAnyG_one (i := 12) (by kernel_rfl) rfl (fun C hC => ?_)
      go_simp
      refine hC.out _ _ (fun h => absurd rfl h) ?_
      clear hC C
      refine wpAnyG_done (by kernel_rfl) ?_ _
      clear hN hN5 hgrow hat hlt5 s0 s1 s50 s51 hown hBs
      go_wp2_with fail
      go_meet
      refine ⟨some ⟨gg, 0, none⟩, cap', ?_, ?_, hb5⟩
      · rw [Ho.out, List.length_append]; rfl
      · rw [Ho.out, List.length_append, ntC_snoc]; exact hown5
    · have Ho := Lib.hid (H2'.out k2)
      have e0 : ((k : Int) == 1) = false := by simp; omega
      clear k2 H2 H2' H3 H3'
      go_wp2_with fail
      go_meet
      exact ⟨A1, c1, by rw [Ho.out], by rw [Ho.out]; exact hown, hb⟩
  case rest =>
  clear hown hb k0 H2 H2' Hn
  obtain ⟨A2, c2, rfl, hown, hb⟩ := hcut
  rename World => wd
  have k0 := (hN0 _ hb).cell 0
  simp [genC] at k0
  have Hn := Lib.hid Hn2.out
  go_upto_if 51 with fail
  go_cut [1] (fun v we => ∃ A3 c3, v = .slice A3 out3.length c3 ∧ we.ownsRow B 127 3 (.slice A3 out3.length c3) out3.length (ntC out3) ∧ Below B w we)
  case first =>
    clear k0
    by_cases k2 : k = 5
    · have Ho := Lib.hid (H3.out k2)
      have e0 : ((k : Int) == 5) = true := by simp; omega
      clear k2 H3 H3'
      go_upto_region 6 with fail
      refine wp_region_G 12 (fun w' : World => w'.cell? ⟨q, 6, none⟩ = some (.int .i64 f) ∧ w'.cell? ⟨q, 7, none⟩ = some (.int .i64 u)) (by kernel_rfl) ?_
      have hb := hb.drew
      have hown := own_drew hown
      skip
      generalize World.drew _ = wd at *
      have hBs := hb.size
      have hN := hN0 wd hb
      have s0 := hN.cell 6
      have s1 := hN.cell 7
      simp [genC] at s0 s1
      have hS0 : (fun w' : World => w'.cell? ⟨q, 6, none⟩ = some (.int .i64 f) ∧ w'.cell? ⟨q, 7, none⟩ = some (.int .i64 u)) wd := ⟨s0, s1⟩
      refine wpAnyG_take (i := 0) (v := ?_) rfl (by kernel_rfl) (by kernel_rfl) (by kernel_rfl) (by kernel_rfl) (fun _ _ _ h => h) (Or.inl ⟨by rfl, ?_⟩) hS0 ?_; rotate_left; · (intro w hSw; (try dsimp only at hSw); obtain ⟨s0, s1⟩ := hSw; go_simp; try with_reducible rfl)
      simp only [Act.put, List.setIfInBounds_toArray]
      refine wpAnyG_take (i := 1) (v := ?_) rfl (by kernel_rfl) (by kernel_rfl) (by kernel_rfl) (by kernel_rfl) (fun _ _ _ h => h) (Or.inl ⟨by rfl, ?_⟩) hS0 ?_; rotate_left; · (intro w hSw; (try dsimp only at hSw); obtain ⟨s0, s1⟩ := hSw; go_simp; try with_reducible rfl)
      simp only [Act.put]
      refine wpAnyG_take (i := 2) (v := ?_) rfl (by kernel_rfl) (by kernel_rfl) (by kernel_rfl) (by kernel_rfl) (fun _ _ _ h => h) (Or.inl ⟨by rfl, ?_⟩) hS0 ?_; rotate_left; · (intro w hSw; (try dsimp only at hSw); obtain ⟨s0, s1⟩ := hSw; go_simp; try with_reducible rfl)
      simp only [Act.put]
      refine wpAnyG_take (i := 3) (v := ?_) rfl (by kernel_rfl) (by kernel_rfl) (by kernel_rfl) (by kernel_rfl) (fun _ _ _ h => h) (Or.inl ⟨by rfl, ?_⟩) hS0 ?_; rotate_left; · (intro w hSw; (try dsimp only at hSw); obtain ⟨s0, s1⟩ := hSw; go_simp; try with_reducible rfl)
      simp only [Act.put]
      refine wpAnyG_take (i := 4) (v := ?_) rfl (by kernel_rfl) (by kernel_rfl) (by kernel_rfl) (by kernel_rfl) (fun _ _ _ h => h) (Or.inl ⟨by rfl, ?_⟩) hS0 ?_; rotate_left; · (intro w hSw; (try dsimp only at hSw); obtain ⟨s0, s1⟩ := hSw; go_simp; try with_reducible rfl)
      simp only [Act.put]
      refine wpAnyG_take (i := 5) (v := ?_) rfl (by kernel_rfl) (by kernel_rfl) (by kernel_rfl) (by kernel_rfl) (fun _ _ _ h => h) (Or.inl ⟨by rfl, ?_⟩) hS0 ?_; rotate_left; · (intro w hSw; (try dsimp only at hSw); obtain ⟨s0, s1⟩ := hSw; go_simp; try with_reducible rfl)
      simp only [Act.put]
      refine wpAnyG_take (i := 6) (v := ?_) rfl (by kernel_rfl) (by kernel_rfl) (by kernel_rfl) (by kernel_rfl) (fun _ _ _ h => h) (Or.inl ⟨by rfl, ?_⟩) hS0 ?_; rotate_left; · (intro w hSw; (try dsimp only at hSw); obtain ⟨s0, s1⟩ := hSw; go_simp; try with_reducible rfl)
      simp only [Act.put]
      refine wpAnyG_take (i := 7) (v := ?_) rfl (by kernel_rfl) (by kernel_rfl) (by kernel_rfl) (by kernel_rfl) (fun _ _ _ h => h) (Or.inl ⟨by rfl, ?_⟩) hS0 ?_; rotate_left; · (intro w hSw; (try dsimp only at hSw); obtain ⟨s0, s1⟩ := hSw; go_simp; try with_reducible rfl)
      simp only [Act.put]
      refine wpAnyG_take (i := 8) (v := ?_) rfl (by kernel_rfl) (by kernel_rfl) (by kernel_rfl) (by kernel_rfl) (fun _ _ _ h => h) (Or.inl ⟨by rfl, ?_⟩) hS0 ?_; rotate_left; · (intro w hSw; (try dsimp only at hSw); obtain ⟨s0, s1⟩ := hSw; go_simp; try with_reducible rfl)
      simp only [Act.put]
      refine wpAnyG_take (i := 9) (v := ?_) rfl (by kernel_rfl) (by kernel_rfl) (by kernel_rfl) (by kernel_rfl) (fun _ _ _ h => h) (Or.inl ⟨by rfl, ?_⟩) hS0 ?_; rotate_left; · (intro w hSw; (try dsimp only at hSw); obtain ⟨s0, s1⟩ := hSw; go_simp; try with_reducible rfl)
      simp only [Act.put]
      clear hS0
      refine wpAnyG_one (i := 10) (by kernel_rfl) rfl (fun C hC => ?_)
      go_simp
      refine hC.out _ _ (fun _ => ⟨(cell_alloc _ _ _ _ hN.lt).trans s0, (cell_alloc _ _ _ _ hN.lt).trans s1⟩) ?_
      clear hC C
      refine wpAnyG_one (i := 11) (by kernel_rfl) rfl (fun C hC => ?_)
      refine step_append_lies _ (by rfl) _ _ _ (by rfl) B 127 i0 _ 3 24 Tryz.underlying35 ji jz0 jz1 jz2 rfl (by omega) (.slice A2 out2.length c2) out2.length (ntC out2) (by rfl) (hown.alloc _) ⟨wd.heap.size, 0, none⟩ 1 1 [.int .i64 f, .int .i64 u, .int .i64 3] (by rfl) (by rfl) (rm_lit wd _ _ _) (by simp [Value.oneCell']) (by omega) (by have := Hn.out; unfold maxLen; omega) (by have := Hn.out; omega) (by have := HB.out; simp; omega) (wd.heap.size + 1) (by simp) ?_
      intro gg cap' w5 hown5 hgrow hat hlt5
      have hb5 := (hb.alloc (by have := HB.out; omega) (.cells #[.int .i64 f, .int .i64 u, .int .i64 3] 127)).grown hgrow (by have := HB.out; simp; omega) (fun y hy => (hown.lt y hy).1)
      have hN5 := hN0 w5 hb5
      have s50 := hN5.cell 6
      have s51 := hN5.cell 7
      simp [genC] at s50 s51
      refine hC.out _ _ (fun _ => ⟨s50, s51⟩) ?_
      clear hC C
      refine wpAnyG_one (i := 12) (by kernel_rfl) rfl (fun C hC => ?_)
      go_simp
      refine hC.out _ _ (fun h => absurd rfl h) ?_
      clear hC C
      refine wpAnyG_done (by kernel_rfl) ?_ _
      clear hN hN5 hgrow hat hlt5 s0 s1 s50 s51 hown hBs
      go_wp2_with fail
      go_meet
      refine ⟨some ⟨gg, 0, none⟩, cap', ?_, ?_, hb5⟩
      · rw [Ho.out, List.length_append]; rfl
      · rw [Ho.out, List.length_append, ntC_snoc]; exact hown5
    · have Ho := Lib.hid (H3'.out k2)
      have e0 : ((k : Int) == 5) = false := by simp; omega
      clear k2 H3 H3'
      go_wp2_with fail
      go_meet
      exact ⟨A2, c2, by rw [Ho.out], by rw [Ho.out]; exact hown, hb⟩
  case rest =>
  clear hown hb k0 H3 H3' Hn
  obtain ⟨A3, c3, rfl, hown, hb⟩ := hcut
  go_wp2_with fail
  go_loopg [1, 5] l.length (fun m v1 v5 wr => ∃ (i : Nat) (A1 : Option Addr) (c1 : Nat), v5 = .int .i64 (i : Int) ∧ v1 = .slice A1 (out3 ++ Tr.rnotessP (l.take i) a).length c1 ∧ i ≤ l.length ∧ l.length - i ≤ m ∧ wr.ownsRow B 127 3 (.slice A1 (out3 ++ Tr.rnotessP (l.take i) a).length c1) (out3 ++ Tr.rnotessP (l.take i) a).length (ntC (out3 ++ Tr.rnotessP (l.take i) a)) ∧ Below B w wr)
  case atStart => exact ⟨0, A3, c3, rfl, by simp [Tr.rnotessP], Nat.zero_le _, Nat.le_refl _, by simpa [Tr.rnotessP] using hown, hb⟩
  case round =>
    clear hown hb
    obtain ⟨i, A1, c1, rfl, rfl, hi, hm, hown, hb⟩ := hrel
    have hN := hN0 wr hb
    have k3 := hN.cell 3
    simp [genC] at k3
    clear hN
    by_cases hlt : i < l.length
    · have ii0 : (0 : Int) ≤ (i : Int) := by omega
      have ii1 : (i : Int) < (l.length : Int) := by omega
      obtain ⟨qk, a', fp, hv, hnp, htk, _⟩ := hps.pl hlt
      obtain ⟨br, o, rfl, hFb, hbl, hc⟩ := hrow (by have := hps.len; omega)
      have hcell := hc _ _ hv
      have q0 := (World.cell?_of_block (a := ⟨br, o + i, none⟩) (hb.block br (HF.out br hFb))).trans hcell
      have hnp' := NpF.keep (F' := F) hb.size (fun x hx _ => ⟨hb.block x (HF.out x hx), hx⟩) _ _ _ _ hnp
      have hle := rnotess_le l a (i + 1)
      have Htk : Hid ((out3 ++ Tr.rnotessP (l.take i) a) ++ Tr.rnotesP l[i] a' = out3 ++ Tr.rnotessP (l.take (i + 1)) a) := by show _ = _; rw [htk, List.append_assoc]
      have hcl := IH l[i] (List.getElem_mem hlt) wr F a' fp _ (out3 ++ Tr.rnotessP (l.take i) a) A1 c1 B hnp' hown HF.out (Nat.le_trans HB.out hb.size) (by rw [Htk.out, List.length_append]; have := Hlen.out; rw [List.length_append] at this; omega)
      rw [Htk.out] at hcl
      unfold RnE at hcl
      have Hlt := Lib.hid hlt
      have Hm := Lib.hid hm
      clear Htk htk hnp hnp' hv hcell hc hbl hle hlt hm hi hown
      generalize out3 ++ Tr.rnotessP (l.take i) a = cur at *
      go_wp2_with fail
      refine hcl.mono ?_
      clear hcl q0 k3
      rintro e w4 ⟨A4, c4, rfl, hown4, hb4⟩
      have c1 : IntKind.i64.wrap ((i : Int) + 1) = (i : Int) + 1 := IntWalk.i64_in _ (by have := Hlt.out; have := Hl.out; omega)
      go_wp2_with fail
      go_roundg (l.length - (i + 1))
      case rel => exact ⟨i + 1, A4, c4, by go_num, by rw [List.length_append], by have := Hlt.out; omega, Nat.le_refl _, hown4, hb.trans hb4⟩
      case measure => have := Hlt.out; have := Hm.out; omega
    · obtain rfl : i = l.length := by omega
      have i1 : ¬ (l.length : Int) < (l.length : Int) := by omega
      have i2 : decide (l.length < l.length) = false := by simp
      rw [List.take_length] at hown ⊢
      generalize hcu : out3 ++ Tr.rnotessP l a = cur at *
      have Hcu := Lib.hid hcu
      clear hlt hi hm hcu
      go_wp2_with fail
      go_ret
      unfold RnE
      try rw [Hcu.out]
      exact ⟨A1, c1, rfl, hown, hb⟩
mutual
theorem rn_all : ∀ p : Tr.PT, Tr.wfP p → RnC p
  | .leaf k t x, _ => fun w F a fp v out A c B hn hown hF hBw hlen => by
    obtain ⟨g, rfl, _, hFg, hB⟩ := hn
    have he := Tr.put_end (.leaf k t x) a
    have hw : Tr.wideP (.leaf k t x) = t.length := by unfold Tr.wideP; rfl
    have e : out ++ Tr.rnotesP (.leaf k t x) a = out ++ (if k = 8 then [((a : Int), (((Tr.putP (.leaf k t x) a).end_ : Nat) : Int), 3)] else []) ++ [] ++ [] ++ Tr.rnotessP [] a := by
      unfold Tr.rnotesP Tr.rnotessP
      rw [he, hw]
      simp
    rw [e] at hlen ⊢
    unfold putC at hB
    exact rnotes_core (k := 0) (tok := k) (l := []) (fps := []) (vs := []) hFg hB (fun h => absurd h (by simp)) ⟨rfl, rfl⟩ (by simp) (by simp) (fun h => by rw [if_pos h.2]) (fun h => by rw [if_neg (fun e => h ⟨rfl, e⟩)]) (fun h => by omega) (fun _ => rfl) (fun h => by omega) (fun _ => rfl) hown hF hBw hlen
  | .gap t x d, _ => fun w F a fp v out A c B hn hown hF hBw hlen => by
    obtain ⟨g, rfl, _, hFg, hB⟩ := hn
    have e : out ++ Tr.rnotesP (.gap t x d) a = out ++ [] ++ [((a : Int), (a : Int), 9)] ++ [] ++ Tr.rnotessP [] a := by
      unfold Tr.rnotesP Tr.rnotessP
      simp
    rw [e] at hlen ⊢
    unfold putC at hB
    exact rnotes_core (k := 1) (tok := 0) (l := []) (fps := []) (vs := []) hFg hB (fun h => absurd h (by simp)) ⟨rfl, rfl⟩ (by simp) (by simp) (fun h => by omega) (fun _ => rfl) (fun _ => rfl) (fun h => absurd rfl h) (fun h => by omega) (fun _ => rfl) hown hF hBw hlen
  | .branch k x l, hw => fun w F a fp v out A c B hn hown hF hBw hlen => by
    unfold Tr.wfP at hw
    obtain ⟨g, fps, rfl, _, hFg, Ar, cc, vs, hB, _, hr, hps⟩ := hn
    have e : out ++ Tr.rnotesP (.branch k x l) a = out ++ [] ++ [] ++ (if k = 5 then [((Tr.putP (.branch k x l) a).from_, (Tr.putP (.branch k x l) a).to_, 3)] else []) ++ Tr.rnotessP l a := by
      rw [show Tr.rnotesP (.branch k x l) a = (if k = 5 then [((Tr.putP (.branch k x l) a).from_, (Tr.putP (.branch k x l) a).to_, 3)] else []) ++ Tr.rnotessP l a by unfold Tr.rnotesP; rfl]
      simp
    rw [e] at hlen ⊢
    unfold putC at hB
    exact rnotes_core (k := k) (tok := 0) hFg hB hr hps hw.2.1 (rns_all l hw.2.2) (fun h => by omega) (fun _ => rfl) (fun h => by omega) (fun _ => rfl) (fun h => by rw [if_pos h]) (fun h => by rw [if_neg h]) hown hF hBw hlen
theorem rns_all : ∀ l : List Tr.PT, Tr.wfsP l → ∀ p ∈ l, RnC p
  | [], _, p, hp => absurd hp (by simp)
  | q :: l, hw, p, hp => by
    unfold Tr.wfsP at hw
    rcases List.mem_cons.1 hp with he | hp
    · rw [he]; exact rn_all q hw.1
    · exact rns_all l hw.2 p hp
end
end Go.Proofs.YtalklmeejdmifaaGreatDoor
/-
  WALKS: amanuensissame.Notes: the program's notes and the document's.
-/
namespace Go.Proofs.YtalklmeejdmifaaGreatDoor
open Go.RowKit

theorem ntC_get : ∀ (l : List Tr.Nt) (k : Nat) (h : k < l.length), (ntC l)[k * 3]? = some (.int .i64 l[k].1) ∧ (ntC l)[k * 3 + 1]? = some (.int .i64 l[k].2.1) ∧ (ntC l)[k * 3 + 2]? = some (.int .i64 (l[k].2.2 : Int))
  | [], _, h => absurd h (by simp)
  | n :: l, 0, _ => ⟨rfl, rfl, rfl⟩
  | n :: l, k + 1, h => by
    have ih := ntC_get l k (by simpa using h)
    rw [Nat.succ_mul]
    simpa [ntC] using ih
theorem Rd.nt {w : World} {B : Nat} {A : Option Addr} {l : List Tr.Nt} {k : Nat} (h : Rd w B 3 A l.length (ntC l)) (hk : k < l.length) : ∃ b o, A = some ⟨b, o, none⟩ ∧ b < B ∧ w.cell? ⟨b, o + k * 3, none⟩ = some (.int .i64 l[k].1) ∧ w.cell? ⟨b, o + k * 3 + 1, none⟩ = some (.int .i64 l[k].2.1) ∧ w.cell? ⟨b, o + k * 3 + 2, none⟩ = some (.int .i64 (l[k].2.2 : Int)) := by
  obtain ⟨b, o, e, hb, hc⟩ := h.2 (by omega)
  obtain ⟨h0, h1, h2⟩ := ntC_get l k hk
  have c1 := hc _ _ h1
  have c2 := hc _ _ h2
  rw [← Nat.add_assoc] at c1 c2
  exact ⟨b, o, e, hb, hc _ _ h0, c1, c2⟩

set_option maxHeartbeats 1000000 in
set_option maxRecDepth 100000 in
/-- two rows that are the same -/
theorem sameNotes_walk (A A' : Option Addr) (c c' : Nat) (l : List Tr.Nt) (w : World) (h1 : Rd w w.heap.size 3 A l.length (ntC l)) (h2 : Rd w w.heap.size 3 A' l.length (ntC l)) (hl : l.length ≤ 1000000000) :
    Calls Tryz.prog 18 #[.slice A l.length c, .slice A' l.length c'] w fun e w' => e = .returned (.bool true) ∧ Below w.heap.size w w' := by
  go_enter Tryz.func18, Tryz.ntmps18
  go_wp2
  go_loopw [5] (fun i wr => ∃ k : Nat, k ≤ l.length ∧ i = .int .i64 k ∧ Below w.heap.size w wr) (fun i _ => l.length - (intOf i).toNat)
  case atStart => exact ⟨0, Nat.zero_le _, rfl, Below.refl _ _⟩
  case round =>
    obtain ⟨k, hk, rfl, hb⟩ := hrel
    have hbs := hb.size
    by_cases hlt : k < l.length
    · obtain ⟨b, o, rfl, hbB, c0, c1, c2⟩ := Rd.nt (h1.below hb) hlt
      obtain ⟨b', o', rfl, hbB', d0, d1, d2⟩ := Rd.nt (h2.below hb) hlt
      have i1 : (0 : Int) ≤ (k : Int) := by omega
      have i2 : (k : Int) < (l.length : Int) := by omega
      generalize l[k] = x at *
      obtain ⟨x1, x2, x3⟩ := x
      simp only at c0 c1 c2 d0 d1 d2
      go_wp2
      go_quiet (fail)
      go_wp2
      go_roundw
      case rel => exact ⟨k + 1, by omega, by go_num, below_drewN hb _⟩
      case measure => simp [intOf]; omega
    · obtain rfl : k = l.length := by omega
      go_wp2
      go_ret
      exact ⟨rfl, hb⟩
end Go.Proofs.YtalklmeejdmifaaGreatDoor
