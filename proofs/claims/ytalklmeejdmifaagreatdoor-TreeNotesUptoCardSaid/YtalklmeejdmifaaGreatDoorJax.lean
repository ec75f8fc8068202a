/-
  JOINED of the texts DE DF
-/
import Derived.Test.YtalklmeejdmifaaGreatDoorJaw
import Derived.Deep.AppendLies
import Derived.Deep.QuietTactic
import Derived.BigQuiet
import Derived.Lib.RuneBytes
import Derived.Lib.Strings
import Derived.Deep.DeepCutAuto
import Derived.Lib.ConvBytes
import Derived.Laws.Strings3
import Derived.Laws.Closers25
import Derived.Laws.Closers25b
import Derived.BigCall
import Derived.BigGuard
import Derived.Test.YtalklmeejdmifaaGreatDoorShelfX
import Derived.Shelf.Spec.BytesIndexFunc
import Derived.Deep.RegionHeld3
import Derived.Lib.IndexMore
import Derived.Test.YtalklmeejdmifaaGreatDoorRows
import Derived.WalkKit
import Derived.WalkSpells
import Derived.WalkLawsBesides
import Derived.Below
import Derived.Laws.OwnMore
import Derived.Deep.Draws
import Derived.Lib.Hide
import Derived.IntWalk
import Derived.Test.YtalklmeejdmifaaGreatDoorShelfW
import Derived.Shelf.Strings.SlTrimAscii
import Derived.Lib.LaidTab
import Derived.Lib.AtoiAll
import Derived.Lib.IndexLaws
import Derived.Lib.SlTrimSet
import Derived.Lib.ItoaNum
import Derived.Lib.Atoi
import Derived.WalkMore
import Derived.ScopeJumps
/-
  WALKS of the document's reader: steps of a node that is being made; params.
-/
namespace Go.Proofs.YtalklmeejdmifaaGreatDoor
open Go.RowKit

theorem take_calm (s : Bs) (T : List Tk) (b i : Nat) : Tr.deepsB (Tr.takeP s T b i).1 = false := leaves_calm s T b i _
theorem miss_calm (s : Bs) (T : List Tk) (b i : Nat) (x : Bs) : Tr.deepsB (Tr.missP s T b x i).1 = false := rfl
theorem want_calm (s : Bs) (T : List Tk) (b i : Nat) (x : Bs) : Tr.deepsB (Tr.wantP s T b x i).1 = false := by
  unfold Tr.wantP
  split
  · exact take_calm s T b i
  · rfl
theorem name_calm (s : Bs) (T : List Tk) (b i : Nat) : Tr.deepsB (Tr.nameP s T b i).1 = false := by
  unfold Tr.nameP
  split
  · exact take_calm s T b i
  · rfl
/-- a node that is being made from token i on: what stands, where the reader is, how many parts at most -/
structure StQ (w0 : World) (K : Nat → Prop) (g h kind : Nat) (s : Bs) (T : List Tk) (Ar : Option Addr) (c0 n i cc : Nat) (c1 : Bool) (st : Tr.St) (w : World) : Prop where
  A : Aft K g w0 w
  R : Rdq w K g s T Ar c0 n st.2 (c1 || Tr.deepsB st.1)
  B : Bn w K h kind st.1
  ok : Tr.StOk T i cc st
section
variable {w0 w w' : World} {K : Nat → Prop} {g h kind : Nat} {s : Bs} {T : List Tk} {Ar : Option Addr} {c0 n i cc d : Nat} {c1 : Bool} {st : Tr.St} {f : Nat → Tr.St} {e : Ending}
theorem StQ.len (S : StQ w0 K g h kind s T Ar c0 n i cc c1 st w) (X : Txq s T) (hc : cc ≤ 1000) : st.1.length ≤ 10000000 := by
  have h1 := S.ok.2.2
  have h2 := S.ok.2.1
  have := X.hT
  omega
theorem StQ.step (S : StQ w0 K g h kind s T Ar c0 n i cc c1 st w) (hf : Tr.Adv T f d) (he : StD w K g h kind s T Ar c0 n ((c1 || Tr.deepsB st.1) || Tr.deepsB (f st.2).1) (Tr.thn st f) e w') : e = .returned (.tuple #[]) ∧ StQ w0 K g h kind s T Ar c0 n i (cc + d) c1 (Tr.thn st f) w' :=
  ⟨he.1, S.A.trans he.2.1, by have := he.2.2.1; rwa [Bool.or_assoc, ← Tr.deeps_app] at this, he.2.2.2, S.ok.thn hf⟩
theorem StQ.calm (S : StQ w0 K g h kind s T Ar c0 n i cc c1 st w) (hf : Tr.Adv T f d) (hc : Tr.deepsB (f st.2).1 = false) (he : StD w K g h kind s T Ar c0 n (c1 || Tr.deepsB st.1) (Tr.thn st f) e w') : e = .returned (.tuple #[]) ∧ StQ w0 K g h kind s T Ar c0 n i (cc + d) c1 (Tr.thn st f) w' :=
  S.step hf (by rw [hc, Bool.or_false]; exact he)
theorem StQ.below (S : StQ w0 K g h kind s T Ar c0 n i cc c1 st w) (hd : Below w.heap.size w w') : StQ w0 K g h kind s T Ar c0 n i cc c1 st w' :=
  ⟨S.A.trans (Kept.aft (Kept.below hd S.R.inK) g), S.R.below hd, S.B.below hd, S.ok⟩
theorem StQ.mono (S : StQ w0 K g h kind s T Ar c0 n i cc c1 st w) (hd : cc ≤ d) : StQ w0 K g h kind s T Ar c0 n i d c1 st w := ⟨S.A, S.R, S.B, S.ok.mono hd⟩
theorem StQ.turned (S : StQ w0 K g h kind s T Ar c0 n i cc c1 st w) (k : Nat) : StQ w0 K g h k s T Ar c0 n i cc c1 st (w.setCell ⟨h, 0, none⟩ (.int .i64 (k : Int))) := by
  have hk : Kept K w (w.setCell ⟨h, 0, none⟩ (.int .i64 (k : Int))) := ⟨by simp [World.setCell], fun x hx => Below.heap_setCell w ⟨h, 0, none⟩ _ x fun e => S.B.nk (by have e2 : x = h := e; rw [← e2]; exact hx), Calm.set w _ _⟩
  exact ⟨S.A.trans (hk.aft g), S.R.kept hk, S.B.turned k, S.ok⟩
theorem want_q (b : Nat) (X : Txq s T) (S : StQ w0 K g h kind s T Ar c0 n i cc c1 st w) (word : Bs) (hc : cc ≤ 1000) :
    Calls Tryz.prog 92 #[.pointer (some ⟨g, 0, none⟩), .pointer (some ⟨h, 0, none⟩), .string ⟨word.toArray⟩] w fun e w' => e = .returned (.tuple #[]) ∧ StQ w0 K g h kind s T Ar c0 n i (cc + 1) c1 (Tr.thn st (Tr.wantP s T b word)) w' :=
  (rwant_walk b X S.R S.B word (by have := S.len X hc; omega)).mono fun _ _ he => S.calm (Tr.want_adv s T b word) (want_calm s T b _ word) he
theorem take_q (b : Nat) (X : Txq s T) (S : StQ w0 K g h kind s T Ar c0 n i cc c1 st w) (hc : cc ≤ 1000) :
    Calls Tryz.prog 91 #[.pointer (some ⟨g, 0, none⟩), .pointer (some ⟨h, 0, none⟩)] w fun e w' => e = .returned (.tuple #[]) ∧ StQ w0 K g h kind s T Ar c0 n i (cc + 0) c1 (Tr.thn st (Tr.takeP s T b)) w' :=
  (rtake_walk b X S.R S.B (by have := S.len X hc; omega)).mono fun _ _ he => S.calm (Tr.take_adv s T b) (take_calm s T b _) he
theorem name_q (b : Nat) (X : Txq s T) (S : StQ w0 K g h kind s T Ar c0 n i cc c1 st w) (hc : cc ≤ 1000) :
    Calls Tryz.prog 93 #[.pointer (some ⟨g, 0, none⟩), .pointer (some ⟨h, 0, none⟩)] w fun e w' => e = .returned (.tuple #[]) ∧ StQ w0 K g h kind s T Ar c0 n i (cc + 1) c1 (Tr.thn st (Tr.nameP s T b)) w' :=
  (rname_walk b X S.R S.B (by have := S.len X hc; omega)).mono fun _ _ he => S.calm (Tr.name_adv s T b) (name_calm s T b _) he
theorem is_q (X : Txq s T) (S : StQ w0 K g h kind s T Ar c0 n i cc c1 st w) (word : Bs) :
    Calls Tryz.prog 90 #[.pointer (some ⟨g, 0, none⟩), .string ⟨word.toArray⟩] w fun e w' => e = .returned (.bool (Tr.isP s T [word] st.2)) ∧ StQ w0 K g h kind s T Ar c0 n i cc c1 st w' :=
  (ris_walk X S.R word).mono fun _ _ ⟨h1, h2⟩ => ⟨h1, S.below h2⟩
theorem rthn_nil (i : Nat) (f : Nat → Tr.St) : Tr.thn ([], i) f = f i := by unfold Tr.thn; simp
/-- a node is begun -/
theorem node_q {cut : Bool} (R : Rdq w K g s T Ar c0 n i cut) (kind : Nat) :
    StQ w (Old w) g w.heap.size kind s T Ar c0 n i 0 cut ([], i) (w.alloc (.cells #[.int .i64 (kind : Int), .int .i64 0, .string ⟨#[]⟩, .slice none 0 0, .int .i64 0, .int .i64 0, .int .i64 0, .int .i64 0, .bool false] 121)) := by
  have hd : Below w.heap.size w (w.alloc (.cells #[.int .i64 (kind : Int), .int .i64 0, .string ⟨#[]⟩, .slice none 0 0, .int .i64 0, .int .i64 0, .int .i64 0, .int .i64 0, .bool false] 121)) := (Below.refl _ _).alloc (Nat.le_refl _) _
  refine ⟨Kept.aft (Kept.below hd (Old.in_ w)) g, ?_, Bn.new (Old.in_ w) kind, Nat.le_refl _, R.hi, by simp⟩
  have := R.old.below hd
  rwa [← Bool.or_false cut] at this
end

set_option maxHeartbeats 8000000 in
set_option maxRecDepth 100000 in
theorem rparams_walk {w : World} {K : Nat → Prop} {g : Nat} {s : Bs} {T : List Tk} {Ar : Option Addr} {c0 n i : Nat} {cut : Bool} {h kind : Nat} {pts : List Tr.PT} (b : Nat) (X : Txq s T) (R : Rdq w K g s T Ar c0 n i cut) (hb : Bn w K h kind pts) (hl : pts.length ≤ 40000000) :
    Calls Tryz.prog 94 #[.pointer (some ⟨g, 0, none⟩), .pointer (some ⟨h, 0, none⟩)] w (StD w K g h kind s T Ar c0 n (cut || Tr.deepsB [(Tr.paramsP s T b i).1]) (Tr.thn (pts, i) fun i => Tr.oneP (Tr.paramsP s T b i))) := by
  obtain ⟨i0, ji, jz0, jz1, jz2⟩ := info_parts infoRN
  have S : StQ w (Old w) g w.heap.size 6 s T Ar c0 n i 0 cut ([], i) (w.alloc (.cells #[.int .i64 6, .int .i64 0, .string ⟨#[]⟩, .slice none 0 0, .int .i64 0, .int .i64 0, .int .i64 0, .int .i64 0, .bool false] 121)) := node_q R 6
  obtain ⟨st, hst0⟩ : ∃ st, st = Tr.wantP s T b [40] i := ⟨_, rfl⟩
  obtain ⟨st2, hst2⟩ : ∃ st2, st2 = (if Tr.isP s T [[41]] st.2 then st else Tr.manyP s T b (Tr.nameP s T b) (T.length + 1) (Tr.thn st (Tr.nameP s T b))) := ⟨_, rfl⟩
  obtain ⟨st3, hst3⟩ : ∃ st3, st3 = Tr.thn st2 (Tr.wantP s T b [41]) := ⟨_, rfl⟩
  have HPP : Hid (Tr.paramsP s T b i = (.branch 6 (Tr.placeP s T b i) st3.1, st3.2)) := by show _ = _; rw [hst3, hst2, hst0]; rfl
  have HP : Hid ((Tr.thn (pts, i) fun i => Tr.oneP (Tr.paramsP s T b i)) = (pts ++ [.branch 6 (Tr.placeP s T b i) st3.1], st3.2)) := by
    show _ = _
    unfold Tr.thn Tr.oneP
    dsimp only
    rw [HPP.out]
  have HD : Hid ((cut || Tr.deepsB [(Tr.paramsP s T b i).1]) = (cut || Tr.deepsB st3.1)) := by
    show _ = _
    rw [HPP.out]
    simp only [Tr.deepsB, Tr.deepB, Bool.or_false]
  rw [HP.out, HD.out]
  clear HP HPP HD
  generalize Tr.placeP s T b i = pl at *
  have Hst0 := Lib.hid hst0
  have Hst3 := Lib.hid hst3
  have HT : Hid (Tr.isP s T [[41]] st.2 = true → st = st2) := fun h => by rw [hst2, if_pos h]
  have HF : Hid (Tr.isP s T [[41]] st.2 = false → Tr.manyP s T b (Tr.nameP s T b) (T.length + 1) (Tr.thn st (Tr.nameP s T b)) = st2) := fun h => by rw [hst2, if_neg (by rw [h]; simp)]
  clear hst0 hst2 hst3
  obtain ⟨hp0, hhp0⟩ : ∃ x, x = w.heap.size := ⟨_, rfl⟩
  rw [← hhp0] at S
  obtain ⟨fps, A, c, vs, hb⟩ := hb
  have h0 := hb.blk.lt
  have hr := hb.row_lt
  have hK0 := R.inK
  go_enter Tryz.func94, Tryz.ntmps94
  go_upto_region 1 with fail
  rw [← hhp0]
  clear hhp0
  generalize w.alloc (.cells #[.int .i64 6, .int .i64 0, .string ⟨#[]⟩, .slice none 0 0, .int .i64 0, .int .i64 0, .int .i64 0, .int .i64 0, .bool false] 121) = w1 at *
  have hwt := want_q b X S [40] (by omega)
  rw [rthn_nil, ← Hst0.out] at hwt
  clear S
  go_wp2_with fail
  refine hwt.mono ?_
  clear hwt
  rintro e w2 ⟨rfl, S⟩
  have his := is_q X S [41]
  clear S
  generalize Tr.isP s T [[41]] st.2 = vb at *
  go_wp2_with fail
  refine his.mono ?_
  clear his
  rintro e w3 ⟨rfl, S⟩
  go_upto_if 15 with fail
  go_cut [15] (fun _ wc => StQ w (Old w) g hp0 6 s T Ar c0 n i 2 cut st2 wc)
  case first =>
    cases vb with
    | true =>
      have hst := HT.out rfl
      subst hst
      go_wp2_with fail
      go_meet
      exact S.mono (by omega)
    | false =>
      have Hst := Lib.hid (HF.out rfl)
      clear HT HF
      have hnm := name_q b X S (by omega)
      clear S
      go_wp2_with fail
      refine hnm.mono ?_
      clear hnm
      rintro e w4 ⟨rfl, S⟩
      have his := is_q X S [44]
      go_wp2_with fail
      refine his.mono ?_
      clear his
      rintro e w6 ⟨rfl, S⟩
      go_wp2_with fail
      go_loopg [6] (T.length - (Tr.thn st (Tr.nameP s T b)).2) (fun q v wr => ∃ y : Tr.St, v = .bool (Tr.isP s T [[44]] y.2) ∧ (Tr.thn st (Tr.nameP s T b)).2 ≤ y.2 ∧ T.length - y.2 ≤ q ∧ Hid (Tr.manyP s T b (Tr.nameP s T b) (T.length + 1) y = st2) ∧ StQ w (Old w) g hp0 6 s T Ar c0 n i 2 cut y wr)
      case atStart => exact ⟨_, rfl, Nat.le_refl _, Nat.le_refl _, Hst, S⟩
      case round =>
        clear S Hst
        obtain ⟨y, rfl, hy1, hq, Hy, S⟩ := hrel
        have hyT := S.ok.2.1
        have hna := Tr.name_adv s T b
        have Hgo : Hid (Tr.isP s T [[44]] y.2 = true → Tr.manyP s T b (Tr.nameP s T b) (T.length + 1) (Tr.roundP s T b (Tr.nameP s T b) y) = st2 ∧ y.2 < (Tr.roundP s T b (Tr.nameP s T b) y).2 ∧ Tr.StOk T i 2 (Tr.roundP s T b (Tr.nameP s T b) y)) := fun h => by
          have h1 := Tr.round_adv s T b hna y hyT (Tr.is_lt s T h)
          refine ⟨by rw [← Tr.many_step s T b hna y hyT h]; exact Hy.out, h1.1, by have := S.ok.1; omega, h1.2.1, by have := S.ok.2.2; have := S.ok.1; omega⟩
        have Hst : Hid (Tr.isP s T [[44]] y.2 = false → y = st2) := fun h => by rw [← Tr.many_stop s T b (Tr.nameP s T b) y h]; exact Hy.out
        generalize Tr.isP s T [[44]] y.2 = vc at *
        cases vc with
        | true =>
          obtain ⟨hg1, hg2, hg3⟩ := Hgo.out rfl
          have Hg1 := Lib.hid hg1
          clear Hgo Hst Hy hg1 hna
          have htk := take_q b X S (by omega)
          clear S
          go_wp2_with fail
          refine htk.mono ?_
          clear htk
          rintro e w6 ⟨rfl, S⟩
          have hnm := name_q b X S (by omega)
          clear S
          go_wp2_with fail
          refine hnm.mono ?_
          clear hnm
          rintro e w7 ⟨rfl, S⟩
          have hS : StQ w (Old w) g hp0 6 s T Ar c0 n i 2 cut (Tr.roundP s T b (Tr.nameP s T b) y) w7 := ⟨S.A, S.R, S.B, hg3⟩
          clear S
          have his := is_q X hS [44]
          clear hS
          go_wp2_with fail
          refine his.mono ?_
          clear his
          rintro e w8 ⟨rfl, S⟩
          go_wp2_with fail
          go_roundg (T.length - (Tr.roundP s T b (Tr.nameP s T b) y).2)
          case rel => exact ⟨_, rfl, by omega, Nat.le_refl _, Hg1, S⟩
          case measure => have := hg3.2.1; omega
        | false =>
          have hst := Hst.out rfl
          clear Hgo Hst Hy hna
          subst hst
          go_wp2_with fail
          go_meet
          exact S
  case rest =>
    clear HT HF S
    have S := hcut
    clear hcut
    have hwt := want_q b X S [41] (by omega)
    rw [← Hst3.out] at hwt
    clear S
    go_wp2_with fail
    refine hwt.mono ?_
    clear hwt
    rintro e w4 ⟨rfl, S⟩
    have hpt : Rn w4 (fun x => ¬ Old w x) (.branch 6 pl st3.1) (.pointer (some ⟨hp0, 0, none⟩)) := S.B.part pl
    have hp := Rnew.of hpt hK0 hb
    have hb := hb.aft S.A R.kg (fun _ hx => hx)
    have hA := S.A.old hK0
    have R := R.from_old S.R hA
    clear S hpt h0 hr
    have o1 := hb.blk.cell 3
    simp [nodeC] at o1
    have hhl := hb.blk.lt
    go_wp2_with (at_builtin; refine wpList_append_lies _ rfl _ _ 66 rfl 0 33 i0 _ 1 8 Tryz.underlying66 ji jz0 jz1 jz2 rfl (by omega) (.slice A pts.length c) pts.length vs rfl (hb.own.alloc (.cells #[.pointer (some ⟨hp0, 0, none⟩)] 33)) ⟨w4.heap.size, 0, none⟩ 1 1 [.pointer (some ⟨hp0, 0, none⟩)] rfl rfl (World.news_of_block (heap_alloc_new w4 _)) (by simp [Value.oneCell']) (by omega) (by unfold maxLen; omega) (by omega) (Nat.zero_le _) (w4.heap.size + 1) (by simp) ?_; intro gg cap' w5 hown5 hgrow hat hlt5; obtain ⟨b1, bf, hB, hk, R5⟩ := node_push R hb hp hown5 hgrow hat)
    go_end0
    exact ⟨rfl, hA.trans (hk.aft g), R5, hB⟩
end Go.Proofs.YtalklmeejdmifaaGreatDoor
/-
  WALKS of the document's reader: part, list, call, on a reading of expressions.
-/
namespace Go.Proofs.YtalklmeejdmifaaGreatDoor
open Go.RowKit

/-- expressions can be read by the function F where the reader stands so deep -/
structure ExD (F g : Nat) (s : Bs) (T : List Tk) (Ar : Option Addr) (c0 n : Nat) (e : Nat → Tr.St) : Prop where
  adv : Tr.Adv T e 1
  calls : ∀ (w : World) (K : Nat → Prop) (i h kind : Nat) (pts : List Tr.PT) (cut : Bool), Rdq w K g s T Ar c0 n i cut → Bn w K h kind pts → pts.length ≤ 40000000 →
    Calls Tryz.prog F #[.pointer (some ⟨g, 0, none⟩), .pointer (some ⟨h, 0, none⟩)] w (StD w K g h kind s T Ar c0 n (cut || Tr.deepsB (e i).1) (Tr.thn (pts, i) e))
/-- what a function of the document does that reads a part -/
def PtQ (w : World) (K : Nat → Prop) (g : Nat) (s : Bs) (T : List Tk) (Ar : Option Addr) (c0 n : Nat) (cut : Bool) (r : Tr.PT × Nat) (e : Ending) (w' : World) : Prop :=
  ∃ q, e = .returned (.pointer (some ⟨q, 0, none⟩)) ∧ Aft K g w w' ∧ Rdq w' K g s T Ar c0 n r.2 (cut || Tr.deepB r.1) ∧ Rn w' (fun x => ¬ K x) r.1 (.pointer (some ⟨q, 0, none⟩))
theorem PtQ.old {w w' : World} {K : Nat → Prop} {g : Nat} {s : Bs} {T : List Tk} {Ar : Option Addr} {c0 n i : Nat} {cut : Bool} {r : Tr.PT × Nat} {e : Ending} (R : Rdq w K g s T Ar c0 n i cut) (h : PtQ w (Old w) g s T Ar c0 n cut r e w') : PtQ w K g s T Ar c0 n cut r e w' := by
  obtain ⟨q, h1, h2, h3, h4⟩ := h
  have hA := h2.old R.inK
  exact ⟨q, h1, hA, R.from_old h3 hA, h4.keep (Nat.le_refl _) fun _ hF _ => ⟨rfl, fun hk => hF (R.inK _ hk)⟩⟩
section
variable {w : World} {K : Nat → Prop} {g : Nat} {s : Bs} {T : List Tk} {Ar : Option Addr} {c0 n i : Nat} {cut : Bool} {e : Nat → Tr.St}
theorem ExD.step {w0 : World} {h kind F : Nat} {cc : Nat} {c1 : Bool} {st : Tr.St} (X : Txq s T) (E : ExD F g s T Ar c0 n e) (S : StQ w0 K g h kind s T Ar c0 n i cc c1 st w) (hc : cc ≤ 1000) :
    Calls Tryz.prog F #[.pointer (some ⟨g, 0, none⟩), .pointer (some ⟨h, 0, none⟩)] w fun e' w' => e' = .returned (.tuple #[]) ∧ StQ w0 K g h kind s T Ar c0 n i (cc + 1) c1 (Tr.thn st e) w' :=
  (E.calls w K st.2 h kind st.1 _ S.R S.B (by have := S.len X hc; omega)).mono fun _ _ he => S.step E.adv he

set_option maxHeartbeats 4000000 in
set_option maxRecDepth 100000 in
/-- part: an expression one level deeper -/
theorem rpart_walk (hn : n ≤ 1000) (E : ExD 95 g s T Ar c0 (n + 1) e) : ExD 128 g s T Ar c0 n e := by
  refine ⟨E.adv, fun w K i h kind pts cut R hb hl => ?_⟩
  obtain ⟨_, _, _, g3, _⟩ := R.cells
  have gf := R.rd.frozen 3
  have a0 : IntKind.i64.wrap ((n : Int) + 1) = (n : Int) + 1 := IntWalk.i64_in _ (by omega)
  have ha := (Aft.refl (Old w) g w).set 3 (.int .i64 ((n + 1 : Nat) : Int))
  have R1 := R.deep (n + 1)
  have B1 := hb.aft ha R.kg
  have hx := E.calls _ K i h kind pts cut R1 B1 hl
  have ha := ha.old R.inK
  rw [show ((n + 1 : Nat) : Int) = (n : Int) + 1 by omega] at ha hx
  clear R hb B1 R1
  generalize (cut || Tr.deepsB (e i).1) = cut2 at *
  generalize Tr.thn (pts, i) e = st at *
  go_enter Tryz.func128, Tryz.ntmps128
  go_wp2_with fail
  refine hx.mono ?_
  clear hx g3 gf
  intro e1 w2 h2
  obtain ⟨rfl, hA2, R2, B2⟩ := h2
  have hA := ha.trans hA2
  clear ha hA2
  obtain ⟨_, _, _, g3, _⟩ := R2.cells
  rw [show ((n + 1 : Nat) : Int) = (n : Int) + 1 by omega] at g3
  have gf := R2.rd.frozen 3
  have a1 : IntKind.i64.wrap ((n : Int) + 1 - 1) = (n : Int) := by rw [show (n : Int) + 1 - 1 = n by omega]; exact IntWalk.i64_in _ (by omega)
  go_wp2_with fail
  go_end0
  refine ⟨rfl, hA.set 3 _, R2.deep n, B2.aft ((Aft.refl (Old w2) g w2).set 3 _) R2.kg⟩

set_option maxHeartbeats 8000000 in
set_option maxRecDepth 100000 in
theorem rlist_walk (b : Nat) (X : Txq s T) (E : ExD 128 g s T Ar c0 n e) (R : Rdq w K g s T Ar c0 n i cut) (kl : Nat) (shut : Bs) :
    Calls Tryz.prog 204 #[.pointer (some ⟨g, 0, none⟩), .int .i64 (kl : Int), .string ⟨shut.toArray⟩] w (PtQ w K g s T Ar c0 n cut (Tr.listP s T b e kl shut i)) := by
  refine Calls.mono ?_ fun _ _ h => PtQ.old R h
  have S := node_q R kl
  obtain ⟨st, hst0⟩ : ∃ st, st = Tr.takeP s T b i := ⟨_, rfl⟩
  obtain ⟨st2, hst2⟩ : ∃ st2, st2 = (if Tr.isP s T [shut] st.2 then st else Tr.manyP s T b e (T.length + 1) (Tr.thn st e)) := ⟨_, rfl⟩
  obtain ⟨st3, hst3⟩ : ∃ st3, st3 = Tr.thn st2 (Tr.wantP s T b shut) := ⟨_, rfl⟩
  have HPP : Hid (Tr.listP s T b e kl shut i = (.branch kl (Tr.placeP s T b i) st3.1, st3.2)) := by show _ = _; rw [hst3, hst2, hst0]; rfl
  rw [HPP.out]
  clear HPP
  generalize Tr.placeP s T b i = pl at *
  have Hst0 := Lib.hid hst0
  have Hst3 := Lib.hid hst3
  have HT : Hid (Tr.isP s T [shut] st.2 = true → st = st2) := fun h => by rw [hst2, if_pos h]
  have HF : Hid (Tr.isP s T [shut] st.2 = false → Tr.manyP s T b e (T.length + 1) (Tr.thn st e) = st2) := fun h => by rw [hst2, if_neg (by rw [h]; simp)]
  clear hst0 hst2 hst3
  obtain ⟨hp0, hhp0⟩ : ∃ x, x = w.heap.size := ⟨_, rfl⟩
  rw [← hhp0] at S
  clear R
  go_enter Tryz.func204, Tryz.ntmps204
  go_upto_region 2 with fail
  rw [← hhp0]
  clear hhp0
  generalize w.alloc (.cells #[.int .i64 (kl : Int), .int .i64 0, .string ⟨#[]⟩, .slice none 0 0, .int .i64 0, .int .i64 0, .int .i64 0, .int .i64 0, .bool false] 121) = w1 at *
  have htk := take_q b X S (by omega)
  rw [rthn_nil, ← Hst0.out] at htk
  clear S
  go_wp2_with fail
  refine htk.mono ?_
  clear htk
  rintro e1 w2 ⟨rfl, S⟩
  have his := is_q X S shut
  clear S
  generalize Tr.isP s T [shut] st.2 = vb at *
  go_wp2_with fail
  refine his.mono ?_
  clear his
  rintro e1 w3 ⟨rfl, S⟩
  go_upto_if 20 with fail
  go_cut [20] (fun _ wc => StQ w (Old w) g hp0 kl s T Ar c0 n i 2 cut st2 wc)
  case first =>
    cases vb with
    | true =>
      have hst := HT.out rfl
      subst hst
      go_wp2_with fail
      go_meet
      exact S.mono (by omega)
    | false =>
      have Hst := Lib.hid (HF.out rfl)
      clear HT HF
      have hnm := E.step X S (by omega)
      clear S
      go_wp2_with fail
      refine hnm.mono ?_
      clear hnm
      rintro e1 w4 ⟨rfl, S⟩
      replace S := S.mono (d := 2) (by omega)
      have his := is_q X S [44]
      clear S
      go_wp2_with fail
      refine his.mono ?_
      clear his
      rintro e1 w6 ⟨rfl, S⟩
      go_wp2_with fail
      go_loopg [9] (T.length - (Tr.thn st e).2) (fun q v wr => ∃ y : Tr.St, v = .bool (Tr.isP s T [[44]] y.2) ∧ (Tr.thn st e).2 ≤ y.2 ∧ T.length - y.2 ≤ q ∧ Hid (Tr.manyP s T b e (T.length + 1) y = st2) ∧ StQ w (Old w) g hp0 kl s T Ar c0 n i 2 cut y wr)
      case atStart => exact ⟨_, rfl, Nat.le_refl _, Nat.le_refl _, Hst, S⟩
      case round =>
        clear S Hst
        obtain ⟨y, rfl, hy1, hq, Hy, S⟩ := hrel
        have hyT := S.ok.2.1
        have hna := E.adv
        have Hgo : Hid (Tr.isP s T [[44]] y.2 = true → Tr.manyP s T b e (T.length + 1) (Tr.roundP s T b e y) = st2 ∧ y.2 < (Tr.roundP s T b e y).2 ∧ Tr.StOk T i 2 (Tr.roundP s T b e y)) := fun h => by
          have h1 := Tr.round_adv s T b hna y hyT (Tr.is_lt s T h)
          refine ⟨by rw [← Tr.many_step s T b hna y hyT h]; exact Hy.out, h1.1, by have := S.ok.1; omega, h1.2.1, by have := S.ok.2.2; have := S.ok.1; omega⟩
        have Hst : Hid (Tr.isP s T [[44]] y.2 = false → y = st2) := fun h => by rw [← Tr.many_stop s T b e y h]; exact Hy.out
        generalize Tr.isP s T [[44]] y.2 = vc at *
        cases vc with
        | true =>
          obtain ⟨hg1, hg2, hg3⟩ := Hgo.out rfl
          have Hg1 := Lib.hid hg1
          clear Hgo Hst Hy hg1 hna
          have htk := take_q b X S (by omega)
          clear S
          go_wp2_with fail
          refine htk.mono ?_
          clear htk
          rintro e1 w6 ⟨rfl, S⟩
          have hnm := E.step X S (by omega)
          clear S
          go_wp2_with fail
          refine hnm.mono ?_
          clear hnm
          rintro e1 w7 ⟨rfl, S⟩
          have hS : StQ w (Old w) g hp0 kl s T Ar c0 n i 2 cut (Tr.roundP s T b e y) w7 := ⟨S.A, S.R, S.B, hg3⟩
          clear S
          have his := is_q X hS [44]
          clear hS
          go_wp2_with fail
          refine his.mono ?_
          clear his
          rintro e1 w8 ⟨rfl, S⟩
          go_wp2_with fail
          go_roundg (T.length - (Tr.roundP s T b e y).2)
          case rel => exact ⟨_, rfl, by omega, Nat.le_refl _, Hg1, S⟩
          case measure => have := hg3.2.1; omega
        | false =>
          have hst := Hst.out rfl
          clear Hgo Hst Hy hna
          subst hst
          go_wp2_with fail
          go_meet
          exact S
  case rest =>
    clear HT HF S
    have S := hcut
    clear hcut
    have hwt := want_q b X S shut (by omega)
    rw [← Hst3.out] at hwt
    clear S
    go_wp2_with fail
    refine hwt.mono ?_
    clear hwt
    rintro e1 w4 ⟨rfl, S⟩
    go_wp2_with fail
    go_ret
    refine ⟨hp0, rfl, S.A, ?_, S.B.part pl⟩
    have := S.R
    rwa [show Tr.deepB (.branch kl pl st3.1) = Tr.deepsB st3.1 from by simp only [Tr.deepB]]

/-- two nodes side by side in a new one -/
theorem Rn.two {w0 : World} {a kind : Nat} {p x : Tr.PT} {q u : Nat} (hK : In K w0) (hs : w0.heap.size ≤ w.heap.size) (hp : Rn w (fun y => ¬ K y ∧ y < w0.heap.size) p (.pointer (some ⟨q, 0, none⟩))) (hx : Rn w (fun y => ¬ Old w0 y) x (.pointer (some ⟨u, 0, none⟩))) :
    Rn ((w.alloc (.cells #[.pointer (some ⟨q, 0, none⟩), .pointer (some ⟨u, 0, none⟩)] 33)).alloc (.cells #[.int .i64 (kind : Int), .int .i64 0, .string ⟨#[]⟩, .slice (some ⟨w.heap.size, 0, none⟩) 2 2, .int .i64 0, .int .i64 0, .int .i64 0, .int .i64 0, .bool false] 121)) (fun y => ¬ K y) (.branch kind a [p, x]) (.pointer (some ⟨w.heap.size + 1, 0, none⟩)) := by
  obtain ⟨fp, hp, hn⟩ := hp
  obtain ⟨fx, hx, hm⟩ := hx
  have hd : Below w.heap.size w ((w.alloc (.cells #[.pointer (some ⟨q, 0, none⟩), .pointer (some ⟨u, 0, none⟩)] 33)).alloc (.cells #[.int .i64 (kind : Int), .int .i64 0, .string ⟨#[]⟩, .slice (some ⟨w.heap.size, 0, none⟩) 2 2, .int .i64 0, .int .i64 0, .int .i64 0, .int .i64 0, .bool false] 121)) := ((Below.refl _ _).alloc (Nat.le_refl _) _).alloc (by simp) _
  have hz : (w.alloc (.cells #[.pointer (some ⟨q, 0, none⟩), .pointer (some ⟨u, 0, none⟩)] 33)).heap.size = w.heap.size + 1 := by simp
  have hB := Blk.new (w.alloc (.cells #[.pointer (some ⟨q, 0, none⟩), .pointer (some ⟨u, 0, none⟩)] 33)) 121 #[.int .i64 (kind : Int), .int .i64 0, .string ⟨#[]⟩, .slice (some ⟨w.heap.size, 0, none⟩) 2 2, .int .i64 0, .int .i64 0, .int .i64 0, .int .i64 0, .bool false]
  rw [hz] at hB
  have hR := (Blk.new w 33 #[.pointer (some ⟨q, 0, none⟩), .pointer (some ⟨u, 0, none⟩)]).alloc (.cells #[.int .i64 (kind : Int), .int .i64 0, .string ⟨#[]⟩, .slice (some ⟨w.heap.size, 0, none⟩) 2 2, .int .i64 0, .int .i64 0, .int .i64 0, .int .i64 0, .bool false] 121)
  have hpp := RnF.fp _ _ _ hp
  have hxx := RnF.fp _ _ _ hx
  have hno : ∀ y, K y → y < w.heap.size := fun y hy => Nat.lt_of_lt_of_le (hK y hy) hs
  refine ⟨(w.heap.size + 1) :: (fp ++ fx), ⟨w.heap.size + 1, fp ++ fx, rfl, rfl, fun h => by have := hno _ h; omega, _, 2, [.pointer (some ⟨q, 0, none⟩), .pointer (some ⟨u, 0, none⟩)], hB, by simp, fun _ => ⟨w.heap.size, 0, rfl, fun h => Nat.lt_irrefl _ (hno _ h), ?_, fun j v hv => ?_⟩, fp, fx, _, _, rfl, rfl, ?_, RnsF.one ?_⟩, ?_⟩
  · simp; omega
  · rw [Nat.zero_add, hR.cell j]
    simpa using hv
  · exact RnF.keep hd.size (fun y hF hl => ⟨hd.block y hl, hF.1⟩) _ _ _ hp
  · exact RnF.keep hd.size (fun y hF hl => ⟨hd.block y hl, fun hk => hF (hK _ hk)⟩) _ _ _ hx
  · refine List.nodup_cons.2 ⟨fun hm => ?_, List.nodup_append.2 ⟨hn, hm, fun y hy z hz e => ?_⟩⟩
    · rcases List.mem_append.1 hm with hm | hm
      · have := (hpp _ hm).2; omega
      · have := (hxx _ hm).2; omega
    · subst e
      exact (hxx _ hz).1 (hpp _ hy).1.2

set_option maxHeartbeats 8000000 in
set_option maxRecDepth 100000 in
theorem rcall_walk (b : Nat) (X : Txq s T) (E : ExD 128 g s T Ar c0 n e) (R : Rdq w K g s T Ar c0 n i cut)
    (hone : Calls Tryz.prog 203 #[.pointer (some ⟨g, 0, none⟩)] w (PtQ w K g s T Ar c0 n cut (Tr.partP s T b e i))) :
    Calls Tryz.prog 161 #[.pointer (some ⟨g, 0, none⟩)] w (PtQ w K g s T Ar c0 n cut (Tr.callP s T b e i)) := by
  have Hg1 := Tr.part_goes s T b E.adv i R.hi
  generalize hr : Tr.callP s T b e i = r
  have Hr : Hid (Tr.callsP s T b e (T.length + 1) (Tr.partP s T b e i) = r) := hr
  clear hr
  go_enter Tryz.func161, Tryz.ntmps161
  go_wp2_with fail
  refine hone.mono ?_
  clear hone
  intro e1 w1 h1
  obtain ⟨q, rfl, hA, R, hp⟩ := h1
  generalize Tr.partP s T b e i = q1 at *
  have his := ris_walk X R [40]
  go_wp2_with fail
  refine his.mono ?_
  clear his
  rintro e1 w2 ⟨rfl, hd⟩
  have hA := hA.trans (Kept.aft (Kept.below hd R.inK) g)
  have hp := hp.keep (F' := fun x => ¬ K x) hd.size (fun y hF hl => ⟨hd.block y hl, hF⟩)
  have R := R.below hd
  clear hd
  go_wp2_with fail
  go_loopg [3, 4] (T.length - q1.2) (fun m v u wr => ∃ (x : Tr.PT × Nat) (q : Nat), v = .pointer (some ⟨q, 0, none⟩) ∧ u = .bool (Tr.isP s T [[40]] x.2) ∧ q1.2 ≤ x.2 ∧ T.length - x.2 ≤ m ∧ Hid (Tr.callsP s T b e (T.length + 1) x = r) ∧ Aft K g w wr ∧ Rdq wr K g s T Ar c0 n x.2 (cut || Tr.deepB x.1) ∧ Rn wr (fun x => ¬ K x) x.1 (.pointer (some ⟨q, 0, none⟩)))
  case atStart => exact ⟨q1, q, rfl, rfl, Nat.le_refl _, Nat.le_refl _, Hr, hA, R, hp⟩
  case round =>
    clear hA R hp Hr
    obtain ⟨x, q, rfl, rfl, hx1, hq, Hx, hA, R, hp⟩ := hrel
    have hi := R.hi
    have Hstep : Hid (Tr.isP s T [[40]] x.2 = true → Tr.callsP s T b e (T.length + 1) (Tr.callR s T b e x) = r ∧ x.2 < (Tr.callR s T b e x).2) := fun h => ⟨by rw [← Tr.calls_step s T b E.adv x R.hi h]; exact Hx.out, Tr.list_gt s T b E.adv 12 [41] x.2 R.hi (Tr.is_lt s T h)⟩
    have Hstop : Hid (Tr.isP s T [[40]] x.2 = false → x = r) := fun h => by rw [← Tr.calls_stop s T b e x h]; exact Hx.out
    generalize Tr.isP s T [[40]] x.2 = vb at *
    cases vb with
    | true =>
      obtain ⟨hst, hgt⟩ := Hstep.out rfl
      have Hst := Lib.hid hst
      clear Hstep Hstop Hx hst
      have hxr : Hid (Tr.callR s T b e x = (.branch 11 x.1.from_ [x.1, (Tr.listP s T b e 12 [41] x.2).1], (Tr.listP s T b e 12 [41] x.2).2)) := rfl
      generalize x.1.from_ = fr at *
      have hls : Calls Tryz.prog 204 #[.pointer (some ⟨g, 0, none⟩), .int .i64 12, .string ⟨#[41]⟩] wr (PtQ wr (Old wr) g s T Ar c0 n (cut || Tr.deepB x.1) (Tr.listP s T b e 12 [41] x.2)) := rlist_walk b X E R.old 12 [41]
      generalize Tr.listP s T b e 12 [41] x.2 = lr at *
      go_wp2_with fail
      refine hls.mono ?_
      clear hls
      intro e1 w4 h4
      obtain ⟨u, rfl, hA4, R4, hu⟩ := h4
      have hK0 := R.inK
      have hp4 : Rn w4 (fun y => ¬ K y ∧ y < wr.heap.size) x.1 (.pointer (some ⟨q, 0, none⟩)) := hp.keep hA4.size fun y hF hl => ⟨hA4.oth y hl fun e => hF (e ▸ R.kg), hF, hl⟩
      have h2 : Rn ((w4.alloc (.cells #[.pointer (some ⟨q, 0, none⟩), .pointer (some ⟨u, 0, none⟩)] 33)).alloc (.cells #[.int .i64 11, .int .i64 0, .string ⟨#[]⟩, .slice (some ⟨w4.heap.size, 0, none⟩) 2 2, .int .i64 0, .int .i64 0, .int .i64 0, .int .i64 0, .bool false] 121)) (fun y => ¬ K y) (.branch 11 fr [x.1, lr.1]) (.pointer (some ⟨w4.heap.size + 1, 0, none⟩)) := Rn.two hK0 hA4.size hp4 hu
      have hd : Below w4.heap.size w4 ((w4.alloc (.cells #[.pointer (some ⟨q, 0, none⟩), .pointer (some ⟨u, 0, none⟩)] 33)).alloc (.cells #[.int .i64 11, .int .i64 0, .string ⟨#[]⟩, .slice (some ⟨w4.heap.size, 0, none⟩) 2 2, .int .i64 0, .int .i64 0, .int .i64 0, .int .i64 0, .bool false] 121)) := ((Below.refl _ _).alloc (Nat.le_refl _) _).alloc (by simp) _
      have hA4 := hA4.old hK0
      have R4 := R.from_old R4 hA4
      have hA := (hA.trans hA4).trans (Kept.aft (Kept.below hd R4.inK) g)
      have R4 := R4.below hd
      have R5 : Rdq ((w4.alloc (.cells #[.pointer (some ⟨q, 0, none⟩), .pointer (some ⟨u, 0, none⟩)] 33)).alloc (.cells #[.int .i64 11, .int .i64 0, .string ⟨#[]⟩, .slice (some ⟨w4.heap.size, 0, none⟩) 2 2, .int .i64 0, .int .i64 0, .int .i64 0, .int .i64 0, .bool false] 121)) K g s T Ar c0 n (Tr.callR s T b e x).2 (cut || Tr.deepB (Tr.callR s T b e x).1) := by
        rw [hxr.out]
        have e2 : (cut || Tr.deepB (Tr.PT.branch 11 fr [x.1, lr.1])) = ((cut || Tr.deepB x.1) || Tr.deepB lr.1) := by simp only [Tr.deepB, Tr.deepsB, Bool.or_false, Bool.or_assoc]
        rw [e2]
        exact R4
      have h2 : Rn ((w4.alloc (.cells #[.pointer (some ⟨q, 0, none⟩), .pointer (some ⟨u, 0, none⟩)] 33)).alloc (.cells #[.int .i64 11, .int .i64 0, .string ⟨#[]⟩, .slice (some ⟨w4.heap.size, 0, none⟩) 2 2, .int .i64 0, .int .i64 0, .int .i64 0, .int .i64 0, .bool false] 121)) (fun y => ¬ K y) (Tr.callR s T b e x).1 (.pointer (some ⟨w4.heap.size + 1, 0, none⟩)) := by rw [hxr.out]; exact h2
      clear R4 hd hp4 hA4 hu hxr hp R hi
      generalize Tr.callR s T b e x = y at *
      have his := ris_walk X R5 [40]
      obtain ⟨q5, hq5⟩ : ∃ q5, q5 = w4.heap.size + 1 := ⟨_, rfl⟩
      rw [← hq5] at h2
      go_upto_region 6 with fail
      rw [← hq5]
      clear hq5
      generalize ((w4.alloc (.cells #[.pointer (some ⟨q, 0, none⟩), .pointer (some ⟨u, 0, none⟩)] 33)).alloc (.cells #[.int .i64 11, .int .i64 0, .string ⟨#[]⟩, .slice (some ⟨w4.heap.size, 0, none⟩) 2 2, .int .i64 0, .int .i64 0, .int .i64 0, .int .i64 0, .bool false] 121)) = w5 at *
      go_wp2_with fail
      refine his.mono ?_
      clear his
      rintro e1 w6 ⟨rfl, hd⟩
      have hA := hA.trans (Kept.aft (Kept.below hd R5.inK) g)
      have hp := h2.keep (F' := fun x => ¬ K x) hd.size (fun y hF hl => ⟨hd.block y hl, hF⟩)
      have R := R5.below hd
      clear hd h2 R5
      go_wp2_with fail
      go_roundg (T.length - y.2)
      case rel => exact ⟨y, q5, rfl, rfl, by omega, Nat.le_refl _, Hst, hA, R, hp⟩
      case measure => have h2 : y.2 ≤ T.length := R.hi; omega
    | false =>
      have hst := Hstop.out rfl
      clear Hstep Hstop Hx
      subst hst
      go_wp2_with fail
      go_ret
      exact ⟨q, rfl, hA, R, hp⟩
end
end Go.Proofs.YtalklmeejdmifaaGreatDoor
