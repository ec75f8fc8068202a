/-
  JOINED of the texts NN NP RegG
-/
import Derived.Test.YtgpjcjnimheglaaDoorJag
import Derived.Deep.RegionHeld3
import Derived.StillTailTactics
import Derived.Deep.CutBlock
import Derived.Deep.LoopGhost
import Derived.Lib.ItoaNum
import Derived.Lib.RuneBytes
import Derived.Lib.Strings
import Derived.Lib.ConvBytes
import Derived.Laws.Strings3
import Derived.Laws.Closers25
import Derived.Laws.Closers25b
import Derived.BigCall
import Derived.BigGuard
import Derived.Test.YtgpjcjnimheglaaDoorShelfX
import Derived.Shelf.Spec.BytesIndexFunc
import Derived.Deep.DeepCutAuto
import Derived.Lib.IndexMore
import Derived.Test.YtgpjcjnimheglaaDoorRows
import Derived.WalkKit
import Derived.WalkSpells
import Derived.WalkLawsBesides
import Derived.Below
import Derived.Laws.OwnMore
import Derived.Deep.AppendLies
import Derived.Deep.Draws
import Derived.Lib.Hide
import Derived.Deep.QuietTactic
import Derived.BigQuiet
import Derived.IntWalk
import Derived.Test.YtgpjcjnimheglaaDoorShelfW
import Derived.Shelf.Strings.SlTrimAscii
import Derived.Lib.LaidTab
import Derived.Lib.AtoiAll
import Derived.Lib.IndexLaws
import Derived.Lib.SlTrimSet
import Derived.Lib.Atoi
import Derived.Test.YtgpjcjnimheglaaDoorShelf
import Derived.Shelf.Strings.Builder1
import Derived.WalkMore
import Derived.ScopeJumps
import Derived.Test.YtgpjcjnimheglaaDoorJab
import Derived.Test.YtgpjcjnimheglaaDoorJac
/-
  WALKS of package wire's reader: value's second closure.
-/
namespace Go.Proofs.YtgpjcjnimheglaaDoor
open Go.RowKit

/-- what the second closure works on, with a key more than the value tells yet -/
structure JMid (w0 : World) (g gj br bd d dep : Nat) (kind : Int) (w : World) (st : Jp.KK) (vK0 vK vD : Value) (xs : List Value) : Prop where
  aft : AftR g w0 w
  obj : Blk w gj 25 #[.int .i64 kind, .int .i64 0, .string ⟨#[]⟩, vK0, vD]
  rbox : Blk w br 44 #[.pointer (some ⟨g, 0, none⟩)]
  dbox : Blk w bd 3 #[.int .i64 dep]
  keys : w.ownsRow (w0.heap.size + 3) 9 1 vK st.1.length (txtV st.1)
  kids : w.ownsRow (w0.heap.size + 3) 25 5 vD st.2.length xs
  rows : KidsF w (fun b => w0.heap.size + 3 ≤ b ∧ b ≠ gj ∧ b ≠ br ∧ b ≠ bd ∧ vK.ownBlock ≠ some b ∧ vD.ownBlock ≠ some b) d st.2 xs
  gl : g < w0.heap.size
  lj : w0.heap.size + 3 ≤ gj
  lr : w0.heap.size ≤ br
  ld : w0.heap.size ≤ bd
  nej : vD.ownBlock ≠ some gj
  res : Blk w (w0.heap.size + 2) 25 #[.int .i64 0, .int .i64 0, .string ⟨#[]⟩, .slice none 0 0, .slice none 0 0]
theorem JMid.after {w0 : World} {g gj br bd d dep : Nat} {kind : Int} {w w' : World} {st : Jp.KK} {vK0 vK vD : Value} {xs : List Value} (h : JMid w0 g gj br bd d dep kind w st vK0 vK vD xs) (ha : AftR g w w') : JMid w0 g gj br bd d dep kind w' st vK0 vK vD xs := by
  have hgl := h.gl
  have hlj := h.lj
  have hlr := h.lr
  have hld := h.ld
  refine ⟨h.aft.trans ha, ?_, ?_, ?_, ?_, ?_, h.rows.keep ⟨ha.bel.size, fun b hb hl => ha.oth b hl (by have := hb.1; omega)⟩ (fun b hb _ => hb), hgl, hlj, hlr, hld, h.nej, (ha.oth _ h.res.lt (by omega)).trans h.res⟩
  · exact (ha.oth gj h.obj.lt (by omega)).trans h.obj
  · exact (ha.oth br h.rbox.lt (by omega)).trans h.rbox
  · exact (ha.oth bd h.dbox.lt (by omega)).trans h.dbox
  · exact own_of_block h.keys fun b hb => ha.oth b (h.keys.lt b hb).2 (by have := (h.keys.lt b hb).1; omega)
  · exact own_of_block h.kids fun b hb => ha.oth b (h.kids.lt b hb).2 (by have := (h.kids.lt b hb).1; omega)
/-- a key more -/
theorem JSt.key {w0 : World} {g gj br bd f dep : Nat} {kind : Int} {w5 w6 : World} {st : Jp.KK} {vK vD : Value} {xs : List Value} {g1 cap : Nat} {key : Bs}
    (hJ : JSt w0 g gj br bd f dep kind w5 st vK vD xs) (hgrow : w5.grownBy w6 vK.ownBlock) (hat : vK.ownBlock = some g1 ∨ g1 = w5.heap.size) (hown : w6.ownsRow (w0.heap.size + 3) 9 1 (.slice (some ⟨g1, 0, none⟩) (st.1.length + 1) cap) (st.1.length + 1) (txtV st.1 ++ [.string ⟨key.toArray⟩])) :
    JMid w0 g gj br bd f dep kind w6 (st.1 ++ [key], st.2) vK (.slice (some ⟨g1, 0, none⟩) (st.1.length + 1) cap) vD xs := by
  have hF : ∀ b, (w0.heap.size + 3 ≤ b ∧ b ≠ gj ∧ b ≠ br ∧ b ≠ bd ∧ vK.ownBlock ≠ some b ∧ vD.ownBlock ≠ some b) → b < w5.heap.size → (w0.heap.size + 3 ≤ b ∧ b ≠ gj ∧ b ≠ br ∧ b ≠ bd ∧ (Value.slice (some ⟨g1, 0, none⟩) (st.1.length + 1) cap).ownBlock ≠ some b ∧ vD.ownBlock ≠ some b) := fun b hb hl =>
    ⟨hb.1, hb.2.1, hb.2.2.1, hb.2.2.2.1, fun e => by
      have e : g1 = b := by simpa [Value.ownBlock] using e
      rcases hat with h | h
      · exact hb.2.2.2.2.1 (by rw [h, e])
      · omega, hb.2.2.2.2.2⟩
  refine ⟨hJ.aft.grown hgrow (fun k hk => Nat.le_trans (Nat.le_add_right _ 3) (hJ.keys.lt k hk).1) hJ.gl, hJ.obj.grown hgrow (own_ne hJ.keys hJ.obj (by decide)), hJ.rbox.grown hgrow (own_ne hJ.keys hJ.rbox (by decide)), hJ.dbox.grown hgrow (own_ne hJ.keys hJ.dbox (by decide)), ?_,
    own_far hJ.kids hJ.keys hgrow (by decide), hJ.rows.keep ⟨hgrow.size, fun b hb hl => hgrow.block b hl (fun e => hb.2.2.2.2.1 e.symm)⟩ hF, hJ.gl, hJ.lj, hJ.lr, hJ.ld, hJ.nej, hJ.res.grown hgrow (fun e => by have := (hJ.keys.lt _ e.symm).1; omega)⟩
  rw [List.length_append, show txtV (st.1 ++ [key]) = txtV st.1 ++ [.string ⟨key.toArray⟩] by simp [txtV, strV]]
  exact hown
/-- both told -/
theorem JMid.told {w0 : World} {g gj br bd f dep : Nat} {kind : Int} {w5 w6 : World} {st : Jp.KK} {vK0 vK vD : Value} {xs : List Value} {g1 cap B k : Nat} {s : Bs} {j : JT} {Ak Ad : Option Addr} {ck cd : Nat}
    (hJ : JMid w0 g gj br bd f dep kind w5 st vK0 vK vD xs) (hj : JInF w5 (fun b => B ≤ b) f j Ak ck Ad) (_hB0 : w0.heap.size ≤ B) (hBj : gj < B) (hBr : br < B) (hBd : bd < B) (hBK : ∀ b, vK.ownBlock = some b → b < B) (hBD : ∀ b, vD.ownBlock = some b → b < B)
    (hgrow : w5.grownBy w6 vD.ownBlock) (hat : vD.ownBlock = some g1 ∨ g1 = w5.heap.size) (hown : w6.ownsRow (w0.heap.size + 3) 25 5 (.slice (some ⟨g1, 0, none⟩) (st.2.length + 1) cap) (st.2.length + 1) (xs ++ jcells j Ak ck Ad cd)) (hrd : RdrAt w5 g s k) :
    RdrAt ((w6.setCell ⟨gj, 3, none⟩ vK).setCell ⟨gj, 4, none⟩ (.slice (some ⟨g1, 0, none⟩) (st.2.length + 1) cap)) g s k ∧
    JSt w0 g gj br bd f dep kind ((w6.setCell ⟨gj, 3, none⟩ vK).setCell ⟨gj, 4, none⟩ (.slice (some ⟨g1, 0, none⟩) (st.2.length + 1) cap)) (st.1, st.2 ++ [j]) vK (.slice (some ⟨g1, 0, none⟩) (st.2.length + 1) cap) (xs ++ jcells j Ak ck Ad cd) := by
  have hobj6 := hJ.obj.grown hgrow (fun e => hJ.nej e.symm)
  have hr6 := hJ.rbox.grown hgrow (own_ne hJ.kids hJ.rbox (by decide))
  have hd6 := hJ.dbox.grown hgrow (own_ne hJ.kids hJ.dbox (by decide))
  have hrd6 := Blk.grown hrd hgrow (own_ne hJ.kids hrd (by decide))
  have hK6 := own_far hJ.keys hJ.kids hgrow (by decide)
  have hggj : g ≠ gj := blk_neJ hrd hJ.obj (by decide)
  have n3 : br ≠ gj := blk_neJ hJ.rbox hJ.obj (by decide)
  have n4 : bd ≠ gj := blk_neJ hJ.dbox hJ.obj (by decide)
  have hg1 : gj ≠ g1 := fun e => by
    rcases hat with h | h
    · exact hJ.nej (by rw [h, e])
    · have := hJ.obj.lt; omega
  have hoth : ∀ b, b ≠ gj → ((w6.setCell ⟨gj, 3, none⟩ vK).setCell ⟨gj, 4, none⟩ (.slice (some ⟨g1, 0, none⟩) (st.2.length + 1) cap)).heap[b]? = w6.heap[b]? := fun b hb => (Below.heap_setCell _ _ _ b hb).trans (Below.heap_setCell _ _ _ b hb)
  have hsz : ((w6.setCell ⟨gj, 3, none⟩ vK).setCell ⟨gj, 4, none⟩ (.slice (some ⟨g1, 0, none⟩) (st.2.length + 1) cap)).heap.size = w6.heap.size := by simp [World.setCell]
  have hobj7 := (hobj6.set_ 3 vK).set_ 4 (.slice (some ⟨g1, 0, none⟩) (st.2.length + 1) cap)
  have haft := ((hJ.aft.grown hgrow (fun k hk => Nat.le_trans (Nat.le_add_right _ 3) (hJ.kids.lt k hk).1) hJ.gl).far (Nat.le_trans (Nat.le_add_right _ 3) hJ.lj) hJ.gl 3 vK).far (Nat.le_trans (Nat.le_add_right _ 3) hJ.lj) hJ.gl 4 (.slice (some ⟨g1, 0, none⟩) (st.2.length + 1) cap)
  generalize (w6.setCell ⟨gj, 3, none⟩ vK).setCell ⟨gj, 4, none⟩ (.slice (some ⟨g1, 0, none⟩) (st.2.length + 1) cap) = W at *
  have hFF : ∀ b, (w0.heap.size + 3 ≤ b ∧ b ≠ gj ∧ b ≠ br ∧ b ≠ bd ∧ vK.ownBlock ≠ some b ∧ vD.ownBlock ≠ some b) → b < w5.heap.size → (w0.heap.size + 3 ≤ b ∧ b ≠ gj ∧ b ≠ br ∧ b ≠ bd ∧ vK.ownBlock ≠ some b ∧ (Value.slice (some ⟨g1, 0, none⟩) (st.2.length + 1) cap).ownBlock ≠ some b) := fun b hb hl =>
    ⟨hb.1, hb.2.1, hb.2.2.1, hb.2.2.2.1, hb.2.2.2.2.1, fun e => by
      have e : g1 = b := by simpa [Value.ownBlock] using e
      rcases hat with h | h
      · exact hb.2.2.2.2.2 (by rw [h, e])
      · omega⟩
  have hkf : KeepF (fun b => w0.heap.size + 3 ≤ b ∧ b ≠ gj ∧ b ≠ br ∧ b ≠ bd ∧ vK.ownBlock ≠ some b ∧ vD.ownBlock ≠ some b) w5 W :=
    ⟨by rw [hsz]; exact hgrow.size, fun b hb hl => (hoth b hb.2.1).trans (hgrow.block b hl (fun e => hb.2.2.2.2.2 e.symm))⟩
  have hlj := hJ.lj
  have hjF : JInF w5 (fun b => w0.heap.size + 3 ≤ b ∧ b ≠ gj ∧ b ≠ br ∧ b ≠ bd ∧ vK.ownBlock ≠ some b ∧ vD.ownBlock ≠ some b) f j Ak ck Ad :=
    hj.keep (KeepF.refl _ _) fun b hb _ => ⟨by omega, by omega, by omega, by omega, fun e => by have := hBK b e; omega, fun e => by have := hBD b e; omega⟩
  refine ⟨(hoth g hggj).trans hrd6, haft, by simpa using hobj7, (hoth br n3).trans hr6, (hoth bd n4).trans hd6, ?_, ?_, (hJ.rows.snoc hjF).keep hkf hFF, hJ.gl, hJ.lj, hJ.lr, hJ.ld, fun e => hg1 (by simpa [Value.ownBlock] using e.symm), (hoth _ (by have := hJ.lj; omega)).trans (hJ.res.grown hgrow (fun e => by have := (hJ.kids.lt _ e.symm).1; omega))⟩
  · exact own_of_block hK6 fun b hb => hoth b (fun e => own_ne hJ.keys hJ.obj (by decide) (by rw [hb, e]))
  · rw [List.length_append]
    exact own_of_block hown fun b hb => hoth b (fun e => hg1 (by simpa [Value.ownBlock, e] using hb.symm))

set_option maxHeartbeats 8000000 in
set_option maxRecDepth 100000 in
theorem val2_walk (w0 : World) (g gj br bd f dep : Nat) (s : Bs) (hv : ∀ (i : Nat) (w : World), RdrAt w g s i → i ≤ s.length → Calls Tryd.prog 10 #[.pointer (some ⟨g, 0, none⟩), .int .i64 ((dep : Int) + 1)] w (ValE g s w f (Jp.valF s f (dep + 1) i)))
    (hdep : dep ≤ 40) (st : Jp.KK) (k : Nat) (w : World) (hP : ∃ vK vD xs, JSt w0 g gj br bd f dep 5 w st vK vD xs) (hM : 4 * st.1.length ≤ k ∧ st.2.length ≤ k) (hr : RdrAt w g s k) (hk : k ≤ s.length) (hl : s.length ≤ 16777216) :
    Calls Tryd.prog 26 #[.pointer (some ⟨br, 0, none⟩), .pointer (some ⟨gj, 0, none⟩), .pointer (some ⟨bd, 0, none⟩)] w (OneE g s (fun w st => ∃ vK vD xs, JSt w0 g gj br bd f dep 5 w st vK vD xs) (AftR g w0) (Jp.oneM s (Jp.valF s f (dep + 1)) st k)) := by
  obtain ⟨i0, ji, jz0, jz1, jz2⟩ := info_parts infoJ
  obtain ⟨i1, si, sz0, sz1, sz2⟩ := info_parts infoStr
  obtain ⟨vK, vD, xs, hJ⟩ := hP
  obtain ⟨Ao, co, rfl⟩ := own_form hJ.kids
  obtain ⟨Ak0, ck0, rfl⟩ := own_form hJ.keys
  have hlen := hJ.rows.1
  have hsk := jskip_walk g s k w hr hk hl
  have hle := Jp.skip_le s k hk
  have hkl : st.1.length ≤ 4194304 := by omega
  have hnl : st.2.length ≤ 16777216 := by omega
  generalize hRR : Jp.oneM s (Jp.valF s f (dep + 1)) st k = R
  have HR := Lib.hid hRR
  have HV := Lib.hid hv
  clear hRR hv hM
  unfold Jp.oneM at HR
  generalize Jp.skipP s k = q at *
  have htx := fun w h => jtext_walk g s q w h hle hl
  have hta := Jp.text_ahead s q hle
  generalize hT : Jp.textP s q = T at *
  have cr := hJ.rbox.cell 0
  simp at cr
  clear hT
  go_enter Tryd.func26, Tryd.ntmps26
  go_wp2_with fail
  refine hsk.mono ?_
  clear hsk cr
  rintro e w1 ⟨rfl, hr1, ha1⟩
  have hJ1 := hJ.after ha1
  clear hJ hr ha1
  have cr := hJ1.rbox.cell 0
  have c1 := hr1.c1
  simp at cr
  go_wp2_with fail
  cases T with
  | bad p er =>
    have HB : Hid (R = .bad p er) := HR.out.symm
    refine (htx w1 hr1).mono ?_
    intro e w2 h2
    obtain ⟨ha2, rfl⟩ := h2.is_bad
    go_wp2_with fail
    exact ⟨rfl, OneE.bad HB.out (hJ1.aft.trans ha2)⟩
  | ok key k1 =>
    obtain ⟨hk1, hk2⟩ := hta
    refine (htx w1 hr1).mono ?_
    clear htx
    intro e w2 h2
    obtain ⟨ha2, rfl, hr2⟩ := h2.is_ok
    have hJ2 := hJ1.after ha2
    clear h2 hJ1 hr1 ha2 cr c1
    have HR2 : Hid ((if decide (key ∈ st.1) = true then .bad q 5 else match Jp.needP s 58 k1 with | .bad p e => .bad p e | .ok _ k2 => match Jp.valF s f (dep + 1) k2 with | .bad p e => .bad p e | .ok j k3 => .ok (st.1 ++ [key], st.2 ++ [j]) k3) = R) := by
      show _ = _
      rw [← HR.out]
      simp only [decide_eq_true_eq]
      rfl
    clear HR
    have hct := contains_walk Ak0 ck0 st.1 key w2 (Rd.of_own hJ2.keys) hkl
    rw [show st.1.contains key = decide (key ∈ st.1) by simp] at hct
    have hnd := fun w h => jneed_walk g s k1 58 w h hk2 hl
    have hna := Jp.need_ahead s 58 k1 hk2
    generalize decide (key ∈ st.1) = bb at *
    have cr := hJ2.rbox.cell 0
    have c3 := hJ2.obj.cell 3
    simp at cr c3
    go_wp2_with fail
    refine hct.mono ?_
    clear hct
    rintro e w3 ⟨rfl, rfl⟩
    cases bb with
    | true =>
      have HB : Hid (R = .bad q 5) := HR2.out.symm
      clear HR2
      go_wp2_with fail
      refine (fail_walk q 5 _).mono ?_
      rintro e w4 ⟨rfl, rfl⟩
      go_wp2_with fail
      exact ⟨rfl, OneE.bad HB.out hJ2.aft⟩
    | false =>
      have HR3 : Hid ((match Jp.needP s 58 k1 with | .bad p e => .bad p e | .ok _ k2 => match Jp.valF s f (dep + 1) k2 with | .bad p e => .bad p e | .ok j k3 => .ok (st.1 ++ [key], st.2 ++ [j]) k3) = R) := HR2.out
      clear HR2
      generalize Jp.needP s 58 k1 = N at *
      go_wp2_with fail
      refine (hnd _ hr2).mono ?_
      clear hnd
      intro e w h4
      cases N with
      | bad p er =>
        obtain ⟨ha2, rfl⟩ := h4.is_bad
        have HB : Hid (R = .bad p er) := HR3.out.symm
        go_wp2_with fail
        exact ⟨rfl, OneE.bad HB.out (hJ2.aft.trans ha2)⟩
      | ok u k2 =>
        obtain ⟨ha2, rfl, hr⟩ := h4.is_ok
        obtain ⟨hk3, hk4⟩ := hna
        have hJ := hJ2.after ha2
        have hval := fun w h => HV.out k2 w h hk4
        have HR4 : Hid ((match Jp.valF s f (dep + 1) k2 with | .bad p e => .bad p e | .ok j k3 => .ok (st.1 ++ [key], st.2 ++ [j]) k3) = R) := HR3.out
        generalize Jp.valF s f (dep + 1) k2 = O at *
        clear HR3 HV h4 hJ2 hr2 ha2 cr c3
        have hdep1 : (dep : Int) + 1 ≤ 41 := by omega
        have hdep2 : IntKind.i64.wrap ((dep : Int) + 1) = (dep : Int) + 1 := IntWalk.i64_in _ (by omega)
        go_wp2_with fail
        refine wp_region_C (fun j w' => (j ∉ [7, 8, 9, 13, 14, 15, 16] → w'.cell? ⟨gj, 3, none⟩ = some (.slice Ak0 st.1.length ck0) ∧ w'.cell? ⟨gj, 4, none⟩ = some (.slice Ao st.2.length co)) ∧ (j ∉ [15, 16] → w'.cell? ⟨br, 0, none⟩ = some (.pointer (some ⟨g, 0, none⟩)) ∧ w'.cell? ⟨bd, 0, none⟩ = some (.int .i64 dep))) (by kernel_rfl) ?_
        have hJ1 := hJ.after ((AftR.refl g w).drew)
        have hr1 := hr.drew
        clear hJ hr
        generalize World.drew w = w1 at *
        have c3 := hJ1.obj.cell 3
        have c4 := hJ1.obj.cell 4
        have cr := hJ1.rbox.cell 0
        have cb := hJ1.dbox.cell 0
        simp at c3 c4 cr cb
        have hS2 : (fun w' : World => w'.cell? ⟨br, 0, none⟩ = some (.pointer (some ⟨g, 0, none⟩)) ∧ w'.cell? ⟨bd, 0, none⟩ = some (.int .i64 dep)) w1 := ⟨cr, cb⟩
        have hS1 : (fun w' : World => (w'.cell? ⟨gj, 3, none⟩ = some (.slice Ak0 st.1.length ck0) ∧ w'.cell? ⟨gj, 4, none⟩ = some (.slice Ao st.2.length co)) ∧ w'.cell? ⟨br, 0, none⟩ = some (.pointer (some ⟨g, 0, none⟩)) ∧ w'.cell? ⟨bd, 0, none⟩ = some (.int .i64 dep)) w1 := ⟨⟨c3, c4⟩, cr, cb⟩
        refine wpAnyC_take (fun w' : World => w'.cell? ⟨br, 0, none⟩ = some (.pointer (some ⟨g, 0, none⟩)) ∧ w'.cell? ⟨bd, 0, none⟩ = some (.int .i64 dep)) [15, 16] (i := 7) (v := ?_) rfl (by kernel_rfl) (by kernel_rfl) (by kernel_rfl) (by kernel_rfl) (fun _ _ _ h => h) (fun j w' _ _ hL h => h.2 hL) (fun w' h => ⟨fun h' => absurd (by simp) h', fun _ => h⟩) (Or.inl ⟨by rfl, ?_⟩) hS2 ?_; rotate_left; · (intro w hSw; (try dsimp only at hSw); obtain ⟨s0, s1⟩ := hSw; go_simp; try with_reducible rfl)
        simp only [Act.put, List.setIfInBounds_toArray]
        refine wpAnyC_take (fun w' : World => w'.cell? ⟨br, 0, none⟩ = some (.pointer (some ⟨g, 0, none⟩)) ∧ w'.cell? ⟨bd, 0, none⟩ = some (.int .i64 dep)) [15, 16] (i := 8) (v := ?_) rfl (by kernel_rfl) (by kernel_rfl) (by kernel_rfl) (by kernel_rfl) (fun _ _ _ h => h) (fun j w' _ _ hL h => h.2 hL) (fun w' h => ⟨fun h' => absurd (by simp) h', fun _ => h⟩) (Or.inl ⟨by rfl, ?_⟩) hS2 ?_; rotate_left; · (intro w hSw; (try dsimp only at hSw); obtain ⟨s0, s1⟩ := hSw; go_simp; try with_reducible rfl)
        simp only [Act.put]
        refine wpAnyC_take (fun w' : World => w'.cell? ⟨br, 0, none⟩ = some (.pointer (some ⟨g, 0, none⟩)) ∧ w'.cell? ⟨bd, 0, none⟩ = some (.int .i64 dep)) [15, 16] (i := 9) (v := ?_) rfl (by kernel_rfl) (by kernel_rfl) (by kernel_rfl) (by kernel_rfl) (fun _ _ _ h => h) (fun j w' _ _ hL h => h.2 hL) (fun w' h => ⟨fun h' => absurd (by simp) h', fun _ => h⟩) (Or.inl ⟨by rfl, ?_⟩) hS2 ?_; rotate_left; · (intro w hSw; (try dsimp only at hSw); obtain ⟨s0, s1⟩ := hSw; go_simp; try with_reducible rfl)
        simp only [Act.put]
        refine wpAnyC_take (fun w' : World => (w'.cell? ⟨gj, 3, none⟩ = some (.slice Ak0 st.1.length ck0) ∧ w'.cell? ⟨gj, 4, none⟩ = some (.slice Ao st.2.length co)) ∧ w'.cell? ⟨br, 0, none⟩ = some (.pointer (some ⟨g, 0, none⟩)) ∧ w'.cell? ⟨bd, 0, none⟩ = some (.int .i64 dep)) [13, 14, 15, 16] (i := 0) (v := ?_) rfl (by kernel_rfl) (by kernel_rfl) (by kernel_rfl) (by kernel_rfl) (fun _ _ _ h => h) (fun j w' hp _ hL h => ⟨h.1 (fun hm => by simp only [List.mem_cons, List.not_mem_nil, or_false] at hm hL; rcases hm with rfl | rfl | rfl | hm; (exact absurd hp (by decide)); (exact absurd hp (by decide)); (exact absurd hp (by decide)); exact hL hm), h.2 (fun hm => hL (by simp only [List.mem_cons, List.not_mem_nil, or_false] at hm ⊢; omega))⟩) (fun w' h => ⟨fun _ => h.1, fun _ => h.2⟩) (Or.inl ⟨by rfl, ?_⟩) hS1 ?_; rotate_left; · (intro w hSw; (try dsimp only at hSw); obtain ⟨⟨s0, s1⟩, s2, s3⟩ := hSw; go_simp; try with_reducible rfl)
        simp only [Act.put]
        refine wpAnyC_take (fun w' : World => (w'.cell? ⟨gj, 3, none⟩ = some (.slice Ak0 st.1.length ck0) ∧ w'.cell? ⟨gj, 4, none⟩ = some (.slice Ao st.2.length co)) ∧ w'.cell? ⟨br, 0, none⟩ = some (.pointer (some ⟨g, 0, none⟩)) ∧ w'.cell? ⟨bd, 0, none⟩ = some (.int .i64 dep)) [13, 14, 15, 16] (i := 1) (v := ?_) rfl (by kernel_rfl) (by kernel_rfl) (by kernel_rfl) (by kernel_rfl) (fun _ _ _ h => h) (fun j w' hp _ hL h => ⟨h.1 (fun hm => by simp only [List.mem_cons, List.not_mem_nil, or_false] at hm hL; rcases hm with rfl | rfl | rfl | hm; (exact absurd hp (by decide)); (exact absurd hp (by decide)); (exact absurd hp (by decide)); exact hL hm), h.2 (fun hm => hL (by simp only [List.mem_cons, List.not_mem_nil, or_false] at hm ⊢; omega))⟩) (fun w' h => ⟨fun _ => h.1, fun _ => h.2⟩) (Or.inl ⟨by rfl, ?_⟩) hS1 ?_; rotate_left; · (intro w hSw; (try dsimp only at hSw); obtain ⟨⟨s0, s1⟩, s2, s3⟩ := hSw; go_simp; try with_reducible rfl)
        simp only [Act.put]
        refine wpAnyC_take (fun w' : World => (w'.cell? ⟨gj, 3, none⟩ = some (.slice Ak0 st.1.length ck0) ∧ w'.cell? ⟨gj, 4, none⟩ = some (.slice Ao st.2.length co)) ∧ w'.cell? ⟨br, 0, none⟩ = some (.pointer (some ⟨g, 0, none⟩)) ∧ w'.cell? ⟨bd, 0, none⟩ = some (.int .i64 dep)) [13, 14, 15, 16] (i := 2) (v := ?_) rfl (by kernel_rfl) (by kernel_rfl) (by kernel_rfl) (by kernel_rfl) (fun _ _ _ h => h) (fun j w' hp _ hL h => ⟨h.1 (fun hm => by simp only [List.mem_cons, List.not_mem_nil, or_false] at hm hL; rcases hm with rfl | rfl | rfl | hm; (exact absurd hp (by decide)); (exact absurd hp (by decide)); (exact absurd hp (by decide)); exact hL hm), h.2 (fun hm => hL (by simp only [List.mem_cons, List.not_mem_nil, or_false] at hm ⊢; omega))⟩) (fun w' h => ⟨fun _ => h.1, fun _ => h.2⟩) (Or.inl ⟨by rfl, ?_⟩) hS1 ?_; rotate_left; · (intro w hSw; (try dsimp only at hSw); obtain ⟨⟨s0, s1⟩, s2, s3⟩ := hSw; go_simp; try with_reducible rfl)
        simp only [Act.put]
        refine wpAnyC_take (fun w' : World => (w'.cell? ⟨gj, 3, none⟩ = some (.slice Ak0 st.1.length ck0) ∧ w'.cell? ⟨gj, 4, none⟩ = some (.slice Ao st.2.length co)) ∧ w'.cell? ⟨br, 0, none⟩ = some (.pointer (some ⟨g, 0, none⟩)) ∧ w'.cell? ⟨bd, 0, none⟩ = some (.int .i64 dep)) [13, 14, 15, 16] (i := 5) (v := ?_) rfl (by kernel_rfl) (by kernel_rfl) (by kernel_rfl) (by kernel_rfl) (fun _ _ _ h => h) (fun j w' hp _ hL h => ⟨h.1 (fun hm => by simp only [List.mem_cons, List.not_mem_nil, or_false] at hm hL; rcases hm with rfl | rfl | rfl | hm; (exact absurd hp (by decide)); (exact absurd hp (by decide)); (exact absurd hp (by decide)); exact hL hm), h.2 (fun hm => hL (by simp only [List.mem_cons, List.not_mem_nil, or_false] at hm ⊢; omega))⟩) (fun w' h => ⟨fun _ => h.1, fun _ => h.2⟩) (Or.inl ⟨by rfl, ?_⟩) hS1 ?_; rotate_left; · (intro w hSw; (try dsimp only at hSw); obtain ⟨⟨s0, s1⟩, s2, s3⟩ := hSw; go_simp; try with_reducible rfl)
        simp only [Act.put]
        refine wpAnyC_take (fun w' : World => (w'.cell? ⟨gj, 3, none⟩ = some (.slice Ak0 st.1.length ck0) ∧ w'.cell? ⟨gj, 4, none⟩ = some (.slice Ao st.2.length co)) ∧ w'.cell? ⟨br, 0, none⟩ = some (.pointer (some ⟨g, 0, none⟩)) ∧ w'.cell? ⟨bd, 0, none⟩ = some (.int .i64 dep)) [13, 14, 15, 16] (i := 6) (v := ?_) rfl (by kernel_rfl) (by kernel_rfl) (by kernel_rfl) (by kernel_rfl) (fun _ _ _ h => h) (fun j w' hp _ hL h => ⟨h.1 (fun hm => by simp only [List.mem_cons, List.not_mem_nil, or_false] at hm hL; rcases hm with rfl | rfl | rfl | hm; (exact absurd hp (by decide)); (exact absurd hp (by decide)); (exact absurd hp (by decide)); exact hL hm), h.2 (fun hm => hL (by simp only [List.mem_cons, List.not_mem_nil, or_false] at hm ⊢; omega))⟩) (fun w' h => ⟨fun _ => h.1, fun _ => h.2⟩) (Or.inl ⟨by rfl, ?_⟩) hS1 ?_; rotate_left; · (intro w hSw; (try dsimp only at hSw); obtain ⟨⟨s0, s1⟩, s2, s3⟩ := hSw; go_simp; try with_reducible rfl)
        simp only [Act.put]
        clear hS1 hS2
        refine wpAnyC_one (i := 3) (by kernel_rfl) rfl (fun K hK => ?_)
        go_simp
        obtain ⟨T, hT⟩ : ∃ T, T = w1.heap.size := ⟨_, rfl⟩
        rw [← hT]
        have hBT : Blk (World.alloc w1 (.cells #[.string ⟨key.toArray⟩] 9)) T 9 #[.string ⟨key.toArray⟩] := by rw [hT]; exact Blk.new _ _ _
        have hbl : Below w1.heap.size w1 (World.alloc w1 (.cells #[.string ⟨key.toArray⟩] 9)) := (Below.refl _ _).alloc (Nat.le_refl _) _
        have hJ2 := hJ1.after (AftR.of_below (g := g) hbl (Nat.le_of_lt hr1.lt))
        have hr2 := hr1.below hbl
        clear hT hJ1 hr1 hbl c3 c4 cr cb
        generalize World.alloc w1 (.cells #[.string ⟨key.toArray⟩] 9) = w2 at *
        have c3 := hJ2.obj.cell 3
        have c4 := hJ2.obj.cell 4
        have cr := hJ2.rbox.cell 0
        have cb := hJ2.dbox.cell 0
        simp at c3 c4 cr cb
        refine hK.out _ _ ⟨fun _ => ⟨c3, c4⟩, fun _ => ⟨cr, cb⟩⟩ ?_
        clear hK K
        have hbX : w0.heap.size + 3 ≤ w2.heap.size := by have h1 := hJ2.lj; have h2 := hJ2.obj.lt; omega
        refine wpAnyC_one (i := 4) (by kernel_rfl) rfl (fun K hK => ?_)
        refine step_append_lies _ (by rfl) _ _ _ (by rfl) (w0.heap.size + 3) 9 i1 _ 1 16 Tryd.underlying22 si sz0 sz1 sz2 rfl (by omega) (.slice Ak0 st.1.length ck0) st.1.length (txtV st.1) (by rfl) hJ2.keys ⟨T, 0, none⟩ 1 1 [.string ⟨key.toArray⟩] (by rfl) (by rfl) (World.news_of_block (cs := #[.string ⟨key.toArray⟩]) (t := 9) (fr := (0, 0)) hBT) (by simp [Value.oneCell']) (by omega) (by unfold maxLen; omega) (by omega) hbX _ rfl ?_; intro g1 cap1 w3 hown hgrow hat hlt
        have hM3 := hJ2.key hgrow hat hown
        have hr3 : RdrAt w3 g s k2 := Blk.grown hr2 hgrow (own_ne hJ2.keys hr2 (by decide))
        clear hJ2 hr2 c3 c4 cr cb hgrow hat hown hBT hbX hlt
        have c3 := hM3.obj.cell 3
        have c4 := hM3.obj.cell 4
        have cr := hM3.rbox.cell 0
        have cb := hM3.dbox.cell 0
        simp at c3 c4 cr cb
        refine hK.out _ _ ⟨fun _ => ⟨c3, c4⟩, fun _ => ⟨cr, cb⟩⟩ ?_
        clear hK K
        refine wpAnyC_take (fun w' : World => w'.cell? ⟨br, 0, none⟩ = some (.pointer (some ⟨g, 0, none⟩)) ∧ w'.cell? ⟨bd, 0, none⟩ = some (.int .i64 dep)) [14, 15, 16] (i := 13) (v := ?_) rfl (by kernel_rfl) (by kernel_rfl) (by kernel_rfl) (by kernel_rfl) (fun _ _ _ h => h) (fun j w' _ _ hL h => h.2 (fun hm => hL (by simp only [List.mem_cons, List.not_mem_nil, or_false] at hm ⊢; omega))) (fun w' h => ⟨fun h' => absurd (by simp) h', fun _ => h⟩) (Or.inl ⟨by rfl, ?_⟩) ⟨cr, cb⟩ ?_; rotate_left; · (intro w hSw; go_simp; try with_reducible rfl)
        simp only [Act.put]
        have hB1 := hM3.obj.lt
        have hB2 := hM3.rbox.lt
        have hB3 := hM3.dbox.lt
        have HBK : Hid (∀ b, (Value.slice (some ⟨g1, 0, none⟩) (st.1.length + 1) cap1).ownBlock = some b → b < w3.heap.size) := fun b h => (hM3.keys.lt b h).2
        have HBD : Hid (∀ b, (Value.slice Ao st.2.length co).ownBlock = some b → b < w3.heap.size) := fun b h => (hM3.kids.lt b h).2
        have hB0 : w0.heap.size ≤ w3.heap.size := hM3.aft.bel.size
        refine wpAnyC_one (i := 10) (by kernel_rfl) rfl (fun K hK => ?_)
        go_simp
        ((with_reducible refine (hval w3 hr3).mono ?_))
        intro e w4 h2
        cases O with
        | bad p er =>
          obtain ⟨ha2, rfl⟩ := h2.is_bad
          exact ⟨rfl, OneE.bad HR4.out.symm (hM3.aft.trans ha2)⟩
        | ok j k5 =>
          obtain ⟨ha2, hr4, Ak, ck, Ad, cd, rfl, hj⟩ := h2.is_ok
          have HB : Hid (R = .ok (st.1 ++ [key], st.2 ++ [j]) k5) := HR4.out.symm
          have hM4 := hM3.after ha2
          clear c3 c4 cr cb hval h2 hM3 hr3 HR4
          have c3 := hM4.obj.cell 3
          have c4 := hM4.obj.cell 4
          have cr := hM4.rbox.cell 0
          have cb := hM4.dbox.cell 0
          simp at c3 c4 cr cb
          refine hK.out _ _ ⟨fun _ => ⟨c3, c4⟩, fun _ => ⟨cr, cb⟩⟩ ?_
          clear hK K
          refine wpAnyC_one (i := 11) (by kernel_rfl) rfl (fun K hK => ?_)
          unfold jVal strV
          go_simp
          obtain ⟨T, hT⟩ : ∃ T, T = w4.heap.size := ⟨_, rfl⟩
          rw [← hT]
          have hBT : Blk (World.alloc w4 (.cells #[.int .i64 j.kind, .int .i64 j.num, .string ⟨j.text.toArray⟩, .slice Ak j.keys.length ck, .slice Ad j.kids.length cd] 25)) T 25 #[.int .i64 j.kind, .int .i64 j.num, .string ⟨j.text.toArray⟩, .slice Ak j.keys.length ck, .slice Ad j.kids.length cd] := by rw [hT]; exact Blk.new _ _ _
          have hbl : Below w4.heap.size w4 (World.alloc w4 (.cells #[.int .i64 j.kind, .int .i64 j.num, .string ⟨j.text.toArray⟩, .slice Ak j.keys.length ck, .slice Ad j.kids.length cd] 25)) := (Below.refl _ _).alloc (Nat.le_refl _) _
          have hMX := hM4.after (AftR.of_below (g := g) hbl (Nat.le_of_lt hr4.lt))
          have hrX := hr4.below hbl
          have hjX := hj.keep (F' := fun b => w3.heap.size ≤ b) (KeepF.below hbl) (fun b hb _ => hb)
          clear hT hM4 hr4 hj hbl c3 c4 cr cb
          generalize World.alloc w4 (.cells #[.int .i64 j.kind, .int .i64 j.num, .string ⟨j.text.toArray⟩, .slice Ak j.keys.length ck, .slice Ad j.kids.length cd] 25) = wX at *
          have c3 := hMX.obj.cell 3
          have c4 := hMX.obj.cell 4
          have cr := hMX.rbox.cell 0
          have cb := hMX.dbox.cell 0
          simp at c3 c4 cr cb
          refine hK.out _ _ ⟨fun _ => ⟨c3, c4⟩, fun _ => ⟨cr, cb⟩⟩ ?_
          clear hK K
          have hbX : w0.heap.size + 3 ≤ wX.heap.size := by have h1 := hMX.lj; have h2 := hMX.obj.lt; omega
          refine wpAnyC_one (i := 12) (by kernel_rfl) rfl (fun K hK => ?_)
          refine step_append_lies _ (by rfl) _ _ _ (by rfl) (w0.heap.size + 3) 25 i0 _ 5 80 Tryd.underlying23 ji jz0 jz1 jz2 rfl (by omega) (.slice Ao st.2.length co) st.2.length xs (by rfl) hMX.kids ⟨T, 0, none⟩ 1 1 (jcells j Ak ck Ad cd) (by rfl) (by rfl) (World.news_of_block (cs := #[.int .i64 j.kind, .int .i64 j.num, .string ⟨j.text.toArray⟩, .slice Ak j.keys.length ck, .slice Ad j.kids.length cd]) (t := 25) (fr := (0, 0)) hBT) (by simp [jcells, strV, Value.oneCell']) (by omega) (by unfold maxLen; omega) (by omega) hbX _ rfl ?_; intro g2 cap2 w6 hown hgrow hat hlt
          have HE := hMX.told (cd := cd) hjX hB0 hB1 hB2 hB3 HBK.out HBD.out hgrow hat hown hrX
          have hobj6 := hMX.obj.grown hgrow (fun e => hMX.nej e.symm)
          have hr6 := hMX.rbox.grown hgrow (own_ne hMX.kids hMX.rbox (by decide))
          have hd6 := hMX.dbox.grown hgrow (own_ne hMX.kids hMX.dbox (by decide))
          have n3 : br ≠ gj := blk_neJ hMX.rbox hMX.obj (by decide)
          have n4 : bd ≠ gj := blk_neJ hMX.dbox hMX.obj (by decide)
          clear c3 c4 cr cb hMX hrX hjX hBT hown hgrow hat
          have c3 := hobj6.cell 3
          have c4 := hobj6.cell 4
          have cr := hr6.cell 0
          have cb := hd6.cell 0
          simp at c3 c4 cr cb
          refine hK.out _ _ ⟨fun _ => ⟨c3, c4⟩, fun _ => ⟨cr, cb⟩⟩ ?_
          clear hK K
          have f3 := hobj6.frozen 3
          have f4 := hobj6.frozen 4
          refine wpAnyC_one (i := 14) (by kernel_rfl) rfl (fun K hK => ?_)
          go_simp
          refine hK.out _ _ ⟨fun h => absurd (by simp) h, fun _ => ⟨?_, ?_⟩⟩ ?_
          · rw [World.cell?_of_block (a := ⟨br, 0, none⟩) (Below.heap_setCell _ _ _ br n3)]; exact cr
          · rw [World.cell?_of_block (a := ⟨bd, 0, none⟩) (Below.heap_setCell _ _ _ bd n4)]; exact cb
          clear hK K
          refine wpAnyC_take (fun _ => True) [] (i := 15) (v := ?_) rfl (by kernel_rfl) (by kernel_rfl) (by kernel_rfl) (by kernel_rfl) (fun _ _ _ h => h) (fun _ _ _ _ _ _ => trivial) (fun _ _ => ⟨fun h => absurd (by simp) h, fun h => absurd (by simp) h⟩) (Or.inl ⟨by rfl, ?_⟩) trivial ?_; rotate_left; · (intro w hSw; go_simp; try with_reducible rfl)
          simp only [Act.put]
          refine wpAnyC_one (i := 16) (by kernel_rfl) rfl (fun K hK => ?_)
          go_simp
          refine hK.out _ _ ⟨fun h => absurd (by simp) h, fun h => absurd (by simp) h⟩ ?_
          clear hK K
          refine wpAnyC_done (by kernel_rfl) ?_ _
          go_wp2_with fail
          go_end0
          exact OneE.ok HB.out HE.1 ⟨_, _, _, HE.2⟩
end Go.Proofs.YtgpjcjnimheglaaDoor
/-
  THE PLAIN LAW of a number of a message: digits, read by strconv.Atoi.
-/
namespace Go.Proofs.YtgpjcjnimheglaaDoor.Jp
open Go.Lib

theorem dig_dgs (b : UInt8) (h : digB b = true) : Wire.dgs.contains b = true := by
  have hh : ∀ i : Fin 256, digB (UInt8.ofNat i.val) = true → Wire.dgs.contains (UInt8.ofNat i.val) = true := by decide +kernel
  have := hh ⟨b.toNat, b.toNat_lt⟩
  simp only [UInt8.ofNat_toNat] at this
  exact this h
theorem dec_val : ∀ (l : List UInt8) (a : Nat), (∀ b ∈ l, digB b = true) → decFrom a l = some (l.foldl (fun n b => n * 10 + (b.toNat - 48)) a)
  | [], a, _ => rfl
  | b :: t, a, h => by
    obtain ⟨d, hd, h1, h2⟩ := Wire.dg_val b (dig_dgs b (h b (by simp)))
    obtain ⟨_, _, hd2⟩ := digitVal_eq hd
    have e : a * 10 + (b.toNat - 48) = a * 10 + d := by omega
    simp only [decFrom, hd, List.foldl_cons, e]
    exact dec_val t _ fun x hx => h x (by simp [hx])
theorem valN_lt (l : List UInt8) (h : ∀ b ∈ l, digB b = true) : valN l < 10 ^ l.length := by
  have := decFrom_lt l 0 _ (dec_val l 0 h)
  simpa [valN] using this
theorem pow18 {n : Nat} (h : n ≤ 18) : 10 ^ n ≤ 1000000000000000000 := by
  have := Nat.pow_le_pow_right (show 0 < 10 by omega) h
  have e : (10 : Nat) ^ 18 = 1000000000000000000 := by decide
  omega
theorem mag_digits (l : List UInt8) (h0 : l ≠ []) (h : ∀ b ∈ l, digB b = true) (hl : l.length ≤ 18) : parseMag l = .ok (valN l) := by
  have hp := Wire.parse_dec l 0 (valN l) (fun b hb => dig_dgs b (h b hb)) (dec_val l 0 h) (by have := valN_lt l h; have := pow18 hl; omega)
  unfold parseMag
  cases l with
  | nil => exact absurd rfl h0
  | cons a t => exact hp
theorem atoi_pos (l : List UInt8) (h0 : l ≠ []) (h : ∀ b ∈ l, digB b = true) (hl : l.length ≤ 18) : atoiAll l = .ok (valN l) := by
  have hm := mag_digits l h0 h hl
  have hv := valN_lt l h
  have h10 := pow18 hl
  cases l with
  | nil => exact absurd rfl h0
  | cons a t =>
    obtain ⟨_, _, k1, k2⟩ := Wire.dg_val a (dig_dgs a (h a (by simp)))
    unfold atoiAll
    simp only
    rw [if_neg (by omega), hm]
    simp only
    rw [if_neg (by omega), if_neg (by omega), if_neg (by omega)]
theorem atoi_neg (l : List UInt8) (h0 : l ≠ []) (h : ∀ b ∈ l, digB b = true) (hl : l.length ≤ 18) : atoiAll (45 :: l) = .ok (-(valN l : Int)) := by
  have hm := mag_digits l h0 h hl
  have hv := valN_lt l h
  have h10 := pow18 hl
  have e : (if (45 : UInt8).toNat = 43 ∨ (45 : UInt8).toNat = 45 then l else 45 :: l) = l := if_pos (Or.inr rfl)
  unfold atoiAll
  simp only [e, hm]
  rw [if_neg (fun h => h.1 rfl), if_neg (fun h => by have := h.2; omega)]
  rfl
theorem dig_all (s : List UInt8) (i : Nat) : ∀ b ∈ (s.drop i).takeWhile digB, digB b = true := fun b hb => List.all_eq_true.1 List.all_takeWhile b hb
theorem dig_take (s : List UInt8) (i : Nat) : (s.take (digP s i)).drop i = (s.drop i).takeWhile digB := by
  unfold digP
  rw [List.drop_take, Nat.add_sub_cancel_left]
  have hp : (s.drop i).takeWhile digB <+: s.drop i := List.takeWhile_prefix _
  exact (List.prefix_iff_eq_take.1 hp).symm
theorem dig_take_neg (s : List UInt8) (i : Nat) (h : s[i]? = some 45) : (s.take (digP s (i + 1))).drop i = 45 :: (s.drop (i + 1)).takeWhile digB := by
  have hd := dig_take s (i + 1)
  have hge := dig_ge s (i + 1)
  obtain ⟨hi, he⟩ := List.getElem?_eq_some_iff.1 h
  have hl : i < (s.take (digP s (i + 1))).length := by rw [List.length_take]; omega
  rw [List.drop_eq_getElem_cons hl, hd]
  congr 1
  rw [List.getElem_take]; exact he
theorem dig_len (s : List UInt8) (i : Nat) : ((s.drop i).takeWhile digB).length = digP s i - i := by unfold digP; omega
theorem dig_go (s : List UInt8) (i : Nat) (h : i < s.length) (hb : digB s[i] = true) : digP s i = digP s (i + 1) := by
  unfold digP
  rw [List.drop_eq_getElem_cons h, List.takeWhile_cons, if_pos hb, List.length_cons]
  omega
theorem dig_stop (s : List UInt8) (i : Nat) (h : i < s.length) (hb : digB s[i] = false) : digP s i = i := by
  unfold digP
  rw [List.drop_eq_getElem_cons h, List.takeWhile_cons, if_neg (by simp [hb])]
  simp
theorem dig_end (s : List UInt8) (i : Nat) (h : s.length ≤ i) : digP s i = i := by
  unfold digP
  rw [List.drop_of_length_le h]
  simp
/-- what Atoi makes of a number -/
theorem num_atoi (s : List UInt8) (i : Nat) (h1 : digP s (firstP s i) ≠ firstP s i) (h2 : ¬ 18 < digP s (firstP s i) - firstP s i) : atoiAll ((s.take (digP s (firstP s i))).drop i) = .ok (numV s i) := by
  unfold numV
  by_cases hc : s[i]? = some 45
  · have hf : firstP s i = i + 1 := if_pos hc
    rw [hf] at h1 h2 ⊢
    rw [if_pos hc, dig_take_neg s i hc]
    have hl := dig_len s (i + 1)
    have hge := dig_ge s (i + 1)
    refine atoi_neg _ ?_ (dig_all s (i + 1)) (by omega)
    intro e
    rw [e] at hl
    simp at hl
    omega
  · have hf : firstP s i = i := if_neg hc
    rw [hf] at h1 h2 ⊢
    rw [if_neg hc, dig_take s i]
    have hl := dig_len s i
    have hge := dig_ge s i
    refine atoi_pos _ ?_ (dig_all s i) (by omega)
    intro e
    rw [e] at hl
    simp at hl
    omega
theorem numV_bound (s : List UInt8) (i : Nat) (h2 : ¬ 18 < digP s (firstP s i) - firstP s i) : -1000000000000000000 < numV s i ∧ numV s i < 1000000000000000000 := by
  unfold numV
  by_cases hc : s[i]? = some 45
  · have hf : firstP s i = i + 1 := if_pos hc
    rw [hf] at h2
    rw [if_pos hc]
    have hl := dig_len s (i + 1)
    have hv := valN_lt _ (dig_all s (i + 1))
    have h10 := pow18 (n := ((s.drop (i + 1)).takeWhile digB).length) (by omega)
    omega
  · have hf : firstP s i = i := if_neg hc
    rw [hf] at h2
    rw [if_neg hc]
    have hl := dig_len s i
    have hv := valN_lt _ (dig_all s i)
    have h10 := pow18 (n := ((s.drop i).takeWhile digB).length) (by omega)
    omega
end Go.Proofs.YtgpjcjnimheglaaDoor.Jp
/-
  A REGION THAT DRAWS ITS ORDER, walked once: as the library's wpAnyH, but the condition S is asked only as long as operation number L (the store, which waits for all others) has not come up.
-/
namespace Go.Proofs.YtgpjcjnimheglaaDoor
open Go.RowKit
section
variable {P : Program} {ops : Array Oper} {Q : Exit → Act → World → Prop} {md : Region.Mode} {S : World → Prop} {L : Nat}

def wpAnyG (P : Program) (md : Region.Mode) (ops : Array Oper) (Q : Exit → Act → World → Prop) (S : World → Prop) (L : Nat) : Nat → Array Bool → Act → World → Prop
  | 0, listed, a, w => Region.ready md ops listed = [] ∧ Q .normal a w
  | fuel + 1, listed, a, w =>
    (Region.ready md ops listed = [] → Q .normal a w) ∧
    ∀ i ∈ Region.ready md ops listed, wpOp P ops Q i (fun a' w' => (i ≠ L → S w') ∧ wpAnyG P md ops Q S L fuel (listed.setIfInBounds i true) a' w') a w

theorem wpAny_of_G : ∀ (fuel : Nat) (listed : Array Bool) (a : Act) (w : World), wpAnyG P md ops Q S L fuel listed a w → wpAny P md ops Q fuel listed a w
  | 0, _, _, _, h => h
  | fuel + 1, _, _, _, h => ⟨h.1, fun i hi => wpOp_mono (fun a' w' h' => wpAny_of_G fuel _ a' w' h'.2) (h.2 i hi)⟩

/-- operation L waits for operation i -/
def waits (md : Region.Mode) (ops : Array Oper) (L i : Nat) : Bool :=
  match ops[L]? with
  | some o => o.after.toList.any fun e => Region.binds md e && e.on == i
  | none => true

theorem wpAnyG_first {i : Nat} {oi : Oper} {v : Value} (hi : ops[i]? = some oi) (hsel : ∀ (j : Nat) (o : Oper) cs b, ops[j]? = some o → o.op ≠ .select cs b)
    (hQ : ∀ c a w, Q (.panic c) (a.put oi.dst v) w → Q (.panic c) a w) (hL : waits md ops L i = true) :
    ∀ (fuel : Nat) (listed : Array Bool) (a : Act) (w : World),
      (∀ j oj, ops[j]? = some oj → j ≠ i → listed.getD j true = false → (∀ e ∈ oj.after, Region.binds md e = true → e.on ≠ i) → oi.apart ops oj = true) →
      i ∈ Region.ready md ops listed → YieldsIf P ops S oi v a → S w →
      wpAnyG P md ops Q S L fuel (listed.setIfInBounds i true) (a.put oi.dst v) w → wpAnyG P md ops Q S L (fuel + 1) listed a w := by
  intro fuel
  induction fuel with
  | zero =>
    intro listed a w _ hr hy hS H
    refine ⟨fun h => (by rw [h] at hr; cases hr), fun j hj => ?_⟩
    by_cases hji : j = i
    · subst hji; exact hy.wpOp hi hS ⟨fun _ => hS, H⟩
    · have := ready_mono hj hji
      rw [H.1] at this
      cases this
  | succ fuel ih =>
    intro listed a w hfree hr hy hS H
    refine ⟨fun h => (by rw [h] at hr; cases hr), fun j hj => ?_⟩
    by_cases hji : j = i
    · subst hji; exact hy.wpOp hi hS ⟨fun _ => hS, H⟩
    · have h1 := H.2 j (ready_mono hj hji)
      obtain ⟨hjun, oj, hoj, hall⟩ := mem_ready.1 hj
      have hnot : ∀ e ∈ oj.after, Region.binds md e = true → e.on ≠ i := fun e he hb heq => by
        have h1 := hall e he hb
        have h0 := (mem_ready.1 hr).1
        rw [heq] at h1
        rcases Nat.lt_or_ge i listed.size with h' | h'
        · simp [h'] at h0 h1; rw [h0] at h1; cases h1
        · simp [Array.getElem?_eq_none h'] at h1
      have hjL : j ≠ L := fun e => by
        subst e
        unfold waits at hL
        rw [hoj] at hL
        simp only [List.any_eq_true, Bool.and_eq_true, beq_iff_eq] at hL
        obtain ⟨e, he, hb, hon⟩ := hL
        exact hnot e (Array.mem_toList_iff.1 he) hb hon
      have h2 := wpOp_putIf hoj (hfree j oj hoj hji hjun hnot) (fun cs b => hsel i oi cs b hi) (fun cs b => hsel j oj cs b hoj) hQ hy h1
      have hfree' : ∀ k ok, ops[k]? = some ok → k ≠ i → (listed.setIfInBounds j true).getD k true = false →
          (∀ e ∈ ok.after, Region.binds md e = true → e.on ≠ i) → oi.apart ops ok = true := fun k ok hk hki hun hno => by
        refine hfree k ok hk hki ?_ hno
        by_cases hjk : j = k
        · subst hjk; exact hjun
        · rw [getD_set_ne true hjk] at hun; exact hun
      refine wpOp_mono (fun a' w' h3 => ⟨h3.2.1, ih (listed.setIfInBounds j true) a' w' hfree' (ready_mono hr (Ne.symm hji)) h3.1 (h3.2.1 hjL) ?_⟩) h2
      rw [Array.setIfInBounds_comm _ _ hji]
      exact h3.2.2

theorem wpAnyG_take {i : Nat} {oi : Oper} {v : Value} {fuel : Nat} {listed : Array Bool} {a : Act} {w : World} (hi : ops[i]? = some oi)
    (hs : Region.noSelect ops = true) (hf : Region.free md ops listed i = true) (hr : (Region.ready md ops listed).contains i = true) (hL : waits md ops L i = true)
    (hQ : ∀ c a w, Q (.panic c) (a.put oi.dst v) w → Q (.panic c) a w) (hy : YieldsIf P ops S oi v a) (hS : S w)
    (h : wpAnyG P md ops Q S L fuel (listed.setIfInBounds i true) (a.put oi.dst v) w) : wpAnyG P md ops Q S L (fuel + 1) listed a w :=
  wpAnyG_first hi (Region.noSelect_spec hs) hQ hL fuel listed a w (Region.free_spec hi hf) (by simpa using hr) hy hS h

theorem wpAnyG_one {i : Nat} {o : Oper} {fuel : Nat} {listed : Array Bool} {a : Act} {w : World} (hr : Region.ready md ops listed = [i]) (ho : ops[i]? = some o)
    (h : ∀ K' : Act → World → Prop, Shut (∀ a w, (i ≠ L → S w) → wpAnyG P md ops Q S L fuel (listed.setIfInBounds i true) a w → K' a w) → if Region.wanted o (yielded ops a.tmps) = true then Oper.wp P o a w K' Q else K' (a.put o.dst undef) w) :
    wpAnyG P md ops Q S L (fuel + 1) listed a w :=
  ⟨fun h0 => (by rw [h0] at hr; cases hr), fun j hj => by
    rw [hr, List.mem_singleton] at hj
    subst hj
    exact wpOp_step ho fun K' hK => h K' fun a w hS hW => hK a w ⟨hS, hW⟩⟩

theorem wpAnyG_done {listed : Array Bool} {a : Act} {w : World} (hr : Region.ready md ops listed = []) (h : Q .normal a w) : ∀ fuel, wpAnyG P md ops Q S L fuel listed a w
  | 0 => ⟨hr, h⟩
  | _ + 1 => ⟨fun _ => h, by rw [hr]; simp⟩

theorem wp_region_G {id : Nat} {a : Act} {w : World} (L : Nat) (S : World → Prop) (hm : P.follows .mixedOrders = true)
    (h : wpAnyG P .any ops Q S L ops.size (Array.replicate ops.size false) a w.drew) : (Code.region id ops true).wp P Q a w :=
  wp_region_any hm (wpAny_of_G _ _ _ _ h)
end
end Go.Proofs.YtgpjcjnimheglaaDoor
