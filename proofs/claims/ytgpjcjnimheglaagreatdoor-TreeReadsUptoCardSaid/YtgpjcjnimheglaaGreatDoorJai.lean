/-
  JOINED of the texts TG TJ TH
-/
import Derived.Test.YtgpjcjnimheglaaGreatDoorJah
import Derived.Deep.AppendLies
import Derived.Deep.QuietTactic
import Derived.BigQuiet
import Derived.Lib.RuneBytes
import Derived.Lib.Strings
import Derived.Deep.DeepCutAuto
import Derived.Lib.ConvBytes
import Derived.Laws.Strings3
import Derived.Laws.Closers25
import Derived.Laws.Closers25b
import Derived.BigCall
import Derived.BigGuard
import Derived.Test.YtgpjcjnimheglaaGreatDoorShelfX
import Derived.Shelf.Spec.BytesIndexFunc
import Derived.Deep.RegionHeld3
import Derived.Lib.IndexMore
import Derived.Test.YtgpjcjnimheglaaGreatDoorRows
import Derived.WalkKit
import Derived.WalkSpells
import Derived.WalkLawsBesides
import Derived.Below
import Derived.Laws.OwnMore
import Derived.Deep.Draws
import Derived.Lib.Hide
import Derived.IntWalk
import Derived.Test.YtgpjcjnimheglaaGreatDoorShelfW
import Derived.Shelf.Strings.SlTrimAscii
import Derived.Lib.LaidTab
import Derived.Lib.AtoiAll
import Derived.Lib.IndexLaws
import Derived.Lib.SlTrimSet
import Derived.Lib.ItoaNum
import Derived.Lib.Atoi
import Derived.WalkMore
import Derived.ScopeJumps
/-
  WALKS of package tree: missing, want, name; a part is laid into a branch.
-/
namespace Go.Proofs.YtgpjcjnimheglaaGreatDoor
open Go.RowKit

/-- the blocks K are as they were -/
structure Kept (K : Nat → Prop) (w w' : World) : Prop where
  size : w.heap.size ≤ w'.heap.size
  same : ∀ x, K x → w'.heap[x]? = w.heap[x]?
  calm : Calm w w'
section
variable {w w' w1 : World} {K : Nat → Prop} {g gt : Nat} {s : Bs} {T : List Tk} {b n i : Nat}
theorem Kept.aft (h : Kept K w w') (g : Nat) : Aft K g w w' := ⟨h.size, fun x hx _ => h.same x hx, h.calm⟩
theorem Kept.below (h : Below w.heap.size w w') (hK : In K w) : Kept K w w' := ⟨h.size, fun x hx => h.block x (hK x hx), Calm.below h⟩
theorem Rdr.kept (h : Rdr w K g gt s T b n i) (hk : Kept K w w') : Rdr w' K g gt s T b n i :=
  ⟨⟨(hk.same g h.rs.tr.kg).trans h.rs.rd, h.rs.tr.aft (hk.aft g)⟩, h.inK.after hk.size, h.hi, h.hb⟩
theorem Rdr.drew (h : Rdr w K g gt s T b n i) : Rdr w.drew K g gt s T b n i := h.below ((Below.refl _ _).drew)
end
theorem infoPart : (Tryz.prog.info? 98).map (fun i => (i.zero, i.size, i.bytes)) = some (some .nilIface, 1, 16) := by kernel_rfl
section
variable {w w' w5 : World} {K : Nat → Prop} {g h kind at_ : Nat} {pts : List Tr.PT} {A : Option Addr} {c : Nat} {vs : List Value}
theorem OB.below (hb : OB w K h kind at_ pts A c vs) (hbl : Below w.heap.size w w') : OB w' K h kind at_ pts A c vs :=
  ⟨hb.nk, hb.blk.below hbl hb.blk.lt, own_of_block hb.own fun q hq => hbl.block q (hb.row_lt q hq), hb.nr, PtsF.keep hbl.size (fun b hF hl => ⟨hbl.block b hl, hF⟩) _ _ hb.parts⟩
theorem Br.below (hb : Br w K h kind at_ pts) (hbl : Below w.heap.size w w') : Br w' K h kind at_ pts := by
  obtain ⟨A, c, vs, hb⟩ := hb
  exact ⟨A, c, vs, hb.below hbl⟩
/-- a part is laid into a branch -/
theorem OB.push (hb : OB w K h kind at_ pts A c vs) (hK : In K w) {p : Tr.PT} {v : Value} {gg cap : Nat}
    (hp : PtF w (fun x => ¬ K x ∧ x ≠ h ∧ some x ≠ (Value.slice A pts.length c).ownBlock) p v)
    (hown : w5.ownsRow 0 98 1 (.slice (some ⟨gg, 0, none⟩) (pts.length + 1) cap) (pts.length + 1) (vs ++ [v]))
    (hgrow : (w.alloc (.cells #[v] 98)).grownBy w5 (Value.slice A pts.length c).ownBlock)
    (hat : (Value.slice A pts.length c).ownBlock = some gg ∨ gg = w.heap.size + 1) :
    Br (w5.setCell ⟨h, 1, none⟩ (.slice (some ⟨gg, 0, none⟩) (pts.length + 1) cap)) K h kind at_ (pts ++ [p]) ∧ Kept K w (w5.setCell ⟨h, 1, none⟩ (.slice (some ⟨gg, 0, none⟩) (pts.length + 1) cap)) := by
  have hz := hgrow.size
  simp at hz
  have old : ∀ x, x < w.heap.size → some x ≠ (Value.slice A pts.length c).ownBlock → x ≠ h → (w5.setCell ⟨h, 1, none⟩ (.slice (some ⟨gg, 0, none⟩) (pts.length + 1) cap)).heap[x]? = w.heap[x]? := fun x hx hr hh =>
    ((Below.heap_setCell w5 ⟨h, 1, none⟩ _ x hh).trans (hgrow.block x (by simp; omega) hr)).trans (Below.heap_alloc w _ x hx)
  have hrn : ∀ x, K x → some x ≠ (Value.slice A pts.length c).ownBlock := fun x hx e => hb.nr x e.symm hx
  have hhn : ∀ x, K x → x ≠ h := fun x hx e => hb.nk (e ▸ hx)
  have hgk : ¬ K gg := fun hk => by
    rcases hat with e | e
    · exact hb.nr gg e hk
    · have := hK gg hk; omega
  have hgn : ∀ x, x < w.heap.size → some x ≠ (Value.slice A pts.length c).ownBlock → some x ≠ some gg := fun x hx hr e => by
    rcases hat with e' | e'
    · exact hr (e.trans e'.symm)
    · injection e; omega
  have hhr : (h : Nat) ≠ gg := fun e => hgn h hb.blk.lt hb.row_ne (by rw [e])
  have hlen : (pts ++ [p]).length = pts.length + 1 := by simp
  have hB5 := ((hb.blk.alloc (.cells #[v] 98)).grown hgrow hb.row_ne).set_ 1 (.slice (some ⟨gg, 0, none⟩) (pts.length + 1) cap)
  have hsz : w5.heap.size ≤ (w5.setCell ⟨h, 1, none⟩ (.slice (some ⟨gg, 0, none⟩) (pts.length + 1) cap)).heap.size := by simp [World.setCell]
  refine ⟨⟨some ⟨gg, 0, none⟩, cap, vs ++ [v], hb.nk, ?_, ?_, ?_, ?_⟩, by omega, fun x hx => old x (hK x hx) (hrn x hx) (hhn x hx), ((show Calm w (w.alloc (.cells #[v] 98)) from ⟨rfl, rfl, rfl⟩).trans ⟨hgrow.os, hgrow.tape, hgrow.output⟩).trans (Calm.set w5 _ _)⟩
  · rw [hlen]; exact hB5
  · rw [hlen]
    exact own_of_block hown fun q hq => Below.heap_setCell w5 ⟨h, 1, none⟩ _ q (by simp only [Value.ownBlock, Option.some.injEq] at hq; subst hq; exact Ne.symm hhr)
  · intro q hq
    simp only [Value.ownBlock, Option.some.injEq] at hq
    subst hq; exact hgk
  · refine PtsF.app ?_ (PtsF.one ?_)
    · exact PtsF.keep (by omega) (fun x hF hl => ⟨old x hl hF.2.2 hF.2.1, hF.1, hF.2.1, hgn x hl hF.2.2⟩) _ _ hb.parts
    · exact PtF.keep (by omega) (fun x hF hl => ⟨old x hl hF.2.2 hF.2.1, hF.1, hF.2.1, hgn x hl hF.2.2⟩) _ _ hp
end

/-- what a reading step does: parts are laid into a branch, the reader goes ahead -/
def StE (w : World) (K : Nat → Prop) (g gt h kind at_ : Nat) (s : Bs) (T : List Tk) (b n : Nat) (st : Tr.St) (e : Ending) (w' : World) : Prop :=
  e = .returned (.tuple #[]) ∧ Aft K g w w' ∧ Rdr w' K g gt s T b n st.2 ∧ Br w' K h kind at_ st.1

set_option maxHeartbeats 4000000 in
set_option maxRecDepth 100000 in
theorem missing_walk {w : World} {K : Nat → Prop} {g gt : Nat} {s : Bs} {T : List Tk} {b n i : Nat} {h kind at_ : Nat} {pts : List Tr.PT} (X : Txts s T) (R : Rdr w K g gt s T b n i) (hb : Br w K h kind at_ pts) (word : Bs) (hl : pts.length ≤ 100000000) :
    Calls Tryz.prog 155 #[.pointer (some ⟨g, 0, none⟩), .pointer (some ⟨h, 0, none⟩), .string ⟨word.toArray⟩] w (StE w K g gt h kind at_ s T b n (Tr.thn (pts, i) (Tr.missP s T b word))) := by
  obtain ⟨i0, ji, jz0, jz1, jz2⟩ := info_parts infoPart
  obtain ⟨A, c, vs, hb⟩ := hb
  have HP : Hid (Tr.thn (pts, i) (Tr.missP s T b word) = (pts ++ [.gap word (Tr.placeP s T b i) false], i)) := rfl
  rw [HP.out]
  clear HP
  go_enter Tryz.func155, Tryz.ntmps155
  refine wp_region_G 15 (fun w' : World => w'.cell? ⟨h, 1, none⟩ = some (.slice A pts.length c)) (by kernel_rfl) ?_
  have hd : Below w.heap.size w w.drew := (Below.refl _ _).drew
  have hA := Kept.aft (Kept.below hd R.inK) g
  have R := R.drew
  have hb := hb.below hd
  have hpl := place_walk R.rs X.good R.hb (by have := X.hs; omega)
  clear hd X
  generalize w.drew = w1 at *
  have o1 := hb.blk.cell 1
  simp at o1
  have hS0 : (fun w' : World => w'.cell? ⟨h, 1, none⟩ = some (.slice A pts.length c)) w1 := o1
  refine wpAnyG_take (i := 0) (v := ?_) rfl (by kernel_rfl) (by kernel_rfl) (by kernel_rfl) (by kernel_rfl) (fun _ _ _ h => h) (Or.inl ⟨by rfl, ?_⟩) hS0 ?_; rotate_left; · (intro w hSw; (try dsimp only at hSw); have s0 := hSw; go_simp; try with_reducible rfl)
  simp only [Act.put, List.setIfInBounds_toArray]
  refine wpAnyG_take (i := 1) (v := ?_) rfl (by kernel_rfl) (by kernel_rfl) (by kernel_rfl) (by kernel_rfl) (fun _ _ _ h => h) (Or.inl ⟨by rfl, ?_⟩) hS0 ?_; rotate_left; · (intro w hSw; (try dsimp only at hSw); have s0 := hSw; go_simp; try with_reducible rfl)
  simp only [Act.put]
  refine wpAnyG_take (i := 2) (v := ?_) rfl (by kernel_rfl) (by kernel_rfl) (by kernel_rfl) (by kernel_rfl) (fun _ _ _ h => h) (Or.inl ⟨by rfl, ?_⟩) hS0 ?_; rotate_left; · (intro w hSw; (try dsimp only at hSw); have s0 := hSw; go_simp; try with_reducible rfl)
  simp only [Act.put]
  refine wpAnyG_take (i := 3) (v := ?_) rfl (by kernel_rfl) (by kernel_rfl) (by kernel_rfl) (by kernel_rfl) (fun _ _ _ h => h) (Or.inl ⟨by rfl, ?_⟩) hS0 ?_; rotate_left; · (intro w hSw; (try dsimp only at hSw); have s0 := hSw; go_simp; try with_reducible rfl)
  simp only [Act.put]
  refine wpAnyG_take (i := 4) (v := ?_) rfl (by kernel_rfl) (by kernel_rfl) (by kernel_rfl) (by kernel_rfl) (fun _ _ _ h => h) (Or.inl ⟨by rfl, ?_⟩) hS0 ?_; rotate_left; · (intro w hSw; (try dsimp only at hSw); have s0 := hSw; go_simp; try with_reducible rfl)
  simp only [Act.put]
  refine wpAnyG_take (i := 5) (v := ?_) rfl (by kernel_rfl) (by kernel_rfl) (by kernel_rfl) (by kernel_rfl) (fun _ _ _ h => h) (Or.inl ⟨by rfl, ?_⟩) hS0 ?_; rotate_left; · (intro w hSw; (try dsimp only at hSw); have s0 := hSw; go_simp; try with_reducible rfl)
  simp only [Act.put]
  refine wpAnyG_take (i := 6) (v := ?_) rfl (by kernel_rfl) (by kernel_rfl) (by kernel_rfl) (by kernel_rfl) (fun _ _ _ h => h) (Or.inl ⟨by rfl, ?_⟩) hS0 ?_; rotate_left; · (intro w hSw; (try dsimp only at hSw); have s0 := hSw; go_simp; try with_reducible rfl)
  simp only [Act.put]
  clear hS0
  generalize Tr.placeP s T b i = pl at *
  refine wpAnyG_one (i := 7) (by kernel_rfl) rfl (fun C hC => ?_)
  go_simp
  ((with_reducible refine hpl.mono ?_))
  clear hpl
  rintro e w2 ⟨rfl, m, rfl⟩
  have hd : Below w1.heap.size w1 (w1.drewN m) := below_drewN (Below.refl _ _) m
  have hA := hA.trans (Kept.aft (Kept.below hd R.inK) g)
  have R := R.below hd
  have hb := hb.below hd
  clear hd
  have o1 : (w1.drewN m).cell? ⟨h, 1, none⟩ = some (.slice A pts.length c) := o1
  refine hC.out _ _ (fun _ => o1) ?_
  clear hC C
  generalize w1.drewN m = w2 at *
  refine wpAnyG_one (i := 8) (by kernel_rfl) rfl (fun C hC => ?_)
  go_simp
  refine hC.out _ _ (fun _ => o1) ?_
  clear hC C
  have hd : Below w2.heap.size w2 (w2.alloc (.cells #[.string ⟨word.toArray⟩, .int .i64 (pl : Int), .bool false] 240)) := (Below.refl _ _).alloc (Nat.le_refl _) _
  have hBg : Blk (w2.alloc (.cells #[.string ⟨word.toArray⟩, .int .i64 (pl : Int), .bool false] 240)) w2.heap.size 240 #[.string ⟨word.toArray⟩, .int .i64 (pl : Int), .bool false] := Blk.new _ _ _
  have hA := hA.trans (Kept.aft (Kept.below hd R.inK) g)
  have hp : PtF (w2.alloc (.cells #[.string ⟨word.toArray⟩, .int .i64 (pl : Int), .bool false] 240)) (fun x => ¬ K x ∧ x ≠ h ∧ some x ≠ (Value.slice A pts.length c).ownBlock) (.gap word pl false) (.iface 119 (.pointer (some ⟨w2.heap.size, 0, none⟩))) :=
    ⟨w2.heap.size, rfl, ⟨fun hk => Nat.lt_irrefl _ (R.inK _ hk), fun e => by have := hb.blk.lt; omega, fun e => by have := hb.row_lt _ e.symm; omega⟩, hBg⟩
  have R := R.below hd
  have hb := hb.below hd
  clear hd hBg
  refine wpAnyG_one (i := 9) (by kernel_rfl) rfl (fun C hC => ?_)
  go_simp
  have o1 : (w2.alloc (.cells #[.string ⟨word.toArray⟩, .int .i64 (pl : Int), .bool false] 240)).cell? ⟨h, 1, none⟩ = some (.slice A pts.length c) := by
    have := hb.blk.cell 1
    simpa using this
  refine hC.out _ _ (fun _ => o1) ?_
  clear hC C
  obtain ⟨q, hq⟩ : ∃ q, q = w2.heap.size := ⟨_, rfl⟩
  rw [← hq] at hp ⊢
  clear hq
  generalize (w2.alloc (.cells #[.string ⟨word.toArray⟩, .int .i64 (pl : Int), .bool false] 240)) = w3 at *
  refine wpAnyG_one (i := 10) (by kernel_rfl) rfl (fun C hC => ?_)
  go_simp
  refine hC.out _ _ (fun _ => o1) ?_
  clear hC C
  refine wpAnyG_one (i := 11) (by kernel_rfl) rfl (fun C hC => ?_)
  go_simp
  refine hC.out _ _ (fun _ => (cell_alloc _ _ _ _ hb.blk.lt).trans o1) ?_
  clear hC C
  refine wpAnyG_one (i := 12) (by kernel_rfl) rfl (fun C hC => ?_)
  refine step_append_lies _ (by rfl) _ _ _ (by rfl) 0 98 i0 _ 1 16 Tryz.underlying90 ji jz0 jz1 jz2 rfl (by omega) (.slice A pts.length c) pts.length vs (by rfl) (hb.own.alloc (.cells #[.iface 119 (.pointer (some ⟨q, 0, none⟩))] 98)) ⟨w3.heap.size, 0, none⟩ 1 1 [.iface 119 (.pointer (some ⟨q, 0, none⟩))] (by rfl) (by rfl) (World.news_of_block (heap_alloc_new w3 _)) (by simp [Value.oneCell']) (by omega) (by unfold maxLen; omega) (by omega) (Nat.zero_le _) (w3.heap.size + 1) (by simp) ?_
  intro gg cap' w5 hown5 hgrow hat hlt5
  have hpu := hb.push R.inK hp hown5 hgrow hat
  have hg5 := (hb.blk.alloc (.cells #[.iface 119 (.pointer (some ⟨q, 0, none⟩))] 98)).grown hgrow hb.row_ne
  have b1 := hg5.cell 1
  have bf := hg5.frozen 1
  simp at b1
  refine hC.out _ _ (fun _ => b1) ?_
  clear hC C
  refine wpAnyG_one (i := 13) (by kernel_rfl) rfl (fun C hC => ?_)
  go_simp
  refine hC.out _ _ (fun _ => b1) ?_
  clear hC C
  refine wpAnyG_one (i := 14) (by kernel_rfl) rfl (fun C hC => ?_)
  go_simp
  refine hC.out _ _ (fun _ => b1) ?_
  clear hC C
  refine wpAnyG_one (i := 15) (by kernel_rfl) rfl (fun C hC => ?_)
  go_simp
  refine hC.out _ _ (fun h => absurd rfl h) ?_
  clear hC C
  refine wpAnyG_done (by kernel_rfl) ?_ _
  have hB := hpu.1
  have R := R.kept hpu.2
  have hA := hA.trans (hpu.2.aft g)
  clear hb hp o1 hown5 hgrow hat hlt5 hpu hg5 b1 bf
  go_end0
  exact ⟨rfl, hA, R, hB⟩
end Go.Proofs.YtgpjcjnimheglaaGreatDoor
/-
  WALKS of package tree: From, around.
-/
namespace Go.Proofs.YtgpjcjnimheglaaGreatDoor
open Go.RowKit

theorem nil_leaf (m : String) (a : Addr) (w : World) (hm : m = "From") : (nilAhead 419 116 (.pointer (some a)) m).run Tryz.prog w = .ok (some false) w := by subst hm; kernel_rfl
theorem from_leaf (a : Addr) (w : World) : (method 419 116 (.pointer (some a)) "From").run Tryz.prog w = .ok (240, .pointer (some a)) w := by kernel_rfl
theorem from_gap (a : Addr) (w : World) : (method 419 119 (.pointer (some a)) "From").run Tryz.prog w = .ok (243, .pointer (some a)) w := by kernel_rfl
theorem from_branch (a : Addr) (w : World) : (method 419 94 (.pointer (some a)) "From").run Tryz.prog w = .ok (237, .pointer (some a)) w := by kernel_rfl

theorem leaf_from {w : World} {a : Nat} (q : Nat) (h : w.cell? ⟨q, 2, none⟩ = some (.int .i64 (a : Int))) : Calls Tryz.prog 240 #[.pointer (some ⟨q, 0, none⟩)] w fun e w' => e = .returned (.int .i64 (a : Int)) ∧ w' = w := by
  go_enter Tryz.func240, Tryz.ntmps240
  go_wp2
  go_ret
  exact ⟨rfl, rfl⟩
theorem gap_from {w : World} {a : Nat} (q : Nat) (h : w.cell? ⟨q, 1, none⟩ = some (.int .i64 (a : Int))) : Calls Tryz.prog 243 #[.pointer (some ⟨q, 0, none⟩)] w fun e w' => e = .returned (.int .i64 (a : Int)) ∧ w' = w := by
  go_enter Tryz.func243, Tryz.ntmps243
  go_wp2
  go_ret
  exact ⟨rfl, rfl⟩
theorem branch_from {w : World} {a : Nat} (q : Nat) (h : w.cell? ⟨q, 2, none⟩ = some (.int .i64 (a : Int))) : Calls Tryz.prog 237 #[.pointer (some ⟨q, 0, none⟩)] w fun e w' => e = .returned (.int .i64 (a : Int)) ∧ w' = w := by
  go_enter Tryz.func237, Tryz.ntmps237
  go_wp2
  go_ret
  exact ⟨rfl, rfl⟩

/-- where a part begins, at whatever part -/
def FromF (w : World) (t q F a : Nat) : Prop := (∀ w, (nilAhead 419 t (.pointer (some ⟨q, 0, none⟩)) "From").run Tryz.prog w = .ok (some false) w) ∧ (∀ w, (method 419 t (.pointer (some ⟨q, 0, none⟩)) "From").run Tryz.prog w = .ok (F, .pointer (some ⟨q, 0, none⟩)) w) ∧ (∀ args w, (callFunc F args).run Tryz.prog w = .ok (.enter F args) w) ∧
  ∀ w', Below w.heap.size w w' → Calls Tryz.prog F #[.pointer (some ⟨q, 0, none⟩)] w' fun e w'' => e = .returned (.int .i64 (a : Int)) ∧ w'' = w'
theorem PtF.from_ {w : World} {F : Nat → Prop} {p : Tr.PT} {v : Value} (h : PtF w F p v) : ∃ t q f, v = .iface t (.pointer (some ⟨q, 0, none⟩)) ∧ FromF w t q f p.from_ := by
  cases p with
  | leaf k t a =>
    obtain ⟨q, rfl, hF, hB⟩ := h
    refine ⟨_, q, _, rfl, fun w => nil_leaf _ _ _ rfl, from_leaf _, fun _ _ => by kernel_rfl, fun w' hb => leaf_from q ?_⟩
    have := (hB.below hb hB.lt).cell 2
    simpa [Tr.PT.from_] using this
  | gap t a d =>
    obtain ⟨q, rfl, hF, hB⟩ := h
    refine ⟨_, q, _, rfl, fun w => by kernel_rfl, from_gap _, fun _ _ => by kernel_rfl, fun w' hb => gap_from q ?_⟩
    have := (hB.below hb hB.lt).cell 1
    simpa [Tr.PT.from_] using this
  | branch k a l =>
    obtain ⟨q, rfl, hF, A, c, vs, hB, _⟩ := h
    refine ⟨_, q, _, rfl, fun w => by kernel_rfl, from_branch _, fun _ _ => by kernel_rfl, fun w' hb => branch_from q ?_⟩
    have := (hB.below hb hB.lt).cell 2
    simpa [Tr.PT.from_] using this

set_option maxHeartbeats 4000000 in
set_option maxRecDepth 100000 in
theorem around_walk {w : World} {K : Nat → Prop} (hK : In K w) (kind : Nat) {p : Tr.PT} {v : Value} (hp : PtF w (fun x => ¬ K x) p v) :
    Calls Tryz.prog 191 #[.int .i64 (kind : Int), v] w fun e w' => ∃ h, e = .returned (.pointer (some ⟨h, 0, none⟩)) ∧ Below w.heap.size w w' ∧ w.heap.size ≤ h ∧ Br w' K h kind p.from_ [p] := by
  obtain ⟨t, q, f, rfl, hn, hm, hcf, hc⟩ := hp.from_
  have hd : Below w.heap.size w (w.alloc (.cells #[.iface t (.pointer (some ⟨q, 0, none⟩))] 98)) := (Below.refl _ _).alloc (Nat.le_refl _) _
  have hc := hc _ hd
  generalize Tr.PT.from_ p = a at *
  go_enter Tryz.func191, Tryz.ntmps191
  go_wp2_with fail
  refine hc.mono ?_
  clear hc
  rintro e w' ⟨rfl, rfl⟩
  go_wp2_with fail
  go_ret
  have hB := Blk.new (w.alloc (.cells #[.iface t (.pointer (some ⟨q, 0, none⟩))] 98)) 121 #[.int .i64 (kind : Int), .slice (some ⟨w.heap.size, 0, none⟩) 1 1, .int .i64 (a : Int)]
  have hz : (w.alloc (.cells #[.iface t (.pointer (some ⟨q, 0, none⟩))] 98)).heap.size = w.heap.size + 1 := by simp
  rw [hz] at hB
  have hd2 : Below w.heap.size w ((w.alloc (.cells #[.iface t (.pointer (some ⟨q, 0, none⟩))] 98)).alloc (.cells #[.int .i64 (kind : Int), .slice (some ⟨w.heap.size, 0, none⟩) 1 1, .int .i64 (a : Int)] 121)) := hd.alloc hd.size _
  refine ⟨w.heap.size + 1, by rw [← hz]; rfl, hd2, by omega, some ⟨w.heap.size, 0, none⟩, 1, [.iface t (.pointer (some ⟨q, 0, none⟩))], ⟨fun h => by have := hK _ h; omega, hB, ?_, ?_, ?_⟩⟩
  · have h0 := World.ownsRow_lit (base := 0) (e := 98) (size := 1) w #[.iface t (.pointer (some ⟨q, 0, none⟩))] 1 (Nat.zero_le _) (by unfold maxLen; omega) rfl
    exact h0.alloc _
  · intro x hx
    simp only [Value.ownBlock, Option.some.injEq] at hx
    subst hx
    exact fun h => Nat.lt_irrefl _ (hK _ h)
  · exact PtsF.one (PtF.keep hd2.size (fun x hF hl => ⟨hd2.block x hl, hF, by omega, fun e => by simp only [Value.ownBlock, Option.some.injEq] at e; omega⟩) _ _ hp)
end Go.Proofs.YtgpjcjnimheglaaGreatDoor
/-
  WALKS of package tree: take.
-/
namespace Go.Proofs.YtgpjcjnimheglaaGreatDoor
open Go.RowKit

/-- the first tokens of those from i on, as leaves -/
def leavesP (s : Bs) (T : List Tk) (b i j : Nat) : List Tr.PT := ((T.drop i).take (j - i)).map (Tr.leafP s b)
theorem leaves_self (s : Bs) (T : List Tk) (b i : Nat) : leavesP s T b i i = [] := by unfold leavesP; simp
theorem leaves_succ (s : Bs) (T : List Tk) (b i j : Nat) (h : i ≤ j) (hj : j < T.length) : leavesP s T b i (j + 1) = leavesP s T b i j ++ [Tr.leafP s b T[j]] := by
  unfold leavesP
  rw [show j + 1 - i = j - i + 1 by omega, List.take_succ_eq_append_getElem (by rw [List.length_drop]; omega), List.map_append, List.getElem_drop]
  simp only [List.map_cons, List.map_nil]
  congr 3
  simp only [show i + (j - i) = j by omega]
theorem leaves_len (s : Bs) (T : List Tk) (b i j : Nat) : (leavesP s T b i j).length ≤ j - i := by
  unfold leavesP
  rw [List.length_map]
  exact List.length_take_le _ _
theorem Rdr.at_ {w : World} {K : Nat → Prop} {g gt : Nat} {s : Bs} {T : List Tk} {b n i j : Nat} (h : Rdr w K g gt s T b n i) (X : Txts s T) (hij : i ≤ j) (hj : j ≤ T.length) : Rdr (w.setCell ⟨g, 1, none⟩ (.int .i64 (j : Int))) K g gt s T b n j := by
  have h1 := (h.rs.rd.set_ 1 (.int .i64 (j : Int)))
  simp at h1
  have ha : Aft K g w (w.setCell ⟨g, 1, none⟩ (.int .i64 (j : Int))) := (Aft.refl K g w).set 1 _
  exact ⟨⟨h1, h.rs.tr.aft ha⟩, h.inK.after ha.size, hj, Nat.le_trans h.hb (X.good.up _ _ hij)⟩
theorem Rdr.ng {w : World} {K : Nat → Prop} {g gt : Nat} {s : Bs} {T : List Tk} {b n i : Nat} (h : Rdr w K g gt s T b n i) : K g := h.rs.tr.kg
/-- the reader's cell is written -/
theorem Br.seen {w : World} {K : Nat → Prop} {g h kind at_ : Nat} {pts : List Tr.PT} (hb : Br w K h kind at_ pts) (hg : K g) (i : Nat) (v : Value) : Br (w.setCell ⟨g, i, none⟩ v) K h kind at_ pts :=
  hb.aft ((Aft.refl (Old w) g w).set i v) hg

/-- one leaf -/
def LeafE (w : World) (K : Nat → Prop) (g gt h kind at_ : Nat) (s : Bs) (T : List Tk) (b n j : Nat) (pts : List Tr.PT) (w' : World) : Prop :=
  Aft K g w w' ∧ Rdr w' K g gt s T b n j ∧ Br w' K h kind at_ pts
set_option maxHeartbeats 8000000 in
set_option maxRecDepth 100000 in
theorem take_walk {w : World} {K : Nat → Prop} {g gt : Nat} {s : Bs} {T : List Tk} {b n i : Nat} {h kind at_ : Nat} {pts : List Tr.PT} (X : Txts s T) (R : Rdr w K g gt s T b n i) (hb : Br w K h kind at_ pts) (hl : pts.length ≤ 50000000) :
    Calls Tryz.prog 143 #[.pointer (some ⟨g, 0, none⟩), .pointer (some ⟨h, 0, none⟩)] w (StE w K g gt h kind at_ s T b n (Tr.thn (pts, i) (Tr.takeP s T b))) := by
  obtain ⟨i0, ji, jz0, jz1, jz2⟩ := info_parts infoPart
  have HP : Hid (Tr.thn (pts, i) (Tr.takeP s T b) = (pts ++ leavesP s T b i (Tr.toP T i), Tr.toP T i)) := rfl
  have hT := X.hT
  have hs := X.hs
  have hto1 := Tr.to_ge T i R.hi
  have hto2 := Tr.to_le T i
  have hnl := Tr.next_le T i R.hi
  have HT : Hid (Tr.toP T i = min (Tr.nextP T i + 1) T.length) := rfl
  have hi := R.hi
  have hnx := fun m => next_walkT (R.drewN m).rs R.hi (by omega)
  generalize Tr.toP T i = to_ at *
  rw [HP.out]
  clear HP
  generalize Tr.nextP T i = nx at *
  have hm1 : IntKind.i64.wrap ((nx : Int) + 1) = (nx : Int) + 1 := IntWalk.i64_in _ (by omega)
  have Hto : Hid (min ((nx : Int) + 1) (T.length : Int) = (to_ : Int)) := by show _ = _; rw [HT.out]; omega
  clear HT
  go_enter Tryz.func143, Tryz.ntmps143
  obtain ⟨g0, g1, g2, _⟩ := R.rs.cells
  obtain ⟨d, Ad, cd, t0, t1, d0, hrow⟩ := R.rs.tr.cells
  go_wp2_with fail
  go_quiet ((go_at_call 71; exact Calls.quiet_of_same (hnx _)))
  rw [Hto.out]
  have hd : Below w.heap.size w (w.drewN nq) := below_drewN (Below.refl _ _) _
  have hA := Kept.aft (Kept.below hd R.inK) g
  have R := R.below hd
  have hb := hb.below hd
  clear hd hnx hnl hm1 Hto g0 g1 g2 t0 t1 d0 hrow
  generalize w.drewN nq = w1 at *
  go_wp2_with fail
  go_loopg [5] (to_ - i) (fun q v wr => ∃ j, i ≤ j ∧ j ≤ to_ ∧ to_ - j ≤ q ∧ LeafE w K g gt h kind at_ s T b n j (pts ++ leavesP s T b i j) wr)
  case atStart => exact ⟨i, Nat.le_refl _, hto1, Nat.le_refl _, hA, R, by rw [leaves_self, List.append_nil]; exact hb⟩
  case round =>
    clear hA R hb
    obtain ⟨j, hij, hjt, hq, hA, R, hb⟩ := hrel
    obtain ⟨g0, g1, g2, _⟩ := R.rs.cells
    obtain ⟨d, Ad, ct, t0, t1, d0, hrow⟩ := R.rs.tr.cells
    by_cases hlt : j < to_
    · have hjT : j < T.length := by omega
      have j0 : (0 : Int) ≤ (j : Int) := by omega
      have j1 : (j : Int) < (T.length : Int) := by omega
      have j2 : (j : Int) < (to_ : Int) := by omega
      obtain ⟨br, o, rfl, hbr, hbl, q0, q1, q2⟩ := hrow.tk hjT
      have HL := Lib.hid (leaves_succ s T b i j hij hjT)
      have hll := leaves_len s T b i j
      obtain ⟨h1, h2, h3⟩ := X.good.at_ hjT
      have HA := Lib.hid (Tr.abs_at s T j hjT)
      have hbj : b ≤ Tr.absP s T j := R.hb
      rw [HA.out] at hbj
      clear HA
      have Hlf : Hid (Tr.leafP s b T[j] = .leaf T[j].1 (Tr.subT s T[j]) (T[j].2.1 - b)) := rfl
      have Hsub := Lib.hid (sub_str s T[j])
      generalize T[j] = t at *
      obtain ⟨tk, ta, tl⟩ := t
      dsimp only at h1 h2 h3 q0 q1 q2 hbj Hlf Hsub
      have hpl : (pts ++ leavesP s T b i j).length ≤ 60000000 := by rw [List.length_append]; omega
      have HL2 : Hid (pts ++ leavesP s T b i (j + 1) = (pts ++ leavesP s T b i j) ++ [.leaf tk (Tr.subT s (tk, ta, tl)) (ta - b)]) := by
        show _ = _
        rw [HL.out, Hlf.out, List.append_assoc]
      clear HL Hlf hll hrow
      obtain ⟨A, c, vs, hb⟩ := hb
      generalize pts ++ leavesP s T b i j = ps at *
      obtain ⟨bx, hbx⟩ : ∃ x, x = wr.heap.size := ⟨_, rfl⟩
      go_upto_region 3 with fail
      refine wp_region_G 14 (fun w' : World => w'.cell? ⟨g, 0, none⟩ = some (.pointer (some ⟨gt, 0, none⟩)) ∧ w'.cell? ⟨g, 1, none⟩ = some (.int .i64 (j : Int)) ∧ w'.cell? ⟨gt, 1, none⟩ = some (.slice (some ⟨br, o, none⟩) T.length ct) ∧ w'.cell? ⟨br, o + j * 3, none⟩ = some (.int .i64 (tk : Int)) ∧ w'.cell? ⟨br, o + j * 3 + 1, none⟩ = some (.int .i64 (ta : Int)) ∧ w'.cell? ⟨br, o + j * 3 + 2, none⟩ = some (.int .i64 (tl : Int))) (by kernel_rfl) ?_
      have hgl := R.rs.rd.lt
      have hgtl := World.block_lt_of_cell? wr ⟨gt, 0, none⟩ t0
      have hS0 : (fun w' : World => w'.cell? ⟨g, 0, none⟩ = some (.pointer (some ⟨gt, 0, none⟩)) ∧ w'.cell? ⟨g, 1, none⟩ = some (.int .i64 (j : Int)) ∧ w'.cell? ⟨gt, 1, none⟩ = some (.slice (some ⟨br, o, none⟩) T.length ct) ∧ w'.cell? ⟨br, o + j * 3, none⟩ = some (.int .i64 (tk : Int)) ∧ w'.cell? ⟨br, o + j * 3 + 1, none⟩ = some (.int .i64 (ta : Int)) ∧ w'.cell? ⟨br, o + j * 3 + 2, none⟩ = some (.int .i64 (tl : Int))) wr.drew := ⟨g0, g1, t1, q0, q1, q2⟩
      refine wpAnyG_take (i := 0) (v := ?_) rfl (by kernel_rfl) (by kernel_rfl) (by kernel_rfl) (by kernel_rfl) (fun _ _ _ h => h) (Or.inl ⟨by rfl, ?_⟩) hS0 ?_; rotate_left; · (intro w hSw; (try dsimp only at hSw); obtain ⟨s0, s1, s2, s3, s4, s5⟩ := hSw; go_simp; try with_reducible rfl)
      simp only [Act.put, List.setIfInBounds_toArray]
      refine wpAnyG_take (i := 1) (v := ?_) rfl (by kernel_rfl) (by kernel_rfl) (by kernel_rfl) (by kernel_rfl) (fun _ _ _ h => h) (Or.inl ⟨by rfl, ?_⟩) hS0 ?_; rotate_left; · (intro w hSw; (try dsimp only at hSw); obtain ⟨s0, s1, s2, s3, s4, s5⟩ := hSw; go_simp; try with_reducible rfl)
      simp only [Act.put]
      refine wpAnyG_take (i := 2) (v := ?_) rfl (by kernel_rfl) (by kernel_rfl) (by kernel_rfl) (by kernel_rfl) (fun _ _ _ h => h) (Or.inl ⟨by rfl, ?_⟩) hS0 ?_; rotate_left; · (intro w hSw; (try dsimp only at hSw); obtain ⟨s0, s1, s2, s3, s4, s5⟩ := hSw; go_simp; try with_reducible rfl)
      simp only [Act.put]
      refine wpAnyG_take (i := 3) (v := ?_) rfl (by kernel_rfl) (by kernel_rfl) (by kernel_rfl) (by kernel_rfl) (fun _ _ _ h => h) (Or.inl ⟨by rfl, ?_⟩) hS0 ?_; rotate_left; · (intro w hSw; (try dsimp only at hSw); obtain ⟨s0, s1, s2, s3, s4, s5⟩ := hSw; go_simp; try with_reducible rfl)
      simp only [Act.put]
      refine wpAnyG_take (i := 4) (v := ?_) rfl (by kernel_rfl) (by kernel_rfl) (by kernel_rfl) (by kernel_rfl) (fun _ _ _ h => h) (Or.inl ⟨by rfl, ?_⟩) hS0 ?_; rotate_left; · (intro w hSw; (try dsimp only at hSw); obtain ⟨s0, s1, s2, s3, s4, s5⟩ := hSw; go_simp; try with_reducible rfl)
      simp only [Act.put]
      refine wpAnyG_take (i := 5) (v := ?_) rfl (by kernel_rfl) (by kernel_rfl) (by kernel_rfl) (by kernel_rfl) (fun _ _ _ h => h) (Or.inl ⟨by rfl, ?_⟩) hS0 ?_; rotate_left; · (intro w hSw; (try dsimp only at hSw); obtain ⟨s0, s1, s2, s3, s4, s5⟩ := hSw; go_simp; try with_reducible rfl)
      simp only [Act.put]
      refine wpAnyG_take (i := 6) (v := ?_) rfl (by kernel_rfl) (by kernel_rfl) (by kernel_rfl) (by kernel_rfl) (fun _ _ _ h => h) (Or.inl ⟨by rfl, ?_⟩) hS0 ?_; rotate_left; · (intro w hSw; (try dsimp only at hSw); obtain ⟨s0, s1, s2, s3, s4, s5⟩ := hSw; go_simp; try with_reducible rfl)
      simp only [Act.put]
      refine wpAnyG_take (i := 7) (v := ?_) rfl (by kernel_rfl) (by kernel_rfl) (by kernel_rfl) (by kernel_rfl) (fun _ _ _ h => h) (Or.inl ⟨by rfl, ?_⟩) hS0 ?_; rotate_left; · (intro w hSw; (try dsimp only at hSw); obtain ⟨s0, s1, s2, s3, s4, s5⟩ := hSw; go_simp; try with_reducible rfl)
      simp only [Act.put]
      refine wpAnyG_take (i := 8) (v := ?_) rfl (by kernel_rfl) (by kernel_rfl) (by kernel_rfl) (by kernel_rfl) (fun _ _ _ h => h) (Or.inl ⟨by rfl, ?_⟩) hS0 ?_; rotate_left; · (intro w hSw; (try dsimp only at hSw); obtain ⟨s0, s1, s2, s3, s4, s5⟩ := hSw; go_simp; try with_reducible rfl)
      simp only [Act.put]
      refine wpAnyG_take (i := 9) (v := ?_) rfl (by kernel_rfl) (by kernel_rfl) (by kernel_rfl) (by kernel_rfl) (fun _ _ _ h => h) (Or.inl ⟨by rfl, ?_⟩) hS0 ?_; rotate_left; · (intro w hSw; (try dsimp only at hSw); obtain ⟨s0, s1, s2, s3, s4, s5⟩ := hSw; go_simp; try with_reducible rfl)
      simp only [Act.put]
      refine wpAnyG_take (i := 10) (v := ?_) rfl (by kernel_rfl) (by kernel_rfl) (by kernel_rfl) (by kernel_rfl) (fun _ _ _ h => h) (Or.inl ⟨by rfl, ?_⟩) hS0 ?_; rotate_left; · (intro w hSw; (try dsimp only at hSw); obtain ⟨s0, s1, s2, s3, s4, s5⟩ := hSw; go_simp; try with_reducible rfl)
      simp only [Act.put]
      refine wpAnyG_take (i := 11) (v := ?_) rfl (by kernel_rfl) (by kernel_rfl) (by kernel_rfl) (by kernel_rfl) (fun _ _ _ h => h) (Or.inl ⟨by rfl, ?_⟩) hS0 ?_; rotate_left; · (intro w hSw; (try dsimp only at hSw); obtain ⟨s0, s1, s2, s3, s4, s5⟩ := hSw; go_simp; try with_reducible rfl)
      simp only [Act.put]
      refine wpAnyG_take (i := 12) (v := ?_) rfl (by kernel_rfl) (by kernel_rfl) (by kernel_rfl) (by kernel_rfl) (fun _ _ _ h => h) (Or.inl ⟨by rfl, ?_⟩) hS0 ?_; rotate_left; · (intro w hSw; (try dsimp only at hSw); obtain ⟨s0, s1, s2, s3, s4, s5⟩ := hSw; go_simp; try with_reducible rfl)
      simp only [Act.put]
      clear hS0
      refine wpAnyG_one (i := 13) (by kernel_rfl) rfl (fun C hC => ?_)
      go_simp
      refine hC.out _ _ (fun _ => ⟨(cell_alloc _ _ _ _ hgl).trans g0, (cell_alloc _ _ _ _ hgl).trans g1, (cell_alloc _ _ _ _ hgtl).trans t1, (cell_alloc _ _ _ _ hbl).trans q0, (cell_alloc _ _ _ _ hbl).trans q1, (cell_alloc _ _ _ _ hbl).trans q2⟩) ?_
      clear hC C
      refine wpAnyG_one (i := 14) (by kernel_rfl) rfl (fun C hC => ?_)
      go_simp
      refine hC.out _ _ (fun h => absurd rfl h) ?_
      clear hC C
      refine wpAnyG_done (by kernel_rfl) ?_ _
      have hd : Below wr.heap.size wr ((wr.alloc (.cells #[.int .i64 (tk : Int), .int .i64 (ta : Int), .int .i64 (tl : Int)] 42)).drew) := ((Below.refl _ _).alloc (Nat.le_refl _) _).drew
      have hA := hA.trans (Kept.aft (Kept.below hd R.inK) g)
      have R := R.below hd
      have hb := hb.below hd
      have hBx : Blk ((wr.alloc (.cells #[.int .i64 (tk : Int), .int .i64 (ta : Int), .int .i64 (tl : Int)] 42)).drew) bx 42 #[.int .i64 (tk : Int), .int .i64 (ta : Int), .int .i64 (tl : Int)] := by rw [hbx]; exact (Blk.new _ _ _).drew
      rw [← hbx]
      clear hbx hd g0 g1 g2 t0 t1 d0 q0 q1 q2 hbl hbr hgl hgtl
      generalize (wr.alloc (.cells #[.int .i64 (tk : Int), .int .i64 (ta : Int), .int .i64 (tl : Int)] 42)).drew = w2 at *
      go_wp2_with fail
      refine wp_region_G 34 (fun w' : World => w'.cell? ⟨h, 1, none⟩ = some (.slice A ps.length c) ∧ w'.cell? ⟨bx, 0, none⟩ = some (.int .i64 (tk : Int)) ∧ w'.cell? ⟨bx, 1, none⟩ = some (.int .i64 (ta : Int)) ∧ w'.cell? ⟨bx, 2, none⟩ = some (.int .i64 (tl : Int)) ∧ w'.cell? ⟨g, 0, none⟩ = some (.pointer (some ⟨gt, 0, none⟩)) ∧ w'.cell? ⟨g, 2, none⟩ = some (.int .i64 (b : Int))) (by kernel_rfl) ?_
      have hd : Below w2.heap.size w2 w2.drew := (Below.refl _ _).drew
      have hA := hA.trans (Kept.aft (Kept.below hd R.inK) g)
      have R := R.below hd
      have hb := hb.below hd
      have hBx := hBx.drew
      clear hd
      generalize w2.drew = w3 at *
      have o1 := hb.blk.cell 1
      have b0 := hBx.cell 0
      have b1 := hBx.cell 1
      have b2 := hBx.cell 2
      simp at o1 b0 b1 b2
      obtain ⟨g0, _, g2, _⟩ := R.rs.cells
      obtain ⟨d, Ad, ct, t0, t1, d0, _⟩ := R.rs.tr.cells
      have hS0 : (fun w' : World => w'.cell? ⟨h, 1, none⟩ = some (.slice A ps.length c) ∧ w'.cell? ⟨bx, 0, none⟩ = some (.int .i64 (tk : Int)) ∧ w'.cell? ⟨bx, 1, none⟩ = some (.int .i64 (ta : Int)) ∧ w'.cell? ⟨bx, 2, none⟩ = some (.int .i64 (tl : Int)) ∧ w'.cell? ⟨g, 0, none⟩ = some (.pointer (some ⟨gt, 0, none⟩)) ∧ w'.cell? ⟨g, 2, none⟩ = some (.int .i64 (b : Int))) w3 := ⟨o1, b0, b1, b2, g0, g2⟩
      have a0 : IntKind.i64.wrap ((ta : Int) + tl) = (ta : Int) + tl := IntWalk.i64_in _ (by omega)
      have a1 : (0 : Int) ≤ (ta : Int) + tl := by omega
      have a2 : ((ta : Int) + tl).toNat = ta + tl := by omega
      have a3 : (ta : Int) + tl ≤ (s.length : Int) := by omega
      have a4 : (ta : Int) ≤ (ta : Int) + tl := by omega
      have a5 : ta ≤ ta + tl := by omega
      have a6 : ta + tl ≤ s.length := h1
      have a7 : IntKind.i64.wrap ((ta : Int) - b) = (ta : Int) - b := IntWalk.i64_in _ (by omega)
      have Hab : Hid ((ta : Int) - b = ((ta - b : Nat) : Int)) := by show _ = _; omega
      refine wpAnyG_take (i := 0) (v := ?_) rfl (by kernel_rfl) (by kernel_rfl) (by kernel_rfl) (by kernel_rfl) (fun _ _ _ h => h) (Or.inl ⟨by rfl, ?_⟩) hS0 ?_; rotate_left; · (intro w hSw; (try dsimp only at hSw); obtain ⟨s0, s1, s2, s3, s4, s5⟩ := hSw; go_simp; try with_reducible rfl)
      simp only [Act.put, List.setIfInBounds_toArray]
      refine wpAnyG_take (i := 1) (v := ?_) rfl (by kernel_rfl) (by kernel_rfl) (by kernel_rfl) (by kernel_rfl) (fun _ _ _ h => h) (Or.inl ⟨by rfl, ?_⟩) hS0 ?_; rotate_left; · (intro w hSw; (try dsimp only at hSw); obtain ⟨s0, s1, s2, s3, s4, s5⟩ := hSw; go_simp; try with_reducible rfl)
      simp only [Act.put]
      refine wpAnyG_take (i := 2) (v := ?_) rfl (by kernel_rfl) (by kernel_rfl) (by kernel_rfl) (by kernel_rfl) (fun _ _ _ h => h) (Or.inl ⟨by rfl, ?_⟩) hS0 ?_; rotate_left; · (intro w hSw; (try dsimp only at hSw); obtain ⟨s0, s1, s2, s3, s4, s5⟩ := hSw; go_simp; try with_reducible rfl)
      simp only [Act.put]
      refine wpAnyG_take (i := 3) (v := ?_) rfl (by kernel_rfl) (by kernel_rfl) (by kernel_rfl) (by kernel_rfl) (fun _ _ _ h => h) (Or.inl ⟨by rfl, ?_⟩) hS0 ?_; rotate_left; · (intro w hSw; (try dsimp only at hSw); obtain ⟨s0, s1, s2, s3, s4, s5⟩ := hSw; go_simp; try with_reducible rfl)
      simp only [Act.put]
      refine wpAnyG_take (i := 4) (v := ?_) rfl (by kernel_rfl) (by kernel_rfl) (by kernel_rfl) (by kernel_rfl) (fun _ _ _ h => h) (Or.inl ⟨by rfl, ?_⟩) hS0 ?_; rotate_left; · (intro w hSw; (try dsimp only at hSw); obtain ⟨s0, s1, s2, s3, s4, s5⟩ := hSw; go_simp; try with_reducible rfl)
      simp only [Act.put]
      refine wpAnyG_take (i := 5) (v := ?_) rfl (by kernel_rfl) (by kernel_rfl) (by kernel_rfl) (by kernel_rfl) (fun _ _ _ h => h) (Or.inl ⟨by rfl, ?_⟩) hS0 ?_; rotate_left; · (intro w hSw; (try dsimp only at hSw); obtain ⟨s0, s1, s2, s3, s4, s5⟩ := hSw; go_simp; try with_reducible rfl)
      simp only [Act.put]
      refine wpAnyG_take (i := 6) (v := ?_) rfl (by kernel_rfl) (by kernel_rfl) (by kernel_rfl) (by kernel_rfl) (fun _ _ _ h => h) (Or.inl ⟨by rfl, ?_⟩) hS0 ?_; rotate_left; · (intro w hSw; (try dsimp only at hSw); obtain ⟨s0, s1, s2, s3, s4, s5⟩ := hSw; go_simp; try with_reducible rfl)
      simp only [Act.put]
      refine wpAnyG_take (i := 7) (v := ?_) rfl (by kernel_rfl) (by kernel_rfl) (by kernel_rfl) (by kernel_rfl) (fun _ _ _ h => h) (Or.inl ⟨by rfl, ?_⟩) hS0 ?_; rotate_left; · (intro w hSw; (try dsimp only at hSw); obtain ⟨s0, s1, s2, s3, s4, s5⟩ := hSw; go_simp; try with_reducible rfl)
      simp only [Act.put]
      refine wpAnyG_take (i := 8) (v := ?_) rfl (by kernel_rfl) (by kernel_rfl) (by kernel_rfl) (by kernel_rfl) (fun _ _ _ h => h) (Or.inl ⟨by rfl, ?_⟩) hS0 ?_; rotate_left; · (intro w hSw; (try dsimp only at hSw); obtain ⟨s0, s1, s2, s3, s4, s5⟩ := hSw; go_simp; try with_reducible rfl)
      simp only [Act.put]
      refine wpAnyG_take (i := 9) (v := ?_) rfl (by kernel_rfl) (by kernel_rfl) (by kernel_rfl) (by kernel_rfl) (fun _ _ _ h => h) (Or.inl ⟨by rfl, ?_⟩) hS0 ?_; rotate_left; · (intro w hSw; (try dsimp only at hSw); obtain ⟨s0, s1, s2, s3, s4, s5⟩ := hSw; go_simp; try with_reducible rfl)
      simp only [Act.put]
      refine wpAnyG_take (i := 10) (v := ?_) rfl (by kernel_rfl) (by kernel_rfl) (by kernel_rfl) (by kernel_rfl) (fun _ _ _ h => h) (Or.inl ⟨by rfl, ?_⟩) hS0 ?_; rotate_left; · (intro w hSw; (try dsimp only at hSw); obtain ⟨s0, s1, s2, s3, s4, s5⟩ := hSw; go_simp; try with_reducible rfl)
      simp only [Act.put]
      refine wpAnyG_take (i := 12) (v := ?_) rfl (by kernel_rfl) (by kernel_rfl) (by kernel_rfl) (by kernel_rfl) (fun _ _ _ h => h) (Or.inl ⟨by rfl, ?_⟩) hS0 ?_; rotate_left; · (intro w hSw; (try dsimp only at hSw); obtain ⟨s0, s1, s2, s3, s4, s5⟩ := hSw; go_simp; try with_reducible rfl)
      simp only [Act.put]
      refine wpAnyG_take (i := 13) (v := ?_) rfl (by kernel_rfl) (by kernel_rfl) (by kernel_rfl) (by kernel_rfl) (fun _ _ _ h => h) (Or.inl ⟨by rfl, ?_⟩) hS0 ?_; rotate_left; · (intro w hSw; (try dsimp only at hSw); obtain ⟨s0, s1, s2, s3, s4, s5⟩ := hSw; go_simp; try with_reducible rfl)
      simp only [Act.put]
      refine wpAnyG_take (i := 14) (v := ?_) rfl (by kernel_rfl) (by kernel_rfl) (by kernel_rfl) (by kernel_rfl) (fun _ _ _ h => h) (Or.inl ⟨by rfl, ?_⟩) hS0 ?_; rotate_left; · (intro w hSw; (try dsimp only at hSw); obtain ⟨s0, s1, s2, s3, s4, s5⟩ := hSw; go_simp; try with_reducible rfl)
      simp only [Act.put]
      refine wpAnyG_take (i := 15) (v := ?_) rfl (by kernel_rfl) (by kernel_rfl) (by kernel_rfl) (by kernel_rfl) (fun _ _ _ h => h) (Or.inl ⟨by rfl, ?_⟩) hS0 ?_; rotate_left; · (intro w hSw; (try dsimp only at hSw); obtain ⟨s0, s1, s2, s3, s4, s5⟩ := hSw; go_simp; try with_reducible rfl)
      simp only [Act.put]
      refine wpAnyG_take (i := 16) (v := ?_) rfl (by kernel_rfl) (by kernel_rfl) (by kernel_rfl) (by kernel_rfl) (fun _ _ _ h => h) (Or.inl ⟨by rfl, ?_⟩) hS0 ?_; rotate_left; · (intro w hSw; (try dsimp only at hSw); obtain ⟨s0, s1, s2, s3, s4, s5⟩ := hSw; go_simp; try with_reducible rfl)
      simp only [Act.put]
      refine wpAnyG_take (i := 17) (v := ?_) rfl (by kernel_rfl) (by kernel_rfl) (by kernel_rfl) (by kernel_rfl) (fun _ _ _ h => h) (Or.inl ⟨by rfl, ?_⟩) hS0 ?_; rotate_left; · (intro w hSw; (try dsimp only at hSw); obtain ⟨s0, s1, s2, s3, s4, s5⟩ := hSw; go_simp; try with_reducible rfl)
      simp only [Act.put]
      refine wpAnyG_take (i := 18) (v := ?_) rfl (by kernel_rfl) (by kernel_rfl) (by kernel_rfl) (by kernel_rfl) (fun _ _ _ h => h) (Or.inl ⟨by rfl, ?_⟩) hS0 ?_; rotate_left; · (intro w hSw; (try dsimp only at hSw); obtain ⟨s0, s1, s2, s3, s4, s5⟩ := hSw; go_simp; try with_reducible rfl)
      simp only [Act.put]
      refine wpAnyG_take (i := 20) (v := ?_) rfl (by kernel_rfl) (by kernel_rfl) (by kernel_rfl) (by kernel_rfl) (fun _ _ _ h => h) (Or.inl ⟨by rfl, ?_⟩) hS0 ?_; rotate_left; · (intro w hSw; (try dsimp only at hSw); obtain ⟨s0, s1, s2, s3, s4, s5⟩ := hSw; go_simp; try with_reducible rfl)
      simp only [Act.put]
      refine wpAnyG_take (i := 21) (v := ?_) rfl (by kernel_rfl) (by kernel_rfl) (by kernel_rfl) (by kernel_rfl) (fun _ _ _ h => h) (Or.inl ⟨by rfl, ?_⟩) hS0 ?_; rotate_left; · (intro w hSw; (try dsimp only at hSw); obtain ⟨s0, s1, s2, s3, s4, s5⟩ := hSw; go_simp; try with_reducible rfl)
      simp only [Act.put]
      refine wpAnyG_take (i := 22) (v := ?_) rfl (by kernel_rfl) (by kernel_rfl) (by kernel_rfl) (by kernel_rfl) (fun _ _ _ h => h) (Or.inl ⟨by rfl, ?_⟩) hS0 ?_; rotate_left; · (intro w hSw; (try dsimp only at hSw); obtain ⟨s0, s1, s2, s3, s4, s5⟩ := hSw; go_simp; try with_reducible rfl)
      simp only [Act.put]
      refine wpAnyG_take (i := 23) (v := ?_) rfl (by kernel_rfl) (by kernel_rfl) (by kernel_rfl) (by kernel_rfl) (fun _ _ _ h => h) (Or.inl ⟨by rfl, ?_⟩) hS0 ?_; rotate_left; · (intro w hSw; (try dsimp only at hSw); obtain ⟨s0, s1, s2, s3, s4, s5⟩ := hSw; go_simp; try with_reducible rfl)
      simp only [Act.put]
      refine wpAnyG_take (i := 24) (v := ?_) rfl (by kernel_rfl) (by kernel_rfl) (by kernel_rfl) (by kernel_rfl) (fun _ _ _ h => h) (Or.inl ⟨by rfl, ?_⟩) hS0 ?_; rotate_left; · (intro w hSw; (try dsimp only at hSw); obtain ⟨s0, s1, s2, s3, s4, s5⟩ := hSw; go_simp; try with_reducible rfl)
      simp only [Act.put]
      refine wpAnyG_take (i := 25) (v := ?_) rfl (by kernel_rfl) (by kernel_rfl) (by kernel_rfl) (by kernel_rfl) (fun _ _ _ h => h) (Or.inl ⟨by rfl, ?_⟩) hS0 ?_; rotate_left; · (intro w hSw; (try dsimp only at hSw); obtain ⟨s0, s1, s2, s3, s4, s5⟩ := hSw; go_simp; try with_reducible rfl)
      simp only [Act.put]
      refine wpAnyG_take (i := 26) (v := ?_) rfl (by kernel_rfl) (by kernel_rfl) (by kernel_rfl) (by kernel_rfl) (fun _ _ _ h => h) (Or.inl ⟨by rfl, ?_⟩) hS0 ?_; rotate_left; · (intro w hSw; (try dsimp only at hSw); obtain ⟨s0, s1, s2, s3, s4, s5⟩ := hSw; go_simp; try with_reducible rfl)
      simp only [Act.put]
      clear hS0
      refine wpAnyG_one (i := 11) (by kernel_rfl) rfl (fun C hC => ?_)
      go_simp
      ((with_reducible refine (ttext_walk t0 d0).mono ?_))
      rintro e w4 ⟨rfl, rfl⟩
      refine hC.out _ _ (fun _ => ⟨o1, b0, b1, b2, g0, g2⟩) ?_
      clear hC C
      refine wpAnyG_one (i := 19) (by kernel_rfl) rfl (fun C hC => ?_)
      go_simp
      refine hC.out _ _ (fun _ => ⟨o1, b0, b1, b2, g0, g2⟩) ?_
      clear hC C
      refine wpAnyG_one (i := 27) (by kernel_rfl) rfl (fun C hC => ?_)
      go_simp
      refine hC.out _ _ (fun _ => ⟨o1, b0, b1, b2, g0, g2⟩) ?_
      clear hC C
      have hd : Below w4.heap.size w4 (w4.alloc (.cells #[.int .i64 (tk : Int), .string ((⟨s.toArray⟩ : ByteArray).extract ta (ta + tl)), .int .i64 ((ta : Int) - b)] 118)) := (Below.refl _ _).alloc (Nat.le_refl _) _
      have hBg : Blk (w4.alloc (.cells #[.int .i64 (tk : Int), .string ((⟨s.toArray⟩ : ByteArray).extract ta (ta + tl)), .int .i64 ((ta : Int) - b)] 118)) w4.heap.size 118 #[.int .i64 (tk : Int), .string ((⟨s.toArray⟩ : ByteArray).extract ta (ta + tl)), .int .i64 ((ta : Int) - b)] := Blk.new _ _ _
      rw [show Value.string ((⟨s.toArray⟩ : ByteArray).extract ta (ta + tl)) = .string ⟨(Tr.subT s (tk, ta, tl)).toArray⟩ from Hsub.out, Hab.out] at hBg
      have hA := hA.trans (Kept.aft (Kept.below hd R.inK) g)
      have hp : PtF (w4.alloc (.cells #[.int .i64 (tk : Int), .string ((⟨s.toArray⟩ : ByteArray).extract ta (ta + tl)), .int .i64 ((ta : Int) - b)] 118)) (fun x => ¬ K x ∧ x ≠ h ∧ some x ≠ (Value.slice A ps.length c).ownBlock) (.leaf tk (Tr.subT s (tk, ta, tl)) (ta - b)) (.iface 116 (.pointer (some ⟨w4.heap.size, 0, none⟩))) :=
        ⟨w4.heap.size, rfl, ⟨fun hk => Nat.lt_irrefl _ (R.inK _ hk), fun e => by have := hb.blk.lt; omega, fun e => by have := hb.row_lt _ e.symm; omega⟩, by rw [show Value.string ((⟨s.toArray⟩ : ByteArray).extract ta (ta + tl)) = .string ⟨(Tr.subT s (tk, ta, tl)).toArray⟩ from Hsub.out, Hab.out]; exact hBg⟩
      have hbx3 := hBx.lt
      have hgl := R.rs.rd.lt
      refine wpAnyG_one (i := 28) (by kernel_rfl) rfl (fun C hC => ?_)
      go_simp
      have c0 := (cell_alloc w4 (.cells #[.int .i64 (tk : Int), .string ((⟨s.toArray⟩ : ByteArray).extract ta (ta + tl)), .int .i64 ((ta : Int) - b)] 118) bx 0 hbx3).trans b0
      have c1 := (cell_alloc w4 (.cells #[.int .i64 (tk : Int), .string ((⟨s.toArray⟩ : ByteArray).extract ta (ta + tl)), .int .i64 ((ta : Int) - b)] 118) bx 1 hbx3).trans b1
      have c2 := (cell_alloc w4 (.cells #[.int .i64 (tk : Int), .string ((⟨s.toArray⟩ : ByteArray).extract ta (ta + tl)), .int .i64 ((ta : Int) - b)] 118) bx 2 hbx3).trans b2
      have f0 := (cell_alloc w4 (.cells #[.int .i64 (tk : Int), .string ((⟨s.toArray⟩ : ByteArray).extract ta (ta + tl)), .int .i64 ((ta : Int) - b)] 118) g 0 hgl).trans g0
      have f2 := (cell_alloc w4 (.cells #[.int .i64 (tk : Int), .string ((⟨s.toArray⟩ : ByteArray).extract ta (ta + tl)), .int .i64 ((ta : Int) - b)] 118) g 2 hgl).trans g2
      have hBx := hBx.alloc (.cells #[.int .i64 (tk : Int), .string ((⟨s.toArray⟩ : ByteArray).extract ta (ta + tl)), .int .i64 ((ta : Int) - b)] 118)
      have R := R.below hd
      have hb := hb.below hd
      have o1 : (w4.alloc (.cells #[.int .i64 (tk : Int), .string ((⟨s.toArray⟩ : ByteArray).extract ta (ta + tl)), .int .i64 ((ta : Int) - b)] 118)).cell? ⟨h, 1, none⟩ = some (.slice A ps.length c) := by
        have := hb.blk.cell 1
        simpa using this
      refine hC.out _ _ (fun _ => ⟨o1, c0, c1, c2, f0, f2⟩) ?_
      clear hC C hd hBg b0 b1 b2 g0 g2 t0 t1 d0
      obtain ⟨q, hq⟩ : ∃ q, q = w4.heap.size := ⟨_, rfl⟩
      rw [← hq] at hp ⊢
      clear hq
      generalize (w4.alloc (.cells #[.int .i64 (tk : Int), .string ((⟨s.toArray⟩ : ByteArray).extract ta (ta + tl)), .int .i64 ((ta : Int) - b)] 118)) = w6 at *
      refine wpAnyG_one (i := 29) (by kernel_rfl) rfl (fun C hC => ?_)
      go_simp
      refine hC.out _ _ (fun _ => ⟨o1, c0, c1, c2, f0, f2⟩) ?_
      clear hC C
      refine wpAnyG_one (i := 30) (by kernel_rfl) rfl (fun C hC => ?_)
      go_simp
      refine hC.out _ _ (fun _ => ⟨(cell_alloc _ _ _ _ hb.blk.lt).trans o1, (cell_alloc _ _ _ _ hBx.lt).trans c0, (cell_alloc _ _ _ _ hBx.lt).trans c1, (cell_alloc _ _ _ _ hBx.lt).trans c2, (cell_alloc _ _ _ _ R.rs.rd.lt).trans f0, (cell_alloc _ _ _ _ R.rs.rd.lt).trans f2⟩) ?_
      clear hC C
      refine wpAnyG_one (i := 31) (by kernel_rfl) rfl (fun C hC => ?_)
      refine step_append_lies _ (by rfl) _ _ _ (by rfl) 0 98 i0 _ 1 16 Tryz.underlying90 ji jz0 jz1 jz2 rfl (by omega) (.slice A ps.length c) ps.length vs (by rfl) (hb.own.alloc (.cells #[.iface 116 (.pointer (some ⟨q, 0, none⟩))] 98)) ⟨w6.heap.size, 0, none⟩ 1 1 [.iface 116 (.pointer (some ⟨q, 0, none⟩))] (by rfl) (by rfl) (World.news_of_block (heap_alloc_new w6 _)) (by simp [Value.oneCell']) (by omega) (by unfold maxLen; omega) (by omega) (Nat.zero_le _) (w6.heap.size + 1) (by simp) ?_
      intro gg cap' w5 hown5 hgrow hat hlt5
      have hpu := hb.push R.inK hp hown5 hgrow hat
      have hg5 := (hb.blk.alloc (.cells #[.iface 116 (.pointer (some ⟨q, 0, none⟩))] 98)).grown hgrow hb.row_ne
      have b1 := hg5.cell 1
      have bf := hg5.frozen 1
      simp at b1
      have hx5 := (hBx.alloc (.cells #[.iface 116 (.pointer (some ⟨q, 0, none⟩))] 98)).grown hgrow (own_ne hb.own hBx (by decide))
      have hr5 := (R.rs.rd.alloc (.cells #[.iface 116 (.pointer (some ⟨q, 0, none⟩))] 98)).grown hgrow (own_ne hb.own R.rs.rd (by decide))
      have e0 := hx5.cell 0
      have e1 := hx5.cell 1
      have e2 := hx5.cell 2
      have k0 := hr5.cell 0
      have k2 := hr5.cell 2
      simp at e0 e1 e2 k0 k2
      refine hC.out _ _ (fun _ => ⟨b1, e0, e1, e2, k0, k2⟩) ?_
      clear hC C
      refine wpAnyG_one (i := 32) (by kernel_rfl) rfl (fun C hC => ?_)
      go_simp
      refine hC.out _ _ (fun _ => ⟨b1, e0, e1, e2, k0, k2⟩) ?_
      clear hC C
      refine wpAnyG_one (i := 33) (by kernel_rfl) rfl (fun C hC => ?_)
      go_simp
      refine hC.out _ _ (fun _ => ⟨b1, e0, e1, e2, k0, k2⟩) ?_
      clear hC C
      refine wpAnyG_one (i := 34) (by kernel_rfl) rfl (fun C hC => ?_)
      go_simp
      refine hC.out _ _ (fun h => absurd rfl h) ?_
      clear hC C
      refine wpAnyG_done (by kernel_rfl) ?_ _
      have hB := hpu.1
      have R := R.kept hpu.2
      have hA := hA.trans (hpu.2.aft g)
      clear hb hp o1 hown5 hgrow hat hlt5 hpu hg5 b1 bf
      clear o1 c0 c1 c2 f0 f2 hbx3 hgl hBx hx5 hr5 e0 e1 e2 k0 k2 a0 a1 a2 a3 a4 a5 a6 a7 Hab Hsub
      generalize (World.setCell w5 ⟨h, 1, none⟩ (.slice (some ⟨gg, 0, none⟩) (ps.length + 1) cap')) = w7 at *
      obtain ⟨_, g1, _, _⟩ := R.rs.cells
      have gf := R.rs.rd.frozen 1
      go_wp2_with fail
      go_roundg (to_ - (j + 1))
      case rel =>
        have hR := R.at_ X (j := j + 1) (by omega) (by omega)
        have hBs := hB.seen R.ng 1 (.int .i64 ((j + 1 : Nat) : Int))
        rw [← HL2.out, show ((j + 1 : Nat) : Int) = (j : Int) + 1 by omega] at hBs
        have hA2 := hA.set 1 (.int .i64 ((j : Int) + 1))
        rw [show ((j + 1 : Nat) : Int) = (j : Int) + 1 by omega] at hR
        exact ⟨j + 1, by omega, by omega, Nat.le_refl _, hA2, hR, hBs⟩
      case measure => omega
    · obtain rfl : j = to_ := by omega
      have j2 : ¬ (j : Int) < (j : Int) := by omega
      go_wp2_with fail
      go_end0
      exact ⟨rfl, hA, R, hb⟩
end Go.Proofs.YtgpjcjnimheglaaGreatDoor
