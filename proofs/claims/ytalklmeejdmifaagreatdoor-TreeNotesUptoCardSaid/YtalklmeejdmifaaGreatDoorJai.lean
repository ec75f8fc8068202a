/-
  JOINED of the texts TH TK TI
-/
import Derived.Test.YtalklmeejdmifaaGreatDoorJah
import Derived.Deep.AppendLies
import Derived.Deep.QuietTactic
import Derived.BigQuiet
import Derived.Lib.RuneBytes
import Derived.Lib.Strings
import Derived.Deep.DeepCutAuto
import Derived.Lib.ConvBytes
import Derived.Laws.Strings3
import Derived.Laws.Closers25
import Derived.Laws.Closers25b
import Derived.BigCall
import Derived.BigGuard
import Derived.Test.YtalklmeejdmifaaGreatDoorShelfX
import Derived.Shelf.Spec.BytesIndexFunc
import Derived.Deep.RegionHeld3
import Derived.Lib.IndexMore
import Derived.Test.YtalklmeejdmifaaGreatDoorRows
import Derived.WalkKit
import Derived.WalkSpells
import Derived.WalkLawsBesides
import Derived.Below
import Derived.Laws.OwnMore
import Derived.Deep.Draws
import Derived.Lib.Hide
import Derived.IntWalk
import Derived.Test.YtalklmeejdmifaaGreatDoorShelfW
import Derived.Shelf.Strings.SlTrimAscii
import Derived.Lib.LaidTab
import Derived.Lib.AtoiAll
import Derived.Lib.IndexLaws
import Derived.Lib.SlTrimSet
import Derived.Lib.ItoaNum
import Derived.Lib.Atoi
import Derived.WalkMore
import Derived.ScopeJumps
/-
  WALKS of package tree: take.
-/
namespace Go.Proofs.YtalklmeejdmifaaGreatDoor
open Go.RowKit

/-- the first tokens of those from i on, as leaves -/
def leavesP (s : Bs) (T : List Tk) (b i j : Nat) : List Tr.PT := ((T.drop i).take (j - i)).map (Tr.leafP s b)
theorem leaves_self (s : Bs) (T : List Tk) (b i : Nat) : leavesP s T b i i = [] := by unfold leavesP; simp
theorem leaves_succ (s : Bs) (T : List Tk) (b i j : Nat) (h : i ≤ j) (hj : j < T.length) : leavesP s T b i (j + 1) = leavesP s T b i j ++ [Tr.leafP s b T[j]] := by
  unfold leavesP
  rw [show j + 1 - i = j - i + 1 by omega, List.take_succ_eq_append_getElem (by rw [List.length_drop]; omega), List.map_append, List.getElem_drop]
  simp only [List.map_cons, List.map_nil]
  congr 3
  simp only [show i + (j - i) = j by omega]
theorem leaves_len (s : Bs) (T : List Tk) (b i j : Nat) : (leavesP s T b i j).length ≤ j - i := by
  unfold leavesP
  rw [List.length_map]
  exact List.length_take_le _ _
theorem Rdr.at_ {w : World} {K : Nat → Prop} {g gt : Nat} {s : Bs} {T : List Tk} {b n i j : Nat} (h : Rdr w K g gt s T b n i) (X : Txts s T) (hij : i ≤ j) (hj : j ≤ T.length) : Rdr (w.setCell ⟨g, 1, none⟩ (.int .i64 (j : Int))) K g gt s T b n j := by
  have h1 := (h.rs.rd.set_ 1 (.int .i64 (j : Int)))
  simp at h1
  have ha : Aft K g w (w.setCell ⟨g, 1, none⟩ (.int .i64 (j : Int))) := (Aft.refl K g w).set 1 _
  exact ⟨⟨h1, h.rs.tr.aft ha⟩, h.inK.after ha.size, hj, Nat.le_trans h.hb (X.good.up _ _ hij)⟩
theorem Rdr.ng {w : World} {K : Nat → Prop} {g gt : Nat} {s : Bs} {T : List Tk} {b n i : Nat} (h : Rdr w K g gt s T b n i) : K g := h.rs.tr.kg
/-- the reader's cell is written -/
theorem Br.seen {w : World} {K : Nat → Prop} {g h kind at_ : Nat} {pts : List Tr.PT} (hb : Br w K h kind at_ pts) (hg : K g) (i : Nat) (v : Value) : Br (w.setCell ⟨g, i, none⟩ v) K h kind at_ pts :=
  hb.aft ((Aft.refl (Old w) g w).set i v) hg

/-- one leaf -/
def LeafE (w : World) (K : Nat → Prop) (g gt h kind at_ : Nat) (s : Bs) (T : List Tk) (b n j : Nat) (pts : List Tr.PT) (w' : World) : Prop :=
  Aft K g w w' ∧ Rdr w' K g gt s T b n j ∧ Br w' K h kind at_ pts
set_option maxHeartbeats 8000000 in
set_option maxRecDepth 100000 in
theorem take_walk {w : World} {K : Nat → Prop} {g gt : Nat} {s : Bs} {T : List Tk} {b n i : Nat} {h kind at_ : Nat} {pts : List Tr.PT} (X : Txts s T) (R : Rdr w K g gt s T b n i) (hb : Br w K h kind at_ pts) (hl : pts.length ≤ 50000000) :
    Calls Tryz.prog 154 #[.pointer (some ⟨g, 0, none⟩), .pointer (some ⟨h, 0, none⟩)] w (StE w K g gt h kind at_ s T b n (Tr.thn (pts, i) (Tr.takeP s T b))) := by
  obtain ⟨i0, ji, jz0, jz1, jz2⟩ := info_parts infoPart
  have HP : Hid (Tr.thn (pts, i) (Tr.takeP s T b) = (pts ++ leavesP s T b i (Tr.toP T i), Tr.toP T i)) := rfl
  have hT := X.hT
  have hs := X.hs
  have hto1 := Tr.to_ge T i R.hi
  have hto2 := Tr.to_le T i
  have hnl := Tr.next_le T i R.hi
  have HT : Hid (Tr.toP T i = min (Tr.nextP T i + 1) T.length) := rfl
  have hi := R.hi
  have hnx := fun m => next_walkT (R.drewN m).rs R.hi (by omega)
  generalize Tr.toP T i = to_ at *
  rw [HP.out]
  clear HP
  generalize Tr.nextP T i = nx at *
  have hm1 : IntKind.i64.wrap ((nx : Int) + 1) = (nx : Int) + 1 := IntWalk.i64_in _ (by omega)
  have Hto : Hid (min ((nx : Int) + 1) (T.length : Int) = (to_ : Int)) := by show _ = _; rw [HT.out]; omega
  clear HT
  go_enter Tryz.func154, Tryz.ntmps154
  obtain ⟨g0, g1, g2, _⟩ := R.rs.cells
  obtain ⟨d, Ad, cd, t0, t1, d0, hrow⟩ := R.rs.tr.cells
  go_wp2_with fail
  go_quiet ((go_at_call 83; exact Calls.quiet_of_same (hnx _)))
  rw [Hto.out]
  have hd : Below w.heap.size w (w.drewN nq) := below_drewN (Below.refl _ _) _
  have hA := Kept.aft (Kept.below hd R.inK) g
  have R := R.below hd
  have hb := hb.below hd
  clear hd hnx hnl hm1 Hto g0 g1 g2 t0 t1 d0 hrow
  generalize w.drewN nq = w1 at *
  go_wp2_with fail
  go_loopg [5] (to_ - i) (fun q v wr => ∃ j, i ≤ j ∧ j ≤ to_ ∧ to_ - j ≤ q ∧ LeafE w K g gt h kind at_ s T b n j (pts ++ leavesP s T b i j) wr)
  case atStart => exact ⟨i, Nat.le_refl _, hto1, Nat.le_refl _, hA, R, by rw [leaves_self, List.append_nil]; exact hb⟩
  case round =>
    clear hA R hb
    obtain ⟨j, hij, hjt, hq, hA, R, hb⟩ := hrel
    obtain ⟨g0, g1, g2, _⟩ := R.rs.cells
    obtain ⟨d, Ad, ct, t0, t1, d0, hrow⟩ := R.rs.tr.cells
    by_cases hlt : j < to_
    · have hjT : j < T.length := by omega
      have j0 : (0 : Int) ≤ (j : Int) := by omega
      have j1 : (j : Int) < (T.length : Int) := by omega
      have j2 : (j : Int) < (to_ : Int) := by omega
      obtain ⟨br, o, rfl, hbr, hbl, q0, q1, q2⟩ := hrow.tk hjT
      have HL := Lib.hid (leaves_succ s T b i j hij hjT)
      have hll := leaves_len s T b i j
      obtain ⟨h1, h2, h3⟩ := X.good.at_ hjT
      have HA := Lib.hid (Tr.abs_at s T j hjT)
      have hbj : b ≤ Tr.absP s T j := R.hb
      rw [HA.out] at hbj
      clear HA
      have Hlf : Hid (Tr.leafP s b T[j] = .leaf T[j].1 (Tr.subT s T[j]) (T[j].2.1 - b)) := rfl
      have Hsub := Lib.hid (sub_str s T[j])
      generalize T[j] = t at *
      obtain ⟨tk, ta, tl⟩ := t
      dsimp only at h1 h2 h3 q0 q1 q2 hbj Hlf Hsub
      have hpl : (pts ++ leavesP s T b i j).length ≤ 60000000 := by rw [List.length_append]; omega
      have HL2 : Hid (pts ++ leavesP s T b i (j + 1) = (pts ++ leavesP s T b i j) ++ [.leaf tk (Tr.subT s (tk, ta, tl)) (ta - b)]) := by
        show _ = _
        rw [HL.out, Hlf.out, List.append_assoc]
      clear HL Hlf hll hrow
      obtain ⟨A, c, vs, hb⟩ := hb
      generalize pts ++ leavesP s T b i j = ps at *
      obtain ⟨bx, hbx⟩ : ∃ x, x = wr.heap.size := ⟨_, rfl⟩
      go_upto_region 3 with fail
      refine wp_region_G 14 (fun w' : World => w'.cell? ⟨g, 0, none⟩ = some (.pointer (some ⟨gt, 0, none⟩)) ∧ w'.cell? ⟨g, 1, none⟩ = some (.int .i64 (j : Int)) ∧ w'.cell? ⟨gt, 1, none⟩ = some (.slice (some ⟨br, o, none⟩) T.length ct) ∧ w'.cell? ⟨br, o + j * 3, none⟩ = some (.int .i64 (tk : Int)) ∧ w'.cell? ⟨br, o + j * 3 + 1, none⟩ = some (.int .i64 (ta : Int)) ∧ w'.cell? ⟨br, o + j * 3 + 2, none⟩ = some (.int .i64 (tl : Int))) (by kernel_rfl) ?_
      have hgl := R.rs.rd.lt
      have hgtl := World.block_lt_of_cell? wr ⟨gt, 0, none⟩ t0
      have hS0 : (fun w' : World => w'.cell? ⟨g, 0, none⟩ = some (.pointer (some ⟨gt, 0, none⟩)) ∧ w'.cell? ⟨g, 1, none⟩ = some (.int .i64 (j : Int)) ∧ w'.cell? ⟨gt, 1, none⟩ = some (.slice (some ⟨br, o, none⟩) T.length ct) ∧ w'.cell? ⟨br, o + j * 3, none⟩ = some (.int .i64 (tk : Int)) ∧ w'.cell? ⟨br, o + j * 3 + 1, none⟩ = some (.int .i64 (ta : Int)) ∧ w'.cell? ⟨br, o + j * 3 + 2, none⟩ = some (.int .i64 (tl : Int))) wr.drew := ⟨g0, g1, t1, q0, q1, q2⟩
      refine wpAnyG_take (i := 0) (v := ?_) rfl (by kernel_rfl) (by kernel_rfl) (by kernel_rfl) (by kernel_rfl) (fun _ _ _ h => h) (Or.inl ⟨by rfl, ?_⟩) hS0 ?_; rotate_left; · (intro w hSw; (try dsimp only at hSw); obtain ⟨s0, s1, s2, s3, s4, s5⟩ := hSw; go_simp; try with_reducible rfl)
      simp only [Act.put, List.setIfInBounds_toArray]
      refine wpAnyG_take (i := 1) (v := ?_) rfl (by kernel_rfl) (by kernel_rfl) (by kernel_rfl) (by kernel_rfl) (fun _ _ _ h => h) (Or.inl ⟨by rfl, ?_⟩) hS0 ?_; rotate_left; · (intro w hSw; (try dsimp only at hSw); obtain ⟨s0, s1, s2, s3, s4, s5⟩ := hSw; go_simp; try with_reducible rfl)
      simp only [Act.put]
      refine wpAnyG_take (i := 2) (v := ?_) rfl (by kernel_rfl) (by kernel_rfl) (by kernel_rfl) (by kernel_rfl) (fun _ _ _ h => h) (Or.inl ⟨by rfl, ?_⟩) hS0 ?_; rotate_left; · (intro w hSw; (try dsimp only at hSw); obtain ⟨s0, s1, s2, s3, s4, s5⟩ := hSw; go_simp; try with_reducible rfl)
      simp only [Act.put]
      refine wpAnyG_take (i := 3) (v := ?_) rfl (by kernel_rfl) (by kernel_rfl) (by kernel_rfl) (by kernel_rfl) (fun _ _ _ h => h) (Or.inl ⟨by rfl, ?_⟩) hS0 ?_; rotate_left; · (intro w hSw; (try dsimp only at hSw); obtain ⟨s0, s1, s2, s3, s4, s5⟩ := hSw; go_simp; try with_reducible rfl)
      simp only [Act.put]
      refine wpAnyG_take (i := 4) (v := ?_) rfl (by kernel_rfl) (by kernel_rfl) (by kernel_rfl) (by kernel_rfl) (fun _ _ _ h => h) (Or.inl ⟨by rfl, ?_⟩) hS0 ?_; rotate_left; · (intro w hSw; (try dsimp only at hSw); obtain ⟨s0, s1, s2, s3, s4, s5⟩ := hSw; go_simp; try with_reducible rfl)
      simp only [Act.put]
      refine wpAnyG_take (i := 5) (v := ?_) rfl (by kernel_rfl) (by kernel_rfl) (by kernel_rfl) (by kernel_rfl) (fun _ _ _ h => h) (Or.inl ⟨by rfl, ?_⟩) hS0 ?_; rotate_left; · (intro w hSw; (try dsimp only at hSw); obtain ⟨s0, s1, s2, s3, s4, s5⟩ := hSw; go_simp; try with_reducible rfl)
      simp only [Act.put]
      refine wpAnyG_take (i := 6) (v := ?_) rfl (by kernel_rfl) (by kernel_rfl) (by kernel_rfl) (by kernel_rfl) (fun _ _ _ h => h) (Or.inl ⟨by rfl, ?_⟩) hS0 ?_; rotate_left; · (intro w hSw; (try dsimp only at hSw); obtain ⟨s0, s1, s2, s3, s4, s5⟩ := hSw; go_simp; try with_reducible rfl)
      simp only [Act.put]
      refine wpAnyG_take (i := 7) (v := ?_) rfl (by kernel_rfl) (by kernel_rfl) (by kernel_rfl) (by kernel_rfl) (fun _ _ _ h => h) (Or.inl ⟨by rfl, ?_⟩) hS0 ?_; rotate_left; · (intro w hSw; (try dsimp only at hSw); obtain ⟨s0, s1, s2, s3, s4, s5⟩ := hSw; go_simp; try with_reducible rfl)
      simp only [Act.put]
      refine wpAnyG_take (i := 8) (v := ?_) rfl (by kernel_rfl) (by kernel_rfl) (by kernel_rfl) (by kernel_rfl) (fun _ _ _ h => h) (Or.inl ⟨by rfl, ?_⟩) hS0 ?_; rotate_left; · (intro w hSw; (try dsimp only at hSw); obtain ⟨s0, s1, s2, s3, s4, s5⟩ := hSw; go_simp; try with_reducible rfl)
      simp only [Act.put]
      refine wpAnyG_take (i := 9) (v := ?_) rfl (by kernel_rfl) (by kernel_rfl) (by kernel_rfl) (by kernel_rfl) (fun _ _ _ h => h) (Or.inl ⟨by rfl, ?_⟩) hS0 ?_; rotate_left; · (intro w hSw; (try dsimp only at hSw); obtain ⟨s0, s1, s2, s3, s4, s5⟩ := hSw; go_simp; try with_reducible rfl)
      simp only [Act.put]
      refine wpAnyG_take (i := 10) (v := ?_) rfl (by kernel_rfl) (by kernel_rfl) (by kernel_rfl) (by kernel_rfl) (fun _ _ _ h => h) (Or.inl ⟨by rfl, ?_⟩) hS0 ?_; rotate_left; · (intro w hSw; (try dsimp only at hSw); obtain ⟨s0, s1, s2, s3, s4, s5⟩ := hSw; go_simp; try with_reducible rfl)
      simp only [Act.put]
      refine wpAnyG_take (i := 11) (v := ?_) rfl (by kernel_rfl) (by kernel_rfl) (by kernel_rfl) (by kernel_rfl) (fun _ _ _ h => h) (Or.inl ⟨by rfl, ?_⟩) hS0 ?_; rotate_left; · (intro w hSw; (try dsimp only at hSw); obtain ⟨s0, s1, s2, s3, s4, s5⟩ := hSw; go_simp; try with_reducible rfl)
      simp only [Act.put]
      refine wpAnyG_take (i := 12) (v := ?_) rfl (by kernel_rfl) (by kernel_rfl) (by kernel_rfl) (by kernel_rfl) (fun _ _ _ h => h) (Or.inl ⟨by rfl, ?_⟩) hS0 ?_; rotate_left; · (intro w hSw; (try dsimp only at hSw); obtain ⟨s0, s1, s2, s3, s4, s5⟩ := hSw; go_simp; try with_reducible rfl)
      simp only [Act.put]
      clear hS0
      refine wpAnyG_one (i := 13) (by kernel_rfl) rfl (fun C hC => ?_)
      go_simp
      refine hC.out _ _ (fun _ => ⟨(cell_alloc _ _ _ _ hgl).trans g0, (cell_alloc _ _ _ _ hgl).trans g1, (cell_alloc _ _ _ _ hgtl).trans t1, (cell_alloc _ _ _ _ hbl).trans q0, (cell_alloc _ _ _ _ hbl).trans q1, (cell_alloc _ _ _ _ hbl).trans q2⟩) ?_
      clear hC C
      refine wpAnyG_one (i := 14) (by kernel_rfl) rfl (fun C hC => ?_)
      go_simp
      refine hC.out _ _ (fun h => absurd rfl h) ?_
      clear hC C
      refine wpAnyG_done (by kernel_rfl) ?_ _
      have hd : Below wr.heap.size wr ((wr.alloc (.cells #[.int .i64 (tk : Int), .int .i64 (ta : Int), .int .i64 (tl : Int)] 131)).drew) := ((Below.refl _ _).alloc (Nat.le_refl _) _).drew
      have hA := hA.trans (Kept.aft (Kept.below hd R.inK) g)
      have R := R.below hd
      have hb := hb.below hd
      have hBx : Blk ((wr.alloc (.cells #[.int .i64 (tk : Int), .int .i64 (ta : Int), .int .i64 (tl : Int)] 131)).drew) bx 131 #[.int .i64 (tk : Int), .int .i64 (ta : Int), .int .i64 (tl : Int)] := by rw [hbx]; exact (Blk.new _ _ _).drew
      rw [← hbx]
      clear hbx hd g0 g1 g2 t0 t1 d0 q0 q1 q2 hbl hbr hgl hgtl
      generalize (wr.alloc (.cells #[.int .i64 (tk : Int), .int .i64 (ta : Int), .int .i64 (tl : Int)] 131)).drew = w2 at *
      go_wp2_with fail
      refine wp_region_G 34 (fun w' : World => w'.cell? ⟨h, 1, none⟩ = some (.slice A ps.length c) ∧ w'.cell? ⟨bx, 0, none⟩ = some (.int .i64 (tk : Int)) ∧ w'.cell? ⟨bx, 1, none⟩ = some (.int .i64 (ta : Int)) ∧ w'.cell? ⟨bx, 2, none⟩ = some (.int .i64 (tl : Int)) ∧ w'.cell? ⟨g, 0, none⟩ = some (.pointer (some ⟨gt, 0, none⟩)) ∧ w'.cell? ⟨g, 2, none⟩ = some (.int .i64 (b : Int))) (by kernel_rfl) ?_
      have hd : Below w2.heap.size w2 w2.drew := (Below.refl _ _).drew
      have hA := hA.trans (Kept.aft (Kept.below hd R.inK) g)
      have R := R.below hd
      have hb := hb.below hd
      have hBx := hBx.drew
      clear hd
      generalize w2.drew = w3 at *
      have o1 := hb.blk.cell 1
      have b0 := hBx.cell 0
      have b1 := hBx.cell 1
      have b2 := hBx.cell 2
      simp at o1 b0 b1 b2
      obtain ⟨g0, _, g2, _⟩ := R.rs.cells
      obtain ⟨d, Ad, ct, t0, t1, d0, _⟩ := R.rs.tr.cells
      have hS0 : (fun w' : World => w'.cell? ⟨h, 1, none⟩ = some (.slice A ps.length c) ∧ w'.cell? ⟨bx, 0, none⟩ = some (.int .i64 (tk : Int)) ∧ w'.cell? ⟨bx, 1, none⟩ = some (.int .i64 (ta : Int)) ∧ w'.cell? ⟨bx, 2, none⟩ = some (.int .i64 (tl : Int)) ∧ w'.cell? ⟨g, 0, none⟩ = some (.pointer (some ⟨gt, 0, none⟩)) ∧ w'.cell? ⟨g, 2, none⟩ = some (.int .i64 (b : Int))) w3 := ⟨o1, b0, b1, b2, g0, g2⟩
      have a0 : IntKind.i64.wrap ((ta : Int) + tl) = (ta : Int) + tl := IntWalk.i64_in _ (by omega)
      have a1 : (0 : Int) ≤ (ta : Int) + tl := by omega
      have a2 : ((ta : Int) + tl).toNat = ta + tl := by omega
      have a3 : (ta : Int) + tl ≤ (s.length : Int) := by omega
      have a4 : (ta : Int) ≤ (ta : Int) + tl := by omega
      have a5 : ta ≤ ta + tl := by omega
      have a6 : ta + tl ≤ s.length := h1
      have a7 : IntKind.i64.wrap ((ta : Int) - b) = (ta : Int) - b := IntWalk.i64_in _ (by omega)
      have Hab : Hid ((ta : Int) - b = ((ta - b : Nat) : Int)) := by show _ = _; omega
      refine wpAnyG_take (i := 0) (v := ?_) rfl (by kernel_rfl) (by kernel_rfl) (by kernel_rfl) (by kernel_rfl) (fun _ _ _ h => h) (Or.inl ⟨by rfl, ?_⟩) hS0 ?_; rotate_left; · (intro w hSw; (try dsimp only at hSw); obtain ⟨s0, s1, s2, s3, s4, s5⟩ := hSw; go_simp; try with_reducible rfl)
      simp only [Act.put, List.setIfInBounds_toArray]
      refine wpAnyG_take (i := 1) (v := ?_) rfl (by kernel_rfl) (by kernel_rfl) (by kernel_rfl) (by kernel_rfl) (fun _ _ _ h => h) (Or.inl ⟨by rfl, ?_⟩) hS0 ?_; rotate_left; · (intro w hSw; (try dsimp only at hSw); obtain ⟨s0, s1, s2, s3, s4, s5⟩ := hSw; go_simp; try with_reducible rfl)
      simp only [Act.put]
      refine wpAnyG_take (i := 2) (v := ?_) rfl (by kernel_rfl) (by kernel_rfl) (by kernel_rfl) (by kernel_rfl) (fun _ _ _ h => h) (Or.inl ⟨by rfl, ?_⟩) hS0 ?_; rotate_left; · (intro w hSw; (try dsimp only at hSw); obtain ⟨s0, s1, s2, s3, s4, s5⟩ := hSw; go_simp; try with_reducible rfl)
      simp only [Act.put]
      refine wpAnyG_take (i := 3) (v := ?_) rfl (by kernel_rfl) (by kernel_rfl) (by kernel_rfl) (by kernel_rfl) (fun _ _ _ h => h) (Or.inl ⟨by rfl, ?_⟩) hS0 ?_; rotate_left; · (intro w hSw; (try dsimp only at hSw); obtain ⟨s0, s1, s2, s3, s4, s5⟩ := hSw; go_simp; try with_reducible rfl)
      simp only [Act.put]
      refine wpAnyG_take (i := 4) (v := ?_) rfl (by kernel_rfl) (by kernel_rfl) (by kernel_rfl) (by kernel_rfl) (fun _ _ _ h => h) (Or.inl ⟨by rfl, ?_⟩) hS0 ?_; rotate_left; · (intro w hSw; (try dsimp only at hSw); obtain ⟨s0, s1, s2, s3, s4, s5⟩ := hSw; go_simp; try with_reducible rfl)
      simp only [Act.put]
      refine wpAnyG_take (i := 5) (v := ?_) rfl (by kernel_rfl) (by kernel_rfl) (by kernel_rfl) (by kernel_rfl) (fun _ _ _ h => h) (Or.inl ⟨by rfl, ?_⟩) hS0 ?_; rotate_left; · (intro w hSw; (try dsimp only at hSw); obtain ⟨s0, s1, s2, s3, s4, s5⟩ := hSw; go_simp; try with_reducible rfl)
      simp only [Act.put]
      refine wpAnyG_take (i := 6) (v := ?_) rfl (by kernel_rfl) (by kernel_rfl) (by kernel_rfl) (by kernel_rfl) (fun _ _ _ h => h) (Or.inl ⟨by rfl, ?_⟩) hS0 ?_; rotate_left; · (intro w hSw; (try dsimp only at hSw); obtain ⟨s0, s1, s2, s3, s4, s5⟩ := hSw; go_simp; try with_reducible rfl)
      simp only [Act.put]
      refine wpAnyG_take (i := 7) (v := ?_) rfl (by kernel_rfl) (by kernel_rfl) (by kernel_rfl) (by kernel_rfl) (fun _ _ _ h => h) (Or.inl ⟨by rfl, ?_⟩) hS0 ?_; rotate_left; · (intro w hSw; (try dsimp only at hSw); obtain ⟨s0, s1, s2, s3, s4, s5⟩ := hSw; go_simp; try with_reducible rfl)
      simp only [Act.put]
      refine wpAnyG_take (i := 8) (v := ?_) rfl (by kernel_rfl) (by kernel_rfl) (by kernel_rfl) (by kernel_rfl) (fun _ _ _ h => h) (Or.inl ⟨by rfl, ?_⟩) hS0 ?_; rotate_left; · (intro w hSw; (try dsimp only at hSw); obtain ⟨s0, s1, s2, s3, s4, s5⟩ := hSw; go_simp; try with_reducible rfl)
      simp only [Act.put]
      refine wpAnyG_take (i := 9) (v := ?_) rfl (by kernel_rfl) (by kernel_rfl) (by kernel_rfl) (by kernel_rfl) (fun _ _ _ h => h) (Or.inl ⟨by rfl, ?_⟩) hS0 ?_; rotate_left; · (intro w hSw; (try dsimp only at hSw); obtain ⟨s0, s1, s2, s3, s4, s5⟩ := hSw; go_simp; try with_reducible rfl)
      simp only [Act.put]
      refine wpAnyG_take (i := 10) (v := ?_) rfl (by kernel_rfl) (by kernel_rfl) (by kernel_rfl) (by kernel_rfl) (fun _ _ _ h => h) (Or.inl ⟨by rfl, ?_⟩) hS0 ?_; rotate_left; · (intro w hSw; (try dsimp only at hSw); obtain ⟨s0, s1, s2, s3, s4, s5⟩ := hSw; go_simp; try with_reducible rfl)
      simp only [Act.put]
      refine wpAnyG_take (i := 12) (v := ?_) rfl (by kernel_rfl) (by kernel_rfl) (by kernel_rfl) (by kernel_rfl) (fun _ _ _ h => h) (Or.inl ⟨by rfl, ?_⟩) hS0 ?_; rotate_left; · (intro w hSw; (try dsimp only at hSw); obtain ⟨s0, s1, s2, s3, s4, s5⟩ := hSw; go_simp; try with_reducible rfl)
      simp only [Act.put]
      refine wpAnyG_take (i := 13) (v := ?_) rfl (by kernel_rfl) (by kernel_rfl) (by kernel_rfl) (by kernel_rfl) (fun _ _ _ h => h) (Or.inl ⟨by rfl, ?_⟩) hS0 ?_; rotate_left; · (intro w hSw; (try dsimp only at hSw); obtain ⟨s0, s1, s2, s3, s4, s5⟩ := hSw; go_simp; try with_reducible rfl)
      simp only [Act.put]
      refine wpAnyG_take (i := 14) (v := ?_) rfl (by kernel_rfl) (by kernel_rfl) (by kernel_rfl) (by kernel_rfl) (fun _ _ _ h => h) (Or.inl ⟨by rfl, ?_⟩) hS0 ?_; rotate_left; · (intro w hSw; (try dsimp only at hSw); obtain ⟨s0, s1, s2, s3, s4, s5⟩ := hSw; go_simp; try with_reducible rfl)
      simp only [Act.put]
      refine wpAnyG_take (i := 15) (v := ?_) rfl (by kernel_rfl) (by kernel_rfl) (by kernel_rfl) (by kernel_rfl) (fun _ _ _ h => h) (Or.inl ⟨by rfl, ?_⟩) hS0 ?_; rotate_left; · (intro w hSw; (try dsimp only at hSw); obtain ⟨s0, s1, s2, s3, s4, s5⟩ := hSw; go_simp; try with_reducible rfl)
      simp only [Act.put]
      refine wpAnyG_take (i := 16) (v := ?_) rfl (by kernel_rfl) (by kernel_rfl) (by kernel_rfl) (by kernel_rfl) (fun _ _ _ h => h) (Or.inl ⟨by rfl, ?_⟩) hS0 ?_; rotate_left; · (intro w hSw; (try dsimp only at hSw); obtain ⟨s0, s1, s2, s3, s4, s5⟩ := hSw; go_simp; try with_reducible rfl)
      simp only [Act.put]
      refine wpAnyG_take (i := 17) (v := ?_) rfl (by kernel_rfl) (by kernel_rfl) (by kernel_rfl) (by kernel_rfl) (fun _ _ _ h => h) (Or.inl ⟨by rfl, ?_⟩) hS0 ?_; rotate_left; · (intro w hSw; (try dsimp only at hSw); obtain ⟨s0, s1, s2, s3, s4, s5⟩ := hSw; go_simp; try with_reducible rfl)
      simp only [Act.put]
      refine wpAnyG_take (i := 18) (v := ?_) rfl (by kernel_rfl) (by kernel_rfl) (by kernel_rfl) (by kernel_rfl) (fun _ _ _ h => h) (Or.inl ⟨by rfl, ?_⟩) hS0 ?_; rotate_left; · (intro w hSw; (try dsimp only at hSw); obtain ⟨s0, s1, s2, s3, s4, s5⟩ := hSw; go_simp; try with_reducible rfl)
      simp only [Act.put]
      refine wpAnyG_take (i := 20) (v := ?_) rfl (by kernel_rfl) (by kernel_rfl) (by kernel_rfl) (by kernel_rfl) (fun _ _ _ h => h) (Or.inl ⟨by rfl, ?_⟩) hS0 ?_; rotate_left; · (intro w hSw; (try dsimp only at hSw); obtain ⟨s0, s1, s2, s3, s4, s5⟩ := hSw; go_simp; try with_reducible rfl)
      simp only [Act.put]
      refine wpAnyG_take (i := 21) (v := ?_) rfl (by kernel_rfl) (by kernel_rfl) (by kernel_rfl) (by kernel_rfl) (fun _ _ _ h => h) (Or.inl ⟨by rfl, ?_⟩) hS0 ?_; rotate_left; · (intro w hSw; (try dsimp only at hSw); obtain ⟨s0, s1, s2, s3, s4, s5⟩ := hSw; go_simp; try with_reducible rfl)
      simp only [Act.put]
      refine wpAnyG_take (i := 22) (v := ?_) rfl (by kernel_rfl) (by kernel_rfl) (by kernel_rfl) (by kernel_rfl) (fun _ _ _ h => h) (Or.inl ⟨by rfl, ?_⟩) hS0 ?_; rotate_left; · (intro w hSw; (try dsimp only at hSw); obtain ⟨s0, s1, s2, s3, s4, s5⟩ := hSw; go_simp; try with_reducible rfl)
      simp only [Act.put]
      refine wpAnyG_take (i := 23) (v := ?_) rfl (by kernel_rfl) (by kernel_rfl) (by kernel_rfl) (by kernel_rfl) (fun _ _ _ h => h) (Or.inl ⟨by rfl, ?_⟩) hS0 ?_; rotate_left; · (intro w hSw; (try dsimp only at hSw); obtain ⟨s0, s1, s2, s3, s4, s5⟩ := hSw; go_simp; try with_reducible rfl)
      simp only [Act.put]
      refine wpAnyG_take (i := 24) (v := ?_) rfl (by kernel_rfl) (by kernel_rfl) (by kernel_rfl) (by kernel_rfl) (fun _ _ _ h => h) (Or.inl ⟨by rfl, ?_⟩) hS0 ?_; rotate_left; · (intro w hSw; (try dsimp only at hSw); obtain ⟨s0, s1, s2, s3, s4, s5⟩ := hSw; go_simp; try with_reducible rfl)
      simp only [Act.put]
      refine wpAnyG_take (i := 25) (v := ?_) rfl (by kernel_rfl) (by kernel_rfl) (by kernel_rfl) (by kernel_rfl) (fun _ _ _ h => h) (Or.inl ⟨by rfl, ?_⟩) hS0 ?_; rotate_left; · (intro w hSw; (try dsimp only at hSw); obtain ⟨s0, s1, s2, s3, s4, s5⟩ := hSw; go_simp; try with_reducible rfl)
      simp only [Act.put]
      refine wpAnyG_take (i := 26) (v := ?_) rfl (by kernel_rfl) (by kernel_rfl) (by kernel_rfl) (by kernel_rfl) (fun _ _ _ h => h) (Or.inl ⟨by rfl, ?_⟩) hS0 ?_; rotate_left; · (intro w hSw; (try dsimp only at hSw); obtain ⟨s0, s1, s2, s3, s4, s5⟩ := hSw; go_simp; try with_reducible rfl)
      simp only [Act.put]
      clear hS0
      refine wpAnyG_one (i := 11) (by kernel_rfl) rfl (fun C hC => ?_)
      go_simp
      ((with_reducible refine (ttext_walk t0 d0).mono ?_))
      rintro e w4 ⟨rfl, rfl⟩
      refine hC.out _ _ (fun _ => ⟨o1, b0, b1, b2, g0, g2⟩) ?_
      clear hC C
      refine wpAnyG_one (i := 19) (by kernel_rfl) rfl (fun C hC => ?_)
      go_simp
      refine hC.out _ _ (fun _ => ⟨o1, b0, b1, b2, g0, g2⟩) ?_
      clear hC C
      refine wpAnyG_one (i := 27) (by kernel_rfl) rfl (fun C hC => ?_)
      go_simp
      refine hC.out _ _ (fun _ => ⟨o1, b0, b1, b2, g0, g2⟩) ?_
      clear hC C
      have hd : Below w4.heap.size w4 (w4.alloc (.cells #[.int .i64 (tk : Int), .string ((⟨s.toArray⟩ : ByteArray).extract ta (ta + tl)), .int .i64 ((ta : Int) - b)] 106)) := (Below.refl _ _).alloc (Nat.le_refl _) _
      have hBg : Blk (w4.alloc (.cells #[.int .i64 (tk : Int), .string ((⟨s.toArray⟩ : ByteArray).extract ta (ta + tl)), .int .i64 ((ta : Int) - b)] 106)) w4.heap.size 106 #[.int .i64 (tk : Int), .string ((⟨s.toArray⟩ : ByteArray).extract ta (ta + tl)), .int .i64 ((ta : Int) - b)] := Blk.new _ _ _
      rw [show Value.string ((⟨s.toArray⟩ : ByteArray).extract ta (ta + tl)) = .string ⟨(Tr.subT s (tk, ta, tl)).toArray⟩ from Hsub.out, Hab.out] at hBg
      have hA := hA.trans (Kept.aft (Kept.below hd R.inK) g)
      have hp : PtF (w4.alloc (.cells #[.int .i64 (tk : Int), .string ((⟨s.toArray⟩ : ByteArray).extract ta (ta + tl)), .int .i64 ((ta : Int) - b)] 106)) (fun x => ¬ K x ∧ x ≠ h ∧ some x ≠ (Value.slice A ps.length c).ownBlock) (.leaf tk (Tr.subT s (tk, ta, tl)) (ta - b)) (.iface 104 (.pointer (some ⟨w4.heap.size, 0, none⟩))) :=
        ⟨w4.heap.size, rfl, ⟨fun hk => Nat.lt_irrefl _ (R.inK _ hk), fun e => by have := hb.blk.lt; omega, fun e => by have := hb.row_lt _ e.symm; omega⟩, by rw [show Value.string ((⟨s.toArray⟩ : ByteArray).extract ta (ta + tl)) = .string ⟨(Tr.subT s (tk, ta, tl)).toArray⟩ from Hsub.out, Hab.out]; exact hBg⟩
      have hbx3 := hBx.lt
      have hgl := R.rs.rd.lt
      refine wpAnyG_one (i := 28) (by kernel_rfl) rfl (fun C hC => ?_)
      go_simp
      have c0 := (cell_alloc w4 (.cells #[.int .i64 (tk : Int), .string ((⟨s.toArray⟩ : ByteArray).extract ta (ta + tl)), .int .i64 ((ta : Int) - b)] 106) bx 0 hbx3).trans b0
      have c1 := (cell_alloc w4 (.cells #[.int .i64 (tk : Int), .string ((⟨s.toArray⟩ : ByteArray).extract ta (ta + tl)), .int .i64 ((ta : Int) - b)] 106) bx 1 hbx3).trans b1
      have c2 := (cell_alloc w4 (.cells #[.int .i64 (tk : Int), .string ((⟨s.toArray⟩ : ByteArray).extract ta (ta + tl)), .int .i64 ((ta : Int) - b)] 106) bx 2 hbx3).trans b2
      have f0 := (cell_alloc w4 (.cells #[.int .i64 (tk : Int), .string ((⟨s.toArray⟩ : ByteArray).extract ta (ta + tl)), .int .i64 ((ta : Int) - b)] 106) g 0 hgl).trans g0
      have f2 := (cell_alloc w4 (.cells #[.int .i64 (tk : Int), .string ((⟨s.toArray⟩ : ByteArray).extract ta (ta + tl)), .int .i64 ((ta : Int) - b)] 106) g 2 hgl).trans g2
      have hBx := hBx.alloc (.cells #[.int .i64 (tk : Int), .string ((⟨s.toArray⟩ : ByteArray).extract ta (ta + tl)), .int .i64 ((ta : Int) - b)] 106)
      have R := R.below hd
      have hb := hb.below hd
      have o1 : (w4.alloc (.cells #[.int .i64 (tk : Int), .string ((⟨s.toArray⟩ : ByteArray).extract ta (ta + tl)), .int .i64 ((ta : Int) - b)] 106)).cell? ⟨h, 1, none⟩ = some (.slice A ps.length c) := by
        have := hb.blk.cell 1
        simpa using this
      refine hC.out _ _ (fun _ => ⟨o1, c0, c1, c2, f0, f2⟩) ?_
      clear hC C hd hBg b0 b1 b2 g0 g2 t0 t1 d0
      obtain ⟨q, hq⟩ : ∃ q, q = w4.heap.size := ⟨_, rfl⟩
      rw [← hq] at hp ⊢
      clear hq
      generalize (w4.alloc (.cells #[.int .i64 (tk : Int), .string ((⟨s.toArray⟩ : ByteArray).extract ta (ta + tl)), .int .i64 ((ta : Int) - b)] 106)) = w6 at *
      refine wpAnyG_one (i := 29) (by kernel_rfl) rfl (fun C hC => ?_)
      go_simp
      refine hC.out _ _ (fun _ => ⟨o1, c0, c1, c2, f0, f2⟩) ?_
      clear hC C
      refine wpAnyG_one (i := 30) (by kernel_rfl) rfl (fun C hC => ?_)
      go_simp
      refine hC.out _ _ (fun _ => ⟨(cell_alloc _ _ _ _ hb.blk.lt).trans o1, (cell_alloc _ _ _ _ hBx.lt).trans c0, (cell_alloc _ _ _ _ hBx.lt).trans c1, (cell_alloc _ _ _ _ hBx.lt).trans c2, (cell_alloc _ _ _ _ R.rs.rd.lt).trans f0, (cell_alloc _ _ _ _ R.rs.rd.lt).trans f2⟩) ?_
      clear hC C
      refine wpAnyG_one (i := 31) (by kernel_rfl) rfl (fun C hC => ?_)
      refine step_append_lies _ (by rfl) _ _ _ (by rfl) 0 94 i0 _ 1 16 Tryz.underlying85 ji jz0 jz1 jz2 rfl (by omega) (.slice A ps.length c) ps.length vs (by rfl) (hb.own.alloc (.cells #[.iface 104 (.pointer (some ⟨q, 0, none⟩))] 94)) ⟨w6.heap.size, 0, none⟩ 1 1 [.iface 104 (.pointer (some ⟨q, 0, none⟩))] (by rfl) (by rfl) (World.news_of_block (heap_alloc_new w6 _)) (by simp [Value.oneCell']) (by omega) (by unfold maxLen; omega) (by omega) (Nat.zero_le _) (w6.heap.size + 1) (by simp) ?_
      intro gg cap' w5 hown5 hgrow hat hlt5
      have hpu := hb.push R.inK hp hown5 hgrow hat
      have hg5 := (hb.blk.alloc (.cells #[.iface 104 (.pointer (some ⟨q, 0, none⟩))] 94)).grown hgrow hb.row_ne
      have b1 := hg5.cell 1
      have bf := hg5.frozen 1
      simp at b1
      have hx5 := (hBx.alloc (.cells #[.iface 104 (.pointer (some ⟨q, 0, none⟩))] 94)).grown hgrow (own_ne hb.own hBx (by decide))
      have hr5 := (R.rs.rd.alloc (.cells #[.iface 104 (.pointer (some ⟨q, 0, none⟩))] 94)).grown hgrow (own_ne hb.own R.rs.rd (by decide))
      have e0 := hx5.cell 0
      have e1 := hx5.cell 1
      have e2 := hx5.cell 2
      have k0 := hr5.cell 0
      have k2 := hr5.cell 2
      simp at e0 e1 e2 k0 k2
      refine hC.out _ _ (fun _ => ⟨b1, e0, e1, e2, k0, k2⟩) ?_
      clear hC C
      refine wpAnyG_one (i := 32) (by kernel_rfl) rfl (fun C hC => ?_)
      go_simp
      refine hC.out _ _ (fun _ => ⟨b1, e0, e1, e2, k0, k2⟩) ?_
      clear hC C
      refine wpAnyG_one (i := 33) (by kernel_rfl) rfl (fun C hC => ?_)
      go_simp
      refine hC.out _ _ (fun _ => ⟨b1, e0, e1, e2, k0, k2⟩) ?_
      clear hC C
      refine wpAnyG_one (i := 34) (by kernel_rfl) rfl (fun C hC => ?_)
      go_simp
      refine hC.out _ _ (fun h => absurd rfl h) ?_
      clear hC C
      refine wpAnyG_done (by kernel_rfl) ?_ _
      have hB := hpu.1
      have R := R.kept hpu.2
      have hA := hA.trans (hpu.2.aft g)
      clear hb hp o1 hown5 hgrow hat hlt5 hpu hg5 b1 bf
      clear o1 c0 c1 c2 f0 f2 hbx3 hgl hBx hx5 hr5 e0 e1 e2 k0 k2 a0 a1 a2 a3 a4 a5 a6 a7 Hab Hsub
      generalize (World.setCell w5 ⟨h, 1, none⟩ (.slice (some ⟨gg, 0, none⟩) (ps.length + 1) cap')) = w7 at *
      obtain ⟨_, g1, _, _⟩ := R.rs.cells
      have gf := R.rs.rd.frozen 1
      go_wp2_with fail
      go_roundg (to_ - (j + 1))
      case rel =>
        have hR := R.at_ X (j := j + 1) (by omega) (by omega)
        have hBs := hB.seen R.ng 1 (.int .i64 ((j + 1 : Nat) : Int))
        rw [← HL2.out, show ((j + 1 : Nat) : Int) = (j : Int) + 1 by omega] at hBs
        have hA2 := hA.set 1 (.int .i64 ((j : Int) + 1))
        rw [show ((j + 1 : Nat) : Int) = (j : Int) + 1 by omega] at hR
        exact ⟨j + 1, by omega, by omega, Nat.le_refl _, hA2, hR, hBs⟩
      case measure => omega
    · obtain rfl : j = to_ := by omega
      have j2 : ¬ (j : Int) < (j : Int) := by omega
      go_wp2_with fail
      go_end0
      exact ⟨rfl, hA, R, hb⟩
end Go.Proofs.YtalklmeejdmifaaGreatDoor
/-
  WALKS of package tree: binary, row.
-/
namespace Go.Proofs.YtalklmeejdmifaaGreatDoor
open Go.RowKit

/-- what a function does that reads a part -/
def PtE (w : World) (K : Nat → Prop) (g gt : Nat) (s : Bs) (T : List Tk) (b n : Nat) (r : Tr.PT × Nat) (e : Ending) (w' : World) : Prop :=
  ∃ v, e = .returned v ∧ Aft K g w w' ∧ Rdr w' K g gt s T b n r.2 ∧ PtF w' (fun x => ¬ K x) r.1 v
/-- a method that reads a part, wherever the reader stands -/
structure OneC (g gt : Nat) (s : Bs) (T : List Tk) (b n : Nat) (F : Nat) (one : Nat → Tr.PT × Nat) : Prop where
  run : ∀ (args : Array Value) (w : World), (callFunc F args).run Tryz.prog w = .ok (.enter F args) w
  calls : ∀ (w : World) (K : Nat → Prop) (i : Nat), Rdr w K g gt s T b n i → Calls Tryz.prog F #[.pointer (some ⟨g, 0, none⟩)] w (PtE w K g gt s T b n (one i))
theorem PtF.form {w : World} {F : Nat → Prop} {p : Tr.PT} {v : Value} (h : PtF w F p v) : ∃ t q, v = .iface t (.pointer (some ⟨q, 0, none⟩)) := by
  obtain ⟨t, q, _, e, _⟩ := h.from_
  exact ⟨t, q, e⟩
theorem Rdr.old {w : World} {K : Nat → Prop} {g gt : Nat} {s : Bs} {T : List Tk} {b n i : Nat} (R : Rdr w K g gt s T b n i) : Rdr w (Old w) g gt s T b n i := ⟨R.rs.mono R.inK, Old.in_ w, R.hi, R.hb⟩
theorem Rdr.from_old {w w' : World} {K K' : Nat → Prop} {g gt : Nat} {s : Bs} {T : List Tk} {b n i i' n' : Nat} (R : Rdr w K g gt s T b n i) (R' : Rdr w' K' g gt s T b n' i') (ha : Aft K g w w') : Rdr w' K g gt s T b n' i' :=
  ⟨⟨R'.rs.rd, R.rs.tr.aft ha⟩, R.inK.after ha.size, R'.hi, R'.hb⟩
/-- what was made while nothing that stood was touched -/
theorem PtF.from_old {w w' : World} {K : Nat → Prop} {p : Tr.PT} {v : Value} (h : PtF w' (fun x => ¬ Old w x) p v) (hK : In K w) : PtF w' (fun x => ¬ K x) p v :=
  PtF.keep (Nat.le_refl _) (fun _ hF _ => ⟨rfl, fun hk => hF (hK _ hk)⟩) p v h
theorem Br.kept {w w' : World} {K : Nat → Prop} {g h kind at_ : Nat} {pts : List Tr.PT} (hb : Br w K h kind at_ pts) (ha : Aft (Old w) g w w') (hg : K g) : Br w' K h kind at_ pts := hb.aft ha hg

set_option maxHeartbeats 4000000 in
set_option maxRecDepth 100000 in
theorem binary_walk {w : World} {K : Nat → Prop} {g gt : Nat} {s : Bs} {T : List Tk} {b n i : Nat} (X : Txts s T) (R : Rdr w K g gt s T b n i) {p : Tr.PT} {v : Value} (hp : PtF w (fun x => ¬ K x) p v) {F : Nat} {one : Nat → Tr.PT × Nat} (ho : OneC g gt s T b n F one) :
    Calls Tryz.prog 224 #[.pointer (some ⟨g, 0, none⟩), v, .func (.func F) #[.pointer (some ⟨g, 0, none⟩)] #[]] w (PtE w K g gt s T b n (Tr.binP s T b one (p, i))) := by
  obtain ⟨i0, ji, jz0, jz1, jz2⟩ := info_parts infoPart
  have har := around_walk R.inK 10 hp
  have hrun := ho.run
  have hT := X.hT
  have HP : Hid (Tr.binP s T b one (p, i) = (.branch 10 p.from_ ((Tr.thn ([p], i) (Tr.takeP s T b)).1 ++ [(one (Tr.thn ([p], i) (Tr.takeP s T b)).2).1]), (one (Tr.thn ([p], i) (Tr.takeP s T b)).2).2)) := rfl
  have hta := Tr.StOk.thn (i := i) (c := 1) (st := ([p], i)) ⟨Nat.le_refl _, R.hi, by simp⟩ (Tr.take_adv s T b)
  rw [HP.out]
  clear HP
  generalize p.from_ = fr at *
  go_enter Tryz.func224, Tryz.ntmps224
  go_wp2_with fail
  refine har.mono ?_
  clear har
  rintro e w1 ⟨h, rfl, hd, hhs, hb⟩
  have hA := Kept.aft (Kept.below hd R.inK) g
  have R := R.below hd
  clear hd
  have htk := take_walk X R hb (by simp)
  generalize Tr.thn ([p], i) (Tr.takeP s T b) = st at *
  obtain ⟨pts, i2⟩ := st
  have hpl : pts.length ≤ 10000000 := by have := hta.2.2; have := hta.2.1; dsimp only at *; omega
  go_wp2_with fail
  refine htk.mono ?_
  clear htk hb R hp
  intro e w2 h2
  obtain ⟨rfl, hA2, R, A, c, vs, hb⟩ := h2
  have hA := hA.trans hA2
  dsimp only at R hb
  clear hA2 hta
  go_upto_region 3 with fail
  refine wp_region_G 11 (fun w' : World => w'.cell? ⟨h, 1, none⟩ = some (.slice A pts.length c)) (by kernel_rfl) ?_
  have hd : Below w2.heap.size w2 w2.drew := (Below.refl _ _).drew
  have hA := hA.trans (Kept.aft (Kept.below hd R.inK) g)
  have R := R.drew
  have hb := hb.below hd
  clear hd
  generalize w2.drew = w3 at *
  have o1 := hb.blk.cell 1
  simp at o1
  have hS0 : (fun w' : World => w'.cell? ⟨h, 1, none⟩ = some (.slice A pts.length c)) w3 := o1
  refine wpAnyG_take (i := 0) (v := ?_) rfl (by kernel_rfl) (by kernel_rfl) (by kernel_rfl) (by kernel_rfl) (fun _ _ _ h => h) (Or.inl ⟨by rfl, ?_⟩) hS0 ?_; rotate_left; · (intro w hSw; (try dsimp only at hSw); have s0 := hSw; go_simp; try with_reducible rfl)
  simp only [Act.put, List.setIfInBounds_toArray]
  refine wpAnyG_take (i := 1) (v := ?_) rfl (by kernel_rfl) (by kernel_rfl) (by kernel_rfl) (by kernel_rfl) (fun _ _ _ h => h) (Or.inl ⟨by rfl, ?_⟩) hS0 ?_; rotate_left; · (intro w hSw; (try dsimp only at hSw); have s0 := hSw; go_simp; try with_reducible rfl)
  simp only [Act.put]
  refine wpAnyG_take (i := 2) (v := ?_) rfl (by kernel_rfl) (by kernel_rfl) (by kernel_rfl) (by kernel_rfl) (fun _ _ _ h => h) (Or.inl ⟨by rfl, ?_⟩) hS0 ?_; rotate_left; · (intro w hSw; (try dsimp only at hSw); have s0 := hSw; go_simp; try with_reducible rfl)
  simp only [Act.put]
  refine wpAnyG_take (i := 3) (v := ?_) rfl (by kernel_rfl) (by kernel_rfl) (by kernel_rfl) (by kernel_rfl) (fun _ _ _ h => h) (Or.inl ⟨by rfl, ?_⟩) hS0 ?_; rotate_left; · (intro w hSw; (try dsimp only at hSw); have s0 := hSw; go_simp; try with_reducible rfl)
  simp only [Act.put]
  refine wpAnyG_take (i := 4) (v := ?_) rfl (by kernel_rfl) (by kernel_rfl) (by kernel_rfl) (by kernel_rfl) (fun _ _ _ h => h) (Or.inl ⟨by rfl, ?_⟩) hS0 ?_; rotate_left; · (intro w hSw; (try dsimp only at hSw); have s0 := hSw; go_simp; try with_reducible rfl)
  simp only [Act.put]
  refine wpAnyG_take (i := 5) (v := ?_) rfl (by kernel_rfl) (by kernel_rfl) (by kernel_rfl) (by kernel_rfl) (fun _ _ _ h => h) (Or.inl ⟨by rfl, ?_⟩) hS0 ?_; rotate_left; · (intro w hSw; (try dsimp only at hSw); have s0 := hSw; go_simp; try with_reducible rfl)
  simp only [Act.put]
  clear hS0
  refine wpAnyG_one (i := 6) (by kernel_rfl) rfl (fun C hC => ?_)
  go_simp
  ((with_reducible refine (ho.calls _ _ _ R.old).mono ?_))
  intro e w4 h4
  obtain ⟨vp, rfl, hA4, R4, hp4⟩ := h4
  obtain ⟨tp, qp, rfl⟩ := hp4.form
  have hp : PtF w4 (fun x => ¬ K x ∧ x ≠ h ∧ some x ≠ (Value.slice A pts.length c).ownBlock) _ (.iface tp (.pointer (some ⟨qp, 0, none⟩))) := PtF.keep (Nat.le_refl _) (fun x hF _ => ⟨rfl, fun hk => hF (R.inK _ hk), fun e => hF (e ▸ hb.blk.lt), fun e => hF (hb.row_lt _ e.symm)⟩) _ _ hp4
  have hA := hA.trans (hA4.old R.inK)
  have hb := hb.aft hA4 R.ng (fun _ hx => hx)
  have R := R.from_old R4 (hA4.old R.inK)
  have o1 : w4.cell? ⟨h, 1, none⟩ = some (.slice A pts.length c) := by
    have := hb.blk.cell 1
    simpa using this
  refine hC.out _ _ (fun _ => o1) ?_
  clear hC C hA4 R4 hp4
  generalize (one i2).1 = pt at *
  generalize (one i2).2 = i3 at *
  refine wpAnyG_one (i := 7) (by kernel_rfl) rfl (fun C hC => ?_)
  go_simp
  refine hC.out _ _ (fun _ => (cell_alloc _ _ _ _ hb.blk.lt).trans o1) ?_
  clear hC C
  refine wpAnyG_one (i := 8) (by kernel_rfl) rfl (fun C hC => ?_)
  refine step_append_lies _ (by rfl) _ _ _ (by rfl) 0 94 i0 _ 1 16 Tryz.underlying85 ji jz0 jz1 jz2 rfl (by omega) (.slice A pts.length c) pts.length vs (by rfl) (hb.own.alloc (.cells #[.iface tp (.pointer (some ⟨qp, 0, none⟩))] 94)) ⟨w4.heap.size, 0, none⟩ 1 1 [.iface tp (.pointer (some ⟨qp, 0, none⟩))] (by rfl) (by rfl) (World.news_of_block (heap_alloc_new w4 _)) (by simp [Value.oneCell']) (by omega) (by unfold maxLen; omega) (by omega) (Nat.zero_le _) (w4.heap.size + 1) (by simp) ?_
  intro gg cap' w5 hown5 hgrow hat hlt5
  have hpu := hb.push R.inK hp hown5 hgrow hat
  have hg5 := (hb.blk.alloc (.cells #[.iface tp (.pointer (some ⟨qp, 0, none⟩))] 94)).grown hgrow hb.row_ne
  have b1 := hg5.cell 1
  have bf := hg5.frozen 1
  simp at b1
  refine hC.out _ _ (fun _ => b1) ?_
  clear hC C
  refine wpAnyG_one (i := 9) (by kernel_rfl) rfl (fun C hC => ?_)
  go_simp
  refine hC.out _ _ (fun _ => b1) ?_
  clear hC C
  refine wpAnyG_one (i := 10) (by kernel_rfl) rfl (fun C hC => ?_)
  go_simp
  refine hC.out _ _ (fun _ => b1) ?_
  clear hC C
  refine wpAnyG_one (i := 11) (by kernel_rfl) rfl (fun C hC => ?_)
  go_simp
  refine hC.out _ _ (fun h => absurd rfl h) ?_
  clear hC C
  refine wpAnyG_done (by kernel_rfl) ?_ _
  have hB := hpu.1
  have R := R.kept hpu.2
  have hA := hA.trans (hpu.2.aft g)
  clear hb hp o1 hown5 hgrow hat hlt5 hpu hg5 b1 bf
  generalize (World.setCell w5 ⟨h, 1, none⟩ (.slice (some ⟨gg, 0, none⟩) (pts.length + 1) cap')) = w6 at *
  go_wp2_with fail
  go_ret
  exact ⟨_, rfl, hA, R, hB.part⟩

set_option maxHeartbeats 4000000 in
set_option maxRecDepth 100000 in
theorem row_walk {w : World} {K : Nat → Prop} {g gt : Nat} {s : Bs} {T : List Tk} {b n i : Nat} (X : Txts s T) (R : Rdr w K g gt s T b n i) {F : Nat} {one : Nat → Tr.PT × Nat} (ho : OneC g gt s T b n F one) (hg : Tr.Goes T one) (A : Nat) (c : Nat) (l : List Bs) (hAK : K A) (hAg : A ≠ g) (hA : Rd w w.heap.size 1 (some ⟨A, 0, none⟩) l.length (txtV l)) (hl : l.length ≤ 1000) :
    Calls Tryz.prog 232 #[.pointer (some ⟨g, 0, none⟩), .func (.func F) #[.pointer (some ⟨g, 0, none⟩)] #[], .slice (some ⟨A, 0, none⟩) l.length c] w (PtE w K g gt s T b n (Tr.rowP s T b one l i)) := by
  have hrun := ho.run
  have hT := X.hT
  have H1 := ho.calls w K i R
  have Hg1 := hg i R.hi
  generalize hr : Tr.rowP s T b one l i = r
  have Hr : Hid (Tr.rowsP s T b one l (T.length + 1) (one i) = r) := hr
  clear hr
  go_enter Tryz.func232, Tryz.ntmps232
  go_wp2_with fail
  refine H1.mono ?_
  clear H1
  intro e w1 h1
  obtain ⟨v, rfl, hA1, R1, hp⟩ := h1
  generalize one i = q1 at *
  have hA0 : Hid (∀ w' : World, Aft K g w w' → Rd w' w'.heap.size 1 (some ⟨A, 0, none⟩) l.length (txtV l)) := fun w' ha => ⟨hA.1, fun hn => by
    obtain ⟨bq, oq, e, hlt, hc⟩ := hA.2 hn
    injection e with e
    injection e with e1 e2
    subst e1 e2
    exact ⟨A, 0, rfl, by have := ha.size; omega, fun j u hu => (World.cell?_of_block (a := ⟨A, 0 + j, none⟩) (ha.oth A hAK hAg)).trans (hc j u hu)⟩⟩
  clear hA hAK hAg
  go_wp2_with fail
  go_loopg [7] (T.length - q1.2) (fun q v wr => ∃ x : Tr.PT × Nat, q1.2 ≤ x.2 ∧ T.length - x.2 ≤ q ∧ Hid (Tr.rowsP s T b one l (T.length + 1) x = r) ∧ Aft K g w wr ∧ Rdr wr K g gt s T b n x.2 ∧ PtF wr (fun x => ¬ K x) x.1 v)
  case atStart => exact ⟨q1, Nat.le_refl _, Nat.le_refl _, Hr, hA1, R1, hp⟩
  case round =>
    clear hA1 R1 hp Hr
    obtain ⟨x, hx1, hq, Hx, hA, R, hp⟩ := hrel
    have hi := R.hi
    have his := is_walk X R _ c l (hA0.out wr hA) hl
    have Hstep : Hid (Tr.isP s T l x.2 = true → Tr.rowsP s T b one l (T.length + 1) (Tr.binP s T b one x) = r) := fun h => by rw [← Tr.rows_step s T b hg l x R.hi h]; exact Hx.out
    have Hstop : Hid (Tr.isP s T l x.2 = false → x = r) := fun h => by rw [← Tr.rows_stop s T b one l x h]; exact Hx.out
    have Hgt : Hid (Tr.isP s T l x.2 = true → x.2 < (Tr.binP s T b one x).2) := fun h => Tr.bin_gt s T b hg x R.hi (Tr.is_lt s T h)
    generalize Tr.isP s T l x.2 = vb at *
    go_wp2_with fail
    refine his.mono ?_
    clear his
    rintro e w2 ⟨rfl, hd⟩
    have hA := hA.trans (Kept.aft (Kept.below hd R.inK) g)
    have hp : PtF w2 (fun x => ¬ K x) x.1 u7 := PtF.keep hd.size (fun y hF hl => ⟨hd.block y hl, hF⟩) _ _ hp
    have R := R.below hd
    clear hd
    cases vb with
    | true =>
      have hst := Hstep.out rfl
      have hgt := Hgt.out rfl
      have Hst := Lib.hid hst
      clear Hstep Hstop Hgt Hx hst
      have hbw := binary_walk X R hp ho
      go_wp2_with fail
      refine hbw.mono ?_
      clear hbw R hp
      intro e w3 h3
      obtain ⟨v3, rfl, hA3, R3, hp3⟩ := h3
      have hA4 := hA.trans hA3
      clear hA hA3
      go_wp2_with fail
      go_roundg (T.length - (Tr.binP s T b one x).2)
      case rel => exact ⟨Tr.binP s T b one x, by omega, Nat.le_refl _, Hst, hA4, R3, hp3⟩
      case measure => have h2 : (Tr.binP s T b one x).2 ≤ T.length := R3.hi; omega
    | false =>
      have hst := Hstop.out rfl
      clear Hstep Hstop Hgt Hx
      subst hst
      go_wp2_with fail
      go_ret
      exact ⟨_, rfl, hA, R, hp⟩
end Go.Proofs.YtalklmeejdmifaaGreatDoor
/-
  WALKS of package tree: want, name.
-/
namespace Go.Proofs.YtalklmeejdmifaaGreatDoor
open Go.RowKit

theorem lit_rd (w : World) (l : List Bs) (t : TypeId) : Rd (w.alloc (.cells (txtV l).toArray t)) (w.alloc (.cells (txtV l).toArray t)).heap.size 1 (some ⟨w.heap.size, 0, none⟩) l.length (txtV l) :=
  ⟨by rw [txtV_len, Nat.mul_one], fun _ => ⟨w.heap.size, 0, rfl, by simp, fun j u hu => by
    rw [Nat.zero_add]
    have h := (Blk.new w t (txtV l).toArray).cell j
    rw [h]; simpa using hu⟩⟩
/-- is, at words that stand in the call -/
theorem is_lit {w : World} {K : Nat → Prop} {g gt : Nat} {s : Bs} {T : List Tk} {b n i : Nat} (X : Txts s T) (R : Rdr w K g gt s T b n i) (l : List Bs) (hl : l.length ≤ 1000) (c : Nat) :
    Calls Tryz.prog 119 #[.pointer (some ⟨g, 0, none⟩), .slice (some ⟨w.heap.size, 0, none⟩) l.length c] (w.alloc (.cells (txtV l).toArray 9)) fun e w' => e = .returned (.bool (Tr.isP s T l i)) ∧ Below w.heap.size w w' := by
  have hd : Below w.heap.size w (w.alloc (.cells (txtV l).toArray 9)) := (Below.refl _ _).alloc (Nat.le_refl _) _
  exact (is_walk X (R.below hd) _ c l (lit_rd w l _) hl).mono fun e w' ⟨h1, h2⟩ => ⟨h1, hd.trans (h2.mono hd.size)⟩

set_option maxHeartbeats 4000000 in
set_option maxRecDepth 100000 in
theorem want_walk {w : World} {K : Nat → Prop} {g gt : Nat} {s : Bs} {T : List Tk} {b n i : Nat} {h kind at_ : Nat} {pts : List Tr.PT} (X : Txts s T) (R : Rdr w K g gt s T b n i) (hb : Br w K h kind at_ pts) (word : Bs) (hl : pts.length ≤ 50000000) :
    Calls Tryz.prog 155 #[.pointer (some ⟨g, 0, none⟩), .pointer (some ⟨h, 0, none⟩), .string ⟨word.toArray⟩] w (StE w K g gt h kind at_ s T b n (Tr.thn (pts, i) (Tr.wantP s T b word))) := by
  have his : Calls Tryz.prog 119 #[.pointer (some ⟨g, 0, none⟩), .slice (some ⟨w.heap.size, 0, none⟩) 1 1] (w.alloc (.cells #[.string ⟨word.toArray⟩] 9)) fun e w' => e = .returned (.bool (Tr.isP s T [word] i)) ∧ Below w.heap.size w w' := is_lit X R [word] (by simp) 1
  have HT : Hid (Tr.isP s T [word] i = true → Tr.thn (pts, i) (Tr.wantP s T b word) = Tr.thn (pts, i) (Tr.takeP s T b)) := fun h => by
    unfold Tr.thn
    dsimp only
    unfold Tr.wantP
    rw [if_pos h]
  have HF : Hid (Tr.isP s T [word] i = false → Tr.thn (pts, i) (Tr.wantP s T b word) = Tr.thn (pts, i) (Tr.missP s T b word)) := fun h => by
    unfold Tr.thn
    dsimp only
    unfold Tr.wantP
    rw [if_neg (by rw [h]; simp)]
  generalize Tr.thn (pts, i) (Tr.wantP s T b word) = r at *
  go_enter Tryz.func155, Tryz.ntmps155
  go_wp2_with fail
  refine his.mono ?_
  clear his
  rintro e w2 ⟨rfl, hd⟩
  have hA := Kept.aft (Kept.below hd R.inK) g
  have R := R.below hd
  have hb := hb.below hd
  clear hd
  generalize Tr.isP s T [word] i = v at *
  cases v with
  | true =>
    have HR := Lib.hid (HT.out rfl)
    clear HT HF
    have htk := take_walk X R hb hl
    go_wp2_with fail
    refine htk.mono ?_
    clear htk hb R
    intro e w3 h3
    obtain ⟨rfl, hA3, R3, hB3⟩ := h3
    go_wp2_with fail
    go_end0
    rw [HR.out]
    exact ⟨rfl, hA.trans hA3, R3, hB3⟩
  | false =>
    have HR := Lib.hid (HF.out rfl)
    clear HT HF
    have htk := missing_walk X R hb word (by omega)
    go_wp2_with fail
    refine htk.mono ?_
    clear htk hb R
    intro e w3 h3
    obtain ⟨rfl, hA3, R3, hB3⟩ := h3
    go_wp2_with fail
    go_end0
    rw [HR.out]
    exact ⟨rfl, hA.trans hA3, R3, hB3⟩

set_option maxHeartbeats 4000000 in
set_option maxRecDepth 100000 in
theorem name_walkT {w : World} {K : Nat → Prop} {g gt : Nat} {s : Bs} {T : List Tk} {b n i : Nat} {h kind at_ : Nat} {pts : List Tr.PT} (X : Txts s T) (R : Rdr w K g gt s T b n i) (hb : Br w K h kind at_ pts) (hl : pts.length ≤ 50000000) :
    Calls Tryz.prog 156 #[.pointer (some ⟨g, 0, none⟩), .pointer (some ⟨h, 0, none⟩)] w (StE w K g gt h kind at_ s T b n (Tr.thn (pts, i) (Tr.nameP s T b))) := by
  have his := kindn_walk X R 3
  have HT : Hid ((Tr.kindP T (Tr.nextP T i) == 3) = true → Tr.thn (pts, i) (Tr.nameP s T b) = Tr.thn (pts, i) (Tr.takeP s T b)) := fun h => by
    unfold Tr.thn
    dsimp only
    unfold Tr.nameP
    rw [if_pos h]
  have HF : Hid ((Tr.kindP T (Tr.nextP T i) == 3) = false → Tr.thn (pts, i) (Tr.nameP s T b) = Tr.thn (pts, i) (Tr.missP s T b Tr.sName)) := fun h => by
    unfold Tr.thn
    dsimp only
    unfold Tr.nameP
    rw [if_neg (by rw [h]; simp)]
  generalize Tr.thn (pts, i) (Tr.nameP s T b) = r at *
  go_enter Tryz.func156, Tryz.ntmps156
  go_wp2_with fail
  refine his.mono ?_
  clear his
  rintro e w2 ⟨rfl, hd⟩
  have hA := Kept.aft (Kept.below hd R.inK) g
  have R := R.below hd
  have hb := hb.below hd
  clear hd
  generalize (Tr.kindP T (Tr.nextP T i) == 3) = v at *
  cases v with
  | true =>
    have HR := Lib.hid (HT.out rfl)
    clear HT HF
    have htk := take_walk X R hb hl
    go_wp2_with fail
    refine htk.mono ?_
    clear htk hb R
    intro e w3 h3
    obtain ⟨rfl, hA3, R3, hB3⟩ := h3
    go_wp2_with fail
    go_end0
    rw [HR.out]
    exact ⟨rfl, hA.trans hA3, R3, hB3⟩
  | false =>
    have HR := Lib.hid (HF.out rfl)
    clear HT HF
    have htk := missing_walk X R hb Tr.sName (by omega)
    go_wp2_with fail
    refine htk.mono ?_
    clear htk hb R
    intro e w3 h3
    obtain ⟨rfl, hA3, R3, hB3⟩ := h3
    go_wp2_with fail
    go_end0
    rw [HR.out]
    exact ⟨rfl, hA.trans hA3, R3, hB3⟩
end Go.Proofs.YtalklmeejdmifaaGreatDoor
