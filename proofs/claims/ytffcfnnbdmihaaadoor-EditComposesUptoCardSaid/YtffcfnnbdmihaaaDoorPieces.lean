/-
  THE WALKS of edit.pieces$1 (add), edit.pieces.
-/
import Derived.Test.YtffcfnnbdmihaaaDoorPc
namespace Go.Proofs.YtffcfnnbdmihaaaDoor.cp
open Go.RowKit

theorem addP_one {p : Pc} (h : 0 < p.size) : addP p = [p] := by unfold addP; rw [if_pos h]
theorem addP_none {p : Pc} (h : ¬ 0 < p.size) : addP p = [] := by unfold addP; rw [if_neg h]

set_option maxHeartbeats 1000000 in
set_option maxRecDepth 100000 in
theorem add_walk (p : Pc) (base o : Nat) (v : Value) (l : List Pc) (w : World) (hp : Fine p) (hB : Blk w o 120 #[v]) (ho : base ≤ o) (hown : w.ownsRow base 132 4 v l.length (pcCells l)) (hl : l.length ≤ 16777216) (hbase : base ≤ w.heap.size) :
    Calls Tryd.prog 83 #[.agg #[.int .i64 p.f, .int .i64 p.t, .string p.s, .bool p.put], .pointer (some ⟨o, 0, none⟩)] w fun e w' => e = .returned (.tuple #[]) ∧
      (∃ v', Blk w' o 120 #[v'] ∧ w'.ownsRow base 132 4 v' (l ++ addP p).length (pcCells (l ++ addP p))) ∧ KeepX [132, 120] w w' ∧ Below base w w' := by
  obtain ⟨i0, ji, jz0, jz1, jz2⟩ := info_parts infoPc
  go_enter Tryd.func83, Tryd.ntmps83
  go_wp2_with fail
  refine (size_walk p _ hp).mono ?_
  rintro e w2 ⟨rfl, hb2⟩
  have hB1 := hB.alloc (.cells #[.int .i64 p.f, .int .i64 p.t, .string p.s, .bool p.put] 132)
  have hP1 : Blk (w.alloc (.cells #[.int .i64 p.f, .int .i64 p.t, .string p.s, .bool p.put] 132)) w.heap.size 132 #[.int .i64 p.f, .int .i64 p.t, .string p.s, .bool p.put] := Blk.new _ _ _
  have hown1 := hown.alloc (.cells #[.int .i64 p.f, .int .i64 p.t, .string p.s, .bool p.put] 132)
  have hbw : Below w.heap.size w (w.alloc (.cells #[.int .i64 p.f, .int .i64 p.t, .string p.s, .bool p.put] 132)) := (Below.refl _ _).alloc (Nat.le_refl _) _
  generalize w.alloc (.cells #[.int .i64 p.f, .int .i64 p.t, .string p.s, .bool p.put] 132) = w1 at *
  have hz1 := hbw.size
  have hB2 := hB1.below hb2 hB1.lt
  have hP2 := hP1.below hb2 hP1.lt
  have hown2 := own_of_block hown1 fun k hk => hb2.block k (hown1.lt k hk).2
  have hbw2 := hbw.trans (hb2.mono hz1)
  have hz2 := hbw2.size
  have c0 := hB2.cell 0
  have f0 := hB2.frozen 0
  have p0 := hP2.cell 0
  have p1 := hP2.cell 1
  have p2 := hP2.cell 2
  have p3 := hP2.cell 3
  simp at c0 p0 p1 p2 p3
  clear hB hB1 hP1 hown hown1 hb2 hbw hp
  have hne : w.heap.size ≤ w2.heap.size := hz2
  by_cases hs : 0 < p.size
  · have Ha := Lib.hid (addP_one hs)
    have hno : some o ≠ v.ownBlock := own_ne hown2 hB2 (by decide)
    go_wp2_with (at_builtin; refine wpList_append_lies _ rfl _ _ 120 rfl base 132 i0 _ 4 40 Tryd.underlying120 ji jz0 jz1 jz2 rfl (by omega) v l.length (pcCells l) rfl (hown2.alloc (.cells #[.int .i64 p.f, .int .i64 p.t, .string p.s, .bool p.put] 132)) ⟨w2.heap.size, 0, none⟩ 1 1 [.int .i64 p.f, .int .i64 p.t, .string p.s, .bool p.put] rfl rfl (World.news_of_block (cs := #[.int .i64 p.f, .int .i64 p.t, .string p.s, .bool p.put]) (t := 132) (fr := (0, 0)) (heap_alloc_new w2 _)) (by simp [Value.oneCell']) (by omega) (by unfold maxLen; omega) (by omega) (by simp; omega) _ rfl ?_; intro gg cap' w3 hown3 hgrow hat hlt3; have hB3 := (hB2.alloc (.cells #[.int .i64 p.f, .int .i64 p.t, .string p.s, .bool p.put] 132)).grown hgrow hno; have e0 := hB3.cell 0; have e1 := hB3.frozen 0; simp at e0)
    go_end0
    refine ⟨rfl, ⟨_, hB3.set_ 0 _, ?_⟩, ?_, ?_⟩
    · rw [Ha.out, pcCells_append, pcCells_one, List.length_append]
      refine own_of_block hown3 fun k hk => Below.heap_setCell _ _ _ _ fun e => ?_
      subst e
      exact own_ne hown3 hB3 (by decide) hk.symm
    · refine KeepX.setCell (KeepX.grown ((KeepX.below (KeepX.refl _ _) hbw2 (Nat.le_refl _)).alloc _) hgrow ?_) (p := ⟨o, 0, none⟩) (cs := #[v]) (t := 120) (fr := (0, 0)) hB3 (by decide) _
      intro g hg
      obtain ⟨cs, fr, h⟩ := own_ty (hown2.alloc (.cells #[.int .i64 p.f, .int .i64 p.t, .string p.s, .bool p.put] 132)) g hg
      exact ⟨cs, _, fr, h, by decide⟩
    · exact (((hbw2.mono hbase).alloc (by omega) _).grown hgrow (by simp; omega) fun k hk => (hown2.lt k hk).1).setCell (p := ⟨o, 0, none⟩) ho _
  · have Ha := Lib.hid (addP_none hs)
    go_wp2_with fail
    go_end0
    exact ⟨rfl, ⟨v, hB2, by rw [Ha.out, List.append_nil]; exact hown2⟩, KeepX.below (KeepX.refl _ _) hbw2 (Nat.le_refl _), hbw2.mono hbase⟩
set_option maxHeartbeats 2000000 in
set_option maxRecDepth 100000 in
theorem pieces_walk (n : Nat) (A : Option Addr) (c : Nat) (l : List Sp) (w : World) (hr : Rd w w.heap.size 3 A l.length (spCells l)) (hl : l.length ≤ 1048576) (hn : n ≤ 1048576) (hc : Chain n 0 l) :
    Calls Tryd.prog 69 #[.int .i64 n, .slice A l.length c] w fun e w' => ∃ v, e = .returned v ∧ w'.ownsRow w.heap.size 132 4 v (allP n l).length (pcCells (allP n l)) ∧ Below w.heap.size w w' := by
  have HC := Lib.hid hc
  clear hc
  go_enter Tryd.func69, Tryd.ntmps69
  go_wp2_with fail
  have hB0 : Blk (w.alloc (.cells #[.slice none 0 0] 120)) w.heap.size 120 #[.slice none 0 0] := Blk.new _ _ _
  have hb0 : Below w.heap.size w (w.alloc (.cells #[.slice none 0 0] 120)) := (Below.refl _ _).alloc (Nat.le_refl _) _
  generalize w.alloc (.cells #[.slice none 0 0] 120) = w0 at *
  go_loopw [6, 13] (fun p i wr => ∃ k : Nat, k ≤ l.length ∧ i = .int .i64 k ∧ p = .int .i64 (lastT 0 (l.take k)) ∧ (∃ v, Blk wr w.heap.size 120 #[v] ∧ wr.ownsRow w.heap.size 132 4 v (pcs 0 (l.take k)).length (pcCells (pcs 0 (l.take k)))) ∧ Below w.heap.size w wr) (fun _ i _ => l.length - (intOf i).toNat)
  case atStart => exact ⟨0, Nat.zero_le _, rfl, rfl, ⟨_, hB0, World.ownsRow_nil _ _ _ _⟩, hb0⟩
  case round =>
    clear hB0 hb0
    obtain ⟨k, hk, rfl, rfl, ⟨v, hB, hown⟩, hb⟩ := hrel
    have hbs := hb.size
    have hlp := pcs_len 0 (l.take k)
    have hlk : (l.take k).length ≤ k := List.length_take_le _ _
    have hla := (HC.out.take k).last
    have hq0 := hla.1
    by_cases hlt : k < l.length
    · obtain ⟨b, o, rfl, hbB, hcs⟩ := (hr.below hb).sp hlt
      obtain ⟨c0, c1, c2⟩ := hcs k hlt
      clear hcs
      have hca := HC.out.at_ hlt
      have Hp : Hid (pcs 0 (l.take (k + 1)) = pcs 0 (l.take k) ++ addP ⟨lastT 0 (l.take k), l[k].f, ⟨#[]⟩, false⟩ ++ addP ⟨0, 0, l[k].s, true⟩) := by
        show _ = _
        rw [List.take_succ_eq_append_getElem hlt, pcs_snoc, List.append_assoc]
      have Ht : Hid (lastT 0 (l.take (k + 1)) = l[k].t) := by
        show _ = _
        rw [List.take_succ_eq_append_getElem hlt, lastT_snoc]
      have hql := addP_len ⟨lastT 0 (l.take k), l[k].f, ⟨#[]⟩, false⟩
      generalize pcs 0 (l.take k) = P at *
      generalize lastT 0 (l.take k) = q at *
      generalize l[k] = x at *
      obtain ⟨f, t, s⟩ := x
      dsimp only at *
      have i1 : (0 : Int) ≤ (k : Int) := by omega
      have i2 : (k : Int) < (l.length : Int) := by omega
      have hF1 : Fine ⟨q, f, ⟨#[]⟩, false⟩ := fun _ => ⟨by show 0 ≤ q; omega, by show q ≤ f; omega, by show f ≤ 16777216; omega⟩
      have hF2 : Fine ⟨0, 0, s, true⟩ := fun h => by cases h
      go_wp2_with fail
      have hS1 : Blk (wr.alloc (.cells #[.int .i64 f, .int .i64 t, .string s] 100)) wr.heap.size 100 #[.int .i64 f, .int .i64 t, .string s] := Blk.new _ _ _
      have hB1 := hB.alloc (.cells #[.int .i64 f, .int .i64 t, .string s] 100)
      have hown1 := hown.alloc (.cells #[.int .i64 f, .int .i64 t, .string s] 100)
      have hb1 := hb.alloc hbs (.cells #[.int .i64 f, .int .i64 t, .string s] 100)
      generalize wr.alloc (.cells #[.int .i64 f, .int .i64 t, .string s] 100) = w1 at *
      have hz1 := hb1.size
      refine (add_walk ⟨q, f, ⟨#[]⟩, false⟩ w.heap.size w.heap.size v P w1 hF1 hB1 (Nat.le_refl _) hown1 (by omega) hz1).mono ?_
      rintro e w2 ⟨rfl, ⟨v2, hB2, hown2⟩, hk2, hb2⟩
      have hz2 := hb2.size
      have hS2 := hS1.keep hk2 (by decide)
      have s1 := hS2.cell 1
      have s2 := hS2.cell 2
      simp at s1 s2
      have hl2 : (P ++ addP ⟨q, f, ⟨#[]⟩, false⟩).length ≤ 16777216 := by rw [List.length_append]; omega
      clear hk2
      go_wp2_with fail
      refine (add_walk ⟨0, 0, s, true⟩ w.heap.size w.heap.size v2 _ w2 hF2 hB2 (Nat.le_refl _) hown2 hl2 (by omega)).mono ?_
      rintro e w3 ⟨rfl, ⟨v3, hB3, hown3⟩, hk3, hb3⟩
      have hS3 := hS2.keep hk3 (by decide)
      have t1 := hS3.cell 1
      simp at t1
      clear hk3 s1 s2
      go_wp2_with fail
      go_roundw
      case rel => exact ⟨k + 1, by omega, by go_num, by rw [Ht.out], ⟨v3, hB3, by rw [Hp.out]; exact hown3⟩, (hb1.trans hb2).trans hb3⟩
      case measure => simp [intOf]; omega
    · obtain rfl : k = l.length := by omega
      rw [List.take_length] at *
      have hl2 : (pcs 0 l).length ≤ 16777216 := by omega
      have Hp : Hid (allP n l = pcs 0 l ++ addP ⟨lastT 0 l, n, ⟨#[]⟩, false⟩) := rfl
      generalize pcs 0 l = P at *
      generalize lastT 0 l = q at *
      have hF1 : Fine ⟨q, n, ⟨#[]⟩, false⟩ := fun _ => ⟨by show 0 ≤ q; omega, by show q ≤ n; omega, by show (n : Int) ≤ 16777216; omega⟩
      go_wp2_with fail
      refine (add_walk ⟨q, n, ⟨#[]⟩, false⟩ w.heap.size w.heap.size v P wr hF1 hB (Nat.le_refl _) hown hl2 hbs).mono ?_
      rintro e w2 ⟨rfl, ⟨v2, hB2, hown2⟩, hk2, hb2⟩
      have s0 := hB2.cell 0
      simp at s0
      clear hk2
      go_wp2_with fail
      go_ret
      exact ⟨v2, rfl, by rw [Hp.out]; exact hown2, hb.trans hb2⟩
end Go.Proofs.YtffcfnnbdmihaaaDoor.cp
