/-
  THE WALK of edit.Invert.
-/
import Derived.Test.YtffcfnnbdmihaaaDoorInvMath
import Derived.Test.YtffcfnnbdmihaaaDoorFault
import Derived.Deep.RegionHeld3
import Derived.Deep.DeepCutAuto
namespace Go.Proofs.YtffcfnnbdmihaaaDoor
open Go.RowKit

theorem infoSpan' : (Tryd.prog.info? 100).map (fun i => (i.zero, i.size, i.bytes)) = some (some (.agg #[.int .i64 0, .int .i64 0, .string ⟨#[]⟩]), 3, 32) := by kernel_rfl

theorem grow_bounds {n : Int} {l : List Sp} : ∀ {a : Int}, Chain n a l → grow l ≤ spBytes l ∧ a - lastT a l ≤ grow l := by
  induction l with
  | nil => intro a h; simp [grow, spBytes, lastT]
  | cons s r ih =>
    intro a h
    obtain ⟨h1, h2, h3, h4⟩ := h
    obtain ⟨i1, i2⟩ := ih h4
    simp only [grow, spBytes, lastT, List.map_cons, List.sum_cons] at *
    omega

set_option maxHeartbeats 1000000 in
set_option maxRecDepth 100000 in
theorem invert_bad (s : ByteArray) (A : Option Addr) (c : Nat) (l : List Sp) (w : World) (hr : Rd w w.heap.size 3 A l.length (spCells l)) (hl : l.length ≤ 1048576) (hbad : fault s.size l = 1 ∨ fault s.size l = 2) :
    Calls Tryd.prog 22 #[.string s, .slice A l.length c] w fun e w' => e = .returned (.tuple #[.slice none 0 0, errV (fault s.size l)]) ∧ Below w.heap.size w w' := by
  obtain ⟨v, hv⟩ : ∃ v : Int, errV (fault s.size l) = .iface 97 (.int .i64 v) := by rcases hbad with h | h <;> rw [h] <;> exact ⟨_, rfl⟩
  have Hv := Lib.hid hv
  clear hv hbad
  go_enter Tryd.func22, Tryd.ntmps22
  go_wp2_with fail
  refine (fault_walk _ _ _ _ _ hr hl).mono ?_
  rw [Hv.out]
  rintro e w1 ⟨rfl, hb1⟩
  go_wp2_with fail
  go_ret2
  exact ⟨by rw [Hv.out]; rfl, hb1⟩

set_option maxHeartbeats 1000000 in
set_option maxRecDepth 100000 in
theorem invert_ok (s : ByteArray) (A : Option Addr) (c : Nat) (l : List Sp) (w : World) (hr : Rd w w.heap.size 3 A l.length (spCells l)) (hl : l.length ≤ 1048576) (hs : s.size ≤ 1048576) (hby : spBytes l ≤ 1048576) (hok : fault s.size l = 0) :
    Calls Tryd.prog 22 #[.string s, .slice A l.length c] w fun e w' => ∃ v, e = .returned (.tuple #[v, .nilIface]) ∧ w'.ownsRow w.heap.size 100 3 v l.length (spCells (invL s.data.toList 0 l)) ∧ Below w.heap.size w w' := by
  obtain ⟨i0, ji, jz0, jz1, jz2⟩ := info_parts infoSpan'
  have Hok := Lib.hid hok
  have Hc := Lib.hid (fault_zero hok).2
  clear hok
  go_enter Tryd.func22, Tryd.ntmps22
  go_wp2_with fail
  refine (fault_walk _ _ _ _ _ hr hl).mono ?_
  rw [Hok.out, show errV 0 = .nilIface from rfl]
  rintro e w1 ⟨rfl, hb1⟩
  have hz1 := hb1.size
  go_wp2_with fail
  go_loopw [7, 8, 20] (fun o g i wr => ∃ k : Nat, k ≤ l.length ∧ i = .int .i64 k ∧ g = .int .i64 (grow (l.take k)) ∧ wr.ownsRow w.heap.size 100 3 o k (spCells (invL s.data.toList 0 (l.take k))) ∧ Below w.heap.size w wr) (fun _ _ i _ => l.length - (intOf i).toNat)
  case atStart => exact ⟨0, Nat.zero_le _, rfl, rfl, World.ownsRow_nil _ _ _ _, hb1⟩
  case round =>
    obtain ⟨k, hk, rfl, rfl, hown, hb⟩ := hrel
    have hbs := hb.size
    obtain ⟨Av, cv, rfl⟩ := own_form hown
    by_cases hlt : k < l.length
    · obtain ⟨b, o, rfl, hbB, hcs⟩ := hr.sp hlt
      obtain ⟨c0, c1, c2⟩ := hcs k hlt
      clear hcs
      have e1 : ∀ j, wr.cell? ⟨b, j, none⟩ = w.cell? ⟨b, j, none⟩ := fun j => hb.cell (p := ⟨b, j, none⟩) hbB
      rw [← e1] at c0 c1 c2
      clear e1
      obtain ⟨q1, q2, q3, q4⟩ := Hc.out.at_ hlt
      obtain ⟨b1, b2⟩ := grow_bounds (Hc.out.take k)
      have b3 := spBytes_take_le l k
      have b4 := spBytes_take_le l (k + 1)
      rw [List.take_succ_eq_append_getElem hlt, spBytes_snoc] at b4
      have Hcell : Hid (spCells (invL s.data.toList 0 (l.take (k + 1))) = spCells (invL s.data.toList 0 (l.take k)) ++ [.int .i64 (l[k].f + grow (l.take k)), .int .i64 (l[k].f + grow (l.take k) + l[k].s.size), .string ⟨(cutB s.data.toList l[k].f l[k].t).toArray⟩]) := by
        show _ = _
        rw [List.take_succ_eq_append_getElem hlt, invL_snoc, spCells_snoc, Int.zero_add]
      have Hgrow : Hid (grow (l.take (k + 1)) = grow (l.take k) + (l[k].s.size - (l[k].t - l[k].f))) := by
        show _ = _
        rw [List.take_succ_eq_append_getElem hlt, grow_snoc]
      have hne : some wr.heap.size ≠ (Value.slice Av k cv).ownBlock := fun e => by have := (hown.lt _ e.symm).2; omega
      generalize l[k].s = y at *
      obtain ⟨f, hf⟩ := Int.eq_ofNat_of_zero_le (a := l[k].f) (by omega)
      obtain ⟨t, ht⟩ := Int.eq_ofNat_of_zero_le (a := l[k].t) (by omega)
      rw [hf] at c0 q1 q2 Hcell Hgrow
      rw [ht] at c1 q2 q3 Hcell Hgrow
      clear hf ht
      have r1 : f ≤ t := by omega
      have r2 : t ≤ s.size := by omega
      have r3 : -1048576 ≤ grow (l.take k) := by omega
      have r4 : grow (l.take k) ≤ 1048576 := by omega
      have r5 : y.size ≤ 1048576 := by omega
      clear q1 q2 q3 q4 b1 b2 b3 b4
      generalize grow (l.take k) = g at *
      have i1 : (0 : Int) ≤ (k : Int) := by omega
      have i2 : (k : Int) < (l.length : Int) := by omega
      have hV := Blk.new wr 100 #[.int .i64 f, .int .i64 t, .string y]
      have hown1 := hown.alloc (.cells #[.int .i64 f, .int .i64 t, .string y] 100)
      have hbv := hb.alloc hbs (.cells #[.int .i64 f, .int .i64 t, .string y] 100)
      have hvs : (wr.alloc (.cells #[.int .i64 f, .int .i64 t, .string y] 100)).heap.size = wr.heap.size + 1 := by simp
      go_wp2_with fail
      clear c0 c1 c2 hown hb
      generalize wr.alloc (.cells #[.int .i64 f, .int .i64 t, .string y] 100) = wv at *
      generalize hvb : wr.heap.size = vb at *
      clear hvb
      have c0 := hV.cell 0
      have c1 := hV.cell 1
      have c2 := hV.cell 2
      simp at c0 c1 c2
      have hbw : vb < wv.heap.size := by omega
      have hbs3 : w.heap.size ≤ wv.heap.size := by omega
      clear hvs
      have hx : Hid ((s.extract f t).data.toList = cutB s.data.toList f t) := by show _ = _; rw [ext_data]; rfl
      have w1a : IntKind.i64.wrap ((f : Int) + g) = f + g := by rw [IntWalk.i64_in _ (by omega)]
      have w1b : IntKind.i64.wrap ((f : Int) + g + y.size) = f + g + y.size := by rw [IntWalk.i64_in _ (by omega)]
      go_region_held3 (fun w' => w'.cell? ⟨vb, 0, none⟩ = some (.int .i64 f) ∧ w'.cell? ⟨vb, 1, none⟩ = some (.int .i64 t) ∧ w'.cell? ⟨vb, 2, none⟩ = some (.string y))
        (first
          | (go_keep; done)
          | exact ⟨(cell_alloc _ _ _ _ hbw).trans c0, (cell_alloc _ _ _ _ hbw).trans c1, (cell_alloc _ _ _ _ hbw).trans c2⟩
          | exact ⟨(hgrow.cell_far _ (by simp; omega) hne).trans ((cell_alloc _ _ _ _ hbw).trans c0), (hgrow.cell_far _ (by simp; omega) hne).trans ((cell_alloc _ _ _ _ hbw).trans c1), (hgrow.cell_far _ (by simp; omega) hne).trans ((cell_alloc _ _ _ _ hbw).trans c2)⟩)
        ((refine step_append_lies _ (by rfl) _ _ _ (by rfl) w.heap.size 100 i0 _ 3 32 Tryd.underlying41 ji jz0 jz1 jz2 rfl (by omega) (.slice Av k cv) k (spCells (invL s.data.toList 0 (l.take k))) (by rfl) ((hown1.alloc _).drew) ⟨wv.heap.size, 0, none⟩ 1 1 [.int .i64 (f + g), .int .i64 (f + g + y.size), .string (s.extract f t)] (by rfl) (by rfl) (World.news_of_block (cs := #[.int .i64 (f + g), .int .i64 (f + g + y.size), .string (s.extract f t)]) (t := 100) (fr := (0, 0)) (heap_alloc_new wv _)) (by simp [Value.oneCell']) (by omega) (by unfold maxLen; omega) (by omega) (by simp; omega) (wv.heap.size + 1) (by simp) ?_; intro gg cap' w3 hown3 hgrow hat hlt3))
      go_wp2_with fail
      go_roundw
      case rel => exact ⟨k + 1, by omega, by go_num, by rw [Hgrow.out], by rw [Hcell.out, ← hx.out]; exact hown3, ((hbv.alloc hbs3 _).drew).grown hgrow (by simp; omega) fun g hg => (hown1.lt g hg).1⟩
      case measure => simp [intOf]; omega
    · obtain rfl : k = l.length := by omega
      rw [List.take_length] at hown
      go_wp2
      go_ret2
      exact ⟨_, rfl, hown, hb⟩
end Go.Proofs.YtffcfnnbdmihaaaDoor
