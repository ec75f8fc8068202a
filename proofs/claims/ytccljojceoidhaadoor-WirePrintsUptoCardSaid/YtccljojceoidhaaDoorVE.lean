/-
  WALKS of the document's tokens (package amanuensisref2): Quote.
-/
import Derived.Test.YtccljojceoidhaaDoorVD
namespace Go.Proofs.YtccljojceoidhaaDoor
open Go.RowKit

theorem quo_len (c : UInt8) : (Lx.quoB c).length ≤ 6 := by
  have h : ∀ i : Fin 256, (Lx.quoB (UInt8.ofNat i.val)).length ≤ 6 := by decide +kernel
  have := h ⟨c.toNat, c.toNat_lt⟩
  simpa using this
theorem quoI_len (s : Bs) : (Lx.quoI s).length ≤ 6 * s.length := by
  induction s with
  | nil => exact Nat.le_refl _
  | cons c s ih =>
    have e : Lx.quoI (c :: s) = Lx.quoB c ++ Lx.quoI s := by simp [Lx.quoI]
    have := quo_len c
    rw [e, List.length_append, List.length_cons]; omega
/-- the ways of a byte that is quoted -/
theorem quo_ways (a : UInt8) : (a = 10 ∧ Lx.quoB a = [92, 110]) ∨ (a = 9 ∧ Lx.quoB a = [92, 116]) ∨ (a = 34 ∧ Lx.quoB a = [92, 34]) ∨ (a = 92 ∧ Lx.quoB a = [92, 92]) ∨ (a ≠ 10 ∧ a ≠ 9 ∧ a.toNat < 16 ∧ Lx.quoB a = [92, 117, 123, Lx.hexD a.toNat, 125]) ∨ (16 ≤ a.toNat ∧ a.toNat < 32 ∧ Lx.quoB a = [92, 117, 123, Lx.hexD (a.toNat / 16), Lx.hexD (a.toNat % 16), 125]) ∨ (a = 127 ∧ Lx.quoB a = [92, 117, 123, Lx.hexD (a.toNat / 16), Lx.hexD (a.toNat % 16), 125]) ∨ (32 ≤ a.toNat ∧ a ≠ 34 ∧ a ≠ 92 ∧ a ≠ 127 ∧ Lx.quoB a = [a]) := by
  have h : ∀ i : Fin 256, let a := UInt8.ofNat i.val; (a = 10 ∧ Lx.quoB a = [92, 110]) ∨ (a = 9 ∧ Lx.quoB a = [92, 116]) ∨ (a = 34 ∧ Lx.quoB a = [92, 34]) ∨ (a = 92 ∧ Lx.quoB a = [92, 92]) ∨ (a ≠ 10 ∧ a ≠ 9 ∧ a.toNat < 16 ∧ Lx.quoB a = [92, 117, 123, Lx.hexD a.toNat, 125]) ∨ (16 ≤ a.toNat ∧ a.toNat < 32 ∧ Lx.quoB a = [92, 117, 123, Lx.hexD (a.toNat / 16), Lx.hexD (a.toNat % 16), 125]) ∨ (a = 127 ∧ Lx.quoB a = [92, 117, 123, Lx.hexD (a.toNat / 16), Lx.hexD (a.toNat % 16), 125]) ∨ (32 ≤ a.toNat ∧ a ≠ 34 ∧ a ≠ 92 ∧ a ≠ 127 ∧ Lx.quoB a = [a]) := by decide +kernel
  have := h ⟨a.toNat, a.toNat_lt⟩
  simpa using this
theorem hex_at (n : Nat) (h : n < 16) : (((⟨#[48, 49, 50, 51, 52, 53, 54, 55, 56, 57, 97, 98, 99, 100, 101, 102]⟩ : ByteArray)[n]'h).toNat : Int) = ((Lx.hexD n).toNat : Int) := by
  have h2 : ∀ i : Fin 16, (((⟨#[48, 49, 50, 51, 52, 53, 54, 55, 56, 57, 97, 98, 99, 100, 101, 102]⟩ : ByteArray)[i.val]'i.isLt).toNat : Int) = ((Lx.hexD i.val).toNat : Int) := by decide +kernel
  exact h2 ⟨n, h⟩

set_option maxHeartbeats 4000000 in
set_option maxRecDepth 100000 in
theorem rquote_walk (s : Bs) (w : World) (hl : s.length ≤ 1048576) :
    Calls Tryd.prog 33 #[.string ⟨s.toArray⟩] w fun e w' => e = .returned (.string ⟨(Lx.quoM s).toArray⟩) ∧ Below w.heap.size w w' := by
  obtain ⟨i0, ji, jz0, jz1, jz2⟩ := info_parts bd_byte
  generalize hU : Lx.quoM s = U
  have HU : Hid (U = [34] ++ (Lx.quoI s ++ [34])) := by show _ = _; rw [← hU]; rfl
  clear hU
  go_enter Tryd.func33, Tryd.ntmps33
  go_wp2_with fail
  go_loopw [4, 5] (fun v iv wr => ∃ (i : Nat) (done : Bs), iv = .int .i64 i ∧ i ≤ s.length ∧ done.length ≤ 1 + 6 * i ∧ wr.ownsRow w.heap.size 5 1 v done.length (Lib.byteCells done) ∧ Below w.heap.size w wr ∧ Hid (U = done ++ (Lx.quoI (s.drop i) ++ [34]))) (fun _ iv _ => s.length - (intOf iv).toNat)
  case atStart => exact ⟨0, [34], rfl, by omega, by simp, World.ownsRow_lit (base := w.heap.size) (size := 1) (e := 5) w #[.int .u8 34] 1 (Nat.le_refl _) (by unfold maxLen; omega) rfl, (Below.refl _ _).alloc (Nat.le_refl _) _, HU⟩
  case round =>
    obtain ⟨i, done, rfl, hi, hdl, hown, hb, HX⟩ := hrel
    have hbs := hb.size
    by_cases hlt : i < s.length
    · have j0 : (0 : Int) ≤ (i : Int) := by omega
      have j1 : (i : Int) < (s.length : Int) := by omega
      have HX2 : Hid (U = (done ++ Lx.quoB s[i]) ++ (Lx.quoI (s.drop (i + 1)) ++ [34])) := by
        show _ = _
        rw [HX.out, List.drop_eq_getElem_cons hlt]
        simp only [Lx.quoI, List.flatMap_cons, List.append_assoc]
      have hql := quo_len s[i]
      have hww := quo_ways s[i]
      have hby : (((⟨s.toArray⟩ : ByteArray)[i]'(by rw [mk_size]; exact hlt)).toNat : Int) = (s[i].toNat : Int) := byte_of hlt rfl
      have Hby := Lib.hid hby
      generalize s[i] = a at *
      obtain ⟨Av, cv, rfl⟩ := own_form hown
      clear HX hby
      rcases hww with ⟨rfl, hq⟩ | ⟨rfl, hq⟩ | ⟨rfl, hq⟩ | ⟨rfl, hq⟩ | ⟨h10, h9, h16, hq⟩ | ⟨h16, h32, hq⟩ | ⟨rfl, hq⟩ | ⟨h32, h34, h92, h127, hq⟩
      · have hb0 : (((⟨s.toArray⟩ : ByteArray)[i]'(by rw [mk_size]; omega)).toNat : Int) = 10 := Hby.out
        have HQ := Lib.hid hq
        clear hq
        go_wp2_with (at_builtin; have hBN3 : (wr.alloc (.cells #[.int .u8 92, .int .u8 110] 5)).heap[wr.heap.size]? = some (.cells #[.int .u8 92, .int .u8 110] 5 (0, 0)) := heap_alloc_new _ _; have hoA3 := hown.alloc (.cells #[.int .u8 92, .int .u8 110] 5); have hbA3 := hb.alloc hbs (.cells #[.int .u8 92, .int .u8 110] 5); refine wpList_append_lies _ rfl _ _ 63 rfl w.heap.size 5 i0 _ 1 1 Tryd.underlying63 ji jz0 jz1 jz2 rfl (by omega) (.slice Av done.length cv) done.length (Lib.byteCells done) rfl hoA3 ⟨wr.heap.size, 0, none⟩ 2 2 [.int .u8 92, .int .u8 110] rfl rfl (World.news_of_block (cs := #[.int .u8 92, .int .u8 110]) (t := 5) (fr := (0, 0)) hBN3) (by simp [Value.oneCell']) (by omega) (by unfold maxLen; omega) (by omega) (by simp; omega) _ rfl ?_; intro gg3 cap3 w3 hown3 hgrow3 hat3 hlt3; have hb3 := hbA3.grown hgrow3 (by simp; omega) (fun g hg => (hown.lt g hg).1); have hbs3 := hb3.size)
        go_roundw
        case rel =>
          refine ⟨i + 1, done ++ Lx.quoB 10, by go_num, by omega, by rw [List.length_append]; omega, ?_, hb3, HX2⟩
          rw [List.length_append, Lib.byteCells_append, HQ.out]
          exact hown3
        case measure => simp [intOf]; omega
      · have hb0 : (((⟨s.toArray⟩ : ByteArray)[i]'(by rw [mk_size]; omega)).toNat : Int) = 9 := Hby.out
        have HQ := Lib.hid hq
        clear hq
        go_wp2_with (at_builtin; have hBN3 : (wr.alloc (.cells #[.int .u8 92, .int .u8 116] 5)).heap[wr.heap.size]? = some (.cells #[.int .u8 92, .int .u8 116] 5 (0, 0)) := heap_alloc_new _ _; have hoA3 := hown.alloc (.cells #[.int .u8 92, .int .u8 116] 5); have hbA3 := hb.alloc hbs (.cells #[.int .u8 92, .int .u8 116] 5); refine wpList_append_lies _ rfl _ _ 63 rfl w.heap.size 5 i0 _ 1 1 Tryd.underlying63 ji jz0 jz1 jz2 rfl (by omega) (.slice Av done.length cv) done.length (Lib.byteCells done) rfl hoA3 ⟨wr.heap.size, 0, none⟩ 2 2 [.int .u8 92, .int .u8 116] rfl rfl (World.news_of_block (cs := #[.int .u8 92, .int .u8 116]) (t := 5) (fr := (0, 0)) hBN3) (by simp [Value.oneCell']) (by omega) (by unfold maxLen; omega) (by omega) (by simp; omega) _ rfl ?_; intro gg3 cap3 w3 hown3 hgrow3 hat3 hlt3; have hb3 := hbA3.grown hgrow3 (by simp; omega) (fun g hg => (hown.lt g hg).1); have hbs3 := hb3.size)
        go_roundw
        case rel =>
          refine ⟨i + 1, done ++ Lx.quoB 9, by go_num, by omega, by rw [List.length_append]; omega, ?_, hb3, HX2⟩
          rw [List.length_append, Lib.byteCells_append, HQ.out]
          exact hown3
        case measure => simp [intOf]; omega
      · have hb0 : (((⟨s.toArray⟩ : ByteArray)[i]'(by rw [mk_size]; omega)).toNat : Int) = 34 := Hby.out
        have HQ := Lib.hid hq
        clear hq
        go_wp2_with (at_builtin; have hBN3 : (wr.alloc (.cells #[.int .u8 92, .int .u8 34] 5)).heap[wr.heap.size]? = some (.cells #[.int .u8 92, .int .u8 34] 5 (0, 0)) := heap_alloc_new _ _; have hoA3 := hown.alloc (.cells #[.int .u8 92, .int .u8 34] 5); have hbA3 := hb.alloc hbs (.cells #[.int .u8 92, .int .u8 34] 5); refine wpList_append_lies _ rfl _ _ 63 rfl w.heap.size 5 i0 _ 1 1 Tryd.underlying63 ji jz0 jz1 jz2 rfl (by omega) (.slice Av done.length cv) done.length (Lib.byteCells done) rfl hoA3 ⟨wr.heap.size, 0, none⟩ 2 2 [.int .u8 92, .int .u8 34] rfl rfl (World.news_of_block (cs := #[.int .u8 92, .int .u8 34]) (t := 5) (fr := (0, 0)) hBN3) (by simp [Value.oneCell']) (by omega) (by unfold maxLen; omega) (by omega) (by simp; omega) _ rfl ?_; intro gg3 cap3 w3 hown3 hgrow3 hat3 hlt3; have hb3 := hbA3.grown hgrow3 (by simp; omega) (fun g hg => (hown.lt g hg).1); have hbs3 := hb3.size)
        go_roundw
        case rel =>
          refine ⟨i + 1, done ++ Lx.quoB 34, by go_num, by omega, by rw [List.length_append]; omega, ?_, hb3, HX2⟩
          rw [List.length_append, Lib.byteCells_append, HQ.out]
          exact hown3
        case measure => simp [intOf]; omega
      · have hb0 : (((⟨s.toArray⟩ : ByteArray)[i]'(by rw [mk_size]; omega)).toNat : Int) = 92 := Hby.out
        have HQ := Lib.hid hq
        clear hq
        go_wp2_with (at_builtin; have hBN3 : (wr.alloc (.cells #[.int .u8 92, .int .u8 92] 5)).heap[wr.heap.size]? = some (.cells #[.int .u8 92, .int .u8 92] 5 (0, 0)) := heap_alloc_new _ _; have hoA3 := hown.alloc (.cells #[.int .u8 92, .int .u8 92] 5); have hbA3 := hb.alloc hbs (.cells #[.int .u8 92, .int .u8 92] 5); refine wpList_append_lies _ rfl _ _ 63 rfl w.heap.size 5 i0 _ 1 1 Tryd.underlying63 ji jz0 jz1 jz2 rfl (by omega) (.slice Av done.length cv) done.length (Lib.byteCells done) rfl hoA3 ⟨wr.heap.size, 0, none⟩ 2 2 [.int .u8 92, .int .u8 92] rfl rfl (World.news_of_block (cs := #[.int .u8 92, .int .u8 92]) (t := 5) (fr := (0, 0)) hBN3) (by simp [Value.oneCell']) (by omega) (by unfold maxLen; omega) (by omega) (by simp; omega) _ rfl ?_; intro gg3 cap3 w3 hown3 hgrow3 hat3 hlt3; have hb3 := hbA3.grown hgrow3 (by simp; omega) (fun g hg => (hown.lt g hg).1); have hbs3 := hb3.size)
        go_roundw
        case rel =>
          refine ⟨i + 1, done ++ Lx.quoB 92, by go_num, by omega, by rw [List.length_append]; omega, ?_, hb3, HX2⟩
          rw [List.length_append, Lib.byteCells_append, HQ.out]
          exact hown3
        case measure => simp [intOf]; omega
      · have hb0 : (((⟨s.toArray⟩ : ByteArray)[i]'(by rw [mk_size]; omega)).toNat : Int) = (a.toNat : Int) := Hby.out
        have hx2 := hex_at (a.toNat % 16) (by omega)
        have e10 : ((a.toNat : Int) == 10) = false := by simp; exact fun e => h10 (UInt8.toNat_inj.1 (show a.toNat = 10 by omega))
        have e9 : ((a.toNat : Int) == 9) = false := by simp; exact fun e => h9 (UInt8.toNat_inj.1 (show a.toNat = 9 by omega))
        have e34 : ((a.toNat : Int) == 34) = false := by simp; omega
        have e92 : ((a.toNat : Int) == 92) = false := by simp; omega
        have l32 : (a.toNat : Int) < 32 := by omega
        have l16 : ¬ (16 : Int) ≤ (a.toNat : Int) := by omega
        have hq : Lx.quoB a = [92, 117, 123, Lx.hexD (a.toNat % 16), 125] := by rw [hq, Nat.mod_eq_of_lt h16]
        have HQ := Lib.hid hq
        clear hq
        go_wp2_with (first | (at_builtin; have hBN3 : (wr.alloc (.cells #[.int .u8 92, .int .u8 117, .int .u8 123] 5)).heap[wr.heap.size]? = some (.cells #[.int .u8 92, .int .u8 117, .int .u8 123] 5 (0, 0)) := heap_alloc_new _ _; have hoA3 := hown.alloc (.cells #[.int .u8 92, .int .u8 117, .int .u8 123] 5); have hbA3 := hb.alloc hbs (.cells #[.int .u8 92, .int .u8 117, .int .u8 123] 5); refine wpList_append_lies _ rfl _ _ 63 rfl w.heap.size 5 i0 _ 1 1 Tryd.underlying63 ji jz0 jz1 jz2 rfl (by omega) (.slice Av done.length cv) done.length (Lib.byteCells done) rfl hoA3 ⟨wr.heap.size, 0, none⟩ 3 3 [.int .u8 92, .int .u8 117, .int .u8 123] rfl rfl (World.news_of_block (cs := #[.int .u8 92, .int .u8 117, .int .u8 123]) (t := 5) (fr := (0, 0)) hBN3) (by simp [Value.oneCell']) (by omega) (by unfold maxLen; omega) (by omega) (by simp; omega) _ rfl ?_; intro gg3 cap3 w3 hown3 hgrow3 hat3 hlt3; have hb3 := hbA3.grown hgrow3 (by simp; omega) (fun g hg => (hown.lt g hg).1); have hbs3 := hb3.size) | (at_builtin; have hBN4 : (w3.alloc (.cells #[.int .u8 ((Lx.hexD (a.toNat % 16)).toNat : Int), .int .u8 125] 5)).heap[w3.heap.size]? = some (.cells #[.int .u8 ((Lx.hexD (a.toNat % 16)).toNat : Int), .int .u8 125] 5 (0, 0)) := heap_alloc_new _ _; have hoA4 := hown3.alloc (.cells #[.int .u8 ((Lx.hexD (a.toNat % 16)).toNat : Int), .int .u8 125] 5); have hbA4 := hb3.alloc hbs3 (.cells #[.int .u8 ((Lx.hexD (a.toNat % 16)).toNat : Int), .int .u8 125] 5); refine wpList_append_lies _ rfl _ _ 63 rfl w.heap.size 5 i0 _ 1 1 Tryd.underlying63 ji jz0 jz1 jz2 rfl (by omega) (.slice (some ⟨gg3, 0, none⟩) (done.length + 3) cap3) (done.length + 3) ((Lib.byteCells done) ++ [.int .u8 92, .int .u8 117, .int .u8 123]) rfl hoA4 ⟨w3.heap.size, 0, none⟩ 2 2 [.int .u8 ((Lx.hexD (a.toNat % 16)).toNat : Int), .int .u8 125] rfl rfl (World.news_of_block (cs := #[.int .u8 ((Lx.hexD (a.toNat % 16)).toNat : Int), .int .u8 125]) (t := 5) (fr := (0, 0)) hBN4) (by simp [Value.oneCell']) (by omega) (by unfold maxLen; omega) (by omega) (by simp; omega) _ rfl ?_; intro gg4 cap4 w4 hown4 hgrow4 hat4 hlt4; have hb4 := hbA4.grown hgrow4 (by simp; omega) (fun g hg => (hown3.lt g hg).1); have hbs4 := hb4.size))
        go_roundw
        case rel =>
          refine ⟨i + 1, done ++ Lx.quoB a, by go_num, by omega, by rw [List.length_append]; omega, ?_, hb4, HX2⟩
          rw [List.length_append, Lib.byteCells_append, HQ.out]
          simp only [List.append_assoc, List.cons_append, List.nil_append, Nat.add_assoc] at hown4
          exact hown4
        case measure => simp [intOf]; omega
      · have hb0 : (((⟨s.toArray⟩ : ByteArray)[i]'(by rw [mk_size]; omega)).toNat : Int) = (a.toNat : Int) := Hby.out
        have hx1 := hex_at (a.toNat / 16) (by have := a.toNat_lt; omega)
        have hx2 := hex_at (a.toNat % 16) (by omega)
        have e10 : ((a.toNat : Int) == 10) = false := by simp; omega
        have e9 : ((a.toNat : Int) == 9) = false := by simp; omega
        have e34 : ((a.toNat : Int) == 34) = false := by simp; omega
        have e92 : ((a.toNat : Int) == 92) = false := by simp; omega
        have l32 : (a.toNat : Int) < 32 := by omega
        have l16 : (16 : Int) ≤ (a.toNat : Int) := by omega
        have HQ := Lib.hid hq
        clear hq
        go_wp2_with (first | (at_builtin; have hBN3 : (wr.alloc (.cells #[.int .u8 92, .int .u8 117, .int .u8 123] 5)).heap[wr.heap.size]? = some (.cells #[.int .u8 92, .int .u8 117, .int .u8 123] 5 (0, 0)) := heap_alloc_new _ _; have hoA3 := hown.alloc (.cells #[.int .u8 92, .int .u8 117, .int .u8 123] 5); have hbA3 := hb.alloc hbs (.cells #[.int .u8 92, .int .u8 117, .int .u8 123] 5); refine wpList_append_lies _ rfl _ _ 63 rfl w.heap.size 5 i0 _ 1 1 Tryd.underlying63 ji jz0 jz1 jz2 rfl (by omega) (.slice Av done.length cv) done.length (Lib.byteCells done) rfl hoA3 ⟨wr.heap.size, 0, none⟩ 3 3 [.int .u8 92, .int .u8 117, .int .u8 123] rfl rfl (World.news_of_block (cs := #[.int .u8 92, .int .u8 117, .int .u8 123]) (t := 5) (fr := (0, 0)) hBN3) (by simp [Value.oneCell']) (by omega) (by unfold maxLen; omega) (by omega) (by simp; omega) _ rfl ?_; intro gg3 cap3 w3 hown3 hgrow3 hat3 hlt3; have hb3 := hbA3.grown hgrow3 (by simp; omega) (fun g hg => (hown.lt g hg).1); have hbs3 := hb3.size) | (at_builtin; have hBN4 : (w3.alloc (.cells #[.int .u8 ((Lx.hexD (a.toNat / 16)).toNat : Int)] 5)).heap[w3.heap.size]? = some (.cells #[.int .u8 ((Lx.hexD (a.toNat / 16)).toNat : Int)] 5 (0, 0)) := heap_alloc_new _ _; have hoA4 := hown3.alloc (.cells #[.int .u8 ((Lx.hexD (a.toNat / 16)).toNat : Int)] 5); have hbA4 := hb3.alloc hbs3 (.cells #[.int .u8 ((Lx.hexD (a.toNat / 16)).toNat : Int)] 5); refine wpList_append_lies _ rfl _ _ 63 rfl w.heap.size 5 i0 _ 1 1 Tryd.underlying63 ji jz0 jz1 jz2 rfl (by omega) (.slice (some ⟨gg3, 0, none⟩) (done.length + 3) cap3) (done.length + 3) ((Lib.byteCells done) ++ [.int .u8 92, .int .u8 117, .int .u8 123]) rfl hoA4 ⟨w3.heap.size, 0, none⟩ 1 1 [.int .u8 ((Lx.hexD (a.toNat / 16)).toNat : Int)] rfl rfl (World.news_of_block (cs := #[.int .u8 ((Lx.hexD (a.toNat / 16)).toNat : Int)]) (t := 5) (fr := (0, 0)) hBN4) (by simp [Value.oneCell']) (by omega) (by unfold maxLen; omega) (by omega) (by simp; omega) _ rfl ?_; intro gg4 cap4 w4 hown4 hgrow4 hat4 hlt4; have hb4 := hbA4.grown hgrow4 (by simp; omega) (fun g hg => (hown3.lt g hg).1); have hbs4 := hb4.size) | (at_builtin; have hBN5 : (w4.alloc (.cells #[.int .u8 ((Lx.hexD (a.toNat % 16)).toNat : Int), .int .u8 125] 5)).heap[w4.heap.size]? = some (.cells #[.int .u8 ((Lx.hexD (a.toNat % 16)).toNat : Int), .int .u8 125] 5 (0, 0)) := heap_alloc_new _ _; have hoA5 := hown4.alloc (.cells #[.int .u8 ((Lx.hexD (a.toNat % 16)).toNat : Int), .int .u8 125] 5); have hbA5 := hb4.alloc hbs4 (.cells #[.int .u8 ((Lx.hexD (a.toNat % 16)).toNat : Int), .int .u8 125] 5); refine wpList_append_lies _ rfl _ _ 63 rfl w.heap.size 5 i0 _ 1 1 Tryd.underlying63 ji jz0 jz1 jz2 rfl (by omega) (.slice (some ⟨gg4, 0, none⟩) ((done.length + 3) + 1) cap4) ((done.length + 3) + 1) (((Lib.byteCells done) ++ [.int .u8 92, .int .u8 117, .int .u8 123]) ++ [.int .u8 ((Lx.hexD (a.toNat / 16)).toNat : Int)]) rfl hoA5 ⟨w4.heap.size, 0, none⟩ 2 2 [.int .u8 ((Lx.hexD (a.toNat % 16)).toNat : Int), .int .u8 125] rfl rfl (World.news_of_block (cs := #[.int .u8 ((Lx.hexD (a.toNat % 16)).toNat : Int), .int .u8 125]) (t := 5) (fr := (0, 0)) hBN5) (by simp [Value.oneCell']) (by omega) (by unfold maxLen; omega) (by omega) (by simp; omega) _ rfl ?_; intro gg5 cap5 w5 hown5 hgrow5 hat5 hlt5; have hb5 := hbA5.grown hgrow5 (by simp; omega) (fun g hg => (hown4.lt g hg).1); have hbs5 := hb5.size))
        go_roundw
        case rel =>
          refine ⟨i + 1, done ++ Lx.quoB a, by go_num, by omega, by rw [List.length_append]; omega, ?_, hb5, HX2⟩
          rw [List.length_append, Lib.byteCells_append, HQ.out]
          simp only [List.append_assoc, List.cons_append, List.nil_append, Nat.add_assoc] at hown5
          exact hown5
        case measure => simp [intOf]; omega
      · have hb0 : (((⟨s.toArray⟩ : ByteArray)[i]'(by rw [mk_size]; omega)).toNat : Int) = 127 := Hby.out
        have hx7 := hex_at 7 (by decide)
        have hx15 := hex_at 15 (by decide)
        rw [show ((Lx.hexD 7).toNat : Int) = 55 from rfl] at hx7
        rw [show ((Lx.hexD 15).toNat : Int) = 102 from rfl] at hx15
        have hq : Lx.quoB 127 = [92, 117, 123, 55, 102, 125] := by decide
        have HQ := Lib.hid hq
        clear hq
        go_wp2_with (first | (at_builtin; have hBN3 : (wr.alloc (.cells #[.int .u8 92, .int .u8 117, .int .u8 123] 5)).heap[wr.heap.size]? = some (.cells #[.int .u8 92, .int .u8 117, .int .u8 123] 5 (0, 0)) := heap_alloc_new _ _; have hoA3 := hown.alloc (.cells #[.int .u8 92, .int .u8 117, .int .u8 123] 5); have hbA3 := hb.alloc hbs (.cells #[.int .u8 92, .int .u8 117, .int .u8 123] 5); refine wpList_append_lies _ rfl _ _ 63 rfl w.heap.size 5 i0 _ 1 1 Tryd.underlying63 ji jz0 jz1 jz2 rfl (by omega) (.slice Av done.length cv) done.length (Lib.byteCells done) rfl hoA3 ⟨wr.heap.size, 0, none⟩ 3 3 [.int .u8 92, .int .u8 117, .int .u8 123] rfl rfl (World.news_of_block (cs := #[.int .u8 92, .int .u8 117, .int .u8 123]) (t := 5) (fr := (0, 0)) hBN3) (by simp [Value.oneCell']) (by omega) (by unfold maxLen; omega) (by omega) (by simp; omega) _ rfl ?_; intro gg3 cap3 w3 hown3 hgrow3 hat3 hlt3; have hb3 := hbA3.grown hgrow3 (by simp; omega) (fun g hg => (hown.lt g hg).1); have hbs3 := hb3.size) | (at_builtin; have hBN4 : (w3.alloc (.cells #[.int .u8 55] 5)).heap[w3.heap.size]? = some (.cells #[.int .u8 55] 5 (0, 0)) := heap_alloc_new _ _; have hoA4 := hown3.alloc (.cells #[.int .u8 55] 5); have hbA4 := hb3.alloc hbs3 (.cells #[.int .u8 55] 5); refine wpList_append_lies _ rfl _ _ 63 rfl w.heap.size 5 i0 _ 1 1 Tryd.underlying63 ji jz0 jz1 jz2 rfl (by omega) (.slice (some ⟨gg3, 0, none⟩) (done.length + 3) cap3) (done.length + 3) ((Lib.byteCells done) ++ [.int .u8 92, .int .u8 117, .int .u8 123]) rfl hoA4 ⟨w3.heap.size, 0, none⟩ 1 1 [.int .u8 55] rfl rfl (World.news_of_block (cs := #[.int .u8 55]) (t := 5) (fr := (0, 0)) hBN4) (by simp [Value.oneCell']) (by omega) (by unfold maxLen; omega) (by omega) (by simp; omega) _ rfl ?_; intro gg4 cap4 w4 hown4 hgrow4 hat4 hlt4; have hb4 := hbA4.grown hgrow4 (by simp; omega) (fun g hg => (hown3.lt g hg).1); have hbs4 := hb4.size) | (at_builtin; have hBN5 : (w4.alloc (.cells #[.int .u8 102, .int .u8 125] 5)).heap[w4.heap.size]? = some (.cells #[.int .u8 102, .int .u8 125] 5 (0, 0)) := heap_alloc_new _ _; have hoA5 := hown4.alloc (.cells #[.int .u8 102, .int .u8 125] 5); have hbA5 := hb4.alloc hbs4 (.cells #[.int .u8 102, .int .u8 125] 5); refine wpList_append_lies _ rfl _ _ 63 rfl w.heap.size 5 i0 _ 1 1 Tryd.underlying63 ji jz0 jz1 jz2 rfl (by omega) (.slice (some ⟨gg4, 0, none⟩) ((done.length + 3) + 1) cap4) ((done.length + 3) + 1) (((Lib.byteCells done) ++ [.int .u8 92, .int .u8 117, .int .u8 123]) ++ [.int .u8 55]) rfl hoA5 ⟨w4.heap.size, 0, none⟩ 2 2 [.int .u8 102, .int .u8 125] rfl rfl (World.news_of_block (cs := #[.int .u8 102, .int .u8 125]) (t := 5) (fr := (0, 0)) hBN5) (by simp [Value.oneCell']) (by omega) (by unfold maxLen; omega) (by omega) (by simp; omega) _ rfl ?_; intro gg5 cap5 w5 hown5 hgrow5 hat5 hlt5; have hb5 := hbA5.grown hgrow5 (by simp; omega) (fun g hg => (hown4.lt g hg).1); have hbs5 := hb5.size))
        go_roundw
        case rel =>
          refine ⟨i + 1, done ++ Lx.quoB 127, by go_num, by omega, by rw [List.length_append]; omega, ?_, hb5, HX2⟩
          rw [List.length_append, Lib.byteCells_append, HQ.out]
          simp only [List.append_assoc, List.cons_append, List.nil_append, Nat.add_assoc] at hown5
          exact hown5
        case measure => simp [intOf]; omega
      · have hb0 : (((⟨s.toArray⟩ : ByteArray)[i]'(by rw [mk_size]; omega)).toNat : Int) = (a.toNat : Int) := Hby.out
        have e10 : ((a.toNat : Int) == 10) = false := by simp; omega
        have e9 : ((a.toNat : Int) == 9) = false := by simp; omega
        have e34 : ((a.toNat : Int) == 34) = false := by simp; exact fun e => h34 (UInt8.toNat_inj.1 (show a.toNat = 34 by omega))
        have e92 : ((a.toNat : Int) == 92) = false := by simp; exact fun e => h92 (UInt8.toNat_inj.1 (show a.toNat = 92 by omega))
        have e127 : ((a.toNat : Int) == 127) = false := by simp; exact fun e => h127 (UInt8.toNat_inj.1 (show a.toNat = 127 by omega))
        have l32 : ¬ (a.toNat : Int) < 32 := by omega
        have HQ := Lib.hid hq
        clear hq
        go_wp2_with (at_builtin; have hBN3 : (wr.alloc (.cells #[.int .u8 (a.toNat : Int)] 5)).heap[wr.heap.size]? = some (.cells #[.int .u8 (a.toNat : Int)] 5 (0, 0)) := heap_alloc_new _ _; have hoA3 := hown.alloc (.cells #[.int .u8 (a.toNat : Int)] 5); have hbA3 := hb.alloc hbs (.cells #[.int .u8 (a.toNat : Int)] 5); refine wpList_append_lies _ rfl _ _ 63 rfl w.heap.size 5 i0 _ 1 1 Tryd.underlying63 ji jz0 jz1 jz2 rfl (by omega) (.slice Av done.length cv) done.length (Lib.byteCells done) rfl hoA3 ⟨wr.heap.size, 0, none⟩ 1 1 [.int .u8 (a.toNat : Int)] rfl rfl (World.news_of_block (cs := #[.int .u8 (a.toNat : Int)]) (t := 5) (fr := (0, 0)) hBN3) (by simp [Value.oneCell']) (by omega) (by unfold maxLen; omega) (by omega) (by simp; omega) _ rfl ?_; intro gg3 cap3 w3 hown3 hgrow3 hat3 hlt3; have hb3 := hbA3.grown hgrow3 (by simp; omega) (fun g hg => (hown.lt g hg).1); have hbs3 := hb3.size)
        go_roundw
        case rel =>
          refine ⟨i + 1, done ++ Lx.quoB a, by go_num, by omega, by rw [List.length_append]; omega, ?_, hb3, HX2⟩
          rw [List.length_append, Lib.byteCells_append, HQ.out]
          exact hown3
        case measure => simp [intOf]; omega
    · obtain rfl : i = s.length := by omega
      have hUd : Hid (U = done ++ [34]) := by show _ = _; rw [HX.out, List.drop_length]; rfl
      obtain ⟨Av, cv, rfl⟩ := own_form hown
      go_wp2_with (at_builtin; have hBN3 : (wr.alloc (.cells #[.int .u8 34] 5)).heap[wr.heap.size]? = some (.cells #[.int .u8 34] 5 (0, 0)) := heap_alloc_new _ _; have hoA3 := hown.alloc (.cells #[.int .u8 34] 5); have hbA3 := hb.alloc hbs (.cells #[.int .u8 34] 5); refine wpList_append_lies _ rfl _ _ 63 rfl w.heap.size 5 i0 _ 1 1 Tryd.underlying63 ji jz0 jz1 jz2 rfl (by omega) (.slice Av done.length cv) done.length (Lib.byteCells done) rfl hoA3 ⟨wr.heap.size, 0, none⟩ 1 1 [.int .u8 34] rfl rfl (World.news_of_block (cs := #[.int .u8 34]) (t := 5) (fr := (0, 0)) hBN3) (by simp [Value.oneCell']) (by omega) (by unfold maxLen; omega) (by omega) (by simp; omega) _ rfl ?_; intro gg3 cap3 w3 hown3 hgrow3 hat3 hlt3; have hb3 := hbA3.grown hgrow3 (by simp; omega) (fun g hg => (hown.lt g hg).1); have hbs3 := hb3.size; have hcv : (convert 63 9 (.slice (some ⟨gg3, 0, none⟩) (done.length + 1) cap3)).run Tryd.prog w3 = .ok (.string ⟨(done ++ [34] : Bs).toArray⟩) w3 := own_str (l := done ++ [34]) (by rw [List.length_append, Lib.byteCells_append]; exact hown3))
      go_wp2_with fail
      go_ret
      rw [hUd.out]
      exact ⟨rfl, hb3⟩
end Go.Proofs.YtccljojceoidhaaDoor
