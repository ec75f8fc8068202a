/-
  THE WALKS of package rope: New, Len, Lines, there, Text, Replace; amanuensisref1.Lines.
-/
import Derived.Test.YtffcfnnbdmihaaaDoorSpan
import Derived.Test.YtffcfnnbdmihaaaDoorShelf2
import Derived.Deep.RegionHeld3
import Derived.StillTailTactics
import Derived.Deep.DeepCutAuto
namespace Go.Proofs.YtffcfnnbdmihaaaDoor
open Go.RowKit

theorem Blk.newAt (w : World) (t : TypeId) (cs : Array Value) (g : Nat) (h : g = w.heap.size) : Blk (w.alloc (.cells cs t)) g t cs := by subst h; exact Blk.new w t cs
def nums (l : List Nat) : List Value := l.map fun (n : Nat) => .int .i64 (n : Int)
/-- where lines begin -/
def starts : Nat → List UInt8 → List Nat
  | _, [] => []
  | i, c :: r => (if c.toNat = 10 then [i + 1] else []) ++ starts (i + 1) r
def linesOf (l : List UInt8) : List Nat := 0 :: starts 0 l
theorem starts_snoc (l : List UInt8) (c : UInt8) : ∀ i, starts i (l ++ [c]) = starts i l ++ if c.toNat = 10 then [i + l.length + 1] else [] := by
  induction l with
  | nil => intro i; simp [starts]
  | cons x r ih =>
    intro i
    rw [List.cons_append, starts, starts, ih, List.append_assoc, List.length_cons]
    rw [show i + 1 + r.length + 1 = i + (r.length + 1) + 1 from by omega]
theorem linesOf_snoc (l : List UInt8) (c : UInt8) : linesOf (l ++ [c]) = linesOf l ++ if c.toNat = 10 then [l.length + 1] else [] := by
  rw [linesOf, linesOf, starts_snoc, List.cons_append, Nat.zero_add]
theorem linesOf_len (l : List UInt8) : (linesOf l).length ≤ l.length + 1 := by
  have : ∀ (l : List UInt8) i, (starts i l).length ≤ l.length := by
    intro l
    induction l with
    | nil => intro i; simp [starts]
    | cons x r ih =>
      intro i
      have := ih (i + 1)
      rw [starts, List.length_append, List.length_cons]
      split <;> simp <;> omega
  have := this l 0
  simp [linesOf]; omega
theorem nums_snoc (l : List Nat) (n : Nat) : nums (l ++ [n]) = nums l ++ [.int .i64 (n : Int)] := by simp [nums]
theorem nums_len (l : List Nat) : (nums l).length = l.length := by simp [nums]

/-- the rope at block r holds the text s -/
def RopeAt (w : World) (r : Nat) (s : ByteArray) : Prop :=
  ∃ g cap, Blk w r 91 #[.string s, .slice (some ⟨g, 0, none⟩) (linesOf s.data.toList).length cap] ∧ Rd w w.heap.size 1 (some ⟨g, 0, none⟩) (linesOf s.data.toList).length (nums (linesOf s.data.toList))
theorem RopeAt.lt {w : World} {r : Nat} {s : ByteArray} (h : RopeAt w r s) : r < w.heap.size := by
  obtain ⟨g, cap, h1, h2⟩ := h
  exact h1.lt
theorem RopeAt.below {w w' : World} {r : Nat} {s : ByteArray} (h : RopeAt w r s) (hb : Below w.heap.size w w') : RopeAt w' r s := by
  obtain ⟨g, cap, h1, h2⟩ := h
  exact ⟨g, cap, h1.below hb h1.lt, (h2.below hb).more hb.size⟩

theorem infoI : (Tryd.prog.info? 3).map (fun i => (i.zero, i.size, i.bytes)) = some (some (.int .i64 0), 1, 8) := by kernel_rfl

set_option maxHeartbeats 1000000 in
set_option maxRecDepth 100000 in
theorem new_walk (s : ByteArray) (w : World) (hs : s.size ≤ 16777216) :
    Calls Tryd.prog 11 #[.string s] w fun e w' => ∃ r, e = .returned (.pointer (some ⟨r, 0, none⟩)) ∧ w.heap.size ≤ r ∧ RopeAt w' r s ∧ Below w.heap.size w w' := by
  obtain ⟨i0, ji, jz0, jz1, jz2⟩ := info_parts infoI
  go_enter Tryd.func11, Tryd.ntmps11
  go_wp2_with fail
  have hO := World.ownsRow_lit (base := w.heap.size) (e := 3) (size := 1) w #[.int .i64 0] 1 (Nat.le_refl _) (by unfold maxLen; omega) rfl
  have hO2 := hO.alloc (.cells #[.string s, .slice (some ⟨w.heap.size, 0, none⟩) 1 1] 91)
  have hR := Blk.newAt (w.alloc (.cells #[.int .i64 0] 3)) 91 #[.string s, .slice (some ⟨w.heap.size, 0, none⟩) 1 1] (w.heap.size + 1) (by simp)
  have hb0 : Below w.heap.size w ((w.alloc (.cells #[.int .i64 0] 3)).alloc (.cells #[.string s, .slice (some ⟨w.heap.size, 0, none⟩) 1 1] 91)) := ((Below.refl _ _).alloc (Nat.le_refl _) _).alloc (by simp) _
  go_loopw [11] (fun i wr => ∃ (k : Nat) (v : Value), k ≤ s.size ∧ i = .int .i64 k ∧ Below w.heap.size w wr ∧ Blk wr (w.heap.size + 1) 91 #[.string s, v] ∧ wr.ownsRow w.heap.size 3 1 v (linesOf (s.data.toList.take k)).length (nums (linesOf (s.data.toList.take k)))) (fun i _ => s.size - (intOf i).toNat)
  case atStart => exact ⟨0, _, Nat.zero_le _, rfl, hb0, hR, hO2⟩
  case round =>
    clear hO hO2 hR hb0
    obtain ⟨k, v, hk, rfl, hb, hR, hown⟩ := hrel
    have hbs := hb.size
    obtain ⟨Av, cv, rfl⟩ := own_form hown
    have r0 := hR.cell 0
    have r1 := hR.cell 1
    have f1 := hR.frozen 1
    have hrl := hR.lt
    simp at r0 r1
    by_cases hlt : k < s.size
    · have hll := linesOf_len (s.data.toList.take k)
      rw [List.length_take, dlen] at hll
      have hkl : k < s.data.toList.length := by rw [dlen]; exact hlt
      have Hsn : Hid (linesOf (s.data.toList.take (k + 1)) = linesOf (s.data.toList.take k) ++ if s[k].toNat = 10 then [k + 1] else []) := by
        show _ = _
        rw [List.take_succ_eq_append_getElem hkl, linesOf_snoc, List.length_take, Nat.min_eq_left (by omega)]
        rfl
      generalize linesOf (s.data.toList.take k) = ls at *
      have hlen : ls.length ≤ 16777217 := by omega
      clear hll
      by_cases hc : s[k].toNat = 10
      · have hc' : ((s[k].toNat : Int) == 10) = true := by simp [hc]
        have Hsn2 : Hid (linesOf (s.data.toList.take (k + 1)) = ls ++ [k + 1]) := by show _ = _; rw [Hsn.out, if_pos hc]
        clear Hsn hc
        go_wp2_with (at_builtin; refine wpList_append_lies _ rfl _ _ 76 rfl w.heap.size 3 i0 _ 1 8 Tryd.underlying76 ji jz0 jz1 jz2 rfl (by omega) _ ls.length _ rfl (hown.alloc _) ⟨wr.heap.size, 0, none⟩ 1 1 [.int .i64 ((k : Int) + 1)] rfl rfl (World.news_of_block (cs := #[.int .i64 ((k : Int) + 1)]) (t := 3) (fr := (0, 0)) (heap_alloc_new wr _)) (by simp [Value.oneCell']) (by omega) (by unfold maxLen; omega) (by omega) (by simp; omega) _ rfl ?_; intro gg cap' w3 hown3 hgrow hat hlt3; have hR3 := (hR.alloc (.cells #[.int .i64 ((k : Int) + 1)] 3)).grown hgrow (own_ne hown hR (by decide)); have r13 : w3.cell? ⟨w.heap.size + 1, 1, none⟩ = some (.slice Av ls.length cv) := (hR3.cell 1).trans rfl; have f13 := hR3.frozen 1; have hb3 := (hb.alloc hbs (.cells #[.int .i64 ((k : Int) + 1)] 3)).grown hgrow (by simp; omega) fun g hg => (hown.lt g hg).1)
        go_roundw
        case rel =>
          refine ⟨k + 1, _, by omega, by go_num, hb3.setCell (p := ⟨w.heap.size + 1, 1, none⟩) (Nat.le_succ _) _, hR3.set_ 1 _, ?_⟩
          rw [Hsn2.out, nums_snoc, List.length_append]
          refine own_of_block hown3 fun b hb' => Below.heap_setCell _ _ _ _ ?_
          have := own_ne hown3 hR3 (by decide)
          exact fun e => this (by rw [hb', e])
        case measure => simp [intOf]; omega
      · have hc' : ((s[k].toNat : Int) == 10) = false := by simp; omega
        have Hsn2 : Hid (linesOf (s.data.toList.take (k + 1)) = ls) := by show _ = _; rw [Hsn.out, if_neg hc, List.append_nil]
        clear Hsn hc
        go_wp2_with fail
        go_roundw
        case rel => exact ⟨k + 1, _, by omega, by go_num, hb, hR, by rw [Hsn2.out]; exact hown⟩
        case measure => simp [intOf]; omega
    · obtain rfl : k = s.size := by omega
      have e1 : s.data.toList.take s.size = s.data.toList := List.take_of_length_le (by rw [dlen]; exact Nat.le_refl _)
      rw [e1] at hown hR
      have hne : 0 < (linesOf s.data.toList).length := by simp [linesOf]
      obtain ⟨g, cap, hv, _, _⟩ := hown.form hne
      injection hv with hv _ hcv
      subst hv
      go_wp2_with fail
      go_ret
      exact ⟨w.heap.size + 1, rfl, Nat.le_succ _, ⟨g, _, hR, Rd.of_own hown⟩, hb⟩

set_option maxRecDepth 100000 in
theorem len_walk (r : Nat) (s : ByteArray) (w : World) (h : RopeAt w r s) : Calls Tryd.prog 24 #[.pointer (some ⟨r, 0, none⟩)] w fun e w' => e = .returned (.int .i64 s.size) ∧ w = w' := by
  obtain ⟨g, cap, h1, h2⟩ := h
  have r0 := h1.cell 0
  simp at r0
  go_enter Tryd.func24, Tryd.ntmps24
  go_wp2
  go_ret
  exact ⟨rfl, rfl⟩
set_option maxRecDepth 100000 in
theorem lines_walk (r : Nat) (s : ByteArray) (w : World) (h : RopeAt w r s) : Calls Tryd.prog 25 #[.pointer (some ⟨r, 0, none⟩)] w fun e w' => e = .returned (.int .i64 (linesOf s.data.toList).length) ∧ w = w' := by
  obtain ⟨g, cap, h1, h2⟩ := h
  have r1 := h1.cell 1
  simp at r1
  go_enter Tryd.func25, Tryd.ntmps25
  go_wp2
  go_ret
  exact ⟨rfl, rfl⟩
def isThere (n f t : Int) : Bool := decide (0 ≤ f ∧ f ≤ t ∧ t ≤ n)
set_option maxRecDepth 100000 in
theorem there_walk (r : Nat) (s : ByteArray) (f t : Int) (w : World) (h : RopeAt w r s) : Calls Tryd.prog 56 #[.pointer (some ⟨r, 0, none⟩), .int .i64 f, .int .i64 t] w fun e w' => e = .returned (.bool (isThere s.size f t)) ∧ w = w' := by
  obtain ⟨g, cap, h1, h2⟩ := h
  have r0 := h1.cell 0
  simp at r0
  by_cases hf : 0 ≤ f
  · by_cases ht : f ≤ t
    · have e1 : isThere s.size f t = decide (t ≤ (s.size : Int)) := by simp [isThere, hf, ht]
      rw [e1]
      generalize hq : decide (t ≤ (s.size : Int)) = q
      go_enter Tryd.func56, Tryd.ntmps56
      go_wp2
      go_ret
      exact ⟨rfl, rfl⟩
    · have e1 : isThere s.size f t = false := by simp [isThere, ht]
      rw [e1]
      have d1 : decide (f ≤ t) = false := by simp; omega
      go_enter Tryd.func56, Tryd.ntmps56
      go_wp2
      go_ret
      exact ⟨rfl, rfl⟩
  · have e1 : isThere s.size f t = false := by simp [isThere, hf]
    rw [e1]
    have d1 : decide (0 ≤ f) = false := by simp; omega
    go_enter Tryd.func56, Tryd.ntmps56
    go_wp2
    go_ret
    exact ⟨rfl, rfl⟩

set_option maxRecDepth 100000 in
theorem clone_walk (s : ByteArray) (w : World) (hs : s.size ≤ 281474976710656) : Calls Tryd.prog 59 #[.string s] w fun e w' => e = .returned (.string s) ∧ Below w.heap.size w w' := by
  go_enter Tryd.func59, Tryd.ntmps59
  go_wp2_with fail
  refine (Tryd.stringslite_Clone s _ hs).mono ?_
  rintro e w1 ⟨rfl, hb⟩
  go_wp2_with fail
  go_ret
  exact ⟨rfl, hb⟩

set_option maxRecDepth 100000 in
theorem text_no (r : Nat) (s : ByteArray) (f t : Int) (w : World) (h : RopeAt w r s) (hn : isThere s.size f t = false) : Calls Tryd.prog 26 #[.pointer (some ⟨r, 0, none⟩), .int .i64 f, .int .i64 t] w fun e w' => e = .returned (.string ⟨#[]⟩) ∧ Below w.heap.size w w' := by
  have Hn := Lib.hid hn
  clear hn
  go_enter Tryd.func26, Tryd.ntmps26
  go_wp2_with fail
  refine (there_walk r s f t _ h).mono ?_
  rw [Hn.out]
  rintro e w1 ⟨rfl, rfl⟩
  go_wp2_with fail
  go_ret
  exact ⟨rfl, Below.refl _ _⟩
set_option maxRecDepth 100000 in
theorem text_yes (r : Nat) (s : ByteArray) (f t : Nat) (w : World) (h : RopeAt w r s) (hft : f ≤ t) (ht : t ≤ s.size) (hs : s.size ≤ 16777216) : Calls Tryd.prog 26 #[.pointer (some ⟨r, 0, none⟩), .int .i64 f, .int .i64 t] w fun e w' => e = .returned (.string (s.extract f t)) ∧ Below w.heap.size w w' := by
  have Hn : Hid (isThere s.size f t = true) := by show _ = _; simp [isThere]; omega
  have H := h
  obtain ⟨g, cap, h1, h2⟩ := h
  have r0 := h1.cell 0
  simp at r0
  have hxs : (s.extract f t).size ≤ 281474976710656 := by rw [ByteArray.size_extract]; omega
  go_enter Tryd.func26, Tryd.ntmps26
  go_wp2_with fail
  refine (there_walk r s f t _ H).mono ?_
  rw [Hn.out]
  rintro e w1 ⟨rfl, rfl⟩
  go_wp2_with fail
  refine (clone_walk _ _ hxs).mono ?_
  rintro e w1 ⟨rfl, hb⟩
  go_wp2_with fail
  go_ret
  exact ⟨rfl, hb⟩

set_option maxRecDepth 100000 in
theorem replace_no (r : Nat) (s x : ByteArray) (f t : Int) (w : World) (h : RopeAt w r s) (hn : isThere s.size f t = false) : Calls Tryd.prog 16 #[.pointer (some ⟨r, 0, none⟩), .int .i64 f, .int .i64 t, .string x] w fun e w' => e = .returned (.tuple #[.pointer none, errV 1]) ∧ Below w.heap.size w w' := by
  have Hn := Lib.hid hn
  clear hn
  go_enter Tryd.func16, Tryd.ntmps16
  go_wp2_with fail
  refine (there_walk r s f t _ h).mono ?_
  rw [Hn.out]
  rintro e w1 ⟨rfl, rfl⟩
  go_wp2_with fail
  go_ret2
  exact ⟨rfl, Below.refl _ _⟩

def repl (s x : ByteArray) (f t : Nat) : ByteArray := s.extract 0 f ++ x ++ s.extract t s.size
set_option maxHeartbeats 1000000 in
set_option maxRecDepth 100000 in
theorem replace_yes (r : Nat) (s x : ByteArray) (f t : Nat) (w : World) (h : RopeAt w r s) (hft : f ≤ t) (ht : t ≤ s.size) (hs : s.size + x.size ≤ 16777216) : Calls Tryd.prog 16 #[.pointer (some ⟨r, 0, none⟩), .int .i64 f, .int .i64 t, .string x] w fun e w' => ∃ q, e = .returned (.tuple #[.pointer (some ⟨q, 0, none⟩), .nilIface]) ∧ w.heap.size ≤ q ∧ RopeAt w' q (repl s x f t) ∧ Below w.heap.size w w' := by
  have Hn : Hid (isThere s.size f t = true) := by show _ = _; simp [isThere]; omega
  have H := h
  obtain ⟨g, cap, h1, h2⟩ := h
  have r0 := h1.cell 0
  simp at r0
  have e1 : ¬ 9223372036854775807 < f + x.size := by omega
  have e2 : ¬ 9223372036854775807 < f + x.size + (s.size - t) := by omega
  have hfs : f ≤ s.size := by omega
  have hz : (repl s x f t).size ≤ 16777216 := by unfold repl; rw [ByteArray.size_append, ByteArray.size_append, ByteArray.size_extract, ByteArray.size_extract]; omega
  go_enter Tryd.func16, Tryd.ntmps16
  go_wp2_with fail
  refine (there_walk r s f t _ H).mono ?_
  rw [Hn.out]
  rintro e w1 ⟨rfl, rfl⟩
  go_wp2_with fail
  go_still_tail 15, (by kernel_rfl)
  change wpList _ _ _ _ _ w.drew
  go_wp2_with fail
  refine (new_walk (repl s x f t) _ hz).mono ?_
  rintro e w1 ⟨q, rfl, hq, hR, hb⟩
  go_wp2_with fail
  go_ret2
  exact ⟨q, rfl, hq, hR, (Below.refl _ _).drew.trans hb⟩

set_option maxHeartbeats 1000000 in
set_option maxRecDepth 100000 in
theorem rlines_walk (s : ByteArray) (w : World) (hs : s.size ≤ 16777216) : Calls Tryd.prog 27 #[.string s] w fun e w' => e = .returned (.int .i64 (linesOf s.data.toList).length) ∧ w = w' := by
  go_enter Tryd.func27, Tryd.ntmps27
  go_wp2_with fail
  go_loop [3, 4] (fun n i => ∃ k : Nat, k ≤ s.size ∧ i = .int .i64 k ∧ n = .int .i64 (linesOf (s.data.toList.take k)).length) (fun _ i => s.size - (intOf i).toNat)
  case atStart => exact ⟨0, Nat.zero_le _, rfl, rfl⟩
  case round =>
    obtain ⟨k, hk, rfl, rfl⟩ := hrel
    by_cases hlt : k < s.size
    · have hll := linesOf_len (s.data.toList.take k)
      rw [List.length_take, dlen] at hll
      have hkl : k < s.data.toList.length := by rw [dlen]; exact hlt
      have Hsn : Hid (linesOf (s.data.toList.take (k + 1)) = linesOf (s.data.toList.take k) ++ if s[k].toNat = 10 then [k + 1] else []) := by
        show _ = _
        rw [List.take_succ_eq_append_getElem hkl, linesOf_snoc, List.length_take, Nat.min_eq_left (by omega)]
        rfl
      generalize linesOf (s.data.toList.take k) = ls at *
      have hlen : ls.length ≤ 16777217 := by omega
      clear hll
      by_cases hc : s[k].toNat = 10
      · have hc' : ((s[k].toNat : Int) == 10) = true := by simp [hc]
        have Hsn2 : Hid (linesOf (s.data.toList.take (k + 1)) = ls ++ [k + 1]) := by show _ = _; rw [Hsn.out, if_pos hc]
        clear Hsn hc
        go_wp2
        go_round
        case rel => exact ⟨k + 1, by omega, by go_num, by rw [Hsn2.out, List.length_append]; go_num⟩
        case measure => simp [intOf]; omega
      · have hc' : ((s[k].toNat : Int) == 10) = false := by simp; omega
        have Hsn2 : Hid (linesOf (s.data.toList.take (k + 1)) = ls) := by show _ = _; rw [Hsn.out, if_neg hc, List.append_nil]
        clear Hsn hc
        go_wp2
        go_round
        case rel => exact ⟨k + 1, by omega, by go_num, by rw [Hsn2.out]⟩
        case measure => simp [intOf]; omega
    · obtain rfl : k = s.size := by omega
      have e1 : s.data.toList.take s.size = s.data.toList := List.take_of_length_le (by rw [dlen]; exact Nat.le_refl _)
      rw [e1]
      go_wp2
      go_ret
      exact ⟨rfl, rfl⟩
end Go.Proofs.YtffcfnnbdmihaaaDoor
