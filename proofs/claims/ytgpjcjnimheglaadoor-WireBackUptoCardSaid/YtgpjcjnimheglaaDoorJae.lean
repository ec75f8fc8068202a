/-
  JOINED of the texts LS LF LB ND NE
-/
import Derived.Test.YtgpjcjnimheglaaDoorJaa
import Derived.Lib.IndexMore
import Derived.Lib.IndexLaws
import Derived.Lib.Strings
import Derived.Lib.SlTrimSet
import Derived.Lib.RuneBytes
import Derived.Test.YtgpjcjnimheglaaDoorJad
import Derived.Lib.ConvBytes
import Derived.Laws.Strings3
import Derived.Laws.Closers25
import Derived.Laws.Closers25b
import Derived.BigCall
import Derived.BigGuard
import Derived.Test.YtgpjcjnimheglaaDoorShelfX
import Derived.Shelf.Spec.BytesIndexFunc
import Derived.Deep.RegionHeld3
import Derived.Deep.DeepCutAuto
import Derived.Test.YtgpjcjnimheglaaDoorRows
import Derived.WalkKit
import Derived.WalkSpells
import Derived.WalkLawsBesides
import Derived.Below
import Derived.Laws.OwnMore
import Derived.Deep.AppendLies
import Derived.Deep.Draws
import Derived.Lib.Hide
import Derived.Deep.QuietTactic
import Derived.BigQuiet
import Derived.IntWalk
import Derived.Test.YtgpjcjnimheglaaDoorShelfW
import Derived.Shelf.Strings.SlTrimAscii
import Derived.Lib.LaidTab
import Derived.Lib.AtoiAll
import Derived.Lib.ItoaNum
import Derived.Lib.Atoi
import Derived.Test.YtgpjcjnimheglaaDoorJac
import Derived.Deep.CutBlock
import Derived.Deep.LoopGhost
/-
  THE PLAIN LAW of tokens, the program's way: cutting at a byte, digits of sixteen, signs, words.
-/
namespace Go.Proofs.YtgpjcjnimheglaaDoor.Lx
open Go.Lib

theorem occ1 (c : UInt8) (s : List UInt8) (i : Nat) : occAt s [c] i = true ↔ s[i]? = some c := by
  unfold occAt
  have h0 : (s.drop i)[0]? = s[i]? := by rw [List.getElem?_drop]; rfl
  rcases h : s.drop i with _ | ⟨a, t⟩
  · rw [h] at h0; simp only [List.getElem?_nil] at h0; rw [← h0]; simp [List.isPrefixOf]
  · rw [h] at h0
    simp only [List.getElem?_cons_zero] at h0
    rw [← h0]
    simp [List.isPrefixOf]
    exact ⟨fun h => h.symm, fun h => h.symm⟩
theorem tw_before (c : UInt8) : ∀ (l : List UInt8) (k : Nat), k < (l.takeWhile (· != c)).length → ∃ b, l[k]? = some b ∧ b ≠ c
  | [], k, h => by simp at h
  | a :: t, k, h => by
    by_cases ha : a = c
    · subst ha; simp at h
    · have h1 : (a != c) = true := by simp [ha]
      rw [List.takeWhile_cons, if_pos h1, List.length_cons] at h
      cases k with
      | zero => exact ⟨a, rfl, ha⟩
      | succ k =>
        obtain ⟨b, hb, hn⟩ := tw_before c t k (by omega)
        exact ⟨b, by simpa using hb, hn⟩
theorem tw_at (c : UInt8) : ∀ (l : List UInt8), c ∈ l → l[(l.takeWhile (· != c)).length]? = some c
  | [], h => by simp at h
  | a :: t, h => by
    by_cases ha : a = c
    · subst ha; simp
    · have h1 : (a != c) = true := by simp [ha]
      rw [List.takeWhile_cons, if_pos h1, List.length_cons]
      have := tw_at c t ((List.mem_cons.1 h).resolve_left fun e => ha e.symm)
      simpa using this
theorem tw_take (c : UInt8) (l : List UInt8) : l.take (l.takeWhile (· != c)).length = l.takeWhile (· != c) := by
  conv => lhs; rw [← List.takeWhile_append_dropWhile (p := (· != c)) (l := l)]
  rw [List.take_append_of_le_length (by simp), List.take_of_length_le (by simp)]
theorem tw_all (c : UInt8) : ∀ (l : List UInt8), c ∉ l → l.takeWhile (· != c) = l
  | [], _ => rfl
  | a :: t, h => by
    rw [List.mem_cons, not_or] at h
    have h1 : (a != c) = true := by simp; exact fun e => h.1 e.symm
    rw [List.takeWhile_cons, if_pos h1, tw_all c t h.2]
/-- cut at a byte -/
theorem cut_byte (c : UInt8) (l : List UInt8) : (cut l [c]).1 = l.takeWhile (· != c) ∧ (cut l [c]).2.2 = decide (c ∈ l) := by
  by_cases h : c ∈ l
  · have hlen : (l.takeWhile (· != c)).length ≤ l.length := (List.takeWhile_sublist _).length_le
    have hi : index l [c] = ((l.takeWhile (· != c)).length : Nat) := index_first hlen ((occ1 c _ _).2 (tw_at c l h)) fun j hj => by
      cases ho : occAt l [c] j with
      | false => rfl
      | true =>
        obtain ⟨b, hb, hn⟩ := tw_before c l j hj
        rw [(occ1 c _ _).1 ho] at hb
        injection hb with hb
        exact absurd hb.symm hn
    unfold cut
    rw [hi, if_pos (by omega), decide_eq_true h]
    exact ⟨tw_take c l, rfl⟩
  · have hi : index l [c] = -1 := index_none fun j _ => by
      cases ho : occAt l [c] j with
      | false => rfl
      | true => exact absurd (List.mem_of_getElem? ((occ1 c _ _).1 ho)) h
    have hw : l.takeWhile (· != c) = l := tw_all c l h
    unfold cut
    rw [hi, hw, decide_eq_false h]
    exact ⟨rfl, rfl⟩

def hexs : List UInt8 := [48, 49, 50, 51, 52, 53, 54, 55, 56, 57, 97, 98, 99, 100, 101, 102, 65, 66, 67, 68, 69, 70]
theorem hexs_fin : ∀ i : Fin 256, hexs.contains (UInt8.ofNat i.val) = (hexV (UInt8.ofNat i.val)).isSome := by decide +kernel
theorem hexs_iff (b : UInt8) : hexs.contains b = (hexV b).isSome := by
  have := hexs_fin ⟨b.toNat, b.toNat_lt⟩
  simpa using this
theorem drop_nil (l cs : List UInt8) (h : l.dropWhile (cs.contains ·) = []) : ∀ b ∈ l, cs.contains b = true := by
  induction l with
  | nil => intro b hb; simp at hb
  | cons a t ih =>
    rw [List.dropWhile_cons] at h
    split at h
    · rename_i ha
      intro b hb
      rcases List.mem_cons.1 hb with rfl | hb
      · exact ha
      · exact ih h b hb
    · cases h
theorem drop_head (l cs : List UInt8) : ∀ a t, l.dropWhile (cs.contains ·) = a :: t → cs.contains a = false := by
  induction l with
  | nil => intro a t h; simp at h
  | cons x l ih =>
    intro a t h
    rw [List.dropWhile_cons] at h
    split at h
    · exact ih a t h
    · rename_i hx
      injection h with h1 _
      subst h1
      simpa using hx
theorem trim_nil (l cs : List UInt8) (h : trimS l cs = []) : ∀ b ∈ l, cs.contains b = true := by
  unfold trimS trimLeftS at h
  have h1 := drop_nil _ _ h
  unfold trimRightS at h1
  cases hd : l.reverse.dropWhile (cs.contains ·) with
  | nil =>
    intro b hb
    exact drop_nil _ _ hd b (List.mem_reverse.2 hb)
  | cons a t =>
    have h2 := drop_head _ _ a t hd
    rw [hd] at h1
    have h3 := h1 a (List.mem_reverse.2 (by simp))
    rw [h2] at h3; cases h3
theorem trim_all (l cs : List UInt8) (h : ∀ b ∈ l, cs.contains b = true) : trimS l cs = [] := by
  have h1 : trimRightS l cs = l.take 0 := trimRightS_take _ _ 0 (Nat.zero_le _) (fun j b _ hb => h b (List.mem_of_getElem? hb)) (fun b h => by omega)
  unfold trimS
  rw [h1]; rfl
theorem hexN_of_all : ∀ (l : List UInt8) (a : Nat), (∀ b ∈ l, ∃ d, hexV b = some d) → ∃ n, hexN a l = some n
  | [], a, _ => ⟨a, rfl⟩
  | b :: t, a, h => by
    obtain ⟨d, hd⟩ := h b (by simp)
    obtain ⟨n, hn⟩ := hexN_of_all t (a * 16 + d) fun x hx => h x (by simp [hx])
    exact ⟨n, by simp only [hexN, hd]; exact hn⟩
theorem hexN_lt : ∀ (t : List UInt8) (a m : Nat), hexN a t = some m → m < (a + 1) * 16 ^ t.length := by
  intro t
  induction t with
  | nil => intro a m h; simp only [hexN] at h; injection h with h; subst h; simp
  | cons b t ih =>
    intro a m h
    simp only [hexN] at h
    cases hb : hexV b with
    | none => rw [hb] at h; simp at h
    | some x =>
      rw [hb] at h
      have h3 := ih _ _ h
      have h4 := (hex_no b x hb).2.2.2.2
      have h5 : (a * 16 + x + 1) * 16 ^ t.length ≤ (a + 1) * 16 * 16 ^ t.length := Nat.mul_le_mul_right _ (by omega)
      rw [List.length_cons, Nat.pow_succ, Nat.mul_comm (16 ^ t.length) 16, ← Nat.mul_assoc]
      omega
theorem hex_way (D : List UInt8) : (trimS D hexs = [] ∧ (∀ b ∈ D, ∃ d, hexV b = some d) ∧ ∃ n, hexN 0 D = some n) ∨ (trimS D hexs ≠ [] ∧ hexN 0 D = none) := by
  by_cases h : trimS D hexs = []
  · have h1 : ∀ b ∈ D, ∃ d, hexV b = some d := fun b hb => by
      have := trim_nil D hexs h b hb
      rw [hexs_iff] at this
      exact Option.isSome_iff_exists.1 this
    exact .inl ⟨h, h1, hexN_of_all D 0 h1⟩
  · refine .inr ⟨h, ?_⟩
    cases hn : hexN 0 D with
    | none => rfl
    | some n =>
      exfalso
      apply h
      refine trim_all D hexs fun b hb => ?_
      obtain ⟨d, hd⟩ := hexN_all D 0 n hn b hb
      rw [hexs_iff, hd]; rfl

/-- the first line -/
theorem line_cut (l : List UInt8) : (cut l [10]).1.length = (l.takeWhile (· != 10)).length := by rw [(cut_byte 10 l).1]
theorem ix_sign (b : UInt8) : (decide (0 ≤ indexByte signs b)) = signs.contains b := by
  have h : ∀ i : Fin 256, (decide (0 ≤ indexByte signs (UInt8.ofNat i.val))) = signs.contains (UInt8.ofNat i.val) := by decide +kernel
  have := h ⟨b.toNat, b.toNat_lt⟩
  simpa using this
end Go.Proofs.YtgpjcjnimheglaaDoor.Lx
/-
  WALKS of package lex: code, escape.
-/
namespace Go.Proofs.YtgpjcjnimheglaaDoor
open Go.RowKit

set_option maxHeartbeats 2000000 in
set_option maxRecDepth 100000 in
theorem hexint0_walk (l : Bs) (w : World) (h1 : 1 ≤ l.length) (h6 : l.length ≤ 6) (hall : ∀ b ∈ l, ∃ d, Lx.hexV b = some d) (n : Nat) (hn : Lx.hexN 0 l = some n) (hlt : (n : Int) < 16777216) :
    Calls Tryd.prog 56 #[.string ⟨l.toArray⟩, .int .i64 16, .int .i64 32] w fun e w' => e = .returned (.tuple #[.int .i64 n, .nilIface]) ∧ Below w.heap.size w w' := by
  have hU := hexuint_walk l w h1 h6 hall n hn
  have hne : (l == []) = false := by cases l <;> simp at h1 ⊢
  have h0 : 0 < l.length := by omega
  obtain ⟨d, hd⟩ := hall l[0] (List.getElem_mem h0)
  have hw := hex_ways l[0] d hd
  have f1 : ((((⟨l.toArray⟩ : ByteArray)[0]'(by rw [mk_size]; exact h0)).toNat : Int) == 43) = false := by
    rw [show ((⟨l.toArray⟩ : ByteArray)[0]'(by rw [mk_size]; exact h0)).toNat = l[0].toNat from rfl]
    simp; rcases hw with h | ⟨v, _, _, _, _, h, _⟩ <;> omega
  have f2 : ((((⟨l.toArray⟩ : ByteArray)[0]'(by rw [mk_size]; exact h0)).toNat : Int) == 45) = false := by
    rw [show ((⟨l.toArray⟩ : ByteArray)[0]'(by rw [mk_size]; exact h0)).toNat = l[0].toNat from rfl]
    simp; rcases hw with h | ⟨v, _, _, _, _, h, _⟩ <;> omega
  have hcv : IntKind.u64.wrap 2147483648 = 2147483648 := by rw [IntKind.wrap_u64]; decide
  obtain ⟨a, ha⟩ : ∃ a : Int, a = (n : Int) := ⟨_, rfl⟩
  have a0 : 0 ≤ a := by omega
  have a1 : a < 16777216 := by omega
  rw [← ha] at hU ⊢
  clear hw hd hall hn hlt ha
  go_enter Tryd.func56, Tryd.ntmps56
  go_wp2_with fail
  refine hU.mono ?_
  clear hU
  rintro e w' ⟨rfl, hb⟩
  go_wp2_with fail
  go_ret2
  exact ⟨rfl, hb⟩

def codeV : Option (Nat × Nat) → Value
  | some (c, n) => .tuple #[.int .i32 c, .int .i64 n]
  | none => .tuple #[.int .i32 0, .int .i64 0]
theorem htrim_walk (s : Bs) (w : World) (hs : s.length ≤ 100000000) : Calls Tryd.prog 54 #[.string ⟨s.toArray⟩, .string ⟨#[48, 49, 50, 51, 52, 53, 54, 55, 56, 57, 97, 98, 99, 100, 101, 102, 65, 66, 67, 68, 69, 70]⟩] w fun e w' => e = .returned (.string ⟨(Lib.trimS s Lx.hexs).toArray⟩) ∧ Below w.heap.size w w' :=
  Any.strings_Trim_laid Tryd.lays160 (by kernel_rfl) ⟨s.toArray⟩ ⟨#[48, 49, 50, 51, 52, 53, 54, 55, 56, 57, 97, 98, 99, 100, 101, 102, 65, 66, 67, 68, 69, 70]⟩ w (by rw [mk_size]; omega) (by decide) (ascii_of_all (by decide))
theorem pre_walk (s p : Bs) (w : World) : Calls Tryd.prog 37 #[.string ⟨s.toArray⟩, .string ⟨p.toArray⟩] w fun e w' => e = .returned (.bool (p.isPrefixOf s)) ∧ w' = w :=
  Tryd.strings_HasPrefix ⟨s.toArray⟩ ⟨p.toArray⟩ w

theorem six_lt (D : Bs) (n : Nat) (h : Lx.hexN 0 D = some n) (h6 : D.length ≤ 6) : (n : Int) < 16777216 := by
  have hn := Lx.hexN_lt D 0 n h
  have h5 : 16 ^ D.length ≤ 16 ^ 6 := Nat.pow_le_pow_right (by omega) h6
  have h7 : (16 : Nat) ^ 6 = 16777216 := by decide
  rw [h7] at h5
  omega

end Go.Proofs.YtgpjcjnimheglaaDoor
/-
  WALKS of package lex: run, by any property that a closure tells.
-/
namespace Go.Proofs.YtgpjcjnimheglaaDoor
open Go.RowKit

/-- Go's own tables of characters are in place -/
def T8 (w : World) : Prop := Lib.Utf8Tabs 6 7 w
theorem T8.below {w w' : World} (h : T8 w) (hb : Below w.heap.size w w') : T8 w' := by
  refine ⟨fun c hc => ?_, fun i hi => ?_⟩
  · have h1 := h.1 c hc
    exact (hb.cell (p := ⟨6, c, none⟩) (World.block_lt_of_cell? w ⟨6, c, none⟩ h1)).trans h1
  · obtain ⟨h1, h2⟩ := h.2 i hi
    exact ⟨(hb.cell (p := ⟨7, 2 * i, none⟩) (World.block_lt_of_cell? w ⟨7, 2 * i, none⟩ h1)).trans h1,
      (hb.cell (p := ⟨7, 2 * i + 1, none⟩) (World.block_lt_of_cell? w ⟨7, 2 * i + 1, none⟩ h2)).trans h2⟩

theorem dec_walk (l : Bs) (hl : l ≠ []) (w : World) (hT : T8 w) :
    Calls Tryd.prog 79 #[.string ⟨l.toArray⟩] w fun e w' => e = .returned (.tuple #[.int .i32 (dec l).1, .int .i64 (dec l).2]) ∧ Below w.heap.size w w' := by
  have h := Tryd.utf8_DecodeRuneInString ⟨l.toArray⟩ w hT
  have h0 : 0 < (⟨l.toArray⟩ : ByteArray).size := by rw [mk_size]; exact List.length_pos_iff.2 hl
  have h1 := decodeGo_tail ⟨l.toArray⟩ 0 h0
  rw [ByteArray.extract_zero_size, decode_eq, List.drop_zero] at h1
  rw [h1] at h
  exact h
theorem ext_drop (s : Bs) (i : Nat) : Value.string ((⟨s.toArray⟩ : ByteArray).extract i s.length) = .string ⟨(s.drop i).toArray⟩ := by
  have := ext_str s i s.length
  rw [List.take_length] at this
  exact this

end Go.Proofs.YtgpjcjnimheglaaDoor
/-
  WALKS of package wire's reader: four.
-/
namespace Go.Proofs.YtgpjcjnimheglaaDoor
open Go.RowKit

namespace Jp
theorem hex4_take (l : List UInt8) (h : 4 ≤ l.length) : hex4 l = Lx.hexN 0 (l.take 4) := by
  match l, h with
  | [], h => simp at h
  | [_], h => simp at h
  | [_, _], h => simp at h
  | [_, _, _], h => simp at h
  | a :: b :: c :: d :: t, _ =>
    simp only [List.take_succ_cons, List.take_zero, hex4, Lx.hexN]
    cases Lx.hexV a with
    | none => rfl
    | some x =>
      cases Lx.hexV b with
      | none => rfl
      | some y =>
        cases Lx.hexV c with
        | none => rfl
        | some z =>
          cases Lx.hexV d with
          | none => rfl
          | some u => simp
theorem hex4_short (l : List UInt8) (h : l.length < 4) : hex4 l = none := by
  match l, h with
  | [], _ => rfl
  | [_], _ => rfl
  | [_, _], _ => rfl
  | [_, _, _], _ => rfl
  | _ :: _ :: _ :: _ :: _, h => simp at h; omega
theorem four_at (s : List UInt8) (a : Nat) (h : a + 4 ≤ s.length) : fourP s a = Lx.hexN 0 ((s.take (a + 4)).drop a) := by
  unfold fourP
  rw [hex4_take _ (by rw [List.length_drop]; omega), List.drop_take, Nat.add_sub_cancel_left]
theorem four_no (s : List UInt8) (a : Nat) (h : ¬ a + 4 ≤ s.length) : fourP s a = none := by
  unfold fourP
  exact hex4_short _ (by rw [List.length_drop]; omega)
theorem four_lt {s : List UInt8} {a n : Nat} (h : fourP s a = some n) : n < 65536 := by
  have hl := four_len h
  rw [four_at s a hl] at h
  have h1 := Lx.hexN_lt _ 0 n h
  rw [show ((s.take (a + 4)).drop a).length = 4 by rw [List.length_drop, List.length_take]; omega] at h1
  have h2 : (16 : Nat) ^ 4 = 65536 := by decide
  omega
end Jp

/-- the number of four digits, if they are -/
def fourV : Option Nat → Value
  | some n => .tuple #[.int .i32 n, .bool true]
  | none => .tuple #[.int .i32 0, .bool false]

set_option maxHeartbeats 1000000 in
set_option maxRecDepth 100000 in
theorem hexpub_walk (l : Bs) (w : World) (h1 : 1 ≤ l.length) (h6 : l.length ≤ 6) (hall : ∀ b ∈ l, ∃ d, Lx.hexV b = some d) (n : Nat) (hn : Lx.hexN 0 l = some n) :
    Calls Tryd.prog 55 #[.string ⟨l.toArray⟩, .int .i64 16, .int .i64 32] w fun e w' => e = .returned (.tuple #[.int .u64 n, .nilIface]) ∧ Below w.heap.size w w' := by
  have hU := hexuint_walk l w h1 h6 hall n hn
  clear hall hn
  go_enter Tryd.func55, Tryd.ntmps55
  go_wp2_with fail
  refine hU.mono ?_
  clear hU
  rintro e w' ⟨rfl, hb⟩
  go_wp2_with fail
  go_ret2
  exact ⟨rfl, hb⟩

set_option maxHeartbeats 2000000 in
set_option maxRecDepth 100000 in
theorem jfour_walk (g : Nat) (s : Bs) (i a : Nat) (w : World) (h : RdrAt w g s i) (ha : a ≤ 33554432) (_hl : s.length ≤ 16777216) :
    Calls Tryd.prog 46 #[.pointer (some ⟨g, 0, none⟩), .int .i64 a] w fun e w' => e = .returned (fourV (Jp.fourP s a)) ∧ Below w.heap.size w w' := by
  have c0 := h.c0
  have j0 : (0 : Int) ≤ (a : Int) := by omega
  by_cases hle : a + 4 ≤ s.length
  · have hF := Jp.four_at s a hle
    have hD4 : ((s.take (a + 4)).drop a).length = 4 := by rw [List.length_drop, List.length_take]; omega
    have hway := Lx.hex_way ((s.take (a + 4)).drop a)
    have htr := fun w => htrim_walk ((s.take (a + 4)).drop a) w (by omega)
    have hpu := fun w => hexpub_walk ((s.take (a + 4)).drop a) w (by omega) (by omega)
    have hx := ext_str s a (a + 4)
    unfold strV at hx
    have hFl : ∀ n, Jp.fourP s a = some n → n < 65536 := fun n hn => Jp.four_lt hn
    generalize (s.take (a + 4)).drop a = D at *
    generalize Jp.fourP s a = F at *
    have HF := Lib.hid hF
    have HFl := Lib.hid hFl
    clear hF hFl
    have d1 : decide ((s.length : Int) < (a : Int) + 4) = false := decide_eq_false (by omega)
    have d2 : decide (s.length < a + 4) = false := decide_eq_false (by omega)
    have j1 : (a : Int) + 4 ≤ (s.length : Int) := by omega
    rcases hway with ⟨k1, k2, n, k3⟩ | ⟨k1, k2⟩
    · have hn : n < 65536 := HFl.out n (by rw [HF.out, k3])
      have HV : Hid (F = some n) := by show _ = _; rw [HF.out, k3]
      have hpu2 := fun w => hpu w k2 n k3
      rw [k1] at htr
      clear k1 k2 k3 hpu
      go_enter Tryd.func46, Tryd.ntmps46
      go_wp2_with fail
      refine (htr _).mono ?_
      rintro e w1 ⟨rfl, hb1⟩
      have c0 := (h.below hb1).c0
      go_wp2_with fail
      refine (hpu2 _).mono ?_
      rintro e w2 ⟨rfl, hb2⟩
      go_wp2_with fail
      go_quiet (fail)
      go_wp2_with fail
      go_ret2
      rw [HV.out]
      exact ⟨rfl, below_drewN (hb1.trans (hb2.mono hb1.size)) _⟩
    · have HV : Hid (F = none) := by show _ = _; rw [HF.out, k2]
      generalize Lib.trimS D Lx.hexs = Y at *
      have hY : (Y == []) = false := by simpa using k1
      clear k2 hpu
      go_enter Tryd.func46, Tryd.ntmps46
      go_wp2_with fail
      refine (htr _).mono ?_
      rintro e w1 ⟨rfl, hb1⟩
      go_wp2_with fail
      go_ret2
      rw [HV.out]
      exact ⟨rfl, hb1⟩
  · rw [Jp.four_no s a hle]
    have d1 : decide ((s.length : Int) < (a : Int) + 4) = true := decide_eq_true (by omega)
    have d2 : decide (s.length < a + 4) = true := decide_eq_true (by omega)
    go_enter Tryd.func46, Tryd.ntmps46
    go_wp2_with fail
    go_ret2
    exact ⟨rfl, Below.refl _ _⟩

end Go.Proofs.YtgpjcjnimheglaaDoor
/-
  WALKS of package wire's reader: escape.
-/
namespace Go.Proofs.YtgpjcjnimheglaaDoor
open Go.RowKit

namespace Jp
def simT : List UInt8 := [34, 92, 47, 8, 12, 10, 13, 9]
theorem ix_sim (b : UInt8) : match simP b with
    | some v => ∃ k : Nat, k < 8 ∧ Lib.indexByte [34, 92, 47, 98, 102, 110, 114, 116] b = k ∧ (simT.take (k + 1)).drop k = [v]
    | none => Lib.indexByte [34, 92, 47, 98, 102, 110, 114, 116] b = -1 := by
  have h : ∀ i : Fin 256, (match simP (UInt8.ofNat i.val) with
    | some v => decide (0 ≤ Lib.indexByte [34, 92, 47, 98, 102, 110, 114, 116] (UInt8.ofNat i.val)) && decide (Lib.indexByte [34, 92, 47, 98, 102, 110, 114, 116] (UInt8.ofNat i.val) < 8) && decide ((simT.take ((Lib.indexByte [34, 92, 47, 98, 102, 110, 114, 116] (UInt8.ofNat i.val)).toNat + 1)).drop (Lib.indexByte [34, 92, 47, 98, 102, 110, 114, 116] (UInt8.ofNat i.val)).toNat = [v])
    | none => decide (Lib.indexByte [34, 92, 47, 98, 102, 110, 114, 116] (UInt8.ofNat i.val) = -1)) = true := by decide +kernel
  have h1 := h ⟨b.toNat, b.toNat_lt⟩
  simp only [UInt8.ofNat_toNat] at h1
  generalize Lib.indexByte [34, 92, 47, 98, 102, 110, 114, 116] b = r at *
  cases hs : simP b with
  | none => rw [hs] at h1; exact of_decide_eq_true h1
  | some v =>
    rw [hs] at h1
    simp only [Bool.and_eq_true, decide_eq_true_eq] at h1
    obtain ⟨⟨h2, h3⟩, h4⟩ := h1
    exact ⟨r.toNat, by omega, by omega, h4⟩
end Jp

section
variable (g : Nat) (s : Bs) (i : Nat) (w : World)

set_option maxHeartbeats 2000000 in
set_option maxRecDepth 100000 in
theorem jesc_end (h : RdrAt w g s i) (hi : i + 1 = s.length) (hl : s.length ≤ 16777216) (R : Jp.Rs Bs) (hR : R = .bad i 3) :
    Calls Tryd.prog 39 #[.pointer (some ⟨g, 0, none⟩)] w (RsP g s w (fun b : Bs => .string ⟨b.toArray⟩) R) := by
  have c0 := h.c0
  have c1 := h.c1
  have HR := Lib.hid hR
  have d1 : ((i : Int) + 1 == (s.length : Int)) = true := by simp; omega
  have j1 : (i : Int) ≤ 16777216 := by omega
  clear hR hi
  go_enter Tryd.func39, Tryd.ntmps39
  go_wp2_with fail
  refine (fail_walk i 3 _).mono ?_
  rintro e w3 ⟨rfl, rfl⟩
  go_wp2_with fail
  exact ⟨rfl, RsP.bad HR.out (AftR.refl _ _)⟩

theorem esc_ix (hi : i + 1 < s.length) (w : World) : Calls Tryd.prog 30 #[.string ⟨#[34, 92, 47, 98, 102, 110, 114, 116]⟩, .int .u8 (((⟨s.toArray⟩ : ByteArray)[i + 1]'(by rw [mk_size]; exact hi)).toNat : Int)] w fun e w' => e = .returned (.int .i64 (Lib.indexByte [34, 92, 47, 98, 102, 110, 114, 116] s[i + 1])) ∧ w' = w := by
  have h1 := Tryd.strings_IndexByte ⟨#[34, 92, 47, 98, 102, 110, 114, 116]⟩ (s[i + 1].toNat : Int) w
  rw [u8_of] at h1
  exact h1

set_option maxHeartbeats 2000000 in
set_option maxRecDepth 100000 in
theorem jesc_sim (h : RdrAt w g s i) (hi : i + 1 < s.length) (hl : s.length ≤ 16777216) (v : UInt8) (hv : Jp.simP s[i + 1] = some v) (R : Jp.Rs Bs) (hR : R = .ok [v] (i + 2)) :
    Calls Tryd.prog 39 #[.pointer (some ⟨g, 0, none⟩)] w (RsP g s w (fun b : Bs => .string ⟨b.toArray⟩) R) := by
  have c0 := h.c0
  have c1 := h.c1
  have f1 := h.f1
  have HR := Lib.hid hR
  have hix := esc_ix s i hi
  have hsim := Jp.ix_sim s[i + 1]
  rw [hv] at hsim
  obtain ⟨k, hk8, hk, hkv⟩ := hsim
  rw [hk] at hix
  have hx := ext_str Jp.simT k (k + 1)
  rw [hkv] at hx
  have hx : Value.string ((⟨#[34, 92, 47, 8, 12, 10, 13, 9]⟩ : ByteArray).extract k (k + 1)) = .string ⟨#[v]⟩ := hx
  have d1 : ((i : Int) + 1 == (s.length : Int)) = false := by simp; omega
  have j1 : (0 : Int) ≤ (k : Int) := by omega
  have j2 : (k : Int) ≤ 8 := by omega
  have j3 : (k : Int) + 1 ≤ 8 := by omega
  have j4 : (0 : Int) ≤ (i : Int) + 1 := by omega
  have j5 : (i : Int) + 1 < (s.length : Int) := by omega
  have h2 := h.move (i + 2)
  have ha2 := (AftR.refl g w).set 1 (.int .i64 ((i + 2 : Nat) : Int))
  clear hR hv hk hkv
  go_enter Tryd.func39, Tryd.ntmps39
  go_wp2_with fail
  refine (hix _).mono ?_
  clear hix
  rintro e w3 ⟨rfl, rfl⟩
  go_wp2_with fail
  go_ret
  first
    | exact RsP.ok (val := fun b : Bs => Value.string ⟨b.toArray⟩) HR.out ha2 h2
    | (rw [hx]; exact RsP.ok (val := fun b : Bs => Value.string ⟨b.toArray⟩) HR.out ha2 h2)

set_option maxRecDepth 100000 in
theorem enc_str (c : Nat) : Value.string (Utf8.encode c) = .string ⟨(Lx.enc c).toArray⟩ := by
  unfold Lx.enc; rw [Lib.mk_data]

set_option maxHeartbeats 4000000 in
set_option maxRecDepth 100000 in
/-- what is no sign alone -/
theorem jesc_bad (h : RdrAt w g s i) (hi : i + 1 < s.length) (hl : s.length ≤ 16777216) (hv : Jp.simP s[i + 1] = none) (R : Jp.Rs Bs) (hR : R = .bad i 3)
    (hw : s[i + 1] ≠ 117 ∨ Jp.fourP s (i + 2) = none ∨ ∃ n, Jp.fourP s (i + 2) = some n ∧ 56320 ≤ n ∧ n ≤ 57343) :
    Calls Tryd.prog 39 #[.pointer (some ⟨g, 0, none⟩)] w (RsP g s w (fun b : Bs => .string ⟨b.toArray⟩) R) := by
  have c0 := h.c0
  have c1 := h.c1
  have hgl := h.lt
  have HR := Lib.hid hR
  have hix := esc_ix s i hi
  have hsim := Jp.ix_sim s[i + 1]
  rw [hv] at hsim
  rw [show Lib.indexByte [34, 92, 47, 98, 102, 110, 114, 116] s[i + 1] = -1 from hsim] at hix
  have hfo := jfour_walk g s i (i + 2) w h (by omega) hl
  have hbk : ((((⟨s.toArray⟩ : ByteArray)[i + 1]'(by rw [mk_size]; exact hi)).toNat : Int) == (117 : Int)) = decide (s[i + 1] = 117) := bk_eq s (i + 1) hi 117
  have d1 : ((i : Int) + 1 == (s.length : Int)) = false := by simp; omega
  have j4 : (0 : Int) ≤ (i : Int) + 1 := by omega
  have j5 : (i : Int) + 1 < (s.length : Int) := by omega
  have e2 : ((i + 2 : Nat) : Int) = (i : Int) + 2 := by omega
  rw [e2] at hfo
  clear hR hv hsim e2
  have hways : (decide (s[i + 1] = 117) = false) ∨ (decide (s[i + 1] = 117) = true ∧ Jp.fourP s (i + 2) = none) ∨ (decide (s[i + 1] = 117) = true ∧ ∃ n, Jp.fourP s (i + 2) = some n ∧ 56320 ≤ n ∧ n ≤ 57343) := by
    by_cases hc : s[i + 1] = 117
    · rcases hw with hw | hw | hw
      · exact absurd hc hw
      · exact .inr (.inl ⟨decide_eq_true hc, hw⟩)
      · exact .inr (.inr ⟨decide_eq_true hc, hw⟩)
    · exact .inl (decide_eq_false hc)
  clear hw
  generalize decide (s[i + 1] = 117) = q at *
  generalize Jp.fourP s (i + 2) = F at *
  rcases hways with rfl | ⟨rfl, rfl⟩ | ⟨rfl, n, rfl, n1, n2⟩
  · have hfv : ∃ a b, fourV F = .tuple #[.int .i32 a, .bool b] := by cases F <;> exact ⟨_, _, rfl⟩
    obtain ⟨a, b, hfv⟩ := hfv
    rw [hfv] at hfo
    clear hfv
    have hbn : ¬ (((⟨s.toArray⟩ : ByteArray)[i + 1]'(by rw [mk_size]; exact hi)).toNat : Int) = 117 := by simpa using hbk
    go_enter Tryd.func39, Tryd.ntmps39
    go_wp2_with fail
    refine (hix _).mono ?_
    clear hix
    rintro e w3 ⟨rfl, rfl⟩
    go_wp2_with fail
    refine hfo.mono ?_
    clear hfo
    rintro e w4 ⟨rfl, hb4⟩
    go_wp2_with fail
    refine (fail_walk i 3 _).mono ?_
    rintro e w3 ⟨rfl, rfl⟩
    go_wp2_with fail
    exact ⟨rfl, RsP.bad HR.out (AftR.of_below hb4 (Nat.le_of_lt hgl))⟩
  · unfold fourV at hfo
    have hbn : (((⟨s.toArray⟩ : ByteArray)[i + 1]'(by rw [mk_size]; exact hi)).toNat : Int) = 117 := by simpa using hbk
    simp only [hbn] at hix
    go_enter Tryd.func39, Tryd.ntmps39
    go_wp2_with fail
    refine (hix _).mono ?_
    clear hix
    rintro e w3 ⟨rfl, rfl⟩
    go_wp2_with fail
    refine hfo.mono ?_
    clear hfo
    rintro e w4 ⟨rfl, hb4⟩
    go_wp2_with fail
    refine (fail_walk i 3 _).mono ?_
    rintro e w3 ⟨rfl, rfl⟩
    go_wp2_with fail
    exact ⟨rfl, RsP.bad HR.out (AftR.of_below hb4 (Nat.le_of_lt hgl))⟩
  · unfold fourV at hfo
    have hbn : (((⟨s.toArray⟩ : ByteArray)[i + 1]'(by rw [mk_size]; exact hi)).toNat : Int) = 117 := by simpa using hbk
    simp only [hbn] at hix
    have d2 : decide ((56320 : Int) ≤ (n : Int)) = true := decide_eq_true (by omega)
    have d3 : decide ((n : Int) ≤ 57343) = true := decide_eq_true (by omega)
    clear n1 n2
    go_enter Tryd.func39, Tryd.ntmps39
    go_wp2_with fail
    refine (hix _).mono ?_
    clear hix
    rintro e w3 ⟨rfl, rfl⟩
    go_wp2_with fail
    refine hfo.mono ?_
    clear hfo
    rintro e w4 ⟨rfl, hb4⟩
    go_wp2_with fail
    refine (fail_walk i 3 _).mono ?_
    rintro e w3 ⟨rfl, rfl⟩
    go_wp2_with fail
    exact ⟨rfl, RsP.bad HR.out (AftR.of_below hb4 (Nat.le_of_lt hgl))⟩

set_option maxHeartbeats 4000000 in
set_option maxRecDepth 100000 in
/-- a character of one number -/
theorem jesc_one (h : RdrAt w g s i) (hi : i + 1 < s.length) (hl : s.length ≤ 16777216) (hv : Jp.simP s[i + 1] = none) (R : Jp.Rs Bs) (n : Nat) (hR : R = .ok (Lx.enc n) (i + 6))
    (hc : s[i + 1] = 117) (hF : Jp.fourP s (i + 2) = some n) (hn : n < 55296 ∨ 57343 < n) :
    Calls Tryd.prog 39 #[.pointer (some ⟨g, 0, none⟩)] w (RsP g s w (fun b : Bs => .string ⟨b.toArray⟩) R) := by
  have c0 := h.c0
  have c1 := h.c1
  have hgl := h.lt
  have HR := Lib.hid hR
  have hix := esc_ix s i hi
  have hsim := Jp.ix_sim s[i + 1]
  rw [hv] at hsim
  rw [show Lib.indexByte [34, 92, 47, 98, 102, 110, 114, 116] s[i + 1] = -1 from hsim] at hix
  have hfo := jfour_walk g s i (i + 2) w h (by omega) hl
  rw [hF] at hfo
  have hnl := Jp.four_lt hF
  have hbk : ((((⟨s.toArray⟩ : ByteArray)[i + 1]'(by rw [mk_size]; exact hi)).toNat : Int) == (117 : Int)) = decide (s[i + 1] = 117) := bk_eq s (i + 1) hi 117
  rw [decide_eq_true hc] at hbk
  have hbn : (((⟨s.toArray⟩ : ByteArray)[i + 1]'(by rw [mk_size]; exact hi)).toNat : Int) = 117 := by simpa using hbk
  simp only [hbn] at hix
  have d1 : ((i : Int) + 1 == (s.length : Int)) = false := by simp; omega
  have j4 : (0 : Int) ≤ (i : Int) + 1 := by omega
  have j5 : (i : Int) + 1 < (s.length : Int) := by omega
  have e2 : ((i + 2 : Nat) : Int) = (i : Int) + 2 := by omega
  rw [e2] at hfo
  have hst := enc_str n
  have Hst := Lib.hid hst
  have hnw : (decide ((56320 : Int) ≤ (n : Int)) = false ∧ decide ((n : Int) < 55296) = true) ∨ (decide ((56320 : Int) ≤ (n : Int)) = true ∧ decide ((n : Int) ≤ 57343) = false ∧ decide ((n : Int) < 55296) = false ∧ decide ((57343 : Int) < (n : Int)) = true) := by
    rcases hn with hn | hn
    · exact .inl ⟨decide_eq_false (by omega), decide_eq_true (by omega)⟩
    · exact .inr ⟨decide_eq_true (by omega), decide_eq_false (by omega), decide_eq_false (by omega), decide_eq_true (by omega)⟩
  clear hR hv hsim e2 hst hc hF hn hnl
  unfold fourV at hfo
  rcases hnw with ⟨d2, d3⟩ | ⟨d2, d3, d4, d5⟩
  all_goals
    go_enter Tryd.func39, Tryd.ntmps39
    go_wp2_with fail
    refine (hix _).mono ?_
    clear hix
    rintro e w3 ⟨rfl, rfl⟩
    go_wp2_with fail
    refine hfo.mono ?_
    clear hfo
    rintro e w4 ⟨rfl, hb4⟩
    have h4 := h.below hb4
    have ha4 := AftR.of_below hb4 (Nat.le_of_lt hgl)
    have c1 := h4.c1
    have f1 := h4.f1
    have h5 := h4.move (i + 6)
    have ha5 := ha4.set 1 (.int .i64 ((i + 6 : Nat) : Int))
    go_wp2_with fail
    go_ret
    have hfin := RsP.ok (val := fun b : Bs => Value.string ⟨b.toArray⟩) HR.out ha5 h5
    simp only [← Hst.out] at hfin
    exact hfin
end
end Go.Proofs.YtgpjcjnimheglaaDoor
