/-
  WALKS of the document's tokens (package amanuensisref2): has, hexa, Letter, Words, Word.
-/
import Derived.Test.YtgpjcjnimheglaaGreatDoorTxt
import Derived.Test.YtgpjcjnimheglaaGreatDoorLG
import Derived.Deep.DeepCutAuto
namespace Go.Proofs.YtgpjcjnimheglaaGreatDoor
open Go.RowKit

theorem pre_two (s : Bs) (i : Nat) (h : i + 1 < s.length) (a b : UInt8) : [a, b].isPrefixOf (s.drop i) = (decide (s[i] = a) && decide (s[i + 1] = b)) := by
  rw [List.drop_eq_getElem_cons (by omega), List.drop_eq_getElem_cons (by omega), Bool.eq_iff_iff]
  simp [List.isPrefixOf]
  constructor
  · rintro ⟨h1, h2⟩; exact ⟨h1.symm, h2.symm⟩
  · rintro ⟨h1, h2⟩; exact ⟨h1.symm, h2.symm⟩
theorem pre_short (l : Bs) (h : l.length ≤ 1) (a b : UInt8) : [a, b].isPrefixOf l = false := by
  rcases l with _ | ⟨x, _ | ⟨y, t⟩⟩
  · rfl
  · simp [List.isPrefixOf]
  · simp at h

set_option maxHeartbeats 1000000 in
set_option maxRecDepth 100000 in
theorem has_walk (s : Bs) (i : Nat) (a b : UInt8) (w : World) (hl : s.length ≤ 100000000) (hi : i ≤ s.length) :
    Calls Tryz.prog 66 #[.string ⟨s.toArray⟩, .int .i64 i, .int .u8 a.toNat, .int .u8 b.toNat] w fun e w' => e = .returned (.bool ([a, b].isPrefixOf (s.drop i))) ∧ w' = w := by
  by_cases h : i + 1 < s.length
  · have h0 : i < s.length := by omega
    rw [pre_two s i h a b]
    have ea := bk_eq s i h0 a
    have eb := bk_eq s (i + 1) h b
    generalize decide (s[i] = a) = qa at *
    generalize decide (s[i + 1] = b) = qb at *
    generalize ((a.toNat : Nat) : Int) = x at *
    generalize ((b.toNat : Nat) : Int) = y at *
    have i0 : (0 : Int) ≤ (i : Int) := by omega
    have i1 : (i : Int) + 1 < (s.length : Int) := by omega
    have i2 : (i : Int) < (s.length : Int) := by omega
    cases qa with
    | false =>
      go_enter Tryz.func66, Tryz.ntmps66
      go_wp2_with fail
      go_ret
      exact ⟨rfl, rfl⟩
    | true =>
      cases qb with
      | false =>
        go_enter Tryz.func66, Tryz.ntmps66
        go_wp2_with fail
        go_ret
        exact ⟨rfl, rfl⟩
      | true =>
        go_enter Tryz.func66, Tryz.ntmps66
        go_wp2_with fail
        go_ret
        exact ⟨rfl, rfl⟩
  · rw [pre_short (s.drop i) (by rw [List.length_drop]; omega) a b]
    have i1 : ¬ (i : Int) + 1 < (s.length : Int) := by omega
    clear h
    generalize ((a.toNat : Nat) : Int) = x at *
    generalize ((b.toNat : Nat) : Int) = y at *
    go_enter Tryz.func66, Tryz.ntmps66
    go_wp2_with fail
    go_ret
    exact ⟨rfl, rfl⟩

def hexI (b : UInt8) : Int := match Lx.hexV b with
  | some d => (d : Int)
  | none => -1
theorem hexI_ways (b : UInt8) (n : Nat) (hn : b.toNat = n) : (48 ≤ n ∧ n ≤ 57 ∧ hexI b = (n : Int) - 48) ∨ (97 ≤ n ∧ n ≤ 102 ∧ hexI b = (n : Int) - 87) ∨ (65 ≤ n ∧ n ≤ 70 ∧ hexI b = (n : Int) - 55) ∨ (n < 48 ∧ hexI b = -1) ∨ (57 < n ∧ n < 65 ∧ hexI b = -1) ∨ (70 < n ∧ n < 97 ∧ hexI b = -1) ∨ (102 < n ∧ hexI b = -1) := by
  unfold hexI Lx.hexV
  rw [hn]
  by_cases h1 : 48 ≤ n ∧ n ≤ 57
  · rw [if_pos h1]; simp only; omega
  · rw [if_neg h1]
    by_cases h2 : 97 ≤ n ∧ n ≤ 102
    · rw [if_pos h2]; simp only; omega
    · rw [if_neg h2]
      by_cases h3 : 65 ≤ n ∧ n ≤ 70
      · rw [if_pos h3]; simp only; omega
      · rw [if_neg h3]
        have hw : n < 48 ∨ (57 < n ∧ n < 65) ∨ (70 < n ∧ n < 97) ∨ 102 < n := by omega
        rcases hw with h | ⟨h, h'⟩ | ⟨h, h'⟩ | h
        · exact .inr (.inr (.inr (.inl ⟨h, rfl⟩)))
        · exact .inr (.inr (.inr (.inr (.inl ⟨h, h', rfl⟩))))
        · exact .inr (.inr (.inr (.inr (.inr (.inl ⟨h, h', rfl⟩)))))
        · exact .inr (.inr (.inr (.inr (.inr (.inr ⟨h, rfl⟩)))))

set_option maxHeartbeats 1000000 in
set_option maxRecDepth 100000 in
theorem hexa_walk (b : UInt8) (w : World) : Calls Tryz.prog 136 #[.int .u8 b.toNat] w fun e w' => e = .returned (.int .i64 (hexI b)) ∧ w' = w := by
  have hlt := b.toNat_lt
  have hw := hexI_ways b b.toNat rfl
  generalize hexI b = H at *
  generalize b.toNat = n at *
  rcases hw with ⟨h1, h2, rfl⟩ | ⟨h1, h2, rfl⟩ | ⟨h1, h2, rfl⟩ | ⟨h1, rfl⟩ | ⟨h1, h2, rfl⟩ | ⟨h1, h2, rfl⟩ | ⟨h1, rfl⟩
  all_goals
    first | have a48 : (48 : Int) ≤ (n : Int) := by omega | have a48 : ¬ (48 : Int) ≤ (n : Int) := by omega | skip
    first | have a57 : (n : Int) ≤ 57 := by omega | have a57 : ¬ (n : Int) ≤ 57 := by omega | skip
    first | have a97 : (97 : Int) ≤ (n : Int) := by omega | have a97 : ¬ (97 : Int) ≤ (n : Int) := by omega | skip
    first | have a102 : (n : Int) ≤ 102 := by omega | have a102 : ¬ (n : Int) ≤ 102 := by omega | skip
    first | have a65 : (65 : Int) ≤ (n : Int) := by omega | have a65 : ¬ (65 : Int) ≤ (n : Int) := by omega | skip
    first | have a70 : (n : Int) ≤ 70 := by omega | have a70 : ¬ (n : Int) ≤ 70 := by omega | skip
    go_enter Tryz.func136, Tryz.ntmps136
    go_wp2_with fail
    go_ret
    exact ⟨rfl, rfl⟩

set_option maxHeartbeats 2000000 in
set_option maxRecDepth 100000 in
theorem rletter_walk (c : Nat) (hc : c < 100000000) (w : World) : Calls Tryz.prog 65 #[.int .i64 c] w fun e w' => e = .returned (.bool (Lx.letterB c)) ∧ w' = w := by
  rcases letter_cases c with ⟨hr, h | h | h⟩ | ⟨hr, h⟩ | ⟨hr, h⟩ | ⟨hr, h⟩ | ⟨hr, h⟩ | ⟨hr, h⟩ | ⟨hr, h⟩ | ⟨hr, h⟩ | ⟨hr, h⟩ | ⟨hr, h⟩ | ⟨hr, h⟩
  all_goals
    rw [hr]
    clear hr
    first | have a97 : (97 : Int) ≤ (c : Int) := by omega | have a97 : ¬ (97 : Int) ≤ (c : Int) := by omega | skip
    first | have a122 : (c : Int) ≤ 122 := by omega | have a122 : ¬ (c : Int) ≤ 122 := by omega | skip
    first | have a65 : (65 : Int) ≤ (c : Int) := by omega | have a65 : ¬ (65 : Int) ≤ (c : Int) := by omega | skip
    first | have a90 : (c : Int) ≤ 90 := by omega | have a90 : ¬ (c : Int) ≤ 90 := by omega | skip
    first | have a192 : (192 : Int) ≤ (c : Int) := by omega | have a192 : ¬ (192 : Int) ≤ (c : Int) := by omega | skip
    first | have a591 : (c : Int) ≤ 591 := by omega | have a591 : ¬ (c : Int) ≤ 591 := by omega | skip
    first | have a880 : (880 : Int) ≤ (c : Int) := by omega | have a880 : ¬ (880 : Int) ≤ (c : Int) := by omega | skip
    first | have a1023 : (c : Int) ≤ 1023 := by omega | have a1023 : ¬ (c : Int) ≤ 1023 := by omega | skip
    first | have a1024 : (1024 : Int) ≤ (c : Int) := by omega | have a1024 : ¬ (1024 : Int) ≤ (c : Int) := by omega | skip
    first | have a1279 : (c : Int) ≤ 1279 := by omega | have a1279 : ¬ (c : Int) ≤ 1279 := by omega | skip
    first | have b95 : ((c : Int) == 95) = true := by simp; omega | have b95 : ((c : Int) == 95) = false := by simp; omega | skip
    first | have b215 : ((c : Int) != 215) = true := by simp; omega | have b215 : ((c : Int) != 215) = false := by simp; omega | skip
    first | have b247 : ((c : Int) != 247) = true := by simp; omega | have b247 : ((c : Int) != 247) = false := by simp; omega | skip
    clear h
    go_enter Tryz.func65, Tryz.ntmps65
    go_wp2_with fail
    go_ret
    exact ⟨rfl, rfl⟩

set_option maxRecDepth 100000 in
theorem words_walk (w : World) : Calls Tryz.prog 102 #[] w fun e w' => ∃ A : Option Addr, e = .returned (.slice A 12 12) ∧ Rd w' w'.heap.size 1 A Lx.words.length (txtV Lx.words) ∧ Below w.heap.size w w' := by
  have hb : Below w.heap.size w (w.alloc (.cells (txtV Lx.words).toArray 9)) := (Below.refl _ _).alloc (Nat.le_refl _) _
  have hB : Blk (w.alloc (.cells (txtV Lx.words).toArray 9)) w.heap.size 9 (txtV Lx.words).toArray := Blk.new _ _ _
  go_enter Tryz.func102, Tryz.ntmps102
  go_wp2_with fail
  go_ret
  refine ⟨_, rfl, ⟨by kernel_rfl, fun _ => ⟨_, _, rfl, by simp, fun j u hu => ?_⟩⟩, hb⟩
  have h := hB.cell j
  have h2 : (w.alloc (.cells (txtV Lx.words).toArray 9)).cell? ⟨w.heap.size, j, none⟩ = (txtV Lx.words)[j]? := by simp
  rw [Nat.zero_add]
  exact h2.trans hu

set_option maxHeartbeats 1000000 in
set_option maxRecDepth 100000 in
theorem rword_walk (x : Bs) (w : World) : Calls Tryz.prog 68 #[.string ⟨x.toArray⟩] w fun e w' => e = .returned (.bool (Lx.wordM x)) ∧ Below w.heap.size w w' := by
  have hW := words_walk w
  unfold Lx.wordM
  have hlen : Lx.words.length = 12 := rfl
  generalize Lx.words = l at *
  generalize hQ : l.contains x = Q
  have HQ := Lib.hid hQ
  clear hQ
  go_enter Tryz.func68, Tryz.ntmps68
  go_wp2_with fail
  refine hW.mono ?_
  clear hW
  rintro e w1 ⟨A, rfl, h1, hb⟩
  go_wp2_with fail
  go_loop [4] (fun i => ∃ k : Nat, k ≤ 12 ∧ i = .int .i64 k ∧ Hid (x ∉ l.take k)) (fun i => 12 - (intOf i).toNat)
  case atStart => exact ⟨0, Nat.zero_le _, rfl, by show _ ∉ _; simp⟩
  case round =>
    obtain ⟨k, hk, rfl, H⟩ := hrel
    by_cases hlt : k < 12
    · have hlt2 : k < l.length := by omega
      obtain ⟨b, o, rfl, hbB, c0⟩ := Rd.txt h1 hlt2
      have i1 : (0 : Int) ≤ (k : Int) := by omega
      have i2 : (k : Int) < 12 := by omega
      have Hst : Hid (x ≠ l[k] → x ∉ l.take (k + 1)) := fun h => by
        rw [List.take_succ_eq_append_getElem hlt2, List.mem_append, List.mem_singleton]
        rintro (h2 | h2)
        · exact H.out h2
        · exact h h2
      have Hin : Hid (x = l[k] → Q = true) := fun h => by rw [← HQ.out, h]; simp
      unfold strV at c0
      generalize l[k] = y at *
      clear hlt2
      by_cases hxy : x = y
      · have hc := Lib.hid (Hin.out hxy)
        subst hxy
        go_wp2_with fail
        go_ret
        exact ⟨by rw [hc.out]; rfl, hb⟩
      · have d1 : (y == x) = false := by simp; exact fun e => hxy e.symm
        have Hn := Lib.hid (Hst.out hxy)
        clear hxy
        go_wp2_with fail
        go_round
        case rel => exact ⟨k + 1, by omega, by go_num, Hn.out⟩
        case measure => simp [intOf]; omega
    · obtain rfl : k = 12 := by omega
      have hc : Hid (Q = false) := by
        show _ = _
        rw [← HQ.out]
        have := H.out
        rw [← hlen, List.take_length] at this
        simpa using this
      go_wp2_with fail
      go_ret
      exact ⟨by rw [hc.out]; rfl, hb⟩
end Go.Proofs.YtgpjcjnimheglaaGreatDoor
