/-
  WALKS of package lex: sign, Word.
-/
import Derived.Test.YtgpjcjnimheglaaGreatDoorLH
namespace Go.Proofs.YtgpjcjnimheglaaGreatDoor
open Go.RowKit

def IdxP (r : Int) (l : List Bs) (x : Bs) : Prop := decide (0 ≤ r) = l.contains x
set_option maxHeartbeats 1000000 in
set_option maxRecDepth 100000 in
theorem index_walk (A : Option Addr) (c : Nat) (l : List Bs) (x : Bs) (w : World) (h1 : Rd w w.heap.size 1 A l.length (txtV l)) (hl : l.length ≤ 4194304) :
    Calls Tryz.prog 128 #[.slice A l.length c, .string ⟨x.toArray⟩] w fun e w' => ∃ r : Int, e = .returned (.int .i64 r) ∧ IdxP r l x ∧ w' = w := by
  go_enter Tryz.func128, Tryz.ntmps128
  go_wp2_with fail
  go_loop [8] (fun i => ∃ k : Nat, k ≤ l.length ∧ i = .int .i64 k ∧ Hid (x ∉ l.take k)) (fun i => l.length - (intOf i).toNat)
  case atStart => exact ⟨0, Nat.zero_le _, rfl, by show _ ∉ _; simp⟩
  case round =>
    obtain ⟨k, hk, rfl, H⟩ := hrel
    by_cases hlt : k < l.length
    · obtain ⟨b, o, rfl, hbB, c0⟩ := Rd.txt h1 hlt
      have i1 : (0 : Int) ≤ (k : Int) := by omega
      have i2 : (k : Int) < (l.length : Int) := by omega
      have Hst : Hid (x ≠ l[k] → x ∉ l.take (k + 1)) := fun h => by
        rw [List.take_succ_eq_append_getElem hlt, List.mem_append, List.mem_singleton]
        rintro (h2 | h2)
        · exact H.out h2
        · exact h h2
      have Hin : Hid (x = l[k] → l.contains x = true) := fun h => by rw [h]; simp
      unfold strV at c0
      generalize l[k] = y at *
      by_cases hxy : x = y
      · have hc := Lib.hid (Hin.out hxy)
        subst hxy
        go_wp2_with fail
        go_ret
        exact ⟨_, rfl, by unfold IdxP; rw [hc.out]; simp, rfl⟩
      · have d1 : (x == y) = false := by simp [hxy]
        have Hn := Lib.hid (Hst.out hxy)
        clear hxy
        go_wp2_with fail
        go_round
        case rel => exact ⟨k + 1, by omega, by go_num, Hn.out⟩
        case measure => simp [intOf]; omega
    · obtain rfl : k = l.length := by omega
      have hc : Hid (l.contains x = false) := by
        show _ = _
        have := H.out
        rw [List.take_length] at this
        simpa using this
      go_wp2_with fail
      go_ret
      exact ⟨_, rfl, by unfold IdxP; rw [hc.out]; rfl, rfl⟩

set_option maxRecDepth 100000 in
theorem contains_walk (A : Option Addr) (c : Nat) (l : List Bs) (x : Bs) (w : World) (h1 : Rd w w.heap.size 1 A l.length (txtV l)) (hl : l.length ≤ 4194304) :
    Calls Tryz.prog 89 #[.slice A l.length c, .string ⟨x.toArray⟩] w fun e w' => e = .returned (.bool (l.contains x)) ∧ w' = w := by
  have hI := index_walk A c l x w h1 hl
  go_enter Tryz.func89, Tryz.ntmps89
  go_wp2_with fail
  refine hI.mono ?_
  clear hI
  rintro e w' ⟨r, rfl, Hr, rfl⟩
  go_wp2_with fail
  go_ret
  exact ⟨by rw [← show decide (0 ≤ r) = l.contains x from Hr]; rfl, rfl⟩

/-- the words of the language lie in their variable -/
def WordsIs (w : World) : Prop := Rd w w.heap.size 1 (some ⟨1, 0, none⟩) Lx.words.length (txtV Lx.words)
theorem WordsIs.below {w w' : World} (h : WordsIs w) (hb : Below w.heap.size w w') : WordsIs w' := (Rd.below h hb).more hb.size

set_option maxRecDepth 100000 in
theorem word_walk (x : Bs) (w : World) (hW : WordsIs w) :
    Calls Tryz.prog 114 #[.string ⟨x.toArray⟩] w fun e w' => e = .returned (.bool (Lx.wordM x)) ∧ w' = w := by
  have hC : Calls Tryz.prog 89 #[.slice (some ⟨1, 0, none⟩) 12 12, .string ⟨x.toArray⟩] w fun e w' => e = .returned (.bool (Lx.wordM x)) ∧ w' = w := contains_walk (some ⟨1, 0, none⟩) 12 Lx.words x w hW (by decide)
  go_enter Tryz.func114, Tryz.ntmps114
  go_wp2_with fail
  refine hC.mono ?_
  rintro e w' ⟨rfl, rfl⟩
  go_wp2_with fail
  go_ret
  exact ⟨rfl, rfl⟩

set_option maxHeartbeats 1000000 in
set_option maxRecDepth 100000 in
theorem sign_walk (l : Bs) (w : World) (hne : l ≠ []) :
    Calls Tryz.prog 116 #[.string ⟨l.toArray⟩] w fun e w' => e = .returned (.int .i64 (Lx.signM l)) ∧ Below w.heap.size w w' := by
  have h0 : 0 < l.length := List.length_pos_iff.2 hne
  have p1 : ∀ w, Calls Tryz.prog 108 #[.string ⟨l.toArray⟩, .string ⟨#[61, 62]⟩] w fun e w' => e = .returned (.bool ([61, 62].isPrefixOf l)) ∧ w' = w := fun w => pre_walk l [61, 62] w
  have p2 : ∀ w, Calls Tryz.prog 108 #[.string ⟨l.toArray⟩, .string ⟨#[61, 61]⟩] w fun e w' => e = .returned (.bool ([61, 61].isPrefixOf l)) ∧ w' = w := fun w => pre_walk l [61, 61] w
  have p3 : ∀ w, Calls Tryz.prog 108 #[.string ⟨l.toArray⟩, .string ⟨#[43, 43]⟩] w fun e w' => e = .returned (.bool ([43, 43].isPrefixOf l)) ∧ w' = w := fun w => pre_walk l [43, 43] w
  have hI : ∀ w, Calls Tryz.prog 93 #[.string ⟨#[40, 41, 91, 93, 44, 59, 61, 60, 43, 45, 42, 46, 63]⟩, .int .u8 (((⟨l.toArray⟩ : ByteArray)[0]'(by rw [mk_size]; exact h0)).toNat : Int)] w fun e w' => ∃ r : Int, e = .returned (.int .i64 r) ∧ decide (0 ≤ r) = Lx.signs.contains l[0] ∧ w' = w := fun w =>
    (Tryz.strings_IndexByte ⟨#[40, 41, 91, 93, 44, 59, 61, 60, 43, 45, 42, 46, 63]⟩ (((⟨l.toArray⟩ : ByteArray)[0]'(by rw [mk_size]; exact h0)).toNat : Int) w).mono fun e w' h => ⟨_, h.1, by
      have h2 := Lx.ix_sign l[0]
      have e : ((((⟨l.toArray⟩ : ByteArray)[0]'(by rw [mk_size]; exact h0)).toNat : Int).toNat.toUInt8) = l[0] := by
        show (l[0].toNat).toUInt8 = l[0]
        exact UInt8.toNat_inj.1 (by simp [Nat.toUInt8])
      rw [e]
      exact h2, h.2⟩
  have hS : Lx.signM l = if [61, 62].isPrefixOf l || [61, 61].isPrefixOf l || [43, 43].isPrefixOf l then 2 else if Lx.signs.contains l[0] then 1 else 0 := by
    unfold Lx.signM Lx.twoM
    cases l with
    | nil => exact absurd rfl hne
    | cons a t => rfl
  rw [hS]
  clear hS
  generalize [(61 : UInt8), 62].isPrefixOf l = q1 at *
  generalize [(61 : UInt8), 61].isPrefixOf l = q2 at *
  generalize [(43 : UInt8), 43].isPrefixOf l = q3 at *
  generalize Lx.signs.contains l[0] = q4 at *
  have hb : Below w.heap.size w (w.alloc (.cells #[.string ⟨#[61, 62]⟩, .string ⟨#[61, 61]⟩, .string ⟨#[43, 43]⟩] 9)) := (Below.refl _ _).alloc (Nat.le_refl _) _
  clear hne
  go_enter Tryz.func116, Tryz.ntmps116
  go_wp2_with fail
  go_loop [7] (fun i => ∃ k : Nat, i = .int .i64 k ∧ k ≤ 3 ∧ Hid ((0 < k → q1 = false) ∧ (1 < k → q2 = false) ∧ (2 < k → q3 = false))) (fun i => 3 - (intOf i).toNat)
  case atStart => exact ⟨0, rfl, by omega, (by refine ⟨fun h => ?_, fun h => ?_, fun h => ?_⟩ <;> first | rfl | trivial | (exfalso; omega))⟩
  case round =>
    obtain ⟨k, rfl, hk, H⟩ := hrel
    have hc : k = 0 ∨ k = 1 ∨ k = 2 ∨ k = 3 := by omega
    rcases hc with rfl | rfl | rfl | rfl
    · cases q1 with
      | true =>
        go_wp2_with fail
        refine (p1 _).mono ?_
        rintro e w' ⟨rfl, rfl⟩
        go_wp2_with fail
        go_ret
        exact ⟨rfl, hb⟩
      | false =>
        go_wp2_with fail
        refine (p1 _).mono ?_
        rintro e w' ⟨rfl, rfl⟩
        go_wp2_with fail
        go_round
        case rel => exact ⟨1, by go_num, by omega, (by refine ⟨fun h => ?_, fun h => ?_, fun h => ?_⟩ <;> first | rfl | trivial | (exfalso; omega))⟩
        case measure => simp [intOf]
    · obtain rfl := H.out.1 (by omega)
      cases q2 with
      | true =>
        go_wp2_with fail
        refine (p2 _).mono ?_
        rintro e w' ⟨rfl, rfl⟩
        go_wp2_with fail
        go_ret
        exact ⟨rfl, hb⟩
      | false =>
        go_wp2_with fail
        refine (p2 _).mono ?_
        rintro e w' ⟨rfl, rfl⟩
        go_wp2_with fail
        go_round
        case rel => exact ⟨2, by go_num, by omega, (by refine ⟨fun h => ?_, fun h => ?_, fun h => ?_⟩ <;> first | rfl | trivial | (exfalso; omega))⟩
        case measure => simp [intOf]
    · obtain rfl := H.out.1 (by omega)
      obtain rfl := H.out.2.1 (by omega)
      cases q3 with
      | true =>
        go_wp2_with fail
        refine (p3 _).mono ?_
        rintro e w' ⟨rfl, rfl⟩
        go_wp2_with fail
        go_ret
        exact ⟨rfl, hb⟩
      | false =>
        go_wp2_with fail
        refine (p3 _).mono ?_
        rintro e w' ⟨rfl, rfl⟩
        go_wp2_with fail
        go_round
        case rel => exact ⟨3, by go_num, by omega, (by refine ⟨fun h => ?_, fun h => ?_, fun h => ?_⟩ <;> first | rfl | trivial | (exfalso; omega))⟩
        case measure => simp [intOf]
    · obtain rfl := H.out.1 (by omega)
      obtain rfl := H.out.2.1 (by omega)
      obtain rfl := H.out.2.2 (by omega)
      go_wp2_with fail
      refine (hI _).mono ?_
      rintro e w' ⟨r, rfl, hr, rfl⟩
      cases q4 with
      | true =>
        have hr2 : 0 ≤ r := of_decide_eq_true hr
        clear hr
        go_wp2_with fail
        go_ret
        exact ⟨rfl, hb⟩
      | false =>
        have hr2 : ¬ 0 ≤ r := of_decide_eq_false hr
        clear hr
        go_wp2_with fail
        go_ret
        exact ⟨rfl, hb⟩
end Go.Proofs.YtgpjcjnimheglaaGreatDoor
