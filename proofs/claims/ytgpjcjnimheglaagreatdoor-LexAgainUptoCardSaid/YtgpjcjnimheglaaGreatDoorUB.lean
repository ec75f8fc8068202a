/-
  WALKS of the document's tokens (package amanuensisref2): nested.
-/
import Derived.Test.YtgpjcjnimheglaaGreatDoorUA
namespace Go.Proofs.YtgpjcjnimheglaaGreatDoor
open Go.RowKit

theorem rem_open (d : Nat) (l : Bs) (h : [123, 45].isPrefixOf l = true) : Lx.remM d l = (Lx.remM (d + 1) (l.drop 2)).map (· + 2) := by
  obtain ⟨t, rfl⟩ := Lx.prefix_two h
  rw [Lx.remM, if_pos ⟨rfl, rfl⟩]; rfl
theorem rem_shut (d : Nat) (l : Bs) (h : [45, 125].isPrefixOf l = true) : Lx.remM d l = if d = 1 then some 2 else (Lx.remM (d - 1) (l.drop 2)).map (· + 2) := by
  obtain ⟨t, rfl⟩ := Lx.prefix_two h
  rw [Lx.remM, if_neg (by decide), if_pos ⟨rfl, rfl⟩]; rfl
theorem rem_else (d : Nat) (l : Bs) (h1 : [123, 45].isPrefixOf l = false) (h2 : [45, 125].isPrefixOf l = false) : Lx.remM d l = (Lx.remM d (l.drop 1)).map (· + 1) := by
  rcases l with _ | ⟨a, _ | ⟨b, t⟩⟩
  · simp [Lx.remM]
  · simp [Lx.remM]
  · rw [Lx.remM, if_neg, if_neg]
    · rfl
    · rintro ⟨rfl, rfl⟩; simp [List.isPrefixOf] at h2
    · rintro ⟨rfl, rfl⟩; simp [List.isPrefixOf] at h1

/-- what nested answers -/
def nestV (n i : Nat) : Option Nat → Value
  | some k => .tuple #[.int .i64 ((i + 2 + k : Nat) : Int), .bool true]
  | none => .tuple #[.int .i64 n, .bool false]

set_option maxHeartbeats 2000000 in
set_option maxRecDepth 100000 in
theorem nested_walk (s : Bs) (i : Nat) (w : World) (hs : [123, 45].isPrefixOf (s.drop i) = true) (hl : s.length ≤ 100000000) :
    Calls Tryz.prog 67 #[.string ⟨s.toArray⟩, .int .i64 i] w fun e w' => e = .returned (nestV s.length i (Lx.remM 1 (s.drop (i + 2)))) ∧ w' = w := by
  have hi2 : i + 2 ≤ s.length := by
    obtain ⟨t, ht⟩ := Lx.prefix_two hs
    have := congrArg List.length ht
    rw [List.length_drop] at this
    simp at this
    omega
  have hho : ∀ k, k ≤ s.length → ∀ w, Calls Tryz.prog 66 #[.string ⟨s.toArray⟩, .int .i64 k, .int .u8 123, .int .u8 45] w fun e w' => e = .returned (.bool ([123, 45].isPrefixOf (s.drop k))) ∧ w' = w := fun k hk w => has_walk s k 123 45 w hl hk
  have hhs : ∀ k, k ≤ s.length → ∀ w, Calls Tryz.prog 66 #[.string ⟨s.toArray⟩, .int .i64 k, .int .u8 45, .int .u8 125] w fun e w' => e = .returned (.bool ([45, 125].isPrefixOf (s.drop k))) ∧ w' = w := fun k hk w => has_walk s k 45 125 w hl hk
  generalize hR : Lx.remM 1 (s.drop (i + 2)) = R
  have HR := Lib.hid hR
  have Hs := Lib.hid hs
  clear hR hs
  go_enter Tryz.func67, Tryz.ntmps67
  go_wp2_with fail
  go_loop [1, 6] (fun iv dv => ∃ k d : Nat, iv = .int .i64 k ∧ dv = .int .i64 d ∧ k ≤ s.length ∧ d ≤ k ∧ ((k = i ∧ d = 0) ∨ (1 ≤ d ∧ i + 2 ≤ k ∧ Hid (R = (Lx.remM d (s.drop k)).map (· + (k - (i + 2))))))) (fun iv _ => s.length - (intOf iv).toNat)
  case atStart => exact ⟨i, 0, rfl, rfl, by omega, by omega, .inl ⟨rfl, rfl⟩⟩
  case round =>
    obtain ⟨k, d, rfl, rfl, hk, hdk, H⟩ := hrel
    have h1 := hho k hk
    have h2 := hhs k hk
    rcases H with ⟨rfl, rfl⟩ | ⟨hd1, hik, H⟩
    · rw [Hs.out] at h1
      generalize [(45 : UInt8), 125].isPrefixOf (s.drop k) = q at *
      have hlt : (k : Int) < (s.length : Int) := by omega
      go_wp2_with fail
      refine (h1 _).mono ?_
      rintro e w' ⟨rfl, rfl⟩
      go_wp2_with fail
      refine (h2 _).mono ?_
      rintro e w' ⟨rfl, rfl⟩
      go_wp2_with fail
      go_round
      case rel => exact ⟨k + 2, 1, by go_num, by go_num, by omega, by omega, .inr ⟨by omega, by omega, by show _ = _; rw [← HR.out]; simp⟩⟩
      case measure => simp [intOf]; omega
    · by_cases hlt : k < s.length
      · have i1 : (k : Int) < (s.length : Int) := by omega
        cases ho : [(123 : UInt8), 45].isPrefixOf (s.drop k) with
        | true =>
          have hN : Hid (R = (Lx.remM (d + 1) (s.drop (k + 2))).map (· + (k + 2 - (i + 2)))) := by
            show _ = _
            rw [H.out, rem_open d _ ho, List.drop_drop, Option.map_map]
            congr 1
            funext x
            simp only [Function.comp]
            omega
          have hk2 : k + 2 ≤ s.length := by
            obtain ⟨t, ht⟩ := Lx.prefix_two ho
            have := congrArg List.length ht
            rw [List.length_drop] at this
            simp at this
            omega
          rw [ho] at h1
          generalize [(45 : UInt8), 125].isPrefixOf (s.drop k) = q at *
          clear ho H
          go_wp2_with fail
          refine (h1 _).mono ?_
          rintro e w' ⟨rfl, rfl⟩
          go_wp2_with fail
          refine (h2 _).mono ?_
          rintro e w' ⟨rfl, rfl⟩
          go_wp2_with fail
          go_round
          case rel => exact ⟨k + 2, d + 1, by go_num, by go_num, by omega, by omega, .inr ⟨by omega, by omega, hN⟩⟩
          case measure => simp [intOf]; omega
        | false =>
          rw [ho] at h1
          cases hq : [(45 : UInt8), 125].isPrefixOf (s.drop k) with
          | true =>
            rw [hq] at h2
            have hk2 : k + 2 ≤ s.length := by
              obtain ⟨t, ht⟩ := Lx.prefix_two hq
              have := congrArg List.length ht
              rw [List.length_drop] at this
              simp at this
              omega
            have h3 := H.out
            rw [rem_shut d _ hq, List.drop_drop] at h3
            by_cases hd : d = 1
            · rw [if_pos hd] at h3
              have hN : Hid (R = some (2 + (k - (i + 2)))) := h3
              subst hd
              clear h3 ho hq H
              go_wp2_with fail
              refine (h1 _).mono ?_
              rintro e w' ⟨rfl, rfl⟩
              go_wp2_with fail
              refine (h2 _).mono ?_
              rintro e w' ⟨rfl, rfl⟩
              go_wp2_with fail
              go_ret2
              rw [hN.out]
              refine ⟨?_, rfl⟩
              show _ = Ending.returned (.tuple #[.int .i64 ((i + 2 + (2 + (k - (i + 2))) : Nat) : Int), .bool true])
              rw [show ((i + 2 + (2 + (k - (i + 2))) : Nat) : Int) = (k : Int) + 2 by omega]; rfl
            · rw [if_neg hd] at h3
              have hN : Hid (R = (Lx.remM (d - 1) (s.drop (k + 2))).map (· + (k + 2 - (i + 2)))) := by
                show _ = _
                rw [h3, Option.map_map]
                congr 1
                funext x
                simp only [Function.comp]
                omega
              have e1 : ((d : Int) - 1 == 0) = false := by simp; omega
              clear h3 ho hq H
              go_wp2_with fail
              refine (h1 _).mono ?_
              rintro e w' ⟨rfl, rfl⟩
              go_wp2_with fail
              refine (h2 _).mono ?_
              rintro e w' ⟨rfl, rfl⟩
              go_wp2_with fail
              go_round
              case rel => exact ⟨k + 2, d - 1, by go_num, by congr 1; omega, by omega, by omega, .inr ⟨by omega, by omega, hN⟩⟩
              case measure => simp [intOf]; omega
          | false =>
            rw [hq] at h2
            have hN : Hid (R = (Lx.remM d (s.drop (k + 1))).map (· + (k + 1 - (i + 2)))) := by
              show _ = _
              rw [H.out, rem_else d _ ho hq, List.drop_drop, Option.map_map]
              congr 1
              funext x
              simp only [Function.comp]
              omega
            clear ho hq H
            go_wp2_with fail
            refine (h1 _).mono ?_
            rintro e w' ⟨rfl, rfl⟩
            go_wp2_with fail
            refine (h2 _).mono ?_
            rintro e w' ⟨rfl, rfl⟩
            go_wp2_with fail
            go_round
            case rel => exact ⟨k + 1, d, by go_num, rfl, by omega, by omega, .inr ⟨by omega, by omega, hN⟩⟩
            case measure => simp [intOf]; omega
      · obtain rfl : k = s.length := by omega
        have hN : Hid (R = none) := by
          show _ = _
          rw [H.out, List.drop_length]; rfl
        clear H h1 h2
        go_wp2_with fail
        go_ret2
        rw [hN.out]
        exact ⟨rfl, rfl⟩
end Go.Proofs.YtgpjcjnimheglaaGreatDoor
