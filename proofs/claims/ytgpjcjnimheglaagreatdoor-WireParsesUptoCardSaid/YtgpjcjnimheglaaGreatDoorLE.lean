/-
  THE WALKS of strconv.ParseInt at base 16, where a text has one to six digits of sixteen (after the shelf's walk at base 10).
-/
import Derived.Test.YtgpjcjnimheglaaGreatDoorLB
import Derived.Test.YtgpjcjnimheglaaGreatDoorLR
import Derived.Lib.ConvBytes
import Derived.Laws.Strings3
import Derived.Laws.Closers25
import Derived.Laws.Closers25b
import Derived.BigCall
import Derived.BigGuard
namespace Go.Proofs.YtgpjcjnimheglaaGreatDoor
open Go.RowKit

theorem or_hex : ∀ c : Fin 256, (65 ≤ c.val → c.val ≤ 70 → bits .or .u8 (c.val : Int) 32 = (c.val : Int) + 32) ∧ (97 ≤ c.val → c.val ≤ 102 → bits .or .u8 (c.val : Int) 32 = (c.val : Int)) := by decide +kernel

theorem hex_ways (c : UInt8) (d : Nat) (h : Lx.hexV c = some d) : (48 ≤ c.toNat ∧ c.toNat ≤ 57 ∧ d = c.toNat - 48) ∨ (∃ v : Int, bits .or .u8 (c.toNat : Int) 32 = v ∧ v = 87 + (d : Int) ∧ 10 ≤ d ∧ d ≤ 15 ∧ 57 < c.toNat ∧ c.toNat ≠ 95) := by
  have h0 := or_hex ⟨c.toNat, c.toNat_lt⟩
  unfold Lx.hexV at h
  split at h
  · injection h with h; exact .inl ⟨by omega, by omega, h.symm⟩
  · split at h
    · rename_i h2
      injection h with h
      exact .inr ⟨_, rfl, by rw [h0.2 h2.1 h2.2]; show (c.toNat : Int) = _; omega, by omega, by omega, by omega, by omega⟩
    · split at h
      · rename_i h2
        injection h with h
        exact .inr ⟨_, rfl, by rw [h0.1 h2.1 h2.2]; show (c.toNat : Int) + 32 = _; omega, by omega, by omega, by omega, by omega⟩
      · cases h

set_option maxRecDepth 100000 in
theorem lower_walk (c : Int) (w : World) : Calls Tryz.prog 195 #[.int .u8 c] w fun e w' => e = .returned (.int .u8 (bits .or .u8 c 32)) ∧ w' = w := by
  go_enter Tryz.func195, Tryz.ntmps195
  go_wp2
  go_ret
  exact ⟨rfl, rfl⟩

set_option maxHeartbeats 8000000 in
set_option maxRecDepth 100000 in
theorem hexuint_walk (l : Bs) (w : World) (h1 : 1 ≤ l.length) (h6 : l.length ≤ 6) (hall : ∀ b ∈ l, ∃ d, Lx.hexV b = some d) (n : Nat) (hn : Lx.hexN 0 l = some n) :
    Calls Tryz.prog 184 #[.string ⟨l.toArray⟩, .int .i64 16, .int .i64 32] w fun e w' => e = .returned (.tuple #[.int .u64 n, .nilIface]) ∧ Below w.heap.size w w' := by
  have hne : (l == []) = false := by cases l <;> simp at h1 ⊢
  have hcv := Lib.run_convert_string_bytes (P := Tryz.prog) w 9 101 5 ⟨l.toArray⟩ (u := .string) Tryz.underlying9 Tryz.underlying101 Tryz.underlying5
  have hB : ∀ j (h : j < l.length), (Lib.bytesWorld w 5 ⟨l.toArray⟩).cell? ⟨w.heap.size, j, none⟩ = some (.int .u8 l[j].toNat) := fun j hj => by
    have := Lib.bytesWorld_cell w 5 ⟨l.toArray⟩ j (by rw [mk_size]; exact hj)
    rw [this]
    simp [List.getD, hj]
  have hbw : Below w.heap.size w (Lib.bytesWorld w 5 ⟨l.toArray⟩) := Lib.bytesWorld_below _ _ _
  have hsz : (⟨l.toArray⟩ : ByteArray).size = l.length := mk_size l
  rw [hsz] at hcv
  generalize Lib.bytesWorld w 5 ⟨l.toArray⟩ = W1 at *
  have hmv : IntKind.u64.wrap (IntKind.u64.wrap 4294967296 - 1) = 4294967295 := by
    rw [IntKind.wrap_u64, IntKind.wrap_u64]
    decide
  have HB := Lib.hid hB
  have Hall := Lib.hid hall
  have Hn := Lib.hid hn
  clear hB hall hn hsz
  go_enter Tryz.func184, Tryz.ntmps184
  go_wp2
  go_loop [12, 13, 101] (fun vu vn vi => ∃ (k acc : Nat) (a : Int), vu = .bool false ∧ vn = .int .u64 a ∧ vi = .int .i64 k ∧ k ≤ l.length ∧ 0 ≤ a ∧ a < 16777216 ∧ Hid (a = (acc : Int) ∧ Lx.hexN 0 (l.take k) = some acc)) (fun _ _ vi => l.length - (intOf vi).toNat)
  case atStart => exact ⟨0, 0, 0, rfl, rfl, rfl, by omega, by omega, by omega, rfl, rfl⟩
  case round =>
    obtain ⟨k, acc, a, rfl, rfl, rfl, hk, ha0, ha1, hh⟩ := hrel
    by_cases hkn : k < l.length
    · have hc := HB.out k hkn
      obtain ⟨d, hd⟩ := Hall.out l[k] (List.getElem_mem hkn)
      have hnx : Hid (Lx.hexN 0 (l.take (k + 1)) = some (acc * 16 + d)) := by
        show _ = _
        rw [List.take_succ_eq_append_getElem hkn]
        exact Lx.hexN_snoc _ _ _ _ _ hh.out.2 hd
      have hacc2 : a * 16 + (d : Int) < 16777216 := by
        have hae := hh.out.1
        have h2 : ∀ (t : Bs) (a m : Nat), Lx.hexN a t = some m → m < (a + 1) * 16 ^ t.length := by
          intro t
          induction t with
          | nil => intro a m h; simp only [Lx.hexN] at h; injection h with h; subst h; simp
          | cons b t ih =>
            intro a m h
            simp only [Lx.hexN] at h
            cases hb : Lx.hexV b with
            | none => rw [hb] at h; simp at h
            | some x =>
              rw [hb] at h
              have h3 := ih _ _ h
              have h4 := (Lx.hex_no b x hb).2.2.2.2
              have h5 : (a * 16 + x + 1) * 16 ^ t.length ≤ (a + 1) * 16 * 16 ^ t.length := Nat.mul_le_mul_right _ (by omega)
              rw [List.length_cons, Nat.pow_succ, Nat.mul_comm (16 ^ t.length) 16, ← Nat.mul_assoc]
              omega
        have h3 := h2 _ _ _ hnx.out
        have h4 : (l.take (k + 1)).length ≤ 6 := by rw [List.length_take]; omega
        have h5 : 16 ^ (l.take (k + 1)).length ≤ 16 ^ 6 := Nat.pow_le_pow_right (by omega) h4
        omega
      have hways := hex_ways l[k] d hd
      have hd16' : (d : Int) < 16 := by have := (Lx.hex_no _ _ hd).2.2.2.2; omega
      have hd16 := (Lx.hex_no _ _ hd).2.2.2.2
      have hc256 : l[k].toNat < 256 := l[k].toNat_lt
      generalize l[k] = c at *
      clear hd
      have hlo := lower_walk (c.toNat : Int)
      rcases hways with ⟨g1, g2, g3⟩ | ⟨v, g1, g2, g3, g4, g5, g6⟩
      · subst g3
        go_wp2
        go_round
        case rel => exact ⟨k + 1, acc * 16 + (c.toNat - 48), a * 16 + ((c.toNat : Int) - 48), rfl, by congr 1 <;> omega, by go_num, by omega, by omega, by omega, by have := hh.out.1; omega, hnx.out⟩
        case measure => simp [intOf]; omega
      · rw [g1] at hlo
        subst g2
        have hus : ((c.toNat : Int) == 95) = false := by simp; omega
        clear g1 g6
        go_wp2_with (go_at_call 195; refine (hlo _).mono ?_; rintro e w' ⟨rfl, rfl⟩)
        go_round
        case rel => exact ⟨k + 1, acc * 16 + d, a * 16 + (d : Int), rfl, by congr 1 <;> omega, by go_num, by omega, by omega, by omega, by have := hh.out.1; omega, hnx.out⟩
        case measure => simp [intOf]; omega
    · obtain rfl : k = l.length := by omega
      have hfin : Hid (a = (n : Int)) := by
        have h2 := hh.out.2
        rw [List.take_length, Hn.out] at h2
        injection h2 with h2
        show _ = _
        rw [hh.out.1, h2]
      go_wp2
      go_ret2
      exact ⟨by rw [hfin.out]; rfl, hbw⟩
end Go.Proofs.YtgpjcjnimheglaaGreatDoor
