/-
  WALKS of package strconv: FormatInt at base 16, of a byte.
-/
import Derived.Test.YtccljojceoidhaaDoorVE
namespace Go.Proofs.YtccljojceoidhaaDoor
open Go.RowKit

/-- the table of trailing zeros, at the place that is read for 16 -/
def DB (w : World) : Prop := w.cell? ⟨9, 15, none⟩ = some (.int .u8 4)
theorem DB.lt {w : World} (h : DB w) : 9 < w.heap.size := World.block_lt_of_cell? w ⟨9, 15, none⟩ h
theorem DB.below {w w' : World} (h : DB w) (hb : Below w.heap.size w w') : DB w' := (hb.cell (p := ⟨9, 15, none⟩) h.lt).trans h

set_option maxHeartbeats 1000000 in
set_option maxRecDepth 100000 in
theorem tz_walk (w : World) (hD : DB w) : Calls Tryd.prog 159 #[.int .u64 16] w fun e w' => e = .returned (.int .i64 4) ∧ w' = w := by
  unfold DB at hD
  have hq : IntKind.u64.wrap (bits BinOp.and IntKind.u64 16 (IntKind.u64.wrap (-16)) * 285870213051353865) / 288230376151711744 = 15 := by kernel_rfl
  go_enter Tryd.func159, Tryd.ntmps159
  go_wp2_with fail
  go_ret
  exact ⟨rfl, rfl⟩
set_option maxHeartbeats 1000000 in
set_option maxRecDepth 100000 in
theorem tz0_walk (w : World) (hD : DB w) : Calls Tryd.prog 145 #[.int .u64 16] w fun e w' => e = .returned (.int .i64 4) ∧ w' = w := by
  go_enter Tryd.func145, Tryd.ntmps145
  go_wp2_with fail
  refine (tz_walk w hD).mono ?_
  rintro e w' ⟨rfl, rfl⟩
  go_wp2_with fail
  go_ret
  exact ⟨rfl, rfl⟩
set_option maxHeartbeats 1000000 in
set_option maxRecDepth 100000 in
theorem two_walk (w : World) : Calls Tryd.prog 144 #[.int .i64 16] w fun e w' => e = .returned (.bool true) ∧ w' = w := by
  go_enter Tryd.func144, Tryd.ntmps144
  go_wp2_with fail
  go_ret
  exact ⟨rfl, rfl⟩

theorem dig_at (n : Nat) (h : n < 16) : (((⟨#[48, 49, 50, 51, 52, 53, 54, 55, 56, 57, 97, 98, 99, 100, 101, 102, 103, 104, 105, 106, 107, 108, 109, 110, 111, 112, 113, 114, 115, 116, 117, 118, 119, 120, 121, 122]⟩ : ByteArray)[n]'(by show n < 36; omega)).toNat : Int) = ((Lx.hexD n).toNat : Int) := by
  have h2 : ∀ i : Fin 16, (((⟨#[48, 49, 50, 51, 52, 53, 54, 55, 56, 57, 97, 98, 99, 100, 101, 102, 103, 104, 105, 106, 107, 108, 109, 110, 111, 112, 113, 114, 115, 116, 117, 118, 119, 120, 121, 122]⟩ : ByteArray)[i.val]'(Nat.lt_of_lt_of_le i.isLt (by decide : 16 ≤ 36))).toNat : Int) = ((Lx.hexD i.val).toNat : Int) := by decide +kernel
  exact h2 ⟨n, h⟩
theorem and15 (n : Nat) (h : n < 256) : bits .and .u64 (n : Int) 15 = ((n % 16 : Nat) : Int) := by
  have h2 : ∀ i : Fin 256, bits .and .u64 (i.val : Int) 15 = ((i.val % 16 : Nat) : Int) := by decide +kernel
  exact h2 ⟨n, h⟩
theorem z_size : Tryd.zeroCells186.size = 65 := by kernel_rfl
/-- the last cells of a buffer, as a text -/
theorem buf_str (w : World) (C : Array Value) (o cap : Nat) (l : Bs) (hC : ∀ j (hj : j < l.length), C[o + j]? = some (.int .u8 (l[j].toNat : Int))) :
    (convert 63 9 (.slice (some ⟨w.heap.size, o, none⟩) l.length cap)).run Tryd.prog (w.alloc (.cells C 186)) = .ok (.string ⟨l.toArray⟩) (w.alloc (.cells C 186)) := by
  refine run_convert_bytes_back _ _ _ _ ⟨w.heap.size, o, none⟩ cap l Tryd.underlying63 Tryd.underlying5 Tryd.underlying9 fun j hj => ?_
  have e : (⟨w.heap.size, o, none⟩ : Addr).add j = ⟨w.heap.size, o + j, none⟩ := by unfold Addr.add; split <;> simp_all
  rw [e, (Blk.new w 186 C).cell]
  exact hC j hj

set_option maxHeartbeats 2000000 in
set_option maxRecDepth 100000 in
theorem fbits_walk (n : Nat) (w : World) (hn : n < 256) (hD : DB w) : Calls Tryd.prog 119 #[.slice none 0 0, .int .u64 n, .int .i64 16, .bool false, .bool false] w fun e w' => e = .returned (.tuple #[.slice none 0 0, .string ⟨(Lx.hexS n).toArray⟩]) ∧ Below w.heap.size w w' := by
  have hS : Hid (Lx.hexS n = if n < 16 then [Lx.hexD n] else [Lx.hexD (n / 16), Lx.hexD (n % 16)]) := rfl
  generalize Lx.hexS n = S at *
  go_enter Tryd.func119, Tryd.ntmps119
  go_wp2_with fail
  refine (two_walk _).mono ?_
  rintro e w1 ⟨rfl, rfl⟩
  go_wp2_with fail
  refine (tz0_walk _ (hD.below ((Below.refl _ _).alloc (Nat.le_refl _) _))).mono ?_
  rintro e w1 ⟨rfl, rfl⟩
  go_wp2_with fail
  go_loopw [1, 13] (fun u i wr => (u = .int .u64 n ∧ i = .int .i64 65 ∧ wr = w.alloc (.cells Tryd.zeroCells186 186)) ∨ (16 ≤ n ∧ u = .int .u64 ((n / 16 : Nat) : Int) ∧ i = .int .i64 64 ∧ wr = w.alloc (.cells (Tryd.zeroCells186.setIfInBounds 64 (.int .u8 ((Lx.hexD (n % 16)).toNat : Int))) 186))) (fun _ i _ => (intOf i).toNat)
  case atStart => exact .inl ⟨rfl, rfl, rfl⟩
  case round =>
    rcases hrel with ⟨rfl, rfl, rfl⟩ | ⟨h16, rfl, rfl, rfl⟩
    · by_cases h16 : n < 16
      · have hx := dig_at n h16
        have hd : ¬ (16 : Int) ≤ (n : Int) := by omega
        have hE : Hid (S = [Lx.hexD n]) := by show _ = _; rw [hS.out, if_pos h16]
        have hcv := buf_str w (Tryd.zeroCells186.setIfInBounds 64 (.int .u8 ((Lx.hexD n).toNat : Int))) 64 1 [Lx.hexD n] fun j hj => by
          have : j = 0 := by simpa using hj
          subst this
          rw [Array.getElem?_setIfInBounds_self_of_lt (by rw [z_size]; omega)]
          rfl
        rw [show [Lx.hexD n].length = 1 from rfl] at hcv
        clear hS
        go_wp2_with fail
        go_ret2
        rw [hE.out]
        exact ⟨rfl, (Below.refl _ _).alloc (Nat.le_refl _) _⟩
      · have hx := dig_at (n % 16) (by omega)
        have hd : (16 : Int) ≤ (n : Int) := by omega
        have ha := and15 n hn
        go_wp2_with fail
        go_roundw
        case rel => refine .inr ⟨by omega, ?_, ?_, ?_⟩ <;> first | rfl | trivial | go_num
        case measure => simp [intOf]
    · have hx := dig_at (n / 16) (by omega)
      have hd : ¬ (16 : Int) ≤ ((n / 16 : Nat) : Int) := by omega
      have hE : Hid (S = [Lx.hexD (n / 16), Lx.hexD (n % 16)]) := by show _ = _; rw [hS.out, if_neg (by omega)]
      have hcv := buf_str w ((Tryd.zeroCells186.setIfInBounds 64 (.int .u8 ((Lx.hexD (n % 16)).toNat : Int))).setIfInBounds 63 (.int .u8 ((Lx.hexD (n / 16)).toNat : Int))) 63 2 [Lx.hexD (n / 16), Lx.hexD (n % 16)] fun j hj => by
        have : j = 0 ∨ j = 1 := by simp at hj; omega
        rcases this with rfl | rfl
        · rw [Array.getElem?_setIfInBounds_self_of_lt (by rw [Array.size_setIfInBounds, z_size]; omega)]
          rfl
        · rw [Array.getElem?_setIfInBounds_ne (by omega), Array.getElem?_setIfInBounds_self_of_lt (by rw [z_size]; omega)]
          rfl
      rw [show [Lx.hexD (n / 16), Lx.hexD (n % 16)].length = 2 from rfl] at hcv
      clear hS
      go_wp2_with fail
      go_ret2
      rw [hE.out]
      exact ⟨rfl, (Below.refl _ _).alloc (Nat.le_refl _) _⟩

set_option maxHeartbeats 1000000 in
set_option maxRecDepth 100000 in
theorem fmt16_walk (n : Nat) (w : World) (hn : n < 256) (hD : DB w) : Calls Tryd.prog 54 #[.int .i64 n, .int .i64 16] w fun e w' => e = .returned (.string ⟨(Lx.hexS n).toArray⟩) ∧ Below w.heap.size w w' := by
  have hf : ∀ w, DB w → Calls Tryd.prog 86 #[.int .i64 n, .int .i64 16] w fun e w' => e = .returned (.string ⟨(Lx.hexS n).toArray⟩) ∧ Below w.heap.size w w' := by
    intro w hD
    have h0 : ¬ (n : Int) < 0 := by omega
    go_enter Tryd.func86, Tryd.ntmps86
    go_wp2_with fail
    refine (fbits_walk n _ hn hD).mono ?_
    rintro e w1 ⟨rfl, hb⟩
    go_wp2_with fail
    go_ret
    exact ⟨rfl, hb⟩
  go_enter Tryd.func54, Tryd.ntmps54
  go_wp2_with fail
  refine (hf _ hD).mono ?_
  rintro e w1 ⟨rfl, hb⟩
  go_wp2_with fail
  go_ret
  exact ⟨rfl, hb⟩
end Go.Proofs.YtccljojceoidhaaDoor
