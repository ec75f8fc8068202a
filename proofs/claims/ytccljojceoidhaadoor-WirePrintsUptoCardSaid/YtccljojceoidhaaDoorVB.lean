/-
  WALKS of the document's tokens (package amanuensisref2): Utf, Unquote.
-/
import Derived.Test.YtccljojceoidhaaDoorVA
import Derived.Test.YtccljojceoidhaaDoorBB
import Derived.Lib.BufferRead
namespace Go.Proofs.YtccljojceoidhaaDoor
open Go.RowKit

set_option maxRecDepth 100000 in
theorem enc_eq (c : Nat) (h : c ≤ 1114111 ∧ ¬ (55296 ≤ c ∧ c ≤ 57343)) : Lx.enc c = if c < 128 then [UInt8.ofNat c] else if c < 2048 then [UInt8.ofNat (192 + c / 64), UInt8.ofNat (128 + c % 64)] else if c < 65536 then [UInt8.ofNat (224 + c / 4096), UInt8.ofNat (128 + c / 64 % 64), UInt8.ofNat (128 + c % 64)] else [UInt8.ofNat (240 + c / 262144), UInt8.ofNat (128 + c / 4096 % 64), UInt8.ofNat (128 + c / 64 % 64), UInt8.ofNat (128 + c % 64)] := by
  have hv : Utf8.valid (c : Int) = true := by unfold Utf8.valid; simp; omega
  unfold Lx.enc Utf8.encode
  simp only [hv, if_true, Int.toNat_natCast]
  split
  · rfl
  split
  · rfl
  split <;> rfl
set_option maxRecDepth 100000 in
theorem enc_len (c : Nat) : 1 ≤ (Lx.enc c).length ∧ (Lx.enc c).length ≤ 4 := by
  unfold Lx.enc Utf8.encode
  generalize (if Utf8.valid (c : Int) = true then (c : Int).toNat else Utf8.runeError) = n
  by_cases h1 : n < 0x80
  · simp only [if_pos h1]; exact ⟨by simp, by simp⟩
  · by_cases h2 : n < 0x800
    · simp only [if_neg h1, if_pos h2]; exact ⟨by simp, by simp⟩
    · by_cases h3 : n < 0x10000
      · simp only [if_neg h1, if_neg h2, if_pos h3]; exact ⟨by simp, by simp⟩
      · simp only [if_neg h1, if_neg h2, if_neg h3]; exact ⟨by simp, by simp⟩
theorem code_ok (l : List UInt8) (c n : Nat) (h : Lx.codeM l = some (c, n)) : c ≤ 1114111 ∧ ¬ (55296 ≤ c ∧ c ≤ 57343) := by
  unfold Lx.codeM at h
  split at h
  · cases h
  · split at h
    · cases h
    · split at h
      · cases h
      · simp only at h
        split at h
        · cases h
        · split at h
          · cases h
          · split at h
            · cases h
            · rename_i hx
              injection h with h; injection h with h1 h2
              subst h1; omega
theorem esc_ok (l : List UInt8) (c n : Nat) (h : Lx.escM l = some (c, n)) : c ≤ 1114111 ∧ ¬ (55296 ≤ c ∧ c ≤ 57343) := by
  unfold Lx.escM at h
  split at h
  · cases h
  · split at h
    · injection h with h; injection h with h1 _; omega
    split at h
    · injection h with h; injection h with h1 _; omega
    split at h
    · rename_i hh; injection h with h; injection h with h1 _; subst h1; rcases hh with rfl | rfl <;> decide
    split at h
    · rw [Option.map_eq_some_iff] at h
      obtain ⟨⟨c', n'⟩, hc, he⟩ := h
      injection he with h1 _
      simp only at h1
      subst h1
      exact code_ok _ _ _ hc
    · cases h

theorem ofNat_u8 {n : Nat} (h : n < 256) : (((UInt8.ofNat n).toNat : Nat) : Int) = (n : Int) := by
  rw [UInt8.toNat_ofNat']; omega
/-- a new block's row -/
theorem rd_new {w : World} {xs : List Value} {n : Nat} (hn : xs.length = n) : Rd (w.alloc (.cells xs.toArray 5)) (w.alloc (.cells xs.toArray 5)).heap.size 1 (some ⟨w.heap.size, 0, none⟩) n xs := by
  refine ⟨by omega, fun _ => ⟨_, _, rfl, by simp, fun j u hu => ?_⟩⟩
  have h := (Blk.new w 5 xs.toArray).cell j
  rw [Nat.zero_add, h]
  simpa using hu

set_option maxHeartbeats 2000000 in
set_option maxRecDepth 100000 in
theorem utf_walk (c : Nat) (w : World) (hc : c ≤ 1114111 ∧ ¬ (55296 ≤ c ∧ c ≤ 57343)) :
    Calls Tryd.prog 57 #[.int .i64 c] w fun e w' => ∃ A cap, e = .returned (.slice A (Lx.enc c).length cap) ∧ Rd w' w'.heap.size 1 A (Lx.enc c).length (Lib.byteCells (Lx.enc c)) ∧ Below w.heap.size w w' := by
  have hE := Lib.hid (enc_eq c hc)
  generalize Lx.enc c = E at *
  have c0 : (0 : Int) ≤ (c : Int) := by omega
  have c9 : (c : Int) ≤ 1114111 := by omega
  by_cases h0 : c < 128
  · have hEq : Hid (E = [UInt8.ofNat (c)]) := by show _ = _; rw [hE.out, if_pos h0]
    have hCs : Hid (Lib.byteCells E = [.int .u8 ((c : Int))]) := by show _ = _; rw [hEq.out]; simp only [Lib.byteCells, List.map_cons, List.map_nil]; rw [ofNat_u8 (n := c) (by omega), show ((c : Nat) : Int) = (c : Int) by omega]
    have hLn : Hid (E.length = 1) := by show _ = _; rw [hEq.out]; rfl
    have y0 : (c : Int) < 128 := by omega
    clear hE h0
    go_enter Tryd.func57, Tryd.ntmps57
    go_wp2_with fail
    go_ret
    rw [hCs.out, hLn.out]
    first | refine ⟨_, _, rfl, ?_, ?_⟩ | refine ⟨_, ⟨_, rfl⟩, ?_, ?_⟩
    · exact rd_new (xs := [.int .u8 ((c : Int))]) rfl
    · exact (Below.refl _ _).alloc (Nat.le_refl _) _
  · by_cases h1 : c < 2048
    · have hEq : Hid (E = [UInt8.ofNat (192 + c / 64), UInt8.ofNat (128 + c % 64)]) := by show _ = _; rw [hE.out, if_neg h0, if_pos h1]
      have hCs : Hid (Lib.byteCells E = [.int .u8 (192 + (c : Int) / 64), .int .u8 (128 + (c : Int) % 64)]) := by show _ = _; rw [hEq.out]; simp only [Lib.byteCells, List.map_cons, List.map_nil]; rw [ofNat_u8 (n := 192 + c / 64) (by omega), show ((192 + c / 64 : Nat) : Int) = 192 + (c : Int) / 64 by omega, ofNat_u8 (n := 128 + c % 64) (by omega), show ((128 + c % 64 : Nat) : Int) = 128 + (c : Int) % 64 by omega]
      have hLn : Hid (E.length = 2) := by show _ = _; rw [hEq.out]; rfl
      have n128 : ¬ (c : Int) < 128 := by omega
      have y1 : (c : Int) < 2048 := by omega
      clear hE h0 h1
      go_enter Tryd.func57, Tryd.ntmps57
      go_wp2_with fail
      go_ret
      rw [hCs.out, hLn.out]
      first | refine ⟨_, _, rfl, ?_, ?_⟩ | refine ⟨_, ⟨_, rfl⟩, ?_, ?_⟩
      · exact rd_new (xs := [.int .u8 (192 + (c : Int) / 64), .int .u8 (128 + (c : Int) % 64)]) rfl
      · exact (Below.refl _ _).alloc (Nat.le_refl _) _
    · by_cases h2 : c < 65536
      · have hEq : Hid (E = [UInt8.ofNat (224 + c / 4096), UInt8.ofNat (128 + c / 64 % 64), UInt8.ofNat (128 + c % 64)]) := by show _ = _; rw [hE.out, if_neg h0, if_neg h1, if_pos h2]
        have hCs : Hid (Lib.byteCells E = [.int .u8 (224 + (c : Int) / 4096), .int .u8 (128 + (c : Int) / 64 % 64), .int .u8 (128 + (c : Int) % 64)]) := by show _ = _; rw [hEq.out]; simp only [Lib.byteCells, List.map_cons, List.map_nil]; rw [ofNat_u8 (n := 224 + c / 4096) (by omega), show ((224 + c / 4096 : Nat) : Int) = 224 + (c : Int) / 4096 by omega, ofNat_u8 (n := 128 + c / 64 % 64) (by omega), show ((128 + c / 64 % 64 : Nat) : Int) = 128 + (c : Int) / 64 % 64 by omega, ofNat_u8 (n := 128 + c % 64) (by omega), show ((128 + c % 64 : Nat) : Int) = 128 + (c : Int) % 64 by omega]
        have hLn : Hid (E.length = 3) := by show _ = _; rw [hEq.out]; rfl
        have n128 : ¬ (c : Int) < 128 := by omega
        have n2048 : ¬ (c : Int) < 2048 := by omega
        have y2 : (c : Int) < 65536 := by omega
        clear hE h0 h1 h2
        go_enter Tryd.func57, Tryd.ntmps57
        go_wp2_with fail
        go_ret
        rw [hCs.out, hLn.out]
        first | refine ⟨_, _, rfl, ?_, ?_⟩ | refine ⟨_, ⟨_, rfl⟩, ?_, ?_⟩
        · exact rd_new (xs := [.int .u8 (224 + (c : Int) / 4096), .int .u8 (128 + (c : Int) / 64 % 64), .int .u8 (128 + (c : Int) % 64)]) rfl
        · exact (Below.refl _ _).alloc (Nat.le_refl _) _
      · have hEq : Hid (E = [UInt8.ofNat (240 + c / 262144), UInt8.ofNat (128 + c / 4096 % 64), UInt8.ofNat (128 + c / 64 % 64), UInt8.ofNat (128 + c % 64)]) := by show _ = _; rw [hE.out, if_neg h0, if_neg h1, if_neg h2]
        have hCs : Hid (Lib.byteCells E = [.int .u8 (240 + (c : Int) / 262144), .int .u8 (128 + (c : Int) / 4096 % 64), .int .u8 (128 + (c : Int) / 64 % 64), .int .u8 (128 + (c : Int) % 64)]) := by show _ = _; rw [hEq.out]; simp only [Lib.byteCells, List.map_cons, List.map_nil]; rw [ofNat_u8 (n := 240 + c / 262144) (by omega), show ((240 + c / 262144 : Nat) : Int) = 240 + (c : Int) / 262144 by omega, ofNat_u8 (n := 128 + c / 4096 % 64) (by omega), show ((128 + c / 4096 % 64 : Nat) : Int) = 128 + (c : Int) / 4096 % 64 by omega, ofNat_u8 (n := 128 + c / 64 % 64) (by omega), show ((128 + c / 64 % 64 : Nat) : Int) = 128 + (c : Int) / 64 % 64 by omega, ofNat_u8 (n := 128 + c % 64) (by omega), show ((128 + c % 64 : Nat) : Int) = 128 + (c : Int) % 64 by omega]
        have hLn : Hid (E.length = 4) := by show _ = _; rw [hEq.out]; rfl
        have n128 : ¬ (c : Int) < 128 := by omega
        have n2048 : ¬ (c : Int) < 2048 := by omega
        have n65536 : ¬ (c : Int) < 65536 := by omega
        clear hE h0 h1 h2
        go_enter Tryd.func57, Tryd.ntmps57
        go_wp2_with fail
        go_ret
        rw [hCs.out, hLn.out]
        first | refine ⟨_, _, rfl, ?_, ?_⟩ | refine ⟨_, ⟨_, rfl⟩, ?_, ?_⟩
        · exact rd_new (xs := [.int .u8 (240 + (c : Int) / 262144), .int .u8 (128 + (c : Int) / 4096 % 64), .int .u8 (128 + (c : Int) / 64 % 64), .int .u8 (128 + (c : Int) % 64)]) rfl
        · exact (Below.refl _ _).alloc (Nat.le_refl _) _

end Go.Proofs.YtccljojceoidhaaDoor
