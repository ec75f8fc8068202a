/-
  JOINED of the texts UE UF
-/
import Derived.Test.YtalklmeejdmifaaGreatDoorJbd
import Derived.Deep.DeepCutAuto
import Derived.Deep.RegionHeld3
import Derived.Lib.IndexMore
import Derived.Lib.Strings
import Derived.Test.YtalklmeejdmifaaGreatDoorRows
import Derived.WalkKit
import Derived.WalkSpells
import Derived.WalkLawsBesides
import Derived.Below
import Derived.Laws.OwnMore
import Derived.Deep.AppendLies
import Derived.Deep.Draws
import Derived.Lib.Hide
import Derived.Deep.QuietTactic
import Derived.BigQuiet
import Derived.IntWalk
import Derived.Lib.ConvBytes
import Derived.Laws.Strings3
import Derived.Laws.Closers25
import Derived.Laws.Closers25b
import Derived.BigCall
import Derived.BigGuard
import Derived.Test.YtalklmeejdmifaaGreatDoorShelfX
import Derived.Shelf.Spec.BytesIndexFunc
import Derived.Lib.RuneBytes
import Derived.Test.YtalklmeejdmifaaGreatDoorShelfW
import Derived.Shelf.Strings.SlTrimAscii
import Derived.Lib.LaidTab
import Derived.Lib.AtoiAll
import Derived.Lib.IndexLaws
import Derived.Lib.SlTrimSet
import Derived.Lib.ItoaNum
import Derived.Lib.Atoi
import Derived.WalkMore
import Derived.ScopeJumps
import Derived.Test.YtalklmeejdmifaaGreatDoorJae
/-
  WALKS of the document's tokens (package amanuensisref2): One, its seven ways.
-/
namespace Go.Proofs.YtalklmeejdmifaaGreatDoor
open Go.RowKit

theorem space_no (c : Nat) (h : 128 ≤ c) : Lx.spaceB c = false := by unfold Lx.spaceB; simp; omega
theorem digit_no (c : Nat) (h : 128 ≤ c) : Lx.digitB c = false := by unfold Lx.digitB; simp; omega
theorem tw_go {s : Bs} {k : Nat} (p : UInt8 → Bool) (h : k < s.length) (hp : p s[k] = true) : ((s.drop k).takeWhile p).length = ((s.drop (k + 1)).takeWhile p).length + 1 := by
  rw [List.drop_eq_getElem_cons h, List.takeWhile_cons, if_pos hp]; rfl
theorem tw_stop {s : Bs} {k : Nat} (p : UInt8 → Bool) (h : k < s.length) (hp : p s[k] = false) : ((s.drop k).takeWhile p).length = 0 := by
  rw [List.drop_eq_getElem_cons h, List.takeWhile_cons, if_neg (by simp [hp])]; rfl
theorem tw_end (s : Bs) (p : UInt8 → Bool) : ((s.drop s.length).takeWhile p).length = 0 := by rw [List.drop_length]; rfl
theorem space_byte (b : UInt8) : Lx.spaceB b.toNat = (decide (b = 9) || decide (b = 10) || decide (b = 13) || decide (b = 32)) := by
  have h : ∀ i : Fin 256, Lx.spaceB (UInt8.ofNat i.val).toNat = (decide (UInt8.ofNat i.val = 9) || decide (UInt8.ofNat i.val = 10) || decide (UInt8.ofNat i.val = 13) || decide (UInt8.ofNat i.val = 32)) := by decide +kernel
  have := h ⟨b.toNat, b.toNat_lt⟩
  simpa using this
theorem byteAt_lt (l : Bs) (k : Nat) : byteAt l k < 256 := by unfold byteAt; exact UInt8.toNat_lt _
theorem dec_lt (l : Bs) : (dec l).1 < 100000000 := by
  have h0 := byteAt_lt l 0
  have hr : Utf8.runeError < 100000000 := by decide
  unfold dec
  split
  · show byteAt l 0 < _; omega
  split
  · split
    · show (byteAt l 0 % 32) * 64 + byteAt l 1 % 64 < _; omega
    · exact hr
  split
  · split
    · show (byteAt l 0 % 16) * 4096 + (byteAt l 1 % 64) * 64 + byteAt l 2 % 64 < _; omega
    · exact hr
  split
  · split
    · show (byteAt l 0 % 8) * 262144 + (byteAt l 1 % 64) * 4096 + (byteAt l 2 % 64) * 64 + byteAt l 3 % 64 < _; omega
    · exact hr
  · exact hr
theorem space_ways {c : Nat} (h : Lx.spaceB c = true) : c = 9 ∨ c = 10 ∨ c = 13 ∨ c = 32 := by
  unfold Lx.spaceB at h; simp at h; omega
theorem space_not {c : Nat} (h : Lx.spaceB c = false) : c ≠ 9 ∧ c ≠ 10 ∧ c ≠ 13 ∧ c ≠ 32 := by
  unfold Lx.spaceB at h; simp at h; omega
theorem digit_ways {c : Nat} (h : Lx.digitB c = true) : 48 ≤ c ∧ c ≤ 57 := by
  unfold Lx.digitB at h; simp at h; omega
theorem digit_not {c : Nat} (h : Lx.digitB c = false) : c < 48 ∨ 57 < c := by
  unfold Lx.digitB at h; simp at h; omega
def oneT (i : Nat) (x : Nat × Nat) : Value := .agg #[.int .i64 x.1, .int .i64 i, .int .i64 x.2]
theorem oneT_of (i : Nat) (x : Nat × Nat) (a b : Int) (h1 : a = x.1) (h2 : b = x.2) : Ending.returned (.agg #[.int .i64 a, .int .i64 i, .int .i64 b]) = .returned (oneT i x) := by subst h1 h2; rfl
theorem infoRT : (Tryz.prog.info? 124).map (fun i => (i.zero, i.size, i.bytes)) = some (some (.agg #[.int .i64 0, .int .i64 0, .int .i64 0]), 3, 24) := by kernel_rfl

theorem sign_ways (l : Bs) (hne : l ≠ []) : Lx.signM l = if ([61, 62].isPrefixOf l || [61, 61].isPrefixOf l || [43, 43].isPrefixOf l) = true then 2 else if (dec l).1 ∈ Lx.signs.map UInt8.toNat then 1 else 0 := by
  unfold Lx.signM Lx.twoM
  by_cases h : ([61, 62].isPrefixOf l || [61, 61].isPrefixOf l || [43, 43].isPrefixOf l) = true
  · rw [if_pos h, if_pos h]
  · rw [if_neg h, if_neg h]
    cases l with
    | nil => exact absurd rfl hne
    | cons a t =>
      have hb : byteAt (a :: t) 0 = a.toNat := rfl
      have e : Lx.signs.contains a = decide ((dec (a :: t)).1 ∈ Lx.signs.map UInt8.toNat) := by
        rcases Nat.lt_or_ge a.toNat 128 with h1 | h1
        · rw [dec_small (by rw [hb]; exact h1), hb, Bool.eq_iff_iff]
          simp only [List.contains_iff_mem, decide_eq_true_eq, List.mem_map]
          exact ⟨fun h => ⟨a, h, rfl⟩, fun ⟨x, hx, he⟩ => by rw [← UInt8.toNat_inj.1 he]; exact hx⟩
        · have h2 := dec_big (l := a :: t) (by rw [hb]; exact h1)
          have hs : ∀ x ∈ Lx.signs, x.toNat < 128 := by decide
          rw [Bool.eq_iff_iff]
          simp only [List.contains_iff_mem, decide_eq_true_eq, List.mem_map]
          constructor
          · intro h; have := hs a h; omega
          · rintro ⟨x, hx, he⟩; have := hs x hx; omega
      simp only [e, decide_eq_true_eq]
theorem sign_at (j : Nat) (hj : j < 13) (c : Nat) : ((c : Int) == wrap64 ((((⟨#[40, 41, 91, 93, 44, 59, 61, 60, 43, 45, 42, 46, 63]⟩ : ByteArray)[j]'hj).toNat : Nat) : Int)) = decide ((Lx.signs[j]?.getD 0).toNat = c) := by
  have hl13 : j < Lx.signs.length := hj
  have e : ((⟨#[40, 41, 91, 93, 44, 59, 61, 60, 43, 45, 42, 46, 63]⟩ : ByteArray)[j]'hj) = Lx.signs[j] := rfl
  have hlt := (Lx.signs[j]).toNat_lt
  rw [e, IntWalk.wrap64_in _ (by omega), List.getElem?_eq_getElem hl13, Bool.eq_iff_iff]
  simp
  omega

section
variable (s : Bs) (i : Nat) (w : World)
abbrev wT (w : World) : World := w.alloc (.cells #[.int .i64 0, .int .i64 0, .int .i64 0] 124)

set_option maxHeartbeats 2000000 in
set_option maxRecDepth 100000 in
theorem one_space (hi : i < s.length) (hl : s.length ≤ 100000000) (hS : Lx.spaceB (dec (s.drop i)).1 = true) :
    Calls Tryz.prog 87 #[.string ⟨s.toArray⟩, .int .i64 i] w fun e w' => e = .returned (oneT i (1, Lx.run Lx.spaceB (s.drop i))) ∧ Below w.heap.size w w' := by
  have hd := fun w => rune_at s i hi w
  have hlt := fun w => rletter_walk (dec (s.drop i)).1 (dec_lt _) w
  have hb1 : Below w.heap.size w (wT w) := (Below.refl _ _).alloc (Nat.le_refl _) _
  have hB1 : Blk (wT w) w.heap.size 124 #[.int .i64 0, .int .i64 0, .int .i64 0] := Blk.new _ _ _
  have i0 : (0 : Int) ≤ (i : Int) := by omega
  have i1 : (i : Int) < (s.length : Int) := by omega
  have i2 : (i : Int) ≤ (s.length : Int) := by omega
  have z0 := hB1.cell 0
  have z1 := hB1.cell 1
  have z2 := hB1.cell 2
  have f0 := hB1.frozen 0
  have f1 := hB1.frozen 1
  have f2 := hB1.frozen 2
  simp at z0 z1 z2
  have HR : Hid (Lx.run Lx.spaceB (s.drop i) = ((s.drop i).takeWhile fun b => Lx.spaceB b.toNat).length) := Lx.run_ascii _ space_no _
  generalize Lx.run Lx.spaceB (s.drop i) = R at *
  generalize dec (s.drop i) = D at *
  obtain ⟨c, z⟩ := D
  simp only at *
  have hw := space_ways hS
  clear hS
  rcases hw with rfl | rfl | rfl | rfl
  all_goals
    go_enter Tryz.func87, Tryz.ntmps87
    go_wp2_with fail
    refine (hd _).mono ?_
    rintro e w1 ⟨rfl, rfl⟩
    go_wp2_with fail
    refine (hlt _).mono ?_
    rintro e w1 ⟨rfl, rfl⟩
    go_wp2_with fail
    go_loop [8] (fun kv => ∃ k : Nat, kv = .int .i64 k ∧ i ≤ k ∧ k ≤ s.length ∧ Hid (R = (k - i) + ((s.drop k).takeWhile fun b => Lx.spaceB b.toNat).length)) (fun kv => s.length - (intOf kv).toNat)
    case atStart => exact ⟨i, rfl, by omega, by omega, by show _ = _; rw [HR.out]; omega⟩
    case round =>
      obtain ⟨k, rfl, hk1, hk2, H⟩ := hrel
      by_cases hlt : k < s.length
      · have j0 : (0 : Int) ≤ (k : Int) := by omega
        have j1 : (k : Int) < (s.length : Int) := by omega
        have e9 := bk_eq s k hlt 9
        have e10 := bk_eq s k hlt 10
        have e13 := bk_eq s k hlt 13
        have e32 := bk_eq s k hlt 32
        rw [show (((9 : UInt8).toNat : Nat) : Int) = 9 from rfl] at e9
        rw [show (((10 : UInt8).toNat : Nat) : Int) = 10 from rfl] at e10
        rw [show (((13 : UInt8).toNat : Nat) : Int) = 13 from rfl] at e13
        rw [show (((32 : UInt8).toNat : Nat) : Int) = 32 from rfl] at e32
        have hsp := space_byte s[k]
        have Hgo : Hid (Lx.spaceB s[k].toNat = true → R = (k + 1 - i) + ((s.drop (k + 1)).takeWhile fun b => Lx.spaceB b.toNat).length) := fun h => by
          have := H.out; rw [tw_go _ hlt h] at this; omega
        have Hno : Hid (Lx.spaceB s[k].toNat = false → R = k - i) := fun h => by
          have := H.out; rw [tw_stop _ hlt h] at this; omega
        generalize decide (s[k] = 9) = q9 at *
        generalize decide (s[k] = 10) = q10 at *
        generalize decide (s[k] = 13) = q13 at *
        generalize decide (s[k] = 32) = q32 at *
        generalize Lx.spaceB s[k].toNat = Q at *
        have hw : (q9 = true ∧ Q = true) ∨ (q9 = false ∧ q10 = true ∧ Q = true) ∨ (q9 = false ∧ q10 = false ∧ q13 = true ∧ Q = true) ∨ (q9 = false ∧ q10 = false ∧ q13 = false ∧ q32 = true ∧ Q = true) ∨ (q9 = false ∧ q10 = false ∧ q13 = false ∧ q32 = false ∧ Q = false) := by
          clear e9 e10 e13 e32 Hgo Hno; revert hsp; cases q9 <;> cases q10 <;> cases q13 <;> cases q32 <;> simp
        clear hsp H HR
        rcases hw with ⟨rfl, rfl⟩ | ⟨rfl, rfl, rfl⟩ | ⟨rfl, rfl, rfl, rfl⟩ | ⟨rfl, rfl, rfl, rfl, rfl⟩ | ⟨rfl, rfl, rfl, rfl, rfl⟩
        iterate 4
          · have Hn := Lib.hid (Hgo.out rfl)
            clear Hgo Hno
            go_wp2_with fail
            go_round
            case rel => exact ⟨k + 1, by go_num, by omega, by omega, Hn.out⟩
            case measure => simp [intOf]; omega
        · have Hn := Lib.hid (Hno.out rfl)
          clear Hgo Hno
          go_wp2_with fail
          have hB3 : Blk (w.alloc (.cells #[.int .i64 1, .int .i64 i, .int .i64 ((k : Int) - i)] 124)) w.heap.size 124 #[.int .i64 1, .int .i64 i, .int .i64 ((k : Int) - i)] := Blk.new _ _ _
          have hb3 : Below w.heap.size w (w.alloc (.cells #[.int .i64 1, .int .i64 i, .int .i64 ((k : Int) - i)] 124)) := (Below.refl _ _).alloc (Nat.le_refl _) _
          exact bodyPost_ret (v := .agg #[.int .i64 1, .int .i64 i, .int .i64 ((k : Int) - i)]) (results_cell_row (hu := Tryz.underlying124) (h := rfl) (hp := rfl) (hg := hB3) (hd := rfl) (hi := by kernel_rfl)) rfl ⟨oneT_of i _ _ _ rfl (by have := Hn.out; show _ = ((R : Nat) : Int); omega), hb3⟩
      · obtain rfl : k = s.length := by omega
        have Hn : Hid (R = s.length - i) := by show R = _; have := H.out; rw [tw_end] at this; omega
        clear H HR
        go_wp2_with fail
        have hB3 : Blk (w.alloc (.cells #[.int .i64 1, .int .i64 i, .int .i64 ((s.length : Int) - i)] 124)) w.heap.size 124 #[.int .i64 1, .int .i64 i, .int .i64 ((s.length : Int) - i)] := Blk.new _ _ _
        have hb3 : Below w.heap.size w (w.alloc (.cells #[.int .i64 1, .int .i64 i, .int .i64 ((s.length : Int) - i)] 124)) := (Below.refl _ _).alloc (Nat.le_refl _) _
        exact bodyPost_ret (v := .agg #[.int .i64 1, .int .i64 i, .int .i64 ((s.length : Int) - i)]) (results_cell_row (hu := Tryz.underlying124) (h := rfl) (hp := rfl) (hg := hB3) (hd := rfl) (hi := by kernel_rfl)) rfl ⟨oneT_of i _ _ _ rfl (by have := Hn.out; show _ = ((R : Nat) : Int); omega), hb3⟩

set_option maxHeartbeats 2000000 in
set_option maxRecDepth 100000 in
theorem one_line (hi : i < s.length) (hl : s.length ≤ 100000000) (hS : Lx.spaceB (dec (s.drop i)).1 = false) (hP1 : [45, 45].isPrefixOf (s.drop i) = true) :
    Calls Tryz.prog 87 #[.string ⟨s.toArray⟩, .int .i64 i] w fun e w' => e = .returned (oneT i (2, ((s.drop i).takeWhile (· != 10)).length)) ∧ Below w.heap.size w w' := by
  have hd := fun w => rune_at s i hi w
  have hlt := fun w => rletter_walk (dec (s.drop i)).1 (dec_lt _) w
  have hp1 : ∀ w, Calls Tryz.prog 124 #[.string ⟨s.toArray⟩, .int .i64 i, .int .u8 45, .int .u8 45] w fun e w' => e = .returned (.bool ([45, 45].isPrefixOf (s.drop i))) ∧ w' = w := fun w => has_walk s i 45 45 w hl (by omega)
  have hb1 : Below w.heap.size w (wT w) := (Below.refl _ _).alloc (Nat.le_refl _) _
  have hB1 : Blk (wT w) w.heap.size 124 #[.int .i64 0, .int .i64 0, .int .i64 0] := Blk.new _ _ _
  have i0 : (0 : Int) ≤ (i : Int) := by omega
  have i1 : (i : Int) < (s.length : Int) := by omega
  have i2 : (i : Int) ≤ (s.length : Int) := by omega
  have z0 := hB1.cell 0
  have z1 := hB1.cell 1
  have z2 := hB1.cell 2
  have f0 := hB1.frozen 0
  have f1 := hB1.frozen 1
  have f2 := hB1.frozen 2
  simp at z0 z1 z2
  generalize hR : ((s.drop i).takeWhile (· != 10)).length = R
  have HR := Lib.hid hR
  clear hR
  generalize dec (s.drop i) = D at *
  obtain ⟨c, z⟩ := D
  simp only at *
  obtain ⟨s9, s10, s13, s32⟩ := space_not hS
  have t9 : ((c : Int) == 9) = false := by simp; omega
  have t10 : ((c : Int) == 10) = false := by simp; omega
  have t13 : ((c : Int) == 13) = false := by simp; omega
  have t32 : ((c : Int) == 32) = false := by simp; omega
  clear s9 s10 s13 s32
  go_enter Tryz.func87, Tryz.ntmps87
  go_wp2_with fail
  refine (hd _).mono ?_
  rintro e w1 ⟨rfl, rfl⟩
  go_wp2_with fail
  refine (hlt _).mono ?_
  rintro e w1 ⟨rfl, rfl⟩
  go_wp2_with fail
  have hq := hp1 (wT w)
  rw [hP1] at hq
  refine hq.mono ?_
  clear hq
  rintro e w1 ⟨rfl, rfl⟩
  go_wp2_with fail
  go_loop [8] (fun kv => ∃ k : Nat, kv = .int .i64 k ∧ i ≤ k ∧ k ≤ s.length ∧ Hid (R = (k - i) + ((s.drop k).takeWhile (· != 10)).length)) (fun kv => s.length - (intOf kv).toNat)
  case atStart => exact ⟨i, rfl, by omega, by omega, by show _ = _; rw [← HR.out]; omega⟩
  case round =>
    obtain ⟨k, rfl, hk1, hk2, H⟩ := hrel
    by_cases hlt : k < s.length
    · have j0 : (0 : Int) ≤ (k : Int) := by omega
      have j1 : (k : Int) < (s.length : Int) := by omega
      have e10 := bk_eq s k hlt 10
      rw [show (((10 : UInt8).toNat : Nat) : Int) = 10 from rfl] at e10
      by_cases q : s[k] = 10
      · have Hn : Hid (R = k - i) := by show R = _; have := H.out; rw [tw_stop _ hlt (by simp [q])] at this; omega
        rw [decide_eq_true q] at e10
        have n10 : ((((⟨s.toArray⟩ : ByteArray)[k]'(by rw [mk_size]; exact hlt)).toNat : Int) != 10) = false := by rw [bne, e10]; rfl
        clear H HR q e10
        go_wp2_with fail
        have hB3 : Blk (w.alloc (.cells #[.int .i64 2, .int .i64 i, .int .i64 ((k : Int) - i)] 124)) w.heap.size 124 #[.int .i64 2, .int .i64 i, .int .i64 ((k : Int) - i)] := Blk.new _ _ _
        have hb3 : Below w.heap.size w (w.alloc (.cells #[.int .i64 2, .int .i64 i, .int .i64 ((k : Int) - i)] 124)) := (Below.refl _ _).alloc (Nat.le_refl _) _
        exact bodyPost_ret (v := .agg #[.int .i64 2, .int .i64 i, .int .i64 ((k : Int) - i)]) (results_cell_row (hu := Tryz.underlying124) (h := rfl) (hp := rfl) (hg := hB3) (hd := rfl) (hi := by kernel_rfl)) rfl ⟨oneT_of i _ _ _ rfl (by have := Hn.out; show _ = ((R : Nat) : Int); omega), hb3⟩
      · have Hn : Hid (R = (k + 1 - i) + ((s.drop (k + 1)).takeWhile (· != 10)).length) := by show R = _; have := H.out; rw [tw_go _ hlt (by simpa using q)] at this; omega
        rw [decide_eq_false q] at e10
        have n10 : ((((⟨s.toArray⟩ : ByteArray)[k]'(by rw [mk_size]; exact hlt)).toNat : Int) != 10) = true := by rw [bne, e10]; rfl
        clear H HR q e10
        go_wp2_with fail
        go_round
        case rel => exact ⟨k + 1, by go_num, by omega, by omega, Hn.out⟩
        case measure => simp [intOf]; omega
    · obtain rfl : k = s.length := by omega
      have Hn : Hid (R = s.length - i) := by show R = _; have := H.out; rw [tw_end] at this; omega
      clear H HR
      go_wp2_with fail
      have hB3 : Blk (w.alloc (.cells #[.int .i64 2, .int .i64 i, .int .i64 ((s.length : Int) - i)] 124)) w.heap.size 124 #[.int .i64 2, .int .i64 i, .int .i64 ((s.length : Int) - i)] := Blk.new _ _ _
      have hb3 : Below w.heap.size w (w.alloc (.cells #[.int .i64 2, .int .i64 i, .int .i64 ((s.length : Int) - i)] 124)) := (Below.refl _ _).alloc (Nat.le_refl _) _
      exact bodyPost_ret (v := .agg #[.int .i64 2, .int .i64 i, .int .i64 ((s.length : Int) - i)]) (results_cell_row (hu := Tryz.underlying124) (h := rfl) (hp := rfl) (hg := hB3) (hd := rfl) (hi := by kernel_rfl)) rfl ⟨oneT_of i _ _ _ rfl (by have := Hn.out; show _ = ((R : Nat) : Int); omega), hb3⟩

set_option maxHeartbeats 2000000 in
set_option maxRecDepth 100000 in
theorem one_remark (hi : i < s.length) (hl : s.length ≤ 100000000) (hS : Lx.spaceB (dec (s.drop i)).1 = false) (hP1 : [45, 45].isPrefixOf (s.drop i) = false) (hP2 : [123, 45].isPrefixOf (s.drop i) = true) :
    Calls Tryz.prog 87 #[.string ⟨s.toArray⟩, .int .i64 i] w fun e w' => e = .returned (oneT i (match Lx.remM 1 (s.drop (i + 2)) with | some k => (2, k + 2) | none => (8, s.length - i))) ∧ Below w.heap.size w w' := by
  have hd := fun w => rune_at s i hi w
  have hlt := fun w => rletter_walk (dec (s.drop i)).1 (dec_lt _) w
  have hp1 : ∀ w, Calls Tryz.prog 124 #[.string ⟨s.toArray⟩, .int .i64 i, .int .u8 45, .int .u8 45] w fun e w' => e = .returned (.bool ([45, 45].isPrefixOf (s.drop i))) ∧ w' = w := fun w => has_walk s i 45 45 w hl (by omega)
  have hp2 : ∀ w, Calls Tryz.prog 124 #[.string ⟨s.toArray⟩, .int .i64 i, .int .u8 123, .int .u8 45] w fun e w' => e = .returned (.bool ([123, 45].isPrefixOf (s.drop i))) ∧ w' = w := fun w => has_walk s i 123 45 w hl (by omega)
  have hns := fun w => nested_walk s i w hP2 hl
  have hRle : ∀ k, Lx.remM 1 (s.drop (i + 2)) = some k → i + 2 + k ≤ s.length := fun k hk => by
    have := Lx.remM_le _ _ _ hk
    rw [List.length_drop] at this; omega
  generalize Lx.remM 1 (s.drop (i + 2)) = R at *
  have hb1 : Below w.heap.size w (wT w) := (Below.refl _ _).alloc (Nat.le_refl _) _
  have hB1 : Blk (wT w) w.heap.size 124 #[.int .i64 0, .int .i64 0, .int .i64 0] := Blk.new _ _ _
  have i0 : (0 : Int) ≤ (i : Int) := by omega
  have i1 : (i : Int) < (s.length : Int) := by omega
  have i2 : (i : Int) ≤ (s.length : Int) := by omega
  have z0 := hB1.cell 0
  have z1 := hB1.cell 1
  have z2 := hB1.cell 2
  have f0 := hB1.frozen 0
  have f1 := hB1.frozen 1
  have f2 := hB1.frozen 2
  simp at z0 z1 z2
  generalize dec (s.drop i) = D at *
  obtain ⟨c, z⟩ := D
  simp only at *
  obtain ⟨s9, s10, s13, s32⟩ := space_not hS
  have t9 : ((c : Int) == 9) = false := by simp; omega
  have t10 : ((c : Int) == 10) = false := by simp; omega
  have t13 : ((c : Int) == 13) = false := by simp; omega
  have t32 : ((c : Int) == 32) = false := by simp; omega
  clear s9 s10 s13 s32
  go_enter Tryz.func87, Tryz.ntmps87
  go_wp2_with fail
  refine (hd _).mono ?_
  rintro e w1 ⟨rfl, rfl⟩
  go_wp2_with fail
  refine (hlt _).mono ?_
  rintro e w1 ⟨rfl, rfl⟩
  go_wp2_with fail
  have hq := hp1 (wT w)
  rw [hP1] at hq
  refine hq.mono ?_
  clear hq
  rintro e w1 ⟨rfl, rfl⟩
  go_wp2_with fail
  have hq := hp2 (wT w)
  rw [hP2] at hq
  refine hq.mono ?_
  clear hq
  rintro e w1 ⟨rfl, rfl⟩
  go_wp2_with fail
  cases R with
  | none =>
    have hns2 : ∀ w, Calls Tryz.prog 125 #[.string ⟨s.toArray⟩, .int .i64 i] w fun e w' => e = .returned (.tuple #[.int .i64 (s.length : Nat), .bool false]) ∧ w' = w := hns
    refine (hns2 _).mono ?_
    rintro e w1 ⟨rfl, rfl⟩
    go_wp2_with fail
    have hB3 : Blk (w.alloc (.cells #[.int .i64 8, .int .i64 i, .int .i64 ((s.length : Int) - i)] 124)) w.heap.size 124 #[.int .i64 8, .int .i64 i, .int .i64 ((s.length : Int) - i)] := Blk.new _ _ _
    have hb3 : Below w.heap.size w (w.alloc (.cells #[.int .i64 8, .int .i64 i, .int .i64 ((s.length : Int) - i)] 124)) := (Below.refl _ _).alloc (Nat.le_refl _) _
    exact bodyPost_ret (v := .agg #[.int .i64 8, .int .i64 i, .int .i64 ((s.length : Int) - i)]) (results_cell_row (hu := Tryz.underlying124) (h := rfl) (hp := rfl) (hg := hB3) (hd := rfl) (hi := by kernel_rfl)) rfl ⟨oneT_of i _ _ _ rfl (by show _ = ((s.length - i : Nat) : Int); omega), hb3⟩
  | some k =>
    have hns2 : ∀ w, Calls Tryz.prog 125 #[.string ⟨s.toArray⟩, .int .i64 i] w fun e w' => e = .returned (.tuple #[.int .i64 ((i + 2 + k : Nat) : Int), .bool true]) ∧ w' = w := hns
    have hkle : i + 2 + k ≤ s.length := hRle k rfl
    refine (hns2 _).mono ?_
    rintro e w1 ⟨rfl, rfl⟩
    go_wp2_with fail
    have hB3 : Blk (w.alloc (.cells #[.int .i64 2, .int .i64 i, .int .i64 ((i : Int) + 2 + k - i)] 124)) w.heap.size 124 #[.int .i64 2, .int .i64 i, .int .i64 ((i : Int) + 2 + k - i)] := Blk.new _ _ _
    have hb3 : Below w.heap.size w (w.alloc (.cells #[.int .i64 2, .int .i64 i, .int .i64 ((i : Int) + 2 + k - i)] 124)) := (Below.refl _ _).alloc (Nat.le_refl _) _
    exact bodyPost_ret (v := .agg #[.int .i64 2, .int .i64 i, .int .i64 ((i : Int) + 2 + k - i)]) (results_cell_row (hu := Tryz.underlying124) (h := rfl) (hp := rfl) (hg := hB3) (hd := rfl) (hi := by kernel_rfl)) rfl ⟨oneT_of i _ _ _ rfl (by show _ = ((k + 2 : Nat) : Int); omega), hb3⟩
end
end Go.Proofs.YtalklmeejdmifaaGreatDoor
/-
  WALKS of the document's tokens (package amanuensisref2): One, names and numbers.
-/
namespace Go.Proofs.YtalklmeejdmifaaGreatDoor
open Go.RowKit

section
variable (s : Bs) (i : Nat) (w : World)

set_option maxHeartbeats 2000000 in
set_option maxRecDepth 100000 in
theorem one_name (hi : i < s.length) (hl : s.length ≤ 100000000) (hS : Lx.spaceB (dec (s.drop i)).1 = false) (hP1 : [45, 45].isPrefixOf (s.drop i) = false) (hP2 : [123, 45].isPrefixOf (s.drop i) = false) (hL : Lx.letterB (dec (s.drop i)).1 = true) :
    Calls Tryz.prog 87 #[.string ⟨s.toArray⟩, .int .i64 i] w fun e w' => e = .returned (oneT i (if Lx.wordM ((s.drop i).take (Lx.run Lx.bothB (s.drop i))) then 4 else 3, Lx.run Lx.bothB (s.drop i))) ∧ Below w.heap.size w w' := by
  have hd := fun w => rune_at s i hi w
  have hlt := fun w => rletter_walk (dec (s.drop i)).1 (dec_lt _) w
  have hp1 : ∀ w, Calls Tryz.prog 124 #[.string ⟨s.toArray⟩, .int .i64 i, .int .u8 45, .int .u8 45] w fun e w' => e = .returned (.bool ([45, 45].isPrefixOf (s.drop i))) ∧ w' = w := fun w => has_walk s i 45 45 w hl (by omega)
  have hp2 : ∀ w, Calls Tryz.prog 124 #[.string ⟨s.toArray⟩, .int .i64 i, .int .u8 123, .int .u8 45] w fun e w' => e = .returned (.bool ([123, 45].isPrefixOf (s.drop i))) ∧ w' = w := fun w => has_walk s i 123 45 w hl (by omega)
  have hb1 : Below w.heap.size w (wT w) := (Below.refl _ _).alloc (Nat.le_refl _) _
  have hB1 : Blk (wT w) w.heap.size 124 #[.int .i64 0, .int .i64 0, .int .i64 0] := Blk.new _ _ _
  have i0 : (0 : Int) ≤ (i : Int) := by omega
  have i1 : (i : Int) < (s.length : Int) := by omega
  have i2 : (i : Int) ≤ (s.length : Int) := by omega
  have z0 := hB1.cell 0
  have z1 := hB1.cell 1
  have z2 := hB1.cell 2
  have f0 := hB1.frozen 0
  have f1 := hB1.frozen 1
  have f2 := hB1.frozen 2
  simp at z0 z1 z2
  have hwd := fun w => rword_walk ((s.drop i).take (Lx.run Lx.bothB (s.drop i))) w
  have hrle := Lx.run_le Lx.bothB _ (s.drop i) rfl
  rw [List.length_drop] at hrle
  have hex := ext_str s i (i + Lx.run Lx.bothB (s.drop i))
  rw [List.drop_take, Nat.add_sub_cancel_left] at hex
  unfold strV at hex
  rw [← hex] at hwd
  clear hex
  generalize Lx.wordM ((s.drop i).take (Lx.run Lx.bothB (s.drop i))) = B at *
  generalize hR : Lx.run Lx.bothB (s.drop i) = R at *
  have HR := Lib.hid hR
  clear hR
  have Hwd := Lib.hid hwd
  clear hwd
  rw [hL] at hlt
  generalize dec (s.drop i) = D at *
  obtain ⟨c, z⟩ := D
  simp only at *
  obtain ⟨s9, s10, s13, s32⟩ := space_not hS
  have t9 : ((c : Int) == 9) = false := by simp; omega
  have t10 : ((c : Int) == 10) = false := by simp; omega
  have t13 : ((c : Int) == 13) = false := by simp; omega
  have t32 : ((c : Int) == 32) = false := by simp; omega
  clear s9 s10 s13 s32
  go_enter Tryz.func87, Tryz.ntmps87
  go_wp2_with fail
  refine (hd _).mono ?_
  rintro e w1 ⟨rfl, rfl⟩
  go_wp2_with fail
  refine (hlt _).mono ?_
  rintro e w1 ⟨rfl, rfl⟩
  go_wp2_with fail
  have hq := hp1 (wT w)
  rw [hP1] at hq
  refine hq.mono ?_
  clear hq
  rintro e w1 ⟨rfl, rfl⟩
  go_wp2_with fail
  have hq := hp2 (wT w)
  rw [hP2] at hq
  refine hq.mono ?_
  clear hq
  rintro e w1 ⟨rfl, rfl⟩
  go_wp2_with fail
  go_loop [8] (fun kv => ∃ k : Nat, kv = .int .i64 k ∧ i ≤ k ∧ k ≤ s.length ∧ Hid (R = (k - i) + Lx.run Lx.bothB (s.drop k))) (fun kv => s.length - (intOf kv).toNat)
  case atStart => exact ⟨i, rfl, by omega, by omega, by show _ = _; rw [← HR.out]; omega⟩
  case round =>
    obtain ⟨k, rfl, hk1, hk2, H⟩ := hrel
    have HRk : Hid (Lx.bothB (dec (s.drop k)).1 = false → R = k - i) := fun h => by
      have := H.out; rw [Lx.run_stop _ h] at this; omega
    have HRe : Hid (k = s.length → R = k - i) := fun h => by
      have := H.out; rw [h, List.drop_length, Lx.run_nil] at this; omega
    by_cases hlt2 : k < s.length
    · have j0 : (0 : Int) ≤ (k : Int) := by omega
      have j1 : (k : Int) < (s.length : Int) := by omega
      have j2 : (k : Int) ≤ (s.length : Int) := by omega
      have j4 : (i : Int) ≤ (k : Int) := by omega
      have hne : s.drop k ≠ [] := by intro e; have := congrArg List.length e; simp at this; omega
      have hdk := fun w => rune_at s k hlt2 w
      have hltk := fun w => rletter_walk (dec (s.drop k)).1 (dec_lt _) w
      have hcb := dec_lt (s.drop k)
      have hsz := (dec_size (s.drop k)).1
      have hle := dec_le (s.drop k) hne
      rw [List.length_drop] at hle
      have Hgo : Hid (Lx.bothB (dec (s.drop k)).1 = true → R = (k + (dec (s.drop k)).2 - i) + Lx.run Lx.bothB (s.drop (k + (dec (s.drop k)).2))) := fun h => by
        have := H.out; rw [Lx.run_go _ hne h, List.drop_drop] at this; omega
      generalize dec (s.drop k) = D2 at *
      obtain ⟨d, m⟩ := D2
      simp only at hdk hltk hcb hsz hle Hgo HRk
      have hbo : Hid (Lx.bothB d = (Lx.letterB d || Lx.digitB d)) := rfl
      have Hdk := Lib.hid hdk
      clear hdk hne H HR
      cases hLd : Lx.letterB d with
      | true =>
        have Hn := Lib.hid (Hgo.out (by rw [hbo.out, hLd]; rfl))
        rw [hLd] at hltk
        clear Hgo HRk hbo
        go_wp2_with fail
        refine (Hdk.out _).mono ?_
        rintro e w1 ⟨rfl, rfl⟩
        go_wp2_with fail
        refine (hltk _).mono ?_
        rintro e w1 ⟨rfl, rfl⟩
        go_wp2_with fail
        go_round
        case rel => exact ⟨k + m, by go_num, by omega, by omega, Hn.out⟩
        case measure => simp [intOf]; omega
      | false =>
        rw [hLd] at hltk
        cases hDd : Lx.digitB d with
        | true =>
          have Hn := Lib.hid (Hgo.out (by rw [hbo.out, hLd, hDd]; rfl))
          obtain ⟨d1, d2⟩ := digit_ways hDd
          have g1 : ¬ (d : Int) < 48 := by omega
          have g2 : ¬ (57 : Int) < (d : Int) := by omega
          clear Hgo HRk hbo d1 d2
          go_wp2_with fail
          refine (Hdk.out _).mono ?_
          rintro e w1 ⟨rfl, rfl⟩
          go_wp2_with fail
          refine (hltk _).mono ?_
          rintro e w1 ⟨rfl, rfl⟩
          go_wp2_with fail
          go_round
          case rel => exact ⟨k + m, by go_num, by omega, by omega, Hn.out⟩
          case measure => simp [intOf]; omega
        | false =>
          have Hn := Lib.hid (HRk.out (by rw [hbo.out, hLd, hDd]; rfl))
          have hkR : k = i + R := by have := Hn.out; omega
          clear Hgo HRk hbo HRe
          rcases digit_not hDd with g | g
          · have g1 : (d : Int) < 48 := by omega
            subst hkR
            go_wp2_with fail
            refine (Hdk.out _).mono ?_
            rintro e w1 ⟨rfl, rfl⟩
            go_wp2_with fail
            refine (hltk _).mono ?_
            rintro e w1 ⟨rfl, rfl⟩
            go_wp2_with fail
            refine (Hwd.out _).mono ?_
            rintro e w2 ⟨rfl, hb2⟩
            have hB2 := hB1.below hb2 (by simp)
            have hb12 := hb1.trans (hb2.mono (by simp))
            have z0 := hB2.cell 0
            have z1 := hB2.cell 1
            have z2 := hB2.cell 2
            have f0 := hB2.frozen 0
            have f1 := hB2.frozen 1
            have f2 := hB2.frozen 2
            simp at z0 z1 z2
            cases B with
            | true =>
              go_wp2_with fail
              have hB3 := ((hB2.set_ 0 (.int .i64 4)).set_ 1 (.int .i64 i)).set_ 2 (.int .i64 ((i : Int) + R - i))
              have hb3 := ((hb12.setCell (p := ⟨w.heap.size, 0, none⟩) (Nat.le_refl _) (.int .i64 4)).setCell (p := ⟨w.heap.size, 1, none⟩) (Nat.le_refl _) (.int .i64 i)).setCell (p := ⟨w.heap.size, 2, none⟩) (Nat.le_refl _) (.int .i64 ((i : Int) + R - i))
              exact bodyPost_ret (v := .agg #[.int .i64 4, .int .i64 i, .int .i64 ((i : Int) + R - i)]) (results_cell_row (hu := Tryz.underlying124) (h := rfl) (hp := rfl) (hg := hB3) (hd := rfl) (hi := by kernel_rfl)) rfl ⟨oneT_of i _ _ _ rfl (by show _ = ((R : Nat) : Int); omega), hb3⟩
            | false =>
              go_wp2_with fail
              have hB3 := ((hB2.set_ 0 (.int .i64 3)).set_ 1 (.int .i64 i)).set_ 2 (.int .i64 ((i : Int) + R - i))
              have hb3 := ((hb12.setCell (p := ⟨w.heap.size, 0, none⟩) (Nat.le_refl _) (.int .i64 3)).setCell (p := ⟨w.heap.size, 1, none⟩) (Nat.le_refl _) (.int .i64 i)).setCell (p := ⟨w.heap.size, 2, none⟩) (Nat.le_refl _) (.int .i64 ((i : Int) + R - i))
              exact bodyPost_ret (v := .agg #[.int .i64 3, .int .i64 i, .int .i64 ((i : Int) + R - i)]) (results_cell_row (hu := Tryz.underlying124) (h := rfl) (hp := rfl) (hg := hB3) (hd := rfl) (hi := by kernel_rfl)) rfl ⟨oneT_of i _ _ _ rfl (by show _ = ((R : Nat) : Int); omega), hb3⟩
          · have g1 : ¬ (d : Int) < 48 := by omega
            have g2 : (57 : Int) < (d : Int) := by omega
            subst hkR
            go_wp2_with fail
            refine (Hdk.out _).mono ?_
            rintro e w1 ⟨rfl, rfl⟩
            go_wp2_with fail
            refine (hltk _).mono ?_
            rintro e w1 ⟨rfl, rfl⟩
            go_wp2_with fail
            refine (Hwd.out _).mono ?_
            rintro e w2 ⟨rfl, hb2⟩
            have hB2 := hB1.below hb2 (by simp)
            have hb12 := hb1.trans (hb2.mono (by simp))
            have z0 := hB2.cell 0
            have z1 := hB2.cell 1
            have z2 := hB2.cell 2
            have f0 := hB2.frozen 0
            have f1 := hB2.frozen 1
            have f2 := hB2.frozen 2
            simp at z0 z1 z2
            cases B with
            | true =>
              go_wp2_with fail
              have hB3 := ((hB2.set_ 0 (.int .i64 4)).set_ 1 (.int .i64 i)).set_ 2 (.int .i64 ((i : Int) + R - i))
              have hb3 := ((hb12.setCell (p := ⟨w.heap.size, 0, none⟩) (Nat.le_refl _) (.int .i64 4)).setCell (p := ⟨w.heap.size, 1, none⟩) (Nat.le_refl _) (.int .i64 i)).setCell (p := ⟨w.heap.size, 2, none⟩) (Nat.le_refl _) (.int .i64 ((i : Int) + R - i))
              exact bodyPost_ret (v := .agg #[.int .i64 4, .int .i64 i, .int .i64 ((i : Int) + R - i)]) (results_cell_row (hu := Tryz.underlying124) (h := rfl) (hp := rfl) (hg := hB3) (hd := rfl) (hi := by kernel_rfl)) rfl ⟨oneT_of i _ _ _ rfl (by show _ = ((R : Nat) : Int); omega), hb3⟩
            | false =>
              go_wp2_with fail
              have hB3 := ((hB2.set_ 0 (.int .i64 3)).set_ 1 (.int .i64 i)).set_ 2 (.int .i64 ((i : Int) + R - i))
              have hb3 := ((hb12.setCell (p := ⟨w.heap.size, 0, none⟩) (Nat.le_refl _) (.int .i64 3)).setCell (p := ⟨w.heap.size, 1, none⟩) (Nat.le_refl _) (.int .i64 i)).setCell (p := ⟨w.heap.size, 2, none⟩) (Nat.le_refl _) (.int .i64 ((i : Int) + R - i))
              exact bodyPost_ret (v := .agg #[.int .i64 3, .int .i64 i, .int .i64 ((i : Int) + R - i)]) (results_cell_row (hu := Tryz.underlying124) (h := rfl) (hp := rfl) (hg := hB3) (hd := rfl) (hi := by kernel_rfl)) rfl ⟨oneT_of i _ _ _ rfl (by show _ = ((R : Nat) : Int); omega), hb3⟩
    · have Hn := Lib.hid (HRe.out (by omega))
      have hkR : k = i + R := by have := Hn.out; omega
      clear H HR HRk HRe
      subst hkR
      have j0 : (0 : Int) ≤ ((i + R : Nat) : Int) := by omega
      have j1 : (i : Int) ≤ ((i + R : Nat) : Int) := by omega
      have j2 : ((i + R : Nat) : Int) ≤ (s.length : Int) := by omega
      have j3 : ¬ ((i + R : Nat) : Int) < (s.length : Int) := by omega
      go_wp2_with fail
      refine (Hwd.out _).mono ?_
      rintro e w2 ⟨rfl, hb2⟩
      have hB2 := hB1.below hb2 (by simp)
      have hb12 := hb1.trans (hb2.mono (by simp))
      have z0 := hB2.cell 0
      have z1 := hB2.cell 1
      have z2 := hB2.cell 2
      have f0 := hB2.frozen 0
      have f1 := hB2.frozen 1
      have f2 := hB2.frozen 2
      simp at z0 z1 z2
      cases B with
      | true =>
        go_wp2_with fail
        have hB3 := ((hB2.set_ 0 (.int .i64 4)).set_ 1 (.int .i64 i)).set_ 2 (.int .i64 ((i : Int) + R - i))
        have hb3 := ((hb12.setCell (p := ⟨w.heap.size, 0, none⟩) (Nat.le_refl _) (.int .i64 4)).setCell (p := ⟨w.heap.size, 1, none⟩) (Nat.le_refl _) (.int .i64 i)).setCell (p := ⟨w.heap.size, 2, none⟩) (Nat.le_refl _) (.int .i64 ((i : Int) + R - i))
        exact bodyPost_ret (v := .agg #[.int .i64 4, .int .i64 i, .int .i64 ((i : Int) + R - i)]) (results_cell_row (hu := Tryz.underlying124) (h := rfl) (hp := rfl) (hg := hB3) (hd := rfl) (hi := by kernel_rfl)) rfl ⟨oneT_of i _ _ _ rfl (by show _ = ((R : Nat) : Int); omega), hb3⟩
      | false =>
        go_wp2_with fail
        have hB3 := ((hB2.set_ 0 (.int .i64 3)).set_ 1 (.int .i64 i)).set_ 2 (.int .i64 ((i : Int) + R - i))
        have hb3 := ((hb12.setCell (p := ⟨w.heap.size, 0, none⟩) (Nat.le_refl _) (.int .i64 3)).setCell (p := ⟨w.heap.size, 1, none⟩) (Nat.le_refl _) (.int .i64 i)).setCell (p := ⟨w.heap.size, 2, none⟩) (Nat.le_refl _) (.int .i64 ((i : Int) + R - i))
        exact bodyPost_ret (v := .agg #[.int .i64 3, .int .i64 i, .int .i64 ((i : Int) + R - i)]) (results_cell_row (hu := Tryz.underlying124) (h := rfl) (hp := rfl) (hg := hB3) (hd := rfl) (hi := by kernel_rfl)) rfl ⟨oneT_of i _ _ _ rfl (by show _ = ((R : Nat) : Int); omega), hb3⟩

set_option maxHeartbeats 2000000 in
set_option maxRecDepth 100000 in
theorem one_int (hi : i < s.length) (hl : s.length ≤ 100000000) (hS : Lx.spaceB (dec (s.drop i)).1 = false) (hP1 : [45, 45].isPrefixOf (s.drop i) = false) (hP2 : [123, 45].isPrefixOf (s.drop i) = false) (hL : Lx.letterB (dec (s.drop i)).1 = false) (hD : Lx.digitB (dec (s.drop i)).1 = true) :
    Calls Tryz.prog 87 #[.string ⟨s.toArray⟩, .int .i64 i] w fun e w' => e = .returned (oneT i (if Lx.run Lx.digitB (s.drop i) ≤ 18 then 5 else 8, Lx.run Lx.digitB (s.drop i))) ∧ Below w.heap.size w w' := by
  have hd := fun w => rune_at s i hi w
  have hlt := fun w => rletter_walk (dec (s.drop i)).1 (dec_lt _) w
  have hp1 : ∀ w, Calls Tryz.prog 124 #[.string ⟨s.toArray⟩, .int .i64 i, .int .u8 45, .int .u8 45] w fun e w' => e = .returned (.bool ([45, 45].isPrefixOf (s.drop i))) ∧ w' = w := fun w => has_walk s i 45 45 w hl (by omega)
  have hp2 : ∀ w, Calls Tryz.prog 124 #[.string ⟨s.toArray⟩, .int .i64 i, .int .u8 123, .int .u8 45] w fun e w' => e = .returned (.bool ([123, 45].isPrefixOf (s.drop i))) ∧ w' = w := fun w => has_walk s i 123 45 w hl (by omega)
  have hb1 : Below w.heap.size w (wT w) := (Below.refl _ _).alloc (Nat.le_refl _) _
  have hB1 : Blk (wT w) w.heap.size 124 #[.int .i64 0, .int .i64 0, .int .i64 0] := Blk.new _ _ _
  have i0 : (0 : Int) ≤ (i : Int) := by omega
  have i1 : (i : Int) < (s.length : Int) := by omega
  have i2 : (i : Int) ≤ (s.length : Int) := by omega
  have z0 := hB1.cell 0
  have z1 := hB1.cell 1
  have z2 := hB1.cell 2
  have f0 := hB1.frozen 0
  have f1 := hB1.frozen 1
  have f2 := hB1.frozen 2
  simp at z0 z1 z2
  have HR : Hid (Lx.run Lx.digitB (s.drop i) = ((s.drop i).takeWhile fun b => Lx.digitB b.toNat).length) := Lx.run_ascii _ digit_no _
  generalize Lx.run Lx.digitB (s.drop i) = R at *
  rw [hL] at hlt
  generalize dec (s.drop i) = D at *
  obtain ⟨c, z⟩ := D
  simp only at *
  obtain ⟨s9, s10, s13, s32⟩ := space_not hS
  have t9 : ((c : Int) == 9) = false := by simp; omega
  have t10 : ((c : Int) == 10) = false := by simp; omega
  have t13 : ((c : Int) == 13) = false := by simp; omega
  have t32 : ((c : Int) == 32) = false := by simp; omega
  clear s9 s10 s13 s32
  obtain ⟨d1, d2⟩ := digit_ways hD
  have g1 : (48 : Int) ≤ (c : Int) := by omega
  have g2 : (c : Int) ≤ 57 := by omega
  clear d1 d2 hD
  go_enter Tryz.func87, Tryz.ntmps87
  go_wp2_with fail
  refine (hd _).mono ?_
  rintro e w1 ⟨rfl, rfl⟩
  go_wp2_with fail
  refine (hlt _).mono ?_
  rintro e w1 ⟨rfl, rfl⟩
  go_wp2_with fail
  have hq := hp1 (wT w)
  rw [hP1] at hq
  refine hq.mono ?_
  clear hq
  rintro e w1 ⟨rfl, rfl⟩
  go_wp2_with fail
  have hq := hp2 (wT w)
  rw [hP2] at hq
  refine hq.mono ?_
  clear hq
  rintro e w1 ⟨rfl, rfl⟩
  go_wp2_with fail
  go_loop [8] (fun kv => ∃ k : Nat, kv = .int .i64 k ∧ i ≤ k ∧ k ≤ s.length ∧ Hid (R = (k - i) + ((s.drop k).takeWhile fun b => Lx.digitB b.toNat).length)) (fun kv => s.length - (intOf kv).toNat)
  case atStart => exact ⟨i, rfl, by omega, by omega, by show _ = _; rw [HR.out]; omega⟩
  case round =>
    obtain ⟨k, rfl, hk1, hk2, H⟩ := hrel
    by_cases hlt2 : k < s.length
    · have j0 : (0 : Int) ≤ (k : Int) := by omega
      have j1 : (k : Int) < (s.length : Int) := by omega
      have hbb : (⟨s.toArray⟩ : ByteArray)[k]'(by rw [mk_size]; exact hlt2) = s[k] := by rfl
      have Hgo : Hid (Lx.digitB s[k].toNat = true → R = (k + 1 - i) + ((s.drop (k + 1)).takeWhile fun b => Lx.digitB b.toNat).length) := fun h => by
        have := H.out; rw [tw_go _ hlt2 h] at this; omega
      have Hno : Hid (Lx.digitB s[k].toNat = false → R = k - i) := fun h => by
        have := H.out; rw [tw_stop _ hlt2 h] at this; omega
      rw [← hbb] at Hgo Hno
      clear hbb
      generalize hN : ((⟨s.toArray⟩ : ByteArray)[k]'(by rw [mk_size]; exact hlt2)).toNat = N at *
      cases hq : Lx.digitB N with
      | true =>
        obtain ⟨d1, d2⟩ := digit_ways hq
        have g3 : (48 : Int) ≤ (N : Int) := by omega
        have g4 : (N : Int) ≤ 57 := by omega
        have Hn := Lib.hid (Hgo.out hq)
        clear Hgo Hno H HR hq d1 d2
        go_wp2_with fail
        go_round
        case rel => exact ⟨k + 1, by go_num, by omega, by omega, Hn.out⟩
        case measure => simp [intOf]; omega
      | false =>
        have Hn := Lib.hid (Hno.out hq)
        have hkR : k = i + R := by have := Hn.out; omega
        clear Hgo Hno H HR Hn
        rcases digit_not hq with g | g
        · have g3 : ¬ (48 : Int) ≤ (N : Int) := by omega
          clear hq
          by_cases h18 : R ≤ 18
          · have h19 : ¬ (18 : Int) < (k : Int) - (i : Int) := by omega
            have HK := Lib.hid hkR
            have H18 := Lib.hid h18
            clear h18 hkR
            go_wp2_with fail
            have hB3 : Blk (w.alloc (.cells #[.int .i64 5, .int .i64 i, .int .i64 ((k : Int) - i)] 124)) w.heap.size 124 #[.int .i64 5, .int .i64 i, .int .i64 ((k : Int) - i)] := Blk.new _ _ _
            have hb3 : Below w.heap.size w (w.alloc (.cells #[.int .i64 5, .int .i64 i, .int .i64 ((k : Int) - i)] 124)) := (Below.refl _ _).alloc (Nat.le_refl _) _
            exact bodyPost_ret (v := .agg #[.int .i64 5, .int .i64 i, .int .i64 ((k : Int) - i)]) (results_cell_row (hu := Tryz.underlying124) (h := rfl) (hp := rfl) (hg := hB3) (hd := rfl) (hi := by kernel_rfl)) rfl ⟨oneT_of i _ _ _ (by first | rfl | (rw [if_pos H18.out]; rfl)) (by show _ = ((R : Nat) : Int); have := HK.out; omega), hb3⟩
          · have h19 : (18 : Int) < (k : Int) - (i : Int) := by omega
            have HK := Lib.hid hkR
            have H18 := Lib.hid h18
            clear h18 hkR
            go_wp2_with fail
            have hB3 : Blk (w.alloc (.cells #[.int .i64 8, .int .i64 i, .int .i64 ((k : Int) - i)] 124)) w.heap.size 124 #[.int .i64 8, .int .i64 i, .int .i64 ((k : Int) - i)] := Blk.new _ _ _
            have hb3 : Below w.heap.size w (w.alloc (.cells #[.int .i64 8, .int .i64 i, .int .i64 ((k : Int) - i)] 124)) := (Below.refl _ _).alloc (Nat.le_refl _) _
            exact bodyPost_ret (v := .agg #[.int .i64 8, .int .i64 i, .int .i64 ((k : Int) - i)]) (results_cell_row (hu := Tryz.underlying124) (h := rfl) (hp := rfl) (hg := hB3) (hd := rfl) (hi := by kernel_rfl)) rfl ⟨oneT_of i _ _ _ (by first | rfl | (rw [if_neg H18.out]; rfl)) (by show _ = ((R : Nat) : Int); have := HK.out; omega), hb3⟩
        · have g3 : (48 : Int) ≤ (N : Int) := by omega
          have g4 : ¬ (N : Int) ≤ 57 := by omega
          clear hq
          by_cases h18 : R ≤ 18
          · have h19 : ¬ (18 : Int) < (k : Int) - (i : Int) := by omega
            have HK := Lib.hid hkR
            have H18 := Lib.hid h18
            clear h18 hkR
            go_wp2_with fail
            have hB3 : Blk (w.alloc (.cells #[.int .i64 5, .int .i64 i, .int .i64 ((k : Int) - i)] 124)) w.heap.size 124 #[.int .i64 5, .int .i64 i, .int .i64 ((k : Int) - i)] := Blk.new _ _ _
            have hb3 : Below w.heap.size w (w.alloc (.cells #[.int .i64 5, .int .i64 i, .int .i64 ((k : Int) - i)] 124)) := (Below.refl _ _).alloc (Nat.le_refl _) _
            exact bodyPost_ret (v := .agg #[.int .i64 5, .int .i64 i, .int .i64 ((k : Int) - i)]) (results_cell_row (hu := Tryz.underlying124) (h := rfl) (hp := rfl) (hg := hB3) (hd := rfl) (hi := by kernel_rfl)) rfl ⟨oneT_of i _ _ _ (by first | rfl | (rw [if_pos H18.out]; rfl)) (by show _ = ((R : Nat) : Int); have := HK.out; omega), hb3⟩
          · have h19 : (18 : Int) < (k : Int) - (i : Int) := by omega
            have HK := Lib.hid hkR
            have H18 := Lib.hid h18
            clear h18 hkR
            go_wp2_with fail
            have hB3 : Blk (w.alloc (.cells #[.int .i64 8, .int .i64 i, .int .i64 ((k : Int) - i)] 124)) w.heap.size 124 #[.int .i64 8, .int .i64 i, .int .i64 ((k : Int) - i)] := Blk.new _ _ _
            have hb3 : Below w.heap.size w (w.alloc (.cells #[.int .i64 8, .int .i64 i, .int .i64 ((k : Int) - i)] 124)) := (Below.refl _ _).alloc (Nat.le_refl _) _
            exact bodyPost_ret (v := .agg #[.int .i64 8, .int .i64 i, .int .i64 ((k : Int) - i)]) (results_cell_row (hu := Tryz.underlying124) (h := rfl) (hp := rfl) (hg := hB3) (hd := rfl) (hi := by kernel_rfl)) rfl ⟨oneT_of i _ _ _ (by first | rfl | (rw [if_neg H18.out]; rfl)) (by show _ = ((R : Nat) : Int); have := HK.out; omega), hb3⟩
    · have hkR : k = i + R := by have := H.out; rw [show k = s.length by omega, tw_end] at this; omega
      have j1 : ¬ (k : Int) < (s.length : Int) := by omega
      clear H HR
      by_cases h18 : R ≤ 18
      · have h19 : ¬ (18 : Int) < (k : Int) - (i : Int) := by omega
        have HK := Lib.hid hkR
        have H18 := Lib.hid h18
        clear h18 hkR
        go_wp2_with fail
        have hB3 : Blk (w.alloc (.cells #[.int .i64 5, .int .i64 i, .int .i64 ((k : Int) - i)] 124)) w.heap.size 124 #[.int .i64 5, .int .i64 i, .int .i64 ((k : Int) - i)] := Blk.new _ _ _
        have hb3 : Below w.heap.size w (w.alloc (.cells #[.int .i64 5, .int .i64 i, .int .i64 ((k : Int) - i)] 124)) := (Below.refl _ _).alloc (Nat.le_refl _) _
        exact bodyPost_ret (v := .agg #[.int .i64 5, .int .i64 i, .int .i64 ((k : Int) - i)]) (results_cell_row (hu := Tryz.underlying124) (h := rfl) (hp := rfl) (hg := hB3) (hd := rfl) (hi := by kernel_rfl)) rfl ⟨oneT_of i _ _ _ (by first | rfl | (rw [if_pos H18.out]; rfl)) (by show _ = ((R : Nat) : Int); have := HK.out; omega), hb3⟩
      · have h19 : (18 : Int) < (k : Int) - (i : Int) := by omega
        have HK := Lib.hid hkR
        have H18 := Lib.hid h18
        clear h18 hkR
        go_wp2_with fail
        have hB3 : Blk (w.alloc (.cells #[.int .i64 8, .int .i64 i, .int .i64 ((k : Int) - i)] 124)) w.heap.size 124 #[.int .i64 8, .int .i64 i, .int .i64 ((k : Int) - i)] := Blk.new _ _ _
        have hb3 : Below w.heap.size w (w.alloc (.cells #[.int .i64 8, .int .i64 i, .int .i64 ((k : Int) - i)] 124)) := (Below.refl _ _).alloc (Nat.le_refl _) _
        exact bodyPost_ret (v := .agg #[.int .i64 8, .int .i64 i, .int .i64 ((k : Int) - i)]) (results_cell_row (hu := Tryz.underlying124) (h := rfl) (hp := rfl) (hg := hB3) (hd := rfl) (hi := by kernel_rfl)) rfl ⟨oneT_of i _ _ _ (by first | rfl | (rw [if_neg H18.out]; rfl)) (by show _ = ((R : Nat) : Int); have := HK.out; omega), hb3⟩
end
end Go.Proofs.YtalklmeejdmifaaGreatDoor
