/-
  THE WALK of the reader's line.
-/
import Derived.Test.YtccljojceoidhaaDoorWF
namespace Go.Proofs.YtccljojceoidhaaDoor
open Go.RowKit

def rdC (r : Wire.RS) : Array Value := #[strV r.rest, .int .i64 r.len, .bool r.body, .int .i64 r.err]
def Oth1 (p : Nat) (w w' : World) : Prop := ∀ b, b < w.heap.size → b ≠ p → w'.heap[b]? = w.heap[b]?
theorem Oth1.trans {p : Nat} {w w1 w2 : World} (h : Oth1 p w w1) (h' : Oth1 p w1 w2) (hs : w.heap.size ≤ w1.heap.size) : Oth1 p w w2 := fun b hb hn => (h' b (by omega) hn).trans (h b hb hn)
theorem Oth1.set {p : Nat} (w : World) (j : Nat) (u : Value) : Oth1 p w (w.setCell ⟨p, j, none⟩ u) := fun b _ hn => Below.heap_setCell w ⟨p, j, none⟩ u b hn
theorem Oth1.below {p : Nat} {w w' : World} (h : Below w.heap.size w w') : Oth1 p w w' := fun b hb _ => h.block b hb
theorem Oth1.refl (p : Nat) (w : World) : Oth1 p w w := fun _ _ _ => rfl

theorem cutp_walk (s : Bs) (w : World) : Calls Tryd.prog 97 #[.string ⟨s.toArray⟩, .string ⟨#[67, 111, 110, 116, 101, 110, 116, 45, 76, 101, 110, 103, 116, 104, 58, 32]⟩] w fun e w' => e = .returned (.tuple #[.string ⟨(Lib.trimPrefix s Wire.hdc).toArray⟩, .bool (Lib.hasPrefix s Wire.hdc)]) ∧ w' = w :=
  Tryd.strings_CutPrefix ⟨s.toArray⟩ ⟨#[67, 111, 110, 116, 101, 110, 116, 45, 76, 101, 110, 103, 116, 104, 58, 32]⟩ w
theorem trim_walk (s : Bs) (w : World) (hs : s.length ≤ 100000000) : Calls Tryd.prog 98 #[.string ⟨s.toArray⟩, .string ⟨#[48, 49, 50, 51, 52, 53, 54, 55, 56, 57]⟩] w fun e w' => e = .returned (.string ⟨(Lib.trimS s Wire.dgs).toArray⟩) ∧ Below w.heap.size w w' :=
  Any.strings_Trim_laid Tryd.lays160 (by kernel_rfl) ⟨s.toArray⟩ ⟨#[48, 49, 50, 51, 52, 53, 54, 55, 56, 57]⟩ w (by rw [mk_size]; omega) (by decide) (ascii_of_all (by decide))
theorem atoi_walk (s : Bs) (w : World) (h1 : 1 ≤ s.length) (h2 : s.length ≤ 10) (h3 : Lib.trimS s Wire.dgs = []) : Calls Tryd.prog 99 #[.string ⟨s.toArray⟩] w fun e w' => e = .returned (.tuple #[.int .i64 (Wire.valD s), .nilIface]) ∧ Below w.heap.size w w' :=
  (Tryd.strconv_Atoi_ok ⟨s.toArray⟩ (by rw [mk_size]; omega) (Wire.valD s) (Wire.atoi_digits s h1 h2 h3) w).mono fun e w' h => by
    refine ⟨h.1, ?_⟩
    rcases h.2 with rfl | ⟨t, rfl⟩
    · exact Below.refl _ _
    · exact Lib.bytesWorld_below _ _ _
theorem scut_walk (s : Bs) (m : Int) (w : World) (hM : MaxL w m) (hs : s.length ≤ 100000000) : Calls Tryd.prog 64 #[.string ⟨s.toArray⟩, .string ⟨#[58]⟩] w fun e w' => e = .returned (.tuple #[.string ⟨(Lib.cut s [58]).1.toArray⟩, .string ⟨(Lib.cut s [58]).2.1.toArray⟩, .bool (Lib.cut s [58]).2.2]) ∧ ∃ n, w' = w.drewN n :=
  Tryd.strings_Cut ⟨s.toArray⟩ ⟨#[58]⟩ m w (by rw [mk_size]; omega) hM
theorem lcut_walk (s : Bs) (m : Int) (w : World) (hM : MaxL w m) (hs : s.length ≤ 100000000) : Calls Tryd.prog 64 #[.string ⟨s.toArray⟩, .string ⟨#[13, 10]⟩] w fun e w' => e = .returned (.tuple #[.string ⟨(Lib.cut s Wire.crlf).1.toArray⟩, .string ⟨(Lib.cut s Wire.crlf).2.1.toArray⟩, .bool (Lib.cut s Wire.crlf).2.2]) ∧ ∃ n, w' = w.drewN n :=
  Tryd.strings_Cut ⟨s.toArray⟩ ⟨#[13, 10]⟩ m w (by rw [mk_size]; omega) hM
theorem trims_walk (s : Bs) (w : World) (hs : s.length ≤ 100000000) : Calls Tryd.prog 65 #[.string ⟨s.toArray⟩, .string ⟨#[13]⟩] w fun e w' => e = .returned (.string ⟨(Lib.trimSuffix s [13]).toArray⟩) ∧ w' = w :=
  Tryd.strings_TrimSuffix ⟨s.toArray⟩ ⟨#[13]⟩ w (by rw [mk_size]; omega)

section
variable (p base : Nat) (s : Bs) (r : Wire.RS) (w : World)
def LineP (e : Ending) (w' : World) : Prop := e = .returned (.int .i64 (Wire.lineM s r).err) ∧ Blk w' p 75 (rdC { Wire.lineM s r with err := r.err }) ∧ Below base w w' ∧ Oth1 p w w'

set_option maxRecDepth 100000 in
theorem line_long (hB : Blk w p 75 (rdC r)) (h : 1000 < s.length) :
    Calls Tryd.prog 66 #[.pointer (some ⟨p, 0, none⟩), strV s] w (LineP p base s r w) := by
  have he : Wire.lineM s r = { r with err := 12 } := by unfold Wire.lineM; rw [if_pos h]
  unfold LineP
  rw [he]
  unfold strV
  go_enter Tryd.func66, Tryd.ntmps66
  go_wp2
  go_ret
  exact ⟨rfl, hB, Below.refl _ _, Oth1.refl _ _⟩

set_option maxRecDepth 100000 in
theorem line_empty (hB : Blk w p 75 (rdC r)) (hb : base ≤ p) :
    Calls Tryd.prog 66 #[.pointer (some ⟨p, 0, none⟩), strV []] w (LineP p base [] r w) := by
  have c1 := hB.cell 1
  have c2 := hB.cell 2
  have f2 := hB.frozen 2
  unfold rdC at c1 c2
  simp at c1 c2
  have hB2 := hB.set_ 2 (.bool true)
  have h2 := (Below.refl base w).setCell (p := ⟨p, 2, none⟩) hb (.bool true)
  unfold LineP strV
  by_cases hl : r.len < 0
  · have he : Wire.lineM [] r = { r with body := true, err := 3 } := by simp [Wire.lineM, hl]
    rw [he]
    go_enter Tryd.func66, Tryd.ntmps66
    go_wp2
    go_ret
    exact ⟨rfl, hB2, h2, Oth1.set _ _ _⟩
  · have he : Wire.lineM [] r = { r with body := true, err := 0 } := by simp [Wire.lineM, hl]
    rw [he]
    go_enter Tryd.func66, Tryd.ntmps66
    go_wp2
    go_ret
    exact ⟨rfl, hB2, h2, Oth1.set _ _ _⟩

set_option maxHeartbeats 1000000 in
set_option maxRecDepth 100000 in
theorem line_len (hB : Blk w p 75 (rdC r)) (hb : base ≤ p) (hz : base ≤ w.heap.size) (h1 : s.length ≤ 1000) (h2 : s ≠ []) (h3 : Wire.lenB s = true) :
    Calls Tryd.prog 66 #[.pointer (some ⟨p, 0, none⟩), strV s] w (LineP p base s r w) := by
  obtain ⟨k1, k2, k3, k4⟩ := Wire.lenB_parts h3
  have he : Wire.lineM s r = { r with len := Wire.valD (s.drop 16), err := 0 } := by
    unfold Wire.lineM; rw [if_neg (by omega), if_neg (by simpa using h2), if_pos h3]
  have hT : Lib.trimPrefix s Wire.hdc = s.drop 16 := by unfold Lib.trimPrefix; rw [if_pos k1]; rfl
  have hC := cutp_walk s w
  rw [hT, k1] at hC
  have hA := fun w => atoi_walk (s.drop 16) w k2 k3 k4
  have hM := fun w => trim_walk (s.drop 16) w (by omega)
  rw [k4] at hM
  unfold LineP
  rw [he]
  have hs0 : (s == []) = false := by simpa using h2
  clear hT h3 k1 k4 he
  unfold strV
  generalize Wire.valD (s.drop 16) = V at *
  generalize s.drop 16 = D at *
  go_enter Tryd.func66, Tryd.ntmps66
  go_wp2_with fail
  refine hC.mono ?_
  rintro e w' ⟨rfl, rfl⟩
  go_wp2_with fail
  refine (hM _).mono ?_
  rintro e w1 ⟨rfl, hb1⟩
  go_wp2_with fail
  refine (hA _).mono ?_
  rintro e w2 ⟨rfl, hb2⟩
  have hB2 := (hB.below hb1 hB.lt).below hb2 (hB.below hb1 hB.lt).lt
  have c1 := hB2.cell 1
  have f1 := hB2.frozen 1
  unfold rdC at c1
  simp at c1
  go_wp2_with fail
  go_ret
  exact ⟨rfl, hB2.set_ 1 _, ((hb1.mono hz).trans (hb2.mono (by have := hb1.size; omega))).setCell (p := ⟨p, 1, none⟩) hb _, ((Oth1.below hb1).trans (Oth1.below hb2) hb1.size).trans (Oth1.set _ _ _) (by have := hb1.size; have := hb2.size; omega)⟩

set_option maxHeartbeats 2000000 in
set_option maxRecDepth 100000 in
theorem line_other (m : Int) (hM : MaxL w m) (hB : Blk w p 75 (rdC r)) (hz : base ≤ w.heap.size) (h1 : s.length ≤ 1000) (h2 : s ≠ []) (h3 : Wire.lenB s = false) :
    Calls Tryd.prog 66 #[.pointer (some ⟨p, 0, none⟩), strV s] w (LineP p base s r w) := by
  have he : Wire.lineM s r = { r with err := if (Lib.cut s [58]).2.2 = false ∨ (Lib.cut s [58]).1 = Wire.hd then 3 else 0 } := by
    unfold Wire.lineM; rw [if_neg (by omega), if_neg (by simpa using h2), if_neg (by simp [h3])]
    split <;> rfl
  have hC := cutp_walk s w
  have hs0 : (s == []) = false := by simpa using h2
  have hT : Lib.hasPrefix s Wire.hdc = true → Lib.trimPrefix s Wire.hdc = s.drop 16 := fun h => by unfold Lib.trimPrefix; rw [if_pos h]; rfl
  have hTl : (Lib.trimPrefix s Wire.hdc).length ≤ s.length := by unfold Lib.trimPrefix; split <;> simp
  have hTr := fun w => trim_walk (Lib.trimPrefix s Wire.hdc) w (by omega)
  have hcase : Lib.hasPrefix s Wire.hdc = false ∨ (Lib.hasPrefix s Wire.hdc = true ∧ (¬ 1 ≤ (Lib.trimPrefix s Wire.hdc).length ∨ (1 ≤ (Lib.trimPrefix s Wire.hdc).length ∧ (¬ (Lib.trimPrefix s Wire.hdc).length ≤ 10 ∨ ((Lib.trimPrefix s Wire.hdc).length ≤ 10 ∧ (Lib.trimS (Lib.trimPrefix s Wire.hdc) Wire.dgs == []) = false))))) := by
    cases hp : Lib.hasPrefix s Wire.hdc with
    | false => exact .inl rfl
    | true =>
      refine .inr ⟨rfl, ?_⟩
      rw [hT hp]
      by_cases l1 : 1 ≤ (s.drop 16).length
      · refine .inr ⟨l1, ?_⟩
        by_cases l2 : (s.drop 16).length ≤ 10
        · refine .inr ⟨l2, ?_⟩
          cases ht : (Lib.trimS (s.drop 16) Wire.dgs == []) with
          | false => rfl
          | true =>
            exfalso
            have : Wire.lenB s = true := by
              unfold Wire.lenB
              rw [hp]
              have ht2 : Lib.trimS (s.drop 16) Wire.dgs = [] := by simpa using ht
              rw [ht2]
              simp at l1 l2 ⊢
              omega
            rw [h3] at this; cases this
        · exact .inl l2
      · exact .inl l1
  have hK : ∀ w1, Below w.heap.size w w1 → Calls Tryd.prog 64 #[.string ⟨s.toArray⟩, .string ⟨#[58]⟩] w1 fun e w' => e = .returned (.tuple #[.string ⟨(Lib.cut s [58]).1.toArray⟩, .string ⟨(Lib.cut s [58]).2.1.toArray⟩, .bool (Lib.cut s [58]).2.2]) ∧ ∃ n, w' = w1.drewN n := fun w1 hb => scut_walk s m w1 (hM.below hb hM.lt) (by omega)
  unfold LineP
  rw [he]
  clear he hT h3 hTl
  unfold strV
  generalize Lib.trimS (Lib.trimPrefix s Wire.hdc) Wire.dgs = TT at *
  generalize Lib.trimPrefix s Wire.hdc = D at *
  generalize Lib.hasPrefix s Wire.hdc = hp at *
  generalize Lib.cut s [58] = C at *
  obtain ⟨c1, c2, c3⟩ := C
  simp only at hK ⊢
  have hC3 : ∃ E : Int, (if c3 = false ∨ c1 = Wire.hd then (3 : Int) else 0) = E ∧ ((c3 = false ∧ E = 3) ∨ (c3 = true ∧ (c1 == [67, 111, 110, 116, 101, 110, 116, 45, 76, 101, 110, 103, 116, 104]) = true ∧ E = 3) ∨ (c3 = true ∧ (c1 == [67, 111, 110, 116, 101, 110, 116, 45, 76, 101, 110, 103, 116, 104]) = false ∧ E = 0)) := by
    refine ⟨_, rfl, ?_⟩
    cases c3 with
    | false => exact .inl ⟨rfl, by simp⟩
    | true =>
      cases hh : (c1 == [67, 111, 110, 116, 101, 110, 116, 45, 76, 101, 110, 103, 116, 104]) with
      | true => exact .inr (.inl ⟨rfl, rfl, by rw [if_pos]; exact .inr (eq_of_beq hh)⟩)
      | false => exact .inr (.inr ⟨rfl, rfl, if_neg (fun h => h.elim (fun h => by cases h) (fun h => by rw [h] at hh; exact absurd hh (by decide)))⟩)
  obtain ⟨E, hE, hC3⟩ := hC3
  rw [hE]
  clear hE
  have HK := Lib.hid hK
  have HC3 := Lib.hid hC3
  clear hK hC3
  have fin : ∀ (w1 : World), Below w.heap.size w w1 → Blk w1 p 75 (rdC { r with err := r.err }) ∧ Below base w w1 ∧ Oth1 p w w1 := fun w1 h => ⟨hB.below h hB.lt, h.mono hz, Oth1.below h⟩
  have Fin := Lib.hid fin
  clear fin hB hz hM
  rcases hcase with rfl | ⟨rfl, l1 | ⟨l1, l2 | ⟨l2, l3⟩⟩⟩
  case inr.inr.inr =>
    go_enter Tryd.func66, Tryd.ntmps66
    go_wp2_with fail
    refine hC.mono ?_
    clear hC
    rintro e w' ⟨rfl, rfl⟩
    go_wp2_with fail
    refine (hTr _).mono ?_
    clear hTr
    rintro e w1 ⟨rfl, hb1⟩
    go_wp2_with fail
    refine (HK.out _ hb1).mono ?_
    clear HK
    rintro e w2 ⟨rfl, n, rfl⟩
    rcases HC3.out with ⟨rfl, rfl⟩ | ⟨rfl, h4, rfl⟩ | ⟨rfl, h4, rfl⟩
    all_goals
      go_wp2
      go_ret
      exact ⟨rfl, Fin.out _ (below_drewN hb1 n)⟩
  all_goals
    go_enter Tryd.func66, Tryd.ntmps66
    go_wp2_with fail
    refine hC.mono ?_
    clear hC
    rintro e w' ⟨rfl, rfl⟩
    go_wp2_with fail
    refine (HK.out _ (Below.refl _ _)).mono ?_
    clear HK
    rintro e w2 ⟨rfl, n, rfl⟩
    rcases HC3.out with ⟨rfl, rfl⟩ | ⟨rfl, h4, rfl⟩ | ⟨rfl, h4, rfl⟩
    all_goals
      go_wp2
      go_ret
      exact ⟨rfl, Fin.out _ (below_drewN (Below.refl _ _) n)⟩

theorem line_walk (m : Int) (hM : MaxL w m) (hB : Blk w p 75 (rdC r)) (hb : base ≤ p) (hz : base ≤ w.heap.size) (hs : s.length ≤ 100000000) :
    Calls Tryd.prog 66 #[.pointer (some ⟨p, 0, none⟩), strV s] w (LineP p base s r w) := by
  by_cases h1 : 1000 < s.length
  · exact line_long p base s r w hB h1
  · by_cases h2 : s = []
    · subst h2; exact line_empty p base r w hB hb
    · cases h3 : Wire.lenB s with
      | true => exact line_len p base s r w hB hb hz (by omega) h2 h3
      | false => exact line_other p base s r w m hM hB hz (by omega) h2 h3
end
end Go.Proofs.YtccljojceoidhaaDoor
