/-
  THE WALK of the function in edit.behind that tells how much a place has moved.
-/
import Derived.Test.YtffcfnnbdmihaaaDoorPlain
namespace Go.Proofs.YtffcfnnbdmihaaaDoor
open Go.RowKit

def grownT (at_ : Int) (own : Bool) (s : Sp) : Int := (if s.f < at_ ∨ (own = true ∧ s.f = at_) then (s.s.size : Int) else 0) - max 0 (min s.t at_ - s.f)
def grownL (b : List Sp) (at_ : Int) (own : Bool) : Int := (b.map (grownT at_ own)).sum

theorem grown_snoc (b : List Sp) (s : Sp) (at_ : Int) (own : Bool) : grownL (b ++ [s]) at_ own = grownL b at_ own + grownT at_ own s := by
  simp [grownL]
def Within (b : List Sp) : Prop := ∀ s ∈ b, 0 ≤ s.f ∧ s.f ≤ s.t ∧ s.t ≤ 1048576
theorem grown_bd (b : List Sp) (at_ : Int) (own : Bool) (h : Within b) : -((b.length : Int) * 1048576) ≤ grownL b at_ own ∧ grownL b at_ own ≤ spBytes b := by
  induction b with
  | nil => simp [grownL, spBytes]
  | cons s r ih =>
    have h1 := ih fun x hx => h x (List.mem_cons_of_mem _ hx)
    obtain ⟨h2, h3, h4⟩ := h s (List.mem_cons_self)
    have e : grownL (s :: r) at_ own = grownT at_ own s + grownL r at_ own := by simp [grownL]
    have e2 : spBytes (s :: r) = s.s.size + spBytes r := by simp [spBytes]
    rw [e, e2]
    have h5 : -1048576 ≤ grownT at_ own s ∧ grownT at_ own s ≤ s.s.size := by
      unfold grownT
      split <;> omega
    simp only [List.length_cons]
    omega

set_option maxHeartbeats 1000000 in
set_option maxRecDepth 100000 in
theorem grown_walk (at_ : Int) (own : Bool) (B : Nat) (A : Option Addr) (c : Nat) (b : List Sp) (w : World) (hB : w.cell? ⟨B, 0, none⟩ = some (.slice A b.length c)) (hr : Rd w w.heap.size 3 A b.length (spCells b)) (hl : b.length + spBytes b ≤ 1048576) (hw : Within b)
    (h0 : 0 ≤ at_) (h1 : at_ ≤ 1048576) :
    Calls Tryd.prog 78 #[.int .i64 at_, .bool own, .pointer (some ⟨B, 0, none⟩)] w fun e w' => e = .returned (.int .i64 (grownL b at_ own)) ∧ Below w.heap.size w w' := by
  go_enter Tryd.func78, Tryd.ntmps78
  go_wp2
  go_loopw [6, 11] (fun v i wr => ∃ (k : Nat) (n : Int), k ≤ b.length ∧ i = .int .i64 k ∧ v = .int .i64 n ∧ Hid (n = grownL (b.take k) at_ own) ∧ Below w.heap.size w wr) (fun _ i _ => b.length - (intOf i).toNat)
  case atStart => exact ⟨0, 0, Nat.zero_le _, rfl, rfl, rfl, Below.refl _ _⟩
  case round =>
    obtain ⟨k, n, hk, rfl, rfl, Hn, hb⟩ := hrel
    have hbs := hb.size
    have hbd := grown_bd (b.take k) at_ own fun x hx => hw x (List.mem_of_mem_take hx)
    rw [← Hn.out, List.length_take] at hbd
    have hbt := spBytes_take_le b k
    by_cases hlt : k < b.length
    · obtain ⟨b0, o, rfl, hbB, hcs⟩ := (hr.below hb).sp hlt
      obtain ⟨c0, c1, c2⟩ := hcs k hlt
      clear hcs
      have hwk := hw b[k] (List.getElem_mem hlt)
      have Hst : Hid (grownL (b.take (k + 1)) at_ own = n + grownT at_ own b[k]) := by
        show _ = _
        rw [List.take_succ_eq_append_getElem hlt, grown_snoc, ← Hn.out]
      have hsz : b[k].s.size ≤ 1048576 := by
        have h2 := spBytes_take_le b (k + 1)
        rw [List.take_succ_eq_append_getElem hlt, spBytes_snoc] at h2
        omega
      generalize b[k] = x at *
      obtain ⟨f, t, s⟩ := x
      dsimp only at *
      have hnb : -1099511627776 ≤ n ∧ n ≤ 1048576 := by omega
      clear hbd hbt
      have Hg1 : Hid (f < at_ → grownT at_ own ⟨f, t, s⟩ = s.size - max 0 (min t at_ - f)) := fun h => by simp only [grownT]; rw [if_pos (.inl h)]
      have Hg2 : Hid (own = true → f = at_ → grownT at_ own ⟨f, t, s⟩ = s.size - max 0 (min t at_ - f)) := fun h h' => by simp only [grownT]; rw [if_pos (.inr ⟨h, h'⟩)]
      have Hg3 : Hid (at_ < f ∨ (at_ ≤ f ∧ own = false) → grownT at_ own ⟨f, t, s⟩ = 0 - max 0 (min t at_ - f)) := fun h => by
        simp only [grownT]
        rw [if_neg]
        rintro (h' | ⟨h', h''⟩)
        · rcases h with h | h <;> omega
        · rcases h with h | h
          · omega
          · rw [h.2] at h'; cases h'
      by_cases hlt2 : f < at_
      · go_wp2
        go_roundw
        case rel => exact ⟨k + 1, _, by omega, by go_num, rfl, by show _ = _; rw [Hst.out, Hg1.out hlt2]; omega, hb.alloc hbs _⟩
        case measure => simp [intOf]; omega
      cases own with
      | true =>
        by_cases heq : f = at_
        · subst heq
          go_wp2
          go_roundw
          case rel => exact ⟨k + 1, _, by omega, by go_num, rfl, by show _ = _; rw [Hst.out, Hg2.out rfl rfl]; omega, hb.alloc hbs _⟩
          case measure => simp [intOf]; omega
        · have hge : at_ < f := by omega
          have hbe : (f == at_) = false := by simpa using heq
          go_wp2
          go_roundw
          case rel => exact ⟨k + 1, _, by omega, by go_num, rfl, by show _ = _; rw [Hst.out, Hg3.out (.inl hge)]; omega, hb.alloc hbs _⟩
          case measure => simp [intOf]; omega
      | false =>
        have hge : at_ ≤ f := by omega
        go_wp2
        go_roundw
        case rel => exact ⟨k + 1, _, by omega, by go_num, rfl, by show _ = _; rw [Hst.out, Hg3.out (.inr ⟨hge, rfl⟩)]; omega, hb.alloc hbs _⟩
        case measure => simp [intOf]; omega
    · obtain rfl : k = b.length := by omega
      rw [List.take_length] at Hn
      go_wp2
      go_ret
      exact ⟨by simp [Hn.out], hb⟩
end Go.Proofs.YtffcfnnbdmihaaaDoor
