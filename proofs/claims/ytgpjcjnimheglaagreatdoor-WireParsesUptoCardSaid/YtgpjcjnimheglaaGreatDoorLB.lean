/-
  WALKS of package lex: run, by any property that a closure tells.
-/
import Derived.Test.YtgpjcjnimheglaaGreatDoorShelfX
import Derived.Test.YtgpjcjnimheglaaGreatDoorTxt
import Derived.Test.YtgpjcjnimheglaaGreatDoorLA
import Derived.Shelf.Spec.BytesIndexFunc
namespace Go.Proofs.YtgpjcjnimheglaaGreatDoor
open Go.RowKit

/-- Go's own tables of characters are in place -/
def T8 (w : World) : Prop := Lib.Utf8Tabs 2 3 w
theorem T8.below {w w' : World} (h : T8 w) (hb : Below w.heap.size w w') : T8 w' := by
  refine ⟨fun c hc => ?_, fun i hi => ?_⟩
  · have h1 := h.1 c hc
    exact (hb.cell (p := ⟨2, c, none⟩) (World.block_lt_of_cell? w ⟨2, c, none⟩ h1)).trans h1
  · obtain ⟨h1, h2⟩ := h.2 i hi
    exact ⟨(hb.cell (p := ⟨3, 2 * i, none⟩) (World.block_lt_of_cell? w ⟨3, 2 * i, none⟩ h1)).trans h1,
      (hb.cell (p := ⟨3, 2 * i + 1, none⟩) (World.block_lt_of_cell? w ⟨3, 2 * i + 1, none⟩ h2)).trans h2⟩

theorem dec_walk (l : Bs) (hl : l ≠ []) (w : World) (hT : T8 w) :
    Calls Tryz.prog 105 #[.string ⟨l.toArray⟩] w fun e w' => e = .returned (.tuple #[.int .i32 (dec l).1, .int .i64 (dec l).2]) ∧ Below w.heap.size w w' := by
  have h := Tryz.utf8_DecodeRuneInString ⟨l.toArray⟩ w hT
  have h0 : 0 < (⟨l.toArray⟩ : ByteArray).size := by rw [mk_size]; exact List.length_pos_iff.2 hl
  have h1 := decodeGo_tail ⟨l.toArray⟩ 0 h0
  rw [ByteArray.extract_zero_size, decode_eq, List.drop_zero] at h1
  rw [h1] at h
  exact h
theorem ext_drop (s : Bs) (i : Nat) : Value.string ((⟨s.toArray⟩ : ByteArray).extract i s.length) = .string ⟨(s.drop i).toArray⟩ := by
  have := ext_str s i s.length
  rw [List.take_length] at this
  exact this

set_option maxHeartbeats 1000000 in
set_option maxRecDepth 100000 in
theorem run_walk (s : Bs) (F : Nat) (p : Nat → Bool) (hE : ∀ args w, (callFunc F args).run Tryz.prog w = .ok (.enter F args) w) (hF : ∀ (c : Nat) (w : World), Calls Tryz.prog F #[.int .i32 c] w fun e w' => e = .returned (.bool (p c)) ∧ w = w') (w : World) (hT : T8 w) (hl : s.length ≤ 100000000) :
    Calls Tryz.prog 107 #[.string ⟨s.toArray⟩, .func (.func F) #[] #[]] w fun e w' => e = .returned (.int .i64 (Lx.run p s)) ∧ Below w.heap.size w w' := by
  generalize hR : Lx.run p s = R
  have HR := Lib.hid hR
  clear hR
  go_enter Tryz.func107, Tryz.ntmps107
  go_wp2_with fail
  go_loopw [5] (fun i wr => ∃ k : Nat, i = .int .i64 k ∧ k ≤ s.length ∧ Below w.heap.size w wr ∧ Hid (R = k + Lx.run p (s.drop k))) (fun i _ => s.length - (intOf i).toNat)
  case atStart => exact ⟨0, rfl, Nat.zero_le _, Below.refl _ _, by show _ = _; rw [← HR.out]; simp⟩
  case round =>
    obtain ⟨k, rfl, hk, hb, H⟩ := hrel
    have hbs := hb.size
    by_cases hlt : k < s.length
    · have hne : s.drop k ≠ [] := by intro e; have := congrArg List.length e; simp at this; omega
      have i1 : (0 : Int) ≤ (k : Int) := by omega
      have i2 : (k : Int) ≤ (s.length : Int) := by omega
      have hd := dec_walk (s.drop k) hne wr (hT.below hb)
      have hsz := dec_size (s.drop k)
      have hle := dec_le (s.drop k) hne
      rw [List.length_drop] at hle
      rw [← ext_drop] at hd
      have Hgo : Hid (p (dec (s.drop k)).1 = true → R = (k + (dec (s.drop k)).2 : Nat) + Lx.run p (s.drop (k + (dec (s.drop k)).2))) := fun hp => by
        rw [H.out, Lx.run_go p hne hp, List.drop_drop]; omega
      have Hstop : Hid (p (dec (s.drop k)).1 = false → R = k) := fun hp => by rw [H.out, Lx.run_stop p hp]; rfl
      have hF1 := hF (dec (s.drop k)).1
      have h1 := hsz.1
      generalize dec (s.drop k) = D at *
      obtain ⟨c, z⟩ := D
      simp only at hd hF1 h1 hle Hgo Hstop
      clear hsz hne hF
      cases hp : p c with
      | true =>
        rw [hp] at hF1
        have Hg := Lib.hid (Hgo.out hp)
        clear Hgo Hstop hp H
        go_wp2_with fail
        refine hd.mono ?_
        clear hd
        rintro e w2 ⟨rfl, hb2⟩
        go_wp2_with fail
        refine (hF1 _).mono ?_
        clear hF1
        rintro e w' ⟨rfl, rfl⟩
        go_wp2_with fail
        go_roundw
        case rel => exact ⟨k + z, by go_num, by omega, hb.trans (hb2.mono hbs), Hg.out⟩
        case measure => simp [intOf]; omega
      | false =>
        rw [hp] at hF1
        have Hs := Lib.hid (Hstop.out hp)
        clear Hgo Hstop hp H
        go_wp2_with fail
        refine hd.mono ?_
        clear hd
        rintro e w2 ⟨rfl, hb2⟩
        go_wp2_with fail
        refine (hF1 _).mono ?_
        clear hF1
        rintro e w' ⟨rfl, rfl⟩
        go_wp2_with fail
        go_ret
        exact ⟨by rw [Hs.out]; rfl, hb.trans (hb2.mono hbs)⟩
    · obtain rfl : k = s.length := by omega
      have Hs : Hid (R = s.length) := by show _ = _; rw [H.out, List.drop_length]; rfl
      go_wp2_with fail
      go_ret
      exact ⟨by rw [Hs.out]; rfl, hb⟩
end Go.Proofs.YtgpjcjnimheglaaGreatDoor
