/-
  JOINED of the texts LR LE LB WM
-/
import Derived.Test.YtalklmeejdmifaaGreatDoorJab
import Derived.Lib.RuneBytes
import Derived.Lib.Strings
import Derived.Lib.ConvBytes
import Derived.Laws.Strings3
import Derived.Laws.Closers25
import Derived.Laws.Closers25b
import Derived.BigCall
import Derived.BigGuard
import Derived.Test.YtalklmeejdmifaaGreatDoorShelfX
import Derived.Shelf.Spec.BytesIndexFunc
import Derived.Deep.RegionHeld3
import Derived.Deep.DeepCutAuto
import Derived.Lib.IndexMore
import Derived.Test.YtalklmeejdmifaaGreatDoorRows
import Derived.WalkKit
import Derived.WalkSpells
import Derived.WalkLawsBesides
import Derived.Below
import Derived.Laws.OwnMore
import Derived.Deep.AppendLies
import Derived.Deep.Draws
import Derived.Lib.Hide
import Derived.Deep.QuietTactic
import Derived.BigQuiet
import Derived.IntWalk
import Derived.Lib.IndexLaws
import Derived.Lib.SlTrimSet
import Derived.Lib.ItoaNum
import Derived.Lib.Atoi
/-
  THE PLAIN LAW of tokens, the document's way: escapes digit by digit.
-/
namespace Go.Proofs.YtalklmeejdmifaaGreatDoor.Lx

/-- how many bytes, at most so many, are digits of sixteen -/
def hexC : Nat → List UInt8 → Nat
  | 0, _ => 0
  | _ + 1, [] => 0
  | f + 1, b :: t => if (hexV b).isSome then hexC f t + 1 else 0

theorem hexC_le : ∀ (f : Nat) (l : List UInt8), hexC f l ≤ f ∧ hexC f l ≤ l.length
  | 0, _ => by simp [hexC]
  | _ + 1, [] => by simp [hexC]
  | f + 1, b :: t => by
    have := hexC_le f t
    simp only [hexC]
    split
    · simp only [List.length_cons]; omega
    · simp
theorem hexC_at : ∀ (f : Nat) (l : List UInt8) (j : Nat), j < hexC f l → ∃ b d, l[j]? = some b ∧ hexV b = some d
  | 0, _, _, h => by simp [hexC] at h
  | _ + 1, [], _, h => by simp [hexC] at h
  | f + 1, b :: t, j, h => by
    simp only [hexC] at h
    split at h
    · rename_i hb
      cases j with
      | zero =>
        obtain ⟨d, hd⟩ := Option.isSome_iff_exists.1 hb
        exact ⟨b, d, rfl, hd⟩
      | succ j =>
        obtain ⟨b', d, h1, h2⟩ := hexC_at f t j (by omega)
        exact ⟨b', d, by simpa using h1, h2⟩
    · omega
theorem hexC_end : ∀ (f : Nat) (l : List UInt8), hexC f l < f → ∀ b, l[hexC f l]? = some b → hexV b = none
  | 0, _, h, _, _ => by omega
  | _ + 1, [], _, _, h => by simp [hexC] at h
  | f + 1, b :: t, h, c, hc => by
    simp only [hexC] at h hc
    split at h
    · rename_i hb
      rw [if_pos hb] at hc
      exact hexC_end f t (by omega) c (by simpa using hc)
    · rename_i hb
      rw [if_neg hb] at hc
      simp at hc
      subst hc
      simpa using hb

theorem hexN_snoc : ∀ (l : List UInt8) (a n : Nat) (b : UInt8) (d : Nat), hexN a l = some n → hexV b = some d → hexN a (l ++ [b]) = some (n * 16 + d)
  | [], a, n, b, d, h, hb => by simp only [hexN] at h; injection h with h; subst h; simp [hexN, hb]
  | c :: t, a, n, b, d, h, hb => by
    simp only [List.cons_append, hexN] at h ⊢
    cases hc : hexV c with
    | none => rw [hc] at h; simp at h
    | some x => rw [hc] at h; exact hexN_snoc t _ n b d h hb
theorem hexN_take (f : Nat) (l : List UInt8) : ∀ j, j ≤ hexC f l → ∃ n, hexN 0 (l.take j) = some n ∧ n < 16 ^ j
  | 0, _ => ⟨0, rfl, by simp⟩
  | j + 1, h => by
    obtain ⟨n, hn, hl⟩ := hexN_take f l j (by omega)
    obtain ⟨b, d, hb, hd⟩ := hexC_at f l j (by omega)
    refine ⟨n * 16 + d, ?_, ?_⟩
    · rw [List.take_add_one, hb]
      exact hexN_snoc _ _ _ _ _ hn hd
    · have := (hex_no b d hd).2.2.2.2
      rw [Nat.pow_succ]; omega

/-- the digits are all that stands ahead of the sign that closes -/
theorem hex_while (l : List UInt8) (h : l[hexC 6 l]? = some 125) : l.takeWhile (· != 125) = l.take (hexC 6 l) := by
  have key : ∀ (m : Nat) (l : List UInt8), (∀ j, j < m → ∃ b d, l[j]? = some b ∧ hexV b = some d) → l[m]? = some 125 → l.takeWhile (· != 125) = l.take m := by
    intro m
    induction m with
    | zero =>
      intro l _ h
      cases l with
      | nil => simp at h
      | cons a t => simp at h; subst h; simp
    | succ m ih =>
      intro l hj h
      cases l with
      | nil => simp at h
      | cons a t =>
        obtain ⟨b, d, hb, hd⟩ := hj 0 (by omega)
        simp at hb; subst hb
        have ha : (a != 125) = true := by simp; exact (hex_no a d hd).2.1
        rw [List.takeWhile_cons, if_pos ha, List.take_succ_cons]
        congr 1
        exact ih t (fun j hj' => by simpa using hj (j + 1) (by omega)) (by simpa using h)
  exact key _ l (hexC_at 6 l) h

theorem code_ref (r : List UInt8) (n : Nat) (hn : hexN 0 (r.take (hexC 6 r)) = some n) :
    codeM (123 :: r) = if hexC 6 r = 0 ∨ r[hexC 6 r]? ≠ some 125 ∨ n > 1114111 ∨ (55296 ≤ n ∧ n ≤ 57343) then none else some (n, hexC 6 r + 2) := by
  have hle := hexC_le 6 r
  by_cases hc : r[hexC 6 r]? = some 125
  · have hw := hex_while r hc
    have hm : (125 : UInt8) ∈ r := List.mem_of_getElem? hc
    have hlen : (r.take (hexC 6 r)).length = hexC 6 r := by rw [List.length_take]; omega
    unfold codeM
    simp only [ne_eq, not_true_eq_false, if_false, hm, hw, hlen, hn]
    by_cases h0 : hexC 6 r = 0
    · rw [if_pos (Or.inl (by omega)), if_pos (Or.inl h0)]
    · rw [if_neg (by omega)]
      by_cases h1 : n > 1114111 ∨ (55296 ≤ n ∧ n ≤ 57343)
      · rw [if_pos h1, if_pos (Or.inr (Or.inr h1))]
      · rw [if_neg h1, if_neg]
        rintro (h | h | h)
        · exact h0 h
        · exact h hc
        · exact h1 h
  · rw [if_pos (Or.inr (Or.inl hc))]
    cases hx : codeM (123 :: r) with
    | none => rfl
    | some x =>
      exfalso
      unfold codeM at hx
      simp only [ne_eq, not_true_eq_false, if_false] at hx
      split at hx
      · cases hx
      · rename_i hm
        split at hx
        · cases hx
        · rename_i hl
          split at hx
          · cases hx
          · rename_i m hh
            obtain ⟨t, ht⟩ := take_while_at r (by simpa using hm)
            have hall := hexN_all _ _ _ hh
            generalize hD : r.takeWhile (· != 125) = D at *
            have e : hexC 6 r = D.length := by
              have key : ∀ (f : Nat) (D t : List UInt8), (∀ b ∈ D, ∃ d, hexV b = some d) → D.length ≤ f → hexC f (D ++ 125 :: t) = D.length := by
                intro f
                induction f with
                | zero => intro D t _ hl; simp [hexC]; omega
                | succ f ih =>
                  intro D t hd hl
                  cases D with
                  | nil => simp only [List.nil_append, hexC]; rw [if_neg (by decide)]; rfl
                  | cons b D =>
                    obtain ⟨d, hd'⟩ := hd b (by simp)
                    simp only [List.cons_append, hexC]
                    rw [if_pos (by rw [hd']; rfl), ih D t (fun x hx => hd x (by simp [hx])) (by simpa using hl)]
                    rfl
              rw [ht]
              exact key 6 D t hall (by omega)
            apply hc
            rw [e, ht]
            simp
theorem code_no (l : List UInt8) (h : l.head? ≠ some 123) : codeM l = none := by
  unfold codeM
  cases l with
  | nil => rfl
  | cons a r =>
    simp only
    rw [if_pos]
    intro e; subst e; exact h rfl

end Go.Proofs.YtalklmeejdmifaaGreatDoor.Lx
/-
  THE WALKS of strconv.ParseInt at base 16, where a text has one to six digits of sixteen (after the shelf's walk at base 10).
-/
namespace Go.Proofs.YtalklmeejdmifaaGreatDoor
open Go.RowKit

theorem or_hex : ∀ c : Fin 256, (65 ≤ c.val → c.val ≤ 70 → bits .or .u8 (c.val : Int) 32 = (c.val : Int) + 32) ∧ (97 ≤ c.val → c.val ≤ 102 → bits .or .u8 (c.val : Int) 32 = (c.val : Int)) := by decide +kernel

theorem hex_ways (c : UInt8) (d : Nat) (h : Lx.hexV c = some d) : (48 ≤ c.toNat ∧ c.toNat ≤ 57 ∧ d = c.toNat - 48) ∨ (∃ v : Int, bits .or .u8 (c.toNat : Int) 32 = v ∧ v = 87 + (d : Int) ∧ 10 ≤ d ∧ d ≤ 15 ∧ 57 < c.toNat ∧ c.toNat ≠ 95) := by
  have h0 := or_hex ⟨c.toNat, c.toNat_lt⟩
  unfold Lx.hexV at h
  split at h
  · injection h with h; exact .inl ⟨by omega, by omega, h.symm⟩
  · split at h
    · rename_i h2
      injection h with h
      exact .inr ⟨_, rfl, by rw [h0.2 h2.1 h2.2]; show (c.toNat : Int) = _; omega, by omega, by omega, by omega, by omega⟩
    · split at h
      · rename_i h2
        injection h with h
        exact .inr ⟨_, rfl, by rw [h0.1 h2.1 h2.2]; show (c.toNat : Int) + 32 = _; omega, by omega, by omega, by omega, by omega⟩
      · cases h

set_option maxRecDepth 100000 in
theorem lower_walk (c : Int) (w : World) : Calls Tryz.prog 267 #[.int .u8 c] w fun e w' => e = .returned (.int .u8 (bits .or .u8 c 32)) ∧ w' = w := by
  go_enter Tryz.func267, Tryz.ntmps267
  go_wp2
  go_ret
  exact ⟨rfl, rfl⟩

set_option maxHeartbeats 8000000 in
set_option maxRecDepth 100000 in
theorem hexuint_walk (l : Bs) (w : World) (h1 : 1 ≤ l.length) (h6 : l.length ≤ 6) (hall : ∀ b ∈ l, ∃ d, Lx.hexV b = some d) (n : Nat) (hn : Lx.hexN 0 l = some n) :
    Calls Tryz.prog 258 #[.string ⟨l.toArray⟩, .int .i64 16, .int .i64 32] w fun e w' => e = .returned (.tuple #[.int .u64 n, .nilIface]) ∧ Below w.heap.size w w' := by
  have hne : (l == []) = false := by cases l <;> simp at h1 ⊢
  have hcv := Lib.run_convert_string_bytes (P := Tryz.prog) w 9 97 5 ⟨l.toArray⟩ (u := .string) Tryz.underlying9 Tryz.underlying97 Tryz.underlying5
  have hB : ∀ j (h : j < l.length), (Lib.bytesWorld w 5 ⟨l.toArray⟩).cell? ⟨w.heap.size, j, none⟩ = some (.int .u8 l[j].toNat) := fun j hj => by
    have := Lib.bytesWorld_cell w 5 ⟨l.toArray⟩ j (by rw [mk_size]; exact hj)
    rw [this]
    simp [List.getD, hj]
  have hbw : Below w.heap.size w (Lib.bytesWorld w 5 ⟨l.toArray⟩) := Lib.bytesWorld_below _ _ _
  have hsz : (⟨l.toArray⟩ : ByteArray).size = l.length := mk_size l
  rw [hsz] at hcv
  generalize Lib.bytesWorld w 5 ⟨l.toArray⟩ = W1 at *
  have hmv : IntKind.u64.wrap (IntKind.u64.wrap 4294967296 - 1) = 4294967295 := by
    rw [IntKind.wrap_u64, IntKind.wrap_u64]
    decide
  have HB := Lib.hid hB
  have Hall := Lib.hid hall
  have Hn := Lib.hid hn
  clear hB hall hn hsz
  go_enter Tryz.func258, Tryz.ntmps258
  go_wp2
  go_loop [12, 13, 101] (fun vu vn vi => ∃ (k acc : Nat) (a : Int), vu = .bool false ∧ vn = .int .u64 a ∧ vi = .int .i64 k ∧ k ≤ l.length ∧ 0 ≤ a ∧ a < 16777216 ∧ Hid (a = (acc : Int) ∧ Lx.hexN 0 (l.take k) = some acc)) (fun _ _ vi => l.length - (intOf vi).toNat)
  case atStart => exact ⟨0, 0, 0, rfl, rfl, rfl, by omega, by omega, by omega, rfl, rfl⟩
  case round =>
    obtain ⟨k, acc, a, rfl, rfl, rfl, hk, ha0, ha1, hh⟩ := hrel
    by_cases hkn : k < l.length
    · have hc := HB.out k hkn
      obtain ⟨d, hd⟩ := Hall.out l[k] (List.getElem_mem hkn)
      have hnx : Hid (Lx.hexN 0 (l.take (k + 1)) = some (acc * 16 + d)) := by
        show _ = _
        rw [List.take_succ_eq_append_getElem hkn]
        exact Lx.hexN_snoc _ _ _ _ _ hh.out.2 hd
      have hacc2 : a * 16 + (d : Int) < 16777216 := by
        have hae := hh.out.1
        have h2 : ∀ (t : Bs) (a m : Nat), Lx.hexN a t = some m → m < (a + 1) * 16 ^ t.length := by
          intro t
          induction t with
          | nil => intro a m h; simp only [Lx.hexN] at h; injection h with h; subst h; simp
          | cons b t ih =>
            intro a m h
            simp only [Lx.hexN] at h
            cases hb : Lx.hexV b with
            | none => rw [hb] at h; simp at h
            | some x =>
              rw [hb] at h
              have h3 := ih _ _ h
              have h4 := (Lx.hex_no b x hb).2.2.2.2
              have h5 : (a * 16 + x + 1) * 16 ^ t.length ≤ (a + 1) * 16 * 16 ^ t.length := Nat.mul_le_mul_right _ (by omega)
              rw [List.length_cons, Nat.pow_succ, Nat.mul_comm (16 ^ t.length) 16, ← Nat.mul_assoc]
              omega
        have h3 := h2 _ _ _ hnx.out
        have h4 : (l.take (k + 1)).length ≤ 6 := by rw [List.length_take]; omega
        have h5 : 16 ^ (l.take (k + 1)).length ≤ 16 ^ 6 := Nat.pow_le_pow_right (by omega) h4
        omega
      have hways := hex_ways l[k] d hd
      have hd16' : (d : Int) < 16 := by have := (Lx.hex_no _ _ hd).2.2.2.2; omega
      have hd16 := (Lx.hex_no _ _ hd).2.2.2.2
      have hc256 : l[k].toNat < 256 := l[k].toNat_lt
      generalize l[k] = c at *
      clear hd
      have hlo := lower_walk (c.toNat : Int)
      rcases hways with ⟨g1, g2, g3⟩ | ⟨v, g1, g2, g3, g4, g5, g6⟩
      · subst g3
        go_wp2
        go_round
        case rel => exact ⟨k + 1, acc * 16 + (c.toNat - 48), a * 16 + ((c.toNat : Int) - 48), rfl, by congr 1 <;> omega, by go_num, by omega, by omega, by omega, by have := hh.out.1; omega, hnx.out⟩
        case measure => simp [intOf]; omega
      · rw [g1] at hlo
        subst g2
        have hus : ((c.toNat : Int) == 95) = false := by simp; omega
        clear g1 g6
        go_wp2_with (go_at_call 267; refine (hlo _).mono ?_; rintro e w' ⟨rfl, rfl⟩)
        go_round
        case rel => exact ⟨k + 1, acc * 16 + d, a * 16 + (d : Int), rfl, by congr 1 <;> omega, by go_num, by omega, by omega, by omega, by have := hh.out.1; omega, hnx.out⟩
        case measure => simp [intOf]; omega
    · obtain rfl : k = l.length := by omega
      have hfin : Hid (a = (n : Int)) := by
        have h2 := hh.out.2
        rw [List.take_length, Hn.out] at h2
        injection h2 with h2
        show _ = _
        rw [hh.out.1, h2]
      go_wp2
      go_ret2
      exact ⟨by rw [hfin.out]; rfl, hbw⟩
end Go.Proofs.YtalklmeejdmifaaGreatDoor
/-
  WALKS of package lex: run, by any property that a closure tells.
-/
namespace Go.Proofs.YtalklmeejdmifaaGreatDoor
open Go.RowKit

/-- Go's own tables of characters are in place -/
def T8 (w : World) : Prop := Lib.Utf8Tabs 3 4 w
theorem T8.below {w w' : World} (h : T8 w) (hb : Below w.heap.size w w') : T8 w' := by
  refine ⟨fun c hc => ?_, fun i hi => ?_⟩
  · have h1 := h.1 c hc
    exact (hb.cell (p := ⟨3, c, none⟩) (World.block_lt_of_cell? w ⟨3, c, none⟩ h1)).trans h1
  · obtain ⟨h1, h2⟩ := h.2 i hi
    exact ⟨(hb.cell (p := ⟨4, 2 * i, none⟩) (World.block_lt_of_cell? w ⟨4, 2 * i, none⟩ h1)).trans h1,
      (hb.cell (p := ⟨4, 2 * i + 1, none⟩) (World.block_lt_of_cell? w ⟨4, 2 * i + 1, none⟩ h2)).trans h2⟩

theorem dec_walk (l : Bs) (hl : l ≠ []) (w : World) (hT : T8 w) :
    Calls Tryz.prog 163 #[.string ⟨l.toArray⟩] w fun e w' => e = .returned (.tuple #[.int .i32 (dec l).1, .int .i64 (dec l).2]) ∧ Below w.heap.size w w' := by
  have h := Tryz.utf8_DecodeRuneInString ⟨l.toArray⟩ w hT
  have h0 : 0 < (⟨l.toArray⟩ : ByteArray).size := by rw [mk_size]; exact List.length_pos_iff.2 hl
  have h1 := decodeGo_tail ⟨l.toArray⟩ 0 h0
  rw [ByteArray.extract_zero_size, decode_eq, List.drop_zero] at h1
  rw [h1] at h
  exact h
theorem ext_drop (s : Bs) (i : Nat) : Value.string ((⟨s.toArray⟩ : ByteArray).extract i s.length) = .string ⟨(s.drop i).toArray⟩ := by
  have := ext_str s i s.length
  rw [List.take_length] at this
  exact this

set_option maxHeartbeats 1000000 in
set_option maxRecDepth 100000 in
theorem run_walk (s : Bs) (F : Nat) (p : Nat → Bool) (hE : ∀ args w, (callFunc F args).run Tryz.prog w = .ok (.enter F args) w) (hF : ∀ (c : Nat) (w : World), Calls Tryz.prog F #[.int .i32 c] w fun e w' => e = .returned (.bool (p c)) ∧ w = w') (w : World) (hT : T8 w) (hl : s.length ≤ 100000000) :
    Calls Tryz.prog 165 #[.string ⟨s.toArray⟩, .func (.func F) #[] #[]] w fun e w' => e = .returned (.int .i64 (Lx.run p s)) ∧ Below w.heap.size w w' := by
  generalize hR : Lx.run p s = R
  have HR := Lib.hid hR
  clear hR
  go_enter Tryz.func165, Tryz.ntmps165
  go_wp2_with fail
  go_loopw [5] (fun i wr => ∃ k : Nat, i = .int .i64 k ∧ k ≤ s.length ∧ Below w.heap.size w wr ∧ Hid (R = k + Lx.run p (s.drop k))) (fun i _ => s.length - (intOf i).toNat)
  case atStart => exact ⟨0, rfl, Nat.zero_le _, Below.refl _ _, by show _ = _; rw [← HR.out]; simp⟩
  case round =>
    obtain ⟨k, rfl, hk, hb, H⟩ := hrel
    have hbs := hb.size
    by_cases hlt : k < s.length
    · have hne : s.drop k ≠ [] := by intro e; have := congrArg List.length e; simp at this; omega
      have i1 : (0 : Int) ≤ (k : Int) := by omega
      have i2 : (k : Int) ≤ (s.length : Int) := by omega
      have hd := dec_walk (s.drop k) hne wr (hT.below hb)
      have hsz := dec_size (s.drop k)
      have hle := dec_le (s.drop k) hne
      rw [List.length_drop] at hle
      rw [← ext_drop] at hd
      have Hgo : Hid (p (dec (s.drop k)).1 = true → R = (k + (dec (s.drop k)).2 : Nat) + Lx.run p (s.drop (k + (dec (s.drop k)).2))) := fun hp => by
        rw [H.out, Lx.run_go p hne hp, List.drop_drop]; omega
      have Hstop : Hid (p (dec (s.drop k)).1 = false → R = k) := fun hp => by rw [H.out, Lx.run_stop p hp]; rfl
      have hF1 := hF (dec (s.drop k)).1
      have h1 := hsz.1
      generalize dec (s.drop k) = D at *
      obtain ⟨c, z⟩ := D
      simp only at hd hF1 h1 hle Hgo Hstop
      clear hsz hne hF
      cases hp : p c with
      | true =>
        rw [hp] at hF1
        have Hg := Lib.hid (Hgo.out hp)
        clear Hgo Hstop hp H
        go_wp2_with fail
        refine hd.mono ?_
        clear hd
        rintro e w2 ⟨rfl, hb2⟩
        go_wp2_with fail
        refine (hF1 _).mono ?_
        clear hF1
        rintro e w' ⟨rfl, rfl⟩
        go_wp2_with fail
        go_roundw
        case rel => exact ⟨k + z, by go_num, by omega, hb.trans (hb2.mono hbs), Hg.out⟩
        case measure => simp [intOf]; omega
      | false =>
        rw [hp] at hF1
        have Hs := Lib.hid (Hstop.out hp)
        clear Hgo Hstop hp H
        go_wp2_with fail
        refine hd.mono ?_
        clear hd
        rintro e w2 ⟨rfl, hb2⟩
        go_wp2_with fail
        refine (hF1 _).mono ?_
        clear hF1
        rintro e w' ⟨rfl, rfl⟩
        go_wp2_with fail
        go_ret
        exact ⟨by rw [Hs.out]; rfl, hb.trans (hb2.mono hbs)⟩
    · obtain rfl : k = s.length := by omega
      have Hs : Hid (R = s.length) := by show _ = _; rw [H.out, List.drop_length]; rfl
      go_wp2_with fail
      go_ret
      exact ⟨by rw [Hs.out]; rfl, hb⟩
end Go.Proofs.YtalklmeejdmifaaGreatDoor
/-
  THE READER OF FRAMES AS A FUNCTION ON LISTS OF BYTES, and the plain law: what is framed comes out, however it is cut.
-/
namespace Go.Proofs.YtalklmeejdmifaaGreatDoor.Wire
open Go.Lib

def crlf : List UInt8 := [13, 10]
def hd : List UInt8 := [67, 111, 110, 116, 101, 110, 116, 45, 76, 101, 110, 103, 116, 104]
def hdc : List UInt8 := [67, 111, 110, 116, 101, 110, 116, 45, 76, 101, 110, 103, 116, 104, 58, 32]
def dgs : List UInt8 := [48, 49, 50, 51, 52, 53, 54, 55, 56, 57]
def frameL (b : List UInt8) : List UInt8 := hdc ++ itoa b.length ++ crlf ++ crlf ++ b
def flat (bs : List (List UInt8)) : List UInt8 := (bs.map frameL).flatten

structure RS where
  rest : List UInt8
  len : Int
  body : Bool
  err : Int

/-- Is a line one that tells a length? -/
def lenB (s : List UInt8) : Bool :=
  hasPrefix s hdc && (decide (1 ≤ (s.drop 16).length) && (decide ((s.drop 16).length ≤ 10) && (trimS (s.drop 16) dgs).isEmpty))
def valD (l : List UInt8) : Int := ((decFrom 0 l).getD 0 : Nat)

def lineM (s : List UInt8) (r : RS) : RS :=
  if 1000 < s.length then { r with err := 12 }
  else if s.isEmpty then { r with body := true, err := if r.len < 0 then 3 else 0 }
  else if lenB s then { r with len := valD (s.drop 16), err := 0 }
  else if (cut s [58]).2.2 = false ∨ (cut s [58]).1 = hd then { r with err := 3 }
  else { r with err := 0 }

def stepM (r : RS) : RS × Option (List UInt8) × Bool :=
  if r.body then
    if (r.rest.length : Int) < r.len then (r, none, false)
    else ({ r with rest := r.rest.drop r.len.toNat, body := false, len := -1 }, some (r.rest.take r.len.toNat), true)
  else if (cut r.rest crlf).2.2 = false then
    ({ r with err := if 1000 < (trimSuffix r.rest [13]).length then 12 else r.err }, none, false)
  else (lineM (cut r.rest crlf).1 { r with rest := (cut r.rest crlf).2.1 }, none, (lineM (cut r.rest crlf).1 { r with rest := (cut r.rest crlf).2.1 }).err == 0)

def runM : Nat → RS → List (List UInt8) → RS × List (List UInt8)
  | 0, r, o => (r, o)
  | n + 1, r, o => if (stepM r).2.2 then runM n (stepM r).1 (o ++ (stepM r).2.1.toList) else ((stepM r).1, o)

def phi (r : RS) : Nat := 2 * r.rest.length + if r.body then 1 else 0

def feedM (r : RS) (c : List UInt8) : RS × List (List UInt8) :=
  if r.err = 0 then runM (phi { r with rest := r.rest ++ c } + 1) { r with rest := r.rest ++ c } [] else (r, [])

/-- What a reader is ahead of a step. -/
def RS.good (r : RS) : Prop := -1 ≤ r.len ∧ r.len ≤ 9999999999 ∧ (r.body = true → 0 ≤ r.len)

theorem occ_iff (s : List UInt8) (i : Nat) : occAt s crlf i = true ↔ s[i]? = some 13 ∧ s[i + 1]? = some 10 := by
  unfold occAt crlf
  have h0 : (s.drop i)[0]? = s[i]? := by rw [List.getElem?_drop]; rfl
  have h1 : (s.drop i)[1]? = s[i + 1]? := by rw [List.getElem?_drop]
  rcases h : s.drop i with _ | ⟨a, _ | ⟨b, t⟩⟩
  · rw [h] at h0 h1
    simp only [List.getElem?_nil] at h0 h1
    rw [← h0, ← h1]; simp [List.isPrefixOf]
  · rw [h] at h0 h1
    simp only [List.getElem?_cons_zero, List.getElem?_cons_succ, List.getElem?_nil] at h0 h1
    rw [← h0, ← h1]; simp [List.isPrefixOf]
  · rw [h] at h0 h1
    simp only [List.getElem?_cons_zero, List.getElem?_cons_succ] at h0 h1
    rw [← h0, ← h1]
    simp [List.isPrefixOf]
    constructor <;> rintro ⟨h, h'⟩ <;> exact ⟨h.symm, h'.symm⟩

theorem cut_at (a b : List UInt8) (h : (13 : UInt8) ∉ a) : cut (a ++ 13 :: 10 :: b) crlf = (a, b, true) := by
  have hi : index (a ++ 13 :: 10 :: b) crlf = (a.length : Nat) := by
    refine index_first (by simp) ((occ_iff _ _).2 ⟨by simp, ?_⟩) fun j hj => ?_
    · rw [List.getElem?_append_right (by omega)]; simp
    · cases ho : occAt (a ++ 13 :: 10 :: b) crlf j with
      | false => rfl
      | true =>
        have := ((occ_iff _ _).1 ho).1
        rw [List.getElem?_append_left hj] at this
        exact absurd (List.mem_of_getElem? this) h
  unfold cut
  rw [hi, if_pos (by omega)]
  refine Prod.ext ?_ (Prod.ext ?_ rfl)
  · simp
  · simp [crlf, List.drop_append]

theorem cut_none (s : List UInt8) (h : ∀ i : Nat, s[i]? = some (13 : UInt8) → s[i + 1]? = some (10 : UInt8) → False) : cut s crlf = (s, [], false) := by
  have hi : index s crlf = -1 := index_none fun j _ => by
    cases ho : occAt s crlf j with
    | false => rfl
    | true => exact absurd ((occ_iff _ _).1 ho).2 (fun h2 => h j ((occ_iff _ _).1 ho).1 h2)
  unfold cut
  rw [hi]; rfl

theorem cut_len (s : List UInt8) (h : (cut s crlf).2.2 = true) : (cut s crlf).1.length + 2 + (cut s crlf).2.1.length = s.length := by
  unfold cut at h ⊢
  split
  · rename_i h0
    have := index_room s crlf h0
    have e : crlf.length = 2 := rfl
    rw [e] at this ⊢
    simp only [List.length_take, List.length_drop]
    omega
  · rename_i h0
    rw [if_neg h0] at h; simp at h

theorem lineM_rest (s : List UInt8) (r : RS) : (lineM s r).rest = r.rest := by
  unfold lineM; split
  · rfl
  · split
    · rfl
    · split
      · rfl
      · split <;> rfl

theorem phi_step (r : RS) (_h : r.good) (ht : (stepM r).2.2 = true) : phi (stepM r).1 < phi r := by
  unfold stepM at ht ⊢
  cases hb : r.body with
  | true =>
    rw [hb] at ht
    simp only [if_true] at ht ⊢
    split
    · rename_i h1; rw [if_pos h1] at ht; simp at ht
    · simp only [phi, hb, List.length_drop]
      simp
      omega
  | false =>
    rw [hb] at ht
    simp only [Bool.false_eq_true, if_false] at ht ⊢
    split
    · rename_i h1; rw [if_pos h1] at ht; simp at ht
    · rename_i h1
      have hl := cut_len r.rest (by simpa using h1)
      simp only [phi, lineM_rest, hb]
      split <;> simp <;> omega

theorem runM_fuel : ∀ (n m : Nat) (r : RS) (o : List (List UInt8)), (∀ r : RS, r.good → (stepM r).2.2 = true → (stepM r).1.good) → r.good → phi r < n → phi r < m → runM n r o = runM m r o
  | 0, _, _, _, _, _, h, _ => by omega
  | _ + 1, 0, _, _, _, _, _, h => by omega
  | n + 1, m + 1, r, o, hg, h0, h1, h2 => by
    simp only [runM]
    cases ht : (stepM r).2.2 with
    | false => rfl
    | true =>
      simp only [if_true]
      have := phi_step r h0 ht
      exact runM_fuel n m _ _ hg (hg r h0 ht) (by omega) (by omega)

theorem valD_bound (l : List UInt8) (h : l.length ≤ 10) : 0 ≤ valD l ∧ valD l ≤ 9999999999 := by
  unfold valD
  cases hd : decFrom 0 l with
  | none => simp
  | some n =>
    have := decFrom_lt l 0 n hd
    have h2 : 10 ^ l.length ≤ 10 ^ 10 := Nat.pow_le_pow_right (by omega) h
    simp
    omega

theorem lenB_parts {s : List UInt8} (h : lenB s = true) : hasPrefix s hdc = true ∧ 1 ≤ (s.drop 16).length ∧ (s.drop 16).length ≤ 10 ∧ trimS (s.drop 16) dgs = [] := by
  simp only [lenB, Bool.and_eq_true, decide_eq_true_eq, List.isEmpty_iff] at h
  exact h

theorem good_line (s : List UInt8) (r : RS) (h : -1 ≤ r.len ∧ r.len ≤ 9999999999) (hb : r.body = false) (he : (lineM s r).err = 0) : (lineM s r).good := by
  unfold lineM at he ⊢
  split
  · rename_i h1; rw [if_pos h1] at he; simp at he
  · rename_i h1; rw [if_neg h1] at he
    split
    · rename_i h2; rw [if_pos h2] at he
      refine ⟨h.1, h.2, fun _ => ?_⟩
      simp only at he ⊢
      by_cases h3 : r.len < 0
      · rw [if_pos h3] at he; omega
      · omega
    · rename_i h2; rw [if_neg h2] at he
      split
      · rename_i h3
        have hv := valD_bound (s.drop 16) (lenB_parts h3).2.2.1
        exact ⟨by show -1 ≤ valD _; omega, hv.2, fun hb' => by rw [show (RS.body _) = r.body from rfl, hb] at hb'; cases hb'⟩
      · split
        · rename_i h3 h4; rw [if_neg h3, if_pos h4] at he; simp at he
        · exact ⟨h.1, h.2, fun hb' => by rw [show (RS.body _) = r.body from rfl, hb] at hb'; cases hb'⟩

theorem good_step (r : RS) (h : r.good) (ht : (stepM r).2.2 = true) : (stepM r).1.good := by
  unfold stepM at ht ⊢
  cases hb : r.body with
  | true =>
    rw [hb] at ht
    simp only [if_true] at ht ⊢
    split
    · rename_i h1; rw [if_pos h1] at ht; simp at ht
    · exact ⟨by simp, by simp, fun h => by simp at h⟩
  | false =>
    rw [hb] at ht
    simp only [Bool.false_eq_true, if_false] at ht ⊢
    split
    · rename_i h1; rw [if_pos h1] at ht; simp at ht
    · rename_i h1; rw [if_neg h1] at ht
      exact good_line _ _ ⟨h.1, h.2.1⟩ rfl (by simpa using ht)

theorem runM_step (r : RS) (o : List (List UInt8)) (h : r.good) (ht : (stepM r).2.2 = true) : runM (phi (stepM r).1 + 1) (stepM r).1 (o ++ (stepM r).2.1.toList) = runM (phi r + 1) r o := by
  have h1 := phi_step r h ht
  conv => rhs; rw [runM, if_pos ht]
  exact runM_fuel _ _ _ _ good_step (good_step r h ht) (by omega) (by omega)

theorem runM_stop (r : RS) (o : List (List UInt8)) (n : Nat) (ht : (stepM r).2.2 = false) : runM (n + 1) r o = ((stepM r).1, o) := by
  rw [runM, if_neg (by simp [ht])]

end Go.Proofs.YtalklmeejdmifaaGreatDoor.Wire
