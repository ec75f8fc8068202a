/-
  JOINED of the texts NF NG NJ NI
-/
import Derived.Test.YtgpjcjnimheglaaDoorJae
import Derived.Deep.CutBlock
import Derived.Deep.LoopGhost
import Derived.Lib.ItoaNum
import Derived.Lib.RuneBytes
import Derived.Lib.Strings
import Derived.Lib.ConvBytes
import Derived.Laws.Strings3
import Derived.Laws.Closers25
import Derived.Laws.Closers25b
import Derived.BigCall
import Derived.BigGuard
import Derived.Test.YtgpjcjnimheglaaDoorShelfX
import Derived.Shelf.Spec.BytesIndexFunc
import Derived.Deep.RegionHeld3
import Derived.Deep.DeepCutAuto
import Derived.Lib.IndexMore
import Derived.Test.YtgpjcjnimheglaaDoorRows
import Derived.WalkKit
import Derived.WalkSpells
import Derived.WalkLawsBesides
import Derived.Below
import Derived.Laws.OwnMore
import Derived.Deep.AppendLies
import Derived.Deep.Draws
import Derived.Lib.Hide
import Derived.Deep.QuietTactic
import Derived.BigQuiet
import Derived.IntWalk
import Derived.Test.YtgpjcjnimheglaaDoorShelfW
import Derived.Shelf.Strings.SlTrimAscii
import Derived.Lib.LaidTab
import Derived.Lib.AtoiAll
import Derived.Lib.IndexLaws
import Derived.Lib.SlTrimSet
import Derived.Lib.Atoi
import Derived.Test.YtgpjcjnimheglaaDoorJad
import Derived.StillTailTactics
import Derived.Test.YtgpjcjnimheglaaDoorShelf
import Derived.Shelf.Strings.Builder1
/-
  WALKS of package wire's reader: escape, characters of two halves; all of it.
-/
namespace Go.Proofs.YtgpjcjnimheglaaDoor
open Go.RowKit

namespace Jp
theorem pre_two (s : List UInt8) (k : Nat) : [(92 : UInt8), 117].isPrefixOf (s.drop k) = decide (s[k]? = some 92 ∧ s[k + 1]? = some 117) := by
  have e0 : (s.drop k)[0]? = s[k]? := by rw [List.getElem?_drop]; rfl
  have e1 : (s.drop k)[1]? = s[k + 1]? := by rw [List.getElem?_drop]
  rw [← e0, ← e1]
  generalize s.drop k = l
  match l with
  | [] => simp [List.isPrefixOf]
  | [a] => simp [List.isPrefixOf]
  | a :: b :: t =>
    have e : [(92 : UInt8), 117].isPrefixOf (a :: b :: t) = ((92 == a) && ((117 == b) && true)) := rfl
    have e2 : ((a :: b :: t)[0]? = some 92 ∧ (a :: b :: t)[1]? = some 117) ↔ (a = 92 ∧ b = 117) := by
      constructor
      · rintro ⟨h1, h2⟩; exact ⟨Option.some.inj h1, Option.some.inj h2⟩
      · rintro ⟨rfl, rfl⟩; exact ⟨rfl, rfl⟩
    rw [e, decide_eq_decide.2 e2]
    by_cases ha : a = 92
    · by_cases hb : b = 117
      · rw [decide_eq_true ⟨ha, hb⟩, ha, hb]; rfl
      · have h1 : ((117 : UInt8) == b) = false := by rw [beq_eq_false_iff_ne]; exact fun h => hb h.symm
        rw [h1, decide_eq_false (fun h => hb h.2)]; simp only [Bool.false_and, Bool.and_false]
    · have h1 : ((92 : UInt8) == a) = false := by rw [beq_eq_false_iff_ne]; exact fun h => ha h.symm
      rw [h1, decide_eq_false (fun h => ha h.1)]; simp only [Bool.false_and]
end Jp

section
variable (g : Nat) (s : Bs) (i : Nat) (w : World)
set_option maxHeartbeats 4000000 in
set_option maxRecDepth 100000 in
/-- a character of two numbers -/
theorem jesc_two (h : RdrAt w g s i) (hi : i + 1 < s.length) (hl : s.length ≤ 16777216) (hv : Jp.simP s[i + 1] = none) (R : Jp.Rs Bs) (n : Nat) (hR : R = Jp.lowP s i n)
    (hc : s[i + 1] = 117) (hF : Jp.fourP s (i + 2) = some n) (hn : 55296 ≤ n ∧ n < 56320) :
    Calls Tryd.prog 39 #[.pointer (some ⟨g, 0, none⟩)] w (RsP g s w (fun b : Bs => .string ⟨b.toArray⟩) R) := by
  have c0 := h.c0
  have c1 := h.c1
  have hgl := h.lt
  have hix := esc_ix s i hi
  have hsim := Jp.ix_sim s[i + 1]
  rw [hv] at hsim
  rw [show Lib.indexByte [34, 92, 47, 98, 102, 110, 114, 116] s[i + 1] = -1 from hsim] at hix
  have hfo := jfour_walk g s i (i + 2) w h (by omega) hl
  rw [hF] at hfo
  have hi6 := Jp.four_len hF
  have hbk : ((((⟨s.toArray⟩ : ByteArray)[i + 1]'(by rw [mk_size]; exact hi)).toNat : Int) == (117 : Int)) = decide (s[i + 1] = 117) := bk_eq s (i + 1) hi 117
  rw [decide_eq_true hc] at hbk
  have hbn : (((⟨s.toArray⟩ : ByteArray)[i + 1]'(by rw [mk_size]; exact hi)).toNat : Int) = 117 := by simpa using hbk
  simp only [hbn] at hix
  have d1 : ((i : Int) + 1 == (s.length : Int)) = false := by simp; omega
  have j4 : (0 : Int) ≤ (i : Int) + 1 := by omega
  have j5 : (i : Int) + 1 < (s.length : Int) := by omega
  have e2 : ((i + 2 : Nat) : Int) = (i : Int) + 2 := by omega
  rw [e2] at hfo
  have d2 : decide ((56320 : Int) ≤ (n : Int)) = false := decide_eq_false (by omega)
  have d3 : decide ((n : Int) < 55296) = false := decide_eq_false (by omega)
  have d4 : decide ((57343 : Int) < (n : Int)) = false := decide_eq_false (by omega)
  have hfour := fun w (h : RdrAt w g s (i + 6)) => jfour_walk g s (i + 6) (i + 8) w h (by omega) hl
  have hpre := fun w : World => pre_walk (s.drop (i + 6)) [92, 117] w
  rw [Jp.pre_two] at hpre
  have hxd := ext_drop s (i + 6)
  rw [← hxd] at hpre
  unfold Jp.lowP at hR
  have HR : Hid (R = if s[i + 6]? = some 92 ∧ s[i + 7]? = some 117 then (match Jp.fourP s (i + 8) with | some l => if 56320 ≤ l ∧ l ≤ 57343 then .ok (Lx.enc (65536 + (n - 55296) * 1024 + (l - 56320))) (i + 12) else .bad i 3 | none => .bad i 3) else .bad i 3) := hR
  have hlt2 : ∀ l, Jp.fourP s (i + 8) = some l → l < 65536 ∧ i + 8 + 4 ≤ s.length := fun l hl => ⟨Jp.four_lt hl, Jp.four_len hl⟩
  have Hlt2 := Lib.hid hlt2
  have Hn := Lib.hid hn
  have j6 : (0 : Int) ≤ (i : Int) + 6 := by omega
  have j7 : (i : Int) + 6 ≤ (s.length : Int) := by omega
  have j8 : (i : Int) ≤ 16777216 := by omega
  clear hR hv hsim e2 hc hF hn hlt2 hxd
  generalize hq : decide (s[i + 6]? = some 92 ∧ s[i + 6 + 1]? = some 117) = q at *
  have HQ : Hid (q = true → s[i + 6]? = some 92 ∧ s[i + 7]? = some 117) := fun h => of_decide_eq_true (hq.trans h)
  have HQn : Hid (q = false → ¬ (s[i + 6]? = some 92 ∧ s[i + 7]? = some 117)) := fun h => of_decide_eq_false (hq.trans h)
  clear hq
  generalize Jp.fourP s (i + 8) = F2 at *
  unfold fourV at hfo
  go_enter Tryd.func39, Tryd.ntmps39
  go_wp2_with fail
  refine (hix _).mono ?_
  clear hix
  rintro e w3 ⟨rfl, rfl⟩
  go_wp2_with fail
  refine hfo.mono ?_
  clear hfo
  rintro e w4 ⟨rfl, hb4⟩
  have h4 := h.below hb4
  have ha4 := AftR.of_below hb4 (Nat.le_of_lt hgl)
  have c1 := h4.c1
  have f1 := h4.f1
  have h5 := h4.move (i + 6)
  have ha5 := ha4.set 1 (.int .i64 ((i + 6 : Nat) : Int))
  have hfour2 := hfour _ h5
  have E6 : Hid ((i : Int) + 6 = ((i + 6 : Nat) : Int)) := by show _ = _; omega
  have E8 : Hid ((i : Int) + 6 + 2 = ((i + 8 : Nat) : Int)) := by show _ = _; omega
  clear hfour h4 ha4
  go_upto_region 15 with fail
  rw [E6.out]
  clear c1 f1
  generalize w4.setCell ⟨g, 1, none⟩ (.int .i64 ((i + 6 : Nat) : Int)) = w5 at *
  have c1 := h5.c1
  go_wp2_with fail
  first
    | rw [E8.out]
    | rw [show ((i + 6 : Nat) : Int) + 2 = ((i + 8 : Nat) : Int) by omega]
  refine hfour2.mono ?_
  clear hfour2
  rintro e w6 ⟨rfl, hb6⟩
  have h6 := h5.below hb6
  have ha6 := ha5.below hb6 (Nat.le_of_lt hgl)
  clear h5 ha5 hb6 c1
  have c0 := h6.c0
  have c1 := h6.c1
  have f1 := h6.f1
  have hpq : ∀ m, Calls Tryd.prog 37 #[.string ((⟨s.toArray⟩ : ByteArray).extract (i + 6) s.length), .string ⟨#[92, 117]⟩] (w6.drewN m) fun e w' => e = .returned (.bool q) ∧ w' = w6.drewN m := fun m => hpre (w6.drewN m)
  clear hpre
  cases F2 with
  | none =>
    have HB : Hid (R = .bad i 3) := by
      show _ = _
      rw [HR.out]
      split <;> rfl
    clear HR
    unfold fourV
    go_wp2_with fail
    go_quiet ((go_at_call 37; exact Calls.quiet_of_same (hpq _)))
    go_wp2_with fail
    refine (fail_walk i 3 _).mono ?_
    rintro e w3 ⟨rfl, rfl⟩
    go_wp2_with fail
    exact ⟨rfl, RsP.bad HB.out (ha6.drewN _)⟩
  | some l =>
    obtain ⟨hl1, hl2⟩ := Hlt2.out l rfl
    cases q with
    | false =>
      have HB : Hid (R = .bad i 3) := by
        show _ = _
        rw [HR.out, if_neg (HQn.out rfl)]
      clear HR hl1
      unfold fourV
      go_wp2_with fail
      go_quiet ((go_at_call 37; exact Calls.quiet_of_same (hpq _)))
      go_wp2_with fail
      refine (fail_walk i 3 _).mono ?_
      rintro e w3 ⟨rfl, rfl⟩
      go_wp2_with fail
      exact ⟨rfl, RsP.bad HB.out (ha6.drewN _)⟩
    | true =>
      have HR2 : Hid (R = if 56320 ≤ l ∧ l ≤ 57343 then .ok (Lx.enc (65536 + (n - 55296) * 1024 + (l - 56320))) (i + 12) else .bad i 3) := by
        show _ = _
        rw [HR.out, if_pos (HQ.out rfl)]
      clear HR
      have hways : (decide ((l : Int) < 56320) = true ∧ Hid (R = .bad i 3)) ∨ (decide ((l : Int) < 56320) = false ∧ decide ((57343 : Int) < (l : Int)) = true ∧ Hid (R = .bad i 3)) ∨ (decide ((l : Int) < 56320) = false ∧ decide ((57343 : Int) < (l : Int)) = false ∧ Hid (R = .ok (Lx.enc (65536 + (n - 55296) * 1024 + (l - 56320))) (i + 12)) ∧ Hid (56320 ≤ l ∧ l ≤ 57343)) := by
        by_cases g1 : l < 56320
        · exact .inl ⟨decide_eq_true (by omega), by show _ = _; rw [HR2.out, if_neg (by omega)]⟩
        · by_cases g2 : 57343 < l
          · exact .inr (.inl ⟨decide_eq_false (by omega), decide_eq_true (by omega), by show _ = _; rw [HR2.out, if_neg (by omega)]⟩)
          · exact .inr (.inr ⟨decide_eq_false (by omega), decide_eq_false (by omega), by show _ = _; rw [HR2.out, if_pos (by omega)], by show _ ∧ _; omega⟩)
      clear hl1 HR2
      unfold fourV
      rcases hways with ⟨g1, HB⟩ | ⟨g1, g2, HB⟩ | ⟨g1, g2, HB, HL⟩
      · go_wp2_with fail
        go_quiet ((go_at_call 37; exact Calls.quiet_of_same (hpq _)))
        go_wp2_with fail
        refine (fail_walk i 3 _).mono ?_
        rintro e w3 ⟨rfl, rfl⟩
        go_wp2_with fail
        exact ⟨rfl, RsP.bad HB.out (ha6.drewN _)⟩
      · go_wp2_with fail
        go_quiet ((go_at_call 37; exact Calls.quiet_of_same (hpq _)))
        go_wp2_with fail
        refine (fail_walk i 3 _).mono ?_
        rintro e w3 ⟨rfl, rfl⟩
        go_wp2_with fail
        exact ⟨rfl, RsP.bad HB.out (ha6.drewN _)⟩
      · go_wp2_with fail
        go_quiet ((go_at_call 37; exact Calls.quiet_of_same (hpq _)))
        go_upto_region 19 with fail
        have E12 : Hid ((i : Int) + 6 + 6 = ((i + 12 : Nat) : Int)) := by show _ = _; omega
        rw [E12.out]
        have h7 := (h6.drewN nq).move (i + 12)
        have ha7 := (ha6.drewN nq).set 1 (.int .i64 ((i + 12 : Nat) : Int))
        clear h6 ha6 hpq c0 c1 f1
        generalize (w6.drewN nq).setCell ⟨g, 1, none⟩ (.int .i64 ((i + 12 : Nat) : Int)) = w7 at *
        have b1 : decide ((55296 : Int) ≤ (n : Int)) = true := decide_eq_true (by have := Hn.out; omega)
        obtain ⟨a, ha⟩ : ∃ a : Nat, (n : Int) = 55296 + (a : Int) := ⟨n - 55296, by have := Hn.out; omega⟩
        obtain ⟨b, hb⟩ : ∃ b : Nat, (l : Int) = 56320 + (b : Int) := ⟨l - 56320, by have := HL.out; omega⟩
        have ha1 : (a : Int) < 1024 := by have := Hn.out; omega
        have hb1 : (b : Int) < 1024 := by have := HL.out; omega
        have hen : 65536 + (n - 55296) * 1024 + (l - 56320) = 65536 + a * 1024 + b := by have := Hn.out; have := HL.out; omega
        have HB2 : Hid (R = .ok (Lx.enc (65536 + a * 1024 + b)) (i + 12)) := by show _ = _; rw [← hen]; exact HB.out
        rw [ha, hb]
        clear HB hen Hn HL hl2 ha hb b1
        go_wp2_with fail
        have e9 : (65536 + (55296 + (a : Int) - 55296) * 1024 + (56320 + (b : Int)) - 56320) = ((65536 + a * 1024 + b : Nat) : Int) := by omega
        have hfin := RsP.ok (val := fun b : Bs => Value.string ⟨b.toArray⟩) HB2.out ha7 h7
        simp only [← enc_str] at hfin
        rw [← e9] at hfin
        go_ret
        exact hfin

/-- an escape -/
theorem jesc_walk (h : RdrAt w g s i) (hi : i < s.length) (hl : s.length ≤ 16777216) :
    Calls Tryd.prog 39 #[.pointer (some ⟨g, 0, none⟩)] w (RsP g s w (fun b : Bs => .string ⟨b.toArray⟩) (Jp.escP s i)) := by
  by_cases hi1 : i + 1 < s.length
  · have hg : s[i + 1]? = some s[i + 1] := List.getElem?_eq_getElem hi1
    cases hv : Jp.simP s[i + 1] with
    | some v =>
      exact jesc_sim g s i w h hi1 hl v hv _ (by unfold Jp.escP; rw [hg]; simp only [hv])
    | none =>
      by_cases hc : s[i + 1] = 117
      · have hE : Jp.escP s i = Jp.uniP s i := by
          unfold Jp.escP; rw [hg]; simp only [hv]; rw [if_pos hc]
        rw [hE]
        cases hF : Jp.fourP s (i + 2) with
        | none => exact jesc_bad g s i w h hi1 hl hv _ (by unfold Jp.uniP; rw [hF]) (.inr (.inl hF))
        | some n =>
          by_cases h1 : 56320 ≤ n ∧ n ≤ 57343
          · exact jesc_bad g s i w h hi1 hl hv _ (by unfold Jp.uniP; rw [hF]; simp only; rw [if_pos h1]) (.inr (.inr ⟨n, hF, h1⟩))
          · by_cases h2 : n < 55296 ∨ 57343 < n
            · exact jesc_one g s i w h hi1 hl hv _ n (by unfold Jp.uniP; rw [hF]; simp only; rw [if_neg h1, if_pos h2]) hc hF h2
            · exact jesc_two g s i w h hi1 hl hv _ n (by unfold Jp.uniP; rw [hF]; simp only; rw [if_neg h1, if_neg h2]) hc hF (by omega)
      · exact jesc_bad g s i w h hi1 hl hv _ (by unfold Jp.escP; rw [hg]; simp only [hv]; rw [if_neg hc]) (.inl hc)
  · exact jesc_end g s i w h (by omega) hl _ (by unfold Jp.escP; rw [List.getElem?_eq_none (by omega)])
end
end Go.Proofs.YtgpjcjnimheglaaDoor
/-
  WALKS of package wire's reader: text.
-/
namespace Go.Proofs.YtgpjcjnimheglaaDoor
open Go.RowKit

theorem AftR.past {g B : Nat} {w w1 w' : World} (h : AftR g w w1) (hb : Below B w1 w') (hg : g ≤ B) (hB : w.heap.size ≤ B) : AftR g w w' :=
  ⟨h.bel.trans (hb.mono hg), fun k hk hn => (hb.block k (by omega)).trans (h.oth k hk hn)⟩
theorem RdrAt.past {g B : Nat} {s : Bs} {i : Nat} {w w' : World} (h : RdrAt w g s i) (hb : Below B w w') (hg : g < B) : RdrAt w' g s i := Blk.below h hb hg
theorem IsB.aft {B b g : Nat} {l : Bs} {w w' : World} (h : IsB B b l w) (ha : AftR g w w') (hg : g < B) : IsB B b l w' := h.keep fun k hk hkB => ha.oth k hk (by omega)
theorem IsB.moved {B b g : Nat} {l : Bs} {w : World} (h : IsB B b l w) (hg : g < B) (u : Value) : IsB B b l (w.setCell ⟨g, 1, none⟩ u) := h.keep fun k _ hkB => Below.heap_setCell _ _ _ _ (by simp; omega)

set_option maxRecDepth 100000 in
theorem jenc_len (c : Nat) : (Lx.enc c).length ≤ 4 := by
  unfold Lx.enc Utf8.encode
  generalize (if Utf8.valid (c : Int) = true then (c : Int).toNat else Utf8.runeError) = n
  by_cases h1 : n < 0x80
  · simp only [if_pos h1]; simp
  · by_cases h2 : n < 0x800
    · simp only [if_neg h1, if_pos h2]; simp
    · by_cases h3 : n < 0x10000
      · simp only [if_neg h1, if_neg h2, if_pos h3]; simp
      · simp only [if_neg h1, if_neg h2, if_neg h3]; simp
namespace Jp
theorem low_len {s : List UInt8} {i n k : Nat} {b : List UInt8} (h : lowP s i n = .ok b k) : b.length ≤ 4 := by
  unfold lowP at h
  split at h
  · split at h
    · split at h
      · injection h with h1 h2; rw [← h1]; exact jenc_len _
      · cases h
    · cases h
  · cases h
theorem uni_len {s : List UInt8} {i k : Nat} {b : List UInt8} (h : uniP s i = .ok b k) : b.length ≤ 4 := by
  unfold uniP at h
  split at h
  · cases h
  · split at h
    · cases h
    · split at h
      · injection h with h1 h2; rw [← h1]; exact jenc_len _
      · exact low_len h
theorem esc_len {s : List UInt8} {i k : Nat} {b : List UInt8} (h : escP s i = .ok b k) : b.length ≤ 4 := by
  unfold escP at h
  split at h
  · cases h
  · split at h
    · injection h with h1 h2; rw [← h1]; simp
    · split at h
      · exact uni_len h
      · cases h
end Jp

set_option maxHeartbeats 4000000 in
set_option maxRecDepth 100000 in
/-- the rest of a text -/
theorem jtext_walk (g : Nat) (s : Bs) (i : Nat) (w : World) (h : RdrAt w g s i) (hi : i ≤ s.length) (hl : s.length ≤ 16777216) :
    Calls Tryd.prog 22 #[.pointer (some ⟨g, 0, none⟩)] w (RsP g s w (fun t : Bs => .string ⟨t.toArray⟩) (Jp.textP s i)) := by
  have hnd := jneed_walk g s i 34 w h hi hl
  have hna := Jp.need_ahead s 34 i hi
  have hgl := h.lt
  generalize hR : Jp.textP s i = R
  have hR2 : (match Jp.needP s 34 i with | .bad p e => Jp.Rs.bad p e | .ok _ k => Jp.txtP s k) = R := hR
  clear hR
  generalize Jp.needP s 34 i = N at *
  cases N with
  | bad p er =>
    have HR := Lib.hid hR2.symm
    clear hR2
    go_enter Tryd.func22, Tryd.ntmps22
    go_wp2_with fail
    refine hnd.mono ?_
    intro e w1 h1
    obtain ⟨ha1, rfl⟩ := h1.is_bad
    go_wp2_with fail
    exact ⟨rfl, RsP.bad HR.out ha1⟩
  | ok u k =>
    obtain ⟨hk1, hk2⟩ := hna
    have HR : Hid (R = Jp.txtF s (s.length + 1) k []) := hR2.symm
    clear hR2
    go_enter Tryd.func22, Tryd.ntmps22
    go_wp2_with fail
    refine hnd.mono ?_
    clear hnd
    intro e w1 h1
    obtain ⟨ha1, rfl, hr1⟩ := h1.is_ok
    clear h1
    go_upto_block 0 with fail
    have hI1 : IsB w1.heap.size w1.heap.size [] (w1.alloc (.cells #[.pointer none, .slice none 0 0] 37)) := IsB.fresh w1
    have hbA : Below w1.heap.size w1 (w1.alloc (.cells #[.pointer none, .slice none 0 0] 37)) := (Below.refl _ _).alloc (Nat.le_refl _) _
    have hr2 := hr1.below hbA
    have ha2 := ha1.below hbA (Nat.le_of_lt hgl)
    obtain ⟨bb, ebb⟩ : ∃ b, b = w1.heap.size := ⟨_, rfl⟩
    have hwb : w.heap.size ≤ bb := by have := ha1.bel.size; omega
    have hgb : g < bb := by omega
    rw [← ebb] at hI1 ⊢
    clear ebb hbA hr1 ha1
    generalize w1.alloc (.cells #[.pointer none, .slice none 0 0] 37) = w2 at *
    go_wp2_with fail
    go_loopg [] (s.length - k) (fun q wr => ∃ m f acc, s.length - m ≤ q ∧ m ≤ s.length ∧ RdrAt wr g s m ∧ AftR g w wr ∧ IsB bb bb acc wr ∧ Hid (R = Jp.txtF s (f + 1) m acc) ∧ Hid (s.length + 1 ≤ f + 1 + m) ∧ acc.length ≤ 4 * m)
    case atStart => exact ⟨k, s.length, [], Nat.le_refl _, hk2, hr2, ha2, hI1, HR.out, by show _ ≤ _; omega, by simp⟩
    case round =>
      clear hI1 hr2 ha2 HR
      obtain ⟨m, f, acc, hq, hm, hr, ha, hI, HR, HF, hacc⟩ := hrel
      have c0 := hr.c0
      have c1 := hr.c1
      have f1 := hr.f1
      have j1 : (0 : Int) ≤ (m : Int) := by omega
      have HR2 : Hid (R = match s[m]? with | none => .bad m 3 | some c => if c.toNat < 32 then .bad m 3 else if c = 34 then .ok acc (m + 1) else if c = 92 then (match Jp.escP s m with | .bad p e => .bad p e | .ok b k => Jp.txtF s f k (acc ++ b)) else Jp.txtF s f (m + 1) (acc ++ [c])) := HR.out
      clear HR
      by_cases hlt : m < s.length
      · have j2 : (m : Int) < (s.length : Int) := by omega
        have d1 : ((m : Int) == (s.length : Int)) = false := by simp; omega
        have hg : s[m]? = some s[m] := List.getElem?_eq_getElem hlt
        have hi34 := fun w (h : RdrAt w g s m) => jis_walk g s m 34 w h hm hl
        have hi92 := fun w (h : RdrAt w g s m) => jis_walk g s m 92 w h hm hl
        simp only [hg, Option.some.injEq] at hi34 hi92
        by_cases g32 : s[m].toNat < 32
        · have d2 : decide ((((⟨s.toArray⟩ : ByteArray)[m]'(by rw [mk_size]; exact hlt)).toNat : Int) < 32) = true := decide_eq_true (by show ((s[m].toNat : Nat) : Int) < 32; omega)
          have HB : Hid (R = .bad m 3) := by show _ = _; rw [HR2.out, hg]; simp only; rw [if_pos g32]
          clear HR2 hg g32
          go_wp2_with fail
          go_quiet (fail)
          go_wp2_with fail
          refine (fail_walk m 3 _).mono ?_
          rintro e w3 ⟨rfl, rfl⟩
          go_wp2_with fail
          exact ⟨rfl, RsP.bad HB.out (ha.drewN _)⟩
        · have d2 : decide ((((⟨s.toArray⟩ : ByteArray)[m]'(by rw [mk_size]; exact hlt)).toNat : Int) < 32) = false := decide_eq_false (by show ¬ ((s[m].toNat : Nat) : Int) < 32; omega)
          have HC : Hid (R = if s[m] = 34 then .ok acc (m + 1) else if s[m] = 92 then (match Jp.escP s m with | .bad p e => .bad p e | .ok b k => Jp.txtF s f k (acc ++ b)) else Jp.txtF s f (m + 1) (acc ++ [s[m]])) := by
            show _ = _
            rw [HR2.out, hg]
            simp only
            rw [if_neg g32]
          have H34 : Hid (decide (s[m] = 34) = true → R = .ok acc (m + 1)) := fun h => by rw [HC.out, if_pos (of_decide_eq_true h)]
          have H92 : Hid (decide (s[m] = 34) = false → decide (s[m] = 92) = true → R = match Jp.escP s m with | .bad p e => .bad p e | .ok b k => Jp.txtF s f k (acc ++ b)) := fun h h' => by rw [HC.out, if_neg (of_decide_eq_false h), if_pos (of_decide_eq_true h')]
          have Hdf : Hid (decide (s[m] = 34) = false → decide (s[m] = 92) = false → R = Jp.txtF s f (m + 1) (acc ++ [s[m]])) := fun h h' => by rw [HC.out, if_neg (of_decide_eq_false h), if_neg (of_decide_eq_false h')]
          have hF0 : 0 < f := by have := HF.out; omega
          clear HR2 HC hg g32
          generalize decide (s[m] = 34) = q34 at *
          generalize decide (s[m] = 92) = q92 at *
          go_wp2_with fail
          go_quiet (fail)
          have hr3 := hr.drewN nq
          have ha3 := ha.drewN nq
          have hI3 := hI.drewN nq
          clear hr ha hI c0 c1 f1
          generalize wr.drewN nq = w3 at *
          go_wp2_with fail
          refine (hi34 w3 hr3).mono ?_
          rintro e w4 ⟨rfl, n4, rfl⟩
          have hr4 := hr3.drewN n4
          have ha4 := ha3.drewN n4
          have hI4 := hI3.drewN n4
          clear hr3 ha3 hI3
          generalize w3.drewN n4 = w4 at *
          have c0 := hr4.c0
          have c1 := hr4.c1
          have f1 := hr4.f1
          have hwz : bb ≤ w4.heap.size := by have := hI4.lt; omega
          cases q34 with
          | true =>
            have HB := Lib.hid (H34.out rfl)
            clear H34 H92 Hdf
            have hr5 := hr4.move (m + 1)
            have ha5 := ha4.set 1 (.int .i64 ((m + 1 : Nat) : Int))
            have hI5 := hI4.moved hgb (.int .i64 ((m + 1 : Nat) : Int))
            have hst := bString_walk hI5 (by simp; omega)
            go_wp2_with fail
            refine hst.mono ?_
            rintro e w5 ⟨rfl, hb5⟩
            go_wp2_with fail
            go_ret
            exact RsP.ok (val := fun t : Bs => Value.string ⟨t.toArray⟩) HB.out (ha5.past hb5 (Nat.le_of_lt hgb) hwb) (hr5.past hb5 hgb)
          | false =>
            go_wp2_with fail
            refine (hi92 w4 hr4).mono ?_
            rintro e w5 ⟨rfl, n5, rfl⟩
            have hr5 := hr4.drewN n5
            have ha5 := ha4.drewN n5
            have hI5 := hI4.drewN n5
            clear hr4 ha4 hI4 c0 c1 f1 hwz
            generalize w4.drewN n5 = w5 at *
            have c0 := hr5.c0
            have c1 := hr5.c1
            have f1 := hr5.f1
            have hwz : bb ≤ w5.heap.size := by have := hI5.lt; omega
            cases q92 with
            | true =>
              have HB := Lib.hid (H92.out (by first | rfl | trivial) (by first | rfl | trivial))
              clear H34 H92 Hdf
              have hes := jesc_walk g s m w5 hr5 hlt hl
              have hah := Jp.esc_ahead s m hlt
              have hel : ∀ b k, Jp.escP s m = .ok b k → b.length ≤ 4 := fun b k h => Jp.esc_len h
              generalize Jp.escP s m = E at *
              cases E with
              | bad p er =>
                go_wp2_with fail
                refine hes.mono ?_
                intro e w6 h6
                obtain ⟨ha6, rfl⟩ := h6.is_bad
                go_wp2_with fail
                exact ⟨rfl, RsP.bad HB.out (ha5.trans ha6)⟩
              | ok b k' =>
                have hbl := hel b k' rfl
                obtain ⟨hm1, hm2⟩ := hah
                go_wp2_with fail
                refine hes.mono ?_
                clear hes
                intro e w6 h6
                obtain ⟨ha6, rfl, hr6⟩ := h6.is_ok
                clear h6
                have hI6 := hI5.aft ha6 hgb
                have ha6 := ha5.trans ha6
                have hwz6 : bb ≤ w6.heap.size := by have := hI6.lt; omega
                go_wp2_with fail
                refine (writeStr_walk hI6 b (by omega) hwz6).mono ?_
                rintro e w7 ⟨rfl, hI7, hb7, -⟩
                go_wp2_with fail
                go_roundg (s.length - k')
                case rel =>
                  obtain ⟨f', rfl⟩ : ∃ f', f = f' + 1 := ⟨f - 1, by omega⟩
                  exact ⟨k', f', acc ++ b, Nat.le_refl _, hm2, hr6.past hb7 hgb, ha6.past hb7 (Nat.le_of_lt hgb) hwb, hI7, HB.out, by show _ ≤ _; have := HF.out; omega, by rw [List.length_append]; omega⟩
                case measure => omega
            | false =>
              have HB := Lib.hid (Hdf.out (by first | rfl | trivial) (by first | rfl | trivial))
              clear H34 H92 Hdf
              go_wp2_with fail
              go_still_tail 9, (by kernel_rfl)
              change wpList _ _ _ _ _ w5.drew
              have hr6 := hr5.drew
              have ha6 := ha5.drew
              have hI6 := hI5.drew
              have hwz6 : bb ≤ w5.drew.heap.size := hwz
              have hwb6 := writeByte_walk hI6 s[m] (by omega) hwz6
              clear hr5 ha5 hI5 c0 c1 f1 hwz
              generalize w5.drew = w6 at *
              go_wp2_with fail
              refine hwb6.mono ?_
              clear hwb6
              rintro e w7 ⟨rfl, hI7, hb7, -⟩
              have hr7 := hr6.past hb7 hgb
              have ha7 := ha6.past hb7 (Nat.le_of_lt hgb) hwb
              have c1 := hr7.c1
              have f1 := hr7.f1
              have hr8 := hr7.move (m + 1)
              have ha8 := ha7.set 1 (.int .i64 ((m + 1 : Nat) : Int))
              have hI8 := hI7.moved hgb (.int .i64 ((m + 1 : Nat) : Int))
              go_wp2_with fail
              go_roundg (s.length - (m + 1))
              case rel =>
                obtain ⟨f', rfl⟩ : ∃ f', f = f' + 1 := ⟨f - 1, by omega⟩
                exact ⟨m + 1, f', acc ++ [s[m]], Nat.le_refl _, by omega, hr8, ha8, hI8, HB.out, by show _ ≤ _; have := HF.out; omega, by rw [List.length_append]; simp; omega⟩
              case measure => omega
      · obtain rfl : m = s.length := by omega
        have HB : Hid (R = .bad s.length 3) := by show _ = _; rw [HR2.out, List.getElem?_eq_none (Nat.le_refl _)]
        have d1 : ((s.length : Int) == (s.length : Int)) = true := by simp
        clear HR2
        go_wp2_with fail
        go_quiet (fail)
        go_wp2_with fail
        refine (fail_walk s.length 3 _).mono ?_
        rintro e w3 ⟨rfl, rfl⟩
        go_wp2_with fail
        exact ⟨rfl, RsP.bad HB.out (ha.drewN _)⟩
end Go.Proofs.YtgpjcjnimheglaaDoor
/-
  WALKS of slices.Clip at []string and []api.Json.
-/
namespace Go.Proofs.YtgpjcjnimheglaaDoor
open Go.RowKit

set_option maxRecDepth 100000 in
theorem kclip_walk (A : Option Addr) (n c : Nat) (w : World) (h : n ≤ c) (hn : A = none → c = 0) :
    Calls Tryd.prog 28 #[.slice A n c] w fun e w' => e = .returned (.slice A n n) ∧ w' = w := by
  cases A with
  | none =>
    have := hn rfl
    subst this
    obtain rfl : n = 0 := by omega
    go_enter Tryd.func28, Tryd.ntmps28
    go_wp2
    go_ret
    exact ⟨rfl, rfl⟩
  | some a =>
    go_enter Tryd.func28, Tryd.ntmps28
    go_wp2
    go_ret
    exact ⟨rfl, rfl⟩
set_option maxRecDepth 100000 in
theorem jclip_walk (A : Option Addr) (n c : Nat) (w : World) (h : n ≤ c) (hn : A = none → c = 0) :
    Calls Tryd.prog 29 #[.slice A n c] w fun e w' => e = .returned (.slice A n n) ∧ w' = w := by
  cases A with
  | none =>
    have := hn rfl
    subst this
    obtain rfl : n = 0 := by omega
    go_enter Tryd.func29, Tryd.ntmps29
    go_wp2
    go_ret
    exact ⟨rfl, rfl⟩
  | some a =>
    go_enter Tryd.func29, Tryd.ntmps29
    go_wp2
    go_ret
    exact ⟨rfl, rfl⟩

/-- what a value's closures work on: the value at block gj, its keys and kids in rows of its own, the boxes of the reader and of the depth; all since world w0 -/
structure JSt (w0 : World) (g gj br bd d dep : Nat) (kind : Int) (w : World) (st : Jp.KK) (vK vD : Value) (xs : List Value) : Prop where
  aft : AftR g w0 w
  obj : Blk w gj 25 #[.int .i64 kind, .int .i64 0, .string ⟨#[]⟩, vK, vD]
  rbox : Blk w br 44 #[.pointer (some ⟨g, 0, none⟩)]
  dbox : Blk w bd 3 #[.int .i64 dep]
  keys : w.ownsRow (w0.heap.size + 3) 9 1 vK st.1.length (txtV st.1)
  kids : w.ownsRow (w0.heap.size + 3) 25 5 vD st.2.length xs
  rows : KidsF w (fun b => w0.heap.size + 3 ≤ b ∧ b ≠ gj ∧ b ≠ br ∧ b ≠ bd ∧ vK.ownBlock ≠ some b ∧ vD.ownBlock ≠ some b) d st.2 xs
  gl : g < w0.heap.size
  lj : w0.heap.size + 3 ≤ gj
  lr : w0.heap.size ≤ br
  ld : w0.heap.size ≤ bd
  nej : vD.ownBlock ≠ some gj
  res : Blk w (w0.heap.size + 2) 25 #[.int .i64 0, .int .i64 0, .string ⟨#[]⟩, .slice none 0 0, .slice none 0 0]
theorem JSt.after {w0 : World} {g gj br bd d dep : Nat} {kind : Int} {w w' : World} {st : Jp.KK} {vK vD : Value} {xs : List Value} (h : JSt w0 g gj br bd d dep kind w st vK vD xs) (ha : AftR g w w') : JSt w0 g gj br bd d dep kind w' st vK vD xs := by
  have hgl := h.gl
  have hlj := h.lj
  have hlr := h.lr
  have hld := h.ld
  refine ⟨h.aft.trans ha, ?_, ?_, ?_, ?_, ?_, h.rows.keep ⟨ha.bel.size, fun b hb hl => ha.oth b hl (by have := hb.1; omega)⟩ (fun b hb _ => hb), hgl, hlj, hlr, hld, h.nej, (ha.oth _ h.res.lt (by omega)).trans h.res⟩
  · exact (ha.oth gj h.obj.lt (by omega)).trans h.obj
  · exact (ha.oth br h.rbox.lt (by omega)).trans h.rbox
  · exact (ha.oth bd h.dbox.lt (by omega)).trans h.dbox
  · exact own_of_block h.keys fun b hb => ha.oth b (h.keys.lt b hb).2 (by have := (h.keys.lt b hb).1; omega)
  · exact own_of_block h.kids fun b hb => ha.oth b (h.kids.lt b hb).2 (by have := (h.kids.lt b hb).1; omega)
end Go.Proofs.YtgpjcjnimheglaaDoor
/-
  WALKS of package wire's reader: items, by a contract of what it calls.
-/
namespace Go.Proofs.YtgpjcjnimheglaaDoor
open Go.RowKit

/-- how a reading that keeps a state in memory ends -/
def OneE {σ : Type} (g : Nat) (s : Bs) (P : World → σ → Prop) (Q : World → Prop) (r : Jp.Rs σ) (e : Ending) (w' : World) : Prop :=
  match r with
  | .ok st k => e = .returned (.tuple #[]) ∧ RdrAt w' g s k ∧ P w' st
  | .bad p er => e = .panicked (faultC p er) ∧ Q w'
section
variable {σ : Type} {g : Nat} {s : Bs} {P : World → σ → Prop} {Q : World → Prop} {r : Jp.Rs σ} {w' : World}
theorem OneE.ok {st : σ} {k : Nat} (h : r = .ok st k) (hr : RdrAt w' g s k) (hp : P w' st) : OneE g s P Q r (.returned (.tuple #[])) w' := by subst h; exact ⟨rfl, hr, hp⟩
theorem OneE.bad {p er : Nat} (h : r = .bad p er) (hq : Q w') : OneE g s P Q r (.panicked (faultC p er)) w' := by subst h; exact ⟨rfl, hq⟩
theorem OneE.is_ok {st : σ} {k : Nat} {e : Ending} (h : OneE g s P Q (.ok st k) e w') : e = .returned (.tuple #[]) ∧ RdrAt w' g s k ∧ P w' st := h
theorem OneE.is_bad {p er : Nat} {e : Ending} (h : OneE g s P Q (.bad p er) e w') : e = .panicked (faultC p er) ∧ Q w' := h
end

set_option maxHeartbeats 4000000 in
set_option maxRecDepth 100000 in
theorem jitems_walk {σ : Type} (g : Nat) (s : Bs) (F : Nat) (caps : Array Value) (one : σ → Nat → Jp.Rs σ) (P : World → σ → Prop) (Q : World → Prop) (M : σ → Nat → Prop) (c : UInt8) (st0 : σ) (i : Nat) (w : World)
    (hE : ∀ args w, (callFunc F args).run Tryd.prog w = .ok (.enter F args) w)
    (hF : ∀ (st : σ) (k : Nat) (w : World), P w st → M st k → RdrAt w g s k → k ≤ s.length → Calls Tryd.prog F caps w (OneE g s P Q (one st k)))
    (hA : ∀ st k, k ≤ s.length → (one st k).Ahead k s.length)
    (hM : ∀ st k st' k', M st k → one st k = .ok st' k' → M st' k') (hMm : ∀ st k k', M st k → k ≤ k' → M st k') (hM0 : M st0 i)
    (hP : ∀ (st : σ) (w w' : World), P w st → AftR g w w' → P w' st) (hQ : ∀ (st : σ) (w : World), P w st → Q w)
    (h : RdrAt w g s i) (hp : P w st0) (hi : i < s.length) (hl : s.length ≤ 16777216) :
    Calls Tryd.prog 24 #[.pointer (some ⟨g, 0, none⟩), .int .u8 c.toNat, .func (.func F) #[] caps] w (OneE g s P Q (Jp.itemsP one c s st0 i)) := by
  generalize hR : Jp.itemsP one c s st0 i = R
  have hR2 : (if s[Jp.skipP s (i + 1)]? = some c then Jp.Rs.ok st0 (Jp.skipP s (i + 1) + 1) else Jp.manyF one c s (s.length + 1) st0 (Jp.skipP s (i + 1))) = R := hR
  clear hR
  have c1 := h.c1
  have f1 := h.f1
  have h1 := h.move (i + 1)
  have a1 := (AftR.refl g w).set 1 (.int .i64 ((i + 1 : Nat) : Int))
  have hp1 := hP st0 _ _ hp a1
  have hsk := jskip_walk g s (i + 1) _ h1 (by omega) hl
  have hle := Jp.skip_le s (i + 1) (by omega)
  have HA := Lib.hid hA
  have HM := Lib.hid hM
  have HMm := Lib.hid hMm
  have hgi := Jp.skip_ge s (i + 1)
  have Hsk : Hid (∀ k, Jp.skipP s (Jp.skipP s k) = Jp.skipP s k) := fun k => Jp.skip_skip s _ k (Nat.le_refl _)
  generalize hq0 : Jp.skipP s (i + 1) = q0 at *
  have HM0 : Hid (M st0 q0) := hMm st0 i q0 hM0 (by omega)
  clear hq0 hA h hp a1 hM hMm hM0 hgi
  have HR1 : Hid (decide (s[q0]? = some c) = true → R = .ok st0 (q0 + 1)) := fun h => by rw [← hR2, if_pos (of_decide_eq_true h)]
  have HR2 : Hid (decide (s[q0]? = some c) = false → R = Jp.manyF one c s (s.length + 1) st0 q0) := fun h => by rw [← hR2, if_neg (of_decide_eq_false h)]
  clear hR2
  have his := fun w h => jis_walk g s q0 c w h hle hl
  generalize decide (s[q0]? = some c) = qd at *
  go_enter Tryd.func24, Tryd.ntmps24
  go_upto_region 1 with fail
  have E1 : Hid ((i : Int) + 1 = ((i + 1 : Nat) : Int)) := by show _ = _; omega
  try rw [E1.out]
  clear c1 f1
  generalize w.setCell ⟨g, 1, none⟩ (.int .i64 ((i + 1 : Nat) : Int)) = w1 at *
  go_wp2_with fail
  refine hsk.mono ?_
  clear hsk
  rintro e w2 ⟨rfl, h2, a2⟩
  have hp2 := hP st0 _ _ hp1 a2
  clear hp1 a2 h1
  go_wp2_with fail
  refine (his w2 h2).mono ?_
  clear his
  rintro e w3 ⟨rfl, n3, rfl⟩
  have h3 := h2.drewN n3
  have hp3 := hP st0 _ _ hp2 ((AftR.refl g w2).drewN n3)
  clear h2 hp2
  generalize w2.drewN n3 = w3 at *
  have c1 := h3.c1
  have f1 := h3.f1
  cases qd with
  | true =>
    have HB := Lib.hid (HR1.out (by first | rfl | trivial))
    have h4 := h3.move (q0 + 1)
    have hp4 := hP st0 _ _ hp3 ((AftR.refl g w3).set 1 (.int .i64 ((q0 + 1 : Nat) : Int)))
    clear HR1 HR2
    go_wp2_with fail
    go_end0
    exact OneE.ok HB.out h4 hp4
  | false =>
    have HB := Lib.hid (HR2.out (by first | rfl | trivial))
    clear HR1 HR2
    go_wp2_with fail
    clear c1 f1
    go_loopg [] (s.length - q0) (fun q wr => ∃ (m f : Nat) (st : σ), s.length - m ≤ q ∧ m ≤ s.length ∧ RdrAt wr g s m ∧ P wr st ∧ Hid (M st m) ∧ Hid (R = Jp.manyF one c s (f + 1) st m) ∧ Hid (s.length + 1 ≤ f + 1 + m))
    case atStart => exact ⟨q0, s.length, st0, Nat.le_refl _, hle, h3, hp3, HM0.out, HB.out, by show _ ≤ _; omega⟩
    case round =>
      clear h3 hp3 HB
      obtain ⟨m, f, st, hq, hm, hr, hp, HMs, HR, HF⟩ := hrel
      have ho := hF st m wr hp HMs.out hr hm
      have HM2 : Hid (∀ st' k, one st m = .ok st' k → M st' k) := fun st' k h => HM.out st m st' k HMs.out h
      have hah := HA.out st m hm
      have HR2 : Hid (R = match one st m with | .bad p er => .bad p er | .ok st' k => if s[Jp.skipP s k]? = some 44 then Jp.manyF one c s f st' (Jp.skipP s k + 1) else if s[Jp.skipP s k]? = some c then .ok st' (Jp.skipP s k + 1) else .bad (Jp.skipP s k) 3) := HR.out
      clear HR
      generalize one st m = O at *
      cases O with
      | bad p er =>
        have HB := HR2
        clear HR2
        go_wp2_with fail
        refine ho.mono ?_
        intro e w6 h6
        obtain ⟨rfl, hq6⟩ := h6.is_bad
        go_wp2_with fail
        exact ⟨rfl, OneE.bad HB.out hq6⟩
      | ok st' k =>
        obtain ⟨hk1, hk2⟩ := hah
        have HM3 : Hid (M st' k) := HM2.out st' k rfl
        clear HM2
        go_wp2_with fail
        refine ho.mono ?_
        clear ho
        intro e w6 h6
        obtain ⟨rfl, hr6, hp6⟩ := h6.is_ok
        clear h6 hp hr
        have hsk := jskip_walk g s k w6 hr6 hk2 hl
        have hqg := Jp.skip_ge s k
        have hql := Jp.skip_le s k hk2
        have hss := Hsk.out k
        generalize Jp.skipP s k = q1 at *
        have Hss := Lib.hid hss
        have hih := fun w h => jis_walk g s q1 44 w h hql hl
        have H44 : Hid (decide (s[q1]? = some 44) = true → R = Jp.manyF one c s f st' (q1 + 1)) := fun h => by rw [HR2.out]; rw [if_pos (of_decide_eq_true h)]
        have H44n : Hid (decide (s[q1]? = some 44) = false → R = if s[q1]? = some c then .ok st' (q1 + 1) else .bad q1 3) := fun h => by rw [HR2.out]; rw [if_neg (of_decide_eq_false h)]
        have Hlt : Hid (decide (s[q1]? = some 44) = true → q1 < s.length) := fun h => Jp.get_lt (of_decide_eq_true h)
        generalize decide (s[q1]? = some 44) = qq at *
        clear HR2 hss
        go_wp2_with fail
        refine hsk.mono ?_
        clear hsk
        rintro e w7 ⟨rfl, hr7, ha7⟩
        have hp7 := hP st' _ _ hp6 ha7
        clear hp6 hr6 ha7
        go_wp2_with fail
        refine (hih w7 hr7).mono ?_
        clear hih
        rintro e w8 ⟨rfl, n8, rfl⟩
        have hr8 := hr7.drewN n8
        have hp8 := hP st' _ _ hp7 ((AftR.refl g w7).drewN n8)
        clear hr7 hp7
        generalize w7.drewN n8 = w8 at *
        have c1 := hr8.c1
        have f1 := hr8.f1
        cases qq with
        | true =>
          have HB := Lib.hid (H44.out (by first | rfl | trivial))
          have hlt := Hlt.out (by first | rfl | trivial)
          have hr9 := hr8.move (q1 + 1)
          have hp9 := hP st' _ _ hp8 ((AftR.refl g w8).set 1 (.int .i64 ((q1 + 1 : Nat) : Int)))
          clear H44 H44n Hlt
          go_wp2_with fail
          go_roundg (s.length - (q1 + 1))
          case rel =>
            obtain ⟨f', rfl⟩ : ∃ f', f = f' + 1 := ⟨f - 1, by have := HF.out; omega⟩
            exact ⟨q1 + 1, f', st', Nat.le_refl _, by omega, hr9, hp9, HMm.out st' k (q1 + 1) HM3.out (by omega), HB.out, by show _ ≤ _; have := HF.out; omega⟩
          case measure => omega
        | false =>
          have HB := Lib.hid (H44n.out (by first | rfl | trivial))
          have hnd := jneed_walk g s q1 c w8 hr8 hql hl
          clear H44 H44n Hlt
          by_cases hc : s[q1]? = some c
          · have hN : Jp.needP s c q1 = .ok () (q1 + 1) := by unfold Jp.needP; rw [Hss.out, if_pos hc]
            rw [hN] at hnd
            have HB2 : Hid (R = .ok st' (q1 + 1)) := by show _ = _; rw [HB.out, if_pos hc]
            clear HB hc hN
            go_wp2_with fail
            refine hnd.mono ?_
            intro e w9 h9
            obtain ⟨ha9, rfl, hr9⟩ := h9.is_ok
            go_wp2_with fail
            go_end0
            exact OneE.ok HB2.out hr9 (hP st' _ _ hp8 ha9)
          · have hN : Jp.needP s c q1 = .bad q1 3 := by unfold Jp.needP; rw [Hss.out, if_neg hc]
            rw [hN] at hnd
            have HB2 : Hid (R = .bad q1 3) := by show _ = _; rw [HB.out, if_neg hc]
            clear HB hc hN
            go_wp2_with fail
            refine hnd.mono ?_
            intro e w9 h9
            obtain ⟨ha9, rfl⟩ := h9.is_bad
            go_wp2_with fail
            exact ⟨rfl, OneE.bad HB2.out (hQ st' _ (hP st' _ _ hp8 ha9))⟩
end Go.Proofs.YtgpjcjnimheglaaDoor
