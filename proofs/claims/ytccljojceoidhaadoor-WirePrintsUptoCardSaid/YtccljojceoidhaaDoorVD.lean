/-
  WALKS of package lex: Unquote.
-/
import Derived.Test.YtccljojceoidhaaDoorVC
namespace Go.Proofs.YtccljojceoidhaaDoor
open Go.RowKit

theorem ext_drop' (a : UInt8) (t : Bs) (n : Nat) : Value.string ((⟨(a :: t : Bs).toArray⟩ : ByteArray).extract (1 + n) (a :: t : Bs).length) = .string ⟨(t.drop n).toArray⟩ := by
  have := ext_drop (a :: t) (1 + n)
  rw [this]
  rw [show (a :: t).drop (1 + n) = t.drop n by rw [Nat.add_comm]; rfl]
set_option maxRecDepth 100000 in
theorem enc_str (c : Nat) : Value.string (Utf8.encode c) = .string ⟨(Lx.enc c).toArray⟩ := by
  unfold Lx.enc; rw [Lib.mk_data]

set_option maxHeartbeats 4000000 in
set_option maxRecDepth 100000 in
theorem lunquote_yes (s q : Bs) (m : Int) (w : World) (hM : MaxL w m) (hT : T8 w) (hW : WordsIs w) (hl : s.length ≤ 8388608) (h : Lx.aloneB s 6 = true) (hs : s = 34 :: (q ++ [34])) (hq : Lx.right q) :
    Calls Tryd.prog 28 #[.string ⟨s.toArray⟩] w fun e w' => e = .returned (.tuple #[.string ⟨(Lx.unq q).toArray⟩, .bool true]) ∧ Below w.heap.size w w' := by
  have ha : Calls Tryd.prog 50 #[.string ⟨s.toArray⟩, .int .i64 6] w fun e w' => e = .returned (.bool (Lx.aloneB s 6)) ∧ Below w.heap.size w w' := alone_walk s 6 m w hM hT hW hl
  rw [h] at ha
  have hql : q.length + 2 = s.length := by rw [hs]; simp
  have hex : Value.string ((⟨s.toArray⟩ : ByteArray).extract 1 (q.length + 1)) = .string ⟨q.toArray⟩ := by
    rw [ext_str, hs]
    unfold strV
    congr 3
    simp
  have hn1 : (1 : Int) ≤ (s.length : Int) - 1 := by omega
  have hn2 : ((s.length : Int) - 1).toNat = q.length + 1 := by omega
  have Hex := Lib.hid hex
  have HM := hM
  clear h hs hex
  generalize hU : Lx.unq q = U
  have HU := Lib.hid hU
  have Hq := Lib.hid hq
  clear hU hq
  go_enter Tryd.func28, Tryd.ntmps28
  go_wp2_with fail
  refine ha.mono ?_
  rintro e w2 ⟨rfl, hb2⟩
  have hM2 := hM.below hb2 hM.lt
  clear ha hT hW hM HM
  go_wp2_with fail
  go_loopw [0] (fun sv wr => ∃ (rest done : Bs), sv = .string ⟨rest.toArray⟩ ∧ rest.length ≤ q.length ∧ done.length + 4 * rest.length ≤ 4 * q.length ∧ IsB w2.heap.size w2.heap.size done wr ∧ Below w2.heap.size w2 wr ∧ w2.heap.size < wr.heap.size ∧ Hid (Lx.right rest) ∧ Hid (U = done ++ Lx.unq rest)) (fun sv _ => match sv with | .string x => x.size | _ => 0)
  case atStart => exact ⟨q, [], Hex.out, by omega, by simp, IsB.fresh w2, (Below.refl _ _).alloc (Nat.le_refl _) _, by simp, Hq, by show _ = _; rw [← HU.out]; rfl⟩
  case round =>
    obtain ⟨rest, done, rfl, hrl, hdl, hI, hb, hlt, Hr, HX⟩ := hrel
    have hbs := hb.size
    rcases Lx.right_cases rest Hr.out with hnil | ⟨a, t, hat, h92, h10, h34, hrt⟩ | ⟨t, c, n, hat, he1, he2, hm1, hm2, hrt⟩
    · subst hnil
      have hUd : Hid (U = done) := by show _ = _; rw [HX.out, Lx.unq_nil, List.append_nil]
      clear HX Hr
      go_wp2_with fail
      refine (bString_walk hI (by omega)).mono ?_
      rintro e w3 ⟨rfl, hb3⟩
      go_wp2_with fail
      go_ret2
      rw [hUd.out]
      exact ⟨rfl, hb2.trans ((hb.trans hb3).mono hb2.size)⟩
    · have hlen : rest.length = t.length + 1 := by rw [hat]; rfl
      have HX2 : Hid (U = (done ++ [a]) ++ Lx.unq t) := by show _ = _; rw [HX.out, hat, Lx.unq_plain a t h92]; simp
      have h0 : 0 < rest.length := by omega
      have hra : rest[0] = a := by simp [hat]
      have e92 := b0_eq rest h0 92
      rw [show (((92 : UInt8).toNat : Nat) : Int) = 92 from rfl, hra, decide_eq_false h92] at e92
      have n92 : ((((⟨rest.toArray⟩ : ByteArray)[0]'(by rw [mk_size]; exact h0)).toNat : Int) != 92) = true := by rw [bne, e92]; rfl
      have hby : (((⟨rest.toArray⟩ : ByteArray)[0]'(by rw [mk_size]; exact h0)).toNat : Int) = (a.toNat : Int) := byte_of h0 hra
      have hx1 : Value.string ((⟨rest.toArray⟩ : ByteArray).extract 1 rest.length) = .string ⟨t.toArray⟩ := by rw [ext_drop, hat]; rfl
      have hne : (rest == []) = false := by rw [hat]; rfl
      have Hx := Lib.hid hx1
      have hwb := writeByte_walk hI a (by omega) (by omega)
      have Hrt := Lib.hid hrt
      have Hl := Lib.hid hlen
      have h1 : (1 : Int) ≤ (rest.length : Int) := by omega
      rw [← hby] at hwb
      have Hwb := Lib.hid hwb
      clear HX Hr hat hra h92 h10 h34 hrt e92 hby hx1 hlen hwb
      go_wp2_with fail
      refine Hwb.out.mono ?_
      clear Hwb
      rintro e w3 ⟨rfl, hI3, hb3, hk3⟩
      have hb23 := hb.trans hb3
      have hs3 := hb3.size
      go_wp2_with fail
      go_roundw
      case rel => exact ⟨t, done ++ [a], Hx.out, by have := Hl.out; omega, by have := Hl.out; simp; omega, hI3, hb23, by omega, Hrt, HX2⟩
      case measure => have := Hl.out; rw [Hx.out]; simp only [mk_size]; omega
    · have hlen : rest.length = t.length + 1 := by rw [hat]; rfl
      have HX2 : Hid (U = (done ++ Lx.enc c) ++ Lx.unq (t.drop n)) := by show _ = _; rw [HX.out, hat, Lx.unq_esc t c n he1, List.append_assoc]
      have h0 : 0 < rest.length := by omega
      have hra : rest[0] = 92 := by simp [hat]
      have e92 := b0_eq rest h0 92
      rw [show (((92 : UInt8).toNat : Nat) : Int) = 92 from rfl, hra, decide_eq_true rfl] at e92
      have n92 : ((((⟨rest.toArray⟩ : ByteArray)[0]'(by rw [mk_size]; exact h0)).toNat : Int) != 92) = false := by rw [bne, e92]; rfl
      have hx1 : Value.string ((⟨rest.toArray⟩ : ByteArray).extract 1 rest.length) = .string ⟨t.toArray⟩ := by rw [ext_drop, hat]; rfl
      have hx2 : Value.string ((⟨rest.toArray⟩ : ByteArray).extract (1 + n) rest.length) = .string ⟨(t.drop n).toArray⟩ := by
        rw [ext_drop, hat, show (92 :: t).drop (1 + n) = t.drop n by rw [Nat.add_comm]; rfl]
      have hne : (rest == []) = false := by rw [hat]; rfl
      have hes := escape_walk t m wr (hM2.below hb (by have := hM2.lt; omega)) (by omega)
      rw [he1] at hes
      have hes : Calls Tryd.prog 52 #[.string ⟨t.toArray⟩] wr fun e w' => e = .returned (.tuple #[.string (Utf8.encode c), .int .i64 n]) ∧ Below wr.heap.size wr w' := hes
      rw [enc_str, ← hx1] at hes
      have Hes := Lib.hid hes
      have Hx := Lib.hid hx2
      have hel := enc_len c
      generalize Lx.enc c = E at *
      have Hrt := Lib.hid hrt
      have Hl := Lib.hid hlen
      have h1 : (1 : Int) ≤ (rest.length : Int) := by omega
      have h2 : (1 : Int) + (n : Int) ≤ (rest.length : Int) := by omega
      have htl := Lib.hid (show (t.drop n).length = t.length - n from List.length_drop)
      have Hm2 := Lib.hid hm2
      clear HX Hr hat hra hrt e92 hx1 hx2 hlen hes he1 he2 hm2
      go_wp2_with fail
      refine Hes.out.mono ?_
      clear Hes
      rintro e w3 ⟨rfl, hb3⟩
      have hI3 : IsB w2.heap.size w2.heap.size done w3 := IsB.below' hI hb3
      have hb23 := hb.trans (hb3.mono hbs)
      have hs3 := hb3.size
      have hws := writeStr_walk hI3 E (by omega) (by omega)
      go_wp2_with fail
      refine hws.mono ?_
      clear hws
      rintro e w4 ⟨rfl, hI4, hb4, hk4⟩
      have hb24 := hb23.trans hb4
      have hs4 := hb4.size
      go_wp2_with fail
      go_roundw
      case rel => exact ⟨t.drop n, done ++ E, Hx.out, by have := Hl.out; have := htl.out; omega, by have := Hl.out; have := htl.out; have := Hm2.out; simp; omega, hI4, hb24, by omega, Hrt, HX2⟩
      case measure => have := Hl.out; have := htl.out; rw [Hx.out]; simp only [mk_size]; omega

set_option maxRecDepth 100000 in
theorem lunquote_walk (s : Bs) (m : Int) (w : World) (hM : MaxL w m) (hT : T8 w) (hW : WordsIs w) (hl : s.length ≤ 8388608) :
    Calls Tryd.prog 28 #[.string ⟨s.toArray⟩] w fun e w' => e = .returned (unqV s) ∧ Below w.heap.size w w' := by
  cases h : Lx.aloneB s 6 with
  | false =>
    rw [unqV_no h]
    have ha : Calls Tryd.prog 50 #[.string ⟨s.toArray⟩, .int .i64 6] w fun e w' => e = .returned (.bool (Lx.aloneB s 6)) ∧ Below w.heap.size w w' := alone_walk s 6 m w hM hT hW hl
    rw [h] at ha
    clear h
    go_enter Tryd.func28, Tryd.ntmps28
    go_wp2_with fail
    refine ha.mono ?_
    rintro e w2 ⟨rfl, hb2⟩
    go_wp2_with fail
    go_ret2
    exact ⟨rfl, hb2⟩
  | true =>
    obtain ⟨q, hs, hq⟩ := Lx.alone_text s h
    rw [unqV_yes hs h]; exact lunquote_yes s q m w hM hT hW hl h hs hq
end Go.Proofs.YtccljojceoidhaaDoor
