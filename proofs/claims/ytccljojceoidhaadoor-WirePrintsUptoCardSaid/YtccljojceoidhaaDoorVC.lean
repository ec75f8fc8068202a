/-
  WALKS of the document's tokens (package amanuensisref2): Unquote.
-/
import Derived.Test.YtccljojceoidhaaDoorVB
namespace Go.Proofs.YtccljojceoidhaaDoor
open Go.RowKit

/-- a row of bytes of the call's own, as a text -/
theorem own_str {w : World} {base : Nat} {v : Value} {l : Bs} (h : w.ownsRow base 5 1 v l.length (Lib.byteCells l)) : (convert 63 9 v).run Tryd.prog w = .ok (.string ⟨l.toArray⟩) w := by
  have h' := h
  rcases h.2 with ⟨rfl, h0⟩ | ⟨g, cap, cur, rfl, _⟩
  · obtain rfl : l = [] := List.eq_nil_of_length_eq_zero h0
    exact Lib.run_convert_nil_bytes w _ _ _ 0 Tryd.underlying63 Tryd.underlying5 Tryd.underlying9
  · refine run_convert_bytes_back w _ _ _ ⟨g, 0, none⟩ cap l Tryd.underlying63 Tryd.underlying5 Tryd.underlying9 fun j hj => ?_
    have e : (⟨g, 0, none⟩ : Addr).add j = ⟨g, j, none⟩ := by unfold Addr.add; split <;> simp_all
    rw [e]
    exact own_cell h' j _ (by simp [Lib.byteCells, hj])
theorem own_nilB (w : World) (base : Nat) : w.ownsRow base 5 1 (.slice none 0 0) ([] : Bs).length (Lib.byteCells []) := World.ownsRow_nil _ _ _ _

def unqV (s : Bs) : Value := if Lx.aloneB s 6 then .tuple #[.string ⟨(Lx.unq ((s.drop 1).take (s.length - 2))).toArray⟩, .bool true] else .tuple #[.string ⟨#[]⟩, .bool false]
theorem unqV_yes {q s : Bs} (hs : s = 34 :: (q ++ [34])) (h : Lx.aloneB s 6 = true) : unqV s = .tuple #[.string ⟨(Lx.unq q).toArray⟩, .bool true] := by
  unfold unqV
  rw [if_pos h, hs]
  have e : ((34 :: (q ++ [34]) : Bs).drop 1).take ((34 :: (q ++ [34]) : Bs).length - 2) = q := by simp
  rw [e]
theorem unqV_no {s : Bs} (h : Lx.aloneB s 6 = false) : unqV s = .tuple #[.string ⟨#[]⟩, .bool false] := by
  unfold unqV; rw [h]; rfl

set_option maxHeartbeats 2000000 in
set_option maxRecDepth 100000 in
theorem runquote_no (s : Bs) (w : World) (hl : s.length ≤ 8388608) (h : Lx.aloneB s 6 = false) :
    Calls Tryd.prog 32 #[.string ⟨s.toArray⟩] w fun e w' => e = .returned (.tuple #[.string ⟨#[]⟩, .bool false]) ∧ Below w.heap.size w w' := by
  have hr := rtokens_walk s w hl
  by_cases hl1 : (Lx.tokR 0 s).length = 1
  · obtain ⟨x, y, z, hx, hne⟩ := alone_no s 6 h hl1
    rw [hx] at hr
    have e3 : ((x : Int) != 6) = true := by simp; omega
    clear h hl1 hx hne
    go_enter Tryd.func32, Tryd.ntmps32
    go_wp2_with fail
    refine hr.mono ?_
    rintro e w2 ⟨A, c, rfl, hrd, hb2⟩
    obtain ⟨b, o, rfl, _, c0, _, _⟩ := Rd.tk (l := [(x, y, z)]) (k := 0) hrd (by simp)
    simp at c0
    clear hr hrd
    go_wp2_with fail
    go_ret2
    exact ⟨rfl, hb2⟩
  · generalize Lx.tokR 0 s = R at *
    have e3 : ((R.length : Int) != 1) = true := by simp; omega
    clear h hl1
    go_enter Tryd.func32, Tryd.ntmps32
    go_wp2_with fail
    refine hr.mono ?_
    rintro e w2 ⟨A, c, rfl, hrd, hb2⟩
    clear hr hrd
    go_wp2_with fail
    go_ret2
    exact ⟨rfl, hb2⟩

set_option maxHeartbeats 4000000 in
set_option maxRecDepth 100000 in
theorem runquote_yes (s q : Bs) (w : World) (hl : s.length ≤ 8388608) (h : Lx.aloneB s 6 = true) (hs : s = 34 :: (q ++ [34])) (hq : Lx.right q) :
    Calls Tryd.prog 32 #[.string ⟨s.toArray⟩] w fun e w' => e = .returned (.tuple #[.string ⟨(Lx.unq q).toArray⟩, .bool true]) ∧ Below w.heap.size w w' := by
  obtain ⟨i0, ji, jz0, jz1, jz2⟩ := info_parts bd_byte
  have hr := rtokens_walk s w hl
  obtain ⟨n, hn⟩ := (Lx.alone_tok s 6).1 h
  rw [hn] at hr
  have hq0 : Hid (s.drop 1 = q ++ [34]) := by show _ = _; rw [hs]; rfl
  have hql : q.length + 2 = s.length := by rw [hs]; simp
  clear hn h hs
  generalize hU : Lx.unq q = U
  have HU := Lib.hid hU
  have Hq := Lib.hid hq
  clear hU hq
  go_enter Tryd.func32, Tryd.ntmps32
  go_wp2_with fail
  refine hr.mono ?_
  rintro e w2 ⟨A, c, rfl, hrd, hb2⟩
  obtain ⟨b, o, rfl, _, c0, _, _⟩ := Rd.tk (l := [(6, 0, n)]) (k := 0) hrd (by simp)
  simp at c0
  clear hr hrd
  go_wp2_with fail
  go_loopw [5, 6] (fun v iv wr => ∃ (i : Nat) (rest done : Bs), iv = .int .i64 i ∧ 1 ≤ i ∧ i + rest.length + 1 = s.length ∧ done.length ≤ 4 * i ∧ wr.ownsRow w2.heap.size 5 1 v done.length (Lib.byteCells done) ∧ Below w2.heap.size w2 wr ∧ Hid (Lx.right rest) ∧ Hid (s.drop i = rest ++ [34]) ∧ Hid (U = done ++ Lx.unq rest)) (fun _ iv _ => s.length - (intOf iv).toNat)
  case atStart => exact ⟨1, q, [], rfl, by omega, by omega, by simp, own_nilB _ _, Below.refl _ _, Hq, hq0, by show _ = _; rw [← HU.out]; rfl⟩
  case round =>
    obtain ⟨i, rest, done, rfl, hi1, hil, hdl, hown, hb, Hr, Hd, HX⟩ := hrel
    have hbs := hb.size
    rcases Lx.right_cases rest Hr.out with hnil | ⟨a, t, hat, h92, h10, h34, hrt⟩ | ⟨t, c, m, hat, he1, he2, hm1, hm2, hrt⟩
    · have hrl : rest.length = 0 := by rw [hnil]; rfl
      have hj : ¬ (i : Int) < (s.length : Int) - 1 := by omega
      have hUd : Hid (U = done) := by show _ = _; rw [HX.out, hnil, Lx.unq_nil, List.append_nil]
      have hcv := own_str hown
      clear HX Hr Hd hnil
      go_wp2_with fail
      go_ret2
      rw [hUd.out]
      exact ⟨rfl, hb2.trans (hb.mono hb2.size)⟩
    · have hlen : rest.length = t.length + 1 := by rw [hat]; rfl
      have hlt : i < s.length := by omega
      have hsa : s[i] = a := by
        have h1 := Hd.out
        rw [hat, List.drop_eq_getElem_cons hlt] at h1
        injection h1
      have Hd2 : Hid (s.drop (i + 1) = t ++ [34]) := by
        have h1 := Hd.out
        rw [hat, List.drop_eq_getElem_cons hlt] at h1
        injection h1
      have HX2 : Hid (U = (done ++ [a]) ++ Lx.unq t) := by show _ = _; rw [HX.out, hat, Lx.unq_plain a t h92]; simp
      have j0 : (0 : Int) ≤ (i : Int) := by omega
      have j1 : (i : Int) < (s.length : Int) := by omega
      have j2 : (i : Int) < (s.length : Int) - 1 := by omega
      have e92 := bk_eq s i hlt 92
      rw [show (((92 : UInt8).toNat : Nat) : Int) = 92 from rfl, hsa, decide_eq_false h92] at e92
      have hby : (((⟨s.toArray⟩ : ByteArray)[i]'(by rw [mk_size]; exact hlt)).toNat : Int) = (a.toNat : Int) := byte_of hlt hsa
      rw [hby] at e92
      obtain ⟨Av, cv, rfl⟩ := own_form hown
      have hBN : (wr.alloc (.cells #[.int .u8 (a.toNat : Int)] 5)).heap[wr.heap.size]? = some (.cells #[.int .u8 (a.toNat : Int)] 5 (0, 0)) := heap_alloc_new _ _
      have hoA := hown.alloc (.cells #[.int .u8 (a.toNat : Int)] 5)
      have hbA := hb.alloc hbs (.cells #[.int .u8 (a.toNat : Int)] 5)
      have Hrt := Lib.hid hrt
      clear HX Hr Hd hat hsa h92 h10 h34 hrt
      go_wp2_with (at_builtin; refine wpList_append_lies _ rfl _ _ 63 rfl w2.heap.size 5 i0 _ 1 1 Tryd.underlying63 ji jz0 jz1 jz2 rfl (by omega) (.slice Av done.length cv) done.length (Lib.byteCells done) rfl hoA ⟨wr.heap.size, 0, none⟩ 1 1 [.int .u8 (a.toNat : Int)] rfl rfl (World.news_of_block (cs := #[.int .u8 (a.toNat : Int)]) (t := 5) (fr := (0, 0)) hBN) (by simp [Value.oneCell']) (by omega) (by unfold maxLen; omega) (by omega) (by simp; omega) _ rfl ?_; intro gg cap' w3 hown3 hgrow hat3 hlt3)
      go_roundw
      case rel =>
        refine ⟨i + 1, t, done ++ [a], by go_num, by omega, by omega, by simp; omega, ?_, hbA.grown hgrow (by simp; omega) (fun g hg => (hown.lt g hg).1), Hrt, Hd2, HX2⟩
        rw [List.length_append, Lib.byteCells_append]
        exact hown3
      case measure => simp [intOf]; omega
    · have hlen : rest.length = t.length + 1 := by rw [hat]; rfl
      have hlt : i < s.length := by omega
      have hsa : s[i] = 92 := by
        have h1 := Hd.out
        rw [hat, List.drop_eq_getElem_cons hlt] at h1
        injection h1
      have hd1 : s.drop (i + 1) = t ++ [34] := by
        have h1 := Hd.out
        rw [hat, List.drop_eq_getElem_cons hlt] at h1
        injection h1
      have Hd2 : Hid (s.drop (i + 1 + m) = t.drop m ++ [34]) := by
        show _ = _
        rw [← List.drop_drop, hd1, List.drop_append_of_le_length hm2]
      have HX2 : Hid (U = (done ++ Lx.enc c) ++ Lx.unq (t.drop m)) := by show _ = _; rw [HX.out, hat, Lx.unq_esc t c m he1, List.append_assoc]
      have j0 : (0 : Int) ≤ (i : Int) := by omega
      have j1 : (i : Int) < (s.length : Int) := by omega
      have j2 : (i : Int) < (s.length : Int) - 1 := by omega
      have e92 := bk_eq s i hlt 92
      rw [show (((92 : UInt8).toNat : Nat) : Int) = 92 from rfl, decide_eq_true hsa] at e92
      have hes := fun w => resc_walk s i w hlt (by omega)
      rw [hd1, he2] at hes
      have Hes : Hid (∀ w, Calls Tryd.prog 56 #[.string ⟨s.toArray⟩, .int .i64 i] w fun e w' => e = .returned (.tuple #[.int .i64 c, .int .i64 ((m + 1 : Nat) : Int)]) ∧ w' = w) := hes
      have hut := fun w => utf_walk c w (esc_ok _ _ _ he1)
      have hel := enc_len c
      generalize Lx.enc c = E at *
      have Hrt := Lib.hid hrt
      obtain ⟨Av, cv, rfl⟩ := own_form hown
      have htl : (t.drop m).length = t.length - m := List.length_drop
      have Htl := Lib.hid htl
      clear HX Hr Hd hat hsa hrt hes hd1 he1 he2 htl
      go_wp2_with fail
      refine (Hes.out _).mono ?_
      rintro e w3 ⟨rfl, rfl⟩
      go_wp2_with fail
      refine (hut _).mono ?_
      rintro e w4 ⟨A4, cap4, rfl, hrd4, hb4⟩
      obtain ⟨b4, o4, rfl, hbB4, hc4⟩ := hrd4.2 (by omega)
      have hb24 := hb.trans (hb4.mono hbs)
      have hown4 := own_of_block hown fun b hbk => hb4.block b (hown.lt b hbk).2
      have hbs4 := hb24.size
      have hnw : ∀ j u, (Lib.byteCells E)[j]? = some u → w4.cell? ((⟨b4, o4, none⟩ : Addr).add j) = some u := fun j u hu => by
        have e : (⟨b4, o4, none⟩ : Addr).add j = ⟨b4, o4 + j, none⟩ := by unfold Addr.add; split <;> simp_all
        rw [e]; exact hc4 j u hu
      have hone : ∀ u ∈ Lib.byteCells E, u.oneCell' = true := Lib.byteCells_one E
      have hbl : (Lib.byteCells E).length = E.length * 1 := by rw [Lib.byteCells_length]; omega
      clear Hes hut
      go_wp2_with (at_builtin; refine wpList_append_lies _ rfl _ _ 63 rfl w2.heap.size 5 i0 _ 1 1 Tryd.underlying63 ji jz0 jz1 jz2 rfl (by omega) (.slice Av done.length cv) done.length (Lib.byteCells done) rfl hown4 ⟨b4, o4, none⟩ E.length cap4 (Lib.byteCells E) rfl hbl hnw hone (by omega) (by unfold maxLen; omega) (by omega) (by omega) _ rfl ?_; intro gg cap' w5 hown5 hgrow hat5 hlt5)
      go_roundw
      case rel =>
        refine ⟨i + 1 + m, t.drop m, done ++ E, by go_num, by omega, by have := Htl.out; omega, by simp; omega, ?_, hb24.grown hgrow (by omega) (fun g hg => (hown.lt g hg).1), Hrt, Hd2, HX2⟩
        rw [List.length_append, Lib.byteCells_append]
        exact hown5
      case measure => simp [intOf]; omega

theorem runquote_walk (s : Bs) (w : World) (hl : s.length ≤ 8388608) :
    Calls Tryd.prog 32 #[.string ⟨s.toArray⟩] w fun e w' => e = .returned (unqV s) ∧ Below w.heap.size w w' := by
  cases h : Lx.aloneB s 6 with
  | false => rw [unqV_no h]; exact runquote_no s w hl h
  | true =>
    obtain ⟨q, hs, hq⟩ := Lx.alone_text s h
    rw [unqV_yes hs h]; exact runquote_yes s q w hl h hs hq
end Go.Proofs.YtccljojceoidhaaDoor
