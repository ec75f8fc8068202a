/-
  THE WALKS of amanuensisref1.Does, Apply.
-/
import Derived.Test.YtffcfnnbdmihaaaDoorMeans
namespace Go.Proofs.YtffcfnnbdmihaaaDoor
open Go.RowKit

theorem does_split (I : Nat → List UInt8) (O : Nat → Bool) (t : List UInt8) (g : Nat) (hg : g ≤ t.length) : doesD I O 0 t = preD I O 0 (t.take g) ++ doesD I O g (t.drop g) := by
  have h := doesD_append I O 0 (t.take g) (t.drop g)
  rw [List.take_append_drop] at h
  rw [h, List.length_take, Nat.zero_add, Nat.min_eq_left hg]
theorem does_step (I : Nat → List UInt8) (O : Nat → Bool) (t : List UInt8) (g : Nat) (hg : g < t.length) :
    preD I O 0 (t.take (g + 1)) = preD I O 0 (t.take g) ++ I g ++ (if O g then [] else (t.drop g).take 1) := by
  rw [List.take_succ_eq_append_getElem hg, preD_append]
  have e : (t.drop g).take 1 = [t[g]] := by rw [List.drop_eq_getElem_cons hg]; rfl
  simp only [preD, List.length_take, Nat.zero_add, Nat.min_eq_left (Nat.le_of_lt hg), List.append_nil, e, List.append_assoc]
theorem does_last (I : Nat → List UInt8) (O : Nat → Bool) (t : List UInt8) : doesD I O 0 t = preD I O 0 (t.take t.length) ++ I t.length := by
  rw [List.take_length, doesD, Nat.zero_add]
theorem does_len (I : Nat → List UInt8) (O : Nat → Bool) (t : List UInt8) (g : Nat) (hg : g ≤ t.length) : (preD I O 0 (t.take g)).length + (I g).length + (if O g then 0 else min 1 (t.length - g)) ≤ (doesD I O 0 t).length := by
  rcases Nat.lt_or_ge g t.length with h | h
  · have h1 := does_split I O t (g + 1) h
    have h2 := does_step I O t g h
    rw [h1, h2]
    simp only [List.length_append]
    split <;> simp <;> omega
  · obtain rfl : g = t.length := by omega
    rw [does_last]
    simp only [List.length_append]
    split <;> omega

def outAt (I : Nat → List UInt8) (O : Nat → Bool) (t : List UInt8) (g : Nat) : List UInt8 := if g ≤ t.length then preD I O 0 (t.take g) else doesD I O 0 t

set_option maxHeartbeats 1000000 in
set_option maxRecDepth 100000 in
theorem does_walk (s : ByteArray) (v : Value) (n : Nat) (I : Nat → List UInt8) (O : Nat → Bool) (w : World) (h : EAt w w.heap.size v n I O) (hn : s.size = n) (hn2 : n ≤ 16777216) (hd : (doesD I O 0 s.data.toList).length ≤ 1099511627776) :
    Calls Tryd.prog 37 #[.string s, v] w fun e w' => e = .returned (.string ⟨(doesD I O 0 s.data.toList).toArray⟩) ∧ Below w.heap.size w w' := by
  obtain ⟨g1, g2, rfl, hg1, hg2, h1, h2⟩ := h
  have H1 := Lib.hid h1
  have H2 := Lib.hid h2
  have Hd := Lib.hid hd
  have hdl := dlen s
  rw [hn] at hdl
  clear h1 h2 hd
  unfold EV
  go_enter Tryd.func37, Tryd.ntmps37
  go_wp2_with fail
  have hE := Blk.new w 62 #[.int .i64 n, .slice (some ⟨g1, 0, none⟩) n n, .slice (some ⟨g2, 0, none⟩) (n + 1) (n + 1)]
  have hwb : Below w.heap.size w (w.alloc (.cells #[.int .i64 n, .slice (some ⟨g1, 0, none⟩) n n, .slice (some ⟨g2, 0, none⟩) (n + 1) (n + 1)] 62)) := (Below.refl _ _).alloc (Nat.le_refl _) _
  generalize w.alloc (.cells #[.int .i64 n, .slice (some ⟨g1, 0, none⟩) n n, .slice (some ⟨g2, 0, none⟩) (n + 1) (n + 1)] 62) = wa at *
  have he0 := hE.cell 0
  have he1 := hE.cell 1
  have he2 := hE.cell 2
  simp at he0 he1 he2
  have K1 : Hid (∀ k, k < n → wa.cell? ⟨g1, k, none⟩ = some (.bool (O k))) := fun k hk => (hwb.cell (p := ⟨g1, k, none⟩) hg1).trans (H1.out k hk)
  have K2 : Hid (∀ k, k ≤ n → wa.cell? ⟨g2, k, none⟩ = some (.string ⟨(I k).toArray⟩)) := fun k hk => (hwb.cell (p := ⟨g2, k, none⟩) hg2).trans (H2.out k hk)
  clear H1 H2 hE
  go_loopw [5, 6] (fun o i wr => ∃ g : Nat, g ≤ n + 1 ∧ i = .int .i64 g ∧ o = .string ⟨(outAt I O s.data.toList g).toArray⟩ ∧ wr = wa) (fun _ i _ => n + 1 - (intOf i).toNat)
  case atStart => exact ⟨0, Nat.zero_le _, rfl, by simp [outAt, preD], rfl⟩
  case round =>
    obtain ⟨g, hg, rfl, rfl, rfl⟩ := hrel
    by_cases hlt : g < n
    · have d1 := K1.out g hlt
      have d2 := K2.out g (by omega)
      have hL := does_len I O s.data.toList g (by omega)
      have Hs := Lib.hid (does_step I O s.data.toList g (by omega))
      have Hx := ext_data s g (g + 1)
      have e0 : outAt I O s.data.toList g = preD I O 0 (s.data.toList.take g) := by unfold outAt; rw [if_pos (by omega)]
      have e1 : outAt I O s.data.toList (g + 1) = preD I O 0 (s.data.toList.take (g + 1)) := by unfold outAt; rw [if_pos (by omega)]
      have Hd2 := Hd.out
      rw [e0]
      generalize preD I O 0 (s.data.toList.take g) = pre at *
      generalize I g = ig at *
      have s1 : (⟨pre.toArray⟩ : ByteArray).size + (⟨ig.toArray⟩ : ByteArray).size ≤ 9223372036854775807 := by rw [mk_size, mk_size]; omega
      cases hO : O g
      · rw [hO] at d1 hL
        have Hs2 : Hid (outAt I O s.data.toList (g + 1) = pre ++ ig ++ (s.data.toList.drop g).take 1) := by
          show _ = _
          rw [e1, Hs.out, hO]; simp
        have Hy := Lib.hid Hx
        have s2 : ((⟨pre.toArray⟩ : ByteArray) ++ (⟨ig.toArray⟩ : ByteArray)).size + (s.extract g (g + 1)).size ≤ 9223372036854775807 := by
          rw [mk_append, mk_size, List.length_append, ByteArray.size_extract]
          rw [mk_size, mk_size] at s1
          show pre.length + ig.length + _ ≤ _
          simp only [Bool.false_eq_true, if_false] at hL
          omega
        clear hO Hs Hx e1
        go_wp2_with fail
        go_roundw
        case rel => exact ⟨g + 1, by omega, by go_num, by rw [mk_append, mk_append, Hs2.out, Hy.out, Nat.add_sub_cancel_left], trivial⟩
        case measure => simp [intOf]; omega
      · rw [hO] at d1 hL
        have Hs2 : Hid (outAt I O s.data.toList (g + 1) = pre ++ ig) := by
          show _ = _
          rw [e1, Hs.out, hO]; simp
        clear hO Hs Hx e1
        go_wp2_with fail
        go_roundw
        case rel => exact ⟨g + 1, by omega, by go_num, by rw [mk_append, Hs2.out], trivial⟩
        case measure => simp [intOf]; omega
    · by_cases hlt2 : g = n
      · subst hlt2
        have d2 := K2.out g (by omega)
        have e0 : outAt I O s.data.toList g = preD I O 0 (s.data.toList.take g) := by unfold outAt; rw [if_pos (by omega)]
        have hx := does_last I O s.data.toList
        have e1 : outAt I O s.data.toList (g + 1) = doesD I O 0 s.data.toList := by unfold outAt; rw [if_neg (by omega)]
        rw [hdl] at hx
        have Hs2 : Hid (outAt I O s.data.toList (g + 1) = preD I O 0 (s.data.toList.take g) ++ I g) := by show _ = _; rw [e1, hx]
        have Hd2 := Hd.out
        rw [hx, List.length_append] at Hd2
        clear hx e1
        rw [e0]
        generalize preD I O 0 (s.data.toList.take g) = pre at *
        generalize I g = ig at *
        have s1 : (⟨pre.toArray⟩ : ByteArray).size + (⟨ig.toArray⟩ : ByteArray).size ≤ 9223372036854775807 := by rw [mk_size, mk_size]; omega
        go_wp2_with fail
        go_roundw
        case rel => exact ⟨g + 1, by omega, by go_num, by rw [mk_append, Hs2.out], trivial⟩
        case measure => simp [intOf] <;> omega
      · obtain rfl : g = n + 1 := by omega
        have e1 : outAt I O s.data.toList (n + 1) = doesD I O 0 s.data.toList := by unfold outAt; rw [if_neg (by omega)]
        rw [e1]
        go_wp2_with fail
        go_ret
        exact ⟨rfl, hwb⟩

set_option maxHeartbeats 1000000 in
set_option maxRecDepth 100000 in
theorem rapply_bad (s : ByteArray) (A : Option Addr) (c : Nat) (l : List Sp) (w : World) (hr : Rd w w.heap.size 3 A l.length (spCells l)) (hl : l.length ≤ 1048576) (hbad : fault s.size l = 1 ∨ fault s.size l = 2) :
    Calls Tryd.prog 21 #[.string s, .slice A l.length c] w fun e w' => e = .returned (.tuple #[.string ⟨#[]⟩, .int .i64 (fault s.size l)]) ∧ Below w.heap.size w w' := by
  obtain ⟨k, hk, hk0⟩ : ∃ k : Nat, fault s.size l = k ∧ 0 < k := ⟨_, rfl, by omega⟩
  have Hk := Lib.hid hk
  clear hk hbad
  go_enter Tryd.func21, Tryd.ntmps21
  go_wp2_with fail
  refine (rfault_walk _ _ _ _ _ hr hl).mono ?_
  rw [Hk.out]
  rintro e w1 ⟨rfl, hb1⟩
  go_wp2_with fail
  go_ret2
  exact ⟨by rw [Hk.out]; rfl, hb1⟩

set_option maxHeartbeats 1000000 in
set_option maxRecDepth 100000 in
theorem rapply_ok (s : ByteArray) (A : Option Addr) (c : Nat) (l : List Sp) (w : World) (hr : Rd w w.heap.size 3 A l.length (spCells l)) (hl : l.length ≤ 1048576) (hs : s.size ≤ 16777216) (hby : spBytes l ≤ 16777216) (hok : fault s.size l = 0) :
    Calls Tryd.prog 21 #[.string s, .slice A l.length c] w fun e w' => e = .returned (.tuple #[.string ⟨(applyL s.data.toList l).toArray⟩, .int .i64 0]) ∧ Below w.heap.size w w' := by
  have Hok := Lib.hid hok
  have hc := (fault_zero hok).2
  have Hd := Lib.hid (applyL_does (text := s.data.toList) (l := l) (by rw [dlen]; exact hc))
  have hlen := applyL_len (text := s.data.toList) (l := l) (by rw [dlen]; exact hok)
  rw [dlen, Hd.out] at hlen
  clear hok
  rw [Hd.out]
  go_enter Tryd.func21, Tryd.ntmps21
  go_wp2_with fail
  refine (rfault_walk _ _ _ _ _ hr hl).mono ?_
  rw [Hok.out]
  rintro e w1 ⟨rfl, hb1⟩
  go_wp2_with fail
  refine (means_walk s.size _ _ _ _ ((hr.below hb1).more hb1.size) hl hs hby hc).mono ?_
  rintro e w2 ⟨v, rfl, hE, hb2⟩
  obtain ⟨g1, g2, rfl, hg1, hg2, h1, h2⟩ := hE
  have hE : EAt w2 w2.heap.size (EV s.size g1 g2) s.size (inB l) (outB l) := ⟨g1, g2, rfl, hg1, hg2, h1, h2⟩
  clear h1 h2
  unfold EV
  go_wp2_with fail
  have hz1 := hb1.size
  have hz2 := hb2.size
  refine (does_walk s (EV s.size g1 g2) s.size (inB l) (outB l) _ (((hE.below ((Below.refl _ _).alloc (Nat.le_refl _) _)).more (by simp))) rfl hs (by omega)).mono ?_
  rintro e w3 ⟨rfl, hb3⟩
  go_wp2_with fail
  go_ret2
  exact ⟨rfl, (hb1.trans (hb2.mono hz1)).trans (((Below.refl _ _).alloc (by omega) _).trans (hb3.mono (by simp; omega)))⟩
end Go.Proofs.YtffcfnnbdmihaaaDoor
