/-
  JOINED of the texts LX UA UC RRune
-/
import Derived.Test.YtalklmeejdmifaaGreatDoorJad
import Derived.Laws.AppendOwnNone
namespace Go.Proofs.YtalklmeejdmifaaGreatDoor
open Go.RowKit
theorem tkC_one (x : Tk) : ∀ u ∈ tkC x, u.oneCell' = true := by
 intro u hu
 simp [tkC] at hu
 rcases hu with rfl | rfl | rfl <;> rfl
theorem tksC_one (l : List Tk) : ∀ u ∈ tksC l, u.oneCell' = true := by
 intro u hu
 simp only [tksC, List.mem_flatMap] at hu
 obtain ⟨x, _, hx⟩ := hu
 exact tkC_one x u hx
theorem tksC_take (l : List Tk) (k : Nat) : tksC (l.take k) = (tksC l).take (k * 3) := by
 induction l generalizing k with
 | nil => simp [tksC]
 | cons a l ih =>
  cases k with
  | zero => simp [tksC]
  | succ k =>
   have h3 : (tkC a).length = 3 := rfl
   simp only [tksC, List.take_succ_cons, List.flatMap_cons] at *
   rw [ih, show (k + 1) * 3 = (tkC a).length + k * 3 by rw [h3]; omega, List.take_length_add_append]
theorem tksC_drop (l : List Tk) (k : Nat) : tksC (l.drop k) = (tksC l).drop (k * 3) := by
 induction l generalizing k with
 | nil => simp [tksC]
 | cons a l ih =>
  cases k with
  | zero => simp [tksC]
  | succ k =>
   have h3 : (tkC a).length = 3 := rfl
   simp only [tksC, List.drop_succ_cons, List.flatMap_cons] at *
   rw [ih, show (k + 1) * 3 = (tkC a).length + k * 3 by rw [h3]; omega, List.drop_length_add_append]
def TkAt (w : World) (A : Option Addr) (l : List Tk) : Prop :=
 (A = none → l = []) ∧ ∀ ad, A = some ad → ∀ j u, (tksC l)[j]? = some u → w.cell? (ad.add j) = some u
theorem TkAt.keep {w w' : World} {A : Option Addr} {l : List Tk} (h : TkAt w A l) (hk : ∀ p : Addr, ∀ u, w.cell? p = some u → w'.cell? p = some u) : TkAt w' A l :=
 ⟨h.1, fun ad ha j u hu => hk _ _ (h.2 ad ha j u hu)⟩
theorem TkAt.below {w w' : World} {A : Option Addr} {l : List Tk} (h : TkAt w A l) (hb : Below w.heap.size w w') : TkAt w' A l :=
 h.keep fun p u hp => by
  have := World.block_lt_of_cell? w p hp
  exact (hb.cell this).trans hp
theorem Rd.tkAt {w : World} {B : Nat} {A : Option Addr} {l : List Tk} (h : Rd w B 3 A l.length (tksC l)) : TkAt w A l := by
 constructor
 ·intro hA
  rcases Nat.eq_zero_or_pos l.length with h0 | h0
  ·exact List.eq_nil_of_length_eq_zero h0
  ·obtain ⟨b, o, e, _⟩ := h.2 h0
   rw [hA] at e; cases e
 ·intro ad hA j u hu
  have hj : j < l.length * 3 := by
   have := (List.getElem?_eq_some_iff.1 hu).1
   rwa [tksC_len] at this
  obtain ⟨b, o, e, _, hc⟩ := h.2 (by omega)
  rw [hA] at e
  injection e with e
  subst e
  have := hc j u hu
  unfold Addr.add
  split
  ·rename_i h0; subst h0; simpa using this
  ·exact this
set_option maxHeartbeats 1000000 in
set_option maxRecDepth 100000 in
theorem tclone_walk (A : Option Addr) (c : Nat) (l : List Tk) (w : World) (h : TkAt w A l) (hc : A = none → c = 0) (hl : l.length ≤ 16777216) :
  Calls Tryz.prog 82 #[.slice A l.length c] w fun e w' => ∃ v, e = .returned v ∧ w'.ownsRow w.heap.size 131 3 v l.length (tksC l) ∧ Below w.heap.size w w' := by
 obtain ⟨i0, ji, jz0, jz1, jz2⟩ := info_parts infoTk
 cases A with
 | none =>
  have h1 := h.1 rfl
  have h2 := hc rfl
  subst h1 h2
  have hnl := fun w : World => Lib.run_eql_slice_nil (P := Tryz.prog) w 83 131 none 0 0 0 0 Tryz.underlying83
  go_enter Tryz.func82, Tryz.ntmps82
  go_wp2
  go_ret
  exact ⟨_, rfl, World.ownsRow_nil _ _ _ _, Below.refl _ _⟩
 | some ad =>
  have h2 := h.2 ad rfl
  have hcl := tksC_len l
  have hO := World.ownsRow_lit (base := w.heap.size) (e := 131) (size := 3) w #[] 0 (Nat.le_refl _) (by unfold maxLen; omega) rfl
  have h3 : ∀ j u, (tksC l)[j]? = some u → (w.alloc (.cells #[] 131)).cell? (ad.add j) = some u := fun j u hu => by
   have h4 := h2 j u hu
   have h5 := World.block_lt_of_cell? w _ h4
   rw [World.cell?_of_block (Below.heap_alloc w _ _ h5)]; exact h4
  have H3 := Lib.hid h3
  have hb : Below w.heap.size w (w.alloc (.cells #[] 131)) := (Below.refl _ _).alloc (Nat.le_refl _) _
  clear h2 h3 h
  have hnl := fun w : World => Lib.run_eql_slice_nil (P := Tryz.prog) w 83 131 (some ad) l.length c 0 0 Tryz.underlying83
  go_enter Tryz.func82, Tryz.ntmps82
  go_wp2_with (at_builtin; refine wpList_append_own _ rfl _ _ 83 rfl w.heap.size 131 i0 _ 3 24 Tryz.underlying83 ji jz0 jz1 jz2 rfl (by omega) _ 0 _ rfl hO ad l.length c (tksC l) rfl hcl H3.out (tksC_one l) (by unfold maxLen; omega) (by omega) (by simp) ?_; intro v' w4 hown4 hgrow _)
  go_ret
  exact ⟨v', rfl, by simpa using hown4, hb.grown hgrow hb.size fun g hg => (hO.lt g hg).1⟩
theorem own_clip {w : World} {base : Nat} {e : TypeId} {n c : Nat} {A : Option Addr} {xs : List Value} (h : w.ownsRow base e 3 (.slice A n c) n xs) : (A = none → n = 0) ∧ Rd w w.heap.size 3 A n xs := by
 refine ⟨fun hA => ?_, Rd.of_own h⟩
 rcases Nat.eq_zero_or_pos n with h0 | h0
 ·exact h0
 ·obtain ⟨b, o, e, _⟩ := (Rd.of_own h).2 h0
  rw [hA] at e; cases e
def DocAt (w : World) (g : Nat) (s : Bs) (T : List Tk) : Prop :=
 ∃ A c, Blk w g 179 #[.string ⟨s.toArray⟩, .slice A T.length c] ∧ (A = none → c = 0) ∧ T.length ≤ c ∧ Rd w w.heap.size 3 A T.length (tksC T)
theorem DocAt.below {w w' : World} {g : Nat} {s : Bs} {T : List Tk} (h : DocAt w g s T) (hb : Below w.heap.size w w') : DocAt w' g s T := by
 obtain ⟨A, c, h1, h2, h3, h4⟩ := h
 exact ⟨A, c, h1.below hb h1.lt, h2, h3, (h4.below hb).more hb.size⟩
set_option maxHeartbeats 1000000 in
set_option maxRecDepth 100000 in
theorem ltokens_walk (g : Nat) (s : Bs) (T : List Tk) (w : World) (h : DocAt w g s T) (hl : T.length ≤ 16777216) :
  Calls Tryz.prog 37 #[.pointer (some ⟨g, 0, none⟩)] w fun e w' => ∃ A, e = .returned (.slice A T.length T.length) ∧ (∃ c, w'.ownsRow w.heap.size 131 3 (.slice A T.length c) T.length (tksC T)) ∧ Below w.heap.size w w' := by
 obtain ⟨A, c, h1, h2, h3, h4⟩ := h
 have c1 := h1.cell 1
 simp at c1
 have hcl := tclone_walk A c T w h4.tkAt h2 hl
 go_enter Tryz.func37, Tryz.ntmps37
 go_wp2_with fail
 refine hcl.mono ?_
 rintro e w1 ⟨v, rfl, hown, hb1⟩
 obtain ⟨Av, cv, rfl, hle, hvn⟩ := own_cap hown
 go_wp2_with fail
 refine (tclip_walk Av T.length cv _ hle hvn).mono ?_
 rintro e w' ⟨rfl, rfl⟩
 go_wp2_with fail
 go_ret
 exact ⟨Av, rfl, ⟨cv, hown⟩, hb1⟩
set_option maxHeartbeats 1000000 in
set_option maxRecDepth 100000 in
theorem lnew_walk (s : Bs) (m : Int) (w : World) (hM : MaxL w m) (hT : T8 w) (hW : WordsIs w) (hl : s.length ≤ 8388608) :
  Calls Tryz.prog 36 #[.string ⟨s.toArray⟩] w fun e w' => ∃ g, e = .returned (.pointer (some ⟨g, 0, none⟩)) ∧ w.heap.size ≤ g ∧ DocAt w' g s (Lx.tokR 0 s) ∧ Below w.heap.size w w' := by
 have hk := tokens_walkO s m w hM hT hW hl
 generalize Lx.tokR 0 s = T at *
 go_enter Tryz.func36, Tryz.ntmps36
 go_wp2_with fail
 refine hk.mono ?_
 clear hk
 rintro e w1 ⟨A, rfl, ⟨cv, hown⟩, hb1⟩
 obtain ⟨hc, hrd⟩ := own_clip hown
 go_wp2_with fail
 go_ret
 have hbA : Below w.heap.size w (w1.alloc (.cells #[.string ⟨s.toArray⟩, .slice A T.length T.length] 179)) := hb1.alloc hb1.size _
 exact ⟨_, rfl, hb1.size, ⟨A, T.length, Blk.new _ _ _, hc, Nat.le_refl _, (hrd.below ((Below.refl _ _).alloc (Nat.le_refl _) _)).more (by simp)⟩, hbA⟩
theorem pre_two (s : Bs) (i : Nat) (h : i + 1 < s.length) (a b : UInt8) : [a, b].isPrefixOf (s.drop i) = (decide (s[i] = a) && decide (s[i + 1] = b)) := by
 rw [List.drop_eq_getElem_cons (by omega), List.drop_eq_getElem_cons (by omega), Bool.eq_iff_iff]
 simp [List.isPrefixOf]
 constructor
 ·rintro ⟨h1, h2⟩; exact ⟨h1.symm, h2.symm⟩
 ·rintro ⟨h1, h2⟩; exact ⟨h1.symm, h2.symm⟩
theorem pre_short (l : Bs) (h : l.length ≤ 1) (a b : UInt8) : [a, b].isPrefixOf l = false := by
 rcases l with _ | ⟨x, _ | ⟨y, t⟩⟩
 ·rfl
 ·simp [List.isPrefixOf]
 ·simp at h
set_option maxHeartbeats 1000000 in
set_option maxRecDepth 100000 in
theorem has_walk (s : Bs) (i : Nat) (a b : UInt8) (w : World) (hl : s.length ≤ 100000000) (hi : i ≤ s.length) :
  Calls Tryz.prog 124 #[.string ⟨s.toArray⟩, .int .i64 i, .int .u8 a.toNat, .int .u8 b.toNat] w fun e w' => e = .returned (.bool ([a, b].isPrefixOf (s.drop i))) ∧ w' = w := by
 by_cases h : i + 1 < s.length
 ·have h0 : i < s.length := by omega
  rw [pre_two s i h a b]
  have ea := bk_eq s i h0 a
  have eb := bk_eq s (i + 1) h b
  generalize decide (s[i] = a) = qa at *
  generalize decide (s[i + 1] = b) = qb at *
  generalize ((a.toNat : Nat) : Int) = x at *
  generalize ((b.toNat : Nat) : Int) = y at *
  have i0 : (0 : Int) ≤ (i : Int) := by omega
  have i1 : (i : Int) + 1 < (s.length : Int) := by omega
  have i2 : (i : Int) < (s.length : Int) := by omega
  cases qa with
  | false =>
   go_enter Tryz.func124, Tryz.ntmps124
   go_wp2_with fail
   go_ret
   exact ⟨rfl, rfl⟩
  | true =>
   cases qb with
   | false =>
    go_enter Tryz.func124, Tryz.ntmps124
    go_wp2_with fail
    go_ret
    exact ⟨rfl, rfl⟩
   | true =>
    go_enter Tryz.func124, Tryz.ntmps124
    go_wp2_with fail
    go_ret
    exact ⟨rfl, rfl⟩
 ·rw [pre_short (s.drop i) (by rw [List.length_drop]; omega) a b]
  have i1 : ¬ (i : Int) + 1 < (s.length : Int) := by omega
  clear h
  generalize ((a.toNat : Nat) : Int) = x at *
  generalize ((b.toNat : Nat) : Int) = y at *
  go_enter Tryz.func124, Tryz.ntmps124
  go_wp2_with fail
  go_ret
  exact ⟨rfl, rfl⟩
def hexI (b : UInt8) : Int := match Lx.hexV b with
 | some d => (d : Int)
 | none => -1
theorem hexI_ways (b : UInt8) (n : Nat) (hn : b.toNat = n) : (48 ≤ n ∧ n ≤ 57 ∧ hexI b = (n : Int) - 48) ∨ (97 ≤ n ∧ n ≤ 102 ∧ hexI b = (n : Int) - 87) ∨ (65 ≤ n ∧ n ≤ 70 ∧ hexI b = (n : Int) - 55) ∨ (n < 48 ∧ hexI b = -1) ∨ (57 < n ∧ n < 65 ∧ hexI b = -1) ∨ (70 < n ∧ n < 97 ∧ hexI b = -1) ∨ (102 < n ∧ hexI b = -1) := by
 unfold hexI Lx.hexV
 rw [hn]
 by_cases h1 : 48 ≤ n ∧ n ≤ 57
 ·rw [if_pos h1]; simp only; omega
 ·rw [if_neg h1]
  by_cases h2 : 97 ≤ n ∧ n ≤ 102
  ·rw [if_pos h2]; simp only; omega
  ·rw [if_neg h2]
   by_cases h3 : 65 ≤ n ∧ n ≤ 70
   ·rw [if_pos h3]; simp only; omega
   ·rw [if_neg h3]
    have hw : n < 48 ∨ (57 < n ∧ n < 65) ∨ (70 < n ∧ n < 97) ∨ 102 < n := by omega
    rcases hw with h | ⟨h, h'⟩ | ⟨h, h'⟩ | h
    ·exact .inr (.inr (.inr (.inl ⟨h, rfl⟩)))
    ·exact .inr (.inr (.inr (.inr (.inl ⟨h, h', rfl⟩))))
    ·exact .inr (.inr (.inr (.inr (.inr (.inl ⟨h, h', rfl⟩)))))
    ·exact .inr (.inr (.inr (.inr (.inr (.inr ⟨h, rfl⟩)))))
set_option maxHeartbeats 1000000 in
set_option maxRecDepth 100000 in
theorem hexa_walk (b : UInt8) (w : World) : Calls Tryz.prog 202 #[.int .u8 b.toNat] w fun e w' => e = .returned (.int .i64 (hexI b)) ∧ w' = w := by
 have hlt := b.toNat_lt
 have hw := hexI_ways b b.toNat rfl
 generalize hexI b = H at *
 generalize b.toNat = n at *
 rcases hw with ⟨h1, h2, rfl⟩ | ⟨h1, h2, rfl⟩ | ⟨h1, h2, rfl⟩ | ⟨h1, rfl⟩ | ⟨h1, h2, rfl⟩ | ⟨h1, h2, rfl⟩ | ⟨h1, rfl⟩
 all_goals
  first | have a48 : (48 : Int) ≤ (n : Int) := by omega | have a48 : ¬ (48 : Int) ≤ (n : Int) := by omega | skip
  first | have a57 : (n : Int) ≤ 57 := by omega | have a57 : ¬ (n : Int) ≤ 57 := by omega | skip
  first | have a97 : (97 : Int) ≤ (n : Int) := by omega | have a97 : ¬ (97 : Int) ≤ (n : Int) := by omega | skip
  first | have a102 : (n : Int) ≤ 102 := by omega | have a102 : ¬ (n : Int) ≤ 102 := by omega | skip
  first | have a65 : (65 : Int) ≤ (n : Int) := by omega | have a65 : ¬ (65 : Int) ≤ (n : Int) := by omega | skip
  first | have a70 : (n : Int) ≤ 70 := by omega | have a70 : ¬ (n : Int) ≤ 70 := by omega | skip
  go_enter Tryz.func202, Tryz.ntmps202
  go_wp2_with fail
  go_ret
  exact ⟨rfl, rfl⟩
set_option maxHeartbeats 2000000 in
set_option maxRecDepth 100000 in
theorem rletter_walk (c : Nat) (hc : c < 100000000) (w : World) : Calls Tryz.prog 123 #[.int .i64 c] w fun e w' => e = .returned (.bool (Lx.letterB c)) ∧ w' = w := by
 rcases letter_cases c with ⟨hr, h | h | h⟩ | ⟨hr, h⟩ | ⟨hr, h⟩ | ⟨hr, h⟩ | ⟨hr, h⟩ | ⟨hr, h⟩ | ⟨hr, h⟩ | ⟨hr, h⟩ | ⟨hr, h⟩ | ⟨hr, h⟩ | ⟨hr, h⟩
 all_goals
  rw [hr]
  clear hr
  first | have a97 : (97 : Int) ≤ (c : Int) := by omega | have a97 : ¬ (97 : Int) ≤ (c : Int) := by omega | skip
  first | have a122 : (c : Int) ≤ 122 := by omega | have a122 : ¬ (c : Int) ≤ 122 := by omega | skip
  first | have a65 : (65 : Int) ≤ (c : Int) := by omega | have a65 : ¬ (65 : Int) ≤ (c : Int) := by omega | skip
  first | have a90 : (c : Int) ≤ 90 := by omega | have a90 : ¬ (c : Int) ≤ 90 := by omega | skip
  first | have a192 : (192 : Int) ≤ (c : Int) := by omega | have a192 : ¬ (192 : Int) ≤ (c : Int) := by omega | skip
  first | have a591 : (c : Int) ≤ 591 := by omega | have a591 : ¬ (c : Int) ≤ 591 := by omega | skip
  first | have a880 : (880 : Int) ≤ (c : Int) := by omega | have a880 : ¬ (880 : Int) ≤ (c : Int) := by omega | skip
  first | have a1023 : (c : Int) ≤ 1023 := by omega | have a1023 : ¬ (c : Int) ≤ 1023 := by omega | skip
  first | have a1024 : (1024 : Int) ≤ (c : Int) := by omega | have a1024 : ¬ (1024 : Int) ≤ (c : Int) := by omega | skip
  first | have a1279 : (c : Int) ≤ 1279 := by omega | have a1279 : ¬ (c : Int) ≤ 1279 := by omega | skip
  first | have b95 : ((c : Int) == 95) = true := by simp; omega | have b95 : ((c : Int) == 95) = false := by simp; omega | skip
  first | have b215 : ((c : Int) != 215) = true := by simp; omega | have b215 : ((c : Int) != 215) = false := by simp; omega | skip
  first | have b247 : ((c : Int) != 247) = true := by simp; omega | have b247 : ((c : Int) != 247) = false := by simp; omega | skip
  clear h
  go_enter Tryz.func123, Tryz.ntmps123
  go_wp2_with fail
  go_ret
  exact ⟨rfl, rfl⟩
set_option maxRecDepth 100000 in
theorem words_walk (w : World) : Calls Tryz.prog 159 #[] w fun e w' => ∃ A : Option Addr, e = .returned (.slice A 12 12) ∧ Rd w' w'.heap.size 1 A Lx.words.length (txtV Lx.words) ∧ Below w.heap.size w w' := by
 have hb : Below w.heap.size w (w.alloc (.cells (txtV Lx.words).toArray 9)) := (Below.refl _ _).alloc (Nat.le_refl _) _
 have hB : Blk (w.alloc (.cells (txtV Lx.words).toArray 9)) w.heap.size 9 (txtV Lx.words).toArray := Blk.new _ _ _
 go_enter Tryz.func159, Tryz.ntmps159
 go_wp2_with fail
 go_ret
 refine ⟨_, rfl, ⟨by kernel_rfl, fun _ => ⟨_, _, rfl, by simp, fun j u hu => ?_⟩⟩, hb⟩
 have h := hB.cell j
 have h2 : (w.alloc (.cells (txtV Lx.words).toArray 9)).cell? ⟨w.heap.size, j, none⟩ = (txtV Lx.words)[j]? := by simp
 rw [Nat.zero_add]
 exact h2.trans hu
set_option maxHeartbeats 1000000 in
set_option maxRecDepth 100000 in
theorem rword_walk (x : Bs) (w : World) : Calls Tryz.prog 126 #[.string ⟨x.toArray⟩] w fun e w' => e = .returned (.bool (Lx.wordM x)) ∧ Below w.heap.size w w' := by
 have hW := words_walk w
 unfold Lx.wordM
 have hlen : Lx.words.length = 12 := rfl
 generalize Lx.words = l at *
 generalize hQ : l.contains x = Q
 have HQ := Lib.hid hQ
 clear hQ
 go_enter Tryz.func126, Tryz.ntmps126
 go_wp2_with fail
 refine hW.mono ?_
 clear hW
 rintro e w1 ⟨A, rfl, h1, hb⟩
 go_wp2_with fail
 go_loop [4] (fun i => ∃ k : Nat, k ≤ 12 ∧ i = .int .i64 k ∧ Hid (x ∉ l.take k)) (fun i => 12 - (intOf i).toNat)
 case atStart => exact ⟨0, Nat.zero_le _, rfl, by show _ ∉ _; simp⟩
 case round =>
  obtain ⟨k, hk, rfl, H⟩ := hrel
  by_cases hlt : k < 12
  ·have hlt2 : k < l.length := by omega
   obtain ⟨b, o, rfl, hbB, c0⟩ := Rd.txt h1 hlt2
   have i1 : (0 : Int) ≤ (k : Int) := by omega
   have i2 : (k : Int) < 12 := by omega
   have Hst : Hid (x ≠ l[k] → x ∉ l.take (k + 1)) := fun h => by
    rw [List.take_succ_eq_append_getElem hlt2, List.mem_append, List.mem_singleton]
    rintro (h2 | h2)
    ·exact H.out h2
    ·exact h h2
   have Hin : Hid (x = l[k] → Q = true) := fun h => by rw [← HQ.out, h]; simp
   unfold strV at c0
   generalize l[k] = y at *
   clear hlt2
   by_cases hxy : x = y
   ·have hc := Lib.hid (Hin.out hxy)
    subst hxy
    go_wp2_with fail
    go_ret
    exact ⟨by rw [hc.out]; rfl, hb⟩
   ·have d1 : (y == x) = false := by simp; exact fun e => hxy e.symm
    have Hn := Lib.hid (Hst.out hxy)
    clear hxy
    go_wp2_with fail
    go_round
    case rel => exact ⟨k + 1, by omega, by go_num, Hn.out⟩
    case measure => simp [intOf]; omega
  ·obtain rfl : k = 12 := by omega
   have hc : Hid (Q = false) := by
    show _ = _
    rw [← HQ.out]
    have := H.out
    rw [← hlen, List.take_length] at this
    simpa using this
   go_wp2_with fail
   go_ret
   exact ⟨by rw [hc.out]; rfl, hb⟩
def rescV : Option (Nat × Nat) → Value
 | some (c, n) => .tuple #[.int .i64 c, .int .i64 ((n + 1 : Nat) : Int)]
 | none => .tuple #[.int .i64 0, .int .i64 0]
theorem hex_step (r : Bs) (j n : Nat) (h : Lx.hexN 0 (r.take j) = some n) (b : UInt8) (d : Nat) (hb : r[j]? = some b) (hd : Lx.hexV b = some d) : Lx.hexN 0 (r.take (j + 1)) = some (n * 16 + d) := by
 rw [List.take_add_one, hb]
 exact Lx.hexN_snoc _ _ _ _ _ h hd
theorem hex_small (r : Bs) (j n : Nat) (hj : j ≤ Lx.hexC 6 r) (h : Lx.hexN 0 (r.take j) = some n) : (n : Int) < 16777216 := by
 obtain ⟨m, hm, hlt⟩ := Lx.hexN_take 6 r j hj
 rw [h] at hm
 injection hm with hm
 subst hm
 have h6 := (Lx.hexC_le 6 r).1
 have h5 : 16 ^ j ≤ 16 ^ 6 := Nat.pow_le_pow_right (by omega) (by omega)
 have h7 : (16 : Nat) ^ 6 = 16777216 := by decide
 rw [h7] at h5
 omega
set_option maxHeartbeats 4000000 in
set_option maxRecDepth 100000 in
theorem esc_code_walk (s : Bs) (i : Nat) (w : World) (h3 : i + 2 < s.length) (hu : s[i + 1] = 117) (hb : s[i + 2] = 123) (hl : s.length ≤ 100000000) :
  Calls Tryz.prog 160 #[.string ⟨s.toArray⟩, .int .i64 i] w fun e w' => e = .returned (rescV ((Lx.codeM (123 :: s.drop (i + 3))).map fun x => (x.1, x.2 + 1))) ∧ w' = w := by
 generalize hr : s.drop (i + 3) = r at *
 have hrl : r.length = s.length - (i + 3) := by rw [← hr, List.length_drop]
 have hget : ∀ j, r[j]? = s[i + 3 + j]? := fun j => by rw [← hr, List.getElem?_drop]
 have hle := Lx.hexC_le 6 r
 have hat := Lx.hexC_at 6 r
 have hend := Lx.hexC_end 6 r
 have hcr := fun n => Lx.code_ref r n
 have hst := hex_step r
 have hsm := hex_small r
 generalize hC : Lx.hexC 6 r = C at *
 have eu := bk_eq s (i + 1) (by omega) 117
 have en := bk_eq s (i + 1) (by omega) 110
 have et := bk_eq s (i + 1) (by omega) 116
 have eq := bk_eq s (i + 1) (by omega) 34
 have eb := bk_eq s (i + 1) (by omega) 92
 have eo := bk_eq s (i + 2) (by omega) 123
 rw [decide_eq_true hu] at eu
 rw [decide_eq_false (by rw [hu]; decide)] at en et eq eb
 rw [decide_eq_true hb] at eo
 rw [show (((117 : UInt8).toNat : Nat) : Int) = 117 from rfl] at eu
 rw [show (((110 : UInt8).toNat : Nat) : Int) = 110 from rfl] at en
 rw [show (((116 : UInt8).toNat : Nat) : Int) = 116 from rfl] at et
 rw [show (((34 : UInt8).toNat : Nat) : Int) = 34 from rfl] at eq
 rw [show (((92 : UInt8).toNat : Nat) : Int) = 92 from rfl] at eb
 rw [show (((123 : UInt8).toNat : Nat) : Int) = 123 from rfl] at eo
 have nu : ((((⟨s.toArray⟩ : ByteArray)[i + 1]'(by rw [mk_size]; omega)).toNat : Int) != 117) = false := by rw [bne, eu]; rfl
 have no : ((((⟨s.toArray⟩ : ByteArray)[i + 2]'(by rw [mk_size]; omega)).toNat : Int) != 123) = false := by rw [bne, eo]; rfl
 have j0 : (0 : Int) ≤ (i : Int) := by omega
 have j1 : ¬ (s.length : Int) ≤ (i : Int) + 1 := by omega
 have j2 : ¬ (s.length : Int) ≤ (i : Int) + 2 := by omega
 have j3 : (i : Int) + 1 < (s.length : Int) := by omega
 have j4 : (i : Int) + 2 < (s.length : Int) := by omega
 have Hget := Lib.hid hget
 have Hat := Lib.hid hat
 have Hend := Lib.hid hend
 have Hcr := Lib.hid hcr
 have Hst := Lib.hid hst
 have Hsm := Lib.hid hsm
 have Hrl := Lib.hid hrl
 have hC6 := hle.1
 have hCl : i + 3 + C ≤ s.length := by omega
 clear hget hat hend hcr hst hsm hle hr hC hu hb hrl
 generalize hQ0 : rescV ((Lx.codeM (123 :: r)).map fun x => (x.1, x.2 + 1)) = Q
 have HQ0 := Lib.hid hQ0
 clear hQ0
 go_enter Tryz.func160, Tryz.ntmps160
 go_wp2_with fail
 go_loop [7, 8] (fun kv nv => ∃ (j : Nat) (a : Int), kv = .int .i64 ((i + 3 + j : Nat) : Int) ∧ nv = .int .i64 a ∧ 0 ≤ a ∧ a < 16777216 ∧ j ≤ C ∧ Hid (∃ n : Nat, a = (n : Int) ∧ Lx.hexN 0 (r.take j) = some n)) (fun kv _ => s.length - (intOf kv).toNat)
 case atStart => exact ⟨0, 0, by go_num, rfl, by decide, by decide, Nat.zero_le _, 0, rfl, rfl⟩
 case round =>
  obtain ⟨j, a, rfl, rfl, ha0, ha1, hj, H⟩ := hrel
  generalize hk : i + 3 + j = k at *
  have k0 : (0 : Int) ≤ (k : Int) := by omega
  by_cases hlt : j < C
  ·have hks : k < s.length := by omega
   obtain ⟨b, d, hb1, hd⟩ := Hat.out j hlt
   have hsk : s[k] = b := by
    have := Hget.out j
    rw [hb1, hk, List.getElem?_eq_getElem hks] at this
    injection this with this
    exact this.symm
   have hN : Hid (a * 16 + (d : Int) < 16777216 ∧ ∃ n : Nat, a * 16 + (d : Int) = (n : Int) ∧ Lx.hexN 0 (r.take (j + 1)) = some n) := by
    obtain ⟨n, rfl, hn⟩ := H.out
    have h4 := Hst.out j n hn b d hb1 hd
    have h5 := Hsm.out (j + 1) _ (by omega) h4
    exact ⟨by omega, n * 16 + d, by omega, h4⟩
   have hx : ∀ w, Calls Tryz.prog 202 #[.int .u8 (((⟨s.toArray⟩ : ByteArray)[k]'(by rw [mk_size]; exact hks)).toNat : Int)] w fun e w' => e = .returned (.int .i64 d) ∧ w' = w := fun w => by
    have := hexa_walk b w
    rw [show hexI b = (d : Int) by unfold hexI; rw [hd]] at this
    rw [show ((⟨s.toArray⟩ : ByteArray)[k]'(by rw [mk_size]; exact hks)).toNat = s[k].toNat from rfl, hsk]
    exact this
   have hd16 := (Lx.hex_no b d hd).2.2.2.2
   have k1 : (k : Int) < (s.length : Int) := by omega
   have k2 : (k : Int) < (i : Int) + 9 := by omega
   have k3 : ¬ (d : Int) < 0 := by omega
   clear hb1 hsk H hd Hget Hat Hend Hcr Hst Hsm Hrl hC6 hCl
   go_wp2_with fail
   refine (hx _).mono ?_
   clear hx
   rintro e w' ⟨rfl, rfl⟩
   go_wp2_with fail
   go_round
   case rel => exact ⟨j + 1, a * 16 + d, by congr 1; omega, rfl, by omega, hN.out.1, by omega, hN.out.2⟩
   case measure => simp [intOf]; omega
  ·obtain rfl : j = C := by omega
   have hcode : Hid (∃ n : Nat, a = (n : Int) ∧ Lx.codeM (123 :: r) = if j = 0 ∨ r[j]? ≠ some 125 ∨ n > 1114111 ∨ (55296 ≤ n ∧ n ≤ 57343) then none else some (n, j + 2)) := by
    obtain ⟨n, h4, h5⟩ := H.out
    exact ⟨n, h4, Hcr.out n h5⟩
   have hway : (k < s.length ∧ j < 6 ∧ ∃ hks : k < s.length, Lx.hexV s[k] = none) ∨ (k < s.length ∧ j = 6) ∨ k = s.length := by
    rcases Nat.lt_or_ge k s.length with hks | hks
    ·rcases Nat.lt_or_ge j 6 with h6 | h6
     ·refine .inl ⟨hks, h6, hks, Hend.out h6 _ ?_⟩
      rw [Hget.out, hk, List.getElem?_eq_getElem hks]
     ·exact .inr (.inl ⟨hks, by omega⟩)
    ·exact .inr (.inr (by omega))
   have h125 : r[j]? = some 125 ↔ ∃ hks : k < s.length, s[k] = 125 := by
    rw [Hget.out, hk]
    constructor
    ·intro h
     obtain ⟨hks, hv⟩ := List.getElem?_eq_some_iff.1 h
     exact ⟨hks, hv⟩
    ·rintro ⟨hks, hv⟩
     exact List.getElem?_eq_some_iff.2 ⟨hks, hv⟩
   have hans : Hid ((j = 0 ∧ Q = rescV none) ∨ (j ≠ 0 ∧ k = s.length ∧ Q = rescV none) ∨ (j ≠ 0 ∧ ∃ hks : k < s.length, (s[k] ≠ 125 ∧ Q = rescV none) ∨ (s[k] = 125 ∧ ((1114111 < a ∧ Q = rescV none) ∨ (¬ 1114111 < a ∧ 55296 ≤ a ∧ a ≤ 57343 ∧ Q = rescV none) ∨ (¬ 1114111 < a ∧ ¬ 55296 ≤ a ∧ Q = .tuple #[.int .i64 a, .int .i64 ((j + 2 + 1 + 1 : Nat) : Int)]) ∨ (¬ 1114111 < a ∧ 55296 ≤ a ∧ ¬ a ≤ 57343 ∧ Q = .tuple #[.int .i64 a, .int .i64 ((j + 2 + 1 + 1 : Nat) : Int)]))))) := by
    obtain ⟨n, rfl, hc⟩ := hcode.out
    rw [← HQ0.out, hc]
    by_cases h0 : j = 0
    ·exact .inl ⟨h0, by rw [if_pos (.inl h0)]; rfl⟩
    ·by_cases hks : k < s.length
     ·refine .inr (.inr ⟨h0, hks, ?_⟩)
      by_cases hv : s[k] = 125
      ·refine .inr ⟨hv, ?_⟩
       have h1 : r[j]? = some 125 := h125.2 ⟨hks, hv⟩
       by_cases hn1 : 1114111 < n
       ·exact .inl ⟨by omega, by rw [if_pos (.inr (.inr (.inl hn1)))]; rfl⟩
       ·by_cases hn2 : 55296 ≤ n
        ·by_cases hn3 : n ≤ 57343
         ·exact .inr (.inl ⟨by omega, by omega, by omega, by rw [if_pos (.inr (.inr (.inr ⟨hn2, hn3⟩)))]; rfl⟩)
         ·refine .inr (.inr (.inr ⟨by omega, by omega, by omega, ?_⟩))
          rw [if_neg (by
           rintro (h | h | h | h)
           ·exact h0 h
           ·exact h h1
           ·exact hn1 h
           ·exact hn3 h.2)]
          rfl
        ·refine .inr (.inr (.inl ⟨by omega, by omega, ?_⟩))
         rw [if_neg (by
          rintro (h | h | h | h)
          ·exact h0 h
          ·exact h h1
          ·exact hn1 h
          ·exact hn2 h.1)]
         rfl
      ·refine .inl ⟨hv, ?_⟩
       rw [if_pos (.inr (.inl fun h => hv (h125.1 h).2))]; rfl
     ·refine .inr (.inl ⟨h0, by omega, ?_⟩)
      rw [if_pos (.inr (.inl fun h => hks (h125.1 h).1))]; rfl
   clear h125 hcode Hget Hat Hend Hcr Hst Hsm H Hrl HQ0
   have n125 : ∀ hks : k < s.length, ((((⟨s.toArray⟩ : ByteArray)[k]'(by rw [mk_size]; exact hks)).toNat : Int) != 125) = !decide (s[k] = 125) := fun hks => by
    have := bk_eq s k hks 125
    rw [show (((125 : UInt8).toNat : Nat) : Int) = 125 from rfl] at this
    rw [bne, this]
   have hx : ∀ hks : k < s.length, Lx.hexV s[k] = none → ∀ w, Calls Tryz.prog 202 #[.int .u8 (((⟨s.toArray⟩ : ByteArray)[k]'(by rw [mk_size]; exact hks)).toNat : Int)] w fun e w' => e = .returned (.int .i64 (-1)) ∧ w' = w := fun hks hd w => by
    have := hexa_walk s[k] w
    rw [show hexI s[k] = -1 by unfold hexI; rw [hd]] at this
    exact this
   rcases hans.out with ⟨h0, hQ⟩ | ⟨h0, hke, hQ⟩ | ⟨h0, hks, hv⟩
   ·-- no digit
    have HQ := Lib.hid hQ
    clear hQ hans
    have z1 : ((k : Int) == (i : Int) + 3) = true := by simp; omega
    rcases hway with ⟨hks, h6, _, hd⟩ | ⟨hks, h6⟩ | hke
    ·have k1 : (k : Int) < (s.length : Int) := by omega
     have k2 : (k : Int) < (i : Int) + 9 := by omega
     have hx := hx hks hd
     clear n125 hd
     go_wp2_with fail
     refine (hx _).mono ?_
     rintro e w' ⟨rfl, rfl⟩
     go_wp2_with fail
     go_ret2
     exact ⟨by rw [HQ.out]; rfl, rfl⟩
    ·exfalso; omega
    ·have k1 : ¬ (k : Int) < (s.length : Int) := by omega
     clear n125 hx
     go_wp2_with fail
     go_ret2
     exact ⟨by rw [HQ.out]; rfl, rfl⟩
   ·have HQ := Lib.hid hQ
    clear hQ hans
    have z1 : ((k : Int) == (i : Int) + 3) = false := by simp; omega
    have k1 : ¬ (k : Int) < (s.length : Int) := by omega
    have k2 : (s.length : Int) ≤ (k : Int) := by omega
    clear n125 hx hway
    go_wp2_with fail
    go_ret2
    exact ⟨by rw [HQ.out]; rfl, rfl⟩
   ·have z1 : ((k : Int) == (i : Int) + 3) = false := by simp; omega
    have k1 : (k : Int) < (s.length : Int) := by omega
    have k3 : ¬ (s.length : Int) ≤ (k : Int) := by omega
    have n5 := n125 hks
    clear n125
    have hway2 : (∃ (k2 : (k : Int) < (i : Int) + 9), ∀ w, Calls Tryz.prog 202 #[.int .u8 (((⟨s.toArray⟩ : ByteArray)[k]'(by rw [mk_size]; exact hks)).toNat : Int)] w fun e w' => e = .returned (.int .i64 (-1)) ∧ w' = w) ∨ ¬ (k : Int) < (i : Int) + 9 := by
     rcases hway with ⟨_, h6, _, hd⟩ | ⟨_, h6⟩ | hke
     ·exact .inl ⟨by omega, hx hks hd⟩
     ·exact .inr (by omega)
     ·exfalso; omega
    clear hway hx hans
    rcases hv with ⟨hv, hQ⟩ | ⟨hv, hv3⟩
    ·rw [decide_eq_false hv, Bool.not_false] at n5
     have HQ := Lib.hid hQ
     clear hv hQ
     rcases hway2 with ⟨k2, hx⟩ | k2
     ·go_wp2_with fail
      refine (hx _).mono ?_
      rintro e w' ⟨rfl, rfl⟩
      go_wp2_with fail
      go_ret2
      exact ⟨by rw [HQ.out]; rfl, rfl⟩
     ·go_wp2_with fail
      go_ret2
      exact ⟨by rw [HQ.out]; rfl, rfl⟩
    ·rw [decide_eq_true hv, Bool.not_true] at n5
     clear hv
     rcases hv3 with ⟨m1, hQ⟩ | ⟨m1, m2, m3, hQ⟩ | ⟨m1, m2, hQ⟩ | ⟨m1, m2, m3, hQ⟩
     all_goals
      have HQ := Lib.hid hQ
      clear hQ
      rcases hway2 with ⟨k2, hx⟩ | k2
      ·go_wp2_with fail
       refine (hx _).mono ?_
       rintro e w' ⟨rfl, rfl⟩
       go_wp2_with fail
       go_ret2
       refine ⟨?_, rfl⟩
       rw [HQ.out]
       first | rfl | (rw [show ((j + 2 + 1 + 1 : Nat) : Int) = (k : Int) + 1 - (i : Int) by omega]; rfl)
      ·go_wp2_with fail
       go_ret2
       refine ⟨?_, rfl⟩
       rw [HQ.out]
       first | rfl | (rw [show ((j + 2 + 1 + 1 : Nat) : Int) = (k : Int) + 1 - (i : Int) by omega]; rfl)
def accB (c0 : Nat) (l : List UInt8) : Nat → Nat
 | 0 => c0
 | 1 => c0
 | k + 2 => accB c0 l (k + 1) * 64 + (byteAt l (k + 1) - 128)
theorem accB_succ (c0 : Nat) (l : List UInt8) {k : Nat} (hk : 1 ≤ k) : accB c0 l (k + 1) = accB c0 l k * 64 + (byteAt l k - 128) := by
 obtain ⟨k, rfl⟩ : ∃ m, k = m + 1 := ⟨k - 1, by omega⟩
 rfl
theorem accB_2 (c0 : Nat) (l : List UInt8) : accB c0 l 2 = c0 * 64 + (byteAt l 1 - 128) := rfl
theorem accB_3 (c0 : Nat) (l : List UInt8) : accB c0 l 3 = (c0 * 64 + (byteAt l 1 - 128)) * 64 + (byteAt l 2 - 128) := rfl
theorem accB_4 (c0 : Nat) (l : List UInt8) : accB c0 l 4 = ((c0 * 64 + (byteAt l 1 - 128)) * 64 + (byteAt l 2 - 128)) * 64 + (byteAt l 3 - 128) := rfl
def isCont (l : List UInt8) (k : Nat) : Prop := 128 ≤ byteAt l k ∧ byteAt l k ≤ 191
theorem contAt_iff {l : List UInt8} {k : Nat} (hk : k < l.length) : contAt l k = true ↔ isCont l k := by
 unfold contAt isCont
 simp [hk]
 omega
theorem contAt_short {l : List UInt8} {k : Nat} (hk : l.length ≤ k) : contAt l k = false := by
 unfold contAt
 have : ¬ k < l.length := by omega
 simp [this]
def wrongC (least c : Nat) : Bool := decide (c < least) || decide (c > 1114111) || (decide (c ≥ 55296) && decide (c ≤ 57343))
theorem valid_iff (c least : Nat) : (decide (c ≥ least) && Utf8.valid c) = !wrongC least c := by
 unfold wrongC Utf8.valid
 rw [Bool.eq_iff_iff]
 simp
 omega
theorem dec_other {l : List UInt8} (h0 : 128 ≤ byteAt l 0) (h1 : ¬ (194 ≤ byteAt l 0 ∧ byteAt l 0 ≤ 223)) (h2 : ¬ (224 ≤ byteAt l 0 ∧ byteAt l 0 ≤ 239)) (h3 : ¬ (240 ≤ byteAt l 0 ∧ byteAt l 0 ≤ 244)) (h4 : byteAt l 0 < 256) : dec l = (65533, 1) := by
 unfold dec
 rw [if_neg (by omega)]
 split
 ·rename_i h
  simp only [Bool.and_eq_true, beq_iff_eq] at h
  have h5 := (cont_lt h.2).2
  rw [if_neg (by omega)]; rfl
 split
 ·rename_i h
  simp only [Bool.and_eq_true, beq_iff_eq] at h
  omega
 split
 ·rename_i h
  simp only [Bool.and_eq_true, beq_iff_eq] at h
  have h5 := (cont_lt h.1.1.2).2
  have h6 := (cont_lt h.1.2).2
  have h7 := (cont_lt h.2).2
  have h8 : ¬ ((byteAt l 0 % 8) * 262144 + (byteAt l 1 % 64) * 4096 + (byteAt l 2 % 64) * 64 + byteAt l 3 % 64 ≤ 1114111) := by omega
  rw [if_neg (by unfold Utf8.valid; simp; omega)]; rfl
 ·rfl
theorem dec_stop2 {l : List UInt8} (h0 : 194 ≤ byteAt l 0) (h1 : byteAt l 0 ≤ 223) {k : Nat} (hk : 1 ≤ k) (hkn : k < 2) (hc : contAt l k = false) : dec l = (65533, 1) := by
 have hcs : contAt l 1 = false := by
  have : k = 1 := by omega
  rcases this with rfl <;> simp [hc]
 unfold dec
 rw [if_neg (by omega), if_neg, if_neg, if_neg]
 ·rfl
 ·simp only [Bool.and_eq_true, beq_iff_eq]
  rintro ⟨⟨⟨a, _⟩, _⟩, _⟩; omega
 ·simp only [Bool.and_eq_true, beq_iff_eq]
  rintro ⟨⟨a, _⟩, _⟩; omega
 ·simp only [Bool.and_eq_true, beq_iff_eq]
  rintro ⟨a, b⟩; simp_all
theorem dec_full2 {l : List UInt8} (h0 : 194 ≤ byteAt l 0) (h1 : byteAt l 0 ≤ 223) (hl : 2 ≤ l.length) (hc : ∀ k, 1 ≤ k → k < 2 → isCont l k) :
  dec l = if wrongC 128 (accB (byteAt l 0 - 192) l 2) then (65533, 1) else (accB (byteAt l 0 - 192) l 2, 2) := by
 have c1 := hc 1 (by omega) (by omega)
 have d1 := (contAt_iff (l := l) (k := 1) (by omega)).2 c1
 obtain ⟨p1, q1⟩ := c1
 unfold dec
 have e : accB (byteAt l 0 - 192) l 2 = (byteAt l 0 % 32) * 64 + byteAt l 1 % 64 := by
  have m0 : byteAt l 0 % 32 = byteAt l 0 - 192 := by omega
  have m1 : byteAt l 1 % 64 = byteAt l 1 - 128 := by omega
  rw [m0, m1, accB_2]
 rw [e]
 rw [if_neg (by omega), if_pos (by simp [d1]; omega)]
 have hv : wrongC 128 ((byteAt l 0 % 32) * 64 + byteAt l 1 % 64) = false := by
  unfold wrongC
  simp
  omega
 rw [hv, if_pos (by omega)]
 rfl
theorem dec_stop3 {l : List UInt8} (h0 : 224 ≤ byteAt l 0) (h1 : byteAt l 0 ≤ 239) {k : Nat} (hk : 1 ≤ k) (hkn : k < 3) (hc : contAt l k = false) : dec l = (65533, 1) := by
 have hcs : contAt l 1 = false ∨ contAt l 2 = false := by
  have : k = 1 ∨ k = 2 := by omega
  rcases this with rfl | rfl <;> simp [hc]
 unfold dec
 rw [if_neg (by omega), if_neg, if_neg, if_neg]
 ·rfl
 ·simp only [Bool.and_eq_true, beq_iff_eq]
  rintro ⟨⟨⟨a, _⟩, _⟩, _⟩; omega
 ·simp only [Bool.and_eq_true, beq_iff_eq]
  rintro ⟨⟨a, b⟩, c⟩; rcases hcs with h | h <;> simp_all
 ·simp only [Bool.and_eq_true, beq_iff_eq]
  rintro ⟨a, _⟩; omega
theorem dec_full3 {l : List UInt8} (h0 : 224 ≤ byteAt l 0) (h1 : byteAt l 0 ≤ 239) (hl : 3 ≤ l.length) (hc : ∀ k, 1 ≤ k → k < 3 → isCont l k) :
  dec l = if wrongC 2048 (accB (byteAt l 0 - 224) l 3) then (65533, 1) else (accB (byteAt l 0 - 224) l 3, 3) := by
 have c1 := hc 1 (by omega) (by omega)
 have c2 := hc 2 (by omega) (by omega)
 have d1 := (contAt_iff (l := l) (k := 1) (by omega)).2 c1
 have d2 := (contAt_iff (l := l) (k := 2) (by omega)).2 c2
 obtain ⟨p1, q1⟩ := c1
 obtain ⟨p2, q2⟩ := c2
 unfold dec
 have e : accB (byteAt l 0 - 224) l 3 = (byteAt l 0 % 16) * 4096 + (byteAt l 1 % 64) * 64 + byteAt l 2 % 64 := by
  have m0 : byteAt l 0 % 16 = byteAt l 0 - 224 := by omega
  have m1 : byteAt l 1 % 64 = byteAt l 1 - 128 := by omega
  have m2 : byteAt l 2 % 64 = byteAt l 2 - 128 := by omega
  rw [m0, m1, m2, accB_3]
  omega
 rw [e]
 rw [if_neg (by omega), if_neg (by simp only [Bool.and_eq_true, beq_iff_eq]; rintro ⟨a, _⟩; omega), if_pos (by simp [d1, d2]; omega)]
 rw [valid_iff]
 generalize (byteAt l 0 % 16) * 4096 + (byteAt l 1 % 64) * 64 + byteAt l 2 % 64 = c
 cases wrongC 2048 c <;> rfl
theorem dec_stop4 {l : List UInt8} (h0 : 240 ≤ byteAt l 0) (h1 : byteAt l 0 ≤ 244) {k : Nat} (hk : 1 ≤ k) (hkn : k < 4) (hc : contAt l k = false) : dec l = (65533, 1) := by
 have hcs : contAt l 1 = false ∨ contAt l 2 = false ∨ contAt l 3 = false := by
  have : k = 1 ∨ k = 2 ∨ k = 3 := by omega
  rcases this with rfl | rfl | rfl <;> simp [hc]
 unfold dec
 rw [if_neg (by omega), if_neg, if_neg, if_neg]
 ·rfl
 ·simp only [Bool.and_eq_true, beq_iff_eq]
  rintro ⟨⟨⟨a, b⟩, c⟩, d⟩; rcases hcs with h | h | h <;> simp_all
 ·simp only [Bool.and_eq_true, beq_iff_eq]
  rintro ⟨⟨a, _⟩, _⟩; omega
 ·simp only [Bool.and_eq_true, beq_iff_eq]
  rintro ⟨a, _⟩; omega
theorem dec_full4 {l : List UInt8} (h0 : 240 ≤ byteAt l 0) (h1 : byteAt l 0 ≤ 244) (hl : 4 ≤ l.length) (hc : ∀ k, 1 ≤ k → k < 4 → isCont l k) :
  dec l = if wrongC 65536 (accB (byteAt l 0 - 240) l 4) then (65533, 1) else (accB (byteAt l 0 - 240) l 4, 4) := by
 have c1 := hc 1 (by omega) (by omega)
 have c2 := hc 2 (by omega) (by omega)
 have c3 := hc 3 (by omega) (by omega)
 have d1 := (contAt_iff (l := l) (k := 1) (by omega)).2 c1
 have d2 := (contAt_iff (l := l) (k := 2) (by omega)).2 c2
 have d3 := (contAt_iff (l := l) (k := 3) (by omega)).2 c3
 obtain ⟨p1, q1⟩ := c1
 obtain ⟨p2, q2⟩ := c2
 obtain ⟨p3, q3⟩ := c3
 unfold dec
 have e : accB (byteAt l 0 - 240) l 4 = (byteAt l 0 % 8) * 262144 + (byteAt l 1 % 64) * 4096 + (byteAt l 2 % 64) * 64 + byteAt l 3 % 64 := by
  have m0 : byteAt l 0 % 8 = byteAt l 0 - 240 := by omega
  have m1 : byteAt l 1 % 64 = byteAt l 1 - 128 := by omega
  have m2 : byteAt l 2 % 64 = byteAt l 2 - 128 := by omega
  have m3 : byteAt l 3 % 64 = byteAt l 3 - 128 := by omega
  rw [m0, m1, m2, m3, accB_4]
  omega
 rw [e]
 rw [if_neg (by omega), if_neg (by simp only [Bool.and_eq_true, beq_iff_eq]; rintro ⟨a, _⟩; omega), if_neg (by simp only [Bool.and_eq_true, beq_iff_eq]; rintro ⟨⟨a, _⟩, _⟩; omega), if_pos (by simp [d1, d2, d3]; omega)]
 rw [valid_iff]
 generalize (byteAt l 0 % 8) * 262144 + (byteAt l 1 % 64) * 4096 + (byteAt l 2 % 64) * 64 + byteAt l 3 % 64 = c
 cases wrongC 65536 c <;> rfl
theorem byte0 (s : ByteArray) (h : 0 < s.size) : byteAt s.data.toList 0 = (s[0]).toNat := by
 unfold byteAt
 rw [List.getElem?_eq_getElem (by rw [dlen]; exact h)]
 rfl
theorem byteK (s : ByteArray) (k : Nat) (h : k < s.size) : byteAt s.data.toList k = (s[k]).toNat := by
 unfold byteAt
 rw [List.getElem?_eq_getElem (by rw [dlen]; exact h)]
 rfl
theorem byte_lt (l : List UInt8) (k : Nat) : byteAt l k < 256 := by
 unfold byteAt
 exact UInt8.toNat_lt _
theorem accB_le (c0 : Nat) (l : List UInt8) (h : c0 ≤ 31) : ∀ k, k ≤ 4 → accB c0 l k ≤ 16777215 := by
 intro k hk
 have h1 := byte_lt l 1
 have h2 := byte_lt l 2
 have h3 := byte_lt l 3
 have e0 : accB c0 l 0 = c0 := rfl
 have e1 : accB c0 l 1 = c0 := rfl
 have : k = 0 ∨ k = 1 ∨ k = 2 ∨ k = 3 ∨ k = 4 := by omega
 rcases this with rfl | rfl | rfl | rfl | rfl <;> (try rw [accB_2]) <;> (try rw [accB_3]) <;> (try rw [accB_4]) <;> omega
set_option maxHeartbeats 1000000 in
set_option maxRecDepth 100000 in
theorem rrune2 (s : ByteArray) (w : World) (hs : 0 < s.size) (h0 : 194 ≤ byteAt s.data.toList 0) (h1 : byteAt s.data.toList 0 ≤ 223) :
  Calls Tryz.prog 116 #[.string s] w fun e w' => e = .returned (.tuple #[.int .i64 (dec s.data.toList).1, .int .i64 (dec s.data.toList).2]) ∧ w = w' := by
 have hst := fun k => dec_stop2 (l := s.data.toList) h0 h1 (k := k)
 have hfu := dec_full2 (l := s.data.toList) h0 h1
 have hac := accB_le (byteAt s.data.toList 0 - 192) s.data.toList (by omega)
 have hb0 := byte0 s hs
 have Hst := Lib.hid hst
 have Hfu := Lib.hid hfu
 have Hac := Lib.hid hac
 clear hst hfu hac
 have hzz : ¬ s.size = 0 := by omega
 rw [hb0] at h0 h1 Hfu Hac
 clear hb0
 generalize hb : (s[0]).toNat = a at h0 h1 Hfu Hac
 have hidx : s[0].toNat = a := hb
 clear hb
 by_cases hn : s.size < 2
 ·have hn2 : (s.size : Int) < 2 := by omega
  have HD : Hid (dec s.data.toList = (65533, 1)) := Hst.out 1 (by omega) (by omega) (contAt_short (by rw [dlen]; omega))
  clear Hst Hfu Hac
  rw [HD.out]
  go_enter Tryz.func116, Tryz.ntmps116
  go_wp2_with fail
  go_ret2
  exact ⟨rfl, rfl⟩
 ·have hn2 : ¬ ((s.size : Int) < 2) := by omega
  have hn3 : 2 ≤ s.size := by omega
  go_enter Tryz.func116, Tryz.ntmps116
  go_wp2_with fail
  clear hidx
  go_loop [6, 8] (fun c i => ∃ k : Nat, 1 ≤ k ∧ k ≤ 2 ∧ i = .int .i64 k ∧ c = .int .i64 (accB (a - 192) s.data.toList k) ∧ Hid (∀ m, 1 ≤ m → m < k → isCont s.data.toList m)) (fun _ i => 2 - (intOf i).toNat)
  case atStart => exact ⟨1, by omega, by omega, rfl, by show _ = Value.int .i64 ((a - 192 : Nat) : Int); rw [show ((a - 192 : Nat) : Int) = (a : Int) - 192 from by omega], fun m h1 h2 => by omega⟩
  case round =>
   obtain ⟨k, hk1, hk2, rfl, rfl, HC⟩ := hrel
   have hacc := Hac.out k (by omega)
   by_cases hkn : k < 2
   ·have hks : k < s.size := by omega
    have hbk := byteK s k hks
    have Hs := Lib.hid (accB_succ (a - 192) s.data.toList hk1)
    have hbl := byte_lt s.data.toList k
    have HK : Hid (isCont s.data.toList k ↔ (128 ≤ byteAt s.data.toList k ∧ byteAt s.data.toList k ≤ 191)) := Iff.rfl
    have HX : Hid (¬ isCont s.data.toList k → dec s.data.toList = (65533, 1)) := fun h => Hst.out k hk1 hkn (by
     cases hq : contAt s.data.toList k with
     | false => rfl
     | true => exact absurd ((contAt_iff (by rw [dlen]; exact hks)).1 hq) h)
    generalize byteAt s.data.toList k = b at *
    have hidx2 : s[k].toNat = b := hbk.symm
    clear hbk
    generalize accB (a - 192) s.data.toList k = c at *
    have hkz : (0 : Int) ≤ (k : Int) := by omega
    by_cases hb1 : b < 128
    ·have HD := HX.out (fun h => by have := HK.out.1 h; omega)
     have HD2 := Lib.hid HD
     clear HD
     go_wp2_with fail
     rw [HD2.out]
     go_ret2
     exact ⟨rfl, rfl⟩
    ·by_cases hb2 : 191 < b
     ·have HD := HX.out (fun h => by have := HK.out.1 h; omega)
      have HD2 := Lib.hid HD
      clear HD
      have d1 : decide ((b : Int) < 128) = false := by simp; omega
      go_wp2_with fail
      rw [HD2.out]
      go_ret2
      exact ⟨rfl, rfl⟩
     ·have d1 : decide ((b : Int) < 128) = false := by simp; omega
      have d2 : decide ((191 : Int) < (b : Int)) = false := by simp; omega
      have hcont := HK.out.2 ⟨by omega, by omega⟩
      go_wp2_with fail
      go_round
      case rel => exact ⟨k + 1, by omega, by omega, by go_num, by rw [Hs.out]; rw [show ((c * 64 + (b - 128) : Nat) : Int) = (c : Int) * 64 + b - 128 from by omega], fun m h3 h4 => (Nat.lt_or_ge m k).elim (fun h5 => HC.out m h3 h5) (fun h5 => by have h6 : m = k := (by omega); rw [h6]; exact hcont)⟩
      case measure => simp [intOf]; omega
   ·obtain rfl : k = 2 := by omega
    have HD := Hfu.out (by rw [dlen]; omega) (fun k h1 h2 => HC.out k h1 h2)
    have HD2 := Lib.hid HD
    clear HD Hst Hfu HC
    generalize accB (a - 192) s.data.toList 2 = c at *
    have hw : c < 128 ∨ (¬ c < 128 ∧ 1114111 < c) ∨ (¬ c < 128 ∧ ¬ 1114111 < c ∧ 55296 ≤ c ∧ c ≤ 57343) ∨ (¬ c < 128 ∧ ¬ 1114111 < c ∧ 55296 ≤ c ∧ ¬ c ≤ 57343) ∨ (¬ c < 128 ∧ ¬ 1114111 < c ∧ ¬ 55296 ≤ c) := by omega
    rcases hw with q1 | ⟨q1, q2⟩ | ⟨q1, q2, q3, q4⟩ | ⟨q1, q2, q3, q4⟩ | ⟨q1, q2, q3⟩
    ·have HD3 : Hid (dec s.data.toList = (65533, 1)) := by show _ = _; rw [HD2.out, if_pos (by simp [wrongC, q1])]
     have d1 : decide ((c : Int) < 128) = true := by simp; omega
     clear HD2 q1
     go_wp2_with fail
     rw [HD3.out]
     go_ret2
     exact ⟨rfl, rfl⟩
    ·have HD3 : Hid (dec s.data.toList = (65533, 1)) := by show _ = _; rw [HD2.out, if_pos (by simp [wrongC, q2])]
     have d1 : decide ((c : Int) < 128) = false := by simp; omega
     have d2 : decide ((1114111 : Int) < (c : Int)) = true := by simp; omega
     clear HD2 q1 q2
     go_wp2_with fail
     rw [HD3.out]
     go_ret2
     exact ⟨rfl, rfl⟩
    ·have HD3 : Hid (dec s.data.toList = (65533, 1)) := by show _ = _; rw [HD2.out, if_pos (by simp [wrongC, q3, q4])]
     have d1 : decide ((c : Int) < 128) = false := by simp; omega
     have d2 : decide ((1114111 : Int) < (c : Int)) = false := by simp; omega
     have d3 : decide ((55296 : Int) ≤ (c : Int)) = true := by simp; omega
     have d4 : decide ((c : Int) ≤ 57343) = true := by simp; omega
     clear HD2 q1 q2 q3 q4
     go_wp2_with fail
     rw [HD3.out]
     go_ret2
     exact ⟨rfl, rfl⟩
    ·have HD3 : Hid (dec s.data.toList = (c, 2)) := by show _ = _; rw [HD2.out, if_neg (by simp [wrongC]; omega)]
     have d1 : decide ((c : Int) < 128) = false := by simp; omega
     have d2 : decide ((1114111 : Int) < (c : Int)) = false := by simp; omega
     have d3 : decide ((55296 : Int) ≤ (c : Int)) = true := by simp; omega
     have d4 : decide ((c : Int) ≤ 57343) = false := by simp; omega
     clear HD2 q1 q2 q3 q4
     go_wp2_with fail
     rw [HD3.out]
     go_ret2
     exact ⟨rfl, rfl⟩
    ·have HD3 : Hid (dec s.data.toList = (c, 2)) := by show _ = _; rw [HD2.out, if_neg (by simp [wrongC]; omega)]
     have d1 : decide ((c : Int) < 128) = false := by simp; omega
     have d2 : decide ((1114111 : Int) < (c : Int)) = false := by simp; omega
     have d3 : decide ((55296 : Int) ≤ (c : Int)) = false := by simp; omega
     clear HD2 q1 q2 q3
     go_wp2_with fail
     rw [HD3.out]
     go_ret2
     exact ⟨rfl, rfl⟩
set_option maxHeartbeats 1000000 in
set_option maxRecDepth 100000 in
theorem rrune3 (s : ByteArray) (w : World) (hs : 0 < s.size) (h0 : 224 ≤ byteAt s.data.toList 0) (h1 : byteAt s.data.toList 0 ≤ 239) :
  Calls Tryz.prog 116 #[.string s] w fun e w' => e = .returned (.tuple #[.int .i64 (dec s.data.toList).1, .int .i64 (dec s.data.toList).2]) ∧ w = w' := by
 have hst := fun k => dec_stop3 (l := s.data.toList) h0 h1 (k := k)
 have hfu := dec_full3 (l := s.data.toList) h0 h1
 have hac := accB_le (byteAt s.data.toList 0 - 224) s.data.toList (by omega)
 have hb0 := byte0 s hs
 have Hst := Lib.hid hst
 have Hfu := Lib.hid hfu
 have Hac := Lib.hid hac
 clear hst hfu hac
 have hzz : ¬ s.size = 0 := by omega
 rw [hb0] at h0 h1 Hfu Hac
 clear hb0
 generalize hb : (s[0]).toNat = a at h0 h1 Hfu Hac
 have hidx : s[0].toNat = a := hb
 clear hb
 by_cases hn : s.size < 3
 ·have hn2 : (s.size : Int) < 3 := by omega
  have HD : Hid (dec s.data.toList = (65533, 1)) := Hst.out 2 (by omega) (by omega) (contAt_short (by rw [dlen]; omega))
  clear Hst Hfu Hac
  rw [HD.out]
  go_enter Tryz.func116, Tryz.ntmps116
  go_wp2_with fail
  go_ret2
  exact ⟨rfl, rfl⟩
 ·have hn2 : ¬ ((s.size : Int) < 3) := by omega
  have hn3 : 3 ≤ s.size := by omega
  go_enter Tryz.func116, Tryz.ntmps116
  go_wp2_with fail
  clear hidx
  go_loop [6, 8] (fun c i => ∃ k : Nat, 1 ≤ k ∧ k ≤ 3 ∧ i = .int .i64 k ∧ c = .int .i64 (accB (a - 224) s.data.toList k) ∧ Hid (∀ m, 1 ≤ m → m < k → isCont s.data.toList m)) (fun _ i => 3 - (intOf i).toNat)
  case atStart => exact ⟨1, by omega, by omega, rfl, by show _ = Value.int .i64 ((a - 224 : Nat) : Int); rw [show ((a - 224 : Nat) : Int) = (a : Int) - 224 from by omega], fun m h1 h2 => by omega⟩
  case round =>
   obtain ⟨k, hk1, hk2, rfl, rfl, HC⟩ := hrel
   have hacc := Hac.out k (by omega)
   by_cases hkn : k < 3
   ·have hks : k < s.size := by omega
    have hbk := byteK s k hks
    have Hs := Lib.hid (accB_succ (a - 224) s.data.toList hk1)
    have hbl := byte_lt s.data.toList k
    have HK : Hid (isCont s.data.toList k ↔ (128 ≤ byteAt s.data.toList k ∧ byteAt s.data.toList k ≤ 191)) := Iff.rfl
    have HX : Hid (¬ isCont s.data.toList k → dec s.data.toList = (65533, 1)) := fun h => Hst.out k hk1 hkn (by
     cases hq : contAt s.data.toList k with
     | false => rfl
     | true => exact absurd ((contAt_iff (by rw [dlen]; exact hks)).1 hq) h)
    generalize byteAt s.data.toList k = b at *
    have hidx2 : s[k].toNat = b := hbk.symm
    clear hbk
    generalize accB (a - 224) s.data.toList k = c at *
    have hkz : (0 : Int) ≤ (k : Int) := by omega
    by_cases hb1 : b < 128
    ·have HD := HX.out (fun h => by have := HK.out.1 h; omega)
     have HD2 := Lib.hid HD
     clear HD
     go_wp2_with fail
     rw [HD2.out]
     go_ret2
     exact ⟨rfl, rfl⟩
    ·by_cases hb2 : 191 < b
     ·have HD := HX.out (fun h => by have := HK.out.1 h; omega)
      have HD2 := Lib.hid HD
      clear HD
      have d1 : decide ((b : Int) < 128) = false := by simp; omega
      go_wp2_with fail
      rw [HD2.out]
      go_ret2
      exact ⟨rfl, rfl⟩
     ·have d1 : decide ((b : Int) < 128) = false := by simp; omega
      have d2 : decide ((191 : Int) < (b : Int)) = false := by simp; omega
      have hcont := HK.out.2 ⟨by omega, by omega⟩
      go_wp2_with fail
      go_round
      case rel => exact ⟨k + 1, by omega, by omega, by go_num, by rw [Hs.out]; rw [show ((c * 64 + (b - 128) : Nat) : Int) = (c : Int) * 64 + b - 128 from by omega], fun m h3 h4 => (Nat.lt_or_ge m k).elim (fun h5 => HC.out m h3 h5) (fun h5 => by have h6 : m = k := (by omega); rw [h6]; exact hcont)⟩
      case measure => simp [intOf]; omega
   ·obtain rfl : k = 3 := by omega
    have HD := Hfu.out (by rw [dlen]; omega) (fun k h1 h2 => HC.out k h1 h2)
    have HD2 := Lib.hid HD
    clear HD Hst Hfu HC
    generalize accB (a - 224) s.data.toList 3 = c at *
    have hw : c < 2048 ∨ (¬ c < 2048 ∧ 1114111 < c) ∨ (¬ c < 2048 ∧ ¬ 1114111 < c ∧ 55296 ≤ c ∧ c ≤ 57343) ∨ (¬ c < 2048 ∧ ¬ 1114111 < c ∧ 55296 ≤ c ∧ ¬ c ≤ 57343) ∨ (¬ c < 2048 ∧ ¬ 1114111 < c ∧ ¬ 55296 ≤ c) := by omega
    rcases hw with q1 | ⟨q1, q2⟩ | ⟨q1, q2, q3, q4⟩ | ⟨q1, q2, q3, q4⟩ | ⟨q1, q2, q3⟩
    ·have HD3 : Hid (dec s.data.toList = (65533, 1)) := by show _ = _; rw [HD2.out, if_pos (by simp [wrongC, q1])]
     have d1 : decide ((c : Int) < 2048) = true := by simp; omega
     clear HD2 q1
     go_wp2_with fail
     rw [HD3.out]
     go_ret2
     exact ⟨rfl, rfl⟩
    ·have HD3 : Hid (dec s.data.toList = (65533, 1)) := by show _ = _; rw [HD2.out, if_pos (by simp [wrongC, q2])]
     have d1 : decide ((c : Int) < 2048) = false := by simp; omega
     have d2 : decide ((1114111 : Int) < (c : Int)) = true := by simp; omega
     clear HD2 q1 q2
     go_wp2_with fail
     rw [HD3.out]
     go_ret2
     exact ⟨rfl, rfl⟩
    ·have HD3 : Hid (dec s.data.toList = (65533, 1)) := by show _ = _; rw [HD2.out, if_pos (by simp [wrongC, q3, q4])]
     have d1 : decide ((c : Int) < 2048) = false := by simp; omega
     have d2 : decide ((1114111 : Int) < (c : Int)) = false := by simp; omega
     have d3 : decide ((55296 : Int) ≤ (c : Int)) = true := by simp; omega
     have d4 : decide ((c : Int) ≤ 57343) = true := by simp; omega
     clear HD2 q1 q2 q3 q4
     go_wp2_with fail
     rw [HD3.out]
     go_ret2
     exact ⟨rfl, rfl⟩
    ·have HD3 : Hid (dec s.data.toList = (c, 3)) := by show _ = _; rw [HD2.out, if_neg (by simp [wrongC]; omega)]
     have d1 : decide ((c : Int) < 2048) = false := by simp; omega
     have d2 : decide ((1114111 : Int) < (c : Int)) = false := by simp; omega
     have d3 : decide ((55296 : Int) ≤ (c : Int)) = true := by simp; omega
     have d4 : decide ((c : Int) ≤ 57343) = false := by simp; omega
     clear HD2 q1 q2 q3 q4
     go_wp2_with fail
     rw [HD3.out]
     go_ret2
     exact ⟨rfl, rfl⟩
    ·have HD3 : Hid (dec s.data.toList = (c, 3)) := by show _ = _; rw [HD2.out, if_neg (by simp [wrongC]; omega)]
     have d1 : decide ((c : Int) < 2048) = false := by simp; omega
     have d2 : decide ((1114111 : Int) < (c : Int)) = false := by simp; omega
     have d3 : decide ((55296 : Int) ≤ (c : Int)) = false := by simp; omega
     clear HD2 q1 q2 q3
     go_wp2_with fail
     rw [HD3.out]
     go_ret2
     exact ⟨rfl, rfl⟩
set_option maxHeartbeats 1000000 in
set_option maxRecDepth 100000 in
theorem rrune4 (s : ByteArray) (w : World) (hs : 0 < s.size) (h0 : 240 ≤ byteAt s.data.toList 0) (h1 : byteAt s.data.toList 0 ≤ 244) :
  Calls Tryz.prog 116 #[.string s] w fun e w' => e = .returned (.tuple #[.int .i64 (dec s.data.toList).1, .int .i64 (dec s.data.toList).2]) ∧ w = w' := by
 have hst := fun k => dec_stop4 (l := s.data.toList) h0 h1 (k := k)
 have hfu := dec_full4 (l := s.data.toList) h0 h1
 have hac := accB_le (byteAt s.data.toList 0 - 240) s.data.toList (by omega)
 have hb0 := byte0 s hs
 have Hst := Lib.hid hst
 have Hfu := Lib.hid hfu
 have Hac := Lib.hid hac
 clear hst hfu hac
 have hzz : ¬ s.size = 0 := by omega
 rw [hb0] at h0 h1 Hfu Hac
 clear hb0
 generalize hb : (s[0]).toNat = a at h0 h1 Hfu Hac
 have hidx : s[0].toNat = a := hb
 clear hb
 by_cases hn : s.size < 4
 ·have hn2 : (s.size : Int) < 4 := by omega
  have HD : Hid (dec s.data.toList = (65533, 1)) := Hst.out 3 (by omega) (by omega) (contAt_short (by rw [dlen]; omega))
  clear Hst Hfu Hac
  rw [HD.out]
  go_enter Tryz.func116, Tryz.ntmps116
  go_wp2_with fail
  go_ret2
  exact ⟨rfl, rfl⟩
 ·have hn2 : ¬ ((s.size : Int) < 4) := by omega
  have hn3 : 4 ≤ s.size := by omega
  go_enter Tryz.func116, Tryz.ntmps116
  go_wp2_with fail
  clear hidx
  go_loop [6, 8] (fun c i => ∃ k : Nat, 1 ≤ k ∧ k ≤ 4 ∧ i = .int .i64 k ∧ c = .int .i64 (accB (a - 240) s.data.toList k) ∧ Hid (∀ m, 1 ≤ m → m < k → isCont s.data.toList m)) (fun _ i => 4 - (intOf i).toNat)
  case atStart => exact ⟨1, by omega, by omega, rfl, by show _ = Value.int .i64 ((a - 240 : Nat) : Int); rw [show ((a - 240 : Nat) : Int) = (a : Int) - 240 from by omega], fun m h1 h2 => by omega⟩
  case round =>
   obtain ⟨k, hk1, hk2, rfl, rfl, HC⟩ := hrel
   have hacc := Hac.out k (by omega)
   by_cases hkn : k < 4
   ·have hks : k < s.size := by omega
    have hbk := byteK s k hks
    have Hs := Lib.hid (accB_succ (a - 240) s.data.toList hk1)
    have hbl := byte_lt s.data.toList k
    have HK : Hid (isCont s.data.toList k ↔ (128 ≤ byteAt s.data.toList k ∧ byteAt s.data.toList k ≤ 191)) := Iff.rfl
    have HX : Hid (¬ isCont s.data.toList k → dec s.data.toList = (65533, 1)) := fun h => Hst.out k hk1 hkn (by
     cases hq : contAt s.data.toList k with
     | false => rfl
     | true => exact absurd ((contAt_iff (by rw [dlen]; exact hks)).1 hq) h)
    generalize byteAt s.data.toList k = b at *
    have hidx2 : s[k].toNat = b := hbk.symm
    clear hbk
    generalize accB (a - 240) s.data.toList k = c at *
    have hkz : (0 : Int) ≤ (k : Int) := by omega
    by_cases hb1 : b < 128
    ·have HD := HX.out (fun h => by have := HK.out.1 h; omega)
     have HD2 := Lib.hid HD
     clear HD
     go_wp2_with fail
     rw [HD2.out]
     go_ret2
     exact ⟨rfl, rfl⟩
    ·by_cases hb2 : 191 < b
     ·have HD := HX.out (fun h => by have := HK.out.1 h; omega)
      have HD2 := Lib.hid HD
      clear HD
      have d1 : decide ((b : Int) < 128) = false := by simp; omega
      go_wp2_with fail
      rw [HD2.out]
      go_ret2
      exact ⟨rfl, rfl⟩
     ·have d1 : decide ((b : Int) < 128) = false := by simp; omega
      have d2 : decide ((191 : Int) < (b : Int)) = false := by simp; omega
      have hcont := HK.out.2 ⟨by omega, by omega⟩
      go_wp2_with fail
      go_round
      case rel => exact ⟨k + 1, by omega, by omega, by go_num, by rw [Hs.out]; rw [show ((c * 64 + (b - 128) : Nat) : Int) = (c : Int) * 64 + b - 128 from by omega], fun m h3 h4 => (Nat.lt_or_ge m k).elim (fun h5 => HC.out m h3 h5) (fun h5 => by have h6 : m = k := (by omega); rw [h6]; exact hcont)⟩
      case measure => simp [intOf]; omega
   ·obtain rfl : k = 4 := by omega
    have HD := Hfu.out (by rw [dlen]; omega) (fun k h1 h2 => HC.out k h1 h2)
    have HD2 := Lib.hid HD
    clear HD Hst Hfu HC
    generalize accB (a - 240) s.data.toList 4 = c at *
    have hw : c < 65536 ∨ (¬ c < 65536 ∧ 1114111 < c) ∨ (¬ c < 65536 ∧ ¬ 1114111 < c ∧ 55296 ≤ c ∧ c ≤ 57343) ∨ (¬ c < 65536 ∧ ¬ 1114111 < c ∧ 55296 ≤ c ∧ ¬ c ≤ 57343) ∨ (¬ c < 65536 ∧ ¬ 1114111 < c ∧ ¬ 55296 ≤ c) := by omega
    rcases hw with q1 | ⟨q1, q2⟩ | ⟨q1, q2, q3, q4⟩ | ⟨q1, q2, q3, q4⟩ | ⟨q1, q2, q3⟩
    ·have HD3 : Hid (dec s.data.toList = (65533, 1)) := by show _ = _; rw [HD2.out, if_pos (by simp [wrongC, q1])]
     have d1 : decide ((c : Int) < 65536) = true := by simp; omega
     clear HD2 q1
     go_wp2_with fail
     rw [HD3.out]
     go_ret2
     exact ⟨rfl, rfl⟩
    ·have HD3 : Hid (dec s.data.toList = (65533, 1)) := by show _ = _; rw [HD2.out, if_pos (by simp [wrongC, q2])]
     have d1 : decide ((c : Int) < 65536) = false := by simp; omega
     have d2 : decide ((1114111 : Int) < (c : Int)) = true := by simp; omega
     clear HD2 q1 q2
     go_wp2_with fail
     rw [HD3.out]
     go_ret2
     exact ⟨rfl, rfl⟩
    ·have HD3 : Hid (dec s.data.toList = (65533, 1)) := by show _ = _; rw [HD2.out, if_pos (by simp [wrongC, q3, q4])]
     have d1 : decide ((c : Int) < 65536) = false := by simp; omega
     have d2 : decide ((1114111 : Int) < (c : Int)) = false := by simp; omega
     have d3 : decide ((55296 : Int) ≤ (c : Int)) = true := by simp; omega
     have d4 : decide ((c : Int) ≤ 57343) = true := by simp; omega
     clear HD2 q1 q2 q3 q4
     go_wp2_with fail
     rw [HD3.out]
     go_ret2
     exact ⟨rfl, rfl⟩
    ·have HD3 : Hid (dec s.data.toList = (c, 4)) := by show _ = _; rw [HD2.out, if_neg (by simp [wrongC]; omega)]
     have d1 : decide ((c : Int) < 65536) = false := by simp; omega
     have d2 : decide ((1114111 : Int) < (c : Int)) = false := by simp; omega
     have d3 : decide ((55296 : Int) ≤ (c : Int)) = true := by simp; omega
     have d4 : decide ((c : Int) ≤ 57343) = false := by simp; omega
     clear HD2 q1 q2 q3 q4
     go_wp2_with fail
     rw [HD3.out]
     go_ret2
     exact ⟨rfl, rfl⟩
    ·have HD3 : Hid (dec s.data.toList = (c, 4)) := by show _ = _; rw [HD2.out, if_neg (by simp [wrongC]; omega)]
     have d1 : decide ((c : Int) < 65536) = false := by simp; omega
     have d2 : decide ((1114111 : Int) < (c : Int)) = false := by simp; omega
     have d3 : decide ((55296 : Int) ≤ (c : Int)) = false := by simp; omega
     clear HD2 q1 q2 q3
     go_wp2_with fail
     rw [HD3.out]
     go_ret2
     exact ⟨rfl, rfl⟩
set_option maxRecDepth 100000 in
theorem rrune_walk (s : ByteArray) (w : World) (hs : 0 < s.size) :
  Calls Tryz.prog 116 #[.string s] w fun e w' => e = .returned (.tuple #[.int .i64 (dec s.data.toList).1, .int .i64 (dec s.data.toList).2]) ∧ w = w' := by
 have hlt := byte_lt s.data.toList 0
 by_cases h0 : byteAt s.data.toList 0 < 128
 ·have HD : Hid (dec s.data.toList = (byteAt s.data.toList 0, 1)) := by show dec _ = _; unfold dec; rw [if_pos h0]
  have hb0 := byte0 s hs
  generalize byteAt s.data.toList 0 = a at *
  have hidx : s[0].toNat = a := hb0.symm
  have hzz : ¬ s.size = 0 := by omega
  clear hb0
  rw [HD.out]
  go_enter Tryz.func116, Tryz.ntmps116
  go_wp2_with fail
  go_ret2
  exact ⟨rfl, rfl⟩
 by_cases h2 : 194 ≤ byteAt s.data.toList 0 ∧ byteAt s.data.toList 0 ≤ 223
 ·exact rrune2 s w hs h2.1 h2.2
 by_cases h3 : 224 ≤ byteAt s.data.toList 0 ∧ byteAt s.data.toList 0 ≤ 239
 ·exact rrune3 s w hs h3.1 h3.2
 by_cases h4 : 240 ≤ byteAt s.data.toList 0 ∧ byteAt s.data.toList 0 ≤ 244
 ·exact rrune4 s w hs h4.1 h4.2
 have HD : Hid (dec s.data.toList = (65533, 1)) := dec_other (by omega) h2 h3 h4 hlt
 have hw : byteAt s.data.toList 0 < 194 ∨ 244 < byteAt s.data.toList 0 := by omega
 have hb0 := byte0 s hs
 generalize byteAt s.data.toList 0 = a at *
 have hidx : s[0].toNat = a := hb0.symm
 have hzz : ¬ s.size = 0 := by omega
 clear hb0 h2 h3 h4
 rw [HD.out]
 rcases hw with q | q
 ·have d1 : decide ((194 : Int) ≤ (a : Int)) = false := by simp; omega
  have d2 : decide ((224 : Int) ≤ (a : Int)) = false := by simp; omega
  have d3 : decide ((240 : Int) ≤ (a : Int)) = false := by simp; omega
  go_enter Tryz.func116, Tryz.ntmps116
  go_wp2_with fail
  go_ret2
  exact ⟨rfl, rfl⟩
 ·have d1 : decide ((194 : Int) ≤ (a : Int)) = true := by simp; omega
  have d2 : decide ((224 : Int) ≤ (a : Int)) = true := by simp; omega
  have d3 : decide ((240 : Int) ≤ (a : Int)) = true := by simp; omega
  have d4 : decide ((a : Int) ≤ 223) = false := by simp; omega
  have d5 : decide ((a : Int) ≤ 239) = false := by simp; omega
  have d6 : decide ((a : Int) ≤ 244) = false := by simp; omega
  go_enter Tryz.func116, Tryz.ntmps116
  go_wp2_with fail
  go_ret2
  exact ⟨rfl, rfl⟩
end Go.Proofs.YtalklmeejdmifaaGreatDoor
