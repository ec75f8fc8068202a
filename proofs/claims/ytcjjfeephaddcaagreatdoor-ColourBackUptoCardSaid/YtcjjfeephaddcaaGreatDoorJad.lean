/-
  JOINED of the texts LI LG LH LA LC
-/
import Derived.Test.YtcjjfeephaddcaaGreatDoorJac
import Derived.WalkMore
import Derived.ScopeJumps
set_option linter.all false
namespace Go.Proofs.YtcjjfeephaddcaaGreatDoor
open Go.RowKit
def IdxP (r : Int) (l : List Bs) (x : Bs) : Prop := decide (0 ≤ r) = l.contains x
set_option maxHeartbeats 1000000 in
set_option maxRecDepth 100000 in
theorem index_walk (A : Option Addr) (c : Nat) (l : List Bs) (x : Bs) (w : World) (h1 : Rd w w.heap.size 1 A l.length (txtV l)) (hl : l.length ≤ 4194304) :
  Calls Tryz.prog 227 #[.slice A l.length c, .string ⟨x.toArray⟩] w fun e w' => ∃ r : Int, e = .returned (.int .i64 r) ∧ IdxP r l x ∧ w' = w := by
 go_enter Tryz.func227, Tryz.ntmps227
 go_wp2_with fail
 go_loop [8] (fun i => ∃ k : Nat, k ≤ l.length ∧ i = .int .i64 k ∧ Hid (x ∉ l.take k)) (fun i => l.length - (intOf i).toNat)
 case atStart => exact ⟨0, Nat.zero_le _, rfl, by show _ ∉ _; simp⟩
 case round =>
  obtain ⟨k, hk, rfl, H⟩ := hrel
  by_cases hlt : k < l.length
  ·obtain ⟨b, o, rfl, hbB, c0⟩ := Rd.txt h1 hlt
   have i1 : (0 : Int) ≤ (k : Int) := by omega
   have i2 : (k : Int) < (l.length : Int) := by omega
   have Hst : Hid (x ≠ l[k] → x ∉ l.take (k + 1)) := fun h => by
    rw [List.take_succ_eq_append_getElem hlt, List.mem_append, List.mem_singleton]
    rintro (h2 | h2)
    ·exact H.out h2
    ·exact h h2
   have Hin : Hid (x = l[k] → l.contains x = true) := fun h => by rw [h]; simp
   unfold strV at c0
   generalize l[k] = y at *
   by_cases hxy : x = y
   ·have hc := Lib.hid (Hin.out hxy)
    subst hxy
    go_wp2_with fail
    go_ret
    exact ⟨_, rfl, by unfold IdxP; rw [hc.out]; simp, rfl⟩
   ·have d1 : (x == y) = false := by simp [hxy]
    have Hn := Lib.hid (Hst.out hxy)
    clear hxy
    go_wp2_with fail
    go_round
    case rel => exact ⟨k + 1, by omega, by go_num, Hn.out⟩
    case measure => simp [intOf]; omega
  ·obtain rfl : k = l.length := by omega
   have hc : Hid (l.contains x = false) := by
    show _ = _
    have := H.out
    rw [List.take_length] at this
    simpa using this
   go_wp2_with fail
   go_ret
   exact ⟨_, rfl, by unfold IdxP; rw [hc.out]; rfl, rfl⟩
set_option maxRecDepth 100000 in
theorem contains_walk (A : Option Addr) (c : Nat) (l : List Bs) (x : Bs) (w : World) (h1 : Rd w w.heap.size 1 A l.length (txtV l)) (hl : l.length ≤ 4194304) :
  Calls Tryz.prog 197 #[.slice A l.length c, .string ⟨x.toArray⟩] w fun e w' => e = .returned (.bool (l.contains x)) ∧ w' = w := by
 have hI := index_walk A c l x w h1 hl
 go_enter Tryz.func197, Tryz.ntmps197
 go_wp2_with fail
 refine hI.mono ?_
 clear hI
 rintro e w' ⟨r, rfl, Hr, rfl⟩
 go_wp2_with fail
 go_ret
 exact ⟨by rw [← show decide (0 ≤ r) = l.contains x from Hr]; rfl, rfl⟩
def WordsIs (w : World) : Prop := Rd w w.heap.size 1 (some ⟨3, 0, none⟩) Lx.words.length (txtV Lx.words)
theorem WordsIs.below {w w' : World} (h : WordsIs w) (hb : Below w.heap.size w w') : WordsIs w' := (Rd.below h hb).more hb.size
set_option maxRecDepth 100000 in
theorem word_walk (x : Bs) (w : World) (hW : WordsIs w) :
  Calls Tryz.prog 193 #[.string ⟨x.toArray⟩] w fun e w' => e = .returned (.bool (Lx.wordM x)) ∧ w' = w := by
 have hC : Calls Tryz.prog 197 #[.slice (some ⟨3, 0, none⟩) 12 12, .string ⟨x.toArray⟩] w fun e w' => e = .returned (.bool (Lx.wordM x)) ∧ w' = w := contains_walk (some ⟨3, 0, none⟩) 12 Lx.words x w hW (by decide)
 go_enter Tryz.func193, Tryz.ntmps193
 go_wp2_with fail
 refine hC.mono ?_
 rintro e w' ⟨rfl, rfl⟩
 go_wp2_with fail
 go_ret
 exact ⟨rfl, rfl⟩
set_option maxHeartbeats 1000000 in
set_option maxRecDepth 100000 in
theorem sign_walk (l : Bs) (w : World) (hne : l ≠ []) :
  Calls Tryz.prog 195 #[.string ⟨l.toArray⟩] w fun e w' => e = .returned (.int .i64 (Lx.signM l)) ∧ Below w.heap.size w w' := by
 have h0 : 0 < l.length := List.length_pos_iff.2 hne
 have p1 : ∀ w, Calls Tryz.prog 181 #[.string ⟨l.toArray⟩, .string ⟨#[61, 62]⟩] w fun e w' => e = .returned (.bool ([61, 62].isPrefixOf l)) ∧ w' = w := fun w => pre_walk l [61, 62] w
 have p2 : ∀ w, Calls Tryz.prog 181 #[.string ⟨l.toArray⟩, .string ⟨#[61, 61]⟩] w fun e w' => e = .returned (.bool ([61, 61].isPrefixOf l)) ∧ w' = w := fun w => pre_walk l [61, 61] w
 have p3 : ∀ w, Calls Tryz.prog 181 #[.string ⟨l.toArray⟩, .string ⟨#[43, 43]⟩] w fun e w' => e = .returned (.bool ([43, 43].isPrefixOf l)) ∧ w' = w := fun w => pre_walk l [43, 43] w
 have hI : ∀ w, Calls Tryz.prog 226 #[.string ⟨#[40, 41, 91, 93, 44, 59, 61, 60, 43, 45, 42, 46, 63]⟩, .int .u8 (((⟨l.toArray⟩ : ByteArray)[0]'(by rw [mk_size]; exact h0)).toNat : Int)] w fun e w' => ∃ r : Int, e = .returned (.int .i64 r) ∧ decide (0 ≤ r) = Lx.signs.contains l[0] ∧ w' = w := fun w =>
  (Tryz.strings_IndexByte ⟨#[40, 41, 91, 93, 44, 59, 61, 60, 43, 45, 42, 46, 63]⟩ (((⟨l.toArray⟩ : ByteArray)[0]'(by rw [mk_size]; exact h0)).toNat : Int) w).mono fun e w' h => ⟨_, h.1, by
   have h2 := Lx.ix_sign l[0]
   have e : ((((⟨l.toArray⟩ : ByteArray)[0]'(by rw [mk_size]; exact h0)).toNat : Int).toNat.toUInt8) = l[0] := by
    show (l[0].toNat).toUInt8 = l[0]
    exact UInt8.toNat_inj.1 (by simp [Nat.toUInt8])
   rw [e]
   exact h2, h.2⟩
 have hS : Lx.signM l = if [61, 62].isPrefixOf l || [61, 61].isPrefixOf l || [43, 43].isPrefixOf l then 2 else if Lx.signs.contains l[0] then 1 else 0 := by
  unfold Lx.signM Lx.twoM
  cases l with
  | nil => exact absurd rfl hne
  | cons a t => rfl
 rw [hS]
 clear hS
 generalize [(61 : UInt8), 62].isPrefixOf l = q1 at *
 generalize [(61 : UInt8), 61].isPrefixOf l = q2 at *
 generalize [(43 : UInt8), 43].isPrefixOf l = q3 at *
 generalize Lx.signs.contains l[0] = q4 at *
 have hb : Below w.heap.size w (w.alloc (.cells #[.string ⟨#[61, 62]⟩, .string ⟨#[61, 61]⟩, .string ⟨#[43, 43]⟩] 9)) := (Below.refl _ _).alloc (Nat.le_refl _) _
 clear hne
 go_enter Tryz.func195, Tryz.ntmps195
 go_wp2_with fail
 go_loop [7] (fun i => ∃ k : Nat, i = .int .i64 k ∧ k ≤ 3 ∧ Hid ((0 < k → q1 = false) ∧ (1 < k → q2 = false) ∧ (2 < k → q3 = false))) (fun i => 3 - (intOf i).toNat)
 case atStart => exact ⟨0, rfl, by omega, (by refine ⟨fun h => ?_, fun h => ?_, fun h => ?_⟩ <;> first | rfl | trivial | (exfalso; omega))⟩
 case round =>
  obtain ⟨k, rfl, hk, H⟩ := hrel
  have hc : k = 0 ∨ k = 1 ∨ k = 2 ∨ k = 3 := by omega
  rcases hc with rfl | rfl | rfl | rfl
  ·cases q1 with
   | true =>
    go_wp2_with fail
    refine (p1 _).mono ?_
    rintro e w' ⟨rfl, rfl⟩
    go_wp2_with fail
    go_ret
    exact ⟨rfl, hb⟩
   | false =>
    go_wp2_with fail
    refine (p1 _).mono ?_
    rintro e w' ⟨rfl, rfl⟩
    go_wp2_with fail
    go_round
    case rel => exact ⟨1, by go_num, by omega, (by refine ⟨fun h => ?_, fun h => ?_, fun h => ?_⟩ <;> first | rfl | trivial | (exfalso; omega))⟩
    case measure => simp [intOf]
  ·obtain rfl := H.out.1 (by omega)
   cases q2 with
   | true =>
    go_wp2_with fail
    refine (p2 _).mono ?_
    rintro e w' ⟨rfl, rfl⟩
    go_wp2_with fail
    go_ret
    exact ⟨rfl, hb⟩
   | false =>
    go_wp2_with fail
    refine (p2 _).mono ?_
    rintro e w' ⟨rfl, rfl⟩
    go_wp2_with fail
    go_round
    case rel => exact ⟨2, by go_num, by omega, (by refine ⟨fun h => ?_, fun h => ?_, fun h => ?_⟩ <;> first | rfl | trivial | (exfalso; omega))⟩
    case measure => simp [intOf]
  ·obtain rfl := H.out.1 (by omega)
   obtain rfl := H.out.2.1 (by omega)
   cases q3 with
   | true =>
    go_wp2_with fail
    refine (p3 _).mono ?_
    rintro e w' ⟨rfl, rfl⟩
    go_wp2_with fail
    go_ret
    exact ⟨rfl, hb⟩
   | false =>
    go_wp2_with fail
    refine (p3 _).mono ?_
    rintro e w' ⟨rfl, rfl⟩
    go_wp2_with fail
    go_round
    case rel => exact ⟨3, by go_num, by omega, (by refine ⟨fun h => ?_, fun h => ?_, fun h => ?_⟩ <;> first | rfl | trivial | (exfalso; omega))⟩
    case measure => simp [intOf]
  ·obtain rfl := H.out.1 (by omega)
   obtain rfl := H.out.2.1 (by omega)
   obtain rfl := H.out.2.2 (by omega)
   go_wp2_with fail
   refine (hI _).mono ?_
   rintro e w' ⟨r, rfl, hr, rfl⟩
   cases q4 with
   | true =>
    have hr2 : 0 ≤ r := of_decide_eq_true hr
    clear hr
    go_wp2_with fail
    go_ret
    exact ⟨rfl, hb⟩
   | false =>
    have hr2 : ¬ 0 ≤ r := of_decide_eq_false hr
    clear hr
    go_wp2_with fail
    go_ret
    exact ⟨rfl, hb⟩
def escV : Option (Nat × Nat) → Value
 | some (c, n) => .tuple #[.string (Utf8.encode c), .int .i64 n]
 | none => .tuple #[.string ⟨#[]⟩, .int .i64 0]
theorem b0_eq (L : Bs) (h : 0 < L.length) (k : UInt8) : ((((⟨L.toArray⟩ : ByteArray)[0]'(by rw [mk_size]; exact h)).toNat : Int) == (k.toNat : Int)) = decide (L[0] = k) := by
 rw [show ((⟨L.toArray⟩ : ByteArray)[0]'(by rw [mk_size]; exact h)).toNat = L[0].toNat from rfl, Bool.eq_iff_iff]
 simp only [beq_iff_eq, decide_eq_true_eq]
 constructor
 ·intro e; exact UInt8.toNat_inj.1 (by omega)
 ·intro e; rw [e]
theorem bk_eq (L : Bs) (i : Nat) (h : i < L.length) (k : UInt8) : ((((⟨L.toArray⟩ : ByteArray)[i]'(by rw [mk_size]; exact h)).toNat : Int) == (k.toNat : Int)) = decide (L[i] = k) := by
 rw [show ((⟨L.toArray⟩ : ByteArray)[i]'(by rw [mk_size]; exact h)).toNat = L[i].toNat from rfl, Bool.eq_iff_iff]
 simp only [beq_iff_eq, decide_eq_true_eq]
 constructor
 ·intro e; exact UInt8.toNat_inj.1 (by omega)
 ·intro e; rw [e]
theorem enc34 : Utf8.encode 34 = ⟨#[34]⟩ := by decide
theorem enc92 : Utf8.encode 92 = ⟨#[92]⟩ := by decide
theorem enc10 : Utf8.encode 10 = ⟨#[10]⟩ := by decide
theorem enc9 : Utf8.encode 9 = ⟨#[9]⟩ := by decide
set_option maxHeartbeats 1000000 in
set_option maxRecDepth 100000 in
theorem escape_walk (l : Bs) (m : Int) (w : World) (hM : MaxL w m) (hl : l.length ≤ 100000000) :
  Calls Tryz.prog 225 #[.string ⟨l.toArray⟩] w fun e w' => e = .returned (escV (Lx.escM l)) ∧ Below w.heap.size w w' := by
 cases l with
 | nil =>
  go_enter Tryz.func225, Tryz.ntmps225
  go_wp2_with fail
  go_ret2
  exact ⟨rfl, Below.refl _ _⟩
 | cons a r =>
  have hE : Lx.escM (a :: r) = if a = 110 then some (10, 1) else if a = 116 then some (9, 1) else if a = 34 ∨ a = 92 then some (a.toNat, 1) else if a = 117 then (Lx.codeM r).map fun x => (x.1, x.2 + 1) else none := rfl
  rw [hE]
  clear hE
  have hlen : (a :: r).length = r.length + 1 := rfl
  have hcode := code_walk r m w hM (by omega)
  have hcl := fun c n (h : Lx.codeM r = some (c, n)) => (show 3 ≤ n ∧ (n : Int) ≤ 100000000 from ⟨(Lx.code_le r c n h).1, by have := (Lx.code_le r c n h).2.1; omega⟩)
  have hex := ext_drop (a :: r) 1
  rw [show List.drop 1 (a :: r) = r from rfl] at hex
  rw [← hex] at hcode
  have hx1 : (⟨(a :: r).toArray⟩ : ByteArray).extract 0 1 = ⟨#[a]⟩ := by
   have := ext_str (a :: r) 0 1
   unfold strV at this
   injection this
  have h0 : 0 < (a :: r).length := by omega
  have h1 : 1 ≤ (a :: r).length := by omega
  have e110 := b0_eq (a :: r) h0 110
  have e116 := b0_eq (a :: r) h0 116
  have e34 := b0_eq (a :: r) h0 34
  have e92 := b0_eq (a :: r) h0 92
  have e117 := b0_eq (a :: r) h0 117
  rw [show (a :: r)[0] = a from rfl] at e110 e116 e34 e92 e117
  have hne : ((a :: r : Bs) == []) = false := rfl
  have d110 : (((110 : UInt8).toNat : Nat) : Int) = 110 := rfl
  have d116 : (((116 : UInt8).toNat : Nat) : Int) = 116 := rfl
  have d34 : (((34 : UInt8).toNat : Nat) : Int) = 34 := rfl
  have d92 : (((92 : UInt8).toNat : Nat) : Int) = 92 := rfl
  have d117 : (((117 : UInt8).toNat : Nat) : Int) = 117 := rfl
  rw [d110] at e110
  rw [d116] at e116
  rw [d34] at e34
  rw [d92] at e92
  rw [d117] at e117
  have Hx1 := Lib.hid hx1
  clear d110 d116 d34 d92 d117 hex hx1 hlen
  generalize hC : Lx.codeM r = C at *
  clear hC
  generalize (a :: r : Bs) = L at *
  by_cases g1 : a = 110
  ·rw [if_pos g1]
   rw [decide_eq_true g1] at e110
   clear e116 e34 e92 e117 g1 hcode hcl
   go_enter Tryz.func225, Tryz.ntmps225
   go_wp2_with fail
   go_ret2
   exact ⟨by show _ = Ending.returned (.tuple #[.string (Utf8.encode 10), .int .i64 1]); rw [enc10]; rfl, Below.refl _ _⟩
  ·rw [if_neg g1]
   rw [decide_eq_false g1] at e110
   by_cases g2 : a = 116
   ·rw [if_pos g2]
    rw [decide_eq_true g2] at e116
    clear e34 e92 e117 g1 g2 hcode hcl
    go_enter Tryz.func225, Tryz.ntmps225
    go_wp2_with fail
    go_ret2
    exact ⟨by show _ = Ending.returned (.tuple #[.string (Utf8.encode 9), .int .i64 1]); rw [enc9]; rfl, Below.refl _ _⟩
   ·rw [if_neg g2]
    rw [decide_eq_false g2] at e116
    by_cases g3 : a = 34
    ·rw [if_pos (.inl g3)]
     rw [decide_eq_true g3] at e34
     subst g3
     clear e92 e117 g1 g2 hcode hcl
     go_enter Tryz.func225, Tryz.ntmps225
     go_wp2_with fail
     go_ret2
     exact ⟨by show _ = Ending.returned (.tuple #[.string (Utf8.encode 34), .int .i64 1]); rw [enc34, ← Hx1.out]; rfl, Below.refl _ _⟩
    ·rw [decide_eq_false g3] at e34
     by_cases g4 : a = 92
     ·rw [if_pos (.inr g4)]
      rw [decide_eq_true g4] at e92
      subst g4
      clear e117 g1 g2 g3 hcode hcl
      go_enter Tryz.func225, Tryz.ntmps225
      go_wp2_with fail
      go_ret2
      exact ⟨by show _ = Ending.returned (.tuple #[.string (Utf8.encode 92), .int .i64 1]); rw [enc92, ← Hx1.out]; rfl, Below.refl _ _⟩
     ·rw [decide_eq_false g4] at e92
      rw [if_neg (by rintro (h | h); exact g3 h; exact g4 h)]
      by_cases g5 : a = 117
      ·rw [if_pos g5]
       rw [decide_eq_true g5] at e117
       clear g1 g2 g3 g4 g5 Hx1
       cases C with
       | none =>
        clear hcl
        have hcode : Calls Tryz.prog 243 _ w fun e w' => e = .returned (.tuple #[.int .i32 0, .int .i64 0]) ∧ Below w.heap.size w w' := hcode
        go_enter Tryz.func225, Tryz.ntmps225
        go_wp2_with fail
        refine hcode.mono ?_
        rintro e w2 ⟨rfl, hb⟩
        go_wp2_with fail
        go_ret2
        exact ⟨rfl, hb⟩
       | some x =>
        obtain ⟨c, n⟩ := x
        have hn := hcl c n rfl
        clear hcl
        have hn0 : (0 : Int) < (n : Int) := by omega
        have hn1 := hn.2
        have hcode : Calls Tryz.prog 243 _ w fun e w' => e = .returned (.tuple #[.int .i32 c, .int .i64 n]) ∧ Below w.heap.size w w' := hcode
        go_enter Tryz.func225, Tryz.ntmps225
        go_wp2_with fail
        refine hcode.mono ?_
        rintro e w2 ⟨rfl, hb⟩
        go_wp2_with fail
        go_ret2
        exact ⟨by show _ = Ending.returned (.tuple #[.string (Utf8.encode c), .int .i64 ((n + 1 : Nat) : Int)]); rw [show ((n + 1 : Nat) : Int) = (n : Int) + 1 by omega]; rfl, hb⟩
      ·rw [if_neg g5]
       rw [decide_eq_false g5] at e117
       clear g1 g2 g3 g4 g5 Hx1 hcode hcl
       go_enter Tryz.func225, Tryz.ntmps225
       go_wp2_with fail
       go_ret2
       exact ⟨rfl, Below.refl _ _⟩
theorem dec0_walk (w : World) (hT : T8 w) : Calls Tryz.prog 155 #[.string ⟨([] : Bs).toArray⟩] w fun e w' => e = .returned (.tuple #[.int .i32 65533, .int .i64 0]) ∧ Below w.heap.size w w' :=
 Tryz.utf8_DecodeRuneInString ⟨([] : Bs).toArray⟩ w hT
theorem take_line (t : Bs) (_h : (34 : UInt8) ≠ 10) : ((34 :: t : Bs).takeWhile (· != 10)).length = (t.takeWhile (· != 10)).length + 1 := by
 rw [List.takeWhile_cons, if_pos (by simp)]; rfl
set_option maxHeartbeats 2000000 in
set_option maxRecDepth 100000 in
theorem text_walk (s : Bs) (t : Bs) (hst : s = 34 :: t) (m : Int) (w : World) (hM : MaxL w m) (hT : T8 w) (hl : s.length ≤ 100000000) :
  Calls Tryz.prog 194 #[.string ⟨s.toArray⟩] w fun e w' => e = .returned (.tuple #[.int .i64 (((Lx.textM t).1 + 1 : Nat) : Int), .bool ((Lx.textM t).2.1 && (Lx.textM t).2.2)]) ∧ Below w.heap.size w w' := by
 have hline := Lx.textR_line _ t true rfl
 have hln : ((s.takeWhile (· != 10)).length : Int) = ((t.takeWhile (· != 10)).length + 1 : Nat) := by rw [hst, take_line t (by decide)]
 have hdrop : s.drop 1 = t := by rw [hst]; rfl
 have hs1 : 1 ≤ s.length := by rw [hst]; simp
 generalize hX : Lx.textM t = X
 have HX : Hid (X = Lx.textR true (s.drop 1)) := by show _ = _; rw [← hX, hdrop]; rfl
 have Hline : Hid (X.2.1 = false → ((s.takeWhile (· != 10)).length : Int) = ((X.1 + 1 : Nat) : Int)) := fun h => by
  rw [hln]
  have := hline.2.1
  rw [show Lx.textR true t = X from hX] at this
  rw [this h]
 clear hline hln hdrop hst hX t
 go_enter Tryz.func194, Tryz.ntmps194
 go_wp2_with fail
 go_loopw [4, 5] (fun rt i wr => ∃ (b : Bool) (k : Nat), rt = .bool b ∧ i = .int .i64 k ∧ 1 ≤ k ∧ k ≤ s.length ∧ Below w.heap.size w wr ∧ Hid (X = ((Lx.textR b (s.drop k)).1 + (k - 1), (Lx.textR b (s.drop k)).2))) (fun _ i _ => s.length - (intOf i).toNat)
 case atStart => exact ⟨true, 1, rfl, rfl, by omega, hs1, Below.refl _ _, by show _ = _; rw [HX.out]; simp⟩
 case round =>
  obtain ⟨b, k, rfl, rfl, hk1, hk2, hb, H⟩ := hrel
  have hbs := hb.size
  have i0 : (0 : Int) ≤ (k : Int) := by omega
  by_cases hlt : k < s.length
  ·have i1 : (k : Int) < (s.length : Int) := by omega
   have hdk : s.drop k = s[k] :: s.drop (k + 1) := List.drop_eq_getElem_cons hlt
   have e10 := bk_eq s k hlt 10
   have e34 := bk_eq s k hlt 34
   have e92 := bk_eq s k hlt 92
   rw [show (((10 : UInt8).toNat : Nat) : Int) = 10 from rfl] at e10
   rw [show (((34 : UInt8).toNat : Nat) : Int) = 34 from rfl] at e34
   rw [show (((92 : UInt8).toNat : Nat) : Int) = 92 from rfl] at e92
   have Hd := Lib.hid hdk
   clear hdk
   by_cases g1 : s[k] = 10
   ·rw [decide_eq_true g1] at e10
    have n10 : ((((⟨s.toArray⟩ : ByteArray)[k]'(by rw [mk_size]; exact hlt)).toNat : Int) != 10) = false := by rw [bne, e10]; rfl
    have hE : Hid (X.2.1 = false ∧ X.2.2 = b) := by
     have h2 := H.out
     rw [Hd.out, g1, Lx.textR_end] at h2
     rw [h2]; exact ⟨rfl, rfl⟩
    have hcut := cut_walk1 10 s m wr (hM.below hb hM.lt) hl
    have hv := Hline.out hE.out.1
    clear e34 e92 e10 g1 H Hline HX
    go_wp2_with fail
    refine hcut.mono ?_
    clear hcut
    rintro e w2 ⟨rfl, n, rfl⟩
    go_wp2_with fail
    go_ret2
    refine ⟨?_, below_drewN hb n⟩
    rw [hE.out.1]
    show _ = Ending.returned (.tuple #[.int .i64 ((X.1 + 1 : Nat) : Int), .bool false])
    rw [show ((X.1 + 1 : Nat) : Int) = (X.1 : Int) + 1 by omega]; rfl
   ·rw [decide_eq_false g1] at e10
    have n10 : ((((⟨s.toArray⟩ : ByteArray)[k]'(by rw [mk_size]; exact hlt)).toNat : Int) != 10) = true := by rw [bne, e10]; rfl
    by_cases g2 : s[k] = 34
    ·rw [decide_eq_true g2] at e34
     have hE : Hid (X = (1 + (k - 1), true, b)) := by
      show _ = _
      have h2 := H.out
      rw [Hd.out, g2, Lx.textR_shut] at h2
      exact h2
     clear e92 e10 g1 g2 H Hline HX
     go_wp2_with fail
     go_ret2
     rw [hE.out]
     refine ⟨?_, hb⟩
     show _ = Ending.returned (.tuple #[.int .i64 ((1 + (k - 1) + 1 : Nat) : Int), .bool (true && b)])
     rw [show ((1 + (k - 1) + 1 : Nat) : Int) = (k : Int) + 1 by omega, Bool.true_and]; rfl
    ·rw [decide_eq_false g2] at e34
     by_cases g3 : s[k] = 92
     ·rw [decide_eq_true g3] at e92
      have j1 : (k : Int) + 1 ≤ (s.length : Int) := by omega
      have hes := escape_walk (s.drop (k + 1)) m wr (hM.below hb hM.lt) (by rw [List.length_drop]; omega)
      rw [← ext_drop] at hes
      cases hesc : Lx.escM (s.drop (k + 1)) with
      | some x =>
       obtain ⟨c, n⟩ := x
       obtain ⟨q1, q2, _⟩ := Lx.esc_le _ _ _ hesc
       rw [List.length_drop] at q2
       have hE : Hid (X = ((Lx.textR b (s.drop (k + 1 + n))).1 + (k + 1 + n - 1), (Lx.textR b (s.drop (k + 1 + n))).2)) := by
        show _ = _
        have h2 := H.out
        rw [Hd.out, g3, Lx.textR_esc b _ c n hesc, List.drop_drop] at h2
        rw [h2]
        refine Prod.ext ?_ rfl
        simp only
        omega
       rw [hesc] at hes
       have hes : Calls Tryz.prog 225 _ wr fun e w' => e = .returned (.tuple #[.string (Utf8.encode c), .int .i64 n]) ∧ Below wr.heap.size wr w' := hes
       have n0 : ((n : Int) == 0) = false := by simp; omega
       clear e10 g1 g2 g3 H Hline HX hesc Hd
       go_wp2_with fail
       refine hes.mono ?_
       clear hes
       rintro e w2 ⟨rfl, hb2⟩
       go_wp2_with fail
       go_roundw
       case rel => exact ⟨b, k + 1 + n, rfl, by congr 1; omega, by omega, by omega, hb.trans (hb2.mono hbs), hE⟩
       case measure => simp [intOf]; omega
      | none =>
       rw [hesc] at hes
       have hes : Calls Tryz.prog 225 _ wr fun e w' => e = .returned (.tuple #[.string ⟨#[]⟩, .int .i64 0]) ∧ Below wr.heap.size wr w' := hes
       have h2 := H.out
       rw [Hd.out, g3, Lx.textR_bad b _ hesc _ rfl] at h2
       by_cases hend : k + 1 < s.length
       ·have hne : s.drop (k + 1) ≠ [] := by intro e; have := congrArg List.length e; simp at this; omega
        have hd := fun w2 (hb2 : Below w.heap.size w w2) => dec_walk (s.drop (k + 1)) hne w2 (hT.below hb2)
        have hsz := (dec_size (s.drop (k + 1))).1
        have hle := dec_le (s.drop (k + 1)) hne
        rw [List.length_drop] at hle
        rw [← ext_drop] at hd
        have hby : byteAt (s.drop (k + 1)) 0 = s[k + 1].toNat := by
         unfold byteAt
         rw [List.getElem?_drop]
         show (s[k + 1]?.getD 0).toNat = _
         rw [List.getElem?_eq_getElem hend]; rfl
        have x10 := bk_eq s (k + 1) hend 10
        rw [show (((10 : UInt8).toNat : Nat) : Int) = 10 from rfl] at x10
        have j2 : (k : Int) + 1 < (s.length : Int) := by omega
        by_cases q10 : s[k + 1] = 10
        ·rw [decide_eq_true q10] at x10
         rw [if_pos (.inr (by rw [hby, q10]; rfl)), List.drop_zero] at h2
         have hE : Hid (X = ((Lx.textR false (s.drop (k + 1))).1 + (k + 1 - 1), (Lx.textR false (s.drop (k + 1))).2)) := by
          show _ = _
          rw [h2]
          refine Prod.ext ?_ rfl
          simp only
          omega
         generalize dec (s.drop (k + 1)) = D at *
         obtain ⟨c, z⟩ := D
         simp only at hd hsz
         have Hdd := Lib.hid hd
         clear e10 g1 g2 g3 H Hline HX hesc Hd h2 hle hby q10 hne hd
         go_wp2_with fail
         refine hes.mono ?_
         clear hes
         rintro e w2 ⟨rfl, hb2⟩
         go_wp2_with fail
         refine (Hdd.out w2 (hb.trans (hb2.mono hbs))).mono ?_
         clear Hdd
         rintro e w3 ⟨rfl, hb3⟩
         go_wp2_with fail
         go_roundw
         case rel => exact ⟨false, k + 1, rfl, by go_num, by omega, by omega, (hb.trans (hb2.mono hbs)).trans (hb3.mono (by have := hb2.size; omega)), hE⟩
         case measure => simp [intOf]; omega
        ·rw [decide_eq_false q10] at x10
         rw [if_neg (by
          rintro (h | h)
          ·exact hne (List.isEmpty_iff.1 h)
          ·rw [hby] at h; exact q10 (UInt8.toNat_inj.1 (show s[k + 1].toNat = 10 from h))), List.drop_drop] at h2
         have hE : Hid (X = ((Lx.textR false (s.drop (k + 1 + (dec (s.drop (k + 1))).2))).1 + (k + 1 + (dec (s.drop (k + 1))).2 - 1), (Lx.textR false (s.drop (k + 1 + (dec (s.drop (k + 1))).2))).2)) := by
          show _ = _
          rw [h2]
          refine Prod.ext ?_ rfl
          simp only
          omega
         generalize dec (s.drop (k + 1)) = D at *
         obtain ⟨c, z⟩ := D
         simp only at hd hsz hle hE
         have Hdd := Lib.hid hd
         clear e10 g1 g2 g3 H Hline HX hesc Hd h2 hby q10 hne hd
         go_wp2_with fail
         refine hes.mono ?_
         clear hes
         rintro e w2 ⟨rfl, hb2⟩
         go_wp2_with fail
         refine (Hdd.out w2 (hb.trans (hb2.mono hbs))).mono ?_
         clear Hdd
         rintro e w3 ⟨rfl, hb3⟩
         go_wp2_with fail
         go_roundw
         case rel => exact ⟨false, k + 1 + z, rfl, by congr 1; omega, by omega, by omega, (hb.trans (hb2.mono hbs)).trans (hb3.mono (by have := hb2.size; omega)), hE⟩
         case measure => simp [intOf]; omega
       ·have he0 : s.drop (k + 1) = [] := List.drop_of_length_le (by omega)
        have hd := fun w2 (hb2 : Below w.heap.size w w2) => dec0_walk w2 (hT.below hb2)
        rw [if_pos (.inl (by rw [he0]; rfl)), List.drop_zero] at h2
        rw [← he0, ← ext_drop] at hd
        have hE : Hid (X = ((Lx.textR false (s.drop (k + 1))).1 + (k + 1 - 1), (Lx.textR false (s.drop (k + 1))).2)) := by
         show _ = _
         rw [h2]
         refine Prod.ext ?_ rfl
         simp only
         omega
        have Hdd := Lib.hid hd
        clear e10 g1 g2 g3 H Hline HX hesc Hd h2 he0 hd
        go_wp2_with fail
        refine hes.mono ?_
        clear hes
        rintro e w2 ⟨rfl, hb2⟩
        go_wp2_with fail
        refine (Hdd.out w2 (hb.trans (hb2.mono hbs))).mono ?_
        clear Hdd
        rintro e w3 ⟨rfl, hb3⟩
        go_wp2_with fail
        go_roundw
        case rel => exact ⟨false, k + 1, rfl, by go_num, by omega, by omega, (hb.trans (hb2.mono hbs)).trans (hb3.mono (by have := hb2.size; omega)), hE⟩
        case measure => simp [intOf]; omega
     ·rw [decide_eq_false g3] at e92
      have hE : Hid (X = ((Lx.textR b (s.drop (k + 1))).1 + (k + 1 - 1), (Lx.textR b (s.drop (k + 1))).2)) := by
       show _ = _
       have h2 := H.out
       rw [Hd.out, Lx.textR_plain b _ _ g1 g2 g3] at h2
       rw [h2]
       refine Prod.ext ?_ rfl
       simp only
       omega
      clear e10 g1 g2 g3 H Hline HX Hd
      go_wp2_with fail
      go_roundw
      case rel => exact ⟨b, k + 1, rfl, by go_num, by omega, by omega, hb, hE⟩
      case measure => simp [intOf]; omega
  ·obtain rfl : k = s.length := by omega
   have hE : Hid (X.2.1 = false) := by
    have h2 := H.out
    rw [List.drop_length, Lx.textR_nil] at h2
    rw [h2]; rfl
   have hcut := cut_walk1 10 s m wr (hM.below hb hM.lt) hl
   have hv := Hline.out hE.out
   clear H Hline HX
   go_wp2_with fail
   refine hcut.mono ?_
   clear hcut
   rintro e w2 ⟨rfl, n, rfl⟩
   go_wp2_with fail
   go_ret2
   refine ⟨?_, below_drewN hb n⟩
   rw [hE.out]
   show _ = Ending.returned (.tuple #[.int .i64 ((X.1 + 1 : Nat) : Int), .bool false])
   rw [show ((X.1 + 1 : Nat) : Int) = (X.1 : Int) + 1 by omega]; rfl
set_option maxRecDepth 100000 in
theorem digit_walk (c : Nat) (w : World) : Calls Tryz.prog 192 #[.int .i32 c] w fun e w' => e = .returned (.bool (Lx.digitB c)) ∧ w = w' := by
 rcases Nat.lt_or_ge c 48 with h1 | h1
 ·have hr : Lx.digitB c = false := by simp [Lx.digitB]; omega
  rw [hr]
  have d1 : ¬ (48 : Int) ≤ (c : Int) := by omega
  go_enter Tryz.func192, Tryz.ntmps192
  go_wp2
  go_ret
  exact ⟨rfl, rfl⟩
 ·have d1 : (48 : Int) ≤ (c : Int) := by omega
  rcases Nat.lt_or_ge 57 c with h2 | h2
  ·have hr : Lx.digitB c = false := by simp [Lx.digitB]; omega
   rw [hr]
   have d2 : ¬ (c : Int) ≤ 57 := by omega
   go_enter Tryz.func192, Tryz.ntmps192
   go_wp2
   go_ret
   exact ⟨rfl, rfl⟩
  ·have hr : Lx.digitB c = true := by simp [Lx.digitB]; omega
   rw [hr]
   have d2 : (c : Int) ≤ 57 := by omega
   go_enter Tryz.func192, Tryz.ntmps192
   go_wp2
   go_ret
   exact ⟨rfl, rfl⟩
set_option maxRecDepth 100000 in
theorem space_walk (c : Nat) (w : World) : Calls Tryz.prog 186 #[.int .i32 c] w fun e w' => e = .returned (.bool (Lx.spaceB c)) ∧ w = w' := by
 by_cases h1 : c = 9
 ·subst h1
  go_enter Tryz.func186, Tryz.ntmps186
  go_wp2
  go_ret
  exact ⟨rfl, rfl⟩
 ·by_cases h2 : c = 10
  ·subst h2
   go_enter Tryz.func186, Tryz.ntmps186
   go_wp2
   go_ret
   exact ⟨rfl, rfl⟩
  ·by_cases h3 : c = 13
   ·subst h3
    go_enter Tryz.func186, Tryz.ntmps186
    go_wp2
    go_ret
    exact ⟨rfl, rfl⟩
   ·by_cases h4 : c = 32
    ·subst h4
     go_enter Tryz.func186, Tryz.ntmps186
     go_wp2
     go_ret
     exact ⟨rfl, rfl⟩
    ·have hr : Lx.spaceB c = false := by simp [Lx.spaceB, h1, h2, h3, h4]
     rw [hr]
     have d1 : ((c : Int) == 9) = false := by simp; omega
     have d2 : ((c : Int) == 10) = false := by simp; omega
     have d3 : ((c : Int) == 13) = false := by simp; omega
     have d4 : ((c : Int) == 32) = false := by simp; omega
     clear h1 h2 h3 h4
     go_enter Tryz.func186, Tryz.ntmps186
     go_wp2
     go_ret
     exact ⟨rfl, rfl⟩
theorem letter_cases (c : Nat) : (Lx.letterB c = true ∧ (97 ≤ c ∧ c ≤ 122 ∨ c < 97 ∧ 65 ≤ c ∧ c ≤ 90 ∨ c = 95)) ∨ (Lx.letterB c = false ∧ c < 65) ∨ (Lx.letterB c = false ∧ 91 ≤ c ∧ c ≤ 96 ∧ c ≠ 95) ∨ (Lx.letterB c = false ∧ 123 ≤ c ∧ c < 192) ∨
  (Lx.letterB c = false ∧ c = 215) ∨ (Lx.letterB c = false ∧ c = 247) ∨ (Lx.letterB c = true ∧ 192 ≤ c ∧ c ≤ 591 ∧ c ≠ 215 ∧ c ≠ 247) ∨ (Lx.letterB c = false ∧ 592 ≤ c ∧ c < 880) ∨ (Lx.letterB c = true ∧ 880 ≤ c ∧ c ≤ 1023) ∨ (Lx.letterB c = true ∧ 1024 ≤ c ∧ c ≤ 1279) ∨ (Lx.letterB c = false ∧ 1280 ≤ c) := by
 have key : Lx.letterB c = decide ((97 ≤ c ∧ c ≤ 122) ∨ (65 ≤ c ∧ c ≤ 90) ∨ c = 95 ∨ (192 ≤ c ∧ c ≤ 591 ∧ c ≠ 215 ∧ c ≠ 247) ∨ (880 ≤ c ∧ c ≤ 1023) ∨ (1024 ≤ c ∧ c ≤ 1279)) := by
  rw [Bool.eq_iff_iff]
  simp only [Lx.letterB, Bool.or_eq_true, Bool.and_eq_true, decide_eq_true_eq, beq_iff_eq, bne_iff_ne, ne_eq]
  omega
 rw [key]
 simp only [decide_eq_true_eq, decide_eq_false_iff_not]
 omega
set_option maxHeartbeats 2000000 in
set_option maxRecDepth 100000 in
theorem letter_walk (c : Nat) (w : World) : Calls Tryz.prog 190 #[.int .i32 c] w fun e w' => e = .returned (.bool (Lx.letterB c)) ∧ w = w' := by
 rcases letter_cases c with ⟨hr, h | h | h⟩ | ⟨hr, h⟩ | ⟨hr, h⟩ | ⟨hr, h⟩ | ⟨hr, h⟩ | ⟨hr, h⟩ | ⟨hr, h⟩ | ⟨hr, h⟩ | ⟨hr, h⟩ | ⟨hr, h⟩ | ⟨hr, h⟩
 all_goals
  rw [hr]
  clear hr
  first | have a97 : (97 : Int) ≤ (c : Int) := by omega | have a97 : ¬ (97 : Int) ≤ (c : Int) := by omega | skip
  first | have a122 : (c : Int) ≤ 122 := by omega | have a122 : ¬ (c : Int) ≤ 122 := by omega | skip
  first | have a65 : (65 : Int) ≤ (c : Int) := by omega | have a65 : ¬ (65 : Int) ≤ (c : Int) := by omega | skip
  first | have a90 : (c : Int) ≤ 90 := by omega | have a90 : ¬ (c : Int) ≤ 90 := by omega | skip
  first | have a192 : (192 : Int) ≤ (c : Int) := by omega | have a192 : ¬ (192 : Int) ≤ (c : Int) := by omega | skip
  first | have a591 : (c : Int) ≤ 591 := by omega | have a591 : ¬ (c : Int) ≤ 591 := by omega | skip
  first | have a880 : (880 : Int) ≤ (c : Int) := by omega | have a880 : ¬ (880 : Int) ≤ (c : Int) := by omega | skip
  first | have a1023 : (c : Int) ≤ 1023 := by omega | have a1023 : ¬ (c : Int) ≤ 1023 := by omega | skip
  first | have a1024 : (1024 : Int) ≤ (c : Int) := by omega | have a1024 : ¬ (1024 : Int) ≤ (c : Int) := by omega | skip
  first | have a1279 : (c : Int) ≤ 1279 := by omega | have a1279 : ¬ (c : Int) ≤ 1279 := by omega | skip
  first | have b95 : ((c : Int) == 95) = true := by simp; omega | have b95 : ((c : Int) == 95) = false := by simp; omega | skip
  first | have b215 : ((c : Int) != 215) = true := by simp; omega | have b215 : ((c : Int) != 215) = false := by simp; omega | skip
  first | have b247 : ((c : Int) != 247) = true := by simp; omega | have b247 : ((c : Int) != 247) = false := by simp; omega | skip
  clear h
  go_enter Tryz.func190, Tryz.ntmps190
  go_wp2
  all_goals (go_ret; exact ⟨rfl, rfl⟩)
set_option maxRecDepth 100000 in
theorem both_walk (c : Nat) (w : World) : Calls Tryz.prog 191 #[.int .i32 c] w fun e w' => e = .returned (.bool (Lx.bothB c)) ∧ w = w' := by
 have hL := letter_walk c w
 have hD := digit_walk c w
 unfold Lx.bothB
 cases h : Lx.letterB c with
 | true =>
  rw [h] at hL
  go_enter Tryz.func191, Tryz.ntmps191
  go_wp2_with fail
  refine hL.mono ?_
  rintro e w' ⟨rfl, rfl⟩
  go_wp2_with fail
  go_ret
  exact ⟨rfl, rfl⟩
 | false =>
  rw [h] at hL
  cases h2 : Lx.digitB c with
  | true =>
   rw [h2] at hD
   go_enter Tryz.func191, Tryz.ntmps191
   go_wp2_with fail
   refine hL.mono ?_
   rintro e w' ⟨rfl, rfl⟩
   go_wp2_with fail
   refine hD.mono ?_
   rintro e w' ⟨rfl, rfl⟩
   go_wp2_with fail
   go_ret
   exact ⟨rfl, rfl⟩
  | false =>
   rw [h2] at hD
   go_enter Tryz.func191, Tryz.ntmps191
   go_wp2_with fail
   refine hL.mono ?_
   rintro e w' ⟨rfl, rfl⟩
   go_wp2_with fail
   refine hD.mono ?_
   rintro e w' ⟨rfl, rfl⟩
   go_wp2_with fail
   go_ret
   exact ⟨rfl, rfl⟩
set_option maxRecDepth 100000 in
theorem kind_walk (b : Bool) (k : Int) (w : World) : Calls Tryz.prog 185 #[.bool b, .int .i64 k] w fun e w' => e = .returned (.int .i64 (if b then k else 8)) ∧ w = w' := by
 cases b with
 | true =>
  go_enter Tryz.func185, Tryz.ntmps185
  go_wp2
  go_ret
  exact ⟨rfl, rfl⟩
 | false =>
  go_enter Tryz.func185, Tryz.ntmps185
  go_wp2
  go_ret
  exact ⟨rfl, rfl⟩
theorem rem_short (d : Nat) (l : Bs) (h : l.length ≤ 1) : Lx.remM d l = none := by
 rcases l with _ | ⟨a, _ | ⟨b, t⟩⟩
 ·simp [Lx.remM]
 ·simp [Lx.remM]
 ·simp at h
theorem rem_two (d : Nat) (s : Bs) (i : Nat) (h : i + 1 < s.length) : Lx.remM d (s.drop i) =
  if s[i] = 123 ∧ s[i + 1] = 45 then (Lx.remM (d + 1) (s.drop (i + 2))).map (· + 2)
  else if s[i] = 45 ∧ s[i + 1] = 125 then (if d = 1 then some 2 else (Lx.remM (d - 1) (s.drop (i + 2))).map (· + 2))
  else (Lx.remM d (s.drop (i + 1))).map (· + 1) := by
 have e1 : s.drop i = s[i] :: s[i + 1] :: s.drop (i + 2) := by
  rw [List.drop_eq_getElem_cons (by omega), List.drop_eq_getElem_cons (by omega)]
 have e2 : s.drop (i + 1) = s[i + 1] :: s.drop (i + 2) := List.drop_eq_getElem_cons (by omega)
 rw [e1, e2, Lx.remM]
theorem two_eq (s : Bs) (i : Nat) (h : i + 1 < s.length) (a b : UInt8) : (((⟨s.toArray⟩ : ByteArray).extract i (i + 2)).toList == [a, b]) = decide (s[i] = a ∧ s[i + 1] = b) := by
 have e : ((⟨s.toArray⟩ : ByteArray).extract i (i + 2)).toList = [s[i], s[i + 1]] := by
  rw [Lib.toList_data, ext_data, show i + 2 - i = 2 by omega]
  show (s.drop i).take 2 = _
  rw [List.drop_eq_getElem_cons (by omega), List.drop_eq_getElem_cons (by omega)]
  rfl
 rw [e, Bool.eq_iff_iff]
 simp
set_option maxHeartbeats 2000000 in
set_option maxRecDepth 1000000 in
theorem remark_walk (s : Bs) (w : World) (hs : [123, 45].isPrefixOf s = true) (hl : s.length ≤ 100000000) :
  Calls Tryz.prog 189 #[.string ⟨s.toArray⟩] w fun e w' => e = .returned (.tuple #[.int .i64 (match Lx.remM 1 (s.drop 2) with | some k => ((k + 2 : Nat) : Int) | none => (s.length : Int)), .bool (Lx.remM 1 (s.drop 2)).isSome]) ∧ w' = w := by
 obtain ⟨t, rfl⟩ := Lx.prefix_two hs
 clear hs
 generalize hS : (123 :: 45 :: t : Bs) = s at *
 have h2 : 2 ≤ s.length := by rw [← hS]; simp
 have f1 : (((⟨s.toArray⟩ : ByteArray).extract 0 2).toList == [123, 45]) = true := by
  rw [two_eq s 0 (by omega)]; subst hS; rfl
 clear hS t
 generalize hR : Lx.remM 1 (s.drop 2) = R
 have HR := Lib.hid hR
 clear hR
 go_enter Tryz.func189, Tryz.ntmps189
 go_wp2
 refine wp_scope_jumps 0 (fun a' w' => w' = w ∧ ∃ (d i : Nat) (u6 u7 u8 u9 u10 u11 u12 u13 u14 u15 u16 u17 u18 u19 u20 u21 u22 u23 u24 u25 u26 u27 u28 u29 u30 u31 u32 u33 u34 : Value), a' = { tmps := #[.string ⟨s.toArray⟩, undef, .int .i64 0, .bool false, .int .i64 d, .int .i64 i, u6, u7, u8, u9, u10, u11, u12, u13, u14, u15, u16, u17, u18, u19, u20, u21, u22, u23, u24, u25, u26, u27, u28, u29, u30, u31, u32, u33, u34], defers := [] } ∧ 1 ≤ d ∧ d ≤ i ∧ 2 ≤ i ∧ i ≤ s.length ∧ Hid (R = (Lx.remM d (s.drop i)).map (· + (i - 2)))) (fun a' _ => s.length - (intOf (a'.tmps.getD 5 undef)).toNat) rfl ?_ ?_
 ·have i1 : ¬ (s.length : Int) ≤ 1 := by omega
  have i2 : (2 : Int) ≤ (s.length : Int) := by omega
  go_wp2
  go_step3
  go_wp2
  go_step3
  refine ⟨rfl, rfl, 1, 2, _, _, _, _, _, _, _, _, _, _, _, _, _, _, _, _, _, _, _, _, _, _, _, _, _, _, _, _, _, rfl, by omega, by omega, by omega, h2, ?_⟩
  show _ = _
  rw [HR.out]
  cases R <;> rfl
 ·rintro a' w' ⟨rfl, d, i, u6, u7, u8, u9, u10, u11, u12, u13, u14, u15, u16, u17, u18, u19, u20, u21, u22, u23, u24, u25, u26, u27, u28, u29, u30, u31, u32, u33, u34, rfl, hd1, hdi, hi2, hil, H⟩
  by_cases hend : (s.length : Int) ≤ (i : Int) + 1
  ·have hR : Hid (R = none) := by
    show _ = _
    rw [H.out, rem_short d (s.drop i) (by rw [List.length_drop]; omega)]; rfl
   clear H HR
   go_wp2
   simp only [Exit.jump]
   go_ret2
   rw [hR.out]
   exact ⟨rfl, rfl⟩
  ·have hlt : i + 1 < s.length := by omega
   have j0 : (0 : Int) ≤ (i : Int) := by omega
   have j1 : (i : Int) + 2 ≤ (s.length : Int) := by omega
   have H2 : Hid (R = (if s[i] = 123 ∧ s[i + 1] = 45 then (Lx.remM (d + 1) (s.drop (i + 2))).map (· + 2)
     else if s[i] = 45 ∧ s[i + 1] = 125 then (if d = 1 then some 2 else (Lx.remM (d - 1) (s.drop (i + 2))).map (· + 2))
     else (Lx.remM d (s.drop (i + 1))).map (· + 1)).map (· + (i - 2))) := by
    show _ = _
    rw [H.out, rem_two d s i hlt]
   have g1 := two_eq s i hlt 123 45
   have g2 := two_eq s i hlt 45 125
   clear H HR f1
   have hmap : ∀ (o : Option Nat) (a b c : Nat), a + b = c → (o.map (· + a)).map (· + b) = o.map (· + c) := fun o a b c h => by
    cases o with
    | none => rfl
    | some x => simp; omega
   have Hmap := Lib.hid hmap
   clear hmap
   by_cases ho : s[i] = 123 ∧ s[i + 1] = 45
   ·rw [decide_eq_true ho] at g1
    clear g2
    have H3 := H2.out
    rw [if_pos ho, Hmap.out _ 2 (i - 2) (i + 2 - 2) (by omega)] at H3
    have H4 := Lib.hid H3
    have hdz : ((d : Int) + 1 == 0) = false := by simp; omega
    clear ho H2 H3
    go_wp2
    go_step3
    refine ⟨rfl, ⟨rfl, d + 1, i + 2, _, _, _, _, _, _, _, _, _, _, _, _, _, _, _, _, _, _, _, _, _, _, _, _, _, _, _, _, _, rfl, by omega, by omega, by omega, by omega, H4.out⟩, ?_⟩
    simp [intOf]; omega
   ·rw [decide_eq_false ho] at g1
    have H3 := H2.out
    rw [if_neg ho] at H3
    by_cases hs : s[i] = 45 ∧ s[i + 1] = 125
    ·rw [decide_eq_true hs] at g2
     rw [if_pos hs] at H3
     by_cases hd : d = 1
     ·rw [if_pos hd] at H3
      subst hd
      have hR : Hid (R = some (2 + (i - 2))) := H3
      clear ho hs H2 H3
      go_wp2
      simp only [Exit.jump]
      go_ret2
      rw [hR.out]
      refine ⟨?_, rfl⟩
      show Ending.returned (Value.tuple #[Value.int .i64 ((i : Int) + 2), Value.bool true]) = Ending.returned (Value.tuple #[Value.int .i64 ((2 + (i - 2) + 2 : Nat) : Int), Value.bool true])
      rw [show ((2 + (i - 2) + 2 : Nat) : Int) = (i : Int) + 2 by omega]
     ·rw [if_neg hd, Hmap.out _ 2 (i - 2) (i + 2 - 2) (by omega)] at H3
      have H4 := Lib.hid H3
      have hdz : ((d : Int) - 1 == 0) = false := by simp; omega
      obtain ⟨d, rfl⟩ : ∃ k, d = k + 1 := ⟨d - 1, by omega⟩
      clear ho hs H2 H3
      go_wp2
      go_step3
      refine ⟨rfl, ⟨rfl, d, i + 2, _, _, _, _, _, _, _, _, _, _, _, _, _, _, _, _, _, _, _, _, _, _, _, _, _, _, _, _, _, by congr 8 <;> omega, by omega, by omega, by omega, by omega, H4.out⟩, ?_⟩
      simp [intOf]; omega
    ·rw [decide_eq_false hs] at g2
     rw [if_neg hs, Hmap.out _ 1 (i - 2) (i + 1 - 2) (by omega)] at H3
     have H4 := Lib.hid H3
     have hdz : ((d : Int) == 0) = false := by simp; omega
     clear ho hs H2 H3
     go_wp2
     go_step3
     refine ⟨rfl, ⟨rfl, d, i + 1, _, _, _, _, _, _, _, _, _, _, _, _, _, _, _, _, _, _, _, _, _, _, _, _, _, _, _, _, _, rfl, by omega, by omega, by omega, by omega, H4.out⟩, ?_⟩
     simp [intOf]; omega
end Go.Proofs.YtcjjfeephaddcaaGreatDoor
