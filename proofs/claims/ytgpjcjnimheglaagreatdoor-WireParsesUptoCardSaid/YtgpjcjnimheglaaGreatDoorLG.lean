/-
  WALKS of package lex: escape.
-/
import Derived.Test.YtgpjcjnimheglaaGreatDoorLF
namespace Go.Proofs.YtgpjcjnimheglaaGreatDoor
open Go.RowKit

def escV : Option (Nat × Nat) → Value
  | some (c, n) => .tuple #[.string (Utf8.encode c), .int .i64 n]
  | none => .tuple #[.string ⟨#[]⟩, .int .i64 0]
theorem b0_eq (L : Bs) (h : 0 < L.length) (k : UInt8) : ((((⟨L.toArray⟩ : ByteArray)[0]'(by rw [mk_size]; exact h)).toNat : Int) == (k.toNat : Int)) = decide (L[0] = k) := by
  rw [show ((⟨L.toArray⟩ : ByteArray)[0]'(by rw [mk_size]; exact h)).toNat = L[0].toNat from rfl, Bool.eq_iff_iff]
  simp only [beq_iff_eq, decide_eq_true_eq]
  constructor
  · intro e; exact UInt8.toNat_inj.1 (by omega)
  · intro e; rw [e]
theorem bk_eq (L : Bs) (i : Nat) (h : i < L.length) (k : UInt8) : ((((⟨L.toArray⟩ : ByteArray)[i]'(by rw [mk_size]; exact h)).toNat : Int) == (k.toNat : Int)) = decide (L[i] = k) := by
  rw [show ((⟨L.toArray⟩ : ByteArray)[i]'(by rw [mk_size]; exact h)).toNat = L[i].toNat from rfl, Bool.eq_iff_iff]
  simp only [beq_iff_eq, decide_eq_true_eq]
  constructor
  · intro e; exact UInt8.toNat_inj.1 (by omega)
  · intro e; rw [e]
theorem enc34 : Utf8.encode 34 = ⟨#[34]⟩ := by decide
theorem enc92 : Utf8.encode 92 = ⟨#[92]⟩ := by decide
theorem enc10 : Utf8.encode 10 = ⟨#[10]⟩ := by decide
theorem enc9 : Utf8.encode 9 = ⟨#[9]⟩ := by decide

set_option maxHeartbeats 1000000 in
set_option maxRecDepth 100000 in
theorem escape_walk (l : Bs) (m : Int) (w : World) (hM : MaxL w m) (hl : l.length ≤ 100000000) :
    Calls Tryz.prog 140 #[.string ⟨l.toArray⟩] w fun e w' => e = .returned (escV (Lx.escM l)) ∧ Below w.heap.size w w' := by
  cases l with
  | nil =>
    go_enter Tryz.func140, Tryz.ntmps140
    go_wp2_with fail
    go_ret2
    exact ⟨rfl, Below.refl _ _⟩
  | cons a r =>
    have hE : Lx.escM (a :: r) = if a = 110 then some (10, 1) else if a = 116 then some (9, 1) else if a = 34 ∨ a = 92 then some (a.toNat, 1) else if a = 117 then (Lx.codeM r).map fun x => (x.1, x.2 + 1) else none := rfl
    rw [hE]
    clear hE
    have hlen : (a :: r).length = r.length + 1 := rfl
    have hcode := code_walk r m w hM (by omega)
    have hcl := fun c n (h : Lx.codeM r = some (c, n)) => (show 3 ≤ n ∧ (n : Int) ≤ 100000000 from ⟨(Lx.code_le r c n h).1, by have := (Lx.code_le r c n h).2.1; omega⟩)
    have hex := ext_drop (a :: r) 1
    rw [show List.drop 1 (a :: r) = r from rfl] at hex
    rw [← hex] at hcode
    have hx1 : (⟨(a :: r).toArray⟩ : ByteArray).extract 0 1 = ⟨#[a]⟩ := by
      have := ext_str (a :: r) 0 1
      unfold strV at this
      injection this
    have h0 : 0 < (a :: r).length := by omega
    have h1 : 1 ≤ (a :: r).length := by omega
    have e110 := b0_eq (a :: r) h0 110
    have e116 := b0_eq (a :: r) h0 116
    have e34 := b0_eq (a :: r) h0 34
    have e92 := b0_eq (a :: r) h0 92
    have e117 := b0_eq (a :: r) h0 117
    rw [show (a :: r)[0] = a from rfl] at e110 e116 e34 e92 e117
    have hne : ((a :: r : Bs) == []) = false := rfl
    have d110 : (((110 : UInt8).toNat : Nat) : Int) = 110 := rfl
    have d116 : (((116 : UInt8).toNat : Nat) : Int) = 116 := rfl
    have d34 : (((34 : UInt8).toNat : Nat) : Int) = 34 := rfl
    have d92 : (((92 : UInt8).toNat : Nat) : Int) = 92 := rfl
    have d117 : (((117 : UInt8).toNat : Nat) : Int) = 117 := rfl
    rw [d110] at e110
    rw [d116] at e116
    rw [d34] at e34
    rw [d92] at e92
    rw [d117] at e117
    have Hx1 := Lib.hid hx1
    clear d110 d116 d34 d92 d117 hex hx1 hlen
    generalize hC : Lx.codeM r = C at *
    clear hC
    generalize (a :: r : Bs) = L at *
    by_cases g1 : a = 110
    · rw [if_pos g1]
      rw [decide_eq_true g1] at e110
      clear e116 e34 e92 e117 g1 hcode hcl
      go_enter Tryz.func140, Tryz.ntmps140
      go_wp2_with fail
      go_ret2
      exact ⟨by show _ = Ending.returned (.tuple #[.string (Utf8.encode 10), .int .i64 1]); rw [enc10]; rfl, Below.refl _ _⟩
    · rw [if_neg g1]
      rw [decide_eq_false g1] at e110
      by_cases g2 : a = 116
      · rw [if_pos g2]
        rw [decide_eq_true g2] at e116
        clear e34 e92 e117 g1 g2 hcode hcl
        go_enter Tryz.func140, Tryz.ntmps140
        go_wp2_with fail
        go_ret2
        exact ⟨by show _ = Ending.returned (.tuple #[.string (Utf8.encode 9), .int .i64 1]); rw [enc9]; rfl, Below.refl _ _⟩
      · rw [if_neg g2]
        rw [decide_eq_false g2] at e116
        by_cases g3 : a = 34
        · rw [if_pos (.inl g3)]
          rw [decide_eq_true g3] at e34
          subst g3
          clear e92 e117 g1 g2 hcode hcl
          go_enter Tryz.func140, Tryz.ntmps140
          go_wp2_with fail
          go_ret2
          exact ⟨by show _ = Ending.returned (.tuple #[.string (Utf8.encode 34), .int .i64 1]); rw [enc34, ← Hx1.out]; rfl, Below.refl _ _⟩
        · rw [decide_eq_false g3] at e34
          by_cases g4 : a = 92
          · rw [if_pos (.inr g4)]
            rw [decide_eq_true g4] at e92
            subst g4
            clear e117 g1 g2 g3 hcode hcl
            go_enter Tryz.func140, Tryz.ntmps140
            go_wp2_with fail
            go_ret2
            exact ⟨by show _ = Ending.returned (.tuple #[.string (Utf8.encode 92), .int .i64 1]); rw [enc92, ← Hx1.out]; rfl, Below.refl _ _⟩
          · rw [decide_eq_false g4] at e92
            rw [if_neg (by rintro (h | h); exact g3 h; exact g4 h)]
            by_cases g5 : a = 117
            · rw [if_pos g5]
              rw [decide_eq_true g5] at e117
              clear g1 g2 g3 g4 g5 Hx1
              cases C with
              | none =>
                clear hcl
                have hcode : Calls Tryz.prog 154 _ w fun e w' => e = .returned (.tuple #[.int .i32 0, .int .i64 0]) ∧ Below w.heap.size w w' := hcode
                go_enter Tryz.func140, Tryz.ntmps140
                go_wp2_with fail
                refine hcode.mono ?_
                rintro e w2 ⟨rfl, hb⟩
                go_wp2_with fail
                go_ret2
                exact ⟨rfl, hb⟩
              | some x =>
                obtain ⟨c, n⟩ := x
                have hn := hcl c n rfl
                clear hcl
                have hn0 : (0 : Int) < (n : Int) := by omega
                have hn1 := hn.2
                have hcode : Calls Tryz.prog 154 _ w fun e w' => e = .returned (.tuple #[.int .i32 c, .int .i64 n]) ∧ Below w.heap.size w w' := hcode
                go_enter Tryz.func140, Tryz.ntmps140
                go_wp2_with fail
                refine hcode.mono ?_
                rintro e w2 ⟨rfl, hb⟩
                go_wp2_with fail
                go_ret2
                exact ⟨by show _ = Ending.returned (.tuple #[.string (Utf8.encode c), .int .i64 ((n + 1 : Nat) : Int)]); rw [show ((n + 1 : Nat) : Int) = (n : Int) + 1 by omega]; rfl, hb⟩
            · rw [if_neg g5]
              rw [decide_eq_false g5] at e117
              clear g1 g2 g3 g4 g5 Hx1 hcode hcl
              go_enter Tryz.func140, Tryz.ntmps140
              go_wp2_with fail
              go_ret2
              exact ⟨rfl, Below.refl _ _⟩
end Go.Proofs.YtgpjcjnimheglaaGreatDoor
