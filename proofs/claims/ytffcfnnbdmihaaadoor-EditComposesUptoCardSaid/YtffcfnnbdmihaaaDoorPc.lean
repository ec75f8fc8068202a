/-
  PIECES as cells; the walks of (edit.piece).size, (edit.piece).cut, edit.pieces$1 (add), edit.long.
-/
import Derived.Test.YtffcfnnbdmihaaaDoorCompMath
import Derived.Test.YtffcfnnbdmihaaaDoorGrown
import Derived.Deep.RegionLaw
import Derived.Deep.DeepCutAuto
namespace Go.Proofs.YtffcfnnbdmihaaaDoor.cp
open Go.RowKit

def cells (p : Pc) : List Value := [.int .i64 p.f, .int .i64 p.t, .string p.s, .bool p.put]
def pcCells (l : List Pc) : List Value := l.flatMap cells
theorem pcCells_len (l : List Pc) : (pcCells l).length = l.length * 4 := by
  induction l with
  | nil => rfl
  | cons a l ih => simp only [pcCells, List.flatMap_cons, List.length_append, List.length_cons] at *; rw [ih]; simp [cells]; omega
theorem pcCells_append (l m : List Pc) : pcCells (l ++ m) = pcCells l ++ pcCells m := by simp [pcCells]
theorem pcCells_one (p : Pc) : pcCells [p] = [.int .i64 p.f, .int .i64 p.t, .string p.s, .bool p.put] := by simp [pcCells, cells]
theorem pcCells_get (l : List Pc) (k j : Nat) (hj : j < 4) (hk : k < l.length) : (pcCells l)[k * 4 + j]? = (cells l[k])[j]? := by
  induction l generalizing k with
  | nil => simp at hk
  | cons a l ih =>
    cases k with
    | zero =>
      have h4 : (cells a).length = 4 := rfl
      simp only [pcCells, List.flatMap_cons]; rw [List.getElem?_append_left (by omega)]; simp
    | succ k =>
      have h4 : (cells a).length = 4 := rfl
      simp only [pcCells, List.flatMap_cons]
      rw [List.getElem?_append_right (by omega), h4]
      have e : (k + 1) * 4 + j - 4 = k * 4 + j := by omega
      rw [e]
      have := ih k (by simpa using hk)
      simpa [pcCells] using this
theorem pcCells_oneCell (l : List Pc) : ∀ u ∈ pcCells l, u.oneCell' = true := by
  intro u hu
  simp only [pcCells, List.mem_flatMap] at hu
  obtain ⟨p, _, hp⟩ := hu
  simp only [cells, List.mem_cons, List.mem_nil_iff, or_false] at hp
  rcases hp with rfl | rfl | rfl | rfl <;> rfl
theorem rd_pc {w : World} {B : Nat} {A : Option Addr} {l : List Pc} {k : Nat} (h : Rd w B 4 A l.length (pcCells l)) (hk : k < l.length) :
    ∃ b o, A = some ⟨b, o, none⟩ ∧ b < B ∧ w.cell? ⟨b, o + k * 4, none⟩ = some (.int .i64 l[k].f) ∧ w.cell? ⟨b, o + k * 4 + 1, none⟩ = some (.int .i64 l[k].t) ∧ w.cell? ⟨b, o + k * 4 + 2, none⟩ = some (.string l[k].s) ∧ w.cell? ⟨b, o + k * 4 + 3, none⟩ = some (.bool l[k].put) := by
  obtain ⟨b, o, e, hb, hc⟩ := h.2 (by omega)
  refine ⟨b, o, e, hb, ?_, ?_, ?_, ?_⟩
  · have := hc (k * 4 + 0) _ (pcCells_get l k 0 (by omega) hk); simpa [Nat.add_assoc] using this
  · have := hc (k * 4 + 1) _ (pcCells_get l k 1 (by omega) hk); simpa [Nat.add_assoc] using this
  · have := hc (k * 4 + 2) _ (pcCells_get l k 2 (by omega) hk); simpa [Nat.add_assoc] using this
  · have := hc (k * 4 + 3) _ (pcCells_get l k 3 (by omega) hk); simpa [Nat.add_assoc] using this
theorem infoPc : (Tryd.prog.info? 132).map (fun i => (i.zero, i.size, i.bytes)) = some (some (.agg #[.int .i64 0, .int .i64 0, .string ⟨#[]⟩, .bool false]), 4, 40) := by kernel_rfl

/-- what a walk wants of a piece -/
def Fine (p : Pc) : Prop := p.put = false → 0 ≤ p.f ∧ p.f ≤ p.t ∧ p.t ≤ 16777216
def agg (p : Pc) : Value := .agg #[.int .i64 p.f, .int .i64 p.t, .string p.s, .bool p.put]

set_option maxRecDepth 100000 in
theorem size_walk (p : Pc) (w : World) (hp : Fine p) :
    Calls Tryd.prog 81 #[.agg #[.int .i64 p.f, .int .i64 p.t, .string p.s, .bool p.put]] w fun e w' => e = .returned (.int .i64 p.size) ∧ Below w.heap.size w w' := by
  obtain ⟨f, t, s, put⟩ := p
  cases put with
  | true =>
    clear hp
    go_enter Tryd.func81, Tryd.ntmps81
    go_wp2
    go_ret
    exact ⟨rfl, (Below.refl _ _).alloc (Nat.le_refl _) _⟩
  | false =>
    obtain ⟨h1, h2, h3⟩ := hp rfl
    dsimp only at h1 h2 h3 ⊢
    clear hp
    go_enter Tryd.func81, Tryd.ntmps81
    go_wp2
    go_ret
    exact ⟨rfl, (Below.refl _ _).alloc (Nat.le_refl _) _⟩

set_option maxRecDepth 100000 in
theorem cut_walk (p : Pc) (a b : Nat) (w : World) (hp : Fine p) (hab : a ≤ b) (hb : (b : Int) ≤ p.size) :
    Calls Tryd.prog 82 #[.agg #[.int .i64 p.f, .int .i64 p.t, .string p.s, .bool p.put], .int .i64 a, .int .i64 b] w fun e w' =>
      e = .returned (.agg #[.int .i64 (p.cut a b).f, .int .i64 (p.cut a b).t, .string (p.cut a b).s, .bool (p.cut a b).put]) ∧ Below w.heap.size w w' := by
  obtain ⟨f, t, s, put⟩ := p
  have i1 : (0 : Int) ≤ (a : Int) := by omega
  have i2 : (0 : Int) ≤ (b : Int) := by omega
  have i3 : (a : Int) ≤ (b : Int) := by omega
  cases put with
  | true =>
    clear hp
    have i4 : (b : Int) ≤ (s.size : Int) := hb
    have i5 : b ≤ s.size := by omega
    clear hb
    go_enter Tryd.func82, Tryd.ntmps82
    go_wp2
    exact bodyPost_ret (v := .agg #[.int .i64 0, .int .i64 0, .string (s.extract a b), .bool true]) (by simp [results, Tryd.results82, go_sem]) rfl ⟨rfl, ((Below.refl _ _).alloc (Nat.le_refl _) _).alloc (by simp) _⟩
  | false =>
    obtain ⟨h1, h2, h3⟩ := hp rfl
    have i4 : (b : Int) ≤ t - f := hb
    dsimp only at h1 h2 h3 ⊢
    clear hp hb
    have hs1 : f + (a : Int) ≤ 16777216 := by omega
    have hs2 : f + (b : Int) ≤ 16777216 := by omega
    go_enter Tryd.func82, Tryd.ntmps82
    go_wp2
    exact bodyPost_ret (v := .agg #[.int .i64 (f + a), .int .i64 (f + b), .string ⟨#[]⟩, .bool false]) (by simp [results, Tryd.results82, go_sem]) rfl ⟨rfl, ((Below.refl _ _).alloc (Nat.le_refl _) _).alloc (by simp) _⟩

def putB (l : List Sp) : Int := spBytes l
def goneB (l : List Sp) : Int := (l.map fun s => s.t - s.f).sum
theorem goneB_snoc (l : List Sp) (s : Sp) : goneB (l ++ [s]) = goneB l + (s.t - s.f) := by simp [goneB]
theorem grow_eq (l : List Sp) : grow l = putB l - goneB l := by
  induction l with
  | nil => rfl
  | cons s r ih => simp only [grow, putB, goneB, spBytes, List.map_cons, List.sum_cons] at *; omega
theorem goneB_bd {n : Int} {l : List Sp} : ∀ {a : Int}, 0 ≤ a → Chain n a l → 0 ≤ goneB l ∧ goneB l ≤ lastT a l - a := by
  induction l with
  | nil => intro a _ _; simp [goneB, lastT]
  | cons s r ih =>
    intro a h0 h
    obtain ⟨h1, h2, h3, h4⟩ := h
    have := ih (by omega) h4
    simp only [goneB, lastT, List.map_cons, List.sum_cons] at *
    omega

set_option maxHeartbeats 1000000 in
set_option maxRecDepth 100000 in
theorem long_walk (n : Nat) (A : Option Addr) (c : Nat) (l : List Sp) (w : World) (hr : Rd w w.heap.size 3 A l.length (spCells l)) (hl : l.length ≤ 1048576) (hby : spBytes l ≤ 1048576) (hn : n ≤ 1048576) (hc : Chain n 0 l) :
    Calls Tryd.prog 66 #[.int .i64 n, .slice A l.length c] w fun e w' => e = .returned (.int .i64 (n + grow l)) ∧ Below w.heap.size w w' := by
  have hge := grow_eq l
  have HC := Lib.hid hc
  have HG := Lib.hid hge
  clear hc hge
  go_enter Tryd.func66, Tryd.ntmps66
  go_wp2_with fail
  go_loopw [5, 6, 11] (fun p o i wr => ∃ k : Nat, k ≤ l.length ∧ i = .int .i64 k ∧ p = .int .i64 (putB (l.take k)) ∧ o = .int .i64 (goneB (l.take k)) ∧ Below w.heap.size w wr) (fun _ _ i _ => l.length - (intOf i).toNat)
  case atStart => exact ⟨0, Nat.zero_le _, rfl, by simp [putB, spBytes], by simp [goneB], Below.refl _ _⟩
  case round =>
    obtain ⟨k, hk, rfl, rfl, rfl, hb⟩ := hrel
    have hbs := hb.size
    have hp1 : 0 ≤ putB (l.take k) := by unfold putB; omega
    have hp2 : putB (l.take k) ≤ 1048576 := by have := spBytes_take_le l k; unfold putB; omega
    have hck := HC.out.take k
    have hg := goneB_bd (Int.le_refl 0) hck
    have hgl := hck.last
    have hg1 := hg.1
    have hg2 : goneB (l.take k) ≤ 1048576 := by omega
    clear hck hg hgl
    by_cases hlt : k < l.length
    · obtain ⟨b, o, rfl, hbB, hcs⟩ := (hr.below hb).sp hlt
      obtain ⟨c0, c1, c2⟩ := hcs k hlt
      clear hcs
      have hca := HC.out.at_ hlt
      have hck1 := HC.out.take (k + 1)
      have hgk := goneB_bd (Int.le_refl 0) hck1
      have hgl := hck1.last
      have e1 : Hid (putB (l.take (k + 1)) = putB (l.take k) + (l[k].s.size : Int)) := by
        show _ = _
        rw [List.take_succ_eq_append_getElem hlt]; unfold putB; rw [spBytes_snoc]; omega
      have e2 : Hid (goneB (l.take (k + 1)) = goneB (l.take k) + (l[k].t - l[k].f)) := by
        show _ = _
        rw [List.take_succ_eq_append_getElem hlt, goneB_snoc]
      have hsz : putB (l.take k) + (l[k].s.size : Int) ≤ 1048576 := by rw [← e1.out]; have := spBytes_take_le l (k + 1); unfold putB; omega
      have hgz : goneB (l.take k) + (l[k].t - l[k].f) ≤ 1048576 := by rw [← e2.out]; omega
      have hf0 : 0 ≤ l[k].f := by omega
      have hft : l[k].f ≤ l[k].t := by omega
      have htn : l[k].t ≤ 1048576 := by omega
      have hd0 : 0 ≤ l[k].t - l[k].f := by omega
      have hsz2 : (l[k].s.size : Int) ≤ 1048576 := by omega
      generalize putB (l.take k) = P at *
      generalize goneB (l.take k) = O at *
      generalize l[k] = x at *
      obtain ⟨f, t, s⟩ := x
      dsimp only at *
      have i1 : (0 : Int) ≤ (k : Int) := by omega
      have i2 : (k : Int) < (l.length : Int) := by omega
      clear hca hck1 hgk hgl
      go_wp2_with fail
      go_roundw
      case rel => exact ⟨k + 1, by omega, by go_num, by rw [e1.out], by rw [e2.out], hb.alloc (by omega) _⟩
      case measure => simp [intOf]; omega
    · obtain rfl : k = l.length := by omega
      have HX : Hid ((n : Int) - goneB l + putB l = n + grow l) := by show _ = _; have := HG.out; omega
      rw [List.take_length] at *
      generalize putB l = P at *
      generalize goneB l = O at *
      have i1 : (n : Int) - O ≤ 9223372036854775807 - P := by omega
      go_wp2_with fail
      go_ret
      exact ⟨by rw [HX.out]; rfl, hb⟩
end Go.Proofs.YtffcfnnbdmihaaaDoor.cp
