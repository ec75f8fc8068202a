/-
  JOINED of the texts Base Txt LG WM WA WL WP
-/
import Derived.Test.YtgpjcjnimheglaaDoorRows
import Derived.WalkKit
import Derived.WalkSpells
import Derived.WalkLawsBesides
import Derived.Below
import Derived.Laws.OwnMore
import Derived.Deep.AppendLies
import Derived.Deep.Draws
import Derived.Lib.Hide
import Derived.Deep.QuietTactic
import Derived.BigQuiet
import Derived.IntWalk
import Derived.Deep.RegionHeld3
import Derived.Deep.DeepCutAuto
import Derived.Lib.IndexMore
import Derived.Lib.Strings
import Derived.Lib.ConvBytes
import Derived.Laws.Strings3
import Derived.Laws.Closers25
import Derived.Laws.Closers25b
import Derived.BigCall
import Derived.BigGuard
import Derived.Test.YtgpjcjnimheglaaDoorShelfX
import Derived.Shelf.Spec.BytesIndexFunc
import Derived.Lib.RuneBytes
import Derived.Test.YtgpjcjnimheglaaDoorShelfW
import Derived.Shelf.Strings.SlTrimAscii
import Derived.Lib.LaidTab
import Derived.Lib.AtoiAll
import Derived.Lib.IndexLaws
import Derived.Lib.SlTrimSet
import Derived.Lib.ItoaNum
import Derived.Lib.Atoi
/-
  GENERAL LEMMAS (of no program): what a slice that is only read holds; blocks known whole.
-/
namespace Go.Proofs.YtgpjcjnimheglaaDoor
open Go.RowKit

/-- the slice value (A, n, _) reads as the cells xs ('size' cells an element), all below block B -/
def Rd (w : World) (B size : Nat) (A : Option Addr) (n : Nat) (xs : List Value) : Prop :=
  xs.length = n * size ∧ (0 < n → ∃ b o, A = some ⟨b, o, none⟩ ∧ b < B ∧ ∀ j u, xs[j]? = some u → w.cell? ⟨b, o + j, none⟩ = some u)

section
variable {w w' : World} {B B' size n : Nat} {A : Option Addr} {xs : List Value}
theorem Rd.none_ : Rd w B size A 0 [] := ⟨by simp, fun h => absurd h (by omega)⟩
theorem Rd.keep (h : Rd w B size A n xs) (hk : ∀ b o, b < B → w'.cell? ⟨b, o, none⟩ = w.cell? ⟨b, o, none⟩) : Rd w' B size A n xs :=
  ⟨h.1, fun hn => by
    obtain ⟨b, o, e, hb, hc⟩ := h.2 hn
    exact ⟨b, o, e, hb, fun j u hu => (hk _ _ hb).trans (hc j u hu)⟩⟩
theorem Rd.more (h : Rd w B size A n xs) (hB : B ≤ B') : Rd w B' size A n xs :=
  ⟨h.1, fun hn => by
    obtain ⟨b, o, e, hb, hc⟩ := h.2 hn
    exact ⟨b, o, e, by omega, hc⟩⟩
theorem Rd.below (h : Rd w B size A n xs) (hb : Below B w w') : Rd w' B size A n xs := h.keep fun _ _ hp => hb.cell hp
theorem Rd.of_own {base : Nat} {e : TypeId} {c : Nat} (h : w.ownsRow base e size (.slice A n c) n xs) : Rd w w.heap.size size A n xs := by
  refine ⟨h.1, fun hn => ?_⟩
  obtain ⟨g, cap, hv, _, hlt⟩ := h.form hn
  have hA : A = some ⟨g, 0, none⟩ := by injection hv
  subst hA
  refine ⟨g, 0, rfl, hlt, fun j u hu => ?_⟩
  have := h.cells (g := g) rfl j u hu
  unfold Addr.add at this
  by_cases hj : j = 0
  · subst hj; simpa using this
  · simpa [hj] using this
end

theorem below_drewN {B : Nat} {a w : World} (h : Below B a w) (n : Nat) : Below B a (w.drewN n) := ⟨h.os, h.tape, h.output, h.size, h.block⟩


theorem ext_data (s : ByteArray) (a f : Nat) : (s.extract a f).data.toList = (s.data.toList.drop a).take (f - a) := by
  rw [ByteArray.data_extract, Array.toList_extract, List.extract_eq_take_drop]
theorem ext_end (s : ByteArray) (a : Nat) : (s.extract a s.size).data.toList = s.data.toList.drop a := by
  rw [ext_data, List.take_of_length_le]
  have e : s.data.toList.length = s.size := by rw [Array.length_toList]; rfl
  rw [List.length_drop, e]; omega
theorem mk_size (l : List UInt8) : (⟨l.toArray⟩ : ByteArray).size = l.length := by show l.toArray.size = _; simp
theorem dlen (s : ByteArray) : s.data.toList.length = s.size := by rw [Array.length_toList]; rfl

theorem frozen_alloc (w : World) (o : Obj) (b i : Nat) (h : b < w.heap.size) : (w.alloc o).frozen? ⟨b, i, none⟩ = w.frozen? ⟨b, i, none⟩ :=
  World.frozen?_of_block (a := ⟨b, i, none⟩) (Below.heap_alloc w o b h)
theorem cell_alloc (w : World) (o : Obj) (b i : Nat) (h : b < w.heap.size) : (w.alloc o).cell? ⟨b, i, none⟩ = w.cell? ⟨b, i, none⟩ :=
  World.cell?_of_block (a := ⟨b, i, none⟩) (Below.heap_alloc w o b h)

/-- the element type of a row of cells -/
def tyOf : Obj → Option TypeId
  | .cells _ t _ => some t
  | _ => none
/-- all blocks but those of the element types T are as they were -/
def KeepX (T : List TypeId) (w w' : World) : Prop := ∀ (k : Nat) (o : Obj), w.heap[k]? = some o → (∀ t ∈ T, tyOf o ≠ some t) → w'.heap[k]? = some o
section
variable {T : List TypeId} {a w w' : World}
theorem lt_heap {w : World} {k : Nat} {o : Obj} (h : w.heap[k]? = some o) : k < w.heap.size := by
  rcases Nat.lt_or_ge k w.heap.size with h' | h'
  · exact h'
  · rw [Array.getElem?_eq_none h'] at h; cases h
theorem KeepX.refl (T : List TypeId) (w : World) : KeepX T w w := fun _ _ h _ => h
theorem KeepX.trans (h : KeepX T a w) (h' : KeepX T w w') : KeepX T a w' := fun k o hk ht => h' k o (h k o hk ht) ht
theorem KeepX.drew (h : KeepX T a w) : KeepX T a w.drew := h
theorem KeepX.drewN (h : KeepX T a w) (n : Nat) : KeepX T a (w.drewN n) := h
theorem KeepX.alloc (h : KeepX T a w) (o : Obj) : KeepX T a (w.alloc o) := fun k o' hk ht => by
  have := h k o' hk ht
  rw [Below.heap_alloc w o k (lt_heap this)]; exact this
theorem KeepX.below {B : Nat} (h : KeepX T a w) (hb : Below B w w') (hB : w.heap.size ≤ B) : KeepX T a w' := fun k o hk ht => by
  have := h k o hk ht
  rw [hb.block k (Nat.lt_of_lt_of_le (lt_heap this) hB)]; exact this
theorem KeepX.setCell (h : KeepX T a w) {p : Addr} {cs : Array Value} {t : TypeId} {fr : Nat × Nat} (hp : w.heap[p.block]? = some (.cells cs t fr)) (ht : t ∈ T) (u : Value) : KeepX T a (w.setCell p u) := fun k o hk hn => by
  have := h k o hk hn
  rw [Below.heap_setCell w p u k (fun e => by subst e; rw [this] at hp; injection hp with hp; subst hp; exact hn t ht rfl)]; exact this
theorem KeepX.grown (h : KeepX T a w) {row : Option Nat} (hg : w.grownBy w' row) (hr : ∀ g, row = some g → ∃ cs t fr, w.heap[g]? = some (.cells cs t fr) ∧ t ∈ T) : KeepX T a w' := fun k o hk hn => by
  have := h k o hk hn
  rw [hg.block k (lt_heap this) (fun e => by
    obtain ⟨cs, t, fr, h1, h2⟩ := hr k e.symm
    rw [this] at h1; injection h1 with h1; subst h1; exact hn t h2 rfl)]; exact this
theorem KeepX.mono {T' : List TypeId} (h : KeepX T a w) (hs : ∀ t ∈ T, t ∈ T') : KeepX T' a w := fun k o hk hn => h k o hk fun t ht => hn t (hs t ht)
end
theorem own_ty {w : World} {base : Nat} {e : TypeId} {size n : Nat} {v : Value} {xs : List Value} (h : w.ownsRow base e size v n xs) (g : Nat) (hg : v.ownBlock = some g) : ∃ cs fr, w.heap[g]? = some (.cells cs e fr) := by
  rcases h.2 with ⟨rfl, _⟩ | ⟨g', cap, cur, rfl, _, hh, _⟩
  · simp [Value.ownBlock] at hg
  · simp only [Value.ownBlock, Option.some.injEq] at hg; subst hg; exact ⟨_, _, hh⟩

/-- a block known whole, nothing in it frozen -/
def Blk (w : World) (g : Nat) (t : TypeId) (cs : Array Value) : Prop := w.heap[g]? = some (.cells cs t (0, 0))
section
variable {w w' : World} {g : Nat} {t : TypeId} {cs : Array Value}
theorem Blk.lt (h : Blk w g t cs) : g < w.heap.size := lt_heap h
theorem Blk.cell (h : Blk w g t cs) (i : Nat) : w.cell? ⟨g, i, none⟩ = cs[i]? := by unfold Blk at h; simp [World.cell?, h]
theorem Blk.frozen (h : Blk w g t cs) (i : Nat) : w.frozen? ⟨g, i, none⟩ = false := by unfold Blk at h; simp [World.frozen?, h]
theorem Blk.new (w : World) (t : TypeId) (cs : Array Value) : Blk (w.alloc (.cells cs t)) w.heap.size t cs := heap_alloc_new w _
theorem Blk.drew (h : Blk w g t cs) : Blk w.drew g t cs := h
theorem Blk.drewN (h : Blk w g t cs) (n : Nat) : Blk (w.drewN n) g t cs := h
theorem Blk.alloc (h : Blk w g t cs) (o : Obj) : Blk (w.alloc o) g t cs := (Below.heap_alloc w o g h.lt).trans h
theorem Blk.set_ (h : Blk w g t cs) (i : Nat) (u : Value) : Blk (w.setCell ⟨g, i, none⟩ u) g t (cs.setIfInBounds i u) := by
  unfold Blk at h ⊢
  simp [World.setCell, Array.getElem?_modify, h]
theorem Blk.far (h : Blk w g t cs) {p : Addr} (hp : g ≠ p.block) (u : Value) : Blk (w.setCell p u) g t cs := (Below.heap_setCell w p u g hp).trans h
theorem Blk.below {B : Nat} (h : Blk w g t cs) (hb : Below B w w') (hg : g < B) : Blk w' g t cs := (hb.block g hg).trans h
theorem Blk.keep {T : List TypeId} (h : Blk w g t cs) (hk : KeepX T w w') (ht : t ∉ T) : Blk w' g t cs :=
  hk g _ h fun t' ht' e => by simp only [tyOf, Option.some.injEq] at e; subst e; exact ht ht'
theorem Blk.grown {row : Option Nat} (h : Blk w g t cs) (hb : w.grownBy w' row) (hg : some g ≠ row) : Blk w' g t cs := (hb.block g h.lt hg).trans h
end
theorem own_ne {w : World} {base : Nat} {e t : TypeId} {size n : Nat} {v : Value} {xs : List Value} {g : Nat} {cs : Array Value} (h : w.ownsRow base e size v n xs) (hg : Blk w g t cs) (hne : e ≠ t) : some g ≠ v.ownBlock := fun e' => by
  obtain ⟨cs', fr, h1⟩ := own_ty h g e'.symm
  unfold Blk at hg; rw [hg] at h1; injection h1 with h1; injection h1 with _ h1 _; exact hne h1.symm
theorem own_of_block {w w' : World} {base : Nat} {e : TypeId} {size n : Nat} {v : Value} {xs : List Value} (h : w.ownsRow base e size v n xs)
    (hk : ∀ k, v.ownBlock = some k → w'.heap[k]? = w.heap[k]?) : w'.ownsRow base e size v n xs := by
  refine ⟨h.1, ?_⟩
  rcases h.2 with hn | ⟨g, cap, cur, rfl, hb, hgg, rest⟩
  · exact .inl hn
  · exact .inr ⟨g, cap, cur, rfl, hb, by rw [hk g rfl]; exact hgg, rest⟩

theorem own_mono {w : World} {base base' : Nat} {e : TypeId} {size n : Nat} {v : Value} {xs : List Value} (h : w.ownsRow base e size v n xs) (hb : base' ≤ base) : w.ownsRow base' e size v n xs := by
  refine ⟨h.1, ?_⟩
  rcases h.2 with hn | ⟨g, cap, cur, hv, hg, r⟩
  · exact .inl hn
  · exact .inr ⟨g, cap, cur, hv, Nat.le_trans hb hg, r⟩
theorem own_form {w : World} {base : Nat} {e : TypeId} {size n : Nat} {v : Value} {xs : List Value} (h : w.ownsRow base e size v n xs) : ∃ A cap, v = .slice A n cap := by
  rcases h.2 with ⟨rfl, rfl⟩ | ⟨g, cap, cur, rfl, _⟩
  · exact ⟨none, 0, rfl⟩
  · exact ⟨_, _, rfl⟩

theorem own_cell {w : World} {base : Nat} {e : TypeId} {size n g cap : Nat} {xs : List Value} (h : w.ownsRow base e size (.slice (some ⟨g, 0, none⟩) n cap) n xs) (j : Nat) (u : Value) (hu : xs[j]? = some u) : w.cell? ⟨g, j, none⟩ = some u := by
  have := h.cells (g := g) rfl j u hu
  have e : (⟨g, 0, none⟩ : Addr).add j = ⟨g, j, none⟩ := by unfold Addr.add; split <;> simp_all
  rwa [e] at this

theorem own_far {w w' : World} {base base' : Nat} {e e' : TypeId} {size size' n n' : Nat} {v v' : Value} {xs ys : List Value} (h : w.ownsRow base e size v n xs) (k : w.ownsRow base' e' size' v' n' ys) (hg : w.grownBy w' v'.ownBlock) (hne : e ≠ e') : w'.ownsRow base e size v n xs :=
  own_of_block h fun b hb => hg.block b (h.lt b hb).2 fun e1 => by
    obtain ⟨cs, fr, h1⟩ := own_ty h b hb
    obtain ⟨cs', fr', h2⟩ := own_ty k b e1.symm
    rw [h1] at h2
    injection h2 with h2
    injection h2 with _ h2 _
    exact hne h2

end Go.Proofs.YtgpjcjnimheglaaDoor
/-
  ROWS OF TEXTS: what a slice of strings holds; Texts of package amanuensissame.
-/
namespace Go.Proofs.YtgpjcjnimheglaaDoor
open Go.RowKit

abbrev Bs := List UInt8
def strV (b : Bs) : Value := .string ⟨b.toArray⟩
def txtV (l : List Bs) : List Value := l.map strV
theorem txtV_len (l : List Bs) : (txtV l).length = l.length := by simp [txtV]
theorem txtV_get (l : List Bs) {k : Nat} (hk : k < l.length) : (txtV l)[k]? = some (strV l[k]) := by
  simp [txtV, List.getElem?_eq_getElem hk]
theorem txtV_one (l : List Bs) : ∀ u ∈ txtV l, u.oneCell' = true := by
  intro u hu
  simp only [txtV, List.mem_map] at hu
  obtain ⟨n, _, rfl⟩ := hu
  rfl
theorem Rd.txt {w : World} {B : Nat} {A : Option Addr} {l : List Bs} {k : Nat} (h : Rd w B 1 A l.length (txtV l)) (hk : k < l.length) :
    ∃ b o, A = some ⟨b, o, none⟩ ∧ b < B ∧ w.cell? ⟨b, o + k, none⟩ = some (strV l[k]) := by
  obtain ⟨b, o, e, hb, hc⟩ := h.2 (by omega)
  exact ⟨b, o, e, hb, hc k _ (txtV_get l hk)⟩
theorem infoStr : (Tryd.prog.info? 9).map (fun i => (i.zero, i.size, i.bytes)) = some (some (.string ⟨#[]⟩), 1, 16) := by kernel_rfl

theorem take_neT {l m : List Bs} {k : Nat} (h1 : k < l.length) (h2 : k < m.length) (hne : l[k] ≠ m[k]) : decide (l = m) = false := by
  apply decide_eq_false
  intro e
  subst e
  exact hne rfl
theorem bytes_ne {a b : Bs} (h : a ≠ b) : ¬ (⟨a.toArray⟩ : ByteArray) = ⟨b.toArray⟩ := fun e => h (by
  have := congrArg (fun x : ByteArray => x.data.toList) e
  simpa using this)

set_option maxHeartbeats 1000000 in
set_option maxRecDepth 100000 in
theorem texts_walk (A A' : Option Addr) (c c' : Nat) (l m : List Bs) (w : World) (h1 : Rd w w.heap.size 1 A l.length (txtV l)) (h2 : Rd w w.heap.size 1 A' m.length (txtV m)) (hl : l.length ≤ 4194304) (hm : m.length ≤ 4194304) :
    Calls Tryd.prog 13 #[.slice A l.length c, .slice A' m.length c'] w fun e w' => e = .returned (.bool (decide (l = m))) ∧ Below w.heap.size w w' := by
  by_cases hlen : l.length = m.length
  · have Hlen := Lib.hid hlen
    have H2 := Lib.hid h2
    clear hlen h2
    have Hm2 : Hid (m.length = l.length) := Hlen.out.symm
    generalize hml : m.length = ml at *
    obtain rfl : ml = l.length := Hm2.out
    have Hml := Lib.hid hml
    clear hml Hm2 Hlen
    generalize hR : decide (l = m) = R
    have HR := Lib.hid hR
    clear hR
    go_enter Tryd.func13, Tryd.ntmps13
    go_wp2
    go_loopw [5] (fun i wr => ∃ k : Nat, k ≤ l.length ∧ i = .int .i64 k ∧ Below w.heap.size w wr ∧ Hid (l.take k = m.take k)) (fun i _ => l.length - (intOf i).toNat)
    case atStart => exact ⟨0, Nat.zero_le _, rfl, Below.refl _ _, rfl⟩
    case round =>
      obtain ⟨k, hk, rfl, hb, Hsm⟩ := hrel
      have hbs := hb.size
      by_cases hlt : k < l.length
      · have hlt2 : k < m.length := by have := Hml.out; omega
        obtain ⟨b, o, rfl, hbB, c0⟩ := Rd.txt (h1.below hb) hlt
        obtain ⟨b', o', rfl, hbB', c0'⟩ := Rd.txt (Rd.below (show Rd w w.heap.size 1 A' m.length (txtV m) by rw [Hml.out]; exact H2.out) hb) hlt2
        have i1 : (0 : Int) ≤ (k : Int) := by omega
        have i2 : (k : Int) < (l.length : Int) := by omega
        have Hst : Hid (l[k] = m[k] → l.take (k + 1) = m.take (k + 1)) := fun h => by
          rw [List.take_succ_eq_append_getElem hlt, List.take_succ_eq_append_getElem hlt2, Hsm.out, h]
        have Hne : Hid (l[k] ≠ m[k] → R = false) := fun h => by rw [← HR.out]; exact take_neT hlt hlt2 h
        unfold strV at c0 c0'
        generalize l[k] = x at *
        generalize m[k] = y at *
        clear hlt2
        by_cases hxy : x = y
        · subst hxy
          go_wp2
          go_quiet (fail)
          go_wp2
          go_roundw
          case rel => exact ⟨k + 1, by omega, by go_num, below_drewN hb _, Hst.out (by simp)⟩
          case measure => simp [intOf]; omega
        · have d1 : (x == y) = false := by simp [hxy]
          go_wp2
          go_quiet (fail)
          go_wp2
          go_ret
          exact ⟨by rw [Hne.out hxy]; rfl, below_drewN hb _⟩
      · obtain rfl : k = l.length := by omega
        go_wp2
        go_ret
        refine ⟨?_, hb⟩
        have : l = m := by
          have := Hsm.out
          rwa [List.take_length, ← Hml.out, List.take_length] at this
        rw [← HR.out, decide_eq_true this]; rfl
  · have hR : decide (l = m) = false := decide_eq_false fun e => hlen (by rw [e])
    rw [hR]
    have d1 : ¬ (l.length : Int) = (m.length : Int) := by omega
    go_enter Tryd.func13, Tryd.ntmps13
    go_wp2
    go_ret
    exact ⟨rfl, Below.refl _ _⟩

theorem ext_str (s : Bs) (a f : Nat) : Value.string ((⟨s.toArray⟩ : ByteArray).extract a f) = strV ((s.take f).drop a) := by
  unfold strV
  congr 1
  rw [← Lib.mk_data ((⟨s.toArray⟩ : ByteArray).extract a f)]
  congr 2
  rw [ext_data]
  simp [List.drop_take]
end Go.Proofs.YtgpjcjnimheglaaDoor
/-
  WALKS of package lex: escape.
-/
namespace Go.Proofs.YtgpjcjnimheglaaDoor
open Go.RowKit

def escV : Option (Nat × Nat) → Value
  | some (c, n) => .tuple #[.string (Utf8.encode c), .int .i64 n]
  | none => .tuple #[.string ⟨#[]⟩, .int .i64 0]
theorem b0_eq (L : Bs) (h : 0 < L.length) (k : UInt8) : ((((⟨L.toArray⟩ : ByteArray)[0]'(by rw [mk_size]; exact h)).toNat : Int) == (k.toNat : Int)) = decide (L[0] = k) := by
  rw [show ((⟨L.toArray⟩ : ByteArray)[0]'(by rw [mk_size]; exact h)).toNat = L[0].toNat from rfl, Bool.eq_iff_iff]
  simp only [beq_iff_eq, decide_eq_true_eq]
  constructor
  · intro e; exact UInt8.toNat_inj.1 (by omega)
  · intro e; rw [e]
theorem bk_eq (L : Bs) (i : Nat) (h : i < L.length) (k : UInt8) : ((((⟨L.toArray⟩ : ByteArray)[i]'(by rw [mk_size]; exact h)).toNat : Int) == (k.toNat : Int)) = decide (L[i] = k) := by
  rw [show ((⟨L.toArray⟩ : ByteArray)[i]'(by rw [mk_size]; exact h)).toNat = L[i].toNat from rfl, Bool.eq_iff_iff]
  simp only [beq_iff_eq, decide_eq_true_eq]
  constructor
  · intro e; exact UInt8.toNat_inj.1 (by omega)
  · intro e; rw [e]
theorem enc34 : Utf8.encode 34 = ⟨#[34]⟩ := by decide
theorem enc92 : Utf8.encode 92 = ⟨#[92]⟩ := by decide
theorem enc10 : Utf8.encode 10 = ⟨#[10]⟩ := by decide
theorem enc9 : Utf8.encode 9 = ⟨#[9]⟩ := by decide

end Go.Proofs.YtgpjcjnimheglaaDoor
/-
  THE READER OF FRAMES AS A FUNCTION ON LISTS OF BYTES, and the plain law: what is framed comes out, however it is cut.
-/
namespace Go.Proofs.YtgpjcjnimheglaaDoor.Wire
open Go.Lib

def crlf : List UInt8 := [13, 10]
def hd : List UInt8 := [67, 111, 110, 116, 101, 110, 116, 45, 76, 101, 110, 103, 116, 104]
def hdc : List UInt8 := [67, 111, 110, 116, 101, 110, 116, 45, 76, 101, 110, 103, 116, 104, 58, 32]
def dgs : List UInt8 := [48, 49, 50, 51, 52, 53, 54, 55, 56, 57]
def frameL (b : List UInt8) : List UInt8 := hdc ++ itoa b.length ++ crlf ++ crlf ++ b
def flat (bs : List (List UInt8)) : List UInt8 := (bs.map frameL).flatten

structure RS where
  rest : List UInt8
  len : Int
  body : Bool
  err : Int

/-- Is a line one that tells a length? -/
def lenB (s : List UInt8) : Bool :=
  hasPrefix s hdc && (decide (1 ≤ (s.drop 16).length) && (decide ((s.drop 16).length ≤ 10) && (trimS (s.drop 16) dgs).isEmpty))
def valD (l : List UInt8) : Int := ((decFrom 0 l).getD 0 : Nat)

def lineM (s : List UInt8) (r : RS) : RS :=
  if 1000 < s.length then { r with err := 12 }
  else if s.isEmpty then { r with body := true, err := if r.len < 0 then 3 else 0 }
  else if lenB s then { r with len := valD (s.drop 16), err := 0 }
  else if (cut s [58]).2.2 = false ∨ (cut s [58]).1 = hd then { r with err := 3 }
  else { r with err := 0 }

def stepM (r : RS) : RS × Option (List UInt8) × Bool :=
  if r.body then
    if (r.rest.length : Int) < r.len then (r, none, false)
    else ({ r with rest := r.rest.drop r.len.toNat, body := false, len := -1 }, some (r.rest.take r.len.toNat), true)
  else if (cut r.rest crlf).2.2 = false then
    ({ r with err := if 1000 < (trimSuffix r.rest [13]).length then 12 else r.err }, none, false)
  else (lineM (cut r.rest crlf).1 { r with rest := (cut r.rest crlf).2.1 }, none, (lineM (cut r.rest crlf).1 { r with rest := (cut r.rest crlf).2.1 }).err == 0)

def runM : Nat → RS → List (List UInt8) → RS × List (List UInt8)
  | 0, r, o => (r, o)
  | n + 1, r, o => if (stepM r).2.2 then runM n (stepM r).1 (o ++ (stepM r).2.1.toList) else ((stepM r).1, o)

def phi (r : RS) : Nat := 2 * r.rest.length + if r.body then 1 else 0

def feedM (r : RS) (c : List UInt8) : RS × List (List UInt8) :=
  if r.err = 0 then runM (phi { r with rest := r.rest ++ c } + 1) { r with rest := r.rest ++ c } [] else (r, [])

/-- What a reader is ahead of a step. -/
def RS.good (r : RS) : Prop := -1 ≤ r.len ∧ r.len ≤ 9999999999 ∧ (r.body = true → 0 ≤ r.len)

theorem occ_iff (s : List UInt8) (i : Nat) : occAt s crlf i = true ↔ s[i]? = some 13 ∧ s[i + 1]? = some 10 := by
  unfold occAt crlf
  have h0 : (s.drop i)[0]? = s[i]? := by rw [List.getElem?_drop]; rfl
  have h1 : (s.drop i)[1]? = s[i + 1]? := by rw [List.getElem?_drop]
  rcases h : s.drop i with _ | ⟨a, _ | ⟨b, t⟩⟩
  · rw [h] at h0 h1
    simp only [List.getElem?_nil] at h0 h1
    rw [← h0, ← h1]; simp [List.isPrefixOf]
  · rw [h] at h0 h1
    simp only [List.getElem?_cons_zero, List.getElem?_cons_succ, List.getElem?_nil] at h0 h1
    rw [← h0, ← h1]; simp [List.isPrefixOf]
  · rw [h] at h0 h1
    simp only [List.getElem?_cons_zero, List.getElem?_cons_succ] at h0 h1
    rw [← h0, ← h1]
    simp [List.isPrefixOf]
    constructor <;> rintro ⟨h, h'⟩ <;> exact ⟨h.symm, h'.symm⟩

theorem cut_at (a b : List UInt8) (h : (13 : UInt8) ∉ a) : cut (a ++ 13 :: 10 :: b) crlf = (a, b, true) := by
  have hi : index (a ++ 13 :: 10 :: b) crlf = (a.length : Nat) := by
    refine index_first (by simp) ((occ_iff _ _).2 ⟨by simp, ?_⟩) fun j hj => ?_
    · rw [List.getElem?_append_right (by omega)]; simp
    · cases ho : occAt (a ++ 13 :: 10 :: b) crlf j with
      | false => rfl
      | true =>
        have := ((occ_iff _ _).1 ho).1
        rw [List.getElem?_append_left hj] at this
        exact absurd (List.mem_of_getElem? this) h
  unfold cut
  rw [hi, if_pos (by omega)]
  refine Prod.ext ?_ (Prod.ext ?_ rfl)
  · simp
  · simp [crlf, List.drop_append]

theorem cut_none (s : List UInt8) (h : ∀ i : Nat, s[i]? = some (13 : UInt8) → s[i + 1]? = some (10 : UInt8) → False) : cut s crlf = (s, [], false) := by
  have hi : index s crlf = -1 := index_none fun j _ => by
    cases ho : occAt s crlf j with
    | false => rfl
    | true => exact absurd ((occ_iff _ _).1 ho).2 (fun h2 => h j ((occ_iff _ _).1 ho).1 h2)
  unfold cut
  rw [hi]; rfl

theorem cut_len (s : List UInt8) (h : (cut s crlf).2.2 = true) : (cut s crlf).1.length + 2 + (cut s crlf).2.1.length = s.length := by
  unfold cut at h ⊢
  split
  · rename_i h0
    have := index_room s crlf h0
    have e : crlf.length = 2 := rfl
    rw [e] at this ⊢
    simp only [List.length_take, List.length_drop]
    omega
  · rename_i h0
    rw [if_neg h0] at h; simp at h

theorem lineM_rest (s : List UInt8) (r : RS) : (lineM s r).rest = r.rest := by
  unfold lineM; split
  · rfl
  · split
    · rfl
    · split
      · rfl
      · split <;> rfl

theorem phi_step (r : RS) (_h : r.good) (ht : (stepM r).2.2 = true) : phi (stepM r).1 < phi r := by
  unfold stepM at ht ⊢
  cases hb : r.body with
  | true =>
    rw [hb] at ht
    simp only [if_true] at ht ⊢
    split
    · rename_i h1; rw [if_pos h1] at ht; simp at ht
    · simp only [phi, hb, List.length_drop]
      simp
      omega
  | false =>
    rw [hb] at ht
    simp only [Bool.false_eq_true, if_false] at ht ⊢
    split
    · rename_i h1; rw [if_pos h1] at ht; simp at ht
    · rename_i h1
      have hl := cut_len r.rest (by simpa using h1)
      simp only [phi, lineM_rest, hb]
      split <;> simp <;> omega

theorem runM_fuel : ∀ (n m : Nat) (r : RS) (o : List (List UInt8)), (∀ r : RS, r.good → (stepM r).2.2 = true → (stepM r).1.good) → r.good → phi r < n → phi r < m → runM n r o = runM m r o
  | 0, _, _, _, _, _, h, _ => by omega
  | _ + 1, 0, _, _, _, _, _, h => by omega
  | n + 1, m + 1, r, o, hg, h0, h1, h2 => by
    simp only [runM]
    cases ht : (stepM r).2.2 with
    | false => rfl
    | true =>
      simp only [if_true]
      have := phi_step r h0 ht
      exact runM_fuel n m _ _ hg (hg r h0 ht) (by omega) (by omega)

theorem valD_bound (l : List UInt8) (h : l.length ≤ 10) : 0 ≤ valD l ∧ valD l ≤ 9999999999 := by
  unfold valD
  cases hd : decFrom 0 l with
  | none => simp
  | some n =>
    have := decFrom_lt l 0 n hd
    have h2 : 10 ^ l.length ≤ 10 ^ 10 := Nat.pow_le_pow_right (by omega) h
    simp
    omega

theorem lenB_parts {s : List UInt8} (h : lenB s = true) : hasPrefix s hdc = true ∧ 1 ≤ (s.drop 16).length ∧ (s.drop 16).length ≤ 10 ∧ trimS (s.drop 16) dgs = [] := by
  simp only [lenB, Bool.and_eq_true, decide_eq_true_eq, List.isEmpty_iff] at h
  exact h

theorem good_line (s : List UInt8) (r : RS) (h : -1 ≤ r.len ∧ r.len ≤ 9999999999) (hb : r.body = false) (he : (lineM s r).err = 0) : (lineM s r).good := by
  unfold lineM at he ⊢
  split
  · rename_i h1; rw [if_pos h1] at he; simp at he
  · rename_i h1; rw [if_neg h1] at he
    split
    · rename_i h2; rw [if_pos h2] at he
      refine ⟨h.1, h.2, fun _ => ?_⟩
      simp only at he ⊢
      by_cases h3 : r.len < 0
      · rw [if_pos h3] at he; omega
      · omega
    · rename_i h2; rw [if_neg h2] at he
      split
      · rename_i h3
        have hv := valD_bound (s.drop 16) (lenB_parts h3).2.2.1
        exact ⟨by show -1 ≤ valD _; omega, hv.2, fun hb' => by rw [show (RS.body _) = r.body from rfl, hb] at hb'; cases hb'⟩
      · split
        · rename_i h3 h4; rw [if_neg h3, if_pos h4] at he; simp at he
        · exact ⟨h.1, h.2, fun hb' => by rw [show (RS.body _) = r.body from rfl, hb] at hb'; cases hb'⟩

theorem good_step (r : RS) (h : r.good) (ht : (stepM r).2.2 = true) : (stepM r).1.good := by
  unfold stepM at ht ⊢
  cases hb : r.body with
  | true =>
    rw [hb] at ht
    simp only [if_true] at ht ⊢
    split
    · rename_i h1; rw [if_pos h1] at ht; simp at ht
    · exact ⟨by simp, by simp, fun h => by simp at h⟩
  | false =>
    rw [hb] at ht
    simp only [Bool.false_eq_true, if_false] at ht ⊢
    split
    · rename_i h1; rw [if_pos h1] at ht; simp at ht
    · rename_i h1; rw [if_neg h1] at ht
      exact good_line _ _ ⟨h.1, h.2.1⟩ rfl (by simpa using ht)

theorem runM_step (r : RS) (o : List (List UInt8)) (h : r.good) (ht : (stepM r).2.2 = true) : runM (phi (stepM r).1 + 1) (stepM r).1 (o ++ (stepM r).2.1.toList) = runM (phi r + 1) r o := by
  have h1 := phi_step r h ht
  conv => rhs; rw [runM, if_pos ht]
  exact runM_fuel _ _ _ _ good_step (good_step r h ht) (by omega) (by omega)

theorem runM_stop (r : RS) (o : List (List UInt8)) (n : Nat) (ht : (stepM r).2.2 = false) : runM (n + 1) r o = ((stepM r).1, o) := by
  rw [runM, if_neg (by simp [ht])]

end Go.Proofs.YtgpjcjnimheglaaDoor.Wire
/-
  THE PLAIN LAW of a length: digits, read as a number.
-/
namespace Go.Proofs.YtgpjcjnimheglaaDoor.Wire
open Go.Lib

theorem drop_nil (l cs : List UInt8) (h : l.dropWhile (cs.contains ·) = []) : ∀ b ∈ l, cs.contains b = true := by
  induction l with
  | nil => intro b hb; simp at hb
  | cons a t ih =>
    rw [List.dropWhile_cons] at h
    split at h
    · rename_i ha
      intro b hb
      rcases List.mem_cons.1 hb with rfl | hb
      · exact ha
      · exact ih h b hb
    · cases h
theorem drop_head (l cs : List UInt8) : ∀ a t, l.dropWhile (cs.contains ·) = a :: t → cs.contains a = false := by
  induction l with
  | nil => intro a t h; simp at h
  | cons x l ih =>
    intro a t h
    rw [List.dropWhile_cons] at h
    split at h
    · exact ih a t h
    · rename_i hx
      injection h with h1 _
      subst h1
      simpa using hx
theorem trim_nil (l cs : List UInt8) (h : trimS l cs = []) : ∀ b ∈ l, cs.contains b = true := by
  unfold trimS trimLeftS at h
  have h1 := drop_nil _ _ h
  unfold trimRightS at h1
  cases hd : l.reverse.dropWhile (cs.contains ·) with
  | nil =>
    intro b hb
    exact drop_nil _ _ hd b (List.mem_reverse.2 hb)
  | cons a t =>
    have h2 := drop_head _ _ a t hd
    rw [hd] at h1
    have h3 := h1 a (List.mem_reverse.2 (by simp))
    rw [h2] at h3; cases h3

theorem dg_val (b : UInt8) (h : dgs.contains b = true) : ∃ d, digitVal b = some d ∧ 48 ≤ b.toNat ∧ b.toNat ≤ 57 := by
  have hm : b ∈ dgs := by simpa using h
  simp only [dgs, List.mem_cons, List.mem_nil_iff, or_false] at hm
  rcases hm with rfl | rfl | rfl | rfl | rfl | rfl | rfl | rfl | rfl | rfl <;> exact ⟨_, rfl, by decide, by decide⟩
theorem decFrom_all : ∀ (l : List UInt8) (acc : Nat), (∀ b ∈ l, dgs.contains b = true) → ∃ n, decFrom acc l = some n ∧ acc ≤ n
  | [], acc, _ => ⟨acc, rfl, Nat.le_refl _⟩
  | b :: t, acc, h => by
    obtain ⟨d, hd, _⟩ := dg_val b (h b (by simp))
    obtain ⟨n, hn, hle⟩ := decFrom_all t (acc * 10 + d) fun x hx => h x (by simp [hx])
    exact ⟨n, by simp only [decFrom, hd]; exact hn, by omega⟩
theorem parse_dec : ∀ (l : List UInt8) (acc n : Nat), (∀ b ∈ l, dgs.contains b = true) → decFrom acc l = some n → n < 1000000000000000000 → parseUint10 acc l = .ok n
  | [], acc, n, _, h, _ => by simp only [decFrom] at h; injection h with h; subst h; rfl
  | b :: t, acc, n, hb, h, hn => by
    obtain ⟨d, hd, h1, h2⟩ := dg_val b (hb b (by simp))
    obtain ⟨_, _, hd2⟩ := digitVal_eq hd
    simp only [decFrom, hd] at h
    obtain ⟨m, hm, hle⟩ := decFrom_all t (acc * 10 + d) fun x hx => hb x (by simp [hx])
    rw [h] at hm; injection hm with hm; subst hm
    unfold parseUint10
    rw [if_pos ⟨h1, h2⟩, if_neg (by omega), if_neg (by omega), ← hd2]
    exact parse_dec t _ n (fun x hx => hb x (by simp [hx])) h hn

theorem atoi_digits (l : List UInt8) (h1 : 1 ≤ l.length) (h2 : l.length ≤ 10) (h3 : trimS l dgs = []) : atoiAll l = .ok (valD l) := by
  have hall := trim_nil l dgs h3
  obtain ⟨n, hn, _⟩ := decFrom_all l 0 hall
  have hlt := decFrom_lt l 0 n hn
  have h4 : 10 ^ l.length ≤ 10 ^ 10 := Nat.pow_le_pow_right (by omega) h2
  have hp := parse_dec l 0 n hall hn (by omega)
  cases l with
  | nil => simp at h1
  | cons c r =>
    obtain ⟨_, _, k1, k2⟩ := dg_val c (hall c (by simp))
    unfold atoiAll
    simp only
    rw [if_neg (by omega)]
    unfold parseMag
    rw [if_neg (by simp), hp]
    simp only
    rw [if_neg (by omega), if_neg (by omega), if_neg (by omega)]
    unfold valD
    rw [hn]; rfl
end Go.Proofs.YtgpjcjnimheglaaDoor.Wire
/-
  THE WALK of the reader's line.
-/
namespace Go.Proofs.YtgpjcjnimheglaaDoor
open Go.RowKit

def rdC (r : Wire.RS) : Array Value := #[strV r.rest, .int .i64 r.len, .bool r.body, .int .i64 r.err]
def Oth1 (p : Nat) (w w' : World) : Prop := ∀ b, b < w.heap.size → b ≠ p → w'.heap[b]? = w.heap[b]?
theorem Oth1.trans {p : Nat} {w w1 w2 : World} (h : Oth1 p w w1) (h' : Oth1 p w1 w2) (hs : w.heap.size ≤ w1.heap.size) : Oth1 p w w2 := fun b hb hn => (h' b (by omega) hn).trans (h b hb hn)
theorem Oth1.set {p : Nat} (w : World) (j : Nat) (u : Value) : Oth1 p w (w.setCell ⟨p, j, none⟩ u) := fun b _ hn => Below.heap_setCell w ⟨p, j, none⟩ u b hn
theorem Oth1.below {p : Nat} {w w' : World} (h : Below w.heap.size w w') : Oth1 p w w' := fun b hb _ => h.block b hb
theorem Oth1.refl (p : Nat) (w : World) : Oth1 p w w := fun _ _ _ => rfl

theorem trim_walk (s : Bs) (w : World) (hs : s.length ≤ 100000000) : Calls Tryd.prog 54 #[.string ⟨s.toArray⟩, .string ⟨#[48, 49, 50, 51, 52, 53, 54, 55, 56, 57]⟩] w fun e w' => e = .returned (.string ⟨(Lib.trimS s Wire.dgs).toArray⟩) ∧ Below w.heap.size w w' :=
  Any.strings_Trim_laid Tryd.lays160 (by kernel_rfl) ⟨s.toArray⟩ ⟨#[48, 49, 50, 51, 52, 53, 54, 55, 56, 57]⟩ w (by rw [mk_size]; omega) (by decide) (ascii_of_all (by decide))
theorem atoi_walk (s : Bs) (w : World) (h1 : 1 ≤ s.length) (h2 : s.length ≤ 10) (h3 : Lib.trimS s Wire.dgs = []) : Calls Tryd.prog 40 #[.string ⟨s.toArray⟩] w fun e w' => e = .returned (.tuple #[.int .i64 (Wire.valD s), .nilIface]) ∧ Below w.heap.size w w' :=
  (Tryd.strconv_Atoi_ok ⟨s.toArray⟩ (by rw [mk_size]; omega) (Wire.valD s) (Wire.atoi_digits s h1 h2 h3) w).mono fun e w' h => by
    refine ⟨h.1, ?_⟩
    rcases h.2 with rfl | ⟨t, rfl⟩
    · exact Below.refl _ _
    · exact Lib.bytesWorld_below _ _ _
end Go.Proofs.YtgpjcjnimheglaaDoor
/-
  THE PLAIN LAW: what is framed comes out of the reader, however it is cut.
-/
namespace Go.Proofs.YtgpjcjnimheglaaDoor.Wire
open Go.Lib

theorem dec_digits : ∀ (u : Nat), ∀ b ∈ decDigits u, ∃ d, d < 10 ∧ b = UInt8.ofNat (48 + d)
  | u => by
    intro b hb
    rw [decDigits] at hb
    split at hb
    · rename_i h; rw [List.mem_singleton] at hb; exact ⟨u, h, hb⟩
    · rename_i h
      rw [List.mem_append] at hb
      rcases hb with hb | hb
      · exact dec_digits (u / 10) b hb
      · rw [List.mem_singleton] at hb; exact ⟨u % 10, by omega, hb⟩
termination_by u => u

theorem digit_of {d : Nat} (h : d < 10) : digitVal (UInt8.ofNat (48 + d)) = some d := by
  have : (UInt8.ofNat (48 + d)).toNat = 48 + d := by simp [UInt8.toNat_ofNat']; omega
  unfold digitVal
  rw [this, if_pos (by omega)]
  congr 1; omega

theorem decFrom_snoc (l : List UInt8) (d : Nat) (h : d < 10) : ∀ acc n, decFrom acc l = some n → decFrom acc (l ++ [UInt8.ofNat (48 + d)]) = some (n * 10 + d) := by
  induction l with
  | nil => intro acc n hn; simp only [decFrom] at hn; injection hn with hn; subst hn; simp only [List.nil_append, decFrom, digit_of h]
  | cons b t ih =>
    intro acc n hn
    simp only [decFrom, List.cons_append] at hn ⊢
    cases hd : digitVal b with
    | none => rw [hd] at hn; simp at hn
    | some x => rw [hd] at hn; exact ih _ _ hn

theorem dec_back : ∀ (u : Nat), decFrom 0 (decDigits u) = some u
  | u => by
    rw [decDigits]
    split
    · rename_i h; simp only [decFrom, digit_of h]; simp
    · rename_i h
      rw [decFrom_snoc _ (u % 10) (by omega) 0 (u / 10) (dec_back (u / 10))]
      congr 1; omega
termination_by u => u

theorem nDigits_le : ∀ (k u : Nat), 1 ≤ k → u < 10 ^ k → nDigits u ≤ k
  | 0, _, h, _ => by omega
  | k + 1, u, _, h => by
    rw [nDigits]
    split
    · omega
    · rename_i h1
      by_cases hk : k = 0
      · subst hk; omega
      · have := nDigits_le k (u / 10) (by omega) (by rw [Nat.pow_succ] at h; omega)
        omega

theorem itoa_nat (n : Nat) : itoa (n : Int) = decDigits n := by unfold itoa; rw [if_neg (by omega)]; simp

theorem dgs_all {d : Nat} (h : d < 10) : dgs.contains (UInt8.ofNat (48 + d)) = true := by
  rcases (by omega : d = 0 ∨ d = 1 ∨ d = 2 ∨ d = 3 ∨ d = 4 ∨ d = 5 ∨ d = 6 ∨ d = 7 ∨ d = 8 ∨ d = 9) with rfl | rfl | rfl | rfl | rfl | rfl | rfl | rfl | rfl | rfl <;> decide

theorem no13 (n : Nat) : (13 : UInt8) ∉ hdc ++ decDigits n := by
  rw [List.mem_append]
  rintro (h | h)
  · revert h; decide
  · obtain ⟨d, hd, he⟩ := dec_digits n 13 h
    have := congrArg UInt8.toNat he
    simp [UInt8.toNat_ofNat'] at this
    omega

theorem trim_digits (n : Nat) : trimS (decDigits n) dgs = [] := by
  have h : trimRightS (decDigits n) dgs = (decDigits n).take 0 := trimRightS_take _ _ 0 (Nat.zero_le _) (fun j b _ hb => by
    obtain ⟨d, hd, rfl⟩ := dec_digits n b (List.mem_of_getElem? hb)
    exact dgs_all hd) (fun b h => by omega)
  unfold trimS
  rw [h]; rfl

theorem line_len (n : Nat) (h : n < 1000000000) (r : RS) : lineM (hdc ++ decDigits n) r = { r with len := n, err := 0 } := by
  have hl := decDigits_length n
  have h1 := nDigits_le 9 n (by omega) (by simpa using h)
  have h2 := nDigits_pos n
  have e16 : hdc.length = 16 := rfl
  have hdrop : (hdc ++ decDigits n).drop 16 = decDigits n := by
    rw [List.drop_append, show hdc.drop 16 = [] from rfl, e16]; simp
  have hB : lenB (hdc ++ decDigits n) = true := by
    unfold lenB
    rw [hdrop]
    have hp : hasPrefix (hdc ++ decDigits n) hdc = true := by unfold hasPrefix; simp
    rw [hp, trim_digits]
    simp; omega
  unfold lineM
  rw [if_neg (by rw [List.length_append, e16]; omega), if_neg (by simp [hdc]), if_pos hB, hdrop]
  unfold valD
  rw [dec_back]; rfl

inductive Ph (bs : List (List UInt8)) (r : RS) (U : List UInt8) : Prop
  | a (hb : r.body = false) (hl : r.len = -1) (h : r.rest ++ U = flat bs) : Ph bs r U
  | b (x : List UInt8) (t : List (List UInt8)) (e : bs = x :: t) (hb : r.body = false) (hl : r.len = (x.length : Nat)) (h : r.rest ++ U = 13 :: 10 :: x ++ flat t) : Ph bs r U
  | c (x : List UInt8) (t : List (List UInt8)) (e : bs = x :: t) (hb : r.body = true) (hl : r.len = (x.length : Nat)) (h : r.rest ++ U = x ++ flat t) : Ph bs r U

/-- A text that is shorter than a closed piece without the sign, and one sign more, has no line's end. -/
theorem cut_short (s U L V : List UInt8) (h : s ++ U = L ++ 13 :: 10 :: V) (hl : s.length < L.length + 2) (hn : (13 : UInt8) ∉ L) : cut s crlf = (s, [], false) :=
  cut_none s fun i h1 h2 => by
    have hi : i + 1 < s.length := by
      rcases Nat.lt_or_ge (i + 1) s.length with h | h
      · exact h
      · rw [List.getElem?_eq_none h] at h2; simp at h2
    have e : (s ++ U)[i]? = s[i]? := List.getElem?_append_left (by omega)
    rw [h, h1, List.getElem?_append_left (by omega)] at e
    exact hn (List.mem_of_getElem? e)

theorem cut_long (s U L V : List UInt8) (h : s ++ U = L ++ 13 :: 10 :: V) (hl : L.length + 2 ≤ s.length) (hn : (13 : UInt8) ∉ L) : ∃ s', cut s crlf = (L, s', true) ∧ s' ++ U = V := by
  have e : s = L ++ 13 :: 10 :: s.drop (L.length + 2) := by
    have h1 : s = (s ++ U).take s.length := by simp
    have h2 : s.take (L.length + 2) = L ++ [13, 10] := by
      have : s.take (L.length + 2) = (s ++ U).take (L.length + 2) := by rw [List.take_append_of_le_length hl]
      rw [this, h, show L ++ 13 :: 10 :: V = (L ++ [13, 10]) ++ V by simp, List.take_append_of_le_length (by simp), List.take_of_length_le (by simp)]
    conv => lhs; rw [← List.take_append_drop (L.length + 2) s, h2]
    simp
  refine ⟨s.drop (L.length + 2), ?_, ?_⟩
  · conv => lhs; rw [e]
    exact cut_at _ _ hn
  · rw [e] at h
    simp only [List.append_assoc, List.cons_append] at h
    have := List.append_cancel_left h
    simpa using this

theorem trim_le (s p : List UInt8) : (trimSuffix s p).length ≤ s.length := by
  unfold trimSuffix; split
  · simp
  · exact Nat.le_refl _

theorem miss_step (r : RS) (hb : r.body = false) (he : r.err = 0) (hc : cut r.rest crlf = (r.rest, [], false)) (hl : r.rest.length ≤ 1000) : stepM r = (r, none, false) := by
  obtain ⟨rest, len, body, err⟩ := r
  simp only at hb he hc hl
  subst hb he
  unfold stepM
  have := trim_le rest [13]
  simp only [Bool.false_eq_true, if_false, hc, if_true]
  rw [if_neg (by omega)]

theorem step_ph (bs : List (List UInt8)) (hs : ∀ b ∈ bs, b.length < 1000000000) (r : RS) (U : List UInt8) (he : r.err = 0) (h : Ph bs r U) :
    (stepM r).1.err = 0 ∧ (((stepM r).2.2 = false ∧ (stepM r).1 = r ∧ (U = [] → bs = [])) ∨ ((stepM r).2.2 = true ∧ ∃ bs', bs = (stepM r).2.1.toList ++ bs' ∧ Ph bs' (stepM r).1 U)) := by
  cases h with
  | a hb hl h =>
    cases bs with
    | nil =>
      have hr : r.rest = [] := by have := congrArg List.length h; simp [flat] at this; exact this.1
      have hm := miss_step r hb he (by rw [hr]; exact cut_none [] (by simp)) (by rw [hr]; simp)
      rw [hm]
      exact ⟨he, Or.inl ⟨rfl, rfl, fun _ => rfl⟩⟩
    | cons x t =>
      have hx := hs x (by simp)
      have hD := nDigits_le 9 x.length (by omega) (by simpa using hx)
      have hL := decDigits_length x.length
      have e16 : hdc.length = 16 := rfl
      have h' : r.rest ++ U = (hdc ++ decDigits x.length) ++ 13 :: 10 :: (13 :: 10 :: x ++ flat t) := by
        rw [h]
        simp [flat, frameL, itoa_nat, crlf]
      rcases Nat.lt_or_ge r.rest.length ((hdc ++ decDigits x.length).length + 2) with hlt | hge
      · have hm := miss_step r hb he (cut_short _ _ _ _ h' hlt (no13 _)) (by rw [List.length_append, e16] at hlt; omega)
        rw [hm]
        refine ⟨he, Or.inl ⟨rfl, rfl, fun hU => ?_⟩⟩
        subst hU
        have := congrArg List.length h'
        simp at this hlt
        omega
      · obtain ⟨s', hc, hs'⟩ := cut_long _ _ _ _ h' hge (no13 _)
        have hst : stepM r = ({ r with rest := s', len := (x.length : Nat), err := 0 }, none, true) := by
          unfold stepM
          simp only [hb, Bool.false_eq_true, if_false, hc]
          rw [line_len _ hx]
          simp
        rw [hst]
        exact ⟨rfl, Or.inr ⟨rfl, x :: t, rfl, .b x t rfl hb rfl hs'⟩⟩
  | b x t e hb hl h =>
    subst e
    rcases Nat.lt_or_ge r.rest.length 2 with hlt | hge
    · have hm := miss_step r hb he (cut_short _ _ [] _ h hlt (by simp)) (by omega)
      rw [hm]
      refine ⟨he, Or.inl ⟨rfl, rfl, fun hU => ?_⟩⟩
      subst hU
      have := congrArg List.length h
      simp at this
      omega
    · obtain ⟨s', hc, hs'⟩ := cut_long _ _ [] _ h hge (by simp)
      have hst : stepM r = ({ r with rest := s', body := true, err := 0 }, none, true) := by
        unfold stepM
        simp only [hb, Bool.false_eq_true, if_false, hc]
        unfold lineM
        simp [hl]
      rw [hst]
      exact ⟨rfl, Or.inr ⟨rfl, x :: t, rfl, .c x t rfl rfl hl hs'⟩⟩
  | c x t e hb hl h =>
    subst e
    unfold stepM
    simp only [hb, if_true]
    rcases Nat.lt_or_ge r.rest.length x.length with hlt | hge
    · rw [if_pos (by rw [hl]; omega)]
      refine ⟨he, Or.inl ⟨rfl, rfl, fun hU => ?_⟩⟩
      subst hU
      have := congrArg List.length h
      simp at this
      omega
    · rw [if_neg (by rw [hl]; omega)]
      have ht : r.rest.take r.len.toNat = x := by
        have : (r.rest ++ U).take x.length = x := by rw [h]; simp
        rw [List.take_append_of_le_length hge] at this
        rw [hl]; simpa using this
      have hd : r.rest.drop r.len.toNat ++ U = flat t := by
        have : (r.rest ++ U).drop x.length = flat t := by rw [h]; simp
        rw [List.drop_append_of_le_length hge] at this
        rw [hl]; simpa using this
      exact ⟨he, Or.inr ⟨rfl, t, by simp [ht], .a rfl rfl hd⟩⟩

theorem run_ph : ∀ (n : Nat) (bs : List (List UInt8)) (r : RS) (U : List UInt8) (o : List (List UInt8)), (∀ b ∈ bs, b.length < 1000000000) → r.err = 0 → Ph bs r U → phi r < n → r.good →
    (runM n r o).1.err = 0 ∧ (runM n r o).1.good ∧ ∃ l bs', (runM n r o).2 = o ++ l ∧ bs = l ++ bs' ∧ Ph bs' (runM n r o).1 U ∧ (U = [] → bs' = [])
  | 0, _, _, _, _, _, _, _, h, _ => by omega
  | n + 1, bs, r, U, o, hs, he, hp, hn, hg => by
    obtain ⟨h1, h2⟩ := step_ph bs hs r U he hp
    rcases h2 with ⟨hf, hr, hU⟩ | ⟨ht, bs', hbs, hp'⟩
    · rw [runM_stop _ _ _ hf]
      rw [hr]
      exact ⟨he, hg, [], bs, by simp, rfl, hp, hU⟩
    · have hphi := phi_step r hg ht
      have := run_ph n bs' (stepM r).1 U (o ++ (stepM r).2.1.toList) (fun b hb => hs b (by rw [hbs]; simp [hb])) h1 hp' (by omega) (good_step r hg ht)
      obtain ⟨k1, k2, l, bs'', k3, k4, k5, k6⟩ := this
      rw [runM, if_pos ht]
      exact ⟨k1, k2, (stepM r).2.1.toList ++ l, bs'', by rw [k3, List.append_assoc], by rw [hbs, k4, List.append_assoc], k5, k6⟩

theorem feed_ph (bs : List (List UInt8)) (hs : ∀ b ∈ bs, b.length < 1000000000) (r : RS) (c U : List UInt8) (he : r.err = 0) (hg : r.good) (hp : Ph bs r (c ++ U)) :
    (feedM r c).1.err = 0 ∧ (feedM r c).1.good ∧ ∃ bs', bs = (feedM r c).2 ++ bs' ∧ Ph bs' (feedM r c).1 U ∧ (U = [] → bs' = []) := by
  unfold feedM
  rw [if_pos he]
  have hp' : Ph bs { r with rest := r.rest ++ c } U := by
    cases hp with
    | a hb hl h => exact .a hb hl (by simpa using h)
    | b x t e hb hl h => exact .b x t e hb hl (by simpa using h)
    | c x t e hb hl h => exact .c x t e hb hl (by simpa using h)
  obtain ⟨k1, k2, l, bs', k3, k4, k5, k6⟩ := run_ph _ bs { r with rest := r.rest ++ c } U [] hs he hp' (Nat.lt_succ_self _) hg
  exact ⟨k1, k2, bs', by rw [k3, k4]; simp, k5, k6⟩

/-- A text cut at places: what the law's own function makes. -/
def cutsM (s : List UInt8) : Nat → List Int → List (List UInt8)
  | last, [] => [s.drop last]
  | last, c :: cs => if (last : Int) ≤ c ∧ c ≤ s.length then (s.take c.toNat).drop last :: cutsM s c.toNat cs else cutsM s last cs

theorem cutsM_flat (s : List UInt8) : ∀ (cs : List Int) (last : Nat), last ≤ s.length → (cutsM s last cs).flatten = s.drop last
  | [], last, _ => by simp [cutsM]
  | c :: cs, last, h => by
    unfold cutsM
    split
    · rename_i hc
      rw [List.flatten_cons, cutsM_flat s cs c.toNat (by omega)]
      have : s.drop last = (s.take c.toNat).drop last ++ s.drop c.toNat := by
        conv => lhs; rw [← List.take_append_drop c.toNat s]
        rw [List.drop_append_of_le_length (by rw [List.length_take]; omega)]
      exact this.symm
    · exact cutsM_flat s cs last h

theorem cutsM_ne (s : List UInt8) : ∀ (cs : List Int) (last : Nat), cutsM s last cs ≠ []
  | [], _ => by simp [cutsM]
  | c :: cs, last => by
    unfold cutsM
    split
    · simp
    · exact cutsM_ne s cs last

/-- The reader at the beginning. -/
def r0 : RS := ⟨[], -1, false, 0⟩
theorem r0_good : r0.good := ⟨by simp [r0], by simp [r0], fun h => by simp [r0] at h⟩
theorem r0_ph (bs : List (List UInt8)) : Ph bs r0 (flat bs) := .a rfl rfl rfl

/-- How long a frame is. -/
theorem frame_len (b : List UInt8) (h : b.length < 1000000000) : (frameL b).length ≤ b.length + 29 := by
  have h1 := nDigits_le 9 b.length (by omega) (by simpa using h)
  have h2 := decDigits_length b.length
  simp only [frameL, itoa_nat, List.length_append, crlf, List.length_cons, List.length_nil]
  have : hdc.length = 16 := rfl
  omega

theorem flat_len (bs : List (List UInt8)) (hs : ∀ b ∈ bs, b.length < 1000000000) : (flat bs).length ≤ (bs.map List.length).sum + 29 * bs.length := by
  induction bs with
  | nil => simp [flat]
  | cons b t ih =>
    have h1 := frame_len b (hs b (by simp))
    have h2 := ih fun x hx => hs x (by simp [hx])
    simp only [flat, List.map_cons, List.flatten_cons, List.length_append, List.sum_cons, List.length_cons] at *
    omega

end Go.Proofs.YtgpjcjnimheglaaDoor.Wire
