/-
  VALUES OF MESSAGES IN MEMORY, as a reading makes them: their rows keep to some blocks.
-/
import Derived.Test.YtgpjcjnimheglaaGreatDoorNG
namespace Go.Proofs.YtgpjcjnimheglaaGreatDoor
open Go.RowKit

/-- a slice that is only read, in one of the blocks F -/
def RdF (w : World) (F : Nat → Prop) (size : Nat) (A : Option Addr) (n : Nat) (xs : List Value) : Prop :=
  xs.length = n * size ∧ (0 < n → ∃ b o, A = some ⟨b, o, none⟩ ∧ F b ∧ b < w.heap.size ∧ ∀ j u, xs[j]? = some u → w.cell? ⟨b, o + j, none⟩ = some u)
/-- all of the blocks F are as they were -/
def KeepF (F : Nat → Prop) (w w' : World) : Prop := w.heap.size ≤ w'.heap.size ∧ ∀ b, F b → b < w.heap.size → w'.heap[b]? = w.heap[b]?
section
variable {w w' w1 : World} {F F' : Nat → Prop}
theorem KeepF.refl (F : Nat → Prop) (w : World) : KeepF F w w := ⟨Nat.le_refl _, fun _ _ _ => rfl⟩
theorem KeepF.trans (h : KeepF F w w1) (h' : KeepF F w1 w') : KeepF F w w' :=
  ⟨Nat.le_trans h.1 h'.1, fun b hb hl => (h'.2 b hb (by have := h.1; omega)).trans (h.2 b hb hl)⟩
theorem KeepF.below (hb : Below w.heap.size w w') : KeepF F w w' := ⟨hb.size, fun b _ hl => hb.block b hl⟩
theorem KeepF.cell (h : KeepF F w w') {b o : Nat} (hF : F b) (hl : b < w.heap.size) : w'.cell? ⟨b, o, none⟩ = w.cell? ⟨b, o, none⟩ := World.cell?_of_block (a := ⟨b, o, none⟩) (h.2 b hF hl)
theorem RdF.keep {size n : Nat} {A : Option Addr} {xs : List Value} (h : RdF w F size A n xs) (hk : KeepF F w w') (hF : ∀ b, F b → b < w.heap.size → F' b) : RdF w' F' size A n xs :=
  ⟨h.1, fun hn => by
    obtain ⟨b, o, e, hb, hl, hc⟩ := h.2 hn
    exact ⟨b, o, e, hF b hb hl, by have := hk.1; omega, fun j u hu => (hk.cell hb hl).trans (hc j u hu)⟩⟩
theorem RdF.rd {size n : Nat} {A : Option Addr} {xs : List Value} (h : RdF w F size A n xs) : Rd w w.heap.size size A n xs :=
  ⟨h.1, fun hn => by
    obtain ⟨b, o, e, hb, hl, hc⟩ := h.2 hn
    exact ⟨b, o, e, hl, hc⟩⟩
end

/-- the five cells of a value -/
def jcells (j : JT) (Ak : Option Addr) (ck : Nat) (Ad : Option Addr) (cd : Nat) : List Value := [.int .i64 j.kind, .int .i64 j.num, strV j.text, .slice Ak j.keys.length ck, .slice Ad j.kids.length cd]
/-- numbers that fit -/
def JFit (j : JT) : Prop := (-9223372036854775808 ≤ j.num ∧ j.num ≤ 9223372036854775807) ∧ (-9223372036854775808 ≤ j.kind ∧ j.kind ≤ 9223372036854775807)
/-- a row of values, so deep, in the blocks F -/
def JsF (w : World) (F : Nat → Prop) : Nat → List JT → Option Addr → Prop
  | 0, l, _ => l = []
  | d + 1, l, A => 0 < l.length → ∃ b o, A = some ⟨b, o, none⟩ ∧ F b ∧ b < w.heap.size ∧ ∀ k (h : k < l.length), ∃ Ak ck Ad cd,
      (∀ j u, (jcells l[k] Ak ck Ad cd)[j]? = some u → w.cell? ⟨b, o + (k * 5 + j), none⟩ = some u) ∧
      RdF w F 1 Ak l[k].keys.length (txtV l[k].keys) ∧ l[k].keys.length ≤ ck ∧ JsF w F d l[k].kids Ad ∧ JFit l[k]
/-- a value's rows -/
def JInF (w : World) (F : Nat → Prop) (d : Nat) (j : JT) (Ak : Option Addr) (ck : Nat) (Ad : Option Addr) : Prop :=
  RdF w F 1 Ak j.keys.length (txtV j.keys) ∧ j.keys.length ≤ ck ∧ JsF w F d j.kids Ad ∧ JFit j
theorem JsF.keep {w w' : World} {F F' : Nat → Prop} : ∀ {d : Nat} {l : List JT} {A : Option Addr}, JsF w F d l A → KeepF F w w' → (∀ b, F b → b < w.heap.size → F' b) → JsF w' F' d l A
  | 0, _, _, h, _, _ => h
  | d + 1, l, A, h, hk, hF => fun hn => by
    obtain ⟨b, o, e, hb, hl, hh⟩ := h hn
    refine ⟨b, o, e, hF b hb hl, by have := hk.1; omega, fun k hkl => ?_⟩
    obtain ⟨Ak, ck, Ad, cd, hc, hr, hle, hj, hf⟩ := hh k hkl
    exact ⟨Ak, ck, Ad, cd, fun j u hu => (hk.cell hb hl).trans (hc j u hu), hr.keep hk hF, hle, JsF.keep hj hk hF, hf⟩
theorem JInF.keep {w w' : World} {F F' : Nat → Prop} {d : Nat} {j : JT} {Ak Ad : Option Addr} {ck : Nat} (h : JInF w F d j Ak ck Ad) (hk : KeepF F w w') (hF : ∀ b, F b → b < w.heap.size → F' b) : JInF w' F' d j Ak ck Ad :=
  ⟨h.1.keep hk hF, h.2.1, h.2.2.1.keep hk hF, h.2.2.2⟩
theorem JsF.succ {w : World} {F : Nat → Prop} : ∀ {d : Nat} {l : List JT} {A : Option Addr}, JsF w F d l A → JsF w F (d + 1) l A
  | 0, l, A, h => fun hn => by
    have h : l = [] := h
    subst h
    exact absurd hn (by simp)
  | d + 1, l, A, h => fun hn => by
    obtain ⟨b, o, e, hb, hl, hh⟩ := h hn
    refine ⟨b, o, e, hb, hl, fun k hkl => ?_⟩
    obtain ⟨Ak, ck, Ad, cd, hc, hr, hle, hj, hf⟩ := hh k hkl
    exact ⟨Ak, ck, Ad, cd, hc, hr, hle, JsF.succ hj, hf⟩

/-- the values of a row that is being made: what its cells are, and their rows -/
def KidsF (w : World) (F : Nat → Prop) (d : Nat) (l : List JT) (xs : List Value) : Prop :=
  xs.length = l.length * 5 ∧ ∀ k (h : k < l.length), ∃ Ak ck Ad cd, (∀ j, j < 5 → xs[k * 5 + j]? = (jcells l[k] Ak ck Ad cd)[j]?) ∧ JInF w F d l[k] Ak ck Ad
theorem KidsF.nil (w : World) (F : Nat → Prop) (d : Nat) : KidsF w F d [] [] := ⟨rfl, fun k h => by simp at h⟩
theorem KidsF.keep {w w' : World} {F F' : Nat → Prop} {d : Nat} {l : List JT} {xs : List Value} (h : KidsF w F d l xs) (hk : KeepF F w w') (hF : ∀ b, F b → b < w.heap.size → F' b) : KidsF w' F' d l xs :=
  ⟨h.1, fun k hkl => by
    obtain ⟨Ak, ck, Ad, cd, hc, hj⟩ := h.2 k hkl
    exact ⟨Ak, ck, Ad, cd, hc, hj.keep hk hF⟩⟩
theorem KidsF.snoc {w : World} {F : Nat → Prop} {d : Nat} {l : List JT} {xs : List Value} (h : KidsF w F d l xs) {j : JT} {Ak Ad : Option Addr} {ck cd : Nat} (hj : JInF w F d j Ak ck Ad) : KidsF w F d (l ++ [j]) (xs ++ jcells j Ak ck Ad cd) := by
  refine ⟨by rw [List.length_append, List.length_append, h.1]; simp [jcells]; omega, fun k hk => ?_⟩
  by_cases hkl : k < l.length
  · obtain ⟨Ak', ck', Ad', cd', hc, hj'⟩ := h.2 k hkl
    rw [List.getElem_append_left hkl]
    refine ⟨Ak', ck', Ad', cd', fun i hi => ?_, hj'⟩
    rw [List.getElem?_append_left (by rw [h.1]; omega)]
    exact hc i hi
  · have hkn : k = l.length := by simp at hk; omega
    have hget : (l ++ [j])[k] = j := by
      rw [List.getElem_append_right (by omega)]; simp
    rw [hget]
    refine ⟨Ak, ck, Ad, cd, fun i hi => ?_, hj⟩
    rw [List.getElem?_append_right (by rw [h.1]; omega), h.1, hkn]
    congr 1
    omega
/-- the row that was made -/
theorem KidsF.made {w : World} {F F' : Nat → Prop} {d n c base : Nat} {t : TypeId} {l : List JT} {xs : List Value} {A : Option Addr} (h : KidsF w F d l xs) (hn : n = l.length) (ho : w.ownsRow base t 5 (.slice A n c) n xs) (hF : ∀ b, F b → b < w.heap.size → F' b) (hA : ∀ b, (Value.slice A n c).ownBlock = some b → F' b) : JsF w F' (d + 1) l A := fun h0 => by
  subst hn
  obtain ⟨b, o, e, hb, hc⟩ := (Rd.of_own ho).2 h0
  subst e
  obtain ⟨g, cap, hv, _, hlt⟩ := ho.form h0
  have hbo : (Value.slice (some ⟨b, o, none⟩) l.length c).ownBlock = some b := by
    injection hv with h1 h2 h3
    injection h1 with h1
    injection h1 with h1 h4 h5
    subst h4
    rfl
  refine ⟨b, o, rfl, hA b hbo, hb, fun k hkl => ?_⟩
  obtain ⟨Ak, ck, Ad, cd, hk, hj⟩ := h.2 k hkl
  have hj' := hj.keep (KeepF.refl F w) hF
  refine ⟨Ak, ck, Ad, cd, fun i u hu => hc _ _ ?_, hj'.1, hj'.2.1, hj'.2.2.1, hj'.2.2.2⟩
  have hi : i < 5 := by
    have := (List.getElem?_eq_some_iff.1 hu).1
    simpa [jcells] using this
  rw [hk i hi]; exact hu
end Go.Proofs.YtgpjcjnimheglaaGreatDoor
