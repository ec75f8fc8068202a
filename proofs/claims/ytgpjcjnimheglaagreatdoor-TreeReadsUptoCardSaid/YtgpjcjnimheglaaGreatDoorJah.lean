/-
  JOINED of the texts TD TE CW TF RegG
-/
import Derived.Test.YtgpjcjnimheglaaGreatDoorJaa
import Derived.Test.YtgpjcjnimheglaaGreatDoorJag
import Derived.Lib.RuneBytes
import Derived.Lib.Strings
import Derived.Deep.DeepCutAuto
import Derived.Lib.ConvBytes
import Derived.Laws.Strings3
import Derived.Laws.Closers25
import Derived.Laws.Closers25b
import Derived.BigCall
import Derived.BigGuard
import Derived.Test.YtgpjcjnimheglaaGreatDoorShelfX
import Derived.Shelf.Spec.BytesIndexFunc
import Derived.Deep.RegionHeld3
import Derived.Lib.IndexMore
import Derived.Test.YtgpjcjnimheglaaGreatDoorRows
import Derived.WalkKit
import Derived.WalkSpells
import Derived.WalkLawsBesides
import Derived.Below
import Derived.Laws.OwnMore
import Derived.Deep.AppendLies
import Derived.Deep.Draws
import Derived.Lib.Hide
import Derived.Deep.QuietTactic
import Derived.BigQuiet
import Derived.IntWalk
import Derived.Test.YtgpjcjnimheglaaGreatDoorShelfW
import Derived.Shelf.Strings.SlTrimAscii
import Derived.Lib.LaidTab
import Derived.Lib.AtoiAll
import Derived.Lib.IndexLaws
import Derived.Lib.SlTrimSet
import Derived.Lib.ItoaNum
import Derived.Lib.Atoi
import Derived.WalkMore
import Derived.ScopeJumps
import Derived.Test.YtgpjcjnimheglaaGreatDoorJab
/-
  TREES IN MEMORY: parts, branches that are being made, readers.
-/
namespace Go.Proofs.YtgpjcjnimheglaaGreatDoor
open Go.RowKit

/-- nothing was written out, and no tape was moved -/
structure Calm (w w' : World) : Prop where
  os : w'.os = w.os
  tape : w'.tape = w.tape
  output : w'.output = w.output
theorem Calm.refl (w : World) : Calm w w := ⟨rfl, rfl, rfl⟩
theorem Calm.trans {w w1 w' : World} (h : Calm w w1) (h' : Calm w1 w') : Calm w w' := ⟨h'.os.trans h.os, h'.tape.trans h.tape, h'.output.trans h.output⟩
theorem Calm.below {B : Nat} {w w' : World} (h : Below B w w') : Calm w w' := ⟨h.os, h.tape, h.output⟩
theorem Calm.set (w : World) (a : Addr) (v : Value) : Calm w (w.setCell a v) := by
  cases a with | mk b o k => exact ⟨rfl, rfl, rfl⟩
/-- the blocks K, but for block g, are as they were -/
structure Aft (K : Nat → Prop) (g : Nat) (w w' : World) : Prop where
  size : w.heap.size ≤ w'.heap.size
  oth : ∀ x, K x → x ≠ g → w'.heap[x]? = w.heap[x]?
  calm : Calm w w'
/-- all blocks of a world -/
def Old (w : World) : Nat → Prop := fun x => x < w.heap.size
/-- blocks that the world has -/
def In (K : Nat → Prop) (w : World) : Prop := ∀ x, K x → x < w.heap.size
section
variable {K K' : Nat → Prop} {g : Nat} {w w' w1 : World}
theorem Aft.refl (K : Nat → Prop) (g : Nat) (w : World) : Aft K g w w := ⟨Nat.le_refl _, fun _ _ _ => rfl, Calm.refl w⟩
theorem Aft.mono (h : Aft K g w w') (hK : ∀ x, K' x → K x) : Aft K' g w w' := ⟨h.size, fun x hx hg => h.oth x (hK x hx) hg, h.calm⟩
theorem Aft.trans (h : Aft K g w w1) (h' : Aft K g w1 w') : Aft K g w w' := ⟨Nat.le_trans h.size h'.size, fun x hx hg => (h'.oth x hx hg).trans (h.oth x hx hg), h.calm.trans h'.calm⟩
theorem In.after (h : In K w) (ha : w.heap.size ≤ w'.heap.size) : In K w' := fun x hx => Nat.lt_of_lt_of_le (h x hx) ha
theorem Old.in_ (w : World) : In (Old w) w := fun _ h => h
theorem Aft.old (h : Aft (Old w) g w w') (hK : In K w) : Aft K g w w' := h.mono fun x hx => hK x hx
theorem Aft.next (h : Aft K g w w1) (h' : Aft (Old w1) g w1 w') (hK : In K w) : Aft K g w w' := h.trans (h'.old (hK.after h.size))
theorem Aft.below (h : Below w.heap.size w w') (hK : In K w) : Aft K g w w' := ⟨h.size, fun x hx _ => h.block x (hK x hx), Calm.below h⟩
theorem Aft.drewN (h : Aft K g w w') (n : Nat) : Aft K g w (w'.drewN n) := ⟨h.size, h.oth, h.calm.os, h.calm.tape, h.calm.output⟩
theorem Aft.drew (h : Aft K g w w') : Aft K g w w'.drew := ⟨h.size, h.oth, h.calm.os, h.calm.tape, h.calm.output⟩
theorem Aft.set (h : Aft K g w w') (i : Nat) (v : Value) : Aft K g w (w'.setCell ⟨g, i, none⟩ v) :=
  ⟨by have := h.size; simpa [World.setCell] using this, fun x hx hg => (Below.heap_setCell w' ⟨g, i, none⟩ v x hg).trans (h.oth x hx hg), h.calm.trans (Calm.set w' _ v)⟩
theorem Aft.alloc (h : Aft K g w w') (hK : In K w) (o : Obj) : Aft K g w (w'.alloc o) :=
  ⟨by have := h.size; simp; omega, fun x hx hg => (Below.heap_alloc w' o x (Nat.lt_of_lt_of_le (hK x hx) h.size)).trans (h.oth x hx hg), h.calm.trans ⟨rfl, rfl, rfl⟩⟩
theorem Blk.aft {b : Nat} {t : TypeId} {cs : Array Value} (h : Blk w b t cs) (ha : Aft K g w w') (hb : K b) (hg : b ≠ g) : Blk w' b t cs := (ha.oth b hb hg).trans h
end

/-- a row that is only read, in a block of F -/
def RowF (w : World) (F : Nat → Prop) (A : Option Addr) (vs : List Value) : Prop :=
  0 < vs.length → ∃ b o, A = some ⟨b, o, none⟩ ∧ F b ∧ b < w.heap.size ∧ ∀ j u, vs[j]? = some u → w.cell? ⟨b, o + j, none⟩ = some u
theorem RowF.keep {w w' : World} {F F' : Nat → Prop} {A : Option Addr} {vs : List Value} (h : RowF w F A vs) (hs : w.heap.size ≤ w'.heap.size) (hk : ∀ b, F b → b < w.heap.size → w'.heap[b]? = w.heap[b]? ∧ F' b) : RowF w' F' A vs := fun hn => by
  obtain ⟨b, o, e, hF, hl, hc⟩ := h hn
  have := hk b hF hl
  exact ⟨b, o, e, this.2, by omega, fun j u hu => (World.cell?_of_block (a := ⟨b, o + j, none⟩) this.1).trans (hc j u hu)⟩

mutual
/-- a part of a tree as an interface value, its blocks all of F -/
def PtF (w : World) (F : Nat → Prop) : Tr.PT → Value → Prop
  | .leaf k t a, v => ∃ g, v = .iface 116 (.pointer (some ⟨g, 0, none⟩)) ∧ F g ∧ Blk w g 118 #[.int .i64 (k : Int), .string ⟨t.toArray⟩, .int .i64 (a : Int)]
  | .gap t a d, v => ∃ g, v = .iface 119 (.pointer (some ⟨g, 0, none⟩)) ∧ F g ∧ Blk w g 240 #[.string ⟨t.toArray⟩, .int .i64 (a : Int), .bool d]
  | .branch k a l, v => ∃ g, v = .iface 94 (.pointer (some ⟨g, 0, none⟩)) ∧ F g ∧ ∃ A c vs, Blk w g 121 #[.int .i64 (k : Int), .slice A l.length c, .int .i64 (a : Int)] ∧ l.length ≤ c ∧ RowF w F A vs ∧ PtsF w F l vs
def PtsF (w : World) (F : Nat → Prop) : List Tr.PT → List Value → Prop
  | [], vs => vs = []
  | p :: l, vs => ∃ v vs', vs = v :: vs' ∧ PtF w F p v ∧ PtsF w F l vs'
end
section
variable {w w' : World} {F F' : Nat → Prop}
mutual
theorem PtF.keep (hs : w.heap.size ≤ w'.heap.size) (hk : ∀ b, F b → b < w.heap.size → w'.heap[b]? = w.heap[b]? ∧ F' b) : ∀ (p : Tr.PT) (v : Value), PtF w F p v → PtF w' F' p v
  | .leaf k t a, v, h => by
    obtain ⟨g, e, hF, hB⟩ := h
    have := hk g hF hB.lt
    exact ⟨g, e, this.2, this.1.trans hB⟩
  | .gap t a d, v, h => by
    obtain ⟨g, e, hF, hB⟩ := h
    have := hk g hF hB.lt
    exact ⟨g, e, this.2, this.1.trans hB⟩
  | .branch k a l, v, h => by
    obtain ⟨g, e, hF, A, c, vs, hB, hc, hr, hp⟩ := h
    have := hk g hF hB.lt
    exact ⟨g, e, this.2, A, c, vs, this.1.trans hB, hc, hr.keep hs hk, PtsF.keep hs hk l vs hp⟩
theorem PtsF.keep (hs : w.heap.size ≤ w'.heap.size) (hk : ∀ b, F b → b < w.heap.size → w'.heap[b]? = w.heap[b]? ∧ F' b) : ∀ (l : List Tr.PT) (vs : List Value), PtsF w F l vs → PtsF w' F' l vs
  | [], vs, h => h
  | p :: l, vs, h => by
    obtain ⟨v, vs', e, hp, hl⟩ := h
    exact ⟨v, vs', e, PtF.keep hs hk p v hp, PtsF.keep hs hk l vs' hl⟩
end
theorem PtsF.len : ∀ {l : List Tr.PT} {vs : List Value}, PtsF w F l vs → vs.length = l.length
  | [], vs, h => by have : vs = [] := h; subst this; rfl
  | p :: l, vs, h => by
    obtain ⟨v, vs', rfl, hp, hl⟩ := h
    rw [List.length_cons, List.length_cons, PtsF.len hl]
theorem PtsF.app : ∀ {l m : List Tr.PT} {vs us : List Value}, PtsF w F l vs → PtsF w F m us → PtsF w F (l ++ m) (vs ++ us)
  | [], m, vs, us, h, hm => by have : vs = [] := h; subst this; exact hm
  | p :: l, m, vs, us, h, hm => by
    obtain ⟨v, vs', rfl, hp, hl⟩ := h
    exact ⟨v, vs' ++ us, rfl, hp, PtsF.app hl hm⟩
theorem PtsF.one {p : Tr.PT} {v : Value} (h : PtF w F p v) : PtsF w F [p] [v] := ⟨v, [], rfl, h, rfl⟩
theorem PtsF.at_ : ∀ {l : List Tr.PT} {vs : List Value} {i : Nat}, PtsF w F l vs → ∀ (h : i < l.length), ∃ v, vs[i]? = some v ∧ PtF w F l[i] v
  | [], _, _, _, h => absurd h (by simp)
  | p :: l, vs, 0, hp, _ => by
    obtain ⟨v, vs', rfl, h, _⟩ := hp
    exact ⟨v, rfl, h⟩
  | p :: l, vs, i + 1, hp, h => by
    obtain ⟨v, vs', rfl, _, hl⟩ := hp
    have := PtsF.at_ (i := i) hl (by simpa using h)
    simpa using this
end
theorem PtF.on {w w' : World} {K : Nat → Prop} {g : Nat} {p : Tr.PT} {v : Value} {F : Nat → Prop} (h : PtF w F p v) (ha : Aft K g w w') (hK : ∀ x, F x → x < w.heap.size → K x ∧ x ≠ g) : PtF w' F p v :=
  PtF.keep ha.size (fun b hb hl => ⟨ha.oth b (hK b hb hl).1 (hK b hb hl).2, hb⟩) p v h

/-- a branch that is being made: its block, its row, its parts stand in none of the blocks K -/
structure OB (w : World) (K : Nat → Prop) (h : Nat) (kind at_ : Nat) (pts : List Tr.PT) (A : Option Addr) (c : Nat) (vs : List Value) : Prop where
  nk : ¬ K h
  blk : Blk w h 121 #[.int .i64 (kind : Int), .slice A pts.length c, .int .i64 (at_ : Int)]
  own : w.ownsRow 0 98 1 (.slice A pts.length c) pts.length vs
  nr : ∀ q, (Value.slice A pts.length c).ownBlock = some q → ¬ K q
  parts : PtsF w (fun x => ¬ K x ∧ x ≠ h ∧ some x ≠ (Value.slice A pts.length c).ownBlock) pts vs
/-- a branch that is being made -/
def Br (w : World) (K : Nat → Prop) (h : Nat) (kind at_ : Nat) (pts : List Tr.PT) : Prop := ∃ A c vs, OB w K h kind at_ pts A c vs
section
variable {w w' : World} {K K' : Nat → Prop} {g h kind at_ : Nat} {pts : List Tr.PT} {A : Option Addr} {c : Nat} {vs : List Value}
theorem OB.row_lt (hb : OB w K h kind at_ pts A c vs) : ∀ q, (Value.slice A pts.length c).ownBlock = some q → q < w.heap.size := fun q hq => (hb.own.lt q hq).2
theorem OB.row_ne (hb : OB w K h kind at_ pts A c vs) : some h ≠ (Value.slice A pts.length c).ownBlock := own_ne hb.own hb.blk (by decide)
/-- what is done elsewhere leaves it -/
theorem OB.aft (hb : OB w K h kind at_ pts A c vs) (ha : Aft K' g w w') (hg : K g) (hK : ∀ x, x < w.heap.size → K' x) : OB w' K h kind at_ pts A c vs := by
  have hne : ∀ x, ¬ K x → x ≠ g := fun x hx e => hx (e ▸ hg)
  exact ⟨hb.nk, hb.blk.aft ha (hK _ hb.blk.lt) (hne _ hb.nk), own_of_block hb.own fun q hq => ha.oth q (hK _ (hb.row_lt q hq)) (hne _ (hb.nr q hq)), hb.nr,
    PtsF.keep ha.size (fun b hF hl => ⟨ha.oth b (hK b hl) (hne _ hF.1), hF⟩) _ _ hb.parts⟩
theorem Br.aft (hb : Br w K h kind at_ pts) (ha : Aft (Old w) g w w') (hg : K g) : Br w' K h kind at_ pts := by
  obtain ⟨A, c, vs, hb⟩ := hb
  exact ⟨A, c, vs, hb.aft ha hg fun x hx => hx⟩
theorem Br.lt (hb : Br w K h kind at_ pts) : h < w.heap.size := by
  obtain ⟨A, c, vs, hb⟩ := hb
  exact hb.blk.lt
theorem Br.nk (hb : Br w K h kind at_ pts) : ¬ K h := by
  obtain ⟨A, c, vs, hb⟩ := hb
  exact hb.nk
/-- a branch that has been made is a part -/
theorem Br.part (hb : Br w K h kind at_ pts) : PtF w (fun x => ¬ K x) (.branch kind at_ pts) (.iface 94 (.pointer (some ⟨h, 0, none⟩))) := by
  obtain ⟨A, c, vs, hb⟩ := hb
  refine ⟨h, rfl, hb.nk, A, c, vs, hb.blk, ?_, ?_, ?_⟩
  · rcases hb.own.2 with ⟨e, e2⟩ | ⟨q, cap, cur, e, _, _, hle, _⟩
    · injection e; omega
    · injection e with _ _ e3; omega
  · intro hn
    rcases hb.own.2 with ⟨e, e2⟩ | ⟨q, cap, cur, e, _, hq, hle, _, hz, hx⟩
    · have := hb.own.1; omega
    · injection e with e1 e2 e3
      subst e1
      refine ⟨q, 0, rfl, hb.nr q rfl, lt_heap hq, fun j u hu => ?_⟩
      rw [Nat.zero_add]
      have h0 := hb.own
      subst e3
      exact own_cell h0 j u hu
  · exact PtsF.keep (Nat.le_refl _) (fun b hF _ => ⟨rfl, hF.1⟩) _ _ hb.parts
/-- a new branch -/
theorem Br.new {w : World} {K : Nat → Prop} (hK : In K w) (kind at_ : Nat) : Br (w.alloc (.cells #[.int .i64 (kind : Int), .slice none 0 0, .int .i64 (at_ : Int)] 121)) K w.heap.size kind at_ [] :=
  ⟨none, 0, [], ⟨fun h => Nat.lt_irrefl _ (hK _ h), Blk.new _ _ _, World.ownsRow_nil _ _ _ _, fun q hq => by simp [Value.ownBlock] at hq, rfl⟩⟩
end

/-- a text's tree in memory, as a reader needs it -/
structure TrAt (w : World) (K : Nat → Prop) (g gt : Nat) (s : Bs) (T : List Tk) : Prop where
  kg : K g
  kt : K gt
  ne : gt ≠ g
  ex : ∃ d A c D E vk vt, Blk w gt 92 #[.pointer (some ⟨d, 0, none⟩), .slice A T.length c, vk, vt] ∧ K d ∧ d ≠ g ∧ Blk w d 81 #[.string ⟨s.toArray⟩, D] ∧ RowF w (fun x => K x ∧ x ≠ g) A (tksC T) ∧ E = ()
theorem TrAt.aft {w w' : World} {K : Nat → Prop} {g gt : Nat} {s : Bs} {T : List Tk} (h : TrAt w K g gt s T) (ha : Aft K g w w') : TrAt w' K g gt s T := by
  obtain ⟨d, A, c, D, E, vk, vt, h1, h2, h3, h4, h5, h6⟩ := h.ex
  exact ⟨h.kg, h.kt, h.ne, d, A, c, D, E, vk, vt, h1.aft ha h.kt h.ne, h2, h3, h4.aft ha h2 h3, h5.keep ha.size fun b hb _ => ⟨ha.oth b hb.1 hb.2, hb⟩, h6⟩
theorem TrAt.mono {w : World} {K K' : Nat → Prop} {g gt : Nat} {s : Bs} {T : List Tk} (h : TrAt w K g gt s T) (hK : ∀ x, K x → K' x) : TrAt w K' g gt s T := by
  obtain ⟨d, A, c, D, E, vk, vt, h1, h2, h3, h4, h5, h6⟩ := h.ex
  exact ⟨hK _ h.kg, hK _ h.kt, h.ne, d, A, c, D, E, vk, vt, h1, hK _ h2, h3, h4, h5.keep (Nat.le_refl _) fun b hb _ => ⟨rfl, hK _ hb.1, hb.2⟩, h6⟩
/-- a reader in memory: its place, where its kid begins, how deep it stands -/
structure Rs3 (w : World) (K : Nat → Prop) (g gt : Nat) (s : Bs) (T : List Tk) (b n i : Nat) : Prop where
  rd : Blk w g 156 #[.pointer (some ⟨gt, 0, none⟩), .int .i64 (i : Int), .int .i64 (b : Int), .int .i64 (n : Int)]
  tr : TrAt w K g gt s T
theorem Rs3.aft {w w' : World} {K : Nat → Prop} {g gt : Nat} {s : Bs} {T : List Tk} {b n i b' n' i' : Nat} (h : Rs3 w K g gt s T b n i) (ha : Aft K g w w')
    (hr : Blk w' g 156 #[.pointer (some ⟨gt, 0, none⟩), .int .i64 (i' : Int), .int .i64 (b' : Int), .int .i64 (n' : Int)]) : Rs3 w' K g gt s T b' n' i' := ⟨hr, h.tr.aft ha⟩
theorem Rs3.mono {w : World} {K K' : Nat → Prop} {g gt : Nat} {s : Bs} {T : List Tk} {b n i : Nat} (h : Rs3 w K g gt s T b n i) (hK : ∀ x, K x → K' x) : Rs3 w K' g gt s T b n i := ⟨h.rd, h.tr.mono hK⟩
/-- nothing that stood has turned -/
theorem Rs3.below {w w' : World} {K : Nat → Prop} {g gt : Nat} {s : Bs} {T : List Tk} {b n i : Nat} (h : Rs3 w K g gt s T b n i) (hb : Below w.heap.size w w') (hK : In K w) : Rs3 w' K g gt s T b n i :=
  ⟨h.rd.below hb h.rd.lt, h.tr.aft (Aft.below hb hK)⟩
end Go.Proofs.YtgpjcjnimheglaaGreatDoor
/-
  WALKS of package tree: Blank, next, Text, text, place.
-/
namespace Go.Proofs.YtgpjcjnimheglaaGreatDoor
open Go.RowKit

theorem RowF.tk {w : World} {F : Nat → Prop} {A : Option Addr} {T : List Tk} {k : Nat} (h : RowF w F A (tksC T)) (hk : k < T.length) :
    ∃ b o, A = some ⟨b, o, none⟩ ∧ F b ∧ b < w.heap.size ∧ w.cell? ⟨b, o + k * 3, none⟩ = some (.int .i64 (T[k].1 : Int)) ∧ w.cell? ⟨b, o + k * 3 + 1, none⟩ = some (.int .i64 (T[k].2.1 : Int)) ∧ w.cell? ⟨b, o + k * 3 + 2, none⟩ = some (.int .i64 (T[k].2.2 : Int)) := by
  have hl := tksC_len T
  obtain ⟨b, o, e, hF, hb, hc⟩ := h (by omega)
  refine ⟨b, o, e, hF, hb, ?_, ?_, ?_⟩
  · exact hc (k * 3) _ (by have := tksC_get T k 0 (by omega) hk; simpa [tkC] using this)
  · have := hc (k * 3 + 1) _ (by have := tksC_get T k 1 (by omega) hk; simpa [tkC] using this)
    rwa [← Nat.add_assoc] at this
  · have := hc (k * 3 + 2) _ (by have := tksC_get T k 2 (by omega) hk; simpa [tkC] using this)
    rwa [← Nat.add_assoc] at this

theorem blank_walk (k : Nat) (w : World) : Calls Tryz.prog 53 #[.int .i64 (k : Int)] w fun e w' => e = .returned (.bool (k == 1 || k == 2)) ∧ w' = w := by
  by_cases h1 : k = 1
  · subst h1
    go_enter Tryz.func53, Tryz.ntmps53
    go_wp2
    go_ret
    exact ⟨rfl, rfl⟩
  · have e1 : ((k : Int) == 1) = false := by simp; omega
    have f1 : (k == 1) = false := by simpa using h1
    rw [f1, Bool.false_or]
    by_cases h2 : k = 2
    · subst h2
      go_enter Tryz.func53, Tryz.ntmps53
      go_wp2
      go_ret
      exact ⟨rfl, rfl⟩
    · have e2 : ((k : Int) == 2) = false := by simp; omega
      have f2 : (k == 2) = false := by simpa using h2
      rw [f2]
      clear h1 h2 f1 f2
      go_enter Tryz.func53, Tryz.ntmps53
      go_wp2
      go_ret
      exact ⟨rfl, rfl⟩

/-- the facts of a reader that a walk loads -/
theorem Rs3.cells {w : World} {K : Nat → Prop} {g gt : Nat} {s : Bs} {T : List Tk} {b n i : Nat} (h : Rs3 w K g gt s T b n i) :
    w.cell? ⟨g, 0, none⟩ = some (.pointer (some ⟨gt, 0, none⟩)) ∧ w.cell? ⟨g, 1, none⟩ = some (.int .i64 (i : Int)) ∧ w.cell? ⟨g, 2, none⟩ = some (.int .i64 (b : Int)) ∧ w.cell? ⟨g, 3, none⟩ = some (.int .i64 (n : Int)) := by
  have c0 := h.rd.cell 0
  have c1 := h.rd.cell 1
  have c2 := h.rd.cell 2
  have c3 := h.rd.cell 3
  simp at c0 c1 c2 c3
  exact ⟨c0, c1, c2, c3⟩
theorem TrAt.cells {w : World} {K : Nat → Prop} {g gt : Nat} {s : Bs} {T : List Tk} (h : TrAt w K g gt s T) :
    ∃ d A c, w.cell? ⟨gt, 0, none⟩ = some (.pointer (some ⟨d, 0, none⟩)) ∧ w.cell? ⟨gt, 1, none⟩ = some (.slice A T.length c) ∧ w.cell? ⟨d, 0, none⟩ = some (.string ⟨s.toArray⟩) ∧ RowF w (fun x => K x ∧ x ≠ g) A (tksC T) := by
  obtain ⟨d, A, c, D, E, vk, vt, h1, h2, h3, h4, h5, h6⟩ := h.ex
  have c0 := h1.cell 0
  have c1 := h1.cell 1
  have d0 := h4.cell 0
  simp at c0 c1 d0
  exact ⟨d, A, c, c0, c1, d0, h5⟩

set_option maxHeartbeats 2000000 in
set_option maxRecDepth 100000 in
theorem next_walkT {w : World} {K : Nat → Prop} {g gt : Nat} {s : Bs} {T : List Tk} {b n i : Nat} (hS : Rs3 w K g gt s T b n i) (hi : i ≤ T.length) (hT : T.length ≤ 8388608) :
    Calls Tryz.prog 71 #[.pointer (some ⟨g, 0, none⟩)] w fun e w' => e = .returned (.int .i64 (Tr.nextP T i : Int)) ∧ w' = w := by
  obtain ⟨g0, g1, _, _⟩ := hS.cells
  obtain ⟨d, A, c, t0, t1, _, hrow⟩ := hS.tr.cells
  clear hS
  generalize hR : Tr.nextP T i = R
  have HR := Lib.hid hR
  clear hR
  go_enter Tryz.func71, Tryz.ntmps71
  go_wp2
  go_loop [3] (fun v => ∃ k : Nat, k ≤ T.length ∧ v = .int .i64 k ∧ Hid (Tr.nextP T k = R)) (fun v => T.length - (intOf v).toNat)
  case atStart => exact ⟨i, hi, rfl, HR⟩
  case round =>
    obtain ⟨k, hk, rfl, Hk⟩ := hrel
    have i0 : (0 : Int) ≤ (k : Int) := by omega
    by_cases hlt : k < T.length
    · have i1 : (k : Int) < (T.length : Int) := by omega
      obtain ⟨br, o, rfl, _, _, q0, _, _⟩ := hrow.tk hlt
      have Hgo : Hid (Tr.blankT T[k] = true → Tr.nextP T (k + 1) = R) := fun h => by rw [← Tr.next_go T k hlt h]; exact Hk.out
      have Hst : Hid (Tr.blankT T[k] = false → R = k) := fun h => by rw [← Hk.out]; exact Tr.next_stop T k hlt h
      have Hbt : Hid (Tr.blankT T[k] = (T[k].1 == 1 || T[k].1 == 2)) := rfl
      have hbw := fun w => blank_walk T[k].1 w
      generalize T[k].1 = kd at *
      cases hb : (kd == 1 || kd == 2) with
      | true =>
        rw [hb] at hbw Hbt
        have Hb := Hgo.out Hbt.out
        clear hb Hbt Hgo Hst HR
        have Hb := Lib.hid Hb
        go_wp2_with (refine (hbw _).mono ?_; rintro e w' ⟨rfl, rfl⟩)
        go_round
        case rel => exact ⟨k + 1, by omega, by go_num, Hb⟩
        case measure => simp [intOf]; omega
      | false =>
        rw [hb] at hbw Hbt
        have Hb := Hst.out Hbt.out
        clear hb Hbt Hgo Hst HR Hk
        have Hb := Lib.hid Hb
        go_wp2_with (refine (hbw _).mono ?_; rintro e w' ⟨rfl, rfl⟩)
        go_ret
        exact ⟨by rw [Hb.out]; rfl, rfl⟩
    · have i1 : ¬ (k : Int) < (T.length : Int) := by omega
      have Hb : Hid (R = k) := by show _ = _; rw [← Hk.out]; exact Tr.next_end T k (by omega)
      clear Hk HR hlt
      go_wp2
      go_ret
      exact ⟨by rw [Hb.out]; rfl, rfl⟩

set_option maxHeartbeats 1000000 in
set_option maxRecDepth 100000 in
theorem ttext_walk {w : World} {gt d : Nat} {s : Bs} (t0 : w.cell? ⟨gt, 0, none⟩ = some (.pointer (some ⟨d, 0, none⟩))) (d0 : w.cell? ⟨d, 0, none⟩ = some (.string ⟨s.toArray⟩)) :
    Calls Tryz.prog 21 #[.pointer (some ⟨gt, 0, none⟩)] w fun e w' => e = .returned (.string ⟨s.toArray⟩) ∧ w' = w := by
  have hd : Calls Tryz.prog 16 #[.pointer (some ⟨d, 0, none⟩)] w fun e w' => e = .returned (.string ⟨s.toArray⟩) ∧ w' = w := by
    go_enter Tryz.func16, Tryz.ntmps16
    go_wp2
    go_ret
    exact ⟨rfl, rfl⟩
  go_enter Tryz.func21, Tryz.ntmps21
  go_wp2_with (refine hd.mono ?_; rintro e w' ⟨rfl, rfl⟩)
  go_ret
  exact ⟨rfl, rfl⟩

/-- a token that is in the text -/
theorem Tr.Good.at_ {s : List UInt8} {T : List Tk} (h : Tr.Good s T) {k : Nat} (hk : k < T.length) : T[k].2.1 + T[k].2.2 ≤ s.length ∧ 1 ≤ T[k].1 ∧ T[k].1 ≤ 8 := h.in_ _ (List.getElem_mem hk)
theorem sub_str (s : Bs) (t : Tk) : Value.string ((⟨s.toArray⟩ : ByteArray).extract t.2.1 (t.2.1 + t.2.2)) = .string ⟨(Tr.subT s t).toArray⟩ := by
  rw [ext_str]
  unfold strV Tr.subT
  congr 3
  rw [List.drop_take, Nat.add_sub_cancel_left]

set_option maxHeartbeats 4000000 in
set_option maxRecDepth 100000 in
theorem text_walkT {w : World} {K : Nat → Prop} {g gt : Nat} {s : Bs} {T : List Tk} {b n i : Nat} (k : Nat) (hS : Rs3 w K g gt s T b n i) (hG : Tr.Good s T) (hs : s.length ≤ 8388608) (hk : k ≤ 8388608) :
    Calls Tryz.prog 141 #[.pointer (some ⟨g, 0, none⟩), .int .i64 (k : Int)] w fun e w' => e = .returned (.tuple #[.int .i64 (Tr.kindP T k : Int), .string ⟨(Tr.textP s T k).toArray⟩]) ∧ Below w.heap.size w w' := by
  obtain ⟨g0, g1, _, _⟩ := hS.cells
  obtain ⟨d, A, c, t0, t1, d0, hrow⟩ := hS.tr.cells
  have hgl := hS.rd.lt
  clear hS
  have i0 : (0 : Int) ≤ (k : Int) := by omega
  by_cases hlt : k < T.length
  · have i1 : (k : Int) < (T.length : Int) := by omega
    obtain ⟨br, o, rfl, _, hbl, q0, q1, q2⟩ := hrow.tk hlt
    obtain ⟨h1, h2, h3⟩ := hG.at_ hlt
    have Hk := Lib.hid (Tr.kind_at T k hlt)
    have Ht := Lib.hid (Tr.text_at s T k hlt)
    have Hsub := Lib.hid (sub_str s T[k])
    generalize Tr.kindP T k = kk at *
    generalize Tr.textP s T k = tt at *
    generalize T[k] = t at *
    obtain ⟨tk, ta, tl⟩ := t
    dsimp only at h1 h2 h3 q0 q1 q2
    have hgt := World.block_lt_of_cell? w ⟨gt, 0, none⟩ t0
    have hd := World.block_lt_of_cell? w ⟨d, 0, none⟩ d0
    have hb0 : Below w.heap.size w (w.alloc (.cells #[.int .i64 (tk : Int), .int .i64 (ta : Int), .int .i64 (tl : Int)] 42)) := (Below.refl _ _).alloc (Nat.le_refl _) _
    have hB : Blk (w.alloc (.cells #[.int .i64 (tk : Int), .int .i64 (ta : Int), .int .i64 (tl : Int)] 42)) w.heap.size 42 #[.int .i64 (tk : Int), .int .i64 (ta : Int), .int .i64 (tl : Int)] := Blk.new _ _ _
    obtain ⟨bx, hbx⟩ : ∃ b, b = w.heap.size := ⟨_, rfl⟩
    rw [← hbx] at hB
    clear hrow
    go_enter Tryz.func141, Tryz.ntmps141
    go_upto_region 4 with fail
    rw [← hbx]
    have e0 := (hb0.cell (p := ⟨gt, 0, none⟩) hgt).trans t0
    have f0 := (hb0.cell (p := ⟨d, 0, none⟩) hd).trans d0
    have r0 := (hb0.cell (p := ⟨g, 0, none⟩) hgl).trans g0
    clear hbx g0 g1 t0 t1 d0 q0 q1 q2 hgt hd hbl hgl
    generalize w.alloc (.cells #[.int .i64 (tk : Int), .int .i64 (ta : Int), .int .i64 (tl : Int)] 42) = w1 at *
    have b0 := hB.cell 0
    have b1 := hB.cell 1
    have b2 := hB.cell 2
    simp at b0 b1 b2
    have a0 : IntKind.i64.wrap ((ta : Int) + tl) = (ta : Int) + tl := IntWalk.i64_in _ (by omega)
    have a1 : (0 : Int) ≤ (ta : Int) + tl := by omega
    have a2 : ((ta : Int) + tl).toNat = ta + tl := by omega
    have a3 : (ta : Int) + tl ≤ (s.length : Int) := by omega
    have a4 : (ta : Int) ≤ (ta : Int) + tl := by omega
    have a5 : ta ≤ ta + tl := by omega
    have a6 : ta + tl ≤ s.length := h1
    have htx := fun n => ttext_walk (w := w1.drewN n) (gt := gt) (d := d) (s := s) e0 f0
    go_quiet ((go_at_call 21; exact Calls.quiet_of_same (htx _)))
    go_wp2_with fail
    go_ret2
    exact ⟨by rw [Hk.out, Ht.out, ← Hsub.out]; rfl, below_drewN hb0 _⟩
  · have i1 : (T.length : Int) ≤ (k : Int) := by omega
    rw [Tr.kind_end T k (by omega), Tr.text_end s T k (by omega)]
    clear hrow hG
    go_enter Tryz.func141, Tryz.ntmps141
    go_wp2
    go_ret2
    exact ⟨rfl, Below.refl _ _⟩

set_option maxHeartbeats 4000000 in
set_option maxRecDepth 100000 in
theorem place_walk {w : World} {K : Nat → Prop} {g gt : Nat} {s : Bs} {T : List Tk} {b n i : Nat} (hS : Rs3 w K g gt s T b n i) (hG : Tr.Good s T) (hb : b ≤ Tr.absP s T i) (hs : s.length ≤ 8388608) :
    Calls Tryz.prog 117 #[.pointer (some ⟨g, 0, none⟩)] w fun e w' => e = .returned (.int .i64 (Tr.placeP s T b i : Int)) ∧ ∃ m, w' = w.drewN m := by
  obtain ⟨g0, g1, g2, _⟩ := hS.cells
  obtain ⟨d, A, c, t0, t1, d0, hrow⟩ := hS.tr.cells
  clear hS
  have hal := hG.abs_le i
  have i0 : (0 : Int) ≤ (i : Int) := by omega
  by_cases hlt : i < T.length
  · have i1 : (i : Int) < (T.length : Int) := by omega
    obtain ⟨br, o, rfl, _, hbl, q0, q1, q2⟩ := hrow.tk hlt
    have HP : Hid (Tr.placeP s T b i = Tr.absP s T i - b) := rfl
    rw [Tr.abs_at s T i hlt] at HP hb hal
    clear hrow hG
    generalize Tr.placeP s T b i = P at *
    generalize T[i] = t at *
    obtain ⟨tk, ta, tl⟩ := t
    dsimp only at hb hal q0 q1 q2 HP
    have a0 : IntKind.i64.wrap ((ta : Int) - b) = (ta : Int) - b := IntWalk.i64_in _ (by omega)
    have Hv : Hid ((ta : Int) - b = (P : Int)) := by show _ = _; rw [HP.out]; omega
    clear HP
    go_enter Tryz.func117, Tryz.ntmps117
    go_wp2_with fail
    go_quiet (fail)
    go_wp2_with fail
    go_quiet (fail)
    go_wp2_with fail
    go_ret
    exact ⟨by rw [← Hv.out]; rfl, _, World.drewN_drewN _ _ _⟩
  · have i1 : ¬ (i : Int) < (T.length : Int) := by omega
    have HP : Hid (Tr.placeP s T b i = Tr.absP s T i - b) := rfl
    rw [Tr.abs_end s T i (by omega)] at HP hb
    clear hrow hG
    generalize Tr.placeP s T b i = P at *
    have a0 : IntKind.i64.wrap ((s.length : Int) - b) = (s.length : Int) - b := IntWalk.i64_in _ (by omega)
    have Hv : Hid ((s.length : Int) - b = (P : Int)) := by show _ = _; rw [HP.out]; omega
    clear HP hlt hal
    go_enter Tryz.func117, Tryz.ntmps117
    go_wp2_with fail
    go_quiet (fail)
    obtain ⟨w1, hw1⟩ : ∃ w1, w1 = World.drewN w nq := ⟨_, rfl⟩
    have k0 : w1.cell? ⟨g, 0, none⟩ = some (.pointer (some ⟨gt, 0, none⟩)) := by rw [hw1]; exact g0
    have k2 : w1.cell? ⟨g, 2, none⟩ = some (.int .i64 (b : Int)) := by rw [hw1]; exact g2
    have e0 : w1.cell? ⟨gt, 0, none⟩ = some (.pointer (some ⟨d, 0, none⟩)) := by rw [hw1]; exact t0
    have f0 : w1.cell? ⟨d, 0, none⟩ = some (.string ⟨s.toArray⟩) := by rw [hw1]; exact d0
    rw [← hw1]
    have Hw1 := Lib.hid hw1
    clear g0 g1 g2 t0 t1 d0 hw1
    have htx := fun n => ttext_walk (w := w1.drewN n) (gt := gt) (d := d) (s := s) e0 f0
    go_wp2_with fail
    go_quiet ((go_at_call 21; exact Calls.quiet_of_same (htx _)))
    go_wp2_with fail
    go_ret
    exact ⟨by rw [← Hv.out]; rfl, _, by rw [Hw1.out]; exact World.drewN_drewN _ _ _⟩
end Go.Proofs.YtgpjcjnimheglaaGreatDoor
/-
  WALKS: slices.Contains at []string, of longer lists.
-/
namespace Go.Proofs.YtgpjcjnimheglaaGreatDoor
open Go.RowKit

def IdxP8 (r : Int) (l : List Bs) (x : Bs) : Prop := decide (0 ≤ r) = l.contains x
set_option maxHeartbeats 1000000 in
set_option maxRecDepth 100000 in
theorem index_walk8 (A : Option Addr) (c : Nat) (l : List Bs) (x : Bs) (w : World) (h1 : Rd w w.heap.size 1 A l.length (txtV l)) (hl : l.length ≤ 8388608) :
    Calls Tryz.prog 128 #[.slice A l.length c, .string ⟨x.toArray⟩] w fun e w' => ∃ r : Int, e = .returned (.int .i64 r) ∧ IdxP8 r l x ∧ w' = w := by
  go_enter Tryz.func128, Tryz.ntmps128
  go_wp2_with fail
  go_loop [8] (fun i => ∃ k : Nat, k ≤ l.length ∧ i = .int .i64 k ∧ Hid (x ∉ l.take k)) (fun i => l.length - (intOf i).toNat)
  case atStart => exact ⟨0, Nat.zero_le _, rfl, by show _ ∉ _; simp⟩
  case round =>
    obtain ⟨k, hk, rfl, H⟩ := hrel
    by_cases hlt : k < l.length
    · obtain ⟨b, o, rfl, hbB, c0⟩ := Rd.txt h1 hlt
      have i1 : (0 : Int) ≤ (k : Int) := by omega
      have i2 : (k : Int) < (l.length : Int) := by omega
      have Hst : Hid (x ≠ l[k] → x ∉ l.take (k + 1)) := fun h => by
        rw [List.take_succ_eq_append_getElem hlt, List.mem_append, List.mem_singleton]
        rintro (h2 | h2)
        · exact H.out h2
        · exact h h2
      have Hin : Hid (x = l[k] → l.contains x = true) := fun h => by rw [h]; simp
      unfold strV at c0
      generalize l[k] = y at *
      by_cases hxy : x = y
      · have hc := Lib.hid (Hin.out hxy)
        subst hxy
        go_wp2_with fail
        go_ret
        exact ⟨_, rfl, by unfold IdxP8; rw [hc.out]; simp, rfl⟩
      · have d1 : (x == y) = false := by simp [hxy]
        have Hn := Lib.hid (Hst.out hxy)
        clear hxy
        go_wp2_with fail
        go_round
        case rel => exact ⟨k + 1, by omega, by go_num, Hn.out⟩
        case measure => simp [intOf]; omega
    · obtain rfl : k = l.length := by omega
      have hc : Hid (l.contains x = false) := by
        show _ = _
        have := H.out
        rw [List.take_length] at this
        simpa using this
      go_wp2_with fail
      go_ret
      exact ⟨_, rfl, by unfold IdxP8; rw [hc.out]; rfl, rfl⟩

set_option maxRecDepth 100000 in
theorem contains_walk8 (A : Option Addr) (c : Nat) (l : List Bs) (x : Bs) (w : World) (h1 : Rd w w.heap.size 1 A l.length (txtV l)) (hl : l.length ≤ 8388608) :
    Calls Tryz.prog 89 #[.slice A l.length c, .string ⟨x.toArray⟩] w fun e w' => e = .returned (.bool (l.contains x)) ∧ w' = w := by
  have hI := index_walk8 A c l x w h1 hl
  go_enter Tryz.func89, Tryz.ntmps89
  go_wp2_with fail
  refine hI.mono ?_
  clear hI
  rintro e w' ⟨r, rfl, Hr, rfl⟩
  go_wp2_with fail
  go_ret
  exact ⟨by rw [← show decide (0 ≤ r) = l.contains x from Hr]; rfl, rfl⟩
end Go.Proofs.YtgpjcjnimheglaaGreatDoor
/-
  WALKS of package tree: is, kind, branch.
-/
namespace Go.Proofs.YtgpjcjnimheglaaGreatDoor
open Go.RowKit

/-- what a text and its tokens are, and a reader of them -/
structure Rdr (w : World) (K : Nat → Prop) (g gt : Nat) (s : Bs) (T : List Tk) (b n i : Nat) : Prop where
  rs : Rs3 w K g gt s T b n i
  inK : In K w
  hi : i ≤ T.length
  hb : b ≤ Tr.absP s T i
/-- tokens that a reader can read -/
structure Txts (s : Bs) (T : List Tk) : Prop where
  good : Tr.Good s T
  hT : T.length ≤ 4194304
  hs : s.length ≤ 4194304
section
variable {w w' : World} {K : Nat → Prop} {g gt : Nat} {s : Bs} {T : List Tk} {b n i : Nat}
theorem Rdr.below (h : Rdr w K g gt s T b n i) (hb : Below w.heap.size w w') : Rdr w' K g gt s T b n i := ⟨h.rs.below hb h.inK, h.inK.after hb.size, h.hi, h.hb⟩
theorem Rdr.drewN (h : Rdr w K g gt s T b n i) (m : Nat) : Rdr (w.drewN m) K g gt s T b n i := h.below (below_drewN (Below.refl _ _) m)
end

set_option maxHeartbeats 4000000 in
set_option maxRecDepth 100000 in
theorem is_walk {w : World} {K : Nat → Prop} {g gt : Nat} {s : Bs} {T : List Tk} {b n i : Nat} (X : Txts s T) (R : Rdr w K g gt s T b n i) (A : Option Addr) (c : Nat) (l : List Bs) (hA : Rd w w.heap.size 1 A l.length (txtV l)) (hl : l.length ≤ 1000) :
    Calls Tryz.prog 118 #[.pointer (some ⟨g, 0, none⟩), .slice A l.length c] w fun e w' => e = .returned (.bool (Tr.isP s T l i)) ∧ Below w.heap.size w w' := by
  have h1 := next_walkT R.rs R.hi (by have := X.hT; omega)
  have hnl := Tr.next_le T i R.hi
  have hT := X.hT
  have h2 := text_walkT (Tr.nextP T i) R.rs X.good (by have := X.hs; omega) (by omega)
  have HR : Hid (Tr.isP s T l i = ((Tr.kindP T (Tr.nextP T i) == 4 || Tr.kindP T (Tr.nextP T i) == 7) && l.contains (Tr.textP s T (Tr.nextP T i)))) := rfl
  generalize Tr.isP s T l i = r at *
  generalize Tr.kindP T (Tr.nextP T i) = kd at *
  generalize Tr.textP s T (Tr.nextP T i) = tx at *
  generalize Tr.nextP T i = nx at *
  clear hnl hT R X
  go_enter Tryz.func118, Tryz.ntmps118
  go_wp2_with fail
  refine h1.mono ?_
  clear h1
  rintro e w1 ⟨rfl, rfl⟩
  go_wp2_with fail
  refine h2.mono ?_
  clear h2
  rintro e w2 ⟨rfl, hb⟩
  have hc := contains_walk8 A c l tx w2 ((hA.below hb).more hb.size) (by omega)
  generalize l.contains tx = cb at *
  by_cases k4 : kd = 4
  · subst k4
    go_wp2_with fail
    refine hc.mono ?_
    clear hc
    rintro e w3 ⟨rfl, rfl⟩
    go_wp2_with fail
    go_ret
    exact ⟨by rw [HR.out]; rfl, hb⟩
  · have e4 : ((kd : Int) == 4) = false := by simp; omega
    have f4 : (kd == 4) = false := by simpa using k4
    rw [f4, Bool.false_or] at HR
    by_cases k7 : kd = 7
    · subst k7
      clear k4 f4
      go_wp2_with fail
      refine hc.mono ?_
      clear hc
      rintro e w3 ⟨rfl, rfl⟩
      go_wp2_with fail
      go_ret
      exact ⟨by rw [HR.out]; rfl, hb⟩
    · have e7 : ((kd : Int) == 7) = false := by simp; omega
      have f7 : (kd == 7) = false := by simpa using k7
      rw [f7, Bool.false_and] at HR
      clear k4 f4 k7 f7 hc
      go_wp2_with fail
      go_ret
      exact ⟨by rw [HR.out]; rfl, hb⟩

set_option maxHeartbeats 4000000 in
set_option maxRecDepth 100000 in
theorem kindn_walk {w : World} {K : Nat → Prop} {g gt : Nat} {s : Bs} {T : List Tk} {b n i : Nat} (X : Txts s T) (R : Rdr w K g gt s T b n i) (k : Nat) :
    Calls Tryz.prog 156 #[.pointer (some ⟨g, 0, none⟩), .int .i64 (k : Int)] w fun e w' => e = .returned (.bool (Tr.kindP T (Tr.nextP T i) == k)) ∧ Below w.heap.size w w' := by
  have h1 := next_walkT R.rs R.hi (by have := X.hT; omega)
  have hnl := Tr.next_le T i R.hi
  have hT := X.hT
  have h2 := text_walkT (Tr.nextP T i) R.rs X.good (by have := X.hs; omega) (by omega)
  generalize Tr.kindP T (Tr.nextP T i) = kd at *
  generalize Tr.textP s T (Tr.nextP T i) = tx at *
  generalize Tr.nextP T i = nx at *
  clear hnl hT R X
  have HB : Hid (((kd : Int) == (k : Int)) = (kd == k)) := by
    show _ = _
    by_cases h : kd = k
    · subst h; simp
    · have : ¬ (kd : Int) = (k : Int) := by omega
      rw [beq_eq_false_iff_ne.2 h, beq_eq_false_iff_ne.2 this]
  go_enter Tryz.func156, Tryz.ntmps156
  go_wp2_with fail
  refine h1.mono ?_
  clear h1
  rintro e w1 ⟨rfl, rfl⟩
  go_wp2_with fail
  refine h2.mono ?_
  clear h2
  rintro e w2 ⟨rfl, hb⟩
  go_wp2_with fail
  go_ret
  exact ⟨by rw [← HB.out]; rfl, hb⟩

set_option maxHeartbeats 4000000 in
set_option maxRecDepth 100000 in
theorem branch_walk {w : World} {K : Nat → Prop} {g gt : Nat} {s : Bs} {T : List Tk} {b n i : Nat} (X : Txts s T) (R : Rdr w K g gt s T b n i) (kind : Nat) :
    Calls Tryz.prog 142 #[.pointer (some ⟨g, 0, none⟩), .int .i64 (kind : Int)] w fun e w' => e = .returned (.pointer (some ⟨w.heap.size, 0, none⟩)) ∧ Below w.heap.size w w' ∧ w'.heap.size = w.heap.size + 1 ∧ ∀ K, In K w → Br w' K w.heap.size kind (Tr.placeP s T b i) [] := by
  have hp := place_walk R.rs X.good R.hb (by have := X.hs; omega)
  generalize Tr.placeP s T b i = p at *
  clear R X
  go_enter Tryz.func142, Tryz.ntmps142
  go_wp2_with fail
  refine hp.mono ?_
  clear hp
  rintro e w1 ⟨rfl, m, rfl⟩
  go_wp2_with fail
  go_ret
  exact ⟨rfl, (below_drewN (Below.refl _ _) m).alloc (Nat.le_refl _) _, by simp, fun K hK => Br.new (w := w.drewN m) hK kind p⟩
end Go.Proofs.YtgpjcjnimheglaaGreatDoor
/-
  A REGION THAT DRAWS ITS ORDER, walked once: as the library's wpAnyH, but the condition S is asked only as long as operation number L (the store, which waits for all others) has not come up.
-/
namespace Go.Proofs.YtgpjcjnimheglaaGreatDoor
open Go.RowKit
section
variable {P : Program} {ops : Array Oper} {Q : Exit → Act → World → Prop} {md : Region.Mode} {S : World → Prop} {L : Nat}

def wpAnyG (P : Program) (md : Region.Mode) (ops : Array Oper) (Q : Exit → Act → World → Prop) (S : World → Prop) (L : Nat) : Nat → Array Bool → Act → World → Prop
  | 0, listed, a, w => Region.ready md ops listed = [] ∧ Q .normal a w
  | fuel + 1, listed, a, w =>
    (Region.ready md ops listed = [] → Q .normal a w) ∧
    ∀ i ∈ Region.ready md ops listed, wpOp P ops Q i (fun a' w' => (i ≠ L → S w') ∧ wpAnyG P md ops Q S L fuel (listed.setIfInBounds i true) a' w') a w

theorem wpAny_of_G : ∀ (fuel : Nat) (listed : Array Bool) (a : Act) (w : World), wpAnyG P md ops Q S L fuel listed a w → wpAny P md ops Q fuel listed a w
  | 0, _, _, _, h => h
  | fuel + 1, _, _, _, h => ⟨h.1, fun i hi => wpOp_mono (fun a' w' h' => wpAny_of_G fuel _ a' w' h'.2) (h.2 i hi)⟩

/-- operation L waits for operation i -/
def waits (md : Region.Mode) (ops : Array Oper) (L i : Nat) : Bool :=
  match ops[L]? with
  | some o => o.after.toList.any fun e => Region.binds md e && e.on == i
  | none => true

theorem wpAnyG_first {i : Nat} {oi : Oper} {v : Value} (hi : ops[i]? = some oi) (hsel : ∀ (j : Nat) (o : Oper) cs b, ops[j]? = some o → o.op ≠ .select cs b)
    (hQ : ∀ c a w, Q (.panic c) (a.put oi.dst v) w → Q (.panic c) a w) (hL : waits md ops L i = true) :
    ∀ (fuel : Nat) (listed : Array Bool) (a : Act) (w : World),
      (∀ j oj, ops[j]? = some oj → j ≠ i → listed.getD j true = false → (∀ e ∈ oj.after, Region.binds md e = true → e.on ≠ i) → oi.apart ops oj = true) →
      i ∈ Region.ready md ops listed → YieldsIf P ops S oi v a → S w →
      wpAnyG P md ops Q S L fuel (listed.setIfInBounds i true) (a.put oi.dst v) w → wpAnyG P md ops Q S L (fuel + 1) listed a w := by
  intro fuel
  induction fuel with
  | zero =>
    intro listed a w _ hr hy hS H
    refine ⟨fun h => (by rw [h] at hr; cases hr), fun j hj => ?_⟩
    by_cases hji : j = i
    · subst hji; exact hy.wpOp hi hS ⟨fun _ => hS, H⟩
    · have := ready_mono hj hji
      rw [H.1] at this
      cases this
  | succ fuel ih =>
    intro listed a w hfree hr hy hS H
    refine ⟨fun h => (by rw [h] at hr; cases hr), fun j hj => ?_⟩
    by_cases hji : j = i
    · subst hji; exact hy.wpOp hi hS ⟨fun _ => hS, H⟩
    · have h1 := H.2 j (ready_mono hj hji)
      obtain ⟨hjun, oj, hoj, hall⟩ := mem_ready.1 hj
      have hnot : ∀ e ∈ oj.after, Region.binds md e = true → e.on ≠ i := fun e he hb heq => by
        have h1 := hall e he hb
        have h0 := (mem_ready.1 hr).1
        rw [heq] at h1
        rcases Nat.lt_or_ge i listed.size with h' | h'
        · simp [h'] at h0 h1; rw [h0] at h1; cases h1
        · simp [Array.getElem?_eq_none h'] at h1
      have hjL : j ≠ L := fun e => by
        subst e
        unfold waits at hL
        rw [hoj] at hL
        simp only [List.any_eq_true, Bool.and_eq_true, beq_iff_eq] at hL
        obtain ⟨e, he, hb, hon⟩ := hL
        exact hnot e (Array.mem_toList_iff.1 he) hb hon
      have h2 := wpOp_putIf hoj (hfree j oj hoj hji hjun hnot) (fun cs b => hsel i oi cs b hi) (fun cs b => hsel j oj cs b hoj) hQ hy h1
      have hfree' : ∀ k ok, ops[k]? = some ok → k ≠ i → (listed.setIfInBounds j true).getD k true = false →
          (∀ e ∈ ok.after, Region.binds md e = true → e.on ≠ i) → oi.apart ops ok = true := fun k ok hk hki hun hno => by
        refine hfree k ok hk hki ?_ hno
        by_cases hjk : j = k
        · subst hjk; exact hjun
        · rw [getD_set_ne true hjk] at hun; exact hun
      refine wpOp_mono (fun a' w' h3 => ⟨h3.2.1, ih (listed.setIfInBounds j true) a' w' hfree' (ready_mono hr (Ne.symm hji)) h3.1 (h3.2.1 hjL) ?_⟩) h2
      rw [Array.setIfInBounds_comm _ _ hji]
      exact h3.2.2

theorem wpAnyG_take {i : Nat} {oi : Oper} {v : Value} {fuel : Nat} {listed : Array Bool} {a : Act} {w : World} (hi : ops[i]? = some oi)
    (hs : Region.noSelect ops = true) (hf : Region.free md ops listed i = true) (hr : (Region.ready md ops listed).contains i = true) (hL : waits md ops L i = true)
    (hQ : ∀ c a w, Q (.panic c) (a.put oi.dst v) w → Q (.panic c) a w) (hy : YieldsIf P ops S oi v a) (hS : S w)
    (h : wpAnyG P md ops Q S L fuel (listed.setIfInBounds i true) (a.put oi.dst v) w) : wpAnyG P md ops Q S L (fuel + 1) listed a w :=
  wpAnyG_first hi (Region.noSelect_spec hs) hQ hL fuel listed a w (Region.free_spec hi hf) (by simpa using hr) hy hS h

theorem wpAnyG_one {i : Nat} {o : Oper} {fuel : Nat} {listed : Array Bool} {a : Act} {w : World} (hr : Region.ready md ops listed = [i]) (ho : ops[i]? = some o)
    (h : ∀ K' : Act → World → Prop, Shut (∀ a w, (i ≠ L → S w) → wpAnyG P md ops Q S L fuel (listed.setIfInBounds i true) a w → K' a w) → if Region.wanted o (yielded ops a.tmps) = true then Oper.wp P o a w K' Q else K' (a.put o.dst undef) w) :
    wpAnyG P md ops Q S L (fuel + 1) listed a w :=
  ⟨fun h0 => (by rw [h0] at hr; cases hr), fun j hj => by
    rw [hr, List.mem_singleton] at hj
    subst hj
    exact wpOp_step ho fun K' hK => h K' fun a w hS hW => hK a w ⟨hS, hW⟩⟩

theorem wpAnyG_done {listed : Array Bool} {a : Act} {w : World} (hr : Region.ready md ops listed = []) (h : Q .normal a w) : ∀ fuel, wpAnyG P md ops Q S L fuel listed a w
  | 0 => ⟨hr, h⟩
  | _ + 1 => ⟨fun _ => h, by rw [hr]; simp⟩

theorem wp_region_G {id : Nat} {a : Act} {w : World} (L : Nat) (S : World → Prop) (hm : P.follows .mixedOrders = true)
    (h : wpAnyG P .any ops Q S L ops.size (Array.replicate ops.size false) a w.drew) : (Code.region id ops true).wp P Q a w :=
  wp_region_any hm (wpAny_of_G _ _ _ _ h)
end
end Go.Proofs.YtgpjcjnimheglaaGreatDoor
