/-
  JOINED of the texts DA DK
-/
import Derived.Test.YtalklmeejdmifaaGreatDoorJah
import Derived.Deep.AppendLies
import Derived.Deep.QuietTactic
import Derived.BigQuiet
import Derived.Lib.RuneBytes
import Derived.Lib.Strings
import Derived.Deep.DeepCutAuto
import Derived.Lib.ConvBytes
import Derived.Laws.Strings3
import Derived.Laws.Closers25
import Derived.Laws.Closers25b
import Derived.BigCall
import Derived.BigGuard
import Derived.Test.YtalklmeejdmifaaGreatDoorShelfX
import Derived.Shelf.Spec.BytesIndexFunc
import Derived.Deep.RegionHeld3
import Derived.Lib.IndexMore
import Derived.Test.YtalklmeejdmifaaGreatDoorRows
import Derived.WalkKit
import Derived.WalkSpells
import Derived.WalkLawsBesides
import Derived.Below
import Derived.Laws.OwnMore
import Derived.Deep.Draws
import Derived.Lib.Hide
import Derived.IntWalk
import Derived.Test.YtalklmeejdmifaaGreatDoorShelfW
import Derived.Shelf.Strings.SlTrimAscii
import Derived.Lib.LaidTab
import Derived.Lib.AtoiAll
import Derived.Lib.IndexLaws
import Derived.Lib.SlTrimSet
import Derived.Lib.ItoaNum
import Derived.Lib.Atoi
import Derived.WalkMore
import Derived.ScopeJumps
import Derived.Test.YtalklmeejdmifaaGreatDoorJan
/-
  THE DOCUMENT'S TREES IN MEMORY: nodes, nodes that are being made, readers.
-/
namespace Go.Proofs.YtalklmeejdmifaaGreatDoor
open Go.RowKit

mutual
/-- does an expression stand too deep in it? -/
def Tr.deepB : Tr.PT → Bool
  | .leaf _ _ _ => false
  | .gap _ _ d => d
  | .branch _ _ l => Tr.deepsB l
def Tr.deepsB : List Tr.PT → Bool
  | [] => false
  | p :: l => Tr.deepB p || Tr.deepsB l
end
theorem Tr.deeps_app (l m : List Tr.PT) : Tr.deepsB (l ++ m) = (Tr.deepsB l || Tr.deepsB m) := by
  induction l with
  | nil => simp [Tr.deepsB]
  | cons p l ih => simp only [List.cons_append, Tr.deepsB, ih, Bool.or_assoc]

/-- the cells of a node that has not been placed -/
def nodeC (k tok : Nat) (t : Bs) (v : Value) : Array Value := #[.int .i64 (k : Int), .int .i64 (tok : Int), .string ⟨t.toArray⟩, v, .int .i64 0, .int .i64 0, .int .i64 0, .int .i64 0, .bool false]
mutual
/-- a part as the document's node, its blocks all of F, its nodes' blocks told -/
def RnF (w : World) (F : Nat → Prop) : Tr.PT → List Nat → Value → Prop
  | .leaf k t _, fp, v => ∃ g, v = .pointer (some ⟨g, 0, none⟩) ∧ fp = [g] ∧ F g ∧ Blk w g 121 (nodeC 0 k t (.slice none 0 0))
  | .gap t _ _, fp, v => ∃ g, v = .pointer (some ⟨g, 0, none⟩) ∧ fp = [g] ∧ F g ∧ Blk w g 121 (nodeC 1 0 t (.slice none 0 0))
  | .branch k _ l, fp, v => ∃ g fps, v = .pointer (some ⟨g, 0, none⟩) ∧ fp = g :: fps ∧ F g ∧ ∃ A c vs, Blk w g 121 (nodeC k 0 [] (.slice A l.length c)) ∧ l.length ≤ c ∧ RowF w F A vs ∧ RnsF w F l fps vs
def RnsF (w : World) (F : Nat → Prop) : List Tr.PT → List Nat → List Value → Prop
  | [], fps, vs => fps = [] ∧ vs = []
  | p :: l, fps, vs => ∃ fp fps' v vs', fps = fp ++ fps' ∧ vs = v :: vs' ∧ RnF w F p fp v ∧ RnsF w F l fps' vs'
end
section
variable {w w' : World} {F F' : Nat → Prop}
mutual
theorem RnF.keep (hs : w.heap.size ≤ w'.heap.size) (hk : ∀ b, F b → b < w.heap.size → w'.heap[b]? = w.heap[b]? ∧ F' b) : ∀ (p : Tr.PT) (fp : List Nat) (v : Value), RnF w F p fp v → RnF w' F' p fp v
  | .leaf k t a, fp, v, h => by
    obtain ⟨g, e, ef, hF, hB⟩ := h
    have := hk g hF hB.lt
    exact ⟨g, e, ef, this.2, this.1.trans hB⟩
  | .gap t a d, fp, v, h => by
    obtain ⟨g, e, ef, hF, hB⟩ := h
    have := hk g hF hB.lt
    exact ⟨g, e, ef, this.2, this.1.trans hB⟩
  | .branch k a l, fp, v, h => by
    obtain ⟨g, fps, e, ef, hF, A, c, vs, hB, hc, hr, hp⟩ := h
    have := hk g hF hB.lt
    exact ⟨g, fps, e, ef, this.2, A, c, vs, this.1.trans hB, hc, hr.keep hs hk, RnsF.keep hs hk l fps vs hp⟩
theorem RnsF.keep (hs : w.heap.size ≤ w'.heap.size) (hk : ∀ b, F b → b < w.heap.size → w'.heap[b]? = w.heap[b]? ∧ F' b) : ∀ (l : List Tr.PT) (fps : List Nat) (vs : List Value), RnsF w F l fps vs → RnsF w' F' l fps vs
  | [], fps, vs, h => h
  | p :: l, fps, vs, h => by
    obtain ⟨fp, fps', v, vs', ef, e, hp, hl⟩ := h
    exact ⟨fp, fps', v, vs', ef, e, RnF.keep hs hk p fp v hp, RnsF.keep hs hk l fps' vs' hl⟩
end
mutual
/-- the blocks that are told are of F, and the world has them -/
theorem RnF.fp : ∀ (p : Tr.PT) (fp : List Nat) (v : Value), RnF w F p fp v → ∀ x ∈ fp, F x ∧ x < w.heap.size
  | .leaf k t a, fp, v, h => by
    obtain ⟨g, e, rfl, hF, hB⟩ := h
    intro x hx
    simp only [List.mem_singleton] at hx
    subst hx; exact ⟨hF, hB.lt⟩
  | .gap t a d, fp, v, h => by
    obtain ⟨g, e, rfl, hF, hB⟩ := h
    intro x hx
    simp only [List.mem_singleton] at hx
    subst hx; exact ⟨hF, hB.lt⟩
  | .branch k a l, fp, v, h => by
    obtain ⟨g, fps, e, rfl, hF, A, c, vs, hB, hc, hr, hp⟩ := h
    intro x hx
    rcases List.mem_cons.1 hx with rfl | hx
    · exact ⟨hF, hB.lt⟩
    · exact RnsF.fp l fps vs hp x hx
theorem RnsF.fp : ∀ (l : List Tr.PT) (fps : List Nat) (vs : List Value), RnsF w F l fps vs → ∀ x ∈ fps, F x ∧ x < w.heap.size
  | [], fps, vs, h => by
    obtain ⟨rfl, _⟩ := h
    intro x hx; simp at hx
  | p :: l, fps, vs, h => by
    obtain ⟨fp, fps', v, vs', rfl, e, hp, hl⟩ := h
    intro x hx
    rcases List.mem_append.1 hx with hx | hx
    · exact RnF.fp p fp v hp x hx
    · exact RnsF.fp l fps' vs' hl x hx
end
theorem RnF.form : ∀ {p : Tr.PT} {fp : List Nat} {v : Value}, RnF w F p fp v → ∃ q, v = .pointer (some ⟨q, 0, none⟩)
  | .leaf _ _ _, _, _, h => by obtain ⟨g, e, _⟩ := h; exact ⟨g, e⟩
  | .gap _ _ _, _, _, h => by obtain ⟨g, e, _⟩ := h; exact ⟨g, e⟩
  | .branch _ _ _, _, _, h => by obtain ⟨g, _, e, _⟩ := h; exact ⟨g, e⟩
theorem RnsF.len : ∀ {l : List Tr.PT} {fps : List Nat} {vs : List Value}, RnsF w F l fps vs → vs.length = l.length
  | [], fps, vs, h => by obtain ⟨_, rfl⟩ := h; rfl
  | p :: l, fps, vs, h => by
    obtain ⟨fp, fps', v, vs', _, rfl, hp, hl⟩ := h
    rw [List.length_cons, List.length_cons, RnsF.len hl]
theorem RnsF.app : ∀ {l m : List Tr.PT} {fps fqs : List Nat} {vs us : List Value}, RnsF w F l fps vs → RnsF w F m fqs us → RnsF w F (l ++ m) (fps ++ fqs) (vs ++ us)
  | [], m, fps, fqs, vs, us, h, hm => by obtain ⟨rfl, rfl⟩ := h; exact hm
  | p :: l, m, fps, fqs, vs, us, h, hm => by
    obtain ⟨fp, fps', v, vs', rfl, rfl, hp, hl⟩ := h
    exact ⟨fp, fps' ++ fqs, v, vs' ++ us, by rw [List.append_assoc], rfl, hp, RnsF.app hl hm⟩
theorem RnsF.one {p : Tr.PT} {fp : List Nat} {v : Value} (h : RnF w F p fp v) : RnsF w F [p] fp [v] := ⟨fp, [], v, [], by simp, rfl, h, rfl, rfl⟩
end

/-- a node that is being made: its block, its row, its kids stand in none of the blocks K -/
structure OBn (w : World) (K : Nat → Prop) (h kind : Nat) (pts : List Tr.PT) (fps : List Nat) (A : Option Addr) (c : Nat) (vs : List Value) : Prop where
  nk : ¬ K h
  blk : Blk w h 121 (nodeC kind 0 [] (.slice A pts.length c))
  own : w.ownsRow 0 33 1 (.slice A pts.length c) pts.length vs
  nr : ∀ q, (Value.slice A pts.length c).ownBlock = some q → ¬ K q
  parts : RnsF w (fun x => ¬ K x ∧ x ≠ h ∧ some x ≠ (Value.slice A pts.length c).ownBlock) pts fps vs
  nd : fps.Nodup
/-- a node that is being made -/
def Bn (w : World) (K : Nat → Prop) (h kind : Nat) (pts : List Tr.PT) : Prop := ∃ fps A c vs, OBn w K h kind pts fps A c vs
/-- a node that has been made -/
def Rn (w : World) (F : Nat → Prop) (p : Tr.PT) (v : Value) : Prop := ∃ fp, RnF w F p fp v ∧ fp.Nodup
theorem Rn.keep {w w' : World} {F F' : Nat → Prop} {p : Tr.PT} {v : Value} (h : Rn w F p v) (hs : w.heap.size ≤ w'.heap.size) (hk : ∀ b, F b → b < w.heap.size → w'.heap[b]? = w.heap[b]? ∧ F' b) : Rn w' F' p v := by
  obtain ⟨fp, h, hn⟩ := h
  exact ⟨fp, RnF.keep hs hk _ _ _ h, hn⟩
theorem Rn.form {w : World} {F : Nat → Prop} {p : Tr.PT} {v : Value} (h : Rn w F p v) : ∃ q, v = .pointer (some ⟨q, 0, none⟩) := by
  obtain ⟨fp, h, _⟩ := h
  exact h.form
section
variable {w w' : World} {K K' : Nat → Prop} {g h kind : Nat} {pts : List Tr.PT} {fps : List Nat} {A : Option Addr} {c : Nat} {vs : List Value}
theorem OBn.row_lt (hb : OBn w K h kind pts fps A c vs) : ∀ q, (Value.slice A pts.length c).ownBlock = some q → q < w.heap.size := fun q hq => (hb.own.lt q hq).2
theorem OBn.row_ne (hb : OBn w K h kind pts fps A c vs) : some h ≠ (Value.slice A pts.length c).ownBlock := own_ne hb.own hb.blk (by decide)
/-- what is done elsewhere leaves it -/
theorem OBn.aft (hb : OBn w K h kind pts fps A c vs) (ha : Aft K' g w w') (hg : K g) (hK : ∀ x, x < w.heap.size → K' x) : OBn w' K h kind pts fps A c vs := by
  have hne : ∀ x, ¬ K x → x ≠ g := fun x hx e => hx (e ▸ hg)
  exact ⟨hb.nk, hb.blk.aft ha (hK _ hb.blk.lt) (hne _ hb.nk), own_of_block hb.own fun q hq => ha.oth q (hK _ (hb.row_lt q hq)) (hne _ (hb.nr q hq)), hb.nr,
    RnsF.keep ha.size (fun b hF hl => ⟨ha.oth b (hK b hl) (hne _ hF.1), hF⟩) _ _ _ hb.parts, hb.nd⟩
theorem Bn.aft (hb : Bn w K h kind pts) (ha : Aft (Old w) g w w') (hg : K g) : Bn w' K h kind pts := by
  obtain ⟨fps, A, c, vs, hb⟩ := hb
  exact ⟨fps, A, c, vs, hb.aft ha hg fun x hx => hx⟩
theorem OBn.below (hb : OBn w K h kind pts fps A c vs) (hbl : Below w.heap.size w w') : OBn w' K h kind pts fps A c vs :=
  ⟨hb.nk, hb.blk.below hbl hb.blk.lt, own_of_block hb.own fun q hq => hbl.block q (hb.row_lt q hq), hb.nr, RnsF.keep hbl.size (fun b hF hl => ⟨hbl.block b hl, hF⟩) _ _ _ hb.parts, hb.nd⟩
theorem Bn.below (hb : Bn w K h kind pts) (hbl : Below w.heap.size w w') : Bn w' K h kind pts := by
  obtain ⟨fps, A, c, vs, hb⟩ := hb
  exact ⟨fps, A, c, vs, hb.below hbl⟩
theorem Bn.lt (hb : Bn w K h kind pts) : h < w.heap.size := by
  obtain ⟨fps, A, c, vs, hb⟩ := hb
  exact hb.blk.lt
theorem Bn.nk (hb : Bn w K h kind pts) : ¬ K h := by
  obtain ⟨fps, A, c, vs, hb⟩ := hb
  exact hb.nk
/-- a node that has been made is a part -/
theorem Bn.part (hb : Bn w K h kind pts) (at_ : Nat) : Rn w (fun x => ¬ K x) (.branch kind at_ pts) (.pointer (some ⟨h, 0, none⟩)) := by
  obtain ⟨fps, A, c, vs, hb⟩ := hb
  refine ⟨h :: fps, ⟨h, fps, rfl, rfl, hb.nk, A, c, vs, hb.blk, ?_, ?_, ?_⟩, List.nodup_cons.2 ⟨fun hx => ((RnsF.fp _ _ _ hb.parts _ hx).1).2.1 rfl, hb.nd⟩⟩
  · rcases hb.own.2 with ⟨e, e2⟩ | ⟨q, cap, cur, e, _, _, hle, _⟩
    · injection e; omega
    · injection e with _ _ e3; omega
  · intro hn
    rcases hb.own.2 with ⟨e, e2⟩ | ⟨q, cap, cur, e, _, hq, hle, _, hz, hx⟩
    · have := hb.own.1; omega
    · injection e with e1 e2 e3
      subst e1
      refine ⟨q, 0, rfl, hb.nr q rfl, lt_heap hq, fun j u hu => ?_⟩
      rw [Nat.zero_add]
      have h0 := hb.own
      subst e3
      exact own_cell h0 j u hu
  · exact RnsF.keep (Nat.le_refl _) (fun b hF _ => ⟨rfl, hF.1⟩) _ _ _ hb.parts
/-- a new node -/
theorem Bn.new {w : World} {K : Nat → Prop} (hK : In K w) (kind : Nat) : Bn (w.alloc (.cells (nodeC kind 0 [] (.slice none 0 0)) 121)) K w.heap.size kind [] :=
  ⟨[], none, 0, [], ⟨fun h => Nat.lt_irrefl _ (hK _ h), Blk.new _ _ _, World.ownsRow_nil _ _ _ _, fun q hq => by simp [Value.ownBlock] at hq, ⟨rfl, rfl⟩, List.nodup_nil⟩⟩
/-- a node's kind is turned -/
theorem Bn.turned (hb : Bn w K h kind pts) (k : Nat) : Bn (w.setCell ⟨h, 0, none⟩ (.int .i64 (k : Int))) K h k pts := by
  obtain ⟨fps, A, c, vs, hb⟩ := hb
  have h1 := hb.blk.set_ 0 (.int .i64 (k : Int))
  have hz : w.heap.size ≤ (w.setCell ⟨h, 0, none⟩ (.int .i64 (k : Int))).heap.size := by simp [World.setCell]
  have hk : ∀ x, x ≠ h → (w.setCell ⟨h, 0, none⟩ (.int .i64 (k : Int))).heap[x]? = w.heap[x]? := fun x hx => Below.heap_setCell w ⟨h, 0, none⟩ _ x hx
  exact ⟨fps, A, c, vs, hb.nk, h1, own_of_block hb.own fun q hq => hk q fun e => hb.row_ne (by rw [← e]; exact hq.symm), hb.nr,
    RnsF.keep hz (fun x hF _ => ⟨hk x hF.2.1, hF⟩) _ _ _ hb.parts, hb.nd⟩
/-- a node is laid into a node -/
theorem OBn.push {w5 : World} (hb : OBn w K h kind pts fps A c vs) (hK : In K w) {p : Tr.PT} {v : Value} {fp : List Nat} {gg cap : Nat}
    (hp : RnF w (fun x => ¬ K x ∧ x ≠ h ∧ some x ≠ (Value.slice A pts.length c).ownBlock) p fp v) (hn : fp.Nodup) (hd : ∀ x ∈ fp, x ∉ fps)
    (hown : w5.ownsRow 0 33 1 (.slice (some ⟨gg, 0, none⟩) (pts.length + 1) cap) (pts.length + 1) (vs ++ [v]))
    (hgrow : (w.alloc (.cells #[v] 33)).grownBy w5 (Value.slice A pts.length c).ownBlock)
    (hat : (Value.slice A pts.length c).ownBlock = some gg ∨ gg = w.heap.size + 1) :
    Bn (w5.setCell ⟨h, 3, none⟩ (.slice (some ⟨gg, 0, none⟩) (pts.length + 1) cap)) K h kind (pts ++ [p]) ∧ Kept K w (w5.setCell ⟨h, 3, none⟩ (.slice (some ⟨gg, 0, none⟩) (pts.length + 1) cap)) := by
  have hz := hgrow.size
  simp at hz
  have old : ∀ x, x < w.heap.size → some x ≠ (Value.slice A pts.length c).ownBlock → x ≠ h → (w5.setCell ⟨h, 3, none⟩ (.slice (some ⟨gg, 0, none⟩) (pts.length + 1) cap)).heap[x]? = w.heap[x]? := fun x hx hr hh =>
    ((Below.heap_setCell w5 ⟨h, 3, none⟩ _ x hh).trans (hgrow.block x (by simp; omega) hr)).trans (Below.heap_alloc w _ x hx)
  have hrn : ∀ x, K x → some x ≠ (Value.slice A pts.length c).ownBlock := fun x hx e => hb.nr x e.symm hx
  have hhn : ∀ x, K x → x ≠ h := fun x hx e => hb.nk (e ▸ hx)
  have hgk : ¬ K gg := fun hk => by
    rcases hat with e | e
    · exact hb.nr gg e hk
    · have := hK gg hk; omega
  have hgn : ∀ x, x < w.heap.size → some x ≠ (Value.slice A pts.length c).ownBlock → some x ≠ some gg := fun x hx hr e => by
    rcases hat with e' | e'
    · exact hr (e.trans e'.symm)
    · injection e; omega
  have hhr : (h : Nat) ≠ gg := fun e => hgn h hb.blk.lt hb.row_ne (by rw [e])
  have hlen : (pts ++ [p]).length = pts.length + 1 := by simp
  have hB5 := ((hb.blk.alloc (.cells #[v] 33)).grown hgrow hb.row_ne).set_ 3 (.slice (some ⟨gg, 0, none⟩) (pts.length + 1) cap)
  have hsz : w5.heap.size ≤ (w5.setCell ⟨h, 3, none⟩ (.slice (some ⟨gg, 0, none⟩) (pts.length + 1) cap)).heap.size := by simp [World.setCell]
  refine ⟨⟨fps ++ fp, some ⟨gg, 0, none⟩, cap, vs ++ [v], hb.nk, ?_, ?_, ?_, ?_, ?_⟩, by omega, fun x hx => old x (hK x hx) (hrn x hx) (hhn x hx), ((show Calm w (w.alloc (.cells #[v] 33)) from ⟨rfl, rfl, rfl⟩).trans ⟨hgrow.os, hgrow.tape, hgrow.output⟩).trans (Calm.set w5 _ _)⟩
  · rw [hlen]; exact hB5
  · rw [hlen]
    exact own_of_block hown fun q hq => Below.heap_setCell w5 ⟨h, 3, none⟩ _ q (by simp only [Value.ownBlock, Option.some.injEq] at hq; subst hq; exact Ne.symm hhr)
  · intro q hq
    simp only [Value.ownBlock, Option.some.injEq] at hq
    subst hq; exact hgk
  · refine RnsF.app ?_ (RnsF.one ?_)
    · exact RnsF.keep (by omega) (fun x hF hl => ⟨old x hl hF.2.2 hF.2.1, hF.1, hF.2.1, hgn x hl hF.2.2⟩) _ _ _ hb.parts
    · exact RnF.keep (by omega) (fun x hF hl => ⟨old x hl hF.2.2 hF.2.1, hF.1, hF.2.1, hgn x hl hF.2.2⟩) _ _ _ hp
  · exact List.nodup_append.2 ⟨hb.nd, hn, fun a ha b hb' e => hd b hb' (e ▸ ha)⟩
end

/-- the document's reader in memory: its tokens' row, how deep it stands, its place, whether something stood too deep -/
structure Rdq (w : World) (K : Nat → Prop) (g : Nat) (s : Bs) (T : List Tk) (A : Option Addr) (c n i : Nat) (cut : Bool) : Prop where
  rd : Blk w g 119 #[.string ⟨s.toArray⟩, .slice A T.length c, .int .i64 (i : Int), .int .i64 (n : Int), .bool cut]
  row : RowF w (fun x => K x ∧ x ≠ g) A (tksC T)
  kg : K g
  inK : In K w
  hi : i ≤ T.length
section
variable {w w' : World} {K K' : Nat → Prop} {g : Nat} {s : Bs} {T : List Tk} {A : Option Addr} {c n i n' i' : Nat} {cut cut' : Bool}
theorem Rdq.kept (h : Rdq w K g s T A c n i cut) (hk : Kept K w w') : Rdq w' K g s T A c n i cut :=
  ⟨(hk.same g h.kg).trans h.rd, h.row.keep hk.size fun b hb _ => ⟨hk.same b hb.1, hb⟩, h.kg, h.inK.after hk.size, h.hi⟩
theorem Rdq.below (h : Rdq w K g s T A c n i cut) (hb : Below w.heap.size w w') : Rdq w' K g s T A c n i cut := h.kept (Kept.below hb h.inK)
theorem Rdq.lt (h : Rdq w K g s T A c n i cut) : g < w.heap.size := h.inK _ h.kg
theorem Rdq.old (h : Rdq w K g s T A c n i cut) : Rdq w (Old w) g s T A c n i cut := ⟨h.rd, h.row.keep (Nat.le_refl _) fun _ hb hl => ⟨rfl, hl, hb.2⟩, h.rd.lt, Old.in_ w, h.hi⟩
theorem Rdq.from_old (R : Rdq w K g s T A c n i cut) (R' : Rdq w' K' g s T A c n' i' cut') (ha : Aft K g w w') : Rdq w' K g s T A c n' i' cut' :=
  ⟨R'.rd, R.row.keep ha.size fun b hb _ => ⟨ha.oth b hb.1 hb.2, hb⟩, R.kg, R.inK.after ha.size, R'.hi⟩
/-- its place is turned -/
theorem Rdq.at_ (h : Rdq w K g s T A c n i cut) {j : Nat} (hj : j ≤ T.length) : Rdq (w.setCell ⟨g, 2, none⟩ (.int .i64 (j : Int))) K g s T A c n j cut := by
  have h1 := h.rd.set_ 2 (.int .i64 (j : Int))
  have ha := (Aft.refl K g w).set 2 (.int .i64 (j : Int))
  exact ⟨h1, h.row.keep ha.size fun b hb _ => ⟨ha.oth b hb.1 hb.2, hb⟩, h.kg, h.inK.after ha.size, hj⟩
theorem Rdq.deep (h : Rdq w K g s T A c n i cut) (m : Nat) : Rdq (w.setCell ⟨g, 3, none⟩ (.int .i64 (m : Int))) K g s T A c m i cut := by
  have h1 := h.rd.set_ 3 (.int .i64 (m : Int))
  have ha := (Aft.refl K g w).set 3 (.int .i64 (m : Int))
  exact ⟨h1, h.row.keep ha.size fun b hb _ => ⟨ha.oth b hb.1 hb.2, hb⟩, h.kg, h.inK.after ha.size, h.hi⟩
theorem Rdq.cut_ (h : Rdq w K g s T A c n i cut) (b : Bool) : Rdq (w.setCell ⟨g, 4, none⟩ (.bool b)) K g s T A c n i b := by
  have h1 := h.rd.set_ 4 (.bool b)
  have ha := (Aft.refl K g w).set 4 (.bool b)
  exact ⟨h1, h.row.keep ha.size fun b hb _ => ⟨ha.oth b hb.1 hb.2, hb⟩, h.kg, h.inK.after ha.size, h.hi⟩
theorem Rdq.cells (h : Rdq w K g s T A c n i cut) : w.cell? ⟨g, 0, none⟩ = some (.string ⟨s.toArray⟩) ∧ w.cell? ⟨g, 1, none⟩ = some (.slice A T.length c) ∧ w.cell? ⟨g, 2, none⟩ = some (.int .i64 (i : Int)) ∧ w.cell? ⟨g, 3, none⟩ = some (.int .i64 (n : Int)) ∧ w.cell? ⟨g, 4, none⟩ = some (.bool cut) := by
  have c0 := h.rd.cell 0
  have c1 := h.rd.cell 1
  have c2 := h.rd.cell 2
  have c3 := h.rd.cell 3
  have c4 := h.rd.cell 4
  simp at c0 c1 c2 c3 c4
  exact ⟨c0, c1, c2, c3, c4⟩
end
end Go.Proofs.YtalklmeejdmifaaGreatDoor
/-
  THE DOCUMENT'S NODES, PLACED: what Put makes of a node.
-/
namespace Go.Proofs.YtalklmeejdmifaaGreatDoor
open Go.RowKit

/-- a node's cells -/
def genC (k tok : Nat) (t : Bs) (A : Option Addr) (m c : Nat) (a e f u : Int) (b : Bool) : Array Value := #[.int .i64 (k : Int), .int .i64 (tok : Int), .string ⟨t.toArray⟩, .slice A m c, .int .i64 a, .int .i64 e, .int .i64 f, .int .i64 u, .bool b]
def putC (k tok : Nat) (t : Bs) (A : Option Addr) (m c : Nat) (a : Nat) (q : Tr.Pl) : Array Value := genC k tok t A m c a q.end_ q.from_ q.to_ q.lacks
/-- a node's block -/
def NodeB (w : World) (g : Nat) : Prop := ∃ k tok t A m c a e f u b, Blk w g 121 (genC k tok t A m c a e f u b)
/-- only nodes of X have turned -/
structure Turn (X : List Nat) (w w' : World) : Prop where
  size : w'.heap.size = w.heap.size
  oth : ∀ x, x ∉ X → w'.heap[x]? = w.heap[x]?
  nodes : ∀ x ∈ X, NodeB w x
  calm : Calm w w'
theorem NodeB.no_ptr {w : World} {g j : Nat} {q : Option Addr} (h : NodeB w g) (hc : w.cell? ⟨g, j, none⟩ = some (.pointer q)) : False := by
  obtain ⟨k, tok, t, A, m, c, a, e, f, u, b, hB⟩ := h
  rw [hB.cell j] at hc
  unfold genC at hc
  rcases j with _ | _ | _ | _ | _ | _ | _ | _ | _ | j
  all_goals simp at hc
theorem RowF.at_ {w : World} {F : Nat → Prop} {A : Option Addr} {vs : List Value} {i : Nat} {u : Value} (h : RowF w F A vs) (hu : vs[i]? = some u) : ∃ b o, A = some ⟨b, o, none⟩ ∧ w.cell? ⟨b, o + i, none⟩ = some u := by
  obtain ⟨b, o, e, _, _, hc⟩ := h (by have := (List.getElem?_eq_some_iff.1 hu).1; omega)
  exact ⟨b, o, e, hc i u hu⟩
section
variable {w w' w1 : World} {X : List Nat} {F : Nat → Prop} {A : Option Addr}
theorem Turn.trans (h : Turn X w w1) (h' : Turn X w1 w') : Turn X w w' := ⟨h'.size.trans h.size, fun x hx => (h'.oth x hx).trans (h.oth x hx), h.nodes, h.calm.trans h'.calm⟩
theorem Turn.mono {Y : List Nat} (h : Turn X w w') (hX : ∀ x ∈ X, x ∈ Y) (hY : ∀ y ∈ Y, NodeB w y) : Turn Y w w' := ⟨h.size, fun x hx => h.oth x fun hm => hx (hX x hm), hY, h.calm⟩
theorem RowF.turn {vs : List Value} (h : RowF w F A vs) (ht : Turn X w w') (hv : ∀ u ∈ vs, ∃ q, u = .pointer q) : RowF w' F A vs := fun hn => by
  obtain ⟨b, o, e, hF, hl, hc⟩ := h hn
  have hb : b ∉ X := fun hb => by
    obtain ⟨q, hq⟩ := hv vs[0] (List.getElem_mem hn)
    have h0 := hc 0 vs[0] (List.getElem?_eq_getElem hn)
    rw [hq] at h0
    exact (ht.nodes b hb).no_ptr h0
  exact ⟨b, o, e, hF, by rw [ht.size]; exact hl, fun j u hu => (World.cell?_of_block (a := ⟨b, o + j, none⟩) (ht.oth b hb)).trans (hc j u hu)⟩
theorem RnsF.ptrs : ∀ {l : List Tr.PT} {fps : List Nat} {vs : List Value}, RnsF w F l fps vs → ∀ u ∈ vs, ∃ q, u = .pointer q
  | [], _, _, h, u, hu => by obtain ⟨_, rfl⟩ := h; simp at hu
  | p :: l, fps, vs, h, u, hu => by
    obtain ⟨fp, fps', v, vs', _, rfl, hp, hl⟩ := h
    rcases List.mem_cons.1 hu with rfl | hu
    · obtain ⟨q, e⟩ := hp.form; exact ⟨_, e⟩
    · exact RnsF.ptrs hl u hu
mutual
theorem RnF.turn (ht : Turn X w w') : ∀ (p : Tr.PT) (fp : List Nat) (v : Value), (∀ x ∈ fp, x ∉ X) → RnF w F p fp v → RnF w' F p fp v
  | .leaf k t a, fp, v, hx, h => by
    obtain ⟨g, e, rfl, hF, hB⟩ := h
    exact ⟨g, e, rfl, hF, (ht.oth g (hx g (by simp))).trans hB⟩
  | .gap t a d, fp, v, hx, h => by
    obtain ⟨g, e, rfl, hF, hB⟩ := h
    exact ⟨g, e, rfl, hF, (ht.oth g (hx g (by simp))).trans hB⟩
  | .branch k a l, fp, v, hx, h => by
    obtain ⟨g, fps, e, rfl, hF, A, c, vs, hB, hc, hr, hp⟩ := h
    exact ⟨g, fps, e, rfl, hF, A, c, vs, (ht.oth g (hx g (by simp))).trans hB, hc, hr.turn ht hp.ptrs, RnsF.turn ht l fps vs (fun x hm => hx x (List.mem_cons_of_mem _ hm)) hp⟩
theorem RnsF.turn (ht : Turn X w w') : ∀ (l : List Tr.PT) (fps : List Nat) (vs : List Value), (∀ x ∈ fps, x ∉ X) → RnsF w F l fps vs → RnsF w' F l fps vs
  | [], fps, vs, _, h => h
  | p :: l, fps, vs, hx, h => by
    obtain ⟨fp, fps', v, vs', rfl, e, hp, hl⟩ := h
    exact ⟨fp, fps', v, vs', rfl, e, RnF.turn ht p fp v (fun x hm => hx x (List.mem_append_left _ hm)) hp, RnsF.turn ht l fps' vs' (fun x hm => hx x (List.mem_append_right _ hm)) hl⟩
end
mutual
theorem RnF.nodes : ∀ (p : Tr.PT) (fp : List Nat) (v : Value), RnF w F p fp v → ∀ x ∈ fp, NodeB w x
  | .leaf k t a, fp, v, h, x, hx => by
    obtain ⟨g, e, rfl, hF, hB⟩ := h
    simp only [List.mem_singleton] at hx
    subst hx; exact ⟨_, _, _, _, _, _, _, _, _, _, _, hB⟩
  | .gap t a d, fp, v, h, x, hx => by
    obtain ⟨g, e, rfl, hF, hB⟩ := h
    simp only [List.mem_singleton] at hx
    subst hx; exact ⟨_, _, _, _, _, _, _, _, _, _, _, hB⟩
  | .branch k a l, fp, v, h, x, hx => by
    obtain ⟨g, fps, e, rfl, hF, A, c, vs, hB, hc, hr, hp⟩ := h
    rcases List.mem_cons.1 hx with rfl | hx
    · exact ⟨_, _, _, _, _, _, _, _, _, _, _, hB⟩
    · exact RnsF.nodes l fps vs hp x hx
theorem RnsF.nodes : ∀ (l : List Tr.PT) (fps : List Nat) (vs : List Value), RnsF w F l fps vs → ∀ x ∈ fps, NodeB w x
  | [], fps, vs, h, x, hx => by obtain ⟨rfl, _⟩ := h; simp at hx
  | p :: l, fps, vs, h, x, hx => by
    obtain ⟨fp, fps', v, vs', rfl, e, hp, hl⟩ := h
    rcases List.mem_append.1 hx with hx | hx
    · exact RnF.nodes p fp v hp x hx
    · exact RnsF.nodes l fps' vs' hl x hx
end
end
mutual
/-- a part as the document's node, placed from a on -/
def NpF (w : World) (F : Nat → Prop) : Tr.PT → Nat → List Nat → Value → Prop
  | .leaf k t x, a, fp, v => ∃ g, v = .pointer (some ⟨g, 0, none⟩) ∧ fp = [g] ∧ F g ∧ Blk w g 121 (putC 0 k t none 0 0 a (Tr.putP (.leaf k t x) a))
  | .gap t x d, a, fp, v => ∃ g, v = .pointer (some ⟨g, 0, none⟩) ∧ fp = [g] ∧ F g ∧ Blk w g 121 (putC 1 0 t none 0 0 a (Tr.putP (.gap t x d) a))
  | .branch k x l, a, fp, v => ∃ g fps, v = .pointer (some ⟨g, 0, none⟩) ∧ fp = g :: fps ∧ F g ∧ ∃ A c vs, Blk w g 121 (putC k 0 [] A l.length c a (Tr.putP (.branch k x l) a)) ∧ l.length ≤ c ∧ RowF w F A vs ∧ NpsF w F l a fps vs
def NpsF (w : World) (F : Nat → Prop) : List Tr.PT → Nat → List Nat → List Value → Prop
  | [], _, fps, vs => fps = [] ∧ vs = []
  | p :: l, a, fps, vs => ∃ fp fps' v vs', fps = fp ++ fps' ∧ vs = v :: vs' ∧ NpF w F p a fp v ∧ NpsF w F l (Tr.putP p a).end_ fps' vs'
end
section
variable {w w' w1 : World} {X : List Nat} {F : Nat → Prop}
theorem NpF.form : ∀ {p : Tr.PT} {a : Nat} {fp : List Nat} {v : Value}, NpF w F p a fp v → ∃ q, v = .pointer (some ⟨q, 0, none⟩)
  | .leaf _ _ _, _, _, _, h => by obtain ⟨g, e, _⟩ := h; exact ⟨g, e⟩
  | .gap _ _ _, _, _, _, h => by obtain ⟨g, e, _⟩ := h; exact ⟨g, e⟩
  | .branch _ _ _, _, _, _, h => by obtain ⟨g, _, e, _⟩ := h; exact ⟨g, e⟩
theorem NpsF.ptrs : ∀ {l : List Tr.PT} {a : Nat} {fps : List Nat} {vs : List Value}, NpsF w F l a fps vs → ∀ u ∈ vs, ∃ q, u = .pointer q
  | [], _, _, _, h, u, hu => by obtain ⟨_, rfl⟩ := h; simp at hu
  | p :: l, _, fps, vs, h, u, hu => by
    obtain ⟨fp, fps', v, vs', _, rfl, hp, hl⟩ := h
    rcases List.mem_cons.1 hu with rfl | hu
    · obtain ⟨q, e⟩ := hp.form; exact ⟨_, e⟩
    · exact NpsF.ptrs hl u hu
theorem NpsF.len : ∀ {l : List Tr.PT} {a : Nat} {fps : List Nat} {vs : List Value}, NpsF w F l a fps vs → vs.length = l.length
  | [], _, _, _, h => by obtain ⟨_, rfl⟩ := h; rfl
  | p :: l, _, _, _, h => by
    obtain ⟨fp, fps', v, vs', _, rfl, _, hl⟩ := h
    rw [List.length_cons, List.length_cons, NpsF.len hl]
theorem NpsF.snoc : ∀ {l : List Tr.PT} {s : Tr.Pl} {fps fp : List Nat} {vs : List Value} {p : Tr.PT} {v : Value}, NpsF w F l s.end_ fps vs → NpF w F p (Tr.putsP l s).end_ fp v → NpsF w F (l ++ [p]) s.end_ (fps ++ fp) (vs ++ [v])
  | [], s, fps, fp, vs, p, v, h, hp => by
    obtain ⟨rfl, rfl⟩ := h
    exact ⟨fp, [], v, [], by simp, rfl, by simpa only [Tr.putsP] using hp, rfl, rfl⟩
  | q :: l, s, fps, fp, vs, p, v, h, hp => by
    obtain ⟨fq, fps', u, us', rfl, rfl, hq, hl⟩ := h
    refine ⟨fq, fps' ++ fp, u, us' ++ [v], by rw [List.append_assoc], rfl, hq, ?_⟩
    have hj : (Tr.joinP s (Tr.putP q s.end_)).end_ = (Tr.putP q s.end_).end_ := rfl
    rw [← hj] at hl ⊢
    exact NpsF.snoc hl (by simpa only [Tr.putsP] using hp)
mutual
theorem NpF.turn (ht : Turn X w w') : ∀ (p : Tr.PT) (a : Nat) (fp : List Nat) (v : Value), (∀ x ∈ fp, x ∉ X) → NpF w F p a fp v → NpF w' F p a fp v
  | .leaf k t _, a, fp, v, hx, h => by
    obtain ⟨g, e, rfl, hF, hB⟩ := h
    exact ⟨g, e, rfl, hF, (ht.oth g (hx g (by simp))).trans hB⟩
  | .gap t _ d, a, fp, v, hx, h => by
    obtain ⟨g, e, rfl, hF, hB⟩ := h
    exact ⟨g, e, rfl, hF, (ht.oth g (hx g (by simp))).trans hB⟩
  | .branch k _ l, a, fp, v, hx, h => by
    obtain ⟨g, fps, e, rfl, hF, A, c, vs, hB, hc, hr, hp⟩ := h
    exact ⟨g, fps, e, rfl, hF, A, c, vs, (ht.oth g (hx g (by simp))).trans hB, hc, hr.turn ht hp.ptrs, NpsF.turn ht l a fps vs (fun x hm => hx x (List.mem_cons_of_mem _ hm)) hp⟩
theorem NpsF.turn (ht : Turn X w w') : ∀ (l : List Tr.PT) (a : Nat) (fps : List Nat) (vs : List Value), (∀ x ∈ fps, x ∉ X) → NpsF w F l a fps vs → NpsF w' F l a fps vs
  | [], _, fps, vs, _, h => h
  | p :: l, a, fps, vs, hx, h => by
    obtain ⟨fp, fps', v, vs', rfl, e, hp, hl⟩ := h
    exact ⟨fp, fps', v, vs', rfl, e, NpF.turn ht p a fp v (fun x hm => hx x (List.mem_append_left _ hm)) hp, NpsF.turn ht l _ fps' vs' (fun x hm => hx x (List.mem_append_right _ hm)) hl⟩
end
end
/-- a placed node's own block -/
theorem NpF.head {w : World} {F : Nat → Prop} : ∀ {p : Tr.PT} {a : Nat} {fp : List Nat} {v : Value}, NpF w F p a fp v → ∃ q k tok t A m c, v = .pointer (some ⟨q, 0, none⟩) ∧ q ∈ fp ∧ Blk w q 121 (putC k tok t A m c a (Tr.putP p a))
  | .leaf _ _ _, _, _, _, h => by obtain ⟨g, e, rfl, _, hB⟩ := h; exact ⟨g, _, _, _, _, _, _, e, by simp, hB⟩
  | .gap _ _ _, _, _, _, h => by obtain ⟨g, e, rfl, _, hB⟩ := h; exact ⟨g, _, _, _, _, _, _, e, by simp, hB⟩
  | .branch _ _ _, _, _, _, h => by obtain ⟨g, _, e, rfl, _, A, c, vs, hB, _⟩ := h; exact ⟨g, _, _, _, _, _, _, e, by simp, hB⟩
/-- a node's block, its cells turned -/
theorem gen_set {w : World} {g k tok : Nat} {t : Bs} {A : Option Addr} {m c : Nat} {a e f u : Int} {b : Bool} (h : Blk w g 121 (genC k tok t A m c a e f u b)) :
    (∀ x : Int, Blk (w.setCell ⟨g, 4, none⟩ (.int .i64 x)) g 121 (genC k tok t A m c x e f u b)) ∧
    (∀ x : Int, Blk (w.setCell ⟨g, 5, none⟩ (.int .i64 x)) g 121 (genC k tok t A m c a x f u b)) ∧
    (∀ x : Int, Blk (w.setCell ⟨g, 6, none⟩ (.int .i64 x)) g 121 (genC k tok t A m c a e x u b)) ∧
    (∀ x : Int, Blk (w.setCell ⟨g, 7, none⟩ (.int .i64 x)) g 121 (genC k tok t A m c a e f x b)) ∧
    (∀ x : Bool, Blk (w.setCell ⟨g, 8, none⟩ (.bool x)) g 121 (genC k tok t A m c a e f u x)) :=
  ⟨fun x => h.set_ 4 (.int .i64 x), fun x => h.set_ 5 (.int .i64 x), fun x => h.set_ 6 (.int .i64 x), fun x => h.set_ 7 (.int .i64 x), fun x => h.set_ 8 (.bool x)⟩
theorem gen_turn {w : World} {g k tok : Nat} {t : Bs} {A : Option Addr} {m c : Nat} {a e f u : Int} {b : Bool} (h : Blk w g 121 (genC k tok t A m c a e f u b)) (i : Nat) (v : Value) : Turn [g] w (w.setCell ⟨g, i, none⟩ v) :=
  ⟨by simp [World.setCell], fun x hx => Below.heap_setCell w ⟨g, i, none⟩ v x (by simpa using hx), fun x hx => by simp only [List.mem_singleton] at hx; subst hx; exact ⟨_, _, _, _, _, _, _, _, _, _, _, h⟩, Calm.set w _ v⟩
end Go.Proofs.YtalklmeejdmifaaGreatDoor
