/-
  JOINED of the texts YC YA YD
-/
import Derived.Test.YtalklmeejdmifaaGreatDoorJaq
import Derived.StillTailTactics
import Derived.Handy
import Derived.Deep.RegionHeld3
import Derived.Maps.OwnOps
import Derived.Carry
import Derived.Deep.CutBlock
import Derived.Deep.AppendLies
import Derived.Deep.QuietTactic
import Derived.BigQuiet
import Derived.Lib.RuneBytes
import Derived.Lib.Strings
import Derived.Deep.DeepCutAuto
import Derived.Lib.ConvBytes
import Derived.Laws.Strings3
import Derived.Laws.Closers25
import Derived.Laws.Closers25b
import Derived.BigCall
import Derived.BigGuard
import Derived.Test.YtalklmeejdmifaaGreatDoorShelfX
import Derived.Shelf.Spec.BytesIndexFunc
import Derived.Lib.IndexMore
import Derived.Test.YtalklmeejdmifaaGreatDoorRows
import Derived.WalkKit
import Derived.WalkSpells
import Derived.WalkLawsBesides
import Derived.Below
import Derived.Laws.OwnMore
import Derived.Deep.Draws
import Derived.Lib.Hide
import Derived.IntWalk
import Derived.Test.YtalklmeejdmifaaGreatDoorShelfW
import Derived.Shelf.Strings.SlTrimAscii
import Derived.Lib.LaidTab
import Derived.Lib.AtoiAll
import Derived.Lib.IndexLaws
import Derived.Lib.SlTrimSet
import Derived.Lib.ItoaNum
import Derived.Lib.Atoi
import Derived.WalkMore
import Derived.ScopeJumps
import Derived.Laws.AppendOwnNone
import Derived.Test.YtalklmeejdmifaaGreatDoorJan
/-
  WALKS of package tree: To.
-/
namespace Go.Proofs.YtalklmeejdmifaaGreatDoor
open Go.RowKit

theorem to_leaf (a : Addr) (w : World) : (method 517 104 (.pointer (some a)) "To").run Tryz.prog w = .ok (311, .pointer (some a)) w := by kernel_rfl
theorem to_gap (a : Addr) (w : World) : (method 517 107 (.pointer (some a)) "To").run Tryz.prog w = .ok (314, .pointer (some a)) w := by kernel_rfl
theorem to_branch (a : Addr) (w : World) : (method 517 90 (.pointer (some a)) "To").run Tryz.prog w = .ok (307, .pointer (some a)) w := by kernel_rfl
theorem tnil (t : Nat) (ht : t = 104 ∨ t = 107 ∨ t = 90) (a : Addr) (w : World) : (nilAhead 517 t (.pointer (some a)) "To").run Tryz.prog w = .ok (some false) w := by
  rcases ht with rfl | rfl | rfl <;> kernel_rfl
theorem as_leaf_leaf (a : Addr) (w : World) : (Instr.typeAssert (.iface 104 (.pointer (some a))) 94 104 true).run Tryz.prog w = .ok (.tuple #[.pointer (some a), .bool true]) w := by kernel_rfl
theorem as_leaf_gap (a : Addr) (w : World) : (Instr.typeAssert (.iface 104 (.pointer (some a))) 94 107 true).run Tryz.prog w = .ok (.tuple #[.pointer none, .bool false]) w := by kernel_rfl
theorem as_leaf_branch (a : Addr) (w : World) : (Instr.typeAssert (.iface 104 (.pointer (some a))) 94 90 true).run Tryz.prog w = .ok (.tuple #[.pointer none, .bool false]) w := by kernel_rfl
theorem as_gap_leaf (a : Addr) (w : World) : (Instr.typeAssert (.iface 107 (.pointer (some a))) 94 104 true).run Tryz.prog w = .ok (.tuple #[.pointer none, .bool false]) w := by kernel_rfl
theorem as_gap_gap (a : Addr) (w : World) : (Instr.typeAssert (.iface 107 (.pointer (some a))) 94 107 true).run Tryz.prog w = .ok (.tuple #[.pointer (some a), .bool true]) w := by kernel_rfl
theorem as_gap_branch (a : Addr) (w : World) : (Instr.typeAssert (.iface 107 (.pointer (some a))) 94 90 true).run Tryz.prog w = .ok (.tuple #[.pointer none, .bool false]) w := by kernel_rfl
theorem as_branch_leaf (a : Addr) (w : World) : (Instr.typeAssert (.iface 90 (.pointer (some a))) 94 104 true).run Tryz.prog w = .ok (.tuple #[.pointer none, .bool false]) w := by kernel_rfl
theorem as_branch_gap (a : Addr) (w : World) : (Instr.typeAssert (.iface 90 (.pointer (some a))) 94 107 true).run Tryz.prog w = .ok (.tuple #[.pointer none, .bool false]) w := by kernel_rfl
theorem as_branch_branch (a : Addr) (w : World) : (Instr.typeAssert (.iface 90 (.pointer (some a))) 94 90 true).run Tryz.prog w = .ok (.tuple #[.pointer (some a), .bool true]) w := by kernel_rfl
/-- what To tells -/
def ToE (p : Tr.PT) (w : World) (e : Ending) (w' : World) : Prop := e = .returned (.int .i64 (p.to_ : Int)) ∧ ∃ n, w' = w.drewN n
def ToC (p : Tr.PT) : Prop := ∀ (w : World) (F : Nat → Prop) (v : Value), PtF w F p v → p.to_ ≤ 1000000000000 → ∃ t q f, v = .iface t (.pointer (some ⟨q, 0, none⟩)) ∧
  (∀ w, (nilAhead 517 t (.pointer (some ⟨q, 0, none⟩)) "To").run Tryz.prog w = .ok (some false) w) ∧
  (∀ w, (method 517 t (.pointer (some ⟨q, 0, none⟩)) "To").run Tryz.prog w = .ok (f, .pointer (some ⟨q, 0, none⟩)) w) ∧
  (∀ (args : Array Value) (w : World), (callFunc f args).run Tryz.prog w = .ok (.enter f args) w) ∧
  ∀ w', Below w.heap.size w w' → Calls Tryz.prog f #[.pointer (some ⟨q, 0, none⟩)] w' (ToE p w')

set_option maxHeartbeats 4000000 in
set_option maxRecDepth 100000 in
theorem leaf_to {w : World} {q : Nat} {k a : Nat} {t : Bs} (hB : Blk w q 106 #[.int .i64 (k : Int), .string ⟨t.toArray⟩, .int .i64 (a : Int)]) (hto : a + t.length ≤ 1000000000000) :
    Calls Tryz.prog 311 #[.pointer (some ⟨q, 0, none⟩)] w (ToE (.leaf k t a) w) := by
  have b1 := hB.cell 1
  have b2 := hB.cell 2
  simp at b1 b2
  have a0 : IntKind.i64.wrap ((a : Int) + (t.length : Int)) = (a : Int) + (t.length : Int) := IntWalk.i64_in _ (by omega)
  have HP : Hid (Tr.PT.to_ (.leaf k t a) = a + t.length) := by show _ = _; unfold Tr.PT.to_; rfl
  clear hB hto
  go_enter Tryz.func311, Tryz.ntmps311
  go_wp2_with fail
  go_quiet (fail)
  go_wp2_with fail
  go_ret
  exact ⟨by rw [HP.out]; simp, _, rfl⟩

set_option maxHeartbeats 4000000 in
set_option maxRecDepth 100000 in
theorem gap_to {w : World} {q : Nat} {a : Nat} {t : Bs} {d : Bool} (hB : Blk w q 297 #[.string ⟨t.toArray⟩, .int .i64 (a : Int), .bool d]) :
    Calls Tryz.prog 314 #[.pointer (some ⟨q, 0, none⟩)] w (ToE (.gap t a d) w) := by
  have b1 := hB.cell 1
  simp at b1
  have HP : Hid (Tr.PT.to_ (.gap t a d) = a) := by show _ = _; unfold Tr.PT.to_; rfl
  clear hB
  go_enter Tryz.func314, Tryz.ntmps314
  go_wp2
  go_ret
  exact ⟨by rw [HP.out]; rfl, 0, rfl⟩
theorem last_to : ∀ (l : List Tr.PT) (a : Nat) (h : 0 < l.length), Tr.lastTo a l = (l[l.length - 1]'(by omega)).to_
  | [], _, h => absurd h (by simp)
  | [p], a, _ => by unfold Tr.lastTo Tr.lastTo; rfl
  | p :: q :: l, a, _ => by
    unfold Tr.lastTo
    have := last_to (q :: l) p.to_ (by simp)
    rw [this]
    rfl

set_option maxHeartbeats 4000000 in
set_option maxRecDepth 100000 in
theorem branch_to {w w' : World} {F : Nat → Prop} {q k a : Nat} {l : List Tr.PT} {A : Option Addr} {c : Nat} {vs : List Value} (hB : Blk w q 109 #[.int .i64 (k : Int), .slice A l.length c, .int .i64 (a : Int)]) (hrow : RowF w F A vs) (hp : PtsF w F l vs) (hl : l.length ≤ 1000000000) (hto : Tr.lastTo a l ≤ 1000000000000) (IH : ∀ p ∈ l, ToC p) (hb : Below w.heap.size w w') :
    Calls Tryz.prog 307 #[.pointer (some ⟨q, 0, none⟩)] w' (ToE (.branch k a l) w') := by
  have hB' := hB.below hb hB.lt
  have HP : Hid (Tr.PT.to_ (.branch k a l) = Tr.lastTo a l) := by show _ = _; unfold Tr.PT.to_; rfl
  have b1 := hB'.cell 1
  have b2 := hB'.cell 2
  simp at b1 b2
  by_cases h0 : 0 < l.length
  · have hlt : l.length - 1 < l.length := by omega
    have hlast := last_to l a h0
    rw [hlast] at HP hto
    obtain ⟨v, hv, hpv⟩ := hp.at_ hlt
    obtain ⟨t, qp, f, rfl, hni, hme, hcf, hcl⟩ := IH l[l.length - 1] (List.getElem_mem hlt) w F v hpv hto
    obtain ⟨br, o, rfl, hcell⟩ := hrow.at_ hv
    have hbl := World.block_lt_of_cell? w ⟨br, o + (l.length - 1), none⟩ hcell
    have q0 := (hb.cell (p := ⟨br, o + (l.length - 1), none⟩) hbl).trans hcell
    have hcl := hcl w' hb
    have i0 : (0 : Int) < (l.length : Int) := by omega
    have a0 : IntKind.i64.wrap ((l.length : Int) - 1) = ((l.length - 1 : Nat) : Int) := by rw [IntWalk.i64_in _ (by omega)]; omega
    generalize l[l.length - 1] = p at *
    have i1 : ((l.length - 1 : Nat) : Int) < (l.length : Int) := by omega
    have i2 : (0 : Int) ≤ ((l.length - 1 : Nat) : Int) := by omega
    generalize l.length - 1 = j at *
    clear hpv hv hcell hbl hlt hlast hto hB' hB hrow hp IH h0 b2
    go_enter Tryz.func307, Tryz.ntmps307
    go_wp2_with fail
    refine hcl.mono ?_
    clear hcl
    rintro e w1 ⟨rfl, n, rfl⟩
    go_wp2_with fail
    go_ret
    exact ⟨by rw [HP.out]; rfl, n, rfl⟩
  · obtain rfl : l = [] := by cases l; rfl; simp at h0
    have HP : Hid (Tr.PT.to_ (.branch k a []) = a) := by show _ = _; rw [HP.out]; unfold Tr.lastTo; rfl
    clear hB' hB hrow hp IH hto h0 hl
    go_enter Tryz.func307, Tryz.ntmps307
    go_wp2
    go_ret
    exact ⟨by rw [HP.out]; rfl, 0, rfl⟩
mutual
theorem to_all : ∀ p : Tr.PT, Tr.wfP p → ToC p
  | .leaf k t a, _ => fun w F v h hto => by
    obtain ⟨q, rfl, hF, hB⟩ := h
    exact ⟨_, q, _, rfl, fun w => tnil _ (.inl rfl) _ w, fun w => to_leaf _ w, fun _ _ => by kernel_rfl, fun w' hb => leaf_to (hB.below hb hB.lt) (by unfold Tr.PT.to_ at hto; exact hto)⟩
  | .gap t a d, _ => fun w F v h hto => by
    obtain ⟨q, rfl, hF, hB⟩ := h
    exact ⟨_, q, _, rfl, fun w => tnil _ (.inr (.inl rfl)) _ w, fun w => to_gap _ w, fun _ _ => by kernel_rfl, fun w' hb => gap_to (hB.below hb hB.lt)⟩
  | .branch k a l, hw => fun w F v h hto => by
    unfold Tr.wfP at hw
    unfold Tr.PT.to_ at hto
    obtain ⟨q, rfl, hF, A, c, vs, hB, hc, hr, hp⟩ := h
    exact ⟨_, q, _, rfl, fun w => tnil _ (.inr (.inr rfl)) _ w, fun w => to_branch _ w, fun _ _ => by kernel_rfl, fun w' hb => branch_to hB hr hp hw.2.1 hto (tos_all l hw.2.2) hb⟩
theorem tos_all : ∀ l : List Tr.PT, Tr.wfsP l → ∀ p ∈ l, ToC p
  | [], _, p, hp => absurd hp (by simp)
  | q :: l, hw, p, hp => by
    unfold Tr.wfsP at hw
    rcases List.mem_cons.1 hp with he | hp
    · rw [he]; exact to_all q hw.1
    · exact tos_all l hw.2 p hp
end
end Go.Proofs.YtalklmeejdmifaaGreatDoor
/-
  TREES, plainly: what is wrong: what the program tells is what the document tells.
-/
namespace Go.Proofs.YtalklmeejdmifaaGreatDoor.Tr

mutual
/-- what a function makes of a part and of all in it, from the left -/
def walkP {σ : Type} (f : PT → σ → σ) : PT → σ → σ
  | .leaf k t a, x => f (.leaf k t a) x
  | .gap t a d, x => f (.gap t a d) x
  | .branch k a l, x => walksP f l (f (.branch k a l) x)
def walksP {σ : Type} (f : PT → σ → σ) : List PT → σ → σ
  | [], x => x
  | p :: l, x => walksP f l (walkP f p x)
end
theorem walks_app {σ : Type} (f : PT → σ → σ) : ∀ (l m : List PT) (x : σ), walksP f (l ++ m) x = walksP f m (walksP f l x)
  | [], m, x => by simp only [List.nil_append, walksP]
  | p :: l, m, x => by simp only [List.cons_append, walksP, walks_app f l m]
/-- where the first token begins -/
def stepS : PT → Int → Int
  | .leaf k _ a, x => if x < 0 ∧ ¬ (k = 1 ∨ k = 2) then (a : Int) else x
  | _, x => x
theorem step_leaf (k : Nat) (t : List UInt8) (a : Nat) (x : Int) : stepS (.leaf k t a) x = if x < 0 ∧ ¬ (k = 1 ∨ k = 2) then (a : Int) else x := rfl
def startI (p : PT) : Int := walkP stepS p (-1)
def startOf (p : PT) : Int := if startI p < 0 then (PT.to_ p : Int) else startI p
/-- a note: from where to where, what is wrong -/
abbrev Nt := Int × Int × Nat
def noteP (b : Nat) : PT → List Nt
  | .leaf k t a => if k = 8 then [(((b + a : Nat) : Int), ((b + (a + t.length) : Nat) : Int), 3)] else []
  | .gap _ a _ => [(((b + a : Nat) : Int), ((b + a : Nat) : Int), 9)]
  | .branch k a l => if k = 5 then [((b : Int) + startOf (.branch k a l), ((b + PT.to_ (.branch k a l) : Nat) : Int), 3)] else []
theorem note_leaf (b k : Nat) (t : List UInt8) (a : Nat) : noteP b (.leaf k t a) = if k = 8 then [(((b + a : Nat) : Int), ((b + (a + t.length) : Nat) : Int), 3)] else [] := rfl
theorem note_gap (b : Nat) (t : List UInt8) (a : Nat) (d : Bool) : noteP b (.gap t a d) = [(((b + a : Nat) : Int), ((b + a : Nat) : Int), 9)] := rfl
theorem note_branch (b k a : Nat) (l : List PT) : noteP b (.branch k a l) = if k = 5 then [((b : Int) + startOf (.branch k a l), ((b + PT.to_ (.branch k a l) : Nat) : Int), 3)] else [] := rfl
def stepN (b : Nat) (p : PT) (out : List Nt) : List Nt := out ++ noteP b p
mutual
/-- the document's notes of a part that begins at a -/
def rnotesP : PT → Nat → List Nt
  | .leaf k t _, a => if k = 8 then [((a : Int), ((a + t.length : Nat) : Int), 3)] else []
  | .gap _ _ _, a => [((a : Int), (a : Int), 9)]
  | .branch k x l, a => (if k = 5 then [((putP (.branch k x l) a).from_, (putP (.branch k x l) a).to_, 3)] else []) ++ rnotessP l a
def rnotessP : List PT → Nat → List Nt
  | [], _ => []
  | p :: l, a => rnotesP p a ++ rnotessP l (putP p a).end_
end
mutual
/-- a part whose places, told from b on, are those that it has in the text -/
def okP (b : Nat) : PT → Nat → Prop
  | .leaf _ _ x, a => b + x = a
  | .gap _ x _, a => b + x = a
  | .branch k x l, a => b + x = a ∧ oksP b l a ∧ (k = 5 → 0 ≤ (putP (.branch k x l) a).from_ ∧ (putP (.branch k x l) a).to_ = ((putP (.branch k x l) a).end_ : Int))
def oksP (b : Nat) : List PT → Nat → Prop
  | [], _ => True
  | p :: l, a => okP b p a ∧ oksP b l (putP p a).end_
end
theorem ok_from {b a : Nat} : ∀ {p : PT}, okP b p a → b + p.from_ = a
  | .leaf _ _ _, h => h
  | .gap _ _ _, h => h
  | .branch _ _ _, h => h.1
mutual
theorem ok_to {b : Nat} : ∀ (p : PT) (a : Nat), okP b p a → b + p.to_ = a + wideP p
  | .leaf _ t x, a, h => by
    unfold okP at h
    unfold PT.to_ wideP
    omega
  | .gap _ x _, a, h => by
    unfold okP at h
    unfold PT.to_ wideP
    omega
  | .branch k x l, a, h => by
    unfold okP at h
    unfold PT.to_ wideP
    exact oks_to l a x h.2.1 h.1
theorem oks_to {b : Nat} : ∀ (l : List PT) (a x : Nat), oksP b l a → b + x = a → b + lastTo x l = a + widesP l
  | [], a, x, _, e => by unfold lastTo widesP; omega
  | p :: l, a, x, h, e => by
    unfold oksP at h
    unfold lastTo widesP
    have h1 := ok_to p a h.1
    have h2 := put_end p a
    have h3 := oks_to l (putP p a).end_ p.to_ h.2 (by omega)
    omega
end
theorem oks_app {b : Nat} : ∀ (l m : List PT) (a : Nat), oksP b l a → oksP b m (a + widesP l) → oksP b (l ++ m) a
  | [], m, a, _, h => by simpa [widesP] using h
  | p :: l, m, a, h, hm => by
    unfold oksP at h
    simp only [List.cons_append, oksP]
    refine ⟨h.1, oks_app l m _ h.2 ?_⟩
    rw [put_end]
    unfold widesP at hm
    rwa [Nat.add_assoc]
mutual
theorem start_stay : ∀ (p : PT) (x : Int), 0 ≤ x → walkP stepS p x = x
  | .leaf k t a, x, h => by unfold walkP; rw [step_leaf, if_neg (by omega)]
  | .gap t a d, x, h => by unfold walkP; rfl
  | .branch k a l, x, h => by unfold walkP; rw [show stepS (.branch k a l) x = x from rfl]; exact starts_stay l x h
theorem starts_stay : ∀ (l : List PT) (x : Int), 0 ≤ x → walksP stepS l x = x
  | [], x, _ => by unfold walksP; rfl
  | p :: l, x, h => by unfold walksP; rw [start_stay p x h]; exact starts_stay l x h
end
/-- the program's and the document's place of the first token -/
def RelS (b : Nat) (x f : Int) : Prop := (x = -1 ∧ f = -1) ∨ (0 ≤ x ∧ f = b + x)
mutual
theorem start_put {b : Nat} : ∀ (p : PT) (a : Nat), okP b p a → RelS b (walkP stepS p (-1)) (putP p a).from_
  | .leaf k t x, a, h => by
    unfold okP at h
    unfold walkP putP
    rw [step_leaf]
    by_cases hk : k = 1 ∨ k = 2
    · rw [if_neg (fun e => e.2 hk), if_pos hk]; exact .inl ⟨rfl, rfl⟩
    · rw [if_pos ⟨by omega, hk⟩, if_neg hk]; exact .inr ⟨by omega, by show (a : Int) = _; omega⟩
  | .gap t x d, a, h => by unfold walkP putP; exact .inl ⟨rfl, rfl⟩
  | .branch k x l, a, h => by
    unfold okP at h
    unfold walkP putP
    rw [show stepS (.branch k x l) (-1) = -1 from rfl]
    exact starts_put l ⟨a, -1, -1, false⟩ (-1) h.2.1 (.inl ⟨rfl, rfl⟩)
theorem starts_put {b : Nat} : ∀ (l : List PT) (q : Pl) (x : Int), oksP b l q.end_ → RelS b x q.from_ → RelS b (walksP stepS l x) (putsP l q).from_
  | [], q, x, _, h => by unfold walksP putsP; exact h
  | p :: l, q, x, ho, h => by
    unfold oksP at ho
    unfold walksP putsP
    refine starts_put l (joinP q (putP p q.end_)) _ ho.2 ?_
    show RelS b _ (if q.from_ < 0 then (putP p q.end_).from_ else q.from_)
    rcases h with ⟨rfl, hf⟩ | ⟨hx, hf⟩
    · rw [if_pos (by omega)]; exact start_put p q.end_ ho.1
    · rw [if_neg (by omega), start_stay p x hx]; exact .inr ⟨hx, hf⟩
end
mutual
theorem walk_notes {b : Nat} : ∀ (p : PT) (a : Nat) (out : List Nt), okP b p a → walkP (stepN b) p out = out ++ rnotesP p a
  | .leaf k t x, a, out, h => by
    unfold okP at h
    unfold walkP stepN rnotesP
    rw [note_leaf]
    subst h
    simp only [Nat.add_assoc]
  | .gap t x d, a, out, h => by
    unfold okP at h
    unfold walkP stepN rnotesP
    rw [note_gap]
    subst h
    rfl
  | .branch k x l, a, out, h => by
    have h0 := h
    unfold okP at h
    unfold walkP rnotesP
    rw [walks_notes l a _ h.2.1]
    have e : stepN b (.branch k x l) out = out ++ (if k = 5 then [((putP (.branch k x l) a).from_, (putP (.branch k x l) a).to_, 3)] else []) := by
      unfold stepN
      rw [note_branch]
      by_cases hk : k = 5
      · rw [if_pos hk, if_pos hk]
        have h1 := h.2.2 hk
        have h2 := start_put _ _ h0
        have h3 := ok_to _ _ h0
        have h4 := put_end (.branch k x l) a
        have h5 : (b : Int) + startOf (.branch k x l) = (putP (.branch k x l) a).from_ := by
          unfold startOf startI
          rcases h2 with ⟨_, hf⟩ | ⟨hx, hf⟩
          · omega
          · rw [if_neg (by omega)]; omega
        have h6 : ((b + PT.to_ (.branch k x l) : Nat) : Int) = (putP (.branch k x l) a).to_ := by rw [h1.2, h4]; omega
        rw [h5, h6]
      · rw [if_neg hk, if_neg hk]
    rw [e, List.append_assoc]
theorem walks_notes {b : Nat} : ∀ (l : List PT) (a : Nat) (out : List Nt), oksP b l a → walksP (stepN b) l out = out ++ rnotessP l a
  | [], a, out, _ => by unfold walksP rnotessP; rw [List.append_nil]
  | p :: l, a, out, h => by
    unfold oksP at h
    unfold walksP rnotessP
    rw [walk_notes p a out h.1, walks_notes l _ _ h.2, List.append_assoc]
end
theorem rnotess_app : ∀ (l m : List PT) (a : Nat), rnotessP (l ++ m) a = rnotessP l a ++ rnotessP m (a + widesP l)
  | [], m, a => by simp only [List.nil_append, rnotessP, widesP, Nat.add_zero]
  | p :: l, m, a => by
    simp only [List.cons_append, rnotessP, widesP]
    rw [rnotess_app l m, List.append_assoc, put_end, Nat.add_assoc]
end Go.Proofs.YtalklmeejdmifaaGreatDoor.Tr
/-
  WALKS of package tree: Walk, Start.
-/
namespace Go.Proofs.YtalklmeejdmifaaGreatDoor
open Go.RowKit

/-- what a function does that is called for a part of a tree in the blocks F of w0: st turns what is told by I; Q: the parts that it is called for -/
structure VisC {σ : Type} (Fn : Nat) (caps : Array Value) (w0 : World) (F : Nat → Prop) (Q : Tr.PT → Prop) (G : σ → Prop) (st : Tr.PT → σ → σ) (I : σ → World → Prop) : Prop where
  run : ∀ (args : Array Value) (w : World), (callFunc Fn args).run Tryz.prog w = .ok (.enter Fn args) w
  keep : ∀ x w, I x w → w0.heap.size ≤ w.heap.size ∧ ∀ b, F b → b < w0.heap.size → w.heap[b]? = w0.heap[b]?
  call : ∀ (p : Tr.PT) (v : Value) (x : σ) (w : World), Q p → PtF w0 F p v → I x w → G (st p x) → Calls Tryz.prog Fn (#[v] ++ caps) w fun e w' => e = .returned (.tuple #[]) ∧ I (st p x) w'
  sub : ∀ k a l, Q (.branch k a l) → l.length ≤ 1000000000 ∧ ∀ p ∈ l, Q p
  back : ∀ p x, G (st p x) → G x
section
variable {σ : Type} {Fn : Nat} {caps : Array Value} {w0 : World} {F : Nat → Prop} {Q : Tr.PT → Prop} {G : σ → Prop} {st : Tr.PT → σ → σ} {I : σ → World → Prop}
mutual
theorem Tr.walk_back {G : σ → Prop} {st : Tr.PT → σ → σ} (hb : ∀ p x, G (st p x) → G x) : ∀ (p : Tr.PT) (x : σ), G (Tr.walkP st p x) → G (st p x)
  | .leaf k t a, x, h => by unfold Tr.walkP at h; exact h
  | .gap t a d, x, h => by unfold Tr.walkP at h; exact h
  | .branch k a l, x, h => by unfold Tr.walkP at h; exact Tr.walks_back hb l _ h
theorem Tr.walks_back {G : σ → Prop} {st : Tr.PT → σ → σ} (hb : ∀ p x, G (st p x) → G x) : ∀ (l : List Tr.PT) (x : σ), G (Tr.walksP st l x) → G x
  | [], x, h => by unfold Tr.walksP at h; exact h
  | p :: l, x, h => by
    unfold Tr.walksP at h
    exact hb p x (Tr.walk_back hb p x (Tr.walks_back hb l _ h))
end
def WalkC (Fn : Nat) (caps : Array Value) (w0 : World) (F : Nat → Prop) (Q : Tr.PT → Prop) (G : σ → Prop) (st : Tr.PT → σ → σ) (I : σ → World → Prop) (p : Tr.PT) : Prop :=
  ∀ (v : Value) (x : σ) (w : World), Q p → PtF w0 F p v → I x w → G (Tr.walkP st p x) → Calls Tryz.prog 47 #[v, .func (.func Fn) #[] caps] w fun e w' => e = .returned (.tuple #[]) ∧ I (Tr.walkP st p x) w'
theorem Tr.walks_take {st : Tr.PT → σ → σ} (l : List Tr.PT) (i : Nat) (h : i < l.length) (x : σ) : Tr.walksP st (l.take (i + 1)) x = Tr.walkP st l[i] (Tr.walksP st (l.take i) x) := by
  rw [List.take_succ_eq_append_getElem h, Tr.walks_app]
  simp only [Tr.walksP]
theorem VisC.blk (V : VisC Fn caps w0 F Q G st I) {x : σ} {w : World} {g : Nat} {t : TypeId} {cs : Array Value} (h : Blk w0 g t cs) (hF : F g) (hI : I x w) : Blk w g t cs := ((V.keep x w hI).2 g hF h.lt).trans h

set_option maxHeartbeats 4000000 in
set_option maxRecDepth 100000 in
theorem walk_leaf (V : VisC Fn caps w0 F Q G st I) {p : Tr.PT} {t : TypeId} {q : Nat} (ht : t = 104 ∨ t = 107) (hp : PtF w0 F p (.iface t (.pointer (some ⟨q, 0, none⟩)))) (hQ : Q p) {x : σ} {w : World} (hI : I x w) (hG : G (st p x)) :
    Calls Tryz.prog 47 #[.iface t (.pointer (some ⟨q, 0, none⟩)), .func (.func Fn) #[] caps] w fun e w' => e = .returned (.tuple #[]) ∧ I (st p x) w' := by
  have hrun := V.run
  have hcl := V.call p _ x w hQ hp hI hG
  clear hp hI V hG
  generalize st p x = y at *
  rcases ht with rfl | rfl
  · have has := fun w => as_leaf_branch ⟨q, 0, none⟩ w
    go_enter Tryz.func47, Tryz.ntmps47
    go_wp2_with fail
    refine hcl.mono ?_
    clear hcl
    rintro e w1 ⟨rfl, h1⟩
    go_wp2_with fail
    go_end0
    exact ⟨rfl, h1⟩
  · have has := fun w => as_gap_branch ⟨q, 0, none⟩ w
    go_enter Tryz.func47, Tryz.ntmps47
    go_wp2_with fail
    refine hcl.mono ?_
    clear hcl
    rintro e w1 ⟨rfl, h1⟩
    go_wp2_with fail
    go_end0
    exact ⟨rfl, h1⟩

set_option maxHeartbeats 8000000 in
set_option maxRecDepth 100000 in
theorem walk_branch (V : VisC Fn caps w0 F Q G st I) {q k a c : Nat} {l : List Tr.PT} {A : Option Addr} {vs : List Value} (hp : PtF w0 F (.branch k a l) (.iface 90 (.pointer (some ⟨q, 0, none⟩)))) (hF : F q) (hB : Blk w0 q 109 #[.int .i64 (k : Int), .slice A l.length c, .int .i64 (a : Int)]) (hrow : RowF w0 F A vs) (hps : PtsF w0 F l vs) (hQ : Q (.branch k a l)) (IH : ∀ p ∈ l, WalkC Fn caps w0 F Q G st I p) {x : σ} {w : World} (hI : I x w) (hG : G (Tr.walksP st l (st (.branch k a l) x))) :
    Calls Tryz.prog 47 #[.iface 90 (.pointer (some ⟨q, 0, none⟩)), .func (.func Fn) #[] caps] w fun e w' => e = .returned (.tuple #[]) ∧ I (Tr.walksP st l (st (.branch k a l) x)) w' := by
  have hrun := V.run
  have hcl := V.call _ _ x w hQ hp hI (Tr.walks_back V.back l _ hG)
  obtain ⟨hl, hQl⟩ := V.sub _ _ _ hQ
  have hbk := V.back
  clear hp hI
  generalize st (.branch k a l) x = y at *
  have has := fun w => as_branch_branch ⟨q, 0, none⟩ w
  go_enter Tryz.func47, Tryz.ntmps47
  go_wp2_with fail
  refine hcl.mono ?_
  clear hcl
  rintro e w1 ⟨rfl, h1⟩
  have b1 := (V.blk hB hF h1).cell 1
  simp at b1
  have Hl := Lib.hid hl
  clear hl
  go_wp2_with fail
  go_loopg [22] l.length (fun m v wr => ∃ i : Nat, v = .int .i64 (i : Int) ∧ i ≤ l.length ∧ l.length - i ≤ m ∧ I (Tr.walksP st (l.take i) y) wr)
  case atStart => exact ⟨0, rfl, Nat.zero_le _, Nat.le_refl _, by simpa [Tr.walksP] using h1⟩
  case round =>
    clear h1 b1
    obtain ⟨i, rfl, hi, hm, h1⟩ := hrel
    by_cases hlt : i < l.length
    · have ii0 : (0 : Int) ≤ (i : Int) := by omega
      have ii1 : (i : Int) < (l.length : Int) := by omega
      obtain ⟨v, hv, hpv⟩ := hps.at_ hlt
      obtain ⟨br, o, rfl, hFb, hbl, hc⟩ := hrow (by have := hps.len; omega)
      have hcell := hc _ _ hv
      have q0 := (World.cell?_of_block (a := ⟨br, o + i, none⟩) ((V.keep _ _ h1).2 br hFb hbl)).trans hcell
      have hg1 : G (Tr.walkP st l[i] (Tr.walksP st (l.take i) y)) := by
        rw [← Tr.walks_take l i hlt]
        refine Tr.walks_back hbk (l.drop (i + 1)) _ ?_
        rw [← Tr.walks_app, List.take_append_drop]
        exact hG
      have hcl := IH l[i] (List.getElem_mem hlt) v _ wr (hQl _ (List.getElem_mem hlt)) hpv h1 hg1
      rw [← Tr.walks_take l i hlt] at hcl
      clear hg1
      obtain ⟨tp, qp, rfl⟩ := hpv.form
      have Hlt := Lib.hid hlt
      have Hm := Lib.hid hm
      clear hv hpv hc hcell hbl hlt hm hi h1
      go_wp2_with fail
      refine hcl.mono ?_
      clear hcl q0
      rintro e w2 ⟨rfl, h2⟩
      have c1 : IntKind.i64.wrap ((i : Int) + 1) = (i : Int) + 1 := IntWalk.i64_in _ (by have := Hlt.out; have := Hl.out; omega)
      go_wp2_with fail
      go_roundg (l.length - (i + 1))
      case rel => exact ⟨i + 1, by go_num, by have := Hlt.out; omega, Nat.le_refl _, h2⟩
      case measure => have := Hlt.out; have := Hm.out; omega
    · obtain rfl : i = l.length := by omega
      have i1 : ¬ (l.length : Int) < (l.length : Int) := by omega
      have i2 : decide (l.length < l.length) = false := by simp
      rw [List.take_length] at h1
      clear hlt hi hm
      go_wp2_with fail
      go_end0
      exact ⟨rfl, h1⟩
mutual
theorem walk_all (V : VisC Fn caps w0 F Q G st I) : ∀ p : Tr.PT, WalkC Fn caps w0 F Q G st I p
  | .leaf k t a => fun v x w hQ hp hI hG => by
    have hp0 := hp
    obtain ⟨g, rfl, _⟩ := hp0
    unfold Tr.walkP at hG ⊢
    exact walk_leaf V (.inl rfl) hp hQ hI hG
  | .gap t a d => fun v x w hQ hp hI hG => by
    have hp0 := hp
    obtain ⟨g, rfl, _⟩ := hp0
    unfold Tr.walkP at hG ⊢
    exact walk_leaf V (.inr rfl) hp hQ hI hG
  | .branch k a l => fun v x w hQ hp hI hG => by
    have hp0 := hp
    obtain ⟨g, rfl, hF, A, c, vs, hB, hc, hr, hps⟩ := hp0
    unfold Tr.walkP at hG ⊢
    exact walk_branch V hp hF hB hr hps hQ (walks_all V l) hI hG
theorem walks_all (V : VisC Fn caps w0 F Q G st I) : ∀ l : List Tr.PT, ∀ p ∈ l, WalkC Fn caps w0 F Q G st I p
  | [], p, hp => absurd hp (by simp)
  | q :: l, p, hp => by
    rcases List.mem_cons.1 hp with he | hp
    · rw [he]; exact walk_all V q
    · exact walks_all V l p hp
end
end

/-- the box in which Start keeps what it has found -/
def StI (w0 : World) (b : Nat) (x : Int) (w : World) : Prop := Blk w b 3 #[.int .i64 x] ∧ w0.heap.size ≤ b ∧ Below w0.heap.size w0 w
set_option maxHeartbeats 4000000 in
set_option maxRecDepth 100000 in
theorem start1_walk {w0 w : World} {F : Nat → Prop} {b : Nat} {p : Tr.PT} {v : Value} {x : Int} (hp : PtF w0 F p v) (hI : StI w0 b x w) :
    Calls Tryz.prog 86 #[v, .pointer (some ⟨b, 0, none⟩)] w fun e w' => e = .returned (.tuple #[]) ∧ StI w0 b (Tr.stepS p x) w' := by
  obtain ⟨hb, hsz, hd⟩ := hI
  have c0 := hb.cell 0
  simp at c0
  cases p with
  | leaf k t a =>
    obtain ⟨q, rfl, hF, hB⟩ := hp
    have hB := hB.below hd hB.lt
    have k0 := hB.cell 0
    have k2 := hB.cell 2
    simp at k0 k2
    have HP : Hid (Tr.stepS (.leaf k t a) x = if x < 0 ∧ ¬ (k = 1 ∨ k = 2) then (a : Int) else x) := rfl
    generalize Tr.stepS (.leaf k t a) x = y at *
    have hbl := blank_walk k w
    have has := fun w => as_leaf_leaf ⟨q, 0, none⟩ w
    clear hB
    by_cases hx : x < 0
    · have e1 : decide (x < 0) = true := by simp [hx]
      by_cases hk : k = 1 ∨ k = 2
      · have e2 : (k == 1 || k == 2) = true := by simp [hk]
        have HP : Hid (y = x) := by show _ = _; rw [HP.out, if_neg (by simp [hk])]
        clear hk
        go_enter Tryz.func86, Tryz.ntmps86
        go_wp2_with fail
        refine hbl.mono ?_
        clear hbl
        rintro e w1 ⟨rfl, rfl⟩
        rw [e2]
        go_wp2_with fail
        go_end0
        exact ⟨rfl, by rw [HP.out]; exact ⟨hb, hsz, hd⟩⟩
      · have e2 : (k == 1 || k == 2) = false := by simp; omega
        have HP : Hid (y = a) := by show _ = _; rw [HP.out, if_pos ⟨hx, hk⟩]
        have f0 := hb.frozen 0
        clear hk
        go_enter Tryz.func86, Tryz.ntmps86
        go_wp2_with fail
        refine hbl.mono ?_
        clear hbl
        rintro e w1 ⟨rfl, rfl⟩
        rw [e2]
        go_wp2_with fail
        go_end0
        refine ⟨rfl, ?_, hsz, hd.setCell (p := ⟨b, 0, none⟩) hsz _⟩
        rw [HP.out]
        exact hb.set_ 0 (.int .i64 (a : Int))
    · have e1 : decide (x < 0) = false := by simp; omega
      have HP : Hid (y = x) := by show _ = _; rw [HP.out, if_neg (by omega)]
      clear hbl
      go_enter Tryz.func86, Tryz.ntmps86
      go_wp2_with fail
      go_end0
      exact ⟨rfl, by rw [HP.out]; exact ⟨hb, hsz, hd⟩⟩
  | gap t a d =>
    obtain ⟨q, rfl, hF, hB⟩ := hp
    have has := fun w => as_gap_leaf ⟨q, 0, none⟩ w
    clear hB c0
    go_enter Tryz.func86, Tryz.ntmps86
    go_wp2_with fail
    go_end0
    exact ⟨rfl, hb, hsz, hd⟩
  | branch k a l =>
    obtain ⟨q, rfl, hF, hB⟩ := hp
    have has := fun w => as_branch_leaf ⟨q, 0, none⟩ w
    clear hB c0
    go_enter Tryz.func86, Tryz.ntmps86
    go_wp2_with fail
    go_end0
    exact ⟨rfl, hb, hsz, hd⟩
theorem start1_vis (w0 : World) (F : Nat → Prop) (b : Nat) : VisC (σ := Int) 86 #[.pointer (some ⟨b, 0, none⟩)] w0 F Tr.wfP (fun _ => True) Tr.stepS (StI w0 b) where
  run := fun _ _ => by kernel_rfl
  keep := fun x w h => ⟨h.2.2.size, fun y _ hl => h.2.2.block y hl⟩
  call := fun p v x w _ hp hI _ => start1_walk hp hI
  back := fun _ _ _ => trivial
  sub := fun k a l h => by
    unfold Tr.wfP at h
    exact ⟨h.2.1, wfs_mem l h.2.2⟩

set_option maxHeartbeats 4000000 in
set_option maxRecDepth 100000 in
theorem start_walkT {w0 w : World} {F : Nat → Prop} {p : Tr.PT} {v : Value} (hw : Tr.wfP p) (hp : PtF w0 F p v) (hto : p.to_ ≤ 1000000000000) (hd : Below w0.heap.size w0 w) :
    Calls Tryz.prog 46 #[v] w fun e w' => e = .returned (.int .i64 (Tr.startOf p)) ∧ Below w.heap.size w w' := by
  obtain ⟨t, q, f, rfl, hni, hme, hcf, hcl⟩ := to_all p hw w0 F v hp hto
  have hd1 : Below w.heap.size w (w.alloc (.cells #[.int .i64 (-1)] 3)) := (Below.refl _ _).alloc (Nat.le_refl _) _
  have hb := Blk.new w 3 #[.int .i64 (-1)]
  have hpw := PtF.keep (F' := F) hd.size (fun b hF hl => ⟨hd.block b hl, hF⟩) _ _ hp
  have hcw := walk_all (start1_vis w F w.heap.size) p (.iface t (.pointer (some ⟨q, 0, none⟩))) (-1) (w.alloc (.cells #[.int .i64 (-1)] 3)) hw hpw ⟨hb, Nat.le_refl _, hd1⟩ trivial
  have HS : Hid (Tr.walkP Tr.stepS p (-1) = Tr.startI p) := rfl
  rw [HS.out] at hcw
  have HO : Hid (Tr.startOf p = if Tr.startI p < 0 then (Tr.PT.to_ p : Int) else Tr.startI p) := rfl
  clear HS hb hd1 hp hpw
  generalize Tr.startI p = x at *
  generalize Tr.startOf p = y at *
  go_enter Tryz.func46, Tryz.ntmps46
  go_wp2_with fail
  refine hcw.mono ?_
  clear hcw
  rintro e w2 ⟨rfl, hI⟩
  obtain ⟨hb2, _, hd2⟩ := hI
  have c0 := hb2.cell 0
  simp at c0
  have hcl := hcl w2 (hd.trans (hd2.mono hd.size))
  clear hb2
  by_cases hx : x < 0
  · have e1 : decide (x < 0) = true := by simp [hx]
    have HO : Hid (y = (Tr.PT.to_ p : Int)) := by show _ = _; rw [HO.out, if_pos hx]
    clear hx
    go_wp2_with fail
    refine hcl.mono ?_
    clear hcl
    rintro e w3 ⟨rfl, n, rfl⟩
    go_wp2_with fail
    go_ret
    exact ⟨by rw [HO.out]; rfl, below_drewN hd2 _⟩
  · have e1 : decide (x < 0) = false := by simp; omega
    have HO : Hid (y = x) := by show _ = _; rw [HO.out, if_neg hx]
    clear hx hcl
    go_wp2_with fail
    go_ret
    exact ⟨by rw [HO.out]; rfl, hd2⟩
end Go.Proofs.YtalklmeejdmifaaGreatDoor
