/-
  JOINED of the texts NK NM NR NS NT VU
-/
import Derived.Test.YtgpjcjnimheglaaGreatDoorNJ
import Derived.Test.YtgpjcjnimheglaaGreatDoorLQ
import Derived.Test.YtgpjcjnimheglaaGreatDoorBB
import Derived.Lib.BufferRead
/-
  WALKS of the document's reader of messages (package amanuensisref11): fail.
-/
namespace Go.Proofs.YtgpjcjnimheglaaGreatDoor
open Go.RowKit

/-- the document's reader: the text, how far, the fault and where -/
def RrAt (w : World) (g : Nat) (s : Bs) (i e b : Nat) : Prop := Blk w g 142 #[.string ⟨s.toArray⟩, .int .i64 i, .int .i64 e, .int .i64 b]
set_option maxHeartbeats 1000000 in
set_option maxRecDepth 100000 in
theorem rfail_first (g : Nat) (s : Bs) (i b e p : Nat) (w : World) (h : RrAt w g s i 0 b) :
    Calls Tryz.prog 61 #[.pointer (some ⟨g, 0, none⟩), .int .i64 e, .int .i64 p] w fun en w' => en = .returned (.tuple #[]) ∧ RrAt w' g s i e p ∧ AftR g w w' := by
  have c2 := Blk.cell h 2
  have f2 := Blk.frozen h 2
  have f3 := Blk.frozen h 3
  have c3 := Blk.cell h 3
  simp at c2 c3
  have h2 := (Blk.set_ h 2 (.int .i64 e)).set_ 3 (.int .i64 p)
  have a2 := ((AftR.refl g w).set 2 (.int .i64 e)).set 3 (.int .i64 p)
  go_enter Tryz.func61, Tryz.ntmps61
  go_wp2_with fail
  go_end0
  exact ⟨rfl, h2, a2⟩

theorem Jp.blank_or (c : UInt8) : Jp.blankB c = (decide (c = 32) || decide (c = 9) || decide (c = 13) || decide (c = 10)) := rfl
theorem RrAt.move {w : World} {g : Nat} {s : Bs} {i e b : Nat} (h : RrAt w g s i e b) (k : Nat) : RrAt (w.setCell ⟨g, 1, none⟩ (.int .i64 k)) g s k e b := by
  have := Blk.set_ h 1 (.int .i64 k)
  exact this
set_option maxHeartbeats 2000000 in
set_option maxRecDepth 100000 in
theorem rblank_walk (g : Nat) (s : Bs) (i e b : Nat) (w : World) (h : RrAt w g s i e b) (hi : i ≤ s.length) (_hl : s.length ≤ 16777216) :
    Calls Tryz.prog 60 #[.pointer (some ⟨g, 0, none⟩)] w fun en w' => en = .returned (.tuple #[]) ∧ RrAt w' g s (Jp.skipP s i) e b ∧ AftR g w w' := by
  go_enter Tryz.func60, Tryz.ntmps60
  go_wp2_with fail
  go_loopg [] (s.length - i) (fun q wr => ∃ k, s.length - k ≤ q ∧ k ≤ s.length ∧ RrAt wr g s k e b ∧ AftR g w wr ∧ Hid (Jp.skipP s i = Jp.skipP s k))
  case atStart => exact ⟨i, Nat.le_refl _, hi, h, AftR.refl _ _, rfl⟩
  case round =>
    clear h
    obtain ⟨k, hq, hk, h, ha, HS⟩ := hrel
    have c0 := Blk.cell h 0
    have c1 := Blk.cell h 1
    have f1 := Blk.frozen h 1
    simp at c0 c1
    have j1 : (0 : Int) ≤ (k : Int) := by omega
    by_cases hlt : k < s.length
    · have j2 : (k : Int) < (s.length : Int) := by omega
      have d1 : decide (k < s.length) = true := by simp [hlt]
      have e9 : ((((⟨s.toArray⟩ : ByteArray)[k]'(by rw [mk_size]; exact hlt)).toNat : Int) == (9 : Int)) = decide (s[k] = 9) := bk_eq s k hlt 9
      have e10 : ((((⟨s.toArray⟩ : ByteArray)[k]'(by rw [mk_size]; exact hlt)).toNat : Int) == (10 : Int)) = decide (s[k] = 10) := bk_eq s k hlt 10
      have e13 : ((((⟨s.toArray⟩ : ByteArray)[k]'(by rw [mk_size]; exact hlt)).toNat : Int) == (13 : Int)) = decide (s[k] = 13) := bk_eq s k hlt 13
      have e32 : ((((⟨s.toArray⟩ : ByteArray)[k]'(by rw [mk_size]; exact hlt)).toNat : Int) == (32 : Int)) = decide (s[k] = 32) := bk_eq s k hlt 32
      have Hgo : Hid (Jp.blankB s[k] = true → Jp.skipP s k = Jp.skipP s (k + 1)) := Jp.skip_go s k hlt
      have Hst : Hid (Jp.blankB s[k] = false → Jp.skipP s k = k) := Jp.skip_stop s k hlt
      have hbl := Jp.blank_or s[k]
      rw [hbl] at Hgo Hst
      clear hbl
      generalize decide (s[k] = 9) = q9 at *
      generalize decide (s[k] = 10) = q10 at *
      generalize decide (s[k] = 13) = q13 at *
      generalize decide (s[k] = 32) = q32 at *
      have hways : (q9 = true ∨ (q9 = false ∧ q10 = true) ∨ (q9 = false ∧ q10 = false ∧ q13 = true) ∨ (q9 = false ∧ q10 = false ∧ q13 = false ∧ q32 = true)) ∨ (q9 = false ∧ q10 = false ∧ q13 = false ∧ q32 = false) := by
        cases q9 <;> cases q10 <;> cases q13 <;> cases q32 <;> simp
      rcases hways with hw | ⟨rfl, rfl, rfl, rfl⟩
      · have HG : Hid (Jp.skipP s k = Jp.skipP s (k + 1)) := Hgo.out (by rcases hw with rfl | ⟨rfl, rfl⟩ | ⟨rfl, rfl, rfl⟩ | ⟨rfl, rfl, rfl, rfl⟩ <;> simp)
        clear Hgo Hst
        rcases hw with rfl | ⟨rfl, rfl⟩ | ⟨rfl, rfl, rfl⟩ | ⟨rfl, rfl, rfl, rfl⟩
        all_goals
          go_wp2_with fail
          go_quiet (fail)
          go_wp2_with fail
          go_roundg (s.length - (k + 1))
          case rel => exact ⟨k + 1, Nat.le_refl _, by omega, RrAt.move (w := World.drewN _ _) h (k + 1), (ha.drewN _).set 1 _, by show _ = _; rw [HS.out, HG.out]⟩
          case measure => omega
      · have HG : Hid (Jp.skipP s k = k) := Hst.out (by simp)
        clear Hgo Hst
        go_wp2_with fail
        go_quiet (fail)
        go_wp2_with fail
        go_end0
        exact ⟨rfl, by rw [HS.out, HG.out]; exact h, ha.drewN _⟩
    · obtain rfl : k = s.length := by omega
      have HG := Lib.hid (Jp.skip_end s s.length (Nat.le_refl _))
      go_wp2_with fail
      go_quiet (fail)
      go_wp2_with fail
      go_end0
      exact ⟨rfl, by rw [HS.out, HG.out]; exact h, ha.drewN _⟩
end Go.Proofs.YtgpjcjnimheglaaGreatDoor
/-
  WALKS of the document's reader of messages (package amanuensisref11): sign, word; its values in memory.
-/
namespace Go.Proofs.YtgpjcjnimheglaaGreatDoor
open Go.RowKit

/-- how a reading of the document's ends -/
def RrE {α : Type} (g : Nat) (s : Bs) (w : World) (val : α → Value → World → Prop) (r : Jp.Rs α) (e : Ending) (w' : World) : Prop :=
  AftR g w w' ∧ match r with
    | .ok a k => ∃ v, e = .returned v ∧ RrAt w' g s k 0 0 ∧ val a v w'
    | .bad p er => ∃ v i, e = .returned v ∧ RrAt w' g s i er p ∧ 0 < er
section
variable {α : Type} {g : Nat} {s : Bs} {w w' : World} {val : α → Value → World → Prop} {r : Jp.Rs α}
theorem RrE.ok {a : α} {k : Nat} {v : Value} (h : r = .ok a k) (ha : AftR g w w') (hr : RrAt w' g s k 0 0) (hv : val a v w') : RrE g s w val r (.returned v) w' := by
  subst h; exact ⟨ha, v, rfl, hr, hv⟩
theorem RrE.bad {p er i : Nat} {v : Value} (h : r = .bad p er) (ha : AftR g w w') (hr : RrAt w' g s i er p) (he : 0 < er) : RrE g s w val r (.returned v) w' := by
  subst h; exact ⟨ha, v, i, rfl, hr, he⟩
theorem RrE.is_ok {a : α} {k : Nat} {e : Ending} (h : RrE g s w val (.ok a k) e w') : AftR g w w' ∧ ∃ v, e = .returned v ∧ RrAt w' g s k 0 0 ∧ val a v w' := h
theorem RrE.is_bad {p er : Nat} {e : Ending} (h : RrE g s w val (.bad p er) e w') : AftR g w w' ∧ ∃ v i, e = .returned v ∧ RrAt w' g s i er p ∧ 0 < er := h
end
theorem RrAt.drewN {w : World} {g : Nat} {s : Bs} {i e b : Nat} (h : RrAt w g s i e b) (n : Nat) : RrAt (w.drewN n) g s i e b := h
theorem RrAt.drew {w : World} {g : Nat} {s : Bs} {i e b : Nat} (h : RrAt w g s i e b) : RrAt w.drew g s i e b := h
theorem RrAt.below {w w' : World} {g B : Nat} {s : Bs} {i e b : Nat} (h : RrAt w g s i e b) (hb : Below B w w') (hg : g < B) : RrAt w' g s i e b := Blk.below h hb hg

/-- a value of the document's in memory, so deep, in the blocks F -/
def RjF (w : World) (F : Nat → Prop) : Nat → JT → Nat → Prop
  | 0, _, _ => False
  | d + 1, j, b => F b ∧ ∃ Ak ck Ad cd, Blk w b 78 #[.int .i64 j.kind, .int .i64 j.num, strV j.text, .slice Ak j.keys.length ck, .slice Ad j.kids.length cd] ∧
      RdF w F 1 Ak j.keys.length (txtV j.keys) ∧
      (0 < j.kids.length → ∃ a o, Ad = some ⟨a, o, none⟩ ∧ F a ∧ a < w.heap.size ∧ ∀ k (h : k < j.kids.length), ∃ b', w.cell? ⟨a, o + k, none⟩ = some (.pointer (some ⟨b', 0, none⟩)) ∧ RjF w F d j.kids[k] b')
theorem RjF.keep {w w' : World} {F F' : Nat → Prop} : ∀ {d : Nat} {j : JT} {b : Nat}, RjF w F d j b → KeepF F w w' → (∀ b, F b → b < w.heap.size → F' b) → RjF w' F' d j b
  | 0, _, _, h, _, _ => h
  | d + 1, j, b, h, hk, hF => by
    obtain ⟨hb, Ak, ck, Ad, cd, hB, hr, hd⟩ := h
    refine ⟨hF b hb hB.lt, Ak, ck, Ad, cd, (hk.2 b hb hB.lt).trans hB, hr.keep hk hF, fun hn => ?_⟩
    obtain ⟨a, o, e, ha, hl, hh⟩ := hd hn
    refine ⟨a, o, e, hF a ha hl, by have := hk.1; omega, fun k hkl => ?_⟩
    obtain ⟨b', hc, hj⟩ := hh k hkl
    exact ⟨b', (hk.cell ha hl).trans hc, RjF.keep hj hk hF⟩
theorem RjF.succ {w : World} {F : Nat → Prop} : ∀ {d : Nat} {j : JT} {b : Nat}, RjF w F d j b → RjF w F (d + 1) j b
  | 0, _, _, h => h.elim
  | d + 1, j, b, h => by
    obtain ⟨hb, Ak, ck, Ad, cd, hB, hr, hd⟩ := h
    refine ⟨hb, Ak, ck, Ad, cd, hB, hr, fun hn => ?_⟩
    obtain ⟨a, o, e, ha, hl, hh⟩ := hd hn
    refine ⟨a, o, e, ha, hl, fun k hkl => ?_⟩
    obtain ⟨b', hc, hj⟩ := hh k hkl
    exact ⟨b', hc, RjF.succ hj⟩
theorem RjF.le {w : World} {F : Nat → Prop} {j : JT} {b : Nat} : ∀ {d d' : Nat}, RjF w F d j b → d ≤ d' → RjF w F d' j b
  | d, 0, h, hd => by
    obtain rfl : d = 0 := by omega
    exact h
  | d, d' + 1, h, hd => by
    by_cases he : d = d' + 1
    · subst he; exact h
    · exact RjF.succ (RjF.le h (by omega))
/-- what a reading of a value gives -/
def rjV (B d : Nat) (j : JT) (v : Value) (w : World) : Prop := ∃ b, v = .pointer (some ⟨b, 0, none⟩) ∧ RjF w (fun b => B ≤ b) d j b
theorem rjV.leaf {w : World} {B d b : Nat} {kn nn : Int} {t : Bs} (hB : Blk w b 78 #[.int .i64 kn, .int .i64 nn, .string ⟨t.toArray⟩, .slice none 0 0, .slice none 0 0]) (hb : B ≤ b) : rjV B (d + 1) (.mk kn nn t [] []) (.pointer (some ⟨b, 0, none⟩)) w :=
  ⟨b, rfl, hb, none, 0, none, 0, hB, ⟨rfl, fun h => absurd h (by simp [JT.keys])⟩, fun h => absurd h (by simp [JT.kids])⟩

set_option maxHeartbeats 2000000 in
set_option maxRecDepth 100000 in
theorem rsign_walk (g : Nat) (s : Bs) (i : Nat) (c : UInt8) (w : World) (h : RrAt w g s i 0 0) (hi : i ≤ s.length) (hl : s.length ≤ 16777216) :
    Calls Tryz.prog 132 #[.pointer (some ⟨g, 0, none⟩), .int .u8 c.toNat] w fun en w' => en = .returned (.bool (decide (s[Jp.skipP s i]? = some c))) ∧
      RrAt w' g s (cond (decide (s[Jp.skipP s i]? = some c)) (Jp.skipP s i + 1) (Jp.skipP s i)) 0 0 ∧ AftR g w w' := by
  have hbl := rblank_walk g s i 0 0 w h hi hl
  have hle := Jp.skip_le s i hi
  generalize Jp.skipP s i = q at *
  by_cases hlt : q < s.length
  · have hb := bk_eq s q hlt c
    rw [List.getElem?_eq_getElem hlt]
    simp only [Option.some.injEq]
    generalize decide (s[q] = c) = bb at *
    go_enter Tryz.func132, Tryz.ntmps132
    go_wp2_with fail
    refine hbl.mono ?_
    rintro e w1 ⟨rfl, h1, ha1⟩
    have c0 := Blk.cell h1 0
    have c1 := Blk.cell h1 1
    have f1 := Blk.frozen h1 1
    simp at c0 c1
    have j1 : (0 : Int) ≤ (q : Int) := by omega
    have j2 : (q : Int) < (s.length : Int) := by omega
    have d1 : decide (q < s.length) = true := by simp [hlt]
    cases bb with
    | true =>
      go_wp2_with fail
      go_quiet (fail)
      go_wp2_with fail
      go_ret
      exact ⟨rfl, RrAt.move (h1.drewN _) (q + 1), (ha1.drewN _).set 1 _⟩
    | false =>
      go_wp2_with fail
      go_quiet (fail)
      go_wp2_with fail
      go_ret
      exact ⟨rfl, h1.drewN _, ha1.drewN _⟩
  · obtain rfl : q = s.length := by omega
    rw [List.getElem?_eq_none (Nat.le_refl _)]
    go_enter Tryz.func132, Tryz.ntmps132
    go_wp2_with fail
    refine hbl.mono ?_
    rintro e w1 ⟨rfl, h1, ha1⟩
    have c0 := Blk.cell h1 0
    have c1 := Blk.cell h1 1
    simp at c0 c1
    have j1 : (0 : Int) ≤ (s.length : Int) := by omega
    go_wp2_with fail
    go_quiet (fail)
    go_wp2_with fail
    go_ret
    exact ⟨by simp, by simpa using h1.drewN _, ha1.drewN _⟩

theorem word_bad {s wd : Bs} {i : Nat} {j : JT} (hi : i ≤ s.length) (h : ¬ i + wd.length ≤ s.length) : Jp.wordP s wd j i = .bad i 3 := by
  unfold Jp.wordP
  rw [if_neg]
  intro hp
  have := (List.isPrefixOf_iff_prefix.1 hp).length_le
  rw [List.length_drop] at this
  omega
theorem word_cut {s wd : Bs} {i : Nat} : wd.isPrefixOf (s.drop i) = decide ((s.take (i + wd.length)).drop i = wd) := by
  rw [Bool.eq_iff_iff, List.isPrefixOf_iff_prefix, decide_eq_true_eq, List.prefix_iff_eq_take, List.drop_take, Nat.add_sub_cancel_left]
  exact ⟨fun h => h.symm, fun h => h.symm⟩

set_option maxHeartbeats 2000000 in
set_option maxRecDepth 100000 in
theorem rword_walk (g : Nat) (s wd : Bs) (kn nn : Int) (i : Nat) (w : World) (h : RrAt w g s i 0 0) (hi : i ≤ s.length) (hl : s.length ≤ 16777216) (hwl : wd.length ≤ 100) (d : Nat) :
    Calls Tryz.prog 94 #[.pointer (some ⟨g, 0, none⟩), .string ⟨wd.toArray⟩, .int .i64 kn, .int .i64 nn] w (RrE g s w (rjV w.heap.size (d + 1)) (Jp.wordP s wd (.mk kn nn [] [] []) i)) := by
  have hgl := h.lt
  have c0 := Blk.cell h 0
  have c1 := Blk.cell h 1
  have f1 := Blk.frozen h 1
  simp at c0 c1
  have j1 : (0 : Int) ≤ (i : Int) := by omega
  by_cases hlt : i + wd.length ≤ s.length
  · have j2 : (i : Int) + (wd.length : Int) ≤ (s.length : Int) := by omega
    have j3 : ¬ (s.length : Int) < (i : Int) + (wd.length : Int) := by omega
    have hx := ext_str s i (i + wd.length)
    have hR : Jp.wordP s wd (.mk kn nn [] [] []) i = if decide ((s.take (i + wd.length)).drop i = wd) = true then .ok (.mk kn nn [] [] []) (i + wd.length) else .bad i 3 := by unfold Jp.wordP; rw [word_cut]
    have HR := Lib.hid hR
    clear hR
    generalize (s.take (i + wd.length)).drop i = D at *
    unfold strV at hx
    injection hx with hx
    generalize Jp.wordP s wd (.mk kn nn [] [] []) i = R at *
    by_cases hD : D = wd
    · subst hD
      have HB : Hid (R = .ok (.mk kn nn [] [] []) (i + D.length)) := by show _ = _; rw [HR.out]; simp
      clear HR
      have h2 := h.move (i + D.length)
      have a2 := (AftR.refl g w).set 1 (.int .i64 ((i + D.length : Nat) : Int))
      have E1 : Hid ((i : Int) + D.length = ((i + D.length : Nat) : Int)) := by show _ = _; omega
      have hw1 : IntKind.i64.wrap ((i : Int) + (D.length : Int)) = (i : Int) + (D.length : Int) := IntWalk.i64_in _ (by omega)
      have d1 : decide ((s.length : Int) < (i : Int) + (D.length : Int)) = false := decide_eq_false (by omega)
      have d2 : decide (s.length < i + D.length) = false := decide_eq_false (by omega)
      have j7 : (i : Int) ≤ (i : Int) + (D.length : Int) := by omega
      have j8 : (0 : Int) ≤ (i : Int) + (D.length : Int) := by omega
      have ht : ((i : Int) + (D.length : Int)).toNat = i + D.length := by omega
      go_enter Tryz.func94, Tryz.ntmps94
      go_wp2_with fail
      go_quiet (fail)
      go_wp2_with fail
      go_ret
      rw [E1.out]
      have h3 : RrAt ((w.drewN nq).setCell ⟨g, 1, none⟩ (.int .i64 ((i + D.length : Nat) : Int))) g s (i + D.length) 0 0 := RrAt.move (h.drewN nq) _
      have a3 : AftR g w ((w.drewN nq).setCell ⟨g, 1, none⟩ (.int .i64 ((i + D.length : Nat) : Int))) := ((AftR.refl g w).drewN nq).set 1 _
      have hsz : ((w.drewN nq).setCell ⟨g, 1, none⟩ (.int .i64 ((i + D.length : Nat) : Int))).heap.size = w.heap.size := by simp [World.setCell, World.drewN]
      have hbl : Below ((w.drewN nq).setCell ⟨g, 1, none⟩ (.int .i64 ((i + D.length : Nat) : Int))).heap.size ((w.drewN nq).setCell ⟨g, 1, none⟩ (.int .i64 ((i + D.length : Nat) : Int))) (World.alloc ((w.drewN nq).setCell ⟨g, 1, none⟩ (.int .i64 ((i + D.length : Nat) : Int))) (.cells #[.int .i64 kn, .int .i64 nn, .string ⟨#[]⟩, .slice none 0 0, .slice none 0 0] 78)) := (Below.refl _ _).alloc (Nat.le_refl _) _
      have hnw : Blk (World.alloc ((w.drewN nq).setCell ⟨g, 1, none⟩ (.int .i64 ((i + D.length : Nat) : Int))) (.cells #[.int .i64 kn, .int .i64 nn, .string ⟨#[]⟩, .slice none 0 0, .slice none 0 0] 78)) w.heap.size 78 #[.int .i64 kn, .int .i64 nn, .string ⟨([] : Bs).toArray⟩, .slice none 0 0, .slice none 0 0] := by
        have := Blk.new ((w.drewN nq).setCell ⟨g, 1, none⟩ (.int .i64 ((i + D.length : Nat) : Int))) 78 #[.int .i64 kn, .int .i64 nn, .string ⟨#[]⟩, .slice none 0 0, .slice none 0 0]
        rw [hsz] at this
        exact this
      exact RrE.ok HB.out (a3.below hbl (by omega)) (Blk.below h3 hbl h3.lt) (rjV.leaf hnw (Nat.le_refl _))
    · have HB : Hid (R = .bad i 3) := by show _ = _; rw [HR.out, if_neg (by simpa using hD)]
      have hfl := rfail_first g s i 0 3 i
      have hne : (D == wd) = false := by simpa using hD
      have hw1 : IntKind.i64.wrap ((i : Int) + (wd.length : Int)) = (i : Int) + (wd.length : Int) := IntWalk.i64_in _ (by omega)
      have d1 : decide ((s.length : Int) < (i : Int) + (wd.length : Int)) = false := decide_eq_false (by omega)
      have d2 : decide (s.length < i + wd.length) = false := decide_eq_false (by omega)
      have j7 : (i : Int) ≤ (i : Int) + (wd.length : Int) := by omega
      have j8 : (0 : Int) ≤ (i : Int) + (wd.length : Int) := by omega
      have ht : ((i : Int) + (wd.length : Int)).toNat = i + wd.length := by omega
      go_enter Tryz.func94, Tryz.ntmps94
      go_wp2_with fail
      go_quiet (fail)
      go_wp2_with fail
      refine (hfl _ (h.drewN _)).mono ?_
      rintro e w1 ⟨rfl, h1, ha1⟩
      go_wp2_with fail
      go_ret
      exact RrE.bad HB.out (((AftR.refl g w).drewN _).trans ha1) h1 (by omega)
  · have j3 : (s.length : Int) < (i : Int) + (wd.length : Int) := by omega
    have hfl := rfail_first g s i 0 3 i
    have HR := Lib.hid (word_bad (j := JT.mk kn nn [] [] []) hi hlt)
    generalize Jp.wordP s wd (.mk kn nn [] [] []) i = R at *
    clear hlt
    go_enter Tryz.func94, Tryz.ntmps94
    go_wp2_with fail
    go_quiet (fail)
    go_wp2_with fail
    refine (hfl _ (h.drewN _)).mono ?_
    rintro e w1 ⟨rfl, h1, ha1⟩
    go_wp2_with fail
    go_ret
    exact RrE.bad HR.out (((AftR.refl g w).drewN _).trans ha1) h1 (by omega)
end Go.Proofs.YtgpjcjnimheglaaGreatDoor
/-
  WALKS of the document's reader of messages: number.
-/
namespace Go.Proofs.YtgpjcjnimheglaaGreatDoor
open Go.RowKit

namespace Jp
theorem valN_snoc (l : List UInt8) (b : UInt8) : valN (l ++ [b]) = valN l * 10 + (b.toNat - 48) := by unfold valN; rw [List.foldl_append]; rfl
theorem cut_next (s : List UInt8) (f m : Nat) (hf : f ≤ m) (hm : m < s.length) : (s.take (m + 1)).drop f = (s.take m).drop f ++ [s[m]] := by
  rw [List.take_succ_eq_append_getElem hm, List.drop_append_of_le_length (by rw [List.length_take]; omega)]
theorem cut_len (s : List UInt8) (f m : Nat) (hm : m ≤ s.length) : ((s.take m).drop f).length = m - f := by rw [List.length_drop, List.length_take]; omega
theorem valN_pow (l : List UInt8) : (∀ b ∈ l, digB b = true) → valN l < 10 ^ l.length := valN_lt l
end Jp
theorem pow18b {n : Nat} (h : n ≤ 17) : 10 ^ n ≤ 100000000000000000 := by
  have := Nat.pow_le_pow_right (n := 10) (by decide) h
  simpa using this
/-- the value that is read so far -/
structure NumA (s : Bs) (f m : Nat) (v : Nat) : Prop where
  val : m - f ≤ 18 → v = Jp.valN ((s.take m).drop f)
  dig : ∀ b ∈ (s.take m).drop f, Jp.digB b = true
theorem NumA.start (s : Bs) (f : Nat) : NumA s f f 0 := by
  have e : (s.take f).drop f = [] := List.drop_eq_nil_of_le (by rw [List.length_take]; omega)
  exact ⟨fun _ => by rw [e]; rfl, fun b hb => by rw [e] at hb; cases hb⟩
theorem NumA.next {s : Bs} {f m v : Nat} (h : NumA s f m v) (hf : f ≤ m) (hm : m < s.length) (hd : Jp.digB s[m] = true) (h18 : m - f < 18) : NumA s f (m + 1) (v * 10 + (s[m].toNat - 48)) :=
  ⟨fun _ => by rw [Jp.cut_next s f m hf hm, Jp.valN_snoc, h.val (by omega)], fun b hb => by
    rw [Jp.cut_next s f m hf hm, List.mem_append] at hb
    rcases hb with hb | hb
    · exact h.dig b hb
    · rw [List.mem_singleton] at hb; rw [hb]; exact hd⟩
theorem NumA.past {s : Bs} {f m v : Nat} (h : NumA s f m v) (hf : f ≤ m) (hm : m < s.length) (hd : Jp.digB s[m] = true) (h18 : ¬ m - f < 18) : NumA s f (m + 1) v :=
  ⟨fun h' => by omega, fun b hb => by
    rw [Jp.cut_next s f m hf hm, List.mem_append] at hb
    rcases hb with hb | hb
    · exact h.dig b hb
    · rw [List.mem_singleton] at hb; rw [hb]; exact hd⟩
theorem NumA.lt {s : Bs} {f m v : Nat} (h : NumA s f m v) (hm : m ≤ s.length) (h17 : m - f ≤ 17) : v < 100000000000000000 := by
  rw [h.val (by omega)]
  have h1 := Jp.valN_pow _ h.dig
  rw [Jp.cut_len s f m hm] at h1
  have := pow18b h17
  omega
theorem NumA.lt18 {s : Bs} {f m v : Nat} (h : NumA s f m v) (hm : m ≤ s.length) (h18 : m - f ≤ 18) : v < 1000000000000000000 := by
  rw [h.val (by omega)]
  have h1 := Jp.valN_pow _ h.dig
  rw [Jp.cut_len s f m hm] at h1
  have h2 := Nat.pow_le_pow_right (n := 10) (by decide) h18
  have h3 : (10 : Nat) ^ 18 = 1000000000000000000 := by decide
  omega

set_option maxHeartbeats 4000000 in
set_option maxRecDepth 100000 in
theorem rnum_walk (g : Nat) (s : Bs) (i : Nat) (w : World) (h : RrAt w g s i 0 0) (hi : i < s.length) (hl : s.length ≤ 16777216) (d : Nat) :
    Calls Tryz.prog 95 #[.pointer (some ⟨g, 0, none⟩)] w (RrE g s w (fun (n : Int) v w' => rjV w.heap.size (d + 1) (.mk 2 n [] [] []) v w') (Jp.numP s i)) := by
  have hgl := h.lt
  have hfl := Jp.first_le s i (by omega)
  have hfi1 : Hid (Jp.firstP s i ≤ i + 1) := by
    show _ ≤ _
    unfold Jp.firstP; split <;> omega
  have hkg := Jp.dig_ge s (Jp.firstP s i)
  have hkl := Jp.dig_le s (Jp.firstP s i) hfl.2
  have Hf1 : Hid (decide (s[i] = 45) = true → Jp.firstP s i = i + 1) := fun h => if_pos (by rw [List.getElem?_eq_getElem hi, of_decide_eq_true h])
  have Hf2 : Hid (decide (s[i] = 45) = false → Jp.firstP s i = i) := fun h => if_neg (by rw [List.getElem?_eq_getElem hi]; intro e; exact of_decide_eq_false h (Option.some.inj e))
  have HDe : Hid ((s.take (Jp.digP s (Jp.firstP s i))).drop (Jp.firstP s i) = (s.drop (Jp.firstP s i)).takeWhile Jp.digB) := Jp.dig_take s _
  have HNv : Hid (Jp.numV s i = if decide (s[i] = 45) = true then -(Jp.valN ((s.drop (Jp.firstP s i)).takeWhile Jp.digB) : Int) else (Jp.valN ((s.drop (Jp.firstP s i)).takeWhile Jp.digB) : Int)) := by
    show _ = _
    unfold Jp.numV Jp.firstP
    rw [List.getElem?_eq_getElem hi]
    by_cases h45 : s[i] = 45
    · simp [h45]
    · simp [h45]
  generalize hR0 : Jp.numP s i = R
  have hR : (if Jp.digP s (Jp.firstP s i) = Jp.firstP s i then (Jp.Rs.bad (Jp.firstP s i) 3 : Jp.Rs Int) else if 18 < Jp.digP s (Jp.firstP s i) - Jp.firstP s i ∨ (1 < Jp.digP s (Jp.firstP s i) - Jp.firstP s i ∧ s[Jp.firstP s i]? = some 48) then .bad i 3 else .ok (Jp.numV s i) (Jp.digP s (Jp.firstP s i))) = R := hR0
  clear hR0
  generalize hK : Jp.digP s (Jp.firstP s i) = k at *
  generalize hF : Jp.firstP s i = f at *
  have HK := Lib.hid hK
  clear hK hF
  obtain ⟨hfi, hfl⟩ := hfl
  have HR := Lib.hid hR
  clear hR
  have hb : ((((⟨s.toArray⟩ : ByteArray)[i]'(by rw [mk_size]; exact hi)).toNat : Int) == (45 : Int)) = decide (s[i] = 45) := bk_eq s i hi 45
  generalize Jp.numV s i = nV at *
  generalize decide (s[i] = 45) = qd at *
  have c0 := Blk.cell h 0
  have c1 := Blk.cell h 1
  have f1 := Blk.frozen h 1
  simp at c0 c1
  have j1 : (0 : Int) ≤ (i : Int) := by omega
  have j2 : (i : Int) < (s.length : Int) := by omega
  go_enter Tryz.func95, Tryz.ntmps95
  go_wp2_with fail
  go_quiet (fail)
  go_upto_if 22 with fail
  have h0 := h.drewN nq
  have a0 := (AftR.refl g w).drewN nq
  clear h c0 c1 f1 hb
  generalize World.drewN w nq = w0 at *
  have c1 := Blk.cell h0 1
  have f1 := Blk.frozen h0 1
  simp at c1
  go_cut [] (fun wc => RrAt wc g s f 0 0 ∧ AftR g w wc)
  case first =>
    cases qd with
    | true =>
      have hf := Hf1.out rfl
      have h3 : RrAt (w0.setCell ⟨g, 1, none⟩ (.int .i64 ((i + 1 : Nat) : Int))) g s f 0 0 := by rw [hf]; exact h0.move (i + 1)
      have ha3 := a0.set 1 (.int .i64 ((i + 1 : Nat) : Int))
      clear hf
      go_wp2_with fail
      go_meet
      exact ⟨h3, ha3⟩
    | false =>
      have hf := Hf2.out rfl
      rw [← hf] at h0
      clear hf
      go_wp2_with fail
      go_meet
      exact ⟨h0, a0⟩
  case rest =>
    clear h0 a0 c1 f1
    obtain ⟨h3, ha3⟩ := hcut
    have c1 := Blk.cell h3 1
    simp at c1
    clear Hf1 Hf2
    go_upto_block 0 with fail
    go_cut [6] (fun v wc => ∃ nv : Nat, v = .int .i64 nv ∧ NumA s f k nv ∧ RrAt wc g s k 0 0 ∧ AftR g w wc)
    case first =>
      as_aux_lemma =>
        go_wp2_with fail
        go_loopg [6] (s.length - f) (fun q v wr => ∃ m nv : Nat, v = .int .i64 nv ∧ s.length - m ≤ q ∧ f ≤ m ∧ m ≤ s.length ∧ RrAt wr g s m 0 0 ∧ AftR g w wr ∧ Hid (NumA s f m nv) ∧ Hid (Jp.digP s f = Jp.digP s m))
        case atStart => exact ⟨f, 0, rfl, Nat.le_refl _, Nat.le_refl _, hfl, h3, ha3, NumA.start s f, rfl⟩
        case round =>
          clear h3 ha3 c1
          obtain ⟨m, nv, rfl, hq, hfm, hm, h3, ha3, HN, HS⟩ := hrel
          have c0 := Blk.cell h3 0
          have c1 := Blk.cell h3 1
          have f1 := Blk.frozen h3 1
          simp at c0 c1
          have j1 : (0 : Int) ≤ (m : Int) := by omega
          by_cases hlt : m < s.length
          · have j2 : (m : Int) < (s.length : Int) := by omega
            have d1 : decide (m < s.length) = true := by simp [hlt]
            have Hgo : Hid (Jp.digB s[m] = true → Jp.digP s m = Jp.digP s (m + 1)) := Jp.dig_go s m hlt
            have Hst : Hid (Jp.digB s[m] = false → Jp.digP s m = m) := Jp.dig_stop s m hlt
            have Hnx : Hid (Jp.digB s[m] = true → m - f < 18 → NumA s f (m + 1) (nv * 10 + (s[m].toNat - 48))) := fun h => HN.out.next hfm hlt h
            have Hpa : Hid (Jp.digB s[m] = true → ¬ m - f < 18 → NumA s f (m + 1) nv) := fun h => HN.out.past hfm hlt h
            have Hlt : Hid (m - f ≤ 17 → nv < 100000000000000000) := HN.out.lt hm
            rw [dig_form] at Hgo Hst Hnx Hpa
            have hbe : ((⟨s.toArray⟩ : ByteArray)[m]'(by rw [mk_size]; exact hlt)).toNat = s[m].toNat := rfl
            rw [← hbe] at Hgo Hst Hnx Hpa
            clear hbe
            have hx8 := ((⟨s.toArray⟩ : ByteArray)[m]'(by rw [mk_size]; exact hlt)).toNat_lt
            by_cases g1 : 48 ≤ ((⟨s.toArray⟩ : ByteArray)[m]'(by rw [mk_size]; exact hlt)).toNat
            · have d2 := decide_eq_true g1
              have d4 : decide ((48 : Int) ≤ (((⟨s.toArray⟩ : ByteArray)[m]'(by rw [mk_size]; exact hlt)).toNat : Int)) = true := decide_eq_true (by omega)
              by_cases g2 : ((⟨s.toArray⟩ : ByteArray)[m]'(by rw [mk_size]; exact hlt)).toNat ≤ 57
              · have d3 := decide_eq_true g2
                have d5 : decide ((((⟨s.toArray⟩ : ByteArray)[m]'(by rw [mk_size]; exact hlt)).toNat : Int) ≤ 57) = true := decide_eq_true (by omega)
                have HG := Lib.hid (Hgo.out (by rw [d2, d3]; rfl))
                by_cases h18 : m - f < 18
                · have HX := Lib.hid (Hnx.out (by rw [d2, d3]; rfl) h18)
                  have hnv := Hlt.out (by omega)
                  have e18 : (m : Int) - (f : Int) < 18 := by omega
                  have hq0 : IntKind.i64.wrap ((((⟨s.toArray⟩ : ByteArray)[m]'(by rw [mk_size]; exact hlt)).toNat : Nat) : Int) = ((((⟨s.toArray⟩ : ByteArray)[m]'(by rw [mk_size]; exact hlt)).toNat : Nat) : Int) := IntWalk.i64_in _ (by omega)
                  have hq1 : IntKind.i64.wrap ((nv : Int) * 10) = (nv : Int) * 10 := IntWalk.i64_in _ (by omega)
                  have hq2 : IntKind.i64.wrap ((nv : Int) * 10 + ((((⟨s.toArray⟩ : ByteArray)[m]'(by rw [mk_size]; exact hlt)).toNat : Nat) : Int)) = (nv : Int) * 10 + ((((⟨s.toArray⟩ : ByteArray)[m]'(by rw [mk_size]; exact hlt)).toNat : Nat) : Int) := IntWalk.i64_in _ (by omega)
                  have hq3 : IntKind.i64.wrap ((nv : Int) * 10 + ((((⟨s.toArray⟩ : ByteArray)[m]'(by rw [mk_size]; exact hlt)).toNat : Nat) : Int) - 48) = (nv : Int) * 10 + ((((⟨s.toArray⟩ : ByteArray)[m]'(by rw [mk_size]; exact hlt)).toNat : Nat) : Int) - 48 := IntWalk.i64_in _ (by omega)
                  have HE : Hid ((nv : Int) * 10 + ((((⟨s.toArray⟩ : ByteArray)[m]'(by rw [mk_size]; exact hlt)).toNat : Nat) : Int) - 48 = ((nv * 10 + (((⟨s.toArray⟩ : ByteArray)[m]'(by rw [mk_size]; exact hlt)).toNat - 48) : Nat) : Int)) := by show _ = _; omega
                  clear Hgo Hst Hnx Hpa Hlt g1 g2 h18
                  go_wp2_with fail
                  go_quiet (fail)
                  go_wp2_with fail
                  go_quiet (fail)
                  go_wp2_with fail
                  go_roundg (s.length - (m + 1))
                  case rel => exact ⟨m + 1, _, by rw [← HE.out], Nat.le_refl _, by omega, by omega, RrAt.move (h3.drewN _) (m + 1), (ha3.drewN _).set 1 _, HX.out, by show _ = _; rw [HS.out, HG.out]⟩
                  case measure => omega
                · have HX := Lib.hid (Hpa.out (by rw [d2, d3]; rfl) h18)
                  have e18 : ¬ (m : Int) - (f : Int) < 18 := by omega
                  clear Hgo Hst Hnx Hpa Hlt g1 g2 h18
                  go_wp2_with fail
                  go_quiet (fail)
                  go_wp2_with fail
                  go_roundg (s.length - (m + 1))
                  case rel => exact ⟨m + 1, nv, rfl, Nat.le_refl _, by omega, by omega, RrAt.move (h3.drewN _) (m + 1), (ha3.drewN _).set 1 _, HX.out, by show _ = _; rw [HS.out, HG.out]⟩
                  case measure => omega
              · have d3 := decide_eq_false g2
                have d5 : decide ((((⟨s.toArray⟩ : ByteArray)[m]'(by rw [mk_size]; exact hlt)).toNat : Int) ≤ 57) = false := decide_eq_false (by omega)
                have HG := Lib.hid (Hst.out (by rw [d2, d3]; rfl))
                clear Hgo Hst Hnx Hpa Hlt g1 g2
                have hmk : m = k := by rw [← HK.out, HS.out, HG.out]
                subst hmk
                go_wp2_with fail
                go_quiet (fail)
                go_wp2_with fail
                go_meet
                exact ⟨nv, rfl, HN.out, h3.drewN _, ha3.drewN _⟩
            · have d2 := decide_eq_false g1
              have d4 : decide ((48 : Int) ≤ (((⟨s.toArray⟩ : ByteArray)[m]'(by rw [mk_size]; exact hlt)).toNat : Int)) = false := decide_eq_false (by omega)
              have HG := Lib.hid (Hst.out (by rw [d2]; rfl))
              clear Hgo Hst Hnx Hpa Hlt g1
              have hmk : m = k := by rw [← HK.out, HS.out, HG.out]
              subst hmk
              go_wp2_with fail
              go_quiet (fail)
              go_wp2_with fail
              go_meet
              exact ⟨nv, rfl, HN.out, h3.drewN _, ha3.drewN _⟩
          · obtain rfl : m = s.length := by omega
            have HG := Lib.hid (Jp.dig_end s s.length (Nat.le_refl _))
            have hmk : s.length = k := by rw [← HK.out, HS.out, HG.out]
            subst hmk
            go_wp2_with fail
            go_quiet (fail)
            go_wp2_with fail
            go_meet
            exact ⟨nv, rfl, HN.out, h3.drewN _, ha3.drewN _⟩
    case rest =>
      clear c1 h3 ha3
      obtain ⟨nv, rfl, hN, h3, ha3⟩ := hcut
      have HN := Lib.hid hN
      have Hlt : Hid (k - f ≤ 18 → nv < 1000000000000000000) := hN.lt18 hkl
      clear hN
      have c0 := Blk.cell h3 0
      have c1 := Blk.cell h3 1
      simp at c0 c1
      have j1 : (0 : Int) ≤ (f : Int) := by omega
      by_cases hkf : k = f
      · subst hkf
        have HB : Hid (R = .bad k 3) := by show _ = _; rw [← HR.out, if_pos rfl]
        have e0 : (k : Int) - (k : Int) = 0 := by omega
        clear HR
        go_wp2_with fail
        refine (rfail_first g s k 0 3 k _ h3).mono ?_
        rintro e w1 ⟨rfl, h1, ha1⟩
        go_wp2_with fail
        go_ret
        exact RrE.bad HB.out (ha3.trans ha1) h1 (by omega)
      · have hfs : f < s.length := by omega
        have j2 : (f : Int) < (s.length : Int) := by omega
        have hb0 : ((((⟨s.toArray⟩ : ByteArray)[f]'(by rw [mk_size]; exact hfs)).toNat : Int) == (48 : Int)) = decide (s[f] = 48) := bk_eq s f hfs 48
        have HB1 : Hid (18 < k - f ∨ (1 < k - f ∧ decide (s[f] = 48) = true) → R = .bad i 3) := fun h => by
          rw [← HR.out, if_neg hkf, if_pos]
          rcases h with h | ⟨h, h'⟩
          · exact .inl h
          · exact .inr ⟨h, by rw [List.getElem?_eq_getElem hfs, of_decide_eq_true h']⟩
        have HB2 : Hid (¬ 18 < k - f → ¬ (1 < k - f ∧ decide (s[f] = 48) = true) → R = .ok nV k) := fun h h2 => by
          rw [← HR.out, if_neg hkf, if_neg]
          rintro (h' | ⟨h1, h'⟩)
          · exact h h'
          · rw [List.getElem?_eq_getElem hfs] at h'
            exact h2 ⟨h1, decide_eq_true (Option.some.inj h')⟩
        generalize decide (s[f] = 48) = q8 at *
        have e0 : ¬ (k : Int) - (f : Int) = 0 := by omega
        clear HR
        have hways : 18 < k - f ∨ (¬ 18 < k - f ∧ 1 < k - f ∧ q8 = true) ∨ (¬ 18 < k - f ∧ 1 < k - f ∧ q8 = false) ∨ (¬ 18 < k - f ∧ ¬ 1 < k - f) := by
          by_cases g1 : 18 < k - f
          · exact .inl g1
          · by_cases g2 : 1 < k - f
            · cases q8 with
              | true => exact .inr (.inl ⟨g1, g2, rfl⟩)
              | false => exact .inr (.inr (.inl ⟨g1, g2, rfl⟩))
            · exact .inr (.inr (.inr ⟨g1, g2⟩))
        rcases hways with g1 | ⟨g1, g2, rfl⟩ | ⟨g1, g2, rfl⟩ | ⟨g1, g2⟩
        · have HB := Lib.hid (HB1.out (.inl g1))
          have e1 : (18 : Int) < (k : Int) - (f : Int) := by omega
          clear HB1 HB2
          go_wp2_with fail
          refine (rfail_first g s k 0 3 i _ h3).mono ?_
          rintro e w1 ⟨rfl, h1, ha1⟩
          go_wp2_with fail
          go_ret
          exact RrE.bad HB.out (ha3.trans ha1) h1 (by omega)
        · have HB := Lib.hid (HB1.out (.inr ⟨g2, rfl⟩))
          have e1 : ¬ (18 : Int) < (k : Int) - (f : Int) := by omega
          have e2 : (1 : Int) < (k : Int) - (f : Int) := by omega
          clear HB1 HB2
          go_wp2_with fail
          refine (rfail_first g s k 0 3 i _ h3).mono ?_
          rintro e w1 ⟨rfl, h1, ha1⟩
          go_wp2_with fail
          go_ret
          exact RrE.bad HB.out (ha3.trans ha1) h1 (by omega)
        · have hnv := Hlt.out (by omega)
          have e1 : ¬ (18 : Int) < (k : Int) - (f : Int) := by omega
          have e2 : (1 : Int) < (k : Int) - (f : Int) := by omega
          have HB : Hid (R = .ok nV k) := HB2.out (by omega) (by simp)
          clear HB1 HB2
          cases qd with
          | true =>
            have HV : Hid (nV = -(nv : Int)) := by show _ = _; rw [HNv.out, if_pos rfl, ← HDe.out, ← HN.out.val (by omega)]
            have hV := HV.out
            have hq1 : IntKind.i64.wrap (-(nv : Int)) = nV := by rw [hV]; exact IntWalk.i64_in _ (by omega)
            have hlo : -(1000000000000000000 : Int) < nV := by omega
            clear hV HNv
            go_wp2_with fail
            go_ret
            have hbl : Below wc.heap.size wc (World.alloc wc (.cells #[.int .i64 2, .int .i64 nV, .string ⟨#[]⟩, .slice none 0 0, .slice none 0 0] 78)) := (Below.refl _ _).alloc (Nat.le_refl _) _
            have hnw : Blk (World.alloc wc (.cells #[.int .i64 2, .int .i64 nV, .string ⟨#[]⟩, .slice none 0 0, .slice none 0 0] 78)) wc.heap.size 78 #[.int .i64 2, .int .i64 nV, .string ⟨([] : Bs).toArray⟩, .slice none 0 0, .slice none 0 0] := Blk.new wc _ _
            exact RrE.ok HB.out (ha3.below hbl (by omega)) (Blk.below h3 hbl h3.lt) (rjV.leaf hnw ha3.bel.size)
          | false =>
            have HV : Hid (nV = (nv : Int)) := by show _ = _; rw [HNv.out, if_neg (by simp), ← HDe.out, ← HN.out.val (by omega)]
            clear HNv
            go_wp2_with fail
            rw [← HV.out]
            go_ret
            have hbl : Below wc.heap.size wc (World.alloc wc (.cells #[.int .i64 2, .int .i64 nV, .string ⟨#[]⟩, .slice none 0 0, .slice none 0 0] 78)) := (Below.refl _ _).alloc (Nat.le_refl _) _
            have hnw : Blk (World.alloc wc (.cells #[.int .i64 2, .int .i64 nV, .string ⟨#[]⟩, .slice none 0 0, .slice none 0 0] 78)) wc.heap.size 78 #[.int .i64 2, .int .i64 nV, .string ⟨([] : Bs).toArray⟩, .slice none 0 0, .slice none 0 0] := Blk.new wc _ _
            exact RrE.ok HB.out (ha3.below hbl (by omega)) (Blk.below h3 hbl h3.lt) (rjV.leaf hnw ha3.bel.size)
        · have hnv := Hlt.out (by omega)
          have e1 : ¬ (18 : Int) < (k : Int) - (f : Int) := by omega
          have e2 : ¬ (1 : Int) < (k : Int) - (f : Int) := by omega
          have HB : Hid (R = .ok nV k) := HB2.out (by omega) (fun h => g2 h.1)
          clear HB1 HB2
          cases qd with
          | true =>
            have HV : Hid (nV = -(nv : Int)) := by show _ = _; rw [HNv.out, if_pos rfl, ← HDe.out, ← HN.out.val (by omega)]
            have hV := HV.out
            have hq1 : IntKind.i64.wrap (-(nv : Int)) = nV := by rw [hV]; exact IntWalk.i64_in _ (by omega)
            have hlo : -(1000000000000000000 : Int) < nV := by omega
            clear hV HNv
            go_wp2_with fail
            go_ret
            have hbl : Below wc.heap.size wc (World.alloc wc (.cells #[.int .i64 2, .int .i64 nV, .string ⟨#[]⟩, .slice none 0 0, .slice none 0 0] 78)) := (Below.refl _ _).alloc (Nat.le_refl _) _
            have hnw : Blk (World.alloc wc (.cells #[.int .i64 2, .int .i64 nV, .string ⟨#[]⟩, .slice none 0 0, .slice none 0 0] 78)) wc.heap.size 78 #[.int .i64 2, .int .i64 nV, .string ⟨([] : Bs).toArray⟩, .slice none 0 0, .slice none 0 0] := Blk.new wc _ _
            exact RrE.ok HB.out (ha3.below hbl (by omega)) (Blk.below h3 hbl h3.lt) (rjV.leaf hnw ha3.bel.size)
          | false =>
            have HV : Hid (nV = (nv : Int)) := by show _ = _; rw [HNv.out, if_neg (by simp), ← HDe.out, ← HN.out.val (by omega)]
            clear HNv
            go_wp2_with fail
            rw [← HV.out]
            go_ret
            have hbl : Below wc.heap.size wc (World.alloc wc (.cells #[.int .i64 2, .int .i64 nV, .string ⟨#[]⟩, .slice none 0 0, .slice none 0 0] 78)) := (Below.refl _ _).alloc (Nat.le_refl _) _
            have hnw : Blk (World.alloc wc (.cells #[.int .i64 2, .int .i64 nV, .string ⟨#[]⟩, .slice none 0 0, .slice none 0 0] 78)) wc.heap.size 78 #[.int .i64 2, .int .i64 nV, .string ⟨([] : Bs).toArray⟩, .slice none 0 0, .slice none 0 0] := Blk.new wc _ _
            exact RrE.ok HB.out (ha3.below hbl (by omega)) (Blk.below h3 hbl h3.lt) (rjV.leaf hnw ha3.bel.size)
end Go.Proofs.YtgpjcjnimheglaaGreatDoor
/-
  WALKS of the document's reader of messages: hex.
-/
namespace Go.Proofs.YtgpjcjnimheglaaGreatDoor
open Go.RowKit

/-- what hex tells -/
def hexR (s : Bs) (i : Nat) : Int := if s[i]? = some 92 ∧ s[i + 1]? = some 117 then (match Jp.fourP s (i + 2) with | some n => (n : Int) | none => -1) else -1
theorem hexR_out {s : Bs} {i : Nat} (h : ¬ i + 6 ≤ s.length) : hexR s i = -1 := by
  unfold hexR
  rw [Jp.four_no s (i + 2) (by omega)]
  simp
theorem drop_cons' (s : Bs) (a k : Nat) (hk : k < a) (ha : a ≤ s.length) : (s.take a).drop k = (s[k]'(by omega)) :: (s.take a).drop (k + 1) := by
  rw [List.drop_eq_getElem_cons (by rw [List.length_take]; omega), List.getElem_take]
theorem pow16 {n k : Nat} (h : n < 16 ^ k) (hk : k ≤ 4) : n < 65536 := by
  have h1 := Nat.pow_le_pow_right (n := 16) (by decide) hk
  have h2 : (16 : Nat) ^ 4 = 65536 := by decide
  omega
theorem pow16s {n k d : Nat} (h : n < 16 ^ k) (hd : d < 16) : n * 16 + d < 16 ^ (k + 1) := by rw [Nat.pow_succ]; omega

set_option maxHeartbeats 4000000 in
set_option maxRecDepth 100000 in
theorem rhex_walk (g : Nat) (s : Bs) (i : Nat) (i0 : Nat) (w : World) (h : RrAt w g s i0 0 0) (hi : i ≤ s.length + 6) (hl : s.length ≤ 16777216) :
    Calls Tryz.prog 130 #[.pointer (some ⟨g, 0, none⟩), .int .i64 i] w fun e w' => e = .returned (.int .i64 (hexR s i)) ∧ w' = w := by
  have c0 := Blk.cell h 0
  simp at c0
  have j0 : (0 : Int) ≤ (i : Int) := by omega
  by_cases hle : i + 6 ≤ s.length
  · have j1 : ¬ (s.length : Int) < (i : Int) + 6 := by omega
    have j2 : (i : Int) < (s.length : Int) := by omega
    have j3 : (i : Int) + 1 < (s.length : Int) := by omega
    have hb0 : ((((⟨s.toArray⟩ : ByteArray)[i]'(by rw [mk_size]; omega)).toNat : Int) == (92 : Int)) = decide (s[i] = 92) := bk_eq s i (by omega) 92
    have hb1 : ((((⟨s.toArray⟩ : ByteArray)[i + 1]'(by rw [mk_size]; omega)).toNat : Int) == (117 : Int)) = decide (s[i + 1] = 117) := bk_eq s (i + 1) (by omega) 117
    have hn0 : ((((⟨s.toArray⟩ : ByteArray)[i]'(by rw [mk_size]; omega)).toNat : Int) != (92 : Int)) = !decide (s[i] = 92) := by rw [← hb0]; rfl
    have hn1 : ((((⟨s.toArray⟩ : ByteArray)[i + 1]'(by rw [mk_size]; omega)).toNat : Int) != (117 : Int)) = !decide (s[i + 1] = 117) := by rw [← hb1]; rfl
    have HR : Hid (hexR s i = if decide (s[i] = 92) = true ∧ decide (s[i + 1] = 117) = true then (match Lx.hexN 0 ((s.take (i + 2 + 4)).drop (i + 2)) with | some n => (n : Int) | none => -1) else -1) := by
      show _ = _
      unfold hexR
      rw [List.getElem?_eq_getElem (by omega), List.getElem?_eq_getElem (by omega), Jp.four_at s (i + 2) (by omega)]
      simp only [Option.some.injEq, decide_eq_true_eq]
    generalize hexR s i = R at *
    generalize decide (s[i] = 92) = p0 at *
    generalize decide (s[i + 1] = 117) = p1 at *
    cases p0 with
    | false =>
      have HB : Hid (R = -1) := by show _ = _; rw [HR.out, if_neg (by simp)]
      clear HR
      go_enter Tryz.func130, Tryz.ntmps130
      go_wp2_with fail
      go_ret
      rw [HB.out]
      exact ⟨rfl, rfl⟩
    | true =>
      cases p1 with
      | false =>
        have HB : Hid (R = -1) := by show _ = _; rw [HR.out, if_neg (by simp)]
        clear HR
        go_enter Tryz.func130, Tryz.ntmps130
        go_wp2_with fail
        go_ret
        rw [HB.out]
        exact ⟨rfl, rfl⟩
      | true =>
        have HB : Hid (R = match Lx.hexN 0 ((s.take (i + 2 + 4)).drop (i + 2)) with | some n => (n : Int) | none => -1) := by show _ = _; rw [HR.out, if_pos ⟨rfl, rfl⟩]
        clear HR
        go_enter Tryz.func130, Tryz.ntmps130
        go_wp2_with fail
        clear hb0 hb1 hn0 hn1
        go_loopg [5, 6] 4 (fun q v5 v6 wr => wr = w ∧ ∃ (n k : Nat), v5 = .int .i64 n ∧ v6 = .int .i64 k ∧ i + 6 - k ≤ q ∧ i + 2 ≤ k ∧ k ≤ i + 6 ∧ Hid (n < 16 ^ (k - (i + 2))) ∧ Hid (R = match Lx.hexN n ((s.take (i + 2 + 4)).drop k) with | some n => (n : Int) | none => -1))
        case atStart => exact ⟨rfl, 0, i + 2, rfl, rfl, by omega, Nat.le_refl _, by omega, by show _ < _; simp, HB.out⟩
        case round =>
          clear HB
          obtain ⟨rfl, n, k, rfl, rfl, hq, hk1, hk2, HN, HB⟩ := hrel
          have j4 : (0 : Int) ≤ (k : Int) := by omega
          have hn : n < 65536 := pow16 HN.out (by omega)
          by_cases hk : k < i + 6
          · have hks : k < s.length := by omega
            have j5 : (k : Int) < (s.length : Int) := by omega
            have e1 : (k : Int) < (i : Int) + 6 := by omega
            have hd : Hid ((s.take (i + 2 + 4)).drop k = s[k] :: (s.take (i + 2 + 4)).drop (k + 1)) := drop_cons' s (i + 2 + 4) k (by omega) (by omega)
            have HB2 : Hid (R = match (match Lx.hexV s[k] with | some d => Lx.hexN (n * 16 + d) ((s.take (i + 2 + 4)).drop (k + 1)) | none => none) with | some n => (n : Int) | none => -1) := by
              show _ = _
              rw [HB.out, hd.out]
              rfl
            clear hd HB
            have hbe : ((⟨s.toArray⟩ : ByteArray)[k]'(by rw [mk_size]; exact hks)) = s[k] := rfl
            rw [← hbe] at HB2
            clear hbe
            have hx8 := ((⟨s.toArray⟩ : ByteArray)[k]'(by rw [mk_size]; exact hks)).toNat_lt
            go_upto_region 8 with fail
            generalize ((⟨s.toArray⟩ : ByteArray)[k]'(by rw [mk_size]; exact hks)) = c at *
            have hVx : (∃ d, Lx.hexV c = some d ∧ d < 16 ∧ ((48 ≤ c.toNat ∧ c.toNat ≤ 57 ∧ d = c.toNat - 48) ∨ (97 ≤ c.toNat ∧ c.toNat ≤ 102 ∧ d = c.toNat - 87) ∨ (65 ≤ c.toNat ∧ c.toNat ≤ 70 ∧ d = c.toNat - 55))) ∨ (Lx.hexV c = none ∧ ¬ (48 ≤ c.toNat ∧ c.toNat ≤ 57) ∧ ¬ (97 ≤ c.toNat ∧ c.toNat ≤ 102) ∧ ¬ (65 ≤ c.toNat ∧ c.toNat ≤ 70)) := by
              unfold Lx.hexV
              by_cases h1 : 48 ≤ c.toNat ∧ c.toNat ≤ 57
              · rw [if_pos h1]; exact .inl ⟨_, rfl, by omega, .inl ⟨h1.1, h1.2, rfl⟩⟩
              · rw [if_neg h1]
                by_cases h2 : 97 ≤ c.toNat ∧ c.toNat ≤ 102
                · rw [if_pos h2]; exact .inl ⟨_, rfl, by omega, .inr (.inl ⟨h2.1, h2.2, rfl⟩)⟩
                · rw [if_neg h2]
                  by_cases h3 : 65 ≤ c.toNat ∧ c.toNat ≤ 70
                  · rw [if_pos h3]; exact .inl ⟨_, rfl, by omega, .inr (.inr ⟨h3.1, h3.2, rfl⟩)⟩
                  · rw [if_neg h3]; exact .inr ⟨rfl, h1, h2, h3⟩
            obtain ⟨x, hx⟩ : ∃ x : Int, x = c.toNat := ⟨_, rfl⟩
            rw [← hx]
            rcases hVx with ⟨d, hV, hd, h1⟩ | ⟨hV, n1, n2, n3⟩
            · rw [hV] at HB2
              have HN2 : Hid (n * 16 + d < 16 ^ (k + 1 - (i + 2))) := by show _ < _; rw [show k + 1 - (i + 2) = (k - (i + 2)) + 1 by omega]; exact pow16s HN.out hd
              have HR2 : Hid (R = match Lx.hexN (n * 16 + d) ((s.take (i + 2 + 4)).drop (k + 1)) with | some n => (n : Int) | none => -1) := HB2.out
              clear HB2 hV HN
              rcases h1 with ⟨g1, g2, g3⟩ | ⟨g1, g2, g3⟩ | ⟨g1, g2, g3⟩
              · have y1 : (48 : Int) ≤ x := by omega
                have y2 : x ≤ 57 := by omega
                have HE : Hid ((n : Int) * 16 + x - 48 = ((n * 16 + d : Nat) : Int)) := by show _ = _; omega
                clear hx g1 g2 g3 hx8
                go_wp2_with fail
                go_roundg (i + 6 - (k + 1))
                case rel => exact ⟨rfl, _, k + 1, by rw [← HE.out], rfl, Nat.le_refl _, by omega, by omega, HN2.out, HR2.out⟩
                case measure => omega
              · have y1 : (97 : Int) ≤ x := by omega
                have y2 : x ≤ 102 := by omega
                have y3 : (57 : Int) < x := by omega
                have HE : Hid ((n : Int) * 16 + x - 87 = ((n * 16 + d : Nat) : Int)) := by show _ = _; omega
                clear hx g1 g2 g3 hx8
                go_wp2_with fail
                go_roundg (i + 6 - (k + 1))
                case rel => exact ⟨rfl, _, k + 1, by rw [← HE.out], rfl, Nat.le_refl _, by omega, by omega, HN2.out, HR2.out⟩
                case measure => omega
              · have y1 : (65 : Int) ≤ x := by omega
                have y2 : x ≤ 70 := by omega
                have y3 : (57 : Int) < x := by omega
                have y4 : ¬ (97 : Int) ≤ x := by omega
                have HE : Hid ((n : Int) * 16 + x - 55 = ((n * 16 + d : Nat) : Int)) := by show _ = _; omega
                clear hx g1 g2 g3 hx8
                go_wp2_with fail
                go_roundg (i + 6 - (k + 1))
                case rel => exact ⟨rfl, _, k + 1, by rw [← HE.out], rfl, Nat.le_refl _, by omega, by omega, HN2.out, HR2.out⟩
                case measure => omega
            · rw [hV] at HB2
              have HR2 : Hid (R = -1) := HB2.out
              clear HB2 hV
              have hways : (x < 48) ∨ (48 ≤ x ∧ 57 < x ∧ x < 65) ∨ (70 < x ∧ 65 ≤ x ∧ 48 ≤ x ∧ 57 < x ∧ x < 97) ∨ (102 < x ∧ 97 ≤ x ∧ 70 < x ∧ 65 ≤ x ∧ 48 ≤ x ∧ 57 < x) := by omega
              clear hx n1 n2 n3 hx8
              rcases hways with g1 | ⟨g1, g2, g3⟩ | ⟨g1, g2, g3, g4, g5⟩ | ⟨g1, g2, g3, g4, g5, g6⟩
              all_goals
                go_wp2_with fail
                go_ret
                rw [HR2.out]
                exact ⟨rfl, rfl⟩
          · have hk6 : k = i + 6 := by omega
            subst hk6
            have e1 : ¬ (((i + 6 : Nat) : Int) < (i : Int) + 6) := by omega
            have HB2 : Hid (R = (n : Int)) := by
              show _ = _
              rw [HB.out, List.drop_of_length_le (by rw [List.length_take]; omega)]
              rfl
            go_wp2_with fail
            go_ret
            rw [HB2.out]
            exact ⟨rfl, rfl⟩
  · have HR := Lib.hid (hexR_out hle)
    generalize hexR s i = R at *
    have j1 : (s.length : Int) < (i : Int) + 6 := by omega
    go_enter Tryz.func130, Tryz.ntmps130
    go_wp2_with fail
    go_ret
    rw [HR.out]
    exact ⟨rfl, rfl⟩
end Go.Proofs.YtgpjcjnimheglaaGreatDoor
/-
  READING A TEXT as the document does: an escape's outcome, by what its steps find.
-/
namespace Go.Proofs.YtgpjcjnimheglaaGreatDoor.Jp

def nmB : List UInt8 := [34, 92, 47, 98, 102, 110, 114, 116]
def meB : List UInt8 := [34, 92, 47, 8, 12, 10, 13, 9]
/-- which of the signs, so many looked at -/
def isM (c : UInt8) : Nat → Int
  | 0 => -1
  | t + 1 => if nmB[t]? = some c then (t : Int) else isM c t
def simOk (c : UInt8) : Bool :=
  match simP c with
  | some b => decide (isM c 8 = ((nmB.idxOf c : Nat) : Int)) && decide (nmB.idxOf c < 8) && decide (meB[nmB.idxOf c]? = some b)
  | none => decide (isM c 8 = -1)
theorem isM_fin : ∀ i : Fin 256, simOk (UInt8.ofNat i.val) = true := by decide +kernel
theorem isM_all (c : UInt8) : simOk c = true := by
  have := isM_fin ⟨c.toNat, c.toNat_lt⟩
  simpa only [UInt8.ofNat_toNat] using this
theorem isM_sim (c : UInt8) (b : UInt8) (h : simP c = some b) : ∃ k : Nat, isM c 8 = (k : Int) ∧ k < 8 ∧ meB[k]? = some b := by
  have := isM_all c
  unfold simOk at this
  rw [h] at this
  simp only [Bool.and_eq_true, decide_eq_true_eq] at this
  exact ⟨_, this.1.1, this.1.2, this.2⟩
theorem isM_none (c : UInt8) (h : simP c = none) : isM c 8 = -1 := by
  have := isM_all c
  unfold simOk at this
  rw [h] at this
  exact of_decide_eq_true this
theorem hexR_u {s : List UInt8} {i : Nat} (h0 : s[i]? = some 92) (h1 : s[i + 1]? = some 117) : hexR s i = (match fourP s (i + 2) with | some n => (n : Int) | none => -1) := by
  unfold hexR; rw [if_pos ⟨h0, h1⟩]
  all_goals rfl
theorem hexR_not {s : List UInt8} {i : Nat} (h : ¬ (s[i]? = some 92 ∧ s[i + 1]? = some 117)) : hexR s i = -1 := by
  unfold hexR; rw [if_neg h]
theorem hexR_lt (s : List UInt8) (i : Nat) : -1 ≤ hexR s i ∧ hexR s i < 65536 := by
  unfold hexR
  split
  · split
    · rename_i n hn
      have := four_lt hn
      omega
    · omega
  · omega
theorem esc_end {s : List UInt8} {i : Nat} (h : s.length ≤ i + 1) : escP s i = .bad i 3 := by
  unfold escP; rw [List.getElem?_eq_none h]
theorem esc_one {s : List UInt8} {i : Nat} {c b : UInt8} (h : s[i + 1]? = some c) (hb : simP c = some b) : escP s i = .ok [b] (i + 2) := by
  unfold escP; simp only [h, hb]
/-- no sign: what hex tells decides -/
theorem esc_hex {s : List UInt8} {i : Nat} (h0 : s[i]? = some 92) (hn : ∀ c, s[i + 1]? = some c → simP c = none) :
    (hexR s i < 0 → escP s i = .bad i 3) ∧ (56320 ≤ hexR s i ∧ hexR s i ≤ 57343 → escP s i = .bad i 3) ∧
    (0 ≤ hexR s i → (hexR s i < 55296 ∨ 57343 < hexR s i) → escP s i = .ok (Lx.enc (hexR s i).toNat) (i + 6)) ∧
    (55296 ≤ hexR s i ∧ hexR s i ≤ 56319 → (56320 ≤ hexR s (i + 6) ∧ hexR s (i + 6) ≤ 57343 → escP s i = .ok (Lx.enc (65536 + (hexR s i - 55296) * 1024 + hexR s (i + 6) - 56320).toNat) (i + 12)) ∧ (¬ (56320 ≤ hexR s (i + 6) ∧ hexR s (i + 6) ≤ 57343) → escP s i = .bad i 3)) := by
  by_cases hu : s[i + 1]? = some 117
  · have hE : escP s i = uniP s i := by
      unfold escP
      rw [hu]
      simp only [hn 117 hu, if_true]
    rw [hE, hexR_u h0 hu]
    unfold uniP
    cases hf : fourP s (i + 2) with
    | none => simp
    | some h =>
      have hlt := four_lt hf
      dsimp only
      refine ⟨fun h' => by omega, fun h' => by rw [if_pos (by omega)], fun _ h' => ?_, fun h' => ⟨fun h2 => ?_, fun h2 => ?_⟩⟩
      · rw [if_neg (by omega), if_pos (by omega)]
        simp
      · rw [if_neg (by omega), if_neg (by omega)]
        unfold lowP
        by_cases h3 : s[i + 6]? = some 92 ∧ s[i + 7]? = some 117
        · rw [if_pos h3]
          rw [hexR_u (i := i + 6) h3.1 h3.2] at h2 ⊢
          cases hl : fourP s (i + 6 + 2) with
          | none => rw [hl] at h2; simp only at h2; omega
          | some l =>
            rw [hl] at h2
            simp only at h2 ⊢
            have e : 65536 + (h - 55296) * 1024 + (l - 56320) = (65536 + ((h : Int) - 55296) * 1024 + (l : Int) - 56320).toNat := by omega
            rw [if_pos (by omega), e]
        · rw [hexR_not (i := i + 6) h3] at h2
          omega
      · rw [if_neg (by omega), if_neg (by omega)]
        unfold lowP
        by_cases h3 : s[i + 6]? = some 92 ∧ s[i + 7]? = some 117
        · rw [if_pos h3]
          rw [hexR_u (i := i + 6) h3.1 h3.2] at h2
          cases hl : fourP s (i + 6 + 2) with
          | none => rfl
          | some l =>
            rw [hl] at h2
            simp only at h2 ⊢
            rw [if_neg (by omega)]
        · rw [if_neg h3]
  · have hE : escP s i = .bad i 3 := by
      unfold escP
      cases hc : s[i + 1]? with
      | none => rfl
      | some c =>
        simp only [hn c hc]
        rw [if_neg (fun e => hu (by rw [hc, e]))]
    rw [hE, hexR_not (fun h => hu h.2)]
    refine ⟨fun _ => rfl, fun _ => rfl, fun h => by omega, fun h => by omega⟩
theorem txt_at {s : List UInt8} {f i : Nat} {acc : List UInt8} {c : UInt8} (h : s[i]? = some c) : txtF s (f + 1) i acc = if c.toNat < 32 then .bad i 3 else if c = 34 then .ok acc (i + 1) else if c = 92 then (match escP s i with | .bad p e => .bad p e | .ok b k => txtF s f k (acc ++ b)) else txtF s f (i + 1) (acc ++ [c]) := by
  rw [txtF]
  simp only [h]
  all_goals rfl
theorem txt_none {s : List UInt8} {f i : Nat} {acc : List UInt8} (h : s[i]? = none) : txtF s (f + 1) i acc = .bad i 3 := by
  rw [txtF]
  simp only [h]
end Go.Proofs.YtgpjcjnimheglaaGreatDoor.Jp
/-
  THE WALK of the document's Utf (package amanuensisref2).
-/
namespace Go.Proofs.YtgpjcjnimheglaaGreatDoor
open Go.RowKit

set_option maxRecDepth 100000 in
theorem enc_eq (c : Nat) (h : c ≤ 1114111 ∧ ¬ (55296 ≤ c ∧ c ≤ 57343)) : Lx.enc c = if c < 128 then [UInt8.ofNat c] else if c < 2048 then [UInt8.ofNat (192 + c / 64), UInt8.ofNat (128 + c % 64)] else if c < 65536 then [UInt8.ofNat (224 + c / 4096), UInt8.ofNat (128 + c / 64 % 64), UInt8.ofNat (128 + c % 64)] else [UInt8.ofNat (240 + c / 262144), UInt8.ofNat (128 + c / 4096 % 64), UInt8.ofNat (128 + c / 64 % 64), UInt8.ofNat (128 + c % 64)] := by
  have hv : Utf8.valid (c : Int) = true := by unfold Utf8.valid; simp; omega
  unfold Lx.enc Utf8.encode
  simp only [hv, if_true, Int.toNat_natCast]
  split
  · rfl
  split
  · rfl
  split <;> rfl
set_option maxRecDepth 100000 in
theorem enc_len (c : Nat) : 1 ≤ (Lx.enc c).length ∧ (Lx.enc c).length ≤ 4 := by
  unfold Lx.enc Utf8.encode
  generalize (if Utf8.valid (c : Int) = true then (c : Int).toNat else Utf8.runeError) = n
  by_cases h1 : n < 0x80
  · simp only [if_pos h1]; exact ⟨by simp, by simp⟩
  · by_cases h2 : n < 0x800
    · simp only [if_neg h1, if_pos h2]; exact ⟨by simp, by simp⟩
    · by_cases h3 : n < 0x10000
      · simp only [if_neg h1, if_neg h2, if_pos h3]; exact ⟨by simp, by simp⟩
      · simp only [if_neg h1, if_neg h2, if_neg h3]; exact ⟨by simp, by simp⟩
theorem ofNat_u8 {n : Nat} (h : n < 256) : (((UInt8.ofNat n).toNat : Nat) : Int) = (n : Int) := by
  rw [UInt8.toNat_ofNat']; omega
/-- a new block's row -/
theorem rd_new {w : World} {xs : List Value} {n : Nat} (hn : xs.length = n) : Rd (w.alloc (.cells xs.toArray 5)) (w.alloc (.cells xs.toArray 5)).heap.size 1 (some ⟨w.heap.size, 0, none⟩) n xs := by
  refine ⟨by omega, fun _ => ⟨_, _, rfl, by simp, fun j u hu => ?_⟩⟩
  have h := (Blk.new w 5 xs.toArray).cell j
  rw [Nat.zero_add, h]
  simpa using hu

set_option maxHeartbeats 2000000 in
set_option maxRecDepth 100000 in
theorem utf_walk (c : Nat) (w : World) (hc : c ≤ 1114111 ∧ ¬ (55296 ≤ c ∧ c ≤ 57343)) :
    Calls Tryz.prog 131 #[.int .i64 c] w fun e w' => ∃ A cap, e = .returned (.slice A (Lx.enc c).length cap) ∧ Rd w' w'.heap.size 1 A (Lx.enc c).length (Lib.byteCells (Lx.enc c)) ∧ Below w.heap.size w w' := by
  have hE := Lib.hid (enc_eq c hc)
  generalize Lx.enc c = E at *
  have c0 : (0 : Int) ≤ (c : Int) := by omega
  have c9 : (c : Int) ≤ 1114111 := by omega
  by_cases h0 : c < 128
  · have hEq : Hid (E = [UInt8.ofNat (c)]) := by show _ = _; rw [hE.out, if_pos h0]
    have hCs : Hid (Lib.byteCells E = [.int .u8 ((c : Int))]) := by show _ = _; rw [hEq.out]; simp only [Lib.byteCells, List.map_cons, List.map_nil]; rw [ofNat_u8 (n := c) (by omega), show ((c : Nat) : Int) = (c : Int) by omega]
    have hLn : Hid (E.length = 1) := by show _ = _; rw [hEq.out]; rfl
    have y0 : (c : Int) < 128 := by omega
    clear hE h0
    go_enter Tryz.func131, Tryz.ntmps131
    go_wp2_with fail
    go_ret
    rw [hCs.out, hLn.out]
    first | refine ⟨_, _, rfl, ?_, ?_⟩ | refine ⟨_, ⟨_, rfl⟩, ?_, ?_⟩
    · exact rd_new (xs := [.int .u8 ((c : Int))]) rfl
    · exact (Below.refl _ _).alloc (Nat.le_refl _) _
  · by_cases h1 : c < 2048
    · have hEq : Hid (E = [UInt8.ofNat (192 + c / 64), UInt8.ofNat (128 + c % 64)]) := by show _ = _; rw [hE.out, if_neg h0, if_pos h1]
      have hCs : Hid (Lib.byteCells E = [.int .u8 (192 + (c : Int) / 64), .int .u8 (128 + (c : Int) % 64)]) := by show _ = _; rw [hEq.out]; simp only [Lib.byteCells, List.map_cons, List.map_nil]; rw [ofNat_u8 (n := 192 + c / 64) (by omega), show ((192 + c / 64 : Nat) : Int) = 192 + (c : Int) / 64 by omega, ofNat_u8 (n := 128 + c % 64) (by omega), show ((128 + c % 64 : Nat) : Int) = 128 + (c : Int) % 64 by omega]
      have hLn : Hid (E.length = 2) := by show _ = _; rw [hEq.out]; rfl
      have n128 : ¬ (c : Int) < 128 := by omega
      have y1 : (c : Int) < 2048 := by omega
      clear hE h0 h1
      go_enter Tryz.func131, Tryz.ntmps131
      go_wp2_with fail
      go_ret
      rw [hCs.out, hLn.out]
      first | refine ⟨_, _, rfl, ?_, ?_⟩ | refine ⟨_, ⟨_, rfl⟩, ?_, ?_⟩
      · exact rd_new (xs := [.int .u8 (192 + (c : Int) / 64), .int .u8 (128 + (c : Int) % 64)]) rfl
      · exact (Below.refl _ _).alloc (Nat.le_refl _) _
    · by_cases h2 : c < 65536
      · have hEq : Hid (E = [UInt8.ofNat (224 + c / 4096), UInt8.ofNat (128 + c / 64 % 64), UInt8.ofNat (128 + c % 64)]) := by show _ = _; rw [hE.out, if_neg h0, if_neg h1, if_pos h2]
        have hCs : Hid (Lib.byteCells E = [.int .u8 (224 + (c : Int) / 4096), .int .u8 (128 + (c : Int) / 64 % 64), .int .u8 (128 + (c : Int) % 64)]) := by show _ = _; rw [hEq.out]; simp only [Lib.byteCells, List.map_cons, List.map_nil]; rw [ofNat_u8 (n := 224 + c / 4096) (by omega), show ((224 + c / 4096 : Nat) : Int) = 224 + (c : Int) / 4096 by omega, ofNat_u8 (n := 128 + c / 64 % 64) (by omega), show ((128 + c / 64 % 64 : Nat) : Int) = 128 + (c : Int) / 64 % 64 by omega, ofNat_u8 (n := 128 + c % 64) (by omega), show ((128 + c % 64 : Nat) : Int) = 128 + (c : Int) % 64 by omega]
        have hLn : Hid (E.length = 3) := by show _ = _; rw [hEq.out]; rfl
        have n128 : ¬ (c : Int) < 128 := by omega
        have n2048 : ¬ (c : Int) < 2048 := by omega
        have y2 : (c : Int) < 65536 := by omega
        clear hE h0 h1 h2
        go_enter Tryz.func131, Tryz.ntmps131
        go_wp2_with fail
        go_ret
        rw [hCs.out, hLn.out]
        first | refine ⟨_, _, rfl, ?_, ?_⟩ | refine ⟨_, ⟨_, rfl⟩, ?_, ?_⟩
        · exact rd_new (xs := [.int .u8 (224 + (c : Int) / 4096), .int .u8 (128 + (c : Int) / 64 % 64), .int .u8 (128 + (c : Int) % 64)]) rfl
        · exact (Below.refl _ _).alloc (Nat.le_refl _) _
      · have hEq : Hid (E = [UInt8.ofNat (240 + c / 262144), UInt8.ofNat (128 + c / 4096 % 64), UInt8.ofNat (128 + c / 64 % 64), UInt8.ofNat (128 + c % 64)]) := by show _ = _; rw [hE.out, if_neg h0, if_neg h1, if_neg h2]
        have hCs : Hid (Lib.byteCells E = [.int .u8 (240 + (c : Int) / 262144), .int .u8 (128 + (c : Int) / 4096 % 64), .int .u8 (128 + (c : Int) / 64 % 64), .int .u8 (128 + (c : Int) % 64)]) := by show _ = _; rw [hEq.out]; simp only [Lib.byteCells, List.map_cons, List.map_nil]; rw [ofNat_u8 (n := 240 + c / 262144) (by omega), show ((240 + c / 262144 : Nat) : Int) = 240 + (c : Int) / 262144 by omega, ofNat_u8 (n := 128 + c / 4096 % 64) (by omega), show ((128 + c / 4096 % 64 : Nat) : Int) = 128 + (c : Int) / 4096 % 64 by omega, ofNat_u8 (n := 128 + c / 64 % 64) (by omega), show ((128 + c / 64 % 64 : Nat) : Int) = 128 + (c : Int) / 64 % 64 by omega, ofNat_u8 (n := 128 + c % 64) (by omega), show ((128 + c % 64 : Nat) : Int) = 128 + (c : Int) % 64 by omega]
        have hLn : Hid (E.length = 4) := by show _ = _; rw [hEq.out]; rfl
        have n128 : ¬ (c : Int) < 128 := by omega
        have n2048 : ¬ (c : Int) < 2048 := by omega
        have n65536 : ¬ (c : Int) < 65536 := by omega
        clear hE h0 h1 h2
        go_enter Tryz.func131, Tryz.ntmps131
        go_wp2_with fail
        go_ret
        rw [hCs.out, hLn.out]
        first | refine ⟨_, _, rfl, ?_, ?_⟩ | refine ⟨_, ⟨_, rfl⟩, ?_, ?_⟩
        · exact rd_new (xs := [.int .u8 (240 + (c : Int) / 262144), .int .u8 (128 + (c : Int) / 4096 % 64), .int .u8 (128 + (c : Int) / 64 % 64), .int .u8 (128 + (c : Int) % 64)]) rfl
        · exact (Below.refl _ _).alloc (Nat.le_refl _) _

end Go.Proofs.YtgpjcjnimheglaaGreatDoor
