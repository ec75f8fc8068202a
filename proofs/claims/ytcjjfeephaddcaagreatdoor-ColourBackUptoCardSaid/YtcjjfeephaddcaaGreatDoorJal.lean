/-
  JOINED of the texts SL SN SW SC
-/
import Derived.Test.YtcjjfeephaddcaaGreatDoorJak
import Derived.Sort.CutIn
import Derived.RangeFuncNested
import Derived.RangeFuncBound
import Derived.RangeFuncCalls
import Derived.RangeFuncLeaves
import Derived.OwnWalkIn
import Derived.TacticsInMore
import Derived.LoopNIn
import Derived.LoopIn
import Derived.LaidEqlPtr
set_option linter.all false
namespace Go.Proofs.YtcjjfeephaddcaaGreatDoor
open Go.RowKit Go.Maps
def WdR (w : World) (F : Nat → Prop) (A : Option Addr) (ws : List (Option Sc.Wd)) : Prop := ∃ vs, RowF w F A vs ∧ WdsF w F ws vs
section
variable {w w' : World} {F F' : Nat → Prop} {A : Option Addr} {ws : List (Option Sc.Wd)}
theorem WdR.at_ (h : WdR w F A ws) {j : Nat} (hj : j < ws.length) : ∃ br o v, A = some ⟨br, o, none⟩ ∧ F br ∧ br < w.heap.size ∧ w.cell? ⟨br, o + j, none⟩ = some v ∧ WdF w F ws[j] v := by
 obtain ⟨vs, hr, hw⟩ := h
 obtain ⟨v, hv, hx⟩ := hw.at_ hj
 obtain ⟨br, o, e, hF, hl, hc⟩ := hr (by have := hw.len; omega)
 exact ⟨br, o, v, e, hF, hl, hc _ _ hv, hx⟩
theorem WdsF.take (n : Nat) : ∀ {l : List (Option Sc.Wd)} {vs : List Value}, WdsF w F l vs → WdsF w F (l.take n) (vs.take n) := by
 induction n with
 | zero => intro l vs _; simp [WdsF]
 | succ n ih =>
  intro l vs h
  cases l with
  | nil => have : vs = [] := h; subst this; exact rfl
  | cons x l =>
   obtain ⟨v, vs', rfl, hx, hl⟩ := h
   exact ⟨v, vs'.take n, rfl, hx, ih hl⟩
theorem WdR.take (h : WdR w F A ws) (n : Nat) : WdR w F A (ws.take n) := by
 obtain ⟨vs, hr, hw⟩ := h
 refine ⟨vs.take n, fun hn => ?_, hw.take n⟩
 rw [List.length_take] at hn
 obtain ⟨br, o, e, hF, hl, hc⟩ := hr (by omega)
 refine ⟨br, o, e, hF, hl, fun j u hu => hc j u ?_⟩
 rw [List.getElem?_take] at hu
 split at hu
 ·exact hu
 ·cases hu
theorem WdR.keep (hs : w.heap.size ≤ w'.heap.size) (hk : ∀ b, F b → b < w.heap.size → w'.heap[b]? = w.heap[b]? ∧ F' b) (h : WdR w F A ws) : WdR w' F' A ws := by
 obtain ⟨vs, hr, hw⟩ := h
 exact ⟨vs, hr.keep hs hk, hw.keep hk⟩
theorem WdR.below (h : WdR w F A ws) (hd : Below w.heap.size w w') : WdR w' F A ws := h.keep hd.size fun b hF hl => ⟨hd.block b hl, hF⟩
end
theorem WdF.keepC {T : List TypeId} {w w' : World} {F : Nat → Prop} {x : Option Sc.Wd} {u : Value} (h : WdF w F x u) (hk : KeepC T w w') (ht : 237 ∉ T) : WdF w' F x u := by
 cases x with
 | none => exact h
 | some x =>
  obtain ⟨g, e1, hF, hB⟩ := h
  exact ⟨g, e1, hF, hB.keepC hk ht⟩
theorem WdsF.keepC {T : List TypeId} {w w' : World} {F : Nat → Prop} : ∀ {l : List (Option Sc.Wd)} {us : List Value}, WdsF w F l us → KeepC T w w' → 237 ∉ T → WdsF w' F l us
 | [], _, h, _, _ => h
 | x :: l, us, h, hk, ht => by
  obtain ⟨u, us', e1, hx, hl⟩ := h
  exact ⟨u, us', e1, hx.keepC hk ht, WdsF.keepC hl hk ht⟩
def TestE (b : Bool) (w : World) (e : Ending) (w' : World) : Prop := e = .returned (.bool b) ∧ Below w.heap.size w w'
def Sc.hasT (t : Bs) (x : Option Sc.Wd) : Bool := match x with | some v => v.text == t | none => false
set_option maxHeartbeats 4000000 in
set_option maxRecDepth 100000 in
theorem sc_param1 {w : World} {F : Nat → Prop} {x : Option Sc.Wd} {v : Value} (hx : WdF w F x v) {bx g : Nat} {y : Sc.Wd} (hb : w.cell? ⟨bx, 0, none⟩ = some (.pointer (some ⟨g, 0, none⟩))) (hg : Blk w g 237 #[.string ⟨y.text.toArray⟩, .int .i64 (y.at_ : Int)]) :
  Calls Tryz.prog 210 #[v, .pointer (some ⟨bx, 0, none⟩)] w (TestE (Sc.hasT y.text x) w) := by
 have g0 := hg.cell 0
 simp at g0
 clear hg
 cases x with
 | none =>
  obtain rfl : v = .pointer none := hx
  go_enter Tryz.func210, Tryz.ntmps210
  go_wp2_with fail
  go_quiet (fail)
  go_wp2_with fail
  go_ret
  exact ⟨rfl, below_drewN (Below.refl _ _) _⟩
 | some x =>
  obtain ⟨q, rfl, hF, hB⟩ := hx
  have b0 := hB.cell 0
  simp at b0
  clear hB
  have HT : Hid (Sc.hasT y.text (some x) = (x.text == y.text)) := rfl
  go_enter Tryz.func210, Tryz.ntmps210
  go_wp2_with fail
  go_quiet (fail)
  go_wp2_with fail
  go_ret
  rw [HT.out]
  exact ⟨rfl, below_drewN (Below.refl _ _) _⟩
def Sc.idxV {α : Type} (P : α → Bool) (l : List α) : Int := if l.any P then ((l.findIdx P : Nat) : Int) else -1
theorem Sc.idx_at {α : Type} {P : α → Bool} {l : List α} {i : Nat} (hi : i < l.length) (h : P l[i] = true) (hb : ∀ j (hj : j < l.length), j < i → P l[j] = false) : Sc.idxV P l = (i : Int) := by
 unfold Sc.idxV
 rw [if_pos (List.any_eq_true.2 ⟨_, List.getElem_mem hi, h⟩), (List.findIdx_eq hi).2 ⟨h, fun j hj => by simpa using hb j (by omega) hj⟩]
theorem Sc.idx_none {α : Type} {P : α → Bool} {l : List α} (hb : ∀ j (hj : j < l.length), P l[j] = false) : Sc.idxV P l = -1 := by
 unfold Sc.idxV
 rw [if_neg]
 intro h
 obtain ⟨x, hx, hp⟩ := List.any_eq_true.1 h
 obtain ⟨j, hj, rfl⟩ := List.getElem_of_mem hx
 rw [hb j hj] at hp
 cases hp
theorem Sc.idx_any {α : Type} (P : α → Bool) (l : List α) : decide (Sc.idxV P l ≥ 0) = l.any P := by
 unfold Sc.idxV
 cases l.any P with
 | true => simp
 | false => rfl
def IdxE (i : Int) (w : World) (e : Ending) (w' : World) : Prop := e = .returned (.int .i64 i) ∧ Below w.heap.size w w'
set_option maxHeartbeats 4000000 in
set_option maxRecDepth 100000 in
theorem sc_widx {w : World} {F : Nat → Prop} {A : Option Addr} {c : Nat} {ws : List (Option Sc.Wd)} (hr : WdR w F A ws) (hl : ws.length ≤ 1000000000) {Fn : Nat} {caps : Array Value} {P : Option Sc.Wd → Bool}
  (hrun : ∀ (args : Array Value) (w : World), (callFunc Fn args).run Tryz.prog w = .ok (.enter Fn args) w)
  (hcl : ∀ (x : Option Sc.Wd) (v : Value) (w' : World), Below w.heap.size w w' → WdF w' F x v → Calls Tryz.prog Fn (#[v] ++ caps) w' (TestE (P x) w')) :
  Calls Tryz.prog 236 #[.slice A ws.length c, .func (.func Fn) #[] caps] w (IdxE (Sc.idxV P ws) w) := by
 have Hl := Lib.hid hl
 clear hl
 go_enter Tryz.func236, Tryz.ntmps236
 go_wp2_with fail
 go_loopg [8] ws.length (fun m v wr => ∃ i : Nat, v = .int .i64 (i : Int) ∧ i ≤ ws.length ∧ ws.length - i ≤ m ∧ Hid (∀ j (hj : j < ws.length), j < i → P ws[j] = false) ∧ Below w.heap.size w wr)
 case atStart => exact ⟨0, rfl, Nat.zero_le _, Nat.le_refl _, fun j _ h => absurd h (by omega), Below.refl _ _⟩
 case round =>
  obtain ⟨i, rfl, hi, hm, HB, hd⟩ := hrel
  by_cases hlt : i < ws.length
  ·have ii0 : (0 : Int) ≤ (i : Int) := by omega
   have ii1 : (i : Int) < (ws.length : Int) := by omega
   obtain ⟨br, o, v, rfl, hF, hbl, hc, hx⟩ := hr.at_ hlt
   have q0 := (hd.cell (p := ⟨br, o + i, none⟩) hbl).trans hc
   have hcl := hcl ws[i] v wr hd (hx.below hd)
   have c1 : IntKind.i64.wrap ((i : Int) + 1) = (i : Int) + 1 := IntWalk.i64_in _ (by have := Hl.out; omega)
   have HX : Hid (P ws[i] = P ws[i]) := rfl
   have HE : Hid (P ws[i] = true → Sc.idxV P ws = (i : Int)) := fun h => Sc.idx_at hlt h HB.out
   have HN : Hid (P ws[i] = false → ∀ j (hj : j < ws.length), j < i + 1 → P ws[j] = false) := fun h j hj hji => by
    rcases Nat.lt_or_ge j i with h' | h'
    ·exact HB.out j hj h'
    ·obtain rfl : j = i := by omega
     exact h
   have Hlt := Lib.hid hlt
   have Hm := Lib.hid hm
   obtain ⟨pp, rfl⟩ := hx.ptr
   have hsz := Lib.hid hd.size
   clear HX
   generalize P ws[i] = b at *
   generalize ws[i] = x at *
   generalize Sc.idxV P ws = R at *
   clear hx hc hbl hlt hm hi HB
   cases b with
   | true =>
    obtain rfl := HE.out rfl
    clear HE HN
    go_wp2_with fail
    refine hcl.mono ?_
    clear hcl q0
    rintro e w1 ⟨rfl, hd1⟩
    go_wp2_with fail
    go_ret
    exact ⟨rfl, hd.trans (hd1.mono hsz.out)⟩
   | false =>
    clear HE
    go_wp2_with fail
    refine hcl.mono ?_
    clear hcl q0
    rintro e w1 ⟨rfl, hd1⟩
    go_wp2_with fail
    go_roundg (ws.length - (i + 1))
    case rel => exact ⟨i + 1, by go_num, by have := Hlt.out; omega, Nat.le_refl _, (by first | exact HN.out trivial | exact HN.out rfl), hd.trans (hd1.mono hsz.out)⟩
    case measure => have := Hlt.out; have := Hm.out; omega
  ·obtain rfl : i = ws.length := by omega
   have i1 : ¬ (ws.length : Int) < (ws.length : Int) := by omega
   have i2 : decide (ws.length < ws.length) = false := by simp
   have HR := Lib.hid (Sc.idx_none fun j hj => HB.out j hj hj)
   clear hlt hi hm HB
   go_wp2_with fail
   go_ret
   rw [HR.out]
   exact ⟨rfl, hd⟩
set_option maxHeartbeats 4000000 in
set_option maxRecDepth 100000 in
theorem sc_wany {w : World} {F : Nat → Prop} {A : Option Addr} {c : Nat} {ws : List (Option Sc.Wd)} (hr : WdR w F A ws) (hl : ws.length ≤ 1000000000) {Fn : Nat} {caps : Array Value} {P : Option Sc.Wd → Bool}
  (hrun : ∀ (args : Array Value) (w : World), (callFunc Fn args).run Tryz.prog w = .ok (.enter Fn args) w)
  (hcl : ∀ (x : Option Sc.Wd) (v : Value) (w' : World), Below w.heap.size w w' → WdF w' F x v → Calls Tryz.prog Fn (#[v] ++ caps) w' (TestE (P x) w')) :
  Calls Tryz.prog 209 #[.slice A ws.length c, .func (.func Fn) #[] caps] w (TestE (ws.any P) w) := by
 have hi := sc_widx (c := c) hr hl hrun hcl
 have HA := Lib.hid (Sc.idx_any P ws)
 generalize Sc.idxV P ws = i at *
 generalize ws.any P = b at *
 clear hr hl hrun hcl
 go_enter Tryz.func209, Tryz.ntmps209
 go_wp2_with fail
 refine hi.mono ?_
 clear hi
 rintro e w1 ⟨rfl, hd⟩
 go_wp2_with fail
 go_ret
 exact ⟨by rw [← HA.out]; rfl, hd⟩
theorem Sc.params_app (f : Nat) : ∀ (l m ahead : List (Option Sc.Wd)), Sc.paramsM f ahead (l ++ m) = Sc.paramsM f ahead l ++ Sc.paramsM f (ahead ++ l) m
 | [], m, ahead => by simp [Sc.paramsM]
 | none :: l, m, ahead => by
  rw [List.cons_append]
  conv => lhs; unfold Sc.paramsM
  conv => rhs; lhs; unfold Sc.paramsM
  rw [Sc.params_app f l m, List.append_assoc]
  rfl
 | some w :: l, m, ahead => by
  rw [List.cons_append]
  conv => lhs; unfold Sc.paramsM
  conv => rhs; lhs; unfold Sc.paramsM
  rw [Sc.params_app f l m, List.append_assoc]
  rfl
theorem Sc.params_take (f : Nat) (l : List (Option Sc.Wd)) (i : Nat) (h : i < l.length) : Sc.paramsM f [] (l.take (i + 1)) = Sc.paramsM f [] (l.take i) ++ (match l[i] with | some w => [Sc.itselfM f w.at_ 1 ((l.take i).any (Sc.hasT w.text))] | none => []) := by
 rw [List.take_succ_eq_append_getElem h, Sc.params_app, List.nil_append]
 congr 1
 cases l[i] with
 | none => rfl
 | some w => rfl
theorem Sc.params_len (f : Nat) : ∀ (l ahead : List (Option Sc.Wd)), (Sc.paramsM f ahead l).length ≤ l.length
 | [], _ => Nat.le_refl _
 | none :: l, ahead => by unfold Sc.paramsM; exact Nat.le_succ_of_le (Sc.params_len f l _)
 | some w :: l, ahead => by unfold Sc.paramsM; exact Nat.succ_le_succ (Sc.params_len f l _)
set_option maxHeartbeats 8000000 in
set_option maxRecDepth 100000 in
theorem sc_params {w0 w : World} {F : Nat → Prop} {pg mb : Nat} {fs ts is fd : Value} {us : List Sc.Us} (h : PgS w0 w pg mb fs ts is fd us) {A : Option Addr} {c f : Nat} {ws : List (Option Sc.Wd)} (hr : WdR w F A ws) (hty : ∀ br o, A = some ⟨br, o, none⟩ → 0 < ws.length → ∃ cs fr, w.heap[br]? = some (.cells cs 231 fr)) (hf : f ≤ 1000000000) (hat : ∀ x, some x ∈ ws → x.at_ ≤ 1000000000) (hl : us.length + ws.length ≤ 1000000000) (hcap : ws.length ≤ c) :
  Calls Tryz.prog 168 #[.pointer (some ⟨pg, 0, none⟩), .int .i64 (f : Int), .slice A ws.length c] w (AddE w0 w pg mb fs ts is fd (us ++ Sc.paramsM f [] ws)) := by
 have Hl := Lib.hid hl
 have Hf := Lib.hid hf
 clear hl hf
 go_enter Tryz.func168, Tryz.ntmps168
 go_wp2_with fail
 go_loopg [11] ws.length (fun m v wr => ∃ i : Nat, v = .int .i64 (i : Int) ∧ i ≤ ws.length ∧ ws.length - i ≤ m ∧ PgS w0 wr pg mb fs ts is fd (us ++ Sc.paramsM f [] (ws.take i)) ∧ KeepC [86, 31] w wr)
 case atStart => exact ⟨0, rfl, Nat.zero_le _, Nat.le_refl _, by simpa [Sc.paramsM] using h, KeepC.refl _ _⟩
 case round =>
  obtain ⟨i, rfl, hi, hm, hP, hK⟩ := hrel
  by_cases hlt : i < ws.length
  ·have ii0 : (0 : Int) ≤ (i : Int) := by omega
   have ii1 : (i : Int) < (ws.length : Int) := by omega
   have hT := Lib.hid (Sc.params_take f ws i hlt)
   have c1 : IntKind.i64.wrap ((i : Int) + 1) = (i : Int) + 1 := IntWalk.i64_in _ (by have := Hl.out; omega)
   have hln : Hid ((us ++ Sc.paramsM f [] (ws.take i)).length ≤ 1000000000) := by
    have h1 := Sc.params_len f (ws.take i) []
    rw [List.length_take] at h1
    have := Hl.out
    show _ ≤ _
    rw [List.length_append]
    omega
   have hr2 : WdR wr F A ws := by
    obtain ⟨vs, h1, h2⟩ := hr
    refine ⟨vs, fun hn => ?_, ?_⟩
    ·obtain ⟨br, o, e, hF, hl, hc⟩ := h1 hn
     obtain ⟨cs, fr, hb⟩ := hty br o e (by omega)
     have hb2 := hK br cs _ fr hb (by decide)
     refine ⟨br, o, e, hF, lt_heap hb2, fun j u hu => ?_⟩
     rw [World.cell?_of_block (w := w) (a := ⟨br, o + j, none⟩) (hb2.trans hb.symm)]
     exact hc j u hu
    ·exact WdsF.keepC h2 hK (by decide)
   obtain ⟨br, o, v, rfl, hF, hbl, hc, hx⟩ := hr2.at_ hlt
   have hat := hat
   have hxm : ∀ x, ws[i] = some x → x.at_ ≤ 1000000000 := fun x e => hat x (e ▸ List.getElem_mem hlt)
   have hrt := hr2.take i
   have hwl : (ws.take i).length = i := by rw [List.length_take]; omega
   have Hwl := Lib.hid hwl
   obtain ⟨pp, rfl⟩ := hx.ptr
   have hd1 : Below wr.heap.size wr (wr.alloc (.cells #[.pointer pp] 231)) := (Below.refl _ _).alloc (Nat.le_refl _) _
   have hbx := Blk.new wr 231 #[.pointer pp]
   have hP1 := hP.below hd1
   have hK1 := hK.trans (KeepC.below hd1)
   have hrt1 := hrt.below hd1
   have hx1 := hx.below hd1
   obtain ⟨bx, hbx0⟩ : ∃ bx, bx = wr.heap.size := ⟨_, rfl⟩
   rw [← hbx0] at hbx
   have Hlt := Lib.hid hlt
   have Hm := Lib.hid hm
   generalize ws[i] = x at *
   generalize hwt : ws.take i = wt at *
   generalize hus : us ++ Sc.paramsM f [] wt = u1 at *
   clear hwt hP hK hr2 hx hrt hd1 hbl hlt hm hi hwl
   have hcp : (i : Int) ≤ (c : Int) := by have := Hlt.out; omega
   have hcp2 : i ≤ c := by have := Hlt.out; omega
   go_upto_if 17 with fail
   rw [← hbx0]
   clear hc
   generalize wr.alloc (.cells #[.pointer pp] 231) = w2 at *
   clear hbx0
   cases x with
   | none =>
    obtain rfl : pp = none := by have h : Value.pointer pp = .pointer none := hx1; injection h
    have HT : Hid (Sc.paramsM f [] (ws.take (i + 1)) = Sc.paramsM f [] wt) := by show _ = _; rw [hT.out, List.append_nil]
    clear hT
    go_wp2_with fail
    go_roundg (ws.length - (i + 1))
    case rel => exact ⟨i + 1, by go_num, by have := Hlt.out; omega, Nat.le_refl _, by rw [HT.out, hus]; exact hP1, hK1⟩
    case measure => have := Hlt.out; have := Hm.out; omega
   | some y =>
    obtain ⟨g, e, hFg, hgB⟩ := hx1
    injection e with e
    subst e
    have hyat := Lib.hid (hxm y rfl)
    have hany := sc_wany (c := c) hrt1 (by rw [Hwl.out]; have := Hl.out; have := Hlt.out; omega) (Fn := 210) (caps := #[.pointer (some ⟨bx, 0, none⟩)]) (P := Sc.hasT y.text) (fun _ _ => by kernel_rfl)
     (fun x v w' hd hx => sc_param1 hx (bx := bx) (g := g) (y := y) ((hd.cell (p := ⟨bx, 0, none⟩) hbx.lt).trans (hbx.cell 0)) (hgB.below hd hgB.lt))
    rw [Hwl.out] at hany
    have HT : Hid (Sc.paramsM f [] (ws.take (i + 1)) = Sc.paramsM f [] wt ++ [Sc.itselfM f y.at_ 1 (wt.any (Sc.hasT y.text))]) := by show _ = _; rw [hT.out]
    clear hT hrt1
    generalize wt.any (Sc.hasT y.text) = tw at *
    have b0 := hbx.cell 0
    simp at b0
    go_wp2_with fail
    refine hany.mono ?_
    clear hany
    rintro e w3 ⟨rfl, hd3⟩
    have hb3 := (hbx.below hd3 hbx.lt).cell 0
    have g3 := (hgB.below hd3 hgB.lt).cell 1
    simp at hb3 g3
    have hit := sc_itself f y.at_ 1 tw w3
    have hP3 := hP1.below hd3
    have hK3 := hK1.trans (KeepC.below hd3)
    clear hbx hgB hP1 hK1 hd3 b0
    go_wp2_with fail
    refine hit.mono ?_
    clear hit
    rintro e w4 ⟨rfl, hd4⟩
    have had := sc_add (hP3.below hd4) (u := Sc.itselfM f y.at_ 1 tw) Hf.out hyat.out hln.out
    have hK4 := hK3.trans (KeepC.below hd4)
    clear hP3 hK3 hd4 hb3 g3
    generalize Sc.itselfM f y.at_ 1 tw = u at *
    go_wp2_with fail
    refine had.mono ?_
    clear had
    rintro e w5 ⟨rfl, hP5, hK5⟩
    go_wp2_with fail
    go_roundg (ws.length - (i + 1))
    case rel => exact ⟨i + 1, by go_num, by have := Hlt.out; omega, Nat.le_refl _, by rw [HT.out, ← List.append_assoc, hus]; exact hP5, hK4.trans hK5⟩
    case measure => have := Hlt.out; have := Hm.out; omega
  ·obtain rfl : i = ws.length := by omega
   have i1 : ¬ (ws.length : Int) < (ws.length : Int) := by omega
   have i2 : decide (ws.length < ws.length) = false := by simp
   rw [List.take_length] at hP
   clear hlt hi hm
   go_wp2_with fail
   go_end0
   exact ⟨rfl, hP, hK⟩
abbrev Fl := Bs × Bs
def flC (f : Fl) : List Value := [.string ⟨f.1.toArray⟩, .string ⟨f.2.toArray⟩]
def FlR (w : World) (A : Option Addr) (fs : List Fl) : Prop := Rd w w.heap.size 2 A fs.length (fs.flatMap flC)
theorem FlR.below {w w' : World} {A : Option Addr} {fs : List Fl} (h : FlR w A fs) (hd : Below w.heap.size w w') : FlR w' A fs := (Rd.below h hd).more hd.size
theorem fl_get : ∀ (fs : List Fl) (i : Nat) (h : i < fs.length), (fs.flatMap flC)[i * 2]? = some (.string ⟨fs[i].1.toArray⟩) ∧ (fs.flatMap flC)[i * 2 + 1]? = some (.string ⟨fs[i].2.toArray⟩)
 | [], i, h => absurd h (by simp)
 | f :: fs, 0, _ => ⟨rfl, rfl⟩
 | f :: fs, i + 1, h => by
  have ih := fl_get fs i (by simpa using h)
  have e : (i + 1) * 2 = i * 2 + 1 + 1 := by omega
  rw [e, List.flatMap_cons]
  exact ih
theorem FlR.at_ {w : World} {A : Option Addr} {fs : List Fl} (h : FlR w A fs) {i : Nat} (hi : i < fs.length) : ∃ br o, A = some ⟨br, o, none⟩ ∧ br < w.heap.size ∧ w.cell? ⟨br, o + i * 2, none⟩ = some (.string ⟨fs[i].1.toArray⟩) ∧ w.cell? ⟨br, o + i * 2 + 1, none⟩ = some (.string ⟨fs[i].2.toArray⟩) := by
 obtain ⟨br, o, e, hb, hc⟩ := h.2 (by omega)
 obtain ⟨h1, h2⟩ := fl_get fs i hi
 exact ⟨br, o, e, hb, hc _ _ h1, by rw [Nat.add_assoc]; exact hc _ _ h2⟩
theorem FlR.take {w : World} {A : Option Addr} {fs : List Fl} (h : FlR w A fs) (n : Nat) : FlR w A (fs.take n) := by
 have hl : ∀ l : List Fl, (l.flatMap flC).length = l.length * 2 := fun l => by
  induction l with
  | nil => rfl
  | cons f l ih => rw [List.flatMap_cons, List.length_append, ih, List.length_cons]; show 2 + _ = _; omega
 refine ⟨hl _, fun hn => ?_⟩
 rw [List.length_take] at hn
 obtain ⟨br, o, e, hb, hc⟩ := h.2 (by omega)
 refine ⟨br, o, e, hb, fun j u hu => hc j u ?_⟩
 have : fs.flatMap flC = (fs.take n).flatMap flC ++ (fs.drop n).flatMap flC := by rw [← List.flatMap_append, List.take_append_drop]
 rw [this]
 have hj : j < ((fs.take n).flatMap flC).length := by
  rcases Nat.lt_or_ge j ((fs.take n).flatMap flC).length with h | h
  ·exact h
  ·rw [List.getElem?_eq_none h] at hu; cases hu
 rw [List.getElem?_append_left hj]
 exact hu
set_option maxHeartbeats 4000000 in
set_option maxRecDepth 100000 in
theorem sc_fidx {w : World} {A : Option Addr} {c : Nat} {fs : List Fl} (hr : FlR w A fs) (hl : fs.length ≤ 1000000000) {Fn : Nat} {caps : Array Value} {P : Fl → Bool}
  (hrun : ∀ (args : Array Value) (w : World), (callFunc Fn args).run Tryz.prog w = .ok (.enter Fn args) w)
  (hcl : ∀ (x : Fl) (w' : World), Below w.heap.size w w' → Calls Tryz.prog Fn (#[.agg #[.string ⟨x.1.toArray⟩, .string ⟨x.2.toArray⟩]] ++ caps) w' (TestE (P x) w')) :
  Calls Tryz.prog 163 #[.slice A fs.length c, .func (.func Fn) #[] caps] w (IdxE (Sc.idxV P fs) w) := by
 have Hl := Lib.hid hl
 clear hl
 go_enter Tryz.func163, Tryz.ntmps163
 go_wp2_with fail
 go_loopg [8] fs.length (fun m v wr => ∃ i : Nat, v = .int .i64 (i : Int) ∧ i ≤ fs.length ∧ fs.length - i ≤ m ∧ Hid (∀ j (hj : j < fs.length), j < i → P fs[j] = false) ∧ Below w.heap.size w wr)
 case atStart => exact ⟨0, rfl, Nat.zero_le _, Nat.le_refl _, fun j _ h => absurd h (by omega), Below.refl _ _⟩
 case round =>
  obtain ⟨i, rfl, hi, hm, HB, hd⟩ := hrel
  by_cases hlt : i < fs.length
  ·have ii0 : (0 : Int) ≤ (i : Int) := by omega
   have ii1 : (i : Int) < (fs.length : Int) := by omega
   obtain ⟨br, o, rfl, hbl, hc0, hc1⟩ := hr.at_ hlt
   have q0 := (hd.cell (p := ⟨br, o + i * 2, none⟩) hbl).trans hc0
   have q1 := (hd.cell (p := ⟨br, o + i * 2 + 1, none⟩) hbl).trans hc1
   have hcl := hcl fs[i] wr hd
   have c1 : IntKind.i64.wrap ((i : Int) + 1) = (i : Int) + 1 := IntWalk.i64_in _ (by have := Hl.out; omega)
   have HE : Hid (P fs[i] = true → Sc.idxV P fs = (i : Int)) := fun h => Sc.idx_at hlt h HB.out
   have HN : Hid (P fs[i] = false → ∀ j (hj : j < fs.length), j < i + 1 → P fs[j] = false) := fun h j hj hji => by
    rcases Nat.lt_or_ge j i with h' | h'
    ·exact HB.out j hj h'
    ·obtain rfl : j = i := by omega
     exact h
   have Hlt := Lib.hid hlt
   have Hm := Lib.hid hm
   have hsz := Lib.hid hd.size
   generalize P fs[i] = b at *
   generalize fs[i] = x at *
   generalize Sc.idxV P fs = R at *
   clear hc0 hc1 hbl hlt hm hi HB
   cases b with
   | true =>
    obtain rfl := HE.out rfl
    clear HE HN
    go_wp2_with fail
    refine hcl.mono ?_
    clear hcl q0 q1
    rintro e w1 ⟨rfl, hd1⟩
    go_wp2_with fail
    go_ret
    exact ⟨rfl, hd.trans (hd1.mono hsz.out)⟩
   | false =>
    clear HE
    go_wp2_with fail
    refine hcl.mono ?_
    clear hcl q0 q1
    rintro e w1 ⟨rfl, hd1⟩
    go_wp2_with fail
    go_roundg (fs.length - (i + 1))
    case rel => exact ⟨i + 1, by go_num, by have := Hlt.out; omega, Nat.le_refl _, (by first | exact HN.out trivial | exact HN.out rfl), hd.trans (hd1.mono hsz.out)⟩
    case measure => have := Hlt.out; have := Hm.out; omega
  ·obtain rfl : i = fs.length := by omega
   have i1 : ¬ (fs.length : Int) < (fs.length : Int) := by omega
   have i2 : decide (fs.length < fs.length) = false := by simp
   have HR := Lib.hid (Sc.idx_none fun j hj => HB.out j hj hj)
   clear hlt hi hm HB
   go_wp2_with fail
   go_ret
   rw [HR.out]
   exact ⟨rfl, hd⟩
set_option maxHeartbeats 4000000 in
set_option maxRecDepth 100000 in
theorem sc_fany {w : World} {A : Option Addr} {c : Nat} {fs : List Fl} (hr : FlR w A fs) (hl : fs.length ≤ 1000000000) {Fn : Nat} {caps : Array Value} {P : Fl → Bool}
  (hrun : ∀ (args : Array Value) (w : World), (callFunc Fn args).run Tryz.prog w = .ok (.enter Fn args) w)
  (hcl : ∀ (x : Fl) (w' : World), Below w.heap.size w w' → Calls Tryz.prog Fn (#[.agg #[.string ⟨x.1.toArray⟩, .string ⟨x.2.toArray⟩]] ++ caps) w' (TestE (P x) w')) :
  Calls Tryz.prog 118 #[.slice A fs.length c, .func (.func Fn) #[] caps] w (TestE (fs.any P) w) := by
 have hi := sc_fidx (c := c) hr hl hrun hcl
 have HA := Lib.hid (Sc.idx_any P fs)
 generalize Sc.idxV P fs = i at *
 generalize fs.any P = b at *
 clear hr hl hrun hcl
 go_enter Tryz.func118, Tryz.ntmps118
 go_wp2_with fail
 refine hi.mono ?_
 clear hi
 rintro e w1 ⟨rfl, hd⟩
 go_wp2_with fail
 go_ret
 exact ⟨by rw [← HA.out]; rfl, hd⟩
set_option maxHeartbeats 4000000 in
set_option maxRecDepth 100000 in
theorem sc_file1 {w : World} {x : Fl} {bx ib g : Nat} {y : Sc.Wd} (hb : w.cell? ⟨bx, 0, none⟩ = some (.pointer (some ⟨ib, 0, none⟩))) (hi : w.cell? ⟨ib, 10, none⟩ = some (.pointer (some ⟨g, 0, none⟩))) (hg : w.cell? ⟨g, 0, none⟩ = some (.string ⟨y.text.toArray⟩)) :
  Calls Tryz.prog 218 #[.agg #[.string ⟨x.1.toArray⟩, .string ⟨x.2.toArray⟩], .pointer (some ⟨bx, 0, none⟩)] w (TestE (x.1 == y.text) w) := by
 have hd : Below w.heap.size w (w.alloc (.cells #[.string ⟨x.1.toArray⟩, .string ⟨x.2.toArray⟩] 66)) := (Below.refl _ _).alloc (Nat.le_refl _) _
 have hn := Blk.new w 66 #[.string ⟨x.1.toArray⟩, .string ⟨x.2.toArray⟩]
 have hb1 := (hd.cell (p := ⟨bx, 0, none⟩) (World.block_lt_of_cell? w _ hb)).trans hb
 have hi1 := (hd.cell (p := ⟨ib, 10, none⟩) (World.block_lt_of_cell? w _ hi)).trans hi
 have hg1 := (hd.cell (p := ⟨g, 0, none⟩) (World.block_lt_of_cell? w _ hg)).trans hg
 obtain ⟨r, hr⟩ : ∃ r, r = w.heap.size := ⟨_, rfl⟩
 rw [← hr] at hn
 clear hb hi hg
 go_enter Tryz.func218, Tryz.ntmps218
 go_upto_region 1 with fail
 rw [← hr]
 clear hr
 generalize w.alloc (.cells #[.string ⟨x.1.toArray⟩, .string ⟨x.2.toArray⟩] 66) = w1 at *
 have n0 := hn.cell 0
 simp at n0
 clear hn
 go_quiet (fail)
 go_wp2_with fail
 go_ret
 exact ⟨rfl, below_drewN hd _⟩
def Sc.fileV (names : List Bs) (mo : Option Sc.Wd) : Int := match mo with
 | some m => Sc.idxV (fun n => n == m.text) names
 | none => -1
theorem Sc.idx_map {α β : Type} (g : α → β) (P : β → Bool) (l : List α) : Sc.idxV (fun x => P (g x)) l = Sc.idxV P (l.map g) := by
 unfold Sc.idxV
 rw [List.any_map, List.findIdx_map]
 rfl
set_option maxHeartbeats 4000000 in
set_option maxRecDepth 100000 in
theorem sc_file {w : World} {A : Option Addr} {c : Nat} {fs : List Fl} {pg ib : Nat} {F : Nat → Prop} {mo : Option Sc.Wd} {mv : Value} (hr : FlR w A fs) (hl : fs.length ≤ 1000000000) (hp : w.cell? ⟨pg, 0, none⟩ = some (.slice A fs.length c)) (hi : w.cell? ⟨ib, 10, none⟩ = some mv) (hm : WdF w F mo mv) :
  Calls Tryz.prog 173 #[.pointer (some ⟨pg, 0, none⟩), .pointer (some ⟨ib, 0, none⟩)] w (IdxE (Sc.fileV (fs.map (·.1)) mo) w) := by
 have hd : Below w.heap.size w (w.alloc (.cells #[.pointer (some ⟨ib, 0, none⟩)] 229)) := (Below.refl _ _).alloc (Nat.le_refl _) _
 have hn := Blk.new w 229 #[.pointer (some ⟨ib, 0, none⟩)]
 have hp1 := (hd.cell (p := ⟨pg, 0, none⟩) (World.block_lt_of_cell? w _ hp)).trans hp
 have hi1 := (hd.cell (p := ⟨ib, 10, none⟩) (World.block_lt_of_cell? w _ hi)).trans hi
 have hm1 := hm.below hd
 have hr1 := hr.below hd
 obtain ⟨r, hr0⟩ : ∃ r, r = w.heap.size := ⟨_, rfl⟩
 rw [← hr0] at hn
 have hz := Lib.hid hd.size
 clear hp hi hm hr
 go_enter Tryz.func173, Tryz.ntmps173
 go_upto_region 1 with fail
 rw [← hr0]
 clear hr0
 generalize w.alloc (.cells #[.pointer (some ⟨ib, 0, none⟩)] 229) = w1 at *
 have n0 := hn.cell 0
 simp at n0
 cases mo with
 | none =>
  obtain rfl : mv = .pointer none := hm1
  go_wp2_with fail
  go_ret
  exact ⟨rfl, hd⟩
 | some y =>
  obtain ⟨g, rfl, hF, hB⟩ := hm1
  have hcl := sc_fidx (c := c) hr1 hl (Fn := 218) (caps := #[.pointer (some ⟨r, 0, none⟩)]) (P := fun f => f.1 == y.text) (fun _ _ => by kernel_rfl)
   (fun x w' hd' => sc_file1 (bx := r) (ib := ib) (g := g) ((hd'.cell (p := ⟨r, 0, none⟩) hn.lt).trans n0) ((hd'.cell (p := ⟨ib, 10, none⟩) (World.block_lt_of_cell? w1 _ hi1)).trans hi1) ((hd'.cell (p := ⟨g, 0, none⟩) hB.lt).trans (hB.cell 0)))
  have HV : Sc.fileV (fs.map (·.1)) (some y) = Sc.idxV (fun f : Fl => f.1 == y.text) fs := (Sc.idx_map (fun x : Fl => x.1) (fun n => n == y.text) fs).symm
  have HV := Lib.hid HV
  clear hn hB
  go_wp2_with fail
  refine hcl.mono ?_
  clear hcl n0 hi1 hp1
  rintro e w2 ⟨rfl, hd2⟩
  go_wp2_with fail
  go_ret
  exact ⟨by rw [HV.out]; rfl, hd.trans (hd2.mono hz.out)⟩
section
variable {σ : Type} (x : Sc.It) (st : Sc.Env → Tr.PT → σ → σ)
mutual
def walkS (e : Sc.Env) : Tr.PT → σ → σ
 | .leaf k t a, s => st e (.leaf k t a) s
 | .gap t a d, s => st e (.gap t a d) s
 | .branch k a l, s => walksS (Sc.env1 x e (.branch k a l)) (Sc.env2 x e (.branch k a l)) l (if k = 12 then s else st e (.branch k a l) s)
def walksS (e1 e2 : Sc.Env) : List Tr.PT → σ → σ
 | [], s => s
 | p :: l, s => if Sc.isExpr p || Sc.kindOf p == 12 then walksS e2 e2 l (walkS e1 p s) else walksS e1 e2 l s
end
def goS (e1 e2 : Sc.Env) : List Tr.PT → σ → σ
 | [], s => s
 | p :: l, s => goS e2 e2 l (walkS x st e1 p s)
theorem walks_go : ∀ (l : List Tr.PT) (e1 e2 : Sc.Env) (s : σ), (∀ p ∈ l, Sc.kindOf p ≠ 12) → walksS x st e1 e2 l s = goS x st e1 e2 (Sc.exprsL l) s
 | [], _, _, _, _ => by unfold walksS Sc.exprsL; rfl
 | p :: l, e1, e2, s, h => by
  have h12 : (Sc.kindOf p == 12) = false := by simpa using h p (by simp)
  unfold walksS
  unfold Sc.exprsL
  rw [h12, Bool.or_false, List.filter_cons]
  split
  ·have := walks_go l e2 e2 (walkS x st e1 p s) fun q hq => h q (List.mem_cons_of_mem _ hq)
   rw [this]
   rfl
  ·exact walks_go l e1 e2 s fun q hq => h q (List.mem_cons_of_mem _ hq)
theorem go_take (e1 e2 : Sc.Env) : ∀ (l : List Tr.PT) (i : Nat) (h : i < l.length) (s : σ), goS x st e1 e2 (l.take (i + 1)) s = walkS x st (if i = 0 then e1 else e2) l[i] (goS x st e1 e2 (l.take i) s)
 | [], i, h, _ => absurd h (by simp)
 | p :: l, 0, _, s => rfl
 | p :: l, i + 1, h, s => by
  have ih := go_take e2 e2 l i (by simpa using h) (walkS x st e1 p s)
  rw [ite_self] at ih
  rw [if_neg (by omega)]
  exact ih
theorem walk_call (e : Sc.Env) (a a2 : Nat) (c : Tr.PT) (m : List Tr.PT) (s : σ) (hc : Sc.isExpr c = true) (hm : ∀ p ∈ m, Sc.kindOf p ≠ 12) :
  walkS x st e (.branch 11 a [c, .branch 12 a2 m]) s = goS x st e e (c :: Sc.exprsL m) (st e (.branch 11 a [c, .branch 12 a2 m]) s) := by
 have e11 : Sc.env1 x e (.branch 11 a [c, .branch 12 a2 m]) = e := rfl
 have e12 : Sc.env2 x e (.branch 11 a [c, .branch 12 a2 m]) = e := rfl
 have e21 : Sc.env1 x e (.branch 12 a2 m) = e := rfl
 have e22 : Sc.env2 x e (.branch 12 a2 m) = e := rfl
 unfold walkS
 rw [e11, e12, if_neg (by omega)]
 unfold walksS
 rw [hc, Bool.true_or, if_pos rfl]
 unfold walksS
 rw [if_pos (by simp [Sc.kindOf])]
 have e3 : walksS x st e e [] = fun s : σ => s := by funext s; unfold walksS; rfl
 rw [e3]
 dsimp only
 conv => lhs; unfold walkS
 rw [e21, e22, if_pos rfl, walks_go x st m e e _ hm]
 rfl
theorem walk_br (e : Sc.Env) (k a : Nat) (l : List Tr.PT) (s : σ) (hk : k ≠ 12) (hl : ∀ p ∈ l, Sc.kindOf p ≠ 12) :
  walkS x st e (.branch k a l) s = goS x st (Sc.env1 x e (.branch k a l)) (Sc.env2 x e (.branch k a l)) (Sc.exprsL l) (st e (.branch k a l) s) := by
 unfold walkS
 rw [if_neg hk, walks_go x st l _ _ _ hl]
end
structure VisE {σ : Type} (Fn : Nat) (caps : Array Value) (w0 : World) (F : Nat → Prop) (T : List TypeId) (x : Sc.It) (ib : Nat) (Q : Tr.PT → Prop) (G : σ → Prop) (st : Sc.Env → Tr.PT → σ → σ) (I : σ → World → Prop) : Prop where
 run : ∀ (args : Array Value) (w : World), (callFunc Fn args).run Tryz.prog w = .ok (.enter Fn args) w
 keep : ∀ s w, I s w → w0.heap.size ≤ w.heap.size ∧ ∀ b, F b → b < w0.heap.size → w.heap[b]? = w0.heap[b]?
 fok : ∀ b, F b → b < w0.heap.size
 below : ∀ s w w', I s w → Below w.heap.size w w' → I s w'
 base : ∀ s w, I s w → ∃ cs, Blk w ib 234 cs ∧ cs[1]? = some (.int .i64 (x.base : Int))
 types : 359 ∉ T ∧ 333 ∉ T ∧ 122 ∉ T
 call : ∀ (e : Sc.Env) (p : Tr.PT) (pv : Value) (ep : Option Addr) (up : Value) (vb : Nat) (s : σ) (w : World), Q p → PtF w F p pv → EnvF w (fun _ => True) e ep → Blk w vb 333 #[pv, .pointer ep, up] → I s w → G (st e p s) →
  Calls Tryz.prog Fn (#[.pointer (some ⟨vb, 0, none⟩)] ++ caps) w fun e' w' => e' = .returned (.tuple #[]) ∧ I (st e p s) w' ∧ KeepC T w w'
 back : ∀ e p s, G (st e p s) → G s
 sub : ∀ k a l, Q (.branch k a l) → l.length ≤ 1000000000 ∧ (∀ p ∈ l, Sc.isExpr p = true → Q p) ∧ (k = 11 → ∀ k2 a2 m, .branch k2 a2 m ∈ l → m.length ≤ 1000000000 ∧ ∀ p ∈ m, Sc.isExpr p = true → Q p)
section
variable {σ : Type} {Fn : Nat} {caps : Array Value} {w0 : World} {F : Nat → Prop} {T : List TypeId} {x : Sc.It} {ib : Nat} {Q : Tr.PT → Prop} {G : σ → Prop} {st : Sc.Env → Tr.PT → σ → σ} {I : σ → World → Prop}
mutual
theorem walkS_back {G : σ → Prop} {st : Sc.Env → Tr.PT → σ → σ} (hb : ∀ e p s, G (st e p s) → G s) : ∀ (p : Tr.PT) (e : Sc.Env) (s : σ), G (walkS x st e p s) → G (if Sc.kindOf p = 12 then s else st e p s)
 | .leaf k t a, e, s, h => by unfold walkS at h; exact h
 | .gap t a d, e, s, h => by unfold walkS at h; exact h
 | .branch k a l, e, s, h => by unfold walkS at h; exact walksS_back hb l _ _ _ h
theorem walksS_back {G : σ → Prop} {st : Sc.Env → Tr.PT → σ → σ} (hb : ∀ e p s, G (st e p s) → G s) : ∀ (l : List Tr.PT) (e1 e2 : Sc.Env) (s : σ), G (walksS x st e1 e2 l s) → G s
 | [], _, _, s, h => by unfold walksS at h; exact h
 | p :: l, e1, e2, s, h => by
  unfold walksS at h
  split at h
  ·have h1 := walkS_back hb p e1 s (walksS_back hb l _ _ _ h)
   split at h1
   ·exact h1
   ·exact hb _ _ _ h1
  ·exact walksS_back hb l _ _ _ h
end
theorem goS_back {G : σ → Prop} {st : Sc.Env → Tr.PT → σ → σ} (hb : ∀ e p s, G (st e p s) → G s) : ∀ (l : List Tr.PT) (e1 e2 : Sc.Env) (s : σ), G (goS x st e1 e2 l s) → G s
 | [], _, _, s, h => h
 | p :: l, e1, e2, s, h => by
  have h1 := walkS_back hb p e1 s (goS_back hb l _ _ _ h)
  split at h1
  ·exact h1
  ·exact hb _ _ _ h1
theorem goS_app (e1 e2 : Sc.Env) : ∀ (l m : List Tr.PT) (s : σ), l ≠ [] → goS x st e1 e2 (l ++ m) s = goS x st e2 e2 m (goS x st e1 e2 l s)
 | [], _, _, h => absurd rfl h
 | [p], m, s, _ => rfl
 | p :: q :: l, m, s, _ => by
  have := goS_app e2 e2 (q :: l) m (walkS x st e1 p s) (by simp)
  exact this
theorem goS_part {G : σ → Prop} (hb : ∀ e p s, G (st e p s) → G s) {e1 e2 : Sc.Env} {l : List Tr.PT} {s : σ} (h : G (goS x st e1 e2 l s)) (i : Nat) (hi : i < l.length) : G (walkS x st (if i = 0 then e1 else e2) l[i] (goS x st e1 e2 (l.take i) s)) := by
 rw [← go_take]
 have e : l = l.take (i + 1) ++ l.drop (i + 1) := (List.take_append_drop _ _).symm
 rw [e, goS_app] at h
 ·exact goS_back hb _ _ _ _ h
 ·intro h0
  have := congrArg List.length h0
  rw [List.length_take, List.length_nil] at this
  omega
end
end Go.Proofs.YtcjjfeephaddcaaGreatDoor
namespace Go.Proofs.YtcjjfeephaddcaaGreatDoor.Sc
open Tr (PT)
mutual
def leavesP (b : Nat) : PT → List Nat
 | .leaf _ _ a => [b + a]
 | .gap _ _ _ => []
 | .branch _ _ l => leavesL b l
def leavesL (b : Nat) : List PT → List Nat
 | [] => []
 | p :: l => leavesP b p ++ leavesL b l
end
theorem leaves_app (b : Nat) (l m : List PT) : leavesL b (l ++ m) = leavesL b l ++ leavesL b m := by
 induction l with
 | nil => rfl
 | cons p l ih => simp only [List.cons_append, leavesL, ih, List.append_assoc]
theorem leaves_kids (b : Nat) {p : PT} (h : isBr p = true) : leavesP b p = leavesL b (kidsOf p) := by
 cases p with
 | branch k a l => unfold leavesP; rfl
 | leaf k t a => cases h
 | gap t a d => cases h
def Up (l : List Nat) : Prop := l.Pairwise (· < ·)
mutual
theorem leaves_up (b : Nat) : ∀ (p : PT) (a : Nat), Tr.okP b p a → shP p → Up (leavesP b p) ∧ ∀ x ∈ leavesP b p, a ≤ x ∧ x < a + Tr.wideP p
 | .leaf k t x, a, h, hs => by
  unfold Tr.okP at h
  unfold shP at hs
  unfold leavesP Tr.wideP
  have := List.length_pos_iff.2 hs
  exact ⟨List.pairwise_singleton _ _, fun y hy => by rw [List.mem_singleton] at hy; omega⟩
 | .gap t x d, a, h, hs => by
  unfold leavesP
  exact ⟨List.Pairwise.nil, fun y hy => absurd hy (by simp)⟩
 | .branch k x l, a, h, hs => by
  unfold Tr.okP at h
  unfold shP at hs
  unfold leavesP Tr.wideP
  exact leavess_up b l a h.2.1 hs.2
theorem leavess_up (b : Nat) : ∀ (l : List PT) (a : Nat), Tr.oksP b l a → shsP l → Up (leavesL b l) ∧ ∀ x ∈ leavesL b l, a ≤ x ∧ x < a + Tr.widesP l
 | [], a, _, _ => by unfold leavesL; exact ⟨List.Pairwise.nil, fun y hy => absurd hy (by simp)⟩
 | p :: l, a, h, hs => by
  unfold Tr.oksP at h
  unfold shsP at hs
  unfold leavesL Tr.widesP
  obtain ⟨h1, h2⟩ := leaves_up b p a h.1 hs.1
  rw [Tr.put_end] at h
  obtain ⟨h3, h4⟩ := leavess_up b l _ h.2 hs.2
  refine ⟨List.pairwise_append.2 ⟨h1, h3, fun x hx y hy => ?_⟩, fun x hx => ?_⟩
  ·have := h2 x hx; have := h4 y hy; omega
  ·rcases List.mem_append.1 hx with hx | hx
   ·have := h2 x hx; omega
   ·have := h4 x hx; omega
end
def places (l : List Us) : List Nat := l.map (·.at_)
theorem places_app (l m : List Us) : places (l ++ m) = places l ++ places m := List.map_append
theorem places_opt (o : Option Wd) (f : Wd → Us) (hf : ∀ w, (f w).at_ = w.at_) : places (o.toList.map f) = o.toList.map (·.at_) := by
 cases o with
 | none => rfl
 | some w => simp [places, hf]
theorem sense_split {l : List PT} {x : PT} {r : List PT} (h : senseL l = x :: r) : ∃ l1 l2, l = l1 ++ x :: l2 ∧ (∀ p ∈ l1, blankL p = true) ∧ senseL l2 = r := by
 unfold senseL at h
 obtain ⟨l1, l2, e, h1, _, h2⟩ := List.filter_eq_cons_iff.1 h
 exact ⟨l1, l2, e, fun p hp => by simpa using h1 p hp, h2⟩
theorem blank_plain {p : PT} (h : blankL p = true) : isNode p = false := by
 cases p with
 | leaf k t a => rfl
 | gap t a d => cases h
 | branch k a l => cases h
section
variable (W : Wk) (x : It)
theorem walks_skip (e1 e2 : Env) : ∀ (l1 l2 : List PT), (∀ p ∈ l1, isNode p = false) → walksM W x e1 e2 (l1 ++ l2) = walksM W x e1 e2 l2
 | [], _, _ => rfl
 | p :: l1, l2, h => by
  have hp := h p (by simp)
  unfold isNode at hp
  rw [List.cons_append]
  conv => lhs; unfold walksM
  rw [if_neg (by rw [hp]; simp)]
  exact walks_skip e1 e2 l1 l2 fun q hq => h q (List.mem_cons_of_mem _ hq)
theorem walks_cons (e1 e2 : Env) (p : PT) (l : List PT) (h : isNode p = false) : walksM W x e1 e2 (p :: l) = walksM W x e1 e2 l := walks_skip W x e1 e2 [p] l fun q hq => by rw [List.mem_singleton] at hq; rw [hq]; exact h
theorem walks_sub_of : ∀ (l : List PT) (e1 e2 : Env), (∀ p ∈ l, ∀ e, (places (walkM W x e p)).Sublist (leavesP x.base p)) → (places (walksM W x e1 e2 l)).Sublist (leavesL x.base l)
 | [], _, _, _ => by unfold walksM leavesL; exact List.Sublist.slnil
 | p :: l, e1, e2, h => by
  unfold walksM leavesL
  split
  ·rw [places_app]
   exact (h p (by simp) e1).append (walks_sub_of l e2 e2 fun q hq => h q (List.mem_cons_of_mem _ hq))
  ·exact (walks_sub_of l e1 e2 fun q hq => h q (List.mem_cons_of_mem _ hq)).trans (List.sublist_append_right _ _)
theorem params_places (f : Nat) : ∀ (l ahead : List (Option Wd)), places (paramsM f ahead l) = l.filterMap fun w => w.map (·.at_)
 | [], _ => rfl
 | none :: l, ahead => by
  unfold paramsM
  rw [params_places f l]
  rfl
 | some w :: l, ahead => by
  unfold paramsM
  have := params_places f l (ahead ++ [some w])
  simp only [places, List.map_cons] at this ⊢
  rw [this]
  rfl
theorem names_sub (b : Nat) : ∀ l : List PT, (((l.filterMap nameL).map fun x => x.map fun y : List UInt8 × Nat => (⟨y.1, b + y.2⟩ : Wd)).filterMap fun w => w.map (·.at_)).Sublist (leavesL b l)
 | [] => by unfold leavesL; exact List.Sublist.slnil
 | p :: l => by
  have ih := names_sub b l
  unfold leavesL
  cases p with
  | leaf k t a =>
   by_cases hk : k = 3
   ·simp only [List.filterMap_cons, nameL, hk, if_true, List.map_cons, Option.map_some, leavesP, List.singleton_append]
    exact ih.cons_cons _
   ·simp only [List.filterMap_cons, nameL, hk, if_false, leavesP, List.singleton_append]
    exact ih.cons _
  | gap t a d =>
   by_cases ht : t = Tr.sName
   ·simp only [List.filterMap_cons, nameL, ht, if_true, List.map_cons, Option.map_none, leavesP, List.nil_append]
    exact ih
   ·simp only [List.filterMap_cons, nameL, ht, if_false, leavesP, List.nil_append]
    exact ih
  | branch k a m =>
   simp only [List.filterMap_cons, nameL]
   exact ih.trans (List.sublist_append_right _ _)
theorem words_sub (f b : Nat) (ahead : List (Option Wd)) (p : PT) (h : isBr p = true) : (places (paramsM f ahead (wordsOf b p))).Sublist (leavesP b p) := by
 rw [params_places, leaves_kids b h]
 exact names_sub b (kidsOf p)
theorem word_sub (b : Nat) (p : PT) : ((wordOf b p).toList.map (·.at_)).Sublist (leavesP b p) := by
 cases p with
 | leaf k t a => exact List.Sublist.refl _
 | gap t a d => exact List.Sublist.slnil
 | branch k a l => exact List.nil_sublist _
mutual
theorem walk_sub : ∀ (p : PT) (_ : shP p) (e : Env), (places (walkM W x e p)).Sublist (leavesP x.base p)
 | .leaf _ _ _, _, _ => by unfold walkM; exact List.nil_sublist _
 | .gap _ _ _, _, _ => by unfold walkM; exact List.nil_sublist _
 | .branch k a l, hs, e => by
  unfold shP at hs
  obtain ⟨⟨h7, h9, h18, _, _⟩, hl⟩ := hs
  have IH := walk_subs l hl
  unfold walkM
  rw [places_app]
  generalize he1 : env1 x e (.branch k a l) = e1
  generalize he2 : env2 x e (.branch k a l) = e2
  clear he1 he2
  have ek : kindOf (.branch k a l) = k := rfl
  have es : senseP (.branch k a l) = senseL l := rfl
  unfold visitM leavesP
  rw [ek, es]
  by_cases h : k = 7
  ·obtain ⟨⟨x0, x1, r, e0, n0, n1, _⟩, _⟩ := h7 h
   obtain ⟨l1, l2, rfl, b1, s2⟩ := sense_split e0
   obtain ⟨l3, l4, rfl, b3, _⟩ := sense_split s2
   rw [if_pos h, walks_skip W x _ _ _ _ fun p hp => blank_plain (b1 p hp), walks_cons W x _ _ _ _ n0, walks_skip W x _ _ _ _ fun p hp => blank_plain (b3 p hp), walks_cons W x _ _ _ _ n1]
   have hw := walks_sub_of W x l4 e1 e2 fun p hp => IH p (by simp [hp])
   have hx : atP (senseL (l1 ++ x0 :: (l3 ++ x1 :: l4))) 1 = x1 := by rw [e0]; rfl
   unfold letM
   rw [es, hx]
   have hv := word_sub x.base x1
   rw [places_opt _ _ fun w => rfl]
   simp only [leaves_app, leavesL]
   exact ((hv.append hw).trans (List.sublist_append_right _ _)).trans ((List.sublist_append_right _ _).trans (List.sublist_append_right _ _))
  rw [if_neg h]
  by_cases h : k = 9
  ·obtain ⟨x0, x1, r, e0, n0, hb1, k1⟩ := h9 h
   obtain ⟨l1, l2, rfl, b1, s2⟩ := sense_split e0
   obtain ⟨l3, l4, rfl, b3, _⟩ := sense_split s2
   have n1 : isNode x1 = false := by
    cases x1 with
    | branch k2 a2 m2 => have : k2 = 6 := k1; subst this; rfl
    | leaf _ _ _ => cases hb1
    | gap _ _ _ => cases hb1
   rw [if_pos h, walks_skip W x _ _ _ _ fun p hp => blank_plain (b1 p hp), walks_cons W x _ _ _ _ n0, walks_skip W x _ _ _ _ fun p hp => blank_plain (b3 p hp), walks_cons W x _ _ _ _ n1]
   have hw := walks_sub_of W x l4 e1 e2 fun p hp => IH p (by simp [hp])
   have hx : atP (senseL (l1 ++ x0 :: (l3 ++ x1 :: l4))) 1 = x1 := by rw [e0]; rfl
   rw [hx]
   have hv := words_sub x.file x.base [] x1 hb1
   simp only [leaves_app, leavesL]
   exact ((hv.append hw).trans (List.sublist_append_right _ _)).trans ((List.sublist_append_right _ _).trans (List.sublist_append_right _ _))
  rw [if_neg h]
  by_cases h : k = 18
  ·obtain ⟨x0, e0, hl0⟩ := h18 h
   obtain ⟨l1, l2, rfl, b1, s2⟩ := sense_split e0
   have n0 : isNode x0 = false := by cases x0 <;> first | rfl | cases hl0
   have b2 : ∀ p ∈ l2, isNode p = false := fun p hp => by
    unfold senseL at s2
    rw [List.filter_eq_nil_iff] at s2
    exact blank_plain (by simpa using s2 p hp)
   have hw := walks_skip W x e1 e2 l2 [] b2
   rw [List.append_nil] at hw
   rw [if_pos h, walks_skip W x _ _ _ _ fun p hp => blank_plain (b1 p hp), walks_cons W x _ _ _ _ n0, hw]
   have hx : atP (senseL (l1 ++ x0 :: l2)) 0 = x0 := by rw [e0]; rfl
   rw [hx]
   have hv : places [varM W x e (leafOf x0).1 (leafOf x0).2] = leavesP x.base x0 := by
    cases x0 with
    | leaf k t a =>
     have : (varM W x e t a).at_ = x.base + a := by
      unfold varM varF nothingM
      repeat' split
      all_goals rfl
     simp only [places, leafOf, List.map_cons, List.map_nil, leavesP, this]
    | gap t a d => cases hl0
    | branch k a l => cases hl0
   have h0 : walksM W x e1 e2 [] = [] := by unfold walksM; rfl
   rw [hv, h0]
   simp only [leaves_app, leavesL, places, List.map_nil, List.append_nil]
   exact (List.sublist_append_left _ _).trans (List.sublist_append_right _ _)
  rw [if_neg h]
  exact walks_sub_of W x l e1 e2 IH
theorem walk_subs : ∀ (l : List PT) (_ : shsP l), ∀ p ∈ l, ∀ e, (places (walkM W x e p)).Sublist (leavesP x.base p)
 | [], _, p, hp => absurd hp (by simp)
 | q :: l, hs, p, hp => by
  unfold shsP at hs
  rcases List.mem_cons.1 hp with he | hp
  ·rw [he]; exact walk_sub q hs.1
  ·exact walk_subs l hs.2 p hp
end
end
theorem sense_sub (b : Nat) : ∀ l : List PT, (leavesL b (senseL l)).Sublist (leavesL b l)
 | [] => List.Sublist.slnil
 | p :: l => by
  have ih := sense_sub b l
  unfold senseL at ih ⊢
  rw [List.filter_cons]
  split
  ·simp only [leavesL]; exact (List.Sublist.refl _).append ih
  ·simp only [leavesL]; exact ih.trans (List.sublist_append_right _ _)
theorem body_sub (b : Nat) {p : PT} (h : isBr p = true) : (leavesL b (bodyOf p)).Sublist (leavesP b p) := by
 rw [leaves_kids b h]
 refine List.Sublist.trans ?_ (sense_sub b (kidsOf p))
 unfold bodyOf senseP
 split
 ·cases senseL (kidsOf p) with
  | nil => exact List.Sublist.refl _
  | cons q l => simp only [List.drop_succ_cons, List.drop_zero, leavesL]; exact List.sublist_append_right _ _
 ·exact List.Sublist.refl _
theorem item_sub (W : Wk) (g n : Nat) (k : Tr.Kd) (h : ItX k.part) (file : Nat) : (places (itemUses W g n (itemM file k))).Sublist (leavesP k.base k.part) := by
 refine List.Sublist.trans ?_ (body_sub k.base h.br)
 unfold itemUses
 rcases h.ways with ⟨hk, hu⟩ | ⟨hk, hd⟩
 ·have e0 : (itemM file k).isDef = false := by simp [itemM, hk]
  rw [e0, if_neg (by simp)]
  obtain ⟨x0, x1, x2, x3, r, e, _, _, hr⟩ := hu.ex
  have e1 : (itemM file k).mo = wordOf k.base x1 := by simp [itemM, hk, e, atP]
  have e3 : (itemM file k).me = wordOf k.base x3 := by simp [itemM, hk, e, atP]
  unfold useM
  have w1 := word_sub k.base x1
  have w3 := word_sub k.base x3
  rw [places_app, places_app, places_opt _ _ (fun w => by unfold modM; split <;> rfl), places_opt _ _ (fun w => rfl), places_opt _ _ (fun w => rfl), e1, e3, e]
  rcases hr with ⟨x4, rfl, n4⟩ | ⟨x4, x5, x6, rfl, y4, _⟩
  ·have e5 : (itemM file k).al = none := by simp [itemM, hk, e, atP, n4]
   rw [e5]
   simp only [leavesL, Option.toList_none, List.map_nil, List.append_nil]
   exact List.Sublist.trans (w1.append ((w3.trans (List.sublist_append_left _ _)).trans (List.sublist_append_right _ _))) (List.sublist_append_right _ _)
  ·have e5 : (itemM file k).al = wordOf k.base x5 := by simp [itemM, hk, e, atP, y4]
   have w5 := word_sub k.base x5
   rw [e5, List.append_assoc]
   simp only [leavesL, List.append_nil]
   refine List.Sublist.trans (w1.append (List.Sublist.trans (w3.append ?_) (List.sublist_append_right _ _))) (List.sublist_append_right _ _)
   exact (w5.trans (List.sublist_append_left _ _)).trans (List.sublist_append_right _ _)
 ·have e0 : (itemM file k).isDef = true := by simp [itemM, hk]
  rw [e0, if_pos rfl]
  obtain ⟨x0, x1, r, e, _, hr⟩ := hd.ex
  have e1 : (itemM file k).name = wordOf k.base x1 := by simp [itemM, hk, e, atP]
  have w1 := word_sub k.base x1
  have eb : (itemM file k).base = k.base := rfl
  unfold defM
  rw [places_app, places_app, places_opt _ _ (fun w => rfl), e1, e, List.append_assoc]
  rcases hr with ⟨x3, q, x5, rfl, n3, sq, _⟩ | ⟨p, x3, q, x5, rfl, hb, hk6, sq, _⟩
  ·have e2 : (itemM file k).params = [] := by simp [itemM, hk, e, atP, isPar, n3]
   have e3 : (itemM file k).expr = q := by simp [itemM, hk, e, atP, isPar, n3]
   have hw := walk_sub W (itemM file k) q sq (innerM (itemM file k).params [])
   rw [eb] at hw
   rw [e3]
   rw [e2] at hw ⊢
   have : places (paramsM (itemM file k).file [] []) = [] := rfl
   rw [this, List.nil_append]
   simp only [leavesL, List.append_nil]
   refine List.Sublist.trans (w1.append (List.Sublist.trans ?_ (List.sublist_append_right _ _))) (List.sublist_append_right _ _)
   exact hw.trans (List.sublist_append_left _ _)
  ·have e2 : (itemM file k).params = wordsOf k.base p := by simp [itemM, hk, e, atP, isPar, hb, hk6]
   have e3 : (itemM file k).expr = q := by simp [itemM, hk, e, atP, isPar, hb, hk6]
   have hw := walk_sub W (itemM file k) q sq (innerM (itemM file k).params [])
   rw [eb] at hw
   have hpp := words_sub (itemM file k).file k.base [] p hb
   rw [e3]
   rw [e2] at hw ⊢
   simp only [leavesL, List.append_nil]
   refine List.Sublist.trans (w1.append (hpp.append (List.Sublist.trans ?_ (List.sublist_append_right _ _)))) (List.sublist_append_right _ _)
   exact hw.trans (List.sublist_append_left _ _)
theorem kids_up {s : List UInt8} {T : List (Nat × Nat × Nat)} (hS : Tr.Side s T) (hT : ∀ t ∈ T, Tr.subT s t ≠ []) : ∀ (f i : Nat), i ≤ T.length →
  Up ((((Tr.kidsP s T f i).1.filter isItem).map fun k => leavesP k.base k.part).flatten) ∧ ∀ x ∈ (((Tr.kidsP s T f i).1.filter isItem).map fun k => leavesP k.base k.part).flatten, Tr.absP s T i ≤ x
 | 0, i, _ => by unfold Tr.kidsP; exact ⟨List.Pairwise.nil, fun x hx => absurd hx (by simp)⟩
 | f + 1, i, hi => by
  rw [Tr.kids_succ]
  split
  ·rename_i hn
   have h1 := Tr.kid_okd hS i hi hn
   obtain ⟨a1, a2, a3, a4⟩ := Tr.oneP_text ((Tr.kid_fine hS).at_ hi)
   obtain ⟨u1, u2⟩ := kids_up hS hT f (Tr.kidP s T i).2 a4
   have h3 := Tr.wide_text (Tr.kidP s T i).1
   rw [a1, Tr.sl_len hS.good a3] at h3
   have h4 := hS.good.up i _ a3
   dsimp only
   rw [List.filter_cons]
   split
   ·rename_i hit
    have hx := kids_shape hT (f + 1) i (Tr.kdP s T i) (by rw [Tr.kids_succ, if_pos hn]; simp) hit
    have hsh : shP (Tr.kdP s T i).part ∨ True := .inr trivial
    have hb := hx.br
    have hl : Up (leavesP (Tr.kdP s T i).base (Tr.kdP s T i).part) ∧ ∀ x ∈ leavesP (Tr.kdP s T i).base (Tr.kdP s T i).part, Tr.absP s T i ≤ x ∧ x < Tr.absP s T i + Tr.wideP (Tr.kidP s T i).1 := by
     have e1 : (Tr.kdP s T i).part = (Tr.kidP s T i).1 := rfl
     have e2 : (Tr.kdP s T i).base = Tr.absP s T i := rfl
     have hk := hx.kids
     rw [e1] at hb hk ⊢
     rw [e2]
     generalize (Tr.kidP s T i).1 = p at *
     cases p with
     | leaf _ _ _ => cases hb
     | gap _ _ _ => cases hb
     | branch k a l =>
      unfold Tr.okP at h1
      unfold leavesP Tr.wideP
      exact leavess_up _ l _ h1.2.1 hk.shs
    clear hsh
    rw [List.map_cons, List.flatten_cons]
    refine ⟨List.pairwise_append.2 ⟨hl.1, u1, fun x hx y hy => ?_⟩, fun x hx => ?_⟩
    ·have := hl.2 x hx; have := u2 y hy; omega
    ·rcases List.mem_append.1 hx with hx | hx
     ·exact (hl.2 x hx).1
     ·have := u2 x hx; omega
   ·exact ⟨u1, fun x hx => by have := u2 x hx; omega⟩
  ·exact ⟨List.Pairwise.nil, fun x hx => absurd hx (by simp)⟩
end Go.Proofs.YtcjjfeephaddcaaGreatDoor.Sc
