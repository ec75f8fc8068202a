/-
  JOINED of the texts EM OpenT OpenF LaidW LaidL
-/
import Derived.Test.YtcjjfeephaddcaaGreatDoorJat
import Derived.ProofKit
import Derived.OpenShut
import Derived.JoinedCond
import Derived.Deep.Slices
import Derived.Deep.Fields
import Derived.ChangeSame
import Derived.SliceStrings
import Derived.PinnedBridge
import Derived.Lib.LaidU8
import Derived.Lib.LaidIn
import Derived.RowKitTokens
import Derived.LaidLaws
import Derived.Stop.Joined
import Derived.Stop.LaidErr
import Derived.Shelf.Vars
namespace Go.Proofs.YtcjjfeephaddcaaGreatDoor
open Go.RowKit Go.Maps
def liveT : Bs := [100, 101, 102, 32, 120, 32, 61, 32, 49, 59]
set_option maxRecDepth 100000 in
theorem live_uses : (Sc.usesM (Sc.wkM [([97], liveT)])).map (fun u => (u.file, u.at_, u.as_, u.toFile, u.to_, u.err)) = [(0, 4, 0, 0, 4, 0)] := by decide
set_option maxRecDepth 100000 in
theorem live_fault : Sc.faultM [([97], liveT)] = 0 := by decide
set_option maxHeartbeats 4000000 in
set_option maxRecDepth 100000 in
theorem lives0_walk {w : World} {m : Int} (hM : MaxL w m) (hT : T8 w) (hW : WordsIs w) : Calls Tryz.prog 10 #[] w fun e w' => e = .returned (.bool true) ∧ Below w.heap.size w w' := by
 have hd : Below w.heap.size w (w.alloc (.cells #[.string ⟨#[97]⟩, .string ⟨liveT.toArray⟩] 66)) := (Below.refl _ _).alloc (Nat.le_refl _) _
 have hn := Blk.new w 66 #[.string ⟨#[97]⟩, .string ⟨liveT.toArray⟩]
 obtain ⟨b, hb⟩ : ∃ b, b = w.heap.size := ⟨_, rfl⟩
 rw [← hb] at hn
 have hrs := fun (w1 : World) (h1 : FlR w1 (some ⟨b, 0, none⟩) [([97], liveT)]) (hd1 : Below w.heap.size w w1) => sc_resolve (c := 1) h1 (hM.below hd1 hM.lt) (hT.below hd1) (hW.below hd1) (by intro f hf; rw [List.mem_singleton] at hf; subst hf; simp) (by simp)
 rw [live_fault] at hrs
 have hu := live_uses
 generalize Sc.usesM (Sc.wkM [([97], liveT)]) = us at *
 have hl : us.length = 1 := by have := congrArg List.length hu; simpa using this
 obtain ⟨u, rfl⟩ : ∃ u, us = [u] := by
  match us, hl with
  | [u], _ => exact ⟨u, rfl⟩
 simp at hu
 clear hl hM hT hW
 have Hu := Lib.hid hu
 clear hu
 unfold liveT at *
 go_enter Tryz.func10, Tryz.ntmps10
 go_wp2_with fail
 rw [← hb]
 have hfr : FlR (w.alloc (.cells #[.string ⟨#[97]⟩, .string ⟨#[100, 101, 102, 32, 120, 32, 61, 32, 49, 59]⟩] 66)) (some ⟨b, 0, none⟩) [([97], [100, 101, 102, 32, 120, 32, 61, 32, 49, 59])] := by
  refine ⟨by simp [flC], fun _ => ⟨b, 0, rfl, hn.lt, fun j v hj => ?_⟩⟩
  match j, hj with
  | 0, hj => have := hn.cell 0; simp [flC] at hj; simpa [← hj] using this
  | 1, hj => have := hn.cell 1; simp [flC] at hj; simpa [← hj] using this
  | j + 2, hj => simp [flC] at hj
 have hr := hrs _ hfr hd
 clear hrs hfr hn
 clear hb
 generalize w.alloc (.cells #[.string ⟨#[97]⟩, .string ⟨#[100, 101, 102, 32, 120, 32, 61, 32, 49, 59]⟩] 66) = w1 at *
 refine hr.mono ?_
 clear hr
 rintro e2 w2 ⟨hd2, _, h0⟩
 obtain ⟨A, rfl, hR⟩ := h0 rfl
 clear h0
 obtain ⟨br, o, rfl, hbl, hc⟩ := hR.at_ (i := 0) (by simp)
 have c4 := hc 4 (.int .i64 u.to_) rfl
 have hto : u.to_ = 4 := Hu.out.2.2.2.2.1
 rw [hto] at c4
 simp only [List.length_singleton, Nat.zero_mul, Nat.add_zero] at c4 ⊢
 clear hR hc hto
 go_wp2_with fail
 go_ret
 exact ⟨rfl, hd.trans (hd2.mono hd.size)⟩
theorem Sc.atM_take (U : List Sc.Us) (f a : Int) (k : Nat) (h : k < U.length) : Sc.atM (U.take (k + 1)) f a = if (U[k].file : Int) = f ∧ (U[k].at_ : Int) = a then Sc.atM (U.take k) f a ++ [U[k]] else Sc.atM (U.take k) f a := by
 unfold Sc.atM
 rw [List.take_succ_eq_append_getElem h, List.filter_append]
 by_cases hc : (U[k].file : Int) = f ∧ (U[k].at_ : Int) = a
 ·rw [if_pos hc]
  simp [hc.1, hc.2]
 ·rw [if_neg hc]
  have : (decide ((U[k].file : Int) = f) && decide ((U[k].at_ : Int) = a)) = false := by
   rw [Bool.eq_false_iff]
   intro h
   simp at h
   exact hc h
  simp [this]
set_option maxHeartbeats 8000000 in
set_option maxRecDepth 100000 in
theorem scopeStands_walk {w : World} {A : Option Addr} {c : Nat} {fs : List Fl} {m : Int} (hr : FlR w A fs) (hM : MaxL w m) (hT : T8 w) (hW : WordsIs w) (hn : ∀ f ∈ fs, f.1.length ≤ 8388608) (hcap : fs.length ≤ c) :
  Calls Tryz.prog 3 #[.slice A fs.length c] w fun e w' => e = .returned (.bool true) ∧ Below w.heap.size w w' := by
 have hlv := lives0_walk hM hT hW
 have hrs := fun (w1 : World) (hd1 : Below w.heap.size w w1) => sc_resolve (hr.below hd1) (hM.below hd1 hM.lt) (hT.below hd1) (hW.below hd1) hn hcap
 have HL : Hid (Sc.faultM fs = 0 → (Sc.usesM (Sc.wkM fs)).length ≤ 9600000 ∧ ∀ u ∈ Sc.usesM (Sc.wkM fs), u.to_ < 0 ∨ ∃ v, Sc.atM (Sc.usesM (Sc.wkM fs)) u.toFile u.to_ = [v] ∧ v.toFile = v.file ∧ v.to_ = v.at_ ∧ v.as_ ≤ 2) := fun h => by
  obtain ⟨h1, h2⟩ := Sc.fault_zero h
  refine ⟨Sc.uses_cnt fs h1 h2, ?_⟩
  unfold Sc.wkM
  refine Sc.stands_law _ fun y hy => ?_
  obtain ⟨f, hf, rfl⟩ := List.mem_map.1 hy
  exact Sc.kids_kidsok (h2 f hf)
 clear hr hM hT hW hn hcap
 generalize Sc.faultM fs = R at *
 generalize Sc.usesM (Sc.wkM fs) = U at *
 go_enter Tryz.func3, Tryz.ntmps3
 go_wp2_with fail
 refine hlv.mono ?_
 clear hlv
 rintro e1 w1 ⟨rfl, hd1⟩
 have hr1 := hrs w1 hd1
 clear hrs
 go_wp2_with fail
 refine hr1.mono ?_
 clear hr1
 rintro e2 w2 ⟨hd2, h1, h0⟩
 have hd2' := hd1.trans (hd2.mono hd1.size)
 clear hd1 hd2
 cases R with
 | succ R =>
  obtain rfl := h1 (by omega)
  clear h1 h0 HL
  unfold errV
  go_wp2_with fail
  go_ret
  exact ⟨rfl, hd2'⟩
 | zero =>
  obtain ⟨A2, rfl, hR⟩ := h0 rfl
  obtain ⟨hUl, hUs⟩ := HL.out rfl
  have HUl := Lib.hid hUl
  have HUs := Lib.hid hUs
  clear h1 h0 HL hUl hUs
  go_wp2_with fail
  go_loopg [6] U.length (fun mm v wr => ∃ i : Nat, v = .int .i64 (i : Int) ∧ i ≤ U.length ∧ U.length - i ≤ mm ∧ Below w2.heap.size w2 wr)
  case atStart => exact ⟨0, rfl, Nat.zero_le _, Nat.le_refl _, Below.refl _ _⟩
  case round =>
   obtain ⟨i, rfl, hi, hm, hd⟩ := hrel
   by_cases hlt : i < U.length
   ·have ii0 : (0 : Int) ≤ (i : Int) := by omega
    have ii1 : (i : Int) < (U.length : Int) := by omega
    obtain ⟨br, o, rfl, hbl, hc⟩ := (hR.below hd).at_ hlt
    have q0 := hc 0 _ rfl
    have q1 := hc 1 _ rfl
    have q2 := hc 2 _ rfl
    have q3 := hc 3 _ rfl
    have q4 := hc 4 _ rfl
    have q5 := hc 5 _ rfl
    rw [Nat.add_zero] at q0
    have c1 : IntKind.i64.wrap ((i : Int) + 1) = (i : Int) + 1 := IntWalk.i64_in _ (by have := HUl.out; omega)
    have HUi := Lib.hid (HUs.out U[i] (List.getElem_mem hlt))
    have Hlt := Lib.hid hlt
    have Hm := Lib.hid hm
    have hdb : Below wr.heap.size wr (wr.alloc (.cells (usC U[i]) 31)) := (Below.refl _ _).alloc (Nat.le_refl _) _
    have hbx := Blk.new wr 31 (usC U[i])
    unfold usC at hdb hbx
    have hd3 := hd.trans (hdb.mono hd.size)
    generalize U[i].file = uF at *
    generalize U[i].at_ = uA at *
    generalize U[i].as_ = uS at *
    generalize U[i].toFile = uf at *
    generalize U[i].to_ = ut at *
    generalize U[i].err = uE at *
    clear hc hlt hm hi hdb
    go_upto_region 11 with fail
    obtain ⟨bx, hbx0⟩ : ∃ bx, bx = wr.heap.size := ⟨_, rfl⟩
    rw [← hbx0] at hbx ⊢
    clear hbx0 q0 q1 q2 q3 q4 q5 hd
    generalize wr.alloc (.cells #[.int .i64 (uF : Int), .int .i64 (uA : Int), .int .i64 (uS : Int), .int .i64 uf, .int .i64 ut, .int .i64 (uE : Int)] 31) = w3 at *
    have b4 := hbx.cell 4
    simp at b4
    by_cases hneg : ut < 0
    ·clear HUi
     go_wp2_with fail
     go_roundg (U.length - (i + 1))
     case rel => exact ⟨i + 1, by go_num, by have := Hlt.out; omega, Nat.le_refl _, hd3⟩
     case measure => have := Hlt.out; have := Hm.out; omega
    ·have HV : Hid (∃ v, Sc.atM U uf ut = [v] ∧ v.toFile = v.file ∧ v.to_ = v.at_ ∧ v.as_ ≤ 2) := HUi.out.resolve_left hneg
     clear HUi
     go_wp2_with fail
     clear b4
     go_loopg [8, 9] U.length (fun mm v u wk => ∃ k : Nat, v = .int .i64 ((Sc.atM (U.take k) uf ut).length : Int) ∧ u = .int .i64 (k : Int) ∧ k ≤ U.length ∧ U.length - k ≤ mm ∧ Below w3.heap.size w3 wk)
     case atStart => exact ⟨0, rfl, rfl, Nat.zero_le _, Nat.le_refl _, Below.refl _ _⟩
     case round =>
      obtain ⟨k, rfl, rfl, hk, hm, hd4⟩ := hrel
      by_cases hlt : k < U.length
      ·have jj0 : (0 : Int) ≤ (k : Int) := by omega
       have jj1 : (k : Int) < (U.length : Int) := by omega
       obtain ⟨br2, o2, e2, hbl2, hc⟩ := (hR.below (hd3.trans (hd4.mono hd3.size))).at_ hlt
       injection e2 with e2
       injection e2 with e2 e3
       subst e2 e3
       have q0 := hc 0 _ rfl
       have q1 := hc 1 _ rfl
       have q2 := hc 2 _ rfl
       have q3 := hc 3 _ rfl
       have q4 := hc 4 _ rfl
       have q5 := hc 5 _ rfl
       rw [Nat.add_zero] at q0
       have c2 : IntKind.i64.wrap ((k : Int) + 1) = (k : Int) + 1 := IntWalk.i64_in _ (by have := HUl.out; omega)
       have HT := Lib.hid (Sc.atM_take U uf ut k hlt)
       have HIn : Hid (((U[k].file : Int) = uf ∧ (U[k].at_ : Int) = ut) → U[k].toFile = U[k].file ∧ U[k].to_ = U[k].at_ ∧ U[k].as_ ≤ 2) := fun h => by
        obtain ⟨v, hv, h1, h2, h3⟩ := HV.out
        have hmem : U[k] ∈ Sc.atM U uf ut := List.mem_filter.2 ⟨List.getElem_mem hlt, by simp [h.1, h.2]⟩
        rw [hv, List.mem_singleton] at hmem
        rw [hmem]
        exact ⟨h1, h2, h3⟩
       have Hlen : Hid ((Sc.atM (U.take k) uf ut).length ≤ 9600000) := by
        have h1 : (Sc.atM (U.take k) uf ut).length ≤ (U.take k).length := List.length_filter_le _ _
        rw [List.length_take] at h1
        have := HUl.out
        show _ ≤ _
        omega
       have Hk := Lib.hid hlt
       have Hm2 := Lib.hid hm
       have hdb : Below wr.heap.size wr (wr.alloc (.cells (usC U[k]) 31)) := (Below.refl _ _).alloc (Nat.le_refl _) _
       have hb2 := Blk.new wr 31 (usC U[k])
       unfold usC at hdb hb2
       have hd5 := hd4.trans (hdb.mono hd4.size)
       generalize U[k] = y at *
       generalize y.file = vF at *
       generalize y.at_ = vA at *
       generalize y.as_ = vS at *
       generalize y.toFile = vf at *
       generalize y.to_ = vt at *
       generalize y.err = vE at *
       clear hc hlt hm hk hdb hbl2
       go_upto_region 17 with fail
       obtain ⟨by_, hby0⟩ : ∃ x, x = wr.heap.size := ⟨_, rfl⟩
       rw [← hby0] at hb2 ⊢
       clear hby0 q0 q1 q2 q3 q4 q5 hd4
       generalize wr.alloc (.cells #[.int .i64 (vF : Int), .int .i64 (vA : Int), .int .i64 (vS : Int), .int .i64 vf, .int .i64 vt, .int .i64 (vE : Int)] 31) = w5 at *
       have hb5 := hbx.below hd5 hbx.lt
       have b3 := hb5.cell 3
       have b4 := hb5.cell 4
       have y0 := hb2.cell 0
       have y1 := hb2.cell 1
       have y2 := hb2.cell 2
       have y3 := hb2.cell 3
       have y4 := hb2.cell 4
       simp at b3 b4 y0 y1 y2 y3 y4
       clear hb2 hb5
       by_cases hf : (vF : Int) = uf
       ·by_cases ha : (vA : Int) = ut
        ·obtain ⟨h1, h2, h3⟩ := HIn.out ⟨hf, ha⟩
         have HT2 : Hid ((Sc.atM (U.take (k + 1)) uf ut).length = (Sc.atM (U.take k) uf ut).length + 1) := by show _ = _; rw [HT.out, if_pos ⟨hf, ha⟩, List.length_append]; rfl
         have c3 : IntKind.i64.wrap (((Sc.atM (U.take k) uf ut).length : Int) + 1) = ((Sc.atM (U.take k) uf ut).length : Int) + 1 := IntWalk.i64_in _ (by have := Hlen.out; omega)
         have n3 : ¬ (2 : Int) < (vS : Int) := by omega
         clear HT HIn
         generalize (Sc.atM (U.take k) uf ut).length = N at *
         subst h1 h2
         subst hf ha
         clear h3 HV hneg
         go_wp2_with fail
         go_roundg (U.length - (k + 1))
         case rel => exact ⟨k + 1, by rw [HT2.out]; go_num, by go_num, by have := Hk.out; omega, Nat.le_refl _, hd5⟩
         case measure => have := Hk.out; have := Hm2.out; omega
        ·have n1 : ((vA : Int) == ut) = false := by simpa using ha
         have HT2 : Hid (Sc.atM (U.take (k + 1)) uf ut = Sc.atM (U.take k) uf ut) := by show _ = _; rw [HT.out, if_neg (fun h => ha h.2)]
         clear HT HIn ha
         generalize (Sc.atM (U.take k) uf ut) = N at *
         subst hf
         clear HV hneg
         go_wp2_with fail
         go_roundg (U.length - (k + 1))
         case rel => exact ⟨k + 1, by rw [HT2.out], by go_num, by have := Hk.out; omega, Nat.le_refl _, hd5⟩
         case measure => have := Hk.out; have := Hm2.out; omega
       ·have n1 : ((vF : Int) == uf) = false := by simpa using hf
        have HT2 : Hid (Sc.atM (U.take (k + 1)) uf ut = Sc.atM (U.take k) uf ut) := by show _ = _; rw [HT.out, if_neg (fun h => hf h.1)]
        clear HT HIn hf
        generalize (Sc.atM (U.take k) uf ut) = N at *
        clear HV hneg
        go_wp2_with fail
        go_roundg (U.length - (k + 1))
        case rel => exact ⟨k + 1, by rw [HT2.out], by go_num, by have := Hk.out; omega, Nat.le_refl _, hd5⟩
        case measure => have := Hk.out; have := Hm2.out; omega
      ·obtain rfl : k = U.length := by omega
       have i1 : ¬ (U.length : Int) < (U.length : Int) := by omega
       have i2 : decide (U.length < U.length) = false := by simp
       have h1 : (Sc.atM (U.take U.length) uf ut).length = 1 := by
        rw [List.take_length]
        obtain ⟨v, hv, _⟩ := HV.out
        rw [hv]
        rfl
       rw [h1]
       clear hlt hm hk h1 HV
       go_wp2_with fail
       go_roundg (U.length - (i + 1))
       case rel => exact ⟨i + 1, by go_num, by have := Hlt.out; omega, Nat.le_refl _, hd3.trans (hd4.mono hd3.size)⟩
       case measure => have := Hlt.out; have := Hm.out; omega
   ·obtain rfl : i = U.length := by omega
    have i1 : ¬ (U.length : Int) < (U.length : Int) := by omega
    have i2 : decide (U.length < U.length) = false := by simp
    clear hlt hi hm
    go_wp2_with fail
    go_ret
    exact ⟨rfl, hd2'.trans (hd.mono hd2'.size)⟩
end Go.Proofs.YtcjjfeephaddcaaGreatDoor
namespace Go.Proofs.YtcjjfeephaddcaaGreatDoor
open Go.RowKit Go.ChangeShapes Go.WideShapes Go.Deep
namespace bulks
theorem one_le {H : Type} (d : DataW H) : 1 ≤ Rows.uptoBulk d := by
 cases d with
 | lit l => cases l <;> simp [Rows.uptoBulk]
 | nil => simp [Rows.uptoBulk]
 | ptr d => simp [Rows.uptoBulk]
 | slice elems spare => simp [Rows.uptoBulk]
 | agg parts => simp [Rows.uptoBulk]
 | iface t d => simp [Rows.uptoBulk]
 | map entries => simp [Rows.uptoBulk]
 | held h => simp [Rows.uptoBulk]
theorem append {H : Type} (l r : List (DataW H)) : Rows.uptoBulkAll (l ++ r) = Rows.uptoBulkAll l + Rows.uptoBulkAll r := by
 induction l with
 | nil => simp [Rows.uptoBulkAll]
 | cons x l ih => simp only [List.cons_append, Rows.uptoBulkAll, ih]; omega
theorem bound {H : Type} {l : List (DataW H)} (hk : Rows.uptoSmall H l = true) : Rows.uptoBulkAll l ≤ 1048576 := of_decide_eq_true hk
theorem many {H : Type} : ∀ l : List (DataW H), l.length ≤ Rows.uptoBulkAll l
 | [] => by simp [Rows.uptoBulkAll]
 | d :: l => by have := many l; have := one_le d; simp only [Rows.uptoBulkAll, List.length_cons]; omega
end bulks
theorem add_cells {w : World} {a : Addr} {k : Nat} {u : Value} (h : w.cell? (a.add k) = some u) : w.cell? ⟨a.block, a.off + k, none⟩ = some u := by
 unfold Addr.add at h
 by_cases hk : k = 0
 ·subst hk
  simp only [if_true, Nat.add_zero] at h ⊢
  unfold World.cell? at h ⊢
  split at h
  ·rename_i hh
   rw [hh]
   by_cases hs : a.spot.isSome = true
   ·simp [hs] at h
   ·simpa [hs] using h
  ·cases h
 ·rw [if_neg hk] at h; exact h
theorem spot_none {w : World} {a : Addr} {k : Nat} {u : Value} (h : w.cell? (a.add k) = some u) (hk : k = 0) : a = ⟨a.block, a.off, none⟩ := by
 subst hk
 unfold Addr.add at h
 simp only [if_true] at h
 obtain ⟨b, o, s⟩ := a
 unfold World.cell? at h
 split at h
 ·cases s with
  | none => rfl
  | some _ => simp at h
 ·cases h
end Go.Proofs.YtcjjfeephaddcaaGreatDoor
namespace Go.Proofs.YtcjjfeephaddcaaGreatDoor
open Go.RowKit Go.ChangeShapes Go.WideShapes Go.Deep
section
variable {H : Type} {enc : TypeId × Value → H} {P : Program} {w : World} {base : Nat} {spare : Nat → Bool} {held : Bool}
theorem open_slice_fieldsF {t e : TypeId} {fs : Array Field} {fuel : Nat} {cs : List Value} {x : DataW H × List MemPlace} (ht : P.underlying t = some (.slice e)) (he : P.underlying e = some (.struct fs))
  (hone : oneCellFields P fs = true) (hC : P.cellsOf e = fs.size) (h : DataW.trod enc P w base spare held fuel t cs = some x) :
  (cs = [.slice none 0 0] ∧ x = (.nil, [])) ∨
  ∃ (a : Addr) (len cap m : Nat) (D : Nat → DataW H) (Pl : Nat → List MemPlace), cs = [.slice (some a) len cap] ∧ base ≤ a.block ∧ len ≤ cap ∧ cap ≤ maxLen ∧ m = (if spare a.block then cap else len) ∧
   x = (.slice ((List.range len).map D) ((List.range (m - len)).map fun j => D (len + j)), MemPlace.row a (m * fs.size) ++ (List.range m).flatMap Pl) ∧
   ∀ i, i < m → ∃ (ys : List (DataW H × List MemPlace)) (n : Nat), D i = .agg (ys.map (·.1)) ∧ Pl i = ys.flatMap (·.2) ∧ ys.length = fs.size ∧
    ∀ (j : Nat) (f : Field), fs[j]? = some f → ∃ (v : Value) (y : DataW H × List MemPlace), w.cell? (a.add (i * fs.size + j)) = some v ∧ ys[j]? = some y ∧ DataW.trod enc P w base spare held n f.type [v] = some y := by
 rcases open_slice ht h with h0 | ⟨a, len, cap, m, n, D, Pl, hcs, hb, hl, hm, hmm, hx, hi⟩
 ·exact .inl h0
 ·refine .inr ⟨a, len, cap, m, D, Pl, hcs, hb, hl, hm, hmm, by rw [hC] at hx; exact hx, fun i him => ?_⟩
  obtain ⟨cs', hc, ht'⟩ := hi i him
  rw [hC] at hc
  obtain ⟨ys, n', hn', hy, hlen, hyl, hf⟩ := DataW.trod_struct he ht'
  obtain ⟨_, hcl, hat⟩ := World.cells?_some hc
  simp only [Prod.mk.injEq] at hy
  refine ⟨ys, n', hy.1, hy.2, hyl, fun j f hj => ?_⟩
  obtain ⟨ho, hk⟩ := hone_of hone j f hj
  have hjl : j < fs.size := (Array.getElem?_eq_some_iff.1 hj).1
  have hcell := hat j hjl
  have hv : cs'[j]? = some (cs'[j]'(by omega)) := List.getElem?_eq_getElem (by omega)
  have h1 := hf j f hj
  rw [ho, hk] at h1
  have hone' : (cs'.drop j).take 1 = [cs'[j]'(by omega)] := by
   rw [List.drop_eq_getElem_cons (by omega)]
   rfl
  rw [hone'] at h1
  have hys : ys[j]? = some (ys[j]'(by omega)) := List.getElem?_eq_getElem (by omega)
  refine ⟨_, _, ?_, hys, h1.trans hys⟩
  rw [← Go.Deep.add_add, hcell, hv]
end
def flB (l : List Fl) : Nat := (l.map fun f => f.1.length + f.2.length).sum
theorem flC_len (l : List Fl) : (l.flatMap flC).length = l.length * 2 := by
 induction l with
 | nil => rfl
 | cons f l ih => rw [List.flatMap_cons, List.length_append, ih, List.length_cons]; simp [flC]; omega
theorem flB_mem {l : List Fl} {f : Fl} (h : f ∈ l) : f.1.length + f.2.length ≤ flB l := by
 induction l with
 | nil => cases h
 | cons g l ih =>
  unfold flB at *
  rw [List.map_cons, List.sum_cons]
  rcases List.mem_cons.1 h with rfl | h
  ·omega
  ·have := ih h; omega
set_option maxRecDepth 100000 in
theorem open_files {H : Type} {enc : TypeId × Value → H} {w : World} {base : Nat} {spare : Nat → Bool} {held : Bool} {b0 : Nat} {v : Value} {d : DataW H} {p : List MemPlace}
  (hv : Value.okWide Tryz.prog w .any b0 22 v) (h : DataW.Trod enc Tryz.prog w base spare held 22 v d p) :
  ∃ (A : Option Addr) (c : Nat) (l : List Fl), v = .slice A l.length c ∧ FlR w A l ∧ l.length ≤ c ∧ l.length + flB l + 1 ≤ Rows.uptoBulk d := by
 obtain ⟨A, len, cap, rfl⟩ := okWide_slice Tryz.underlying22 hv
 obtain ⟨fuel, hf⟩ := h
 rcases open_slice_fieldsF Tryz.underlying22 Tryz.underlying66 (by kernel_rfl) (by kernel_rfl) hf with ⟨hcs, hx⟩ | ⟨a, len', cap', m, D, Pl, hcs, hbs, hl, hm, hmm, hx, hi⟩
 ·simp only [Value.cells, List.cons.injEq, Value.slice.injEq, and_true] at hcs
  obtain ⟨rfl, rfl, rfl⟩ := hcs
  exact ⟨none, 0, [], rfl, Rd.none_, Nat.le_refl _, by simp only [Prod.mk.injEq] at hx; rw [hx.1]; simp [Rows.uptoBulk, flB]⟩
 ·simp only [Value.cells, List.cons.injEq, Value.slice.injEq, and_true] at hcs
  obtain ⟨rfl, rfl, rfl⟩ := hcs
  have hlm : len ≤ m := by rw [hmm]; split <;> omega
  have key : ∀ n, n ≤ len → ∃ l : List Fl, l.length = n ∧ (∀ i (hi : i < l.length), ∀ j u, (flC l[i])[j]? = some u → w.cell? ⟨a.block, a.off + (i * 2 + j), none⟩ = some u) ∧ l.length + flB l ≤ Rows.uptoBulkAll ((List.range n).map D) := by
   intro n
   induction n with
   | zero => intro _; exact ⟨[], rfl, by simp, by simp [flB]⟩
   | succ n ih =>
    intro hn
    obtain ⟨l, hln, hc, hbk⟩ := ih (by omega)
    obtain ⟨ys, k, hD, _, hyl, hfs⟩ := hi n (by omega)
    obtain ⟨v0, y0, c0, e0, t0⟩ := hfs 0 _ rfl
    obtain ⟨v1, y1, c1, e1, t1⟩ := hfs 1 _ rfl
    obtain ⟨x0, q0, rfl, _⟩ := DataW.trod_string Tryz.underlying9 t0
    obtain ⟨x1, q1, rfl, _⟩ := DataW.trod_string Tryz.underlying9 t1
    simp only [List.cons.injEq, and_true] at q0 q1
    subst q0 q1
    refine ⟨l ++ [(x0.data.toList, x1.data.toList)], by simp [hln], fun i hi j u hu => ?_, ?_⟩
    ·rw [List.getElem_append] at hu
     split at hu
     ·exact hc i (by assumption) j u hu
     ·have hin : i = n := by simp at hi; omega
      subst hin
      simp [flC] at hu
      match j, hu with
      | 0, hu => simp at hu; subst hu; exact add_cells c0
      | 1, hu => simp at hu; subst hu; exact add_cells c1
    ·rw [List.range_succ, List.map_append, bulks.append]
     match ys, hyl, e0, e1 with
     | [z0, z1], _, e0, e1 =>
      simp at e0 e1
      subst e0 e1
      unfold flB at *
      simp only [List.map_cons, List.map_nil, Rows.uptoBulkAll, hD, Rows.uptoBulk, List.length_append, List.length_singleton, List.map_append, List.sum_append, List.sum_cons, List.sum_nil]
      omega
  obtain ⟨l, hln, hc, hbk⟩ := key len (Nat.le_refl _)
  subst hln
  refine ⟨some a, cap, l, rfl, ⟨flC_len l, fun hn => ?_⟩, hl, ?_⟩
  ·refine ⟨a.block, a.off, ?_, ?_, ?_⟩
   ·obtain ⟨ys, k, _, _, _, hfs⟩ := hi 0 (by omega)
    obtain ⟨v0, y0, c0, _⟩ := hfs 0 _ rfl
    rw [← spot_none c0 (by simp)]
   ·have := hc 0 hn 0 _ rfl
    exact World.block_lt_of_cell? w ⟨a.block, _, none⟩ this
   ·intro j u hu
    have hj : j < l.length * 2 := by
     have := (List.getElem?_eq_some_iff.1 hu).1
     rwa [flC_len] at this
    obtain ⟨q, rfl | rfl⟩ : ∃ q, j = q * 2 ∨ j = q * 2 + 1 := ⟨j / 2, by omega⟩
    ·have hi2 : q < l.length := by omega
     have hg := fl_get l q hi2
     rw [hg.1] at hu
     injection hu with hu
     subst hu
     exact hc q hi2 0 _ rfl
    ·have hi2 : q < l.length := by omega
     have hg := fl_get l q hi2
     rw [hg.2] at hu
     injection hu with hu
     subst hu
     exact hc q hi2 1 _ rfl
  ·simp only [Prod.mk.injEq] at hx
   rw [hx.1]
   simp only [Rows.uptoBulk]
   omega
end Go.Proofs.YtcjjfeephaddcaaGreatDoor
namespace Go.Proofs.YtcjjfeephaddcaaGreatDoor
open Go.ChangeShapes Go.WideShapes Go.RowKit
theorem maxL_of {W : World} (h : W.ShapedOpen Tryz.prog) : ∃ m, MaxL W m :=
 Go.Proofs.cell_of_shapedOpen_int (zero := #[.int .i64 0]) (t := 3) h (by decide) (by kernel_rfl) rfl (by kernel_rfl) (by kernel_rfl) Tryz.underlying3
namespace laidW
theorem acc_eq : Rows.laid_unicode_utf8_acceptRanges = Lib.acceptData := by kernel_rfl
theorem first_eq : Rows.laid_unicode_utf8_first = Lib.firstData := Pinned.utf8First_eq
def litV : DataW Unit → List Value
 | .agg ds => ds.map fun
  | .lit (.int k z) => .int k z
  | _ => .bool false
 | _ => []
noncomputable def frameWorld (os : Os) : World :=
 let w0 := World.holding Tryz.prog os ⟨#[], #[], []⟩
 let put (h : Array Obj) (g : Nat) (cs : Array Value) : Array Obj := h.modify g fun
  | .cells _ t frozen => .cells cs t frozen
  | o => o
 let h1 := put w0.heap 4 (Lib.firstTab.map fun z => Value.int .u8 z).toArray
 let h2 := put h1 5 ((List.range 16).flatMap fun i => [Value.int .u8 (Lib.accLo i), Value.int .u8 (Lib.accHi i)]).toArray
 let h3 := put h2 9 (litV Rows.laid_math_bits_deBruijn32tab).toArray
 let h4 := put h3 10 (litV Rows.laid_math_bits_deBruijn64tab).toArray
 let h5 := put h4 8 (litV Rows.laid_internal_strconv_uint64pow10).toArray
 let n := h5.size
 let h6 := h5.push (.cells #[.string ⟨#[118, 97, 108, 117, 101, 32, 111, 117, 116, 32, 111, 102, 32, 114, 97, 110, 103, 101]⟩] 401)
 let h7 := h6.push (.cells #[.string ⟨#[105, 110, 118, 97, 108, 105, 100, 32, 115, 121, 110, 116, 97, 120]⟩] 401)
 let h8 := put h7 7 #[.iface 399 (.pointer (some ⟨n, 0, none⟩))]
 let h9 := put h8 6 #[.iface 399 (.pointer (some ⟨n + 1, 0, none⟩))]
 { w0 with heap := h9 }
end laidW
end Go.Proofs.YtcjjfeephaddcaaGreatDoor
namespace Go.Proofs.YtcjjfeephaddcaaGreatDoor
open Go.ChangeShapes Go.WideShapes Go.RowKit
namespace laidW
abbrev lexList : List (String × DataW Unit) := [("math/bits.deBruijn32tab", Rows.laid_math_bits_deBruijn32tab), ("math/bits.deBruijn64tab", Rows.laid_math_bits_deBruijn64tab), ("internal/strconv.uint64pow10", Rows.laid_internal_strconv_uint64pow10), ("unicode/utf8.acceptRanges", Rows.laid_unicode_utf8_acceptRanges), ("strconv.ErrRange", Rows.laid_strconv_ErrRange), ("strconv.ErrSyntax", Rows.laid_strconv_ErrSyntax), ("amanuensis/lex.words", Rows.laid_amanuensis_lex_words), ("unicode/utf8.first", Rows.laid_unicode_utf8_first)]
theorem t8_of {l : List (String × DataW Unit)} {W : World} (h : laidMet Tryz.prog l W) (h1 : ("unicode/utf8.acceptRanges", Rows.laid_unicode_utf8_acceptRanges) ∈ l) (h2 : ("unicode/utf8.first", Rows.laid_unicode_utf8_first) ∈ l) : T8 W := by
 rw [acc_eq] at h1
 rw [first_eq] at h2
 exact utf8Tabs_of_reads (ρ := Tryz.lays197_ren) { Tryz.lays197 with } ⟨by kernel_rfl, by kernel_rfl, by kernel_rfl, by kernel_rfl, by kernel_rfl, by kernel_rfl, by kernel_rfl⟩ (Lib.laidMet.reads h h2) (Lib.laidMet.reads h h1)
theorem gW : Tryz.prog.globalNamed "amanuensis/lex.words" = some 3 := by kernel_rfl
theorem cells_of_strs {H : Type} {enc : TypeId × Value → H} {P : Program} {w : World} {base : Nat} {sp : Nat → Bool} {held : Bool} {fuel : Nat} {t e : TypeId} {n : Nat} {cs : List Value} {zs : List Bs} {p : List MemPlace}
  (ht : P.underlying t = some (.array n e)) (he : P.underlying e = some .string) (hce : P.cellsOf e = 1) (hct : P.cellsOf t = n)
  (h : DataW.trod enc P w base sp held fuel t cs = some (.agg (zs.map fun z => .lit (.string z)), p)) : cs = txtV zs := by
 cases fuel with
 | zero => simp [DataW.trod] at h
 | succ fuel =>
  simp only [DataW.trod, ht, hce, hct, Nat.mul_one] at h
  split at h
  ·rename_i hl
   obtain ⟨xs, hm, hx⟩ := Option.map_eq_some_iff.1 h
   have hxs : xs.map (·.1) = zs.map fun z => (DataW.lit (.string z) : DataW H) := by
    have := congrArg Prod.fst hx
    simpa using this
   have hxl : xs.length = n := by simpa using Lib.mapM_length hm
   have hzl : zs.length = n := by
    have := congrArg List.length hxs
    simp at this
    omega
   apply List.ext_getElem?
   intro i
   by_cases hi : i < n
   ·obtain ⟨b, hb, hf⟩ := Lib.mapM_at hm i i (by simp [hi])
    obtain ⟨z, hc, rfl, _⟩ := DataW.trod_string he hf
    have h1 : cs[i]? = some (.string z) := by
     have := congrArg (·[0]?) hc
     simpa [List.getElem?_take, List.getElem?_drop] using this
    have h2 : (xs.map (·.1))[i]? = some (DataW.lit (.string z.data.toList) : DataW H) := by simp [hb]
    rw [hxs] at h2
    simp only [List.getElem?_map, Option.map_eq_some_iff, DataW.lit.injEq, Lit.string.injEq] at h2
    obtain ⟨z', hz', h3⟩ := h2
    rw [h1]
    simp only [txtV, List.getElem?_map, hz', Option.map_some, h3, strV]
   ·rw [List.getElem?_eq_none (by omega), List.getElem?_eq_none (by rw [txtV_len]; omega)]
  ·cases h
theorem words_eq : (Rows.laid_amanuensis_lex_words : DataW Unit) = .agg (Lx.words.map fun z => .lit (.string z)) := by kernel_rfl
theorem words_of {l : List (String × DataW Unit)} {W : World} (h : laidMet Tryz.prog l W) (h1 : ("amanuensis/lex.words", Rows.laid_amanuensis_lex_words) ∈ l) : WordsIs W := by
 obtain ⟨g, t, cs, fuel, p, e1, e2, e3, e4⟩ := Lib.laidMet.reads h h1
 obtain rfl := Option.some.inj (gW.symm.trans e1)
 have e5 : (Tryz.prog.globals[3]?).map (·.type) = some 345 := by kernel_rfl
 obtain rfl := Option.some.inj (e5.symm.trans e2)
 rw [words_eq] at e4
 have hc := cells_of_strs (n := 12) Tryz.underlying345 Tryz.underlying9 (by kernel_rfl) (by kernel_rfl) e4
 have hcell : ∀ i, W.cell? ⟨3, i, none⟩ = (txtV Lx.words)[i]? := fun i => by
  rw [World.var?_cell gW e3 i, ← hc]; simp
 refine ⟨by kernel_rfl, fun _ => ⟨_, 0, rfl, ?_, fun i u hu => by rw [Nat.zero_add, hcell]; exact hu⟩⟩
 exact World.block_lt_of_cell? (a := ⟨3, 0, none⟩) W (hcell 0)
theorem lex_of {W : World} (h : laidMetH Tryz.prog lexList W) : T8 W ∧ WordsIs W :=
 have h' : laidMet Tryz.prog lexList W := h
 ⟨t8_of h' (by simp [lexList]) (by simp [lexList]), words_of h' (by simp [lexList])⟩
noncomputable def lexWorld (os : Os) : World :=
 let w0 := frameWorld os
 { w0 with heap := w0.heap.modify 3 fun
   | .cells _ t frozen => .cells (txtV Lx.words).toArray t frozen
   | o => o }
set_option maxRecDepth 100000 in
theorem lex_met (os : Os) (args : Array Value) : laidMetH Tryz.prog lexList ((lexWorld os).forCall (fun _ _ => 0) ⟨#[], args, []⟩).memory := by
 unfold lexList
 rw [acc_eq, first_eq]
 exact (LaidIn.of_run (l := [("math/bits.deBruijn32tab", Rows.laid_math_bits_deBruijn32tab), ("math/bits.deBruijn64tab", Rows.laid_math_bits_deBruijn64tab), ("internal/strconv.uint64pow10", Rows.laid_internal_strconv_uint64pow10), ("unicode/utf8.acceptRanges", Lib.acceptData), ("strconv.ErrRange", Rows.laid_strconv_ErrRange), ("strconv.ErrSyntax", Rows.laid_strconv_ErrSyntax), ("amanuensis/lex.words", Rows.laid_amanuensis_lex_words), ("unicode/utf8.first", Lib.firstData)]) (List.range 40) 8 (by kernel_rfl) (by kernel_rfl) (by kernel_rfl) (by kernel_rfl)).met
end laidW
end Go.Proofs.YtcjjfeephaddcaaGreatDoor
