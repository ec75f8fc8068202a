/-
  THE WALK of the law QueryTrue.
-/
import Derived.Test.YtnadldoebfmgmaaDoorMade
import Derived.Test.YtnadldoebfmgmaaDoorQV
namespace Go.Proofs.YtnadldoebfmgmaaDoor.q
open Go.RowKit

section
variable {w w' : World} {B0 sp H1 H2 rp rb rc B : Nat} {ps : List Nat} {vc : Value} {s : Sh} {l : List Ru} {vs : List Int}
theorem Both.below (h : Both w B0 sp H1 H2 rp ps vc rb rc s l vs) (hb : Below w.heap.size w w') : Both w' B0 sp H1 H2 rp ps vc rb rc s l vs :=
  ⟨h.sh.below hb, h.rf.below h.b3 hb, h.b1, h.b2, Nat.le_trans h.b3 hb.size⟩
theorem Both.get (h : Both w B0 sp H1 H2 rp ps vc rb rc s l vs) (hr : s.Rest B) (hB : B ≤ 1000000000000000000) (k : Int) :
    Calls Tryd.prog 8 #[.pointer (some ⟨sp, 0, none⟩), .int .i64 k] w fun e w' => e = .returned (.tuple #[.int .i64 (getM s k).2.1, errQ (getM s k).2.2]) ∧ Both w' B0 sp H1 H2 rp ps vc rb rc (getM s k).1 l vs ∧ Below B0 w w' := by
  have h1 := h.b1
  have h2 := h.b2
  have h3 := h.b3
  refine (Get_walk h.sh (fun j hj => by omega) (by omega) hr hB k).mono ?_
  rintro e w' ⟨he, hS, hk, hb⟩
  exact ⟨he, ⟨hS, h.rf.keep fun j a b => hk j (.inr ⟨a, b⟩), h1, h2, Nat.le_trans h3 hb.size⟩, hb⟩
theorem Both.set (h : Both w B0 sp H1 H2 rp ps vc rb rc s l vs) (k v : Int) (hsm : s.cs.length ≤ 1048576) (hs1 : -1000000000000000 ≤ s.sets) (hs2 : s.sets ≤ 1000000000000000) :
    Calls Tryd.prog 6 #[.pointer (some ⟨sp, 0, none⟩), .int .i64 k, .int .i64 v] w fun e w' => e = .returned (errQ (setM s k v).2) ∧ Both w' B0 sp H1 H2 rp ps vc rb rc (setM s k v).1 l vs ∧ Below B0 w w' := by
  refine (Set_walk h.sh k v hsm hs1 hs2).mono ?_
  rintro e w' ⟨he, hS, hk, hb⟩
  exact ⟨he, ⟨hS, h.rf.keep fun j a b => hk j (.inr ⟨a, b⟩), h.b1, h.b2, Nat.le_trans h.b3 hb.size⟩, hb⟩
theorem Both.rset (h : Both w B0 sp H1 H2 rp ps vc rb rc s l vs) {k : Nat} (hk : k < l.length) (h64 : l.length ≤ 64) (v : Int) :
    Calls Tryd.prog 7 #[.pointer (some ⟨rp, 0, none⟩), .int .i64 k, .int .i64 v] w fun e w' => (∃ b : Bool, e = .returned (.bool b)) ∧ Both w' B0 sp H1 H2 rp ps vc rb rc s l (setV l vs k v) ∧ Below B0 w w' := by
  refine (rset_walk w H1 H2 rp l vs k v h.rf hk h64).mono ?_
  rintro e w' ⟨he, hR, hb, hz, ho⟩
  exact ⟨he, ⟨h.sh.other (fun j _ hj => ho j fun e => hj (.inr e)) fun _ => .inl, hR, h.b1, h.b2, by rw [hz]; exact h.b3⟩, hb.mono h.b1⟩
theorem setV_i64 {k : Nat} {v : Int} (h : ∀ x ∈ vs, I64 x) (hv : I64 v) : ∀ x ∈ setV l vs k v, I64 x := by
  unfold setV
  split
  · intro x hx
    rcases List.mem_or_eq_of_mem_set hx with e | e
    · exact h x e
    · rw [e]; exact hv
  · exact h
end
theorem rest_ok {l : List Ru} (h : faultM l = 0) : RuOk l := ⟨(fault_zero h).1, (fault_zero h).2⟩

/-- the numbers that the law reads -/
structure TrueIn (w : World) (A0 : Option Addr) (l : List Ru) (A1 : Option Addr) (f1 : List Int) (A2 : Option Addr) (f2 : List Int) (A3 : Option Addr) (f3 : List Int) : Prop where
  ru : Rd w w.heap.size 4 A0 l.length (ruCells l)
  r1 : Rd w w.heap.size 1 A1 f1.length (intsV f1)
  r2 : Rd w w.heap.size 1 A2 f2.length (intsV f2)
  r3 : Rd w w.heap.size 1 A3 f3.length (intsV f3)
  n0 : l.length ≤ capR
  n1 : (f1.length : Int) ≤ 100000000000000
  n2 : (f2.length : Int) ≤ 100000000000000
  n3 : (f3.length : Int) ≤ 100000000000000
  i1 : ∀ x ∈ f1, I64 x
  i2 : ∀ x ∈ f2, I64 x
  i3 : ∀ x ∈ f3, I64 x
  g : ErrT w
set_option maxHeartbeats 1000000 in
set_option maxRecDepth 100000 in
theorem qtrue_bad (A0 : Option Addr) (c0 : Nat) (l : List Ru) (A1 : Option Addr) (c1 : Nat) (f1 : List Int) (A2 : Option Addr) (c2 : Nat) (f2 : List Int) (A3 : Option Addr) (c3 : Nat) (f3 : List Int) (w : World) (h : TrueIn w A0 l A1 f1 A2 f2 A3 f3) (hf : faultM l ≠ 0) :
    Calls Tryd.prog 3 #[.slice A0 l.length c0, .slice A1 f1.length c1, .slice A2 f2.length c2, .slice A3 f3.length c3] w fun e w' => e = .returned (.bool true) ∧ Below w.heap.size w w' := by
  have HM := Lib.hid (made_bad A0 c0 l w h.ru h.n0 h.g hf)
  clear h hf
  go_enter Tryd.func3, Tryd.ntmps3
  go_wp2_with fail
  refine HM.out.mono ?_
  rintro e w1 ⟨rfl, hb1⟩
  go_wp2_with fail
  go_ret
  exact ⟨rfl, hb1⟩

set_option maxHeartbeats 8000000 in
set_option maxRecDepth 100000 in
theorem qtrue_good (A0 : Option Addr) (c0 : Nat) (l : List Ru) (A1 : Option Addr) (c1 : Nat) (f1 : List Int) (A2 : Option Addr) (c2 : Nat) (f2 : List Int) (A3 : Option Addr) (c3 : Nat) (f3 : List Int) (w : World) (h : TrueIn w A0 l A1 f1 A2 f2 A3 f3) (hf : faultM l = 0) :
    Calls Tryd.prog 3 #[.slice A0 l.length c0, .slice A1 f1.length c1, .slice A2 f2.length c2, .slice A3 f3.length c3] w fun e w' => e = .returned (.bool true) ∧ Below w.heap.size w w' := by
  have h64 := (fault_zero hf).1
  have hn1 := h.n1
  have hn2 := h.n2
  have hn3 := h.n3
  have HM := Lib.hid (made_good A0 c0 l w h.ru h.g hf)
  have HI := Lib.hid h
  have HOk := Lib.hid (rest_ok hf)
  have HSt := Lib.hid (St.new hf)
  clear h hf
  go_enter Tryd.func3, Tryd.ntmps3
  go_wp2_with fail
  refine HM.out.mono ?_
  rintro e w1 ⟨sp, rp, H1, H2, ps, vc, rb, rc, rfl, hB1, hb1⟩
  have HB1 := Lib.hid hB1
  obtain ⟨B0, hB0⟩ : ∃ B0, B0 = w.heap.size := ⟨_, rfl⟩
  have Hb1 : Hid (Below B0 w w1) := by rw [hB0]; exact hb1
  have HBt : Hid (Both w1 B0 sp H1 H2 rp ps vc rb rc (newS l) l (List.replicate l.length 0)) := by rw [hB0]; exact HB1.out
  have hB0w : w.heap.size ≤ B0 := by omega
  have FIN : Hid (∀ wr, Below B0 w wr → Below w.heap.size w wr) := fun wr hb => by rw [← hB0]; exact hb
  have R1 : Hid (∀ wr, Below B0 w wr → Rd wr w.heap.size 1 A1 f1.length (intsV f1)) := fun wr hb => HI.out.r1.below (hb.mono hB0w)
  have R2 : Hid (∀ wr, Below B0 w wr → Rd wr w.heap.size 1 A2 f2.length (intsV f2)) := fun wr hb => HI.out.r2.below (hb.mono hB0w)
  have R3 : Hid (∀ wr, Below B0 w wr → Rd wr w.heap.size 1 A3 f3.length (intsV f3)) := fun wr hb => HI.out.r3.below (hb.mono hB0w)
  have GG : Hid (∀ wr, Below B0 w wr → ErrT wr) := fun wr hb => HI.out.g.below (hb.mono hB0w) HI.out.g.lt
  have I1 := Lib.hid HI.out.i1
  have I3 := Lib.hid HI.out.i3
  have V0 : Hid (∀ x ∈ List.replicate l.length (0 : Int), I64 x) := fun x hx => by rw [List.eq_of_mem_replicate hx]; exact i64_0
  clear HM HI hB1 hb1 HB1 hB0
  by_cases h20 : 20 < l.length
  · have d20 : decide ((20 : Int) < (l.length : Int)) = true := by simp; omega
    clear h20
    go_wp2_with fail
    go_ret
    exact ⟨rfl, FIN.out _ Hb1.out⟩
  · have d20 : decide ((20 : Int) < (l.length : Int)) = false := by simp; omega
    have h20' : l.length ≤ 20 := by omega
    clear h20
    go_upto_block 0 with fail
    go_cut [] (fun wc => ∃ (s : Sh) (vs : List Int), Hid (St l vs s 1) ∧ Hid (Both wc B0 sp H1 H2 rp ps vc rb rc s l vs) ∧ Hid (1 ≤ s.sets ∧ s.sets ≤ 21) ∧ Hid (∀ x ∈ vs, I64 x) ∧ Hid (Below B0 w wc))
    case first =>
      go_wp2_with fail
      go_loopw [12] (fun i wr => ∃ (k : Nat) (s : Sh) (vs : List Int), i = .int .i64 k ∧ k ≤ f1.length ∧ k ≤ l.length ∧ Hid (St l vs s (1)) ∧ Hid (Both wr B0 sp H1 H2 rp ps vc rb rc s l vs) ∧ Hid (1 ≤ s.sets ∧ s.sets ≤ 1 + (k : Int)) ∧ Hid (∀ x ∈ vs, I64 x) ∧ Hid (Below B0 w wr)) (fun i _ => f1.length - (intOf i).toNat)
      case atStart => exact ⟨0, _, _, rfl, Nat.zero_le _, Nat.zero_le _, HSt, HBt, ⟨by show (1 : Int) ≤ 1; omega, by show (1 : Int) ≤ 1 + 0; omega⟩, V0, Hb1⟩
      case round =>
        clear HSt HBt V0 Hb1
        obtain ⟨k, s, vs, rfl, hk1, hk2, HSt, HBt, HSe, HVs, HB⟩ := hrel
        by_cases hlt : k < f1.length ∧ k < l.length
        · obtain ⟨hl1, hl2⟩ := hlt
          obtain ⟨b, o, rfl, hbB, hcs⟩ := (R1.out _ HB.out).2 (by omega)
          have ck := hcs k (.int .i64 f1[k]) (by unfold intsV; rw [List.getElem?_map, List.getElem?_eq_getElem hl1]; rfl)
          clear hcs
          have hv64 : I64 f1[k] := I1.out _ (List.getElem_mem hl1)
          generalize f1[k] = v at *
          have j1 : (0 : Int) ≤ (k : Int) := by omega
          have j2 : (k : Int) < (f1.length : Int) := by omega
          have j3 : decide (k < f1.length) = true := by simpa using hl1
          have j4 : decide (k < l.length) = true := by simpa using hl2
          have HC := Lib.hid (HBt.out.set k v (Nat.le_trans HSt.out.rest.small (by omega)) (by have := HSe.out; omega) (by have := HSe.out; omega))
          have HSt2 := Lib.hid (HSt.out.set hl2 hv64)
          have HVs2 := Lib.hid (setV_i64 (l := l) (k := k) HVs.out hv64)
          have HSe2 : Hid (1 ≤ (setM s k v).1.sets ∧ (setM s k v).1.sets ≤ 1 + ((k + 1 : Nat) : Int)) := by
            have h1 := set_sets s k v
            have h2 := h1.lo
            have h3 := h1.hi
            have h4 := HSe.out
            exact ⟨by omega, by omega⟩
          clear HSt HSe HVs HBt
          go_wp2_with fail
          refine HC.out.mono ?_
          rintro e w3 ⟨rfl, hB3, hb3⟩
          have HC2 := Lib.hid (hB3.rset hl2 h64 v)
          have HB3 := Lib.hid (HB.out.trans hb3)
          obtain ⟨b', o', ho', _, hcs'⟩ := (R1.out _ HB3.out).2 (by omega)
          injection ho' with ho'
          injection ho' with ho1 ho2 _
          subst ho1 ho2
          have ck3 := hb3.cell (p := ⟨b, o + k, none⟩) (by show b < B0; omega)
          rw [ck] at ck3
          clear hB3 hb3 HC ck hcs'
          go_wp2_with fail
          refine HC2.out.mono ?_
          rintro e w4 ⟨⟨bb, rfl⟩, hB4, hb4⟩
          have HBt4 := Lib.hid hB4
          have HB4 := Lib.hid (HB3.out.trans hb4)
          clear hB4 hb4 HC2 ck3
          go_wp2_with fail
          go_roundw
          case rel => exact ⟨k + 1, _, _, by go_num, by omega, by omega, HSt2, HBt4, HSe2, HVs2, HB4⟩
          case measure => simp [intOf]; omega
        · have hke : k ≤ 20 := by omega
          rcases Nat.lt_or_ge k f1.length with hf1 | hf1
          · have j3 : decide (k < f1.length) = true := by simpa using hf1
            have j4 : decide (k < l.length) = false := by simp; omega
            clear hlt hf1
            go_wp2_with fail
            go_meet
            exact ⟨s, vs, HSt, HBt, ⟨HSe.out.1, by have := HSe.out.2; omega⟩, HVs, HB⟩
          · have j3 : decide (k < f1.length) = false := by simp; omega
            clear hlt hf1
            go_wp2_with fail
            go_meet
            exact ⟨s, vs, HSt, HBt, ⟨HSe.out.1, by have := HSe.out.2; omega⟩, HVs, HB⟩
    case rest =>
      clear HSt HBt V0 Hb1
      obtain ⟨s1, vs1, HSt, HBt, HSe, HVs, HB⟩ := hcut
      go_upto_block 2 with fail
      go_cut [] (fun wc => ∃ (s : Sh), Hid (St l vs1 s (1 + 64 * f2.length)) ∧ Hid (Both wc B0 sp H1 H2 rp ps vc rb rc s l vs1) ∧ Hid (1 ≤ s.sets ∧ s.sets ≤ 21) ∧ Hid (Below B0 w wc))
      case first =>
        go_wp2_with fail
        go_loopw [13] (fun i wr => ∃ (k : Nat) (s : Sh), i = .int .i64 k ∧ k ≤ f2.length ∧ Hid (St l vs1 s (1 + 64 * k)) ∧ Hid (Both wr B0 sp H1 H2 rp ps vc rb rc s l vs1) ∧ Hid (1 ≤ s.sets ∧ s.sets ≤ 21) ∧ Hid (Below B0 w wr)) (fun i _ => f2.length - (intOf i).toNat)
        case atStart => exact ⟨0, s1, rfl, Nat.zero_le _, HSt, HBt, HSe, HB⟩
        case round =>
          clear HSt HBt HSe HB
          obtain ⟨k, s, rfl, hk, HSt, HBt, HSe, HB⟩ := hrel
          by_cases hlt : k < f2.length
          · obtain ⟨b, o, rfl, hbB, hcs⟩ := (R2.out _ HB.out).2 (by omega)
            have ck := hcs k (.int .i64 f2[k]) (by unfold intsV; rw [List.getElem?_map, List.getElem?_eq_getElem hlt]; rfl)
            clear hcs
            generalize f2[k] = key at *
            have j1 : (0 : Int) ≤ (k : Int) := by omega
            have j2 : (k : Int) < (f2.length : Int) := by omega
            have j3 : decide (k < f2.length) = true := by simpa using hlt
            have HC := Lib.hid (HBt.out.get HSt.out.rest (by omega) key)
            obtain ⟨g1, g2⟩ := HSt.out.get (by omega) key
            have HSt2 : Hid (St l vs1 (getM s key).1 (1 + 64 * (k + 1))) := ⟨g1.rest.mono (by omega), g1.inv, g1.mt⟩
            have HSe2 : Hid (1 ≤ (getM s key).1.sets ∧ (getM s key).1.sets ≤ 21) := by rw [g2]; exact HSe.out
            clear HSt HSe HBt g1 g2
            go_wp2_with fail
            refine HC.out.mono ?_
            rintro e w3 ⟨rfl, hB3, hb3⟩
            have HBt3 := Lib.hid hB3
            have HB3 := Lib.hid (HB.out.trans hb3)
            clear hB3 hb3 HC ck
            go_wp2_with fail
            go_roundw
            case rel => exact ⟨k + 1, _, by go_num, by omega, HSt2, HBt3, HSe2, HB3⟩
            case measure => simp [intOf]; omega
          · have j3 : decide (k < f2.length) = false := by simpa using hlt
            obtain rfl : k = f2.length := by omega
            go_wp2_with fail
            go_meet
            exact ⟨s, HSt, HBt, HSe, HB⟩
      case rest =>
        clear HSt HBt HSe HB
        obtain ⟨s2, HSt, HBt, HSe, HB⟩ := hcut
        go_upto_block 4 with fail
        go_cut [] (fun wc => ∃ (s : Sh) (vs : List Int), Hid (St l vs s (1 + 64 * f2.length)) ∧ Hid (Both wc B0 sp H1 H2 rp ps vc rb rc s l vs) ∧ Hid (1 ≤ s.sets ∧ s.sets ≤ 41) ∧ Hid (∀ x ∈ vs, I64 x) ∧ Hid (Below B0 w wc))
        case first =>
          go_wp2_with fail
          go_loopw [14] (fun i wr => ∃ (k : Nat) (s : Sh) (vs : List Int), i = .int .i64 k ∧ k ≤ f3.length ∧ k ≤ l.length ∧ Hid (St l vs s (1 + 64 * f2.length)) ∧ Hid (Both wr B0 sp H1 H2 rp ps vc rb rc s l vs) ∧ Hid (1 ≤ s.sets ∧ s.sets ≤ 21 + (k : Int)) ∧ Hid (∀ x ∈ vs, I64 x) ∧ Hid (Below B0 w wr)) (fun i _ => f3.length - (intOf i).toNat)
          case atStart => exact ⟨0, _, _, rfl, Nat.zero_le _, Nat.zero_le _, HSt, HBt, ⟨HSe.out.1, by have := HSe.out.2; omega⟩, HVs, HB⟩
          case round =>
            clear HSt HBt HSe HVs HB
            obtain ⟨k, s, vs, rfl, hk1, hk2, HSt, HBt, HSe, HVs, HB⟩ := hrel
            by_cases hlt : k < f3.length ∧ k < l.length
            · obtain ⟨hl1, hl2⟩ := hlt
              obtain ⟨b, o, rfl, hbB, hcs⟩ := (R3.out _ HB.out).2 (by omega)
              have ck := hcs k (.int .i64 f3[k]) (by unfold intsV; rw [List.getElem?_map, List.getElem?_eq_getElem hl1]; rfl)
              clear hcs
              have hv64 : I64 f3[k] := I3.out _ (List.getElem_mem hl1)
              generalize f3[k] = v at *
              have j1 : (0 : Int) ≤ (k : Int) := by omega
              have j2 : (k : Int) < (f3.length : Int) := by omega
              have j3 : decide (k < f3.length) = true := by simpa using hl1
              have j4 : decide (k < l.length) = true := by simpa using hl2
              have HC := Lib.hid (HBt.out.set k v (Nat.le_trans HSt.out.rest.small (by omega)) (by have := HSe.out; omega) (by have := HSe.out; omega))
              have HSt2 := Lib.hid (HSt.out.set hl2 hv64)
              have HVs2 := Lib.hid (setV_i64 (l := l) (k := k) HVs.out hv64)
              have HSe2 : Hid (1 ≤ (setM s k v).1.sets ∧ (setM s k v).1.sets ≤ 21 + ((k + 1 : Nat) : Int)) := by
                have h1 := set_sets s k v
                have h2 := h1.lo
                have h3 := h1.hi
                have h4 := HSe.out
                exact ⟨by omega, by omega⟩
              clear HSt HSe HVs HBt
              go_wp2_with fail
              refine HC.out.mono ?_
              rintro e w3 ⟨rfl, hB3, hb3⟩
              have HC2 := Lib.hid (hB3.rset hl2 h64 v)
              have HB3 := Lib.hid (HB.out.trans hb3)
              obtain ⟨b', o', ho', _, hcs'⟩ := (R3.out _ HB3.out).2 (by omega)
              injection ho' with ho'
              injection ho' with ho1 ho2 _
              subst ho1 ho2
              have ck3 := hb3.cell (p := ⟨b, o + k, none⟩) (by show b < B0; omega)
              rw [ck] at ck3
              clear hB3 hb3 HC ck hcs'
              go_wp2_with fail
              refine HC2.out.mono ?_
              rintro e w4 ⟨⟨bb, rfl⟩, hB4, hb4⟩
              have HBt4 := Lib.hid hB4
              have HB4 := Lib.hid (HB3.out.trans hb4)
              clear hB4 hb4 HC2 ck3
              go_wp2_with fail
              go_roundw
              case rel => exact ⟨k + 1, _, _, by go_num, by omega, by omega, HSt2, HBt4, HSe2, HVs2, HB4⟩
              case measure => simp [intOf]; omega
            · have hke : k ≤ 20 := by omega
              rcases Nat.lt_or_ge k f3.length with hf1 | hf1
              · have j3 : decide (k < f3.length) = true := by simpa using hf1
                have j4 : decide (k < l.length) = false := by simp; omega
                clear hlt hf1
                go_wp2_with fail
                go_meet
                exact ⟨s, vs, HSt, HBt, ⟨HSe.out.1, by have := HSe.out.2; omega⟩, HVs, HB⟩
              · have j3 : decide (k < f3.length) = false := by simp; omega
                clear hlt hf1
                go_wp2_with fail
                go_meet
                exact ⟨s, vs, HSt, HBt, ⟨HSe.out.1, by have := HSe.out.2; omega⟩, HVs, HB⟩
        case rest =>
          clear HSt HBt HSe HB HVs
          obtain ⟨s3, vs3, HSt, HBt, HSe, HVs, HB⟩ := hcut
          go_wp2_with fail
          go_loopw [15] (fun i wr => ∃ (k : Nat) (s : Sh), i = .int .i64 k ∧ k ≤ l.length ∧ Hid (St l vs3 s (1 + 64 * f2.length + 64 * k)) ∧ Hid (Both wr B0 sp H1 H2 rp ps vc rb rc s l vs3) ∧ Hid (Below B0 w wr)) (fun i _ => l.length - (intOf i).toNat)
          case atStart => exact ⟨0, s3, rfl, Nat.zero_le _, HSt, HBt, HB⟩
          case round =>
            clear HSt HBt HB
            obtain ⟨k, s, rfl, hk, HSt, HBt, HB⟩ := hrel
            by_cases hlt : k < l.length
            · have j1 : (0 : Int) ≤ (k : Int) := by omega
              have j2 : (k : Int) < (l.length : Int) := by omega
              have j3 : decide (k < l.length) = true := by simpa using hlt
              have hC := HBt.out.get HSt.out.rest (by omega) (k : Int)
              have ht := HSt.out.true_ hlt
              obtain ⟨g1, g2⟩ := HSt.out.get (by omega) (k : Int)
              have HSt2 : Hid (St l vs3 (getM s k).1 (1 + 64 * f2.length + 64 * (k + 1))) := ⟨g1.rest.mono (by omega), g1.inv, g1.mt⟩
              obtain ⟨⟨tn, tr⟩, hT⟩ : ∃ T, trueM l vs3 (l.length + 1) k (List.replicate l.length false) = T := ⟨_, rfl⟩
              rw [hT] at ht
              rw [ht] at hC
              have HT := Lib.hid hT
              have HC := Lib.hid hC
              clear hT hC ht g1 g2 HSt HBt
              simp only at HC
              cases tr with
              | true =>
                simp only [if_true] at HC
                go_wp2_with fail
                refine HC.out.mono ?_
                rintro e w3 ⟨rfl, hB3, hb3⟩
                have HBt3 := Lib.hid hB3
                have HB3 := Lib.hid (HB.out.trans hb3)
                clear hB3 hb3 HC
                simp only [errQ]
                have hmk := make_any (z := .bool false) Tryd.underlying37 infoBool7 l.length (by omega) (by omega) w3
                have hgB := Blk.new w3 4 (madeCells #[.bool false] (l.length * 1))
                have hb4 : Below w3.heap.size w3 (w3.alloc (.cells (madeCells #[.bool false] (l.length * 1)) 4)) := (Below.refl _ _).alloc (Nat.le_refl _) _
                rw [show (Value.bool false).cells = #[.bool false] from rfl, Nat.mul_one] at hmk
                rw [Nat.mul_one] at hgB hb4
                have HBt4 := Lib.hid (HBt3.out.below hb4)
                have hz3 : B0 ≤ w3.heap.size := by have h1 := HBt3.out.b1; have h2 := HBt3.out.b2; have h3 := HBt3.out.b3; omega
                have HB4 := Lib.hid (HB3.out.trans (hb4.mono hz3))
                have hz4 := hb4.size
                have hRd : Rd (w3.alloc (.cells (madeCells #[.bool false] l.length) 4)) (w3.alloc (.cells (madeCells #[.bool false] l.length) 4)).heap.size 1 (some ⟨w3.heap.size, 0, none⟩) l.length (onV (List.replicate l.length false)) := by
                  refine ⟨by simp [onV], fun _ => ⟨_, 0, rfl, hgB.lt, fun j u hu => ?_⟩⟩
                  rw [Nat.zero_add, hgB.cell j, ← Array.getElem?_toList, toList_madeCells_one, ← hu]
                  unfold onV
                  rw [List.map_replicate]
                have hTr := true_ok (l.length + 1) (w3.alloc (.cells (madeCells #[.bool false] l.length) 4)) H1 H2 rp l vs3 k (some ⟨w3.heap.size, 0, none⟩) l.length (List.replicate l.length false) HBt4.out.rf HBt4.out.b3 HOk.out HVs.out hlt (by simp) (by rw [List.length_replicate]; exact hRd) (by
                  have : offs (List.replicate l.length false) ≤ (List.replicate l.length false).length := List.countP_le_length
                  simp at this
                  omega)
                rw [List.length_replicate, HT.out] at hTr
                have HTr := Lib.hid hTr
                clear hgB hb4 hRd hTr
                go_wp2_with fail
                refine HTr.out.mono ?_
                rintro e w5 ⟨rfl, hb5⟩
                go_upto_region 25 with fail
                have hb6 : Below (w3.alloc (.cells (madeCells #[.bool false] l.length) 4)).heap.size (w3.alloc (.cells (madeCells #[.bool false] l.length) 4)) (w5.alloc (.cells #[.int .i64 tn, .bool true] 35)) := hb5.alloc hb5.size _
                have HBt6 := Lib.hid (HBt4.out.below hb6)
                have HB6 := Lib.hid (HB4.out.trans (hb6.mono (by omega)))
                have hB18 := Blk.new w5 35 #[.int .i64 tn, .bool true]
                obtain ⟨b18, hb18⟩ : ∃ b18, b18 = w5.heap.size := ⟨_, rfl⟩
                rw [← hb18] at hB18 ⊢
                have hz6 := hb6.size
                clear hb18 hb5 hb6 HTr hmk
                generalize w5.alloc (.cells #[.int .i64 tn, .bool true] 35) = w6 at *
                have t0 := hB18.cell 0
                have t1 := hB18.cell 1
                simp at t0 t1
                go_wp2_with fail
                refine (ring_walk tn true _).mono ?_
                rintro e w7 ⟨rfl, hb7⟩
                have HBt7 := Lib.hid (HBt6.out.below hb7)
                have hz7 := hb7.size
                have HB7 := Lib.hid (HB6.out.trans (hb7.mono (by omega)))
                have hB187 := hB18.below hb7 hB18.lt
                clear hb7 t0 t1
                go_wp2_with fail
                refine (show Calls _ _ _ w7 _ from error_yes 7 7 w7 (GG.out _ HB7.out) (by decide)).mono ?_
                rintro e w8 ⟨rfl, hb8⟩
                have HBt8 := Lib.hid (HBt7.out.below hb8)
                have HB8 := Lib.hid (HB7.out.trans (hb8.mono (by omega)))
                have hB188 := hB187.below hb8 hB187.lt
                have t0 := hB188.cell 0
                simp at t0
                have tnn : (tn != tn) = false := by simp
                clear hb8
                go_wp2_with fail
                go_roundw
                case rel => exact ⟨k + 1, _, by go_num, by omega, HSt2, HBt8, HB8⟩
                case measure => simp [intOf]; omega
              | false =>
                simp only [Bool.false_eq_true, if_false] at HC
                go_wp2_with fail
                refine HC.out.mono ?_
                rintro e w3 ⟨rfl, hB3, hb3⟩
                have HBt3 := Lib.hid hB3
                have HB3 := Lib.hid (HB.out.trans hb3)
                clear hB3 hb3 HC
                simp only [errQ]
                have hmk := make_any (z := .bool false) Tryd.underlying37 infoBool7 l.length (by omega) (by omega) w3
                have hgB := Blk.new w3 4 (madeCells #[.bool false] (l.length * 1))
                have hb4 : Below w3.heap.size w3 (w3.alloc (.cells (madeCells #[.bool false] (l.length * 1)) 4)) := (Below.refl _ _).alloc (Nat.le_refl _) _
                rw [show (Value.bool false).cells = #[.bool false] from rfl, Nat.mul_one] at hmk
                rw [Nat.mul_one] at hgB hb4
                have HBt4 := Lib.hid (HBt3.out.below hb4)
                have hz3 : B0 ≤ w3.heap.size := by have h1 := HBt3.out.b1; have h2 := HBt3.out.b2; have h3 := HBt3.out.b3; omega
                have HB4 := Lib.hid (HB3.out.trans (hb4.mono hz3))
                have hz4 := hb4.size
                have hRd : Rd (w3.alloc (.cells (madeCells #[.bool false] l.length) 4)) (w3.alloc (.cells (madeCells #[.bool false] l.length) 4)).heap.size 1 (some ⟨w3.heap.size, 0, none⟩) l.length (onV (List.replicate l.length false)) := by
                  refine ⟨by simp [onV], fun _ => ⟨_, 0, rfl, hgB.lt, fun j u hu => ?_⟩⟩
                  rw [Nat.zero_add, hgB.cell j, ← Array.getElem?_toList, toList_madeCells_one, ← hu]
                  unfold onV
                  rw [List.map_replicate]
                have hTr := true_ok (l.length + 1) (w3.alloc (.cells (madeCells #[.bool false] l.length) 4)) H1 H2 rp l vs3 k (some ⟨w3.heap.size, 0, none⟩) l.length (List.replicate l.length false) HBt4.out.rf HBt4.out.b3 HOk.out HVs.out hlt (by simp) (by rw [List.length_replicate]; exact hRd) (by
                  have : offs (List.replicate l.length false) ≤ (List.replicate l.length false).length := List.countP_le_length
                  simp at this
                  omega)
                rw [List.length_replicate, HT.out] at hTr
                have HTr := Lib.hid hTr
                clear hgB hb4 hRd hTr
                go_wp2_with fail
                refine HTr.out.mono ?_
                rintro e w5 ⟨rfl, hb5⟩
                go_upto_region 25 with fail
                have hb6 : Below (w3.alloc (.cells (madeCells #[.bool false] l.length) 4)).heap.size (w3.alloc (.cells (madeCells #[.bool false] l.length) 4)) (w5.alloc (.cells #[.int .i64 tn, .bool false] 35)) := hb5.alloc hb5.size _
                have HBt6 := Lib.hid (HBt4.out.below hb6)
                have HB6 := Lib.hid (HB4.out.trans (hb6.mono (by omega)))
                have hB18 := Blk.new w5 35 #[.int .i64 tn, .bool false]
                obtain ⟨b18, hb18⟩ : ∃ b18, b18 = w5.heap.size := ⟨_, rfl⟩
                rw [← hb18] at hB18 ⊢
                have hz6 := hb6.size
                clear hb18 hb5 hb6 HTr hmk
                generalize w5.alloc (.cells #[.int .i64 tn, .bool false] 35) = w6 at *
                have t0 := hB18.cell 0
                have t1 := hB18.cell 1
                simp at t0 t1
                go_wp2_with fail
                refine (ring_walk tn false _).mono ?_
                rintro e w7 ⟨rfl, hb7⟩
                have HBt7 := Lib.hid (HBt6.out.below hb7)
                have hz7 := hb7.size
                have HB7 := Lib.hid (HB6.out.trans (hb7.mono (by omega)))
                have hB187 := hB18.below hb7 hB18.lt
                clear hb7 t0 t1
                go_wp2_with fail
                refine (show Calls _ _ _ w7 _ from error_yes 0 0 w7 (GG.out _ HB7.out) (by decide)).mono ?_
                rintro e w8 ⟨rfl, hb8⟩
                have HBt8 := Lib.hid (HBt7.out.below hb8)
                have HB8 := Lib.hid (HB7.out.trans (hb8.mono (by omega)))
                have hB188 := hB187.below hb8 hB187.lt
                have t0 := hB188.cell 0
                simp at t0
                have tnn : (tn != tn) = false := by simp
                clear hb8
                go_wp2_with fail
                go_roundw
                case rel => exact ⟨k + 1, _, by go_num, by omega, HSt2, HBt8, HB8⟩
                case measure => simp [intOf]; omega
            · have j3 : decide (k < l.length) = false := by simpa using hlt
              have HE := Lib.hid (FIN.out _ HB.out)
              clear hlt hk
              go_wp2_with fail
              go_ret
              exact ⟨rfl, HE.out⟩
end Go.Proofs.YtnadldoebfmgmaaDoor.q
