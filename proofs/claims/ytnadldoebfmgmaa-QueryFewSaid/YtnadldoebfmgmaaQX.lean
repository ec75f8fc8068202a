/-
  THE WALK of the law QueryFew, itself.
-/
import Derived.Test.YtnadldoebfmgmaaQW
namespace Go.Proofs.Ytnadldoebfmgmaa.q
open Go.RowKit

section
variable {N : Nat → Prop} {w w' : World} {base sp rb rc : Nat} {lk : Int} {ps : List Nat} {vc : Value} {s : Sh}
/-- one more block is kept from the sheet -/
theorem ShAt.more (h : ShAt N w base sp lk ps vc rb rc s) (hb : Below w.heap.size w w') {g : Nat} (hg : w.heap.size ≤ g) : ShAt (fun j => N j ∨ j = g) w' base sp lk ps vc rb rc s :=
  h.other (fun j hj _ => hb.block j hj) fun j hj => hj.imp id fun e => by omega
end

/-- the rules, the numbers: what the law reads -/
structure FewIn (w : World) (A1 : Option Addr) (l : List Ru) (A2 : Option Addr) (first : List Int) : Prop where
  ru : Rd w w.heap.size 4 A1 l.length (ruCells l)
  fi : Rd w w.heap.size 1 A2 first.length (intsV first)
  n1 : (l.length : Int) ≤ 100000000000000
  n2 : (first.length : Int) ≤ 100000000000000
  i64 : ∀ x ∈ first, I64 x

set_option maxHeartbeats 1000000 in
set_option maxRecDepth 100000 in
theorem few_bad (A1 : Option Addr) (c1 : Nat) (l : List Ru) (A2 : Option Addr) (c2 : Nat) (first : List Int) (key v : Int) (w : World) (h : FewIn w A1 l A2 first) (hf : faultM l ≠ 0) :
    Calls Try.prog 3 #[.slice A1 l.length c1, .slice A2 first.length c2, .int .i64 key, .int .i64 v] w fun e w' => e = .returned (.bool true) ∧ Below w.heap.size w w' := by
  have HI := Lib.hid h
  have HF := Lib.hid hf
  clear h hf
  go_enter Try.func3, Try.ntmps3
  go_wp2_with fail
  refine (lives_walk _).mono ?_
  rintro e w1 ⟨rfl, hb1⟩
  have hz1 := hb1.size
  have HN := Lib.hid (New_bad A1 c1 l w1 ((HI.out.ru.below hb1).more hz1) HF.out)
  have HB1 := Lib.hid hb1
  clear hb1
  go_wp2_with fail
  refine HN.out.mono ?_
  rintro e w2 ⟨rfl, hb2⟩
  have HB2 := Lib.hid (HB1.out.trans (hb2.mono hz1))
  clear hb2 HN
  go_wp2_with fail
  go_ret
  exact ⟨rfl, HB2.out⟩

set_option maxHeartbeats 8000000 in
set_option maxRecDepth 100000 in
theorem few_good (A1 : Option Addr) (c1 : Nat) (l : List Ru) (A2 : Option Addr) (c2 : Nat) (first : List Int) (key v : Int) (w : World) (h : FewIn w A1 l A2 first) (hf : faultM l = 0) (hv : I64 v) :
    Calls Try.prog 3 #[.slice A1 l.length c1, .slice A2 first.length c2, .int .i64 key, .int .i64 v] w fun e w' => e = .returned (.bool true) ∧ Below w.heap.size w w' := by
  have hn1 := h.n1
  have hn2 := h.n2
  have h64 := (fault_zero hf).1
  have HI := Lib.hid h
  have HF := Lib.hid hf
  have HV := Lib.hid hv
  have HR0 := Lib.hid (new_rest hf)
  clear h hf hv
  go_enter Try.func3, Try.ntmps3
  go_wp2_with fail
  refine (lives_walk _).mono ?_
  rintro e w1 ⟨rfl, hb1⟩
  have hz1 := hb1.size
  have HN := Lib.hid (New_good A1 c1 l w1 ((HI.out.ru.below hb1).more hz1) HF.out)
  have HB1 := Lib.hid hb1
  clear hb1
  go_wp2_with fail
  refine HN.out.mono ?_
  rintro e w2 ⟨sp, ps, vc, rb, rc, rfl, hS2, hb2⟩
  have hpl : ps.length = l.length := by rw [hS2.len]; simp [newS]
  have Hpl := Lib.hid hpl
  have HS2 := Lib.hid hS2
  have HB2 := Lib.hid hb2
  have hz2 := hb2.size
  clear hb2 HN hpl hS2
  obtain ⟨H, hH⟩ : ∃ H, H = w1.heap.size := ⟨_, rfl⟩
  have HS0 : Hid (ShAt (fun j => j < H) w2 H sp 0 ps vc rb rc (newS l)) := by rw [hH]; exact HS2.out
  have HB0 : Hid (Below H w1 w2) := by rw [hH]; exact HB2.out
  have hHw : w.heap.size ≤ H := by omega
  have hH2 : H ≤ w2.heap.size := by omega
  clear HS2 HB2 hz1 hz2 hH
  have RU : Hid (∀ wr, Below H w1 wr → Rd wr w.heap.size 4 A1 l.length (ruCells l)) := fun wr hb => (HI.out.ru.below HB1.out).below (hb.mono hHw)
  have RF : Hid (∀ wr, Below H w1 wr → Rd wr w.heap.size 1 A2 first.length (intsV first)) := fun wr hb => (HI.out.fi.below HB1.out).below (hb.mono hHw)
  have FIN : Hid (∀ wr, Below H w1 wr → Below w.heap.size w wr) := fun wr hb => HB1.out.trans (hb.mono hHw)
  have I64F := Lib.hid HI.out.i64
  clear HI HB1
  go_wp2_with fail
  -- the inputs
  go_loopw [12] (fun i wr => ∃ k : Nat, i = .int .i64 k ∧ k ≤ first.length ∧ H ≤ wr.heap.size ∧ Hid (ShAt (fun j => j < H) wr H sp 0 ps vc rb rc (setTo (newS l) first k)) ∧ Hid (Below H w1 wr)) (fun i _ => first.length - (intOf i).toNat)
  case atStart => exact ⟨0, rfl, Nat.zero_le _, hH2, HS0, HB0⟩
  case round =>
    clear HS0 HB0 hH2
    obtain ⟨k, rfl, hk, hzr, HS, HB⟩ := hrel
    by_cases hlt : k < first.length
    · obtain ⟨b, o, rfl, hbB, hcs⟩ := (RF.out _ HB.out).2 (by omega)
      have ck := hcs k (.int .i64 first[k]) (by unfold intsV; rw [List.getElem?_map, List.getElem?_eq_getElem hlt]; rfl)
      clear hcs
      have i1 : (0 : Int) ≤ (k : Int) := by omega
      have i2 : (k : Int) < (first.length : Int) := by omega
      have i3 : decide (k < first.length) = true := by simpa using hlt
      have a1 := setTo_all (newS l) first k
      have a2 := a1.hi
      have a3 := a1.lo
      have a4 : (setTo (newS l) first k).cs.length ≤ 1048576 := by rw [a1.len]; simp [newS]; omega
      have a5 : (newS l).sets = 1 := rfl
      have HC := Lib.hid (Set_walk HS.out k first[k] a4 (by omega) (by omega))
      have HE : Hid ((setM (setTo (newS l) first k) k first[k]).1 = setTo (newS l) first (k + 1)) := by
        show _ = (setM _ _ (first.getD k 0)).1
        rw [List.getD_eq_getElem?_getD, List.getElem?_eq_getElem hlt]; rfl
      clear a1 a2 a3 a4 a5
      go_wp2_with fail
      refine HC.out.mono ?_
      rintro e w3 ⟨rfl, hS3, _, hb3⟩
      rw [HE.out] at hS3
      have HS3 := Lib.hid hS3
      have HB3 := Lib.hid (HB.out.trans hb3)
      have hz3 := hb3.size
      clear hS3 hb3 HC
      go_wp2_with fail
      go_roundw
      case rel => exact ⟨k + 1, by go_num, by omega, by omega, HS3, HB3⟩
      case measure => simp [intOf]; omega
    · have i3 : decide (k < first.length) = false := by simpa using hlt
      have hke : k = first.length := by omega
      have HS1 : Hid (ShAt (fun j => j < H) wr H sp 0 ps vc rb rc (setTo (newS l) first first.length)) := by rw [← hke]; exact HS.out
      have HR1 := Lib.hid (setTo_rest HR0.out I64F.out first.length (Nat.le_refl _))
      have HE1 : Hid (setTo (newS l) first first.length = setTo (newS l) first first.length) := rfl
      obtain ⟨s1, hs1⟩ : ∃ s1, setTo (newS l) first first.length = s1 := ⟨_, rfl⟩
      rw [hs1] at HS1 HR1
      have Hs1 := Lib.hid hs1
      clear hs1 HE1 hke HS HR0
      have hzw : H ≤ wr.heap.size := hzr
      have HBr : Hid (Below H w1 wr) := HB.out
      have hl1 : s1.cs.length = l.length := by rw [← Hs1.out, (setTo_all _ _ _).len]; simp [newS]
      have HL1 := Lib.hid hl1
      clear hzr HB hlt hk hl1
      go_wp2_with fail
      -- all cells are asked for
      go_loopw [13] (fun i wq => ∃ k : Nat, i = .int .i64 k ∧ k ≤ l.length ∧ H ≤ wq.heap.size ∧ Hid (ShAt (fun j => j < H) wq H sp 0 ps vc rb rc (getTo s1 k)) ∧ Hid (Below H w1 wq)) (fun i _ => l.length - (intOf i).toNat)
      case atStart => exact ⟨0, rfl, Nat.zero_le _, hzw, HS1, HBr⟩
      case round =>
        clear HS1 HBr hzw
        obtain ⟨k, rfl, hk, hzq, HS, HB⟩ := hrel
        by_cases hlt : k < l.length
        · have i1 : (0 : Int) ≤ (k : Int) := by omega
          have i2 : (k : Int) < (l.length : Int) := by omega
          have i3 : decide (k < l.length) = true := by simpa using hlt
          have HC := Lib.hid (Get_walk HS.out (fun j hj => by omega) hzq (getTo_rest HR1.out (by omega) k (by omega)).1 (by omega) k)
          go_wp2_with fail
          refine HC.out.mono ?_
          rintro e w3 ⟨rfl, hS3, _, hb3⟩
          have HS3 : Hid (ShAt (fun j => j < H) w3 H sp 0 ps vc rb rc (getTo s1 (k + 1))) := hS3
          have HB3 := Lib.hid (HB.out.trans hb3)
          have hz3 := hb3.size
          clear hS3 hb3 HC
          go_wp2_with fail
          go_roundw
          case rel => exact ⟨k + 1, by go_num, by omega, by omega, HS3, HB3⟩
          case measure => simp [intOf]; omega
        · have i3 : decide (k < l.length) = false := by simpa using hlt
          have hke : k = l.length := by omega
          have HS2 : Hid (ShAt (fun j => j < H) wr H sp 0 ps vc rb rc (getTo s1 l.length)) := by rw [← hke]; exact HS.out
          have HR2 := Lib.hid (getTo_rest HR1.out (by omega) l.length (by omega))
          obtain ⟨s2, hs2⟩ : ∃ s2, getTo s1 l.length = s2 := ⟨_, rfl⟩
          rw [hs2] at HS2 HR2
          have Hs2 := Lib.hid hs2
          have hzw : H ≤ wr.heap.size := hzq
          have HBq : Hid (Below H w1 wr) := HB.out
          clear hs2 hke HS HR1 hzq HB hlt hk
          go_wp2_with fail
          have hsm2 : s2.cs.length ≤ 1048576 := Nat.le_trans HR2.out.1.small (by omega)
          refine (Runs_walk HS2.out hsm2).mono ?_
          rintro e w4 ⟨g1, rfl, hg1, hgz1, hb4⟩
          rw [Hpl.out]
          have HS4 := Lib.hid (HS2.out.more hb4 hgz1)
          have HG4 := Lib.hid hg1
          have HB4 := Lib.hid (HBq.out.trans (hb4.mono hzw))
          have hz4 := hb4.size
          have hg1l := hg1.lt
          clear HS2 HBq hb4 hg1 hsm2
          -- what the key's cell is
          have hn4 : ∀ j, (j < H ∨ j = g1) → j < w4.heap.size := fun j hj => by omega
          have HC3 := Lib.hid (Get_walk HS4.out hn4 (by omega) HR2.out.1 (by omega) key)
          obtain ⟨R3, _, _⟩ := get_rest (k := key) HR2.out.1 (by omega)
          obtain ⟨x3, hx3⟩ : ∃ x, getM s2 key = x := ⟨_, rfl⟩
          rw [hx3] at HC3 R3
          have Hx3 := Lib.hid hx3
          obtain ⟨s3, was, er3⟩ := x3
          simp only at R3
          have HR3 := Lib.hid R3
          clear hx3 R3 hn4
          go_wp2_with fail
          refine HC3.out.mono ?_
          rintro e w5 ⟨rfl, hS5, hk5, hb5⟩
          have HS5 : Hid (ShAt (fun j => j < H ∨ j = g1) w5 H sp 0 ps vc rb rc s3) := hS5
          have HG5 : Hid (Blk w5 g1 3 (runsV s2)) := (hk5 g1 (.inr rfl)).trans HG4.out
          have HB5 := Lib.hid (HB4.out.trans hb5)
          have hz5 := hb5.size
          clear HS4 HG4 HB4 hS5 hk5 hb5 HC3
          have a1 := setTo_all (newS l) first first.length
          rw [Hs1.out] at a1
          have hse1 : s1.sets ≤ 1 + (first.length : Int) := a1.hi
          have hse2 : 1 ≤ s1.sets := a1.lo
          have k2 := HR2.out.2.sets
          have k3 := (get_rest (k := key) HR2.out.1 (by omega)).2.2.sets
          rw [Hx3.out] at k3
          simp only at k3
          have HC4 := Lib.hid (Set_walk HS5.out key v (Nat.le_trans HR3.out.small (by omega)) (by omega) (by omega))
          have R4 := set_rest (k := key) (v := v) HR3.out HV.out
          obtain ⟨x4, hx4⟩ : ∃ x, setM s3 key v = x := ⟨_, rfl⟩
          have her : x4.2 = 0 ∨ x4.2 = 1 := by
            rw [← hx4]; unfold setM; split
            · exact .inl rfl
            · exact .inr rfl
          rw [hx4] at HC4 R4
          have Hx4 := Lib.hid hx4
          obtain ⟨s4, er4⟩ := x4
          simp only at R4 her
          have HR4 := Lib.hid R4
          clear hx4 R4 a1 hse1 hse2 k2 k3
          rcases her with rfl | rfl
          · simp only [errQ] at HC4
            go_wp2_with fail
            refine HC4.out.mono ?_
            rintro e w6 ⟨rfl, hS6, hk6, hb6⟩
            have HS6 : Hid (ShAt (fun j => j < H ∨ j = g1) w6 H sp 0 ps vc rb rc s4) := hS6
            have HG6 : Hid (Blk w6 g1 3 (runsV s2)) := (hk6 g1 (.inr rfl)).trans HG5.out
            have HB6 := Lib.hid (HB5.out.trans hb6)
            have hz6 := hb6.size
            have hlaw : ∀ j, j < l.length → FewOk l s2 (getTo s4 l.length) was v j :=
              few_law HF.out I64F.out HV.out Hs1.out Hs2.out (by rw [Hx3.out]) (by rw [Hx3.out]) (by rw [Hx4.out]) (by rw [Hx4.out]) rfl
            have Hlaw := Lib.hid hlaw
            have hg6 : g1 < w6.heap.size := by omega
            have hH6 : H ≤ w6.heap.size := by omega
            have hl4 : s4.cs.length = l.length := by
              have e1 := (set_sets s3 key v).len
              have e2 := (get_rest (k := key) HR2.out.1 (by omega)).2.2.len
              have e3 := HR2.out.2.len
              rw [Hx4.out] at e1
              rw [Hx3.out] at e2
              have := HL1.out
              simp only at e1 e2
              omega
            have hl2 : s2.cs.length = l.length := by have := HR2.out.2.len; have := HL1.out; omega
            have HL4 := Lib.hid hl4
            have HL2 := Lib.hid hl2
            clear hS6 hk6 hb6 HC4 HS5 HG5 HB5 hlaw hz4 hz5 hz6 hzw hgz1 hg1l hl4 hl2
            go_wp2_with fail
            -- and asked for again
            go_loopw [17] (fun i wr => ∃ k : Nat, i = .int .i64 k ∧ k ≤ l.length ∧ H ≤ wr.heap.size ∧ g1 < wr.heap.size ∧ Hid (ShAt (fun j => j < H ∨ j = g1) wr H sp 0 ps vc rb rc (getTo s4 k)) ∧ Hid (Blk wr g1 3 (runsV s2)) ∧ Hid (Below H w1 wr)) (fun i _ => l.length - (intOf i).toNat)
            case atStart => exact ⟨0, rfl, Nat.zero_le _, hH6, hg6, HS6, HG6, HB6⟩
            case round =>
              clear HS6 HG6 HB6 hH6 hg6
              obtain ⟨k, rfl, hk, hzq, hgq, HS, HG, HB⟩ := hrel
              by_cases hlt : k < l.length
              · have i1 : (0 : Int) ≤ (k : Int) := by omega
                have i2 : (k : Int) < (l.length : Int) := by omega
                have i3 : decide (k < l.length) = true := by simpa using hlt
                have HC := Lib.hid (Get_walk HS.out (fun j hj => by omega) hzq (getTo_rest HR4.out (by omega) k (by omega)).1 (by omega) k)
                go_wp2_with fail
                refine HC.out.mono ?_
                rintro e w7 ⟨rfl, hS7, hk7, hb7⟩
                have HS7 : Hid (ShAt (fun j => j < H ∨ j = g1) w7 H sp 0 ps vc rb rc (getTo s4 (k + 1))) := hS7
                have HG7 : Hid (Blk w7 g1 3 (runsV s2)) := (hk7 g1 (.inr rfl)).trans HG.out
                have HB7 := Lib.hid (HB.out.trans hb7)
                have hz7 := hb7.size
                clear hS7 hk7 hb7 HC
                go_wp2_with fail
                go_roundw
                case rel => exact ⟨k + 1, by go_num, by omega, by omega, by omega, HS7, HG7, HB7⟩
                case measure => simp [intOf]; omega
              · have i3 : decide (k < l.length) = false := by simpa using hlt
                have hke : k = l.length := by omega
                have HS8 : Hid (ShAt (fun j => j < H ∨ j = g1) wr H sp 0 ps vc rb rc (getTo s4 l.length)) := by rw [← hke]; exact HS.out
                have hr5 := (getTo_rest HR4.out (by omega) l.length (by omega))
                have hl5 : (getTo s4 l.length).cs.length = l.length := by rw [hr5.2.len, HL4.out]
                obtain ⟨s5, hs5⟩ : ∃ s5, getTo s4 l.length = s5 := ⟨_, rfl⟩
                rw [hs5] at HS8 Hlaw hl5
                have HL5 := Lib.hid hl5
                have HBr : Hid (Below H w1 wr) := HB.out
                have HGr : Hid (Blk wr g1 3 (runsV s2)) := HG.out
                have hH8 : H ≤ wr.heap.size := hzq
                clear hr5 hs5 hl5 hke HS hzq hgq HB HG hlt hk
                go_wp2_with fail
                refine (Runs_walk HS8.out (by rw [HL5.out]; omega)).mono ?_
                rintro e w8 ⟨g2, rfl, hg2, hgz2, hb8⟩
                rw [Hpl.out]
                have HG8 := Lib.hid (HGr.out.below hb8 HGr.out.lt)
                have HG9 := Lib.hid hg2
                have HB8 := Lib.hid (HBr.out.trans (hb8.mono hH8))
                have hnn : ((l.length : Int) != (l.length : Int)) = false := by simp
                clear HS8 HGr HBr hb8 hg2 hgz2 hH8
                have hlaw := Hlaw.out
                have I2 : Hid (∀ j, j < l.length → (runsV s2)[j]? = some (.int .i64 (s2.at j).runs) ∧ (runsV s5)[j]? = some (.int .i64 (s5.at j).runs)) := fun j hj => by
                  have h1 := runsL_get (s := s2) (j := j) (by rw [HL2.out]; exact hj)
                  have h2 := runsL_get (s := s5) (j := j) (by rw [HL5.out]; exact hj)
                  have e : ∀ s : Sh, (runsV s)[j]? = ((runsL s)[j]?).map fun n => Value.int .i64 n := fun s => by
                    show ((s.cs.map fun c => Value.int .i64 c.runs).toArray)[j]? = _
                    unfold runsL
                    rw [List.getElem?_toArray, List.getElem?_map, List.getElem?_map, Option.map_map]; rfl
                  rw [e, e, h1, h2]; exact ⟨rfl, rfl⟩
                clear hlaw
                go_wp2_with fail
                -- the counts
                go_loopw [19] (fun i wr => ∃ k : Nat, i = .int .i64 k ∧ k ≤ l.length ∧ Hid (Blk wr g1 3 (runsV s2)) ∧ Hid (Blk wr g2 3 (runsV s5)) ∧ Hid (Below H w1 wr)) (fun i _ => l.length - (intOf i).toNat)
                case atStart => exact ⟨0, rfl, Nat.zero_le _, HG8, HG9, HB8⟩
                case round =>
                  clear HG8 HG9 HB8
                  obtain ⟨k, rfl, hk, HG1, HG2, HB⟩ := hrel
                  by_cases hlt : k < l.length
                  · have i1 : (0 : Int) ≤ (k : Int) := by omega
                    have i2 : (k : Int) < (l.length : Int) := by omega
                    have i3 : decide (k < l.length) = true := by simpa using hlt
                    obtain ⟨b, o, rfl, hbB, hcs⟩ := Rd_ru (RU.out _ HB.out) hlt
                    obtain ⟨r0, _, _, _⟩ := hcs k hlt
                    clear hcs
                    have cu := (HG1.out.cell k).trans (I2.out k hlt).1
                    have cw := (HG2.out.cell k).trans (I2.out k hlt).2
                    obtain ⟨⟨q1, q2⟩, ⟨q3, q4⟩, q5, q6⟩ := Hlaw.out k hlt
                    have HQ5 := Lib.hid q5
                    have HQ6 := Lib.hid (q6 hlt)
                    clear q5 q6
                    generalize (s2.at k).runs = u at *
                    generalize (s5.at k).runs = x at *
                    generalize l[k].op = op at r0 HQ6
                    have d1 : decide ((1 : Int) < u) = false := by simp; omega
                    have d2 : decide (x < u) = false := by simp; omega
                    have d3 : IntKind.i64.wrap (u + 1) = u + 1 := IntWalk.i64_in _ (by omega)
                    have d4 : decide (u + 1 < x) = false := by simp; omega
                    by_cases hwv : was = v
                    · have d5 : (was == v) = true := by simpa using hwv
                      have d6 : (x != u) = false := by simpa using HQ5.out hwv
                      clear hwv
                      by_cases hop : op = 0
                      · have d7 : (op == 0) = true := by simpa using hop
                        have d8 : (x != 0) = false := by simpa using HQ6.out hop
                        clear hop d3
                        go_wp2_with fail
                        go_quiet (fail)
                        go_wp2_with fail
                        go_roundw
                        case rel => exact ⟨k + 1, by go_num, by omega, HG1, HG2, below_drewN HB.out _⟩
                        case measure => simp [intOf]; omega
                      · have d7 : (op == 0) = false := by simpa using hop
                        clear hop
                        go_wp2_with fail
                        go_quiet (fail)
                        go_wp2_with fail
                        go_roundw
                        case rel => exact ⟨k + 1, by go_num, by omega, HG1, HG2, below_drewN HB.out _⟩
                        case measure => simp [intOf]; omega
                    · have d5 : (was == v) = false := by simpa using hwv
                      clear hwv
                      by_cases hop : op = 0
                      · have d7 : (op == 0) = true := by simpa using hop
                        have d8 : (x != 0) = false := by simpa using HQ6.out hop
                        clear hop
                        go_wp2_with fail
                        go_quiet (fail)
                        go_wp2_with fail
                        go_roundw
                        case rel => exact ⟨k + 1, by go_num, by omega, HG1, HG2, below_drewN HB.out _⟩
                        case measure => simp [intOf]; omega
                      · have d7 : (op == 0) = false := by simpa using hop
                        clear hop
                        go_wp2_with fail
                        go_quiet (fail)
                        go_wp2_with fail
                        go_roundw
                        case rel => exact ⟨k + 1, by go_num, by omega, HG1, HG2, below_drewN HB.out _⟩
                        case measure => simp [intOf]; omega
                  · have i3 : decide (k < l.length) = false := by simpa using hlt
                    have HE := Lib.hid (FIN.out _ HB.out)
                    clear hlt hk
                    go_wp2_with fail
                    go_ret
                    exact ⟨rfl, HE.out⟩
          · simp only [errQ] at HC4
            go_wp2_with fail
            refine HC4.out.mono ?_
            rintro e w6 ⟨rfl, hS6, hk6, hb6⟩
            have HB6 := Lib.hid (FIN.out _ (HB5.out.trans hb6))
            clear hS6 hk6 hb6
            go_wp2_with fail
            go_ret
            exact ⟨rfl, HB6.out⟩
end Go.Proofs.Ytnadldoebfmgmaa.q
