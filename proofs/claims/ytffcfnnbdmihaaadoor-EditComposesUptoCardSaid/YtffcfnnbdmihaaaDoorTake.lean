/-
  THE WALK of edit.over$1 (take).
-/
import Derived.Test.YtffcfnnbdmihaaaDoorOvSt
import Derived.Test.YtffcfnnbdmihaaaDoorRegG
import Derived.Deep.LoopGhost
namespace Go.Proofs.YtffcfnnbdmihaaaDoor.cp
open Go.RowKit

theorem cut0 (p : Pc) (k : Nat) (w : World) (hp : Fine p) (hk : (k : Int) ≤ p.size) :
    Calls Tryd.prog 82 #[.agg #[.int .i64 p.f, .int .i64 p.t, .string p.s, .bool p.put], .int .i64 0, .int .i64 k] w fun e w' =>
      e = .returned (.agg #[.int .i64 (p.cut 0 k).f, .int .i64 (p.cut 0 k).t, .string (p.cut 0 k).s, .bool (p.cut 0 k).put]) ∧ Below w.heap.size w w' :=
  cut_walk p 0 k w hp (Nat.zero_le _) hk
theorem cutk (p : Pc) (k : Nat) (w : World) (hp : Fine p) (hk : (k : Int) ≤ p.size) :
    Calls Tryd.prog 82 #[.agg #[.int .i64 p.f, .int .i64 p.t, .string p.s, .bool p.put], .int .i64 k, .int .i64 p.size] w fun e w' =>
      e = .returned (.agg #[.int .i64 (p.cut k p.size.toNat).f, .int .i64 (p.cut k p.size.toNat).t, .string (p.cut k p.size.toNat).s, .bool (p.cut k p.size.toNat).put]) ∧ Below w.heap.size w w' := by
  have e : ((p.size.toNat : Nat) : Int) = p.size := by omega
  have := cut_walk p k p.size.toNat w hp (by omega) (by omega)
  rw [e] at this
  exact this

theorem slice1 (b o n c : Nat) (h : n + 1 ≤ c) : ∃ ad : Addr, (∀ w : World, (Instr.slice 120 (.slice (some ⟨b, o, none⟩) (n + 1) c) (some (.int .i64 1)) none none).run Tryd.prog w = .ok (.slice (some ad) n (c - 1)) w) ∧ (0 < n → ad = ⟨b, o + 4, none⟩) := by
  have hs : ∀ w : World, (sizeOf (Tryd.prog.elem 120)).run Tryd.prog w = .ok 4 w := fun w => by kernel_rfl
  have hu : Tryd.prog.underlying 120 = some (.slice (Tryd.prog.elem 120)) := by kernel_rfl
  by_cases hc : c = 1
  · subst hc
    obtain rfl : n = 0 := by omega
    refine ⟨⟨b, o, none⟩, fun w => ?_, fun h => absurd h (by omega)⟩
    rw [run_slice_l w _ _ _ _ hu .i64 1 (by omega) (by omega), hs]
    rfl
  · refine ⟨⟨b, o + 4, none⟩, fun w => ?_, fun _ => rfl⟩
    rw [run_slice_l w _ _ _ _ hu .i64 1 (by omega) (by omega), hs]
    simp [Result.andThen, sliced, Addr.add, hc]
section
variable {P : Program} {w : World}
theorem step_append_own {ops : Array Oper} {o : Oper} {a : Act} {K : Act → World → Prop} {Q : Exit → Act → World → Prop} {E : Prop} (hgd : o.guard = none) (s x : Operand) (t : TypeId)
    (ho : o.op = .call { callee := .builtin .append, args := #[s, x], argTypes := #[t, t] })
    (base : Nat) (e : TypeId) (i : TypeInfo) (z : Value) (size bytes : Nat) (ht : P.underlying t = some (.slice e)) (hi : P.info? e = some i) (hz : i.zero = some z)
    (hsize : i.size = size) (hby : i.bytes = bytes) (hzs : z.cells.size = size) (hsz : 0 < size)
    (v : Value) (n : Nat) (xs : List Value) (hs : a.eval s = v) (hown : w.ownsRow base e size v n xs)
    (ad : Addr) (m c : Nat) (news : List Value) (hx : a.eval x = .slice (some ad) m c) (hl : news.length = m * size) (hnews : ∀ j u, news[j]? = some u → w.cell? (ad.add j) = some u) (h1 : ∀ u ∈ news, u.oneCell' = true)
    (h63 : n + m ≤ maxLen) (hbytes : (n + m) * bytes ≤ 140737488355328) (hbase : base ≤ w.heap.size)
    (h : ∀ v' w', w'.ownsRow base e size v' (n + m) (xs ++ news) → w.grownBy w' v.ownBlock → K (a.put o.dst v') w') :
    if Region.wanted o (yielded ops a.tmps) = true then Oper.wp P o a w K Q else E := by
  have hw : Region.wanted o (yielded ops a.tmps) = true := by simp [Region.wanted, hgd]
  rw [if_pos hw]
  exact wp_append_own w s x t ho base e i z size bytes ht hi hz hsize hby hzs hsz v n xs hs hown ad m c news hx hl hnews h1 h63 hbytes hbase fun v' w' h2 h3 _ => h v' w' h2 h3
end
theorem own_new4 {w : World} {g base : Nat} {e : TypeId} {cs : Array Value} (h : Blk w g e cs) (hs : cs.size = 4) (hb : base ≤ g) : w.ownsRow base e 4 (.slice (some ⟨g, 0, none⟩) 1 1) 1 cs.toList :=
  ⟨by simp [hs], .inr ⟨g, 1, cs, rfl, hb, h, by omega, by unfold maxLen; omega, by omega, by rw [List.take_of_length_le (by simp [hs])]⟩⟩

theorem rd_pc0 {w : World} {B : Nat} {A : Option Addr} {p : Pc} {r : List Pc} (h : Rd w B 4 A (p :: r).length (pcCells (p :: r))) :
    ∃ b o, A = some ⟨b, o, none⟩ ∧ b < B ∧ w.cell? ⟨b, o, none⟩ = some (.int .i64 p.f) ∧ w.cell? ⟨b, o + 1, none⟩ = some (.int .i64 p.t) ∧ w.cell? ⟨b, o + 2, none⟩ = some (.string p.s) ∧ w.cell? ⟨b, o + 3, none⟩ = some (.bool p.put) := by
  obtain ⟨b, o, e, hb, h0, h1, h2, h3⟩ := rd_pc (k := 0) h (by simp)
  refine ⟨b, o, e, hb, ?_, ?_, ?_, ?_⟩
  · simpa using h0
  · simpa using h1
  · simpa using h2
  · simpa using h3

set_option maxHeartbeats 4000000 in
set_option maxRecDepth 100000 in
theorem take_keep (text : List UInt8) (base ba bl bo : Nat) (a0 z : Int) (l0 out0 : List Pc) (w : World) (hO : OvS w base ba bl bo a0 l0 out0) (hs : PSort text.length 0 (out0 ++ l0)) (ha0 : 0 ≤ a0) (hz : a0 ≤ z) (hX : z - a0 ≤ (meanL text l0).length) (hz2 : z ≤ 16777216)
    (hn : text.length ≤ 1048576) (hby : pcBytes (out0 ++ l0) ≤ 16777216) (hlen : out0.length + l0.length ≤ 16777215) (hbase : base ≤ w.heap.size) :
    Calls Tryd.prog 80 #[.int .i64 z, .bool true, .pointer (some ⟨ba, 0, none⟩), .pointer (some ⟨bl, 0, none⟩), .pointer (some ⟨bo, 0, none⟩)] w fun e w' => e = .returned (.tuple #[]) ∧
      (∃ l out, OvS w' base ba bl bo z l out ∧ TakeI text true a0 z l0 out0 z l out) ∧ KeepX ovT w w' ∧ Below base w w' := by
  obtain ⟨i0, ji, jz0, jz1, jz2⟩ := info_parts infoPc
  have HS := Lib.hid hs
  have HX := Lib.hid hX
  clear hs hX
  go_enter Tryd.func80, Tryd.ntmps80
  go_wp2_with fail
  go_loopg [] (z - a0).toNat (fun g wr => ∃ a l out, (z - a).toNat ≤ g ∧ OvS wr base ba bl bo a l out ∧ Hid (TakeI text true a0 z l0 out0 a l out) ∧ Hid (KeepX ovT w wr) ∧ Below base w wr)
  case atStart => exact ⟨a0, l0, out0, Nat.le_refl _, hO, takeI_start hz HS.out, KeepX.refl _ _, Below.refl _ _⟩
  case round =>
    clear hO
    obtain ⟨a, l, out, hg, ⟨A, c, v, hO⟩, HT, HK, hb⟩ := hrel
    have hbs := hb.size
    have ha1 := HT.out.lo
    have ha2 := HT.out.hi
    by_cases hlt : a < z
    · obtain ⟨p, r, rfl⟩ := HT.out.first hlt HX.out
      obtain ⟨hF, hp0, hp1⟩ := HT.out.fine hn hby
      have hTl := HT.out.len
      rw [if_pos hlt] at hTl
      obtain ⟨b, o, rfl, hbB, q0, q1, q2, q3⟩ := rd_pc0 hO.rd
      have ca := hO.at_.cell 0
      have cl := hO.left.cell 0
      simp at ca cl
      have hcap := hO.cap
      simp only [List.length_cons] at hcap hTl
      have i1 : (0 : Int) < ((r.length + 1 : Nat) : Int) := by omega
      go_upto_region 2 with fail
      have hP1 : Blk (wr.alloc (Obj.cells #[Value.int IntKind.i64 p.f, Value.int IntKind.i64 p.t, Value.string p.s, Value.bool p.put] 132)) wr.heap.size 132 #[Value.int IntKind.i64 p.f, Value.int IntKind.i64 p.t, Value.string p.s, Value.bool p.put] := Blk.new _ _ _
      have hbw1 : Below wr.heap.size wr (wr.alloc (Obj.cells #[Value.int IntKind.i64 p.f, Value.int IntKind.i64 p.t, Value.string p.s, Value.bool p.put] 132)) := (Below.refl _ _).alloc (Nat.le_refl _) _
      have hO1 := hO.below hbw1
      have HK1 : Hid (KeepX ovT w (wr.alloc (Obj.cells #[Value.int IntKind.i64 p.f, Value.int IntKind.i64 p.t, Value.string p.s, Value.bool p.put] 132))) := HK.out.alloc _
      have hb1 : Below base w (wr.alloc (Obj.cells #[Value.int IntKind.i64 p.f, Value.int IntKind.i64 p.t, Value.string p.s, Value.bool p.put] 132)) := hb.trans (hbw1.mono (by omega))
      obtain ⟨pB, hpB⟩ : ∃ pB, pB = wr.heap.size := ⟨_, rfl⟩
      rw [← hpB] at hP1 ⊢
      have hbo := hO.left.lt
      have hob := rd_lt hO.rd (by simp) b o rfl
      have hvb : ∀ g, v.ownBlock = some g → g < pB := fun g hg => by rw [hpB]; exact (hO.own.lt g hg).2
      have hfar := hO.far (by simp) b o rfl
      have hobp : b < pB := by omega
      clear hO ca cl q0 q1 q2 q3 HK hb hbw1 hbs hbo hob hpB hbB
      generalize wr.alloc (Obj.cells #[Value.int IntKind.i64 p.f, Value.int IntKind.i64 p.t, Value.string p.s, Value.bool p.put] 132) = w1 at *
      have p0 := hP1.cell 0
      have p1 := hP1.cell 1
      have p2 := hP1.cell 2
      have p3 := hP1.cell 3
      have ca := hO1.at_.cell 0
      simp at p0 p1 p2 p3 ca
      have hpl := hP1.lt
      have hal := hO1.at_.lt
      have hzw : IntKind.i64.wrap (z - a) = z - a := IntWalk.i64_in _ (by omega)
      go_region_held3 (fun w' => w'.cell? ⟨pB, 0, none⟩ = some (.int .i64 p.f) ∧ w'.cell? ⟨pB, 1, none⟩ = some (.int .i64 p.t) ∧ w'.cell? ⟨pB, 2, none⟩ = some (.string p.s) ∧ w'.cell? ⟨pB, 3, none⟩ = some (.bool p.put) ∧ w'.cell? ⟨ba, 0, none⟩ = some (.int .i64 a)) (first | (go_keep; done) | exact ⟨(hb2.cell (p := ⟨pB, 0, none⟩) hpl).trans p0, (hb2.cell (p := ⟨pB, 1, none⟩) hpl).trans p1, (hb2.cell (p := ⟨pB, 2, none⟩) hpl).trans p2, (hb2.cell (p := ⟨pB, 3, none⟩) hpl).trans p3, (hb2.cell (p := ⟨ba, 0, none⟩) hal).trans ca⟩) ((go_at_call 81; refine (size_walk p _ hF).mono ?_; rintro e w2 ⟨rfl, hb2⟩))
      have hb2' : Below w1.heap.size w1 w2 := (Below.refl _ _).drew.trans hb2
      have hO2 := hO1.below hb2'
      have hP2 := hP1.below hb2' hpl
      have hz2' := hb2'.size
      have HK2 : Hid (KeepX ovT w w2) := HK1.out.below hb2' (Nat.le_refl _)
      have hbW2 := hb1.trans (hb2'.mono (Nat.le_trans hbase hb1.size))
      obtain ⟨k, hk⟩ : ∃ k : Nat, min p.size (z - a) = k := ⟨(min p.size (z - a)).toNat, by omega⟩
      have hk0 : 0 < k := by omega
      have hkp : (k : Int) ≤ p.size := by omega
      have hkz : a + (k : Int) ≤ z := by omega
      have Hmin : Hid ((k : Int) = p.size ∨ a + (k : Int) = z) := by show _ ∨ _; omega
      have Hk := Lib.hid hk
      clear hO1 hP1 p0 p1 p2 p3 ca hpl hal hzw hb2 hb2' HK1 hb1 hk
      go_upto_region 4 with fail
      rw [Hk.out]
      clear Hk
      refine wp_region_G 6 (fun w' : World => w'.cell? ⟨pB, 0, none⟩ = some (.int .i64 p.f) ∧ w'.cell? ⟨pB, 1, none⟩ = some (.int .i64 p.t) ∧ w'.cell? ⟨pB, 2, none⟩ = some (.string p.s) ∧ w'.cell? ⟨pB, 3, none⟩ = some (.bool p.put) ∧ w'.cell? ⟨bo, 0, none⟩ = some v) (by kernel_rfl) ?_
      have hO3 : OvV w2.drew base ba bl bo a (some ⟨b, o, none⟩) c (p :: r) v out := hO2.below (Below.refl _ _).drew
      have hP3 : Blk w2.drew pB 132 #[Value.int IntKind.i64 p.f, Value.int IntKind.i64 p.t, Value.string p.s, Value.bool p.put] := hP2
      have HK3 : Hid (KeepX ovT w w2.drew) := HK2.out
      have hbW3 : Below base w w2.drew := hbW2.drew
      clear hO2 hP2 HK2 hbW2 hz2'
      generalize w2.drew = w3 at *
      have p0 := hP3.cell 0
      have p1 := hP3.cell 1
      have p2 := hP3.cell 2
      have p3 := hP3.cell 3
      have co := hO3.made.cell 0
      simp at p0 p1 p2 p3 co
      have hS0 : (fun w' : World => w'.cell? ⟨pB, 0, none⟩ = some (.int .i64 p.f) ∧ w'.cell? ⟨pB, 1, none⟩ = some (.int .i64 p.t) ∧ w'.cell? ⟨pB, 2, none⟩ = some (.string p.s) ∧ w'.cell? ⟨pB, 3, none⟩ = some (.bool p.put) ∧ w'.cell? ⟨bo, 0, none⟩ = some v) w3 := ⟨p0, p1, p2, p3, co⟩
      refine wpAnyG_take (i := 0) (v := ?_) rfl (by kernel_rfl) (by kernel_rfl) (by kernel_rfl) (by kernel_rfl) (fun _ _ _ h => h) (Or.inl ⟨by rfl, ?_⟩) hS0 ?_; rotate_left; · (intro w hSw; (try dsimp only at hSw); obtain ⟨s0, s1, s2, s3, s4⟩ := hSw; go_simp; try with_reducible rfl)
      simp only [Act.put, List.setIfInBounds_toArray]
      refine wpAnyG_take (i := 1) (v := ?_) rfl (by kernel_rfl) (by kernel_rfl) (by kernel_rfl) (by kernel_rfl) (fun _ _ _ h => h) (Or.inl ⟨by rfl, ?_⟩) hS0 ?_; rotate_left; · (intro w hSw; (try dsimp only at hSw); obtain ⟨s0, s1, s2, s3, s4⟩ := hSw; go_simp; try with_reducible rfl)
      simp only [Act.put]
      refine wpAnyG_take (i := 2) (v := ?_) rfl (by kernel_rfl) (by kernel_rfl) (by kernel_rfl) (by kernel_rfl) (fun _ _ _ h => h) (Or.inl ⟨by rfl, ?_⟩) hS0 ?_; rotate_left; · (intro w hSw; (try dsimp only at hSw); obtain ⟨s0, s1, s2, s3, s4⟩ := hSw; go_simp; try with_reducible rfl)
      simp only [Act.put]
      refine wpAnyG_one (i := 3) (by kernel_rfl) rfl (fun K hK => ?_)
      go_simp
      refine (cut0 p k _ hF hkp).mono ?_
      rintro e w4 ⟨rfl, hb4⟩
      generalize hq : p.cut 0 k = q
      have Hq := Lib.hid hq
      clear hq
      have hO4 := hO3.below hb4
      have hP4 := hP3.below hb4 hP3.lt
      have HK4 : Hid (KeepX ovT w w4) := HK3.out.below hb4 (Nat.le_refl _)
      have hbW4 := hbW3.trans (hb4.mono (Nat.le_trans hbase hbW3.size))
      clear hO3 hP3 HK3 hbW3 hb4 p0 p1 p2 p3 co hS0
      have p0 := hP4.cell 0
      have p1 := hP4.cell 1
      have p2 := hP4.cell 2
      have p3 := hP4.cell 3
      have co := hO4.made.cell 0
      simp at p0 p1 p2 p3 co
      have hPl := hP4.lt
      have hol := hO4.made.lt
      have hz4 : base ≤ w4.heap.size := Nat.le_trans hbase hbW4.size
      refine hK.out _ _ (fun _ => ⟨p0, p1, p2, p3, co⟩) ?_
      clear hK K
      refine wpAnyG_one (i := 4) (by kernel_rfl) rfl (fun K hK => ?_)
      go_simp
      refine hK.out _ _ (fun _ => ⟨(cell_alloc _ _ _ _ hPl).trans p0, (cell_alloc _ _ _ _ hPl).trans p1, (cell_alloc _ _ _ _ hPl).trans p2, (cell_alloc _ _ _ _ hPl).trans p3, (cell_alloc _ _ _ _ hol).trans co⟩) ?_
      clear hK K
      refine wpAnyG_one (i := 5) (by kernel_rfl) rfl (fun K hK => ?_)
      have hnp : some pB ≠ v.ownBlock := fun e => Nat.lt_irrefl _ (hvb pB e.symm)
      have hno0 : some bo ≠ v.ownBlock := own_ne hO4.own hO4.made (by decide)
      refine step_append_lies _ (by rfl) _ _ _ (by rfl) base 132 i0 _ 4 40 Tryd.underlying120 ji jz0 jz1 jz2 rfl (by omega) v out.length (pcCells out) (by rfl) (hO4.own.alloc (.cells #[.int .i64 q.f, .int .i64 q.t, .string q.s, .bool q.put] 132)) ⟨w4.heap.size, 0, none⟩ 1 1 [.int .i64 q.f, .int .i64 q.t, .string q.s, .bool q.put] (by rfl) (by rfl) (World.news_of_block (cs := #[.int .i64 q.f, .int .i64 q.t, .string q.s, .bool q.put]) (t := 132) (fr := (0, 0)) (heap_alloc_new w4 _)) (by simp [Value.oneCell']) (by omega) (by unfold maxLen; omega) (by omega) (by simp; omega) (w4.heap.size + 1) (by simp) ?_; intro gg cap' w5 hown5 hgrow hat hlt5; have hP5 := (hP4.alloc (.cells #[.int .i64 q.f, .int .i64 q.t, .string q.s, .bool q.put] 132)).grown hgrow hnp; have hB5 := (hO4.made.alloc (.cells #[.int .i64 q.f, .int .i64 q.t, .string q.s, .bool q.put] 132)).grown hgrow hno0; have d0 := hP5.cell 0; have d1 := hP5.cell 1; have d2 := hP5.cell 2; have d3 := hP5.cell 3; have d4 := hB5.cell 0; have f4 := hB5.frozen 0; simp at d0 d1 d2 d3 d4
      refine hK.out _ _ (fun _ => ⟨d0, d1, d2, d3, d4⟩) ?_
      clear hK K
      refine wpAnyG_one (i := 6) (by kernel_rfl) rfl (fun K hK => ?_)
      go_simp
      refine hK.out _ _ (fun h => absurd rfl h) ?_
      clear hK K
      refine wpAnyG_done (by kernel_rfl) ?_ _
      obtain ⟨hO6, hk6, hb6⟩ := hO4.push hz4 hgrow hown5 hat
      have hP6 := hP5.far (p := ⟨bo, 0, none⟩) (blk_ne hP5 hB5 (by decide)) (.slice (some ⟨gg, 0, none⟩) (out.length + 1) cap')
      have HK6 := Lib.hid (HK4.out.trans hk6)
      have hbW6 := hbW4.trans hb6
      have hgb : gg ≠ b := fun e => by
        rcases hat with h | h
        · exact hfar (by rw [h, e])
        · have := hP4.lt; omega
      clear hown5 hgrow hat hlt5 hP5 hB5 d0 d1 d2 d3 d4 f4 hk6 hb6 hO4 hP4 HK4 hbW4 p0 p1 p2 p3 co hPl hol hnp hz4
      generalize (World.setCell w5 ⟨bo, 0, none⟩ (.slice (some ⟨gg, 0, none⟩) (out.length + 1) cap')) = w6 at *
      have ca := hO6.at_.cell 0
      have fa := hO6.at_.frozen 0
      simp at ca
      have hab : 0 ≤ a + (k : Int) := by omega
      have hab2 : a + (k : Int) ≤ 16777216 := by omega
      obtain ⟨hO7, hk7, hb7⟩ := hO6.seta (a + k)
      have hP7 := hP6.far (p := ⟨ba, 0, none⟩) (blk_ne hP6 hO6.at_ (by decide)) (.int .i64 (a + k))
      have HK7 := Lib.hid (HK6.out.trans hk7)
      have hbW7 := hbW6.trans hb7
      have p0 := hP7.cell 0
      have p1 := hP7.cell 1
      have p2 := hP7.cell 2
      have p3 := hP7.cell 3
      simp at p0 p1 p2 p3
      go_wp2_with fail
      clear hO6 hP6 HK6 hbW6 hk7 hb7 ca fa p0 p1 p2 p3
      generalize (World.setCell w6 ⟨ba, 0, none⟩ (.int .i64 (a + k))) = w7 at *
      refine (size_walk p _ hF).mono ?_
      rintro e w8 ⟨rfl, hb8⟩
      have hO8 := hO7.below hb8
      have hP8 := hP7.below hb8 hP7.lt
      have HK8 : Hid (KeepX ovT w w8) := HK7.out.below hb8 (Nat.le_refl _)
      have hbW8 := hbW7.trans (hb8.mono (Nat.le_trans hbase hbW7.size))
      clear hO7 hP7 HK7 hbW7 hb8
      have HT9 := Lib.hid (HT.out.step hk0 hkp hkz Hmin.out)
      obtain ⟨ad, hsl, had⟩ := slice1 b o r.length c hcap
      have Had := Lib.hid had
      clear had
      have hfar8 : 0 < r.length → ∀ b' o', (some ad : Option Addr) = some ⟨b', o', none⟩ → (Value.slice (some { block := gg, off := 0 }) (out.length + 1) cap').ownBlock ≠ some b' := fun hr b' o' e => by
        rw [Had.out hr] at e
        injection e with e
        injection e with e1 _ _
        subst e1
        simpa [Value.ownBlock] using hgb
      have Hfar8 := Lib.hid hfar8
      clear hfar8
      have cl := hO8.left.cell 0
      have fl := hO8.left.frozen 0
      simp at cl
      by_cases hkq : (k : Int) = p.size
      · have Hkq := Lib.hid hkq
        have hbq : ((k : Int) == p.size) = true := by simpa using hkq
        clear hkq
        have hrR : Rd w8 w8.heap.size 4 (some ad) r.length (pcCells r) := ⟨pcCells_len r, fun hr => by
          rw [Had.out hr]
          obtain ⟨b', o', e', hb', hc'⟩ := hO8.rd.2 (by simp)
          injection e' with e'
          injection e' with e1 e2 _
          subst e1 e2
          refine ⟨b, o + 4, rfl, hb', fun j u hu => ?_⟩
          have := hc' (4 + j) u (by
            have e4 : pcCells (p :: r) = pcCells [p] ++ pcCells r := pcCells_append [p] r
            rw [e4, List.getElem?_append_right (by rw [pcCells_len]; simp), pcCells_len]
            simpa using hu)
          rwa [show o + (4 + j) = o + 4 + j from by omega] at this⟩
        obtain ⟨hO9, hk9, hb9⟩ := hO8.setl hrR (by omega : r.length ≤ c - 1) (fun h => by cases h) Hfar8.out
        have HK9 := Lib.hid (HK8.out.trans hk9)
        have hbW9 := hbW8.trans hb9
        clear hk9 hb9 hrR HK8 hbW8
        go_wp2_with fail
        go_roundg (z - (a + k)).toNat
        case measure => omega
        case rel =>
          have hT := HT9.out
          have e1 : rest1 p r k = r := by unfold rest1; rw [if_pos Hkq.out]
          rw [e1, Hq.out] at hT
          simp only [if_true] at hT
          exact ⟨a + k, r, out ++ [q], Nat.le_refl _, ⟨_, _, _, hO9⟩, hT, HK9.out, hbW9⟩
      · have Hkq := Lib.hid hkq
        have hbq : ((k : Int) == p.size) = false := by simpa using hkq
        clear hkq
        go_upto_region 8 with fail
        refine wp_region_G 9 (fun w' : World => w'.cell? ⟨pB, 0, none⟩ = some (.int .i64 p.f) ∧ w'.cell? ⟨pB, 1, none⟩ = some (.int .i64 p.t) ∧ w'.cell? ⟨pB, 2, none⟩ = some (.string p.s) ∧ w'.cell? ⟨pB, 3, none⟩ = some (.bool p.put) ∧ w'.cell? ⟨bl, 0, none⟩ = some (.slice (some ⟨b, o, none⟩) (r.length + 1) c)) (by kernel_rfl) ?_
        have hOa : OvV w8.drew base ba bl bo (a + k) (some ⟨b, o, none⟩) c (p :: r) (.slice (some { block := gg, off := 0 }) (out.length + 1) cap') (out ++ [q]) := hO8.below (Below.refl _ _).drew
        have hPa : Blk w8.drew pB 132 #[Value.int IntKind.i64 p.f, Value.int IntKind.i64 p.t, Value.string p.s, Value.bool p.put] := hP8
        have HKa : Hid (KeepX ovT w w8.drew) := HK8.out
        have hbWa : Below base w w8.drew := hbW8.drew
        clear hO8 hP8 HK8 hbW8 cl fl
        generalize w8.drew = wa at *
        have p0 := hPa.cell 0
        have p1 := hPa.cell 1
        have p2 := hPa.cell 2
        have p3 := hPa.cell 3
        have cl := hOa.left.cell 0
        simp at p0 p1 p2 p3 cl
        have hS0 : (fun w' : World => w'.cell? ⟨pB, 0, none⟩ = some (.int .i64 p.f) ∧ w'.cell? ⟨pB, 1, none⟩ = some (.int .i64 p.t) ∧ w'.cell? ⟨pB, 2, none⟩ = some (.string p.s) ∧ w'.cell? ⟨pB, 3, none⟩ = some (.bool p.put) ∧ w'.cell? ⟨bl, 0, none⟩ = some (.slice (some ⟨b, o, none⟩) (r.length + 1) c)) wa := ⟨p0, p1, p2, p3, cl⟩
        refine wpAnyG_take (i := 0) (v := ?_) rfl (by kernel_rfl) (by kernel_rfl) (by kernel_rfl) (by kernel_rfl) (fun _ _ _ h => h) (Or.inl ⟨by rfl, ?_⟩) hS0 ?_; rotate_left; · (intro w hSw; (try dsimp only at hSw); obtain ⟨s0, s1, s2, s3, s4⟩ := hSw; go_simp; try with_reducible rfl)
        simp only [Act.put, List.setIfInBounds_toArray]
        refine wpAnyG_take (i := 1) (v := ?_) rfl (by kernel_rfl) (by kernel_rfl) (by kernel_rfl) (by kernel_rfl) (fun _ _ _ h => h) (Or.inl ⟨by rfl, ?_⟩) hS0 ?_; rotate_left; · (intro w hSw; (try dsimp only at hSw); obtain ⟨s0, s1, s2, s3, s4⟩ := hSw; go_simp; try with_reducible rfl)
        simp only [Act.put]
        refine wpAnyG_take (i := 2) (v := ?_) rfl (by kernel_rfl) (by kernel_rfl) (by kernel_rfl) (by kernel_rfl) (fun _ _ _ h => h) (Or.inl ⟨by rfl, ?_⟩) hS0 ?_; rotate_left; · (intro w hSw; (try dsimp only at hSw); obtain ⟨s0, s1, s2, s3, s4⟩ := hSw; go_simp; try with_reducible rfl)
        simp only [Act.put]
        refine wpAnyG_take (i := 6) (v := ?_) rfl (by kernel_rfl) (by kernel_rfl) (by kernel_rfl) (by kernel_rfl) (fun _ _ _ h => h) (Or.inl ⟨by rfl, ?_⟩) hS0 ?_; rotate_left; · (intro w hSw; (try dsimp only at hSw); obtain ⟨s0, s1, s2, s3, s4⟩ := hSw; go_simp; try with_reducible rfl)
        simp only [Act.put]
        refine wpAnyG_take (i := 7) (v := ?_) rfl (by kernel_rfl) (by kernel_rfl) (by kernel_rfl) (by kernel_rfl) (fun _ _ _ h => h) (Or.inl ⟨by rfl, ?_⟩) hS0 ?_; rotate_left; · (intro w hSw; (try dsimp only at hSw); obtain ⟨s0, s1, s2, s3, s4⟩ := hSw; go_simp; try with_reducible rfl)
        simp only [Act.put]
        refine wpAnyG_one (i := 3) (by kernel_rfl) rfl (fun K hK => ?_)
        go_simp
        refine (size_walk p _ hF).mono ?_
        rintro e wb ⟨rfl, hbb⟩
        clear hS0
        have hOb := hOa.below hbb
        have hPb := hPa.below hbb hPa.lt
        have HKb : Hid (KeepX ovT w wb) := HKa.out.below hbb (Nat.le_refl _)
        have hbWb := hbWa.trans (hbb.mono (Nat.le_trans hbase hbWa.size))
        clear hOa hPa HKa hbWa hbb p0 p1 p2 p3 cl
        have p0 := hPb.cell 0
        have p1 := hPb.cell 1
        have p2 := hPb.cell 2
        have p3 := hPb.cell 3
        have cl := hOb.left.cell 0
        simp at p0 p1 p2 p3 cl
        refine hK.out _ _ (fun _ => ⟨p0, p1, p2, p3, cl⟩) ?_
        clear hK K
        refine wpAnyG_one (i := 4) (by kernel_rfl) rfl (fun K hK => ?_)
        go_simp
        refine (cutk p k _ hF hkp).mono ?_
        rintro e wc ⟨rfl, hbc⟩
        generalize hq' : p.cut k p.size.toNat = q'
        have Hq' := Lib.hid hq'
        clear hq'
        have hOc := hOb.below hbc
        have hPc := hPb.below hbc hPb.lt
        have HKc : Hid (KeepX ovT w wc) := HKb.out.below hbc (Nat.le_refl _)
        have hbWc := hbWb.trans (hbc.mono (Nat.le_trans hbase hbWb.size))
        clear hOb hPb HKb hbWb hbc p0 p1 p2 p3 cl
        have p0 := hPc.cell 0
        have p1 := hPc.cell 1
        have p2 := hPc.cell 2
        have p3 := hPc.cell 3
        have cl := hOc.left.cell 0
        simp at p0 p1 p2 p3 cl
        have hPl := hPc.lt
        have hll := hOc.left.lt
        have hzc : base ≤ wc.heap.size := Nat.le_trans hbase hbWc.size
        refine hK.out _ _ (fun _ => ⟨p0, p1, p2, p3, cl⟩) ?_
        clear hK K
        refine wpAnyG_one (i := 5) (by kernel_rfl) rfl (fun K hK => ?_)
        go_simp
        refine hK.out _ _ (fun _ => ⟨(cell_alloc _ _ _ _ hPl).trans p0, (cell_alloc _ _ _ _ hPl).trans p1, (cell_alloc _ _ _ _ hPl).trans p2, (cell_alloc _ _ _ _ hPl).trans p3, (cell_alloc _ _ _ _ hll).trans cl⟩) ?_
        clear hK K
        refine wpAnyG_one (i := 8) (by kernel_rfl) rfl (fun K hK => ?_)
        have hown0 : (wc.alloc (.cells #[.int .i64 q'.f, .int .i64 q'.t, .string q'.s, .bool q'.put] 132)).ownsRow wc.heap.size 132 4 (.slice (some ⟨wc.heap.size, 0, none⟩) 1 1) 1 (#[.int .i64 q'.f, .int .i64 q'.t, .string q'.s, .bool q'.put] : Array Value).toList := own_new4 (Blk.new _ _ _) rfl (Nat.le_refl _)
        have hrows : ∀ j u, (pcCells r)[j]? = some u → (wc.alloc (.cells #[.int .i64 q'.f, .int .i64 q'.t, .string q'.s, .bool q'.put] 132)).cell? (ad.add j) = some u := fun j u hu => by
          have hr0 : 0 < r.length := by
            have := (List.getElem?_eq_some_iff.1 hu).1
            rw [pcCells_len] at this; omega
          obtain ⟨b', o', e', hb', hc'⟩ := hOc.rd.2 (by simp)
          injection e' with e'
          injection e' with e1 e2 _
          subst e1 e2
          have := hc' (4 + j) u (by
            have e4 : pcCells (p :: r) = pcCells [p] ++ pcCells r := pcCells_append [p] r
            rw [e4, List.getElem?_append_right (by rw [pcCells_len]; simp), pcCells_len]
            simpa using hu)
          rw [Had.out hr0]
          have e5 : (⟨b, o + 4, none⟩ : Addr).add j = ⟨b, o + (4 + j), none⟩ := by unfold Addr.add; split <;> simp_all <;> omega
          rw [e5]
          exact (cell_alloc _ _ _ _ hb').trans this
        have Hrows := Lib.hid hrows
        clear hrows
        refine step_append_own (by rfl) _ _ _ (by rfl) wc.heap.size 132 i0 _ 4 40 Tryd.underlying120 ji jz0 jz1 jz2 rfl (by omega) (.slice (some ⟨wc.heap.size, 0, none⟩) 1 1) 1 (#[.int .i64 q'.f, .int .i64 q'.t, .string q'.s, .bool q'.put] : Array Value).toList (by rfl) hown0 ad r.length (c - 1) (pcCells r) (by rfl) (by rw [pcCells_len]) Hrows.out (pcCells_oneCell r) (by unfold maxLen; omega) (by omega) (by simp) ?_; intro v5 w5' hown5 hgrow
        rw [Nat.add_comm 1 r.length] at hown5
        obtain ⟨A5, c5, rfl⟩ := own_form hown5
        have hb5 : Below wc.heap.size wc w5' := ((Below.refl _ _).alloc (Nat.le_refl _) _).grown hgrow (by simp) fun g hg => by simp only [Value.ownBlock, Option.some.injEq] at hg; omega
        have hO5 := hOc.below hb5
        have hP5 := hPc.below hb5 hPc.lt
        have HK5 : Hid (KeepX ovT w w5') := HKc.out.below hb5 (Nat.le_refl _)
        have hbW5 := hbWc.trans (hb5.mono hzc)
        have hvgg : gg < wc.heap.size := (hOc.own.lt gg rfl).2
        have p0 := hP5.cell 0
        have p1 := hP5.cell 1
        have p2 := hP5.cell 2
        have p3 := hP5.cell 3
        have cl := hO5.left.cell 0
        have fl := hO5.left.frozen 0
        simp at p0 p1 p2 p3 cl
        refine hK.out _ _ (fun _ => ⟨p0, p1, p2, p3, cl⟩) ?_
        clear hK K
        refine wpAnyG_one (i := 9) (by kernel_rfl) rfl (fun K hK => ?_)
        go_simp
        refine hK.out _ _ (fun h => absurd rfl h) ?_
        clear hK K
        refine wpAnyG_done (by kernel_rfl) ?_ _
        have hcells5 : (#[.int .i64 q'.f, .int .i64 q'.t, .string q'.s, .bool q'.put] : Array Value).toList ++ pcCells r = pcCells (q' :: r) := by
          rw [show q' :: r = [q'] ++ r from rfl, pcCells_append, pcCells_one]
        rw [hcells5] at hown5
        have hown5 : w5'.ownsRow wc.heap.size 132 4 (.slice A5 (q' :: r).length c5) (q' :: r).length (pcCells (q' :: r)) := hown5
        have hle5 : (q' :: r).length ≤ c5 := by
          rcases hown5.2 with ⟨_, hn⟩ | ⟨g, cap, cur, hv, _, _, hle, _⟩
          · simp at hn
          · injection hv with _ _ h3; omega
        have hf5 : 0 < (q' :: r).length → ∀ b' o', A5 = some ⟨b', o', none⟩ → (Value.slice (some { block := gg, off := 0 }) (out.length + 1) cap').ownBlock ≠ some b' := fun _ b' o' e e2 => by
          simp only [Value.ownBlock, Option.some.injEq] at e2
          obtain ⟨g, cap, hv, hbg, _⟩ := hown5.form (by simp)
          injection hv with hv _ _
          rw [e] at hv
          injection hv with hv
          injection hv with h1 _ _
          omega
        obtain ⟨hO9, hk9, hb9⟩ := hO5.setl (Rd.of_own hown5) hle5 (fun h => by obtain ⟨g, cap, hv, _, _⟩ := hown5.form (by simp); injection hv with hv _ _; rw [h] at hv; cases hv) hf5
        have HK9 := Lib.hid (HK5.out.trans hk9)
        have hbW9 := hbW5.trans hb9
        clear hk9 hb9 HK5 hbW5 hO5 hP5 hgrow hown5 p0 p1 p2 p3 cl fl hOc hPc HKc hbWc hown0 hb5 hcells5
        go_wp2_with fail
        go_roundg (z - (a + k)).toNat
        case measure => omega
        case rel =>
          have hT := HT9.out
          have e1 : rest1 p r k = q' :: r := by unfold rest1; rw [if_neg Hkq.out, Hq'.out]
          rw [e1, Hq.out] at hT
          simp only [if_true] at hT
          exact ⟨a + k, q' :: r, out ++ [q], Nat.le_refl _, ⟨_, _, _, hO9⟩, hT, HK9.out, hbW9⟩
    · obtain rfl : a = z := by omega
      have ca := hO.at_.cell 0
      simp at ca
      go_wp2_with fail
      go_end0
      exact ⟨rfl, ⟨l, out, ⟨A, c, v, hO⟩, HT.out⟩, HK.out, hb⟩
set_option maxHeartbeats 4000000 in
set_option maxRecDepth 100000 in
theorem take_skip (text : List UInt8) (base ba bl bo : Nat) (a0 z : Int) (l0 out0 : List Pc) (w : World) (hO : OvS w base ba bl bo a0 l0 out0) (hs : PSort text.length 0 (out0 ++ l0)) (ha0 : 0 ≤ a0) (hz : a0 ≤ z) (hX : z - a0 ≤ (meanL text l0).length) (hz2 : z ≤ 16777216)
    (hn : text.length ≤ 1048576) (hby : pcBytes (out0 ++ l0) ≤ 16777216) (hlen : out0.length + l0.length ≤ 16777215) (hbase : base ≤ w.heap.size) :
    Calls Tryd.prog 80 #[.int .i64 z, .bool false, .pointer (some ⟨ba, 0, none⟩), .pointer (some ⟨bl, 0, none⟩), .pointer (some ⟨bo, 0, none⟩)] w fun e w' => e = .returned (.tuple #[]) ∧
      (∃ l out, OvS w' base ba bl bo z l out ∧ TakeI text false a0 z l0 out0 z l out) ∧ KeepX ovT w w' ∧ Below base w w' := by
  obtain ⟨i0, ji, jz0, jz1, jz2⟩ := info_parts infoPc
  have HS := Lib.hid hs
  have HX := Lib.hid hX
  clear hs hX
  go_enter Tryd.func80, Tryd.ntmps80
  go_wp2_with fail
  go_loopg [] (z - a0).toNat (fun g wr => ∃ a l out, (z - a).toNat ≤ g ∧ OvS wr base ba bl bo a l out ∧ Hid (TakeI text false a0 z l0 out0 a l out) ∧ Hid (KeepX ovT w wr) ∧ Below base w wr)
  case atStart => exact ⟨a0, l0, out0, Nat.le_refl _, hO, takeI_start hz HS.out, KeepX.refl _ _, Below.refl _ _⟩
  case round =>
    clear hO
    obtain ⟨a, l, out, hg, ⟨A, c, v, hO⟩, HT, HK, hb⟩ := hrel
    have hbs := hb.size
    have ha1 := HT.out.lo
    have ha2 := HT.out.hi
    by_cases hlt : a < z
    · obtain ⟨p, r, rfl⟩ := HT.out.first hlt HX.out
      obtain ⟨hF, hp0, hp1⟩ := HT.out.fine hn hby
      have hTl := HT.out.len
      rw [if_pos hlt] at hTl
      obtain ⟨b, o, rfl, hbB, q0, q1, q2, q3⟩ := rd_pc0 hO.rd
      have ca := hO.at_.cell 0
      have cl := hO.left.cell 0
      simp at ca cl
      have hcap := hO.cap
      simp only [List.length_cons] at hcap hTl
      have i1 : (0 : Int) < ((r.length + 1 : Nat) : Int) := by omega
      go_upto_region 2 with fail
      have hP1 : Blk (wr.alloc (Obj.cells #[Value.int IntKind.i64 p.f, Value.int IntKind.i64 p.t, Value.string p.s, Value.bool p.put] 132)) wr.heap.size 132 #[Value.int IntKind.i64 p.f, Value.int IntKind.i64 p.t, Value.string p.s, Value.bool p.put] := Blk.new _ _ _
      have hbw1 : Below wr.heap.size wr (wr.alloc (Obj.cells #[Value.int IntKind.i64 p.f, Value.int IntKind.i64 p.t, Value.string p.s, Value.bool p.put] 132)) := (Below.refl _ _).alloc (Nat.le_refl _) _
      have hO1 := hO.below hbw1
      have HK1 : Hid (KeepX ovT w (wr.alloc (Obj.cells #[Value.int IntKind.i64 p.f, Value.int IntKind.i64 p.t, Value.string p.s, Value.bool p.put] 132))) := HK.out.alloc _
      have hb1 : Below base w (wr.alloc (Obj.cells #[Value.int IntKind.i64 p.f, Value.int IntKind.i64 p.t, Value.string p.s, Value.bool p.put] 132)) := hb.trans (hbw1.mono (by omega))
      obtain ⟨pB, hpB⟩ : ∃ pB, pB = wr.heap.size := ⟨_, rfl⟩
      rw [← hpB] at hP1 ⊢
      have hbo := hO.left.lt
      have hob := rd_lt hO.rd (by simp) b o rfl
      have hvb : ∀ g, v.ownBlock = some g → g < pB := fun g hg => by rw [hpB]; exact (hO.own.lt g hg).2
      have hfar := hO.far (by simp) b o rfl
      have hobp : b < pB := by omega
      clear hO ca cl q0 q1 q2 q3 HK hb hbw1 hbs hbo hob hpB hbB
      generalize wr.alloc (Obj.cells #[Value.int IntKind.i64 p.f, Value.int IntKind.i64 p.t, Value.string p.s, Value.bool p.put] 132) = w1 at *
      have p0 := hP1.cell 0
      have p1 := hP1.cell 1
      have p2 := hP1.cell 2
      have p3 := hP1.cell 3
      have ca := hO1.at_.cell 0
      simp at p0 p1 p2 p3 ca
      have hpl := hP1.lt
      have hal := hO1.at_.lt
      have hzw : IntKind.i64.wrap (z - a) = z - a := IntWalk.i64_in _ (by omega)
      go_region_held3 (fun w' => w'.cell? ⟨pB, 0, none⟩ = some (.int .i64 p.f) ∧ w'.cell? ⟨pB, 1, none⟩ = some (.int .i64 p.t) ∧ w'.cell? ⟨pB, 2, none⟩ = some (.string p.s) ∧ w'.cell? ⟨pB, 3, none⟩ = some (.bool p.put) ∧ w'.cell? ⟨ba, 0, none⟩ = some (.int .i64 a)) (first | (go_keep; done) | exact ⟨(hb2.cell (p := ⟨pB, 0, none⟩) hpl).trans p0, (hb2.cell (p := ⟨pB, 1, none⟩) hpl).trans p1, (hb2.cell (p := ⟨pB, 2, none⟩) hpl).trans p2, (hb2.cell (p := ⟨pB, 3, none⟩) hpl).trans p3, (hb2.cell (p := ⟨ba, 0, none⟩) hal).trans ca⟩) ((go_at_call 81; refine (size_walk p _ hF).mono ?_; rintro e w2 ⟨rfl, hb2⟩))
      have hb2' : Below w1.heap.size w1 w2 := (Below.refl _ _).drew.trans hb2
      have hO2 := hO1.below hb2'
      have hP2 := hP1.below hb2' hpl
      have hz2' := hb2'.size
      have HK2 : Hid (KeepX ovT w w2) := HK1.out.below hb2' (Nat.le_refl _)
      have hbW2 := hb1.trans (hb2'.mono (Nat.le_trans hbase hb1.size))
      obtain ⟨k, hk⟩ : ∃ k : Nat, min p.size (z - a) = k := ⟨(min p.size (z - a)).toNat, by omega⟩
      have hk0 : 0 < k := by omega
      have hkp : (k : Int) ≤ p.size := by omega
      have hkz : a + (k : Int) ≤ z := by omega
      have Hmin : Hid ((k : Int) = p.size ∨ a + (k : Int) = z) := by show _ ∨ _; omega
      have Hk := Lib.hid hk
      clear p0 p1 p2 p3 ca hpl hal hzw hb2 hb2' HK1 hb1 hk
      go_upto_region 5 with fail
      rw [Hk.out]
      clear Hk hO1 hP1
      have hO6 := hO2
      have hP6 := hP2
      have HK6 := HK2
      have hbW6 := hbW2
      clear hO2 hP2 HK2 hbW2 hz2'
      have w6e : ∃ w6, w6 = w2 := ⟨_, rfl⟩
      obtain ⟨w6, rfl⟩ := w6e
      have ca := hO6.at_.cell 0
      have fa := hO6.at_.frozen 0
      simp at ca
      have hab : 0 ≤ a + (k : Int) := by omega
      have hab2 : a + (k : Int) ≤ 16777216 := by omega
      obtain ⟨hO7, hk7, hb7⟩ := hO6.seta (a + k)
      have hP7 := hP6.far (p := ⟨ba, 0, none⟩) (blk_ne hP6 hO6.at_ (by decide)) (.int .i64 (a + k))
      have HK7 := Lib.hid (HK6.out.trans hk7)
      have hbW7 := hbW6.trans hb7
      have p0 := hP7.cell 0
      have p1 := hP7.cell 1
      have p2 := hP7.cell 2
      have p3 := hP7.cell 3
      simp at p0 p1 p2 p3
      go_wp2_with fail
      clear hO6 hP6 HK6 hbW6 hk7 hb7 ca fa p0 p1 p2 p3
      generalize (World.setCell w6 ⟨ba, 0, none⟩ (.int .i64 (a + k))) = w7 at *
      refine (size_walk p _ hF).mono ?_
      rintro e w8 ⟨rfl, hb8⟩
      have hO8 := hO7.below hb8
      have hP8 := hP7.below hb8 hP7.lt
      have HK8 : Hid (KeepX ovT w w8) := HK7.out.below hb8 (Nat.le_refl _)
      have hbW8 := hbW7.trans (hb8.mono (Nat.le_trans hbase hbW7.size))
      clear hO7 hP7 HK7 hbW7 hb8
      have HT9 := Lib.hid (HT.out.step hk0 hkp hkz Hmin.out)
      obtain ⟨ad, hsl, had⟩ := slice1 b o r.length c hcap
      have Had := Lib.hid had
      clear had
      have hfar8 : 0 < r.length → ∀ b' o', (some ad : Option Addr) = some ⟨b', o', none⟩ → v.ownBlock ≠ some b' := fun hr b' o' e => by
        rw [Had.out hr] at e
        injection e with e
        injection e with e1 _ _
        subst e1
        exact hfar
      have Hfar8 := Lib.hid hfar8
      clear hfar8
      have cl := hO8.left.cell 0
      have fl := hO8.left.frozen 0
      simp at cl
      by_cases hkq : (k : Int) = p.size
      · have Hkq := Lib.hid hkq
        have hbq : ((k : Int) == p.size) = true := by simpa using hkq
        clear hkq
        have hrR : Rd w8 w8.heap.size 4 (some ad) r.length (pcCells r) := ⟨pcCells_len r, fun hr => by
          rw [Had.out hr]
          obtain ⟨b', o', e', hb', hc'⟩ := hO8.rd.2 (by simp)
          injection e' with e'
          injection e' with e1 e2 _
          subst e1 e2
          refine ⟨b, o + 4, rfl, hb', fun j u hu => ?_⟩
          have := hc' (4 + j) u (by
            have e4 : pcCells (p :: r) = pcCells [p] ++ pcCells r := pcCells_append [p] r
            rw [e4, List.getElem?_append_right (by rw [pcCells_len]; simp), pcCells_len]
            simpa using hu)
          rwa [show o + (4 + j) = o + 4 + j from by omega] at this⟩
        obtain ⟨hO9, hk9, hb9⟩ := hO8.setl hrR (by omega : r.length ≤ c - 1) (fun h => by cases h) Hfar8.out
        have HK9 := Lib.hid (HK8.out.trans hk9)
        have hbW9 := hbW8.trans hb9
        clear hk9 hb9 hrR HK8 hbW8
        go_wp2_with fail
        go_roundg (z - (a + k)).toNat
        case measure => omega
        case rel =>
          have hT := HT9.out
          have e1 : rest1 p r k = r := by unfold rest1; rw [if_pos Hkq.out]
          rw [e1] at hT
          simp only [Bool.false_eq_true, if_false] at hT
          exact ⟨a + k, r, out, Nat.le_refl _, ⟨_, _, _, hO9⟩, hT, HK9.out, hbW9⟩
      · have Hkq := Lib.hid hkq
        have hbq : ((k : Int) == p.size) = false := by simpa using hkq
        clear hkq
        go_upto_region 8 with fail
        refine wp_region_G 9 (fun w' : World => w'.cell? ⟨pB, 0, none⟩ = some (.int .i64 p.f) ∧ w'.cell? ⟨pB, 1, none⟩ = some (.int .i64 p.t) ∧ w'.cell? ⟨pB, 2, none⟩ = some (.string p.s) ∧ w'.cell? ⟨pB, 3, none⟩ = some (.bool p.put) ∧ w'.cell? ⟨bl, 0, none⟩ = some (.slice (some ⟨b, o, none⟩) (r.length + 1) c)) (by kernel_rfl) ?_
        have hOa : OvV w8.drew base ba bl bo (a + k) (some ⟨b, o, none⟩) c (p :: r) v out := hO8.below (Below.refl _ _).drew
        have hPa : Blk w8.drew pB 132 #[Value.int IntKind.i64 p.f, Value.int IntKind.i64 p.t, Value.string p.s, Value.bool p.put] := hP8
        have HKa : Hid (KeepX ovT w w8.drew) := HK8.out
        have hbWa : Below base w w8.drew := hbW8.drew
        clear hO8 hP8 HK8 hbW8 cl fl
        generalize w8.drew = wa at *
        have p0 := hPa.cell 0
        have p1 := hPa.cell 1
        have p2 := hPa.cell 2
        have p3 := hPa.cell 3
        have cl := hOa.left.cell 0
        simp at p0 p1 p2 p3 cl
        have hS0 : (fun w' : World => w'.cell? ⟨pB, 0, none⟩ = some (.int .i64 p.f) ∧ w'.cell? ⟨pB, 1, none⟩ = some (.int .i64 p.t) ∧ w'.cell? ⟨pB, 2, none⟩ = some (.string p.s) ∧ w'.cell? ⟨pB, 3, none⟩ = some (.bool p.put) ∧ w'.cell? ⟨bl, 0, none⟩ = some (.slice (some ⟨b, o, none⟩) (r.length + 1) c)) wa := ⟨p0, p1, p2, p3, cl⟩
        refine wpAnyG_take (i := 0) (v := ?_) rfl (by kernel_rfl) (by kernel_rfl) (by kernel_rfl) (by kernel_rfl) (fun _ _ _ h => h) (Or.inl ⟨by rfl, ?_⟩) hS0 ?_; rotate_left; · (intro w hSw; (try dsimp only at hSw); obtain ⟨s0, s1, s2, s3, s4⟩ := hSw; go_simp; try with_reducible rfl)
        simp only [Act.put, List.setIfInBounds_toArray]
        refine wpAnyG_take (i := 1) (v := ?_) rfl (by kernel_rfl) (by kernel_rfl) (by kernel_rfl) (by kernel_rfl) (fun _ _ _ h => h) (Or.inl ⟨by rfl, ?_⟩) hS0 ?_; rotate_left; · (intro w hSw; (try dsimp only at hSw); obtain ⟨s0, s1, s2, s3, s4⟩ := hSw; go_simp; try with_reducible rfl)
        simp only [Act.put]
        refine wpAnyG_take (i := 2) (v := ?_) rfl (by kernel_rfl) (by kernel_rfl) (by kernel_rfl) (by kernel_rfl) (fun _ _ _ h => h) (Or.inl ⟨by rfl, ?_⟩) hS0 ?_; rotate_left; · (intro w hSw; (try dsimp only at hSw); obtain ⟨s0, s1, s2, s3, s4⟩ := hSw; go_simp; try with_reducible rfl)
        simp only [Act.put]
        refine wpAnyG_take (i := 6) (v := ?_) rfl (by kernel_rfl) (by kernel_rfl) (by kernel_rfl) (by kernel_rfl) (fun _ _ _ h => h) (Or.inl ⟨by rfl, ?_⟩) hS0 ?_; rotate_left; · (intro w hSw; (try dsimp only at hSw); obtain ⟨s0, s1, s2, s3, s4⟩ := hSw; go_simp; try with_reducible rfl)
        simp only [Act.put]
        refine wpAnyG_take (i := 7) (v := ?_) rfl (by kernel_rfl) (by kernel_rfl) (by kernel_rfl) (by kernel_rfl) (fun _ _ _ h => h) (Or.inl ⟨by rfl, ?_⟩) hS0 ?_; rotate_left; · (intro w hSw; (try dsimp only at hSw); obtain ⟨s0, s1, s2, s3, s4⟩ := hSw; go_simp; try with_reducible rfl)
        simp only [Act.put]
        refine wpAnyG_one (i := 3) (by kernel_rfl) rfl (fun K hK => ?_)
        go_simp
        refine (size_walk p _ hF).mono ?_
        rintro e wb ⟨rfl, hbb⟩
        clear hS0
        have hOb := hOa.below hbb
        have hPb := hPa.below hbb hPa.lt
        have HKb : Hid (KeepX ovT w wb) := HKa.out.below hbb (Nat.le_refl _)
        have hbWb := hbWa.trans (hbb.mono (Nat.le_trans hbase hbWa.size))
        clear hOa hPa HKa hbWa hbb p0 p1 p2 p3 cl
        have p0 := hPb.cell 0
        have p1 := hPb.cell 1
        have p2 := hPb.cell 2
        have p3 := hPb.cell 3
        have cl := hOb.left.cell 0
        simp at p0 p1 p2 p3 cl
        refine hK.out _ _ (fun _ => ⟨p0, p1, p2, p3, cl⟩) ?_
        clear hK K
        refine wpAnyG_one (i := 4) (by kernel_rfl) rfl (fun K hK => ?_)
        go_simp
        refine (cutk p k _ hF hkp).mono ?_
        rintro e wc ⟨rfl, hbc⟩
        generalize hq' : p.cut k p.size.toNat = q'
        have Hq' := Lib.hid hq'
        clear hq'
        have hOc := hOb.below hbc
        have hPc := hPb.below hbc hPb.lt
        have HKc : Hid (KeepX ovT w wc) := HKb.out.below hbc (Nat.le_refl _)
        have hbWc := hbWb.trans (hbc.mono (Nat.le_trans hbase hbWb.size))
        clear hOb hPb HKb hbWb hbc p0 p1 p2 p3 cl
        have p0 := hPc.cell 0
        have p1 := hPc.cell 1
        have p2 := hPc.cell 2
        have p3 := hPc.cell 3
        have cl := hOc.left.cell 0
        simp at p0 p1 p2 p3 cl
        have hPl := hPc.lt
        have hll := hOc.left.lt
        have hzc : base ≤ wc.heap.size := Nat.le_trans hbase hbWc.size
        refine hK.out _ _ (fun _ => ⟨p0, p1, p2, p3, cl⟩) ?_
        clear hK K
        refine wpAnyG_one (i := 5) (by kernel_rfl) rfl (fun K hK => ?_)
        go_simp
        refine hK.out _ _ (fun _ => ⟨(cell_alloc _ _ _ _ hPl).trans p0, (cell_alloc _ _ _ _ hPl).trans p1, (cell_alloc _ _ _ _ hPl).trans p2, (cell_alloc _ _ _ _ hPl).trans p3, (cell_alloc _ _ _ _ hll).trans cl⟩) ?_
        clear hK K
        refine wpAnyG_one (i := 8) (by kernel_rfl) rfl (fun K hK => ?_)
        have hown0 : (wc.alloc (.cells #[.int .i64 q'.f, .int .i64 q'.t, .string q'.s, .bool q'.put] 132)).ownsRow wc.heap.size 132 4 (.slice (some ⟨wc.heap.size, 0, none⟩) 1 1) 1 (#[.int .i64 q'.f, .int .i64 q'.t, .string q'.s, .bool q'.put] : Array Value).toList := own_new4 (Blk.new _ _ _) rfl (Nat.le_refl _)
        have hrows : ∀ j u, (pcCells r)[j]? = some u → (wc.alloc (.cells #[.int .i64 q'.f, .int .i64 q'.t, .string q'.s, .bool q'.put] 132)).cell? (ad.add j) = some u := fun j u hu => by
          have hr0 : 0 < r.length := by
            have := (List.getElem?_eq_some_iff.1 hu).1
            rw [pcCells_len] at this; omega
          obtain ⟨b', o', e', hb', hc'⟩ := hOc.rd.2 (by simp)
          injection e' with e'
          injection e' with e1 e2 _
          subst e1 e2
          have := hc' (4 + j) u (by
            have e4 : pcCells (p :: r) = pcCells [p] ++ pcCells r := pcCells_append [p] r
            rw [e4, List.getElem?_append_right (by rw [pcCells_len]; simp), pcCells_len]
            simpa using hu)
          rw [Had.out hr0]
          have e5 : (⟨b, o + 4, none⟩ : Addr).add j = ⟨b, o + (4 + j), none⟩ := by unfold Addr.add; split <;> simp_all <;> omega
          rw [e5]
          exact (cell_alloc _ _ _ _ hb').trans this
        have Hrows := Lib.hid hrows
        clear hrows
        refine step_append_own (by rfl) _ _ _ (by rfl) wc.heap.size 132 i0 _ 4 40 Tryd.underlying120 ji jz0 jz1 jz2 rfl (by omega) (.slice (some ⟨wc.heap.size, 0, none⟩) 1 1) 1 (#[.int .i64 q'.f, .int .i64 q'.t, .string q'.s, .bool q'.put] : Array Value).toList (by rfl) hown0 ad r.length (c - 1) (pcCells r) (by rfl) (by rw [pcCells_len]) Hrows.out (pcCells_oneCell r) (by unfold maxLen; omega) (by omega) (by simp) ?_; intro v5 w5' hown5 hgrow
        rw [Nat.add_comm 1 r.length] at hown5
        obtain ⟨A5, c5, rfl⟩ := own_form hown5
        have hb5 : Below wc.heap.size wc w5' := ((Below.refl _ _).alloc (Nat.le_refl _) _).grown hgrow (by simp) fun g hg => by simp only [Value.ownBlock, Option.some.injEq] at hg; omega
        have hO5 := hOc.below hb5
        have hP5 := hPc.below hb5 hPc.lt
        have HK5 : Hid (KeepX ovT w w5') := HKc.out.below hb5 (Nat.le_refl _)
        have hbW5 := hbWc.trans (hb5.mono hzc)
        have hvgg : ∀ g, v.ownBlock = some g → g < wc.heap.size := fun g hg => (hOc.own.lt g hg).2
        have p0 := hP5.cell 0
        have p1 := hP5.cell 1
        have p2 := hP5.cell 2
        have p3 := hP5.cell 3
        have cl := hO5.left.cell 0
        have fl := hO5.left.frozen 0
        simp at p0 p1 p2 p3 cl
        refine hK.out _ _ (fun _ => ⟨p0, p1, p2, p3, cl⟩) ?_
        clear hK K
        refine wpAnyG_one (i := 9) (by kernel_rfl) rfl (fun K hK => ?_)
        go_simp
        refine hK.out _ _ (fun h => absurd rfl h) ?_
        clear hK K
        refine wpAnyG_done (by kernel_rfl) ?_ _
        have hcells5 : (#[.int .i64 q'.f, .int .i64 q'.t, .string q'.s, .bool q'.put] : Array Value).toList ++ pcCells r = pcCells (q' :: r) := by
          rw [show q' :: r = [q'] ++ r from rfl, pcCells_append, pcCells_one]
        rw [hcells5] at hown5
        have hown5 : w5'.ownsRow wc.heap.size 132 4 (.slice A5 (q' :: r).length c5) (q' :: r).length (pcCells (q' :: r)) := hown5
        have hle5 : (q' :: r).length ≤ c5 := by
          rcases hown5.2 with ⟨_, hn⟩ | ⟨g, cap, cur, hv, _, _, hle, _⟩
          · simp at hn
          · injection hv with _ _ h3; omega
        have hf5 : 0 < (q' :: r).length → ∀ b' o', A5 = some ⟨b', o', none⟩ → v.ownBlock ≠ some b' := fun _ b' o' e e2 => by
          have e3 := hvgg _ e2
          obtain ⟨g, cap, hv, hbg, _⟩ := hown5.form (by simp)
          injection hv with hv _ _
          rw [e] at hv
          injection hv with hv
          injection hv with h1 _ _
          omega
        obtain ⟨hO9, hk9, hb9⟩ := hO5.setl (Rd.of_own hown5) hle5 (fun h => by obtain ⟨g, cap, hv, _, _⟩ := hown5.form (by simp); injection hv with hv _ _; rw [h] at hv; cases hv) hf5
        have HK9 := Lib.hid (HK5.out.trans hk9)
        have hbW9 := hbW5.trans hb9
        clear hk9 hb9 HK5 hbW5 hO5 hP5 hgrow hown5 p0 p1 p2 p3 cl fl hOc hPc HKc hbWc hown0 hb5 hcells5
        go_wp2_with fail
        go_roundg (z - (a + k)).toNat
        case measure => omega
        case rel =>
          have hT := HT9.out
          have e1 : rest1 p r k = q' :: r := by unfold rest1; rw [if_neg Hkq.out, Hq'.out]
          rw [e1] at hT
          simp only [Bool.false_eq_true, if_false] at hT
          exact ⟨a + k, q' :: r, out, Nat.le_refl _, ⟨_, _, _, hO9⟩, hT, HK9.out, hbW9⟩
    · obtain rfl : a = z := by omega
      have ca := hO.at_.cell 0
      simp at ca
      go_wp2_with fail
      go_end0
      exact ⟨rfl, ⟨l, out, ⟨A, c, v, hO⟩, HT.out⟩, HK.out, hb⟩
end Go.Proofs.YtffcfnnbdmihaaaDoor.cp
