/-
  THE WALKS of edit.spans$1 (flush), edit.spans.
-/
import Derived.Test.YtffcfnnbdmihaaaDoorOver
import Derived.Test.YtffcfnnbdmihaaaDoorPlain
namespace Go.Proofs.YtffcfnnbdmihaaaDoor.cp
open Go.RowKit

/-- the state of edit.spans in memory -/
structure SpV (w : World) (base bat btx bou : Nat) (a : Int) (tx : ByteArray) (v : Value) (out : List Sp) : Prop where
  at_ : Blk w bat 3 #[.int .i64 a]
  wait : Blk w btx 9 #[.string tx]
  made : Blk w bou 41 #[v]
  own : w.ownsRow base 100 3 v out.length (spCells out)
  bat_ : base ≤ bat
  btx_ : base ≤ btx
  bou_ : base ≤ bou
abbrev spT : List TypeId := [3, 9, 100, 41]
section
variable {w w' : World} {base bat btx bou : Nat} {a : Int} {tx : ByteArray} {v : Value} {out : List Sp}
theorem SpV.below (h : SpV w base bat btx bou a tx v out) (hb : Below w.heap.size w w') : SpV w' base bat btx bou a tx v out where
  at_ := h.at_.below hb h.at_.lt
  wait := h.wait.below hb h.wait.lt
  made := h.made.below hb h.made.lt
  own := own_of_block h.own fun k hk => hb.block k (h.own.lt k hk).2
  bat_ := h.bat_
  btx_ := h.btx_
  bou_ := h.bou_
theorem SpV.seta (h : SpV w base bat btx bou a tx v out) (a' : Int) : SpV (w.setCell ⟨bat, 0, none⟩ (.int .i64 a')) base bat btx bou a' tx v out ∧ KeepX spT w (w.setCell ⟨bat, 0, none⟩ (.int .i64 a')) ∧ Below base w (w.setCell ⟨bat, 0, none⟩ (.int .i64 a')) := by
  refine ⟨⟨h.at_.set_ 0 _, h.wait.far (blk_ne h.wait h.at_ (by decide)) _, h.made.far (blk_ne h.made h.at_ (by decide)) _, own_of_block h.own fun k hk => Below.heap_setCell _ _ _ _ fun e => ?_, h.bat_, h.btx_, h.bou_⟩, KeepX.setCell (KeepX.refl _ _) (p := ⟨bat, 0, none⟩) h.at_ (by decide) _, (Below.refl _ _).setCell (p := ⟨bat, 0, none⟩) h.bat_ _⟩
  subst e
  exact own_ne h.own h.at_ (by decide) hk.symm
theorem SpV.sett (h : SpV w base bat btx bou a tx v out) (tx' : ByteArray) : SpV (w.setCell ⟨btx, 0, none⟩ (.string tx')) base bat btx bou a tx' v out ∧ KeepX spT w (w.setCell ⟨btx, 0, none⟩ (.string tx')) ∧ Below base w (w.setCell ⟨btx, 0, none⟩ (.string tx')) := by
  refine ⟨⟨h.at_.far (blk_ne h.at_ h.wait (by decide)) _, h.wait.set_ 0 _, h.made.far (blk_ne h.made h.wait (by decide)) _, own_of_block h.own fun k hk => Below.heap_setCell _ _ _ _ fun e => ?_, h.bat_, h.btx_, h.bou_⟩, KeepX.setCell (KeepX.refl _ _) (p := ⟨btx, 0, none⟩) h.wait (by decide) _, (Below.refl _ _).setCell (p := ⟨btx, 0, none⟩) h.btx_ _⟩
  subst e
  exact own_ne h.own h.wait (by decide) hk.symm
theorem SpV.push (h : SpV w base bat btx bou a tx v out) {o : Obj} {w3 : World} {gg cap' : Nat} {q : Sp} (hbase : base ≤ w.heap.size) (hgrow : (w.alloc o).grownBy w3 v.ownBlock)
    (hown3 : w3.ownsRow base 100 3 (.slice (some ⟨gg, 0, none⟩) (out.length + 1) cap') (out.length + 1) (spCells out ++ [.int .i64 q.f, .int .i64 q.t, .string q.s])) :
    SpV (w3.setCell ⟨bou, 0, none⟩ (.slice (some ⟨gg, 0, none⟩) (out.length + 1) cap')) base bat btx bou a tx (.slice (some ⟨gg, 0, none⟩) (out.length + 1) cap') (out ++ [q]) ∧
      KeepX spT w (w3.setCell ⟨bou, 0, none⟩ (.slice (some ⟨gg, 0, none⟩) (out.length + 1) cap')) ∧ Below base w (w3.setCell ⟨bou, 0, none⟩ (.slice (some ⟨gg, 0, none⟩) (out.length + 1) cap')) := by
  have g1 := (h.at_.alloc o).grown hgrow (own_ne (h.own.alloc o) (h.at_.alloc o) (by decide))
  have g2 := (h.wait.alloc o).grown hgrow (own_ne (h.own.alloc o) (h.wait.alloc o) (by decide))
  have g3 := (h.made.alloc o).grown hgrow (own_ne (h.own.alloc o) (h.made.alloc o) (by decide))
  refine ⟨⟨g1.far (blk_ne g1 g3 (by decide)) _, g2.far (blk_ne g2 g3 (by decide)) _, g3.set_ 0 _, ?_, h.bat_, h.btx_, h.bou_⟩, ?_, ?_⟩
  · rw [spCells_snoc, List.length_append]
    refine own_of_block hown3 fun k hk => Below.heap_setCell _ _ _ _ fun e => ?_
    subst e
    exact own_ne hown3 g3 (by decide) hk.symm
  · refine KeepX.setCell (KeepX.grown ((KeepX.refl _ _).alloc o) hgrow ?_) (p := ⟨bou, 0, none⟩) (cs := #[v]) (t := 41) (fr := (0, 0)) g3 (by decide) _
    intro g hg
    obtain ⟨cs, fr, h'⟩ := own_ty (h.own.alloc o) g hg
    exact ⟨cs, _, fr, h', by decide⟩
  · exact (((Below.refl base w).alloc hbase o).grown hgrow (by simp; omega) fun k hk => (h.own.lt k hk).1).setCell (p := ⟨bou, 0, none⟩) h.bou_ _
end

set_option maxHeartbeats 2000000 in
set_option maxRecDepth 100000 in
theorem flush_walk (base bat btx bou : Nat) (a z : Int) (tx : ByteArray) (v : Value) (out : List Sp) (w : World) (h : SpV w base bat btx bou a tx v out) (hl : out.length ≤ 16777216) (hbase : base ≤ w.heap.size) :
    Calls Tryd.prog 79 #[.int .i64 z, .pointer (some ⟨bat, 0, none⟩), .pointer (some ⟨btx, 0, none⟩), .pointer (some ⟨bou, 0, none⟩)] w fun e w' => e = .returned (.tuple #[]) ∧
      (∃ v', SpV w' base bat btx bou a ⟨#[]⟩ v' (outF out a z tx)) ∧ KeepX spT w w' ∧ Below base w w' := by
  obtain ⟨i0, ji, jz0, jz1, jz2⟩ := info_parts infoSpan
  have c0 := h.at_.cell 0
  have c1 := h.wait.cell 0
  simp at c0 c1
  go_enter Tryd.func79, Tryd.ntmps79
  go_upto_region 1 with fail
  have hP : Blk (w.alloc (.cells #[.int .i64 a, .int .i64 z, .string tx] 100)) w.heap.size 100 #[.int .i64 a, .int .i64 z, .string tx] := Blk.new _ _ _
  have hb1 : Below w.heap.size w (w.alloc (.cells #[.int .i64 a, .int .i64 z, .string tx] 100)) := (Below.refl _ _).alloc (Nat.le_refl _) _
  have h1 := h.below hb1
  have HK1 : Hid (KeepX spT w (w.alloc (.cells #[.int .i64 a, .int .i64 z, .string tx] 100))) := (KeepX.refl _ _).alloc _
  have hbW := hb1.mono hbase
  generalize w.alloc (.cells #[.int .i64 a, .int .i64 z, .string tx] 100) = ws at *
  generalize hp : w.heap.size = p at *
  clear h c0 c1 hb1
  have p0 := hP.cell 0
  have p1 := hP.cell 1
  have p2 := hP.cell 2
  have ca := h1.at_.cell 0
  simp at p0 p1 p2 ca
  have hpl := hP.lt
  have hal := h1.at_.lt
  by_cases hnone : z = a ∧ tx.toList = []
  · obtain ⟨h2, h3⟩ := hnone
    subst h2
    have Hs2 := Lib.hid h3
    have h2' : (tx.toList.isEmpty) = true := by rw [h3]; rfl
    clear h3
    go_region_held3 (fun w' => w'.cell? ⟨p, 0, none⟩ = some (.int .i64 z) ∧ w'.cell? ⟨p, 1, none⟩ = some (.int .i64 z) ∧ w'.cell? ⟨p, 2, none⟩ = some (.string tx) ∧ w'.cell? ⟨bat, 0, none⟩ = some (.int .i64 z)) (first | (go_keep; done) | exact ⟨(hb2.cell (p := ⟨p, 0, none⟩) hpl).trans p0, (hb2.cell (p := ⟨p, 1, none⟩) hpl).trans p1, (hb2.cell (p := ⟨p, 2, none⟩) hpl).trans p2, (hb2.cell (p := ⟨bat, 0, none⟩) hal).trans ca⟩) ((go_at_call 77; refine (none_walk _ _).mono ?_; rintro e w2 ⟨rfl, hb2⟩))
    have hb2' : Below ws.heap.size ws w2 := (Below.refl _ _).drew.trans hb2
    have h2 := h1.below hb2'
    have HK2 : Hid (KeepX spT w w2) := HK1.out.below hb2' (Nat.le_refl _)
    have hbW2 := hbW.trans (hb2'.mono (Nat.le_trans hbase (by have := hbW.size; omega)))
    have ct := h2.wait.cell 0
    have ft := h2.wait.frozen 0
    simp at ct
    clear h1 HK1 hbW hb2 hb2' hP
    go_wp2_with fail
    go_end0
    obtain ⟨k1, k2, k3⟩ := h2.sett ⟨#[]⟩
    refine ⟨rfl, ⟨v, ?_⟩, HK2.out.trans k2, hbW2.trans k3⟩
    have e : outF out z z tx = out := by
      unfold outF
      rw [if_pos ⟨rfl, by rw [← dlen, ← ByteArray.toList_eq, Hs2.out]; rfl⟩]
    rw [e]
    exact k1
  · go_cut [13] (fun s13 wc => s13 = .bool true ∧ Below ws.heap.size ws wc)
    case first =>
      have hw : (z = a → tx.toList.isEmpty = false) := by
        intro h
        cases hs : tx.toList with
        | nil => exact absurd ⟨h, hs⟩ hnone
        | cons a r => rfl
      have Hw := Lib.hid hw
      clear hw hnone
      by_cases htf : z = a
      · have hse := Hw.out htf
        subst htf
        go_region_held3 (fun w' => w'.cell? ⟨p, 0, none⟩ = some (.int .i64 z) ∧ w'.cell? ⟨p, 1, none⟩ = some (.int .i64 z) ∧ w'.cell? ⟨p, 2, none⟩ = some (.string tx) ∧ w'.cell? ⟨bat, 0, none⟩ = some (.int .i64 z)) (first | (go_keep; done) | exact ⟨(hb2.cell (p := ⟨p, 0, none⟩) hpl).trans p0, (hb2.cell (p := ⟨p, 1, none⟩) hpl).trans p1, (hb2.cell (p := ⟨p, 2, none⟩) hpl).trans p2, (hb2.cell (p := ⟨bat, 0, none⟩) hal).trans ca⟩) ((go_at_call 77; refine (none_walk _ _).mono ?_; rintro e w2 ⟨rfl, hb2⟩))
        go_wp2_with fail
        go_meet
        exact ⟨rfl, (Below.refl _ _).drew.trans hb2⟩
      · go_region_held3 (fun w' => w'.cell? ⟨p, 0, none⟩ = some (.int .i64 a) ∧ w'.cell? ⟨p, 1, none⟩ = some (.int .i64 z) ∧ w'.cell? ⟨p, 2, none⟩ = some (.string tx) ∧ w'.cell? ⟨bat, 0, none⟩ = some (.int .i64 a)) (first | (go_keep; done) | exact ⟨(hb2.cell (p := ⟨p, 0, none⟩) hpl).trans p0, (hb2.cell (p := ⟨p, 1, none⟩) hpl).trans p1, (hb2.cell (p := ⟨p, 2, none⟩) hpl).trans p2, (hb2.cell (p := ⟨bat, 0, none⟩) hal).trans ca⟩) ((go_at_call 77; refine (none_walk _ _).mono ?_; rintro e w2 ⟨rfl, hb2⟩))
        go_wp2_with fail
        go_meet
        exact ⟨rfl, (Below.refl _ _).drew.trans hb2⟩
    case rest =>
      obtain ⟨rfl, hb2⟩ := hcut
      have h2 := h1.below hb2
      have hP2 := hP.below hb2 hpl
      have HK2 : Hid (KeepX spT w wc) := HK1.out.below hb2 (Nat.le_refl _)
      have hzz : base ≤ ws.heap.size := Nat.le_trans hbase (by have := hbW.size; omega)
      have hbW2 := hbW.trans (hb2.mono hzz)
      have hz2 : base ≤ wc.heap.size := Nat.le_trans hzz hb2.size
      have q0 := hP2.cell 0
      have q1 := hP2.cell 1
      have q2 := hP2.cell 2
      have co := h2.made.cell 0
      simp at q0 q1 q2 co
      have He : Hid (outF out a z tx = out ++ [⟨a, z, tx⟩]) := by
        show _ = _
        unfold outF
        rw [if_neg]
        intro hh
        exact hnone ⟨hh.1.symm, by rw [ByteArray.toList_eq]; exact List.eq_nil_of_length_eq_zero (by rw [dlen]; exact hh.2)⟩
      have hno : some bou ≠ v.ownBlock := own_ne h2.own h2.made (by decide)
      have hnt : some btx ≠ v.ownBlock := own_ne h2.own h2.wait (by decide)
      have hbt : btx ≠ bou := blk_ne h2.wait h2.made (by decide)
      clear h1 HK1 hbW hb2 hP p0 p1 p2 ca hnone
      go_wp2_with (at_builtin; refine wpList_append_lies _ rfl _ _ 41 rfl base 100 i0 _ 3 32 Tryd.underlying41 ji jz0 jz1 jz2 rfl (by omega) v out.length (spCells out) rfl (h2.own.alloc (.cells #[.int .i64 a, .int .i64 z, .string tx] 100)) ⟨wc.heap.size, 0, none⟩ 1 1 [.int .i64 a, .int .i64 z, .string tx] rfl rfl (World.news_of_block (cs := #[.int .i64 a, .int .i64 z, .string tx]) (t := 100) (fr := (0, 0)) (heap_alloc_new wc _)) (by simp [Value.oneCell']) (by omega) (by unfold maxLen; omega) (by omega) (by simp; omega) _ rfl ?_; intro gg cap' w3 hown3 hgrow hat hlt3; have hB3 := (h2.made.alloc (.cells #[.int .i64 a, .int .i64 z, .string tx] 100)).grown hgrow hno; have hT3 := ((h2.wait.alloc (.cells #[.int .i64 a, .int .i64 z, .string tx] 100)).grown hgrow hnt).far (p := ⟨bou, 0, none⟩) hbt (.slice (some ⟨gg, 0, none⟩) (out.length + 1) cap'); have e0 := hB3.cell 0; have e1 := hB3.frozen 0; have t0 := hT3.cell 0; have t1 := hT3.frozen 0; simp at e0 t0)
      go_end0
      have hpu := h2.push (q := ⟨a, z, tx⟩) hz2 hgrow hown3
      clear hgrow hown3 hB3 hT3 e0 e1 t0 t1
      generalize World.setCell w3 ⟨bou, 0, none⟩ (.slice (some ⟨gg, 0, none⟩) (out.length + 1) cap') = w4 at *
      obtain ⟨h3, k3, b3⟩ := hpu
      obtain ⟨k4, k5, k6⟩ := h3.sett ⟨#[]⟩
      refine ⟨rfl, ⟨.slice (some ⟨gg, 0, none⟩) (out.length + 1) cap', ?_⟩, (HK2.out.trans k3).trans k5, (hbW2.trans b3).trans k6⟩
      rw [He.out]
      exact k4
theorem meanL_take {text : List UInt8} {l : List Pc} {k : Nat} (hk : k < l.length) : meanL text (l.take (k + 1)) = meanL text (l.take k) ++ l[k].mean text := by
  rw [List.take_succ_eq_append_getElem hk, meanL_append, meanL_one]
theorem pcBytes_take {l : List Pc} {k : Nat} (hk : k < l.length) : pcBytes (l.take (k + 1)) = pcBytes (l.take k) + l[k].s.size := by
  rw [List.take_succ_eq_append_getElem hk, pcBytes_append]; simp [pcBytes]
theorem pcBytes_take_le (l : List Pc) (k : Nat) : pcBytes (l.take k) ≤ pcBytes l := by
  have h : pcBytes (l.take k ++ l.drop k) = pcBytes (l.take k) + pcBytes (l.drop k) := pcBytes_append _ _
  rw [List.take_append_drop] at h
  omega
/-- what stands after k pieces -/
structure SpansI (text : List UInt8) (l : List Pc) (k : Nat) (a : Int) (tx : ByteArray) (out : List Sp) : Prop where
  sp : SpI text out a tx (meanL text (l.take k))
  rest : PSort text.length a (l.drop k)
  len : out.length ≤ k
  bytes : spBytes out + tx.size ≤ pcBytes (l.take k)

set_option maxHeartbeats 4000000 in
set_option maxRecDepth 100000 in
theorem mspans_walk (text : List UInt8) (A : Option Addr) (c : Nat) (l : List Pc) (w : World) (hr : Rd w w.heap.size 4 A l.length (pcCells l)) (hs : PSort text.length 0 l) (_hn : text.length ≤ 1048576) (hl : l.length ≤ 8388608) (hby : pcBytes l ≤ 8388608) :
    Calls Tryd.prog 67 #[.int .i64 text.length, .slice A l.length c] w fun q w' => ∃ v out, q = .returned v ∧ w'.ownsRow w.heap.size 100 3 v out.length (spCells out) ∧
      fault text.length out = 0 ∧ applyL text out = meanL text l ∧ out.length ≤ l.length + 1 ∧ spBytes out ≤ pcBytes l ∧ Below w.heap.size w w' := by
  have HI0 : Hid (SpansI text l 0 0 ⟨#[]⟩ []) := ⟨spI_start text, by simpa using hs, Nat.le_refl _, Nat.le_refl 0⟩
  clear hs
  go_enter Tryd.func67, Tryd.ntmps67
  go_wp2_with fail
  have hB1 : Blk (w.alloc (.cells #[.slice none 0 0] 41)) w.heap.size 41 #[.slice none 0 0] := Blk.new _ _ _
  have hB2 : Blk ((w.alloc (.cells #[.slice none 0 0] 41)).alloc (.cells #[.string ⟨#[]⟩] 9)) (w.heap.size + 1) 9 #[.string ⟨#[]⟩] := by
    have := Blk.new (w.alloc (.cells #[.slice none 0 0] 41)) 9 #[.string ⟨#[]⟩]
    simpa using this
  have hB3 : Blk (((w.alloc (.cells #[.slice none 0 0] 41)).alloc (.cells #[.string ⟨#[]⟩] 9)).alloc (.cells #[.int .i64 0] 3)) (w.heap.size + 2) 3 #[.int .i64 0] := by
    have := Blk.new ((w.alloc (.cells #[.slice none 0 0] 41)).alloc (.cells #[.string ⟨#[]⟩] 9)) 3 #[.int .i64 0]
    simpa using this
  have hb0 : Below w.heap.size w (((w.alloc (.cells #[.slice none 0 0] 41)).alloc (.cells #[.string ⟨#[]⟩] 9)).alloc (.cells #[.int .i64 0] 3)) := (((Below.refl _ _).alloc (Nat.le_refl _) _).alloc (by simp) _).alloc (by simp; omega) _
  have hO0 : SpV (((w.alloc (.cells #[.slice none 0 0] 41)).alloc (.cells #[.string ⟨#[]⟩] 9)).alloc (.cells #[.int .i64 0] 3)) w.heap.size (w.heap.size + 2) (w.heap.size + 1) w.heap.size 0 ⟨#[]⟩ (.slice none 0 0) [] :=
    ⟨hB3, hB2.alloc _, (hB1.alloc _).alloc _, World.ownsRow_nil _ _ _ _, by omega, by omega, by omega⟩
  clear hB1 hB2 hB3
  generalize ((w.alloc (.cells #[.slice none 0 0] 41)).alloc (.cells #[.string ⟨#[]⟩] 9)).alloc (.cells #[.int .i64 0] 3) = w0 at *
  go_loopw [14] (fun i wr => ∃ (k : Nat) (a : Int) (tx : ByteArray) (v : Value) (out : List Sp), k ≤ l.length ∧ i = .int .i64 k ∧ SpV wr w.heap.size (w.heap.size + 2) (w.heap.size + 1) w.heap.size a tx v out ∧ Hid (SpansI text l k a tx out) ∧ Below w.heap.size w wr) (fun i _ => l.length - (intOf i).toNat)
  case atStart => exact ⟨0, 0, ⟨#[]⟩, _, [], Nat.zero_le _, rfl, hO0, HI0.out, hb0⟩
  case round =>
    clear hO0 hb0
    obtain ⟨k, a, tx, v, out, hk, rfl, hO, HI, hb⟩ := hrel
    have hbs := hb.size
    have hIl := HI.out.len
    have hIb := HI.out.bytes
    by_cases hlt : k < l.length
    · have hlt' := hlt
      obtain ⟨b, o, rfl, hbB, c0, c1, c2, c3⟩ := rd_pc (hr.below hb) hlt
      have Hm := Lib.hid (meanL_take (text := text) hlt)
      have Hpb := Lib.hid (pcBytes_take hlt)
      have hpb : pcBytes (l.take k) + l[k].s.size ≤ pcBytes l := by rw [← Hpb.out]; exact pcBytes_take_le _ _
      have hps := HI.out.rest
      rw [List.drop_eq_getElem_cons hlt] at hps
      have Hps := Lib.hid hps
      clear hps
      generalize l[k] = p at *
      have i1 : (0 : Int) ≤ (k : Int) := by omega
      have i2 : (k : Int) < (l.length : Int) := by omega
      go_upto_if 19 with fail
      have hP1 : Blk (wr.alloc (.cells #[.int .i64 p.f, .int .i64 p.t, .string p.s, .bool p.put] 132)) wr.heap.size 132 #[.int .i64 p.f, .int .i64 p.t, .string p.s, .bool p.put] := Blk.new _ _ _
      have hbw1 : Below wr.heap.size wr (wr.alloc (.cells #[.int .i64 p.f, .int .i64 p.t, .string p.s, .bool p.put] 132)) := (Below.refl _ _).alloc (Nat.le_refl _) _
      have hO1 := hO.below hbw1
      have hb1 := hb.trans (hbw1.mono hbs)
      have hz1 := hb1.size
      clear hO hbw1 hb
      generalize wr.alloc (.cells #[.int .i64 p.f, .int .i64 p.t, .string p.s, .bool p.put] 132) = w1 at *
      generalize wr.heap.size = pB at *
      have p0 := hP1.cell 0
      have p1 := hP1.cell 1
      have p2 := hP1.cell 2
      simp at p0 p1 p2
      have ct := hO1.wait.cell 0
      have ft := hO1.wait.frozen 0
      simp at ct
      cases hput : p.put with
      | true =>
        have hp2 := (PSort.put hput).1 Hps.out
        have Hp2 := Lib.hid hp2
        have Hput := Lib.hid hput
        clear hp2 hput
        have hmx : tx.size + p.s.size ≤ 16777216 := by omega
        go_wp2_with fail
        obtain ⟨hO2, _, hb2⟩ := hO1.sett (tx ++ p.s)
        go_roundw
        case rel =>
          refine ⟨k + 1, a, tx ++ p.s, v, out, by omega, by go_num, hO2, ⟨?_, ?_, by omega, ?_⟩, hb1.trans hb2⟩
          · rw [Hm.out]
            have e : p.mean text = p.s.data.toList := by unfold Pc.mean; rw [Hput.out]; rfl
            rw [e]
            exact HI.out.sp.put
          · exact Hp2.out.2
          · rw [Hpb.out, ByteArray.size_append]; omega
        case measure => simp [intOf]; omega
      | false =>
        have hp2 := (PSort.keep hput).1 Hps.out
        have Hp2 := Lib.hid hp2
        have Hput := Lib.hid hput
        clear hp2 hput
        go_wp2_with fail
        refine (flush_walk w.heap.size (w.heap.size + 2) (w.heap.size + 1) w.heap.size a p.f tx v out w1 hO1 (by omega) hz1).mono ?_
        rintro e w2 ⟨rfl, ⟨v2, hO2⟩, hk2, hb2⟩
        have hP2 := hP1.keep hk2 (by decide)
        have q1 := hP2.cell 1
        have ca := hO2.at_.cell 0
        have fa := hO2.at_.frozen 0
        simp at q1 ca
        clear hk2
        go_wp2_with fail
        obtain ⟨hO3, _, hb3⟩ := hO2.seta p.t
        go_roundw
        case rel =>
          have hx := Hp2.out
          have ol := outF_len out a p.f tx
          have ob := outF_bytes out a p.f tx
          refine ⟨k + 1, p.t, ⟨#[]⟩, v2, _, by omega, by go_num, hO3, ⟨?_, ?_, by omega, ?_⟩, (hb1.trans hb2).trans hb3⟩
          · rw [Hm.out]
            have e : p.mean text = (text.drop p.f.toNat).take (p.t.toNat - p.f.toNat) := by unfold Pc.mean; rw [Hput.out]; rfl
            rw [e]
            exact HI.out.sp.keep hx.1 (by omega) hx.2.2.1
          · exact hx.2.2.2
          · have h0 : (⟨#[]⟩ : ByteArray).size = 0 := rfl
            rw [Hpb.out, h0]; omega
        case measure => simp [intOf]; omega
    · obtain rfl : k = l.length := by omega
      have hsp := HI.out.sp
      rw [List.take_length] at hsp hIb
      have Hsp := Lib.hid hsp.done
      clear hsp
      go_wp2_with fail
      refine (flush_walk w.heap.size (w.heap.size + 2) (w.heap.size + 1) w.heap.size a text.length tx v out wr hO (by omega) hbs).mono ?_
      rintro e w2 ⟨rfl, ⟨v2, hO2⟩, hk2, hb2⟩
      have co := hO2.made.cell 0
      simp at co
      have ol := outF_len out a text.length tx
      have ob := outF_bytes out a text.length tx
      clear hk2
      go_wp2_with fail
      go_ret
      exact ⟨v2, _, rfl, hO2.own, Hsp.out.1, Hsp.out.2, by omega, by omega, hb.trans hb2⟩
end Go.Proofs.YtffcfnnbdmihaaaDoor.cp
