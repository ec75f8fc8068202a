/-
  THE WALK of edit.over.
-/
import Derived.Test.YtffcfnnbdmihaaaDoorTake
import Derived.Laws.AppendOwnNone
namespace Go.Proofs.YtffcfnnbdmihaaaDoor.cp
open Go.RowKit

theorem preGo_app (S : List UInt8) {e : List Sp} {k : Nat} (hk : k < e.length) : preGo S 0 (e.take (k + 1)) = preGo S 0 (e.take k) ++ ((S.drop (lastT 0 (e.take k)).toNat).take (e[k].f.toNat - (lastT 0 (e.take k)).toNat) ++ e[k].s.data.toList) := by
  rw [List.take_succ_eq_append_getElem hk, preGo_snoc]
/-- what the pieces mean after k spans -/
structure OverI (text S : List UInt8) (e : List Sp) (l0 : List Pc) (k : Nat) (l out : List Pc) : Prop where
  left : meanL text l = S.drop (lastT 0 (e.take k)).toNat
  made : meanL text out = preGo S 0 (e.take k)
  sorted : PSort text.length 0 (out ++ l)
  len : out.length + l.length ≤ l0.length + 3 * k
  bytes : pcBytes (out ++ l) ≤ pcBytes l0 + spBytes (e.take k)
theorem overI_start {text S : List UInt8} {e : List Sp} {l0 : List Pc} (hm : meanL text l0 = S) (hs : PSort text.length 0 l0) : OverI text S e l0 0 l0 [] where
  left := by simp [lastT, hm]
  made := by simp [preGo, meanL]
  sorted := hs
  len := by simp
  bytes := by simp
theorem psort_ins {n : Int} {l out : List Pc} {s : ByteArray} (h : PSort n 0 (out ++ l)) : PSort n 0 (out ++ addP ⟨0, 0, s, true⟩ ++ l) := by
  obtain ⟨h1, h2⟩ := psort_append.1 h
  rw [addP_p]
  by_cases h0 : 0 < s.size
  · rw [if_pos h0, List.append_assoc]
    exact psort_append.2 ⟨h1, (PSort.put rfl).2 ⟨h0, h2⟩⟩
  · rw [if_neg h0, List.append_nil]; exact h
theorem OverI.step {text S : List UInt8} {e : List Sp} {l0 : List Pc} {k : Nat} {l out l1 out1 l2 out3 : List Pc} (h : OverI text S e l0 k l out) (hk : k < e.length) (hc : Chain S.length 0 e)
    (h1 : TakeI text true (lastT 0 (e.take k)) e[k].f l out e[k].f l1 out1) (h2 : TakeI text false e[k].f e[k].t l1 (out1 ++ addP ⟨0, 0, e[k].s, true⟩) e[k].t l2 out3) : OverI text S e l0 (k + 1) l2 out3 := by
  have hca := hc.at_ hk
  have ht : lastT 0 (e.take (k + 1)) = e[k].t := by rw [List.take_succ_eq_append_getElem hk, lastT_snoc]
  have m1 := h1.made
  have m2 := h2.made
  simp only [if_true] at m1
  simp only [Bool.false_eq_true, if_false] at m2
  subst m2
  have hlen1 := h1.len
  have hlen2 := h2.len
  rw [if_neg (Int.lt_irrefl _)] at hlen1 hlen2
  have ha := addP_len ⟨0, 0, e[k].s, true⟩
  have hb := addP_bytes ⟨0, 0, e[k].s, true⟩
  have hb1 := h1.bytes
  have hb2 := h2.bytes
  have hl := h.len
  have hby := h.bytes
  refine ⟨?_, ?_, h2.sorted, ?_, ?_⟩
  · rw [ht, h2.left, h1.left, h.left, List.drop_drop, List.drop_drop]
    congr 1
    omega
  · rw [preGo_app S hk, meanL_append, m1, h.made, h.left, addP_put, List.append_assoc]
    congr 3
    omega
  · simp only [List.length_append] at hlen2 ⊢
    omega
  · rw [List.take_succ_eq_append_getElem hk, spBytes_snoc]
    simp only [pcBytes_append] at *
    omega
theorem OverI.next {text S : List UInt8} {e : List Sp} {l0 : List Pc} {k : Nat} {l out l1 out1 l2 out2 out3 : List Pc} {q f t : Int} {s : ByteArray} (h : OverI text S e l0 k l out) (hk : k < e.length) (hc : Chain S.length 0 e) (hq : lastT 0 (e.take k) = q) (hx : e[k] = ⟨f, t, s⟩)
    (h1 : TakeI text true q f l out f l1 out1) (ha : out2 = out1 ++ addP ⟨0, 0, s, true⟩) (h2 : TakeI text false f t l1 out2 t l2 out3) : OverI text S e l0 (k + 1) l2 out3 := by
  have hf : e[k].f = f := by rw [hx]
  have ht : e[k].t = t := by rw [hx]
  have hs : e[k].s = s := by rw [hx]
  subst ha hq hf ht hs
  exact h.step hk hc h1 h2

set_option maxHeartbeats 4000000 in
set_option maxRecDepth 100000 in
theorem over_walk (text S : List UInt8) (A1 : Option Addr) (c1 : Nat) (l0 : List Pc) (A2 : Option Addr) (c2 : Nat) (e : List Sp) (w : World) (hr1 : Rd w w.heap.size 4 A1 l0.length (pcCells l0)) (hc1 : l0.length ≤ c1) (hnc1 : A1 = none → c1 = 0) (hr2 : Rd w w.heap.size 3 A2 e.length (spCells e))
    (hm : meanL text l0 = S) (hs : PSort text.length 0 l0) (hch : Chain S.length 0 e) (hn : text.length ≤ 1048576) (hS : S.length ≤ 16777216) (hle : l0.length + 3 * e.length ≤ 8388608) (hby : pcBytes l0 + spBytes e ≤ 8388608) :
    Calls Tryd.prog 68 #[.slice A1 l0.length c1, .slice A2 e.length c2] w fun q w' => ∃ v out, q = .returned v ∧ w'.ownsRow w.heap.size 132 4 v out.length (pcCells out) ∧
      PSort text.length 0 out ∧ meanL text out = applyL S e ∧ out.length ≤ l0.length + 3 * e.length ∧ pcBytes out ≤ pcBytes l0 + spBytes e ∧ Below w.heap.size w w' := by
  obtain ⟨i0, ji, jz0, jz1, jz2⟩ := info_parts infoPc
  have HI0 := Lib.hid (overI_start (e := e) hm hs)
  have HC := Lib.hid hch
  clear hm hs hch
  go_enter Tryd.func68, Tryd.ntmps68
  go_wp2_with fail
  have hB1 : Blk (w.alloc (.cells #[.slice A1 l0.length c1] 120)) w.heap.size 120 #[.slice A1 l0.length c1] := Blk.new _ _ _
  have hB2 : Blk ((w.alloc (.cells #[.slice A1 l0.length c1] 120)).alloc (.cells #[.slice none 0 0] 120)) (w.heap.size + 1) 120 #[.slice none 0 0] := by
    have := Blk.new (w.alloc (.cells #[.slice A1 l0.length c1] 120)) 120 #[.slice none 0 0]
    simpa using this
  have hB3 : Blk (((w.alloc (.cells #[.slice A1 l0.length c1] 120)).alloc (.cells #[.slice none 0 0] 120)).alloc (.cells #[.int .i64 0] 3)) (w.heap.size + 2) 3 #[.int .i64 0] := by
    have := Blk.new ((w.alloc (.cells #[.slice A1 l0.length c1] 120)).alloc (.cells #[.slice none 0 0] 120)) 3 #[.int .i64 0]
    simpa using this
  have hb0 : Below w.heap.size w (((w.alloc (.cells #[.slice A1 l0.length c1] 120)).alloc (.cells #[.slice none 0 0] 120)).alloc (.cells #[.int .i64 0] 3)) := (((Below.refl _ _).alloc (Nat.le_refl _) _).alloc (by simp) _).alloc (by simp; omega) _
  have hO0 : OvV (((w.alloc (.cells #[.slice A1 l0.length c1] 120)).alloc (.cells #[.slice none 0 0] 120)).alloc (.cells #[.int .i64 0] 3)) w.heap.size (w.heap.size + 2) w.heap.size (w.heap.size + 1) 0 A1 c1 l0 (.slice none 0 0) [] :=
    ⟨hB3, (hB1.alloc _).alloc _, hB2.alloc _, (hr1.below hb0).more hb0.size, hc1, hnc1, World.ownsRow_nil _ _ _ _, fun _ b o _ h => by simp [Value.ownBlock] at h, by omega, by omega, by omega, by omega⟩
  clear hB1 hB2 hB3 hr1
  generalize ((w.alloc (.cells #[.slice A1 l0.length c1] 120)).alloc (.cells #[.slice none 0 0] 120)).alloc (.cells #[.int .i64 0] 3) = w0 at *
  go_loopw [13] (fun i wr => ∃ k l out, k ≤ e.length ∧ i = .int .i64 (k : Nat) ∧ OvS wr w.heap.size (w.heap.size + 2) w.heap.size (w.heap.size + 1) (lastT 0 (e.take k)) l out ∧ Hid (OverI text S e l0 k l out) ∧ Below w.heap.size w wr) (fun i _ => e.length - (intOf i).toNat)
  case atStart => exact ⟨0, l0, [], Nat.zero_le _, rfl, ⟨_, _, _, hO0⟩, HI0.out, hb0⟩
  case round =>
    clear hO0 hb0
    obtain ⟨k, l, out, hk, rfl, ⟨A, c, v, hO⟩, HI, hb⟩ := hrel
    have hbs := hb.size
    by_cases hlt : k < e.length
    · have hlt' := hlt
      obtain ⟨b, o, rfl, hbB, hcs⟩ := (hr2.below hb).sp hlt
      obtain ⟨c0, c1', c2'⟩ := hcs k hlt
      clear hcs
      have hca := HC.out.at_ hlt
      have Ht : Hid (lastT 0 (e.take (k + 1)) = e[k].t) := by
        show _ = _
        rw [List.take_succ_eq_append_getElem hlt, lastT_snoc]
      have hbk : spBytes (e.take k) + e[k].s.size ≤ spBytes e := by
        have := spBytes_take_le e (k + 1)
        rw [List.take_succ_eq_append_getElem hlt, spBytes_snoc] at this
        exact this
      have hIb := HI.out.bytes
      have hIl := HI.out.len
      have Hll : Hid ((meanL text l).length = S.length - (lastT 0 (e.take k)).toNat) := by show _ = _; rw [HI.out.left, List.length_drop]
      have hHI := HI.out.sorted
      have HHI := Lib.hid hHI
      clear hHI
      generalize hq : lastT 0 (e.take k) = q at *
      generalize hx : e[k] = x at *
      obtain ⟨f, t, s⟩ := x
      dsimp only at *
      have Hq := Lib.hid hq
      have Hx := Lib.hid hx
      clear hq hx
      have i1 : (0 : Int) ≤ (k : Int) := by omega
      have i2 : (k : Int) < (e.length : Int) := by omega
      go_wp2_with fail
      have hS1 : Blk (wr.alloc (.cells #[.int .i64 f, .int .i64 t, .string s] 100)) wr.heap.size 100 #[.int .i64 f, .int .i64 t, .string s] := Blk.new _ _ _
      have hbw1 : Below wr.heap.size wr (wr.alloc (.cells #[.int .i64 f, .int .i64 t, .string s] 100)) := (Below.refl _ _).alloc (Nat.le_refl _) _
      have hO1 := hO.below hbw1
      have hb1 := hb.trans (hbw1.mono hbs)
      have hz1 := hbw1.size
      clear hO hbw1 hb
      generalize wr.alloc (.cells #[.int .i64 f, .int .i64 t, .string s] 100) = w1 at *
      refine (take_keep text w.heap.size (w.heap.size + 2) w.heap.size (w.heap.size + 1) q f l out w1 ⟨_, _, _, hO1⟩ HHI.out (by omega) (by omega) (by have := Hll.out; omega) (by omega) hn (by omega) (by omega) (by omega)).mono ?_
      rintro e w2 ⟨rfl, ⟨l1, out1, ⟨A1', c1'', v1, hO2⟩, hT1⟩, hk2, hb2⟩
      have hS2 := hS1.keep hk2 (by decide)
      have s2 := hS2.cell 2
      simp at s2
      have HT1 := Lib.hid hT1
      have hbW2 := hb1.trans hb2
      have hz2 := hbW2.size
      clear hT1 hk2 hb2 hO1 hb1
      have hT1l := HT1.out.len
      rw [if_neg (Int.lt_irrefl _)] at hT1l
      have hT1b := HT1.out.bytes
      have hadl := addP_len ⟨0, 0, s, true⟩
      have hadb := addP_bytes ⟨0, 0, s, true⟩
      dsimp only at hadb
      have Hs3 := Lib.hid (psort_ins (s := s) HT1.out.sorted)
      have Hl1 : Hid (t - f ≤ (meanL text l1).length) := by
        show _ ≤ _
        rw [HT1.out.left, List.length_drop, Hll.out]
        omega
      have Hby3 : Hid (pcBytes (out1 ++ addP ⟨0, 0, s, true⟩ ++ l1) ≤ 16777216) := by
        show _ ≤ _
        simp only [pcBytes_append] at hT1b hIb ⊢
        omega
      have Hlen3 : Hid ((out1 ++ addP ⟨0, 0, s, true⟩).length + l1.length ≤ 16777215) := by
        show _ ≤ _
        rw [List.length_append]
        omega
      have co := hO2.made.cell 0
      have fo := hO2.made.frozen 0
      have s1 := hS2.cell 1
      simp at co s1
      by_cases hse : s.toList.isEmpty = true
      · have Hadd : Hid (out1 ++ addP ⟨0, 0, s, true⟩ = out1) := by
          show _ = _
          rw [addP_p, if_neg, List.append_nil]
          have : s.toList = [] := by simpa using hse
          have h2 : s.toList.length = s.size := by rw [← dlen s]; exact congrArg List.length (ByteArray.toList_eq s)
          rw [this] at h2
          simp at h2
          omega
        go_wp2_with fail
        rw [Hadd.out] at Hs3 Hby3 Hlen3
        refine (take_skip text w.heap.size (w.heap.size + 2) w.heap.size (w.heap.size + 1) f t l1 out1 w2 ⟨_, _, _, hO2⟩ Hs3.out (by omega) (by omega) Hl1.out (by omega) hn Hby3.out Hlen3.out (by omega)).mono ?_
        rintro e' w9 ⟨rfl, ⟨l2, out3, hO9, hT9⟩, hk9, hb9⟩
        have HT9 := Lib.hid hT9
        clear hT9 hk9
        go_wp2_with fail
        go_roundw
        case rel => exact ⟨k + 1, l2, out3, by omega, by go_num, by rw [Ht.out]; exact hO9, HI.out.next hlt' HC.out Hq.out Hx.out HT1.out Hadd.out.symm HT9.out, hbW2.trans hb9⟩
        case measure => simp [intOf]; omega
      · have hse' : s.toList.isEmpty = false := by simpa using hse
        have hs0 : 0 < s.size := by
          rcases Nat.eq_zero_or_pos s.size with h0 | h0
          · exfalso
            have h2 : s.toList.length = s.size := by rw [← dlen s]; exact congrArg List.length (ByteArray.toList_eq s)
            rw [h0] at h2
            rw [List.eq_nil_of_length_eq_zero h2] at hse
            exact hse rfl
          · exact h0
        have Hadd : Hid (out1 ++ addP ⟨0, 0, s, true⟩ = out1 ++ [⟨0, 0, s, true⟩]) := by
          show _ = _
          rw [addP_p, if_pos hs0]
        clear hse
        have hno : some (w.heap.size + 1) ≠ v1.ownBlock := own_ne hO2.own hO2.made (by decide)
        have hnoS : some wr.heap.size ≠ v1.ownBlock := own_ne hO2.own hS2 (by decide)
        have hbs2 : wr.heap.size ≠ w.heap.size + 1 := blk_ne hS2 hO2.made (by decide)
        go_wp2_with (at_builtin; refine wpList_append_lies _ rfl _ _ 120 rfl w.heap.size 132 i0 _ 4 40 Tryd.underlying120 ji jz0 jz1 jz2 rfl (by omega) v1 out1.length (pcCells out1) rfl (hO2.own.alloc (.cells #[.int .i64 0, .int .i64 0, .string s, .bool true] 132)) ⟨w2.heap.size, 0, none⟩ 1 1 [.int .i64 0, .int .i64 0, .string s, .bool true] rfl rfl (World.news_of_block (cs := #[.int .i64 0, .int .i64 0, .string s, .bool true]) (t := 132) (fr := (0, 0)) (heap_alloc_new w2 _)) (by simp [Value.oneCell']) (by omega) (by unfold maxLen; omega) (by omega) (by simp; omega) _ rfl ?_; intro gg cap' w3 hown3 hgrow hat hlt3; have hB3 := (hO2.made.alloc (.cells #[.int .i64 0, .int .i64 0, .string s, .bool true] 132)).grown hgrow hno; have hS3 := ((hS2.alloc (.cells #[.int .i64 0, .int .i64 0, .string s, .bool true] 132)).grown hgrow hnoS).far (p := ⟨w.heap.size + 1, 0, none⟩) hbs2 (.slice (some ⟨gg, 0, none⟩) (out1.length + 1) cap'); have e0 := hB3.cell 0; have e1 := hB3.frozen 0; have e2 := hS3.cell 1; simp at e0 e2)
        obtain ⟨hO3, hk3, hb3⟩ := hO2.push (q := ⟨0, 0, s, true⟩) (by omega) hgrow hown3 (by simpa using hat)
        rw [Hadd.out] at Hs3 Hby3 Hlen3
        refine (take_skip text w.heap.size (w.heap.size + 2) w.heap.size (w.heap.size + 1) f t l1 (out1 ++ [⟨0, 0, s, true⟩]) _ ⟨_, _, _, hO3⟩ Hs3.out (by omega) (by omega) Hl1.out (by omega) hn Hby3.out Hlen3.out (Nat.le_trans hz2 hb3.size)).mono ?_
        rintro e' w9 ⟨rfl, ⟨l2, out3, hO9, hT9⟩, hk9, hb9⟩
        have HT9 := Lib.hid hT9
        have hbW3 := (hbW2.trans hb3).trans hb9
        clear hT9 hk9 hO3 hk3 hb3 hb9 hgrow hown3 hB3 hS3 e0 e1 e2
        go_wp2_with fail
        go_roundw
        case rel => exact ⟨k + 1, l2, out3, by omega, by go_num, by rw [Ht.out]; exact hO9, HI.out.next hlt' HC.out Hq.out Hx.out HT1.out Hadd.out.symm HT9.out, hbW3⟩
        case measure => simp [intOf]; omega
    · obtain rfl : k = e.length := by omega
      have hIb := HI.out.bytes
      have hIl := HI.out.len
      have hA := HI.out.made
      have hB := HI.out.left
      have hfin : meanL text (out ++ l) = applyL S e := by
        rw [meanL_append, hA, hB, List.take_length]; rfl
      rw [List.take_length] at hIb
      have Hfin := Lib.hid hfin
      have Hsor := Lib.hid HI.out.sorted
      clear hA hB hfin
      have co := hO.made.cell 0
      have cl := hO.left.cell 0
      simp at co cl
      cases A with
      | none =>
        have hl0 : l = [] := by
          cases l with
          | nil => rfl
          | cons p r => obtain ⟨b, o, e', _⟩ := hO.rd.2 (by simp); cases e'
        subst hl0
        simp only [List.append_nil, List.length_nil, Nat.add_zero] at *
        have hc0 := hO.nilc rfl
        subst hc0
        go_wp2_with (at_builtin; refine wpList_append_own_none rfl _ _ 120 rfl w.heap.size 132 i0 4 Tryd.underlying120 ji v out.length (pcCells out) rfl hO.own rfl ?_)
        go_ret
        exact ⟨v, out, rfl, hO.own, Hsor.out, Hfin.out, by omega, by omega, hb⟩
      | some ad =>
        have hrows : ∀ j u, (pcCells l)[j]? = some u → wr.cell? (ad.add j) = some u := fun j u hu => by
          have hr0 : 0 < l.length := by
            have := (List.getElem?_eq_some_iff.1 hu).1
            rw [pcCells_len] at this; omega
          obtain ⟨b', o', e', hb', hc'⟩ := hO.rd.2 hr0
          injection e' with e'
          subst e'
          have e5 : (⟨b', o', none⟩ : Addr).add j = ⟨b', o' + j, none⟩ := by unfold Addr.add; split <;> simp_all
          rw [e5]
          exact hc' j u hu
        have Hrows := Lib.hid hrows
        clear hrows
        go_wp2_with (at_builtin; refine wpList_append_own _ rfl _ _ 120 rfl w.heap.size 132 i0 _ 4 40 Tryd.underlying120 ji jz0 jz1 jz2 rfl (by omega) v out.length (pcCells out) rfl hO.own ad l.length c (pcCells l) rfl (by rw [pcCells_len]) Hrows.out (pcCells_oneCell l) (by unfold maxLen; omega) (by omega) hbs ?_; intro v3 w3 hown3 hgrow _)
        go_ret
        refine ⟨v3, out ++ l, rfl, ?_, Hsor.out, Hfin.out, by simp; omega, by omega, hb.grown hgrow hbs fun g hg => (hO.own.lt g hg).1⟩
        rw [pcCells_append, List.length_append]
        exact hown3
end Go.Proofs.YtffcfnnbdmihaaaDoor.cp
