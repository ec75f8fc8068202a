/-
  THE WALK of (*amanuensisref1.H).Do.
-/
import Derived.Test.YtffcfnnbdmihaaaDoorRefH
import Derived.Deep.RegionLaw
import Derived.Deep.DeepCutAuto
namespace Go.Proofs.YtffcfnnbdmihaaaDoor.hn
open Go.RowKit

theorem infoS1 : (Tryd.prog.info? 9).map (fun i => (i.zero, i.size, i.bytes)) = some (some (.string ⟨#[]⟩), 1, 16) := by kernel_rfl

/-- only the blocks N, and new ones, have turned -/
def Oth (N : Nat → Prop) (w w' : World) : Prop := ∀ k, k < w.heap.size → ¬ N k → w'.heap[k]? = w.heap[k]?
theorem text_cell {w : World} {base : Nat} {v : Value} {tx : List ByteArray} (h : w.ownsRow base 9 1 v tx.length (texts tx)) {k : Nat} (hk : k < tx.length) : ∃ g cap, v = .slice (some ⟨g, 0, none⟩) tx.length cap ∧ g < w.heap.size ∧ w.cell? ⟨g, k, none⟩ = some (.string tx[k]) := by
  obtain ⟨g, cap, hv, _, hlt⟩ := h.form (by omega)
  subst hv
  exact ⟨g, cap, rfl, hlt, own_cell h k _ (by simp [texts, hk])⟩

set_option maxHeartbeats 1000000 in
set_option maxRecDepth 100000 in
theorem rdo_bad (base r : Nat) (v1 v2 : Value) (tx : List ByteArray) (fr : List Int) (a : Nat) (w : World) (h : RefV w base r v1 v2 tx fr a) (x : ByteArray) (hx : tx[a]? = some x) (A : Option Addr) (c : Nat) (e : List Sp) (hr : Rd w w.heap.size 3 A e.length (spCells e)) (hel : e.length ≤ 1048576)
    (hbad : fault x.size e = 1 ∨ fault x.size e = 2) :
    Calls Tryd.prog 41 #[.pointer (some ⟨r, 0, none⟩), .slice A e.length c] w fun q w' => q = .returned (.int .i64 (fault x.size e)) ∧ Below w.heap.size w w' := by
  obtain ⟨h1, h2, h3, h4, h5, h6⟩ := h
  obtain ⟨g, cap, rfl, hgl, c3⟩ := text_cell h3 h6
  have hxe : tx[a] = x := by rw [List.getElem?_eq_getElem h6] at hx; exact Option.some.inj hx
  rw [hxe] at c3
  clear hx hxe
  have c0 := h1.cell 0
  have c2 := h1.cell 2
  simp at c0 c2
  have i1 : (0 : Int) ≤ (a : Int) := by omega
  have i2 : (a : Int) < (tx.length : Int) := by omega
  obtain ⟨k, hk, hk0⟩ : ∃ k : Nat, fault x.size e = k ∧ 0 < k := ⟨_, rfl, by omega⟩
  have Hk := Lib.hid hk
  have Hbad := Lib.hid hbad
  clear hk hbad h4
  go_enter Tryd.func41, Tryd.ntmps41
  go_wp2_with fail
  have hrl := h1.lt
  have hap := rapply_bad x A c e w.drew (show Rd w.drew w.drew.heap.size 3 A e.length (spCells e) from hr) hel Hbad.out
  rw [Hk.out] at hap
  have Hap := Lib.hid hap
  clear hap
  go_region_held3 (fun w' => w'.cell? ⟨r, 0, none⟩ = some (.slice (some ⟨g, 0, none⟩) tx.length cap) ∧ w'.cell? ⟨r, 2, none⟩ = some (.int .i64 a) ∧ w'.cell? ⟨g, a, none⟩ = some (.string x)) (first | (go_keep; done) | exact ⟨(hb2.cell (p := ⟨r, 0, none⟩) hrl).trans c0, (hb2.cell (p := ⟨r, 2, none⟩) hrl).trans c2, (hb2.cell (p := ⟨g, a, none⟩) hgl).trans c3⟩) ((go_at_call 21; refine (show Calls _ _ _ (World.drew w) _ from Hap.out).mono ?_; rintro q w2 ⟨rfl, hb2⟩))
  go_wp2_with fail
  go_ret
  exact ⟨by rw [Hk.out]; rfl, (Below.refl _ _).drew.trans hb2⟩

theorem ref_push {w w5 : World} {base r gf capf cf a : Nat} {Af : Option Addr} {fr : List Int} {tx1 : List ByteArray} {v1 : Value} {o : Obj} {R : Nat → Prop} (hz : base ≤ w.heap.size) (hbr : base ≤ r) (hB : Blk w r 78 #[v1, .slice Af fr.length cf, .int .i64 a])
    (ho1 : w.ownsRow base 9 1 v1 tx1.length (texts tx1)) (ho2 : w.ownsRow base 3 1 (.slice Af fr.length cf) fr.length (fints fr)) (hown : w5.ownsRow base 3 1 (.slice (some ⟨gf, 0, none⟩) (fr.length + 1) capf) (fr.length + 1) (fints fr ++ [.int .i64 a]))
    (hgrow : (w.alloc o).drew.grownBy w5 (Value.slice Af fr.length cf).ownBlock) (hat : (Value.slice Af fr.length cf).ownBlock = some gf ∨ gf = w.heap.size + 1) (hR : ∀ k, ¬ R k → k ≠ r ∧ (Value.slice Af fr.length cf).ownBlock ≠ some k) :
    ∃ v2', Blk (w5.setCell ⟨r, 1, none⟩ (.slice (some ⟨gf, 0, none⟩) (fr.length + 1) capf)) r 78 #[v1, v2', .int .i64 a] ∧ (w5.setCell ⟨r, 1, none⟩ (.slice (some ⟨gf, 0, none⟩) (fr.length + 1) capf)).ownsRow base 9 1 v1 tx1.length (texts tx1) ∧
      (w5.setCell ⟨r, 1, none⟩ (.slice (some ⟨gf, 0, none⟩) (fr.length + 1) capf)).ownsRow base 3 1 v2' (fr ++ [(a : Int)]).length (fints (fr ++ [(a : Int)])) ∧ Hid (Oth R w (w5.setCell ⟨r, 1, none⟩ (.slice (some ⟨gf, 0, none⟩) (fr.length + 1) capf))) ∧
      Hid (∀ k, v2'.ownBlock = some k → (Value.slice Af fr.length cf).ownBlock = some k ∨ w.heap.size ≤ k) ∧ Below base w (w5.setCell ⟨r, 1, none⟩ (.slice (some ⟨gf, 0, none⟩) (fr.length + 1) capf)) := by
  have hnr2 : some r ≠ (Value.slice Af fr.length cf).ownBlock := own_ne ho2 hB (by decide)
  have hB5 := (hB.alloc o).drew.grown hgrow hnr2
  have ho1A : (w.alloc o).drew.ownsRow base 9 1 v1 tx1.length (texts tx1) := (ho1.alloc o).drew
  have ho2A : (w.alloc o).drew.ownsRow base 3 1 (.slice Af fr.length cf) fr.length (fints fr) := (ho2.alloc o).drew
  have h1 := own_far ho1A ho2A hgrow (by decide)
  refine ⟨.slice (some ⟨gf, 0, none⟩) (fr.length + 1) capf, hB5.set_ 1 _, ?_, ?_, fun k hk hn => ?_, fun k hk => ?_, ?_⟩
  · refine own_of_block h1 fun k hk => Below.heap_setCell _ _ _ _ fun e => ?_
    subst e
    exact own_ne h1 hB5 (by decide) hk.symm
  · rw [List.length_append, List.length_singleton]
    refine own_of_block (by simpa [fints] using hown) fun k hk => Below.heap_setCell _ _ _ _ fun e => ?_
    subst e
    exact own_ne hown hB5 (by decide) hk.symm
  · obtain ⟨n1, n2⟩ := hR k hn
    exact (Below.heap_setCell _ _ _ _ n1).trans ((hgrow.block k (by simp; omega) (fun e => n2 e.symm)).trans (Below.heap_alloc w o k hk))
  · simp only [Value.ownBlock, Option.some.injEq] at hk
    subst hk
    rcases hat with h | h
    · exact .inl h
    · exact .inr (by omega)
  · exact ((((Below.refl base w).alloc hz o).drew.grown hgrow (by simp; omega) fun k hk => (ho2A.lt k hk).1)).setCell (p := ⟨r, 1, none⟩) hbr _

set_option maxHeartbeats 2000000 in
set_option maxRecDepth 100000 in
theorem rdo_ok (base r : Nat) (v1 v2 : Value) (tx : List ByteArray) (fr : List Int) (a : Nat) (w : World) (h : RefV w base r v1 v2 tx fr a) (x : ByteArray) (hx : tx[a]? = some x) (A : Option Addr) (c : Nat) (e : List Sp) (hr : Rd w w.heap.size 3 A e.length (spCells e)) (hel : e.length ≤ 1048576)
    (hbase : base ≤ w.heap.size) (hl : tx.length ≤ 1048576) (hxs : x.size ≤ 16777216) (hby : spBytes e ≤ 16777216) (hok : fault x.size e = 0) :
    Calls Tryd.prog 41 #[.pointer (some ⟨r, 0, none⟩), .slice A e.length c] w fun q w' => q = .returned (.int .i64 0) ∧
      (∃ v1' v2', RefV w' base r v1' v2' (tx ++ [⟨(applyL x.data.toList e).toArray⟩]) (fr ++ [(a : Int)]) tx.length ∧ Oth (NB r v1 v2) w w' ∧ (∀ k, NB r v1' v2' k → NB r v1 v2 k ∨ w.heap.size ≤ k)) ∧ Below base w w' := by
  have hh := h
  obtain ⟨h1, h2, h3, h4, h5, h6⟩ := h
  obtain ⟨g, cap, rfl, hgl, c3⟩ := text_cell h3 h6
  have hxe : tx[a] = x := by rw [List.getElem?_eq_getElem h6] at hx; exact Option.some.inj hx
  rw [hxe] at c3
  clear hx hxe
  have c0 := h1.cell 0
  have c2 := h1.cell 2
  simp at c0 c2
  have i1 : (0 : Int) ≤ (a : Int) := by omega
  have i2 : (a : Int) < (tx.length : Int) := by omega
  have Hok := Lib.hid hok
  clear hok h4
  obtain ⟨i0, ji, jz0, jz1, jz2⟩ := info_parts infoS1
  obtain ⟨k0, ki, kz0, kz1, kz2⟩ := info_parts infoInt
  go_enter Tryd.func41, Tryd.ntmps41
  go_wp2_with fail
  have hrl := h1.lt
  have hap := rapply_ok x A c e w.drew (show Rd w.drew w.drew.heap.size 3 A e.length (spCells e) from hr) hel hxs hby Hok.out
  have Hap := Lib.hid hap
  clear hap
  go_region_held3 (fun w' => w'.cell? ⟨r, 0, none⟩ = some (.slice (some ⟨g, 0, none⟩) tx.length cap) ∧ w'.cell? ⟨r, 2, none⟩ = some (.int .i64 a) ∧ w'.cell? ⟨g, a, none⟩ = some (.string x)) (first | (go_keep; done) | exact ⟨(hb2.cell (p := ⟨r, 0, none⟩) hrl).trans c0, (hb2.cell (p := ⟨r, 2, none⟩) hrl).trans c2, (hb2.cell (p := ⟨g, a, none⟩) hgl).trans c3⟩) ((go_at_call 21; refine (show Calls _ _ _ (World.drew w) _ from Hap.out).mono ?_; rintro q w2 ⟨rfl, hb2⟩))
  have hb02 : Below w.heap.size w w2 := (Below.refl _ _).drew.trans hb2
  have H2 := hh.below hb02
  generalize hS : (⟨(applyL x.data.toList e).toArray⟩ : ByteArray) = S
  have HS := Lib.hid hS
  clear hS hb2 c0 c2 c3 h1 h2 h3 h5 h6 hh hr
  obtain ⟨g1, g2, g3, g4, g5, g6⟩ := H2
  have hfl : fr.length ≤ 1048576 := by omega
  have Hg5 := Lib.hid g5
  clear g5
  have c0 := g1.cell 0
  have f0 := g1.frozen 0
  simp at c0
  have hz := g1.lt
  have hw2 := hb02.size
  have hzb : base ≤ w2.heap.size := by omega
  obtain ⟨Af, cf, rfl⟩ := own_form g4
  have hnr : some r ≠ (Value.slice (some ⟨g, 0, none⟩) tx.length cap).ownBlock := own_ne g3 g1 (by decide)
  go_upto_region 5 with (at_builtin; refine wpList_append_lies _ rfl _ _ 60 rfl base 9 i0 _ 1 16 Tryd.underlying60 ji jz0 jz1 jz2 rfl (by omega) _ tx.length _ rfl (g3.alloc _) ⟨w2.heap.size, 0, none⟩ 1 1 [.string S] rfl rfl (World.news_of_block (cs := #[.string S]) (t := 9) (fr := (0, 0)) (heap_alloc_new w2 _)) (by simp [Value.oneCell']) (by omega) (by unfold maxLen; omega) (by omega) (by simp; omega) _ rfl ?_; intro gg cap' w3 hown3 hgrow hat hlt3; have hB3 := (g1.alloc (.cells #[.string S] 9)).grown hgrow hnr; have d0 : w3.cell? ⟨r, 0, none⟩ = some (.slice (some ⟨g, 0, none⟩) tx.length cap) := (hB3.cell 0).trans rfl; have e0 := hB3.frozen 0)
  have hlen1 : (tx ++ [S]).length = tx.length + 1 := by simp
  have hB4 := hB3.set_ 0 (.slice (some ⟨gg, 0, none⟩) (tx.length + 1) cap')
  have ho1 : (w3.setCell ⟨r, 0, none⟩ (.slice (some ⟨gg, 0, none⟩) (tx.length + 1) cap')).ownsRow base 9 1 (.slice (some ⟨gg, 0, none⟩) (tx.length + 1) cap') (tx ++ [S]).length (texts (tx ++ [S])) := by
    rw [hlen1]
    refine own_of_block (by simpa [texts] using hown3) fun k hk => Below.heap_setCell _ _ _ _ fun e => ?_
    subst e
    exact own_ne hown3 hB3 (by decide) hk.symm
  have ho2 : (w3.setCell ⟨r, 0, none⟩ (.slice (some ⟨gg, 0, none⟩) (tx.length + 1) cap')).ownsRow base 3 1 (.slice Af fr.length cf) fr.length (fints fr) := by
    have h1 := own_far (g4.alloc (.cells #[.string S] 9)) (g3.alloc (.cells #[.string S] 9)) hgrow (by decide)
    refine own_of_block h1 fun k hk => Below.heap_setCell _ _ _ _ fun e => ?_
    subst e
    exact own_ne h1 hB3 (by decide) hk.symm
  have hO4 : Oth (NB r (.slice (some ⟨g, 0, none⟩) tx.length cap) (.slice Af fr.length cf)) w2 (w3.setCell ⟨r, 0, none⟩ (.slice (some ⟨gg, 0, none⟩) (tx.length + 1) cap')) := fun k hk hn =>
    (Below.heap_setCell _ _ _ _ (fun e => hn (.inl e))).trans ((hgrow.block k (by simp; omega) (fun e => hn (.inr (.inl e.symm)))).trans (Below.heap_alloc _ _ _ hk))
  have hb4 : Below base w2 (w3.setCell ⟨r, 0, none⟩ (.slice (some ⟨gg, 0, none⟩) (tx.length + 1) cap')) := (((Below.refl base w2).alloc hzb _).grown hgrow (by simp; omega) fun k hk => (g3.lt k hk).1).setCell (p := ⟨r, 0, none⟩) g2 _
  have hgg : g = gg ∨ w2.heap.size ≤ gg := by
    rcases hat with h | h
    · injection h with h; exact .inl h
    · exact .inr (by rw [h]; simp)
  clear hown3 hgrow hat hlt3 hB3 d0 e0 c0 f0 hnr g1 g3 g4
  generalize w3.setCell ⟨r, 0, none⟩ (.slice (some ⟨gg, 0, none⟩) (tx.length + 1) cap') = w4 at *
  have hz4 := hb4.size
  have hzb4 : base ≤ w4.heap.size := by omega
  have hB4' : Blk w4 r 78 #[.slice (some ⟨gg, 0, none⟩) (tx.length + 1) cap', .slice Af fr.length cf, .int .i64 a] := hB4
  clear hB4
  have HO4 := Lib.hid hO4
  have Hgg := Lib.hid hgg
  clear hO4 hgg
  go_cut [] (fun wc => ∃ v2', Blk wc r 78 #[.slice (some ⟨gg, 0, none⟩) (tx.length + 1) cap', v2', .int .i64 a] ∧ wc.ownsRow base 9 1 (.slice (some ⟨gg, 0, none⟩) (tx.length + 1) cap') (tx ++ [S]).length (texts (tx ++ [S])) ∧ wc.ownsRow base 3 1 v2' (fr ++ [(a : Int)]).length (fints (fr ++ [(a : Int)])) ∧ Hid (Oth (NB r (.slice (some ⟨g, 0, none⟩) tx.length cap) (.slice Af fr.length cf)) w4 wc) ∧ Hid (∀ k, v2'.ownBlock = some k → (Value.slice Af fr.length cf).ownBlock = some k ∨ w4.heap.size ≤ k) ∧ Below base w4 wc)
  case first =>
    have c1 := hB4'.cell 1
    have c2 := hB4'.cell 2
    have f1 := hB4'.frozen 1
    simp at c1 c2
    have hrl4 := hB4'.lt
    have hnr2 : some r ≠ (Value.slice Af fr.length cf).ownBlock := own_ne ho2 hB4' (by decide)
    go_region_law
      (((refine step_append_lies _ (by rfl) _ _ _ (by rfl) base 3 k0 _ 1 8 Tryd.underlying76 ki kz0 kz1 kz2 rfl (by omega) (.slice Af fr.length cf) fr.length (fints fr) (by rfl) ((ho2.alloc _).drew) ⟨w4.heap.size, 0, none⟩ 1 1 [.int .i64 a] (by rfl) (by rfl) (World.news_of_block (cs := #[.int .i64 a]) (t := 3) (fr := (0, 0)) (heap_alloc_new w4 _)) (by simp [Value.oneCell']) (by omega) (by unfold maxLen; omega) (by omega) (by simp; omega) (w4.heap.size + 1) (by simp) ?_; intro gf capf w5 hown5 hgrow5 hat5 hlt5; have hB5 := (hB4'.alloc (.cells #[.int .i64 a] 3)).drew.grown hgrow5 hnr2; have d1 := hB5.cell 1; have e1 := hB5.frozen 1; simp at d1)))
    all_goals (go_wp2_with fail; go_meet)
    all_goals exact ref_push hzb4 g2 hB4' ho1 ho2 hown5 hgrow5 hat5 (fun k hk => ⟨fun e => hk (.inl e), fun e => hk (.inr (.inr e))⟩)
  case rest =>
    obtain ⟨v2', q1, q2, q3, HO5, Hv2, hb5⟩ := hcut
    have hbase5 := hb5.size
    have hR5 : RefV wc base r (.slice (some ⟨gg, 0, none⟩) (tx.length + 1) cap') v2' (tx ++ [S]) (fr ++ [(a : Int)]) a := ⟨q1, g2, by rw [hlen1] at q2 ⊢; exact q2, q3, by simp [Hg5.out], by rw [hlen1]; omega⟩
    have hR6 := hR5.setAt (n := tx.length) (by rw [hlen1]; omega)
    have c0 := q1.cell 0
    have c2 := q1.cell 2
    have f2 := q1.frozen 2
    simp at c0 c2
    have HR6 := Lib.hid hR6
    clear hR5 hR6 hlen1 ho1 ho2 hB4'
    go_wp2_with fail
    go_ret
    refine ⟨rfl, ⟨.slice (some ⟨gg, 0, none⟩) (tx.length + 1) cap', v2', ?_, fun k hk hn => ?_, fun k hk => ?_⟩, ?_⟩
    · rw [HS.out]; exact HR6.out
    · have n1 : k ≠ r := fun e => hn (.inl e)
      exact (Below.heap_setCell _ _ _ _ n1).trans ((HO5.out k (by omega) hn).trans ((HO4.out k (by omega) hn).trans (hb02.block k hk)))
    · rcases hk with h | h | h
      · exact .inl (.inl h)
      · simp only [Value.ownBlock, Option.some.injEq] at h
        rcases Hgg.out with h2 | h2
        · exact .inl (.inr (.inl (by rw [← h, ← h2]; rfl)))
        · exact .inr (by omega)
      · rcases Hv2.out k h with h2 | h2
        · exact .inl (.inr (.inr h2))
        · exact .inr (by omega)
    · exact (((hb02.mono hbase).trans hb4).trans hb5).trans ((Below.refl _ _).setCell (p := ⟨r, 2, none⟩) g2 _)
end Go.Proofs.YtffcfnnbdmihaaaDoor.hn
