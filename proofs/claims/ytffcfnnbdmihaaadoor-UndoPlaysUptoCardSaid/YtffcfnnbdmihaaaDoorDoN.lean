/-
  THE WALK of (*History).Do.
-/
import Derived.Test.YtffcfnnbdmihaaaDoorHistN
import Derived.Test.YtffcfnnbdmihaaaDoorRegG
import Derived.Deep.RegionLaw
import Derived.Deep.DeepCutAuto
namespace Go.Proofs.YtffcfnnbdmihaaaDoor.hn
open Go.RowKit
variable {N : Nat → Prop}

theorem infoState : (Tryd.prog.info? 113).map (fun i => (i.zero, i.size, i.bytes)) = some (some (.agg #[.string ⟨#[]⟩, .int .i64 0, .slice none 0 0]), 3, 48) := by kernel_rfl
theorem infoInt : (Tryd.prog.info? 3).map (fun i => (i.zero, i.size, i.bytes)) = some (some (.int .i64 0), 1, 8) := by kernel_rfl

set_option maxRecDepth 100000 in
theorem do_bad (base h : Nat) (l : List HV) (a : Nat) (w : World) (H : HistAt N w base h l a) (x : HV) (hx : l[a]? = some x) (A : Option Addr) (c : Nat) (e : List Sp) (hr : Rd w w.heap.size 3 A e.length (spCells e)) (hel : e.length ≤ 1048576)
    (hbad : fault x.text.size e = 1 ∨ fault x.text.size e = 2) :
    Calls Tryd.prog 40 #[.pointer (some ⟨h, 0, none⟩), .slice A e.length c] w fun r w' => r = .returned (errV (fault x.text.size e)) ∧ Below w.heap.size w w' := by
  obtain ⟨v, hv⟩ : ∃ v : Int, errV (fault x.text.size e) = .iface 97 (.int .i64 v) := by rcases hbad with h | h <;> rw [h] <;> exact ⟨_, rfl⟩
  have Hv := Lib.hid hv
  have Hb := Lib.hid hbad
  clear hv hbad
  go_enter Tryd.func40, Tryd.ntmps40
  go_wp2_with fail
  refine (text_walk base h l a _ H x hx).mono ?_
  rintro r w1 ⟨rfl, n, rfl⟩
  have hr' : Rd (w.drewN n) (w.drewN n).heap.size 3 A e.length (spCells e) := hr
  go_wp2_with fail
  refine (apply_bad _ _ _ _ _ hr' hel Hb.out).mono ?_
  rw [Hv.out]
  rintro r w2 ⟨rfl, hb2⟩
  go_wp2
  go_ret
  exact ⟨by rw [Hv.out]; rfl, (below_drewN (Below.refl _ _) n).trans hb2⟩

theorem hist_push {w w3 : World} {base h g cap gg cap' a : Nat} {l : List HV} {x : HV} {o : Obj} (hz : base ≤ w.heap.size) (hB : Blk w h 116 #[.slice (some ⟨g, 0, none⟩) l.length cap, .int .i64 a]) (hBs : base ≤ h)
    (ho : w.ownsRow base 113 3 (.slice (some ⟨g, 0, none⟩) l.length cap) l.length (l.flatMap HV.cells)) (hnx : ∀ p ∈ l, w.ownsRow base 3 1 p.v p.nx.length (ints p.nx))
    (hp : l.Pairwise (fun p q => p.v.ownBlock = none ∨ p.v.ownBlock ≠ q.v.ownBlock)) (ha : a < l.length)
    (hown1 : w3.ownsRow base 113 3 (.slice (some ⟨gg, 0, none⟩) (l.length + 1) cap') (l.length + 1) (l.flatMap HV.cells ++ x.cells)) (hgrow : (w.alloc o).drew.grownBy w3 (Value.slice (some ⟨g, 0, none⟩) l.length cap).ownBlock)
    (hx : x.nx = []) (hv : x.v = .slice none 0 0) (hN : ¬ N h ∧ ¬ N g ∧ ∀ p ∈ l, ∀ k, p.v.ownBlock = some k → ¬ N k) (hNw : ∀ k, N k → k < w.heap.size) (hatg : (Value.slice (some ⟨g, 0, none⟩) l.length cap).ownBlock = some gg ∨ gg = w.heap.size + 1) :
    HistAt N (w3.setCell ⟨h, 0, none⟩ (.slice (some ⟨gg, 0, none⟩) (l.length + 1) cap')) base h (l ++ [x]) a ∧ Below base w (w3.setCell ⟨h, 0, none⟩ (.slice (some ⟨gg, 0, none⟩) (l.length + 1) cap')) ∧ KeepN N w (w3.setCell ⟨h, 0, none⟩ (.slice (some ⟨gg, 0, none⟩) (l.length + 1) cap')) := by
  have hoA : (w.alloc o).drew.ownsRow base 113 3 (.slice (some ⟨g, 0, none⟩) l.length cap) l.length (l.flatMap HV.cells) := (ho.alloc o).drew
  have hB3 := (hB.alloc o).drew.grown hgrow (own_ne hoA (hB.alloc o).drew (by decide))
  have hlen : (l ++ [x]).length = l.length + 1 := by simp
  have hfm : (l ++ [x]).flatMap HV.cells = l.flatMap HV.cells ++ x.cells := by simp
  have hNg : ¬ N gg := fun hn => by
    rcases hatg with h1 | h1
    · injection h1 with h1
      have h2 : g = gg := h1
      rw [← h2] at hn
      exact hN.2.1 hn
    · have := hNw _ hn; omega
  have hNp : ∀ p ∈ l ++ [x], ∀ k, p.v.ownBlock = some k → ¬ N k := fun p hp' k hk => by
    rw [List.mem_append, List.mem_singleton] at hp'
    rcases hp' with hp' | rfl
    · exact hN.2.2 p hp' k hk
    · rw [hv] at hk; cases hk
  refine ⟨⟨gg, cap', by rw [hlen]; exact hB3.set_ 0 _, hBs, ?_, ?_, ?_, by rw [hlen]; omega, hN.1, hNg, hNp⟩, ?_, fun k hk => (Below.heap_setCell _ _ _ _ (fun e => hN.1 (by have h2 : k = h := e; rw [← h2]; exact hk))).trans ((hgrow.block k (by simp; have := hNw k hk; omega) (fun e => by injection e with e; exact hN.2.1 (by have h2 : k = g := e; rw [← h2]; exact hk))).trans (Below.heap_alloc w o k (hNw k hk)))⟩
  · rw [hlen, hfm]
    exact own_of_block hown1 fun k hk => Below.heap_setCell _ _ _ _ fun e => by subst e; exact own_ne hown1 hB3 (by decide) hk.symm
  · intro p hp'
    rw [List.mem_append, List.mem_singleton] at hp'
    rcases hp' with hp' | rfl
    · have h1 : (w.alloc o).drew.ownsRow base 3 1 p.v p.nx.length (ints p.nx) := ((hnx p hp').alloc o).drew
      have h2 := own_far h1 hoA hgrow (by decide)
      exact own_of_block h2 fun k hk => Below.heap_setCell _ _ _ _ fun e => by subst e; exact own_ne h2 hB3 (by decide) hk.symm
    · rw [hx, hv]; exact World.ownsRow_nil _ _ _ _
  · rw [List.pairwise_append]
    refine ⟨hp, by simp, fun p _ q hq => ?_⟩
    rw [List.mem_singleton] at hq
    subst hq
    rw [hv]
    cases hp' : p.v.ownBlock with
    | none => exact .inl rfl
    | some k => right; simp [Value.ownBlock]
  · refine ((((Below.refl base w).alloc hz o).drew.grown hgrow (by simp; omega) fun k hk => ?_)).setCell (p := ⟨h, 0, none⟩) hBs _
    exact (hoA.lt k hk).1

theorem hv_set (l : List HV) (a : Nat) (y : HV) (ha : a < l.length) (h1 : y.text = l[a].text) (h2 : y.fr = l[a].fr) : (l.set a y).flatMap HV.cells = (l.flatMap HV.cells).set (a * 3 + 2) y.v := by
  induction l generalizing a with
  | nil => simp at ha
  | cons x l ih =>
    cases a with
    | zero =>
      simp only [List.getElem_cons_zero] at h1 h2
      simp [HV.cells, h1, h2]
    | succ a =>
      simp only [List.getElem_cons_succ] at h1 h2
      have := ih a (by simpa using ha) h1 h2
      simp only [List.set_cons_succ, List.flatMap_cons, this]
      rw [List.set_append_right _ _ (by simp [HV.cells]; omega)]
      congr 2
      simp [HV.cells]; omega

theorem hist_next {w w5 : World} {base h g cap gg cap' a m : Nat} {l : List HV} {o : Obj} (hz : base ≤ w.heap.size) (hB : Blk w h 116 #[.slice (some ⟨g, 0, none⟩) l.length cap, .int .i64 a]) (hBs : base ≤ h)
    (ho : w.ownsRow base 113 3 (.slice (some ⟨g, 0, none⟩) l.length cap) l.length (l.flatMap HV.cells)) (hnx : ∀ p ∈ l, w.ownsRow base 3 1 p.v p.nx.length (ints p.nx))
    (hp : l.Pairwise (fun p q => p.v.ownBlock = none ∨ p.v.ownBlock ≠ q.v.ownBlock)) (ha : a < l.length)
    (hown1 : w5.ownsRow base 3 1 (.slice (some ⟨gg, 0, none⟩) (l[a].nx.length + 1) cap') (l[a].nx.length + 1) (ints l[a].nx ++ [.int .i64 m])) (hgrow : (w.alloc o).drew.grownBy w5 l[a].v.ownBlock)
    (hat : l[a].v.ownBlock = some gg ∨ gg = w.heap.size + 1) (hN : ¬ N h ∧ ¬ N g ∧ ∀ p ∈ l, ∀ k, p.v.ownBlock = some k → ¬ N k) (hNw : ∀ k, N k → k < w.heap.size) :
    HistAt N (w5.setCell ⟨g, a * 3 + 2, none⟩ (.slice (some ⟨gg, 0, none⟩) (l[a].nx.length + 1) cap')) base h (l.set a { l[a] with nx := l[a].nx ++ [m], v := .slice (some ⟨gg, 0, none⟩) (l[a].nx.length + 1) cap' }) a ∧
      Below base w (w5.setCell ⟨g, a * 3 + 2, none⟩ (.slice (some ⟨gg, 0, none⟩) (l[a].nx.length + 1) cap')) ∧ KeepN N w (w5.setCell ⟨g, a * 3 + 2, none⟩ (.slice (some ⟨gg, 0, none⟩) (l[a].nx.length + 1) cap')) := by
  have hxa := hnx l[a] (List.getElem_mem ha)
  have hoA : (w.alloc o).drew.ownsRow base 113 3 (.slice (some ⟨g, 0, none⟩) l.length cap) l.length (l.flatMap HV.cells) := (ho.alloc o).drew
  have hxA : (w.alloc o).drew.ownsRow base 3 1 l[a].v l[a].nx.length (ints l[a].nx) := (hxa.alloc o).drew
  have hB5 := (hB.alloc o).drew.grown hgrow (own_ne hxA (hB.alloc o).drew (by decide))
  have ho5 := own_far hoA hxA hgrow (by decide)
  have hgl := (ho.lt g rfl)
  have hgh : g ≠ h := fun e => own_ne ho hB (by decide) (by rw [e]; rfl)
  have hlen : (l.set a { l[a] with nx := l[a].nx ++ [m], v := .slice (some ⟨gg, 0, none⟩) (l[a].nx.length + 1) cap' }).length = l.length := by simp
  have hst := ho5.stored (a * 3 + 2) (.slice (some ⟨gg, 0, none⟩) (l[a].nx.length + 1) cap')
  have hgb : some g ≠ (Value.slice (some ⟨gg, 0, none⟩) (l[a].nx.length + 1) cap').ownBlock := fun e => by
    obtain ⟨cs, fr, h1⟩ := own_ty hown1 g e.symm
    obtain ⟨cs', fr', h2⟩ := own_ty ho5 g rfl
    rw [h1] at h2; injection h2 with h2; injection h2 with _ h2 _; exact absurd h2 (by decide)
  have hpi := List.pairwise_iff_getElem.1 hp
  have hoth : ∀ i (hi : i < l.length), i ≠ a → l[i].v.ownBlock = none ∨ (l[i].v.ownBlock ≠ some gg ∧ l[i].v.ownBlock ≠ l[a].v.ownBlock) := by
    intro i hi hne
    have hli := hnx l[i] (List.getElem_mem hi)
    cases hb : l[i].v.ownBlock with
    | none => exact .inl rfl
    | some k =>
      right
      have hk := hli.lt k hb
      have h1 : some k ≠ l[a].v.ownBlock := by
        rcases Nat.lt_or_gt_of_ne hne with h | h
        · have := hpi i a hi ha h
          rw [hb] at this
          rcases this with h | h
          · cases h
          · exact h
        · have := hpi a i ha hi h
          rw [hb] at this
          rcases this with h | h
          · rw [h]; simp
          · exact fun e => h e.symm
      refine ⟨fun e => ?_, h1⟩
      rcases hat with h | h
      · exact h1 (by rw [h]; exact e)
      · injection e with e; omega
  refine ⟨⟨g, cap, by rw [hlen]; exact hB5.far (p := ⟨g, a * 3 + 2, none⟩) (Ne.symm hgh) _, hBs, ?_, ?_, ?_, by rw [hlen]; exact ha, hN.1, hN.2.1, ?_⟩, ?_, fun k hk => (Below.heap_setCell _ _ _ _ (fun e => hN.2.1 (by have h2 : k = g := e; rw [← h2]; exact hk))).trans ((hgrow.block k (by simp; have := hNw k hk; omega) (fun e => hN.2.2 _ (List.getElem_mem ha) k e.symm hk)).trans (Below.heap_alloc w o k (hNw k hk)))⟩
  · rw [hlen, hv_set _ _ _ ha (by simp) (by simp)]
    exact hst.1
  · intro p hp'
    obtain ⟨i, hi, rfl⟩ := List.mem_iff_getElem.1 hp'
    rw [hlen] at hi
    rw [List.getElem_set]
    by_cases hia : a = i
    · subst hia
      simp only [if_true, List.length_append, List.length_singleton]
      refine own_of_block ?_ fun k hk => hst.2.block k ?_ ?_
      · simpa [ints] using hown1
      · exact (hown1.lt k hk).2
      · intro e; injection e with e; subst e; exact hgb hk.symm
    · rw [if_neg hia]
      have hli := hnx l[i] (List.getElem_mem hi)
      have hliA : (w.alloc o).drew.ownsRow base 3 1 l[i].v l[i].nx.length (ints l[i].nx) := (hli.alloc o).drew
      have hli5 : w5.ownsRow base 3 1 l[i].v l[i].nx.length (ints l[i].nx) := hliA.kept hgrow (by
        rcases hoth i hi (Ne.symm hia) with h | h
        · exact .inl h
        · exact .inr h.2)
      refine own_of_block hli5 fun k hk => hst.2.block k (hli5.lt k hk).2 ?_
      intro e
      obtain ⟨cs, fr, h1⟩ := own_ty hli5 k hk
      obtain ⟨cs', fr', h2⟩ := own_ty ho5 k e.symm
      rw [h1] at h2; injection h2 with h2; injection h2 with _ h2 _; exact absurd h2 (by decide)
  · refine List.pairwise_iff_getElem.2 fun i j hi hj hij => ?_
    rw [hlen] at hi hj
    rw [List.getElem_set, List.getElem_set]
    by_cases hia : a = i
    · subst hia
      rw [if_pos rfl, if_neg (by omega)]
      right
      rcases hoth j hj (by omega) with h | h
      · simp only [h]; simp [Value.ownBlock]
      · exact fun e => h.1 e.symm
    · by_cases hja : a = j
      · subst hja
        rw [if_neg hia, if_pos rfl]
        rcases hoth i hi (by omega) with h | h
        · exact .inl h
        · exact .inr h.1
      · rw [if_neg hia, if_neg hja]
        exact hpi i j hi hj hij
  · intro p hp' k hk
    rcases List.mem_or_eq_of_mem_set hp' with hp' | rfl
    · exact hN.2.2 p hp' k hk
    · intro hn
      simp only [Value.ownBlock, Option.some.injEq] at hk
      subst hk
      rcases hat with h1 | h1
      · exact hN.2.2 _ (List.getElem_mem ha) _ h1 hn
      · have := hNw _ hn; omega
  · refine ((((Below.refl base w).alloc hz o).drew.grown hgrow (by simp; omega) fun k hk => ?_)).setCell (p := ⟨g, a * 3 + 2, none⟩) hgl.1 _
    exact (hxA.lt k hk).1

set_option maxHeartbeats 3200000 in
set_option maxRecDepth 100000 in
theorem do_ok (base h : Nat) (l : List HV) (a : Nat) (w : World) (H : HistAt N w base h l a) (x : HV) (hx : l[a]? = some x) (A : Option Addr) (c : Nat) (e : List Sp) (hr : Rd w w.heap.size 3 A e.length (spCells e)) (hel : e.length ≤ 1048576)
    (hbase : base ≤ w.heap.size) (hl : l.length ≤ 1048576) (hxs : x.text.size ≤ 1048576) (hby : spBytes e ≤ 1048576) (hnl : x.nx.length ≤ 1048576)
    (hok : fault x.text.size e = 0) (hNw : ∀ k, N k → k < w.heap.size) :
    Calls Tryd.prog 40 #[.pointer (some ⟨h, 0, none⟩), .slice A e.length c] w fun r w' => r = .returned .nilIface ∧
      (∃ v, HistAt N w' base h (l.set a { x with nx := x.nx ++ [l.length], v := v } ++ [⟨⟨(applyL x.text.data.toList e).toArray⟩, a, [], .slice none 0 0⟩]) l.length) ∧ Below base w w' ∧ KeepN N w w' := by
  go_enter Tryd.func40, Tryd.ntmps40
  go_wp2_with fail
  refine (text_walk base h l a _ H x hx).mono ?_
  rintro r w1 ⟨rfl, n, rfl⟩
  have hr' : Rd (w.drewN n) (w.drewN n).heap.size 3 A e.length (spCells e) := hr
  go_wp2_with fail
  refine (apply_ok _ _ _ _ _ hr' hel hxs hby hok).mono ?_
  rintro r w2 ⟨rfl, hb2⟩
  have H2 := (H.drewN n).below hb2
  have hbb : Below w.heap.size w w2 := (below_drewN (Below.refl _ _) n).trans hb2
  have hk02 : KeepN N w w2 := KeepN.below hNw hbb
  have hNw2 : ∀ k, N k → k < w2.heap.size := fun k hk => Nat.lt_of_lt_of_le (hNw k hk) hbb.size
  have HK02 := Lib.hid hk02
  have HNw2 := Lib.hid hNw2
  clear hb2 hk02 hNw2 hNw
  generalize ht2 : (⟨(applyL x.text.data.toList e).toArray⟩ : ByteArray) = t2 at *
  have Ht2 := Lib.hid ht2
  clear ht2
  obtain ⟨g, cap, hB, hBs, ho, hnx, hp, ha, hN⟩ := H2
  have HN := Lib.hid hN
  clear hN
  have c0 := hB.cell 0
  have c1 := hB.cell 1
  simp at c0 c1
  have hz := hB.lt
  obtain ⟨i0, hi, hz0, hz1, hz2⟩ := info_parts infoState
  have f0 := hB.frozen 0
  have hgh : some h ≠ (Value.slice (some ⟨g, 0, none⟩) l.length cap).ownBlock := own_ne ho hB (by decide)
  have hw2 : w.heap.size ≤ w2.heap.size := hbb.size
  have hzb : base ≤ w2.heap.size := by omega
  go_upto_region 5 with fail
  clear c0 c1 f0 hgh
  go_cut [5, 7] (fun s5 s7 wc => s5 = .string t2 ∧ s7 = .int .i64 l.length ∧ HistAt N wc base h (l ++ [⟨t2, a, [], .slice none 0 0⟩]) a ∧ Below base w2 wc ∧ Hid (KeepN N w2 wc))
  case first =>
    have c0 := hB.cell 0
    have c1 := hB.cell 1
    simp at c0 c1
    have f0 := hB.frozen 0
    have hgh : some h ≠ (Value.slice (some ⟨g, 0, none⟩) l.length cap).ownBlock := own_ne ho hB (by decide)
    go_region_law
      (((refine step_append_lies _ (by rfl) _ _ _ (by rfl) base 113 i0 _ 3 48 Tryd.underlying114 hi hz0 hz1 hz2 rfl (by omega) (.slice (some ⟨g, 0, none⟩) l.length cap) l.length (l.flatMap HV.cells) (by rfl) ((ho.alloc _).drew) ⟨w2.heap.size, 0, none⟩ 1 1 [.string t2, .int .i64 a, .slice none 0 0] (by rfl) (by rfl) (World.news_of_block (cs := #[.string t2, .int .i64 a, .slice none 0 0]) (t := 113) (fr := (0, 0)) (heap_alloc_new w2 _)) (by simp [Value.oneCell']) (by omega) (by unfold maxLen; omega) (by omega) (by simp; omega) (w2.heap.size + 1) (by simp) ?_; intro gg cap' w3 hown1 hgrow hat hlt; have hB3 := (hB.alloc (.cells #[.string t2, .int .i64 a, .slice none 0 0] 113)).drew.grown hgrow hgh; have d0 := hB3.cell 0; have e0 := hB3.frozen 0; simp at d0)))
    all_goals (go_wp2_with fail; go_meet; exact ⟨rfl, rfl, hist_push hzb hB hBs ho hnx hp ha hown1 hgrow rfl rfl HN.out HNw2.out hat⟩)
  case rest =>
    clear hB hBs ho hnx hp hz
    obtain ⟨rfl, rfl, H3, hb3, HK3⟩ := hcut
    have HNw3 : Hid (∀ k, N k → k < wc.heap.size) := fun k hk => Nat.lt_of_lt_of_le (HNw2.out k hk) hb3.size
    clear HN
    have hz3 := hb3.size
    have hzc : base ≤ wc.heap.size := by omega
    obtain ⟨l', hl'⟩ : ∃ l', l' = l ++ [⟨t2, (a : Int), [], .slice none 0 0⟩] := ⟨_, rfl⟩
    have hlen' : l'.length = l.length + 1 := by rw [hl']; simp
    have hxa : ∀ h : a < l'.length, l'[a] = x := by
      subst hl'
      intro h
      rw [List.getElem?_eq_getElem ha] at hx
      rw [List.getElem_append_left ha]
      exact Option.some.inj hx
    have Hl' := Lib.hid hl'
    rw [← hl'] at H3
    clear hl'
    have Hlen := Lib.hid hlen'
    obtain ⟨g, cap, hB, hBs, ho, hnx, hp, ha', hN⟩ := H3
    have HN := Lib.hid hN
    clear hN
    have hxa := hxa ha'
    have Hxa := Lib.hid hxa
    have hlt' : l'.length ≤ 1048577 := by omega
    clear hlen' hxa
    go_upto_region 6 with fail
    go_cut [] (fun wd => (∃ v, HistAt N wd base h (l'.set a { l'[a] with nx := l'[a].nx ++ [l.length], v := v }) a) ∧ Below base wc wd ∧ Hid (KeepN N wc wd))
    case first =>
      have c0 := hB.cell 0
      have c1 := hB.cell 1
      simp at c0 c1
      have hg2 := hvCells_get l' a 2 (by omega) ha'
      have hc2 : wc.cell? ⟨g, a * 3 + 2, none⟩ = some l'[a].v := own_cell ho (a * 3 + 2) _ hg2
      have hgl : g < wc.heap.size := (ho.lt g rfl).2
      have hhl : h < wc.heap.size := hB.lt
      have hxo := hnx _ (List.getElem_mem ha')
      obtain ⟨j0, hj, hj0, hj1, hj2⟩ := info_parts infoInt
      have i1 : (0 : Int) ≤ (a : Int) := by omega
      have i2 : (a : Int) < (l'.length : Int) := by omega
      rw [← Hxa.out] at hnl
      generalize hyy : l'[a] = y at *
      have Hyy := Lib.hid hyy
      have Hg2 : Hid ((l'.flatMap HV.cells)[a * 3 + 2]? = some y.v) := hg2
      clear hyy hg2
      have hgh : g ≠ h := fun e1 => own_ne ho hB (by decide) (by rw [e1]; rfl)
      refine wp_region_G 24 (fun w' => w'.cell? ⟨h, 0, none⟩ = some (.slice (some ⟨g, 0, none⟩) l'.length cap) ∧ w'.cell? ⟨h, 1, none⟩ = some (.int .i64 a) ∧ w'.cell? ⟨g, a * 3 + 2, none⟩ = some y.v) (by kernel_rfl) ?_
      have hS0 : (fun w' : World => w'.cell? ⟨h, 0, none⟩ = some (.slice (some ⟨g, 0, none⟩) l'.length cap) ∧ w'.cell? ⟨h, 1, none⟩ = some (.int .i64 a) ∧ w'.cell? ⟨g, a * 3 + 2, none⟩ = some y.v) wc.drew := ⟨c0, c1, hc2⟩
      refine wpAnyG_take (i := 0) (v := ?_) rfl (by kernel_rfl) (by kernel_rfl) (by kernel_rfl) (by kernel_rfl) (fun _ _ _ h => h) (Or.inl ⟨by rfl, ?_⟩) hS0 ?_; rotate_left; · (intro w hSw; (try dsimp only at hSw); obtain ⟨s0, s1, s2⟩ := hSw; go_simp; try with_reducible rfl)
      simp only [Act.put, List.setIfInBounds_toArray]
      refine wpAnyG_take (i := 1) (v := ?_) rfl (by kernel_rfl) (by kernel_rfl) (by kernel_rfl) (by kernel_rfl) (fun _ _ _ h => h) (Or.inl ⟨by rfl, ?_⟩) hS0 ?_; rotate_left; · (intro w hSw; (try dsimp only at hSw); obtain ⟨s0, s1, s2⟩ := hSw; go_simp; try with_reducible rfl)
      simp only [Act.put]
      refine wpAnyG_take (i := 2) (v := ?_) rfl (by kernel_rfl) (by kernel_rfl) (by kernel_rfl) (by kernel_rfl) (fun _ _ _ h => h) (Or.inl ⟨by rfl, ?_⟩) hS0 ?_; rotate_left; · (intro w hSw; (try dsimp only at hSw); obtain ⟨s0, s1, s2⟩ := hSw; go_simp; try with_reducible rfl)
      simp only [Act.put]
      refine wpAnyG_take (i := 3) (v := ?_) rfl (by kernel_rfl) (by kernel_rfl) (by kernel_rfl) (by kernel_rfl) (fun _ _ _ h => h) (Or.inl ⟨by rfl, ?_⟩) hS0 ?_; rotate_left; · (intro w hSw; (try dsimp only at hSw); obtain ⟨s0, s1, s2⟩ := hSw; go_simp; try with_reducible rfl)
      simp only [Act.put]
      refine wpAnyG_take (i := 4) (v := ?_) rfl (by kernel_rfl) (by kernel_rfl) (by kernel_rfl) (by kernel_rfl) (fun _ _ _ h => h) (Or.inl ⟨by rfl, ?_⟩) hS0 ?_; rotate_left; · (intro w hSw; (try dsimp only at hSw); obtain ⟨s0, s1, s2⟩ := hSw; go_simp; try with_reducible rfl)
      simp only [Act.put]
      refine wpAnyG_take (i := 5) (v := ?_) rfl (by kernel_rfl) (by kernel_rfl) (by kernel_rfl) (by kernel_rfl) (fun _ _ _ h => h) (Or.inl ⟨by rfl, ?_⟩) hS0 ?_; rotate_left; · (intro w hSw; (try dsimp only at hSw); obtain ⟨s0, s1, s2⟩ := hSw; go_simp; try with_reducible rfl)
      simp only [Act.put]
      refine wpAnyG_take (i := 6) (v := ?_) rfl (by kernel_rfl) (by kernel_rfl) (by kernel_rfl) (by kernel_rfl) (fun _ _ _ h => h) (Or.inl ⟨by rfl, ?_⟩) hS0 ?_; rotate_left; · (intro w hSw; (try dsimp only at hSw); obtain ⟨s0, s1, s2⟩ := hSw; go_simp; try with_reducible rfl)
      simp only [Act.put]
      refine wpAnyG_take (i := 7) (v := ?_) rfl (by kernel_rfl) (by kernel_rfl) (by kernel_rfl) (by kernel_rfl) (fun _ _ _ h => h) (Or.inl ⟨by rfl, ?_⟩) hS0 ?_; rotate_left; · (intro w hSw; (try dsimp only at hSw); obtain ⟨s0, s1, s2⟩ := hSw; go_simp; try with_reducible rfl)
      simp only [Act.put]
      refine wpAnyG_take (i := 8) (v := ?_) rfl (by kernel_rfl) (by kernel_rfl) (by kernel_rfl) (by kernel_rfl) (fun _ _ _ h => h) (Or.inl ⟨by rfl, ?_⟩) hS0 ?_; rotate_left; · (intro w hSw; (try dsimp only at hSw); obtain ⟨s0, s1, s2⟩ := hSw; go_simp; try with_reducible rfl)
      simp only [Act.put]
      refine wpAnyG_take (i := 9) (v := ?_) rfl (by kernel_rfl) (by kernel_rfl) (by kernel_rfl) (by kernel_rfl) (fun _ _ _ h => h) (Or.inl ⟨by rfl, ?_⟩) hS0 ?_; rotate_left; · (intro w hSw; (try dsimp only at hSw); obtain ⟨s0, s1, s2⟩ := hSw; go_simp; try with_reducible rfl)
      simp only [Act.put]
      refine wpAnyG_take (i := 10) (v := ?_) rfl (by kernel_rfl) (by kernel_rfl) (by kernel_rfl) (by kernel_rfl) (fun _ _ _ h => h) (Or.inl ⟨by rfl, ?_⟩) hS0 ?_; rotate_left; · (intro w hSw; (try dsimp only at hSw); obtain ⟨s0, s1, s2⟩ := hSw; go_simp; try with_reducible rfl)
      simp only [Act.put]
      refine wpAnyG_take (i := 11) (v := ?_) rfl (by kernel_rfl) (by kernel_rfl) (by kernel_rfl) (by kernel_rfl) (fun _ _ _ h => h) (Or.inl ⟨by rfl, ?_⟩) hS0 ?_; rotate_left; · (intro w hSw; (try dsimp only at hSw); obtain ⟨s0, s1, s2⟩ := hSw; go_simp; try with_reducible rfl)
      simp only [Act.put]
      refine wpAnyG_take (i := 12) (v := ?_) rfl (by kernel_rfl) (by kernel_rfl) (by kernel_rfl) (by kernel_rfl) (fun _ _ _ h => h) (Or.inl ⟨by rfl, ?_⟩) hS0 ?_; rotate_left; · (intro w hSw; (try dsimp only at hSw); obtain ⟨s0, s1, s2⟩ := hSw; go_simp; try with_reducible rfl)
      simp only [Act.put]
      refine wpAnyG_take (i := 13) (v := ?_) rfl (by kernel_rfl) (by kernel_rfl) (by kernel_rfl) (by kernel_rfl) (fun _ _ _ h => h) (Or.inl ⟨by rfl, ?_⟩) hS0 ?_; rotate_left; · (intro w hSw; (try dsimp only at hSw); obtain ⟨s0, s1, s2⟩ := hSw; go_simp; try with_reducible rfl)
      simp only [Act.put]
      refine wpAnyG_take (i := 14) (v := ?_) rfl (by kernel_rfl) (by kernel_rfl) (by kernel_rfl) (by kernel_rfl) (fun _ _ _ h => h) (Or.inl ⟨by rfl, ?_⟩) hS0 ?_; rotate_left; · (intro w hSw; (try dsimp only at hSw); obtain ⟨s0, s1, s2⟩ := hSw; go_simp; try with_reducible rfl)
      simp only [Act.put]
      refine wpAnyG_take (i := 15) (v := ?_) rfl (by kernel_rfl) (by kernel_rfl) (by kernel_rfl) (by kernel_rfl) (fun _ _ _ h => h) (Or.inl ⟨by rfl, ?_⟩) hS0 ?_; rotate_left; · (intro w hSw; (try dsimp only at hSw); obtain ⟨s0, s1, s2⟩ := hSw; go_simp; try with_reducible rfl)
      simp only [Act.put]
      refine wpAnyG_take (i := 16) (v := ?_) rfl (by kernel_rfl) (by kernel_rfl) (by kernel_rfl) (by kernel_rfl) (fun _ _ _ h => h) (Or.inl ⟨by rfl, ?_⟩) hS0 ?_; rotate_left; · (intro w hSw; (try dsimp only at hSw); obtain ⟨s0, s1, s2⟩ := hSw; go_simp; try with_reducible rfl)
      simp only [Act.put]
      refine wpAnyG_take (i := 17) (v := ?_) rfl (by kernel_rfl) (by kernel_rfl) (by kernel_rfl) (by kernel_rfl) (fun _ _ _ h => h) (Or.inl ⟨by rfl, ?_⟩) hS0 ?_; rotate_left; · (intro w hSw; (try dsimp only at hSw); obtain ⟨s0, s1, s2⟩ := hSw; go_simp; try with_reducible rfl)
      simp only [Act.put]
      refine wpAnyG_take (i := 18) (v := ?_) rfl (by kernel_rfl) (by kernel_rfl) (by kernel_rfl) (by kernel_rfl) (fun _ _ _ h => h) (Or.inl ⟨by rfl, ?_⟩) hS0 ?_; rotate_left; · (intro w hSw; (try dsimp only at hSw); obtain ⟨s0, s1, s2⟩ := hSw; go_simp; try with_reducible rfl)
      simp only [Act.put]
      refine wpAnyG_take (i := 19) (v := ?_) rfl (by kernel_rfl) (by kernel_rfl) (by kernel_rfl) (by kernel_rfl) (fun _ _ _ h => h) (Or.inl ⟨by rfl, ?_⟩) hS0 ?_; rotate_left; · (intro w hSw; (try dsimp only at hSw); obtain ⟨s0, s1, s2⟩ := hSw; go_simp; try with_reducible rfl)
      simp only [Act.put]
      refine wpAnyG_one (i := 20) (by kernel_rfl) rfl (fun K hK => ?_)
      go_simp
      refine hK.out _ _ (fun _ => ⟨(cell_alloc _ _ _ _ hhl).trans c0, (cell_alloc _ _ _ _ hhl).trans c1, (cell_alloc _ _ _ _ hgl).trans hc2⟩) ?_
      clear hK K
      refine wpAnyG_one (i := 21) (by kernel_rfl) rfl (fun K hK => ?_)
      refine step_append_lies _ (by rfl) _ _ _ (by rfl) base 3 j0 _ 1 8 Tryd.underlying76 hj hj0 hj1 hj2 rfl (by omega) y.v y.nx.length (ints y.nx) (by rfl) ((hxo.alloc _).drew) ⟨wc.heap.size, 0, none⟩ 1 1 [.int .i64 l.length] (by rfl) (by rfl) (World.news_of_block (cs := #[.int .i64 l.length]) (t := 3) (fr := (0, 0)) (heap_alloc_new wc _)) (by simp [Value.oneCell']) (by omega) (by unfold maxLen; omega) (by omega) (by simp; omega) (wc.heap.size + 1) (by simp) ?_; intro gg cap' w3 hown1 hgrow hat hlt; have ho5 := own_far ((ho.alloc (.cells #[.int .i64 l.length] 3)).drew) ((hxo.alloc (.cells #[.int .i64 l.length] 3)).drew) hgrow (by decide); have d2 : w3.cell? ⟨g, a * 3 + 2, none⟩ = some y.v := own_cell ho5 (a * 3 + 2) _ Hg2.out; have f2 := ho5.frozenAt (a * 3 + 2); have hB3 := (hB.alloc (.cells #[.int .i64 l.length] 3)).drew.grown hgrow (own_ne ((hxo.alloc (.cells #[.int .i64 l.length] 3)).drew) (hB.alloc (.cells #[.int .i64 l.length] 3)).drew (by decide)); have b0 := hB3.cell 0; have b1 := hB3.cell 1; simp at b0 b1
      refine hK.out _ _ (fun _ => ⟨b0, b1, d2⟩) ?_
      clear hK K
      refine wpAnyG_one (i := 22) (by kernel_rfl) rfl (fun K hK => ?_)
      go_simp
      refine hK.out _ _ (fun _ => ⟨b0, b1, d2⟩) ?_
      clear hK K
      refine wpAnyG_one (i := 23) (by kernel_rfl) rfl (fun K hK => ?_)
      go_simp
      refine hK.out _ _ (fun _ => ⟨b0, b1, d2⟩) ?_
      clear hK K
      refine wpAnyG_one (i := 24) (by kernel_rfl) rfl (fun K hK => ?_)
      go_simp
      refine hK.out _ _ (fun h => absurd rfl h) ?_
      clear hK K
      refine wpAnyG_done (by kernel_rfl) ?_ _
      all_goals (go_wp2_with fail; go_meet)
      all_goals (obtain rfl := Hyy.out; exact ⟨⟨_, (hist_next hzc hB hBs ho hnx hp ha' hown1 hgrow hat HN.out HNw3.out).1⟩, (hist_next hzc hB hBs ho hnx hp ha' hown1 hgrow hat HN.out HNw3.out).2⟩)
    case rest =>
      clear hB hBs ho hnx hp
      obtain ⟨⟨v, H4⟩, hb4, HK4⟩ := hcut
      have H5 := H4.setAt (n := l.length) (by rw [List.length_set, Hlen.out]; omega)
      obtain ⟨g, cap, hB, hBs, ho, hnx, hp, ha4, hN4⟩ := H4
      have HN4 := Lib.hid hN4
      clear hN4
      have c1 := hB.cell 1
      simp at c1
      have f1 := hB.frozen 1
      go_wp2
      go_ret
      refine ⟨rfl, ⟨v, ?_⟩, (((hbb.mono hbase).trans hb3).trans hb4).trans ((Below.refl _ _).setCell (p := ⟨h, 1, none⟩) hBs _), ((HK02.out.trans HK3.out).trans HK4.out).trans (KeepN.setCell HN4.out.1 _)⟩
      rw [Hxa.out, Hl'.out, List.set_append_left _ _ ha] at H5
      rw [Ht2.out]
      exact H5
end Go.Proofs.YtffcfnnbdmihaaaDoor.hn
