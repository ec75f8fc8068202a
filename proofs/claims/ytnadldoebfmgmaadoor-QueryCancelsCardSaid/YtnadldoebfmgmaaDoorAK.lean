/-
  THE WALK of run's closure 'look', whose bringing may be broken off. (Printed by wip/mklookA.py.)
-/
import Derived.Test.YtnadldoebfmgmaaDoorAB
namespace Go.Proofs.YtnadldoebfmgmaaDoor.q
open Go.RowKit

def enoughC : List PanicEntry := [{ v := enoughV, recovered := false }]
/-- how a bringing ends -/
def EndA (e : Ending) : Prop := (∃ n er : Int, e = .returned (.agg #[.int .i64 n, .int .i64 er]) ∧ (er = 0 ∨ er = 7) ∧ I64 n) ∨ e = .panicked enoughC
/-- a look that came to something -/
def LookA (N : Nat → Prop) (H : Nat) (w w' : World) (base bs bc bd bn sp p k : Nat) (lk : Int) (ps : List Nat) (vc : Value) (rb rc : Nat) (s : Sh) (dl : List Dep) (nl : List Int) (e : Ending) : Prop :=
  ∃ s' n er, e = .returned (.bool (er == 0)) ∧ (er = 0 ∨ er = 7) ∧ I64 n ∧ (∃ vd' vn', ShAt (Nrun N bs bc bd bn vd' vn') w' base sp lk ps vc rb rc s' ∧ RunV w' H bs bc bd bn sp p vd' vn' (dl ++ [⟨k, n, er⟩]) (nl ++ [n])) ∧ KeepN N w w' ∧ Below base w w' ∧ LedB H w w' ∧ RelA s s'
set_option maxHeartbeats 8000000 in
set_option maxRecDepth 100000 in
theorem look_walkA {N : Nat → Prop} (base H bs bc bd bn sp p k : Nat) (lk : Int) (ps : List Nat) (vc : Value) (rb rc : Nat) (s : Sh) (vd vn : Value) (dl : List Dep) (nl : List Int) (w : World)
    (hbr : ∀ (N : Nat → Prop) (w : World), ShAt N w base sp lk ps vc rb rc s → (∀ j, N j → j < w.heap.size) → base ≤ w.heap.size → Calls Tryd.prog 34 #[.pointer (some ⟨sp, 0, none⟩), .int .i64 k] w fun e w' =>
      EndA e ∧ AftA N w.heap.size w w' base sp lk ps vc rb rc s)
    (hSh : ShAt (Nrun N bs bc bd bn vd vn) w base sp lk ps vc rb rc s) (hNH : ∀ j, N j → j < H) (hR : RunV w H bs bc bd bn sp p vd vn dl nl) (hH : base ≤ H) (hHw : H ≤ w.heap.size) (hdl : dl.length ≤ 64) (hnl : nl.length ≤ 64) :
    Calls Tryd.prog 62 #[.int .i64 k, .pointer (some ⟨bs, 0, none⟩), .pointer (some ⟨bd, 0, none⟩), .pointer (some ⟨bn, 0, none⟩)] w fun e w' =>
      LookA N H w w' base bs bc bd bn sp p k lk ps vc rb rc s dl nl e ∨ (e = .panicked enoughC ∧ AftA N H w w' base sp lk ps vc rb rc s) := by
  obtain ⟨i0, ji, jz0, jz1, jz2⟩ := info_parts infoLed
  obtain ⟨l0, li, lz0, lz1, lz2⟩ := info_parts infoInt
  have cs := hR.s_.cell 0
  simp at cs
  have hN : ∀ j, N j → j < w.heap.size := fun j hj => Nat.lt_of_lt_of_le (hNH j hj) hHw
  go_enter Tryd.func62, Tryd.ntmps62
  go_wp2_with fail
  refine (hbr _ w hSh (hR.lt hN) (by omega)).mono ?_
  rintro e w2 ⟨hE, s2, hSh2, hk2, hb2, hl2, hrel⟩
  rcases hE with ⟨n, er, rfl, her, hn64⟩ | rfl
  rotate_left
  · have hKN2 : KeepN N w w2 := hk2.mono fun k hk => .inl hk
    have hAft : AftA N H w w2 base sp lk ps vc rb rc s := ⟨s2, hSh2.other (fun _ _ _ => rfl) fun j hj => .inl (.inl hj), hKN2, hb2, hl2.mono hHw, hrel⟩
    clear hSh hR cs hk2 hKN2 hN hbr hb2 hl2 hrel hSh2
    go_wp2_with fail
    exact ⟨rfl, .inr ⟨rfl, hAft⟩⟩
  have hR2 := hR.keep hk2
  have hKN2 : KeepN N w w2 := hk2.mono fun k hk => .inl hk
  have hz2 := hb2.size
  have HN2 : Hid (∀ j, N j → j < w2.heap.size) := fun j hj => Nat.lt_of_lt_of_le (hN j hj) hz2
  have HKN2 := Lib.hid hKN2
  have HH2 : Hid (LedB H w w2) := hl2.mono hHw
  have HRel := Lib.hid hrel
  have HEr := Lib.hid her
  have HN64 := Lib.hid hn64
  clear hSh hR cs hk2 hKN2 hN hbr hl2 hrel her hn64
  go_upto_region 2 with fail
  have hO : Blk (w2.alloc (.cells #[.int .i64 n, .int .i64 er] 68)) w2.heap.size 68 #[.int .i64 n, .int .i64 er] := Blk.new _ _ _
  have hbO : Below w2.heap.size w2 (w2.alloc (.cells #[.int .i64 n, .int .i64 er] 68)) := (Below.refl _ _).alloc (Nat.le_refl _) _
  have hR3 := hR2.below hbO
  have hSh3 := hSh2.below hbO
  obtain ⟨bo, hbo⟩ : ∃ bo, bo = w2.heap.size := ⟨_, rfl⟩
  rw [← hbo] at hO ⊢
  have hboN : Hid (∀ j, N j → j < bo) := by rw [hbo]; exact HN2.out
  have hboR : Hid (∀ j, Nrun N bs bc bd bn vd vn j → j < bo) := by rw [hbo]; exact hR2.lt HN2.out
  have HKN3 : Hid (KeepN N w (w2.alloc (.cells #[.int .i64 n, .int .i64 er] 68))) := HKN2.out.trans (KeepN.below HN2.out hbO)
  have HH3 : Hid (LedB H w (w2.alloc (.cells #[.int .i64 n, .int .i64 er] 68))) := HH2.out.trans (LedB.below hbO (by omega))
  have hb3 : Below base w (w2.alloc (.cells #[.int .i64 n, .int .i64 er] 68)) := hb2.trans (hbO.mono (by omega))
  have hHo : H ≤ bo := by omega
  clear hR2 hSh2 hbO hb2 hz2 hbo HN2 HKN2 HH2
  refine wp_region_C (fun j w' => (j ≠ 12 → w'.cell? ⟨bn, 0, none⟩ = some vn ∧ w'.cell? ⟨bo, 0, none⟩ = some (.int .i64 n) ∧ w'.cell? ⟨bo, 1, none⟩ = some (.int .i64 er)) ∧ (j ∉ [6, 7, 8, 11, 12] → w'.cell? ⟨bd, 0, none⟩ = some vd)) (by kernel_rfl) ?_
  have hR4 : RunV (World.drew (w2.alloc (.cells #[.int .i64 n, .int .i64 er] 68))) H bs bc bd bn sp p vd vn dl nl := hR3.below (Below.refl _ _).drew
  have hSh4 : ShAt (Nrun N bs bc bd bn vd vn) (World.drew (w2.alloc (.cells #[.int .i64 n, .int .i64 er] 68))) base sp lk ps vc rb rc s2 := hSh3.drew
  have hO4 : Blk (World.drew (w2.alloc (.cells #[.int .i64 n, .int .i64 er] 68))) bo 68 #[.int .i64 n, .int .i64 er] := hO
  have HKN4 : Hid (KeepN N w (World.drew (w2.alloc (.cells #[.int .i64 n, .int .i64 er] 68)))) := HKN3.out
  have HH4 : Hid (LedB H w (World.drew (w2.alloc (.cells #[.int .i64 n, .int .i64 er] 68)))) := HH3.out
  have hb4 : Below base w (World.drew (w2.alloc (.cells #[.int .i64 n, .int .i64 er] 68))) := hb3.drew
  clear hR3 hSh3 hO HKN3 HH3 hb3
  generalize World.drew (w2.alloc (.cells #[.int .i64 n, .int .i64 er] 68)) = w4 at *
  have cd := hR4.d_.cell 0
  have cn := hR4.n_.cell 0
  have o0 := hO4.cell 0
  have o1 := hO4.cell 1
  simp at cd cn o0 o1
  have hS1 : (fun w' : World => w'.cell? ⟨bn, 0, none⟩ = some vn ∧ w'.cell? ⟨bo, 0, none⟩ = some (.int .i64 n) ∧ w'.cell? ⟨bo, 1, none⟩ = some (.int .i64 er)) w4 := ⟨cn, o0, o1⟩
  have hS01 : (fun w' : World => w'.cell? ⟨bd, 0, none⟩ = some vd ∧ w'.cell? ⟨bn, 0, none⟩ = some vn ∧ w'.cell? ⟨bo, 0, none⟩ = some (.int .i64 n) ∧ w'.cell? ⟨bo, 1, none⟩ = some (.int .i64 er)) w4 := ⟨cd, cn, o0, o1⟩
  refine wpAnyC_take (fun w' : World => w'.cell? ⟨bn, 0, none⟩ = some vn ∧ w'.cell? ⟨bo, 0, none⟩ = some (.int .i64 n) ∧ w'.cell? ⟨bo, 1, none⟩ = some (.int .i64 er)) [12] (i := 6) (v := ?_) rfl (by kernel_rfl) (by kernel_rfl) (by kernel_rfl) (by kernel_rfl) (fun _ _ _ h => h) (fun j w' _ _ hL h => h.1 fun e => hL (by simp [e])) (fun w' h => ⟨fun _ => h, fun h2 => absurd (by simp) h2⟩) (Or.inl ⟨by rfl, ?_⟩) hS1 ?_; rotate_left; · (intro w hSw; (try dsimp only at hSw); obtain ⟨s1, s2, s3⟩ := hSw; go_simp; try with_reducible rfl)
  simp only [Act.put, List.setIfInBounds_toArray]
  refine wpAnyC_take (fun w' : World => w'.cell? ⟨bn, 0, none⟩ = some vn ∧ w'.cell? ⟨bo, 0, none⟩ = some (.int .i64 n) ∧ w'.cell? ⟨bo, 1, none⟩ = some (.int .i64 er)) [12] (i := 7) (v := ?_) rfl (by kernel_rfl) (by kernel_rfl) (by kernel_rfl) (by kernel_rfl) (fun _ _ _ h => h) (fun j w' _ _ hL h => h.1 fun e => hL (by simp [e])) (fun w' h => ⟨fun _ => h, fun h2 => absurd (by simp) h2⟩) (Or.inl ⟨by rfl, ?_⟩) hS1 ?_; rotate_left; · (intro w hSw; (try dsimp only at hSw); obtain ⟨s1, s2, s3⟩ := hSw; go_simp; try with_reducible rfl)
  simp only [Act.put]
  refine wpAnyC_take (fun w' : World => w'.cell? ⟨bn, 0, none⟩ = some vn ∧ w'.cell? ⟨bo, 0, none⟩ = some (.int .i64 n) ∧ w'.cell? ⟨bo, 1, none⟩ = some (.int .i64 er)) [12] (i := 8) (v := ?_) rfl (by kernel_rfl) (by kernel_rfl) (by kernel_rfl) (by kernel_rfl) (fun _ _ _ h => h) (fun j w' _ _ hL h => h.1 fun e => hL (by simp [e])) (fun w' h => ⟨fun _ => h, fun h2 => absurd (by simp) h2⟩) (Or.inl ⟨by rfl, ?_⟩) hS1 ?_; rotate_left; · (intro w hSw; (try dsimp only at hSw); obtain ⟨s1, s2, s3⟩ := hSw; go_simp; try with_reducible rfl)
  simp only [Act.put]
  refine wpAnyC_take (fun w' : World => w'.cell? ⟨bd, 0, none⟩ = some vd ∧ w'.cell? ⟨bn, 0, none⟩ = some vn ∧ w'.cell? ⟨bo, 0, none⟩ = some (.int .i64 n) ∧ w'.cell? ⟨bo, 1, none⟩ = some (.int .i64 er)) [11, 12] (i := 0) (v := ?_) rfl (by kernel_rfl) (by kernel_rfl) (by kernel_rfl) (by kernel_rfl) (fun _ _ _ h => h) (fun j w' hl _ hL h => ⟨h.2 (fun hm => by simp only [List.mem_cons, List.mem_nil_iff, or_false] at hm hL; rcases hm with rfl | rfl | rfl | rfl | rfl <;> first | exact hL (.inl rfl) | exact hL (.inr rfl) | exact absurd hl (by decide)), h.1 fun e => hL (by simp [e])⟩) (fun w' h => ⟨fun _ => h.2, fun _ => h.1⟩) (Or.inl ⟨by rfl, ?_⟩) hS01 ?_; rotate_left; · (intro w hSw; (try dsimp only at hSw); obtain ⟨s0, s1, s2, s3⟩ := hSw; go_simp; try with_reducible rfl)
  simp only [Act.put]
  refine wpAnyC_take (fun w' : World => w'.cell? ⟨bd, 0, none⟩ = some vd ∧ w'.cell? ⟨bn, 0, none⟩ = some vn ∧ w'.cell? ⟨bo, 0, none⟩ = some (.int .i64 n) ∧ w'.cell? ⟨bo, 1, none⟩ = some (.int .i64 er)) [11, 12] (i := 1) (v := ?_) rfl (by kernel_rfl) (by kernel_rfl) (by kernel_rfl) (by kernel_rfl) (fun _ _ _ h => h) (fun j w' hl _ hL h => ⟨h.2 (fun hm => by simp only [List.mem_cons, List.mem_nil_iff, or_false] at hm hL; rcases hm with rfl | rfl | rfl | rfl | rfl <;> first | exact hL (.inl rfl) | exact hL (.inr rfl) | exact absurd hl (by decide)), h.1 fun e => hL (by simp [e])⟩) (fun w' h => ⟨fun _ => h.2, fun _ => h.1⟩) (Or.inl ⟨by rfl, ?_⟩) hS01 ?_; rotate_left; · (intro w hSw; (try dsimp only at hSw); obtain ⟨s0, s1, s2, s3⟩ := hSw; go_simp; try with_reducible rfl)
  simp only [Act.put]
  refine wpAnyC_take (fun w' : World => w'.cell? ⟨bd, 0, none⟩ = some vd ∧ w'.cell? ⟨bn, 0, none⟩ = some vn ∧ w'.cell? ⟨bo, 0, none⟩ = some (.int .i64 n) ∧ w'.cell? ⟨bo, 1, none⟩ = some (.int .i64 er)) [11, 12] (i := 2) (v := ?_) rfl (by kernel_rfl) (by kernel_rfl) (by kernel_rfl) (by kernel_rfl) (fun _ _ _ h => h) (fun j w' hl _ hL h => ⟨h.2 (fun hm => by simp only [List.mem_cons, List.mem_nil_iff, or_false] at hm hL; rcases hm with rfl | rfl | rfl | rfl | rfl <;> first | exact hL (.inl rfl) | exact hL (.inr rfl) | exact absurd hl (by decide)), h.1 fun e => hL (by simp [e])⟩) (fun w' h => ⟨fun _ => h.2, fun _ => h.1⟩) (Or.inl ⟨by rfl, ?_⟩) hS01 ?_; rotate_left; · (intro w hSw; (try dsimp only at hSw); obtain ⟨s0, s1, s2, s3⟩ := hSw; go_simp; try with_reducible rfl)
  simp only [Act.put]
  refine wpAnyC_take (fun w' : World => w'.cell? ⟨bd, 0, none⟩ = some vd ∧ w'.cell? ⟨bn, 0, none⟩ = some vn ∧ w'.cell? ⟨bo, 0, none⟩ = some (.int .i64 n) ∧ w'.cell? ⟨bo, 1, none⟩ = some (.int .i64 er)) [11, 12] (i := 3) (v := ?_) rfl (by kernel_rfl) (by kernel_rfl) (by kernel_rfl) (by kernel_rfl) (fun _ _ _ h => h) (fun j w' hl _ hL h => ⟨h.2 (fun hm => by simp only [List.mem_cons, List.mem_nil_iff, or_false] at hm hL; rcases hm with rfl | rfl | rfl | rfl | rfl <;> first | exact hL (.inl rfl) | exact hL (.inr rfl) | exact absurd hl (by decide)), h.1 fun e => hL (by simp [e])⟩) (fun w' h => ⟨fun _ => h.2, fun _ => h.1⟩) (Or.inl ⟨by rfl, ?_⟩) hS01 ?_; rotate_left; · (intro w hSw; (try dsimp only at hSw); obtain ⟨s0, s1, s2, s3⟩ := hSw; go_simp; try with_reducible rfl)
  simp only [Act.put]
  have hd := hR4.d_
  have hn := hR4.n_
  have ho := hO4
  have od := hR4.od
  have on := hR4.on_
  have fd := hd.frozen 0
  have fn := hn.frozen 0
  have hF : Hid (∀ j, j < w4.heap.size → vd.ownBlock ≠ some j → vn.ownBlock ≠ some j → j ≠ bd → j ≠ bn → w4.heap[j]? = w4.heap[j]?) := fun _ _ _ _ _ _ => rfl
  have hbl : Below base w4 w4 := Below.refl _ _
  have hz : w4.heap.size ≤ w4.heap.size := Nat.le_refl _
  have hH4 : H ≤ w4.heap.size := Nat.le_trans hHo (Nat.le_of_lt hO4.lt)
  clear hS1 hS01 hO4
  refine wpAnyC_two (i := 4) (j := 9) (by kernel_rfl) rfl rfl (fun K hK => ?_) (fun K hK => ?_)
  · go_simp
    obtain ⟨T1, hT1⟩ : ∃ T1, T1 = w4.heap.size := ⟨_, rfl⟩
    rw [← hT1]
    have hBT1 : Blk (World.alloc w4 (.cells #[.int .i64 (k : Int), .int .i64 n, .int .i64 er] 115)) T1 115 #[.int .i64 (k : Int), .int .i64 n, .int .i64 er] := by rw [hT1]; exact Blk.new _ _ _
    have hd := hd.alloc (.cells #[.int .i64 (k : Int), .int .i64 n, .int .i64 er] 115)
    have hn := hn.alloc (.cells #[.int .i64 (k : Int), .int .i64 n, .int .i64 er] 115)
    have ho := ho.alloc (.cells #[.int .i64 (k : Int), .int .i64 n, .int .i64 er] 115)
    have od := od.alloc (.cells #[.int .i64 (k : Int), .int .i64 n, .int .i64 er] 115)
    have on := on.alloc (.cells #[.int .i64 (k : Int), .int .i64 n, .int .i64 er] 115)
    have hF : Hid (∀ j, j < w4.heap.size → vd.ownBlock ≠ some j → vn.ownBlock ≠ some j → j ≠ bd → j ≠ bn → (World.alloc w4 (.cells #[.int .i64 (k : Int), .int .i64 n, .int .i64 er] 115)).heap[j]? = w4.heap[j]?) := fun j h1 h2 h3 h4 h5 => (Below.heap_alloc _ _ j (by omega)).trans (hF.out j h1 h2 h3 h4 h5)
    have hbl := hbl.alloc (by omega) (.cells #[.int .i64 (k : Int), .int .i64 n, .int .i64 er] 115)
    have hz : w4.heap.size ≤ (World.alloc w4 (.cells #[.int .i64 (k : Int), .int .i64 n, .int .i64 er] 115)).heap.size := by simp <;> omega
    clear cd cn o0 o1 fd fn
    have hTT1 : w4.heap.size ≤ T1 := by omega
    clear hT1
    generalize World.alloc w4 (.cells #[.int .i64 (k : Int), .int .i64 n, .int .i64 er] 115) = w5 at *
    have cd := hd.cell 0
    have cn := hn.cell 0
    have o0 := ho.cell 0
    have o1 := ho.cell 1
    have fd := hd.frozen 0
    have fn := hn.frozen 0
    simp at cd cn o0 o1
    refine hK.out _ _ ⟨fun _ => ⟨cn, o0, o1⟩, fun _ => cd⟩ ?_
    clear hK K
    refine wpAnyC_two (i := 5) (j := 9) (by kernel_rfl) rfl rfl (fun K hK => ?_) (fun K hK => ?_)
    · refine step_append_lies _ (by rfl) _ _ _ (by rfl) H 115 i0 _ 3 24 Tryd.underlying69 ji jz0 jz1 jz2 rfl (by omega) vd dl.length (depCells dl) (by rfl) od ⟨T1, 0, none⟩ 1 1 [.int .i64 (k : Int), .int .i64 n, .int .i64 er] (by rfl) (by rfl) (World.news_of_block (cs := #[.int .i64 (k : Int), .int .i64 n, .int .i64 er]) (t := 115) (fr := (0, 0)) hBT1) (by simp [Value.oneCell']) (by omega) (by unfold maxLen; omega) (by omega) (by omega) _ rfl ?_; intro g1 cap1 w6 od1 hgrow hat1 hlt1
      have hat1 : Hid (vd.ownBlock = some g1 ∨ w4.heap.size ≤ g1) := hat1.imp id fun e => by omega
      have hdn := hd.grown hgrow (own_ne od hd (by decide))
      have hnn := hn.grown hgrow (own_ne od hn (by decide))
      have hon := ho.grown hgrow (own_ne od ho (by decide))
      have onn := own_far on od hgrow (by decide)
      have hFn : Hid (∀ j, j < w4.heap.size → vd.ownBlock ≠ some j → vn.ownBlock ≠ some j → j ≠ bd → j ≠ bn → w6.heap[j]? = w4.heap[j]?) := fun j h1 h2 h3 h4 h5 => (hgrow.block j (by omega) (fun e => h2 e.symm)).trans (hF.out j h1 h2 h3 h4 h5)
      have hbln := hbl.grown hgrow (by omega) fun g hg => Nat.le_trans hH (od.lt g hg).1
      have hzn : w4.heap.size ≤ w6.heap.size := Nat.le_trans hz hgrow.size
      clear cd cn o0 o1 fd fn hd hn ho on hF hbl hz od hgrow hlt1 hBT1
      have hd := hdn
      have hn := hnn
      have ho := hon
      have on := onn
      have hF := hFn
      have hbl := hbln
      have hz := hzn
      clear hdn hnn hon onn hFn hbln hzn
      have cd := hd.cell 0
      have cn := hn.cell 0
      have o0 := ho.cell 0
      have o1 := ho.cell 1
      have fd := hd.frozen 0
      have fn := hn.frozen 0
      simp at cd cn o0 o1
      refine hK.out _ _ ⟨fun _ => ⟨cn, o0, o1⟩, fun _ => cd⟩ ?_
      clear hK K
      refine wpAnyC_one (i := 9) (by kernel_rfl) rfl (fun K hK => ?_)
      go_simp
      obtain ⟨T2, hT2⟩ : ∃ T2, T2 = w6.heap.size := ⟨_, rfl⟩
      rw [← hT2]
      have hBT2 : Blk (World.alloc w6 (.cells #[.int .i64 n] 3)) T2 3 #[.int .i64 n] := by rw [hT2]; exact Blk.new _ _ _
      have hd := hd.alloc (.cells #[.int .i64 n] 3)
      have hn := hn.alloc (.cells #[.int .i64 n] 3)
      have ho := ho.alloc (.cells #[.int .i64 n] 3)
      have od1 := od1.alloc (.cells #[.int .i64 n] 3)
      have on := on.alloc (.cells #[.int .i64 n] 3)
      have hF : Hid (∀ j, j < w4.heap.size → vd.ownBlock ≠ some j → vn.ownBlock ≠ some j → j ≠ bd → j ≠ bn → (World.alloc w6 (.cells #[.int .i64 n] 3)).heap[j]? = w4.heap[j]?) := fun j h1 h2 h3 h4 h5 => (Below.heap_alloc _ _ j (by omega)).trans (hF.out j h1 h2 h3 h4 h5)
      have hbl := hbl.alloc (by omega) (.cells #[.int .i64 n] 3)
      have hz : w4.heap.size ≤ (World.alloc w6 (.cells #[.int .i64 n] 3)).heap.size := by simp <;> omega
      clear cd cn o0 o1 fd fn
      have hTT2 : w4.heap.size ≤ T2 := by omega
      clear hT2
      generalize World.alloc w6 (.cells #[.int .i64 n] 3) = w7 at *
      have cd := hd.cell 0
      have cn := hn.cell 0
      have o0 := ho.cell 0
      have o1 := ho.cell 1
      have fd := hd.frozen 0
      have fn := hn.frozen 0
      simp at cd cn o0 o1
      refine hK.out _ _ ⟨fun _ => ⟨cn, o0, o1⟩, fun _ => cd⟩ ?_
      clear hK K
      refine wpAnyC_one (i := 10) (by kernel_rfl) rfl (fun K hK => ?_)
      refine step_append_lies _ (by rfl) _ _ _ (by rfl) H 3 l0 _ 1 8 Tryd.underlying23 li lz0 lz1 lz2 rfl (by omega) vn nl.length (intsV nl) (by rfl) on ⟨T2, 0, none⟩ 1 1 [.int .i64 n] (by rfl) (by rfl) (World.news_of_block (cs := #[.int .i64 n]) (t := 3) (fr := (0, 0)) hBT2) (by simp [Value.oneCell']) (by omega) (by unfold maxLen; omega) (by omega) (by omega) _ rfl ?_; intro g2 cap2 w9 on1 hgrow hat2 hlt2
      have hat2 : Hid (vn.ownBlock = some g2 ∨ w4.heap.size ≤ g2) := hat2.imp id fun e => by omega
      have hdn := hd.grown hgrow (own_ne on hd (by decide))
      have hnn := hn.grown hgrow (own_ne on hn (by decide))
      have hon := ho.grown hgrow (own_ne on ho (by decide))
      have odn := own_far od1 on hgrow (by decide)
      have hFn : Hid (∀ j, j < w4.heap.size → vd.ownBlock ≠ some j → vn.ownBlock ≠ some j → j ≠ bd → j ≠ bn → w9.heap[j]? = w4.heap[j]?) := fun j h1 h2 h3 h4 h5 => (hgrow.block j (by omega) (fun e => h3 e.symm)).trans (hF.out j h1 h2 h3 h4 h5)
      have hbln := hbl.grown hgrow (by omega) fun g hg => Nat.le_trans hH (on.lt g hg).1
      have hzn : w4.heap.size ≤ w9.heap.size := Nat.le_trans hz hgrow.size
      clear cd cn o0 o1 fd fn hd hn ho on hF hbl hz od1 hgrow hlt2 hBT2
      have hd := hdn
      have hn := hnn
      have ho := hon
      have hF := hFn
      have hbl := hbln
      have hz := hzn
      clear hdn hnn hon hFn hbln hzn
      have cd := hd.cell 0
      have cn := hn.cell 0
      have o0 := ho.cell 0
      have o1 := ho.cell 1
      have fd := hd.frozen 0
      have fn := hn.frozen 0
      simp at cd cn o0 o1
      refine hK.out _ _ ⟨fun _ => ⟨cn, o0, o1⟩, fun _ => cd⟩ ?_
      clear hK K
      refine wpAnyC_one (i := 11) (by kernel_rfl) rfl (fun K hK => ?_)
      go_simp
      have hn := hn.far (p := ⟨bd, 0, none⟩) (blk_ne hn hd (by decide)) (.slice (some ⟨g1, 0, none⟩) (dl.length + 1) cap1)
      have ho := ho.far (p := ⟨bd, 0, none⟩) (blk_ne ho hd (by decide)) (.slice (some ⟨g1, 0, none⟩) (dl.length + 1) cap1)
      have cn := hn.cell 0
      have o0 := ho.cell 0
      have o1 := ho.cell 1
      have fn := hn.frozen 0
      simp at cn o0 o1
      refine hK.out _ _ ⟨fun _ => ⟨cn, o0, o1⟩, fun h => absurd (by simp) h⟩ ?_
      clear hK K
      refine wpAnyC_one (i := 12) (by kernel_rfl) rfl (fun K hK => ?_)
      go_simp
      refine hK.out _ _ ⟨fun h => absurd rfl h, fun h => absurd (by simp) h⟩ ?_
      clear hK K
      refine wpAnyC_done (by kernel_rfl) ?_ _
      have HLed : Hid (LedB H w4 (World.setCell (World.setCell w9 ⟨bd, 0, none⟩ (.slice (some ⟨g1, 0, none⟩) (dl.length + 1) cap1)) ⟨bn, 0, none⟩ (.slice (some ⟨g2, 0, none⟩) (nl.length + 1) cap2))) := LedB.of_same fun b hb => by
        have q1 := hR4.hd
        have q2 := hR4.hn
        exact (Below.heap_setCell _ ⟨bn, 0, none⟩ _ b (by show b ≠ bn; omega)).trans ((Below.heap_setCell _ ⟨bd, 0, none⟩ _ b (by show b ≠ bd; omega)).trans (hF.out b (by omega) (fun e => by have := (hR4.od.lt b e).1; omega) (fun e => by have := (hR4.on_.lt b e).1; omega) (by omega) (by omega)))
      have hE := look_end (k := k) (n := n) (er := er) hSh4 hR4 hNH hF.out hz hd hn odn on1 hat1.out hat2.out
      have hblE := (hbl.setCell (p := ⟨bd, 0, none⟩) (Nat.le_trans hH hR4.hd) (.slice (some ⟨g1, 0, none⟩) (dl.length + 1) cap1)).setCell (p := ⟨bn, 0, none⟩) (Nat.le_trans hH hR4.hn) (.slice (some ⟨g2, 0, none⟩) (nl.length + 1) cap2)
      have o1 := (ho.far (p := ⟨bn, 0, none⟩) (blk_ne ho hn (by decide)) (.slice (some ⟨g2, 0, none⟩) (nl.length + 1) cap2)).cell 1
      simp at o1
      clear hF hbl hz hd hn ho odn on1 hat1 hat2 cd cn o0 fd fn
      generalize World.setCell (World.setCell w9 ⟨bd, 0, none⟩ (.slice (some ⟨g1, 0, none⟩) (dl.length + 1) cap1)) ⟨bn, 0, none⟩ (.slice (some ⟨g2, 0, none⟩) (nl.length + 1) cap2) = w12 at *
      go_wp2_with fail
      go_ret
      exact .inl ⟨s2, n, er, rfl, HEr.out, HN64.out, ⟨_, _, hE.1, hE.2.1⟩, HKN4.out.trans hE.2.2.1, hb4.trans hblE, HH4.out.trans HLed.out, HRel.out⟩
    · go_simp
      obtain ⟨T2, hT2⟩ : ∃ T2, T2 = w5.heap.size := ⟨_, rfl⟩
      rw [← hT2]
      have hBT2 : Blk (World.alloc w5 (.cells #[.int .i64 n] 3)) T2 3 #[.int .i64 n] := by rw [hT2]; exact Blk.new _ _ _
      have hd := hd.alloc (.cells #[.int .i64 n] 3)
      have hn := hn.alloc (.cells #[.int .i64 n] 3)
      have ho := ho.alloc (.cells #[.int .i64 n] 3)
      have od := od.alloc (.cells #[.int .i64 n] 3)
      have on := on.alloc (.cells #[.int .i64 n] 3)
      have hBT1 := hBT1.alloc (.cells #[.int .i64 n] 3)
      have hF : Hid (∀ j, j < w4.heap.size → vd.ownBlock ≠ some j → vn.ownBlock ≠ some j → j ≠ bd → j ≠ bn → (World.alloc w5 (.cells #[.int .i64 n] 3)).heap[j]? = w4.heap[j]?) := fun j h1 h2 h3 h4 h5 => (Below.heap_alloc _ _ j (by omega)).trans (hF.out j h1 h2 h3 h4 h5)
      have hbl := hbl.alloc (by omega) (.cells #[.int .i64 n] 3)
      have hz : w4.heap.size ≤ (World.alloc w5 (.cells #[.int .i64 n] 3)).heap.size := by simp <;> omega
      clear cd cn o0 o1 fd fn
      have hTT2 : w4.heap.size ≤ T2 := by omega
      clear hT2
      generalize World.alloc w5 (.cells #[.int .i64 n] 3) = w6 at *
      have cd := hd.cell 0
      have cn := hn.cell 0
      have o0 := ho.cell 0
      have o1 := ho.cell 1
      have fd := hd.frozen 0
      have fn := hn.frozen 0
      simp at cd cn o0 o1
      refine hK.out _ _ ⟨fun _ => ⟨cn, o0, o1⟩, fun _ => cd⟩ ?_
      clear hK K
      refine wpAnyC_one (i := 5) (by kernel_rfl) rfl (fun K hK => ?_)
      refine step_append_lies _ (by rfl) _ _ _ (by rfl) H 115 i0 _ 3 24 Tryd.underlying69 ji jz0 jz1 jz2 rfl (by omega) vd dl.length (depCells dl) (by rfl) od ⟨T1, 0, none⟩ 1 1 [.int .i64 (k : Int), .int .i64 n, .int .i64 er] (by rfl) (by rfl) (World.news_of_block (cs := #[.int .i64 (k : Int), .int .i64 n, .int .i64 er]) (t := 115) (fr := (0, 0)) hBT1) (by simp [Value.oneCell']) (by omega) (by unfold maxLen; omega) (by omega) (by omega) _ rfl ?_; intro g1 cap1 w7 od1 hgrow hat1 hlt1
      have hat1 : Hid (vd.ownBlock = some g1 ∨ w4.heap.size ≤ g1) := hat1.imp id fun e => by omega
      have hdn := hd.grown hgrow (own_ne od hd (by decide))
      have hnn := hn.grown hgrow (own_ne od hn (by decide))
      have hon := ho.grown hgrow (own_ne od ho (by decide))
      have onn := own_far on od hgrow (by decide)
      have hBT2n := hBT2.grown hgrow (own_ne od hBT2 (by decide))
      have hFn : Hid (∀ j, j < w4.heap.size → vd.ownBlock ≠ some j → vn.ownBlock ≠ some j → j ≠ bd → j ≠ bn → w7.heap[j]? = w4.heap[j]?) := fun j h1 h2 h3 h4 h5 => (hgrow.block j (by omega) (fun e => h2 e.symm)).trans (hF.out j h1 h2 h3 h4 h5)
      have hbln := hbl.grown hgrow (by omega) fun g hg => Nat.le_trans hH (od.lt g hg).1
      have hzn : w4.heap.size ≤ w7.heap.size := Nat.le_trans hz hgrow.size
      clear cd cn o0 o1 fd fn hd hn ho on hF hbl hz od hgrow hlt1 hBT1 hBT2
      have hd := hdn
      have hn := hnn
      have ho := hon
      have on := onn
      have hF := hFn
      have hbl := hbln
      have hz := hzn
      clear hdn hnn hon onn hFn hbln hzn
      have hBT2 := hBT2n
      clear hBT2n
      have cd := hd.cell 0
      have cn := hn.cell 0
      have o0 := ho.cell 0
      have o1 := ho.cell 1
      have fd := hd.frozen 0
      have fn := hn.frozen 0
      simp at cd cn o0 o1
      refine hK.out _ _ ⟨fun _ => ⟨cn, o0, o1⟩, fun _ => cd⟩ ?_
      clear hK K
      refine wpAnyC_one (i := 10) (by kernel_rfl) rfl (fun K hK => ?_)
      refine step_append_lies _ (by rfl) _ _ _ (by rfl) H 3 l0 _ 1 8 Tryd.underlying23 li lz0 lz1 lz2 rfl (by omega) vn nl.length (intsV nl) (by rfl) on ⟨T2, 0, none⟩ 1 1 [.int .i64 n] (by rfl) (by rfl) (World.news_of_block (cs := #[.int .i64 n]) (t := 3) (fr := (0, 0)) hBT2) (by simp [Value.oneCell']) (by omega) (by unfold maxLen; omega) (by omega) (by omega) _ rfl ?_; intro g2 cap2 w9 on1 hgrow hat2 hlt2
      have hat2 : Hid (vn.ownBlock = some g2 ∨ w4.heap.size ≤ g2) := hat2.imp id fun e => by omega
      have hdn := hd.grown hgrow (own_ne on hd (by decide))
      have hnn := hn.grown hgrow (own_ne on hn (by decide))
      have hon := ho.grown hgrow (own_ne on ho (by decide))
      have odn := own_far od1 on hgrow (by decide)
      have hFn : Hid (∀ j, j < w4.heap.size → vd.ownBlock ≠ some j → vn.ownBlock ≠ some j → j ≠ bd → j ≠ bn → w9.heap[j]? = w4.heap[j]?) := fun j h1 h2 h3 h4 h5 => (hgrow.block j (by omega) (fun e => h3 e.symm)).trans (hF.out j h1 h2 h3 h4 h5)
      have hbln := hbl.grown hgrow (by omega) fun g hg => Nat.le_trans hH (on.lt g hg).1
      have hzn : w4.heap.size ≤ w9.heap.size := Nat.le_trans hz hgrow.size
      clear cd cn o0 o1 fd fn hd hn ho on hF hbl hz od1 hgrow hlt2 hBT2
      have hd := hdn
      have hn := hnn
      have ho := hon
      have hF := hFn
      have hbl := hbln
      have hz := hzn
      clear hdn hnn hon hFn hbln hzn
      have cd := hd.cell 0
      have cn := hn.cell 0
      have o0 := ho.cell 0
      have o1 := ho.cell 1
      have fd := hd.frozen 0
      have fn := hn.frozen 0
      simp at cd cn o0 o1
      refine hK.out _ _ ⟨fun _ => ⟨cn, o0, o1⟩, fun _ => cd⟩ ?_
      clear hK K
      refine wpAnyC_one (i := 11) (by kernel_rfl) rfl (fun K hK => ?_)
      go_simp
      have hn := hn.far (p := ⟨bd, 0, none⟩) (blk_ne hn hd (by decide)) (.slice (some ⟨g1, 0, none⟩) (dl.length + 1) cap1)
      have ho := ho.far (p := ⟨bd, 0, none⟩) (blk_ne ho hd (by decide)) (.slice (some ⟨g1, 0, none⟩) (dl.length + 1) cap1)
      have cn := hn.cell 0
      have o0 := ho.cell 0
      have o1 := ho.cell 1
      have fn := hn.frozen 0
      simp at cn o0 o1
      refine hK.out _ _ ⟨fun _ => ⟨cn, o0, o1⟩, fun h => absurd (by simp) h⟩ ?_
      clear hK K
      refine wpAnyC_one (i := 12) (by kernel_rfl) rfl (fun K hK => ?_)
      go_simp
      refine hK.out _ _ ⟨fun h => absurd rfl h, fun h => absurd (by simp) h⟩ ?_
      clear hK K
      refine wpAnyC_done (by kernel_rfl) ?_ _
      have HLed : Hid (LedB H w4 (World.setCell (World.setCell w9 ⟨bd, 0, none⟩ (.slice (some ⟨g1, 0, none⟩) (dl.length + 1) cap1)) ⟨bn, 0, none⟩ (.slice (some ⟨g2, 0, none⟩) (nl.length + 1) cap2))) := LedB.of_same fun b hb => by
        have q1 := hR4.hd
        have q2 := hR4.hn
        exact (Below.heap_setCell _ ⟨bn, 0, none⟩ _ b (by show b ≠ bn; omega)).trans ((Below.heap_setCell _ ⟨bd, 0, none⟩ _ b (by show b ≠ bd; omega)).trans (hF.out b (by omega) (fun e => by have := (hR4.od.lt b e).1; omega) (fun e => by have := (hR4.on_.lt b e).1; omega) (by omega) (by omega)))
      have hE := look_end (k := k) (n := n) (er := er) hSh4 hR4 hNH hF.out hz hd hn odn on1 hat1.out hat2.out
      have hblE := (hbl.setCell (p := ⟨bd, 0, none⟩) (Nat.le_trans hH hR4.hd) (.slice (some ⟨g1, 0, none⟩) (dl.length + 1) cap1)).setCell (p := ⟨bn, 0, none⟩) (Nat.le_trans hH hR4.hn) (.slice (some ⟨g2, 0, none⟩) (nl.length + 1) cap2)
      have o1 := (ho.far (p := ⟨bn, 0, none⟩) (blk_ne ho hn (by decide)) (.slice (some ⟨g2, 0, none⟩) (nl.length + 1) cap2)).cell 1
      simp at o1
      clear hF hbl hz hd hn ho odn on1 hat1 hat2 cd cn o0 fd fn
      generalize World.setCell (World.setCell w9 ⟨bd, 0, none⟩ (.slice (some ⟨g1, 0, none⟩) (dl.length + 1) cap1)) ⟨bn, 0, none⟩ (.slice (some ⟨g2, 0, none⟩) (nl.length + 1) cap2) = w12 at *
      go_wp2_with fail
      go_ret
      exact .inl ⟨s2, n, er, rfl, HEr.out, HN64.out, ⟨_, _, hE.1, hE.2.1⟩, HKN4.out.trans hE.2.2.1, hb4.trans hblE, HH4.out.trans HLed.out, HRel.out⟩
  · go_simp
    obtain ⟨T2, hT2⟩ : ∃ T2, T2 = w4.heap.size := ⟨_, rfl⟩
    rw [← hT2]
    have hBT2 : Blk (World.alloc w4 (.cells #[.int .i64 n] 3)) T2 3 #[.int .i64 n] := by rw [hT2]; exact Blk.new _ _ _
    have hd := hd.alloc (.cells #[.int .i64 n] 3)
    have hn := hn.alloc (.cells #[.int .i64 n] 3)
    have ho := ho.alloc (.cells #[.int .i64 n] 3)
    have od := od.alloc (.cells #[.int .i64 n] 3)
    have on := on.alloc (.cells #[.int .i64 n] 3)
    have hF : Hid (∀ j, j < w4.heap.size → vd.ownBlock ≠ some j → vn.ownBlock ≠ some j → j ≠ bd → j ≠ bn → (World.alloc w4 (.cells #[.int .i64 n] 3)).heap[j]? = w4.heap[j]?) := fun j h1 h2 h3 h4 h5 => (Below.heap_alloc _ _ j (by omega)).trans (hF.out j h1 h2 h3 h4 h5)
    have hbl := hbl.alloc (by omega) (.cells #[.int .i64 n] 3)
    have hz : w4.heap.size ≤ (World.alloc w4 (.cells #[.int .i64 n] 3)).heap.size := by simp <;> omega
    clear cd cn o0 o1 fd fn
    have hTT2 : w4.heap.size ≤ T2 := by omega
    clear hT2
    generalize World.alloc w4 (.cells #[.int .i64 n] 3) = w5 at *
    have cd := hd.cell 0
    have cn := hn.cell 0
    have o0 := ho.cell 0
    have o1 := ho.cell 1
    have fd := hd.frozen 0
    have fn := hn.frozen 0
    simp at cd cn o0 o1
    refine hK.out _ _ ⟨fun _ => ⟨cn, o0, o1⟩, fun _ => cd⟩ ?_
    clear hK K
    refine wpAnyC_one (i := 4) (by kernel_rfl) rfl (fun K hK => ?_)
    go_simp
    obtain ⟨T1, hT1⟩ : ∃ T1, T1 = w5.heap.size := ⟨_, rfl⟩
    rw [← hT1]
    have hBT1 : Blk (World.alloc w5 (.cells #[.int .i64 (k : Int), .int .i64 n, .int .i64 er] 115)) T1 115 #[.int .i64 (k : Int), .int .i64 n, .int .i64 er] := by rw [hT1]; exact Blk.new _ _ _
    have hd := hd.alloc (.cells #[.int .i64 (k : Int), .int .i64 n, .int .i64 er] 115)
    have hn := hn.alloc (.cells #[.int .i64 (k : Int), .int .i64 n, .int .i64 er] 115)
    have ho := ho.alloc (.cells #[.int .i64 (k : Int), .int .i64 n, .int .i64 er] 115)
    have od := od.alloc (.cells #[.int .i64 (k : Int), .int .i64 n, .int .i64 er] 115)
    have on := on.alloc (.cells #[.int .i64 (k : Int), .int .i64 n, .int .i64 er] 115)
    have hBT2 := hBT2.alloc (.cells #[.int .i64 (k : Int), .int .i64 n, .int .i64 er] 115)
    have hF : Hid (∀ j, j < w4.heap.size → vd.ownBlock ≠ some j → vn.ownBlock ≠ some j → j ≠ bd → j ≠ bn → (World.alloc w5 (.cells #[.int .i64 (k : Int), .int .i64 n, .int .i64 er] 115)).heap[j]? = w4.heap[j]?) := fun j h1 h2 h3 h4 h5 => (Below.heap_alloc _ _ j (by omega)).trans (hF.out j h1 h2 h3 h4 h5)
    have hbl := hbl.alloc (by omega) (.cells #[.int .i64 (k : Int), .int .i64 n, .int .i64 er] 115)
    have hz : w4.heap.size ≤ (World.alloc w5 (.cells #[.int .i64 (k : Int), .int .i64 n, .int .i64 er] 115)).heap.size := by simp <;> omega
    clear cd cn o0 o1 fd fn
    have hTT1 : w4.heap.size ≤ T1 := by omega
    clear hT1
    generalize World.alloc w5 (.cells #[.int .i64 (k : Int), .int .i64 n, .int .i64 er] 115) = w6 at *
    have cd := hd.cell 0
    have cn := hn.cell 0
    have o0 := ho.cell 0
    have o1 := ho.cell 1
    have fd := hd.frozen 0
    have fn := hn.frozen 0
    simp at cd cn o0 o1
    refine hK.out _ _ ⟨fun _ => ⟨cn, o0, o1⟩, fun _ => cd⟩ ?_
    clear hK K
    refine wpAnyC_one (i := 5) (by kernel_rfl) rfl (fun K hK => ?_)
    refine step_append_lies _ (by rfl) _ _ _ (by rfl) H 115 i0 _ 3 24 Tryd.underlying69 ji jz0 jz1 jz2 rfl (by omega) vd dl.length (depCells dl) (by rfl) od ⟨T1, 0, none⟩ 1 1 [.int .i64 (k : Int), .int .i64 n, .int .i64 er] (by rfl) (by rfl) (World.news_of_block (cs := #[.int .i64 (k : Int), .int .i64 n, .int .i64 er]) (t := 115) (fr := (0, 0)) hBT1) (by simp [Value.oneCell']) (by omega) (by unfold maxLen; omega) (by omega) (by omega) _ rfl ?_; intro g1 cap1 w7 od1 hgrow hat1 hlt1
    have hat1 : Hid (vd.ownBlock = some g1 ∨ w4.heap.size ≤ g1) := hat1.imp id fun e => by omega
    have hdn := hd.grown hgrow (own_ne od hd (by decide))
    have hnn := hn.grown hgrow (own_ne od hn (by decide))
    have hon := ho.grown hgrow (own_ne od ho (by decide))
    have onn := own_far on od hgrow (by decide)
    have hBT2n := hBT2.grown hgrow (own_ne od hBT2 (by decide))
    have hFn : Hid (∀ j, j < w4.heap.size → vd.ownBlock ≠ some j → vn.ownBlock ≠ some j → j ≠ bd → j ≠ bn → w7.heap[j]? = w4.heap[j]?) := fun j h1 h2 h3 h4 h5 => (hgrow.block j (by omega) (fun e => h2 e.symm)).trans (hF.out j h1 h2 h3 h4 h5)
    have hbln := hbl.grown hgrow (by omega) fun g hg => Nat.le_trans hH (od.lt g hg).1
    have hzn : w4.heap.size ≤ w7.heap.size := Nat.le_trans hz hgrow.size
    clear cd cn o0 o1 fd fn hd hn ho on hF hbl hz od hgrow hlt1 hBT1 hBT2
    have hd := hdn
    have hn := hnn
    have ho := hon
    have on := onn
    have hF := hFn
    have hbl := hbln
    have hz := hzn
    clear hdn hnn hon onn hFn hbln hzn
    have hBT2 := hBT2n
    clear hBT2n
    have cd := hd.cell 0
    have cn := hn.cell 0
    have o0 := ho.cell 0
    have o1 := ho.cell 1
    have fd := hd.frozen 0
    have fn := hn.frozen 0
    simp at cd cn o0 o1
    refine hK.out _ _ ⟨fun _ => ⟨cn, o0, o1⟩, fun _ => cd⟩ ?_
    clear hK K
    refine wpAnyC_one (i := 10) (by kernel_rfl) rfl (fun K hK => ?_)
    refine step_append_lies _ (by rfl) _ _ _ (by rfl) H 3 l0 _ 1 8 Tryd.underlying23 li lz0 lz1 lz2 rfl (by omega) vn nl.length (intsV nl) (by rfl) on ⟨T2, 0, none⟩ 1 1 [.int .i64 n] (by rfl) (by rfl) (World.news_of_block (cs := #[.int .i64 n]) (t := 3) (fr := (0, 0)) hBT2) (by simp [Value.oneCell']) (by omega) (by unfold maxLen; omega) (by omega) (by omega) _ rfl ?_; intro g2 cap2 w9 on1 hgrow hat2 hlt2
    have hat2 : Hid (vn.ownBlock = some g2 ∨ w4.heap.size ≤ g2) := hat2.imp id fun e => by omega
    have hdn := hd.grown hgrow (own_ne on hd (by decide))
    have hnn := hn.grown hgrow (own_ne on hn (by decide))
    have hon := ho.grown hgrow (own_ne on ho (by decide))
    have odn := own_far od1 on hgrow (by decide)
    have hFn : Hid (∀ j, j < w4.heap.size → vd.ownBlock ≠ some j → vn.ownBlock ≠ some j → j ≠ bd → j ≠ bn → w9.heap[j]? = w4.heap[j]?) := fun j h1 h2 h3 h4 h5 => (hgrow.block j (by omega) (fun e => h3 e.symm)).trans (hF.out j h1 h2 h3 h4 h5)
    have hbln := hbl.grown hgrow (by omega) fun g hg => Nat.le_trans hH (on.lt g hg).1
    have hzn : w4.heap.size ≤ w9.heap.size := Nat.le_trans hz hgrow.size
    clear cd cn o0 o1 fd fn hd hn ho on hF hbl hz od1 hgrow hlt2 hBT2
    have hd := hdn
    have hn := hnn
    have ho := hon
    have hF := hFn
    have hbl := hbln
    have hz := hzn
    clear hdn hnn hon hFn hbln hzn
    have cd := hd.cell 0
    have cn := hn.cell 0
    have o0 := ho.cell 0
    have o1 := ho.cell 1
    have fd := hd.frozen 0
    have fn := hn.frozen 0
    simp at cd cn o0 o1
    refine hK.out _ _ ⟨fun _ => ⟨cn, o0, o1⟩, fun _ => cd⟩ ?_
    clear hK K
    refine wpAnyC_one (i := 11) (by kernel_rfl) rfl (fun K hK => ?_)
    go_simp
    have hn := hn.far (p := ⟨bd, 0, none⟩) (blk_ne hn hd (by decide)) (.slice (some ⟨g1, 0, none⟩) (dl.length + 1) cap1)
    have ho := ho.far (p := ⟨bd, 0, none⟩) (blk_ne ho hd (by decide)) (.slice (some ⟨g1, 0, none⟩) (dl.length + 1) cap1)
    have cn := hn.cell 0
    have o0 := ho.cell 0
    have o1 := ho.cell 1
    have fn := hn.frozen 0
    simp at cn o0 o1
    refine hK.out _ _ ⟨fun _ => ⟨cn, o0, o1⟩, fun h => absurd (by simp) h⟩ ?_
    clear hK K
    refine wpAnyC_one (i := 12) (by kernel_rfl) rfl (fun K hK => ?_)
    go_simp
    refine hK.out _ _ ⟨fun h => absurd rfl h, fun h => absurd (by simp) h⟩ ?_
    clear hK K
    refine wpAnyC_done (by kernel_rfl) ?_ _
    have HLed : Hid (LedB H w4 (World.setCell (World.setCell w9 ⟨bd, 0, none⟩ (.slice (some ⟨g1, 0, none⟩) (dl.length + 1) cap1)) ⟨bn, 0, none⟩ (.slice (some ⟨g2, 0, none⟩) (nl.length + 1) cap2))) := LedB.of_same fun b hb => by
      have q1 := hR4.hd
      have q2 := hR4.hn
      exact (Below.heap_setCell _ ⟨bn, 0, none⟩ _ b (by show b ≠ bn; omega)).trans ((Below.heap_setCell _ ⟨bd, 0, none⟩ _ b (by show b ≠ bd; omega)).trans (hF.out b (by omega) (fun e => by have := (hR4.od.lt b e).1; omega) (fun e => by have := (hR4.on_.lt b e).1; omega) (by omega) (by omega)))
    have hE := look_end (k := k) (n := n) (er := er) hSh4 hR4 hNH hF.out hz hd hn odn on1 hat1.out hat2.out
    have hblE := (hbl.setCell (p := ⟨bd, 0, none⟩) (Nat.le_trans hH hR4.hd) (.slice (some ⟨g1, 0, none⟩) (dl.length + 1) cap1)).setCell (p := ⟨bn, 0, none⟩) (Nat.le_trans hH hR4.hn) (.slice (some ⟨g2, 0, none⟩) (nl.length + 1) cap2)
    have o1 := (ho.far (p := ⟨bn, 0, none⟩) (blk_ne ho hn (by decide)) (.slice (some ⟨g2, 0, none⟩) (nl.length + 1) cap2)).cell 1
    simp at o1
    clear hF hbl hz hd hn ho odn on1 hat1 hat2 cd cn o0 fd fn
    generalize World.setCell (World.setCell w9 ⟨bd, 0, none⟩ (.slice (some ⟨g1, 0, none⟩) (dl.length + 1) cap1)) ⟨bn, 0, none⟩ (.slice (some ⟨g2, 0, none⟩) (nl.length + 1) cap2) = w12 at *
    go_wp2_with fail
    go_ret
    exact .inl ⟨s2, n, er, rfl, HEr.out, HN64.out, ⟨_, _, hE.1, hE.2.1⟩, HKN4.out.trans hE.2.2.1, hb4.trans hblE, HH4.out.trans HLed.out, HRel.out⟩
end Go.Proofs.YtnadldoebfmgmaaDoor.q
