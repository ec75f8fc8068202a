/-
  THE WALK of amanuensisref1.Plain.
-/
import Derived.Test.YtffcfnnbdmihaaaDoorCanon
import Derived.Test.YtffcfnnbdmihaaaDoorMeans
namespace Go.Proofs.YtffcfnnbdmihaaaDoor
open Go.RowKit

theorem At.here {n : Nat} {I : Nat → List UInt8} {O : Nat → Bool} {g j : Nat} {c : List Sp} (hA : At n I O g (c.drop j)) (h : ¬ ∀ s, (c.drop j).head? = some s → (g : Int) < s.f) :
    ∃ t : Nat, j < c.length ∧ c.take (j + 1) = c.take j ++ [⟨g, t, ⟨(I g).toArray⟩⟩] ∧ g ≤ t ∧ t ≤ n ∧ (∀ k, g ≤ k → k < t → O k = true) ∧ (∀ k, g < k → k < t → I k = []) ∧ (t < n → O t = false ∨ (I t ≠ [] ∧ g < t)) ∧ ((I g).isEmpty = true → g < n ∧ O g = true) ∧ At n I O (if t = g then g + 1 else t) (c.drop (j + 1)) := by
  cases hd : c.drop j with
  | nil => exact absurd (fun s hs => by rw [hd] at hs; cases hs) h
  | cons s r =>
    rw [hd] at hA
    have hj : j < c.length := by
      rcases Nat.lt_or_ge j c.length with h' | h'
      · exact h'
      · rw [List.drop_of_length_le h'] at hd; cases hd
    have hsr := List.drop_eq_getElem_cons hj
    rw [hd] at hsr
    obtain ⟨e1, e2⟩ := List.cons.inj hsr
    have hc := hA.ch.resolve_left (by simp)
    obtain ⟨h1, h2, h3, h4⟩ := hc
    have hf : s.f = g := by
      refine Classical.byContradiction fun hne => h fun s' hs' => ?_
      rw [hd] at hs'
      simp only [List.head?_cons, Option.some.injEq] at hs'
      subst hs'
      omega
    obtain ⟨t, ht⟩ := Int.eq_ofNat_of_zero_le (a := s.t) (by omega)
    have hgt : g ≤ t := by omega
    have hs : I g = s.s.data.toList → s = ⟨g, t, ⟨(I g).toArray⟩⟩ := fun he => by
      obtain ⟨f, t', x⟩ := s
      simp only at hf ht he
      subst hf ht
      rw [he]
    refine ⟨t, hj, ?_, hgt, by omega, ?_⟩
    · rw [List.take_succ_eq_append_getElem hj, ← e1]
      congr 1
      rcases Nat.lt_or_ge g t with hlt | hge
      · rw [← hs (hA.cut hf ht hlt).1]
      · have : t = g := by omega
        subst this
        rw [← hs (hA.ins hf ht).1]
    · rw [← e2]
      rcases Nat.lt_or_ge g t with hlt | hge
      · obtain ⟨c1, c2, c3, c4, c5, c6⟩ := hA.cut hf ht hlt
        rw [if_neg (by omega)]
        exact ⟨c2, c3, fun _ => c4.elim .inl fun h => .inr ⟨h, hlt⟩, fun _ => ⟨by omega, c2 g (Nat.le_refl _) hlt⟩, c6⟩
      · have : t = g := by omega
        subst this
        obtain ⟨c1, c2, c3, c4⟩ := hA.ins hf ht
        rw [if_pos rfl]
        exact ⟨fun k _ _ => by omega, fun k _ _ => by omega, fun _ => .inl c3, fun he => absurd (by simpa using he) c2, c4⟩

set_option maxHeartbeats 16000000 in
set_option maxRecDepth 100000 in
theorem rplain_walk (v : Value) (n : Nat) (I : Nat → List UInt8) (O : Nat → Bool) (c : List Sp) (w : World) (h : EAt w w.heap.size v n I O) (hA : At n I O 0 c) (hn : n ≤ 16777216) (hc : c.length ≤ 1048576) :
    Calls Tryd.prog 33 #[v] w fun e w' => ∃ v', e = .returned v' ∧ w'.ownsRow w.heap.size 101 3 v' c.length (spCells c) ∧ Below w.heap.size w w' := by
  obtain ⟨i0, ji, jz0, jz1, jz2⟩ := info_parts infoP
  obtain ⟨g1, g2, rfl, hg1, hg2, h1, h2⟩ := h
  have H1 := Lib.hid h1
  have H2 := Lib.hid h2
  have HA0 := Lib.hid hA
  clear h1 h2 hA
  unfold EV
  go_enter Tryd.func33, Tryd.ntmps33
  go_wp2_with fail
  have hE0 := Blk.new w 62 #[.int .i64 n, .slice (some ⟨g1, 0, none⟩) n n, .slice (some ⟨g2, 0, none⟩) (n + 1) (n + 1)]
  have hb0 : Below w.heap.size w (w.alloc (.cells #[.int .i64 n, .slice (some ⟨g1, 0, none⟩) n n, .slice (some ⟨g2, 0, none⟩) (n + 1) (n + 1)] 62)) := (Below.refl _ _).alloc (Nat.le_refl _) _
  go_loopw [3, 4] (fun v i wr => ∃ (j g : Nat), j ≤ c.length ∧ g ≤ n + 1 ∧ i = .int .i64 g ∧ Hid (At n I O g (c.drop j)) ∧ wr.ownsRow w.heap.size 101 3 v j (spCells (c.take j)) ∧ Below w.heap.size w wr ∧ Blk wr w.heap.size 62 #[.int .i64 n, .slice (some ⟨g1, 0, none⟩) n n, .slice (some ⟨g2, 0, none⟩) (n + 1) (n + 1)]) (fun _ i _ => n + 1 - (intOf i).toNat)
  case atStart => exact ⟨0, 0, Nat.zero_le _, Nat.zero_le _, rfl, HA0, World.ownsRow_nil _ _ _ _, hb0, hE0⟩
  case round =>
    clear hE0 hb0 HA0
    obtain ⟨j, g, hj, hg, rfl, HA, hown, hb, hE⟩ := hrel
    have hbs := hb.size
    obtain ⟨Av, cv, rfl⟩ := own_form hown
    have he0 := hE.cell 0
    have he1 := hE.cell 1
    have he2 := hE.cell 2
    simp at he0 he1 he2
    by_cases hle : g ≤ n
    · have d2 := (hb.cell (p := ⟨g2, g, none⟩) hg2).trans (H2.out g hle)
      by_cases hskip : ∀ s, (c.drop j).head? = some s → (g : Int) < s.f
      · obtain ⟨q1, q2, q3⟩ := HA.out.skip hskip
        rw [q1] at d2
        have HA' := Lib.hid q3
        clear HA hskip q3 q1
        by_cases hlt : g < n
        · have d1 := (hb.cell (p := ⟨g1, g, none⟩) hg1).trans (H1.out g hlt)
          rw [q2] at d1
          clear q2
          go_wp2_with fail
          go_roundw
          case rel => exact ⟨j, g + 1, hj, by omega, by go_num, HA', hown, hb, hE⟩
          case measure => simp [intOf]; omega
        · clear q2
          go_wp2_with fail
          go_roundw
          case rel => exact ⟨j, g + 1, hj, by omega, by go_num, HA', hown, hb, hE⟩
          case measure => simp [intOf]; omega
      · obtain ⟨t, hjl, hsnoc, hgt, htn, hO, hI, hstop, hemp, hA'⟩ := HA.out.here hskip
        have HA' := Lib.hid hA'
        have HO := Lib.hid hO
        have HI := Lib.hid hI
        have Hstop := Lib.hid hstop
        have Hcell : Hid (spCells (c.take (j + 1)) = spCells (c.take j) ++ [.int .i64 g, .int .i64 t, .string ⟨(I g).toArray⟩]) := by
          show _ = _
          rw [hsnoc, spCells_snoc]
        have hz : (⟨(I g).toArray⟩ : ByteArray).toList.isEmpty = (I g).isEmpty := by rw [ByteArray.toList_eq]
        rw [← hz] at hemp
        have Hemp := Lib.hid hemp
        clear hA' hO hI hstop hskip HA hsnoc hemp hz
        generalize (⟨(I g).toArray⟩ : ByteArray) = z at *
        have hP := Blk.new wr 101 #[.int .i64 g, .int .i64 0, .string z]
        have hown1 := hown.alloc (.cells #[.int .i64 g, .int .i64 0, .string z] 101)
        have hb1 := hb.alloc hbs (.cells #[.int .i64 g, .int .i64 0, .string z] 101)
        have hE1 := hE.alloc (.cells #[.int .i64 g, .int .i64 0, .string z] 101)
        have hws : (wr.alloc (.cells #[.int .i64 g, .int .i64 0, .string z] 101)).heap.size = wr.heap.size + 1 := by simp
        have hways : (g < n ∧ wr.cell? ⟨g1, g, none⟩ = some (.bool false) ∧ z.toList.isEmpty = false) ∨ (g < n ∧ wr.cell? ⟨g1, g, none⟩ = some (.bool true) ∧ z.toList.isEmpty = false) ∨ (g < n ∧ wr.cell? ⟨g1, g, none⟩ = some (.bool true) ∧ z.toList.isEmpty = true) ∨ (¬ g < n ∧ z.toList.isEmpty = false) := by
          by_cases hlt : g < n
          · have d1 := (hb.cell (p := ⟨g1, g, none⟩) hg1).trans (H1.out g hlt)
            cases hq : z.toList.isEmpty
            · cases hO : O g
              · rw [hO] at d1; exact .inl ⟨hlt, d1, rfl⟩
              · rw [hO] at d1; exact .inr (.inl ⟨hlt, d1, rfl⟩)
            · rw [(Hemp.out hq).2] at d1; exact .inr (.inr (.inl ⟨hlt, d1, rfl⟩))
          · cases hq : z.toList.isEmpty
            · exact .inr (.inr (.inr ⟨hlt, rfl⟩))
            · exact absurd (Hemp.out hq).1 hlt
        clear Hemp
        rcases hways with ⟨hlt, d1, hze⟩ | ⟨hlt, d1, hze⟩ | ⟨hlt, d1, hze⟩ | ⟨hlt, hze⟩
        all_goals
          go_wp2_with fail
          obtain ⟨wa, hwa⟩ : ∃ wa, wa = wr.alloc (.cells #[.int .i64 g, .int .i64 0, .string z] 101) := ⟨_, rfl⟩
          rw [← hwa] at hP hown1 hb1 hE1 hws ⊢
          clear hwa
          have hws1 : wr.heap.size < wa.heap.size := by rw [hws]; omega
          clear hws
          have hnb : ∀ k, (Value.slice Av j cv).ownBlock = some k → k < wr.heap.size := fun k hk => (hown.lt k hk).2
          have hEl := hE.lt
          generalize wr.heap.size = vb at *
          go_loopw [4] (fun i wj => ∃ m : Nat, g ≤ m ∧ m ≤ t ∧ i = .int .i64 m ∧ wj = wa) (fun i _ => t - (intOf i).toNat)
          case atStart => exact ⟨g, Nat.le_refl _, hgt, rfl, rfl⟩
          case round =>
            obtain ⟨m, hm1, hm2, rfl, hwj⟩ := hrel
            obtain rfl := hwj.symm
            try clear d1
            clear he0 he1 he2 d2 hb hE hown
            have he0 := hE1.cell 0
            have he1 := hE1.cell 1
            have he2 := hE1.cell 2
            have p0 := hP.cell 0
            have p1 := hP.cell 1
            have p2 := hP.cell 2
            have f1 := hP.frozen 1
            simp at he0 he1 he2 p0 p1 p2
            by_cases hmt : m < t
            · skip
              all_goals first | (exfalso; omega) | skip
              all_goals
                have x1 := (hb1.cell (p := ⟨g1, m, none⟩) hg1).trans (H1.out m (by omega))
                have x2 := (hb1.cell (p := ⟨g2, m, none⟩) hg2).trans (H2.out m (by omega))
                rw [HO.out m hm1 hmt] at x1
                have hmn : m < n := by omega
                by_cases hmg : m = g
                · obtain rfl := hmg
                  go_wp2_with fail
                  go_roundw
                  case rel => exact ⟨m + 1, by omega, by omega, by go_num, by first | rfl | trivial⟩
                  case measure => simp [intOf]; omega
                · rw [HI.out m (by omega) hmt] at x2
                  have dm : ((m : Int) == (g : Int)) = false := by simp; omega
                  go_wp2_with fail
                  go_roundw
                  case rel => exact ⟨m + 1, by omega, by omega, by go_num, by first | rfl | trivial⟩
                  case measure => simp [intOf]; omega
            · obtain rfl : m = t := by omega
              have hways2 : (¬ m < n) ∨ (m < n ∧ wa.cell? ⟨g1, m, none⟩ = some (.bool false)) ∨ (m < n ∧ g < m ∧ wa.cell? ⟨g1, m, none⟩ = some (.bool true) ∧ ∃ y, wa.cell? ⟨g2, m, none⟩ = some (.string y) ∧ y.toList.isEmpty = false) := by
                by_cases h : m < n
                · have x1 := (hb1.cell (p := ⟨g1, m, none⟩) hg1).trans (H1.out m (by omega))
                  have x2 := (hb1.cell (p := ⟨g2, m, none⟩) hg2).trans (H2.out m (by omega))
                  cases hO : O m
                  · rw [hO] at x1; exact .inr (.inl ⟨h, x1⟩)
                  · rw [hO] at x1
                    rcases Hstop.out h with h' | ⟨h', h''⟩
                    · rw [hO] at h'; cases h'
                    · exact .inr (.inr ⟨h, h'', x1, _, x2, by rw [ByteArray.toList_eq]; simpa using h'⟩)
                · exact .inl h
              have hown2 : (World.setCell wa ⟨vb, 1, none⟩ (.int .i64 m)).ownsRow w.heap.size 101 3 (.slice Av j cv) j (spCells (c.take j)) := own_of_block hown1 fun k hk => Below.heap_setCell _ _ _ _ (Nat.ne_of_lt (hnb k hk))
              clear Hstop HO HI
              rcases Nat.lt_or_ge g m with htg | htg
              · skip
                all_goals first | (exfalso; omega) | skip
                all_goals
                  have HA3 := HA'.out
                  rw [if_neg (by omega)] at HA3
                  have HA4 := Lib.hid HA3
                  clear HA3 HA'
                  have dm : ((m : Int) == (g : Int)) = false := by simp only [beq_eq_false_iff_ne, ne_eq]; omega
                  rcases hways2 with h | ⟨h, x1⟩ | ⟨h, h', x1, y, x2, hy⟩
                  all_goals
                    go_wp2_with (at_builtin; refine wpList_append_lies _ rfl _ _ 42 rfl w.heap.size 101 i0 _ 3 32 Tryd.underlying42 ji jz0 jz1 jz2 rfl (by omega) _ j _ rfl (World.ownsRow.alloc (w := World.setCell wa ⟨vb, 1, none⟩ (.int .i64 m)) hown2 _) ⟨wa.heap.size, 0, none⟩ 1 1 [.int .i64 g, .int .i64 m, .string z] rfl (by simp) (World.news_of_block (cs := #[.int .i64 g, .int .i64 m, .string z]) (t := 101) (fr := (0, 0)) (by simpa using heap_alloc_new (World.setCell wa ⟨vb, 1, none⟩ (.int .i64 m)) _)) (by simp [Value.oneCell']) (by omega) (by unfold maxLen; omega) (by omega) (by simp; omega) _ rfl ?_; intro gg cap' w3 hown3 hgrow hat hlt3; have hP3 := ((hP.set_ 1 (.int .i64 m)).alloc (.cells #[.int .i64 g, .int .i64 m, .string z] 101)).grown hgrow (fun e => Nat.lt_irrefl _ (hnb _ e.symm)); have px : w3.cell? ⟨vb, 0, none⟩ = some (.int .i64 g) := (hP3.cell 0).trans rfl; clear hP3)
                    have hE3 := ((hE1.far (p := ⟨vb, 1, none⟩) (Nat.ne_of_lt hEl) (.int .i64 m)).alloc (.cells #[.int .i64 g, .int .i64 m, .string z] 101)).grown hgrow (own_ne hown1 hE1 (by decide))
                    have hb3 := ((hb1.setCell (p := ⟨vb, 1, none⟩) hbs (.int .i64 m)).alloc (by simp; omega) (.cells #[.int .i64 g, .int .i64 m, .string z] 101)).grown hgrow (by simp; omega) fun g hg => (hown1.lt g hg).1
                    go_roundw
                    case rel => exact ⟨j + 1, m, by omega, by omega, by first | rfl | trivial | go_num, HA4, by rw [Hcell.out]; exact hown3, hb3, hE3⟩
                    case measure => simp [intOf]; omega
              · obtain rfl : m = g := by omega
                have HA3 := HA'.out
                rw [if_pos rfl] at HA3
                have HA4 := Lib.hid HA3
                clear HA3 HA'
                rcases hways2 with h | ⟨h, x1⟩ | ⟨h, h', x1, y, x2, hy⟩
                all_goals first | (exfalso; omega) | skip
                all_goals
                  go_wp2_with (at_builtin; refine wpList_append_lies _ rfl _ _ 42 rfl w.heap.size 101 i0 _ 3 32 Tryd.underlying42 ji jz0 jz1 jz2 rfl (by omega) _ j _ rfl (World.ownsRow.alloc (w := World.setCell wa ⟨vb, 1, none⟩ (.int .i64 m)) hown2 _) ⟨wa.heap.size, 0, none⟩ 1 1 [.int .i64 m, .int .i64 m, .string z] rfl (by simp) (World.news_of_block (cs := #[.int .i64 m, .int .i64 m, .string z]) (t := 101) (fr := (0, 0)) (by simpa using heap_alloc_new (World.setCell wa ⟨vb, 1, none⟩ (.int .i64 m)) _)) (by simp [Value.oneCell']) (by omega) (by unfold maxLen; omega) (by omega) (by simp; omega) _ rfl ?_; intro gg cap' w3 hown3 hgrow hat hlt3; have hP3 := ((hP.set_ 1 (.int .i64 m)).alloc (.cells #[.int .i64 m, .int .i64 m, .string z] 101)).grown hgrow (fun e => Nat.lt_irrefl _ (hnb _ e.symm)); have px : w3.cell? ⟨vb, 0, none⟩ = some (.int .i64 m) := (hP3.cell 0).trans rfl; clear hP3)
                  have hE3 := ((hE1.far (p := ⟨vb, 1, none⟩) (Nat.ne_of_lt hEl) (.int .i64 m)).alloc (.cells #[.int .i64 m, .int .i64 m, .string z] 101)).grown hgrow (own_ne hown1 hE1 (by decide))
                  have hb3 := ((hb1.setCell (p := ⟨vb, 1, none⟩) hbs (.int .i64 m)).alloc (by simp; omega) (.cells #[.int .i64 m, .int .i64 m, .string z] 101)).grown hgrow (by simp; omega) fun g hg => (hown1.lt g hg).1
                  go_roundw
                  case rel => exact ⟨j + 1, m + 1, by omega, by omega, by go_num, HA4, by rw [Hcell.out]; exact hown3, hb3, hE3⟩
                  case measure => simp [intOf]; omega
    · obtain rfl : g = n + 1 := by omega
      have hd : c.drop j = [] := by
        rcases HA.out.ch with h | h
        · exact h
        · exact absurd h.last (by omega)
      have hjl : j = c.length := by
        have := congrArg List.length hd
        simp at this; omega
      subst hjl
      rw [List.take_length] at hown
      go_wp2
      go_ret
      exact ⟨_, rfl, hown, hb⟩
end Go.Proofs.YtffcfnnbdmihaaaDoor
