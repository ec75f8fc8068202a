/-
  JOINED of the texts NO
-/
import Derived.Test.YtgpjcjnimheglaaDoorJah
import Derived.Test.YtgpjcjnimheglaaDoorJai
import Derived.Test.YtgpjcjnimheglaaDoorJaj
import Derived.Deep.RegionHeld3
import Derived.StillTailTactics
import Derived.Deep.CutBlock
import Derived.Deep.LoopGhost
import Derived.Lib.ItoaNum
import Derived.Lib.RuneBytes
import Derived.Lib.Strings
import Derived.Lib.ConvBytes
import Derived.Laws.Strings3
import Derived.Laws.Closers25
import Derived.Laws.Closers25b
import Derived.BigCall
import Derived.BigGuard
import Derived.Test.YtgpjcjnimheglaaDoorShelfX
import Derived.Shelf.Spec.BytesIndexFunc
import Derived.Deep.DeepCutAuto
import Derived.Lib.IndexMore
import Derived.Test.YtgpjcjnimheglaaDoorRows
import Derived.WalkKit
import Derived.WalkSpells
import Derived.WalkLawsBesides
import Derived.Below
import Derived.Laws.OwnMore
import Derived.Deep.AppendLies
import Derived.Deep.Draws
import Derived.Lib.Hide
import Derived.Deep.QuietTactic
import Derived.BigQuiet
import Derived.IntWalk
import Derived.Test.YtgpjcjnimheglaaDoorShelfW
import Derived.Shelf.Strings.SlTrimAscii
import Derived.Lib.LaidTab
import Derived.Lib.AtoiAll
import Derived.Lib.IndexLaws
import Derived.Lib.SlTrimSet
import Derived.Lib.Atoi
import Derived.Test.YtgpjcjnimheglaaDoorShelf
import Derived.Shelf.Strings.Builder1
import Derived.WalkMore
import Derived.ScopeJumps
/-
  WALKS of package wire's reader: value.
-/
namespace Go.Proofs.YtgpjcjnimheglaaDoor
open Go.RowKit

theorem Jp.val_gt {s : List UInt8} {f d i : Nat} {j : JT} {k : Nat} (h : Jp.valF s f d i = .ok j k) : i < k := by
  have h1 := Jp.val_wt s f d i j k h
  rw [JT.wt_eq] at h1
  omega
theorem Jp.oneL_M {s : List UInt8} {f d : Nat} {st st' : Jp.KK} {k k' : Nat} (hM : 4 * st.1.length ≤ k ∧ st.2.length ≤ k) (h : Jp.oneL (Jp.valF s f d) st k = .ok st' k') : 4 * st'.1.length ≤ k' ∧ st'.2.length ≤ k' := by
  obtain ⟨j, hv, rfl⟩ := Jp.oneL_ok h
  have := Jp.val_gt hv
  simp only [List.length_append, List.length_cons, List.length_nil]
  omega
theorem Jp.oneM_M {s : List UInt8} {f d : Nat} {st st' : Jp.KK} {k k' : Nat} (hM : 4 * st.1.length ≤ k ∧ st.2.length ≤ k) (h : Jp.oneM s (Jp.valF s f d) st k = .ok st' k') : 4 * st'.1.length ≤ k' ∧ st'.2.length ≤ k' := by
  obtain ⟨key, k1, j, ht, hn, hv, rfl⟩ := Jp.oneM_ok h
  have h1 := Jp.val_gt hv
  have h2 := Jp.text_len ht
  have h3 := Jp.skip_ge s k
  have h4 := Jp.skip_ge s k1
  simp only [List.length_append, List.length_cons, List.length_nil]
  omega
/-- a value without lists, told -/
theorem ValE.leaf {g : Nat} {s : Bs} {w w' : World} {f k : Nat} {r : Jp.Rs JT} {kn nn : Int} {t : Bs} (h : r = .ok (.mk kn nn t [] []) k) (ha : AftR g w w') (hr : RdrAt w' g s k) (hf : JFit (.mk kn nn t [] [])) : ValE g s w f r (.returned (.agg (jz kn nn t))) w' := by
  subst h
  exact ⟨ha, hr, none, 0, none, 0, rfl, ⟨rfl, fun h => absurd h (by simp [JT.keys])⟩, Nat.le_refl _, by cases f with | zero => rfl | succ f => exact fun h => absurd h (by simp [JT.kids]), hf⟩
theorem enters_v1 : ∀ args w, (callFunc 25 args).run Tryd.prog w = .ok (.enter 25 args) w := enters_of Tryd.func25 (by kernel_rfl) rfl
theorem enters_v2 : ∀ args w, (callFunc 26 args).run Tryd.prog w = .ok (.enter 26 args) w := enters_of Tryd.func26 (by kernel_rfl) rfl

/-- how a list's or a map's reading begins -/
theorem JSt.start {w w1 : World} {g gj br bd d dep : Nat} {kind : Int} (ha : AftR g w w1) (ho : Blk w1 gj 25 (jz kind 0 [])) (hr : Blk w1 br 44 #[.pointer (some ⟨g, 0, none⟩)]) (hd : Blk w1 bd 3 #[.int .i64 dep]) (hg : g < w.heap.size) (h1 : w.heap.size + 3 ≤ gj) (h2 : w.heap.size ≤ br) (h3 : w.heap.size ≤ bd) (h4 : Blk w1 (w.heap.size + 2) 25 (jz 0 0 [])) :
    JSt w g gj br bd d dep kind w1 ([], []) (.slice none 0 0) (.slice none 0 0) [] :=
  ⟨ha, ho, hr, hd, World.ownsRow_nil _ _ _ _, World.ownsRow_nil _ _ _ _, KidsF.nil _ _ _, hg, h1, h2, h3, by simp [Value.ownBlock], h4⟩
/-- .. and ends -/
theorem JSt.end_ {w w1 : World} {g gj br bd d dep : Nat} {kind : Int} {st : Jp.KK} {Ak Ad : Option Addr} {ck cd : Nat} {xs : List Value} (h : JSt w g gj br bd d dep kind w1 st (.slice Ak st.1.length ck) (.slice Ad st.2.length cd) xs) (hk : 0 ≤ kind ∧ kind ≤ 5) :
    JInF w1 (fun b => w.heap.size + 3 ≤ b ∧ b ≠ gj) (d + 1) (.mk kind 0 [] st.1 st.2) Ak st.1.length Ad := by
  refine ⟨⟨(Rd.of_own h.keys).1, fun h0 => ?_⟩, Nat.le_refl _, h.rows.made rfl h.kids (fun b hb _ => ⟨hb.1, hb.2.1⟩) (fun b hb => ⟨(h.kids.lt b hb).1, fun e => h.nej (by rw [hb, e])⟩), ⟨by simp [JT.num], by simp only [JT.kind]; omega⟩⟩
  obtain ⟨b, o, e, hb, hc⟩ := (Rd.of_own h.keys).2 h0
  subst e
  obtain ⟨g', cap, hv, _, hlt⟩ := h.keys.form h0
  refine ⟨b, o, rfl, ?_, hb, hc⟩
  have hbo : (Value.slice (some ⟨b, o, none⟩) st.1.length ck).ownBlock = some b := by
    injection hv with h1 h2 h3
    injection h1 with h1
    injection h1 with h1 h4 h5
    subst h4
    rfl
  exact ⟨(h.keys.lt b hbo).1, fun e => own_ne h.keys h.obj (by decide) (by rw [hbo, e])⟩
theorem own_form2 {w : World} {base : Nat} {e : TypeId} {size n : Nat} {v : Value} {xs : List Value} (h : w.ownsRow base e size v n xs) : ∃ A cap, v = .slice A n cap ∧ n ≤ cap ∧ (A = none → cap = 0) := by
  rcases h.2 with ⟨rfl, rfl⟩ | ⟨g, cap, cur, rfl, _, _, hc, _⟩
  · exact ⟨none, 0, rfl, Nat.le_refl _, fun _ => rfl⟩
  · exact ⟨_, _, rfl, hc, fun h => by cases h⟩

namespace Jp
variable {s : List UInt8} {m : Nat → Rs JT} {d k : Nat}
theorem valP_f (c : UInt8) (h : 40 ≤ d) (hc : c = 91 ∨ c = 123) : valP s m d c k = .bad k 12 := by unfold valP; rw [if_pos ⟨h, hc⟩]
theorem valP_110 : valP s m d 110 k = wordP s wN (.mk 0 0 [] [] []) k := by unfold valP; rw [if_neg (fun h => absurd h.2 (by decide)), if_pos rfl]
theorem valP_116 : valP s m d 116 k = wordP s wT (.mk 1 1 [] [] []) k := by unfold valP; rw [if_neg (fun h => absurd h.2 (by decide)), if_neg (by decide), if_pos rfl]
theorem valP_102 : valP s m d 102 k = wordP s wF (.mk 1 0 [] [] []) k := by unfold valP; rw [if_neg (fun h => absurd h.2 (by decide)), if_neg (by decide), if_neg (by decide), if_pos rfl]
theorem valP_34 : valP s m d 34 k = match textP s k with | .bad p e => .bad p e | .ok t e => .ok (.mk 3 0 t [] []) e := by
  unfold valP; rw [if_neg (fun h => absurd h.2 (by decide)), if_neg (by decide), if_neg (by decide), if_neg (by decide), if_pos rfl]
  rfl
theorem dig_not {c : UInt8} (h : c = 45 ∨ digB c = true) : ¬ (c = 91 ∨ c = 123) ∧ c ≠ 110 ∧ c ≠ 116 ∧ c ≠ 102 ∧ c ≠ 34 := by
  have hall : ∀ i : Fin 256, (UInt8.ofNat i.val = 45 ∨ digB (UInt8.ofNat i.val) = true) → ¬ (UInt8.ofNat i.val = 91 ∨ UInt8.ofNat i.val = 123) ∧ UInt8.ofNat i.val ≠ 110 ∧ UInt8.ofNat i.val ≠ 116 ∧ UInt8.ofNat i.val ≠ 102 ∧ UInt8.ofNat i.val ≠ 34 := by decide +kernel
  have := hall ⟨c.toNat, c.toNat_lt⟩
  simpa using this (by simpa using h)
theorem valP_n (c : UInt8) (h : c = 45 ∨ digB c = true) : valP s m d c k = match numP s k with | .bad p e => .bad p e | .ok n e => .ok (.mk 2 n [] [] []) e := by
  obtain ⟨h1, h2, h3, h4, h5⟩ := dig_not h
  unfold valP; rw [if_neg (fun h => h1 h.2), if_neg h2, if_neg h3, if_neg h4, if_neg h5, if_pos h]
  rfl
theorem valP_91 (h : ¬ 40 ≤ d) : valP s m d 91 k = listP (itemsP (oneL m) 93 s ([], []) k) 4 := by
  unfold valP; rw [if_neg (fun h' => h h'.1), if_neg (by decide), if_neg (by decide), if_neg (by decide), if_neg (by decide), if_neg (by decide), if_pos rfl]
theorem valP_123 (h : ¬ 40 ≤ d) : valP s m d 123 k = listP (itemsP (oneM s m) 125 s ([], []) k) 5 := by
  unfold valP; rw [if_neg (fun h' => h h'.1), if_neg (by decide), if_neg (by decide), if_neg (by decide), if_neg (by decide), if_neg (by decide), if_neg (by decide), if_pos rfl]
theorem valP_x (c : UInt8) (h : ¬ (40 ≤ d ∧ (c = 91 ∨ c = 123))) (h1 : c ≠ 110) (h2 : c ≠ 116) (h3 : c ≠ 102) (h4 : c ≠ 34) (h5 : ¬ (c = 45 ∨ digB c = true)) (h6 : c ≠ 91) (h7 : c ≠ 123) : valP s m d c k = .bad k 3 := by
  unfold valP; rw [if_neg h, if_neg h1, if_neg h2, if_neg h3, if_neg h4, if_neg h5, if_neg h6, if_neg h7]
end Jp

set_option maxHeartbeats 8000000 in
set_option maxRecDepth 100000 in
theorem value_step (g f dep : Nat) (s : Bs) (hl : s.length ≤ 16777216) (hfd : f + dep = 40)
    (ih : 0 < f → ∀ (i : Nat) (w : World), RdrAt w g s i → i ≤ s.length → Calls Tryd.prog 10 #[.pointer (some ⟨g, 0, none⟩), .int .i64 ((dep : Int) + 1)] w (ValE g s w f (Jp.valF s f (dep + 1) i)))
    (i : Nat) (w : World) (h : RdrAt w g s i) (hi : i ≤ s.length) :
    Calls Tryd.prog 10 #[.pointer (some ⟨g, 0, none⟩), .int .i64 dep] w (ValE g s w (f + 1) (Jp.valF s (f + 1) dep i)) := by
  have hgl := h.lt
  have hb3 : Below w.heap.size w (((w.alloc (.cells #[.pointer (some ⟨g, 0, none⟩)] 44)).alloc (.cells #[.int .i64 dep] 3)).alloc (.cells (jz 0 0 []) 25)) := (((Below.refl _ _).alloc (Nat.le_refl _) _).alloc (by simp) _).alloc (by simp; omega) _
  have hBr : Blk (((w.alloc (.cells #[.pointer (some ⟨g, 0, none⟩)] 44)).alloc (.cells #[.int .i64 dep] 3)).alloc (.cells (jz 0 0 []) 25)) w.heap.size 44 #[.pointer (some ⟨g, 0, none⟩)] := ((Blk.new w _ _).alloc _).alloc _
  have hBd : Blk (((w.alloc (.cells #[.pointer (some ⟨g, 0, none⟩)] 44)).alloc (.cells #[.int .i64 dep] 3)).alloc (.cells (jz 0 0 []) 25)) (w.heap.size + 1) 3 #[.int .i64 dep] := by
    have := (Blk.new (w.alloc (.cells #[.pointer (some ⟨g, 0, none⟩)] 44)) 3 #[.int .i64 dep]).alloc (.cells (jz 0 0 []) 25)
    simpa using this
  have hBj : Blk (((w.alloc (.cells #[.pointer (some ⟨g, 0, none⟩)] 44)).alloc (.cells #[.int .i64 dep] 3)).alloc (.cells (jz 0 0 []) 25)) (w.heap.size + 1 + 1) 25 (jz 0 0 []) := by
    have := Blk.new ((w.alloc (.cells #[.pointer (some ⟨g, 0, none⟩)] 44)).alloc (.cells #[.int .i64 dep] 3)) 25 (jz 0 0 [])
    simpa using this
  have h1 := h.below hb3
  have ha1 := AftR.of_below hb3 (Nat.le_of_lt hgl)
  have hsk := jskip_walk g s i _ h1 hi hl
  have hle := Jp.skip_le s i hi
  unfold jz at hBr hBd hBj h1 ha1 hsk
  clear hb3
  obtain ⟨b0, e0⟩ : ∃ b, b = w.heap.size := ⟨_, rfl⟩
  have hg0 : g < b0 := by omega
  rw [← e0] at hBr hBd hBj
  have E0 := Lib.hid e0
  clear e0 h
  generalize hRR : Jp.valF s (f + 1) dep i = R
  have HR : Hid ((match s[Jp.skipP s i]? with
    | none => .bad (Jp.skipP s i) 3
    | some c => Jp.valP s (Jp.valF s f (dep + 1)) dep c (Jp.skipP s i)) = R) := hRR
  clear hRR
  generalize Jp.skipP s i = q at *
  have cr := hBr.cell 0
  simp at cr
  have j1 : (0 : Int) ≤ (q : Int) := by omega
  have jd : (0 : Int) ≤ (dep : Int) := by omega
  go_enter Tryd.func10, Tryd.ntmps10
  go_wp2_with fail
  rw [← E0.out]
  have hg1 : g < b0 + 1 := by omega
  have hg2 : g < b0 + 1 + 1 := by omega
  have E1 : Hid (b0 + 1 = w.heap.size + 1) := by show _ = _; rw [E0.out]
  have E2 : Hid (b0 + 1 + 1 = w.heap.size + 2) := by show _ = _; rw [E0.out]
  have hbl0 : Hid (w.heap.size ≤ b0 ∧ w.heap.size ≤ b0 + 1) := ⟨by rw [E0.out]; exact Nat.le_refl _, by rw [E0.out]; exact Nat.le_succ _⟩
  generalize hb1 : b0 + 1 = b1 at *
  clear hb1
  generalize hb2 : b1 + 1 = b2 at *
  clear hb2
  refine hsk.mono ?_
  clear hsk
  rintro e w2 ⟨rfl, h2, ha2⟩
  have hBr2 := (ha2.oth b0 hBr.lt (by omega)).trans hBr
  have hBd2 := (ha2.oth b1 hBd.lt (by omega)).trans hBd
  have hBj2 := (ha2.oth b2 hBj.lt (by omega)).trans hBj
  have haa := ha1.trans ha2
  clear hBr hBd hBj ha1 ha2 h1 cr
  have hBr : Blk w2 b0 44 #[.pointer (some ⟨g, 0, none⟩)] := hBr2
  have hBd : Blk w2 b1 3 #[.int .i64 dep] := hBd2
  have hBj : Blk w2 b2 25 #[.int .i64 0, .int .i64 0, .string ⟨#[]⟩, .slice none 0 0, .slice none 0 0] := hBj2
  clear hBr2 hBd2 hBj2
  have cr := hBr.cell 0
  have cd := hBd.cell 0
  have c0 := h2.c0
  have c1 := h2.c1
  simp at cr cd
  by_cases hlt : q < s.length
  · have hq0 : s[q]? = some s[q] := List.getElem?_eq_getElem hlt
    have j2 : (q : Int) < (s.length : Int) := by omega
    go_wp2_with fail
    go_quiet (fail)
    have hBr := hBr.drewN nq
    have hBd := hBd.drewN nq
    have hBj := hBj.drewN nq
    have h2 := h2.drewN nq
    have haa := haa.drewN nq
    clear c0 c1 cr cd
    generalize World.drewN w2 nq = w2 at *
    have cr := hBr.cell 0
    have cd := hBd.cell 0
    have c0 := h2.c0
    have c1 := h2.c1
    simp at cr cd
    go_wp2_with fail
    go_quiet (fail)
    go_upto_region 5 with fail
    have hBr := hBr.drewN nq
    have hBd := hBd.drewN nq
    have hBj := hBj.drewN nq
    have h2 := h2.drewN nq
    have haa := haa.drewN nq
    clear c0 c1 cr cd
    generalize World.drewN w2 nq = w2 at *
    have cr := hBr.cell 0
    have cd := hBd.cell 0
    have c0 := h2.c0
    have c1 := h2.c1
    simp at cr cd
    have hce : ((⟨s.toArray⟩ : ByteArray)[q]'(by rw [mk_size]; exact hlt)) = s[q] := rfl
    rw [← hce] at hq0
    clear hce
    generalize ((⟨s.toArray⟩ : ByteArray)[q]'(by rw [mk_size]; exact hlt)) = c at *
    obtain ⟨x, hx⟩ : ∃ x : Int, x = c.toNat := ⟨_, rfl⟩
    rw [← hx]
    have HR2 : Hid (Jp.valP s (Jp.valF s f (dep + 1)) dep c q = R) := by
      show _ = _
      rw [← HR.out, hq0]
    have Hq0 := Lib.hid hq0
    clear HR hq0 j2
    have Hpf1 : Hid (40 ≤ dep ∧ (c = 91 ∨ c = 123) → decide (40 ≤ dep ∧ (c = 91 ∨ c = 123)) = true) := fun h => decide_eq_true h
    have Hpf2 : Hid (¬ (40 ≤ dep ∧ (c = 91 ∨ c = 123)) → decide (40 ≤ dep ∧ (c = 91 ∨ c = 123)) = false) := fun h => decide_eq_false h
    have Hpf3 : Hid (decide (40 ≤ dep ∧ (c = 91 ∨ c = 123)) = true → 40 ≤ dep ∧ (c = 91 ∨ c = 123)) := of_decide_eq_true
    have Hpf4 : Hid (decide (40 ≤ dep ∧ (c = 91 ∨ c = 123)) = false → ¬ (40 ≤ dep ∧ (c = 91 ∨ c = 123))) := of_decide_eq_false
    generalize decide (40 ≤ dep ∧ (c = 91 ∨ c = 123)) = pf at *
    go_cut [42] (fun v wc => v = .bool pf ∧ wc = w2)
    case first =>
      have hways : (40 ≤ dep ∧ c = 91) ∨ (40 ≤ dep ∧ c = 123) ∨ (40 ≤ dep ∧ ¬ c = 91 ∧ ¬ c = 123) ∨ dep < 40 := by
        by_cases h1 : 40 ≤ dep
        · by_cases h2 : c = 91
          · exact .inl ⟨h1, h2⟩
          · by_cases h3 : c = 123
            · exact .inr (.inl ⟨h1, h3⟩)
            · exact .inr (.inr (.inl ⟨h1, h2, h3⟩))
        · exact .inr (.inr (.inr (by omega)))
      rcases hways with ⟨hd, hc⟩ | ⟨hd, hc⟩ | ⟨hd, hc1, hc2⟩ | hd
      · have HP : Hid (pf = true) := Hpf1.out ⟨hd, .inl hc⟩
        have hd1 : (40 : Int) ≤ dep := by omega
        subst hc
        have hx1 : x = 91 := hx
        clear hx Hpf1 Hpf2 Hpf3 Hpf4
        subst hx1
        go_wp2_with fail
        go_meet
        exact ⟨by rw [HP.out], rfl⟩
      · have HP : Hid (pf = true) := Hpf1.out ⟨hd, .inr hc⟩
        have hd1 : (40 : Int) ≤ dep := by omega
        subst hc
        have hx1 : x = 123 := hx
        clear hx Hpf1 Hpf2 Hpf3 Hpf4
        subst hx1
        go_wp2_with fail
        go_meet
        exact ⟨by rw [HP.out], rfl⟩
      · have HP : Hid (pf = false) := Hpf2.out (fun h => by rcases h.2 with h | h; exact hc1 h; exact hc2 h)
        have hd1 : (40 : Int) ≤ dep := by omega
        have n1 : ¬ c.toNat = 91 := fun h => hc1 (UInt8.toNat_inj.1 h)
        have n2 : ¬ c.toNat = 123 := fun h => hc2 (UInt8.toNat_inj.1 h)
        have t1 : (x == 91) = false := by rw [beq_eq_false_iff_ne]; omega
        have t2 : (x == 123) = false := by rw [beq_eq_false_iff_ne]; omega
        clear hx n1 n2 hc1 hc2 Hpf1 Hpf2 Hpf3 Hpf4
        go_wp2_with fail
        go_meet
        exact ⟨by rw [HP.out], rfl⟩
      · have HP : Hid (pf = false) := Hpf2.out (fun h => by have := h.1; omega)
        have hd1 : (dep : Int) < 40 := by omega
        clear hx Hpf1 Hpf2 Hpf3 Hpf4
        go_wp2_with fail
        go_meet
        exact ⟨by rw [HP.out], rfl⟩
    case rest =>
      obtain ⟨rfl, rfl⟩ := hcut
      cases pf with
      | true =>
        have HB : Hid (R = .bad q 12) := by
          have hp := Hpf3.out rfl
          show _ = _
          rw [← HR2.out]
          exact Jp.valP_f _ hp.1 hp.2
        clear hx Hpf1 Hpf2 Hpf3 Hpf4
        go_wp2_with fail
        refine (fail_walk q 12 _).mono ?_
        rintro e w3 ⟨rfl, rfl⟩
        go_wp2_with fail
        exact ⟨rfl, ValE.bad HB.out haa⟩
      | false =>
        have HN := Lib.hid (Hpf4.out rfl)
        clear Hpf1 Hpf2 Hpf3 Hpf4 cr cd c0 c1
        have h2 : RdrAt wc g s q := h2
        go_upto_region 9 with fail
        obtain ⟨bj, hbj⟩ : ∃ b, b = wc.heap.size := ⟨_, rfl⟩
        rw [← hbj]
        have hB4 : Blk (wc.alloc (.cells #[.int .i64 4, .int .i64 0, .string ⟨#[]⟩, .slice none 0 0, .slice none 0 0] 25)) bj 25 #[.int .i64 4, .int .i64 0, .string ⟨#[]⟩, .slice none 0 0, .slice none 0 0] := by rw [hbj]; exact Blk.new _ _ _
        have hbl : Below wc.heap.size wc (wc.alloc (.cells #[.int .i64 4, .int .i64 0, .string ⟨#[]⟩, .slice none 0 0, .slice none 0 0] 25)) := (Below.refl _ _).alloc (Nat.le_refl _) _
        have hgj : Hid (w.heap.size + 3 ≤ bj) := by show _ ≤ _; have h1 := hBj.lt; have h2 := E2.out; omega
        have hgb : g < bj := by have := hgj.out; omega
        have hnj : Hid (b0 ≠ bj ∧ b1 ≠ bj ∧ b2 ≠ bj) := ⟨by have := hBr.lt; omega, by have := hBd.lt; omega, by have := hBj.lt; omega⟩
        have haa := haa.below hbl (Nat.le_of_lt hgl)
        have hBr := hBr.below hbl hBr.lt
        have hBd := hBd.below hbl hBd.lt
        have hBj := hBj.below hbl hBj.lt
        have h2 := h2.below hbl
        clear hbj hbl
        generalize wc.alloc (.cells #[.int .i64 4, .int .i64 0, .string ⟨#[]⟩, .slice none 0 0, .slice none 0 0] 25) = w2 at *
        have cr := hBr.cell 0
        have cd := hBd.cell 0
        have c0 := h2.c0
        have c1 := h2.c1
        simp at cr cd
        by_cases hc110 : c = 110
        · as_aux_lemma =>
          subst hc110
          have hx1 : x = 110 := hx
          clear hx
          subst hx1
          have hw : ∀ w, RdrAt w g s q → Calls Tryd.prog 21 #[.pointer (some ⟨g, 0, none⟩), .string ⟨#[110, 117, 108, 108]⟩, .agg #[.int .i64 0, .int .i64 0, .string ⟨#[]⟩, .slice none 0 0, .slice none 0 0]] w _ := fun w h => jword_walk g s Jp.wN 0 0 q w h hle hl (by decide)
          have HR3 : Hid ((if Jp.wN.isPrefixOf (s.drop q) = true then .ok (.mk 0 0 [] [] []) (q + Jp.wN.length) else .bad q 3) = R) := by
            show _ = _
            rw [← HR2.out]
            rw [Jp.valP_110]
            rfl
          have hq4 : q + Jp.wN.length = q + Jp.wN.length := rfl
          clear hq4 HR2
          generalize Jp.wN.isPrefixOf (s.drop q) = pb at *
          go_wp2_with fail
          refine (hw w2 h2).mono ?_
          clear hw
          cases pb with
          | true =>
            rintro e w3 ⟨ha2, h5⟩
            obtain ⟨rfl, h3⟩ := h5
            simp only [jz]
            have HB : Hid (R = .ok (.mk 0 0 [] [] []) (q + Jp.wN.length)) := HR3.out.symm
            have HF : Hid (JFit (.mk 0 0 [] [] [])) := ⟨by simp [JT.num], by simp [JT.kind]⟩
            have hBr3 : Blk w3 b0 44 #[.pointer (some ⟨g, 0, none⟩)] := (ha2.oth b0 hBr.lt (by omega)).trans hBr
            have hBd3 : Blk w3 b1 3 #[.int .i64 dep] := (ha2.oth b1 hBd.lt (by omega)).trans hBd
            have hB3 : Blk w3 b2 25 #[.int .i64 0, .int .i64 0, .string ⟨#[]⟩, .slice none 0 0, .slice none 0 0] := (ha2.oth b2 hBj.lt (by omega)).trans hBj
            have ha3 := haa.trans ha2
            clear hBr hBd hBj haa h2 ha2 HR3 c0 c1 cr cd hBr3 hBd3
            have d0 := hB3.cell 0
            have d1 := hB3.cell 1
            have d2 := hB3.cell 2
            have d3 := hB3.cell 3
            have d4 := hB3.cell 4
            have f0 := hB3.frozen 0
            have f1 := hB3.frozen 1
            have f2 := hB3.frozen 2
            have f3 := hB3.frozen 3
            have f4 := hB3.frozen 4
            simp at d0 d1 d2 d3 d4
            have hBf := ((((hB3.set_ 0 (.int .i64 0)).set_ 1 (.int .i64 0)).set_ 2 (.string ⟨#[]⟩)).set_ 3 (.slice none 0 0)).set_ 4 (.slice none 0 0)
            have haf := AftR.json (w1 := w) w3 b2 0 0 ⟨#[]⟩ (.slice none 0 0) (.slice none 0 0) (by omega) (by have := E0.out; have := E2.out; omega) ha3
            have hrf := ((((Blk.far h3 (p := ⟨b2, 0, none⟩) (by simp; omega) (.int .i64 0)).far (p := ⟨b2, 1, none⟩) (by simp; omega) (.int .i64 0)).far (p := ⟨b2, 2, none⟩) (by simp; omega) (.string ⟨#[]⟩)).far (p := ⟨b2, 3, none⟩) (by simp; omega) (.slice none 0 0)).far (p := ⟨b2, 4, none⟩) (by simp; omega) (.slice none 0 0)
            go_wp2_with fail
            exact bodyPost_ret (v := .agg #[.int .i64 0, .int .i64 0, .string ⟨#[]⟩, .slice none 0 0, .slice none 0 0]) (results_cell_row (hu := Tryd.underlying25) (h := rfl) (hp := rfl) (hg := hBf) (hd := rfl) (hi := by kernel_rfl)) rfl (ValE.leaf (t := []) HB.out haf hrf HF.out)
          | false =>
            rintro e w3 ⟨ha2, h5⟩
            obtain rfl := h5
            have HB : Hid (R = .bad q 3) := HR3.out.symm
            go_wp2_with fail
            exact ⟨rfl, ValE.bad HB.out (haa.trans ha2)⟩
        by_cases hc116 : c = 116
        · as_aux_lemma =>
          subst hc116
          have hx1 : x = 116 := hx
          clear hx
          subst hx1
          have hw : ∀ w, RdrAt w g s q → Calls Tryd.prog 21 #[.pointer (some ⟨g, 0, none⟩), .string ⟨#[116, 114, 117, 101]⟩, .agg #[.int .i64 1, .int .i64 1, .string ⟨#[]⟩, .slice none 0 0, .slice none 0 0]] w _ := fun w h => jword_walk g s Jp.wT 1 1 q w h hle hl (by decide)
          have HR3 : Hid ((if Jp.wT.isPrefixOf (s.drop q) = true then .ok (.mk 1 1 [] [] []) (q + Jp.wT.length) else .bad q 3) = R) := by
            show _ = _
            rw [← HR2.out]
            rw [Jp.valP_116]
            rfl
          have hq4 : q + Jp.wT.length = q + Jp.wT.length := rfl
          clear hq4 HR2
          generalize Jp.wT.isPrefixOf (s.drop q) = pb at *
          go_wp2_with fail
          refine (hw w2 h2).mono ?_
          clear hw
          cases pb with
          | true =>
            rintro e w3 ⟨ha2, h5⟩
            obtain ⟨rfl, h3⟩ := h5
            simp only [jz]
            have HB : Hid (R = .ok (.mk 1 1 [] [] []) (q + Jp.wT.length)) := HR3.out.symm
            have HF : Hid (JFit (.mk 1 1 [] [] [])) := ⟨by simp [JT.num], by simp [JT.kind]⟩
            have hBr3 : Blk w3 b0 44 #[.pointer (some ⟨g, 0, none⟩)] := (ha2.oth b0 hBr.lt (by omega)).trans hBr
            have hBd3 : Blk w3 b1 3 #[.int .i64 dep] := (ha2.oth b1 hBd.lt (by omega)).trans hBd
            have hB3 : Blk w3 b2 25 #[.int .i64 0, .int .i64 0, .string ⟨#[]⟩, .slice none 0 0, .slice none 0 0] := (ha2.oth b2 hBj.lt (by omega)).trans hBj
            have ha3 := haa.trans ha2
            clear hBr hBd hBj haa h2 ha2 HR3 c0 c1 cr cd hBr3 hBd3
            have d0 := hB3.cell 0
            have d1 := hB3.cell 1
            have d2 := hB3.cell 2
            have d3 := hB3.cell 3
            have d4 := hB3.cell 4
            have f0 := hB3.frozen 0
            have f1 := hB3.frozen 1
            have f2 := hB3.frozen 2
            have f3 := hB3.frozen 3
            have f4 := hB3.frozen 4
            simp at d0 d1 d2 d3 d4
            have hBf := ((((hB3.set_ 0 (.int .i64 1)).set_ 1 (.int .i64 1)).set_ 2 (.string ⟨#[]⟩)).set_ 3 (.slice none 0 0)).set_ 4 (.slice none 0 0)
            have haf := AftR.json (w1 := w) w3 b2 1 1 ⟨#[]⟩ (.slice none 0 0) (.slice none 0 0) (by omega) (by have := E0.out; have := E2.out; omega) ha3
            have hrf := ((((Blk.far h3 (p := ⟨b2, 0, none⟩) (by simp; omega) (.int .i64 1)).far (p := ⟨b2, 1, none⟩) (by simp; omega) (.int .i64 1)).far (p := ⟨b2, 2, none⟩) (by simp; omega) (.string ⟨#[]⟩)).far (p := ⟨b2, 3, none⟩) (by simp; omega) (.slice none 0 0)).far (p := ⟨b2, 4, none⟩) (by simp; omega) (.slice none 0 0)
            go_wp2_with fail
            exact bodyPost_ret (v := .agg #[.int .i64 1, .int .i64 1, .string ⟨#[]⟩, .slice none 0 0, .slice none 0 0]) (results_cell_row (hu := Tryd.underlying25) (h := rfl) (hp := rfl) (hg := hBf) (hd := rfl) (hi := by kernel_rfl)) rfl (ValE.leaf (t := []) HB.out haf hrf HF.out)
          | false =>
            rintro e w3 ⟨ha2, h5⟩
            obtain rfl := h5
            have HB : Hid (R = .bad q 3) := HR3.out.symm
            go_wp2_with fail
            exact ⟨rfl, ValE.bad HB.out (haa.trans ha2)⟩
        by_cases hc102 : c = 102
        · as_aux_lemma =>
          subst hc102
          have hx1 : x = 102 := hx
          clear hx
          subst hx1
          have hw : ∀ w, RdrAt w g s q → Calls Tryd.prog 21 #[.pointer (some ⟨g, 0, none⟩), .string ⟨#[102, 97, 108, 115, 101]⟩, .agg #[.int .i64 1, .int .i64 0, .string ⟨#[]⟩, .slice none 0 0, .slice none 0 0]] w _ := fun w h => jword_walk g s Jp.wF 1 0 q w h hle hl (by decide)
          have HR3 : Hid ((if Jp.wF.isPrefixOf (s.drop q) = true then .ok (.mk 1 0 [] [] []) (q + Jp.wF.length) else .bad q 3) = R) := by
            show _ = _
            rw [← HR2.out]
            rw [Jp.valP_102]
            rfl
          have hq4 : q + Jp.wF.length = q + Jp.wF.length := rfl
          clear hq4 HR2
          generalize Jp.wF.isPrefixOf (s.drop q) = pb at *
          go_wp2_with fail
          refine (hw w2 h2).mono ?_
          clear hw
          cases pb with
          | true =>
            rintro e w3 ⟨ha2, h5⟩
            obtain ⟨rfl, h3⟩ := h5
            simp only [jz]
            have HB : Hid (R = .ok (.mk 1 0 [] [] []) (q + Jp.wF.length)) := HR3.out.symm
            have HF : Hid (JFit (.mk 1 0 [] [] [])) := ⟨by simp [JT.num], by simp [JT.kind]⟩
            have hBr3 : Blk w3 b0 44 #[.pointer (some ⟨g, 0, none⟩)] := (ha2.oth b0 hBr.lt (by omega)).trans hBr
            have hBd3 : Blk w3 b1 3 #[.int .i64 dep] := (ha2.oth b1 hBd.lt (by omega)).trans hBd
            have hB3 : Blk w3 b2 25 #[.int .i64 0, .int .i64 0, .string ⟨#[]⟩, .slice none 0 0, .slice none 0 0] := (ha2.oth b2 hBj.lt (by omega)).trans hBj
            have ha3 := haa.trans ha2
            clear hBr hBd hBj haa h2 ha2 HR3 c0 c1 cr cd hBr3 hBd3
            have d0 := hB3.cell 0
            have d1 := hB3.cell 1
            have d2 := hB3.cell 2
            have d3 := hB3.cell 3
            have d4 := hB3.cell 4
            have f0 := hB3.frozen 0
            have f1 := hB3.frozen 1
            have f2 := hB3.frozen 2
            have f3 := hB3.frozen 3
            have f4 := hB3.frozen 4
            simp at d0 d1 d2 d3 d4
            have hBf := ((((hB3.set_ 0 (.int .i64 1)).set_ 1 (.int .i64 0)).set_ 2 (.string ⟨#[]⟩)).set_ 3 (.slice none 0 0)).set_ 4 (.slice none 0 0)
            have haf := AftR.json (w1 := w) w3 b2 1 0 ⟨#[]⟩ (.slice none 0 0) (.slice none 0 0) (by omega) (by have := E0.out; have := E2.out; omega) ha3
            have hrf := ((((Blk.far h3 (p := ⟨b2, 0, none⟩) (by simp; omega) (.int .i64 1)).far (p := ⟨b2, 1, none⟩) (by simp; omega) (.int .i64 0)).far (p := ⟨b2, 2, none⟩) (by simp; omega) (.string ⟨#[]⟩)).far (p := ⟨b2, 3, none⟩) (by simp; omega) (.slice none 0 0)).far (p := ⟨b2, 4, none⟩) (by simp; omega) (.slice none 0 0)
            go_wp2_with fail
            exact bodyPost_ret (v := .agg #[.int .i64 1, .int .i64 0, .string ⟨#[]⟩, .slice none 0 0, .slice none 0 0]) (results_cell_row (hu := Tryd.underlying25) (h := rfl) (hp := rfl) (hg := hBf) (hd := rfl) (hi := by kernel_rfl)) rfl (ValE.leaf (t := []) HB.out haf hrf HF.out)
          | false =>
            rintro e w3 ⟨ha2, h5⟩
            obtain rfl := h5
            have HB : Hid (R = .bad q 3) := HR3.out.symm
            go_wp2_with fail
            exact ⟨rfl, ValE.bad HB.out (haa.trans ha2)⟩
        by_cases hc34 : c = 34
        · as_aux_lemma =>
          subst hc34
          have hx1 : x = 34 := hx
          clear hx
          subst hx1
          have hw := fun w h => jtext_walk g s q w h hle hl
          have HR3 : Hid ((match Jp.textP s q with | .bad p e => .bad p e | .ok t e => .ok (.mk 3 0 t [] []) e) = R) := by
            show _ = _
            rw [← HR2.out, Jp.valP_34]
          clear HR2
          generalize Jp.textP s q = T at *
          go_wp2_with fail
          refine (hw w2 h2).mono ?_
          clear hw
          cases T with
          | ok t k =>
            intro e w3 h5
            obtain ⟨ha2, rfl, h3⟩ := h5.is_ok
            clear h5
            have HB : Hid (R = .ok (.mk 3 0 t [] []) k) := HR3.out.symm
            have HF : Hid (JFit (.mk 3 0 t [] [])) := ⟨by simp [JT.num], by simp [JT.kind]⟩
            have hBr3 : Blk w3 b0 44 #[.pointer (some ⟨g, 0, none⟩)] := (ha2.oth b0 hBr.lt (by omega)).trans hBr
            have hBd3 : Blk w3 b1 3 #[.int .i64 dep] := (ha2.oth b1 hBd.lt (by omega)).trans hBd
            have hB3 : Blk w3 b2 25 #[.int .i64 0, .int .i64 0, .string ⟨#[]⟩, .slice none 0 0, .slice none 0 0] := (ha2.oth b2 hBj.lt (by omega)).trans hBj
            have ha3 := haa.trans ha2
            clear hBr hBd hBj haa h2 ha2 HR3 c0 c1 cr cd hBr3 hBd3
            have d0 := hB3.cell 0
            have d1 := hB3.cell 1
            have d2 := hB3.cell 2
            have d3 := hB3.cell 3
            have d4 := hB3.cell 4
            have f0 := hB3.frozen 0
            have f1 := hB3.frozen 1
            have f2 := hB3.frozen 2
            have f3 := hB3.frozen 3
            have f4 := hB3.frozen 4
            simp at d0 d1 d2 d3 d4
            have hBf := ((((hB3.set_ 0 (.int .i64 3)).set_ 1 (.int .i64 0)).set_ 2 (.string ⟨t.toArray⟩)).set_ 3 (.slice none 0 0)).set_ 4 (.slice none 0 0)
            have haf := AftR.json (w1 := w) w3 (b2) 3 0 ⟨t.toArray⟩ (.slice none 0 0) (.slice none 0 0) (by omega) (by have := E0.out; have := E2.out; omega) ha3
            have hrf := ((((Blk.far h3 (p := ⟨b2, 0, none⟩) (by simp; omega) (.int .i64 3)).far (p := ⟨b2, 1, none⟩) (by simp; omega) (.int .i64 0)).far (p := ⟨b2, 2, none⟩) (by simp; omega) (.string ⟨t.toArray⟩)).far (p := ⟨b2, 3, none⟩) (by simp; omega) (.slice none 0 0)).far (p := ⟨b2, 4, none⟩) (by simp; omega) (.slice none 0 0)
            go_wp2_with fail
            exact bodyPost_ret (v := .agg #[.int .i64 3, .int .i64 0, .string ⟨t.toArray⟩, .slice none 0 0, .slice none 0 0]) (results_cell_row (hu := Tryd.underlying25) (h := rfl) (hp := rfl) (hg := hBf) (hd := rfl) (hi := by kernel_rfl)) rfl (ValE.leaf (t := t) HB.out haf hrf HF.out)
          | bad p er =>
            intro e w3 h5
            obtain ⟨ha2, rfl⟩ := h5.is_bad
            have HB : Hid (R = .bad p er) := HR3.out.symm
            go_wp2_with fail
            exact ⟨rfl, ValE.bad HB.out (haa.trans ha2)⟩
        by_cases hc45 : c = 45
        · as_aux_lemma =>
          have HD : Hid (c = 45 ∨ Jp.digB c = true) := .inl hc45
          subst hc45
          have hx1 : x = 45 := hx
          clear hx
          subst hx1
          have hw := fun w h => jnum_walk g s q w h hle hl
          have HR3 : Hid ((match Jp.numP s q with | .bad p e => .bad p e | .ok n e => .ok (.mk 2 n [] [] []) e) = R) := by
            show _ = _
            rw [← HR2.out, Jp.valP_n _ HD.out]
          have HBd : Hid (∀ n k, Jp.numP s q = .ok n k → -999999999999999999 ≤ n ∧ n ≤ 999999999999999999) := fun n k h => (Jp.num_ok h).1
          clear HR2
          generalize Jp.numP s q = T at *
          go_wp2_with fail
          refine (hw w2 h2).mono ?_
          clear hw
          cases T with
          | ok n k =>
            intro e w3 h5
            obtain ⟨ha2, rfl, h3⟩ := h5.is_ok
            simp only [jz]
            clear h5
            have HB : Hid (R = .ok (.mk 2 n [] [] []) k) := HR3.out.symm
            have HF : Hid (JFit (.mk 2 n [] [] [])) := by
              have := HBd.out n k rfl
              exact ⟨by simp only [JT.num]; omega, by simp [JT.kind]⟩
            clear HBd
            have hBr3 : Blk w3 b0 44 #[.pointer (some ⟨g, 0, none⟩)] := (ha2.oth b0 hBr.lt (by omega)).trans hBr
            have hBd3 : Blk w3 b1 3 #[.int .i64 dep] := (ha2.oth b1 hBd.lt (by omega)).trans hBd
            have hB3 : Blk w3 b2 25 #[.int .i64 0, .int .i64 0, .string ⟨#[]⟩, .slice none 0 0, .slice none 0 0] := (ha2.oth b2 hBj.lt (by omega)).trans hBj
            have ha3 := haa.trans ha2
            clear hBr hBd hBj haa h2 ha2 HR3 c0 c1 cr cd hBr3 hBd3
            have d0 := hB3.cell 0
            have d1 := hB3.cell 1
            have d2 := hB3.cell 2
            have d3 := hB3.cell 3
            have d4 := hB3.cell 4
            have f0 := hB3.frozen 0
            have f1 := hB3.frozen 1
            have f2 := hB3.frozen 2
            have f3 := hB3.frozen 3
            have f4 := hB3.frozen 4
            simp at d0 d1 d2 d3 d4
            have hBf := ((((hB3.set_ 0 (.int .i64 2)).set_ 1 (.int .i64 n)).set_ 2 (.string ⟨#[]⟩)).set_ 3 (.slice none 0 0)).set_ 4 (.slice none 0 0)
            have haf := AftR.json (w1 := w) w3 (b2) 2 n ⟨#[]⟩ (.slice none 0 0) (.slice none 0 0) (by omega) (by have := E0.out; have := E2.out; omega) ha3
            have hrf := ((((Blk.far h3 (p := ⟨b2, 0, none⟩) (by simp; omega) (.int .i64 2)).far (p := ⟨b2, 1, none⟩) (by simp; omega) (.int .i64 n)).far (p := ⟨b2, 2, none⟩) (by simp; omega) (.string ⟨#[]⟩)).far (p := ⟨b2, 3, none⟩) (by simp; omega) (.slice none 0 0)).far (p := ⟨b2, 4, none⟩) (by simp; omega) (.slice none 0 0)
            go_wp2_with fail
            exact bodyPost_ret (v := .agg #[.int .i64 2, .int .i64 n, .string ⟨#[]⟩, .slice none 0 0, .slice none 0 0]) (results_cell_row (hu := Tryd.underlying25) (h := rfl) (hp := rfl) (hg := hBf) (hd := rfl) (hi := by kernel_rfl)) rfl (ValE.leaf (t := []) HB.out haf hrf HF.out)
          | bad p er =>
            intro e w3 h5
            obtain ⟨ha2, rfl⟩ := h5.is_bad
            have HB : Hid (R = .bad p er) := HR3.out.symm
            go_wp2_with fail
            exact ⟨rfl, ValE.bad HB.out (haa.trans ha2)⟩
        by_cases hdg : Jp.digB c = true
        · as_aux_lemma =>
          have HD : Hid (c = 45 ∨ Jp.digB c = true) := .inr hdg
          have hdn := Jp.dig_not (.inr hdg : c = 45 ∨ Jp.digB c = true)
          have hdr : 48 ≤ c.toNat ∧ c.toNat ≤ 57 := by
            rw [dig_form, Bool.and_eq_true, decide_eq_true_eq, decide_eq_true_eq] at hdg; exact hdg
          have g1 : (48 : Int) ≤ x := by omega
          have g2 : x ≤ (57 : Int) := by omega
          clear hdn hdg hx hdr
          have hw := fun w h => jnum_walk g s q w h hle hl
          have HR3 : Hid ((match Jp.numP s q with | .bad p e => .bad p e | .ok n e => .ok (.mk 2 n [] [] []) e) = R) := by
            show _ = _
            rw [← HR2.out, Jp.valP_n _ HD.out]
          have HBd : Hid (∀ n k, Jp.numP s q = .ok n k → -999999999999999999 ≤ n ∧ n ≤ 999999999999999999) := fun n k h => (Jp.num_ok h).1
          clear HR2
          generalize Jp.numP s q = T at *
          go_wp2_with fail
          refine (hw w2 h2).mono ?_
          clear hw
          cases T with
          | ok n k =>
            intro e w3 h5
            obtain ⟨ha2, rfl, h3⟩ := h5.is_ok
            simp only [jz]
            clear h5
            have HB : Hid (R = .ok (.mk 2 n [] [] []) k) := HR3.out.symm
            have HF : Hid (JFit (.mk 2 n [] [] [])) := by
              have := HBd.out n k rfl
              exact ⟨by simp only [JT.num]; omega, by simp [JT.kind]⟩
            clear HBd
            have hBr3 : Blk w3 b0 44 #[.pointer (some ⟨g, 0, none⟩)] := (ha2.oth b0 hBr.lt (by omega)).trans hBr
            have hBd3 : Blk w3 b1 3 #[.int .i64 dep] := (ha2.oth b1 hBd.lt (by omega)).trans hBd
            have hB3 : Blk w3 b2 25 #[.int .i64 0, .int .i64 0, .string ⟨#[]⟩, .slice none 0 0, .slice none 0 0] := (ha2.oth b2 hBj.lt (by omega)).trans hBj
            have ha3 := haa.trans ha2
            clear hBr hBd hBj haa h2 ha2 HR3 c0 c1 cr cd hBr3 hBd3
            have d0 := hB3.cell 0
            have d1 := hB3.cell 1
            have d2 := hB3.cell 2
            have d3 := hB3.cell 3
            have d4 := hB3.cell 4
            have f0 := hB3.frozen 0
            have f1 := hB3.frozen 1
            have f2 := hB3.frozen 2
            have f3 := hB3.frozen 3
            have f4 := hB3.frozen 4
            simp at d0 d1 d2 d3 d4
            have hBf := ((((hB3.set_ 0 (.int .i64 2)).set_ 1 (.int .i64 n)).set_ 2 (.string ⟨#[]⟩)).set_ 3 (.slice none 0 0)).set_ 4 (.slice none 0 0)
            have haf := AftR.json (w1 := w) w3 (b2) 2 n ⟨#[]⟩ (.slice none 0 0) (.slice none 0 0) (by omega) (by have := E0.out; have := E2.out; omega) ha3
            have hrf := ((((Blk.far h3 (p := ⟨b2, 0, none⟩) (by simp; omega) (.int .i64 2)).far (p := ⟨b2, 1, none⟩) (by simp; omega) (.int .i64 n)).far (p := ⟨b2, 2, none⟩) (by simp; omega) (.string ⟨#[]⟩)).far (p := ⟨b2, 3, none⟩) (by simp; omega) (.slice none 0 0)).far (p := ⟨b2, 4, none⟩) (by simp; omega) (.slice none 0 0)
            go_wp2_with fail
            exact bodyPost_ret (v := .agg #[.int .i64 2, .int .i64 n, .string ⟨#[]⟩, .slice none 0 0, .slice none 0 0]) (results_cell_row (hu := Tryd.underlying25) (h := rfl) (hp := rfl) (hg := hBf) (hd := rfl) (hi := by kernel_rfl)) rfl (ValE.leaf (t := []) HB.out haf hrf HF.out)
          | bad p er =>
            intro e w3 h5
            obtain ⟨ha2, rfl⟩ := h5.is_bad
            have HB : Hid (R = .bad p er) := HR3.out.symm
            go_wp2_with fail
            exact ⟨rfl, ValE.bad HB.out (haa.trans ha2)⟩
        by_cases hc91 : c = 91
        · as_aux_lemma =>
          subst hc91
          have hx1 : x = 91 := hx
          clear hx
          subst hx1
          have hd : ¬ 40 ≤ dep := fun h => HN.out ⟨h, by decide⟩
          have hf0 : 0 < f := by omega
          have HR3 : Hid (Jp.listP (Jp.itemsP (Jp.oneL (Jp.valF s f (dep + 1))) 93 s ([], []) q) 4 = R) := by
            show _ = _
            rw [← HR2.out, Jp.valP_91 hd]
          clear HR2
          have hst := JSt.start (d := f) haa hB4 hBr hBd hgl hgj.out hbl0.out.1 hbl0.out.2 (by rw [← E2.out]; exact hBj)
          have jw := jitems_walk g s 25 #[.pointer (some ⟨bj, 0, none⟩), .pointer (some ⟨b0, 0, none⟩), .pointer (some ⟨b1, 0, none⟩)] (Jp.oneL (Jp.valF s f (dep + 1))) (fun w1 st => ∃ vK vD xs, JSt w g bj b0 b1 f dep 4 w1 st vK vD xs) (AftR g w) (fun st k => 4 * st.1.length ≤ k ∧ st.2.length ≤ k) 93 ([], []) q w2 enters_v1
            (fun st k w' hP hM hr hk => val1_walk w g bj b0 b1 f dep s (ih hf0) (by omega) st k w' hP hM.2 hr hk hl) (fun st k hk => Jp.oneL_ahead (fun i hi => Jp.val_ahead s f (dep + 1) i hi) st k hk)
            (fun st k st' k' hM h => Jp.oneL_M hM h) (fun st k k' hM h => ⟨by have := hM.1; omega, by have := hM.2; omega⟩) ⟨by simp, by simp⟩ (fun st w1 w' ⟨vK, vD, xs, h⟩ ha => ⟨vK, vD, xs, h.after ha⟩) (fun st w1 ⟨vK, vD, xs, h⟩ => h.aft) h2 ⟨_, _, _, hst⟩ hlt hl
          clear hst hB4
          generalize Jp.itemsP (Jp.oneL (Jp.valF s f (dep + 1))) 93 s ([], []) q = T at *
          go_wp2_with fail
          refine jw.mono ?_
          clear jw
          cases T with
          | bad p er =>
            intro e w3 h5
            obtain ⟨rfl, hq5⟩ := h5.is_bad
            have HB : Hid (R = .bad p er) := HR3.out.symm
            go_wp2_with fail
            exact ⟨rfl, ValE.bad HB.out hq5⟩
          | ok st k =>
            intro e w5 h5
            obtain ⟨rfl, h3, vK, vD, xs, hJ⟩ := h5.is_ok
            have HB : Hid (R = .ok (.mk 4 0 [] st.1 st.2) k) := HR3.out.symm
            clear h5
            obtain ⟨Ak, ck, rfl, hck, hAk⟩ := own_form2 hJ.keys
            obtain ⟨Ad, cd0, rfl, hcd, hAd⟩ := own_form2 hJ.kids
            have hB2 : Blk w5 b2 25 #[.int .i64 0, .int .i64 0, .string ⟨#[]⟩, .slice none 0 0, .slice none 0 0] := by rw [E2.out]; exact hJ.res
            have hj2 : b2 ≠ bj := fun e => hnj.out.2.2 e
            clear hnj hBr hBd hBj haa h2 cr
            go_wp2_with fail
            refine wp_region_C (fun j w' => j ∉ [6, 7, 8, 9] → w'.cell? ⟨bj, 3, none⟩ = some (.slice Ak st.1.length ck) ∧ w'.cell? ⟨bj, 4, none⟩ = some (.slice Ad st.2.length cd0)) (by kernel_rfl) ?_
            have hJ1 := hJ.after ((AftR.refl g w5).drew)
            have h3 := h3.drew
            have hB2 := hB2.drew
            clear hJ
            generalize World.drew w5 = w6 at *
            have c3 := hJ1.obj.cell 3
            have c4 := hJ1.obj.cell 4
            simp at c3 c4
            have hS0 : (fun w' : World => w'.cell? ⟨bj, 3, none⟩ = some (.slice Ak st.1.length ck) ∧ w'.cell? ⟨bj, 4, none⟩ = some (.slice Ad st.2.length cd0)) w6 := ⟨c3, c4⟩
            refine wpAnyC_take (fun w' : World => w'.cell? ⟨bj, 3, none⟩ = some (.slice Ak st.1.length ck) ∧ w'.cell? ⟨bj, 4, none⟩ = some (.slice Ad st.2.length cd0)) [6, 7, 8, 9] (i := 0) (v := ?_) rfl (by kernel_rfl) (by kernel_rfl) (by kernel_rfl) (by kernel_rfl) (fun _ _ _ h => h) (fun j w' _ _ hL h => h hL) (fun w' h _ => h) (Or.inl ⟨by rfl, ?_⟩) hS0 ?_; rotate_left; · (intro w hSw; (try dsimp only at hSw); obtain ⟨s0, s1⟩ := hSw; go_simp; try with_reducible rfl)
            simp only [Act.put, List.setIfInBounds_toArray]
            refine wpAnyC_take (fun w' : World => w'.cell? ⟨bj, 3, none⟩ = some (.slice Ak st.1.length ck) ∧ w'.cell? ⟨bj, 4, none⟩ = some (.slice Ad st.2.length cd0)) [6, 7, 8, 9] (i := 3) (v := ?_) rfl (by kernel_rfl) (by kernel_rfl) (by kernel_rfl) (by kernel_rfl) (fun _ _ _ h => h) (fun j w' _ _ hL h => h hL) (fun w' h _ => h) (Or.inl ⟨by rfl, ?_⟩) hS0 ?_; rotate_left; · (intro w hSw; (try dsimp only at hSw); obtain ⟨s0, s1⟩ := hSw; go_simp; try with_reducible rfl)
            simp only [Act.put]
            refine wpAnyC_take (fun w' : World => w'.cell? ⟨bj, 3, none⟩ = some (.slice Ak st.1.length ck) ∧ w'.cell? ⟨bj, 4, none⟩ = some (.slice Ad st.2.length cd0)) [6, 7, 8, 9] (i := 1) (v := ?_) rfl (by kernel_rfl) (by kernel_rfl) (by kernel_rfl) (by kernel_rfl) (fun _ _ _ h => h) (fun j w' _ _ hL h => h hL) (fun w' h _ => h) (Or.inl ⟨by rfl, ?_⟩) hS0 ?_; rotate_left; · (intro w hSw; (try dsimp only at hSw); obtain ⟨s0, s1⟩ := hSw; go_simp; try with_reducible rfl)
            simp only [Act.put]
            refine wpAnyC_take (fun w' : World => w'.cell? ⟨bj, 3, none⟩ = some (.slice Ak st.1.length ck) ∧ w'.cell? ⟨bj, 4, none⟩ = some (.slice Ad st.2.length cd0)) [6, 7, 8, 9] (i := 4) (v := ?_) rfl (by kernel_rfl) (by kernel_rfl) (by kernel_rfl) (by kernel_rfl) (fun _ _ _ h => h) (fun j w' _ _ hL h => h hL) (fun w' h _ => h) (Or.inl ⟨by rfl, ?_⟩) hS0 ?_; rotate_left; · (intro w hSw; (try dsimp only at hSw); obtain ⟨s0, s1⟩ := hSw; go_simp; try with_reducible rfl)
            simp only [Act.put]
            clear hS0
            refine wpAnyC_one (i := 2) (by kernel_rfl) rfl (fun K hK => ?_)
            go_simp
            ((with_reducible refine (kclip_walk Ak st.1.length ck w6 hck hAk).mono ?_))
            rintro e w7 ⟨rfl, rfl⟩
            refine hK.out _ _ (fun _ => ⟨c3, c4⟩) ?_
            clear hK K
            refine wpAnyC_take (fun _ => True) [] (i := 6) (v := ?_) rfl (by kernel_rfl) (by kernel_rfl) (by kernel_rfl) (by kernel_rfl) (fun _ _ _ h => h) (fun _ _ _ _ _ _ => trivial) (fun _ _ h => absurd (by simp) h) (Or.inl ⟨by rfl, ?_⟩) trivial ?_; rotate_left; · (intro w hSw; (try dsimp only at hSw); go_simp; try with_reducible rfl)
            simp only [Act.put]
            refine wpAnyC_one (i := 5) (by kernel_rfl) rfl (fun K hK => ?_)
            go_simp
            ((with_reducible refine (jclip_walk Ad st.2.length cd0 w7 hcd hAd).mono ?_))
            rintro e w8 ⟨rfl, rfl⟩
            refine hK.out _ _ (fun _ => ⟨c3, c4⟩) ?_
            clear hK K
            have f3 := hJ1.obj.frozen 3
            have f4 := hJ1.obj.frozen 4
            refine wpAnyC_one (i := 7) (by kernel_rfl) rfl (fun K hK => ?_)
            go_simp
            refine hK.out _ _ (fun h => absurd (by simp) h) ?_
            clear hK K
            refine wpAnyC_take (fun _ => True) [] (i := 8) (v := ?_) rfl (by kernel_rfl) (by kernel_rfl) (by kernel_rfl) (by kernel_rfl) (fun _ _ _ h => h) (fun _ _ _ _ _ _ => trivial) (fun _ _ h => absurd (by simp) h) (Or.inl ⟨by rfl, ?_⟩) trivial ?_; rotate_left; · (intro w hSw; (try dsimp only at hSw); go_simp; try with_reducible rfl)
            simp only [Act.put]
            refine wpAnyC_one (i := 9) (by kernel_rfl) rfl (fun K hK => ?_)
            go_simp
            refine hK.out _ _ (fun h => absurd (by simp) h) ?_
            clear hK K
            refine wpAnyC_done (by kernel_rfl) ?_ _
            have hgj7 : w.heap.size ≤ bj := by have := hgj.out; omega
            have hOb : Blk ((w8.setCell ⟨bj, 3, none⟩ (.slice Ak st.1.length st.1.length)).setCell ⟨bj, 4, none⟩ (.slice Ad st.2.length st.2.length)) bj 25 #[.int .i64 4, .int .i64 0, .string ⟨#[]⟩, .slice Ak st.1.length st.1.length, .slice Ad st.2.length st.2.length] := by
              have := (hJ1.obj.set_ 3 (.slice Ak st.1.length st.1.length)).set_ 4 (.slice Ad st.2.length st.2.length)
              simpa using this
            have hB2f := (hB2.far (p := ⟨bj, 3, none⟩) hj2 (.slice Ak st.1.length st.1.length)).far (p := ⟨bj, 4, none⟩) hj2 (.slice Ad st.2.length st.2.length)
            have h3f : RdrAt ((w8.setCell ⟨bj, 3, none⟩ (.slice Ak st.1.length st.1.length)).setCell ⟨bj, 4, none⟩ (.slice Ad st.2.length st.2.length)) g s k := (Blk.far h3 (p := ⟨bj, 3, none⟩) (by simp; omega) (.slice Ak st.1.length st.1.length)).far (p := ⟨bj, 4, none⟩) (by simp; omega) (.slice Ad st.2.length st.2.length)
            have haf := (hJ1.aft.far hgj7 hgl 3 (.slice Ak st.1.length st.1.length)).far hgj7 hgl 4 (.slice Ad st.2.length st.2.length)
            have hjz := (hJ1.end_ (by decide)).keep (F' := fun b => w.heap.size + 3 ≤ b) (w' := (w8.setCell ⟨bj, 3, none⟩ (.slice Ak st.1.length st.1.length)).setCell ⟨bj, 4, none⟩ (.slice Ad st.2.length st.2.length)) ⟨by simp [World.setCell], fun b hb _ => (Below.heap_setCell _ _ _ b hb.2).trans (Below.heap_setCell _ _ _ b hb.2)⟩ (fun b hb _ => hb.1)
            clear hJ1 hB2 h3 c3 c4 f3 f4 hck hAk hcd hAd HR3 hgj7
            generalize (w8.setCell ⟨bj, 3, none⟩ (.slice Ak st.1.length st.1.length)).setCell ⟨bj, 4, none⟩ (.slice Ad st.2.length st.2.length) = wz at *
            have c0 := hOb.cell 0
            have c1 := hOb.cell 1
            have c2 := hOb.cell 2
            have c3 := hOb.cell 3
            have c4 := hOb.cell 4
            have d0 := hB2f.cell 0
            have d1 := hB2f.cell 1
            have d2 := hB2f.cell 2
            have d3 := hB2f.cell 3
            have d4 := hB2f.cell 4
            have f0 := hB2f.frozen 0
            have f1 := hB2f.frozen 1
            have f2 := hB2f.frozen 2
            have f3 := hB2f.frozen 3
            have f4 := hB2f.frozen 4
            simp at c0 c1 c2 c3 c4 d0 d1 d2 d3 d4
            have hBf := ((((hB2f.set_ 0 (.int .i64 4)).set_ 1 (.int .i64 0)).set_ 2 (.string ⟨#[]⟩)).set_ 3 (.slice Ak st.1.length st.1.length)).set_ 4 (.slice Ad st.2.length st.2.length)
            have haf5 := AftR.json (w1 := w) wz b2 4 0 ⟨#[]⟩ (.slice Ak st.1.length st.1.length) (.slice Ad st.2.length st.2.length) (by omega) (by have := E2.out; omega) haf
            have hrf := ((((Blk.far h3f (p := ⟨b2, 0, none⟩) (by simp; omega) (.int .i64 4)).far (p := ⟨b2, 1, none⟩) (by simp; omega) (.int .i64 0)).far (p := ⟨b2, 2, none⟩) (by simp; omega) (.string ⟨#[]⟩)).far (p := ⟨b2, 3, none⟩) (by simp; omega) (.slice Ak st.1.length st.1.length)).far (p := ⟨b2, 4, none⟩) (by simp; omega) (.slice Ad st.2.length st.2.length)
            have hj5 := hjz.keep (F' := fun b => w.heap.size ≤ b) (w' := five wz b2 0 (.int .i64 4) (.int .i64 0) (.string ⟨#[]⟩) (.slice Ak st.1.length st.1.length) (.slice Ad st.2.length st.2.length)) ⟨by rw [five_size]; exact Nat.le_refl _, fun b hb _ => far5 _ _ _ b _ _ _ _ _ (by have := E2.out; omega)⟩ (fun b hb _ => by omega)
            go_wp2_with fail
            exact bodyPost_ret (v := .agg #[.int .i64 4, .int .i64 0, .string ⟨#[]⟩, .slice Ak st.1.length st.1.length, .slice Ad st.2.length st.2.length]) (results_cell_row (hu := Tryd.underlying25) (h := rfl) (hp := rfl) (hg := hBf) (hd := rfl) (hi := by kernel_rfl)) rfl (ValE.ok (cd := st.2.length) HB.out haf5 hrf hj5)
        by_cases hc123 : c = 123
        · as_aux_lemma =>
          subst hc123
          have hx1 : x = 123 := hx
          clear hx
          subst hx1
          have hd : ¬ 40 ≤ dep := fun h => HN.out ⟨h, by decide⟩
          have hf0 : 0 < f := by omega
          have HR3 : Hid (Jp.listP (Jp.itemsP (Jp.oneM s (Jp.valF s f (dep + 1))) 125 s ([], []) q) 5 = R) := by
            show _ = _
            rw [← HR2.out, Jp.valP_123 hd]
          clear HR2
          have hB5 : Blk (w2.setCell ⟨bj, 0, none⟩ (.int .i64 5)) bj 25 #[.int .i64 5, .int .i64 0, .string ⟨#[]⟩, .slice none 0 0, .slice none 0 0] := by
            have := hB4.set_ 0 (.int .i64 5)
            simpa using this
          have hBr5 := hBr.far (p := ⟨bj, 0, none⟩) hnj.out.1 (.int .i64 5)
          have hBd5 := hBd.far (p := ⟨bj, 0, none⟩) hnj.out.2.1 (.int .i64 5)
          have hBj5 := hBj.far (p := ⟨bj, 0, none⟩) hnj.out.2.2 (.int .i64 5)
          have h5 : RdrAt (w2.setCell ⟨bj, 0, none⟩ (.int .i64 5)) g s q := Blk.far h2 (p := ⟨bj, 0, none⟩) (by simp; omega) (.int .i64 5)
          have haa5 := haa.far (b := bj) (by have := hgj.out; omega) hgl 0 (.int .i64 5)
          have f0 := hB4.frozen 0
          have d0 := hB4.cell 0
          simp at d0
          go_upto_region 23 with fail
          clear hBr hBd hBj h2 haa hB4 f0 d0 cr cd c0 c1
          have hB4 := hB5
          have hBr := hBr5
          have hBd := hBd5
          have hBj := hBj5
          have h2 := h5
          have haa := haa5
          clear hB5 hBr5 hBd5 hBj5 h5 haa5
          generalize w2.setCell ⟨bj, 0, none⟩ (.int .i64 5) = w2 at *
          have cr := hBr.cell 0
          simp at cr
          have hst := JSt.start (d := f) haa hB4 hBr hBd hgl hgj.out hbl0.out.1 hbl0.out.2 (by rw [← E2.out]; exact hBj)
          have jw := jitems_walk g s 26 #[.pointer (some ⟨b0, 0, none⟩), .pointer (some ⟨bj, 0, none⟩), .pointer (some ⟨b1, 0, none⟩)] (Jp.oneM s (Jp.valF s f (dep + 1))) (fun w1 st => ∃ vK vD xs, JSt w g bj b0 b1 f dep 5 w1 st vK vD xs) (AftR g w) (fun st k => 4 * st.1.length ≤ k ∧ st.2.length ≤ k) 125 ([], []) q w2 enters_v2
            (fun st k w' hP hM hr hk => val2_walk w g bj b0 b1 f dep s (ih hf0) (by omega) st k w' hP hM hr hk hl) (fun st k hk => Jp.oneM_ahead (fun i hi => Jp.val_ahead s f (dep + 1) i hi) st k hk)
            (fun st k st' k' hM h => Jp.oneM_M hM h) (fun st k k' hM h => ⟨by have := hM.1; omega, by have := hM.2; omega⟩) ⟨by simp, by simp⟩ (fun st w1 w' ⟨vK, vD, xs, h⟩ ha => ⟨vK, vD, xs, h.after ha⟩) (fun st w1 ⟨vK, vD, xs, h⟩ => h.aft) h2 ⟨_, _, _, hst⟩ hlt hl
          clear hst hB4
          generalize Jp.itemsP (Jp.oneM s (Jp.valF s f (dep + 1))) 125 s ([], []) q = T at *
          go_wp2_with fail
          refine jw.mono ?_
          clear jw
          cases T with
          | bad p er =>
            intro e w3 h5
            obtain ⟨rfl, hq5⟩ := h5.is_bad
            have HB : Hid (R = .bad p er) := HR3.out.symm
            go_wp2_with fail
            exact ⟨rfl, ValE.bad HB.out hq5⟩
          | ok st k =>
            intro e w5 h5
            obtain ⟨rfl, h3, vK, vD, xs, hJ⟩ := h5.is_ok
            have HB : Hid (R = .ok (.mk 5 0 [] st.1 st.2) k) := HR3.out.symm
            clear h5
            obtain ⟨Ak, ck, rfl, hck, hAk⟩ := own_form2 hJ.keys
            obtain ⟨Ad, cd0, rfl, hcd, hAd⟩ := own_form2 hJ.kids
            have hB2 : Blk w5 b2 25 #[.int .i64 0, .int .i64 0, .string ⟨#[]⟩, .slice none 0 0, .slice none 0 0] := by rw [E2.out]; exact hJ.res
            have hj2 : b2 ≠ bj := fun e => hnj.out.2.2 e
            clear hnj hBr hBd hBj haa h2 cr
            go_wp2_with fail
            refine wp_region_C (fun j w' => j ∉ [6, 7, 8, 9] → w'.cell? ⟨bj, 3, none⟩ = some (.slice Ak st.1.length ck) ∧ w'.cell? ⟨bj, 4, none⟩ = some (.slice Ad st.2.length cd0)) (by kernel_rfl) ?_
            have hJ1 := hJ.after ((AftR.refl g w5).drew)
            have h3 := h3.drew
            have hB2 := hB2.drew
            clear hJ
            generalize World.drew w5 = w6 at *
            have c3 := hJ1.obj.cell 3
            have c4 := hJ1.obj.cell 4
            simp at c3 c4
            have hS0 : (fun w' : World => w'.cell? ⟨bj, 3, none⟩ = some (.slice Ak st.1.length ck) ∧ w'.cell? ⟨bj, 4, none⟩ = some (.slice Ad st.2.length cd0)) w6 := ⟨c3, c4⟩
            refine wpAnyC_take (fun w' : World => w'.cell? ⟨bj, 3, none⟩ = some (.slice Ak st.1.length ck) ∧ w'.cell? ⟨bj, 4, none⟩ = some (.slice Ad st.2.length cd0)) [6, 7, 8, 9] (i := 0) (v := ?_) rfl (by kernel_rfl) (by kernel_rfl) (by kernel_rfl) (by kernel_rfl) (fun _ _ _ h => h) (fun j w' _ _ hL h => h hL) (fun w' h _ => h) (Or.inl ⟨by rfl, ?_⟩) hS0 ?_; rotate_left; · (intro w hSw; (try dsimp only at hSw); obtain ⟨s0, s1⟩ := hSw; go_simp; try with_reducible rfl)
            simp only [Act.put, List.setIfInBounds_toArray]
            refine wpAnyC_take (fun w' : World => w'.cell? ⟨bj, 3, none⟩ = some (.slice Ak st.1.length ck) ∧ w'.cell? ⟨bj, 4, none⟩ = some (.slice Ad st.2.length cd0)) [6, 7, 8, 9] (i := 3) (v := ?_) rfl (by kernel_rfl) (by kernel_rfl) (by kernel_rfl) (by kernel_rfl) (fun _ _ _ h => h) (fun j w' _ _ hL h => h hL) (fun w' h _ => h) (Or.inl ⟨by rfl, ?_⟩) hS0 ?_; rotate_left; · (intro w hSw; (try dsimp only at hSw); obtain ⟨s0, s1⟩ := hSw; go_simp; try with_reducible rfl)
            simp only [Act.put]
            refine wpAnyC_take (fun w' : World => w'.cell? ⟨bj, 3, none⟩ = some (.slice Ak st.1.length ck) ∧ w'.cell? ⟨bj, 4, none⟩ = some (.slice Ad st.2.length cd0)) [6, 7, 8, 9] (i := 1) (v := ?_) rfl (by kernel_rfl) (by kernel_rfl) (by kernel_rfl) (by kernel_rfl) (fun _ _ _ h => h) (fun j w' _ _ hL h => h hL) (fun w' h _ => h) (Or.inl ⟨by rfl, ?_⟩) hS0 ?_; rotate_left; · (intro w hSw; (try dsimp only at hSw); obtain ⟨s0, s1⟩ := hSw; go_simp; try with_reducible rfl)
            simp only [Act.put]
            refine wpAnyC_take (fun w' : World => w'.cell? ⟨bj, 3, none⟩ = some (.slice Ak st.1.length ck) ∧ w'.cell? ⟨bj, 4, none⟩ = some (.slice Ad st.2.length cd0)) [6, 7, 8, 9] (i := 4) (v := ?_) rfl (by kernel_rfl) (by kernel_rfl) (by kernel_rfl) (by kernel_rfl) (fun _ _ _ h => h) (fun j w' _ _ hL h => h hL) (fun w' h _ => h) (Or.inl ⟨by rfl, ?_⟩) hS0 ?_; rotate_left; · (intro w hSw; (try dsimp only at hSw); obtain ⟨s0, s1⟩ := hSw; go_simp; try with_reducible rfl)
            simp only [Act.put]
            clear hS0
            refine wpAnyC_one (i := 2) (by kernel_rfl) rfl (fun K hK => ?_)
            go_simp
            ((with_reducible refine (kclip_walk Ak st.1.length ck w6 hck hAk).mono ?_))
            rintro e w7 ⟨rfl, rfl⟩
            refine hK.out _ _ (fun _ => ⟨c3, c4⟩) ?_
            clear hK K
            refine wpAnyC_take (fun _ => True) [] (i := 6) (v := ?_) rfl (by kernel_rfl) (by kernel_rfl) (by kernel_rfl) (by kernel_rfl) (fun _ _ _ h => h) (fun _ _ _ _ _ _ => trivial) (fun _ _ h => absurd (by simp) h) (Or.inl ⟨by rfl, ?_⟩) trivial ?_; rotate_left; · (intro w hSw; (try dsimp only at hSw); go_simp; try with_reducible rfl)
            simp only [Act.put]
            refine wpAnyC_one (i := 5) (by kernel_rfl) rfl (fun K hK => ?_)
            go_simp
            ((with_reducible refine (jclip_walk Ad st.2.length cd0 w7 hcd hAd).mono ?_))
            rintro e w8 ⟨rfl, rfl⟩
            refine hK.out _ _ (fun _ => ⟨c3, c4⟩) ?_
            clear hK K
            have f3 := hJ1.obj.frozen 3
            have f4 := hJ1.obj.frozen 4
            refine wpAnyC_one (i := 7) (by kernel_rfl) rfl (fun K hK => ?_)
            go_simp
            refine hK.out _ _ (fun h => absurd (by simp) h) ?_
            clear hK K
            refine wpAnyC_take (fun _ => True) [] (i := 8) (v := ?_) rfl (by kernel_rfl) (by kernel_rfl) (by kernel_rfl) (by kernel_rfl) (fun _ _ _ h => h) (fun _ _ _ _ _ _ => trivial) (fun _ _ h => absurd (by simp) h) (Or.inl ⟨by rfl, ?_⟩) trivial ?_; rotate_left; · (intro w hSw; (try dsimp only at hSw); go_simp; try with_reducible rfl)
            simp only [Act.put]
            refine wpAnyC_one (i := 9) (by kernel_rfl) rfl (fun K hK => ?_)
            go_simp
            refine hK.out _ _ (fun h => absurd (by simp) h) ?_
            clear hK K
            refine wpAnyC_done (by kernel_rfl) ?_ _
            have hgj7 : w.heap.size ≤ bj := by have := hgj.out; omega
            have hOb : Blk ((w8.setCell ⟨bj, 3, none⟩ (.slice Ak st.1.length st.1.length)).setCell ⟨bj, 4, none⟩ (.slice Ad st.2.length st.2.length)) bj 25 #[.int .i64 5, .int .i64 0, .string ⟨#[]⟩, .slice Ak st.1.length st.1.length, .slice Ad st.2.length st.2.length] := by
              have := (hJ1.obj.set_ 3 (.slice Ak st.1.length st.1.length)).set_ 4 (.slice Ad st.2.length st.2.length)
              simpa using this
            have hB2f := (hB2.far (p := ⟨bj, 3, none⟩) hj2 (.slice Ak st.1.length st.1.length)).far (p := ⟨bj, 4, none⟩) hj2 (.slice Ad st.2.length st.2.length)
            have h3f : RdrAt ((w8.setCell ⟨bj, 3, none⟩ (.slice Ak st.1.length st.1.length)).setCell ⟨bj, 4, none⟩ (.slice Ad st.2.length st.2.length)) g s k := (Blk.far h3 (p := ⟨bj, 3, none⟩) (by simp; omega) (.slice Ak st.1.length st.1.length)).far (p := ⟨bj, 4, none⟩) (by simp; omega) (.slice Ad st.2.length st.2.length)
            have haf := (hJ1.aft.far hgj7 hgl 3 (.slice Ak st.1.length st.1.length)).far hgj7 hgl 4 (.slice Ad st.2.length st.2.length)
            have hjz := (hJ1.end_ (by decide)).keep (F' := fun b => w.heap.size + 3 ≤ b) (w' := (w8.setCell ⟨bj, 3, none⟩ (.slice Ak st.1.length st.1.length)).setCell ⟨bj, 4, none⟩ (.slice Ad st.2.length st.2.length)) ⟨by simp [World.setCell], fun b hb _ => (Below.heap_setCell _ _ _ b hb.2).trans (Below.heap_setCell _ _ _ b hb.2)⟩ (fun b hb _ => hb.1)
            clear hJ1 hB2 h3 c3 c4 f3 f4 hck hAk hcd hAd HR3 hgj7
            generalize (w8.setCell ⟨bj, 3, none⟩ (.slice Ak st.1.length st.1.length)).setCell ⟨bj, 4, none⟩ (.slice Ad st.2.length st.2.length) = wz at *
            have c0 := hOb.cell 0
            have c1 := hOb.cell 1
            have c2 := hOb.cell 2
            have c3 := hOb.cell 3
            have c4 := hOb.cell 4
            have d0 := hB2f.cell 0
            have d1 := hB2f.cell 1
            have d2 := hB2f.cell 2
            have d3 := hB2f.cell 3
            have d4 := hB2f.cell 4
            have f0 := hB2f.frozen 0
            have f1 := hB2f.frozen 1
            have f2 := hB2f.frozen 2
            have f3 := hB2f.frozen 3
            have f4 := hB2f.frozen 4
            simp at c0 c1 c2 c3 c4 d0 d1 d2 d3 d4
            have hBf := ((((hB2f.set_ 0 (.int .i64 5)).set_ 1 (.int .i64 0)).set_ 2 (.string ⟨#[]⟩)).set_ 3 (.slice Ak st.1.length st.1.length)).set_ 4 (.slice Ad st.2.length st.2.length)
            have haf5 := AftR.json (w1 := w) wz b2 5 0 ⟨#[]⟩ (.slice Ak st.1.length st.1.length) (.slice Ad st.2.length st.2.length) (by omega) (by have := E2.out; omega) haf
            have hrf := ((((Blk.far h3f (p := ⟨b2, 0, none⟩) (by simp; omega) (.int .i64 5)).far (p := ⟨b2, 1, none⟩) (by simp; omega) (.int .i64 0)).far (p := ⟨b2, 2, none⟩) (by simp; omega) (.string ⟨#[]⟩)).far (p := ⟨b2, 3, none⟩) (by simp; omega) (.slice Ak st.1.length st.1.length)).far (p := ⟨b2, 4, none⟩) (by simp; omega) (.slice Ad st.2.length st.2.length)
            have hj5 := hjz.keep (F' := fun b => w.heap.size ≤ b) (w' := five wz b2 0 (.int .i64 5) (.int .i64 0) (.string ⟨#[]⟩) (.slice Ak st.1.length st.1.length) (.slice Ad st.2.length st.2.length)) ⟨by rw [five_size]; exact Nat.le_refl _, fun b hb _ => far5 _ _ _ b _ _ _ _ _ (by have := E2.out; omega)⟩ (fun b hb _ => by omega)
            go_wp2_with fail
            exact bodyPost_ret (v := .agg #[.int .i64 5, .int .i64 0, .string ⟨#[]⟩, .slice Ak st.1.length st.1.length, .slice Ad st.2.length st.2.length]) (results_cell_row (hu := Tryd.underlying25) (h := rfl) (hp := rfl) (hg := hBf) (hd := rfl) (hi := by kernel_rfl)) rfl (ValE.ok (cd := st.2.length) HB.out haf5 hrf hj5)
        have HX := Lib.hid (Jp.valP_x (s := s) (m := Jp.valF s f (dep + 1)) (d := dep) (k := q) c HN.out hc110 hc116 hc102 hc34 (fun h => h.elim hc45 hdg) hc91 hc123)
        have HB : Hid (R = .bad q 3) := by
          show _ = _
          rw [← HR2.out]; exact HX.out
        have e110 : (x == 110) = false := by rw [beq_eq_false_iff_ne]; intro h; exact hc110 (UInt8.toNat_inj.1 (by show c.toNat = 110; omega))
        have e116 : (x == 116) = false := by rw [beq_eq_false_iff_ne]; intro h; exact hc116 (UInt8.toNat_inj.1 (by show c.toNat = 116; omega))
        have e102 : (x == 102) = false := by rw [beq_eq_false_iff_ne]; intro h; exact hc102 (UInt8.toNat_inj.1 (by show c.toNat = 102; omega))
        have e34 : (x == 34) = false := by rw [beq_eq_false_iff_ne]; intro h; exact hc34 (UInt8.toNat_inj.1 (by show c.toNat = 34; omega))
        have e45 : (x == 45) = false := by rw [beq_eq_false_iff_ne]; intro h; exact hc45 (UInt8.toNat_inj.1 (by show c.toNat = 45; omega))
        have e91 : (x == 91) = false := by rw [beq_eq_false_iff_ne]; intro h; exact hc91 (UInt8.toNat_inj.1 (by show c.toNat = 91; omega))
        have e123 : (x == 123) = false := by rw [beq_eq_false_iff_ne]; intro h; exact hc123 (UInt8.toNat_inj.1 (by show c.toNat = 123; omega))
        have hdr : c.toNat < 48 ∨ 57 < c.toNat := by
          rw [dig_form, Bool.and_eq_true, decide_eq_true_eq, decide_eq_true_eq] at hdg; omega
        have hxr : x < 48 ∨ (48 ≤ x ∧ 57 < x) := by omega
        clear hdr hx HX hc110 hc116 hc102 hc34 hc45 hdg hc91 hc123 HR2
        rcases hxr with g1 | ⟨g1, g2⟩
        all_goals
          go_wp2_with fail
          refine (fail_walk q 3 _).mono ?_
          rintro e w3 ⟨rfl, rfl⟩
          go_wp2_with fail
          exact ⟨rfl, ValE.bad HB.out haa⟩
  · obtain rfl : q = s.length := by omega
    have HB : Hid (R = .bad s.length 3) := by
      show _ = _
      rw [← HR.out, List.getElem?_eq_none (Nat.le_refl _)]
    go_wp2_with fail
    go_quiet (fail)
    go_wp2_with fail
    refine (fail_walk s.length 3 _).mono ?_
    rintro e w3 ⟨rfl, rfl⟩
    go_wp2_with fail
    exact ⟨rfl, ValE.bad HB.out (haa.drewN _)⟩

/-- a value, read -/
theorem value_walk (g : Nat) (s : Bs) (hl : s.length ≤ 16777216) : ∀ (f dep : Nat), f + dep = 40 → ∀ (i : Nat) (w : World), RdrAt w g s i → i ≤ s.length →
    Calls Tryd.prog 10 #[.pointer (some ⟨g, 0, none⟩), .int .i64 dep] w (ValE g s w (f + 1) (Jp.valF s (f + 1) dep i))
  | 0, dep, hd, i, w, h, hi => value_step g 0 dep s hl hd (fun h => absurd h (by omega)) i w h hi
  | f + 1, dep, hd, i, w, h, hi => value_step g (f + 1) dep s hl hd (fun _ i w h hi => value_walk g s hl f (dep + 1) (by omega) i w h hi) i w h hi
end Go.Proofs.YtgpjcjnimheglaaDoor
