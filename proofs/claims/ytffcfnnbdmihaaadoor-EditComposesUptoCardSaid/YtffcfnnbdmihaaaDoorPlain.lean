/-
  THE WALKS of edit.none, edit.plain.
-/
import Derived.Test.YtffcfnnbdmihaaaDoorApply
import Derived.Deep.RegionHeld3
import Derived.BigRegion
import Derived.Deep.RegionLaw
import Derived.Deep.DeepCutAuto
import Derived.StillTailTactics
namespace Go.Proofs.YtffcfnnbdmihaaaDoor
open Go.RowKit

set_option maxRecDepth 100000 in
theorem none_walk (n : Int) (w : World) : Calls Tryd.prog 77 #[.int .i64 n] w fun e w' => e = .returned (.agg #[.int .i64 n, .int .i64 n, .string ⟨#[]⟩]) ∧ Below w.heap.size w w' := by
  go_enter Tryd.func77, Tryd.ntmps77
  go_wp2
  exact bodyPost_ret (v := .agg #[.int .i64 n, .int .i64 n, .string ⟨#[]⟩]) (by simp [results, Tryd.results77, go_sem]) rfl ⟨rfl, ((Below.refl _ _).alloc (Nat.le_refl _) _)⟩

theorem infoSpan : (Tryd.prog.info? 100).map (fun i => (i.zero, i.size, i.bytes)) = some (some (.agg #[.int .i64 0, .int .i64 0, .string ⟨#[]⟩]), 3, 32) := by kernel_rfl

def Sp.isNone (s : Sp) : Bool := decide (s.t = s.f) && s.s.toList.isEmpty
def plainStep (out : List Sp) (s : Sp) : List Sp :=
  if s.isNone then out
  else match out.getLast? with
    | none => out ++ [s]
    | some o =>
      if o.f = s.f ∧ o.t = s.f then out.dropLast ++ [⟨o.f, s.t, o.s ++ s.s⟩]
      else if o.t = s.f ∧ s.s.toList.isEmpty = true then out.dropLast ++ [⟨o.f, s.t, o.s⟩]
      else out ++ [s]
def plainL (l : List Sp) : List Sp := l.foldl plainStep []

theorem sp_last {w : World} {base : Nat} {e : TypeId} {n g cap : Nat} {init : List Sp} {o : Sp} (h : w.ownsRow base e 3 (.slice (some ⟨g, 0, none⟩) n cap) n (spCells (init ++ [o]))) :
    w.cell? ⟨g, init.length * 3, none⟩ = some (.int .i64 o.f) ∧ w.cell? ⟨g, init.length * 3 + 1, none⟩ = some (.int .i64 o.t) ∧ w.cell? ⟨g, init.length * 3 + 2, none⟩ = some (.string o.s) := by
  have hk : init.length < (init ++ [o]).length := by simp
  have ho : (init ++ [o])[init.length] = o := by simp
  refine ⟨own_cell h _ _ ?_, own_cell h _ _ ?_, own_cell h _ _ ?_⟩
  · have := spCells_get (init ++ [o]) init.length 0 (by omega) hk
    rw [ho] at this; exact this
  · have := spCells_get (init ++ [o]) init.length 1 (by omega) hk
    rw [ho] at this; exact this
  · have := spCells_get (init ++ [o]) init.length 2 (by omega) hk
    rw [ho] at this; exact this

theorem sp_set (init : List Sp) (o : Sp) (j : Nat) (u : Value) (o' : Sp) (h : o.cells.set j u = o'.cells) : (spCells (init ++ [o])).set (init.length * 3 + j) u = spCells (init ++ [o']) := by
  have e : ∀ x : Sp, spCells (init ++ [x]) = spCells init ++ x.cells := fun x => by simp [spCells]
  rw [e, e, List.set_append_right _ _ (by rw [spCells_len]; omega), spCells_len, Nat.add_sub_cancel_left, h]

theorem own_t {w : World} {base : Nat} {e : TypeId} {g cap m : Nat} {init : List Sp} {o : Sp} (hm : init.length = m) (h : w.ownsRow base e 3 (.slice (some ⟨g, 0, none⟩) (m + 1) cap) (m + 1) (spCells (init ++ [o]))) (t : Int) (n : Nat) :
    ((w.drewN n).setCell ⟨g, m * 3 + 1, none⟩ (.int .i64 t)).ownsRow base e 3 (.slice (some ⟨g, 0, none⟩) (m + 1) cap) (init ++ [(⟨o.f, t, o.s⟩ : Sp)]).length (spCells (init ++ [⟨o.f, t, o.s⟩])) := by
  have h' : (w.drewN n).ownsRow base e 3 (.slice (some ⟨g, 0, none⟩) (m + 1) cap) (m + 1) (spCells (init ++ [o])) := h
  have h1 := (h'.stored (m * 3 + 1) (.int .i64 t)).1
  rw [← hm, sp_set init o 1 _ ⟨o.f, t, o.s⟩ rfl, hm] at h1
  have e : (init ++ [(⟨o.f, t, o.s⟩ : Sp)]).length = m + 1 := by simp [hm]
  rw [e]
  exact h1
theorem own_ts {w : World} {base : Nat} {e : TypeId} {g cap m : Nat} {init : List Sp} {o : Sp} (hm : init.length = m) (h : w.ownsRow base e 3 (.slice (some ⟨g, 0, none⟩) (m + 1) cap) (m + 1) (spCells (init ++ [o]))) (t : Int) (s : ByteArray) (n : Nat) :
    (((w.drewN n).setCell ⟨g, m * 3 + 2, none⟩ (.string s)).setCell ⟨g, m * 3 + 1, none⟩ (.int .i64 t)).ownsRow base e 3 (.slice (some ⟨g, 0, none⟩) (m + 1) cap) (init ++ [(⟨o.f, t, s⟩ : Sp)]).length (spCells (init ++ [⟨o.f, t, s⟩])) := by
  have h' : (w.drewN n).ownsRow base e 3 (.slice (some ⟨g, 0, none⟩) (m + 1) cap) (m + 1) (spCells (init ++ [o])) := h
  have h1 := (h'.stored (m * 3 + 2) (.string s)).1
  rw [← hm, sp_set init o 2 _ ⟨o.f, o.t, s⟩ rfl, hm] at h1
  have h2 := (h1.stored (m * 3 + 1) (.int .i64 t)).1
  rw [← hm, sp_set init ⟨o.f, o.t, s⟩ 1 _ ⟨o.f, t, s⟩ rfl, hm] at h2
  have e : (init ++ [(⟨o.f, t, s⟩ : Sp)]).length = m + 1 := by simp [hm]
  rw [e]
  exact h2

theorem plainStep_le (out : List Sp) (s : Sp) : (plainStep out s).length ≤ out.length + 1 ∧ spBytes (plainStep out s) ≤ spBytes out + s.s.size := by
  unfold plainStep
  split
  · omega
  · rcases List.eq_nil_or_concat out with rfl | ⟨i, o, rfl⟩
    · simp [spBytes]
    · rw [List.concat_eq_append]
      simp only [List.getLast?_concat, List.dropLast_concat]
      split
      · simp only [spBytes_snoc, List.length_append, List.length_singleton]
        have : (o.s ++ s.s).size = o.s.size + s.s.size := ByteArray.size_append
        omega
      · split
        · simp only [spBytes_snoc, List.length_append, List.length_singleton]; omega
        · simp only [spBytes_snoc, List.length_append, List.length_singleton]; omega
theorem plainL_le (l : List Sp) : (plainL l).length ≤ l.length ∧ spBytes (plainL l) ≤ spBytes l := by
  have : ∀ (l out : List Sp), (l.foldl plainStep out).length ≤ out.length + l.length ∧ spBytes (l.foldl plainStep out) ≤ spBytes out + spBytes l := by
    intro l
    induction l with
    | nil => intro out; simp [spBytes]
    | cons s r ih =>
      intro out
      have h1 := ih (plainStep out s)
      have h2 := plainStep_le out s
      simp only [List.foldl_cons, List.length_cons]
      have h3 : spBytes (s :: r) = s.s.size + spBytes r := by simp [spBytes]
      omega
  have h := this l []
  simpa [plainL, spBytes] using h

set_option maxHeartbeats 1000000 in
set_option maxRecDepth 100000 in
theorem plain_walk (A : Option Addr) (c : Nat) (l : List Sp) (w : World) (hr : Rd w w.heap.size 3 A l.length (spCells l)) (hl : l.length + spBytes l ≤ 1048576) :
    Calls Tryd.prog 62 #[.slice A l.length c] w fun e w' => ∃ v, e = .returned v ∧ w'.ownsRow w.heap.size 100 3 v (plainL l).length (spCells (plainL l)) ∧ Below w.heap.size w w' := by
  go_enter Tryd.func62, Tryd.ntmps62
  go_wp2_with fail
  go_loopw [3, 9] (fun v i wr => ∃ (k : Nat) (out : List Sp), k ≤ l.length ∧ i = .int .i64 k ∧ Hid (out = plainL (l.take k)) ∧ wr.ownsRow w.heap.size 100 3 v out.length (spCells out) ∧ Below w.heap.size w wr) (fun _ i _ => l.length - (intOf i).toNat)
  case atStart => exact ⟨0, [], Nat.zero_le _, rfl, rfl, World.ownsRow_nil _ _ _ _, Below.refl _ _⟩
  case round =>
    obtain ⟨k, out, hk, rfl, Hout, hown, hb⟩ := hrel
    have hbs := hb.size
    by_cases hlt : k < l.length
    · obtain ⟨b, o, rfl, hbB, hcs⟩ := (hr.below hb).sp hlt
      obtain ⟨c0, c1, c2⟩ := hcs k hlt
      clear hcs
      have Hst : Hid (plainL (l.take (k + 1)) = plainStep out l[k]) := by
        show _ = _
        rw [List.take_succ_eq_append_getElem hlt, plainL, List.foldl_append, Hout.out]; rfl
      generalize hx : l[k] = x at *
      obtain ⟨f, t, s⟩ := x
      have Hx := Lib.hid hx
      clear hx
      dsimp only at c0 c1 c2
      go_wp2_with fail
      have hB : Blk (wr.alloc (.cells #[.int .i64 f, .int .i64 t, .string s] 100)) wr.heap.size 100 #[.int .i64 f, .int .i64 t, .string s] := Blk.new _ _ _
      have hown' := hown.alloc (.cells #[.int .i64 f, .int .i64 t, .string s] 100)
      have hb' := hb.alloc hbs (.cells #[.int .i64 f, .int .i64 t, .string s] 100)
      have hne : ∀ g, u3.ownBlock = some g → g < wr.heap.size := fun g hg => (hown.lt g hg).2
      generalize wr.alloc (.cells #[.int .i64 f, .int .i64 t, .string s] 100) = ws at *
      generalize wr.heap.size = p at *
      clear hown hb c0 c1 c2
      have p0 := hB.cell 0
      have p1 := hB.cell 1
      have p2 := hB.cell 2
      simp at p0 p1 p2
      by_cases hnone : t = f ∧ s.toList = []
      · obtain ⟨h1, h2⟩ := hnone
        subst h1
        have Hs2 := Lib.hid h2
        have h2' : (s.toList.isEmpty) = true := by rw [h2]; rfl
        go_region_held3 (fun w' => w'.cell? ⟨p, 0, none⟩ = some (.int .i64 t) ∧ w'.cell? ⟨p, 1, none⟩ = some (.int .i64 t) ∧ w'.cell? ⟨p, 2, none⟩ = some (.string s))
          (first
            | (go_keep; done)
            | exact ⟨(hb1.cell (p := ⟨p, 0, none⟩) hB.lt).trans p0, (hb1.cell (p := ⟨p, 1, none⟩) hB.lt).trans p1, (hb1.cell (p := ⟨p, 2, none⟩) hB.lt).trans p2⟩)
          (first
            | (go_at_call 77; refine (none_walk _ _).mono ?_; rintro e w1 ⟨rfl, hb1⟩))
        go_wp2_with fail
        go_roundw
        case rel =>
          refine ⟨k + 1, out, by omega, by go_num, ?_, own_of_block (hown'.drew) fun g hg => hb1.block g ?_, hb'.drew.trans (hb1.mono ?_)⟩
          · show _ = _
            rw [Hst.out, plainStep, if_pos (by unfold Sp.isNone; rw [Hs2.out]; simp)]
          · exact (hown'.lt g hg).2
          · exact hb'.size
        case measure => simp [intOf]; omega
      · go_cut [17] (fun s17 wc => s17 = .bool false ∧ Below ws.heap.size ws wc)
        case first =>
          have hw : (t = f → s.toList.isEmpty = false) := by
            intro h
            cases hs : s.toList with
            | nil => exact absurd ⟨h, hs⟩ hnone
            | cons a r => rfl
          have Hw := Lib.hid hw
          clear hw hnone
          by_cases htf : t = f
          · have hse := Hw.out htf
            subst htf
            go_region_held3 (fun w' => w'.cell? ⟨p, 0, none⟩ = some (.int .i64 t) ∧ w'.cell? ⟨p, 1, none⟩ = some (.int .i64 t) ∧ w'.cell? ⟨p, 2, none⟩ = some (.string s))
              (first
                | (go_keep; done)
                | exact ⟨(hb1.cell (p := ⟨p, 0, none⟩) hB.lt).trans p0, (hb1.cell (p := ⟨p, 1, none⟩) hB.lt).trans p1, (hb1.cell (p := ⟨p, 2, none⟩) hB.lt).trans p2⟩)
              (first
                | (go_at_call 77; refine (none_walk _ _).mono ?_; rintro e w1 ⟨rfl, hb1⟩))
            go_wp2_with fail
            go_meet
            exact ⟨rfl, (Below.refl _ _).drew.trans hb1⟩
          · go_region_held3 (fun w' => w'.cell? ⟨p, 0, none⟩ = some (.int .i64 f) ∧ w'.cell? ⟨p, 1, none⟩ = some (.int .i64 t) ∧ w'.cell? ⟨p, 2, none⟩ = some (.string s))
              (first
                | (go_keep; done)
                | exact ⟨(hb1.cell (p := ⟨p, 0, none⟩) hB.lt).trans p0, (hb1.cell (p := ⟨p, 1, none⟩) hB.lt).trans p1, (hb1.cell (p := ⟨p, 2, none⟩) hB.lt).trans p2⟩)
              (first
                | (go_at_call 77; refine (none_walk _ _).mono ?_; rintro e w1 ⟨rfl, hb1⟩))
            go_wp2_with fail
            go_meet
            exact ⟨rfl, (Below.refl _ _).drew.trans hb1⟩
        case rest =>
          have Hnn : Hid ((⟨f, t, s⟩ : Sp).isNone = false) := by
            show _ = _
            unfold Sp.isNone
            cases hs : s.toList with
            | nil => simp only [List.isEmpty_nil, Bool.and_true, decide_eq_false_iff_not]; exact fun h => hnone ⟨h, hs⟩
            | cons a r => simp
          clear hnone
          obtain ⟨rfl, hb1⟩ := hcut
          have hB1 := hB.below hb1 hB.lt
          have hown1 := own_of_block hown' fun g hg => hb1.block g (hown'.lt g hg).2
          have hbc := hb'.trans (hb1.mono hb'.size)
          have hne1 : ∀ g, u3.ownBlock = some g → g < p := hne
          have hbz := hbc.size
          clear hB hown' hb' hb1 p0 p1 p2
          have p0 := hB1.cell 0
          have p1 := hB1.cell 1
          have p2 := hB1.cell 2
          simp at p0 p1 p2
          have hcase : out = [] ∨ ∃ init ol, out = init ++ [ol] := by
            rcases List.eq_nil_or_concat out with h | ⟨a, b, h⟩
            · exact .inl h
            · exact .inr ⟨a, b, by rw [h, List.concat_eq_append]⟩
          rcases hcase with rfl | ⟨init, ol, rfl⟩
          · obtain ⟨A, cap, rfl⟩ := own_form hown1
            obtain ⟨i0, hi, hz0, hz1, hz2⟩ := info_parts infoSpan
            go_wp2_with fail
            go_quiet (fail)
            go_wp2_with fail
            go_quiet (fail)
            go_wp2_with (at_builtin; refine wpList_append_lies _ rfl _ _ 41 rfl w.heap.size 100 i0 _ 3 32 Tryd.underlying41 hi hz0 hz1 hz2 rfl (by omega) _ 0 [] rfl (World.ownsRow.alloc (w := World.drewN wc _) hown1 _) ⟨wc.heap.size, 0, none⟩ 1 1 [.int .i64 f, .int .i64 t, .string s] rfl rfl (World.news_of_block (cs := #[.int .i64 f, .int .i64 t, .string s]) (t := 100) (fr := (0, 0)) (heap_alloc_new (World.drewN wc _) _)) (by simp [Value.oneCell']) (by omega) (by unfold maxLen; omega) (by omega) (by simp; omega) _ rfl ?_; intro gg cap' w3 hown3 hgrow hat hlt3)
            go_roundw
            case rel =>
              refine ⟨k + 1, [⟨f, t, s⟩], by omega, by go_num, ?_, hown3, ((below_drewN hbc _).alloc hbz _).grown hgrow (by simp; omega) fun g hg => (hown1.lt g hg).1⟩
              show _ = _
              rw [Hst.out, plainStep, if_neg (by rw [Hnn.out]; simp)]
              rfl
            case measure => simp [intOf]; omega
          · have hlen : (init ++ [ol]).length = init.length + 1 := by simp
            have hpl := plainL_le (l.take k)
            have hpl2 := spBytes_take_le l (k + 1)
            rw [← Hout.out, hlen, spBytes_snoc, List.length_take] at hpl
            have hml : init.length + 1 ≤ 1048576 := by omega
            have hss : ol.s.size + s.size ≤ 1048576 := by
              have e : l.take (k + 1) = l.take k ++ [l[k]'hlt] := List.take_succ_eq_append_getElem hlt
              rw [e, spBytes_snoc, Hx.out] at hpl2
              simp only at hpl2
              omega
            clear hpl hpl2
            obtain ⟨g, cap, rfl, hgb, hgl⟩ := hown1.form (by rw [hlen]; omega)
            have hgp : g < p := hne1 g rfl
            obtain ⟨q0, q1, q2⟩ := sp_last hown1
            rw [hlen] at hown1
            rw [hlen]
            have Hl := Lib.hid hlen
            clear hlen
            obtain ⟨oF, oT, oS⟩ := ol
            generalize hm : init.length = m at *
            have Hm := Lib.hid hm
            clear hm
            dsimp only at q0 q1 q2 hss
            have hgw : g < wc.heap.size := by omega
            have fz := hown1.frozenAt (m * 3 + 2)
            have fz1 := hown1.frozenAt (m * 3 + 1)
            have i1 : (0 : Int) ≤ (m : Int) := by omega
            have i2 : (m : Int) < ((m : Nat) : Int) + 1 := by omega
            by_cases cA : oF = f ∧ oT = f
            · obtain ⟨rfl, rfl⟩ := cA
              go_wp2_with fail
              go_quiet (fail)
              go_wp2_with fail
              go_region
              go_wp2_with fail
              go_roundw
              case rel =>
                refine ⟨k + 1, init ++ [⟨oT, t, oS ++ s⟩], by omega, by go_num, ?_, ?_, (((below_drewN hbc _).setCell (p := ⟨g, _, none⟩) hgb _).setCell (p := ⟨g, _, none⟩) hgb _)⟩
                · show _ = _
                  rw [Hst.out, plainStep, if_neg (by rw [Hnn.out]; simp), List.getLast?_concat]
                  dsimp only
                  rw [if_pos ⟨rfl, rfl⟩, List.dropLast_concat]
                · exact own_ts Hm.out hown1 t (oS ++ s) _
              case measure => simp [intOf]; omega
            · have Hcase : Hid (plainStep (init ++ [⟨oF, oT, oS⟩]) ⟨f, t, s⟩ = if oT = f ∧ s.toList.isEmpty = true then init ++ [⟨oF, t, oS⟩] else init ++ [⟨oF, oT, oS⟩] ++ [⟨f, t, s⟩]) := by
                show _ = _
                rw [plainStep, if_neg (by rw [Hnn.out]; simp), List.getLast?_concat]
                dsimp only
                rw [if_neg cA, List.dropLast_concat]
              by_cases cB : oT = f ∧ s.toList.isEmpty = true
              · have HcB := Lib.hid cB
                have hFf : (oF == f) = false := by rw [beq_eq_false_iff_ne]; exact fun h => cA ⟨h, cB.1⟩
                obtain ⟨rfl, hse⟩ := cB
                clear cA
                go_wp2_with fail
                go_quiet (fail)
                go_wp2_with fail
                go_quiet (fail)
                go_wp2_with fail
                go_roundw
                case rel =>
                  refine ⟨k + 1, init ++ [⟨oF, t, oS⟩], by omega, by go_num, ?_, own_t Hm.out hown1 t _, (below_drewN hbc _).setCell (p := ⟨g, _, none⟩) hgb _⟩
                  show _ = _
                  rw [Hst.out, Hcase.out, if_pos HcB.out]
                case measure => simp [intOf]; omega
              · have HcB := Lib.hid cB
                obtain ⟨i0, hi, hz0, hz1, hz2⟩ := info_parts infoSpan
                have hd : ((oF == f) = true ∧ (oT == f) = false) ∨ ((oF == f) = false ∧ (oT == f) = true ∧ s.toList.isEmpty = false) ∨ ((oF == f) = false ∧ (oT == f) = false) := by
                  by_cases h1 : oF = f
                  · left
                    refine ⟨by simpa using h1, ?_⟩
                    rw [beq_eq_false_iff_ne]; exact fun h => cA ⟨h1, h⟩
                  · right
                    by_cases h2 : oT = f
                    · left
                      refine ⟨by simpa using h1, by simpa using h2, ?_⟩
                      cases hs : s.toList.isEmpty with
                      | false => rfl
                      | true => exact absurd ⟨h2, hs⟩ cB
                    · right; exact ⟨by simpa using h1, by simpa using h2⟩
                clear cA cB
                rcases hd with ⟨d1, d2⟩ | ⟨d1, d2, d3⟩ | ⟨d1, d2⟩
                all_goals
                  go_wp2_with fail
                  go_quiet (fail)
                  go_wp2_with fail
                  go_quiet (fail)
                  go_wp2_with (at_builtin; refine wpList_append_lies _ rfl _ _ 41 rfl w.heap.size 100 i0 _ 3 32 Tryd.underlying41 hi hz0 hz1 hz2 rfl (by omega) _ (m + 1) _ rfl (World.ownsRow.alloc (w := World.drewN wc _) hown1 _) ⟨wc.heap.size, 0, none⟩ 1 1 [.int .i64 f, .int .i64 t, .string s] rfl rfl (World.news_of_block (cs := #[.int .i64 f, .int .i64 t, .string s]) (t := 100) (fr := (0, 0)) (heap_alloc_new (World.drewN wc _) _)) (by simp [Value.oneCell']) (by omega) (by unfold maxLen; omega) (by omega) (by simp; omega) _ rfl ?_; intro gg cap' w3 hown3 hgrow hat hlt3)
                  go_roundw
                  case rel =>
                    refine ⟨k + 1, init ++ [(⟨oF, oT, oS⟩ : Sp)] ++ [(⟨f, t, s⟩ : Sp)], by omega, by go_num, ?_, ?_, ((below_drewN hbc _).alloc hbz _).grown hgrow (by simp; omega) fun g' hg' => (hown1.lt g' hg').1⟩
                    · show _ = _
                      rw [Hst.out, Hcase.out, if_neg HcB.out]
                    · have e1 : (init ++ [(⟨oF, oT, oS⟩ : Sp)] ++ [(⟨f, t, s⟩ : Sp)]).length = m + 1 + 1 := by simp [Hm.out]
                      have e2 : spCells (init ++ [(⟨oF, oT, oS⟩ : Sp)] ++ [(⟨f, t, s⟩ : Sp)]) = spCells (init ++ [⟨oF, oT, oS⟩]) ++ [.int .i64 f, .int .i64 t, .string s] := by simp [spCells, Sp.cells]
                      rw [e1, e2]
                      exact hown3
                  case measure => simp [intOf]; omega
    · obtain rfl : k = l.length := by omega
      rw [List.take_length] at Hout
      go_wp2
      go_ret
      exact ⟨u3, by simp, by rw [← Hout.out]; exact hown, hb⟩
end Go.Proofs.YtffcfnnbdmihaaaDoor
