/-
  THE WALK of edit.behind.
-/
import Derived.Test.YtffcfnnbdmihaaaDoorGrown
namespace Go.Proofs.YtffcfnnbdmihaaaDoor
open Go.RowKit

/-- so many spans at the most come of k -/
def capK (k : Nat) : Nat := k * 1048577
theorem capK_succ (k : Nat) : capK (k + 1) = capK k + 1048577 := by unfold capK; omega
theorem capK_le {k : Nat} (h : k ≤ 1048576) : capK k ≤ 1099512676352 := by unfold capK; omega

def cutStep (from_ : Int) (p : Int × Bool) (t : Sp) : Int × Bool :=
  if t.f ≤ from_ ∧ from_ < t.t then (min p.1 t.t, true) else if from_ < t.f then (min p.1 t.f, p.2) else p
def cutL (from_ to_ : Int) (b : List Sp) : Int × Bool := b.foldl (cutStep from_) (to_, false)
def delsL (b : List Sp) (st : Int) : Nat → Int → List Sp
  | 0, _ => []
  | n + 1, from_ =>
    if from_ < st then
      (if (cutL from_ st b).2 then [] else [⟨from_ + grownL b from_ true, from_ + grownL b from_ true + (cutL from_ st b).1 - from_, ⟨#[]⟩⟩]) ++ delsL b st n (cutL from_ st b).1
    else []
def insL (b : List Sp) (first : Bool) (s : Sp) : List Sp :=
  if s.s.toList.isEmpty then [] else [⟨s.f + grownL b s.f (!first), s.f + grownL b s.f (!first), s.s⟩]
def behindL (a b : List Sp) (first : Bool) : List Sp := a.flatMap fun s => insL b first s ++ delsL b s.t (s.t - s.f).toNat s.f

theorem cutStep_bd {from_ : Int} {p : Int × Bool} {t : Sp} (h : from_ < p.1) : from_ < (cutStep from_ p t).1 ∧ (cutStep from_ p t).1 ≤ p.1 := by
  unfold cutStep
  split
  · simp only; omega
  · split
    · simp only; omega
    · omega
theorem cutF_bd {from_ : Int} (b : List Sp) : ∀ {p : Int × Bool}, from_ < p.1 → from_ < (b.foldl (cutStep from_) p).1 ∧ (b.foldl (cutStep from_) p).1 ≤ p.1 := by
  induction b with
  | nil => intro p h; exact ⟨h, Int.le_refl _⟩
  | cons t r ih =>
    intro p h
    have h1 := cutStep_bd (t := t) h
    have h2 := ih (p := cutStep from_ p t) h1.1
    simp only [List.foldl_cons]
    omega
theorem delsL_fuel (b : List Sp) (st : Int) : ∀ (n : Nat) (from_ : Int), (st - from_).toNat ≤ n → delsL b st n from_ = delsL b st (st - from_).toNat from_ := by
  intro n
  induction n using Nat.strongRecOn with
  | ind n ih =>
    intro from_ h
    cases n with
    | zero =>
      have : (st - from_).toNat = 0 := by omega
      rw [this]
    | succ n =>
      by_cases hlt : from_ < st
      · obtain ⟨m, hm⟩ : ∃ m, (st - from_).toNat = m + 1 := ⟨(st - from_).toNat - 1, by omega⟩
        rw [hm]
        simp only [delsL]
        rw [if_pos hlt, if_pos hlt]
        have h1 := cutF_bd b (p := (st, false)) hlt
        congr 1
        have e1 := ih n (by omega) (cutL from_ st b).1 (by unfold cutL; omega)
        have e2 := ih m (by omega) (cutL from_ st b).1 (by unfold cutL; omega)
        rw [e1, e2]
      · have : (st - from_).toNat = 0 := by omega
        rw [this]
        simp only [delsL]
        rw [if_neg hlt]
theorem delsL_step (b : List Sp) (st from_ : Int) (h : from_ < st) : delsL b st (st - from_).toNat from_ =
    (if (cutL from_ st b).2 then [] else [⟨from_ + grownL b from_ true, from_ + grownL b from_ true + (cutL from_ st b).1 - from_, ⟨#[]⟩⟩]) ++ delsL b st (st - (cutL from_ st b).1).toNat (cutL from_ st b).1 := by
  obtain ⟨m, hm⟩ : ∃ m, (st - from_).toNat = m + 1 := ⟨(st - from_).toNat - 1, by omega⟩
  have h1 := cutF_bd b (p := (st, false)) h
  rw [hm]
  simp only [delsL]
  rw [if_pos h]
  congr 1
  exact delsL_fuel b st m _ (by unfold cutL; omega)
theorem delsL_end (b : List Sp) (st from_ : Int) (h : ¬ from_ < st) : delsL b st (st - from_).toNat from_ = [] := by
  have : (st - from_).toNat = 0 := by omega
  rw [this]; rfl

set_option maxHeartbeats 2000000 in
set_option maxRecDepth 100000 in
theorem behind_walk (A1 : Option Addr) (c1 : Nat) (a : List Sp) (A2 : Option Addr) (c2 : Nat) (b : List Sp) (first : Bool) (w : World) (hr1 : Rd w w.heap.size 3 A1 a.length (spCells a)) (hr2 : Rd w w.heap.size 3 A2 b.length (spCells b))
    (hl1 : a.length + spBytes a ≤ 1048576) (hl2 : b.length + spBytes b ≤ 1048576) (hw1 : Within a) (hw2 : Within b) :
    Calls Tryd.prog 63 #[.slice A1 a.length c1, .slice A2 b.length c2, .bool first] w fun e w' => ∃ v, e = .returned v ∧ w'.ownsRow w.heap.size 100 3 v (behindL a b first).length (spCells (behindL a b first)) ∧ Below w.heap.size w w' := by
  obtain ⟨i0, ji, jz0, jz1, jz2⟩ := info_parts infoSpan
  go_enter Tryd.func63, Tryd.ntmps63
  go_wp2_with fail
  have hB : Blk (w.alloc (.cells #[.slice A2 b.length c2] 41)) w.heap.size 41 #[.slice A2 b.length c2] := Blk.new _ _ _
  have hbw : Below w.heap.size w (w.alloc (.cells #[.slice A2 b.length c2] 41)) := (Below.refl _ _).alloc (Nat.le_refl _) _
  have hz : (w.alloc (.cells #[.slice A2 b.length c2] 41)).heap.size = w.heap.size + 1 := by simp
  generalize w.alloc (.cells #[.slice A2 b.length c2] 41) = w1 at *
  obtain ⟨N, hN⟩ : ∃ N, N = w.heap.size := ⟨_, rfl⟩
  have hN1 : N ≤ w.heap.size := by omega
  have hN2 : w.heap.size ≤ N := by omega
  have hz1' : w1.heap.size ≤ N + 1 := by omega
  have hz2' : N + 1 ≤ w1.heap.size := by omega
  clear hz
  rw [← hN] at hB hbw ⊢
  have HN := Lib.hid hN
  clear hN
  go_loopw [8, 21] (fun v i wr => ∃ (k : Nat) (out : List Sp), k ≤ a.length ∧ i = .int .i64 k ∧ Hid (out = behindL (a.take k) b first) ∧ out.length ≤ capK k ∧ wr.ownsRow (N + 1) 100 3 v out.length (spCells out) ∧ Below (N + 1) w1 wr) (fun _ i _ => a.length - (intOf i).toNat)
  case atStart => exact ⟨0, [], Nat.zero_le _, rfl, rfl, Nat.zero_le _, World.ownsRow_nil _ _ _ _, Below.refl _ _⟩
  case round =>
    obtain ⟨k, out, hk, rfl, Hout, hol, hown, hb⟩ := hrel
    have hbs := hb.size
    have hck := capK_le (k := k) (by omega)
    by_cases hlt : k < a.length
    · have hbn : Below N w wr := hbw.trans (hb.mono (by omega))
      have hr1' := (hr1.keep (w' := wr) fun b o hb' => hbn.cell (p := ⟨b, o, none⟩) (by show b < N; omega)).sp hlt
      obtain ⟨b0, o, rfl, hbB, hcs⟩ := hr1'
      obtain ⟨c0, c1', c2'⟩ := hcs k hlt
      clear hcs
      have hwk := hw1 a[k] (List.getElem_mem hlt)
      have Hst : Hid (behindL (a.take (k + 1)) b first = out ++ (insL b first a[k] ++ delsL b a[k].t (a[k].t - a[k].f).toNat a[k].f)) := by
        show _ = _
        rw [List.take_succ_eq_append_getElem hlt, behindL, List.flatMap_append, Hout.out]
        simp [behindL]
      have hsz : a[k].s.size ≤ 1048576 := by
        have h2 := spBytes_take_le a (k + 1)
        rw [List.take_succ_eq_append_getElem hlt, spBytes_snoc] at h2
        omega
      generalize a[k] = x at *
      obtain ⟨f, t, s⟩ := x
      dsimp only at *
      have hol1 : out.length ≤ capK k + 1 := Nat.le_succ_of_le hol
      go_upto_if 27 with fail
      have hP : Blk (wr.alloc (.cells #[.int .i64 f, .int .i64 t, .string s] 100)) wr.heap.size 100 #[.int .i64 f, .int .i64 t, .string s] := Blk.new _ _ _
      have hown' := hown.alloc (.cells #[.int .i64 f, .int .i64 t, .string s] 100)
      have hb' := hb.alloc (by omega) (.cells #[.int .i64 f, .int .i64 t, .string s] 100)
      have hne : ∀ g, u8.ownBlock = some g → g < wr.heap.size := fun g hg => (hown.lt g hg).2
      generalize wr.alloc (.cells #[.int .i64 f, .int .i64 t, .string s] 100) = ws at *
      generalize hpe : wr.heap.size = p at *
      clear hown hb c0 c1' c2' hpe
      go_cut [8] (fun s8 wc => ∃ out2 : List Sp, Hid (out2 = out ++ insL b first ⟨f, t, s⟩) ∧ out2.length ≤ capK k + 1 ∧ wc.ownsRow (N + 1) 100 3 s8 out2.length (spCells out2) ∧ Below (N + 1) w1 wc ∧ Blk wc p 100 #[.int .i64 f, .int .i64 t, .string s] ∧ (∀ g, s8.ownBlock = some g → g ≠ p))
      case first =>
        generalize hse : s.toList.isEmpty = se
        have Hse := Lib.hid hse
        clear hse
        cases se with
        | true =>
          go_wp2_with fail
          go_meet
          refine ⟨out, ?_, hol1, hown', hb', hP, fun g hg => Nat.ne_of_lt (hne g hg)⟩
          show _ = _
          simp only [insL, Hse.out, if_true, List.append_nil]
        | false =>
          have p0 := hP.cell 0
          have p1 := hP.cell 1
          have p2 := hP.cell 2
          simp at p0 p1 p2
          have hbz := hb'.size
          have hBs := hB.below hb' (by omega)
          have hbn : Below N w ws := hbw.trans (hb'.mono (by omega))
          have hr2s : Rd ws ws.heap.size 3 A2 b.length (spCells b) := (hr2.keep fun b o hb' => hbn.cell (p := ⟨b, o, none⟩) (by show b < N; omega)).more (by omega)
          have cB := hBs.cell 0
          simp at cB
          have hgb := grown_bd b f (!first) hw2
          have hgb1 : -1099511627776 ≤ grownL b f (!first) ∧ grownL b f (!first) ≤ 1048576 := by omega
          have hgw : IntKind.i64.wrap (f + grownL b f (!first)) = f + grownL b f (!first) := IntWalk.i64_in _ (by omega)
          clear hgb
          have cB' : ws.drew.cell? ⟨N, 0, none⟩ = some (.slice A2 b.length c2) := cB
          have hr2s' : Rd ws.drew ws.drew.heap.size 3 A2 b.length (spCells b) := hr2s
          go_wp2_with fail
          go_region_held3 (fun w' => w'.cell? ⟨p, 0, none⟩ = some (.int .i64 f) ∧ w'.cell? ⟨p, 1, none⟩ = some (.int .i64 t) ∧ w'.cell? ⟨p, 2, none⟩ = some (.string s))
            (first
              | (go_keep; done)
              | exact ⟨(hb1.cell (p := ⟨p, 0, none⟩) hP.lt).trans p0, (hb1.cell (p := ⟨p, 1, none⟩) hP.lt).trans p1, (hb1.cell (p := ⟨p, 2, none⟩) hP.lt).trans p2⟩)
            (first
              | (go_at_call 78; refine (grown_walk f (!first) N _ _ b _ cB' hr2s' hl2 hw2 (by omega) (by omega)).mono ?_; rintro e w2 ⟨rfl, hb1⟩))
          have hb2 : Below ws.heap.size ws w2 := (Below.refl _ _).drew.trans hb1
          have hown2 := own_of_block hown' fun g hg => hb2.block g (hown'.lt g hg).2
          have hb12 := hb'.trans (hb2.mono (by omega))
          have hz2 := hb2.size
          have hP2 := hP.below hb2 hP.lt
          clear hgw
          generalize hgr : f + grownL b f (!first) = q at *
          obtain ⟨A, cap, rfl⟩ := own_form hown2
          clear p0 p1 p2
          have p0 := hP2.cell 0
          have p1 := hP2.cell 1
          have p2 := hP2.cell 2
          simp at p0 p1 p2
          have Hgr := Lib.hid hgr
          clear hgr
          go_wp2_with (at_builtin; refine wpList_append_lies _ rfl _ _ 41 rfl (N + 1) 100 i0 _ 3 32 Tryd.underlying41 ji jz0 jz1 jz2 rfl (by omega) _ out.length _ rfl (hown2.alloc _) ⟨w2.heap.size, 0, none⟩ 1 1 [.int .i64 q, .int .i64 q, .string s] rfl rfl (World.news_of_block (cs := #[.int .i64 q, .int .i64 q, .string s]) (t := 100) (fr := (0, 0)) (heap_alloc_new w2 _)) (by simp [Value.oneCell']) (by omega) (by unfold maxLen; omega) (by omega) (by simp; omega) _ rfl ?_; intro gg cap' w3 hown3 hgrow hat hlt3)
          go_meet
          refine ⟨out ++ [⟨q, q, s⟩], ?_, ?_, ?_, ?_, ?_, ?_⟩
          · show _ = _
            simp only [insL, Hse.out]
            rw [← Hgr.out]; rfl
          · rw [List.length_append]; exact Nat.succ_le_succ hol
          · rw [List.length_append, spCells_snoc]; exact hown3
          · exact (hb12.alloc (by omega) _).grown hgrow (by simp; omega) fun g hg => (hown2.lt g hg).1
          · exact (hP2.alloc _).grown hgrow fun e => Nat.lt_irrefl _ (hne p e.symm)
          · intro g hg
            simp only [Value.ownBlock, Option.some.injEq] at hg
            subst hg
            rcases hat with h | h
            · exact Nat.ne_of_lt (hne _ h)
            · have hpl := hP2.lt
              rw [h]; simp only [World.size_alloc]; omega
      case rest =>
        clear hP hown' hb' hne
        obtain ⟨out2, Ho2, ho2l, hown, hb, hP, hne⟩ := hcut
        have hPl := hP.lt
        have p0 := hP.cell 0
        have p1 := hP.cell 1
        simp at p0 p1
        go_wp2_with fail
        go_loopw [8, 12] (fun v i wi => ∃ (from_ : Int) (out3 : List Sp), i = .int .i64 from_ ∧ f ≤ from_ ∧ from_ ≤ t ∧ Hid (out3 ++ delsL b t (t - from_).toNat from_ = out2 ++ delsL b t (t - f).toNat f) ∧ out3.length ≤ capK k + 1 + (from_ - f).toNat ∧
            wi.ownsRow (N + 1) 100 3 v out3.length (spCells out3) ∧ Below (N + 1) w1 wi ∧ Blk wi p 100 #[.int .i64 f, .int .i64 t, .string s] ∧ (∀ g, v.ownBlock = some g → g ≠ p)) (fun _ i _ => (t - intOf i).toNat)
        case atStart => exact ⟨f, out2, rfl, Int.le_refl _, hwk.2.1, rfl, Nat.le_trans ho2l (Nat.le_add_right _ _), hown, hb, hP, hne⟩
        case round =>
          clear hown hb hP hne hPl p0 p1
          obtain ⟨from_, out3, rfl, hf1, hf2, Ho3, ho3l, hown, hb, hP, hne⟩ := hrel
          obtain ⟨wi, rfl⟩ : ∃ wi : World, wi = wr := ⟨_, rfl⟩
          have hPl := hP.lt
          have p0 := hP.cell 0
          have p1 := hP.cell 1
          simp at p0 p1
          by_cases hlt3 : from_ < t
          · have hBs := hB.below hb (by omega)
            have cB := hBs.cell 0
            simp at cB
            go_wp2_with fail
            go_loopw [13, 14, 55] (fun vt vg i wj => ∃ (j : Nat) (to_ : Int) (gone : Bool), j ≤ b.length ∧ i = .int .i64 j ∧ vt = .int .i64 to_ ∧ vg = .bool gone ∧ from_ < to_ ∧ to_ ≤ t ∧ Hid ((to_, gone) = (b.take j).foldl (cutStep from_) (t, false)) ∧ Below wi.heap.size wi wj) (fun _ _ i _ => b.length - (intOf i).toNat)
            case atStart => exact ⟨0, t, false, Nat.zero_le _, rfl, rfl, rfl, hlt3, Int.le_refl _, rfl, Below.refl _ _⟩
            case round =>
              obtain ⟨j, to_, gone, hj, rfl, rfl, rfl, ht1, ht2, Hc, hbj⟩ := hrel
              have hbz := hbj.size
              by_cases hltj : j < b.length
              · have hbn : Below N w wr := hbw.trans ((hb.trans (hbj.mono (by omega))).mono (by omega))
                obtain ⟨b1, o1, rfl, hbB1, hcs⟩ := (hr2.keep (w' := wr) fun b o hb' => hbn.cell (p := ⟨b, o, none⟩) (by show b < N; omega)).sp hltj
                obtain ⟨d0, d1, d2⟩ := hcs j hltj
                clear hcs
                have Hcs : Hid ((b.take (j + 1)).foldl (cutStep from_) (t, false) = cutStep from_ (to_, gone) b[j]) := by
                  show _ = _
                  rw [List.take_succ_eq_append_getElem hltj, List.foldl_append, ← Hc.out]; rfl
                generalize b[j] = y at *
                obtain ⟨yf, yt, ys⟩ := y
                dsimp only at *
                by_cases e1 : yf ≤ from_
                · by_cases e2 : from_ < yt
                  · go_wp2_with fail
                    go_roundw
                    case rel => exact ⟨j + 1, min to_ yt, true, by omega, by go_num, rfl, rfl, by omega, by omega, by show _ = _; rw [Hcs.out, cutStep, if_pos ⟨e1, e2⟩], hbj.alloc hbz _⟩
                    case measure => simp [intOf]; omega
                  · go_wp2_with fail
                    go_roundw
                    case rel => exact ⟨j + 1, to_, gone, by omega, by go_num, rfl, rfl, ht1, ht2, by show _ = _; rw [Hcs.out, cutStep, if_neg (fun h => e2 h.2), if_neg (by simp only; omega)], hbj.alloc hbz _⟩
                    case measure => simp [intOf]; omega
                · go_wp2_with fail
                  go_roundw
                  case rel => exact ⟨j + 1, min to_ yf, gone, by omega, by go_num, rfl, rfl, by omega, by omega, by show _ = _; rw [Hcs.out, cutStep, if_neg (fun h => e1 h.1), if_pos (by simp only; omega)], hbj.alloc hbz _⟩
                  case measure => simp [intOf]; omega
              · obtain rfl : j = b.length := by omega
                rw [List.take_length] at Hc
                have hbi := hb.trans (hbj.mono (by omega))
                have hPi := hP.below hbj hPl
                have howni := own_of_block hown fun g hg => hbj.block g (hown.lt g hg).2
                have hbiz := hbi.size
                have Hds : Hid (delsL b t (t - from_).toNat from_ = (if gone = true then [] else [⟨from_ + grownL b from_ true, from_ + grownL b from_ true + to_ - from_, ⟨#[]⟩⟩]) ++ delsL b t (t - to_).toNat to_) := by
                  show _ = _
                  rw [delsL_step b t from_ hlt3]
                  unfold cutL
                  rw [← Hc.out]
                clear hown hb hP hPl hbj p0 p1 hBs cB Hc
                have hol4 : out3.length + 1 ≤ capK k + 1 + (to_ - f).toNat := by omega
                go_upto_if 85 with fail
                go_cut [8] (fun s8 wc => ∃ out4 : List Sp, Hid (out4 = out3 ++ (if gone = true then [] else [⟨from_ + grownL b from_ true, from_ + grownL b from_ true + to_ - from_, ⟨#[]⟩⟩])) ∧ out4.length ≤ out3.length + 1 ∧ wc.ownsRow (N + 1) 100 3 s8 out4.length (spCells out4) ∧ Below (N + 1) w1 wc ∧ Blk wc p 100 #[.int .i64 f, .int .i64 t, .string s] ∧ (∀ g, s8.ownBlock = some g → g ≠ p))
                case first =>
                  cases gone with
                  | true =>
                    go_wp2_with fail
                    go_meet
                    exact ⟨out3, by show _ = _; simp, by omega, howni, hbi, hPi, hne⟩
                  | false =>
                    have hBi := hB.below hbi (by omega)
                    have hbn : Below N w wr := hbw.trans (hbi.mono (by omega))
                    have hr2s : Rd wr wr.heap.size 3 A2 b.length (spCells b) := (hr2.keep fun b o hb' => hbn.cell (p := ⟨b, o, none⟩) (by show b < N; omega)).more (by omega)
                    have cB := hBi.cell 0
                    simp at cB
                    have hgb := grown_bd b from_ true hw2
                    have hgb1 : -1099511627776 ≤ grownL b from_ true ∧ grownL b from_ true ≤ 1048576 := by omega
                    clear hgb
                    go_wp2_with fail
                    refine (grown_walk from_ true N _ _ b _ cB hr2s hl2 hw2 (by omega) (by omega)).mono ?_
                    rintro e w2 ⟨rfl, hb1⟩
                    have hown2 := own_of_block howni fun g hg => hb1.block g (howni.lt g hg).2
                    have hb12 := hbi.trans (hb1.mono (by omega))
                    have hP2 := hPi.below hb1 hPi.lt
                    have hPl2 := hP2.lt
                    obtain ⟨A, cap, rfl⟩ := own_form hown2
                    generalize hgr : grownL b from_ true = q at *
                    have Hgr := Lib.hid hgr
                    clear hgr hr2s hBi cB howni hbi hPi hb1
                    have hz12 := hb12.size
                    go_wp2_with (at_builtin; refine wpList_append_lies _ rfl _ _ 41 rfl (N + 1) 100 i0 _ 3 32 Tryd.underlying41 ji jz0 jz1 jz2 rfl (by omega) _ out3.length _ rfl (hown2.alloc _) ⟨w2.heap.size, 0, none⟩ 1 1 [.int .i64 (from_ + q), .int .i64 (from_ + q + to_ - from_), .string ⟨#[]⟩] rfl rfl (World.news_of_block (cs := #[.int .i64 (from_ + q), .int .i64 (from_ + q + to_ - from_), .string ⟨#[]⟩]) (t := 100) (fr := (0, 0)) (heap_alloc_new w2 _)) (by simp [Value.oneCell']) (by omega) (by unfold maxLen; omega) (by omega) (by simp; omega) _ rfl ?_; intro gg cap' w3 hown3 hgrow hat hlt3)
                    go_meet
                    refine ⟨out3 ++ [⟨from_ + q, from_ + q + to_ - from_, ⟨#[]⟩⟩], ?_, ?_, ?_, ?_, ?_, ?_⟩
                    · show _ = _
                      simp
                    · simp
                    · rw [List.length_append, spCells_snoc]; exact hown3
                    · exact (hb12.alloc (by omega) _).grown hgrow (by simp; omega) fun g hg => (hown2.lt g hg).1
                    · exact (hP2.alloc _).grown hgrow fun e => hne p e.symm rfl
                    · intro g hg
                      simp only [Value.ownBlock, Option.some.injEq] at hg
                      subst hg
                      rcases hat with h | h
                      · exact hne _ h
                      · rw [h]; simp only [World.size_alloc]; omega
                case rest =>
                  clear howni hbi hPi hne
                  obtain ⟨out4, Ho4, ho4l, hown, hb, hP, hne⟩ := hcut
                  go_wp2
                  go_roundw
                  case rel =>
                    refine ⟨to_, out4, rfl, by omega, ht2, ?_, by omega, hown, hb, hP, hne⟩
                    show _ = _
                    rw [Ho4.out, List.append_assoc, ← Hds.out, Ho3.out]
                  case measure => simp [intOf]; omega
          · have hfin : Hid (out3 = behindL (a.take (k + 1)) b first) := by
              have h := Ho3.out
              rw [delsL_end b t from_ hlt3, List.append_nil] at h
              show _ = _
              rw [Hst.out, h, Ho2.out, List.append_assoc]
            have hk1 : out3.length ≤ capK (k + 1) := by rw [capK_succ]; omega
            go_wp2_with fail
            go_roundw
            case rel => exact ⟨k + 1, out3, by omega, by go_num, hfin, hk1, hown, hb⟩
            case measure => simp [intOf]; omega
    · obtain rfl : k = a.length := by omega
      rw [List.take_length] at Hout
      go_wp2
      go_ret
      rw [← HN.out]
      exact ⟨u8, by simp, by rw [← Hout.out]; exact own_mono hown (Nat.le_succ _), hbw.trans (hb.mono (by omega))⟩
end Go.Proofs.YtffcfnnbdmihaaaDoor
