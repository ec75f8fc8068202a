/-
  THE WALKS of wire.Frame, of the law's own cut, and of the reader's line.
-/
import Derived.Test.YtccljojceoidhaaDoorShelfW
import Derived.Test.YtccljojceoidhaaDoorTxt
import Derived.Test.YtccljojceoidhaaDoorWA
import Derived.Shelf.Strings.SlTrimAscii
import Derived.Lib.LaidTab
import Derived.Deep.AppendLies
namespace Go.Proofs.YtccljojceoidhaaDoor
open Go.RowKit
open Go.Lib (itoa decDigits_length)

/-- internal/bytealg.MaxLen holds some number -/
def MaxL (w : World) (m : Int) : Prop := w.cell? ⟨3, 0, none⟩ = some (.int .i64 m)
theorem MaxL.lt {w : World} {m : Int} (h : MaxL w m) : 3 < w.heap.size := World.block_lt_of_cell? w ⟨3, 0, none⟩ h
theorem MaxL.below {w w' : World} {B : Nat} {m : Int} (h : MaxL w m) (hb : Below B w w') (hB : 3 < B) : MaxL w' m := (hb.cell (p := ⟨3, 0, none⟩) hB).trans h
/-- the table of powers of ten -/
def Tab10 (w : World) : Prop := Lib.TabIs Tryd.prog w "internal/strconv.uint64pow10" .u64 Lib.pow10Tab
theorem g10 : Tryd.prog.globalNamed "internal/strconv.uint64pow10" = some 2 := by kernel_rfl
theorem Tab10.below {w w' : World} {B : Nat} (h : Tab10 w) (hb : Below B w w') (hB : 2 < B) : Tab10 w' := by
  unfold Tab10 Lib.TabIs World.var? at h ⊢
  rw [g10] at h ⊢
  simp only [Option.bind_some] at h ⊢
  rw [hb.block _ hB]; exact h

theorem below_grow (w : World) (os : Array Obj) : Below w.heap.size w (Go.Sort.grow w os) := by
  refine ⟨rfl, rfl, rfl, by simp [Go.Sort.grow], fun k hk => ?_⟩
  simp [Go.Sort.grow, Array.getElem?_append, hk]

theorem itoa_len (b : Bs) (h : b.length ≤ 1048576) : (itoa b.length).length ≤ 9 := by
  rw [Wire.itoa_nat, decDigits_length]
  exact Wire.nDigits_le 9 _ (by omega) (by omega)
set_option maxRecDepth 100000 in
theorem frame_walk (b : Bs) (w : World) (hT : Tab10 w) (hl : b.length ≤ 1048576) :
    Calls Tryd.prog 15 #[strV b] w fun e w' => e = .returned (strV (Wire.frameL b)) ∧ Below w.heap.size w w' := by
  have hI := Tryd.strconv_Itoa b.length (by omega) (by omega) w hT
  have hD := itoa_len b hl
  have hf : Hid (Wire.frameL b = Wire.hdc ++ itoa b.length ++ [13, 10] ++ [13, 10] ++ b) := by show _ = _; unfold Wire.frameL Wire.crlf; simp
  generalize itoa b.length = D at *
  have e1 : ¬ 9223372036854775807 < 16 + D.length := by omega
  have e2 : ¬ 9223372036854775807 < 16 + D.length + 2 := by omega
  have e3 : ¬ 9223372036854775807 < 16 + D.length + 2 + 2 := by omega
  have e4 : ¬ 9223372036854775807 < 16 + D.length + 2 + 2 + b.length := by omega
  rw [hf.out]
  unfold strV
  go_enter Tryd.func15, Tryd.ntmps15
  go_wp2_with fail
  refine hI.mono ?_
  rintro e w' ⟨rfl, k, os, rfl⟩
  go_wp2_with fail
  go_ret
  refine ⟨?_, (below_drewN (Below.refl _ _) k).trans (show Below (w.drewN k).heap.size (w.drewN k) _ from below_grow (w.drewN k) os)⟩
  congr 2

def intV (l : List Int) : List Value := l.map fun n => .int .i64 n
theorem Rd.intv {w : World} {B : Nat} {A : Option Addr} {l : List Int} {k : Nat} (h : Rd w B 1 A l.length (intV l)) (hk : k < l.length) :
    ∃ b o, A = some ⟨b, o, none⟩ ∧ b < B ∧ w.cell? ⟨b, o + k, none⟩ = some (.int .i64 l[k]) := by
  obtain ⟨b, o, e, hb, hc⟩ := h.2 (by omega)
  exact ⟨b, o, e, hb, hc k _ (by simp [intV, List.getElem?_eq_getElem hk])⟩
theorem txtV_snoc (l : List Bs) (x : Bs) : txtV (l ++ [x]) = txtV l ++ [strV x] := by simp [txtV]
theorem cuts_len (s : Bs) : ∀ (cs : List Int) (last : Nat), (Wire.cutsM s last cs).length ≤ cs.length + 1
  | [], _ => by simp [Wire.cutsM]
  | c :: cs, last => by
    unfold Wire.cutsM
    split
    · have := cuts_len s cs c.toNat; simp; omega
    · have := cuts_len s cs last; simp; omega

set_option maxHeartbeats 1000000 in
set_option maxRecDepth 100000 in
theorem cut_walk (s : Bs) (A : Option Addr) (c : Nat) (cuts : List Int) (w : World) (hr : Rd w w.heap.size 1 A cuts.length (intV cuts)) (_hs : s.length ≤ 100000000) (hl : cuts.length ≤ 1048576) :
    Calls Tryd.prog 17 #[strV s, .slice A cuts.length c] w fun e w' => ∃ v, e = .returned v ∧ w'.ownsRow w.heap.size 9 1 v (Wire.cutsM s 0 cuts).length (txtV (Wire.cutsM s 0 cuts)) ∧ Below w.heap.size w w' := by
  obtain ⟨i0, ji, jz0, jz1, jz2⟩ := info_parts infoStr
  unfold strV
  go_enter Tryd.func17, Tryd.ntmps17
  go_wp2
  go_loopw [5, 6, 7] (fun v la i wr => ∃ (k last : Nat) (done : List Bs), k ≤ cuts.length ∧ i = .int .i64 k ∧ la = .int .i64 last ∧ last ≤ s.length ∧ done.length ≤ k ∧ wr.ownsRow w.heap.size 9 1 v done.length (txtV done) ∧ Below w.heap.size w wr ∧ Hid (Wire.cutsM s 0 cuts = done ++ Wire.cutsM s last (cuts.drop k))) (fun _ _ i _ => cuts.length - (intOf i).toNat)
  case atStart => exact ⟨0, 0, [], Nat.zero_le _, rfl, rfl, Nat.zero_le _, Nat.le_refl _, World.ownsRow_nil _ _ _ _, Below.refl _ _, (rfl : _ = _)⟩
  case round =>
    obtain ⟨k, last, done, hk, rfl, rfl, hla, hdl, hown, hb, H⟩ := hrel
    have hbs := hb.size
    obtain ⟨Av, cv, rfl⟩ := own_form hown
    by_cases hlt : k < cuts.length
    · obtain ⟨b, o, rfl, hbB, c0⟩ := Rd.intv (hr.below hb) hlt
      have i1 : (0 : Int) ≤ (k : Int) := by omega
      have i2 : (k : Int) < (cuts.length : Int) := by omega
      have Hd : Hid (cuts.drop k = cuts[k] :: cuts.drop (k + 1)) := by show _ = _; rw [List.drop_eq_getElem_cons hlt]
      have hbw : b < wr.heap.size := by omega
      have hne : some b ≠ (Value.slice Av done.length cv).ownBlock := fun e => by have := (hown.lt b e.symm).1; omega
      generalize cuts[k] = x at *
      by_cases hx : (last : Int) ≤ x ∧ x ≤ (s.length : Int)
      · obtain ⟨n, rfl⟩ : ∃ n : Nat, x = n := ⟨x.toNat, by omega⟩
        have d1 : last ≤ n := by omega
        have d2 : n ≤ s.length := by omega
        have e1 : decide ((last : Int) ≤ (n : Int)) = true := by simp; omega
        have e2 : decide (n ≤ s.length) = true := by simp; omega
        have Hc : Hid (Wire.cutsM s last (↑n :: cuts.drop (k + 1)) = (s.take n).drop last :: Wire.cutsM s n (cuts.drop (k + 1))) := by
          show _ = _
          rw [Wire.cutsM, if_pos hx]; simp
        clear hx
        have c1 : (wr.alloc (.cells #[.string ((⟨s.toArray⟩ : ByteArray).extract last n)] 9)).cell? ⟨b, o + k, none⟩ = some (.int .i64 n) := (cell_alloc _ _ _ _ hbw).trans c0
        go_wp2_with (at_builtin; refine wpList_append_lies _ rfl _ _ 22 rfl w.heap.size 9 i0 _ 1 16 Tryd.underlying22 ji jz0 jz1 jz2 rfl (by omega) _ done.length (txtV done) rfl (hown.alloc _) ⟨wr.heap.size, 0, none⟩ 1 1 [.string ((⟨s.toArray⟩ : ByteArray).extract last n)] rfl rfl (World.news_of_block (cs := #[.string ((⟨s.toArray⟩ : ByteArray).extract last n)]) (t := 9) (fr := (0, 0)) (heap_alloc_new wr _)) (by simp [Value.oneCell']) (by omega) (by unfold maxLen; omega) (by omega) (by simp; omega) _ rfl ?_; intro gg cap' w3 hown3 hgrow hat hlt3; have c3 : w3.cell? ⟨b, o + k, none⟩ = some (.int .i64 n) := (hgrow.cell_far _ (by simp; omega) hne).trans c1)
        go_roundw
        case rel =>
          rw [ext_str] at hown3
          exact ⟨k + 1, n, done ++ [(s.take n).drop last], by omega, by go_num, rfl, d2, by simp; omega, by rw [txtV_snoc, List.length_append]; exact hown3, (hb.alloc hbs _).grown hgrow (by simp; omega) (fun g hg => (hown.lt g hg).1), by show _ = _; rw [H.out, Hd.out, Hc.out]; simp⟩
        case measure => simp [intOf]; omega
      · have Hc : Hid (Wire.cutsM s last (x :: cuts.drop (k + 1)) = Wire.cutsM s last (cuts.drop (k + 1))) := by
          show _ = _
          rw [Wire.cutsM, if_neg hx]
        have hx2 : ¬ (last : Int) ≤ x ∨ ((last : Int) ≤ x ∧ ¬ x ≤ (s.length : Int)) := by omega
        clear hx
        rcases hx2 with hx | ⟨hx1, hx2⟩
        · go_wp2
          go_roundw
          case rel => exact ⟨k + 1, last, done, by omega, by go_num, rfl, hla, by omega, hown, hb, by show _ = _; rw [H.out, Hd.out, Hc.out]⟩
          case measure => simp [intOf]; omega
        · go_wp2
          go_roundw
          case rel => exact ⟨k + 1, last, done, by omega, by go_num, rfl, hla, by omega, hown, hb, by show _ = _; rw [H.out, Hd.out, Hc.out]⟩
          case measure => simp [intOf]; omega
    · obtain rfl : k = cuts.length := by omega
      have Hl : Hid (Wire.cutsM s 0 cuts = done ++ [s.drop last]) := by show _ = _; rw [H.out, List.drop_length, Wire.cutsM]
      have hlx : List.take s.length s = s := List.take_length
      go_wp2_with (at_builtin; refine wpList_append_lies _ rfl _ _ 22 rfl w.heap.size 9 i0 _ 1 16 Tryd.underlying22 ji jz0 jz1 jz2 rfl (by omega) _ done.length (txtV done) rfl (hown.alloc _) ⟨wr.heap.size, 0, none⟩ 1 1 [.string ((⟨s.toArray⟩ : ByteArray).extract last s.length)] rfl rfl (World.news_of_block (cs := #[.string ((⟨s.toArray⟩ : ByteArray).extract last s.length)]) (t := 9) (fr := (0, 0)) (heap_alloc_new wr _)) (by simp [Value.oneCell']) (by omega) (by unfold maxLen; omega) (by omega) (by simp; omega) _ rfl ?_; intro gg cap' w3 hown3 hgrow hat hlt3)
      go_ret
      rw [ext_str, hlx] at hown3
      exact ⟨_, rfl, by rw [Hl.out, txtV_snoc, List.length_append]; exact hown3, (hb.alloc hbs _).grown hgrow (by simp; omega) (fun g hg => (hown.lt g hg).1)⟩

end Go.Proofs.YtccljojceoidhaaDoor
