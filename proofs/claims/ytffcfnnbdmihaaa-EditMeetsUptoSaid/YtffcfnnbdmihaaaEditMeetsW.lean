/-
  THE WALK of the law EditMeets.
-/
import Derived.Test.YtffcfnnbdmihaaaMerge
namespace Go.Proofs.Ytffcfnnbdmihaaa
open Go.RowKit

theorem lives_walk (w : World) : Calls Try.prog 11 #[] w fun e w' => e = .returned (.bool true) ∧ Below w.heap.size w w' := by
  have hr : Rd (w.alloc (.cells #[.int .i64 0, .int .i64 1, .string ⟨#[120]⟩] 43)) (w.alloc (.cells #[.int .i64 0, .int .i64 1, .string ⟨#[120]⟩] 43)).heap.size 3 (some ⟨w.heap.size, 0, none⟩) [(⟨0, 1, ⟨#[120]⟩⟩ : Sp)].length (spCells [⟨0, 1, ⟨#[120]⟩⟩]) := by
    refine ⟨rfl, fun _ => ⟨w.heap.size, 0, rfl, by simp, fun j u hu => ?_⟩⟩
    rw [Blk.cell (Blk.new w 43 #[.int .i64 0, .int .i64 1, .string ⟨#[120]⟩])]
    have : (spCells [⟨0, 1, ⟨#[120]⟩⟩])[j]? = (#[Value.int .i64 0, .int .i64 1, .string ⟨#[120]⟩])[0 + j]? := by
      rw [Nat.zero_add]
      simp [spCells, Sp.cells]
    rw [← this, hu]
  have hap := apply_ok ⟨#[97, 98]⟩ (some ⟨w.heap.size, 0, none⟩) 1 [⟨0, 1, ⟨#[120]⟩⟩] (w.alloc (.cells #[.int .i64 0, .int .i64 1, .string ⟨#[120]⟩] 43)) hr (by simp) (by decide) (by decide) (by decide)
  have e1 : (⟨(applyL (⟨#[97, 98]⟩ : ByteArray).data.toList [⟨0, 1, ⟨#[120]⟩⟩]).toArray⟩ : ByteArray) = ⟨#[120, 98]⟩ := by decide
  rw [e1] at hap
  have Hap := Lib.hid hap
  clear hap hr e1
  have hbz : Below w.heap.size w (w.alloc (.cells #[.int .i64 0, .int .i64 1, .string ⟨#[120]⟩] 43)) := (Below.refl _ _).alloc (Nat.le_refl _) _
  go_enter Try.func11, Try.ntmps11
  go_wp2_with fail
  refine Hap.out.mono ?_
  rintro e w1 ⟨rfl, hb1⟩
  go_wp2
  go_ret
  exact ⟨rfl, hbz.trans (hb1.mono hbz.size)⟩

set_option maxHeartbeats 1000000 in
theorem editMeets_walk (s : ByteArray) (A1 : Option Addr) (c1 : Nat) (a : List Sp) (A2 : Option Addr) (c2 : Nat) (b : List Sp) (w : World) (hr1 : Rd w w.heap.size 3 A1 a.length (spCells a)) (hr2 : Rd w w.heap.size 3 A2 b.length (spCells b))
    (hbk : s.size + (a.length + spBytes a) + (b.length + spBytes b) ≤ 1048576) :
    Calls Try.prog 5 #[.string s, .slice A1 a.length c1, .slice A2 b.length c2] w fun e w' => e = .returned (.bool true) ∧ Below w.heap.size w w' := by
  go_enter Try.func5, Try.ntmps5
  go_wp2_with fail
  refine (lives_walk _).mono ?_
  rintro e w1 ⟨rfl, hb1⟩
  go_wp2_with fail
  have hr11 := (hr1.below hb1).more hb1.size
  have hr21 := (hr2.below hb1).more hb1.size
  rcases fault_cases s.size a with hbad | hok
  · have hv : ∃ v : Int, errV (fault s.size a) = .iface 53 (.int .i64 v) := by rcases hbad with h | h <;> rw [h] <;> exact ⟨_, rfl⟩
    obtain ⟨v, hv⟩ := hv
    have Hv := Lib.hid hv
    have Hbad := Lib.hid hbad
    clear hv hbad
    refine (apply_bad s _ _ _ _ hr11 (by omega) Hbad.out).mono ?_
    rw [Hv.out]
    rintro e w2 ⟨rfl, hb2⟩
    go_wp2
    go_ret
    exact ⟨rfl, hb1.trans (hb2.mono hb1.size)⟩
  have Hok := Lib.hid hok
  clear hok
  refine (apply_ok s _ _ _ _ hr11 (by omega) (by omega) (by omega) Hok.out).mono ?_
  rintro e w2 ⟨rfl, hb2⟩
  have hb12 := hb1.trans (hb2.mono hb1.size)
  have hr12 := (hr1.below hb12).more hb12.size
  have hr22 := (hr2.below hb12).more hb12.size
  have hla := applyL_len (text := s.data.toList) (l := a) (by rw [dlen]; exact Hok.out)
  generalize hsa : (⟨(applyL s.data.toList a).toArray⟩ : ByteArray) = sa
  have Hsa := Lib.hid hsa
  have hsas : sa.size ≤ s.size + spBytes a := by rw [← hsa]; rw [dlen] at hla; exact hla
  clear hsa hla
  go_wp2_with fail
  rcases fault_cases s.size b with hbad | hok2
  · have hv : ∃ v : Int, errV (fault s.size b) = .iface 53 (.int .i64 v) := by rcases hbad with h | h <;> rw [h] <;> exact ⟨_, rfl⟩
    obtain ⟨v, hv⟩ := hv
    have Hv := Lib.hid hv
    have Hbad := Lib.hid hbad
    clear hv hbad
    refine (apply_bad s _ _ _ _ hr22 (by omega) Hbad.out).mono ?_
    rw [Hv.out]
    rintro e w3 ⟨rfl, hb3⟩
    go_wp2
    go_ret
    exact ⟨rfl, hb12.trans (hb3.mono hb12.size)⟩
  have Hok2 := Lib.hid hok2
  clear hok2
  refine (apply_ok s _ _ _ _ hr22 (by omega) (by omega) (by omega) Hok2.out).mono ?_
  rintro e w3 ⟨rfl, hb3⟩
  have hb13 := hb12.trans (hb3.mono hb12.size)
  have hr13 := (hr1.below hb13).more hb13.size
  have hr23 := (hr2.below hb13).more hb13.size
  have hlb := applyL_len (text := s.data.toList) (l := b) (by rw [dlen]; exact Hok2.out)
  generalize hsb : (⟨(applyL s.data.toList b).toArray⟩ : ByteArray) = sb
  have Hsb := Lib.hid hsb
  have hsbs : sb.size ≤ s.size + spBytes b := by rw [← hsb]; rw [dlen] at hlb; exact hlb
  clear hsb hlb
  go_wp2_with fail
  refine (merge_ok s.size _ _ _ _ _ _ _ hr13 hr23 (by omega) (by omega) (by omega) Hok.out Hok2.out).mono ?_
  rintro e w4 ⟨X, cx, Y, cy, rfl, hrx, hry, hb4⟩
  have hb14 := hb13.trans (hb4.mono hb13.size)
  have hxb := behindL_bytes (plainL a) (plainL b) true
  have hyb := behindL_bytes (plainL b) (plainL a) false
  have hpa := plainL_le a
  have hpb := plainL_le b
  have hca : Chain s.data.toList.length 0 a := by rw [dlen]; exact (fault_zero Hok.out).2
  have hcb : Chain s.data.toList.length 0 b := by rw [dlen]; exact (fault_zero Hok2.out).2
  have HX := Lib.hid (merge_x hca hcb)
  have HY := Lib.hid (merge_y hca hcb)
  clear hca hcb
  have hxl := behindL_len (plainL b) true (plainL_spec (fault_zero Hok.out).2).1
  have hyl := behindL_len (plainL a) false (plainL_spec (fault_zero Hok2.out).2).1
  have hfx : fault sb.size (behindL (plainL a) (plainL b) true) = 0 := by
    have := HX.out.1
    rwa [← Hsb.out, mk_size]
  have hfy : fault sa.size (behindL (plainL b) (plainL a) false) = 0 := by
    have := HY.out.1
    rwa [← Hsa.out, mk_size]
  have hxe : applyL sb.data.toList (behindL (plainL a) (plainL b) true) = bothL s.data.toList a b := by rw [← Hsb.out]; exact HX.out.2
  have hye : applyL sa.data.toList (behindL (plainL b) (plainL a) false) = bothL s.data.toList a b := by rw [← Hsa.out]; exact HY.out.2
  generalize behindL (plainL a) (plainL b) true = x at *
  generalize behindL (plainL b) (plainL a) false = y at *
  generalize bothL s.data.toList a b = both at *
  have hxl2 : x.length ≤ 1048576 := by omega
  have hyl2 : y.length ≤ 1048576 := by omega
  have hxb2 : spBytes x ≤ 1048576 := by omega
  have hyb2 : spBytes y ≤ 1048576 := by omega
  have hsa2 : sa.size ≤ 1048576 := by omega
  have hsb2 : sb.size ≤ 1048576 := by omega
  have Hfx := Lib.hid hfx
  have Hfy := Lib.hid hfy
  have Hxe := Lib.hid hxe
  have Hye := Lib.hid hye
  clear hfx hfy hxe hye hxl hyl hxb hyb hpa hpb HX HY
  go_wp2_with fail
  refine (apply_ok sb _ _ _ _ hrx hxl2 hsb2 hxb2 Hfx.out).mono ?_
  rintro e w5 ⟨rfl, hb5⟩
  have hb15 := hb14.trans (hb5.mono hb14.size)
  have hry5 := (hry.below hb5).more hb5.size
  rw [Hxe.out]
  go_wp2_with fail
  refine (apply_ok sa _ _ _ _ hry5 hyl2 hsa2 hyb2 Hfy.out).mono ?_
  rintro e w6 ⟨rfl, hb6⟩
  rw [Hye.out]
  go_wp2
  go_ret
  exact ⟨by simp, hb15.trans (hb6.mono hb15.size)⟩
end Go.Proofs.Ytffcfnnbdmihaaa
