/-
  THE WALKS of the laws LexWords and LexQuotes.
-/
import Derived.Test.YtccljojceoidhaaDoorVG
namespace Go.Proofs.YtccljojceoidhaaDoor
open Go.RowKit

theorem unqV_form (s : Bs) : ∃ x b, unqV s = .tuple #[.string x, .bool b] := by
  unfold unqV; split
  · exact ⟨_, _, rfl⟩
  · exact ⟨_, _, rfl⟩

set_option maxHeartbeats 2000000 in
set_option maxRecDepth 100000 in
theorem lexWords_walk (T : ByteArray) (m : Int) (w : World) (hM : MaxL w m) (hT : T8 w) (hW : WordsIs w) (hD : DB w) (hn : T.size ≤ 1048576) :
    Calls Tryd.prog 9 #[.string T] w fun e w' => e = .returned (.bool true) ∧ Below w.heap.size w w' := by
  obtain ⟨s, rfl⟩ : ∃ s : Bs, T = ⟨s.toArray⟩ := ⟨T.data.toList, (Lib.mk_data T).symm⟩
  have hsl : s.length ≤ 1048576 := by have := mk_size s; omega
  have hsl8 : s.length ≤ 8388608 := by omega
  clear hn
  have k1 := word_walk s w hW
  have k2 := fun w1 (hb : Below w.heap.size w w1) => lname_walk s m w1 (hM.below hb hM.lt) (hT.below hb) (hW.below hb) hsl8
  have k3 := fun w1 (hb : Below w.heap.size w w1) => lunquote_walk s m w1 (hM.below hb hM.lt) (hT.below hb) (hW.below hb) hsl8
  have k4 := fun w1 (hb : Below w.heap.size w w1) => lquote_walk s w1 (hD.below hb) hsl
  have k5 := fun w1 => rword_walk s w1
  have k6 := fun w1 => rname_walk s w1 hsl8
  have k7 := fun w1 => runquote_walk s w1 hsl8
  have k8 := fun w1 => rquote_walk s w1 hsl
  obtain ⟨x, b, hx⟩ := unqV_form s
  rw [hx] at k3 k7
  generalize Lx.wordM s = B1 at *
  generalize nameB s = B2 at *
  generalize Lx.quoM s = Q at *
  clear hx hM hT hW hD
  go_enter Tryd.func9, Tryd.ntmps9
  go_wp2_with fail
  refine k1.mono ?_
  rintro e w1 ⟨rfl, hw1⟩
  subst hw1
  have hb := Below.refl w1.heap.size w1
  clear k1
  go_wp2_with fail
  refine (k2 _ hb).mono ?_
  rintro e w2 ⟨rfl, hc⟩
  have hb := hb.trans (hc.mono hb.size)
  clear k2 hc
  go_wp2_with fail
  refine (k3 _ hb).mono ?_
  rintro e w3 ⟨rfl, hc⟩
  have hb := hb.trans (hc.mono hb.size)
  clear k3 hc
  go_wp2_with fail
  refine (k4 _ hb).mono ?_
  rintro e w4 ⟨rfl, hc⟩
  have hb := hb.trans (hc.mono hb.size)
  clear k4 hc
  go_wp2_with fail
  refine (k5 _).mono ?_
  rintro e w5 ⟨rfl, hc⟩
  have hb := hb.trans (hc.mono hb.size)
  clear k5 hc
  go_wp2_with fail
  refine (k6 _).mono ?_
  rintro e w6 ⟨rfl, hc⟩
  have hb := hb.trans (hc.mono hb.size)
  clear k6 hc
  go_wp2_with fail
  refine (k7 _).mono ?_
  rintro e w7 ⟨rfl, hc⟩
  have hb := hb.trans (hc.mono hb.size)
  clear k7 hc
  go_wp2_with fail
  refine (k8 _).mono ?_
  rintro e w8 ⟨rfl, hc⟩
  have hb := hb.trans (hc.mono hb.size)
  clear k8 hc
  go_wp2_with fail
  go_ret
  exact ⟨rfl, hb⟩

set_option maxHeartbeats 2000000 in
set_option maxRecDepth 100000 in
theorem lexQuotes_walk (T : ByteArray) (m : Int) (w : World) (hM : MaxL w m) (hT : T8 w) (hW : WordsIs w) (hD : DB w) (hn : T.size ≤ 1048576) :
    Calls Tryd.prog 10 #[.string T] w fun e w' => e = .returned (.bool true) ∧ Below w.heap.size w w' := by
  obtain ⟨s, rfl⟩ : ∃ s : Bs, T = ⟨s.toArray⟩ := ⟨T.data.toList, (Lib.mk_data T).symm⟩
  have hsl : s.length ≤ 1048576 := by have := mk_size s; omega
  clear hn
  have hq8 : (Lx.quoM s).length ≤ 8388608 := by
    have := quoI_len s
    unfold Lx.quoM
    simp only [List.length_cons, List.length_append, List.length_nil]; omega
  have hal : Lx.aloneB (Lx.quoM s) 6 = true := by
    unfold Lx.aloneB
    rw [Lx.quote_one]
    simp [Lx.quoM]
  have hun : unqV (Lx.quoM s) = .tuple #[.string ⟨s.toArray⟩, .bool true] := by
    have h := unqV_yes (q := Lx.quoI s) (s := Lx.quoM s) rfl hal
    rw [(Lx.quo_all s).2] at h
    exact h
  have htk : Lx.tokR 0 (Lx.quoM s) = [(6, 0, (Lx.quoM s).length)] := by
    rw [Lx.tokR_cons 0 (by simp [Lx.quoM]), Lx.quote_one, List.drop_length, Lx.tokR_nil]
  have k1 := lquote_walk s w hD hsl
  have k2 := fun w1 (hb : Below w.heap.size w w1) => lunquote_walk (Lx.quoM s) m w1 (hM.below hb hM.lt) (hT.below hb) (hW.below hb) hq8
  have k3 := fun w1 (hb : Below w.heap.size w w1) => tokens_walk (Lx.quoM s) m w1 (hM.below hb hM.lt) (hT.below hb) (hW.below hb) hq8
  rw [hun] at k2
  rw [htk] at k3
  generalize Lx.quoM s = Q at *
  clear hun htk hal hM hT hW hD
  go_enter Tryd.func10, Tryd.ntmps10
  go_wp2_with fail
  refine k1.mono ?_
  rintro e w1 ⟨rfl, hb⟩
  clear k1
  go_wp2_with fail
  refine (k2 _ hb).mono ?_
  rintro e w2 ⟨rfl, hc⟩
  have hb := hb.trans (hc.mono hb.size)
  clear k2 hc
  go_wp2_with fail
  refine (k3 _ hb).mono ?_
  rintro e w3 ⟨A, c, rfl, hrd, hc⟩
  have hb := hb.trans (hc.mono hb.size)
  obtain ⟨b, o, rfl, _, c0, _, c2⟩ := Rd.tk (l := [(6, 0, Q.length)]) (k := 0) hrd (by simp)
  simp at c0 c2
  clear k3 hc hrd
  go_wp2_with fail
  go_ret
  exact ⟨rfl, hb⟩
end Go.Proofs.YtccljojceoidhaaDoor
