/-
  WALKS: is a text a token alone, a name (package lex; the document's).
-/
import Derived.Test.YtccljojceoidhaaDoorUH
import Derived.Test.YtccljojceoidhaaDoorLQ
namespace Go.Proofs.YtccljojceoidhaaDoor
open Go.RowKit

set_option maxHeartbeats 1000000 in
set_option maxRecDepth 100000 in
theorem alone_walk (s : Bs) (k : Nat) (m : Int) (w : World) (hM : MaxL w m) (hT : T8 w) (hW : WordsIs w) (hl : s.length ≤ 8388608) :
    Calls Tryd.prog 50 #[.string ⟨s.toArray⟩, .int .i64 k] w fun e w' => e = .returned (.bool (Lx.aloneB s k)) ∧ Below w.heap.size w w' := by
  cases s with
  | nil =>
    go_enter Tryd.func50, Tryd.ntmps50
    go_wp2_with fail
    go_ret
    exact ⟨rfl, Below.refl _ _⟩
  | cons a t =>
    have hne : ((a :: t : Bs) == []) = false := rfl
    have hsc := scan_walk (a :: t) m w hM hT hW (by simp) (by omega)
    have hB : Hid (Lx.aloneB (a :: t) k = (decide ((Lx.oneM (a :: t)).1 = k) && decide ((Lx.oneM (a :: t)).2 = (a :: t).length))) := by
      show _ = _; simp [Lx.aloneB]
    generalize Lx.aloneB (a :: t) k = B at *
    have hlen0 : (((⟨(a :: t).toArray⟩ : ByteArray).size : Nat) : Int) = (((a :: t).length : Nat) : Int) := by rw [mk_size]
    generalize hL : (a :: t) = L at *
    generalize Lx.oneM L = X at *
    obtain ⟨x, n⟩ := X
    simp only at hB
    have hsc : Calls Tryd.prog 77 #[.string ⟨L.toArray⟩] w fun e w' => e = .returned (.tuple #[.int .i64 x, .int .i64 n]) ∧ Below w.heap.size w w' := hsc
    have hLe : (L == []) = false := hne
    have HL := Lib.hid hL
    clear hL hne hlen0
    by_cases h1 : x = k
    · by_cases h2 : n = L.length
      · have hR : Hid (B = true) := by show _ = _; rw [hB.out, decide_eq_true h1, decide_eq_true h2]; rfl
        have e1 : ((x : Int) == (k : Int)) = true := by simp [h1]
        have e2 : ((n : Int) == (L.length : Int)) = true := by simp [h2]
        clear h1 h2 hB
        go_enter Tryd.func50, Tryd.ntmps50
        go_wp2_with fail
        refine hsc.mono ?_
        rintro e w2 ⟨rfl, hb2⟩
        go_wp2_with fail
        go_ret
        exact ⟨by rw [hR.out]; rfl, hb2⟩
      · have hR : Hid (B = false) := by show _ = _; rw [hB.out, decide_eq_true h1, decide_eq_false h2]; rfl
        have e1 : ((x : Int) == (k : Int)) = true := by simp [h1]
        have e2 : ((n : Int) == (L.length : Int)) = false := by simp; omega
        clear h1 h2 hB
        go_enter Tryd.func50, Tryd.ntmps50
        go_wp2_with fail
        refine hsc.mono ?_
        rintro e w2 ⟨rfl, hb2⟩
        go_wp2_with fail
        go_ret
        exact ⟨by rw [hR.out]; rfl, hb2⟩
    · have hR : Hid (B = false) := by show _ = _; rw [hB.out, decide_eq_false h1]; rfl
      have e1 : ((x : Int) == (k : Int)) = false := by simp; omega
      clear h1 hB
      go_enter Tryd.func50, Tryd.ntmps50
      go_wp2_with fail
      refine hsc.mono ?_
      rintro e w2 ⟨rfl, hb2⟩
      go_wp2_with fail
      go_ret
      exact ⟨by rw [hR.out]; rfl, hb2⟩

def nameB (s : Bs) : Bool := decide (s.length ≤ 40) && Lx.aloneB s 3
set_option maxHeartbeats 1000000 in
set_option maxRecDepth 100000 in
theorem lname_walk (s : Bs) (m : Int) (w : World) (hM : MaxL w m) (hT : T8 w) (hW : WordsIs w) (hl : s.length ≤ 8388608) :
    Calls Tryd.prog 27 #[.string ⟨s.toArray⟩] w fun e w' => e = .returned (.bool (nameB s)) ∧ Below w.heap.size w w' := by
  have ha : Calls Tryd.prog 50 #[.string ⟨s.toArray⟩, .int .i64 3] w fun e w' => e = .returned (.bool (Lx.aloneB s 3)) ∧ Below w.heap.size w w' := alone_walk s 3 m w hM hT hW hl
  have hR : Hid (nameB s = (decide (s.length ≤ 40) && Lx.aloneB s 3)) := rfl
  generalize nameB s = B at *
  generalize Lx.aloneB s 3 = Q at *
  by_cases h : s.length ≤ 40
  · have h1 : (s.length : Int) ≤ 40 := by omega
    have hR2 : Hid (B = Q) := by show _ = _; rw [hR.out, decide_eq_true h]; rfl
    clear h hR
    go_enter Tryd.func27, Tryd.ntmps27
    go_wp2_with fail
    refine ha.mono ?_
    rintro e w2 ⟨rfl, hb2⟩
    go_wp2_with fail
    go_ret
    exact ⟨by rw [hR2.out]; rfl, hb2⟩
  · have h1 : ¬ (s.length : Int) ≤ 40 := by omega
    have hR2 : Hid (B = false) := by show _ = _; rw [hR.out, decide_eq_false h]; rfl
    clear h hR
    go_enter Tryd.func27, Tryd.ntmps27
    go_wp2_with fail
    go_ret
    exact ⟨by rw [hR2.out]; rfl, Below.refl _ _⟩

/-- what the document asks of the row of tokens -/
theorem alone_no (s : Bs) (k : Nat) (h : Lx.aloneB s k = false) (hl : (Lx.tokR 0 s).length = 1) : ∃ x y z, Lx.tokR 0 s = [(x, y, z)] ∧ x ≠ k := by
  match hR : Lx.tokR 0 s, hl with
  | [(x, y, z)], _ =>
    refine ⟨x, y, z, rfl, fun e => ?_⟩
    subst e
    have hne : s ≠ [] := by rintro rfl; rw [Lx.tokR_nil] at hR; cases hR
    have hy : y = 0 := by rw [Lx.tokR_cons 0 hne] at hR; injection hR with h1 _; injection h1 with _ h2; injection h2 with h3 _; exact h3.symm
    subst hy
    rw [(Lx.alone_tok s x).2 ⟨z, hR⟩] at h
    cases h
set_option maxHeartbeats 1000000 in
set_option maxRecDepth 100000 in
theorem rname_walk (s : Bs) (w : World) (hl : s.length ≤ 8388608) :
    Calls Tryd.prog 31 #[.string ⟨s.toArray⟩] w fun e w' => e = .returned (.bool (nameB s)) ∧ Below w.heap.size w w' := by
  have hr := rtokens_walk s w hl
  have hB : Hid (nameB s = (decide (s.length ≤ 40) && Lx.aloneB s 3)) := rfl
  generalize nameB s = B at *
  by_cases h : s.length ≤ 40
  · have h1 : (s.length : Int) ≤ 40 := by omega
    cases hq : Lx.aloneB s 3 with
    | true =>
      have hB2 : Hid (B = true) := by show _ = _; rw [hB.out, decide_eq_true h, hq]; rfl
      obtain ⟨n, hn⟩ := (Lx.alone_tok s 3).1 hq
      rw [hn] at hr
      clear hB h hn hq
      go_enter Tryd.func31, Tryd.ntmps31
      go_wp2_with fail
      refine hr.mono ?_
      rintro e w2 ⟨A, c, rfl, hrd, hb2⟩
      obtain ⟨b, o, rfl, _, c0, _, _⟩ := Rd.tk (l := [(3, 0, n)]) (k := 0) hrd (by simp)
      simp at c0
      clear hr hrd
      go_wp2_with fail
      go_ret
      exact ⟨by rw [hB2.out]; rfl, hb2⟩
    | false =>
      have hB2 : Hid (B = false) := by show _ = _; rw [hB.out, hq]; simp
      by_cases hl1 : (Lx.tokR 0 s).length = 1
      · obtain ⟨x, y, z, hx, hne⟩ := alone_no s 3 hq hl1
        rw [hx] at hr
        have e3 : ((x : Int) == 3) = false := by simp; omega
        clear hB h hq hl1 hx hne
        go_enter Tryd.func31, Tryd.ntmps31
        go_wp2_with fail
        refine hr.mono ?_
        rintro e w2 ⟨A, c, rfl, hrd, hb2⟩
        obtain ⟨b, o, rfl, _, c0, _, _⟩ := Rd.tk (l := [(x, y, z)]) (k := 0) hrd (by simp)
        simp at c0
        clear hr hrd
        go_wp2_with fail
        go_ret
        exact ⟨by rw [hB2.out]; rfl, hb2⟩
      · generalize Lx.tokR 0 s = R at *
        have e3 : ((R.length : Int) == 1) = false := by simp; omega
        clear hB h hq hl1
        go_enter Tryd.func31, Tryd.ntmps31
        go_wp2_with fail
        refine hr.mono ?_
        rintro e w2 ⟨A, c, rfl, hrd, hb2⟩
        clear hr hrd
        go_wp2_with fail
        go_ret
        exact ⟨by rw [hB2.out]; rfl, hb2⟩
  · have h1 : ¬ (s.length : Int) ≤ 40 := by omega
    have hB2 : Hid (B = false) := by show _ = _; rw [hB.out, decide_eq_false h]; rfl
    generalize Lx.tokR 0 s = R at *
    clear hB h
    go_enter Tryd.func31, Tryd.ntmps31
    go_wp2_with fail
    refine hr.mono ?_
    rintro e w2 ⟨A, c, rfl, hrd, hb2⟩
    clear hr hrd
    go_wp2_with fail
    go_ret
    exact ⟨by rw [hB2.out]; rfl, hb2⟩
end Go.Proofs.YtccljojceoidhaaDoor
