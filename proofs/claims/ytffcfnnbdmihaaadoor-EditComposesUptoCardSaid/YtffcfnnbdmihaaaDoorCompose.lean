/-
  THE WALKS of edit.Compose and of the law EditComposes.
-/
import Derived.Test.YtffcfnnbdmihaaaDoorFlush
import Derived.Test.YtffcfnnbdmihaaaDoorDoes
import Derived.Test.YtffcfnnbdmihaaaDoorTold
import Derived.Test.YtffcfnnbdmihaaaDoorSame
namespace Go.Proofs.YtffcfnnbdmihaaaDoor.cp
open Go.RowKit

theorem own_cap {w : World} {base : Nat} {e : TypeId} {size n c : Nat} {A : Option Addr} {xs : List Value} (h : w.ownsRow base e size (.slice A n c) n xs) : n ≤ c ∧ (A = none → c = 0) := by
  rcases h.2 with ⟨hv, hn⟩ | ⟨g, cap, cur, hv, _, _, hle, _⟩
  · injection hv with h1 h2 h3
    exact ⟨by omega, fun _ => h3⟩
  · injection hv with h1 h2 h3
    exact ⟨by omega, fun h => by rw [h1] at h; cases h⟩

set_option maxHeartbeats 1000000 in
set_option maxRecDepth 100000 in
theorem compose_bad1 (n : Nat) (f : Nat) (A1 : Option Addr) (c1 : Nat) (a : List Sp) (A2 : Option Addr) (c2 : Nat) (b : List Sp) (w : World) (hr1 : Rd w w.heap.size 3 A1 a.length (spCells a)) (hl1 : a.length ≤ 1048576)
    (hf : f = 1 ∨ f = 2) (h1 : fault n a = f) :
    Calls Tryd.prog 50 #[.int .i64 n, .slice A1 a.length c1, .slice A2 b.length c2] w fun e w' => e = .returned (.tuple #[.slice none 0 0, errV f]) ∧ Below w.heap.size w w' := by
  have H1 := Lib.hid h1
  clear h1
  rcases hf with rfl | rfl
  all_goals
    go_enter Tryd.func50, Tryd.ntmps50
    go_wp2_with fail
    refine (fault_walk _ _ _ _ _ hr1 hl1).mono ?_
    rw [H1.out]
    first | rw [show errV 1 = .iface 97 (.int .i64 1) from rfl] | rw [show errV 2 = .iface 97 (.int .i64 2) from rfl]
    rintro e w1 ⟨rfl, hb1⟩
    go_wp2_with fail
    go_ret2
    exact ⟨rfl, hb1⟩

set_option maxHeartbeats 1000000 in
set_option maxRecDepth 100000 in
theorem compose_bad2 (n : Nat) (f : Nat) (A1 : Option Addr) (c1 : Nat) (a : List Sp) (A2 : Option Addr) (c2 : Nat) (b : List Sp) (w : World) (hr1 : Rd w w.heap.size 3 A1 a.length (spCells a)) (hr2 : Rd w w.heap.size 3 A2 b.length (spCells b)) (hl1 : a.length ≤ 1048576) (hl2 : b.length ≤ 1048576)
    (hn : n ≤ 1048576) (hby : spBytes a ≤ 1048576) (hf : f = 1 ∨ f = 2) (h1 : fault n a = 0) (h2 : fault (n + grow a) b = f) :
    Calls Tryd.prog 50 #[.int .i64 n, .slice A1 a.length c1, .slice A2 b.length c2] w fun e w' => e = .returned (.tuple #[.slice none 0 0, errV f]) ∧ Below w.heap.size w w' := by
  have HC := Lib.hid (fault_zero h1).2
  have H1 := Lib.hid h1
  have H2 := Lib.hid h2
  clear h1 h2
  rcases hf with rfl | rfl
  all_goals
    go_enter Tryd.func50, Tryd.ntmps50
    go_wp2_with fail
    refine (fault_walk _ _ _ _ _ hr1 hl1).mono ?_
    rw [H1.out, show errV 0 = .nilIface from rfl]
    rintro e w1 ⟨rfl, hb1⟩
    go_wp2_with fail
    refine (long_walk n _ _ _ _ ((hr1.below hb1).more hb1.size) hl1 hby hn HC.out).mono ?_
    rintro e w2 ⟨rfl, hb2⟩
    have hb12 := hb1.trans (hb2.mono hb1.size)
    go_wp2_with fail
    refine (fault_walk _ _ _ _ _ ((hr2.below hb12).more hb12.size) hl2).mono ?_
    rw [H2.out]
    first | rw [show errV 1 = .iface 97 (.int .i64 1) from rfl] | rw [show errV 2 = .iface 97 (.int .i64 2) from rfl]
    rintro e w3 ⟨rfl, hb3⟩
    go_wp2_with fail
    go_ret2
    exact ⟨rfl, hb12.trans (hb3.mono hb12.size)⟩

set_option maxHeartbeats 2000000 in
set_option maxRecDepth 100000 in
theorem compose_ok (text : List UInt8) (n : Nat) (hnt : n = text.length) (A1 : Option Addr) (c1 : Nat) (a : List Sp) (A2 : Option Addr) (c2 : Nat) (b : List Sp) (w : World) (hr1 : Rd w w.heap.size 3 A1 a.length (spCells a)) (hr2 : Rd w w.heap.size 3 A2 b.length (spCells b))
    (hbk : n + (4 * a.length + spBytes a) + (4 * b.length + spBytes b) ≤ 1048576) (h1 : fault n a = 0) (h2 : fault (applyL text a).length b = 0) :
    Calls Tryd.prog 50 #[.int .i64 n, .slice A1 a.length c1, .slice A2 b.length c2] w fun e w' => ∃ v out, e = .returned (.tuple #[v, .nilIface]) ∧ w'.ownsRow w.heap.size 100 3 v out.length (spCells out) ∧
      fault text.length out = 0 ∧ applyL text out = applyL (applyL text a) b ∧ out.length ≤ 1048576 ∧ spBytes out ≤ 1048576 ∧ Below w.heap.size w w' := by
  subst hnt
  have hca := (fault_zero h1).2
  have HC := Lib.hid hca
  have hal := applyL_len (text := text) (l := a) h1
  have HL := Lib.hid (applyL_long hca)
  have HP := Lib.hid (allP_thm hca)
  have hpl := allP_len text.length a
  have hpb := allP_bytes text.length a
  have H1 := Lib.hid h1
  have H2 := Lib.hid h2
  clear h1 h2 hca
  go_enter Tryd.func50, Tryd.ntmps50
  go_wp2_with fail
  refine (fault_walk _ _ _ _ _ hr1 (by omega)).mono ?_
  rw [H1.out, show errV 0 = .nilIface from rfl]
  rintro e w1 ⟨rfl, hb1⟩
  go_wp2_with fail
  refine (long_walk text.length _ _ _ _ ((hr1.below hb1).more hb1.size) (by omega) (by omega) (by omega) HC.out).mono ?_
  rintro e w2 ⟨rfl, hb2⟩
  have hb12 := hb1.trans (hb2.mono hb1.size)
  go_wp2_with fail
  refine (fault_walk _ _ _ _ _ ((hr2.below hb12).more hb12.size) (by omega)).mono ?_
  rw [← HL.out, H2.out, show errV 0 = .nilIface from rfl]
  rintro e w3 ⟨rfl, hb3⟩
  have hb13 := hb12.trans (hb3.mono hb12.size)
  go_wp2_with fail
  refine (pieces_walk text.length _ _ _ _ ((hr1.below hb13).more hb13.size) (by omega) (by omega) HC.out).mono ?_
  rintro e w4 ⟨v4, rfl, hown4, hb4⟩
  have hb14 := hb13.trans (hb4.mono hb13.size)
  generalize allP text.length a = P at *
  obtain ⟨PA, pc, rfl⟩ := own_form hown4
  have hpc := own_cap hown4
  have hR4 := Rd.of_own hown4
  go_wp2_with fail
  refine (over_walk text (applyL text a) PA pc P _ _ b w4 hR4 hpc.1 hpc.2 ((hr2.below hb14).more hb14.size) HP.out.1 HP.out.2 (fault_zero H2.out).2 (by omega) (by omega) (by omega) (by omega)).mono ?_
  rintro e w5 ⟨v5, out, rfl, hown5, hs5, hm5, hl5, hy5, hb5⟩
  have Hm5 := Lib.hid hm5
  clear hm5
  have hb15 := hb14.trans (hb5.mono hb14.size)
  obtain ⟨QA, qc, rfl⟩ := own_form hown5
  have hR5 := Rd.of_own hown5
  go_wp2_with fail
  refine (mspans_walk text QA qc out w5 hR5 hs5 (by omega) (by omega) (by omega)).mono ?_
  rintro e w6 ⟨v6, c, rfl, hown6, hf6, hm6, hl6, hy6, hb6⟩
  have Hf6 := Lib.hid hf6
  have Hm6 := Lib.hid hm6
  clear hf6 hm6
  go_wp2_with fail
  go_ret2
  exact ⟨v6, c, rfl, own_mono hown6 hb15.size, Hf6.out, by rw [Hm6.out, Hm5.out], by omega, by omega, hb15.trans (hb6.mono hb15.size)⟩

set_option maxHeartbeats 4000000 in
set_option maxRecDepth 100000 in
theorem editComposes_walk (s : ByteArray) (A1 : Option Addr) (c1 : Nat) (a : List Sp) (A2 : Option Addr) (c2 : Nat) (b : List Sp) (w : World) (hg : ErrT w) (hr1 : Rd w w.heap.size 3 A1 a.length (spCells a)) (hr2 : Rd w w.heap.size 3 A2 b.length (spCells b))
    (hbk : s.size + (4 * a.length + spBytes a) + (4 * b.length + spBytes b) ≤ 1048576) :
    Calls Tryd.prog 10 #[.string s, .slice A1 a.length c1, .slice A2 b.length c2] w fun e w' => e = .returned (.bool true) ∧ Below w.heap.size w w' := by
  go_enter Tryd.func10, Tryd.ntmps10
  go_wp2_with fail
  refine (spans_walk _ _ _ _ hr1 (by omega)).mono ?_
  rintro e w1 ⟨v1, rfl, ho1, hb1⟩
  obtain ⟨B1, d1, rfl⟩ := own_form ho1
  have hR1 := Rd.of_own ho1
  clear ho1
  go_wp2_with fail
  refine (spans_walk _ _ _ _ ((hr2.below hb1).more hb1.size) (by omega)).mono ?_
  rintro e w2 ⟨v2, rfl, ho2, hb2⟩
  have hb12 := hb1.trans (hb2.mono hb1.size)
  obtain ⟨B2, d2, rfl⟩ := own_form ho2
  have hR2 := Rd.of_own ho2
  have hR1' := (hR1.below hb2).more hb2.size
  clear ho2 hR1
  go_wp2_with fail
  have hds := dlen s
  have HD := Lib.hid hds
  clear hds
  rcases fault_cases s.size a with hbad | hok
  · obtain ⟨f, hf, hfa⟩ : ∃ f, (f = 1 ∨ f = 2) ∧ fault s.size a = f := ⟨_, hbad, rfl⟩
    have Hfa := Lib.hid hfa
    clear hfa hbad
    refine (rapply_bad s _ _ _ _ hR1' (by omega) (by rw [Hfa.out]; exact hf)).mono ?_
    rw [Hfa.out]
    rintro e w3 ⟨rfl, hb3⟩
    have hb13 := hb12.trans (hb3.mono hb12.size)
    rcases hf with rfl | rfl
    all_goals
      go_wp2_with fail
      refine (compose_bad1 s.size _ _ _ a _ _ b _ ((hr1.below hb13).more hb13.size) (by omega) (by first | exact .inl rfl | exact .inr rfl) Hfa.out).mono ?_
      rintro e w4 ⟨rfl, hb4⟩
      have hb14 := hb13.trans (hb4.mono hb13.size)
      go_wp2_with fail
      refine (error_yes _ _ _ (hg.size hb14) rfl).mono ?_
      rintro e w5 ⟨rfl, hb5⟩
      go_wp2
      go_ret
      exact ⟨rfl, hb14.trans (hb5.mono hb14.size)⟩
  have Hok := Lib.hid hok
  have hal := applyL_len (text := s.data.toList) (l := a) (by rw [HD.out]; exact hok)
  have HL := Lib.hid (applyL_long (text := s.data.toList) (l := a) (by rw [HD.out]; exact (fault_zero hok).2))
  rw [HD.out] at hal
  clear hok
  refine (rapply_ok s _ _ _ _ hR1' (by omega) (by omega) (by omega) Hok.out).mono ?_
  rintro e w3 ⟨rfl, hb3⟩
  have hb13 := hb12.trans (hb3.mono hb12.size)
  have hR2' := (hR2.below hb3).more hb3.size
  generalize hS : (⟨(applyL s.data.toList a).toArray⟩ : ByteArray) = S
  have HS := Lib.hid hS
  have hSz : S.size = (applyL s.data.toList a).length := by rw [← HS.out, mk_size]
  have HSz := Lib.hid hSz
  have hS2 : S.size ≤ 1048576 := by omega
  have HSd : Hid (S.data.toList = applyL s.data.toList a) := by show _ = _; rw [← HS.out]
  clear hS hSz
  go_wp2_with fail
  rcases fault_cases S.size b with hbad | hok2
  · obtain ⟨f, hf, hfb⟩ : ∃ f, (f = 1 ∨ f = 2) ∧ fault S.size b = f := ⟨_, hbad, rfl⟩
    have Hfb := Lib.hid hfb
    clear hfb hbad
    refine (rapply_bad S _ _ _ _ hR2' (by omega) (by rw [Hfb.out]; exact hf)).mono ?_
    rw [Hfb.out]
    rintro e w4 ⟨rfl, hb4⟩
    have hb14 := hb13.trans (hb4.mono hb13.size)
    have Hfb2 : Hid (fault (s.size + grow a) b = f) := by
      show _ = _
      rw [← Hfb.out, HSz.out, HL.out, HD.out]
    rcases hf with rfl | rfl
    all_goals
      go_wp2_with fail
      refine (compose_bad2 s.size _ _ _ a _ _ b _ ((hr1.below hb14).more hb14.size) ((hr2.below hb14).more hb14.size) (by omega) (by omega) (by omega) (by omega) (by first | exact .inl rfl | exact .inr rfl) Hok.out Hfb2.out).mono ?_
      rintro e w5 ⟨rfl, hb5⟩
      have hb15 := hb14.trans (hb5.mono hb14.size)
      go_wp2_with fail
      refine (error_yes _ _ _ (hg.size hb15) rfl).mono ?_
      rintro e w6 ⟨rfl, hb6⟩
      go_wp2
      go_ret
      exact ⟨rfl, hb15.trans (hb6.mono hb15.size)⟩
  have Hok2 := Lib.hid hok2
  clear hok2
  refine (rapply_ok S _ _ _ _ hR2' (by omega) (by omega) (by omega) Hok2.out).mono ?_
  rintro e w4 ⟨rfl, hb4⟩
  have hb14 := hb13.trans (hb4.mono hb13.size)
  go_wp2_with fail
  refine (compose_ok s.data.toList s.size HD.out.symm _ _ a _ _ b _ ((hr1.below hb14).more hb14.size) ((hr2.below hb14).more hb14.size) (by omega) Hok.out (by rw [← HSz.out]; exact Hok2.out)).mono ?_
  rintro e w5 ⟨v5, c, rfl, hown5, hf5, hm5, hl5, hy5, hb5⟩
  have hb15 := hb14.trans (hb5.mono hb14.size)
  rw [HD.out] at hf5
  have Hf5 := Lib.hid hf5
  have Hm5 := Lib.hid hm5
  clear hf5 hm5
  obtain ⟨A5, c5, rfl⟩ := own_form hown5
  have hR5 := Rd.of_own hown5
  clear hown5
  go_wp2_with fail
  refine (error_yes 0 0 _ (hg.size hb15) rfl).mono ?_
  rintro e w6 ⟨rfl, hb6⟩
  have hb16 := hb15.trans (hb6.mono hb15.size)
  have hR6 := (hR5.below hb6).more hb6.size
  go_wp2_with fail
  refine (spans_walk _ _ _ _ hR6 (by omega)).mono ?_
  rintro e w7 ⟨v7, rfl, ho7, hb7⟩
  have hb17 := hb16.trans (hb7.mono hb16.size)
  obtain ⟨A7, c7, rfl⟩ := own_form ho7
  have hR7 := Rd.of_own ho7
  clear ho7
  go_wp2_with fail
  refine (rapply_ok s _ _ _ _ hR7 (by omega) (by omega) (by omega) Hf5.out).mono ?_
  rintro e w8 ⟨rfl, hb8⟩
  have hb18 := hb17.trans (hb8.mono hb17.size)
  rw [Hm5.out, ← HSd.out]
  go_wp2
  go_ret
  exact ⟨by simp, hb18⟩
end Go.Proofs.YtffcfnnbdmihaaaDoor.cp
