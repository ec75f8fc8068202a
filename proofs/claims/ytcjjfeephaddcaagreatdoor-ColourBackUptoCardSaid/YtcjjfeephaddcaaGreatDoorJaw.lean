/-
  JOINED of the texts CK OpenT OpenF LaidW LaidL LaidK
-/
import Derived.Test.YtcjjfeephaddcaaGreatDoorJav
import Derived.ProofKit
import Derived.OpenShut
import Derived.JoinedCond
import Derived.Deep.Fields
import Derived.ChangeSame
import Derived.SliceStrings
import Derived.PinnedBridge
import Derived.Lib.LaidU8
import Derived.Lib.LaidIn
import Derived.RowKitTokens
import Derived.LaidLaws
import Derived.Stop.Joined
import Derived.Stop.LaidErr
import Derived.Shelf.Vars
set_option linter.all false
namespace Go.Proofs.YtcjjfeephaddcaaGreatDoor
open Go.RowKit Go.Maps
set_option maxRecDepth 100000 in
theorem live2_uses : Sc.usesM (Sc.wkM [([97], [120])]) = [] := by decide
set_option maxRecDepth 100000 in
theorem live2_fault : Sc.faultM [([97], [120])] = 0 := by decide
set_option maxRecDepth 100000 in
theorem live2_toks : Lx.tokR 0 [120] = [(3, 0, 1)] := by decide
theorem app_one {α : Type} {l : List α} {t x : α} (h : l ++ [t] = [x]) : l = [] ∧ t = x := by
 cases l with
 | nil => simpa using h
 | cons y ys => simp at h
theorem ColI.empty {us : List Sc.Us} {f : Nat} {s : List UInt8} {a b : Nat} {cs : List Co} (h : ColI us f s [] a b cs) : cs = [] := by
 have := h.len
 simpa using this
theorem ColI.single {f : Nat} {s : List UInt8} {L : List Tk} {a b : Nat} {cs : List Co} (h : ColI [] f s L a b cs) (hL : L = [(3, 0, 1)]) : ∃ l u n, cs = [⟨l, u, n, 13⟩] := by
 cases h with
 | nil => cases hL
 | skip h1 h2 =>
  obtain ⟨_, rfl⟩ := app_one hL
  cases h2
 | push h1 h2 h3 h4 =>
  obtain ⟨rfl, rfl⟩ := app_one hL
  rw [h1.empty]
  exact ⟨_, _, _, rfl⟩
theorem ColI.few {us : List Sc.Us} {f : Nat} {s : List UInt8} {a b : Nat} {cs : List Co} (h : ColI us f s (Lx.tokR 0 s) a b cs) : cs.length ≤ s.length := by
 rw [h.len]
 exact Nat.le_trans (List.length_filter_le _ _) (Lx.tokR_len s.length 0 s (Nat.le_refl _))
theorem Rd.zero {w : World} {B size n : Nat} {A : Option Addr} {xs : List Value} (h : Rd w B size A n xs) : A = none → n = 0 := fun e => by
 rcases Nat.eq_zero_or_pos n with h0 | h0
 ·exact h0
 ·obtain ⟨b, o, e2, _⟩ := h.2 h0
  rw [e] at e2; cases e2
theorem own_put {w : World} {base : Nat} {e : TypeId} {size n g cap : Nat} {xs : List Value} (h : w.ownsRow base e size (.slice (some ⟨g, 0, none⟩) n cap) n xs) (i : Nat) (u : Value) : (w.setCell ⟨g, i, none⟩ u).ownsRow base e size (.slice (some ⟨g, 0, none⟩) n cap) n (xs.set i u) := by
 obtain ⟨h1, h2⟩ := h
 rcases h2 with ⟨h2, _⟩ | ⟨g', cap', cur, h2, h3, h4, h5, h6, h7, h8⟩
 ·cases h2
 ·injection h2 with h2 _ h9
  injection h2 with h2
  injection h2 with h2
  subst h2 h9
  have hB : Blk w g e cur := h4
  refine ⟨by rw [List.length_set]; exact h1, .inr ⟨g, cap, _, rfl, h3, hB.set_ i u, h5, h6, by rw [Array.size_setIfInBounds]; exact h7, ?_⟩⟩
  rw [Array.toList_setIfInBounds, List.take_set, h8]
theorem own_fz {w : World} {base : Nat} {e : TypeId} {size n g cap : Nat} {xs : List Value} (h : w.ownsRow base e size (.slice (some ⟨g, 0, none⟩) n cap) n xs) (i : Nat) : w.frozen? ⟨g, i, none⟩ = false := by
 obtain ⟨h1, h2⟩ := h
 rcases h2 with ⟨h2, _⟩ | ⟨g', cap', cur, h2, h3, h4, h5, h6, h7, h8⟩
 ·cases h2
 ·injection h2 with h2 _ h9
  injection h2 with h2
  injection h2 with h2
  subst h2 h9
  have hB : Blk w g e cur := h4
  exact hB.frozen i
theorem fl_len : ∀ l : List Fl, (l.flatMap flC).length = l.length * 2
 | [] => rfl
 | f :: l => by
  have := fl_len l
  rw [List.flatMap_cons, List.length_append, this, List.length_cons]; show 2 + _ = _; omega
theorem fl_one : ∀ (l : List Fl), ∀ u ∈ l.flatMap flC, u.oneCell' = true := by
 intro l u hu
 obtain ⟨f, _, hf⟩ := List.mem_flatMap.1 hu
 simp [flC] at hf
 rcases hf with rfl | rfl <;> rfl
theorem fl_set : ∀ (fs : List Fl) (k : Nat) (h : k < fs.length) (tx : Bs), (fs.flatMap flC).set (k * 2 + 1) (.string ⟨tx.toArray⟩) = (fs.set k (fs[k].1, tx)).flatMap flC
 | f :: fs, 0, _, tx => rfl
 | f :: fs, k + 1, h, tx => by
  have ih := fl_set fs k (by simpa using h) tx
  have e : (k + 1) * 2 + 1 = (k * 2 + 1) + 1 + 1 := by omega
  rw [e, List.set_cons_succ, List.flatMap_cons, List.flatMap_cons, List.getElem_cons_succ, ← ih]
  rfl
theorem infoFl : (Tryz.prog.info? 66).map (fun i => (i.zero, i.size, i.bytes)) = some (some (.agg #[.string ⟨#[]⟩, .string ⟨#[]⟩]), 2, 32) := by kernel_rfl
set_option maxHeartbeats 4000000 in
set_option maxRecDepth 100000 in
theorem lives2_walk {w : World} {m : Int} (hM : MaxL w m) (hT : T8 w) (hW : WordsIs w) (hK : K9 w) : Calls Tryz.prog 26 #[] w fun e w' => e = .returned (.bool true) ∧ Below w.heap.size w w' := by
 have hd : Below w.heap.size w (w.alloc (.cells #[.string ⟨#[97]⟩, .string ⟨#[120]⟩] 66)) := (Below.refl _ _).alloc (Nat.le_refl _) _
 have hn := Blk.new w 66 #[.string ⟨#[97]⟩, .string ⟨#[120]⟩]
 obtain ⟨b, hb⟩ : ∃ b, b = w.heap.size := ⟨_, rfl⟩
 rw [← hb] at hn
 have hrs := fun (w1 : World) (h1 : FlR w1 (some ⟨b, 0, none⟩) [([97], [120])]) (hd1 : Below w.heap.size w w1) => colours_walk (c := 1) h1 (hM.below hd1 hM.lt) (hT.below hd1) (hW.below hd1) (hK.below hd1) (by intro f hf; rw [List.mem_singleton] at hf; subst hf; simp) (by simp) 0
 rw [live2_fault, live2_uses] at hrs
 have HT := Lib.hid live2_toks
 clear hM hT hW hK
 go_enter Tryz.func26, Tryz.ntmps26
 go_wp2_with fail
 rw [← hb]
 have hfr : FlR (w.alloc (.cells #[.string ⟨#[97]⟩, .string ⟨#[120]⟩] 66)) (some ⟨b, 0, none⟩) [([97], [120])] := by
  refine ⟨by simp [flC], fun _ => ⟨b, 0, rfl, hn.lt, fun j v hj => ?_⟩⟩
  match j, hj with
  | 0, hj => have := hn.cell 0; simp [flC] at hj; simpa [← hj] using this
  | 1, hj => have := hn.cell 1; simp [flC] at hj; simpa [← hj] using this
  | j + 2, hj => simp [flC] at hj
 have hr := hrs _ hfr hd
 clear hrs hfr hn
 clear hb
 generalize w.alloc (.cells #[.string ⟨#[97]⟩, .string ⟨#[120]⟩] 66) = w1 at *
 refine hr.mono ?_
 clear hr
 rintro e2 w2 ⟨hd2, _, _, h0⟩
 obtain ⟨A, la, lb, cs, rfl, hC, hR⟩ := h0 rfl 0 ([97], [120]) rfl rfl
 dsimp only at hC
 rw [HT.out] at hC
 obtain ⟨l, u, n, rfl⟩ := hC.single rfl
 obtain ⟨br, o, rfl, hbl, hc⟩ := hR.2 (by simp)
 have c3 := hc 3 (.int .i64 13) rfl
 simp only [List.length_singleton] at c3 ⊢
 clear hR hc hC h0
 go_wp2_with fail
 go_ret
 exact ⟨rfl, hd.trans (hd2.mono hd.size)⟩
set_option maxHeartbeats 16000000 in
set_option maxRecDepth 100000 in
theorem colourBack_walk {w : World} {A : Option Addr} {c : Nat} {fs : List Fl} {m : Int} (hr : FlR w A fs) (hM : MaxL w m) (hT : T8 w) (hW : WordsIs w) (hK : K9 w) (hn : ∀ f ∈ fs, f.1.length ≤ 8388608) (hcap : fs.length ≤ c) (hfl : fs.length ≤ 1048576) (f : Int) (tx : Bs) :
  Calls Tryz.prog 8 #[.slice A fs.length c, .int .i64 f, .string ⟨tx.toArray⟩] w fun e w' => e = .returned (.bool true) ∧ Below w.heap.size w w' := by
 obtain ⟨ij, ji, jz0, jz1, jz2⟩ := info_parts infoFl
 have hlv := lives2_walk hM hT hW hK
 have Hc1 := Lib.hid fun (w1 : World) (hd1 : Below w.heap.size w w1) => colours_walk (hr.below hd1) (hM.below hd1 hM.lt) (hT.below hd1) (hW.below hd1) (hK.below hd1) hn hcap f
 have Hc2 := Lib.hid fun (fs2 : List Fl) (A2 : Option Addr) (c2 : Nat) (w1 : World) (hd1 : Below w.heap.size w w1) (hr2 : FlR w1 A2 fs2) (hn2 : ∀ f ∈ fs2, f.1.length ≤ 8388608) (hcap2 : fs2.length ≤ c2) => colours_walk hr2 (hM.below hd1 hM.lt) (hT.below hd1) (hW.below hd1) (hK.below hd1) hn2 hcap2 f
 have Hn := Lib.hid hn
 have Hr := Lib.hid hr
 have Hfl := Lib.hid hfl
 clear hr hM hT hW hK hn hcap hfl
 go_enter Tryz.func8, Tryz.ntmps8
 go_wp2_with fail
 refine hlv.mono ?_
 clear hlv
 rintro e1 w1 ⟨rfl, hd1⟩
 have hcl := Hc1.out w1 hd1
 clear Hc1
 have HZ := Lib.hid (@Sc.fault_zero fs)
 generalize hR : Sc.faultM fs = R at *
 clear hR
 generalize Sc.usesM (Sc.wkM fs) = us at *
 go_wp2_with fail
 refine hcl.mono ?_
 clear hcl
 rintro e2 w2 ⟨hd2, h1, h0, hk⟩
 have hd12 := hd1.trans (hd2.mono hd1.size)
 clear hd1 hd2
 cases R with
 | succ R =>
  obtain rfl := h1 (by omega)
  clear h1 h0 hk
  unfold errV
  go_wp2_with fail
  go_ret
  exact ⟨rfl, hd12⟩
 | zero =>
  clear h1
  by_cases hneg : f < 0
  ·obtain rfl := h0 rfl (.inl hneg)
   clear h0 hk
   unfold errV
   go_wp2_with fail
   go_ret
   exact ⟨rfl, hd12⟩
  by_cases hge : (fs.length : Int) ≤ f
  ·obtain rfl := h0 rfl (.inr hge)
   clear h0 hk
   unfold errV
   go_wp2_with fail
   go_ret
   exact ⟨rfl, hd12⟩
  clear h0
  obtain ⟨k, rfl⟩ : ∃ k : Nat, f = k := ⟨f.toNat, by omega⟩
  have hkf : k < fs.length := by omega
  have hk0 : (0 : Int) ≤ (k : Int) := by omega
  have hk1 : (k : Int) < (fs.length : Int) := by omega
  obtain ⟨A1, la, lb, cs, rfl, hC1, hR1⟩ := hk rfl k fs[k] rfl (List.getElem?_eq_getElem hkf)
  have Hk := Lib.hid hkf
  have Htx1 := Lib.hid ((HZ.out rfl).2 fs[k] (List.getElem_mem hkf))
  clear HZ
  have HC1 := Lib.hid hC1
  obtain ⟨br, o, e, _, _, _⟩ := Hr.out.at_ hkf
  subst e
  have hO := World.ownsRow_lit (base := w2.heap.size) (e := 66) (size := 2) w2 #[] 0 (Nat.le_refl _) (by unfold maxLen; omega) rfl
  have hs2 : FlR w2 (some ⟨br, o, none⟩) fs := Hr.out.below hd12
  have hd3 : Below w2.heap.size w2 (w2.alloc (.cells #[] 66)) := (Below.refl _ _).alloc (Nat.le_refl _) _
  have hsrc : ∀ j u, (fs.flatMap flC)[j]? = some u → (w2.alloc (.cells #[] 66)).cell? ((⟨br, o, none⟩ : Addr).add j) = some u := fun j u hu => by
   obtain ⟨b, o2, e, hlt, hc⟩ := hs2.2 (by omega)
   injection e with e
   injection e with e1 e2
   subst e1 e2
   have h4 := hc j u hu
   have e2 : (⟨br, o, none⟩ : Addr).add j = ⟨br, o + j, none⟩ := by
    unfold Addr.add
    split
    ·rename_i h0; subst h0; rfl
    ·rfl
   rw [e2, World.cell?_of_block (a := ⟨br, o + j, none⟩) (Below.heap_alloc w2 _ _ hlt)]
   exact h4
  have Hsrc := Lib.hid hsrc
  have hfl := fl_len fs
  have hf1 := Hfl.out
  clear hk hneg hge hC1 hsrc
  go_wp2_with (at_builtin; refine wpList_append_own _ rfl _ _ 22 rfl w2.heap.size 66 ij _ 2 32 Tryz.underlying22 ji jz0 jz1 jz2 rfl (by omega) _ 0 _ rfl hO ⟨br, o, none⟩ fs.length c (fs.flatMap flC) rfl hfl Hsrc.out (fl_one fs) (by unfold maxLen; omega) (by omega) (by simp) ?_; intro v' w4 hown4 hgrow _; rw [Nat.zero_add] at hown4; rw [List.nil_append] at hown4; obtain ⟨g, cap, rfl, _, _⟩ := hown4.form (Nat.lt_of_le_of_lt (Nat.zero_le _) Hk.out); have fz := own_fz hown4 (k * 2 + 1); have hF4 : FlR w4 (some ⟨g, 0, none⟩) fs := Rd.of_own hown4; obtain ⟨b5, o5, e5, _, _, q1⟩ := hF4.at_ Hk.out; injection e5 with e5; injection e5 with e6 e7; subst e6 e7; rw [Nat.zero_add] at q1)
  have hown5 := own_put hown4 (k * 2 + 1) (.string ⟨tx.toArray⟩)
  rw [fl_set fs k Hk.out tx] at hown5
  have hd4 := (hd3.grown hgrow hd3.size fun g hg => (hO.lt g hg).1).setCell (p := ⟨g, k * 2 + 1, none⟩) (hown4.lt g rfl).1 (.string ⟨tx.toArray⟩)
  have hn2 : ∀ x ∈ fs.set k (fs[k].1, tx), x.1.length ≤ 8388608 := fun x hx => by
   rcases List.mem_or_eq_of_mem_set hx with hx | rfl
   ·exact Hn.out x hx
   ·exact Hn.out fs[k] (List.getElem_mem Hk.out)
  have hl2 : (fs.set k (fs[k].1, tx)).length = fs.length := List.length_set
  have hk2 : (fs.set k (fs[k].1, tx))[k]? = some (fs[k].1, tx) := List.getElem?_set_self Hk.out
  generalize fs.set k (fs[k].1, tx) = F2 at *
  generalize fs[k] = x at *
  obtain ⟨Av5, cv5, e5, hcap5, _⟩ := own_cap hown5
  injection e5 with _ _ e6
  subst e6
  generalize w4.setCell ⟨g, k * 2 + 1, none⟩ (.string ⟨tx.toArray⟩) = w5 at *
  have hF5 : FlR w5 (some ⟨g, 0, none⟩) F2 := by
   have := Rd.of_own hown5
   show Rd _ _ _ _ _ _
   rw [hl2]
   exact this
  have hd15 := hd12.trans (hd4.mono hd12.size)
  have hcl := Hc2.out F2 (some ⟨g, 0, none⟩) cap w5 hd15 hF5 hn2 (by rw [hl2]; exact hcap5)
  rw [hl2] at hcl
  have hR5 := (hR1.below hd4).more hd4.size
  have Hl2 := Lib.hid hl2
  have Hk2 := Lib.hid hk2
  have HZ := Lib.hid (@Sc.fault_zero F2)
  generalize hR : Sc.faultM F2 = R at *
  clear hR
  generalize Sc.usesM (Sc.wkM F2) = us2 at *
  clear hown5 hown4 hgrow hO hd3 hs2 Hsrc hF4 hF5 hn2 hl2 hk2 hcap5 hR1 hd4 fz q1 Hc2 hfl hf1 hd12 hkf
  refine hcl.mono ?_
  clear hcl
  rintro e6 w6 ⟨hd6, h1, _, hk⟩
  have hd16 := hd15.trans (hd6.mono hd15.size)
  have hR6 := (hR5.below hd6).more hd6.size
  clear hd6 hR5 hd15
  cases R with
  | succ R =>
   obtain rfl := h1 (by omega)
   clear h1 hk
   unfold errV
   go_wp2_with fail
   go_ret
   exact ⟨rfl, hd16⟩
  | zero =>
   obtain ⟨A2, lc, le, cs2, rfl, hC2, hR2⟩ := hk rfl k (x.1, tx) rfl Hk2.out
   have htx2 := (HZ.out rfl).2 _ (List.mem_of_getElem? Hk2.out)
   dsimp only at htx2
   have hl1 : cs.length ≤ 1048576 := by have h1 := HC1.out.few; have h2 := Htx1.out; omega
   have hl2 : cs2.length ≤ 1048576 := by have h1 := hC2.few; dsimp only at h1; omega
   have hdf := diff_walk A1 cs.length cs A2 cs2.length cs2 w6 hR6 hR2 hl1 hl2 (Nat.le_refl _) hR2.zero
   obtain ⟨g1, g2⟩ := pre_le cs cs2
   obtain ⟨g3, g4⟩ := suf_le cs cs2 (pre cs cs2)
   have hPD := patch_diff cs cs2
   generalize pre cs cs2 = p at *
   generalize suf cs cs2 p = sf at *
   have hLl : ((cs2.drop p).take (cs2.length - p - sf)).length = cs2.length - p - sf := by rw [List.length_take, List.length_drop]; omega
   generalize (cs2.drop p).take (cs2.length - p - sf) = L at *
   generalize hm : cs2.length - p - sf = mm at *
   obtain ⟨dr, hdr⟩ : ∃ dr, dr = cs.length - p - sf := ⟨_, rfl⟩
   have ed : (cs.length : Int) - (p : Int) - (sf : Int) = (dr : Int) := by omega
   rw [ed] at hdf
   rw [← hdr] at hPD
   have HPD := Lib.hid hPD
   have Hmm := Lib.hid hm
   have Hl2 := Lib.hid hl2
   have hdp : p + dr ≤ cs.length := by omega
   clear h1 hk hC2 hPD ed hdr hm g1 g2 g3 g4
   go_wp2_with fail
   refine hdf.mono ?_
   clear hdf
   rintro e7 w7 ⟨Av, rfl, hR7, hd7⟩
   have hLm : mm ≤ cs2.length := by have := Hmm.out; omega
   rw [← hLl] at hR7
   have hpo := patch_ok A1 cs.length cs p dr Av mm L w7 ((hR6.below hd7).more hd7.size) hR7 hl1 (by rw [hLl]; omega) (Nat.le_refl _) hR6.zero (fun e => by have := hR7.zero e; omega) hdp
   rw [hLl] at hpo
   have hPe : patchL cs L p dr = cs2 := HPD.out
   rw [hPe] at hpo
   have hR27 := (hR2.below hd7).more hd7.size
   have hd17 := hd16.trans (hd7.mono hd16.size)
   have HLm := Lib.hid hLm
   clear hR7 hR6 hR2 hPe hLl hd7 hd16 hdp hl1 hLm
   go_wp2_with fail
   refine hpo.mono ?_
   clear hpo
   rintro e8 w8 ⟨Aw, rfl, hR8, hd8⟩
   have hR28 := (hR27.below hd8).more hd8.size
   have hd18 := hd17.trans (hd8.mono hd17.size)
   have nm : decide ((cs2.length : Int) < (mm : Int)) = false := by simp; exact HLm.out
   have nm2 : decide (cs2.length < mm) = false := by simp; exact HLm.out
   clear hR27 hd17 hd8
   go_wp2_with fail
   go_loopg [18] cs2.length (fun mz v wr => ∃ i : Nat, v = .int .i64 (i : Int) ∧ i ≤ cs2.length ∧ cs2.length - i ≤ mz ∧ Below w8.heap.size w8 wr)
   case atStart => exact ⟨0, rfl, Nat.zero_le _, Nat.le_refl _, Below.refl _ _⟩
   case round =>
    obtain ⟨i, rfl, hi, hmz, hd⟩ := hrel
    by_cases hlt : ¬ i < cs2.length
    ·obtain rfl : i = cs2.length := by omega
     have nn : ¬ (cs2.length : Int) < (cs2.length : Int) := by omega
     have nd : decide (cs2.length < cs2.length) = false := by simp
     clear hlt hi hmz
     go_wp2_with fail
     go_ret
     exact ⟨rfl, hd18.trans (hd.mono hd18.size)⟩
    ·have hlt : i < cs2.length := by omega
     obtain ⟨bq, oq, rfl, _, hcs⟩ := (hR8.below hd).co hlt
     obtain ⟨p0, p1, p2, p3⟩ := hcs i hlt
     clear hcs
     obtain ⟨b2, o2, rfl, _, hcs⟩ := (hR28.below hd).co hlt
     obtain ⟨q0, q1, q2, q3⟩ := hcs i hlt
     clear hcs
     generalize cs2[i] = y at *
     have i1 : (0 : Int) ≤ (i : Int) := by omega
     have i2 : (i : Int) < (cs2.length : Int) := by omega
     have ci : IntKind.i64.wrap ((i : Int) + 1) = (i : Int) + 1 := IntWalk.i64_in _ (by have := Hl2.out; omega)
     have Hlt := Lib.hid hlt
     have Hmz := Lib.hid hmz
     clear hlt hi hmz
     go_wp2_with fail
     go_quiet (fail)
     go_wp2_with fail
     go_roundg (cs2.length - (i + 1))
     case rel => exact ⟨i + 1, by go_num, by have := Hlt.out; omega, Nat.le_refl _, below_drewN hd _⟩
     case measure => have := Hlt.out; have := Hmz.out; omega
theorem colourBack_walkB {w : World} {A : Option Addr} {c : Nat} {fs : List Fl} {m : Int} (hr : FlR w A fs) (hM : MaxL w m) (hT : T8 w) (hW : WordsIs w) (hK : K9 w) (hn : ∀ f ∈ fs, f.1.length ≤ 8388608) (hcap : fs.length ≤ c) (hfl : fs.length ≤ 1048576) (f : Int) (T : ByteArray) :
  Calls Tryz.prog 8 #[.slice A fs.length c, .int .i64 f, .string T] w fun e w' => e = .returned (.bool true) ∧ Below w.heap.size w w' := by
 obtain ⟨s, rfl⟩ : ∃ s : Bs, T = ⟨s.toArray⟩ := ⟨T.data.toList, (Lib.mk_data T).symm⟩
 exact colourBack_walk hr hM hT hW hK hn hcap hfl f s
end Go.Proofs.YtcjjfeephaddcaaGreatDoor
namespace Go.Proofs.YtcjjfeephaddcaaGreatDoor
open Go.RowKit Go.ChangeShapes Go.WideShapes Go.Deep
namespace bulks
theorem one_le {H : Type} (d : DataW H) : 1 ≤ Rows.uptoBulk d := by
 cases d with
 | lit l => cases l <;> simp [Rows.uptoBulk]
 | nil => simp [Rows.uptoBulk]
 | ptr d => simp [Rows.uptoBulk]
 | slice elems spare => simp [Rows.uptoBulk]
 | agg parts => simp [Rows.uptoBulk]
 | iface t d => simp [Rows.uptoBulk]
 | map entries => simp [Rows.uptoBulk]
 | held h => simp [Rows.uptoBulk]
theorem append {H : Type} (l r : List (DataW H)) : Rows.uptoBulkAll (l ++ r) = Rows.uptoBulkAll l + Rows.uptoBulkAll r := by
 induction l with
 | nil => simp [Rows.uptoBulkAll]
 | cons x l ih => simp only [List.cons_append, Rows.uptoBulkAll, ih]; omega
theorem bound {H : Type} {l : List (DataW H)} (hk : Rows.uptoSmall H l = true) : Rows.uptoBulkAll l ≤ 1048576 := of_decide_eq_true hk
theorem many {H : Type} : ∀ l : List (DataW H), l.length ≤ Rows.uptoBulkAll l
 | [] => by simp [Rows.uptoBulkAll]
 | d :: l => by have := many l; have := one_le d; simp only [Rows.uptoBulkAll, List.length_cons]; omega
end bulks
theorem add_cells {w : World} {a : Addr} {k : Nat} {u : Value} (h : w.cell? (a.add k) = some u) : w.cell? ⟨a.block, a.off + k, none⟩ = some u := by
 unfold Addr.add at h
 by_cases hk : k = 0
 ·subst hk
  simp only [if_true, Nat.add_zero] at h ⊢
  unfold World.cell? at h ⊢
  split at h
  ·rename_i hh
   rw [hh]
   by_cases hs : a.spot.isSome = true
   ·simp [hs] at h
   ·simpa [hs] using h
  ·cases h
 ·rw [if_neg hk] at h; exact h
theorem spot_none {w : World} {a : Addr} {k : Nat} {u : Value} (h : w.cell? (a.add k) = some u) (hk : k = 0) : a = ⟨a.block, a.off, none⟩ := by
 subst hk
 unfold Addr.add at h
 simp only [if_true] at h
 obtain ⟨b, o, s⟩ := a
 unfold World.cell? at h
 split at h
 ·cases s with
  | none => rfl
  | some _ => simp at h
 ·cases h
end Go.Proofs.YtcjjfeephaddcaaGreatDoor
namespace Go.Proofs.YtcjjfeephaddcaaGreatDoor
open Go.RowKit Go.ChangeShapes Go.WideShapes Go.Deep
section
variable {H : Type} {enc : TypeId × Value → H} {P : Program} {w : World} {base : Nat} {spare : Nat → Bool} {held : Bool}
theorem open_slice_fieldsF {t e : TypeId} {fs : Array Field} {fuel : Nat} {cs : List Value} {x : DataW H × List MemPlace} (ht : P.underlying t = some (.slice e)) (he : P.underlying e = some (.struct fs))
  (hone : oneCellFields P fs = true) (hC : P.cellsOf e = fs.size) (h : DataW.trod enc P w base spare held fuel t cs = some x) :
  (cs = [.slice none 0 0] ∧ x = (.nil, [])) ∨
  ∃ (a : Addr) (len cap m : Nat) (D : Nat → DataW H) (Pl : Nat → List MemPlace), cs = [.slice (some a) len cap] ∧ base ≤ a.block ∧ len ≤ cap ∧ cap ≤ maxLen ∧ m = (if spare a.block then cap else len) ∧
   x = (.slice ((List.range len).map D) ((List.range (m - len)).map fun j => D (len + j)), MemPlace.row a (m * fs.size) ++ (List.range m).flatMap Pl) ∧
   ∀ i, i < m → ∃ (ys : List (DataW H × List MemPlace)) (n : Nat), D i = .agg (ys.map (·.1)) ∧ Pl i = ys.flatMap (·.2) ∧ ys.length = fs.size ∧
    ∀ (j : Nat) (f : Field), fs[j]? = some f → ∃ (v : Value) (y : DataW H × List MemPlace), w.cell? (a.add (i * fs.size + j)) = some v ∧ ys[j]? = some y ∧ DataW.trod enc P w base spare held n f.type [v] = some y := by
 rcases open_slice ht h with h0 | ⟨a, len, cap, m, n, D, Pl, hcs, hb, hl, hm, hmm, hx, hi⟩
 ·exact .inl h0
 ·refine .inr ⟨a, len, cap, m, D, Pl, hcs, hb, hl, hm, hmm, by rw [hC] at hx; exact hx, fun i him => ?_⟩
  obtain ⟨cs', hc, ht'⟩ := hi i him
  rw [hC] at hc
  obtain ⟨ys, n', hn', hy, hlen, hyl, hf⟩ := DataW.trod_struct he ht'
  obtain ⟨_, hcl, hat⟩ := World.cells?_some hc
  simp only [Prod.mk.injEq] at hy
  refine ⟨ys, n', hy.1, hy.2, hyl, fun j f hj => ?_⟩
  obtain ⟨ho, hk⟩ := hone_of hone j f hj
  have hjl : j < fs.size := (Array.getElem?_eq_some_iff.1 hj).1
  have hcell := hat j hjl
  have hv : cs'[j]? = some (cs'[j]'(by omega)) := List.getElem?_eq_getElem (by omega)
  have h1 := hf j f hj
  rw [ho, hk] at h1
  have hone' : (cs'.drop j).take 1 = [cs'[j]'(by omega)] := by
   rw [List.drop_eq_getElem_cons (by omega)]
   rfl
  rw [hone'] at h1
  have hys : ys[j]? = some (ys[j]'(by omega)) := List.getElem?_eq_getElem (by omega)
  refine ⟨_, _, ?_, hys, h1.trans hys⟩
  rw [← Go.Deep.add_add, hcell, hv]
end
def flB (l : List Fl) : Nat := (l.map fun f => f.1.length + f.2.length).sum
theorem flC_len (l : List Fl) : (l.flatMap flC).length = l.length * 2 := by
 induction l with
 | nil => rfl
 | cons f l ih => rw [List.flatMap_cons, List.length_append, ih, List.length_cons]; simp [flC]; omega
theorem flB_mem {l : List Fl} {f : Fl} (h : f ∈ l) : f.1.length + f.2.length ≤ flB l := by
 induction l with
 | nil => cases h
 | cons g l ih =>
  unfold flB at *
  rw [List.map_cons, List.sum_cons]
  rcases List.mem_cons.1 h with rfl | h
  ·omega
  ·have := ih h; omega
set_option maxRecDepth 100000 in
theorem open_files {H : Type} {enc : TypeId × Value → H} {w : World} {base : Nat} {spare : Nat → Bool} {held : Bool} {b0 : Nat} {v : Value} {d : DataW H} {p : List MemPlace}
  (hv : Value.okWide Tryz.prog w .any b0 22 v) (h : DataW.Trod enc Tryz.prog w base spare held 22 v d p) :
  ∃ (A : Option Addr) (c : Nat) (l : List Fl), v = .slice A l.length c ∧ FlR w A l ∧ l.length ≤ c ∧ l.length + flB l + 1 ≤ Rows.uptoBulk d := by
 obtain ⟨A, len, cap, rfl⟩ := okWide_slice Tryz.underlying22 hv
 obtain ⟨fuel, hf⟩ := h
 rcases open_slice_fieldsF Tryz.underlying22 Tryz.underlying66 (by kernel_rfl) (by kernel_rfl) hf with ⟨hcs, hx⟩ | ⟨a, len', cap', m, D, Pl, hcs, hbs, hl, hm, hmm, hx, hi⟩
 ·simp only [Value.cells, List.cons.injEq, Value.slice.injEq, and_true] at hcs
  obtain ⟨rfl, rfl, rfl⟩ := hcs
  exact ⟨none, 0, [], rfl, Rd.none_, Nat.le_refl _, by simp only [Prod.mk.injEq] at hx; rw [hx.1]; simp [Rows.uptoBulk, flB]⟩
 ·simp only [Value.cells, List.cons.injEq, Value.slice.injEq, and_true] at hcs
  obtain ⟨rfl, rfl, rfl⟩ := hcs
  have hlm : len ≤ m := by rw [hmm]; split <;> omega
  have key : ∀ n, n ≤ len → ∃ l : List Fl, l.length = n ∧ (∀ i (hi : i < l.length), ∀ j u, (flC l[i])[j]? = some u → w.cell? ⟨a.block, a.off + (i * 2 + j), none⟩ = some u) ∧ l.length + flB l ≤ Rows.uptoBulkAll ((List.range n).map D) := by
   intro n
   induction n with
   | zero => intro _; exact ⟨[], rfl, by simp, by simp [flB]⟩
   | succ n ih =>
    intro hn
    obtain ⟨l, hln, hc, hbk⟩ := ih (by omega)
    obtain ⟨ys, k, hD, _, hyl, hfs⟩ := hi n (by omega)
    obtain ⟨v0, y0, c0, e0, t0⟩ := hfs 0 _ rfl
    obtain ⟨v1, y1, c1, e1, t1⟩ := hfs 1 _ rfl
    obtain ⟨x0, q0, rfl, _⟩ := DataW.trod_string Tryz.underlying9 t0
    obtain ⟨x1, q1, rfl, _⟩ := DataW.trod_string Tryz.underlying9 t1
    simp only [List.cons.injEq, and_true] at q0 q1
    subst q0 q1
    refine ⟨l ++ [(x0.data.toList, x1.data.toList)], by simp [hln], fun i hi j u hu => ?_, ?_⟩
    ·rw [List.getElem_append] at hu
     split at hu
     ·exact hc i (by assumption) j u hu
     ·have hin : i = n := by simp at hi; omega
      subst hin
      simp [flC] at hu
      match j, hu with
      | 0, hu => simp at hu; subst hu; exact add_cells c0
      | 1, hu => simp at hu; subst hu; exact add_cells c1
    ·rw [List.range_succ, List.map_append, bulks.append]
     match ys, hyl, e0, e1 with
     | [z0, z1], _, e0, e1 =>
      simp at e0 e1
      subst e0 e1
      unfold flB at *
      simp only [List.map_cons, List.map_nil, Rows.uptoBulkAll, hD, Rows.uptoBulk, List.length_append, List.length_singleton, List.map_append, List.sum_append, List.sum_cons, List.sum_nil]
      omega
  obtain ⟨l, hln, hc, hbk⟩ := key len (Nat.le_refl _)
  subst hln
  refine ⟨some a, cap, l, rfl, ⟨flC_len l, fun hn => ?_⟩, hl, ?_⟩
  ·refine ⟨a.block, a.off, ?_, ?_, ?_⟩
   ·obtain ⟨ys, k, _, _, _, hfs⟩ := hi 0 (by omega)
    obtain ⟨v0, y0, c0, _⟩ := hfs 0 _ rfl
    rw [← spot_none c0 (by simp)]
   ·have := hc 0 hn 0 _ rfl
    exact World.block_lt_of_cell? w ⟨a.block, _, none⟩ this
   ·intro j u hu
    have hj : j < l.length * 2 := by
     have := (List.getElem?_eq_some_iff.1 hu).1
     rwa [flC_len] at this
    obtain ⟨q, rfl | rfl⟩ : ∃ q, j = q * 2 ∨ j = q * 2 + 1 := ⟨j / 2, by omega⟩
    ·have hi2 : q < l.length := by omega
     have hg := fl_get l q hi2
     rw [hg.1] at hu
     injection hu with hu
     subst hu
     exact hc q hi2 0 _ rfl
    ·have hi2 : q < l.length := by omega
     have hg := fl_get l q hi2
     rw [hg.2] at hu
     injection hu with hu
     subst hu
     exact hc q hi2 1 _ rfl
  ·simp only [Prod.mk.injEq] at hx
   rw [hx.1]
   simp only [Rows.uptoBulk]
   omega
end Go.Proofs.YtcjjfeephaddcaaGreatDoor
namespace Go.Proofs.YtcjjfeephaddcaaGreatDoor
open Go.ChangeShapes Go.WideShapes Go.RowKit
theorem maxL_of {W : World} (h : W.ShapedOpen Tryz.prog) : ∃ m, MaxL W m :=
 Go.Proofs.cell_of_shapedOpen_int (zero := #[.int .i64 0]) (t := 3) h (by decide) (by kernel_rfl) rfl (by kernel_rfl) (by kernel_rfl) Tryz.underlying3
namespace laidW
theorem acc_eq : Rows.laid_unicode_utf8_acceptRanges = Lib.acceptData := by kernel_rfl
theorem first_eq : Rows.laid_unicode_utf8_first = Lib.firstData := Pinned.utf8First_eq
def litV : DataW Unit → List Value
 | .agg ds => ds.map fun
  | .lit (.int k z) => .int k z
  | _ => .bool false
 | _ => []
noncomputable def frameWorld (os : Os) : World :=
 let w0 := World.holding Tryz.prog os ⟨#[], #[], []⟩
 let put (h : Array Obj) (g : Nat) (cs : Array Value) : Array Obj := h.modify g fun
  | .cells _ t frozen => .cells cs t frozen
  | o => o
 let h1 := put w0.heap 4 (Lib.firstTab.map fun z => Value.int .u8 z).toArray
 let h2 := put h1 5 ((List.range 16).flatMap fun i => [Value.int .u8 (Lib.accLo i), Value.int .u8 (Lib.accHi i)]).toArray
 let h3 := put h2 9 (litV Rows.laid_math_bits_deBruijn32tab).toArray
 let h4 := put h3 10 (litV Rows.laid_math_bits_deBruijn64tab).toArray
 let h5 := put h4 8 (litV Rows.laid_internal_strconv_uint64pow10).toArray
 let n := h5.size
 let h6 := h5.push (.cells #[.string ⟨#[118, 97, 108, 117, 101, 32, 111, 117, 116, 32, 111, 102, 32, 114, 97, 110, 103, 101]⟩] 401)
 let h7 := h6.push (.cells #[.string ⟨#[105, 110, 118, 97, 108, 105, 100, 32, 115, 121, 110, 116, 97, 120]⟩] 401)
 let h8 := put h7 7 #[.iface 399 (.pointer (some ⟨n, 0, none⟩))]
 let h9 := put h8 6 #[.iface 399 (.pointer (some ⟨n + 1, 0, none⟩))]
 { w0 with heap := h9 }
end laidW
end Go.Proofs.YtcjjfeephaddcaaGreatDoor
namespace Go.Proofs.YtcjjfeephaddcaaGreatDoor
open Go.ChangeShapes Go.WideShapes Go.RowKit
namespace laidW
theorem t8_of {l : List (String × DataW Unit)} {W : World} (h : laidMet Tryz.prog l W) (h1 : ("unicode/utf8.acceptRanges", Rows.laid_unicode_utf8_acceptRanges) ∈ l) (h2 : ("unicode/utf8.first", Rows.laid_unicode_utf8_first) ∈ l) : T8 W := by
 rw [acc_eq] at h1
 rw [first_eq] at h2
 exact utf8Tabs_of_reads (ρ := Tryz.lays197_ren) { Tryz.lays197 with } ⟨by kernel_rfl, by kernel_rfl, by kernel_rfl, by kernel_rfl, by kernel_rfl, by kernel_rfl, by kernel_rfl⟩ (Lib.laidMet.reads h h2) (Lib.laidMet.reads h h1)
theorem gW : Tryz.prog.globalNamed "amanuensis/lex.words" = some 3 := by kernel_rfl
theorem cells_of_strs {H : Type} {enc : TypeId × Value → H} {P : Program} {w : World} {base : Nat} {sp : Nat → Bool} {held : Bool} {fuel : Nat} {t e : TypeId} {n : Nat} {cs : List Value} {zs : List Bs} {p : List MemPlace}
  (ht : P.underlying t = some (.array n e)) (he : P.underlying e = some .string) (hce : P.cellsOf e = 1) (hct : P.cellsOf t = n)
  (h : DataW.trod enc P w base sp held fuel t cs = some (.agg (zs.map fun z => .lit (.string z)), p)) : cs = txtV zs := by
 cases fuel with
 | zero => simp [DataW.trod] at h
 | succ fuel =>
  simp only [DataW.trod, ht, hce, hct, Nat.mul_one] at h
  split at h
  ·rename_i hl
   obtain ⟨xs, hm, hx⟩ := Option.map_eq_some_iff.1 h
   have hxs : xs.map (·.1) = zs.map fun z => (DataW.lit (.string z) : DataW H) := by
    have := congrArg Prod.fst hx
    simpa using this
   have hxl : xs.length = n := by simpa using Lib.mapM_length hm
   have hzl : zs.length = n := by
    have := congrArg List.length hxs
    simp at this
    omega
   apply List.ext_getElem?
   intro i
   by_cases hi : i < n
   ·obtain ⟨b, hb, hf⟩ := Lib.mapM_at hm i i (by simp [hi])
    obtain ⟨z, hc, rfl, _⟩ := DataW.trod_string he hf
    have h1 : cs[i]? = some (.string z) := by
     have := congrArg (·[0]?) hc
     simpa [List.getElem?_take, List.getElem?_drop] using this
    have h2 : (xs.map (·.1))[i]? = some (DataW.lit (.string z.data.toList) : DataW H) := by simp [hb]
    rw [hxs] at h2
    simp only [List.getElem?_map, Option.map_eq_some_iff, DataW.lit.injEq, Lit.string.injEq] at h2
    obtain ⟨z', hz', h3⟩ := h2
    rw [h1]
    simp only [txtV, List.getElem?_map, hz', Option.map_some, h3, strV]
   ·rw [List.getElem?_eq_none (by omega), List.getElem?_eq_none (by rw [txtV_len]; omega)]
  ·cases h
theorem words_eq : (Rows.laid_amanuensis_lex_words : DataW Unit) = .agg (Lx.words.map fun z => .lit (.string z)) := by kernel_rfl
theorem words_of {l : List (String × DataW Unit)} {W : World} (h : laidMet Tryz.prog l W) (h1 : ("amanuensis/lex.words", Rows.laid_amanuensis_lex_words) ∈ l) : WordsIs W := by
 obtain ⟨g, t, cs, fuel, p, e1, e2, e3, e4⟩ := Lib.laidMet.reads h h1
 obtain rfl := Option.some.inj (gW.symm.trans e1)
 have e5 : (Tryz.prog.globals[3]?).map (·.type) = some 345 := by kernel_rfl
 obtain rfl := Option.some.inj (e5.symm.trans e2)
 rw [words_eq] at e4
 have hc := cells_of_strs (n := 12) Tryz.underlying345 Tryz.underlying9 (by kernel_rfl) (by kernel_rfl) e4
 have hcell : ∀ i, W.cell? ⟨3, i, none⟩ = (txtV Lx.words)[i]? := fun i => by
  rw [World.var?_cell gW e3 i, ← hc]; simp
 refine ⟨by kernel_rfl, fun _ => ⟨_, 0, rfl, ?_, fun i u hu => by rw [Nat.zero_add, hcell]; exact hu⟩⟩
 exact World.block_lt_of_cell? (a := ⟨3, 0, none⟩) W (hcell 0)
noncomputable def lexWorld (os : Os) : World :=
 let w0 := frameWorld os
 { w0 with heap := w0.heap.modify 3 fun
   | .cells _ t frozen => .cells (txtV Lx.words).toArray t frozen
   | o => o }
abbrev colList : List (String × DataW Unit) := [("math/bits.deBruijn32tab", Rows.laid_math_bits_deBruijn32tab), ("math/bits.deBruijn64tab", Rows.laid_math_bits_deBruijn64tab), ("internal/strconv.uint64pow10", Rows.laid_internal_strconv_uint64pow10), ("unicode/utf8.acceptRanges", Rows.laid_unicode_utf8_acceptRanges), ("strconv.ErrRange", Rows.laid_strconv_ErrRange), ("strconv.ErrSyntax", Rows.laid_strconv_ErrSyntax), ("amanuensis/lex.words", Rows.laid_amanuensis_lex_words), ("amanuensis/colour.kinds", Rows.laid_amanuensis_colour_kinds), ("unicode/utf8.first", Rows.laid_unicode_utf8_first)]
theorem gK : Tryz.prog.globalNamed "amanuensis/colour.kinds" = some 0 := by kernel_rfl
theorem kinds_eq : (Rows.laid_amanuensis_colour_kinds : DataW Unit) = Lib.tabData .i64 (colL.map fun (n : Nat) => (n : Int)) := by kernel_rfl
theorem kinds_of {l : List (String × DataW Unit)} {W : World} (h : laidMet Tryz.prog l W) (h1 : ("amanuensis/colour.kinds", Rows.laid_amanuensis_colour_kinds) ∈ l) : K9 W := by
 obtain ⟨g, t, cs, fuel, p, e1, e2, e3, e4⟩ := Lib.laidMet.reads h h1
 obtain rfl := Option.some.inj (gK.symm.trans e1)
 have e5 : (Tryz.prog.globals[0]?).map (·.type) = some 216 := by kernel_rfl
 obtain rfl := Option.some.inj (e5.symm.trans e2)
 rw [kinds_eq] at e4
 have hc := Lib.cells_of_tab (n := 9) Tryz.underlying216 Tryz.underlying3 (by kernel_rfl) (by kernel_rfl) e4
 intro i v hv
 rw [World.var?_cell gK e3 i]
 rw [← Array.getElem?_toList, hc]
 simp [hv]
theorem col_of {W : World} (h : laidMetH Tryz.prog colList W) : T8 W ∧ WordsIs W ∧ K9 W :=
 have h' : laidMet Tryz.prog colList W := h
 ⟨t8_of h' (by simp [colList]) (by simp [colList]), words_of h' (by simp [colList]), kinds_of h' (by simp [colList])⟩
noncomputable def colWorld (os : Os) : World :=
 let w0 := lexWorld os
 { w0 with heap := w0.heap.modify 0 fun
   | .cells _ t frozen => .cells (litV Rows.laid_amanuensis_colour_kinds).toArray t frozen
   | o => o }
set_option maxRecDepth 100000 in
theorem col_met (os : Os) (args : Array Value) : laidMetH Tryz.prog colList ((colWorld os).forCall (fun _ _ => 0) ⟨#[], args, []⟩).memory := by
 unfold colList
 rw [acc_eq, first_eq]
 exact (LaidIn.of_run (l := [("math/bits.deBruijn32tab", Rows.laid_math_bits_deBruijn32tab), ("math/bits.deBruijn64tab", Rows.laid_math_bits_deBruijn64tab), ("internal/strconv.uint64pow10", Rows.laid_internal_strconv_uint64pow10), ("unicode/utf8.acceptRanges", Lib.acceptData), ("strconv.ErrRange", Rows.laid_strconv_ErrRange), ("strconv.ErrSyntax", Rows.laid_strconv_ErrSyntax), ("amanuensis/lex.words", Rows.laid_amanuensis_lex_words), ("amanuensis/colour.kinds", Rows.laid_amanuensis_colour_kinds), ("unicode/utf8.first", Lib.firstData)]) (List.range 40) 8 (by kernel_rfl) (by kernel_rfl) (by kernel_rfl) (by kernel_rfl)).met
end laidW
end Go.Proofs.YtcjjfeephaddcaaGreatDoor
