/-
  JOINED of the texts CE CF CA CB CC CD Co Clone
-/
import Derived.Test.YtcjjfeephaddcaaGreatDoorJat
import Derived.Shelf.SlSorted.Search
set_option linter.all false
namespace Go.Proofs.YtcjjfeephaddcaaGreatDoor
open Go.RowKit Go.Maps
theorem ctk_one (l : List Tk) : ∀ u ∈ tksC l, u.oneCell' = true := by
 intro u hu
 simp only [tksC, List.mem_flatMap] at hu
 obtain ⟨x, _, hx⟩ := hu
 simp [tkC] at hx
 rcases hx with rfl | rfl | rfl <;> rfl
set_option maxHeartbeats 1000000 in
set_option maxRecDepth 100000 in
theorem ctclone_walk (A : Option Addr) (c : Nat) (l : List Tk) (w : World) {F : Nat → Prop} (h : RowF w F A (tksC l)) (hl : l.length ≤ 16777216) :
  Calls Tryz.prog 103 #[.slice A l.length c] w fun e w' => ∃ v, e = .returned v ∧ w'.ownsRow w.heap.size 127 3 v l.length (tksC l) ∧ Below w.heap.size w w' := by
 obtain ⟨i0, ji, jz0, jz1, jz2⟩ := info_parts infoTk
 have hcl := tksC_len l
 cases A with
 | none =>
  have h0 : l.length = 0 := by
   rcases Nat.eq_zero_or_pos l.length with h0 | h0
   ·exact h0
   ·obtain ⟨b, o, e, _⟩ := h (by omega)
    cases e
  obtain rfl := List.eq_nil_of_length_eq_zero h0
  have hnl := fun w : World => Lib.run_eql_slice_nil (P := Tryz.prog) w 124 127 none 0 c 0 0 Tryz.underlying124
  go_enter Tryz.func103, Tryz.ntmps103
  go_wp2
  go_ret
  exact ⟨_, rfl, World.ownsRow_nil _ _ _ _, Below.refl _ _⟩
 | some ad =>
  have hO := World.ownsRow_lit (base := w.heap.size) (e := 127) (size := 3) w #[] 0 (Nat.le_refl _) (by unfold maxLen; omega) rfl
  have h3 : ∀ j u, (tksC l)[j]? = some u → (w.alloc (.cells #[] 127)).cell? (ad.add j) = some u := fun j u hu => by
   have h1 : 0 < (tksC l).length := Nat.lt_of_le_of_lt (Nat.zero_le _) (List.getElem?_eq_some_iff.1 hu).1
   obtain ⟨b, o, e, _, hlt, hc⟩ := h h1
   injection e with e
   subst e
   have h4 := hc j u hu
   have e2 : (⟨b, o, none⟩ : Addr).add j = ⟨b, o + j, none⟩ := by
    unfold Addr.add
    split
    ·rename_i h0; subst h0; rfl
    ·rfl
   rw [e2, World.cell?_of_block (a := ⟨b, o + j, none⟩) (Below.heap_alloc w _ _ hlt)]
   exact h4
  have H3 := Lib.hid h3
  have hb : Below w.heap.size w (w.alloc (.cells #[] 127)) := (Below.refl _ _).alloc (Nat.le_refl _) _
  clear h3 h
  have hnl := fun w : World => Lib.run_eql_slice_nil (P := Tryz.prog) w 124 127 (some ad) l.length c 0 0 Tryz.underlying124
  go_enter Tryz.func103, Tryz.ntmps103
  go_wp2_with (at_builtin; refine wpList_append_own _ rfl _ _ 124 rfl w.heap.size 127 i0 _ 3 24 Tryz.underlying124 ji jz0 jz1 jz2 rfl (by omega) _ 0 _ rfl hO ad l.length c (tksC l) rfl hcl H3.out (ctk_one l) (by unfold maxLen; omega) (by omega) (by simp) ?_; intro v' w4 hown4 hgrow _)
  go_ret
  exact ⟨v', rfl, by simpa using hown4, hb.grown hgrow hb.size fun g hg => (hO.lt g hg).1⟩
set_option maxHeartbeats 1000000 in
set_option maxRecDepth 100000 in
theorem toksof_walk {w : World} {F : Nat → Prop} {gt : Nat} {T : List Tk} {ks : List Tr.Kd} {ts : List Tr.PT} (h : TreeTk w F gt T ks ts) (hl : T.length ≤ 16777216) :
  Calls Tryz.prog 109 #[ptrV gt] w fun e w' => ∃ v, e = .returned v ∧ w'.ownsRow w.heap.size 127 3 v T.length (tksC T) ∧ Below w.heap.size w w' := by
 obtain ⟨_, d, A, c, hT, hr, _⟩ := h
 obtain ⟨Av, cv, At, ct, vs, us, hB, _⟩ := hT.ex
 have x1 := hB.cell 1
 simp at x1
 have hcl := ctclone_walk A c T w hr hl
 clear hr hT hB
 unfold ptrV
 go_enter Tryz.func109, Tryz.ntmps109
 go_wp2_with fail
 refine hcl.mono ?_
 clear hcl
 rintro e1 w1 ⟨v, rfl, ho, hd⟩
 go_wp2_with fail
 go_ret
 exact ⟨v, rfl, ho, hd⟩
def UsesAt (w : World) (pg : Nat) (us : List Sc.Us) : Prop := ∃ mb D A c fs ts is fd, Blk w pg 86 #[fs, ts, is, .slice A us.length c, fd, .map (some mb)] ∧ UsR w A us ∧ World.ownsMap (H := Unit) w Tryz.prog 325 (plainElem Tryz.prog 3) mb us.length D ∧ AtIs D us
theorem UsesAt.below {w w' : World} {pg : Nat} {us : List Sc.Us} (h : UsesAt w pg us) (hd : Below w.heap.size w w') : UsesAt w' pg us := by
 obtain ⟨mb, D, A, c, fs, ts, is, fd, h1, h2, h3, h4⟩ := h
 exact ⟨mb, D, A, c, fs, ts, is, fd, h1.below hd h1.lt, h2.below hd, own_map_keep h3 (hd.block mb h3.lt), h4⟩
def Sc.useAt (us : List Sc.Us) (f a : Nat) : Option Sc.Us := (Sc.lastM us f a).bind fun i => us[i]?
theorem Sc.use_in {us : List Sc.Us} {f a : Nat} {u : Sc.Us} (h : Sc.useAt us f a = some u) : u ∈ us ∧ u.file = f ∧ u.at_ = a := by
 unfold Sc.useAt at h
 obtain ⟨i, hi, hu⟩ := Option.bind_eq_some_iff.1 h
 obtain ⟨u', h1, h2⟩ := Sc.last_at hi
 rw [h1] at hu
 injection hu with hu
 subst hu
 exact ⟨List.mem_of_getElem? h1, h2⟩
theorem Sc.use_none {us : List Sc.Us} {f a : Nat} (h : Sc.useAt us f a = none) : Sc.lastM us f a = none := by
 unfold Sc.useAt at h
 cases hl : Sc.lastM us f a with
 | none => rfl
 | some i =>
  obtain ⟨u, h1, _⟩ := Sc.last_at hl
  rw [hl] at h
  simp [h1] at h
def UseV : Option Sc.Us → Value
 | some u => .tuple #[.agg (usC u), .bool true]
 | none => .tuple #[.agg #[.int .i64 0, .int .i64 0, .int .i64 0, .int .i64 0, .int .i64 0, .int .i64 0], .bool false]
set_option maxHeartbeats 4000000 in
set_option maxRecDepth 100000 in
theorem use_walk {w : World} {pg : Nat} {us : List Sc.Us} (h : UsesAt w pg us) (f a : Nat) (hf : f ≤ 1000000000000) (ha : a ≤ 1000000000000) :
  Calls Tryz.prog 156 #[.pointer (some ⟨pg, 0, none⟩), .int .i64 (f : Int), .int .i64 (a : Int)] w fun e w' => e = .returned (UseV (Sc.useAt us f a)) ∧ Below w.heap.size w w' := by
 obtain ⟨kl, hkl⟩ := place_key hf ha
 have hd : Below w.heap.size w (w.alloc (.cells zero6 31)) := (Below.refl _ _).alloc (Nat.le_refl _) _
 have hr := Blk.new w 31 zero6
 unfold zero6 at hr hd
 obtain ⟨r, hr0⟩ : ∃ r, r = w.heap.size := ⟨_, rfl⟩
 rw [← hr0] at hr
 have Hr : Hid (w.heap.size ≤ r) := by show _ ≤ _; rw [hr0]; exact Nat.le_refl _
 have h1 := h.below hd
 clear h
 go_enter Tryz.func156, Tryz.ntmps156
 go_upto_region 1 with fail
 rw [← hr0]
 clear hr0
 generalize w.alloc (.cells #[.int .i64 0, .int .i64 0, .int .i64 0, .int .i64 0, .int .i64 0, .int .i64 0] 31) = w1 at *
 obtain ⟨mb, D, A, c, fs, ts, is, fd, hB, hR, hm, hAt⟩ := h1
 have p5 := hB.cell 5
 have p3 := hB.cell 3
 simp at p5 p3
 obtain ⟨⟨k0, k1, k2, k3, k4, k5⟩, y0, y1, y2, y3, y4, y5⟩ := six_cells hr
 obtain ⟨hh, hi⟩ := hAt.2 f a kl hkl
 cases hu : Sc.useAt us f a with
 | none =>
  have hn := Sc.use_none hu
  rw [hn] at hh
  have hh2 : has D kl = false := hh
  have HU := Lib.hid hu
  clear hh hi hAt hn hu hB hR p3
  go_wp2_with (at_lookup; refine wpList_lookup_own_ok_int _ rfl _ _ 84 rfl 325 3 .i64 placeLaw Tryz.underlying84 Tryz.underlying3 (Tryz.zeroValue3 _) mb us.length D rfl hm _ _ rfl hkl ?_; intro cc hcc _; rw [hh2])
  have hb2 := six_below hd Hr.out (.int .i64 0) (.int .i64 0) (.int .i64 0) (.int .i64 0) (.int .i64 0) (.int .i64 0)
  have hr := six_blk hr (.int .i64 0) (.int .i64 0) (.int .i64 0) (.int .i64 0) (.int .i64 0) (.int .i64 0)
  clear k0 k1 k2 k3 k4 k5 y0 y1 y2 y3 y4 y5
  generalize ((((((World.setCell w1 ⟨r, 0, none⟩ (.int .i64 0)).setCell ⟨r, 1, none⟩ (.int .i64 0)).setCell ⟨r, 2, none⟩ (.int .i64 0)).setCell ⟨r, 3, none⟩ (.int .i64 0)).setCell ⟨r, 4, none⟩ (.int .i64 0)).setCell ⟨r, 5, none⟩ (.int .i64 0)) = w3 at *
  obtain ⟨⟨k0, k1, k2, k3, k4, k5⟩, _⟩ := six_cells hr
  (try simp only [Exit.inBlock, Exit.then])
  refine bodyPost_ret (v := UseV none) (by unfold UseV; simp [results, Tryz.results156, go_sem, k0, k1, k2, k3, k4, k5]; try rfl) rfl ?_
  exact ⟨by rw [HU.out], hb2⟩
 | some u =>
  obtain ⟨i, hl, hui⟩ : ∃ i, Sc.lastM us f a = some i ∧ us[i]? = some u := by
   unfold Sc.useAt at hu
   exact Option.bind_eq_some_iff.1 hu
  rw [hl] at hh
  have hh2 : has D kl = true := hh
  have hi2 := hi i hl (.lit (.int .i64 0))
  have hlt := (List.getElem?_eq_some_iff.1 hui).1
  obtain ⟨br, o, e, hbl, hc⟩ := hR.at_ hlt
  rw [e] at p3
  have hu2 : us[i] = u := (List.getElem?_eq_some_iff.1 hui).2
  rw [hu2] at hc
  have q0 := hc 0 _ rfl
  have q1 := hc 1 _ rfl
  have q2 := hc 2 _ rfl
  have q3 := hc 3 _ rfl
  have q4 := hc 4 _ rfl
  have q5 := hc 5 _ rfl
  rw [Nat.add_zero] at q0
  have ii0 : (0 : Int) ≤ (i : Int) := by omega
  have ii1 : (i : Int) < (us.length : Int) := by omega
  have HU := Lib.hid hu
  clear hh hi hAt hl hui hu2 hu hB hR hc hlt e
  go_wp2_with (at_lookup; refine wpList_lookup_own_ok_int _ rfl _ _ 84 rfl 325 3 .i64 placeLaw Tryz.underlying84 Tryz.underlying3 (Tryz.zeroValue3 _) mb us.length D rfl hm _ _ rfl hkl ?_; intro cc hcc _; rw [hh2]; rw [hi2] at hcc; injection hcc with hcc; injection hcc with _ hcc; subst hcc)
  have hb2 := six_below hd Hr.out (.int .i64 (u.file : Int)) (.int .i64 (u.at_ : Int)) (.int .i64 (u.as_ : Int)) (.int .i64 u.toFile) (.int .i64 u.to_) (.int .i64 (u.err : Int))
  have hr := six_blk hr (.int .i64 (u.file : Int)) (.int .i64 (u.at_ : Int)) (.int .i64 (u.as_ : Int)) (.int .i64 u.toFile) (.int .i64 u.to_) (.int .i64 (u.err : Int))
  clear k0 k1 k2 k3 k4 k5 y0 y1 y2 y3 y4 y5
  generalize ((((((World.setCell w1 ⟨r, 0, none⟩ _).setCell ⟨r, 1, none⟩ _).setCell ⟨r, 2, none⟩ _).setCell ⟨r, 3, none⟩ _).setCell ⟨r, 4, none⟩ _).setCell ⟨r, 5, none⟩ _) = w3 at *
  obtain ⟨⟨k0, k1, k2, k3, k4, k5⟩, _⟩ := six_cells hr
  (try simp only [Exit.inBlock, Exit.then])
  refine bodyPost_ret (v := UseV (some u)) (by unfold UseV usC; simp [results, Tryz.results156, go_sem, k0, k1, k2, k3, k4, k5]; try rfl) rfl ?_
  exact ⟨by rw [HU.out], hb2⟩
def Sc.nameM (us : List Sc.Us) (f a : Nat) : Int :=
 match Sc.useAt us f a with
 | none => 13
 | some u =>
  if u.err ≠ 0 ∨ (u.to_ < 0 ∧ (u.as_ = 6 ∨ u.as_ = 5)) then 12
  else if u.as_ = 3 then 10
  else if u.as_ = 4 ∨ u.as_ = 5 then 11
  else if u.as_ = 6 then wrap64 (7 + match Sc.useAt us u.toFile.toNat u.to_.toNat with | some v => (v.as_ : Int) | none => 0)
  else wrap64 (7 + (u.as_ : Int))
def Sc.Lead (us : List Sc.Us) : Prop := ∀ u ∈ us, u.to_ < 0 ∨ ∃ v ∈ us, (v.file : Int) = u.toFile ∧ (v.at_ : Int) = u.to_
def NamE (k : Int) (w : World) (e : Ending) (w' : World) : Prop := e = .returned (.int .i64 k) ∧ Below w.heap.size w w'
set_option maxHeartbeats 8000000 in
set_option maxRecDepth 100000 in
theorem name_walk {w : World} {pg : Nat} {us : List Sc.Us} (h : UsesAt w pg us) (hL : Sc.Lead us) (hb : ∀ u ∈ us, u.file ≤ 1000000000 ∧ u.at_ ≤ 1000000000) (f a : Nat) (hf : f ≤ 1000000000) (ha : a ≤ 1000000000) :
  Calls Tryz.prog 113 #[.pointer (some ⟨pg, 0, none⟩), .int .i64 (f : Int), .int .i64 (a : Int)] w (NamE (Sc.nameM us f a) w) := by
 have hu := use_walk h f a (by omega) (by omega)
 obtain ⟨K, hK⟩ : ∃ K, K = Sc.nameM us f a := ⟨_, rfl⟩
 rw [← hK]
 have HN := Lib.hid hK
 clear hK
 cases hx : Sc.useAt us f a with
 | none =>
  rw [hx] at hu
  have HK : Hid (K = 13) := by show _ = _; rw [HN.out]; unfold Sc.nameM; rw [hx]
  clear hx h hL hb HN
  unfold UseV at hu
  go_enter Tryz.func113, Tryz.ntmps113
  go_wp2_with fail
  refine hu.mono ?_
  clear hu
  rintro e1 w1 ⟨rfl, hd1⟩
  go_wp2_with fail
  go_ret
  exact ⟨congrArg (fun x => Ending.returned (.int .i64 x)) HK.out.symm, hd1.alloc hd1.size _⟩
 | some u =>
  have hmem := (Sc.use_in hx).1
  have HK : Hid (K = if u.err ≠ 0 ∨ (u.to_ < 0 ∧ (u.as_ = 6 ∨ u.as_ = 5)) then 12
   else if u.as_ = 3 then 10
   else if u.as_ = 4 ∨ u.as_ = 5 then 11
   else if u.as_ = 6 then wrap64 (7 + match Sc.useAt us u.toFile.toNat u.to_.toNat with | some v => (v.as_ : Int) | none => 0)
   else wrap64 (7 + (u.as_ : Int))) := by show _ = _; rw [HN.out]; unfold Sc.nameM; rw [hx]
  have Hl := Lib.hid (hL u hmem)
  rw [hx] at hu
  have H := Lib.hid h
  have Hb := Lib.hid hb
  have Hmem := Lib.hid hmem
  unfold UseV usC at hu
  clear hx hL h hb hf ha hmem HN
  obtain ⟨uF, uA, uS, uf, ut, uE⟩ := u
  dsimp only at hu HK Hl
  go_enter Tryz.func113, Tryz.ntmps113
  go_wp2_with fail
  refine hu.mono ?_
  clear hu
  rintro e1 w1 ⟨rfl, hd1⟩
  go_upto_region 2 with fail
  have hd2 := hd1.alloc hd1.size (.cells #[.int .i64 (uF : Int), .int .i64 (uA : Int), .int .i64 (uS : Int), .int .i64 uf, .int .i64 ut, .int .i64 (uE : Int)] 31)
  have hr := Blk.new w1 31 #[.int .i64 (uF : Int), .int .i64 (uA : Int), .int .i64 (uS : Int), .int .i64 uf, .int .i64 ut, .int .i64 (uE : Int)]
  obtain ⟨bx, hbx⟩ : ∃ bx, bx = w1.heap.size := ⟨_, rfl⟩
  rw [← hbx] at hr ⊢
  clear hbx hd1
  generalize w1.alloc (.cells #[.int .i64 (uF : Int), .int .i64 (uA : Int), .int .i64 (uS : Int), .int .i64 uf, .int .i64 ut, .int .i64 (uE : Int)] 31) = w2 at *
  obtain ⟨⟨k0, k1, k2, k3, k4, k5⟩, _⟩ := six_cells hr
  by_cases he : uE = 0
  ·subst he
   have hways : uS = 3 ∨ uS = 4 ∨ (uS = 5 ∧ ut < 0) ∨ (uS = 5 ∧ ¬ ut < 0) ∨ (uS = 6 ∧ ut < 0) ∨ (uS = 6 ∧ ¬ ut < 0) ∨ (uS ≠ 3 ∧ uS ≠ 4 ∧ uS ≠ 5 ∧ uS ≠ 6) := by omega
   rcases hways with rfl | rfl | ⟨rfl, ht⟩ | ⟨rfl, ht⟩ | ⟨rfl, ht⟩ | ⟨rfl, ht⟩ | ⟨s3, s4, s5, s6⟩
   ·have HK2 : Hid (K = 10) := by show _ = _; rw [HK.out]; simp
    clear HK Hl
    by_cases ht : ut < 0
    ·go_wp2_with fail
     go_ret
     exact ⟨congrArg (fun x => Ending.returned (.int .i64 x)) HK2.out.symm, hd2⟩
    ·go_wp2_with fail
     go_ret
     exact ⟨congrArg (fun x => Ending.returned (.int .i64 x)) HK2.out.symm, hd2⟩
   ·have HK2 : Hid (K = 11) := by show _ = _; rw [HK.out]; simp
    clear HK Hl
    by_cases ht : ut < 0
    ·go_wp2_with fail
     go_ret
     exact ⟨congrArg (fun x => Ending.returned (.int .i64 x)) HK2.out.symm, hd2⟩
    ·go_wp2_with fail
     go_ret
     exact ⟨congrArg (fun x => Ending.returned (.int .i64 x)) HK2.out.symm, hd2⟩
   ·have HK2 : Hid (K = 12) := by show _ = _; rw [HK.out]; simp [ht]
    clear HK Hl
    go_wp2_with fail
    go_ret
    exact ⟨congrArg (fun x => Ending.returned (.int .i64 x)) HK2.out.symm, hd2⟩
   ·have HK2 : Hid (K = 11) := by show _ = _; rw [HK.out]; simp [ht]
    clear HK Hl
    go_wp2_with fail
    go_ret
    exact ⟨congrArg (fun x => Ending.returned (.int .i64 x)) HK2.out.symm, hd2⟩
   ·have HK2 : Hid (K = 12) := by show _ = _; rw [HK.out]; simp [ht]
    clear HK Hl
    go_wp2_with fail
    go_ret
    exact ⟨congrArg (fun x => Ending.returned (.int .i64 x)) HK2.out.symm, hd2⟩
   ·have HK2 : Hid (K = wrap64 (7 + match Sc.useAt us uf.toNat ut.toNat with | some v => (v.as_ : Int) | none => 0)) := by show _ = _; rw [HK.out]; simp [ht]
    obtain ⟨v, hv, e1, e2⟩ := Hl.out.resolve_left ht
    obtain ⟨b1, b2⟩ := Hb.out v hv
    obtain ⟨F, rfl⟩ : ∃ F : Nat, uf = F := ⟨v.file, e1.symm⟩
    obtain ⟨G, rfl⟩ : ∃ G : Nat, ut = G := ⟨v.at_, e2.symm⟩
    have hu2 := use_walk (H.out.below hd2) F G (by omega) (by omega)
    rw [Int.toNat_natCast, Int.toNat_natCast] at HK2
    clear HK Hl hv e1 e2 b1 b2
    cases hy : Sc.useAt us F G with
    | none =>
     rw [hy] at hu2 HK2
     unfold UseV at hu2
     have HK3 : Hid (K = 7) := by show _ = _; rw [HK2.out]; show wrap64 (7 + 0) = 7; unfold wrap64; omega
     clear hy HK2
     go_wp2_with fail
     refine hu2.mono ?_
     clear hu2
     rintro e3 w3 ⟨rfl, hd3⟩
     go_wp2_with fail
     go_ret
     exact ⟨congrArg (fun x => Ending.returned (.int .i64 x)) HK3.out.symm, (hd2.trans (hd3.mono hd2.size)).alloc (hd2.trans (hd3.mono hd2.size)).size _⟩
    | some y =>
     rw [hy] at hu2 HK2
     unfold UseV usC at hu2
     clear hy
     obtain ⟨vF, vA, vS, vf, vt, vE⟩ := y
     dsimp only at hu2 HK2
     go_wp2_with fail
     refine hu2.mono ?_
     clear hu2
     rintro e3 w3 ⟨rfl, hd3⟩
     go_wp2_with fail
     go_ret
     exact ⟨congrArg (fun x => Ending.returned (.int .i64 x)) HK2.out.symm, (hd2.trans (hd3.mono hd2.size)).alloc (hd2.trans (hd3.mono hd2.size)).size _⟩
   ·have HK2 : Hid (K = wrap64 (7 + (uS : Int))) := by show _ = _; rw [HK.out]; simp [s3, s4, s5, s6]
    have n3 : ((uS : Int) == 3) = false := by simp; omega
    have n4 : ((uS : Int) == 4) = false := by simp; omega
    have n5 : ((uS : Int) == 5) = false := by simp; omega
    have n6 : ((uS : Int) == 6) = false := by simp; omega
    clear HK Hl s3 s4 s5 s6
    by_cases ht : ut < 0
    ·go_wp2_with fail
     go_ret
     exact ⟨congrArg (fun x => Ending.returned (.int .i64 x)) HK2.out.symm, hd2⟩
    ·go_wp2_with fail
     go_ret
     exact ⟨congrArg (fun x => Ending.returned (.int .i64 x)) HK2.out.symm, hd2⟩
  ·have HK2 : Hid (K = 12) := by show _ = _; rw [HK.out]; simp [he]
   have ne : ((uE : Int) != 0) = true := by simp; omega
   clear HK Hl he
   go_wp2_with fail
   go_ret
   exact ⟨congrArg (fun x => Ending.returned (.int .i64 x)) HK2.out.symm, hd2⟩
end Go.Proofs.YtcjjfeephaddcaaGreatDoor
namespace Go.Proofs.YtcjjfeephaddcaaGreatDoor
open Go.RowKit
theorem Blk.newAt (w : World) (t : TypeId) (cs : Array Value) (g : Nat) (h : g = w.heap.size) : Blk (w.alloc (.cells cs t)) g t cs := by subst h; exact Blk.new w t cs
def nums (l : List Nat) : List Value := l.map fun (n : Nat) => .int .i64 (n : Int)
def starts : Nat → List UInt8 → List Nat
 | _, [] => []
 | i, c :: r => (if c.toNat = 10 then [i + 1] else []) ++ starts (i + 1) r
def linesOf (l : List UInt8) : List Nat := 0 :: starts 0 l
theorem starts_snoc (l : List UInt8) (c : UInt8) : ∀ i, starts i (l ++ [c]) = starts i l ++ if c.toNat = 10 then [i + l.length + 1] else [] := by
 induction l with
 | nil => intro i; simp [starts]
 | cons x r ih =>
  intro i
  rw [List.cons_append, starts, starts, ih, List.append_assoc, List.length_cons]
  rw [show i + 1 + r.length + 1 = i + (r.length + 1) + 1 from by omega]
theorem linesOf_snoc (l : List UInt8) (c : UInt8) : linesOf (l ++ [c]) = linesOf l ++ if c.toNat = 10 then [l.length + 1] else [] := by
 rw [linesOf, linesOf, starts_snoc, List.cons_append, Nat.zero_add]
theorem linesOf_len (l : List UInt8) : (linesOf l).length ≤ l.length + 1 := by
 have : ∀ (l : List UInt8) i, (starts i l).length ≤ l.length := by
  intro l
  induction l with
  | nil => intro i; simp [starts]
  | cons x r ih =>
   intro i
   have := ih (i + 1)
   rw [starts, List.length_append, List.length_cons]
   split <;> simp <;> omega
 have := this l 0
 simp [linesOf]; omega
theorem nums_snoc (l : List Nat) (n : Nat) : nums (l ++ [n]) = nums l ++ [.int .i64 (n : Int)] := by simp [nums]
def RopeAt (w : World) (r : Nat) (s : ByteArray) : Prop :=
 ∃ g cap, Blk w r 263 #[.string s, .slice (some ⟨g, 0, none⟩) (linesOf s.data.toList).length cap] ∧ Rd w w.heap.size 1 (some ⟨g, 0, none⟩) (linesOf s.data.toList).length (nums (linesOf s.data.toList))
theorem RopeAt.lt {w : World} {r : Nat} {s : ByteArray} (h : RopeAt w r s) : r < w.heap.size := by
 obtain ⟨g, cap, h1, h2⟩ := h
 exact h1.lt
theorem RopeAt.below {w w' : World} {r : Nat} {s : ByteArray} (h : RopeAt w r s) (hb : Below w.heap.size w w') : RopeAt w' r s := by
 obtain ⟨g, cap, h1, h2⟩ := h
 exact ⟨g, cap, h1.below hb h1.lt, (h2.below hb).more hb.size⟩
theorem infoI : (Tryz.prog.info? 3).map (fun i => (i.zero, i.size, i.bytes)) = some (some (.int .i64 0), 1, 8) := by kernel_rfl
set_option maxHeartbeats 1000000 in
set_option maxRecDepth 100000 in
theorem new_walk (s : ByteArray) (w : World) (hs : s.size ≤ 16777216) :
  Calls Tryz.prog 108 #[.string s] w fun e w' => ∃ r, e = .returned (.pointer (some ⟨r, 0, none⟩)) ∧ w.heap.size ≤ r ∧ RopeAt w' r s ∧ Below w.heap.size w w' := by
 obtain ⟨i0, ji, jz0, jz1, jz2⟩ := info_parts infoI
 go_enter Tryz.func108, Tryz.ntmps108
 go_wp2_with fail
 have hO := World.ownsRow_lit (base := w.heap.size) (e := 3) (size := 1) w #[.int .i64 0] 1 (Nat.le_refl _) (by unfold maxLen; omega) rfl
 have hO2 := hO.alloc (.cells #[.string s, .slice (some ⟨w.heap.size, 0, none⟩) 1 1] 263)
 have hR := Blk.newAt (w.alloc (.cells #[.int .i64 0] 3)) 263 #[.string s, .slice (some ⟨w.heap.size, 0, none⟩) 1 1] (w.heap.size + 1) (by simp)
 have hb0 : Below w.heap.size w ((w.alloc (.cells #[.int .i64 0] 3)).alloc (.cells #[.string s, .slice (some ⟨w.heap.size, 0, none⟩) 1 1] 263)) := ((Below.refl _ _).alloc (Nat.le_refl _) _).alloc (by simp) _
 go_loopw [11] (fun i wr => ∃ (k : Nat) (v : Value), k ≤ s.size ∧ i = .int .i64 k ∧ Below w.heap.size w wr ∧ Blk wr (w.heap.size + 1) 263 #[.string s, v] ∧ wr.ownsRow w.heap.size 3 1 v (linesOf (s.data.toList.take k)).length (nums (linesOf (s.data.toList.take k)))) (fun i _ => s.size - (intOf i).toNat)
 case atStart => exact ⟨0, _, Nat.zero_le _, rfl, hb0, hR, hO2⟩
 case round =>
  clear hO hO2 hR hb0
  obtain ⟨k, v, hk, rfl, hb, hR, hown⟩ := hrel
  have hbs := hb.size
  obtain ⟨Av, cv, rfl⟩ := own_form hown
  have r0 := hR.cell 0
  have r1 := hR.cell 1
  have f1 := hR.frozen 1
  have hrl := hR.lt
  simp at r0 r1
  by_cases hlt : k < s.size
  ·have hll := linesOf_len (s.data.toList.take k)
   rw [List.length_take, dlen] at hll
   have hkl : k < s.data.toList.length := by rw [dlen]; exact hlt
   have Hsn : Hid (linesOf (s.data.toList.take (k + 1)) = linesOf (s.data.toList.take k) ++ if s[k].toNat = 10 then [k + 1] else []) := by
    show _ = _
    rw [List.take_succ_eq_append_getElem hkl, linesOf_snoc, List.length_take, Nat.min_eq_left (by omega)]
    rfl
   generalize linesOf (s.data.toList.take k) = ls at *
   have hlen : ls.length ≤ 16777217 := by omega
   clear hll
   by_cases hc : s[k].toNat = 10
   ·have hc' : ((s[k].toNat : Int) == 10) = true := by simp [hc]
    have Hsn2 : Hid (linesOf (s.data.toList.take (k + 1)) = ls ++ [k + 1]) := by show _ = _; rw [Hsn.out, if_pos hc]
    clear Hsn hc
    go_wp2_with (at_builtin; refine wpList_append_lies _ rfl _ _ 57 rfl w.heap.size 3 i0 _ 1 8 Tryz.underlying57 ji jz0 jz1 jz2 rfl (by omega) _ ls.length _ rfl (hown.alloc _) ⟨wr.heap.size, 0, none⟩ 1 1 [.int .i64 ((k : Int) + 1)] rfl rfl (World.news_of_block (cs := #[.int .i64 ((k : Int) + 1)]) (t := 3) (fr := (0, 0)) (heap_alloc_new wr _)) (by simp [Value.oneCell']) (by omega) (by unfold maxLen; omega) (by omega) (by simp; omega) _ rfl ?_; intro gg cap' w3 hown3 hgrow hat hlt3; have hR3 := (hR.alloc (.cells #[.int .i64 ((k : Int) + 1)] 3)).grown hgrow (own_ne hown hR (by decide)); have r13 : w3.cell? ⟨w.heap.size + 1, 1, none⟩ = some (.slice Av ls.length cv) := (hR3.cell 1).trans rfl; have f13 := hR3.frozen 1; have hb3 := (hb.alloc hbs (.cells #[.int .i64 ((k : Int) + 1)] 3)).grown hgrow (by simp; omega) fun g hg => (hown.lt g hg).1)
    go_roundw
    case rel =>
     refine ⟨k + 1, _, by omega, by go_num, hb3.setCell (p := ⟨w.heap.size + 1, 1, none⟩) (Nat.le_succ _) _, hR3.set_ 1 _, ?_⟩
     rw [Hsn2.out, nums_snoc, List.length_append]
     refine own_of_block hown3 fun b hb' => Below.heap_setCell _ _ _ _ ?_
     have := own_ne hown3 hR3 (by decide)
     exact fun e => this (by rw [hb', e])
    case measure => simp [intOf]; omega
   ·have hc' : ((s[k].toNat : Int) == 10) = false := by simp; omega
    have Hsn2 : Hid (linesOf (s.data.toList.take (k + 1)) = ls) := by show _ = _; rw [Hsn.out, if_neg hc, List.append_nil]
    clear Hsn hc
    go_wp2_with fail
    go_roundw
    case rel => exact ⟨k + 1, _, by omega, by go_num, hb, hR, by rw [Hsn2.out]; exact hown⟩
    case measure => simp [intOf]; omega
  ·obtain rfl : k = s.size := by omega
   have e1 : s.data.toList.take s.size = s.data.toList := List.take_of_length_le (by rw [dlen]; exact Nat.le_refl _)
   rw [e1] at hown hR
   have hne : 0 < (linesOf s.data.toList).length := by simp [linesOf]
   obtain ⟨g, cap, hv, _, _⟩ := hown.form hne
   injection hv with hv _ hcv
   subst hv
   go_wp2_with fail
   go_ret
   exact ⟨w.heap.size + 1, rfl, Nat.le_succ _, ⟨g, _, hR, Rd.of_own hown⟩, hb⟩
def unitsOf (c : Nat) : Nat := if c > 0xFFFF then 2 else 1
theorem unitsOf_pos (c : Nat) : 1 ≤ unitsOf c ∧ unitsOf c ≤ 2 := by unfold unitsOf; split <;> omega
def cAt (T : List UInt8) (i : Nat) : Nat := (dec (T.drop i)).1
def sAt (T : List UInt8) (i : Nat) : Nat := (dec (T.drop i)).2
theorem sAt_pos (T : List UInt8) (i : Nat) : 1 ≤ sAt T i := (dec_size _).1
theorem sAt_le {T : List UInt8} {i : Nat} (h : i < T.length) : i + sAt T i ≤ T.length := by
 have := dec_le (T.drop i) (by intro e; have := congrArg List.length e; simp at this; omega)
 rw [List.length_drop] at this
 unfold sAt
 omega
inductive RGoes (T : List UInt8) : Nat → Nat → Nat → Nat → Prop
 | zero (i : Nat) : RGoes T i 0 0 i
 | step {i k u j : Nat} : i < T.length → RGoes T (i + sAt T i) k u j → RGoes T i (k + 1) (u + unitsOf (cAt T i)) j
theorem RGoes.snoc {T : List UInt8} {i k u j : Nat} (h : RGoes T i k u j) (hj : j < T.length) : RGoes T i (k + 1) (u + unitsOf (cAt T j)) (j + sAt T j) := by
 induction h with
 | zero i =>
  have := RGoes.step hj (RGoes.zero (T := T) (i + sAt T i))
  exact this
 | @step i k u j hi _ ih =>
  have := RGoes.step hi (ih hj)
  rw [show u + unitsOf (cAt T i) + unitsOf (cAt T j) = u + unitsOf (cAt T j) + unitsOf (cAt T i) from by omega]
  exact this
theorem RGoes.bounds {T : List UInt8} {i k u j : Nat} (h : RGoes T i k u j) : i + k ≤ j ∧ k ≤ u ∧ u ≤ 2 * k ∧ (i ≤ T.length → j ≤ T.length) := by
 induction h with
 | zero i => exact ⟨by omega, by omega, by omega, id⟩
 | @step i k u j hi _ ih =>
  have h1 := sAt_pos T i
  have h2 := unitsOf_pos (cAt T i)
  have h3 := sAt_le hi
  obtain ⟨a, b, c, d⟩ := ih
  exact ⟨by omega, by omega, by omega, fun _ => d h3⟩
theorem starts_bd (l : List UInt8) : ∀ i x, x ∈ starts i l → i < x ∧ x ≤ i + l.length := by
 induction l with
 | nil => intro i x h; simp [starts] at h
 | cons c r ih =>
  intro i x h
  rw [starts, List.mem_append] at h
  rcases h with h | h
  ·split at h
   ·simp at h; subst h; simp
   ·simp at h
  ·have := ih _ _ h
   simp at this ⊢; omega
theorem starts_sorted (l : List UInt8) : ∀ i, (starts i l).Pairwise (· < ·) := by
 induction l with
 | nil => intro i; exact List.Pairwise.nil
 | cons c r ih =>
  intro i
  rw [starts]
  split
  ·refine List.pairwise_cons.2 ⟨fun x hx => (starts_bd r _ _ hx).1, ih _⟩
  ·exact ih _
theorem linesOf_sorted (l : List UInt8) : (linesOf l).Pairwise (· < ·) := List.pairwise_cons.2 ⟨fun x hx => (starts_bd l 0 x hx).1, starts_sorted l 0⟩
theorem linesOf_le (l : List UInt8) : ∀ x ∈ linesOf l, x ≤ l.length := fun x hx => by
 rcases List.mem_cons.1 hx with rfl | h
 ·omega
 ·have := (starts_bd l 0 x h).2; omega
theorem starts_ten (l : List UInt8) : ∀ i x, x ∈ starts i l → byteAt l (x - 1 - i) = 10 := by
 induction l with
 | nil => intro i x h; simp [starts] at h
 | cons c r ih =>
  intro i x h
  rw [starts, List.mem_append] at h
  rcases h with h | h
  ·split at h
   ·rename_i hc
    simp at h; subst h
    simp [byteAt, hc]
   ·simp at h
  ·have h1 := ih _ _ h
   have h2 := (starts_bd r _ _ h).1
   rw [show x - 1 - i = (x - 1 - (i + 1)) + 1 from by omega]
   simpa [byteAt] using h1
theorem below_count {l : List Nat} (h : l.Pairwise (· < ·)) (b : Nat) : l.countP (fun y => decide (y < b)) ≤ l.length ∧ ∀ k (hk : k < l.length), (k < l.countP (fun y => decide (y < b)) ↔ l[k] < b) := by
 induction l with
 | nil => exact ⟨by simp, fun k hk => by simp at hk⟩
 | cons x r ih =>
  obtain ⟨h1, h2⟩ := List.pairwise_cons.1 h
  obtain ⟨i1, i2⟩ := ih h2
  rw [List.countP_cons]
  have hl : (x :: r).length = r.length + 1 := rfl
  by_cases hx : x < b
  ·rw [if_pos (by simpa using hx)]
   refine ⟨by omega, fun k hk => ?_⟩
   cases k with
   | zero => simp [hx]
   | succ k => simpa using i2 k (by simpa using hk)
  ·rw [if_neg (by simpa using hx)]
   have h0 : r.countP (fun y => decide (y < b)) = 0 := by
    rw [List.countP_eq_zero]
    intro y hy
    have := h1 y hy
    simp; omega
   rw [h0]
   refine ⟨by omega, fun k hk => ?_⟩
   cases k with
   | zero => simp; omega
   | succ k =>
    have := h1 (r[k]'(by simpa using hk)) (List.getElem_mem _)
    simp; omega
end Go.Proofs.YtcjjfeephaddcaaGreatDoor
namespace Go.Proofs
open Go.Shelf
def Tryz.searchI_ren : Go.Shelf.Ren := ⟨fun | 14 => 154 | 16 => 204 | 22 => 205 | n => n, fun | 0 => 0 | 3 => 3 | 4 => 4 | 28 => 57 | 35 => 253 | 38 => 303 | n => n, fun n => n⟩
theorem Tryz.searchI : SlLaysO.n14 Tryz.prog Tryz.searchI_ren := {
 mixed := by kernel_rfl
 f14 := Tryz.func154.trans (congrArg some (by kernel_rfl))
 f16 := Tryz.func204.trans (congrArg some (by kernel_rfl))
 f22 := Tryz.func205.trans (congrArg some (by kernel_rfl))
 t0 := Tryz.underlying0
 a0 := Tryz.isAgg0
 z0 := Tryz.sizeOf0
 v0 := Tryz.zeroValue0
 t3 := Tryz.underlying3
 a3 := Tryz.isAgg3
 z3 := Tryz.sizeOf3
 v3 := Tryz.zeroValue3
 t4 := Tryz.underlying4
 a4 := Tryz.isAgg4
 z4 := Tryz.sizeOf4
 v4 := Tryz.zeroValue4
 t28 := Tryz.underlying57
 a28 := Tryz.isAgg57
 z28 := Tryz.sizeOf57
 v28 := Tryz.zeroValue57
 t35 := Tryz.underlying253
 a35 := Tryz.isAgg253
 z35 := Tryz.sizeOf253
 v35 := Tryz.zeroValue253
 t38 := Tryz.underlying303
 a38 := Tryz.isAgg303
 z38 := Tryz.sizeOf303
 v38 := Tryz.zeroValue303 }
end Go.Proofs
namespace Go.Proofs.YtcjjfeephaddcaaGreatDoor
open Go.RowKit
theorem search_walk (g cap : Nat) (ls : List Nat) (x : Nat) (w : World) (h : Rd w w.heap.size 1 (some ⟨g, 0, none⟩) ls.length (nums ls)) (hp : ls.Pairwise (· < ·)) (h0 : 0 < ls.length) (hl : ls.length ≤ 16777217) :
  Calls Tryz.prog 154 #[.slice (some ⟨g, 0, none⟩) ls.length cap, .int .i64 x] w fun e w' => e = .returned (.int .i64 (ls.countP fun y => decide (y < x) : Nat)) ∧ Below w.heap.size w w' := by
 obtain ⟨b, o, e, hb, hc⟩ := h.2 h0
 injection e with e
 injection e with e1 e2
 subst e1 e2
 have hd : ((ls.map Int.ofNat).toArray).size = ls.length := by simp
 have hget : ∀ i, i < ls.length → ((ls.map Int.ofNat).toArray)[i]! = (ls[i]?.getD 0 : Nat) := fun i hi => by
  rw [Array.getElem!_eq_getD, Array.getD_eq_getD_getElem?]
  simp [hi]
 have key := Any.sort_SearchInts Tryz.searchI g 0 cap (ls.map Int.ofNat).toArray x w (fun i hi => by
   rw [hd] at hi
   rw [hget i hi]
   refine hc i _ ?_
   simp [nums, hi]) hb (by rw [hd]; omega) (fun a b hab hb2 hx => by
   rw [hd] at hb2
   rw [hget a (by omega)] at hx
   rw [hget b hb2]
   have hx' := of_decide_eq_true hx
   refine decide_eq_true ?_
   rcases Nat.lt_or_ge a b with h' | h'
   ·have := List.pairwise_iff_getElem.1 hp a b (by omega) hb2 h'
    simp [hb2, show a < ls.length by omega] at hx' ⊢
    omega
   ·obtain rfl : a = b := by omega
    exact hx')
 rw [hd] at key
 have ec : ((ls.map Int.ofNat).toArray).toList.countP (fun y => !decide ((x : Int) ≤ y)) = ls.countP fun y => decide (y < x) := by
  rw [List.toList_toArray, List.countP_map]
  congr 1
  funext y
  show (!decide ((x : Int) ≤ (y : Int))) = decide (y < x)
  rw [Bool.eq_iff_iff]
  simp only [Bool.not_eq_true', decide_eq_false_iff_not, decide_eq_true_eq]
  omega
 rw [ec] at key
 exact key
theorem rdecode_walk (s : ByteArray) (i : Nat) (hi : i < s.size) (w : World) (hT : T8 w) :
  Calls Tryz.prog 155 #[.string (s.extract i s.size)] w fun e w' => e = .returned (.tuple #[.int .i32 (cAt s.data.toList i), .int .i64 (sAt s.data.toList i)]) ∧ Below w.heap.size w w' := by
 have h := Tryz.utf8_DecodeRuneInString (s.extract i s.size) w hT
 rw [decodeGo_tail s i hi, decode_eq] at h
 exact h
end Go.Proofs.YtcjjfeephaddcaaGreatDoor
namespace Go.Proofs.YtcjjfeephaddcaaGreatDoor
open Go.RowKit
set_option maxRecDepth 100000 in
theorem units_walk (c : Nat) (w : World) : Calls Tryz.prog 112 #[.int .i32 c] w fun e w' => e = .returned (.int .i64 (unitsOf c)) ∧ w = w' := by
 by_cases h : c > 0xFFFF
 ·have e1 : unitsOf c = 2 := by unfold unitsOf; rw [if_pos h]
  rw [e1]
  go_enter Tryz.func112, Tryz.ntmps112
  go_wp2
  go_ret
  exact ⟨rfl, rfl⟩
 ·have e1 : unitsOf c = 1 := by unfold unitsOf; rw [if_neg h]
  rw [e1]
  go_enter Tryz.func112, Tryz.ntmps112
  go_wp2
  go_ret
  exact ⟨rfl, rfl⟩
def toOf (T : List UInt8) (n : Nat) : Nat := if n + 1 < (linesOf T).length then (linesOf T)[n + 1]?.getD 0 - 1 else T.length
def fromOf (T : List UInt8) (n : Nat) : Nat := (linesOf T)[n]?.getD 0
theorem RopeAt.start {w : World} {r : Nat} {s : ByteArray} (h : RopeAt w r s) {n : Nat} (hn : n < (linesOf s.data.toList).length) :
  ∃ g cap, w.cell? ⟨r, 0, none⟩ = some (.string s) ∧ w.cell? ⟨r, 1, none⟩ = some (.slice (some ⟨g, 0, none⟩) (linesOf s.data.toList).length cap) ∧ ∀ k, k < (linesOf s.data.toList).length → w.cell? ⟨g, k, none⟩ = some (.int .i64 (fromOf s.data.toList k)) := by
 obtain ⟨g, cap, h1, h2⟩ := h
 refine ⟨g, cap, h1.cell 0, h1.cell 1, fun k hk => ?_⟩
 obtain ⟨b, o, e, hb, hc⟩ := h2.2 (by omega)
 injection e with e
 injection e with e1 e2
 subst e1 e2
 have := hc k (.int .i64 (fromOf s.data.toList k)) (by simp [nums, fromOf, hk])
 simpa using this
theorem from_lt {T : List UInt8} {n : Nat} (hn : n < (linesOf T).length) : fromOf T n ≤ T.length := by
 unfold fromOf
 rw [List.getElem?_eq_getElem hn]
 exact linesOf_le T _ (List.getElem_mem _)
theorem from_succ {T : List UInt8} {n : Nat} (hn : n + 1 < (linesOf T).length) : fromOf T n < fromOf T (n + 1) ∧ toOf T n = fromOf T (n + 1) - 1 ∧ byteAt T (toOf T n) = 10 := by
 have h1 := List.pairwise_iff_getElem.1 (linesOf_sorted T) n (n + 1) (by omega) hn (by omega)
 unfold fromOf toOf
 rw [if_pos hn, List.getElem?_eq_getElem hn, List.getElem?_eq_getElem (by omega)]
 refine ⟨h1, rfl, ?_⟩
 have h2 : (linesOf T)[n + 1] ∈ starts 0 T := by
  simp only [linesOf, List.getElem_cons_succ]
  exact List.getElem_mem _
 have := starts_ten T 0 _ h2
 simpa using this
set_option maxRecDepth 100000 in
theorem rune_yes (r : Nat) (s : ByteArray) (i : Nat) (w : World) (hT : T8 w) (h : RopeAt w r s) (hi : i < s.size) :
  Calls Tryz.prog 111 #[.pointer (some ⟨r, 0, none⟩), .int .i64 i] w fun e w' => e = .returned (.tuple #[.int .i32 (cAt s.data.toList i), .int .i64 (sAt s.data.toList i)]) ∧ Below w.heap.size w w' := by
 obtain ⟨g, cap, h1, h2⟩ := h
 have r0 := h1.cell 0
 simp at r0
 have d1 : decide ((i : Int) < 0) = false := by simp
 have d2 : decide (s.size ≤ i) = false := by simp; omega
 have h3 : i ≤ s.size := by omega
 go_enter Tryz.func111, Tryz.ntmps111
 go_wp2_with fail
 refine (rdecode_walk s i hi _ hT).mono ?_
 rintro e w1 ⟨rfl, hb⟩
 go_wp2_with fail
 go_ret2
 exact ⟨rfl, hb⟩
def PlaceIs (T : List UInt8) (a n k u j : Nat) : Prop :=
 n < (linesOf T).length ∧ fromOf T n ≤ a ∧ a ≤ toOf T n ∧ RGoes T (fromOf T n) k u j ∧ j ≤ a ∧ (j = a ∨ (j < T.length ∧ a < j + sAt T j))
def clampA (T : List UInt8) (at_ : Int) : Nat := (max 0 (min at_ (T.length : Int))).toNat
theorem clampA_le (T : List UInt8) (at_ : Int) : clampA T at_ ≤ T.length := by unfold clampA; omega
theorem lineOf_spec (T : List UInt8) (a : Nat) (ha : a ≤ T.length) : ∃ n, (linesOf T).countP (fun y => decide (y < a + 1)) = n + 1 ∧ n < (linesOf T).length ∧ fromOf T n ≤ a ∧ a ≤ toOf T n := by
 obtain ⟨h1, h2⟩ := below_count (linesOf_sorted T) (a + 1)
 have h0 : 0 < (linesOf T).length := by simp [linesOf]
 have h3 := (h2 0 h0).2 (by simp [linesOf])
 obtain ⟨n, hn⟩ : ∃ n, (linesOf T).countP (fun y => decide (y < a + 1)) = n + 1 := ⟨_, (Nat.succ_pred_eq_of_pos h3).symm⟩
 rw [hn] at h1 h2
 refine ⟨n, hn, by omega, ?_, ?_⟩
 ·have := (h2 n (by omega)).1 (by omega)
  unfold fromOf
  rw [List.getElem?_eq_getElem (by omega)]
  show (linesOf T)[n] ≤ a
  omega
 ·by_cases h : n + 1 < (linesOf T).length
  ·obtain ⟨f1, f2, -⟩ := from_succ h
   have := (h2 (n + 1) h)
   have h4 : ¬ (linesOf T)[n + 1] < a + 1 := fun hx => by have := this.2 hx; omega
   unfold fromOf at f1 f2
   rw [List.getElem?_eq_getElem h] at f1 f2
   simp only [Option.getD_some] at f1 f2
   omega
  ·unfold toOf; rw [if_neg h]; exact ha
set_option maxHeartbeats 2000000 in
set_option maxRecDepth 100000 in
theorem rplace_walk (r : Nat) (s : ByteArray) (at_ : Int) (w : World) (hT : T8 w) (h : RopeAt w r s) (hs : s.size ≤ 16777216) :
  Calls Tryz.prog 110 #[.pointer (some ⟨r, 0, none⟩), .int .i64 at_] w fun e w' => ∃ n k u j : Nat, e = .returned (.agg #[.int .i64 n, .int .i64 k, .int .i64 u]) ∧ PlaceIs s.data.toList (clampA s.data.toList at_) n k u j ∧ Below w.heap.size w w' := by
 obtain ⟨a, ha⟩ : ∃ a, clampA s.data.toList at_ = a := ⟨_, rfl⟩
 have hal := clampA_le s.data.toList at_
 rw [ha] at hal ⊢
 obtain ⟨n, hn1, hn2, hn3, hn4⟩ := lineOf_spec s.data.toList a hal
 rw [dlen] at hal
 have hmx : max 0 (min at_ (s.size : Int)) = (a : Int) := by
  rw [← ha]; unfold clampA; rw [dlen]; omega
 have Ha := Lib.hid ha
 have Hn1 := Lib.hid hn1
 clear ha hn1
 have H := h
 obtain ⟨g, cap, r0, r1, hc⟩ := h.start hn2
 have Hc := Lib.hid hc
 have hr2 : Rd w w.heap.size 1 (some ⟨g, 0, none⟩) (linesOf s.data.toList).length (nums (linesOf s.data.toList)) := by
  obtain ⟨g', cap', h1, h2⟩ := H
  have := h1.cell 1
  rw [r1] at this
  injection this with this
  injection this with e1 _ _
  rw [e1]; exact h2
 clear hc
 have hl := linesOf_len s.data.toList
 rw [dlen] at hl
 have hrl := h.lt
 go_enter Tryz.func110, Tryz.ntmps110
 go_wp2_with fail
 have hb0 : Below w.heap.size w (w.alloc (.cells #[.int .i64 0, .int .i64 0, .int .i64 0] 213)) := (Below.refl _ _).alloc (Nat.le_refl _) _
 have hR0 := Blk.new w 213 #[.int .i64 0, .int .i64 0, .int .i64 0]
 generalize w.alloc (.cells #[.int .i64 0, .int .i64 0, .int .i64 0] 213) = w0 at *
 have hsw := search_walk g cap (linesOf s.data.toList) (a + 1) w0 ((hr2.below hb0).more hb0.size) (linesOf_sorted _) (by omega) (by omega)
 rw [Hn1.out] at hsw
 have e1 : ((a + 1 : Nat) : Int) = (a : Int) + 1 := by omega
 rw [e1] at hsw
 refine hsw.mono ?_
 clear hsw e1 hmx
 rintro e w1 ⟨rfl, hb1⟩
 have hb01 := hb0.trans (hb1.mono hb0.size)
 have hR1 := hR0.below hb1 hR0.lt
 have H1 := H.below hb01
 have hrl1 := H1.lt
 obtain ⟨g1, cap1, r01, r11, hc1⟩ := H1.start hn2
 have c1 := hc1 n hn2
 have hT1 := hT.below hb01
 have hsz1 := hb01.size
 have hgl1 : g1 < w1.heap.size := World.block_lt_of_cell? w1 ⟨g1, n, none⟩ c1
 have ft := from_lt hn2
 rw [dlen] at ft
 clear r0 r1 hc1 hR0 hb0 hb1
 have e2 : ((n + 1 : Nat) : Int) - 1 = n := by omega
 generalize hln : (linesOf s.data.toList).length = ln at *
 have Hn2 : Hid (n < (linesOf s.data.toList).length) := by show n < _; rw [hln]; exact hn2
 clear hln
 go_wp2_with fail
 have hbp : Below w.heap.size w (w1.alloc (.cells #[.int .i64 n, .int .i64 0, .int .i64 0] 213)) := hb01.alloc hsz1 _
 have hRz0 := hR1.alloc (.cells #[.int .i64 n, .int .i64 0, .int .i64 0] 213)
 have hRp0 := Blk.new w1 213 #[.int .i64 n, .int .i64 0, .int .i64 0]
 have hlt1 := hR1.lt
 generalize w1.alloc (.cells #[.int .i64 n, .int .i64 0, .int .i64 0] 213) = wp at *
 generalize w1.heap.size = pb at *
 go_loopw [7] (fun i wr => ∃ k u j : Nat, i = .int .i64 j ∧ Hid (RGoes s.data.toList (fromOf s.data.toList n) k u j) ∧ j ≤ a ∧ Below w.heap.size w wr ∧ Blk wr w.heap.size 213 #[.int .i64 0, .int .i64 0, .int .i64 0] ∧ Blk wr pb 213 #[.int .i64 n, .int .i64 k, .int .i64 u]) (fun i _ => a - (intOf i).toNat)
 case atStart => exact ⟨0, 0, _, rfl, RGoes.zero _, hn3, hbp, hRz0, hRp0⟩
 case round =>
  clear hbp hRz0 hRp0 hR1 hb01 H1 r01 r11 c1 hT1
  obtain ⟨k, u, j, rfl, HG, hja, hb, hRz, hRp⟩ := hrel
  have hbs := hb.size
  obtain ⟨b1, b2, b3, b4⟩ := HG.out.bounds
  have Hr := H.below hb
  obtain ⟨g2, cap2, r0, r1, hc2⟩ := Hr.start Hn2.out
  clear hc2
  have p0 := hRp.cell 0
  have p1 := hRp.cell 1
  have p2 := hRp.cell 2
  have fp1 := hRp.frozen 1
  have fp2 := hRp.frozen 2
  have hpl := hRp.lt
  simp at p0 p1 p2
  have hjs0 : j ≤ s.size := by omega
  by_cases hlt : j < a
  ·have hjs : j < s.size := by omega
   have hz1 := sAt_pos s.data.toList j
   have hz2 := sAt_le (T := s.data.toList) (i := j) (by rw [dlen]; exact hjs)
   rw [dlen] at hz2
   have hu := unitsOf_pos (cAt s.data.toList j)
   have HS : Hid (RGoes s.data.toList (fromOf s.data.toList n) (k + 1) (u + unitsOf (cAt s.data.toList j)) (j + sAt s.data.toList j)) := HG.out.snoc (by rw [dlen]; exact hjs)
   have HZ : Hid (a < j + sAt s.data.toList j → PlaceIs s.data.toList a n k u j) := fun h => ⟨Hn2.out, hn3, hn4, HG.out, hja, .inr ⟨by rw [dlen]; exact hjs, h⟩⟩
   have hd := rdecode_walk s j hjs wr (hT.below hb)
   have hk : k ≤ 16777216 := by omega
   have huu : u ≤ 33554432 := by omega
   clear b1 b2 b3 b4
   generalize sAt s.data.toList j = z at *
   have Hu := units_walk (cAt s.data.toList j)
   generalize cAt s.data.toList j = c at *
   go_wp2_with fail
   refine hd.mono ?_
   clear hd r0 r1
   rintro e w2 ⟨rfl, hb2⟩
   have hb02 := hb.trans (hb2.mono hbs)
   have hRz2 := hRz.below hb2 hRz.lt
   have hRp2 := hRp.below hb2 hRp.lt
   clear p0 p1 p2 fp1 fp2
   have p0 := hRp2.cell 0
   have p1 := hRp2.cell 1
   have p2 := hRp2.cell 2
   have fp1 := hRp2.frozen 1
   have fp2 := hRp2.frozen 2
   have z0 := hRz2.cell 0
   have z1 := hRz2.cell 1
   have z2 := hRz2.cell 2
   have fz0 := hRz2.frozen 0
   have fz1 := hRz2.frozen 1
   have fz2 := hRz2.frozen 2
   simp at p0 p1 p2 z0 z1 z2
   by_cases hbk : a < j + z
   ·have HP := Lib.hid (HZ.out hbk)
    go_wp2_with fail
    have hres : Tryz.f110.results = #[.cell 4 213] := by kernel_rfl
    refine bodyPost_ret (v := .agg #[.int .i64 n, .int .i64 k, .int .i64 u]) ?_ rfl ⟨n, k, u, j, rfl, HP.out, ?_⟩
    ·simp only [results, hres]
     go_simp
    ·exact ((hb02.setCell (p := ⟨w.heap.size, 0, none⟩) (Nat.le_refl _) _).setCell (p := ⟨w.heap.size, 1, none⟩) (Nat.le_refl _) _).setCell (p := ⟨w.heap.size, 2, none⟩) (Nat.le_refl _) _
   ·have hk2 : IntKind.i64.wrap ((u : Int) + unitsOf c) = u + unitsOf c := by rw [IntWalk.i64_in _ (by omega)]
    go_wp2_with fail
    have hRp3 := hRp2.set_ 1 (.int .i64 ((k : Int) + 1))
    have hRz3 := hRz2.far (p := ⟨pb, 1, none⟩) (Nat.ne_of_lt hlt1) (.int .i64 ((k : Int) + 1))
    have hb3 := hb02.setCell (p := ⟨pb, 1, none⟩) (Nat.le_of_lt hlt1) (.int .i64 ((k : Int) + 1))
    clear p0 p1 p2 fp1 fp2 z0 z1 z2 fz0 fz1 fz2 hRz2 hRp2 hb02 hRz hRp hb hb2
    generalize w2.setCell ⟨pb, 1, none⟩ (.int .i64 ((k : Int) + 1)) = w3 at *
    have p2 : w3.cell? ⟨pb, 2, none⟩ = some (.int .i64 u) := (hRp3.cell 2).trans rfl
    have fp2 := hRp3.frozen 2
    have hpl3 := hRp3.lt
    go_region_with (first | (go_at_call 112; refine (Hu _).mono ?_; rintro e w' ⟨rfl, rfl⟩))
    all_goals
     go_wp2_with fail
     go_roundw
     case rel =>
      refine ⟨k + 1, u + unitsOf c, j + z, by go_num, HS, by omega, (hb3.setCell (p := ⟨pb, 2, none⟩) (Nat.le_of_lt hlt1) _).drew, (hRz3.far (p := ⟨pb, 2, none⟩) (Nat.ne_of_lt hlt1) _).drew, ?_⟩
      have := (hRp3.set_ 2 (.int .i64 ((u : Int) + unitsOf c))).drew
      exact this
     case measure => simp [intOf]; omega
  ·obtain rfl : j = a := by omega
   have z0 := hRz.cell 0
   have z1 := hRz.cell 1
   have z2 := hRz.cell 2
   have fz0 := hRz.frozen 0
   have fz1 := hRz.frozen 1
   have fz2 := hRz.frozen 2
   simp at z0 z1 z2
   go_wp2_with fail
   have hres : Tryz.f110.results = #[.cell 4 213] := by kernel_rfl
   refine bodyPost_ret (v := .agg #[.int .i64 n, .int .i64 k, .int .i64 u]) ?_ rfl ⟨n, k, u, j, rfl, ⟨Hn2.out, hn3, hn4, HG.out, hja, .inl rfl⟩, ?_⟩
   ·simp only [results, hres]
    go_simp
   ·exact ((hb.setCell (p := ⟨w.heap.size, 0, none⟩) (Nat.le_refl _) _).setCell (p := ⟨w.heap.size, 1, none⟩) (Nat.le_refl _) _).setCell (p := ⟨w.heap.size, 2, none⟩) (Nat.le_refl _) _
structure Co where
 l : Int
 u : Int
 n : Int
 k : Int
deriving DecidableEq
def Co.cells (p : Co) : List Value := [.int .i64 p.l, .int .i64 p.u, .int .i64 p.n, .int .i64 p.k]
def coCells (l : List Co) : List Value := l.flatMap Co.cells
theorem coCells_len (l : List Co) : (coCells l).length = l.length * 4 := by
 induction l with
 | nil => rfl
 | cons a l ih => simp only [coCells, List.flatMap_cons, List.length_append, List.length_cons] at *; rw [ih]; simp [Co.cells]; omega
theorem coCells_app (a b : List Co) : coCells (a ++ b) = coCells a ++ coCells b := by simp [coCells]
theorem coCells_one (l : List Co) : ∀ u ∈ coCells l, u.oneCell' = true := by
 induction l with
 | nil => intro u hu; simp [coCells] at hu
 | cons s r ih =>
  intro u hu
  simp only [coCells, List.flatMap_cons, List.mem_append] at hu
  rcases hu with hu | hu
  ·simp only [Co.cells, List.mem_cons, List.mem_nil_iff, or_false] at hu
   rcases hu with rfl | rfl | rfl | rfl <;> rfl
  ·exact ih u hu
theorem coCells_get (l : List Co) (k j : Nat) (hj : j < 4) (hk : k < l.length) : (coCells l)[k * 4 + j]? = (l[k].cells)[j]? := by
 induction l generalizing k with
 | nil => simp at hk
 | cons a l ih =>
  cases k with
  | zero => simp only [coCells, List.flatMap_cons]; rw [List.getElem?_append_left (by simp [Co.cells]; omega)]; simp
  | succ k =>
   have h3 : a.cells.length = 4 := rfl
   simp only [coCells, List.flatMap_cons]
   rw [List.getElem?_append_right (by omega), h3]
   have e : (k + 1) * 4 + j - 4 = k * 4 + j := by omega
   rw [e]
   have := ih k (by simpa using hk)
   simpa [coCells] using this
theorem coCells_drop (l : List Co) (k : Nat) : (coCells l).drop (k * 4) = coCells (l.drop k) := by
 induction l generalizing k with
 | nil => simp [coCells]
 | cons a l ih =>
  cases k with
  | zero => simp
  | succ k =>
   have h3 : a.cells.length = 4 := rfl
   have := ih k
   simp only [coCells, List.flatMap_cons, List.drop_succ_cons] at this ⊢
   rw [show (k + 1) * 4 = a.cells.length + k * 4 from by omega, List.drop_append, Nat.add_sub_cancel_left, this, List.drop_of_length_le (by omega), List.nil_append]
theorem coCells_take (l : List Co) (k : Nat) : (coCells l).take (k * 4) = coCells (l.take k) := by
 induction l generalizing k with
 | nil => simp [coCells]
 | cons a l ih =>
  cases k with
  | zero => simp [coCells]
  | succ k =>
   have h3 : a.cells.length = 4 := rfl
   have := ih k
   simp only [coCells, List.flatMap_cons, List.take_succ_cons] at this ⊢
   rw [show (k + 1) * 4 = a.cells.length + k * 4 from by omega, List.take_append, Nat.add_sub_cancel_left, this, List.take_of_length_le (by omega)]
theorem Rd.co {w : World} {B : Nat} {A : Option Addr} {l : List Co} {k : Nat} (h : Rd w B 4 A l.length (coCells l)) (hk : k < l.length) :
  ∃ b o, A = some ⟨b, o, none⟩ ∧ b < B ∧ ∀ (j : Nat) (hj : j < l.length), w.cell? ⟨b, o + j * 4, none⟩ = some (.int .i64 l[j].l) ∧ w.cell? ⟨b, o + j * 4 + 1, none⟩ = some (.int .i64 l[j].u) ∧ w.cell? ⟨b, o + j * 4 + 2, none⟩ = some (.int .i64 l[j].n) ∧ w.cell? ⟨b, o + j * 4 + 3, none⟩ = some (.int .i64 l[j].k) := by
 obtain ⟨b, o, e, hb, hc⟩ := h.2 (by omega)
 refine ⟨b, o, e, hb, fun j hj => ⟨?_, ?_, ?_, ?_⟩⟩
 ·have := hc (j * 4 + 0) _ (coCells_get l j 0 (by omega) hj); simpa [Nat.add_assoc] using this
 ·have := hc (j * 4 + 1) _ (coCells_get l j 1 (by omega) hj); simpa [Nat.add_assoc] using this
 ·have := hc (j * 4 + 2) _ (coCells_get l j 2 (by omega) hj); simpa [Nat.add_assoc] using this
 ·have := hc (j * 4 + 3) _ (coCells_get l j 3 (by omega) hj); simpa [Nat.add_assoc] using this
theorem Co.ne_ways {x y : Co} (h : x ≠ y) : x.l ≠ y.l ∨ (x.l = y.l ∧ x.u ≠ y.u) ∨ (x.l = y.l ∧ x.u = y.u ∧ x.n ≠ y.n) ∨ (x.l = y.l ∧ x.u = y.u ∧ x.n = y.n ∧ x.k ≠ y.k) := by
 by_cases h1 : x.l = y.l
 ·by_cases h2 : x.u = y.u
  ·by_cases h3 : x.n = y.n
   ·by_cases h4 : x.k = y.k
    ·cases x; cases y; simp_all
    ·exact .inr (.inr (.inr ⟨h1, h2, h3, h4⟩))
   ·exact .inr (.inr (.inl ⟨h1, h2, h3⟩))
  ·exact .inr (.inl ⟨h1, h2⟩)
 ·exact .inl h1
def pre : List Co → List Co → Nat
 | x :: a, y :: b => if x = y then pre a b + 1 else 0
 | _, _ => 0
theorem pre_le (a b : List Co) : pre a b ≤ a.length ∧ pre a b ≤ b.length := by
 induction a generalizing b with
 | nil => simp [pre]
 | cons x a ih =>
  cases b with
  | nil => simp [pre]
  | cons y b =>
   have := ih b
   simp only [pre, List.length_cons]
   split <;> omega
theorem pre_next {a b : List Co} {k : Nat} (h : k ≤ pre a b) (ha : k < a.length) (hb : k < b.length) (he : a[k] = b[k]) : k + 1 ≤ pre a b := by
 induction a generalizing b k with
 | nil => simp at ha
 | cons x a ih =>
  cases b with
  | nil => simp at hb
  | cons y b =>
   cases k with
   | zero =>
    simp only [List.getElem_cons_zero] at he
    simp only [pre, if_pos he]; omega
   | succ k =>
    simp only [pre] at h ⊢
    split at h
    ·rename_i hxy
     rw [if_pos hxy]
     have := ih (b := b) (k := k) (by omega) (by simpa using ha) (by simpa using hb) (by simpa using he)
     omega
    ·omega
theorem pre_stop {a b : List Co} {k : Nat} (h : k ≤ pre a b) (hs : ∀ (ha : k < a.length) (hb : k < b.length), a[k] ≠ b[k]) : pre a b = k := by
 induction a generalizing b k with
 | nil => simp [pre] at h ⊢; omega
 | cons x a ih =>
  cases b with
  | nil => simp [pre] at h ⊢; omega
  | cons y b =>
   cases k with
   | zero =>
    have := hs (by simp) (by simp)
    simp only [List.getElem_cons_zero] at this
    simp only [pre, if_neg this]
   | succ k =>
    simp only [pre] at h ⊢
    split at h
    ·rename_i hxy
     rw [if_pos hxy]
     have := ih (b := b) (k := k) (by omega) (fun h1 h2 => by have := hs (by simpa using h1) (by simpa using h2); simpa using this)
     omega
    ·omega
def suf (a b : List Co) (at_ : Nat) : Nat := pre (a.drop at_).reverse (b.drop at_).reverse
theorem suf_le (a b : List Co) (at_ : Nat) : suf a b at_ ≤ a.length - at_ ∧ suf a b at_ ≤ b.length - at_ := by
 have := pre_le (a.drop at_).reverse (b.drop at_).reverse
 simpa [suf] using this
theorem rev_get {a : List Co} {at_ k : Nat} (h : k < a.length - at_) : ((a.drop at_).reverse)[k]'(by simpa using h) = a[a.length - 1 - k]'(by omega) := by
 rw [List.getElem_reverse, List.getElem_drop]
 congr 1
 simp; omega
theorem suf_next {a b : List Co} {at_ k : Nat} (h : k ≤ suf a b at_) (ha : k < a.length - at_) (hb : k < b.length - at_) (he : a[a.length - 1 - k]'(by omega) = b[b.length - 1 - k]'(by omega)) : k + 1 ≤ suf a b at_ :=
 pre_next h (by simpa using ha) (by simpa using hb) (by rw [rev_get ha, rev_get hb]; exact he)
theorem suf_stop {a b : List Co} {at_ k : Nat} (h : k ≤ suf a b at_) (hs : ∀ (ha : k < a.length - at_) (hb : k < b.length - at_), a[a.length - 1 - k]'(by omega) ≠ b[b.length - 1 - k]'(by omega)) : suf a b at_ = k :=
 pre_stop h fun h1 h2 => by
  have h1' : k < a.length - at_ := by simpa using h1
  have h2' : k < b.length - at_ := by simpa using h2
  have := hs h1' h2'
  rw [rev_get h1', rev_get h2']; exact this
theorem infoCo : (Tryz.prog.info? 71).map (fun i => (i.zero, i.size, i.bytes)) = some (some (.agg #[.int .i64 0, .int .i64 0, .int .i64 0, .int .i64 0]), 4, 32) := by kernel_rfl
set_option maxRecDepth 100000 in
theorem clip_walk (A : Option Addr) (n c : Nat) (w : World) (h : n ≤ c) (hn : A = none → c = 0) :
  Calls Tryz.prog 64 #[.slice A n c] w fun e w' => e = .returned (.slice A n n) ∧ w = w' := by
 cases A with
 | none =>
  have := hn rfl
  subst this
  obtain rfl : n = 0 := by omega
  go_enter Tryz.func64, Tryz.ntmps64
  go_wp2
  go_ret
  exact ⟨rfl, rfl⟩
 | some a =>
  go_enter Tryz.func64, Tryz.ntmps64
  go_wp2
  go_ret
  exact ⟨rfl, rfl⟩
def CoAt (w : World) (A : Option Addr) (l : List Co) : Prop :=
 (A = none → l = []) ∧ ∀ ad, A = some ad → ∀ j u, (coCells l)[j]? = some u → w.cell? (ad.add j) = some u
theorem CoAt.keep {w w' : World} {A : Option Addr} {l : List Co} (h : CoAt w A l) (hk : ∀ p : Addr, ∀ u, w.cell? p = some u → w'.cell? p = some u) : CoAt w' A l :=
 ⟨h.1, fun ad ha j u hu => hk _ _ (h.2 ad ha j u hu)⟩
theorem CoAt.below {w w' : World} {A : Option Addr} {l : List Co} (h : CoAt w A l) (hb : Below w.heap.size w w') : CoAt w' A l :=
 h.keep fun p u hp => by
  have := World.block_lt_of_cell? w p hp
  exact (hb.cell this).trans hp
theorem Rd.coAt {w : World} {B : Nat} {A : Option Addr} {l : List Co} (h : Rd w B 4 A l.length (coCells l)) : CoAt w A l := by
 constructor
 ·intro hA
  rcases Nat.eq_zero_or_pos l.length with h0 | h0
  ·exact List.eq_nil_of_length_eq_zero h0
  ·obtain ⟨b, o, e, _⟩ := h.2 h0
   rw [hA] at e; cases e
 ·intro ad hA j u hu
  have hj : j < l.length * 4 := by
   have := (List.getElem?_eq_some_iff.1 hu).1
   rwa [coCells_len] at this
  obtain ⟨b, o, e, _, hc⟩ := h.2 (by omega)
  rw [hA] at e
  injection e with e
  subst e
  have := hc j u hu
  unfold Addr.add
  split
  ·rename_i h0; subst h0; simpa using this
  ·exact this
set_option maxHeartbeats 1000000 in
set_option maxRecDepth 100000 in
theorem clone_walk (A : Option Addr) (c : Nat) (l : List Co) (w : World) (h : CoAt w A l) (hc : A = none → c = 0) (hl : l.length ≤ 4194304) :
  Calls Tryz.prog 65 #[.slice A l.length c] w fun e w' => ∃ v, e = .returned v ∧ w'.ownsRow w.heap.size 71 4 v l.length (coCells l) ∧ Below w.heap.size w w' := by
 obtain ⟨i0, ji, jz0, jz1, jz2⟩ := info_parts infoCo
 cases A with
 | none =>
  have h1 := h.1 rfl
  have h2 := hc rfl
  subst h1 h2
  have hnl := fun w : World => Lib.run_eql_slice_nil (P := Tryz.prog) w 62 71 none 0 0 0 0 Tryz.underlying62
  go_enter Tryz.func65, Tryz.ntmps65
  go_wp2
  go_ret
  exact ⟨_, rfl, World.ownsRow_nil _ _ _ _, Below.refl _ _⟩
 | some ad =>
  have h2 := h.2 ad rfl
  have hcl := coCells_len l
  have hO := World.ownsRow_lit (base := w.heap.size) (e := 71) (size := 4) w #[] 0 (Nat.le_refl _) (by unfold maxLen; omega) rfl
  have h3 : ∀ j u, (coCells l)[j]? = some u → (w.alloc (.cells #[] 71)).cell? (ad.add j) = some u := fun j u hu => by
   have h4 := h2 j u hu
   have h5 := World.block_lt_of_cell? w _ h4
   rw [World.cell?_of_block (Below.heap_alloc w _ _ h5)]; exact h4
  have H3 := Lib.hid h3
  have hb : Below w.heap.size w (w.alloc (.cells #[] 71)) := (Below.refl _ _).alloc (Nat.le_refl _) _
  clear h2 h3 h
  have hnl := fun w : World => Lib.run_eql_slice_nil (P := Tryz.prog) w 62 71 (some ad) l.length c 0 0 Tryz.underlying62
  go_enter Tryz.func65, Tryz.ntmps65
  go_wp2_with (at_builtin; refine wpList_append_own _ rfl _ _ 62 rfl w.heap.size 71 i0 _ 4 32 Tryz.underlying62 ji jz0 jz1 jz2 rfl (by omega) _ 0 _ rfl hO ad l.length c (coCells l) rfl hcl H3.out (coCells_one l) (by unfold maxLen; omega) (by omega) (by simp) ?_; intro v' w4 hown4 hgrow _)
  go_ret
  exact ⟨v', rfl, by simpa using hown4, hb.grown hgrow hb.size fun g hg => (hO.lt g hg).1⟩
end Go.Proofs.YtcjjfeephaddcaaGreatDoor
