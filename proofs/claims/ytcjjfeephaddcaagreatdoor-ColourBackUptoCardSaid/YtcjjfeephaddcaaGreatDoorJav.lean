/-
  JOINED of the texts CG EJ CI Concat CH Diff CJ
-/
import Derived.Test.YtcjjfeephaddcaaGreatDoorJau
import Derived.Shelf.Spec.SlicesGrow
import Derived.Deep.Slices
set_option linter.all false
namespace Go.Proofs.YtcjjfeephaddcaaGreatDoor
open Go.RowKit Go.Maps
theorem Lx.tok_all : ∀ (n a : Nat) (l : List UInt8), l.length ≤ n → ∀ t ∈ Lx.tokR a l, t.2.1 + t.2.2 ≤ a + l.length ∧ 1 ≤ t.1 ∧ t.1 ≤ 8
 | 0, a, l, h, t, ht => by
  obtain rfl : l = [] := List.eq_nil_of_length_eq_zero (by omega)
  rw [Lx.tokR_nil] at ht; simp at ht
 | n + 1, a, l, h, t, ht => by
  by_cases hne : l = []
  ·subst hne; rw [Lx.tokR_nil] at ht; simp at ht
  ·have h1 := Lx.one_le l hne
   rw [Lx.tokR_cons a hne] at ht
   rcases List.mem_cons.1 ht with rfl | ht
   ·exact ⟨by show a + (Lx.oneM l).2 ≤ _; omega, h1.2.2.1, h1.2.2.2⟩
   ·have := Lx.tok_all n _ _ (by rw [List.length_drop]; omega) t ht
    rw [List.length_drop] at this
    exact ⟨by omega, this.2⟩
inductive LenIs (T : List UInt8) (to_ : Nat) : Nat → Nat → Prop
 | done {i : Nat} : to_ ≤ i → LenIs T to_ i 0
 | step {i u : Nat} : i < to_ → LenIs T to_ (i + sAt T i) u → LenIs T to_ i (unitsOf (cAt T i) + u)
theorem LenIs.one {T : List UInt8} {to_ i u : Nat} (h : LenIs T to_ i u) : ∀ v, LenIs T to_ i v → u = v := by
 induction h with
 | done h => intro v hv; cases hv with | done _ => rfl | step h2 _ => omega
 | step h _ ih => intro v hv; cases hv with | done h2 => omega | step _ h3 => rw [ih _ h3]
def colL : List Nat := [0, 0, 4, 13, 1, 2, 3, 5, 6]
inductive ColI (us : List Sc.Us) (f : Nat) (s : List UInt8) : List Tk → Nat → Nat → List Co → Prop
 | nil : ColI us f s [] 0 0 []
 | skip {l : List Tk} {a b : Nat} {cs : List Co} {t : Tk} : ColI us f s l a b cs → t.1 = 1 → ColI us f s (l ++ [t]) a b cs
 | push {l : List Tk} {a b : Nat} {cs : List Co} {t : Tk} {n k u j m : Nat} : ColI us f s l a b cs → t.1 ≠ 1 → PlaceIs s (clampA s (t.2.1 : Int)) n k u j → LenIs s (t.2.1 + t.2.2) t.2.1 m →
   ColI us f s (l ++ [t]) n u (cs ++ [⟨(n : Int) - a, if n = a then (u : Int) - b else u, m, if t.1 = 3 then Sc.nameM us f t.2.1 else (colL[t.1]?.getD 0 : Nat)⟩])
theorem ColI.len {us : List Sc.Us} {f : Nat} {s : List UInt8} {l : List Tk} {a b : Nat} {cs : List Co} (h : ColI us f s l a b cs) : cs.length = (l.filter fun t => t.1 != 1).length := by
 induction h with
 | nil => rfl
 | skip _ h ih => simp [ih, h]
 | push _ h _ _ ih => simp [ih, h]
structure ProgC (w : World) (pg : Nat) (A : Option Addr) (c : Nat) (At : Option Addr) (ct : Nat) (fs : List Fl) (gts : List Nat) (us : List Sc.Us) : Prop where
 uses : UsesAt w pg us
 c0 : w.cell? ⟨pg, 0, none⟩ = some (.slice A fs.length c)
 c1 : w.cell? ⟨pg, 1, none⟩ = some (.slice At gts.length ct)
 files : FlR w A fs
 row : RowF w (fun _ => True) At (gts.map ptrV)
 gl : gts.length = fs.length
 trs : TrsAt w (fun _ => True) fs gts
theorem ProgC.lt {w : World} {pg : Nat} {A : Option Addr} {c : Nat} {At : Option Addr} {ct : Nat} {fs : List Fl} {gts : List Nat} {us : List Sc.Us} (h : ProgC w pg A c At ct fs gts us) : pg < w.heap.size :=
 World.block_lt_of_cell? w ⟨pg, 0, none⟩ h.c0
theorem ProgC.below {w w' : World} {pg : Nat} {A : Option Addr} {c : Nat} {At : Option Addr} {ct : Nat} {fs : List Fl} {gts : List Nat} {us : List Sc.Us} (h : ProgC w pg A c At ct fs gts us) (hd : Below w.heap.size w w') : ProgC w' pg A c At ct fs gts us :=
 ⟨h.uses.below hd, (hd.cell (p := ⟨pg, 0, none⟩) h.lt).trans h.c0, (hd.cell (p := ⟨pg, 1, none⟩) h.lt).trans h.c1, h.files.below hd, h.row.keep hd.size fun b hb hl => ⟨hd.block b hl, hb⟩, h.gl,
  fun j gt f h1 h2 => (h.trs j gt f h1 h2).keep hd.size fun b hb hl => ⟨hd.block b hl, hb⟩⟩
def K9 (w : World) : Prop := ∀ (i v : Nat), colL[i]? = some v → w.cell? ⟨0, i, none⟩ = some (.int .i64 (v : Int))
theorem K9.below {w w' : World} (h : K9 w) (hd : Below w.heap.size w w') : K9 w' := fun i v hv => (hd.cell (p := ⟨0, i, none⟩) (World.block_lt_of_cell? w ⟨0, i, none⟩ (h i v hv))).trans (h i v hv)
def ColS (bq bp bx : Nat) (n la u xk kv : Nat) (w : World) : Prop :=
 w.cell? ⟨bq, 0, none⟩ = some (.int .i64 (n : Int)) ∧ w.cell? ⟨bp, 0, none⟩ = some (.int .i64 (la : Int)) ∧ w.cell? ⟨bq, 2, none⟩ = some (.int .i64 (u : Int)) ∧ w.cell? ⟨bx, 0, none⟩ = some (.int .i64 (xk : Int)) ∧ w.cell? ⟨0, xk, none⟩ = some (.int .i64 (kv : Int))
theorem ColS.below {bq bp bx n la u xk kv : Nat} {w w' : World} (h : ColS bq bp bx n la u xk kv w) (hd : Below w.heap.size w w') : ColS bq bp bx n la u xk kv w' := by
 obtain ⟨h0, h1, h2, h3, h4⟩ := h
 have hk : ∀ (p : Addr) v, w.cell? p = some v → w'.cell? p = some v := fun p v hv => (hd.cell (World.block_lt_of_cell? w p hv)).trans hv
 exact ⟨hk _ _ h0, hk _ _ h1, hk _ _ h2, hk _ _ h3, hk _ _ h4⟩
def ColE (us : List Sc.Us) (f : Nat) (s : List UInt8) (w : World) (e : Ending) (w' : World) : Prop := ∃ A a b cs, e = .returned (.slice A cs.length cs.length) ∧ ColI us f s (Lx.tokR 0 s) a b cs ∧ Rd w' w'.heap.size 4 A cs.length (coCells cs) ∧ Below w.heap.size w w'
set_option maxHeartbeats 16000000 in
set_option maxRecDepth 100000 in
theorem cof_walk {w : World} {pg : Nat} {A : Option Addr} {c : Nat} {At : Option Addr} {ct : Nat} {fs : List Fl} {gts : List Nat} {us : List Sc.Us} (h : ProgC w pg A c At ct fs gts us) (hL : Sc.Lead us) (hbd : ∀ u ∈ us, u.file ≤ 1000000000 ∧ u.at_ ≤ 1000000000)
  (hT : T8 w) (hK : K9 w) {f : Nat} (hf : f < fs.length) (h16 : fs.length ≤ 16) (htx : fs[f].2.length ≤ 20000) :
  Calls Tryz.prog 63 #[.pointer (some ⟨pg, 0, none⟩), .int .i64 (f : Int)] w (ColE us f fs[f].2 w) := by
 obtain ⟨ij, ji, jz0, jz1, jz2⟩ := info_parts infoCo
 have ii0 : (0 : Int) ≤ (f : Int) := by omega
 have ii1 : (f : Int) < (fs.length : Int) := by omega
 have H := Lib.hid h
 have HT := Lib.hid hT
 have HK := Lib.hid hK
 have HL := Lib.hid hL
 have Hbd := Lib.hid hbd
 obtain ⟨br, o, e, hbl, _, hc1⟩ := h.files.at_ hf
 have c0 := h.c0
 rw [e] at c0
 have hfx : fs[f]? = some fs[f] := List.getElem?_eq_getElem hf
 have Hfx := Lib.hid hfx
 generalize fs[f] = x at *
 obtain ⟨xn, s⟩ := x
 dsimp only at htx hc1
 have hrn := new_walk ⟨s.toArray⟩ w (by have := mk_size s; omega)
 have Htx := Lib.hid htx
 have Hf := Lib.hid hf
 have H16 := Lib.hid h16
 clear h hT hK hL hbd e hfx htx hf h16
 go_enter Tryz.func63, Tryz.ntmps63
 go_wp2_with fail
 refine hrn.mono ?_
 clear hrn
 rintro e1 w1 ⟨rp, rfl, _, hR, hd1⟩
 go_upto_region 4 with fail
 have hbp0 := Blk.new w1 213 #[.int .i64 0, .int .i64 0, .int .i64 0]
 have hd2 : Below w1.heap.size w1 (w1.alloc (.cells #[.int .i64 0, .int .i64 0, .int .i64 0] 213)) := (Below.refl _ _).alloc (Nat.le_refl _) _
 obtain ⟨bp, hbp⟩ : ∃ bp, bp = w1.heap.size := ⟨_, rfl⟩
 rw [← hbp] at hbp0 ⊢
 have Hbp := Lib.hid hbp
 clear hbp c0 hc1 hbl
 generalize w1.alloc (.cells #[.int .i64 0, .int .i64 0, .int .i64 0] 213) = w2 at *
 have hR2 := hR.below hd2
 have HR1 := Lib.hid hR
 have hd12 := hd1.trans (hd2.mono hd1.size)
 have H2 := H.out.below hd12
 have hf2 : f < gts.length := by rw [H2.gl]; exact Hf.out
 have jj1 : (f : Int) < (gts.length : Int) := by omega
 obtain ⟨bt, ot, et, _, _, hct⟩ := H2.row (by simp; omega)
 have c1 := H2.c1
 rw [et] at c1
 obtain ⟨gt, hgt⟩ : ∃ gt, gts[f]? = some gt := ⟨gts[f], List.getElem?_eq_getElem hf2⟩
 have ct0 := hct f (ptrV gt) (by rw [List.getElem?_map, hgt]; rfl)
 have htl := Lx.tokR_len s.length 0 s (Nat.le_refl _)
 have hta := Lx.tok_all s.length 0 s (Nat.le_refl _)
 rw [Nat.zero_add] at hta
 have hto := toksof_walk (H2.trs f gt (xn, s) hgt Hfx.out) (by have := Htx.out; dsimp only; omega)
 dsimp only at hto
 have HTl : Hid ((Lx.tokR 0 s).length ≤ 20000) := by have := Htx.out; show _ ≤ _; omega
 have HTa := Lib.hid hta
 generalize hTT : Lx.tokR 0 s = T at *
 have HTT := Lib.hid hTT
 clear hTT htl hta hR hct et H2 hf2 hgt
 unfold ptrV at ct0 hto
 go_wp2_with fail
 refine hto.mono ?_
 clear hto c1 ct0
 rintro e3 w3 ⟨v, rfl, ho, hd3⟩
 obtain ⟨Av, cv, rfl, _, _⟩ := own_cap ho
 have hd13 := hd2.trans (hd3.mono hd2.size)
 have hbp3 := hbp0.below hd3 hbp0.lt
 go_wp2_with fail
 go_loopg [6, 33] T.length (fun mm v u wr => ∃ (j : Nat) (cs : List Co) (la lu : Nat) (lr : Value) (Ar : Option Addr) (cr : Nat), v = .slice Ar cs.length cr ∧ u = .int .i64 (j : Int) ∧ cs.length ≤ j ∧ la ≤ 20001 ∧ lu ≤ 40000 ∧ j ≤ T.length ∧ T.length - j ≤ mm ∧ wr.ownsRow w1.heap.size 71 4 (.slice Ar cs.length cr) cs.length (coCells cs) ∧ Below w1.heap.size w1 wr ∧
  wr.ownsRow w2.heap.size 127 3 (.slice Av T.length cv) T.length (tksC T) ∧ Blk wr bp 213 #[.int .i64 (la : Int), lr, .int .i64 (lu : Int)] ∧ Hid (ColI us f s (T.take j) la lu cs))
 case atStart => exact ⟨0, [], 0, 0, _, none, 0, rfl, rfl, Nat.zero_le _, by omega, by omega, Nat.zero_le _, Nat.le_refl _, World.ownsRow_nil _ _ _ _, hd13, ho, hbp3, ColI.nil⟩
 case round =>
  clear hbp3 ho hbp0 hd13 hd3 hd2
  obtain ⟨j, cs, la, lu, lr, Ar, cr, rfl, rfl, hcj, hla, hlu, hj, hm, hout, hd, htk, hbp, HC⟩ := hrel
  by_cases hlt : ¬ j < T.length
  ·obtain rfl : j = T.length := by omega
   have nn : ¬ (T.length : Int) < (T.length : Int) := by omega
   have nd : decide (T.length < T.length) = false := by simp
   obtain ⟨Av2, cv2, e, hle, hno⟩ := own_cap hout
   injection e with e1 _ e3
   subst e1 e3
   have hcl := clip_walk Ar cs.length cr wr hle hno
   clear hlt hj hm hle hno
   go_wp2_with fail
   refine hcl.mono ?_
   clear hcl
   rintro e5 w5 ⟨rfl, rfl⟩
   go_wp2_with fail
   go_ret
   refine ⟨Ar, la, lu, cs, rfl, ?_, Rd.of_own hout, hd1.trans (hd.mono hd1.size)⟩
   have h1 := HC.out
   rw [List.take_of_length_le (Nat.le_refl _)] at h1
   rw [HTT.out]
   exact h1
  ·have hlt : j < T.length := by omega
   have i0 : (0 : Int) ≤ (j : Int) := by omega
   have i1 : (j : Int) < (T.length : Int) := by omega
   have cj : IntKind.i64.wrap ((j : Int) + 1) = (j : Int) + 1 := IntWalk.i64_in _ (by have := HTl.out; omega)
   obtain ⟨bv, ov, rfl, hbv, t0, t1, t2⟩ := Rd.tk (Rd.of_own htk) hlt
   have hx := HTa.out T[j] (List.getElem_mem hlt)
   have HX : Hid (T.take (j + 1) = T.take j ++ [T[j]]) := List.take_succ_eq_append_getElem hlt
   generalize T[j] = x at *
   obtain ⟨xk, xa, xl⟩ := x
   dsimp only at t0 t1 t2 hx
   obtain ⟨x1, x2, x3⟩ := hx
   have Hj := Lib.hid hlt
   have Hm := Lib.hid hm
   have Hcj := Lib.hid hcj
   have Hla := Lib.hid hla
   have Hlu := Lib.hid hlu
   have Hx1 := Lib.hid x1
   have Hx2 := Lib.hid x2
   have Hx3 := Lib.hid x3
   have hdt : Below wr.heap.size wr (wr.alloc (.cells #[.int .i64 (xk : Int), .int .i64 (xa : Int), .int .i64 (xl : Int)] 127)) := (Below.refl _ _).alloc (Nat.le_refl _) _
   have hbt := Blk.new wr 127 #[.int .i64 (xk : Int), .int .i64 (xa : Int), .int .i64 (xl : Int)]
   clear hlt hj hm hbv x1 x2 x3 hcj hla hlu
   go_upto_region 7 with fail
   obtain ⟨bx, hbx⟩ : ∃ bx, bx = wr.heap.size := ⟨_, rfl⟩
   rw [← hbx] at hbt ⊢
   have Hbx := Lib.hid hbx
   clear hbx t0 t1 t2
   generalize wr.alloc (.cells #[.int .i64 (xk : Int), .int .i64 (xa : Int), .int .i64 (xl : Int)] 127) = w4 at *
   have b0 := hbt.cell 0
   have b1 := hbt.cell 1
   have b2 := hbt.cell 2
   simp at b0 b1 b2
   by_cases hsp : xk = 1
   ·subst hsp
    have hout4 := own_of_block hout fun b hb => hdt.block b (hout.lt b hb).2
    have htk4 := own_of_block htk fun b hb => hdt.block b (htk.lt b hb).2
    have hbp4 := hbp.below hdt hbp.lt
    have hd4 := hd.trans (hdt.mono hd.size)
    have HC2 : Hid (ColI us f s (T.take (j + 1)) la lu cs) := by show ColI _ _ _ _ _ _ _; rw [HX.out]; exact HC.out.skip rfl
    clear hout htk hbp hd hdt HC
    go_wp2_with fail
    go_roundg (T.length - (j + 1))
    case rel => exact ⟨j + 1, cs, la, lu, lr, Ar, cr, rfl, by go_num, by have := Hcj.out; omega, Hla.out, Hlu.out, by have := Hj.out; omega, Nat.le_refl _, hout4, hd4, htk4, hbp4, HC2⟩
    case measure => have := Hj.out; have := Hm.out; omega
   ·have n1 : ((xk : Int) == 1) = false := by simp; omega
    have hd4 := hd.trans (hdt.mono hd.size)
    have hpw := rplace_walk rp ⟨s.toArray⟩ (xa : Int) w4 (HT.out.below (hd1.trans (hd4.mono hd1.size))) (HR1.out.below hd4) (by have := mk_size s; have := Htx.out; omega)
    have Hsp := Lib.hid hsp
    have hxc : clampA s (xa : Int) ≤ s.length := clampA_le s (xa : Int)
    clear hsp
    go_wp2_with fail
    refine hpw.mono ?_
    clear hpw b1
    rintro e5 w5 ⟨n, k, u, jj, rfl, hPl, hd5⟩
    change PlaceIs s (clampA s (xa : Int)) n k u jj at hPl
    have hn1 : n ≤ 20001 := by have := hPl.1; have := linesOf_len s; have := Htx.out; omega
    have hu1 : u ≤ 40000 := by have h1 := hPl.2.2.2.1.bounds; have h2 := hPl.2.2.2.2.1; have := Htx.out; omega
    have Hn1 := Lib.hid hn1
    have Hu1 := Lib.hid hu1
    have HPl := Lib.hid hPl
    have hd6 : Below w5.heap.size w5 (w5.alloc (.cells #[.int .i64 (n : Int), .int .i64 (k : Int), .int .i64 (u : Int)] 213)) := (Below.refl _ _).alloc (Nat.le_refl _) _
    have hbq := Blk.new w5 213 #[.int .i64 (n : Int), .int .i64 (k : Int), .int .i64 (u : Int)]
    clear hPl hn1 hu1 hxc
    go_upto_region 9 with fail
    obtain ⟨bq, hbq0⟩ : ∃ bq, bq = w5.heap.size := ⟨_, rfl⟩
    rw [← hbq0] at hbq ⊢
    have Hbq := Lib.hid hbq0
    clear hbq0
    generalize w5.alloc (.cells #[.int .i64 (n : Int), .int .i64 (k : Int), .int .i64 (u : Int)] 213) = w6 at *
    have hd46 := hd5.trans (hd6.mono hd5.size)
    have hd06 := hdt.trans (hd46.mono hdt.size)
    have hbt6 := hbt.below hd46 hbt.lt
    have hbp6 := hbp.below hd06 hbp.lt
    obtain ⟨kv, hkv⟩ : ∃ kv, colL[xk]? = some kv := ⟨_, List.getElem?_eq_getElem (show xk < colL.length by have := Hx3.out; show xk < 9; omega)⟩
    have hk0 := HK.out.below (hd1.trans ((hd.trans (hd06.mono hd.size)).mono hd1.size)) xk kv hkv
    have Hkv := Lib.hid hkv
    clear hkv b0 b2 hbt hdt hd5 hd6
    have x0 : (0 : Int) ≤ (xk : Int) := by omega
    have x9 : (xk : Int) < 9 := by have := Hx3.out; omega
    have cn : IntKind.i64.wrap ((n : Int) - (la : Int)) = (n : Int) - la := IntWalk.i64_in _ (by have := Hn1.out; have := Hla.out; omega)
    refine wp_region_G 13 (ColS bq bp bx n la u xk kv) (by kernel_rfl) ?_
    have hcs : ColS bq bp bx n la u xk kv w6.drew := by
     refine ⟨?_, ?_, ?_, ?_, hk0⟩
     ·have := hbq.cell 0; simpa using this
     ·have := hbp6.cell 0; simpa using this
     ·have := hbq.cell 2; simpa using this
     ·have := hbt6.cell 0; simpa using this
    refine wpAnyG_tk 0 hcs ?_
    simp only [Act.put, List.setIfInBounds_toArray]
    refine wpAnyG_tk 1 hcs ?_
    simp only [Act.put]
    refine wpAnyG_tk 2 hcs ?_
    simp only [Act.put]
    refine wpAnyG_tk 3 hcs ?_
    simp only [Act.put]
    refine wpAnyG_tk 4 hcs ?_
    simp only [Act.put]
    refine wpAnyG_tk 5 hcs ?_
    simp only [Act.put]
    refine wpAnyG_tk 6 hcs ?_
    simp only [Act.put]
    refine wpAnyG_tk 7 hcs ?_
    simp only [Act.put]
    refine wpAnyG_tk 8 hcs ?_
    simp only [Act.put]
    refine wpAnyG_tk 9 hcs ?_
    simp only [Act.put]
    refine wpAnyG_tk 10 hcs ?_
    simp only [Act.put]
    refine wpAnyG_tk 11 hcs ?_
    simp only [Act.put]
    have hcs2 := Lib.hid (hcs.below ((Below.refl _ _).alloc (Nat.le_refl _) (.cells #[.int .i64 0, .int .i64 0, .int .i64 0, .int .i64 0] 71)))
    clear hcs
    obtain ⟨bc, hbc⟩ : ∃ bc, bc = w6.heap.size := ⟨_, rfl⟩
    have hbc0 := Blk.new w6.drew 71 #[.int .i64 0, .int .i64 0, .int .i64 0, .int .i64 0]
    have hbcd : w6.drew.heap.size = bc := hbc.symm
    rw [hbcd] at hbc0
    refine wpAnyG_on 12 fun C hC => ?_
    go_simp
    refine hC.out _ _ (fun _ => hcs2.out) ?_
    clear hC C
    clear hcs2
    clear hbc0 hbcd
    have hd7 : Below w6.heap.size w6 (w6.alloc (.cells #[.int .i64 ((n : Int) - la), .int .i64 (u : Int), .int .i64 0, .int .i64 (kv : Int)] 71)).drew := ((Below.refl _ _).alloc (Nat.le_refl _) _).drew
    have hc7 : Blk (w6.alloc (.cells #[.int .i64 ((n : Int) - la), .int .i64 (u : Int), .int .i64 0, .int .i64 (kv : Int)] 71)).drew w6.heap.size 71 #[.int .i64 ((n : Int) - la), .int .i64 (u : Int), .int .i64 0, .int .i64 (kv : Int)] := Blk.drew (Blk.new w6 71 #[.int .i64 ((n : Int) - la), .int .i64 (u : Int), .int .i64 0, .int .i64 (kv : Int)])
    refine wpAnyG_on 13 fun C hC => ?_
    go_simp
    refine hC.out _ _ (fun h => absurd rfl h) ?_
    clear hC C
    refine wpAnyG_done (by kernel_rfl) ?_ _
    rw [← hbc]
    rw [← hbc] at hc7
    have Hbc := Lib.hid hbc
    clear hbc cn hk0
    generalize (w6.alloc (.cells #[.int .i64 ((n : Int) - la), .int .i64 (u : Int), .int .i64 0, .int .i64 (kv : Int)] 71)).drew = w7 at *
    have HD6 := hd.trans (hd06.mono hd.size)
    have g0 := hc7.cell 0
    simp at g0
    obtain ⟨un, hun⟩ : ∃ un : Int, un = if n = la then (u : Int) - lu else u := ⟨_, rfl⟩
    have Hun := Lib.hid hun
    go_upto_if 58 with fail
    clear g0
    go_cut [59, 60, 61, 62, 63, 64] (fun _ _ _ _ _ _ wc => Blk wc bc 71 #[.int .i64 ((n : Int) - la), .int .i64 un, .int .i64 0, .int .i64 (kv : Int)] ∧ Below w6.heap.size w6 wc)
    case first =>
     have p2 := (hbp6.below hd7 hbp6.lt).cell 2
     have c1 := hc7.cell 1
     have y1 := hc7.frozen 1
     simp at p2 c1
     by_cases e : n = la
     ·have e1 : (((n : Int) - (la : Int)) == 0) = true := by simp; omega
      have e2 : IntKind.i64.wrap ((u : Int) - (lu : Int)) = (u : Int) - lu := IntWalk.i64_in _ (by have := Hu1.out; have := Hlu.out; omega)
      rw [if_pos e] at hun
      have HU2 := Lib.hid hun
      clear e hun
      go_wp2_with fail
      go_meet
      have h1 := hc7.set_ 1 (.int .i64 ((u : Int) - lu))
      simp at h1
      exact ⟨by rw [HU2.out]; exact h1, hd7.setCell (p := ⟨bc, 1, none⟩) (by show w6.heap.size ≤ bc; rw [Hbc.out]; exact Nat.le_refl _) _⟩
     ·have e1 : (((n : Int) - (la : Int)) == 0) = false := by simp; omega
      rw [if_neg e] at hun
      have HU2 := Lib.hid hun
      clear e hun
      go_wp2_with fail
      go_meet
      exact ⟨by rw [HU2.out]; exact hc7, hd7⟩
    case rest =>
     obtain ⟨hc8, hd8⟩ := hcut
     have b1 := (hbt6.below hd8 hbt6.lt).cell 1
     simp at b1
     clear hun hc7 hd7
     go_wp2_with fail
     go_loopg [12] xl (fun mm v wk => ∃ (i m : Nat), v = .int .i64 (i : Int) ∧ xa ≤ i ∧ m ≤ 2 * (i - xa) ∧ i ≤ 20000 ∧ xa + xl - i ≤ mm ∧ Blk wk bc 71 #[.int .i64 ((n : Int) - la), .int .i64 un, .int .i64 (m : Int), .int .i64 (kv : Int)] ∧ Below w6.heap.size w6 wk ∧ Hid (∀ v, LenIs s (xa + xl) i v → LenIs s (xa + xl) xa (m + v)))
     case atStart => exact ⟨xa, 0, rfl, Nat.le_refl _, Nat.zero_le _, by have := Hx1.out; have := Htx.out; omega, by omega, hc8, hd8, fun v h => by rw [Nat.zero_add]; exact h⟩
     case round =>
      clear hc8 hd8 b1
      obtain ⟨i, m, rfl, hi1, hm1, hi2, hmm, hc8, hd8, HLn⟩ := hrel
      have hbt8 := hbt6.below hd8 hbt6.lt
      have b0 := hbt8.cell 0
      have b1 := hbt8.cell 1
      have b2 := hbt8.cell 2
      simp at b0 b1 b2
      have cx : IntKind.i64.wrap ((xa : Int) + (xl : Int)) = (xa : Int) + xl := IntWalk.i64_in _ (by have := Hx1.out; have := Htx.out; omega)
      by_cases hlt : ¬ i < xa + xl
      ·have nn : ¬ (i : Int) < (xa : Int) + (xl : Int) := by omega
       have HLm : Hid (LenIs s (xa + xl) xa m) := by
        show LenIs s (xa + xl) xa m
        have := HLn.out 0 (.done (by omega))
        rwa [Nat.add_zero] at this
       clear HLn hlt hmm hm1 hi1 hi2
       have hdw := hd1.trans ((HD6.trans (hd8.mono HD6.size)).mono hd1.size)
       have hnm := name_walk (H.out.uses.below hdw) HL.out Hbd.out f xa (by have := Hf.out; have := H16.out; omega) (by have := Hx1.out; have := Htx.out; omega)
       obtain ⟨K, hK⟩ : ∃ K : Int, K = if xk = 3 then Sc.nameM us f xa else (kv : Int) := ⟨_, rfl⟩
       have HK2 := Lib.hid hK
       generalize Sc.nameM us f xa = N at hnm hK
       go_upto_if 91 with fail
       clear b2
       go_cut [92, 93, 94, 95, 96, 97] (fun _ _ _ _ _ _ wd => Blk wd bc 71 #[.int .i64 ((n : Int) - la), .int .i64 un, .int .i64 (m : Int), .int .i64 K] ∧ Below w6.heap.size w6 wd)
       case first =>
        by_cases e : xk = 3
        ·have e1 : ((xk : Int) == 3) = true := by simp; omega
         rw [if_pos e] at hK
         have HKn := Lib.hid hK
         clear hK e b0
         go_wp2_with fail
         refine hnm.mono ?_
         clear hnm b1
         rintro e9 w9 ⟨rfl, hd9⟩
         have hc9 := hc8.below hd9 hc8.lt
         have hd9' := hd8.trans (hd9.mono hd8.size)
         have k3 := hc9.cell 3
         have y3 := hc9.frozen 3
         simp at k3
         go_wp2_with fail
         go_meet
         have h1 := hc9.set_ 3 (.int .i64 N)
         simp at h1
         exact ⟨by rw [HKn.out]; exact h1, hd9'.setCell (p := ⟨bc, 3, none⟩) (by show w6.heap.size ≤ bc; rw [Hbc.out]; exact Nat.le_refl _) _⟩
        ·have e1 : ((xk : Int) == 3) = false := by simp; omega
         rw [if_neg e] at hK
         have HKn := Lib.hid hK
         clear hK e b0 hnm
         go_wp2_with fail
         go_meet
         exact ⟨by rw [HKn.out]; exact hc8, hd8⟩
       case rest =>
        clear hc8 hd8 hnm hK b0 b1 hbt8 hdw cx nn
        obtain ⟨hc9, hd9⟩ := hcut
        have hdr := hd06.trans (hd9.mono hd06.size)
        have hout9 := own_of_block hout fun b hb => hdr.block b (hout.lt b hb).2
        have htk9 := own_of_block htk fun b hb => hdr.block b (htk.lt b hb).2
        have hbp9 := hbp6.below hd9 hbp6.lt
        have hbq9 := hbq.below hd9 hbq.lt
        have Hi : Hid (cs.length ≤ 1000000000) := by show _ ≤ _; have := Hcj.out; have := Hj.out; have := HTl.out; omega
        have HD9 := HD6.trans (hd9.mono HD6.size)
        have Hsz : Hid (w1.heap.size ≤ wc.heap.size) := HD9.size
        have k0 := hc9.cell 0
        have k1 := hc9.cell 1
        have k2 := hc9.cell 2
        have k3 := hc9.cell 3
        simp at k0 k1 k2 k3
        clear hout htk hbp hbp6 hbq hc9 hd9 hdr hd06 HD6 hd hd46 hbt6
        go_wp2_with (at_builtin; refine wpList_push _ rfl _ _ 62 rfl w1.heap.size 71 4 32 Tryz.underlying62 ji jz0 jz1 jz2 rfl (by omega) rfl hout9 #[.int .i64 ((n : Int) - la), .int .i64 un, .int .i64 (m : Int), .int .i64 K] rfl rfl (by simp [Value.oneCell']) Hi.out (by omega) Hsz.out ?_; intro A' c' wx hown hdx hgx; have hbqx := hbq9.grown hgx (own_ne hout9 hbq9 (by decide)); have hbpx := hbp9.grown hgx (own_ne hout9 hbp9 (by decide)); have q0 := hbqx.cell 0; have q1 := hbqx.cell 1; have q2 := hbqx.cell 2; have p0 := hbpx.cell 0; have p1 := hbpx.cell 1; have p2 := hbpx.cell 2; have y0 := hbpx.frozen 0; have y1 := hbpx.frozen 1; have y2 := hbpx.frozen 2; simp at q0 q1 q2 p0 p1 p2)
        go_roundg (T.length - (j + 1))
        case rel =>
         have hnp := own_ne hown hbpx (by decide)
         have hs3 : ∀ (b : Nat), b ≠ bp → (((wx.setCell ⟨bp, 0, none⟩ (.int .i64 (n : Int))).setCell ⟨bp, 1, none⟩ (.int .i64 (k : Int))).setCell ⟨bp, 2, none⟩ (.int .i64 (u : Int))).heap[b]? = wx.heap[b]? := fun b hb => by
          rw [Below.heap_setCell _ _ _ _ hb, Below.heap_setCell _ _ _ _ hb, Below.heap_setCell _ _ _ _ hb]
         have htkx : wx.ownsRow w2.heap.size 127 3 (.slice (some ⟨bv, ov, none⟩) T.length cv) T.length (tksC T) := own_of_block htk9 fun b hb => hgx.block b (htk9.lt b hb).2 fun e => by
          obtain ⟨cs1, fr1, h3⟩ := own_ty htk9 b hb
          obtain ⟨cs2, fr2, h4⟩ := own_ty hout9 b e.symm
          rw [h3] at h4
          injection h4 with h4
          injection h4 with _ h4 _
          exact absurd h4 (by decide)
         have hnt := own_ne htkx hbpx (by decide)
         have hb3 := ((hbpx.set_ 0 (.int .i64 (n : Int))).set_ 1 (.int .i64 (k : Int))).set_ 2 (.int .i64 (u : Int))
         simp at hb3
         have hB : w1.heap.size ≤ bp := by rw [Hbp.out]; exact Nat.le_refl _
         have hdz := (((HD9.trans hdx).setCell (p := ⟨bp, 0, none⟩) hB (.int .i64 (n : Int))).setCell (p := ⟨bp, 1, none⟩) hB (.int .i64 (k : Int))).setCell (p := ⟨bp, 2, none⟩) hB (.int .i64 (u : Int))
         have hpush := HC.out.push (t := (xk, xa, xl)) Hsp.out HPl.out HLm.out
         dsimp only at hpush
         rw [Hkv.out, Option.getD_some, ← Hun.out, ← HK2.out] at hpush
         refine ⟨j + 1, cs ++ [⟨(n : Int) - la, un, m, K⟩], n, u, .int .i64 (k : Int), A', c', by rw [List.length_append]; rfl, by go_num, by rw [List.length_append]; have := Hcj.out; simpa using this, Hn1.out, Hu1.out, by have := Hj.out; omega, Nat.le_refl _, ?_, hdz, own_of_block htkx fun b hb => hs3 b fun e => hnt (by rw [← e]; exact hb.symm), hb3, ?_⟩
         ·rw [List.length_append, coCells_app]
          exact own_of_block hown fun b hb => hs3 b fun e => hnp (by rw [← e]; exact hb.symm)
         ·show ColI _ _ _ _ _ _ _
          rw [HX.out]
          exact hpush
        case measure => have := Hj.out; have := Hm.out; omega
      ·have hlt : i < xa + xl := by omega
       have nn : (i : Int) < (xa : Int) + (xl : Int) := by omega
       have hsz : i < s.length := by have := Hx1.out; omega
       have his : i < (⟨s.toArray⟩ : ByteArray).size := by rw [mk_size]; exact hsz
       have hru := rune_yes rp ⟨s.toArray⟩ i wr (HT.out.below (hd1.trans ((HD6.trans (hd8.mono HD6.size)).mono hd1.size))) (HR1.out.below (HD6.trans (hd8.mono HD6.size))) his
       have hs1 := sAt_pos s i
       have hs2 := sAt_le (T := s) (i := i) hsz
       have hu1 := unitsOf_pos (cAt s i)
       have HLs : Hid (∀ v, LenIs s (xa + xl) (i + sAt s i) v → LenIs s (xa + xl) xa (m + unitsOf (cAt s i) + v)) := fun v h => by
        have := HLn.out _ (LenIs.step hlt h)
        rwa [← Nat.add_assoc] at this
       dsimp only at hru
       have Hu := units_walk (cAt s i)
       generalize sAt s i = z at *
       generalize cAt s i = cc at *
       have Hlt := Lib.hid hlt
       have Hmm := Lib.hid hmm
       have Hi1 := Lib.hid hi1
       have Hi2 := Lib.hid (show i + z ≤ 20000 by have := Htx.out; omega)
       have Hm1 := Lib.hid (show m + unitsOf cc ≤ 2 * (i + z - xa) by omega)
       have ci : IntKind.i64.wrap ((i : Int) + (z : Int)) = (i : Int) + z := IntWalk.i64_in _ (by have := Hi2.out; omega)
       have cm : IntKind.i64.wrap ((m : Int) + (unitsOf cc : Int)) = (m : Int) + unitsOf cc := IntWalk.i64_in _ (by have := Hm1.out; have := Hi2.out; omega)
       clear hlt hmm hi1 hi2 hm1 hs2 hu1 hsz his HLn b0
       go_wp2_with fail
       refine hru.mono ?_
       clear hru b1 b2 cx nn
       rintro e9 w9 ⟨rfl, hd9⟩
       have hc9 := hc8.below hd9 hc8.lt
       have hd9' := hd8.trans (hd9.mono hd8.size)
       clear hc8 hd8 hd9 hbt8
       have k2 := hc9.cell 2
       have y2 := hc9.frozen 2
       simp at k2
       go_upto_region 15 with fail
       go_region_with (first | (go_at_call 112; refine (Hu _).mono ?_; rintro e w' ⟨rfl, rfl⟩))
       all_goals
        go_wp2_with fail
        go_roundg (xa + xl - (i + z))
        case rel =>
         have h1 := (hc9.set_ 2 (.int .i64 ((m : Int) + unitsOf cc))).drew
         simp at h1
         exact ⟨i + z, m + unitsOf cc, by go_num, by have := Hi1.out; omega, Hm1.out, Hi2.out, Nat.le_refl _, h1, (hd9'.setCell (p := ⟨bc, 2, none⟩) (by show w6.heap.size ≤ bc; rw [Hbc.out]; exact Nat.le_refl _) _).drew, HLs⟩
        case measure => have := Hlt.out; have := Hmm.out; omega
end Go.Proofs.YtcjjfeephaddcaaGreatDoor
namespace Go.Proofs.YtcjjfeephaddcaaGreatDoor
open Go.RowKit
theorem Sc.kids_kidsok {s : Bs} (hs : s.length ≤ 20000) : Sc.KidsOk (Sc.kidsM s) := by
 obtain ⟨hS, hl, hne⟩ := Sc.side hs
 exact ⟨(Sc.kids_up hS hne _ 0 (Nat.zero_le _)).1, fun k hk hi => Sc.kids_shape hne _ 0 k hk hi⟩
end Go.Proofs.YtcjjfeephaddcaaGreatDoor
namespace Go.Proofs.YtcjjfeephaddcaaGreatDoor
open Go.RowKit Go.Maps
theorem UsesAt.few {w : World} {pg : Nat} {us : List Sc.Us} (h : UsesAt w pg us) : ∀ u ∈ us, u.file ≤ 1000000000 ∧ u.at_ ≤ 1000000000 := by
 obtain ⟨_, _, _, _, _, _, _, _, _, _, _, h4⟩ := h
 exact h4.1
theorem Sc.lead_of {fs : List Fl} (h : Sc.faultM fs = 0) : Sc.Lead (Sc.usesM (Sc.wkM fs)) := by
 obtain ⟨h1, h2⟩ := Sc.fault_zero h
 unfold Sc.wkM
 have h3 := Sc.stands_law (fs.map fun f => (f.1, Sc.kidsM f.2)) fun y hy => by
  obtain ⟨f, hf, rfl⟩ := List.mem_map.1 hy
  exact Sc.kids_kidsok (h2 f hf)
 intro u hu
 rcases h3 u hu with h4 | ⟨v, hv, h4, h5, _⟩
 ·exact .inl h4
 ·have hm : v ∈ Sc.atM (Sc.usesM (Sc.workM (fs.map fun f => (f.1, Sc.kidsM f.2)))) u.toFile u.to_ := by rw [hv]; exact List.mem_singleton.2 rfl
  obtain ⟨h6, h7⟩ := List.mem_filter.1 hm
  have h8 : (v.file : Int) = u.toFile ∧ (v.at_ : Int) = u.to_ := by simpa using h7
  exact .inr ⟨v, h6, h8⟩
theorem ProgC.of_new {w w1 w' : World} {pg : Nat} {P : Nat → Prop} {A : Option Addr} {c : Nat} {At : Option Addr} {ct : Nat} {fs : List Fl} {gts : List Nat} (hp : ProgIs w1 w' P A c (.slice At gts.length ct) fs (fs.map fun f => Sc.kidsM f.2) pg) (hd : Below w.heap.size w w1) (hgl : gts.length = fs.length)
  (hrow : RowF w1 (fun b => w.heap.size ≤ b) At (gts.map ptrV)) (htr : TrsAt w1 P fs gts) (hr : FlR w A fs) : ProgC w' pg A c At ct fs gts (Sc.usesM (Sc.wkM fs)) := by
 have HU := Sc.wk_eq fs
 obtain ⟨w0, mb, GG, Ai, ci, Ad, cd, ss, _, hd1, _, _, hP, _⟩ := hp
 rw [HU] at hP
 obtain ⟨Au, cu, hB, hown⟩ := hP.blk
 obtain ⟨D, hm, hAt⟩ := hP.map
 have hd2 := hd.trans (hd1.mono hd.size)
 refine ⟨⟨mb, D, Au, cu, _, _, _, _, hB, Rd.of_own hown, hm, hAt⟩, ?_, ?_, hr.below hd2, hrow.keep hd1.size fun b _ hl => ⟨hd1.block b hl, trivial⟩, hgl, fun j gt f h1 h2 => (htr j gt f h1 h2).keep hd1.size fun b hb hl => ⟨hd1.block b hl, trivial⟩⟩
 ·have := hB.cell 0
  simpa using this
 ·have := hB.cell 1
  simpa using this
def ClrE (N : Nat) (us : List Sc.Us) (fs : List Fl) (f : Int) (w : World) (e : Ending) (w' : World) : Prop := Below w.heap.size w w' ∧
 (N ≠ 0 → e = .returned (.tuple #[.slice none 0 0, errV (N)])) ∧
 (N = 0 → (f < 0 ∨ (fs.length : Int) ≤ f) → e = .returned (.tuple #[.slice none 0 0, errV 1])) ∧
 (N = 0 → ∀ (k : Nat) (x : Fl), f = k → fs[k]? = some x → ∃ A a b cs, e = .returned (.tuple #[.slice A cs.length cs.length, .nilIface]) ∧ ColI us k x.2 (Lx.tokR 0 x.2) a b cs ∧ Rd w' w'.heap.size 4 A cs.length (coCells cs))
set_option maxHeartbeats 8000000 in
set_option maxRecDepth 100000 in
theorem colours_walk {w : World} {A : Option Addr} {c : Nat} {fs : List Fl} {m : Int} (hr : FlR w A fs) (hM : MaxL w m) (hT : T8 w) (hW : WordsIs w) (hK : K9 w) (hn : ∀ f ∈ fs, f.1.length ≤ 8388608) (hcap : fs.length ≤ c) (f : Int) :
  Calls Tryz.prog 27 #[.slice A fs.length c, .int .i64 f] w (ClrE (Sc.faultM fs) (Sc.usesM (Sc.wkM fs)) fs f w) := by
 have hnew := sc_new hr hM hT hW hn hcap
 have hz := @Sc.fault_zero fs
 have hld := @Sc.lead_of fs
 have Hr := Lib.hid hr
 have HT := Lib.hid hT
 have HK := Lib.hid hK
 clear hr hM hT hW hn hcap hK
 generalize hR : Sc.faultM fs = R at *
 clear hR
 have HZ := Lib.hid hz
 have HL := Lib.hid hld
 clear hz hld
 go_enter Tryz.func27, Tryz.ntmps27
 go_wp2_with fail
 refine hnew.mono ?_
 clear hnew
 rintro e1 w1 ⟨hd1, h1, h0⟩
 cases R with
 | succ R =>
  obtain rfl := h1 (by omega)
  clear h1 h0
  unfold errV
  go_wp2_with fail
  go_ret2
  exact ⟨hd1, fun _ => rfl, fun h => absurd h (by omega), fun h => absurd h (by omega)⟩
 | zero =>
  obtain ⟨pg, w2, P, At, gts, ct, rfl, hpg, hd2, hgl, _, hrow, htr⟩ := h0 rfl
  have hP := ProgC.of_new hpg hd2 hgl hrow htr Hr.out
  obtain ⟨h16, htx⟩ := HZ.out rfl
  have Hl := HL.out rfl
  have HP := Lib.hid hP
  have HLd := Lib.hid Hl
  have H16 := Lib.hid h16
  have Htx := Lib.hid htx
  clear h1 h0 hpg hd2 hgl hrow htr hP h16 htx Hl HZ HL
  unfold ptrV
  by_cases hneg : f < 0
  ·go_wp2_with fail
   go_ret2
   exact ⟨hd1, fun h => absurd rfl h, fun _ _ => rfl, fun _ k x e _ => by omega⟩
  ·by_cases hge : (fs.length : Int) ≤ f
   ·go_wp2_with fail
    go_ret2
    exact ⟨hd1, fun h => absurd rfl h, fun _ _ => rfl, fun _ k x e hx => by have := (List.getElem?_eq_some_iff.1 hx).1; omega⟩
   ·obtain ⟨k, rfl⟩ : ∃ k : Nat, f = k := ⟨f.toNat, by omega⟩
    have hk : k < fs.length := by omega
    have hof := cof_walk HP.out HLd.out HP.out.uses.few (HT.out.below hd1) (HK.out.below hd1) hk H16.out (Htx.out _ (List.getElem_mem hk))
    have Hx : Hid (fs[k]? = some fs[k]) := List.getElem?_eq_getElem hk
    have Hk := Lib.hid hk
    generalize fs[k] = x at *
    generalize Sc.usesM (Sc.wkM fs) = us at *
    go_wp2_with fail
    refine hof.mono ?_
    clear hof
    rintro e3 w3 ⟨A3, a, b, cs, rfl, hC, hR3, hd3⟩
    go_wp2_with fail
    go_ret2
    refine ⟨hd1.trans (hd3.mono hd1.size), fun h => absurd rfl h, fun _ h => by have := Hk.out; omega, fun _ k' x' e hx => ?_⟩
    obtain rfl : k = k' := by omega
    rw [Hx.out] at hx
    injection hx with hx
    subst hx
    exact ⟨A3, a, b, cs, rfl, hC, hR3⟩
end Go.Proofs.YtcjjfeephaddcaaGreatDoor
namespace Go.Proofs
open Go.Shelf
def Tryz.growC_ren : Go.Shelf.Ren := ⟨fun | 4 => 114 | n => n, fun | 0 => 0 | 3 => 3 | 4 => 4 | 9 => 9 | 20 => 20 | 22 => 62 | 25 => 71 | n => n, fun n => n⟩
theorem Tryz.growC : Lays8.n4 Tryz.prog Tryz.growC_ren := {
 mixed := by kernel_rfl
 f4 := ⟨ "slices.Grow[[]amanuensis/api.Colour,amanuensis/api.Colour]", by decide, Tryz.func114.trans (congrArg some (by kernel_rfl))⟩
 t0 := Tryz.underlying0
 a0 := Tryz.isAgg0
 z0 := Tryz.sizeOf0
 v0 := Tryz.zeroValue0
 t3 := Tryz.underlying3
 a3 := Tryz.isAgg3
 z3 := Tryz.sizeOf3
 v3 := Tryz.zeroValue3
 t4 := Tryz.underlying4
 a4 := Tryz.isAgg4
 z4 := Tryz.sizeOf4
 v4 := Tryz.zeroValue4
 t9 := Tryz.underlying9
 a9 := Tryz.isAgg9
 z9 := Tryz.sizeOf9
 v9 := Tryz.zeroValue9
 t20 := Tryz.underlying20
 a20 := Tryz.isAgg20
 z20 := Tryz.sizeOf20
 v20 := Tryz.zeroValue20
 t22 := Tryz.underlying62
 a22 := Tryz.isAgg62
 z22 := Tryz.sizeOf62
 v22 := Tryz.zeroValue62 }
end Go.Proofs
namespace Go.Proofs.YtcjjfeephaddcaaGreatDoor
open Go.RowKit
theorem grow_walk (n : Nat) (w : World) (hn : n ≤ 4194304) :
  Calls Tryz.prog 114 #[.slice none 0 0, .int .i64 n] w fun e w' => ∃ v, e = .returned v ∧ w'.ownsRow w.heap.size 71 4 v 0 [] ∧ Below w.heap.size w w' := by
 obtain ⟨i0, ji, jz0, jz1, jz2⟩ := info_parts infoCo
 rcases Nat.eq_zero_or_pos n with h0 | h0
 ·subst h0
  refine (Any8.slices_Grow_room Tryz.growC none 0 0 0 w (Nat.le_refl _) (by omega) (by omega) (by omega)).mono ?_
  rintro e w' ⟨rfl, rfl⟩
  exact ⟨_, rfl, World.ownsRow_nil _ _ _ _, Below.refl _ _⟩
 ·refine (Any8.slices_Grow_grow Tryz.growC i0 _ ji jz0 (by omega) none 0 0 n [] w (Nat.le_refl _) (by omega) (by rw [jz2]; omega) (by omega) (by simp) (fun _ => rfl) (fun a h => by cases h)).mono ?_
  rintro e w' ⟨rfl, rfl⟩
  have hge := grownCap_ge w (0 + n) 0 71
  have hle := grownCap_le_maxLen w (0 + n) 0 71 (by unfold maxLen; omega)
  refine ⟨_, rfl, ?_, ((Below.refl _ _).drew).alloc (Nat.le_refl _) _⟩
  have := World.ownsRow_made (base := w.heap.size) (e := 71) (size := 4) w.drew (#[] ++ Builtin.zeroCells (Value.agg #[.int .i64 0, .int .i64 0, .int .i64 0, .int .i64 0]).cells (0 + n - 0) ++ Builtin.zeroCells (Value.agg #[.int .i64 0, .int .i64 0, .int .i64 0, .int .i64 0]).cells (grownCap w (0 + n) 0 71 - (0 + n))) (grownCap w (0 + n) 0 71) (Nat.le_refl _) hle (by
   rw [Array.size_append, Array.size_append, size_zeroCells, size_zeroCells]
   show 0 + (0 + n - 0) * 4 + (grownCap w (0 + n) 0 71 - (0 + n)) * 4 = _
   omega)
  exact this
structure SV where
 A : Option Addr
 c : Nat
 l : List Co
def SV.val (x : SV) : Value := .slice x.A x.l.length x.c
def allCo (ss : List SV) : List Co := ss.flatMap SV.l
theorem allCo_snoc (ss : List SV) (x : SV) : allCo (ss ++ [x]) = allCo ss ++ x.l := by simp [allCo]
theorem allCo_take (ss : List SV) (k : Nat) : (allCo (ss.take k)).length ≤ (allCo ss).length := by
 have : allCo ss = allCo (ss.take k) ++ allCo (ss.drop k) := by
  unfold allCo
  rw [← List.flatMap_append, List.take_append_drop]
 rw [this, List.length_append]; omega
set_option maxHeartbeats 1000000 in
set_option maxRecDepth 100000 in
theorem concat_walk (B cp : Nat) (ss : List SV) (w : World) (hB : B < w.heap.size) (hc : ∀ i (h : i < ss.length), w.cell? ⟨B, i, none⟩ = some ss[i].val) (hco : ∀ x ∈ ss, CoAt w x.A x.l ∧ (x.A = none → x.c = 0)) (hl : (allCo ss).length ≤ 4194304) (hn : ss.length ≤ 16) :
  Calls Tryz.prog 66 #[.slice (some ⟨B, 0, none⟩) ss.length cp] w fun e w' => ∃ v, e = .returned v ∧ w'.ownsRow w.heap.size 71 4 v (allCo ss).length (coCells (allCo ss)) ∧ Below w.heap.size w w' := by
 obtain ⟨i0, ji, jz0, jz1, jz2⟩ := info_parts infoCo
 have Hc := Lib.hid hc
 have Hco := Lib.hid hco
 clear hc hco
 go_enter Tryz.func66, Tryz.ntmps66
 go_wp2_with fail
 go_loop [3, 11] (fun sz i => ∃ k : Nat, i = .int .i64 k ∧ k ≤ ss.length ∧ sz = .int .i64 (allCo (ss.take k)).length) (fun _ i => ss.length - (intOf i).toNat)
 case atStart => exact ⟨0, rfl, Nat.zero_le _, rfl⟩
 case round =>
  obtain ⟨k, rfl, hk, rfl⟩ := hrel
  have hle := allCo_take ss k
  by_cases hlt : k < ss.length
  ·have c0 := Hc.out k hlt
   have Hs : Hid (allCo (ss.take (k + 1)) = allCo (ss.take k) ++ ss[k].l) := by show _ = _; rw [List.take_succ_eq_append_getElem hlt, allCo_snoc]
   have hle2 := allCo_take ss (k + 1)
   rw [Hs.out, List.length_append] at hle2
   unfold SV.val at c0
   generalize ss[k] = x at *
   generalize allCo (ss.take k) = acc at *
   have i1 : (0 : Int) ≤ (k : Int) := by omega
   have i2 : (k : Int) < (ss.length : Int) := by omega
   go_wp2_with fail
   go_round
   case rel => exact ⟨k + 1, by go_num, by omega, by rw [Hs.out, List.length_append]; go_num⟩
   case measure => simp [intOf]; omega
  ·obtain rfl : k = ss.length := by omega
   rw [List.take_length]
   go_wp2_with fail
   refine (grow_walk (allCo ss).length _ hl).mono ?_
   rintro e w1 ⟨v1, rfl, hown1, hb1⟩
   go_wp2_with fail
   go_loopw [6, 27] (fun v i wr => ∃ k : Nat, i = .int .i64 k ∧ k ≤ ss.length ∧ wr.ownsRow w.heap.size 71 4 v (allCo (ss.take k)).length (coCells (allCo (ss.take k))) ∧ Below w.heap.size w wr) (fun _ i _ => ss.length - (intOf i).toNat)
   case atStart => exact ⟨0, rfl, Nat.zero_le _, hown1, hb1⟩
   case round =>
    rename_i wr _
    clear hown1 hb1
    obtain ⟨k, rfl, hk, hown, hb⟩ := hrel
    have hbs := hb.size
    have hle := allCo_take ss k
    by_cases hlt : k < ss.length
    ·have c0 := (hb.cell (p := ⟨B, k, none⟩) hB).trans (Hc.out k hlt)
     obtain ⟨ca, cn⟩ := Hco.out ss[k] (List.getElem_mem hlt)
     have Hs : Hid (allCo (ss.take (k + 1)) = allCo (ss.take k) ++ ss[k].l) := by show _ = _; rw [List.take_succ_eq_append_getElem hlt, allCo_snoc]
     have hle2 := allCo_take ss (k + 1)
     rw [Hs.out, List.length_append] at hle2
     unfold SV.val at c0
     generalize ss[k] = x at *
     generalize allCo (ss.take k) = acc at *
     obtain ⟨A, c, l⟩ := x
     simp only at c0 ca cn hle2
     have i1 : (0 : Int) ≤ (k : Int) := by omega
     have i2 : (k : Int) < (ss.length : Int) := by omega
     cases A with
     | none =>
      have hl0 := ca.1 rfl
      have hc0 := cn rfl
      subst hl0 hc0
      go_wp2_with (at_builtin; refine wpList_append_own_none rfl _ _ 62 rfl w.heap.size 71 i0 4 Tryz.underlying62 ji _ acc.length _ rfl hown rfl ?_)
      go_roundw
      case rel => exact ⟨k + 1, by go_num, by omega, by rw [Hs.out]; simpa using hown, hb⟩
      case measure => simp [intOf]; omega
     | some ad =>
      have ca2 := (ca.below hb).2 ad rfl
      have Hca := Lib.hid ca2
      clear ca ca2 cn
      go_wp2_with (at_builtin; refine wpList_append_own _ rfl _ _ 62 rfl w.heap.size 71 i0 _ 4 32 Tryz.underlying62 ji jz0 jz1 jz2 rfl (by omega) _ acc.length _ rfl hown ad l.length c (coCells l) rfl (coCells_len l) Hca.out (coCells_one l) (by unfold maxLen; omega) (by omega) hbs ?_; intro v' w4 hown4 hgrow _)
      go_roundw
      case rel => exact ⟨k + 1, by go_num, by omega, by rw [Hs.out, List.length_append, coCells_app]; exact hown4, hb.grown hgrow hbs fun g hg => (hown.lt g hg).1⟩
      case measure => simp [intOf]; omega
    ·obtain rfl : k = ss.length := by omega
     rw [List.take_length] at hown
     go_wp2_with fail
     go_ret
     exact ⟨_, rfl, hown, hb⟩
end Go.Proofs.YtcjjfeephaddcaaGreatDoor
namespace Go.Proofs.YtcjjfeephaddcaaGreatDoor
open Go.RowKit
def patchL (a b : List Co) (at_ dr : Nat) : List Co := a.take at_ ++ (b ++ a.drop (at_ + dr))
theorem CoAt.take {w : World} {A : Option Addr} {l : List Co} (h : CoAt w A l) (k : Nat) : CoAt w A (l.take k) :=
 ⟨fun hA => by rw [h.1 hA]; simp, fun ad hA j u hu => h.2 ad hA j u (by
  rw [← coCells_take, List.getElem?_take] at hu
  split at hu
  ·exact hu
  ·cases hu)⟩
theorem CoAt.drop {w : World} {A : Option Addr} {l : List Co} (h : CoAt w A l) (k : Nat) : CoAt w (A.map (fun x => x.add (k * 4))) (l.drop k) :=
 ⟨fun hA => by
  have := h.1 (by cases A <;> simp_all)
  rw [this]; simp, fun ad hA j u hu => by
  cases A with
  | none => cases hA
  | some a2 =>
   injection hA with hA
   subst hA
   rw [← coCells_drop, List.getElem?_drop] at hu
   have := h.2 a2 rfl _ _ hu
   rwa [Go.Deep.add_add]⟩
theorem CoAt.nil (w : World) (A : Option Addr) : CoAt w A [] := ⟨fun _ => rfl, fun ad _ j u hu => by simp [coCells] at hu⟩
theorem pieces_walk (A1 : Option Addr) (c1 : Nat) (A2 : Option Addr) (c2 : Nat) (A3 : Option Addr) (c3 n1 n2 n3 cp : Nat) (x y z : List Co) (w : World) (B : Nat) (hB : w.heap[B]? = some (.cells #[.slice A1 n1 c1, .slice A2 n2 c2, .slice A3 n3 c3] 62 (0, 0)))
  (e1 : x.length = n1) (e2 : y.length = n2) (e3 : z.length = n3) (h1 : CoAt w A1 x) (h2 : CoAt w A2 y) (h3 : CoAt w A3 z) (k1 : A1 = none → c1 = 0) (k2 : A2 = none → c2 = 0) (k3 : A3 = none → c3 = 0) (hl : x.length + (y.length + z.length) ≤ 4194304) :
  Calls Tryz.prog 66 #[.slice (some ⟨B, 0, none⟩) 3 cp] w fun e w' => ∃ v, e = .returned v ∧ w'.ownsRow w.heap.size 71 4 v (x ++ (y ++ z)).length (coCells (x ++ (y ++ z))) ∧ Below w.heap.size w w' := by
 subst e1 e2 e3
 have hBlk : Blk w B 62 #[.slice A1 x.length c1, .slice A2 y.length c2, .slice A3 z.length c3] := hB
 have e : allCo [⟨A1, c1, x⟩, ⟨A2, c2, y⟩, ⟨A3, c3, z⟩] = x ++ (y ++ z) := by simp [allCo]
 have := concat_walk B cp [⟨A1, c1, x⟩, ⟨A2, c2, y⟩, ⟨A3, c3, z⟩] w hBlk.lt (fun i hi => by
   rw [hBlk.cell]
   match i, hi with
   | 0, _ => rfl
   | 1, _ => rfl
   | 2, _ => rfl) (fun s hs => by
   simp only [List.mem_cons, List.mem_nil_iff, or_false] at hs
   rcases hs with rfl | rfl | rfl
   ·exact ⟨h1, k1⟩
   ·exact ⟨h2, k2⟩
   ·exact ⟨h3, k3⟩) (by rw [e, List.length_append, List.length_append]; exact hl) (by simp)
 rw [e] at this
 exact this
set_option maxHeartbeats 1000000 in
set_option maxRecDepth 100000 in
theorem patch_ok (A1 : Option Addr) (c1 : Nat) (a : List Co) (at_ dr : Nat) (A2 : Option Addr) (c2 : Nat) (b : List Co) (w : World) (hr1 : Rd w w.heap.size 4 A1 a.length (coCells a)) (hr2 : Rd w w.heap.size 4 A2 b.length (coCells b))
  (hl1 : a.length ≤ 1048576) (hl2 : b.length ≤ 1048576) (hcap : a.length ≤ c1) (hnil : A1 = none → c1 = 0) (hnil2 : A2 = none → c2 = 0) (hd : at_ + dr ≤ a.length) :
  Calls Tryz.prog 29 #[.slice A1 a.length c1, .int .i64 at_, .int .i64 dr, .slice A2 b.length c2] w fun e w' => ∃ Av, e = .returned (.tuple #[.slice Av (patchL a b at_ dr).length (patchL a b at_ dr).length, .nilIface]) ∧ Rd w' w'.heap.size 4 Av (patchL a b at_ dr).length (coCells (patchL a b at_ dr)) ∧ Below w.heap.size w w' := by
 have hpl : (patchL a b at_ dr).length ≤ 4194304 := by unfold patchL; simp; omega
 generalize hP : patchL a b at_ dr = P at hpl ⊢
 have HP := Lib.hid hP
 clear hP
 have d1 : decide ((at_ : Int) < 0) = false := by simp
 have d2 : decide ((dr : Int) < 0) = false := by simp
 have d3 : decide (a.length < at_) = false := by simp; omega
 have d4 : decide ((a.length : Int) - at_ < dr) = false := by simp; omega
 have x1 : at_ ≤ c1 := by omega
 have x2 : at_ + dr ≤ a.length := hd
 have x3 : a.length ≤ c1 := hcap
 have x4 : at_ + dr ≤ c1 := by omega
 have w1 : IntKind.i64.wrap ((at_ : Int) + dr) = at_ + dr := by rw [IntWalk.i64_in _ (by omega)]
 have w2 : ((at_ : Int) + dr).toNat = at_ + dr := by omega
 have w3 : (0 : Int) ≤ (at_ : Int) + dr := by omega
 have x5 : (at_ : Int) + dr ≤ (a.length : Int) := by omega
 have hca := hr1.coAt
 have hcb := hr2.coAt
 obtain ⟨A3, c3, hA3, h3, k3⟩ : ∃ A3 c3, (if c1 = at_ + dr then A1 else Option.map (fun x => x.add ((at_ + dr) * 4)) A1) = A3 ∧ CoAt w A3 (a.drop (at_ + dr)) ∧ (A3 = none → c1 - (at_ + dr) = 0) ∧ c3 = c1 - (at_ + dr) := by
  by_cases h : c1 = at_ + dr
  ·have hz : a.drop (at_ + dr) = [] := List.drop_of_length_le (by omega)
   exact ⟨A1, _, by rw [if_pos h], by rw [hz]; exact CoAt.nil _ _, fun _ => by omega, rfl⟩
  ·refine ⟨_, _, rfl, ?_, fun hA => ?_, rfl⟩
   ·rw [if_neg h]; exact hca.drop _
   ·rw [if_neg h] at hA
    have := hnil (by cases A1 <;> simp_all)
    omega
 obtain ⟨k3, rfl⟩ := k3
 go_enter Tryz.func29, Tryz.ntmps29
 go_wp2_with fail
 go_still_tail 9, (by kernel_rfl)
 change wpList _ _ _ _ _ w.drew
 go_wp2_with fail
 have hb0 : Below w.heap.size w (w.alloc (.cells #[.slice A1 at_ c1, .slice A2 b.length c2, .slice A3 (a.length - (at_ + dr)) (c1 - (at_ + dr))] 62)).drew := ((Below.refl _ _).alloc (Nat.le_refl _) _).drew
 have hBk : (w.alloc (.cells #[.slice A1 at_ c1, .slice A2 b.length c2, .slice A3 (a.length - (at_ + dr)) (c1 - (at_ + dr))] 62)).drew.heap[w.heap.size]? = some (.cells #[.slice A1 at_ c1, .slice A2 b.length c2, .slice A3 (a.length - (at_ + dr)) (c1 - (at_ + dr))] 62 (0, 0)) := heap_alloc_new w _
 generalize (w.alloc (.cells #[.slice A1 at_ c1, .slice A2 b.length c2, .slice A3 (a.length - (at_ + dr)) (c1 - (at_ + dr))] 62)).drew = wd at *
 have hpw := pieces_walk A1 c1 A2 c2 A3 (c1 - (at_ + dr)) at_ b.length (a.length - (at_ + dr)) 3 (a.take at_) b (a.drop (at_ + dr)) wd w.heap.size hBk (by simp; omega) rfl (by simp) ((hca.take at_).below hb0) (hcb.below hb0) (h3.below hb0) hnil hnil2 k3 (by simp; omega)
 rw [show a.take at_ ++ (b ++ a.drop (at_ + dr)) = P from HP.out] at hpw
 have hz0 := hb0.size
 refine hpw.mono ?_
 clear hpw
 rintro e w3 ⟨v, rfl, hown, hb3⟩
 have hmc : ∃ Av cv, v = .slice Av P.length cv ∧ P.length ≤ cv ∧ (Av = none → cv = 0) := by
  rcases hown.2 with ⟨rfl, hP0⟩ | ⟨g, cap, cur, rfl, _, _, hle, _⟩
  ·exact ⟨none, 0, by rw [hP0], by omega, fun _ => rfl⟩
  ·exact ⟨_, cap, rfl, hle, fun h => by cases h⟩
 obtain ⟨Av, cv, rfl, hle, hvn⟩ := hmc
 have hRd := Rd.of_own hown
 have hb03 := hb0.trans (hb3.mono hz0)
 clear hown hb0 hb3 hz0 hca hcb h3
 go_wp2_with fail
 refine (clip_walk Av P.length cv _ hle hvn).mono ?_
 rintro e w' ⟨rfl, rfl⟩
 go_wp2_with fail
 go_ret2
 exact ⟨Av, rfl, hRd, hb03⟩
set_option maxHeartbeats 2000000 in
set_option maxRecDepth 100000 in
theorem diff_walk (A1 : Option Addr) (c1 : Nat) (a : List Co) (A2 : Option Addr) (c2 : Nat) (b : List Co) (w : World) (hr1 : Rd w w.heap.size 4 A1 a.length (coCells a)) (hr2 : Rd w w.heap.size 4 A2 b.length (coCells b))
  (hl1 : a.length ≤ 1048576) (hl2 : b.length ≤ 1048576) (hcap : b.length ≤ c2) (hnil : A2 = none → c2 = 0) :
  Calls Tryz.prog 28 #[.slice A1 a.length c1, .slice A2 b.length c2] w fun e w' => ∃ Av, e = .returned (.tuple #[.int .i64 (pre a b), .int .i64 (a.length - pre a b - suf a b (pre a b)), .slice Av (b.length - pre a b - suf a b (pre a b)) (b.length - pre a b - suf a b (pre a b))]) ∧ Rd w' w'.heap.size 4 Av (b.length - pre a b - suf a b (pre a b)) (coCells ((b.drop (pre a b)).take (b.length - pre a b - suf a b (pre a b)))) ∧ Below w.heap.size w w' := by
 obtain ⟨hp1, hp2⟩ := pre_le a b
 have hpn : ∀ k, k ≤ pre a b → ∀ (ha : k < a.length) (hb : k < b.length), a[k] = b[k] → k + 1 ≤ pre a b := fun k => pre_next
 have hps : ∀ k, k ≤ pre a b → (∀ (ha : k < a.length) (hb : k < b.length), a[k] ≠ b[k]) → pre a b = k := fun k => pre_stop
 have hsn := fun k => suf_next (a := a) (b := b) (at_ := pre a b) (k := k)
 have hss := fun k => suf_stop (a := a) (b := b) (at_ := pre a b) (k := k)
 obtain ⟨hs1, hs2⟩ := suf_le a b (pre a b)
 have Hpn := Lib.hid hpn
 have Hps := Lib.hid hps
 have Hsn := Lib.hid hsn
 have Hss := Lib.hid hss
 clear hpn hps hsn hss
 generalize suf a b (pre a b) = sf at *
 generalize pre a b = p at *
 generalize hm0 : b.length - p - sf = m
 have Hm0 := Lib.hid hm0
 clear hm0
 go_enter Tryz.func28, Tryz.ntmps28
 go_upto_block 0 with fail
 go_cut [4] (fun s wc => s = .int .i64 p ∧ Below w.heap.size w wc)
 case first =>
  go_wp2_with fail
  go_loopw [4] (fun i wr => ∃ k : Nat, i = .int .i64 k ∧ Hid (k ≤ p) ∧ k ≤ a.length ∧ k ≤ b.length ∧ Below w.heap.size w wr) (fun i _ => a.length - (intOf i).toNat)
  case atStart => exact ⟨0, rfl, Nat.zero_le _, Nat.zero_le _, Nat.zero_le _, Below.refl _ _⟩
  case round =>
   obtain ⟨k, rfl, HK, hka, hkb, hb⟩ := hrel
   have hways : (∃ (h1 : k < a.length) (h2 : k < b.length), a[k] = b[k]) ∨ (∃ (h1 : k < a.length) (h2 : k < b.length), a[k] ≠ b[k]) ∨ (k < a.length ∧ k = b.length) ∨ k = a.length := by
    by_cases h1 : k < a.length
    ·by_cases h2 : k < b.length
     ·by_cases h3 : a[k] = b[k]
      ·exact .inl ⟨h1, h2, h3⟩
      ·exact .inr (.inl ⟨h1, h2, h3⟩)
     ·exact .inr (.inr (.inl ⟨h1, by omega⟩))
    ·exact .inr (.inr (.inr (by omega)))
   have i1 : (0 : Int) ≤ (k : Int) := by omega
   rcases hways with ⟨h1, h2, he⟩ | hstop
   ·obtain ⟨b1, o1, rfl, hbB, hcs⟩ := (hr1.below hb).co h1
    obtain ⟨p0, p1, p2, p3⟩ := hcs k h1
    clear hcs
    obtain ⟨b2, o2, rfl, hbB2, hcs⟩ := (hr2.below hb).co h2
    obtain ⟨q0, q1, q2, q3⟩ := hcs k h2
    clear hcs
    have Hnx : Hid (k + 1 ≤ p) := Hpn.out k HK.out h1 h2 he
    rw [he] at p0 p1 p2 p3
    clear he
    generalize b[k] = x at *
    have d1 : decide (k < a.length) = true := by simp [h1]
    have d2 : decide (k < b.length) = true := by simp [h2]
    have i2 : (k : Int) < (a.length : Int) := by omega
    have i3 : (k : Int) < (b.length : Int) := by omega
    go_wp2_with fail
    go_quiet (fail)
    go_wp2_with fail
    go_roundw
    case rel => exact ⟨k + 1, by go_num, Hnx, by omega, by omega, below_drewN hb _⟩
    case measure => simp [intOf]; omega
   ·have Hst : Hid (p = k) := by
     rcases hstop with ⟨h1, h2, h3⟩ | ⟨h1, h2⟩ | h1
     ·exact Hps.out k HK.out fun _ _ => h3
     ·exact Hps.out k HK.out fun _ hb => by omega
     ·exact Hps.out k HK.out fun ha _ => by omega
    rcases hstop with ⟨h1, h2, h3⟩ | ⟨h1, h2⟩ | h1
    ·obtain ⟨b1, o1, rfl, hbB, hcs⟩ := (hr1.below hb).co h1
     obtain ⟨p0, p1, p2, p3⟩ := hcs k h1
     clear hcs
     obtain ⟨b2, o2, rfl, hbB2, hcs⟩ := (hr2.below hb).co h2
     obtain ⟨q0, q1, q2, q3⟩ := hcs k h2
     clear hcs
     have hne := Co.ne_ways h3
     clear h3
     generalize a[k] = x at *
     generalize b[k] = y at *
     obtain ⟨xl, xu, xn, xk⟩ := x
     obtain ⟨yl, yu, yn, yk⟩ := y
     simp only at p0 p1 p2 p3 q0 q1 q2 q3 hne
     have d1 : decide (k < a.length) = true := by simp [h1]
     have d2 : decide (k < b.length) = true := by simp [h2]
     have i2 : (k : Int) < (a.length : Int) := by omega
     have i3 : (k : Int) < (b.length : Int) := by omega
     rcases hne with e1 | ⟨rfl, e2⟩ | ⟨rfl, rfl, e3⟩ | ⟨rfl, rfl, rfl, e4⟩
     all_goals
      go_wp2_with fail
      go_quiet (fail)
      go_wp2_with fail
      go_meet
      exact ⟨by rw [Hst.out], below_drewN hb _⟩
    ·have d1 : decide (k < a.length) = true := by simp [h1]
     have d2 : decide (k < b.length) = false := by simp; omega
     subst h2
     go_wp2_with fail
     go_quiet (fail)
     go_wp2_with fail
     go_meet
     exact ⟨by rw [Hst.out], below_drewN hb _⟩
    ·have d1 : decide (k < a.length) = false := by simp; omega
     subst h1
     go_wp2_with fail
     go_quiet (fail)
     go_wp2_with fail
     go_meet
     exact ⟨by rw [Hst.out], below_drewN hb _⟩
 case rest =>
  obtain ⟨rfl, hb⟩ := hcut
  go_upto_block 2 with fail
  go_cut [7] (fun s w2 => s = .int .i64 sf ∧ Below w.heap.size w w2)
  case first =>
   go_wp2_with fail
   go_loopw [7] (fun i wr => ∃ k : Nat, i = .int .i64 k ∧ Hid (k ≤ sf) ∧ k + p ≤ a.length ∧ k + p ≤ b.length ∧ Below w.heap.size w wr) (fun i _ => a.length - (intOf i).toNat)
   case atStart => exact ⟨0, rfl, Nat.zero_le _, by omega, by omega, hb⟩
   case round =>
    clear hb
    obtain ⟨k, rfl, HK, hka, hkb, hb⟩ := hrel
    have i1 : (0 : Int) ≤ (k : Int) := by omega
    have w1 : IntKind.i64.wrap ((a.length : Int) - p) = a.length - p := by rw [IntWalk.i64_in _ (by omega)]
    have w2 : IntKind.i64.wrap ((b.length : Int) - p) = b.length - p := by rw [IntWalk.i64_in _ (by omega)]
    have hways : (k + p < a.length ∧ k + p < b.length) ∨ (k + p < a.length ∧ k + p = b.length) ∨ k + p = a.length := by omega
    rcases hways with ⟨h1, h2⟩ | hstop
    ·obtain ⟨ia, hia⟩ : ∃ ia, ia + 1 + k = a.length := ⟨a.length - 1 - k, by omega⟩
     obtain ⟨ib, hib⟩ : ∃ ib, ib + 1 + k = b.length := ⟨b.length - 1 - k, by omega⟩
     have g1 : ia < a.length := by omega
     have g2 : ib < b.length := by omega
     have w3 : IntKind.i64.wrap ((a.length : Int) - 1) = a.length - 1 := by rw [IntWalk.i64_in _ (by omega)]
     have w4 : IntKind.i64.wrap ((b.length : Int) - 1) = b.length - 1 := by rw [IntWalk.i64_in _ (by omega)]
     have w5 : IntKind.i64.wrap ((a.length : Int) - 1 - k) = ia := by rw [IntWalk.i64_in _ (by omega)]; omega
     have w6 : IntKind.i64.wrap ((b.length : Int) - 1 - k) = ib := by rw [IntWalk.i64_in _ (by omega)]; omega
     have j1 : (0 : Int) ≤ (ia : Int) := by omega
     have j2 : (ia : Int) < (a.length : Int) := by omega
     have j3 : (0 : Int) ≤ (ib : Int) := by omega
     have j4 : (ib : Int) < (b.length : Int) := by omega
     have d1 : decide ((k : Int) < (a.length : Int) - p) = true := by simp; omega
     have d2 : decide ((k : Int) < (b.length : Int) - p) = true := by simp; omega
     obtain ⟨b1, o1, rfl, hbB, hcs⟩ := (hr1.below hb).co g1
     obtain ⟨p0, p1, p2, p3⟩ := hcs ia g1
     clear hcs
     obtain ⟨b2, o2, rfl, hbB2, hcs⟩ := (hr2.below hb).co g2
     obtain ⟨q0, q1, q2, q3⟩ := hcs ib g2
     clear hcs
     have ea : a.length - 1 - k = ia := by omega
     have eb : b.length - 1 - k = ib := by omega
     have Hnx : Hid (a[ia] = b[ib] → k + 1 ≤ sf) := fun h => by
      refine Hsn.out k HK.out (by omega) (by omega) ?_
      simp only [ea, eb]; exact h
     have Hst : Hid (a[ia] ≠ b[ib] → sf = k) := fun h => by
      refine Hss.out k HK.out fun _ _ => ?_
      simp only [ea, eb]; exact h
     clear ea eb hia hib
     by_cases hxy : a[ia] = b[ib]
     ·have Hn2 := Lib.hid (Hnx.out hxy)
      rw [hxy] at p0 p1 p2 p3
      clear hxy Hnx Hst
      generalize b[ib] = x at *
      go_wp2_with fail
      go_quiet (fail)
      clear w1 w2 w3 w4 w5 w6
      go_wp2_with fail
      go_roundw
      case rel => exact ⟨k + 1, by go_num, Hn2, by omega, by omega, below_drewN hb _⟩
      case measure => simp [intOf]; omega
     ·have Hs2 := Lib.hid (Hst.out hxy)
      have hne := Co.ne_ways hxy
      clear hxy Hnx Hst
      generalize a[ia] = x at *
      generalize b[ib] = y at *
      obtain ⟨xl, xu, xn, xk⟩ := x
      obtain ⟨yl, yu, yn, yk⟩ := y
      simp only at p0 p1 p2 p3 q0 q1 q2 q3 hne
      rcases hne with e1 | ⟨rfl, e2⟩ | ⟨rfl, rfl, e3⟩ | ⟨rfl, rfl, rfl, e4⟩
      all_goals
       go_wp2_with fail
       go_quiet (fail)
       go_wp2_with fail
       go_meet
       exact ⟨by rw [Hs2.out], below_drewN hb _⟩
    ·have Hst : Hid (sf = k) := Hss.out k HK.out fun ha hb => by omega
     rcases hstop with ⟨h1, h2⟩ | h1
     ·have d1 : decide ((k : Int) < (a.length : Int) - p) = true := by simp; omega
      have d2 : decide ((k : Int) < (b.length : Int) - p) = false := by simp; omega
      clear h2
      go_wp2_with fail
      go_quiet (fail)
      go_wp2_with fail
      go_meet
      exact ⟨by rw [Hst.out], below_drewN hb _⟩
     ·have d1 : decide ((k : Int) < (a.length : Int) - p) = false := by simp; omega
      clear h1
      go_wp2_with fail
      go_quiet (fail)
      go_wp2_with fail
      go_meet
      exact ⟨by rw [Hst.out], below_drewN hb _⟩
  case rest =>
   clear hb
   obtain ⟨rfl, hb⟩ := hcut
   have hm : b.length - sf - p = m := by have := Hm0.out; omega
   have hml : ((b.drop p).take m).length = m := by rw [List.length_take, List.length_drop]; omega
   have hx1 : p ≤ b.length - sf := by omega
   have hx2 : b.length - sf ≤ c2 := by omega
   have hx3 : p ≤ c2 := by omega
   have hsl : sf ≤ b.length := by omega
   have hmb : m ≤ 1048576 := by omega
   have hca : CoAt wc A2 b := (hr2.coAt).below hb
   have hcd : c2 ≠ p → CoAt wc (A2.map (fun x => x.add (p * 4))) ((b.drop p).take m) := fun _ => by
    constructor
    ·intro h
     have := hca.1 (by cases A2 <;> simp_all)
     rw [this]; simp
    ·intro ad hA j u hu
     cases A2 with
     | none => cases hA
     | some a2 =>
      injection hA with hA
      subst hA
      have h1 : (coCells b)[p * 4 + j]? = some u := by
       rw [← coCells_take, List.getElem?_take] at hu
       split at hu
       ·rw [← coCells_drop, List.getElem?_drop] at hu; exact hu
       ·cases hu
      have := hca.2 a2 rfl _ _ h1
      rwa [Go.Deep.add_add]
   have hcz : c2 = p → m = 0 := fun h => by omega
   have Hcd := Lib.hid hcd
   have Hcz := Lib.hid hcz
   have Hca := Lib.hid hca
   have Hml := Lib.hid hml
   clear hcd hcz hca hml
   by_cases hcp : c2 = p
   ·have hm0 := Hcz.out hcp
    subst hcp
    subst hm0
    have hcl := clone_walk A2 0 [] wc ⟨fun _ => rfl, fun ad _ j u hu => by simp [coCells] at hu⟩ (fun _ => rfl) (Nat.zero_le _)
    have ht0 : (b.drop c2).take 0 = [] := by simp
    have Ht0 := Lib.hid ht0
    clear ht0
    go_wp2_with fail
    refine hcl.mono ?_
    clear hcl
    rintro e w3 ⟨v, rfl, hown, hb3⟩
    have hmc : ∃ Av cv, v = .slice Av 0 cv ∧ 0 ≤ cv ∧ (Av = none → cv = 0) := by
     rcases hown.2 with ⟨rfl, -⟩ | ⟨g, cap, cur, rfl, _, _, hle, _⟩
     ·exact ⟨none, 0, rfl, Nat.le_refl _, fun _ => rfl⟩
     ·exact ⟨_, cap, rfl, hle, fun h => by cases h⟩
    obtain ⟨Av, cv, rfl, hle, hvn⟩ := hmc
    have hRd := Rd.of_own hown
    have hRd2 : Rd w3 w3.heap.size 4 Av 0 (coCells ((b.drop c2).take 0)) := by rw [Ht0.out]; exact hRd
    go_wp2_with fail
    refine (clip_walk Av 0 cv _ hle hvn).mono ?_
    rintro e w' ⟨rfl, rfl⟩
    go_wp2_with fail
    go_ret3
    exact ⟨Av, by first | rfl | (simp; done) | (simp; omega), hRd2, hb.trans (hb3.mono hb.size)⟩
   ·have hcl := clone_walk (A2.map (fun x => x.add (p * 4))) (c2 - p) ((b.drop p).take m) wc (Hcd.out hcp) (fun h => by have := hnil (by cases A2 <;> simp_all); omega) (by rw [Hml.out]; omega)
    rw [Hml.out] at hcl
    go_wp2_with fail
    refine hcl.mono ?_
    clear hcl
    rintro e w3 ⟨v, rfl, hown, hb3⟩
    have hmc : ∃ Av cv, v = .slice Av m cv ∧ m ≤ cv ∧ (Av = none → cv = 0) := by
     rcases hown.2 with ⟨rfl, rfl⟩ | ⟨g, cap, cur, rfl, _, _, hle, _⟩
     ·exact ⟨none, 0, rfl, Nat.le_refl _, fun _ => rfl⟩
     ·exact ⟨_, cap, rfl, hle, fun h => by cases h⟩
    obtain ⟨Av, cv, rfl, hle, hvn⟩ := hmc
    have hRd := Rd.of_own hown
    go_wp2_with fail
    refine (clip_walk Av m cv _ hle hvn).mono ?_
    rintro e w' ⟨rfl, rfl⟩
    go_wp2_with fail
    go_ret3
    exact ⟨Av, by first | rfl | (simp; done) | (simp; omega), hRd, hb.trans (hb3.mono hb.size)⟩
theorem pre_take (a b : List Co) : a.take (pre a b) = b.take (pre a b) := by
 induction a generalizing b with
 | nil => simp [pre]
 | cons x a ih =>
  cases b with
  | nil => simp [pre]
  | cons y b =>
   simp only [pre]
   split
   ·rename_i h
    rw [List.take_succ_cons, List.take_succ_cons, h, ih b]
   ·rfl
theorem suf_drop (a b : List Co) (p : Nat) (ha : p ≤ a.length) (hb : p ≤ b.length) : a.drop (a.length - suf a b p) = b.drop (b.length - suf a b p) := by
 have h := pre_take (a.drop p).reverse (b.drop p).reverse
 obtain ⟨h1, h2⟩ := suf_le a b p
 have h3 : ∀ l : List Co, p ≤ l.length → suf a b p ≤ l.length - p → ((l.drop p).reverse.take (suf a b p)).reverse = l.drop (l.length - suf a b p) := fun l hp hl => by
  rw [List.take_reverse, List.reverse_reverse, List.drop_drop, List.length_drop]
  congr 1
  omega
 have h4 := congrArg List.reverse h
 change ((a.drop p).reverse.take (suf a b p)).reverse = ((b.drop p).reverse.take (suf a b p)).reverse at h4
 rw [h3 a ha h1, h3 b hb h2] at h4
 exact h4
theorem patch_diff (a b : List Co) : a.take (pre a b) ++ ((b.drop (pre a b)).take (b.length - pre a b - suf a b (pre a b)) ++ a.drop (pre a b + (a.length - pre a b - suf a b (pre a b)))) = b := by
 obtain ⟨h1, h2⟩ := pre_le a b
 obtain ⟨h3, h4⟩ := suf_le a b (pre a b)
 have h5 := suf_drop a b (pre a b) h1 h2
 have e1 : pre a b + (a.length - pre a b - suf a b (pre a b)) = a.length - suf a b (pre a b) := by omega
 rw [e1, h5, pre_take a b]
 have e2 : b.drop (b.length - suf a b (pre a b)) = (b.drop (pre a b)).drop (b.length - pre a b - suf a b (pre a b)) := by
  rw [List.drop_drop]; congr 1; omega
 rw [e2, List.take_append_drop, List.take_append_drop]
end Go.Proofs.YtcjjfeephaddcaaGreatDoor
