/-
  JOINED of the texts ZN ZO DA
-/
import Derived.Test.YtalklmeejdmifaaGreatDoorJap
namespace Go.Proofs.YtalklmeejdmifaaGreatDoor
open Go.RowKit
theorem kd_row {w w0 : World} {F G : Nat → Prop} {A : Option Addr} {ks : List Tr.Kd} {vs : List Value} (hr : RowF w F A vs) (hk : KdsF w0 G ks vs) {x : Nat} (h : x < ks.length) :
  ∃ b o q, A = some ⟨b, o, none⟩ ∧ F b ∧ w.cell? ⟨b, o + x * 4, none⟩ = some (.pointer (some ⟨q, 0, none⟩)) ∧ w.cell? ⟨b, o + x * 4 + 1, none⟩ = some (.int .i64 (ks[x].base : Int)) ∧ w.cell? ⟨b, o + x * 4 + 2, none⟩ = some (.int .i64 (ks[x].first : Int)) ∧ w.cell? ⟨b, o + x * 4 + 3, none⟩ = some (.int .i64 (ks[x].last : Int)) ∧ PtF w0 G ks[x].part (.iface 90 (.pointer (some ⟨q, 0, none⟩))) := by
 obtain ⟨q, v0, v1, v2, v3, hpv⟩ := hk.at_ h
 obtain ⟨bb, bo, rfl, hFb, _, hcell⟩ := hr (by have := KdsF.len hk; omega)
 have e1 := hcell _ _ v1
 have e2 := hcell _ _ v2
 have e3 := hcell _ _ v3
 rw [← Nat.add_assoc] at e1 e2 e3
 exact ⟨bb, bo, q, rfl, hFb, hcell _ _ v0, e1, e2, e3, hpv⟩
structure RpK (K P : Nat → Prop) (g go : Nat) (A : Option Addr) (n : Nat) (w0 : World) (ks : List Tr.Kd) (w : World) : Prop where
 F : Aft K g w0 w
 O : ∃ Av cv vs, OTk w K P g go A n n ks Av cv vs [] none 0 []
section
variable {K P : Nat → Prop} {g go n : Nat} {A : Option Addr} {w0 w w' : World} {ks : List Tr.Kd}
theorem RpK.below (h : RpK K P g go A n w0 ks w) (hK : In K w) (hb : Below w.heap.size w w') : RpK K P g go A n w0 ks w' := by
 obtain ⟨Av, cv, vs, O⟩ := h.O
 exact ⟨h.F.trans (Aft.below hb hK), Av, cv, vs, O.below hb⟩
end
set_option maxHeartbeats 16000000 in
set_option maxRecDepth 100000 in
theorem replace_walk {F : Nat → Prop} {s : Bs} {frm til : Nat} {ins : Bs} {m : Int} {w : World} {gt : Nat} (hM : MaxL w m) (hT8 : T8 w) (hW : WordsIs w)
  (h : TreeOf w F gt s (Lx.tokR 0 s) (Tr.ksP s (Lx.tokR 0 s)) (Tr.tailP s (Lx.tokR 0 s) (Tr.kidsP s (Lx.tokR 0 s) ((Lx.tokR 0 s).length + 1) 0).2)) (h1 : frm ≤ til) (h2 : til ≤ s.length) (hl : s.length + ins.length ≤ 1048576) :
  Calls Tryz.prog 19 #[.pointer (some ⟨gt, 0, none⟩), .agg #[.int .i64 frm, .int .i64 til, .string ⟨ins.toArray⟩]] w fun e w' => ∃ g, e = .returned (.tuple #[.pointer (some ⟨g, 0, none⟩), .int .i64 (Tr.anewP s frm til ins : Int), .nilIface]) ∧
   TreeOf w' (fun _ => True) g (Lx.nowM s frm til ins) (Lx.tokR 0 (Lx.nowM s frm til ins)) (Tr.ksP (Lx.nowM s frm til ins) (Lx.tokR 0 (Lx.nowM s frm til ins))) (Tr.tailP (Lx.nowM s frm til ins) (Lx.tokR 0 (Lx.nowM s frm til ins)) (Tr.kidsP (Lx.nowM s frm til ins) (Lx.tokR 0 (Lx.nowM s frm til ins)) ((Lx.tokR 0 (Lx.nowM s frm til ins)).length + 1) 0).2) ∧ Below w.heap.size w w' := by
 obtain ⟨k0, ki, kz0, kz1, kz2⟩ := info_parts infoKid
 have HA := Lib.hid (Tr.an_facts h1 h2 hl)
 have HO := Lib.hid (old_kids h1 h2 hl)
 have HQ := Lib.hid (kp_q h1 h2 hl)
 have hnl := Lx.now_len s frm til ins h1 h2
 have hT' := Lx.tokR_length 0 (Lx.nowM s frm til ins)
 obtain ⟨hS', -⟩ := Lx.tok_side (Lx.nowM s frm til ins) (by omega) hT'
 have HX : Hid (Txts (Lx.nowM s frm til ins) (Lx.tokR 0 (Lx.nowM s frm til ins))) := ⟨hS'.good, by omega, by omega⟩
 obtain ⟨d, A, c, hTr, hD, hFd, hrow, hTc, hdg⟩ := h.ex
 have hkids := (Tr.kids_head (ins := ins) h1 h2 HA.out.kp_le (fun j hj hjc => Tr.kpt_at _ _ _ j hj hjc) _ (Nat.le_refl _)).2
 have hK0 := Lib.hid hkids
 have hall := Tr.all_fine hS'
 have Hal : Hid ((Tr.kidsP (Lx.nowM s frm til ins) (Lx.tokR 0 (Lx.nowM s frm til ins)) ((Lx.tokR 0 (Lx.nowM s frm til ins)).length + 1) 0).1.length ≤ (Lx.tokR 0 (Lx.nowM s frm til ins)).length) := by
  have h3 := hall.2.2
  unfold Tr.allP at h3
  rw [List.length_append, List.length_map] at h3
  show _ ≤ _
  omega
 have Hup : Hid (∀ j, j ≤ (Tr.ksP s (Lx.tokR 0 s)).length → j ≤ Tr.frmK (Tr.ksP s (Lx.tokR 0 s)) j) := fun j => by
  induction j with
  | zero => exact fun _ => Nat.zero_le _
  | succ j ih => exact fun hj => by have := HA.out.up j hj; have := ih (by omega); omega
 have Hos : Hid (∀ x (h : x < (Tr.ksP s (Lx.tokR 0 s)).length), qP s frm til ins ≤ x → ∃ h' : x - qP s frm til ins < (osP s frm til ins).length, (osP s frm til ins)[x - qP s frm til ins].part = (Tr.ksP s (Lx.tokR 0 s))[x].part ∧ (osP s frm til ins)[x - qP s frm til ins].base = (Tr.ksP s (Lx.tokR 0 s))[x].base ∧
   ((osP s frm til ins)[x - qP s frm til ins].first : Int) = ((Tr.ksP s (Lx.tokR 0 s))[x].first : Int) + (((Lx.tokR 0 (Lx.nowM s frm til ins)).length : Int) - ((Lx.tokR 0 s).length : Int)) ∧ ((osP s frm til ins)[x - qP s frm til ins].last : Int) = ((Tr.ksP s (Lx.tokR 0 s))[x].last : Int) + (((Lx.tokR 0 (Lx.nowM s frm til ins)).length : Int) - ((Lx.tokR 0 s).length : Int))) := fun x h hq => by
  have hlt : x - qP s frm til ins < (osP s frm til ins).length := by rw [os_len]; omega
  refine ⟨hlt, ?_⟩
  obtain ⟨g1, e1⟩ := os_at _ hlt
  have e2 : (Tr.ksP s (Lx.tokR 0 s))[qP s frm til ins + (x - qP s frm til ins)] = (Tr.ksP s (Lx.tokR 0 s))[x] := by congr 1; omega
  rw [e1, e2]
  have e3 := q_not (frm := frm) (til := til) (ins := ins) x h hq
  have e4 := HA.out.first x h
  have e5 := HA.out.last x h
  have e6 := HA.out.up x h
  exact ⟨rfl, rfl, mvI_int h1 h2 e3, mvI_int h1 h2 (by omega)⟩
 have Hq1 := Lib.hid (fun x h => q_at (s := s) (frm := frm) (til := til) (ins := ins) x h)
 have Hq2 := Lib.hid (fun x h => q_not (s := s) (frm := frm) (til := til) (ins := ins) x h)
 have Hol := Lib.hid (os_len (s := s) (frm := frm) (til := til) (ins := ins))
 have hkept := fun w' hM hT hW hD => kept_walk d s frm til ins m w' hM hT hW hD h1 h2 (by omega)
 have hTl := HA.out.Tl
 have hTl' := HA.out.Tl'
 clear hkids hall hS' hnl hT'
 generalize Tr.anewP s frm til ins = N at *
 generalize Tr.stopP s frm til ins = st at *
 generalize Tr.cntP' s frm til ins = cn at *
 generalize qP s frm til ins = q at *
 generalize osP s frm til ins = os at *
 generalize Tr.tailP s (Lx.tokR 0 s) (Tr.kidsP s (Lx.tokR 0 s) ((Lx.tokR 0 s).length + 1) 0).2 = ts at *
 generalize Tr.ksP s (Lx.tokR 0 s) = ks at *
 generalize (Lx.anewM s frm til ins).length = an at *
 generalize Lx.headM (Lx.tokR 0 s) frm = H at *
 generalize Lx.behindM s frm til ins = Bh at *
 generalize Lx.nowM s frm til ins = now at *
 generalize Lx.tokR 0 now = T' at *
 generalize Lx.tokR 0 s = T at *
 generalize Tr.kptP T H ks = kp at *
 obtain ⟨Av, cv, At, ct, vs, us, hB, hkc, -, hrk, hks, -, -⟩ := hTr.ex
 have hwd : Below w.heap.size w (w.alloc (.cells #[.int .i64 frm, .int .i64 til, .string ⟨ins.toArray⟩] 39)) := (Below.refl _ _).alloc (Nat.le_refl _) _
 have hSp : Blk (w.alloc (.cells #[.int .i64 frm, .int .i64 til, .string ⟨ins.toArray⟩] 39)) w.heap.size 39 #[.int .i64 frm, .int .i64 til, .string ⟨ins.toArray⟩] := Blk.new _ _ _
 have hT1 := hT8.below hwd
 have hW1 := hW.below hwd
 have hD1 := hD.below hwd
 have hB1 := hB.below hwd hB.lt
 obtain ⟨sp, hsp⟩ : ∃ sp, sp = w.heap.size := ⟨_, rfl⟩
 rw [← hsp] at hSp
 have Hsp := Lib.hid hsp
 go_enter Tryz.func19, Tryz.ntmps19
 go_upto_region 1 with fail
 rw [← hsp]
 clear hsp
 generalize w.alloc (.cells #[.int .i64 frm, .int .i64 til, .string ⟨ins.toArray⟩] 39) = w1 at *
 have hM1 := hM.below hwd hM.lt
 have hkept := hkept w1.drew (hM1.below (Below.refl _ _).drew hM1.lt) (hT1.below (Below.refl _ _).drew) (hW1.below (Below.refl _ _).drew) (hD1.below (Below.refl _ _).drew)
 refine wp_region_G 14 (fun w' : World => w'.cell? ⟨gt, 0, none⟩ = some (.pointer (some ⟨d, 0, none⟩)) ∧ w'.cell? ⟨sp, 0, none⟩ = some (.int .i64 frm) ∧ w'.cell? ⟨sp, 1, none⟩ = some (.int .i64 til) ∧ w'.cell? ⟨sp, 2, none⟩ = some (.string ⟨ins.toArray⟩)) (by kernel_rfl) ?_
 have hwd := hwd.trans ((Below.refl w1.heap.size w1).drew.mono hwd.size)
 have hSp := hSp.drew
 have hB1 := hB1.drew
 generalize w1.drew = w2 at *
 clear hM1 hT1 hW1 hD1
 have p0 := hSp.cell 0
 have p1 := hSp.cell 1
 have p2 := hSp.cell 2
 have t0 := hB1.cell 0
 simp at p0 p1 p2 t0
 have hS0 : (fun w' : World => w'.cell? ⟨gt, 0, none⟩ = some (.pointer (some ⟨d, 0, none⟩)) ∧ w'.cell? ⟨sp, 0, none⟩ = some (.int .i64 frm) ∧ w'.cell? ⟨sp, 1, none⟩ = some (.int .i64 til) ∧ w'.cell? ⟨sp, 2, none⟩ = some (.string ⟨ins.toArray⟩)) w2 := ⟨t0, p0, p1, p2⟩
 refine wpAnyG_tk 0 hS0 ?_
 simp only [Act.put, List.setIfInBounds_toArray]
 refine wpAnyG_tk 1 hS0 ?_
 simp only [Act.put]
 refine wpAnyG_tk 2 hS0 ?_
 simp only [Act.put]
 refine wpAnyG_tk 3 hS0 ?_
 simp only [Act.put]
 refine wpAnyG_tk 4 hS0 ?_
 simp only [Act.put]
 clear hS0
 refine wpAnyG_on 5 fun C hC => ?_
 go_simp
 ((with_reducible refine hkept.mono ?_))
 clear hkept
 rintro e w3 ⟨go, rfl, hgo, hD2, hd3⟩
 have hB3 := hB1.below hd3 hB1.lt
 have hSp3 := hSp.below hd3 hSp.lt
 have p0 := hSp3.cell 0
 have p1 := hSp3.cell 1
 have p2 := hSp3.cell 2
 have t0 := hB3.cell 0
 simp at p0 p1 p2 t0
 refine hC.out _ _ (fun _ => ⟨t0, p0, p1, p2⟩) ?_
 clear hC C
 refine wpAnyG_on 6 fun C hC => ?_
 go_simp
 refine hC.out _ _ (fun _ => ⟨t0, p0, p1, p2⟩) ?_
 clear hC C
 have hS0 : (fun w' : World => w'.cell? ⟨gt, 0, none⟩ = some (.pointer (some ⟨d, 0, none⟩)) ∧ w'.cell? ⟨sp, 0, none⟩ = some (.int .i64 frm) ∧ w'.cell? ⟨sp, 1, none⟩ = some (.int .i64 til) ∧ w'.cell? ⟨sp, 2, none⟩ = some (.string ⟨ins.toArray⟩)) w3 := ⟨t0, p0, p1, p2⟩
 refine wpAnyG_tk 7 hS0 ?_
 simp only [Act.put]
 refine wpAnyG_tk 8 hS0 ?_
 simp only [Act.put]
 refine wpAnyG_tk 9 hS0 ?_
 simp only [Act.put]
 refine wpAnyG_tk 10 hS0 ?_
 simp only [Act.put]
 clear hS0
 refine wpAnyG_on 11 fun C hC => ?_
 go_simp
 refine hC.out _ _ (fun _ => ⟨t0, p0, p1, p2⟩) ?_
 clear hC C
 refine wpAnyG_on 12 fun C hC => ?_
 go_simp
 refine hC.out _ _ (fun _ => ⟨t0, p0, p1, p2⟩) ?_
 clear hC C
 refine wpAnyG_on 13 fun C hC => ?_
 go_simp
 refine hC.out _ _ (fun _ => ⟨t0, p0, p1, p2⟩) ?_
 clear hC C
 refine wpAnyG_on 14 fun C hC => ?_
 go_simp
 refine hC.out _ _ (fun h => absurd rfl h) ?_
 clear hC C
 refine wpAnyG_done (by kernel_rfl) ?_ _
 have hwz := hwd.size
 have hwd := hwd.trans (hd3.mono hwz)
 have hgo2 : w.heap.size ≤ go := Nat.le_trans hwz hgo
 have hgow : go < w3.heap.size := by obtain ⟨_, _, h, _⟩ := hD2; exact h.lt
 clear hB1 hSp t0 p0 p1 p2 hd3 hgo hwz
 go_upto_region 4 with fail
 have htk := ltokens_walk go now T' w3 hD2 (by omega)
 go_wp2_with fail
 refine htk.mono ?_
 clear htk
 rintro e w4 ⟨A', rfl, ⟨c', hown⟩, hd4⟩
 have hd5 : Below w4.heap.size w4 (w4.alloc (.cells #[.pointer (some ⟨go, 0, none⟩), .slice A' T'.length T'.length, .slice none 0 0, .slice none 0 0] 87)) := (Below.refl _ _).alloc (Nat.le_refl _) _
 have hG : Blk (w4.alloc (.cells #[.pointer (some ⟨go, 0, none⟩), .slice A' T'.length T'.length, .slice none 0 0, .slice none 0 0] 87)) w4.heap.size 87 #[.pointer (some ⟨go, 0, none⟩), .slice A' T'.length T'.length, .slice none 0 0, .slice none 0 0] := Blk.new _ _ _
 have hz3 := hwd.size
 have hz4 := hd4.size
 have hwd5 := (hwd.trans (hd4.mono hz3)).trans (hd5.mono (Nat.le_trans hz3 hz4))
 have hD5 := (hD2.below hd4).below hd5
 have hB5 := (hB3.below hd4 hB3.lt).below hd5 (Nat.lt_of_lt_of_le hB3.lt hz4)
 have hS5 := (hSp3.below hd4 hSp3.lt).below hd5 (Nat.lt_of_lt_of_le hSp3.lt hz4)
 have hrow5 : RowF (w4.alloc (.cells #[.pointer (some ⟨go, 0, none⟩), .slice A' T'.length T'.length, .slice none 0 0, .slice none 0 0] 87)) (fun x => w.heap.size ≤ x ∧ x ≠ w4.heap.size) A' (tksC T') := (own_row hown fun q hq => (hown.lt q hq).1).2.keep hd5.size fun x hx hl => ⟨hd5.block x hl, by have hx : w3.heap.size ≤ x := hx; exact ⟨by omega, by omega⟩⟩
 have hgg : w.heap.size ≤ w4.heap.size ∧ go < w4.heap.size ∧ sp < w4.heap.size := ⟨by omega, by omega, by have := hSp3.lt; omega⟩
 have hkz : (w4.alloc (.cells #[.pointer (some ⟨go, 0, none⟩), .slice A' T'.length T'.length, .slice none 0 0, .slice none 0 0] 87)).heap.size = w4.heap.size + 1 := by simp
 have hw35 := hd4.trans (hd5.mono hz4)
 have hg3 : w3.heap.size ≤ w4.heap.size := hz4
 clear hown hSp3 hB3 hd4 hgow hd5 hz3 hz4 hwd
 obtain ⟨g, hg⟩ : ∃ g, g = w4.heap.size := ⟨_, rfl⟩
 rw [← hg] at hG hrow5 hgg hkz hg3
 go_upto_region 5 with fail
 rw [← hg]
 clear hg
 generalize (w4.alloc (.cells #[.pointer (some ⟨go, 0, none⟩), .slice A' T'.length T'.length, .slice none 0 0, .slice none 0 0] 87)) = w5 at *
 obtain ⟨hg0, hg1, hg2⟩ := hgg
 have Hg0 := Lib.hid hg0
 have hrk5 : RowF w5 (fun x => x < w.heap.size) Av vs := hrk.keep hwd5.size fun x _ hl => ⟨hwd5.block x hl, hl⟩
 have hks5 : KdsF w5 (fun x => x < w.heap.size) ks vs := KdsF.keep hwd5.size (fun x _ hl => ⟨hwd5.block x hl, hl⟩) _ _ hks
 have hrt5 : RowF w5 (fun x => x < w.heap.size) A (tksC T) := hrow.keep hwd5.size fun x _ hl => ⟨hwd5.block x hl, hl⟩
 have hgtl := hB.lt
 obtain ⟨K, hK⟩ : ∃ K : Nat → Prop, K = fun x => x ≤ g := ⟨_, rfl⟩
 obtain ⟨P, hP⟩ : ∃ P : Nat → Prop, P = fun x => x < w.heap.size := ⟨_, rfl⟩
 have HK : Hid (∀ x, x ≤ g ↔ K x) := fun x => by rw [hK]
 have HP : Hid (∀ x, x < w.heap.size ↔ P x) := fun x => by rw [hP]
 clear hK hP
 have S : RpK K P g go A' T'.length w5 [] w5 := ⟨Aft.refl _ _ _, none, 0, [], hG, World.ownsRow_nil _ _ _ _, World.ownsRow_nil _ _ _ _, fun q hq => by simp [Value.ownBlock] at hq, fun q hq => by simp [Value.ownBlock] at hq, rfl, rfl⟩
 clear hG hrk hks hrow hB h hTr hFd hD
 have t2 := hB5.cell 2
 simp at t2
 go_upto_block 0 with fail
 clear t2
 go_cut [12] (fun v wc => v = .int .i64 (Tr.frmK ks kp : Int) ∧ RpK K P g go A' T'.length w5 (ks.take kp) wc)
 case first =>
  go_wp2_with fail
  go_loopg [12, 45] ks.length (fun mm v z wr => ∃ x : Nat, v = .int .i64 (Tr.frmK ks x : Int) ∧ z = .int .i64 (x : Int) ∧ x ≤ kp ∧ ks.length - x ≤ mm ∧ RpK K P g go A' T'.length w5 (ks.take x) wr)
  case atStart => exact ⟨0, rfl, rfl, Nat.zero_le _, Nat.le_refl _, S⟩
  case round =>
   clear S
   obtain ⟨x, rfl, rfl, hx, hm, S⟩ := hrel
   by_cases hxl : x < ks.length
   ·have x1 : (x : Int) < (ks.length : Int) := by omega
    have x0 : (0 : Int) ≤ (x : Int) := by omega
    have hF := S.F
    have hold : ∀ y, y < w.heap.size → wr.heap[y]? = w5.heap[y]? := fun y hy => hF.oth y ((HK.out y).1 (by omega)) (by omega)
    have hrk := hrk5.keep (F' := fun x => x < w.heap.size) hF.size fun y hy _ => ⟨hold y hy, hy⟩
    have hks := KdsF.keep (F' := fun x => x < w.heap.size) hF.size (fun y hy _ => ⟨hold y hy, hy⟩) _ _ hks5
    have hrt := hrt5.keep (F' := fun x => x < w.heap.size) hF.size fun y hy _ => ⟨hold y hy, hy⟩
    obtain ⟨bb, bo, q', rfl, hFb, q0, q1, q2, q3, hpv⟩ := kd_row hrk hks hxl
    have hxb : x < 8388608 := by have h3 := HA.out.len; rw [List.length_append, List.length_map] at h3; omega
    have el := HA.out.last x hxl
    have hxk : Hid (x < kp → Tr.nextP T ks[x].last < H) := fun h => by have := HA.out.kp_at x h; rwa [← el] at this
    have hxn : Hid (¬ x < kp → ¬ Tr.nextP T ks[x].last < H) := fun h => by
     have e : x = kp := by omega
     subst e
     have := HA.out.kp_not hxl
     rwa [← el] at this
    have HTK : Hid (ks.take (x + 1) = ks.take x ++ [⟨ks[x].part, ks[x].base, ks[x].first, ks[x].last⟩]) := List.take_succ_eq_append_getElem hxl
    have hlT : ks[x].last ≤ T.length := by have := (HA.out.lv x hxl).2.1; omega
    have Hel := Lib.hid el
    have hPv : PtF wr P ks[x].part (.iface 90 (.pointer (some ⟨q', 0, none⟩))) := PtF.keep (Nat.le_refl _) (fun y hy _ => ⟨rfl, (HP.out y).1 hy⟩) _ _ hpv
    have Hx := Lib.hid hx
    have Hm := Lib.hid hm
    have Hxl := Lib.hid hxl
    clear el hpv
    generalize ks[x].part = pt at *
    generalize ks[x].base = kb0 at *
    generalize ks[x].first = kf at *
    generalize ks[x].last = kl at *
    have HlT := Lib.hid hlT
    have Hkl4 : Hid ((ks.take x).length ≤ 8388608) := by show _ ≤ _; rw [List.length_take]; have h3 := HA.out.len; rw [List.length_append, List.length_map] at h3; omega
    obtain ⟨kn, hkn⟩ : ∃ kn, kn = ks.take x := ⟨_, rfl⟩
    rw [← hkn] at S HTK Hkl4
    have Hkn := Lib.hid hkn.symm
    clear hkn
    have t1 := (hF.oth gt ((HK.out gt).1 (by omega)) (by omega)).trans hB5
    have t1 : Blk wr gt 87 _ := t1
    obtain ⟨Aw, cw, vw, O⟩ := S.O
    have hgl := O.blk.lt
    have Hkr : Hid (∀ y, (Value.slice Aw kn.length cw).ownBlock = some y → y < wr.heap.size) := fun y hy => (O.ownk.lt y hy).2
    have hd : Below wr.heap.size wr (wr.alloc (.cells #[.pointer (some ⟨q', 0, none⟩), .int .i64 (kb0 : Int), .int .i64 (kf : Int), .int .i64 (kl : Int)] 92)) := (Below.refl _ _).alloc (Nat.le_refl _) _
    have hKb : Blk (wr.alloc (.cells #[.pointer (some ⟨q', 0, none⟩), .int .i64 (kb0 : Int), .int .i64 (kf : Int), .int .i64 (kl : Int)] 92)) wr.heap.size 92 #[.pointer (some ⟨q', 0, none⟩), .int .i64 (kb0 : Int), .int .i64 (kf : Int), .int .i64 (kl : Int)] := Blk.new _ _ _
    have hrt3 := hrt.keep (F' := fun x => x < w.heap.size) hd.size fun y hy hl => ⟨hd.block y hl, hy⟩
    have hPv := PtF.keep (F' := P) hd.size (fun y hy hl => ⟨hd.block y hl, hy⟩) _ _ hPv
    have hT3 := t1.below hd t1.lt
    have hIn : In K wr := fun y hy => Nat.lt_of_lt_of_le (Nat.lt_succ_of_le ((HK.out y).2 hy)) (by have := hF.size; omega)
    have S := S.below hIn hd
    have O := O.below hd
    have hIn := hIn.after hd.size
    obtain ⟨kb, hkb⟩ : ∃ kb, kb = wr.heap.size := ⟨_, rfl⟩
    have Hkb := Lib.hid hkb
    have Hbg : Hid (kb ≠ g ∧ g < kb) := by show _ ∧ _; omega
    rw [← hkb] at hKb
    clear hm hx hF hold hrk hks hrt hFb t1 hd
    go_upto_region 9 with fail
    rw [← hkb]
    clear hkb q0 q1 q2 q3
    generalize (wr.alloc (.cells #[.pointer (some ⟨q', 0, none⟩), .int .i64 (kb0 : Int), .int .i64 (kf : Int), .int .i64 (kl : Int)] 92)) = w6 at *
    have b3 := hKb.cell 3
    simp at b3
    go_upto_block 2 with fail
    clear b3
    go_cut [15] (fun v wc => v = .int .i64 (Tr.nextP T kl : Int) ∧ w6 = wc)
    case first =>
     have t1 := hT3.cell 1
     simp at t1
     obtain ⟨R, HR⟩ : ∃ R, Hid (Tr.nextP T kl = R) := ⟨_, rfl⟩
     go_wp2_with fail
     go_loopg [15] T.length (fun mm v wr => ∃ k : Nat, v = .int .i64 (k : Int) ∧ k ≤ T.length ∧ T.length - k ≤ mm ∧ Hid (Tr.nextP T k = R) ∧ w6 = wr)
     case atStart => exact ⟨kl, rfl, hlT, Nat.sub_le _ _, HR, rfl⟩
     case round =>
      obtain ⟨k, rfl, hk, hmm, Hk, rfl⟩ := hrel
      have i0 : (0 : Int) ≤ (k : Int) := by omega
      by_cases hlt : k < T.length
      ·have i1 : (k : Int) < (T.length : Int) := by omega
       obtain ⟨br, o, rfl, _, _, q0, _, _⟩ := hrt3.tk hlt
       have Hgo : Hid (Tr.blankT T[k] = true → Tr.nextP T (k + 1) = R) := fun h => by rw [← Tr.next_go T k hlt h]; exact Hk.out
       have Hst : Hid (Tr.blankT T[k] = false → R = k) := fun h => by rw [← Hk.out]; exact Tr.next_stop T k hlt h
       have Hbt : Hid (Tr.blankT T[k] = (T[k].1 == 1 || T[k].1 == 2)) := rfl
       have hbw := fun w => blank_walk T[k].1 w
       generalize T[k].1 = kd at *
       cases hb : (kd == 1 || kd == 2) with
       | true =>
        rw [hb] at hbw Hbt
        have Hb := Hgo.out Hbt.out
        clear hb Hbt Hgo Hst
        have Hb := Lib.hid Hb
        go_wp2_with (refine (hbw _).mono ?_; rintro e w' ⟨rfl, rfl⟩)
        go_roundg (T.length - (k + 1))
        case rel => exact ⟨k + 1, by go_num, by omega, Nat.le_refl _, Hb, rfl⟩
        case measure => omega
       | false =>
        rw [hb] at hbw Hbt
        have Hb := Hst.out Hbt.out
        clear hb Hbt Hgo Hst Hk
        have Hb := Lib.hid Hb
        go_wp2_with (refine (hbw _).mono ?_; rintro e w' ⟨rfl, rfl⟩)
        go_meet
        exact ⟨by rw [HR.out, Hb.out], rfl⟩
      ·have i1 : ¬ (k : Int) < (T.length : Int) := by omega
       have Hb : Hid (R = k) := by show _ = _; rw [← Hk.out]; exact Tr.next_end T k (by omega)
       clear Hk hlt
       go_wp2_with fail
       go_meet
       exact ⟨by rw [HR.out, Hb.out], rfl⟩
    case rest =>
    obtain ⟨rfl, rfl⟩ := hcut
    by_cases hxp : x < kp
    ·have hnH := hxk.out hxp
     have n1 : ¬ (Tr.nextP T kl : Int) ≥ (H : Int) := by omega
     have n2 : decide (H ≤ Tr.nextP T kl) = false := by simp; omega
     have n3 : ¬ (H : Int) ≤ (Tr.nextP T kl : Int) := by omega
     have Hxp := Lib.hid hxp
     clear hxk hxn hnH hxp
     generalize Tr.nextP T kl = nx at *
     go_upto_region 13 with fail
     refine wp_region_G 10 (fun w' : World => w'.cell? ⟨g, 2, none⟩ = some (.slice Aw kn.length cw) ∧ w'.cell? ⟨kb, 0, none⟩ = some (.pointer (some ⟨q', 0, none⟩)) ∧ w'.cell? ⟨kb, 1, none⟩ = some (.int .i64 (kb0 : Int)) ∧ w'.cell? ⟨kb, 2, none⟩ = some (.int .i64 (kf : Int)) ∧ w'.cell? ⟨kb, 3, none⟩ = some (.int .i64 (kl : Int))) (by kernel_rfl) ?_
     have hdw : Below w6.heap.size w6 w6.drew := (Below.refl _ _).drew
     have O := O.below hdw
     have S := S.below hIn hdw
     have hKb := hKb.drew
     have hIn := hIn.after hdw.size
     have hPt : PtF w6.drew (fun x' => P x' ∧ some x' ≠ (Value.slice Aw kn.length cw).ownBlock ∧ some x' ≠ (Value.slice none ([] : List Tr.PT).length 0).ownBlock) pt (.iface 90 (.pointer (some ⟨q', 0, none⟩))) :=
      PtF.keep hdw.size (fun y hy hl => ⟨hdw.block y hl, hy, fun e => O.nrk y e.symm ((HK.out y).1 (by have := (HP.out y).2 hy; have := Hg0.out; omega)), by simp [Value.ownBlock]⟩) _ _ hPv
     clear hdw n1 n2 n3 hPv
     generalize w6.drew = w8 at *
     have t2 := O.blk.cell 2
     have b0 := hKb.cell 0
     have b1 := hKb.cell 1
     have b2 := hKb.cell 2
     have b3 := hKb.cell 3
     simp at t2 b0 b1 b2 b3
     have hS0 : (fun w' : World => w'.cell? ⟨g, 2, none⟩ = some (.slice Aw kn.length cw) ∧ w'.cell? ⟨kb, 0, none⟩ = some (.pointer (some ⟨q', 0, none⟩)) ∧ w'.cell? ⟨kb, 1, none⟩ = some (.int .i64 (kb0 : Int)) ∧ w'.cell? ⟨kb, 2, none⟩ = some (.int .i64 (kf : Int)) ∧ w'.cell? ⟨kb, 3, none⟩ = some (.int .i64 (kl : Int))) w8 := ⟨t2, b0, b1, b2, b3⟩
     refine wpAnyG_tk 0 hS0 ?_
     simp only [Act.put, List.setIfInBounds_toArray]
     refine wpAnyG_tk 1 hS0 ?_
     simp only [Act.put]
     refine wpAnyG_tk 2 hS0 ?_
     simp only [Act.put]
     refine wpAnyG_tk 3 hS0 ?_
     simp only [Act.put]
     refine wpAnyG_tk 4 hS0 ?_
     simp only [Act.put]
     refine wpAnyG_tk 5 hS0 ?_
     simp only [Act.put]
     clear hS0
     have hgl := O.blk.lt
     have hbl := hKb.lt
     refine wpAnyG_on 6 fun C hC => ?_
     go_simp
     refine hC.out _ _ (fun _ => ⟨(cell_alloc _ _ _ _ hgl).trans t2, (cell_alloc _ _ _ _ hbl).trans b0, (cell_alloc _ _ _ _ hbl).trans b1, (cell_alloc _ _ _ _ hbl).trans b2, (cell_alloc _ _ _ _ hbl).trans b3⟩) ?_
     clear hC C
     refine wpAnyG_on 7 fun C hC => ?_
     refine step_append_lies _ (by rfl) _ _ _ (by rfl) 0 92 k0 _ 4 32 Tryz.underlying84 ki kz0 kz1 kz2 rfl (by omega) (.slice Aw kn.length cw) kn.length vw (by rfl) (O.ownk.alloc (.cells #[.pointer (some ⟨q', 0, none⟩), .int .i64 (kb0 : Int), .int .i64 (kf : Int), .int .i64 (kl : Int)] 92)) ⟨w8.heap.size, 0, none⟩ 1 1 #[.pointer (some ⟨q', 0, none⟩), .int .i64 (kb0 : Int), .int .i64 (kf : Int), .int .i64 (kl : Int)].toList (by rfl) (by rfl) (World.news_of_block (heap_alloc_new w8 _)) (by simp [Value.oneCell']) (by omega) (by have := Hkl4.out; unfold maxLen; omega) (by have := Hkl4.out; omega) (Nat.zero_le _) (w8.heap.size + 1) (by simp) ?_
     intro gg cap' w7 hown7 hgrow hat hlt7
     have hgK : K g := (HK.out g).1 (Nat.le_refl _)
     have hpu := O.pushK hIn hgK (fun y hy => by have := (HP.out y).2 hy; have := Hg0.out; omega) (k := ⟨pt, kb0, kf, kl⟩) hPt hown7 hgrow hat
     have hg7 := (O.blk.alloc (.cells #[.pointer (some ⟨q', 0, none⟩), .int .i64 (kb0 : Int), .int .i64 (kf : Int), .int .i64 (kl : Int)] 92)).grown hgrow O.kne
     have hk7 := (hKb.alloc (.cells #[.pointer (some ⟨q', 0, none⟩), .int .i64 (kb0 : Int), .int .i64 (kf : Int), .int .i64 (kl : Int)] 92)).grown hgrow (fun e => by have := Hkr.out kb e.symm; have := Hkb.out; omega)
     have u2 := hg7.cell 2
     have uf := hg7.frozen 2
     have y0 := hk7.cell 0
     have y1 := hk7.cell 1
     have y2 := hk7.cell 2
     have y3 := hk7.cell 3
     simp at u2 y0 y1 y2 y3
     refine hC.out _ _ (fun _ => ⟨u2, y0, y1, y2, y3⟩) ?_
     clear hC C
     refine wpAnyG_on 8 fun C hC => ?_
     go_simp
     refine hC.out _ _ (fun _ => ⟨u2, y0, y1, y2, y3⟩) ?_
     clear hC C
     refine wpAnyG_on 9 fun C hC => ?_
     go_simp
     refine hC.out _ _ (fun _ => ⟨u2, y0, y1, y2, y3⟩) ?_
     clear hC C
     refine wpAnyG_on 10 fun C hC => ?_
     go_simp
     refine hC.out _ _ (fun h => absurd rfl h) ?_
     clear hC C
     refine wpAnyG_done (by kernel_rfl) ?_ _
     obtain ⟨O7, hold7, hsz7, hcm7⟩ := hpu
     have hF8 := S.F
     have hs7 : w8.heap.size ≤ (World.setCell w7 ⟨g, 2, none⟩ (.slice (some ⟨gg, 0, none⟩) (kn.length + 1) cap')).heap.size := by simp [World.setCell]; omega
     have hF7 : Aft K g w5 (World.setCell w7 ⟨g, 2, none⟩ (.slice (some ⟨gg, 0, none⟩) (kn.length + 1) cap')) := ⟨by have := hF8.size; omega, fun y hy hne => (hold7 y (hIn y hy) hne (fun e => O.nrk y e.symm hy)).trans (hF8.oth y hy hne), hF8.calm.trans hcm7⟩
     have y3' := (World.cell?_of_block (a := ⟨kb, 3, none⟩) (Below.heap_setCell w7 ⟨g, 2, none⟩ (.slice (some ⟨gg, 0, none⟩) (kn.length + 1) cap') kb Hbg.out.1)).trans y3
     have S7 : RpK K P g go A' T'.length w5 (kn ++ [⟨pt, kb0, kf, kl⟩]) (World.setCell w7 ⟨g, 2, none⟩ (.slice (some ⟨gg, 0, none⟩) (kn.length + 1) cap')) := ⟨hF7, _, _, _, O7⟩
     clear O7 hold7 hsz7 hcm7 hs7 hF7 hF8 uf u2 y0 y1 y2 y3 hg7 hk7 hown7 hgrow hat hlt7 hgl hbl t2 b0 b1 b2 b3 hPt hKb O S hIn
     generalize (World.setCell w7 ⟨g, 2, none⟩ (.slice (some ⟨gg, 0, none⟩) (kn.length + 1) cap')) = w9 at *
     go_wp2_with fail
     go_roundg (ks.length - (x + 1))
     case rel => exact ⟨x + 1, by rw [← Hel.out], by go_num, by have := Hxp.out; omega, Nat.le_refl _, by rw [HTK.out]; exact S7⟩
     case measure => have := Hxl.out; have := Hm.out; omega
    ·have hnH := hxn.out hxp
     have n1 : (Tr.nextP T kl : Int) ≥ (H : Int) := by omega
     have n2 : decide (H ≤ Tr.nextP T kl) = true := by simp; omega
     have n3 : (H : Int) ≤ (Tr.nextP T kl : Int) := by omega
     have e : x = kp := by have := Hx.out; omega
     have He := Lib.hid e
     clear hxk hxn hnH hxp e
     generalize Tr.nextP T kl = nx at *
     go_wp2_with fail
     go_meet
     exact ⟨by rw [He.out], by rw [← He.out, Hkn.out]; exact S⟩
   ·have x1 : ¬ (x : Int) < (ks.length : Int) := by omega
    have x2 : decide (x < ks.length) = false := by simpa using hxl
    have e : x = kp := by have := HA.out.kp_le; omega
    have He := Lib.hid e
    clear e hxl hx hm
    go_wp2_with fail
    go_meet
    exact ⟨by rw [He.out], by rw [← He.out]; exact S⟩
 case rest =>
 obtain ⟨rfl, S1⟩ := hcut
 clear S
 have hkpl := HA.out.kp_le
 have hIn0 : In K wc := fun y hy => by have := (HK.out y).2 hy; have := S1.F.size; omega
 have hB0 : Blk wc gt 87 _ := (S1.F.oth gt ((HK.out gt).1 (by omega)) (by omega)).trans hB5
 have hS := fun m => S1.below hIn0 (below_drewN (Below.refl _ _) m)
 obtain ⟨Aw, cw, vw, O⟩ := S1.O
 have g1 := O.blk.cell 1
 have t1 := hB0.cell 1
 simp at g1 t1
 have c1 : IntKind.i64.wrap ((T'.length : Int) - (T.length : Int)) = (T'.length : Int) - (T.length : Int) := IntWalk.i64_in _ (by omega)
 clear O hB0 S1
 go_wp2_with fail
 go_quiet (fail)
 have S1 := hS nq
 have hIn : In K (wc.drewN nq) := hIn0
 clear hS g1 t1 c1 hIn0
 generalize wc.drewN nq = wq at *
 go_upto_region 18 with fail
 have hF := S1.F
 have hold : ∀ y, y ≤ g → y ≠ g → wq.heap[y]? = w5.heap[y]? := fun y hy hne => hF.oth y ((HK.out y).1 hy) hne
 have hrk : RowF wq (fun x => x < w.heap.size) Av vs := hrk5.keep hF.size fun y hy _ => ⟨hold y (by omega) (by omega), hy⟩
 have hks : KdsF wq (fun x => x < w.heap.size) ks vs := KdsF.keep hF.size (fun y hy _ => ⟨hold y (by omega) (by omega), hy⟩) _ _ hks5
 have hB : Blk wq gt 87 _ := (hold gt (by omega) (by omega)).trans hB5
 have hSp : Blk wq sp 39 _ := (hold sp (by omega) (by omega)).trans hS5
 have hwq : Below w.heap.size w wq := hwd5.trans ⟨hF.calm.os, hF.calm.tape, hF.calm.output, hF.size, fun y hy => hold y (by omega) (by omega)⟩
 have hvl := KdsF.len hks
 have HksD : Hid (KdsF wq (fun x => x < w.heap.size) (ks.drop kp) (vs.drop (kp * 4))) := KdsF.drop kp hks
 go_cut [107, 108, 109] (fun v z y w' => ∃ (A2 : Option Addr) (c2 n2 : Nat), v = .slice A2 (ks.length - kp) c2 ∧ z = .int .i64 ((ks.length - kp : Nat) : Int) ∧ y = .int .i64 0 ∧ wq.drewN n2 = w' ∧ RowF wq (fun x => x < w.heap.size) A2 (vs.drop (kp * 4)))
 case first =>
  obtain ⟨Aw, cw, vw, O⟩ := S1.O
  have g2 := O.blk.cell 2
  have t2 := hB.cell 2
  simp at g2 t2
  rw [Nat.min_eq_left hkpl] at g2
  have i4 : (0 : Int) ≤ (kp : Int) := by omega
  have i5 : (kp : Int) ≤ (ks.length : Int) := by omega
  have i6 : (kp : Int) ≤ (cv : Int) := by omega
  have i7 : (ks.length : Int) ≤ (cv : Int) := by omega
  have Hrk := Lib.hid hrk
  have Hvl := Lib.hid hvl
  have Hkpl := Lib.hid hkpl
  have Hkc := Lib.hid hkc
  clear O S1 hold hF hks hB hSp hwq HksD hrk hvl
  rcases Av with _ | ⟨ab, ao, ak⟩
  ·have hn0 : ¬ 0 < ks.length := fun h => by
    obtain ⟨b, o, e, _⟩ := Hrk.out (by have := Hvl.out; omega)
    cases e
   have hks0 : ks = [] := List.eq_nil_of_length_eq_zero (by omega)
   have hkp0 : kp = 0 := by have := Hkpl.out; omega
   have Hre : Hid (∀ A2, RowF wq (fun x => x < w.heap.size) A2 (vs.drop (kp * 4))) := fun A2 hn => by
    rw [List.length_drop, Hvl.out, hks0] at hn
    simp at hn
   clear hn0 hks0
   subst hkp0
   go_wp2_with fail
   go_quiet (fail)
   go_wp2_with fail
   all_goals go_meet
   exact ⟨_, _, nq, rfl, rfl, rfl, rfl, Hre.out _⟩
  ·have Hrw : Hid (kp < ks.length → RowF wq (fun x => x < w.heap.size) (some ⟨ab, ao + kp * 4, ak⟩) (vs.drop (kp * 4))) := fun hlt hn => by
    obtain ⟨b, o, e, hFb, hl, hcell⟩ := Hrk.out (by have := Hvl.out; omega)
    injection e with e
    injection e with e1 e2 e3
    subst e1 e2 e3
    refine ⟨ab, ao + kp * 4, rfl, hFb, hl, fun j u hu => ?_⟩
    rw [List.getElem?_drop] at hu
    have := hcell _ _ hu
    rw [← Nat.add_assoc] at this
    exact this
   have Hre : Hid (∀ A2, kp = ks.length → RowF wq (fun x => x < w.heap.size) A2 (vs.drop (kp * 4))) := fun A2 he hn => by
    rw [List.length_drop, Hvl.out, he] at hn
    omega
   have Hak : Hid (kp < ks.length → ak = none) := fun hlt => by
    obtain ⟨b, o, e, _⟩ := Hrk.out (by have := Hvl.out; omega)
    injection e with e
    injection e with e1 e2 e3
   by_cases hcv : cv = kp
   ·subst hcv
    go_wp2_with fail
    go_quiet (fail)
    go_wp2_with fail
    go_meet
    have hz0 : ks.length - cv = 0 := by have := Hkpl.out; have := Hkc.out; omega
    exact ⟨_, _, nq, by first | rfl | (rw [hz0]; rfl) | rw [hz0], by first | rfl | (rw [hz0]; rfl) | rw [hz0], rfl, rfl, Hre.out _ (by have := Hkpl.out; have := Hkc.out; omega)⟩
   ·have hcv1 : ¬ cv - kp = 0 := by omega
    have hcv2 : ¬ kp = cv := fun e => hcv e.symm
    go_wp2_with fail
    go_quiet (fail)
    go_wp2_with fail
    go_meet
    by_cases he : kp = ks.length
    ·exact ⟨_, _, nq, rfl, rfl, rfl, rfl, Hre.out _ he⟩
    ·obtain rfl := Hak.out (by have := Hkpl.out; omega)
     have ha : (⟨ab, ao, none⟩ : Addr).add (kp * 4) = ⟨ab, ao + kp * 4, none⟩ := by
      simp only [Addr.add]
      split
      ·rename_i h0
       rw [h0, Nat.add_zero]
      ·rfl
     exact ⟨_, _, nq, rfl, rfl, rfl, rfl, by rw [ha]; exact Hrw.out (by have := Hkpl.out; omega)⟩
 case rest =>
 obtain ⟨A2, c2, n2, rfl, rfl, rfl, rfl, hr2⟩ := hcut
 have S1 : RpK K P g go A' T'.length w5 (ks.take kp) (wq.drewN n2) := S1.below hIn (below_drewN (Below.refl _ _) n2)
 have hwq2 : Below w.heap.size w (wq.drewN n2) := below_drewN hwq _
 have Hr2 : Hid (RowF (wq.drewN n2) (fun x => x < w.heap.size) A2 (vs.drop (kp * 4))) := hr2.keep (Nat.le_refl _) fun x hx _ => ⟨rfl, hx⟩
 have HksD : Hid (KdsF (wq.drewN n2) (fun x => x < w.heap.size) (ks.drop kp) (vs.drop (kp * 4))) := KdsF.keep (w := wq) (w' := wq.drewN n2) (Nat.le_refl _) (fun x hx _ => ⟨rfl, hx⟩) _ _ HksD.out
 have hSp : Blk (wq.drewN n2) sp 39 _ := hSp
 have hIn : In K (wq.drewN n2) := hIn
 have hgs : g < (wq.drewN n2).heap.size := hIn g ((HK.out g).1 (Nat.le_refl _))
 clear hr2 hB hold hF hrk hks hwq
 generalize wq.drewN n2 = wb at *
 go_upto_block 4 with fail
 go_cut [17] (fun v wc => ∃ (Ao : Option Addr) (co : Nat) (ovs : List Value), v = .slice Ao os.length co ∧ wc.ownsRow wb.heap.size 92 4 (.slice Ao os.length co) os.length ovs ∧ KdsF wb P os ovs ∧ Below wb.heap.size wb wc)
 case first =>
  have hmv := HA.out.Tl
  go_wp2_with fail
  go_loopg [17, 109] (ks.length - kp) (fun mm v z wr => ∃ (x : Nat) (Ao : Option Addr) (co : Nat) (ovs : List Value), v = .slice Ao (kp + x - q) co ∧ z = .int .i64 (x : Int) ∧ x ≤ ks.length - kp ∧ ks.length - kp - x ≤ mm ∧ wr.ownsRow wb.heap.size 92 4 (.slice Ao (kp + x - q) co) (kp + x - q) ovs ∧ KdsF wb P (os.take (kp + x - q)) ovs ∧ Below wb.heap.size wb wr)
  case atStart =>
   have e : kp + 0 - q = 0 := by have := HQ.out; omega
   exact ⟨0, none, 0, [], by rw [e], rfl, Nat.zero_le _, Nat.le_refl _, by rw [e]; exact World.ownsRow_nil _ _ _ _, by rw [e]; rfl, Below.refl _ _⟩
  case round =>
   obtain ⟨x, Ao, co, ovs, rfl, rfl, hx, hm, hown, hos, hbw⟩ := hrel
   by_cases hxl : x < ks.length - kp
   ·have x0 : (0 : Int) ≤ (x : Int) := by omega
    have x1 : (x : Int) < ((ks.length - kp : Nat) : Int) := by omega
    have hlen := HA.out.len
    rw [List.length_append, List.length_map] at hlen
    have hxb : x < 8388608 := by omega
    have hwz := hwq2.size
    have hrk := Hr2.out.keep (F' := fun y => y < w.heap.size) hbw.size fun y hy _ => ⟨hbw.block y (by omega), hy⟩
    obtain ⟨bb, bo, q', rfl, hFb, q0, q1, q2, q3, hpv⟩ := kd_row hrk HksD.out (x := x) (by rw [List.length_drop]; exact hxl)
    have hge : (ks.drop kp)[x]'(by rw [List.length_drop]; exact hxl) = ks[kp + x]'(by omega) := List.getElem_drop ..
    rw [hge] at q1 q2 q3 hpv
    have hlT : ks[kp + x].last ≤ T.length ∧ ks[kp + x].first < ks[kp + x].last := by
     have h1 := HA.out.lv (kp + x) (by omega)
     have h2 := HA.out.last (kp + x) (by omega)
     have h3 := HA.out.first (kp + x) (by omega)
     have h4 := HA.out.up (kp + x) (by omega)
     omega
    have Hlo : Hid (kp + x < q → ks[kp + x].first < Bh) := fun h => Hq1.out (kp + x) (by omega) h
    have Hhi : Hid (q ≤ kp + x → Bh ≤ ks[kp + x].first ∧ ∃ h' : kp + x - q < os.length, os[kp + x - q].part = ks[kp + x].part ∧ os[kp + x - q].base = ks[kp + x].base ∧ (os[kp + x - q].first : Int) = (ks[kp + x].first : Int) + ((T'.length : Int) - (T.length : Int)) ∧ (os[kp + x - q].last : Int) = (ks[kp + x].last : Int) + ((T'.length : Int) - (T.length : Int))) := fun h => ⟨Hq2.out (kp + x) (by omega) h, Hos.out (kp + x) (by omega) h⟩
    have Hpv : Hid (PtF wb P ks[kp + x].part (.iface 90 (.pointer (some ⟨q', 0, none⟩)))) := by
     exact PtF.keep (Nat.le_refl _) (fun y hy _ => ⟨rfl, (HP.out y).1 hy⟩) _ _ hpv
    have Hx := Lib.hid hx
    have Hm := Lib.hid hm
    have Hxl := Lib.hid hxl
    clear hge hpv hrk hFb
    generalize ks[kp + x].part = pt at *
    generalize ks[kp + x].base = kb0 at *
    generalize ks[kp + x].first = kf at *
    generalize ks[kp + x].last = kl at *
    have hd : Below wr.heap.size wr (wr.alloc (.cells #[.pointer (some ⟨q', 0, none⟩), .int .i64 (kb0 : Int), .int .i64 (kf : Int), .int .i64 (kl : Int)] 92)) := (Below.refl _ _).alloc (Nat.le_refl _) _
    have hKb : Blk (wr.alloc (.cells #[.pointer (some ⟨q', 0, none⟩), .int .i64 (kb0 : Int), .int .i64 (kf : Int), .int .i64 (kl : Int)] 92)) wr.heap.size 92 #[.pointer (some ⟨q', 0, none⟩), .int .i64 (kb0 : Int), .int .i64 (kf : Int), .int .i64 (kl : Int)] := Blk.new _ _ _
    have hown2 := hown.alloc (.cells #[.pointer (some ⟨q', 0, none⟩), .int .i64 (kb0 : Int), .int .i64 (kf : Int), .int .i64 (kl : Int)] 92)
    have Hkr : Hid (∀ y, (Value.slice Ao (kp + x - q) co).ownBlock = some y → y < wr.heap.size) := fun y hy => (hown.lt y hy).2
    have hbz := hbw.size
    have hbw2 := hbw.trans (hd.mono hbz)
    obtain ⟨kb, hkb⟩ : ∃ kb, kb = wr.heap.size := ⟨_, rfl⟩
    have Hkb := Lib.hid hkb
    have Hbg : Hid (wb.heap.size ≤ kb) := by show _ ≤ _; omega
    rw [← hkb] at hKb
    clear hm hx hbw hown hd hbz
    go_upto_region 21 with fail
    rw [← hkb]
    clear hkb q0 q1 q2 q3
    generalize (wr.alloc (.cells #[.pointer (some ⟨q', 0, none⟩), .int .i64 (kb0 : Int), .int .i64 (kf : Int), .int .i64 (kl : Int)] 92)) = w6 at *
    have b2 := hKb.cell 2
    have b3 := hKb.cell 3
    simp at b2 b3
    by_cases hxq : kp + x < q
    ·have hlo := Hlo.out hxq
     have n1 : ¬ (kf : Int) ≥ (Bh : Int) := by omega
     have n2 : decide (Bh ≤ kf) = false := by simp; omega
     have n3 : ¬ (Bh : Int) ≤ (kf : Int) := by omega
     have e : kp + x - q = kp + (x + 1) - q := by omega
     have He := Lib.hid e
     clear Hlo Hhi hlo hxq e
     go_wp2_with fail
     go_roundg (ks.length - kp - (x + 1))
     case rel => exact ⟨x + 1, Ao, co, ovs, by rw [He.out], by go_num, by have := Hxl.out; omega, Nat.le_refl _, by rw [← He.out]; exact hown2, by rw [← He.out]; exact hos, hbw2⟩
     case measure => have := Hxl.out; have := Hm.out; omega
    ·obtain ⟨hb0, hj, ep, eb, ef, el⟩ := Hhi.out (by omega)
     have n1 : (kf : Int) ≥ (Bh : Int) := by omega
     have n2 : decide (Bh ≤ kf) = true := by simp; omega
     have n3 : (Bh : Int) ≤ (kf : Int) := by omega
     have HTK : Hid (os.take (kp + (x + 1) - q) = os.take (kp + x - q) ++ [⟨os[kp + x - q].part, os[kp + x - q].base, os[kp + x - q].first, os[kp + x - q].last⟩]) := by
      show _ = _
      rw [show kp + (x + 1) - q = kp + x - q + 1 by omega]
      exact List.take_succ_eq_append_getElem hj
     have hlk : Hid ((os.take (kp + x - q)).length = kp + x - q) := by show _ = _; rw [List.length_take]; omega
     have hne : kp + (x + 1) - q = kp + x - q + 1 := by omega
     have Hne := Lib.hid hne
     have hzb : kp + x - q ≤ 8388608 := by omega
     have Hzb := Lib.hid hzb
     rw [ep, eb] at HTK
     generalize os[kp + x - q].first = nf at *
     generalize os[kp + x - q].last = nl at *
     have c2 : IntKind.i64.wrap ((kf : Int) + ((T'.length : Int) - (T.length : Int))) = (nf : Int) := by rw [← ef]; exact IntWalk.i64_in _ (by omega)
     have c3 : IntKind.i64.wrap ((kl : Int) + ((T'.length : Int) - (T.length : Int))) = (nl : Int) := by rw [← el]; exact IntWalk.i64_in _ (by omega)
     clear Hlo Hhi ep eb ef el hj hb0 hxq hne hzb
     generalize os.take (kp + x - q) = ol at *
     generalize kp + x - q = on at *
     have f2 := hKb.frozen 2
     have hKb7 := hKb.set_ 2 (.int .i64 (nf : Int))
     simp at hKb7
     go_upto_region 23 with fail
     have hown7 : (w6.setCell ⟨kb, 2, none⟩ (.int .i64 (nf : Int))).ownsRow wb.heap.size 92 4 (.slice Ao on co) on ovs := own_of_block hown2 fun y hy => Below.heap_setCell w6 ⟨kb, 2, none⟩ _ y (by have := Hkr.out y hy; have := Hkb.out; show y ≠ kb; omega)
     have hbw7 := hbw2.setCell (p := ⟨kb, 2, none⟩) Hbg.out (.int .i64 (nf : Int))
     clear hKb hown2 hbw2 b2 b3 f2 c2 n1 n2 n3
     generalize w6.setCell ⟨kb, 2, none⟩ (.int .i64 (nf : Int)) = w7 at *
     have b3 := hKb7.cell 3
     have f3 := hKb7.frozen 3
     simp at b3
     have hKb8 := hKb7.set_ 3 (.int .i64 (nl : Int))
     simp at hKb8
     go_upto_region 24 with fail
     have hown8 : (w7.setCell ⟨kb, 3, none⟩ (.int .i64 (nl : Int))).ownsRow wb.heap.size 92 4 (.slice Ao on co) on ovs := own_of_block hown7 fun y hy => Below.heap_setCell w7 ⟨kb, 3, none⟩ _ y (by have := Hkr.out y hy; have := Hkb.out; show y ≠ kb; omega)
     have hbw8 := hbw7.setCell (p := ⟨kb, 3, none⟩) Hbg.out (.int .i64 (nl : Int))
     clear hKb7 hown7 hbw7 b3 f3 c3
     generalize w7.setCell ⟨kb, 3, none⟩ (.int .i64 (nl : Int)) = w8 at *
     have b0 := hKb8.cell 0
     have b1 := hKb8.cell 1
     have b2 := hKb8.cell 2
     have b3 := hKb8.cell 3
     simp at b0 b1 b2 b3
     go_wp2_with (at_builtin; refine wpList_append_own _ rfl _ _ 84 rfl wb.heap.size 92 k0 _ 4 32 Tryz.underlying84 ki kz0 kz1 kz2 rfl (by omega) _ on ovs rfl (hown8.alloc (.cells #[.pointer (some ⟨q', 0, none⟩), .int .i64 (kb0 : Int), .int .i64 (nf : Int), .int .i64 (nl : Int)] 92)) ⟨w8.heap.size, 0, none⟩ 1 1 [.pointer (some ⟨q', 0, none⟩), .int .i64 (kb0 : Int), .int .i64 (nf : Int), .int .i64 (nl : Int)] rfl rfl (World.news_of_block (cs := #[.pointer (some ⟨q', 0, none⟩), .int .i64 (kb0 : Int), .int .i64 (nf : Int), .int .i64 (nl : Int)]) (t := 92) (fr := (0, 0)) (heap_alloc_new w8 _)) (by simp [Value.oneCell']) (by have := Hzb.out; unfold maxLen; omega) (by have := Hzb.out; omega) (by have := hbw8.size; simp; omega) ?_; intro v' w10 hown10 hgrow _)
     obtain ⟨A5, c5, rfl⟩ := own_form hown10
     have hbw10 : Below wb.heap.size wb w10 := (hbw8.alloc hbw8.size (.cells #[.pointer (some ⟨q', 0, none⟩), .int .i64 (kb0 : Int), .int .i64 (nf : Int), .int .i64 (nl : Int)] 92)).grown hgrow (by have := hbw8.size; simp; omega) (fun y hy => (hown8.lt y hy).1)
     have hos10 : KdsF wb P (ol ++ [⟨pt, kb0, nf, nl⟩]) (ovs ++ [.pointer (some ⟨q', 0, none⟩), .int .i64 (kb0 : Int), .int .i64 (nf : Int), .int .i64 (nl : Int)]) := KdsF.snoc hos Hpv.out
     clear hgrow b0 b1 b2 b3 hKb8 hown8 hbw8 hos
     go_roundg (ks.length - kp - (x + 1))
     case rel => exact ⟨x + 1, _, _, _, by rw [Hne.out], by go_num, by have := Hxl.out; omega, Nat.le_refl _, by rw [Hne.out]; exact hown10, by rw [HTK.out]; exact hos10, hbw10⟩
     case measure => have := Hxl.out; have := Hm.out; omega
   ·have x1 : ¬ (x : Int) < ((ks.length - kp : Nat) : Int) := by omega
    have x2 : decide (x < ks.length - kp) = false := by simpa using hxl
    have e : kp + x - q = os.length := by have := Hol.out; omega
    rw [e, List.take_length] at hos
    rw [e] at hown
    have He := Lib.hid e
    clear e hxl hx hm
    go_wp2_with fail
    go_meet
    exact ⟨Ao, co, ovs, by rw [He.out], hown, hos, hbw⟩
 case rest =>
 obtain ⟨Ao, co, ovs, rfl, hown, hos, hbo⟩ := hcut
 have hIc := hIn.after hbo.size
 have hwz := hwq2.size
 obtain ⟨Aw, cw, vw, O0⟩ := S1.O
 have hkr : ∀ y, (Value.slice Aw (ks.take kp).length cw).ownBlock = some y → y < wb.heap.size := fun y hy => (O0.ownk.lt y hy).2
 have O := O0.below hbo
 have F := S1.F.trans (Aft.below hbo hIn)
 have hnr := O.nrk
 obtain ⟨Ad, cd, hDb, -⟩ := hD5
 have hDc := (F.oth go ((HK.out go).1 (by omega)) (by omega)).trans hDb
 have hSc := hSp.below hbo hSp.lt
 have hkg : ∀ x, K x → some x ≠ (Value.slice Aw (ks.take kp).length cw).ownBlock := fun x hx e => hnr x e.symm hx
 have hks' : KdsF wc (fun x => x ≠ g ∧ some x ≠ (Value.slice Aw (ks.take kp).length cw).ownBlock) (ks.take kp) vw := KdsF.keep (Nat.le_refl _) (fun x hx _ => ⟨rfl, by have := (HP.out x).2 hx.1; omega, hx.2.1⟩) _ _ O.kids
 have hrow' : RowF wc (fun x => x ≠ g ∧ some x ≠ (Value.slice Aw (ks.take kp).length cw).ownBlock) A' (tksC T') := hrow5.keep F.size fun x hx hl => by
  have hxk := (HK.out x).1 (by omega)
  exact ⟨F.oth x hxk hx.2, hx.2, hkg x hxk⟩
 obtain ⟨hco, hro⟩ := own_row (F := fun x => x ≠ g ∧ some x ≠ (Value.slice Aw (ks.take kp).length cw).ownBlock) hown fun y hy => by
  have h1 := (hown.lt y hy).1
  exact ⟨by omega, fun e => by have := hkr y e.symm; omega⟩
 have hos' : KdsF wc (fun x => x ≠ g ∧ some x ≠ (Value.slice Aw (ks.take kp).length cw).ownBlock) os ovs := KdsF.keep hbo.size (fun x hx hl => ⟨hbo.block x hl, by have := (HP.out x).2 hx; omega, hkg x ((HK.out x).1 (by have := (HP.out x).2 hx; omega))⟩) _ _ hos
 have hlen := HA.out.len
 rw [List.length_append, List.length_map] at hlen
 have hrd := read_any HX.out HO.out O.blk O.ownk hks' hDc hrow' (Nat.le_refl _) hro hos' hco (by have := Hol.out; omega) HA.out.from_le (by rw [List.length_take]; have := Hup.out kp HA.out.kp_le; omega) hK0.out Hal.out HA.out.N
 have p0 := hSc.cell 0
 have p1 := hSc.cell 1
 have p2 := hSc.cell 2
 simp at p0 p1 p2
 have c1 : IntKind.i64.wrap ((til : Int) - (frm : Int)) = (til : Int) - (frm : Int) := IntWalk.i64_in _ (by omega)
 have c2 : IntKind.i64.wrap ((ins.length : Int) - ((til : Int) - (frm : Int))) = (ins.length : Int) - ((til : Int) - (frm : Int)) := IntWalk.i64_in _ (by omega)
 go_wp2_with fail
 refine hrd.mono ?_
 clear hrd
 rintro e w' ⟨rfl, hA, hTn⟩
 go_wp2_with fail
 go_ret3
 have hTt : TreeOf w' (fun _ => True) g now T' (Tr.ksP now T') (Tr.tailP now T' (Tr.kidsP now T' (T'.length + 1) 0).2) := by
  have hKw : ∀ x, K x → Kw wc (Value.slice Aw (ks.take kp).length cw).ownBlock x := fun x hx => ⟨hIc x hx, hkg x hx⟩
  have hD3 : Below w3.heap.size w3 w' := by
   have hz := F.size
   have hz1 := hA.size
   refine hw35.trans ⟨hA.calm.os.trans F.calm.os, hA.calm.tape.trans F.calm.tape, hA.calm.output.trans F.calm.output, by omega, fun x hx => ?_⟩
   have hxk := (HK.out x).1 (by omega)
   exact (hA.oth x (hKw x hxk) (by omega)).trans (F.oth x hxk (by omega))
  refine ⟨⟨go, A', T'.length, hTn, hD2.below hD3, trivial, ?_, Nat.le_refl _, by omega⟩, trivial⟩
  exact hrow5.keep (Nat.le_trans F.size hA.size) fun x hx hl => by
   have hxk := (HK.out x).1 (by omega)
   exact ⟨(hA.oth x (hKw x hxk) hx.2).trans (F.oth x hxk hx.2), trivial⟩
 have hBw : Below w.heap.size w w' := by
  have hz := F.size
  have hz1 := hA.size
  have hKw : ∀ x, K x → Kw wc (Value.slice Aw (ks.take kp).length cw).ownBlock x := fun x hx => ⟨hIc x hx, hkg x hx⟩
  refine hwd5.trans ⟨hA.calm.os.trans F.calm.os, hA.calm.tape.trans F.calm.tape, hA.calm.output.trans F.calm.output, by omega, fun x hx => ?_⟩
  have hxk := (HK.out x).1 (by omega)
  exact (hA.oth x (hKw x hxk) (by omega)).trans (F.oth x hxk (by omega))
 exact ⟨g, rfl, hTt, hBw⟩
set_option maxHeartbeats 16000000 in
set_option maxRecDepth 100000 in
theorem treplace_bad {F : Nat → Prop} {s : Bs} {f e2 : Int} {ins : Bs} {w : World} {gt : Nat} {T : List Tk} {ks : List Tr.Kd} {ts : List Tr.PT} (h : TreeOf w F gt s T ks ts) (hb : ¬ (0 ≤ f ∧ f ≤ e2 ∧ e2 ≤ s.length)) :
  Calls Tryz.prog 19 #[.pointer (some ⟨gt, 0, none⟩), .agg #[.int .i64 f, .int .i64 e2, .string ⟨ins.toArray⟩]] w fun e w' => e = .returned (.tuple #[.pointer none, .int .i64 0, .iface 48 (.int .i64 1)]) ∧ Below w.heap.size w w' := by
 obtain ⟨d, A, c, hTr, hD, hFd, hrow, hTc, hdg⟩ := h.ex
 obtain ⟨Av, cv, At, ct, vs, us, hB, hkc, -, hrk, hks, -, -⟩ := hTr.ex
 have hwd : Below w.heap.size w (w.alloc (.cells #[.int .i64 f, .int .i64 e2, .string ⟨ins.toArray⟩] 39)) := (Below.refl _ _).alloc (Nat.le_refl _) _
 have hSp : Blk (w.alloc (.cells #[.int .i64 f, .int .i64 e2, .string ⟨ins.toArray⟩] 39)) w.heap.size 39 #[.int .i64 f, .int .i64 e2, .string ⟨ins.toArray⟩] := Blk.new _ _ _
 have hD1 := hD.below hwd
 have hB1 := hB.below hwd hB.lt
 obtain ⟨sp, hsp⟩ : ∃ sp, sp = w.heap.size := ⟨_, rfl⟩
 rw [← hsp] at hSp
 go_enter Tryz.func19, Tryz.ntmps19
 go_upto_region 1 with fail
 rw [← hsp]
 clear hsp
 generalize w.alloc (.cells #[.int .i64 f, .int .i64 e2, .string ⟨ins.toArray⟩] 39) = w1 at *
 have hkept := kept_bad d f e2 s ins T w1.drew (hD1.below (Below.refl _ _).drew) hb
 refine wp_region_G 14 (fun w' : World => w'.cell? ⟨gt, 0, none⟩ = some (.pointer (some ⟨d, 0, none⟩)) ∧ w'.cell? ⟨sp, 0, none⟩ = some (.int .i64 f) ∧ w'.cell? ⟨sp, 1, none⟩ = some (.int .i64 e2) ∧ w'.cell? ⟨sp, 2, none⟩ = some (.string ⟨ins.toArray⟩)) (by kernel_rfl) ?_
 have hwd := hwd.trans ((Below.refl w1.heap.size w1).drew.mono hwd.size)
 have hSp := hSp.drew
 have hB1 := hB1.drew
 generalize w1.drew = w2 at *
 clear hD1
 have p0 := hSp.cell 0
 have p1 := hSp.cell 1
 have p2 := hSp.cell 2
 have t0 := hB1.cell 0
 simp at p0 p1 p2 t0
 have hS0 : (fun w' : World => w'.cell? ⟨gt, 0, none⟩ = some (.pointer (some ⟨d, 0, none⟩)) ∧ w'.cell? ⟨sp, 0, none⟩ = some (.int .i64 f) ∧ w'.cell? ⟨sp, 1, none⟩ = some (.int .i64 e2) ∧ w'.cell? ⟨sp, 2, none⟩ = some (.string ⟨ins.toArray⟩)) w2 := ⟨t0, p0, p1, p2⟩
 refine wpAnyG_tk 0 hS0 ?_
 simp only [Act.put, List.setIfInBounds_toArray]
 refine wpAnyG_tk 1 hS0 ?_
 simp only [Act.put]
 refine wpAnyG_tk 2 hS0 ?_
 simp only [Act.put]
 refine wpAnyG_tk 3 hS0 ?_
 simp only [Act.put]
 refine wpAnyG_tk 4 hS0 ?_
 simp only [Act.put]
 clear hS0
 refine wpAnyG_on 5 fun C hC => ?_
 go_simp
 ((with_reducible refine hkept.mono ?_))
 clear hkept
 rintro e w3 ⟨rfl, hd3⟩
 have hB3 := hB1.below hd3 hB1.lt
 have hSp3 := hSp.below hd3 hSp.lt
 have p0 := hSp3.cell 0
 have p1 := hSp3.cell 1
 have p2 := hSp3.cell 2
 have t0 := hB3.cell 0
 simp at p0 p1 p2 t0
 refine hC.out _ _ (fun _ => ⟨t0, p0, p1, p2⟩) ?_
 clear hC C
 refine wpAnyG_on 6 fun C hC => ?_
 go_simp
 refine hC.out _ _ (fun _ => ⟨t0, p0, p1, p2⟩) ?_
 clear hC C
 have hS0 : (fun w' : World => w'.cell? ⟨gt, 0, none⟩ = some (.pointer (some ⟨d, 0, none⟩)) ∧ w'.cell? ⟨sp, 0, none⟩ = some (.int .i64 f) ∧ w'.cell? ⟨sp, 1, none⟩ = some (.int .i64 e2) ∧ w'.cell? ⟨sp, 2, none⟩ = some (.string ⟨ins.toArray⟩)) w3 := ⟨t0, p0, p1, p2⟩
 refine wpAnyG_tk 7 hS0 ?_
 simp only [Act.put]
 refine wpAnyG_tk 8 hS0 ?_
 simp only [Act.put]
 refine wpAnyG_tk 9 hS0 ?_
 simp only [Act.put]
 refine wpAnyG_tk 10 hS0 ?_
 simp only [Act.put]
 clear hS0
 refine wpAnyG_on 11 fun C hC => ?_
 go_simp
 refine hC.out _ _ (fun _ => ⟨t0, p0, p1, p2⟩) ?_
 clear hC C
 refine wpAnyG_on 12 fun C hC => ?_
 go_simp
 refine hC.out _ _ (fun _ => ⟨t0, p0, p1, p2⟩) ?_
 clear hC C
 refine wpAnyG_on 13 fun C hC => ?_
 go_simp
 refine hC.out _ _ (fun _ => ⟨t0, p0, p1, p2⟩) ?_
 clear hC C
 refine wpAnyG_on 14 fun C hC => ?_
 go_simp
 refine hC.out _ _ (fun h => absurd rfl h) ?_
 clear hC C
 refine wpAnyG_done (by kernel_rfl) ?_ _
 have hwz := hwd.size
 have hwd := hwd.trans (hd3.mono hwz)
 clear hB1 hSp t0 p0 p1 p2 hd3 hwz
 go_wp2_with fail
 go_ret3
 exact ⟨rfl, hwd⟩
mutual
def Tr.deepB : Tr.PT → Bool
 | .leaf _ _ _ => false
 | .gap _ _ d => d
 | .branch _ _ l => Tr.deepsB l
def Tr.deepsB : List Tr.PT → Bool
 | [] => false
 | p :: l => Tr.deepB p || Tr.deepsB l
end
theorem Tr.deeps_app (l m : List Tr.PT) : Tr.deepsB (l ++ m) = (Tr.deepsB l || Tr.deepsB m) := by
 induction l with
 | nil => simp [Tr.deepsB]
 | cons p l ih => simp only [List.cons_append, Tr.deepsB, ih, Bool.or_assoc]
def nodeC (k tok : Nat) (t : Bs) (v : Value) : Array Value := #[.int .i64 (k : Int), .int .i64 (tok : Int), .string ⟨t.toArray⟩, v, .int .i64 0, .int .i64 0, .int .i64 0, .int .i64 0, .bool false]
mutual
def RnF (w : World) (F : Nat → Prop) : Tr.PT → List Nat → Value → Prop
 | .leaf k t _, fp, v => ∃ g, v = .pointer (some ⟨g, 0, none⟩) ∧ fp = [g] ∧ F g ∧ Blk w g 121 (nodeC 0 k t (.slice none 0 0))
 | .gap t _ _, fp, v => ∃ g, v = .pointer (some ⟨g, 0, none⟩) ∧ fp = [g] ∧ F g ∧ Blk w g 121 (nodeC 1 0 t (.slice none 0 0))
 | .branch k _ l, fp, v => ∃ g fps, v = .pointer (some ⟨g, 0, none⟩) ∧ fp = g :: fps ∧ F g ∧ ∃ A c vs, Blk w g 121 (nodeC k 0 [] (.slice A l.length c)) ∧ l.length ≤ c ∧ RowF w F A vs ∧ RnsF w F l fps vs
def RnsF (w : World) (F : Nat → Prop) : List Tr.PT → List Nat → List Value → Prop
 | [], fps, vs => fps = [] ∧ vs = []
 | p :: l, fps, vs => ∃ fp fps' v vs', fps = fp ++ fps' ∧ vs = v :: vs' ∧ RnF w F p fp v ∧ RnsF w F l fps' vs'
end
section
variable {w w' : World} {F F' : Nat → Prop}
mutual
theorem RnF.keep (hs : w.heap.size ≤ w'.heap.size) (hk : ∀ b, F b → b < w.heap.size → w'.heap[b]? = w.heap[b]? ∧ F' b) : ∀ (p : Tr.PT) (fp : List Nat) (v : Value), RnF w F p fp v → RnF w' F' p fp v
 | .leaf k t a, fp, v, h => by
  obtain ⟨g, e, ef, hF, hB⟩ := h
  have := hk g hF hB.lt
  exact ⟨g, e, ef, this.2, this.1.trans hB⟩
 | .gap t a d, fp, v, h => by
  obtain ⟨g, e, ef, hF, hB⟩ := h
  have := hk g hF hB.lt
  exact ⟨g, e, ef, this.2, this.1.trans hB⟩
 | .branch k a l, fp, v, h => by
  obtain ⟨g, fps, e, ef, hF, A, c, vs, hB, hc, hr, hp⟩ := h
  have := hk g hF hB.lt
  exact ⟨g, fps, e, ef, this.2, A, c, vs, this.1.trans hB, hc, hr.keep hs hk, RnsF.keep hs hk l fps vs hp⟩
theorem RnsF.keep (hs : w.heap.size ≤ w'.heap.size) (hk : ∀ b, F b → b < w.heap.size → w'.heap[b]? = w.heap[b]? ∧ F' b) : ∀ (l : List Tr.PT) (fps : List Nat) (vs : List Value), RnsF w F l fps vs → RnsF w' F' l fps vs
 | [], fps, vs, h => h
 | p :: l, fps, vs, h => by
  obtain ⟨fp, fps', v, vs', ef, e, hp, hl⟩ := h
  exact ⟨fp, fps', v, vs', ef, e, RnF.keep hs hk p fp v hp, RnsF.keep hs hk l fps' vs' hl⟩
end
mutual
theorem RnF.fp : ∀ (p : Tr.PT) (fp : List Nat) (v : Value), RnF w F p fp v → ∀ x ∈ fp, F x ∧ x < w.heap.size
 | .leaf k t a, fp, v, h => by
  obtain ⟨g, e, rfl, hF, hB⟩ := h
  intro x hx
  simp only [List.mem_singleton] at hx
  subst hx; exact ⟨hF, hB.lt⟩
 | .gap t a d, fp, v, h => by
  obtain ⟨g, e, rfl, hF, hB⟩ := h
  intro x hx
  simp only [List.mem_singleton] at hx
  subst hx; exact ⟨hF, hB.lt⟩
 | .branch k a l, fp, v, h => by
  obtain ⟨g, fps, e, rfl, hF, A, c, vs, hB, hc, hr, hp⟩ := h
  intro x hx
  rcases List.mem_cons.1 hx with rfl | hx
  ·exact ⟨hF, hB.lt⟩
  ·exact RnsF.fp l fps vs hp x hx
theorem RnsF.fp : ∀ (l : List Tr.PT) (fps : List Nat) (vs : List Value), RnsF w F l fps vs → ∀ x ∈ fps, F x ∧ x < w.heap.size
 | [], fps, vs, h => by
  obtain ⟨rfl, _⟩ := h
  intro x hx; simp at hx
 | p :: l, fps, vs, h => by
  obtain ⟨fp, fps', v, vs', rfl, e, hp, hl⟩ := h
  intro x hx
  rcases List.mem_append.1 hx with hx | hx
  ·exact RnF.fp p fp v hp x hx
  ·exact RnsF.fp l fps' vs' hl x hx
end
theorem RnF.form : ∀ {p : Tr.PT} {fp : List Nat} {v : Value}, RnF w F p fp v → ∃ q, v = .pointer (some ⟨q, 0, none⟩)
 | .leaf _ _ _, _, _, h => by obtain ⟨g, e, _⟩ := h; exact ⟨g, e⟩
 | .gap _ _ _, _, _, h => by obtain ⟨g, e, _⟩ := h; exact ⟨g, e⟩
 | .branch _ _ _, _, _, h => by obtain ⟨g, _, e, _⟩ := h; exact ⟨g, e⟩
theorem RnsF.len : ∀ {l : List Tr.PT} {fps : List Nat} {vs : List Value}, RnsF w F l fps vs → vs.length = l.length
 | [], fps, vs, h => by obtain ⟨_, rfl⟩ := h; rfl
 | p :: l, fps, vs, h => by
  obtain ⟨fp, fps', v, vs', _, rfl, hp, hl⟩ := h
  rw [List.length_cons, List.length_cons, RnsF.len hl]
theorem RnsF.app : ∀ {l m : List Tr.PT} {fps fqs : List Nat} {vs us : List Value}, RnsF w F l fps vs → RnsF w F m fqs us → RnsF w F (l ++ m) (fps ++ fqs) (vs ++ us)
 | [], m, fps, fqs, vs, us, h, hm => by obtain ⟨rfl, rfl⟩ := h; exact hm
 | p :: l, m, fps, fqs, vs, us, h, hm => by
  obtain ⟨fp, fps', v, vs', rfl, rfl, hp, hl⟩ := h
  exact ⟨fp, fps' ++ fqs, v, vs' ++ us, by rw [List.append_assoc], rfl, hp, RnsF.app hl hm⟩
theorem RnsF.one {p : Tr.PT} {fp : List Nat} {v : Value} (h : RnF w F p fp v) : RnsF w F [p] fp [v] := ⟨fp, [], v, [], by simp, rfl, h, rfl, rfl⟩
end
structure OBn (w : World) (K : Nat → Prop) (h kind : Nat) (pts : List Tr.PT) (fps : List Nat) (A : Option Addr) (c : Nat) (vs : List Value) : Prop where
 nk : ¬ K h
 blk : Blk w h 121 (nodeC kind 0 [] (.slice A pts.length c))
 own : w.ownsRow 0 33 1 (.slice A pts.length c) pts.length vs
 nr : ∀ q, (Value.slice A pts.length c).ownBlock = some q → ¬ K q
 parts : RnsF w (fun x => ¬ K x ∧ x ≠ h ∧ some x ≠ (Value.slice A pts.length c).ownBlock) pts fps vs
 nd : fps.Nodup
def Bn (w : World) (K : Nat → Prop) (h kind : Nat) (pts : List Tr.PT) : Prop := ∃ fps A c vs, OBn w K h kind pts fps A c vs
def Rn (w : World) (F : Nat → Prop) (p : Tr.PT) (v : Value) : Prop := ∃ fp, RnF w F p fp v ∧ fp.Nodup
theorem Rn.keep {w w' : World} {F F' : Nat → Prop} {p : Tr.PT} {v : Value} (h : Rn w F p v) (hs : w.heap.size ≤ w'.heap.size) (hk : ∀ b, F b → b < w.heap.size → w'.heap[b]? = w.heap[b]? ∧ F' b) : Rn w' F' p v := by
 obtain ⟨fp, h, hn⟩ := h
 exact ⟨fp, RnF.keep hs hk _ _ _ h, hn⟩
theorem Rn.form {w : World} {F : Nat → Prop} {p : Tr.PT} {v : Value} (h : Rn w F p v) : ∃ q, v = .pointer (some ⟨q, 0, none⟩) := by
 obtain ⟨fp, h, _⟩ := h
 exact h.form
section
variable {w w' : World} {K K' : Nat → Prop} {g h kind : Nat} {pts : List Tr.PT} {fps : List Nat} {A : Option Addr} {c : Nat} {vs : List Value}
theorem OBn.row_lt (hb : OBn w K h kind pts fps A c vs) : ∀ q, (Value.slice A pts.length c).ownBlock = some q → q < w.heap.size := fun q hq => (hb.own.lt q hq).2
theorem OBn.row_ne (hb : OBn w K h kind pts fps A c vs) : some h ≠ (Value.slice A pts.length c).ownBlock := own_ne hb.own hb.blk (by decide)
theorem OBn.aft (hb : OBn w K h kind pts fps A c vs) (ha : Aft K' g w w') (hg : K g) (hK : ∀ x, x < w.heap.size → K' x) : OBn w' K h kind pts fps A c vs := by
 have hne : ∀ x, ¬ K x → x ≠ g := fun x hx e => hx (e ▸ hg)
 exact ⟨hb.nk, hb.blk.aft ha (hK _ hb.blk.lt) (hne _ hb.nk), own_of_block hb.own fun q hq => ha.oth q (hK _ (hb.row_lt q hq)) (hne _ (hb.nr q hq)), hb.nr,
  RnsF.keep ha.size (fun b hF hl => ⟨ha.oth b (hK b hl) (hne _ hF.1), hF⟩) _ _ _ hb.parts, hb.nd⟩
theorem Bn.aft (hb : Bn w K h kind pts) (ha : Aft (Old w) g w w') (hg : K g) : Bn w' K h kind pts := by
 obtain ⟨fps, A, c, vs, hb⟩ := hb
 exact ⟨fps, A, c, vs, hb.aft ha hg fun x hx => hx⟩
theorem OBn.below (hb : OBn w K h kind pts fps A c vs) (hbl : Below w.heap.size w w') : OBn w' K h kind pts fps A c vs :=
 ⟨hb.nk, hb.blk.below hbl hb.blk.lt, own_of_block hb.own fun q hq => hbl.block q (hb.row_lt q hq), hb.nr, RnsF.keep hbl.size (fun b hF hl => ⟨hbl.block b hl, hF⟩) _ _ _ hb.parts, hb.nd⟩
theorem Bn.below (hb : Bn w K h kind pts) (hbl : Below w.heap.size w w') : Bn w' K h kind pts := by
 obtain ⟨fps, A, c, vs, hb⟩ := hb
 exact ⟨fps, A, c, vs, hb.below hbl⟩
theorem Bn.lt (hb : Bn w K h kind pts) : h < w.heap.size := by
 obtain ⟨fps, A, c, vs, hb⟩ := hb
 exact hb.blk.lt
theorem Bn.nk (hb : Bn w K h kind pts) : ¬ K h := by
 obtain ⟨fps, A, c, vs, hb⟩ := hb
 exact hb.nk
theorem Bn.part (hb : Bn w K h kind pts) (at_ : Nat) : Rn w (fun x => ¬ K x) (.branch kind at_ pts) (.pointer (some ⟨h, 0, none⟩)) := by
 obtain ⟨fps, A, c, vs, hb⟩ := hb
 refine ⟨h :: fps, ⟨h, fps, rfl, rfl, hb.nk, A, c, vs, hb.blk, ?_, ?_, ?_⟩, List.nodup_cons.2 ⟨fun hx => ((RnsF.fp _ _ _ hb.parts _ hx).1).2.1 rfl, hb.nd⟩⟩
 ·rcases hb.own.2 with ⟨e, e2⟩ | ⟨q, cap, cur, e, _, _, hle, _⟩
  ·injection e; omega
  ·injection e with _ _ e3; omega
 ·intro hn
  rcases hb.own.2 with ⟨e, e2⟩ | ⟨q, cap, cur, e, _, hq, hle, _, hz, hx⟩
  ·have := hb.own.1; omega
  ·injection e with e1 e2 e3
   subst e1
   refine ⟨q, 0, rfl, hb.nr q rfl, lt_heap hq, fun j u hu => ?_⟩
   rw [Nat.zero_add]
   have h0 := hb.own
   subst e3
   exact own_cell h0 j u hu
 ·exact RnsF.keep (Nat.le_refl _) (fun b hF _ => ⟨rfl, hF.1⟩) _ _ _ hb.parts
theorem Bn.new {w : World} {K : Nat → Prop} (hK : In K w) (kind : Nat) : Bn (w.alloc (.cells (nodeC kind 0 [] (.slice none 0 0)) 121)) K w.heap.size kind [] :=
 ⟨[], none, 0, [], ⟨fun h => Nat.lt_irrefl _ (hK _ h), Blk.new _ _ _, World.ownsRow_nil _ _ _ _, fun q hq => by simp [Value.ownBlock] at hq, ⟨rfl, rfl⟩, List.nodup_nil⟩⟩
theorem Bn.turned (hb : Bn w K h kind pts) (k : Nat) : Bn (w.setCell ⟨h, 0, none⟩ (.int .i64 (k : Int))) K h k pts := by
 obtain ⟨fps, A, c, vs, hb⟩ := hb
 have h1 := hb.blk.set_ 0 (.int .i64 (k : Int))
 have hz : w.heap.size ≤ (w.setCell ⟨h, 0, none⟩ (.int .i64 (k : Int))).heap.size := by simp [World.setCell]
 have hk : ∀ x, x ≠ h → (w.setCell ⟨h, 0, none⟩ (.int .i64 (k : Int))).heap[x]? = w.heap[x]? := fun x hx => Below.heap_setCell w ⟨h, 0, none⟩ _ x hx
 exact ⟨fps, A, c, vs, hb.nk, h1, own_of_block hb.own fun q hq => hk q fun e => hb.row_ne (by rw [← e]; exact hq.symm), hb.nr,
  RnsF.keep hz (fun x hF _ => ⟨hk x hF.2.1, hF⟩) _ _ _ hb.parts, hb.nd⟩
theorem OBn.push {w5 : World} (hb : OBn w K h kind pts fps A c vs) (hK : In K w) {p : Tr.PT} {v : Value} {fp : List Nat} {gg cap : Nat}
  (hp : RnF w (fun x => ¬ K x ∧ x ≠ h ∧ some x ≠ (Value.slice A pts.length c).ownBlock) p fp v) (hn : fp.Nodup) (hd : ∀ x ∈ fp, x ∉ fps)
  (hown : w5.ownsRow 0 33 1 (.slice (some ⟨gg, 0, none⟩) (pts.length + 1) cap) (pts.length + 1) (vs ++ [v]))
  (hgrow : (w.alloc (.cells #[v] 33)).grownBy w5 (Value.slice A pts.length c).ownBlock)
  (hat : (Value.slice A pts.length c).ownBlock = some gg ∨ gg = w.heap.size + 1) :
  Bn (w5.setCell ⟨h, 3, none⟩ (.slice (some ⟨gg, 0, none⟩) (pts.length + 1) cap)) K h kind (pts ++ [p]) ∧ Kept K w (w5.setCell ⟨h, 3, none⟩ (.slice (some ⟨gg, 0, none⟩) (pts.length + 1) cap)) := by
 have hz := hgrow.size
 simp at hz
 have old : ∀ x, x < w.heap.size → some x ≠ (Value.slice A pts.length c).ownBlock → x ≠ h → (w5.setCell ⟨h, 3, none⟩ (.slice (some ⟨gg, 0, none⟩) (pts.length + 1) cap)).heap[x]? = w.heap[x]? := fun x hx hr hh =>
  ((Below.heap_setCell w5 ⟨h, 3, none⟩ _ x hh).trans (hgrow.block x (by simp; omega) hr)).trans (Below.heap_alloc w _ x hx)
 have hrn : ∀ x, K x → some x ≠ (Value.slice A pts.length c).ownBlock := fun x hx e => hb.nr x e.symm hx
 have hhn : ∀ x, K x → x ≠ h := fun x hx e => hb.nk (e ▸ hx)
 have hgk : ¬ K gg := fun hk => by
  rcases hat with e | e
  ·exact hb.nr gg e hk
  ·have := hK gg hk; omega
 have hgn : ∀ x, x < w.heap.size → some x ≠ (Value.slice A pts.length c).ownBlock → some x ≠ some gg := fun x hx hr e => by
  rcases hat with e' | e'
  ·exact hr (e.trans e'.symm)
  ·injection e; omega
 have hhr : (h : Nat) ≠ gg := fun e => hgn h hb.blk.lt hb.row_ne (by rw [e])
 have hlen : (pts ++ [p]).length = pts.length + 1 := by simp
 have hB5 := ((hb.blk.alloc (.cells #[v] 33)).grown hgrow hb.row_ne).set_ 3 (.slice (some ⟨gg, 0, none⟩) (pts.length + 1) cap)
 have hsz : w5.heap.size ≤ (w5.setCell ⟨h, 3, none⟩ (.slice (some ⟨gg, 0, none⟩) (pts.length + 1) cap)).heap.size := by simp [World.setCell]
 refine ⟨⟨fps ++ fp, some ⟨gg, 0, none⟩, cap, vs ++ [v], hb.nk, ?_, ?_, ?_, ?_, ?_⟩, by omega, fun x hx => old x (hK x hx) (hrn x hx) (hhn x hx), ((show Calm w (w.alloc (.cells #[v] 33)) from ⟨rfl, rfl, rfl⟩).trans ⟨hgrow.os, hgrow.tape, hgrow.output⟩).trans (Calm.set w5 _ _)⟩
 ·rw [hlen]; exact hB5
 ·rw [hlen]
  exact own_of_block hown fun q hq => Below.heap_setCell w5 ⟨h, 3, none⟩ _ q (by simp only [Value.ownBlock, Option.some.injEq] at hq; subst hq; exact Ne.symm hhr)
 ·intro q hq
  simp only [Value.ownBlock, Option.some.injEq] at hq
  subst hq; exact hgk
 ·refine RnsF.app ?_ (RnsF.one ?_)
  ·exact RnsF.keep (by omega) (fun x hF hl => ⟨old x hl hF.2.2 hF.2.1, hF.1, hF.2.1, hgn x hl hF.2.2⟩) _ _ _ hb.parts
  ·exact RnF.keep (by omega) (fun x hF hl => ⟨old x hl hF.2.2 hF.2.1, hF.1, hF.2.1, hgn x hl hF.2.2⟩) _ _ _ hp
 ·exact List.nodup_append.2 ⟨hb.nd, hn, fun a ha b hb' e => hd b hb' (e ▸ ha)⟩
end
structure Rdq (w : World) (K : Nat → Prop) (g : Nat) (s : Bs) (T : List Tk) (A : Option Addr) (c n i : Nat) (cut : Bool) : Prop where
 rd : Blk w g 119 #[.string ⟨s.toArray⟩, .slice A T.length c, .int .i64 (i : Int), .int .i64 (n : Int), .bool cut]
 row : RowF w (fun x => K x ∧ x ≠ g) A (tksC T)
 kg : K g
 inK : In K w
 hi : i ≤ T.length
section
variable {w w' : World} {K K' : Nat → Prop} {g : Nat} {s : Bs} {T : List Tk} {A : Option Addr} {c n i n' i' : Nat} {cut cut' : Bool}
theorem Rdq.kept (h : Rdq w K g s T A c n i cut) (hk : Kept K w w') : Rdq w' K g s T A c n i cut :=
 ⟨(hk.same g h.kg).trans h.rd, h.row.keep hk.size fun b hb _ => ⟨hk.same b hb.1, hb⟩, h.kg, h.inK.after hk.size, h.hi⟩
theorem Rdq.below (h : Rdq w K g s T A c n i cut) (hb : Below w.heap.size w w') : Rdq w' K g s T A c n i cut := h.kept (Kept.below hb h.inK)
theorem Rdq.lt (h : Rdq w K g s T A c n i cut) : g < w.heap.size := h.inK _ h.kg
theorem Rdq.old (h : Rdq w K g s T A c n i cut) : Rdq w (Old w) g s T A c n i cut := ⟨h.rd, h.row.keep (Nat.le_refl _) fun _ hb hl => ⟨rfl, hl, hb.2⟩, h.rd.lt, Old.in_ w, h.hi⟩
theorem Rdq.from_old (R : Rdq w K g s T A c n i cut) (R' : Rdq w' K' g s T A c n' i' cut') (ha : Aft K g w w') : Rdq w' K g s T A c n' i' cut' :=
 ⟨R'.rd, R.row.keep ha.size fun b hb _ => ⟨ha.oth b hb.1 hb.2, hb⟩, R.kg, R.inK.after ha.size, R'.hi⟩
theorem Rdq.at_ (h : Rdq w K g s T A c n i cut) {j : Nat} (hj : j ≤ T.length) : Rdq (w.setCell ⟨g, 2, none⟩ (.int .i64 (j : Int))) K g s T A c n j cut := by
 have h1 := h.rd.set_ 2 (.int .i64 (j : Int))
 have ha := (Aft.refl K g w).set 2 (.int .i64 (j : Int))
 exact ⟨h1, h.row.keep ha.size fun b hb _ => ⟨ha.oth b hb.1 hb.2, hb⟩, h.kg, h.inK.after ha.size, hj⟩
theorem Rdq.deep (h : Rdq w K g s T A c n i cut) (m : Nat) : Rdq (w.setCell ⟨g, 3, none⟩ (.int .i64 (m : Int))) K g s T A c m i cut := by
 have h1 := h.rd.set_ 3 (.int .i64 (m : Int))
 have ha := (Aft.refl K g w).set 3 (.int .i64 (m : Int))
 exact ⟨h1, h.row.keep ha.size fun b hb _ => ⟨ha.oth b hb.1 hb.2, hb⟩, h.kg, h.inK.after ha.size, h.hi⟩
theorem Rdq.cut_ (h : Rdq w K g s T A c n i cut) (b : Bool) : Rdq (w.setCell ⟨g, 4, none⟩ (.bool b)) K g s T A c n i b := by
 have h1 := h.rd.set_ 4 (.bool b)
 have ha := (Aft.refl K g w).set 4 (.bool b)
 exact ⟨h1, h.row.keep ha.size fun b hb _ => ⟨ha.oth b hb.1 hb.2, hb⟩, h.kg, h.inK.after ha.size, h.hi⟩
theorem Rdq.cells (h : Rdq w K g s T A c n i cut) : w.cell? ⟨g, 0, none⟩ = some (.string ⟨s.toArray⟩) ∧ w.cell? ⟨g, 1, none⟩ = some (.slice A T.length c) ∧ w.cell? ⟨g, 2, none⟩ = some (.int .i64 (i : Int)) ∧ w.cell? ⟨g, 3, none⟩ = some (.int .i64 (n : Int)) ∧ w.cell? ⟨g, 4, none⟩ = some (.bool cut) := by
 have c0 := h.rd.cell 0
 have c1 := h.rd.cell 1
 have c2 := h.rd.cell 2
 have c3 := h.rd.cell 3
 have c4 := h.rd.cell 4
 simp at c0 c1 c2 c3 c4
 exact ⟨c0, c1, c2, c3, c4⟩
end
end Go.Proofs.YtalklmeejdmifaaGreatDoor
