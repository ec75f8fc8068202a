/-
  JOINED of the texts EG
-/
import Derived.Test.YtcjjfeephaddcaaGreatDoorJar
set_option linter.all false
namespace Go.Proofs.YtcjjfeephaddcaaGreatDoor
open Go.RowKit Go.Maps
theorem KeepC.row {w w' : World} {B n size : Nat} {t : TypeId} {v : Value} {xs : List Value} (h : w.ownsRow B t size v n xs) (hg : w.grownBy w' v.ownBlock) : KeepC [t] w w' := KeepC.grown hg fun g cs t' fr e hk => by
 obtain ⟨cs', fr', h3⟩ := own_ty h g e
 rw [hk] at h3
 injection h3 with h3
 injection h3 with _ h3 _
 simp [h3]
section
variable {P : Program} {w : World}
theorem step_append_gen {ops : Array Oper} {o : Oper} {a : Act} {K : Act → World → Prop} {Q : Exit → Act → World → Prop} {E : Prop} (hgd : o.guard = none) (s x : Operand) (t : TypeId)
  (ho : o.op = .call { callee := .builtin .append, args := #[s, x], argTypes := #[t, t] })
  (base : Nat) (e : TypeId) (i : TypeInfo) (z : Value) (size bytes : Nat) (ht : P.underlying t = some (.slice e)) (hi : P.info? e = some i) (hz : i.zero = some z)
  (hsize : i.size = size) (hby : i.bytes = bytes) (hzs : z.cells.size = size) (hsz : 0 < size)
  (v : Value) (n : Nat) (xs : List Value) (hs : a.eval s = v) (hown : w.ownsRow base e size v n xs)
  (ad : Addr) (m c : Nat) (news : List Value) (hx : a.eval x = .slice (some ad) m c) (hl : news.length = m * size) (hnews : ∀ j u, news[j]? = some u → w.cell? (ad.add j) = some u) (h1 : ∀ u ∈ news, u.oneCell' = true)
  (h63 : n + m ≤ maxLen) (hbytes : (n + m) * bytes ≤ 140737488355328) (hbase : base ≤ w.heap.size)
  (h : ∀ v' w', w'.ownsRow base e size v' (n + m) (xs ++ news) → w.grownBy w' v.ownBlock → K (a.put o.dst v') w') :
  if Region.wanted o (yielded ops a.tmps) = true then Oper.wp P o a w K Q else E := by
 have hw : Region.wanted o (yielded ops a.tmps) = true := by simp [Region.wanted, hgd]
 rw [if_pos hw]
 exact wp_append_own w s x t ho base e i z size bytes ht hi hz hsize hby hzs hsz v n xs hs hown ad m c news hx hl hnews h1 h63 hbytes hbase fun v' w' h2 h3 _ => h v' w' h2 h3
end
structure FiR (w : World) (B : Nat) (P : Nat → Prop) (l : List Sc.It) (G : List Nat) (m : Nat) (s : Option Addr × Nat × Nat) : Prop where
 gl : G.length = l.length
 its : ∀ (k : Nat) (x : Sc.It) (g : Nat), l[k]? = some x → G[k]? = some g → ItG w P (fun b => B ≤ b) x (Sc.twiceM l k) g
 row : RowT w 229 (fun b => B ≤ b) s.1 (G.map ptrV)
 len : s.2.1 = l.length
 map : ∃ D, w.ownsMap Tryz.prog 9 itemElem m l.length D ∧ MapIs D l G
 mB : B ≤ m
section
variable {w w' : World} {B B' : Nat} {P : Nat → Prop} {l : List Sc.It} {G : List Nat} {m : Nat} {s : Option Addr × Nat × Nat}
theorem FiI.done {A : Option Addr} {c : Nat} (h : FiI w B' P l G G m A c) (hB : B ≤ B') : FiR w B P l G m (A, G.length, c) := by
 refine ⟨h.gl, fun k x g hx hg => (h.its k x g hx hg).mono fun b hb => Nat.le_trans hB hb, ?_, h.gl, h.map, Nat.le_trans hB h.mB⟩
 have hrow := h.row
 have hl : G.length = (G.map ptrV).length := by rw [List.length_map]
 obtain ⟨_, h1, h2⟩ := own_cap_row hrow (fun b => B ≤ b) fun b hb => Nat.le_trans hB hb
 exact ⟨h1, fun br o e hn => h2 br o e (by rw [hl]; exact hn)⟩
theorem FiR.keepM {T : List TypeId} {B0 : Nat} (h : FiR w B P l G m s) (hd : Below B0 w w') (hP : ∀ b, P b → b < B0) (hk : KeepM T w w') (ht : 234 ∉ T ∧ 237 ∉ T ∧ 231 ∉ T) (ht2 : 229 ∉ T) : FiR w' B P l G m s := by
 obtain ⟨D, h1, h2⟩ := h.map
 refine ⟨h.gl, fun k x g hx hg => (h.its k x g hx hg).keepC hd hP hd.size hk.toC ht, h.row.keepC hd.size hk.toC ht2, h.len, ⟨D, own_map_keep h1 (hk m h1.lt fun cs t fr e => absurd rfl (map_ne h1 e)), h2⟩, h.mB⟩
theorem FiR.below (h : FiR w B P l G m s) (hd : Below w.heap.size w w') : FiR w' B P l G m s := by
 obtain ⟨D, h1, h2⟩ := h.map
 exact ⟨h.gl, fun k x g hx hg => (h.its k x g hx hg).below hd, h.row.keepC hd.size (KeepC.below (T := []) hd) (by simp), h.len, ⟨D, own_map_keep h1 (hd.block m h1.lt), h2⟩, h.mB⟩
end
def slV (s : Option Addr × Nat × Nat) : Value := .slice s.1 s.2.1 s.2.2
structure OfR (w0 w : World) (B : Nat) (P : Nat → Prop) (pg mb : Nat) (fv tv : Value) (LL : List (List Sc.It)) (GG : List (List Nat)) (ms : List Nat) (ss : List (Option Addr × Nat × Nat)) (Ai : Option Addr) (ci : Nat) (Ad : Option Addr) (cd : Nat) : Prop where
 blk : Blk w pg 86 #[fv, tv, .slice Ai LL.length ci, .slice none 0 0, .slice Ad LL.length cd, .map (some mb)]
 ri : w.ownsRow B 227 1 (.slice Ai LL.length ci) LL.length (ss.map slV)
 rd : w.ownsRow B 228 1 (.slice Ad LL.length cd) LL.length (ms.map fun m => .map (some m))
 pm : w.ownsMap (H := Unit) Tryz.prog 325 (plainElem Tryz.prog 3) mb 0 (.map [])
 gl : GG.length = LL.length
 ml : ms.length = LL.length
 sl : ss.length = LL.length
 nd : GG.flatten.Nodup
 fi : ∀ (f : Nat) (l : List Sc.It) (G : List Nat) (m : Nat) (s : Option Addr × Nat × Nat), LL[f]? = some l → GG[f]? = some G → ms[f]? = some m → ss[f]? = some s → FiR w B P l G m s
 bel : Below w0.heap.size w0 w
 sz : B ≤ w.heap.size
theorem OfR.below {w0 w w' : World} {B : Nat} {P : Nat → Prop} {pg mb : Nat} {fv tv : Value} {LL : List (List Sc.It)} {GG : List (List Nat)} {ms : List Nat} {ss : List (Option Addr × Nat × Nat)} {Ai : Option Addr} {ci : Nat} {Ad : Option Addr} {cd : Nat} (h : OfR w0 w B P pg mb fv tv LL GG ms ss Ai ci Ad cd) (hd : Below w.heap.size w w') : OfR w0 w' B P pg mb fv tv LL GG ms ss Ai ci Ad cd :=
 ⟨h.blk.below hd h.blk.lt, own_of_block h.ri fun b hb => hd.block b (h.ri.lt b hb).2, own_of_block h.rd fun b hb => hd.block b (h.rd.lt b hb).2, own_map_keep h.pm (hd.block mb h.pm.lt), h.gl, h.ml, h.sl, h.nd, fun f l G m s h1 h2 h3 h4 => (h.fi f l G m s h1 h2 h3 h4).below hd, h.bel.trans (hd.mono h.bel.size), Nat.le_trans h.sz hd.size⟩
theorem TreeIs.under {w w' : World} {F : Nat → Prop} {gt d : Nat} {A : Option Addr} {c : Nat} {T : List Tk} {ks : List Tr.Kd} {ts : List Tr.PT} (h : TreeIs w F gt d A c T ks ts) (hd : Below w.heap.size w w') : TreeIs w' F gt d A c T ks ts := by
 obtain ⟨Av, cv, At, ct, vs, us, hB, h1, h2, h3, h4, h5, h6⟩ := h.ex
 have hk : ∀ b, F b → b < w.heap.size → w'.heap[b]? = w.heap[b]? ∧ F b := fun b hF hl => ⟨hd.block b hl, hF⟩
 exact ⟨⟨Av, cv, At, ct, vs, us, hB.below hd hB.lt, h1, h2, h3.keep hd.size hk, h4.below hd, h5.keep hd.size hk, PtsF.below h6 hd⟩⟩
theorem FiI.keepM {T : List TypeId} {w w' : World} {B0 B : Nat} {P : Nat → Prop} {l : List Sc.It} {G Gr : List Nat} {m : Nat} {A : Option Addr} {c : Nat} (h : FiI w B P l G Gr m A c) (hd : Below B0 w w') (hP : ∀ b, P b → b < B0) (hk : KeepM T w w') (ht : 234 ∉ T ∧ 237 ∉ T ∧ 231 ∉ T) (ht2 : 229 ∉ T) : FiI w' B P l G Gr m A c := by
 obtain ⟨D, h1, h2⟩ := h.map
 refine ⟨h.gl, h.nd, fun k x g hx hg => (h.its k x g hx hg).keepC hd hP hd.size hk.toC ht, own_of_block h.row fun b hb => hk b (h.row.lt b hb).2 fun cs t fr e => ?_, ⟨D, own_map_keep h1 (hk m h1.lt fun cs t fr e => absurd rfl (map_ne h1 e)), h2⟩, h.mB⟩
 obtain ⟨cs', fr', h3⟩ := own_ty h.row b hb
 rw [e] at h3
 injection h3 with h3
 injection h3 with _ h3 _
 rw [h3]
 exact ht2
structure Mid (w0 u : World) (B n0 : Nat) (P : Nat → Prop) (pg mb : Nat) (fv tv : Value) (LL : List (List Sc.It)) (GG : List (List Nat)) (ms : List Nat) (ss : List (Option Addr × Nat × Nat)) (vi0 vd0 : Value) (l : List Sc.It) (G : List Nat) (Ar : Option Addr) (cr : Nat) (vi : Value) (ni : Nat) (xi : List Value) (vd : Value) (nd : Nat) (xd : List Value) : Prop where
 blk : Blk u pg 86 #[fv, tv, vi0, .slice none 0 0, vd0, .map (some mb)]
 ri : u.ownsRow B 227 1 vi ni xi
 rd : u.ownsRow B 228 1 vd nd xd
 pm : u.ownsMap (H := Unit) Tryz.prog 325 (plainElem Tryz.prog 3) mb 0 (.map [])
 fi : ∀ (f : Nat) (l : List Sc.It) (G : List Nat) (m : Nat) (s : Option Addr × Nat × Nat), LL[f]? = some l → GG[f]? = some G → ms[f]? = some m → ss[f]? = some s → FiR u B P l G m s
 fn : FiI u n0 P l G G n0 Ar cr
 bel : Below w0.heap.size w0 u
 sz : B ≤ u.heap.size
section
variable {w0 u u' : World} {B n0 : Nat} {P : Nat → Prop} {pg mb : Nat} {fv tv : Value} {LL : List (List Sc.It)} {GG : List (List Nat)} {ms : List Nat} {ss : List (Option Addr × Nat × Nat)} {vi0 vd0 : Value} {l : List Sc.It} {G : List Nat} {Ar Ai Ad : Option Addr} {cr ci cd : Nat} {vi vd : Value} {ni nd : Nat} {xi xd : List Value}
theorem OfR.few (h : OfR w0 u B P pg mb fv tv LL GG ms ss Ai ci Ad cd) {g : Nat} (hg : g ∈ GG.flatten) : g < u.heap.size := by
 obtain ⟨G, hG, hgG⟩ := List.mem_flatten.1 hg
 obtain ⟨f, hf, e⟩ := List.getElem_of_mem hG
 have hf' : f < LL.length := by have := h.gl; omega
 have hm : f < ms.length := by rw [h.ml]; exact hf'
 have hs : f < ss.length := by rw [h.sl]; exact hf'
 have hF := h.fi f LL[f] G ms[f] ss[f] (List.getElem?_eq_getElem hf') (by rw [← e]; exact List.getElem?_eq_getElem hf) (List.getElem?_eq_getElem hm) (List.getElem?_eq_getElem hs)
 obtain ⟨k, hk, e2⟩ := List.getElem_of_mem hgG
 have hk' : k < LL[f].length := by rw [← hF.gl]; exact hk
 obtain ⟨_, _, pb, nv, A, c, ev, mv, me, av, hB, _⟩ := hF.its k LL[f][k] g (List.getElem?_eq_getElem hk') (by rw [← e2]; exact List.getElem?_eq_getElem hk)
 exact hB.lt
theorem FiI.ge {Gr : List Nat} {m : Nat} {A : Option Addr} {c : Nat} (h : FiI u B P l G Gr m A c) {g : Nat} (hg : g ∈ G) : B ≤ g := by
 obtain ⟨k, hk, e⟩ := List.getElem_of_mem hg
 exact (h.its k (l[k]'(by rw [← h.gl]; exact hk)) g (List.getElem?_eq_getElem _) (by rw [← e]; exact List.getElem?_eq_getElem _)).1
theorem Mid.below (h : Mid w0 u B n0 P pg mb fv tv LL GG ms ss vi0 vd0 l G Ar cr vi ni xi vd nd xd) (hd : Below u.heap.size u u') : Mid w0 u' B n0 P pg mb fv tv LL GG ms ss vi0 vd0 l G Ar cr vi ni xi vd nd xd :=
 ⟨h.blk.below hd h.blk.lt, own_of_block h.ri fun b hb => hd.block b (h.ri.lt b hb).2, own_of_block h.rd fun b hb => hd.block b (h.rd.lt b hb).2, own_map_keep h.pm (hd.block mb h.pm.lt), fun f l G m s h1 h2 h3 h4 => (h.fi f l G m s h1 h2 h3 h4).below hd, h.fn.below hd, h.bel.trans (hd.mono h.bel.size), Nat.le_trans h.sz hd.size⟩
theorem KeepM.row {w w' : World} {B n size : Nat} {t : TypeId} {v : Value} {xs : List Value} (h : w.ownsRow B t size v n xs) (hg : w.grownBy w' v.ownBlock) : KeepM [t] w w' := KeepM.grown hg fun g e => by
 obtain ⟨cs', fr', h3⟩ := own_ty h g e
 exact ⟨cs', t, fr', h3, List.mem_singleton.2 rfl⟩
theorem own_keepM {T : List TypeId} {w w' : World} {B n size : Nat} {t : TypeId} {v : Value} {xs : List Value} (h : w.ownsRow B t size v n xs) (hk : KeepM T w w') (ht : t ∉ T) : w'.ownsRow B t size v n xs := own_of_block h fun b hb => hk b (h.lt b hb).2 fun cs t' fr e => by
 obtain ⟨cs', fr', h3⟩ := own_ty h b hb
 rw [e] at h3
 injection h3 with h3
 injection h3 with _ h3 _
 rw [h3]
 exact ht
theorem grown_below {w w' : World} {B B0 n size : Nat} {t : TypeId} {v : Value} {xs : List Value} (h : w.ownsRow B t size v n xs) (hg : w.grownBy w' v.ownBlock) (hB : B0 ≤ B) (hs : B0 ≤ w.heap.size) : Below B0 w w' :=
 (Below.refl _ _).grown hg hs fun g hg => Nat.le_trans hB (h.lt g hg).1
theorem Mid.pushI (h : Mid w0 u B n0 P pg mb fv tv LL GG ms ss vi0 vd0 l G Ar cr vi ni xi vd nd xd) (hP : ∀ b, P b → b < w0.heap.size) (hB : w0.heap.size ≤ B) {v' : Value} {n' : Nat} {x' : List Value}
  (hown : u'.ownsRow B 227 1 v' n' x') (hg : u.grownBy u' vi.ownBlock) : Mid w0 u' B n0 P pg mb fv tv LL GG ms ss vi0 vd0 l G Ar cr v' n' x' vd nd xd := by
 have hk := KeepM.row h.ri hg
 have hd : Below w0.heap.size u u' := grown_below h.ri hg hB h.bel.size
 exact ⟨h.blk.keepC hk.toC (by decide), hown, own_keepM h.rd hk (by decide), own_map_keep h.pm (hk mb h.pm.lt fun cs t fr e => absurd rfl (map_ne h.pm e)), fun f l G m s h1 h2 h3 h4 => (h.fi f l G m s h1 h2 h3 h4).keepM hd hP hk (by decide) (by decide), h.fn.keepM hd hP hk (by decide) (by decide), h.bel.trans hd, Nat.le_trans h.sz hg.size⟩
theorem Mid.pushD (h : Mid w0 u B n0 P pg mb fv tv LL GG ms ss vi0 vd0 l G Ar cr vi ni xi vd nd xd) (hP : ∀ b, P b → b < w0.heap.size) (hB : w0.heap.size ≤ B) {v' : Value} {n' : Nat} {x' : List Value}
  (hown : u'.ownsRow B 228 1 v' n' x') (hg : u.grownBy u' vd.ownBlock) : Mid w0 u' B n0 P pg mb fv tv LL GG ms ss vi0 vd0 l G Ar cr vi ni xi v' n' x' := by
 have hk := KeepM.row h.rd hg
 have hd : Below w0.heap.size u u' := grown_below h.rd hg hB h.bel.size
 exact ⟨h.blk.keepC hk.toC (by decide), own_keepM h.ri hk (by decide), hown, own_map_keep h.pm (hk mb h.pm.lt fun cs t fr e => absurd rfl (map_ne h.pm e)), fun f l G m s h1 h2 h3 h4 => (h.fi f l G m s h1 h2 h3 h4).keepM hd hP hk (by decide) (by decide), h.fn.keepM hd hP hk (by decide) (by decide), h.bel.trans hd, Nat.le_trans h.sz hg.size⟩
theorem Mid.done (h : Mid w0 u B n0 P pg mb fv tv LL GG ms ss vi0 vd0 l G Ar cr vi ni xi vd nd xd) (hP : ∀ b, P b → b < w0.heap.size) (_hB : w0.heap.size ≤ B) (hp : w0.heap.size ≤ pg) (_hpB : pg < B) (hBn : B ≤ n0) (ei : vi = .slice Ai (LL.length + 1) ci) (ed : vd = .slice Ad (LL.length + 1) cd) (eni : ni = LL.length + 1) (end' : nd = LL.length + 1)
  (exi : xi = (ss ++ [(Ar, G.length, cr)]).map slV) (exd : xd = (ms ++ [n0]).map fun m => .map (some m)) (gl : GG.length = LL.length) (ml : ms.length = LL.length) (sl : ss.length = LL.length) (hnd : GG.flatten.Nodup) (hold : ∀ g ∈ GG.flatten, g < n0) (hnew : ∀ g ∈ G, n0 ≤ g) :
  OfR w0 ((u.setCell ⟨pg, 2, none⟩ vi).setCell ⟨pg, 4, none⟩ vd) B P pg mb fv tv (LL ++ [l]) (GG ++ [G]) (ms ++ [n0]) (ss ++ [(Ar, G.length, cr)]) Ai ci Ad cd := by
 subst ei ed eni end' exi exd
 have hk1 : KeepM [86] u (u.setCell ⟨pg, 2, none⟩ (.slice Ai (LL.length + 1) ci)) := KeepM.grown (grown_set u pg 2 _) fun g e => by injection e with e; subst e; exact ⟨_, _, _, h.blk, List.mem_singleton.2 rfl⟩
 have hB1 := h.blk.set_ 2 (.slice Ai (LL.length + 1) ci)
 have hk2 : KeepM [86] (u.setCell ⟨pg, 2, none⟩ (.slice Ai (LL.length + 1) ci)) ((u.setCell ⟨pg, 2, none⟩ (.slice Ai (LL.length + 1) ci)).setCell ⟨pg, 4, none⟩ (.slice Ad (LL.length + 1) cd)) := KeepM.grown (grown_set _ pg 4 _) fun g e => by injection e with e; subst e; exact ⟨_, _, _, hB1, List.mem_singleton.2 rfl⟩
 have hs1 := (grown_set u pg 2 (.slice Ai (LL.length + 1) ci)).size
 have hs2 := (grown_set (u.setCell ⟨pg, 2, none⟩ (.slice Ai (LL.length + 1) ci)) pg 4 (.slice Ad (LL.length + 1) cd)).size
 have hk := hk1.trans hs1 hk2
 have hd : Below w0.heap.size u ((u.setCell ⟨pg, 2, none⟩ (.slice Ai (LL.length + 1) ci)).setCell ⟨pg, 4, none⟩ (.slice Ad (LL.length + 1) cd)) := ((Below.refl _ _).setCell (p := ⟨pg, 2, none⟩) hp _).setCell (p := ⟨pg, 4, none⟩) hp _
 have hB2 := hB1.set_ 4 (.slice Ad (LL.length + 1) cd)
 simp only [List.setIfInBounds_toArray, List.set_cons_zero, List.set_cons_succ] at hB2
 have hfn := h.fn.keepM hd hP hk (by decide) (by decide)
 generalize (u.setCell ⟨pg, 2, none⟩ (.slice Ai (LL.length + 1) ci)).setCell ⟨pg, 4, none⟩ (.slice Ad (LL.length + 1) cd) = w' at *
 refine ⟨by rw [List.length_append]; exact hB2, by rw [List.length_append]; exact own_keepM h.ri hk (by decide), by rw [List.length_append]; exact own_keepM h.rd hk (by decide), own_map_keep h.pm (hk mb h.pm.lt fun cs t fr e => absurd rfl (map_ne h.pm e)), by simp [gl], by simp [ml], by simp [sl], ?_, ?_, h.bel.trans hd, Nat.le_trans h.sz (Nat.le_trans hs1 hs2)⟩
 ·rw [List.flatten_append, List.flatten_singleton]
  exact List.nodup_append.2 ⟨hnd, h.fn.nd, fun a ha b hb e => by have := hold a ha; have := hnew b hb; omega⟩
 ·intro f l' G' m s h1 h2 h3 h4
  rcases Nat.lt_or_ge f LL.length with hf | hf
  ·rw [List.getElem?_append_left hf] at h1
   rw [List.getElem?_append_left (by omega)] at h2 h3 h4
   exact (h.fi f l' G' m s h1 h2 h3 h4).keepM hd hP hk (by decide) (by decide)
  ·have hf' := (List.getElem?_eq_some_iff.1 h1).1
   simp at hf'
   obtain rfl : f = LL.length := by omega
   rw [List.getElem?_append_right (Nat.le_refl _)] at h1
   rw [List.getElem?_append_right (by omega)] at h2 h3 h4
   simp [gl, ml, sl] at h1 h2 h3 h4
   subst h1 h2 h3 h4
   exact hfn.done hBn
end
theorem bd_items : (Tryz.prog.info? 227).map (fun i => (i.zero, i.size, i.bytes)) = some (some (.slice none 0 0), 1, 24) := by kernel_rfl
theorem bd_mapi : (Tryz.prog.info? 228).map (fun i => (i.zero, i.size, i.bytes)) = some (some (.map none), 1, 8) := by kernel_rfl
theorem ItG.toF2 {w : World} {P F F' : Nat → Prop} (hP : ∀ b, P b → b < w.heap.size → F' b) (hF : ∀ b, F b → b < w.heap.size → F' b) {x : Sc.It} {tw : Bool} {g : Nat} (h : ItG w P F x tw g) : ItF w F' x tw g := by
 obtain ⟨h0, hk, pb, nv, A, c, ev, mv, me, av, hB, hp, hn, hc, hr, hty, he, h1, h2, h3⟩ := h
 have k1 : ∀ b, P b → b < w.heap.size → w.heap[b]? = w.heap[b]? ∧ F' b := fun b hb hl => ⟨rfl, hP b hb hl⟩
 have k2 : ∀ b, F b → b < w.heap.size → w.heap[b]? = w.heap[b]? ∧ F' b := fun b hb hl => ⟨rfl, hF b hb hl⟩
 exact ⟨hF g h0 hB.lt, hk, pb, nv, A, c, ev, mv, me, av, hB, PtF.keep (Nat.le_refl _) k1 _ _ hp, hn.keep k2, hc, hr.keep (Nat.le_refl _) k2, hty, fun hd => PtF.keep (Nat.le_refl _) k1 _ _ (he hd), h1.keep k2, h2.keep k2, h3.keep k2⟩
def OfF (P : Nat → Prop) (pg : Nat) (w : World) (b : Nat) : Prop := P b ∨ (pg + 1 ≤ b ∧ b < w.heap.size)
theorem OfR.ph {w w0 : World} {P : Nat → Prop} {pg mb : Nat} {A : Option Addr} {c : Nat} {fs : List Fl} {tv : Value} {KK : List (List Tr.Kd)} {GG : List (List Nat)} {ms : List Nat} {ss : List (Option Addr × Nat × Nat)} {Ai : Option Addr} {ci : Nat} {Ad : Option Addr} {cd : Nat}
  (hO : OfR w w0 (pg + 1) P pg mb (.slice A fs.length c) tv (Sc.wkOf fs KK).items GG ms ss Ai ci Ad cd) (hpg : pg = w.heap.size + 1) (hmb : mb = w.heap.size) (hfs : FlR w A fs) (hfl : fs.length = KK.length) (hfew : fs.length ≤ 1000) (hP : ∀ b, P b → b < w.heap.size) (hok : ∀ ks ∈ KK, KsOk ks) (hmany : Sc.manyM (Sc.wkOf fs KK) ≤ 100000000) :
  Ph w0 (OfF P pg w0) pg mb A c fs Ad cd (Sc.wkOf fs KK) GG ∧ PgS w0 w0 pg mb (.slice A fs.length c) tv (.slice Ai (Sc.wkOf fs KK).items.length ci) (.slice Ad (Sc.wkOf fs KK).items.length cd) [] := by
 have hil : (Sc.wkOf fs KK).items.length = KK.length := by unfold Sc.wkOf; simp
 have hpl := hO.blk.lt
 have hfiG : ∀ (f : Nat) (l : List Sc.It) (G : List Nat), (Sc.wkOf fs KK).items[f]? = some l → GG[f]? = some G → ∃ m s, ms[f]? = some m ∧ ss[f]? = some s ∧ FiR w0 (pg + 1) P l G m s := fun f l G h1 h2 => by
  have hf := (List.getElem?_eq_some_iff.1 h1).1
  have hm : f < ms.length := by rw [hO.ml]; exact hf
  have hs : f < ss.length := by rw [hO.sl]; exact hf
  exact ⟨ms[f], ss[f], List.getElem?_eq_getElem hm, List.getElem?_eq_getElem hs, hO.fi f l G _ _ h1 h2 (List.getElem?_eq_getElem hm) (List.getElem?_eq_getElem hs)⟩
 refine ⟨⟨⟨?_, ?_, hfs.below hO.bel, rfl, by rw [hfl, hil], hfew, hO.gl, hO.nd, fun f l G h1 h2 => ?_, fun f l h1 => ?_, ⟨ms, hO.ml, ?_, fun f l G m h1 h2 h3 => ?_⟩⟩, fun b hb => ?_, fun b o e hn => ?_, hmany⟩, ⟨Nat.le_refl _, fun _ _ _ _ => rfl, ⟨rfl, rfl, rfl⟩, ⟨none, 0, hO.blk, World.ownsRow_nil _ _ _ _⟩, ⟨_, hO.pm, AtIs.nil⟩, hO.blk.lt, hO.pm.lt⟩⟩
 ·have := hO.blk.cell 0
  simpa using this
 ·have := hO.blk.cell 4
  simpa using this
 ·obtain ⟨m, s, _, _, hF⟩ := hfiG f l G h1 h2
  exact ⟨hF.gl, fun k x g hx hg => (hF.its k x g hx hg).toF2 (fun b hb _ => .inl hb) fun b hb hl => .inr ⟨hb, hl⟩⟩
 ·obtain ⟨ks, hks, rfl⟩ := wk_items h1
  have hk := hok ks (List.mem_of_getElem? hks)
  refine ⟨?_, fun x hx => ?_⟩
  ·have : (Sc.itemsM f ks).length ≤ ks.length := by unfold Sc.itemsM; rw [List.length_map]; exact List.length_filter_le _ _
   have := hk.len
   omega
  ·obtain ⟨k, hkl, e⟩ := List.getElem_of_mem hx
   obtain ⟨kd, hkd, hi, rfl⟩ := items_of (f := f) (ks := ks) (k := k) (x := x) (by rw [List.getElem?_eq_getElem hkl, e])
   have hlow := item_low (n := f) ((hk.kids kd hkd hi).2.1)
   exact ⟨rfl, fun y hy => (hlow y (.inl hy)).1, fun y hy => (hlow y (.inr (.inr (.inl hy)))).2⟩
 ·have h1 : RowF w0 (fun b => pg + 1 ≤ b) Ad (ms.map fun m => .map (some m)) := (own_cap_row hO.rd _ fun _ h => h).2.1
  exact h1.keep (Nat.le_refl _) fun b hb hl => ⟨rfl, .inr ⟨hb, hl⟩⟩
 ·obtain ⟨m', s, hm, _, hF⟩ := hfiG f l G h1 h2
  rw [h3] at hm
  injection hm with hm
  subst hm
  obtain ⟨D, hD, hI⟩ := hF.map
  exact ⟨l.length, D, .inr ⟨hF.mB, hD.lt⟩, hD, hI⟩
 ·have := hO.bel.size
  have := hO.sz
  rcases hb with hb | hb
  ·have := hP b hb
   omega
  ·omega
 ·obtain ⟨br, o', e', hl, _⟩ := hfs.2 hn
  rw [e] at e'
  injection e' with e'
  injection e' with e'
  omega
structure ItRows (w0 : World) (pg : Nat) (W : Sc.Wk) (GG : List (List Nat)) (Ai : Option Addr) (ss : List (Option Addr × Nat × Nat)) : Prop where
 ri : RowF w0 (fun b => pg + 1 ≤ b) Ai (ss.map slV)
 sl : ss.length = W.items.length
 rows : ∀ (f : Nat) (l : List Sc.It) (G : List Nat) (s : Option Addr × Nat × Nat), W.items[f]? = some l → GG[f]? = some G → ss[f]? = some s → s.2.1 = l.length ∧ RowF w0 (fun b => pg + 1 ≤ b) s.1 (G.map ptrV)
theorem OfR.rows {w w0 : World} {P : Nat → Prop} {pg mb : Nat} {fv tv : Value} {W : Sc.Wk} {GG : List (List Nat)} {ms : List Nat} {ss : List (Option Addr × Nat × Nat)} {Ai : Option Addr} {ci : Nat} {Ad : Option Addr} {cd : Nat} (hO : OfR w w0 (pg + 1) P pg mb fv tv W.items GG ms ss Ai ci Ad cd) : ItRows w0 pg W GG Ai ss := by
 refine ⟨(own_cap_row hO.ri _ fun _ h => h).2.1, hO.sl, fun f l G s h1 h2 h3 => ?_⟩
 have hm : f < ms.length := by rw [hO.ml]; exact (List.getElem?_eq_some_iff.1 h1).1
 have hF := hO.fi f l G ms[f] s h1 h2 (List.getElem?_eq_getElem hm) h3
 exact ⟨hF.len, hF.row.1⟩
def ProgIs (w w' : World) (P : Nat → Prop) (A : Option Addr) (c : Nat) (tv : Value) (fs : List Fl) (KK : List (List Tr.Kd)) (pg : Nat) : Prop :=
 ∃ w0 mb GG Ai ci Ad cd ss, w.heap.size ≤ pg ∧ Below w.heap.size w w' ∧ Ph w0 (OfF P pg w0) pg mb A c fs Ad cd (Sc.wkOf fs KK) GG ∧ ItRows w0 pg (Sc.wkOf fs KK) GG Ai ss ∧
  PgS w0 w' pg mb (.slice A fs.length c) tv (.slice Ai (Sc.wkOf fs KK).items.length ci) (.slice Ad (Sc.wkOf fs KK).items.length cd) (Sc.usesM (Sc.wkOf fs KK)) ∧ Below w.heap.size w w0 ∧ (∀ b, P b → b < w.heap.size)
def OfE (w : World) (P : Nat → Prop) (fs : List Fl) (A : Option Addr) (c : Nat) (tv : Value) (KK : List (List Tr.Kd)) (e : Ending) (w' : World) : Prop := ∃ pg, e = .returned (ptrV pg) ∧ ProgIs w w' P A c tv fs KK pg
section
variable {w : World} {P : Nat → Prop}
set_option maxHeartbeats 16000000 in
set_option maxRecDepth 100000 in
theorem sc_of {A At : Option Addr} {c ct : Nat} {fs : List Fl} {gts : List Nat} {KK : List (List Tr.Kd)} (hfs : FlR w A fs) (hfl : fs.length = KK.length) (hfew : fs.length ≤ 1000)
  (hrow : RowF w (fun _ => True) At (gts.map ptrV)) (hgl : gts.length = KK.length) (htr : ∀ (i gt : Nat) (ks : List Tr.Kd), gts[i]? = some gt → KK[i]? = some ks → ∃ d A c T ts, TreeIs w P gt d A c T ks ts)
  (hP : ∀ b, P b → b < w.heap.size) (hok : ∀ ks ∈ KK, KsOk ks) (hus : (Sc.usesM (Sc.wkOf fs KK)).length + 1000000 ≤ 1000000000) (hmany : Sc.manyM (Sc.wkOf fs KK) ≤ 100000000) :
  Calls Tryz.prog 73 #[.slice A fs.length c, .slice At gts.length ct] w (OfE w P fs A c (.slice At gts.length ct) KK) := by
 have hpm0 := World.ownsMap_made (H := Unit) w Tryz.prog 325 (plainElem Tryz.prog 3)
 have hd0 : Below w.heap.size w (w.alloc (.map #[] 0)) := (Below.refl _ _).alloc (Nat.le_refl _) _
 have hs0 := World.size_alloc w (.map #[] 0)
 have hd1 := hd0.alloc hd0.size (.cells #[.slice A fs.length c, .slice At gts.length ct, .slice none 0 0, .slice none 0 0, .slice none 0 0, .map (some w.heap.size)] 86)
 have hpm1 := hpm0.alloc (.cells #[.slice A fs.length c, .slice At gts.length ct, .slice none 0 0, .slice none 0 0, .slice none 0 0, .map (some w.heap.size)] 86)
 have hB1 := Blk.new (w.alloc (.map #[] 0)) 86 #[.slice A fs.length c, .slice At gts.length ct, .slice none 0 0, .slice none 0 0, .slice none 0 0, .map (some w.heap.size)]
 have hs1 := World.size_alloc (w.alloc (.map #[] 0)) (.cells #[.slice A fs.length c, .slice At gts.length ct, .slice none 0 0, .slice none 0 0, .slice none 0 0, .map (some w.heap.size)] 86)
 rw [hs0] at hB1 hs1
 obtain ⟨pg, hpg⟩ : ∃ x, x = w.heap.size + 1 := ⟨_, rfl⟩
 have hmm := @run_makeMap Tryz.prog
 rw [← hpg] at hB1 hs1
 have Hpg := Lib.hid hpg
 have Hs1 : Hid (((w.alloc (.map #[] 0)).alloc (.cells #[.slice A fs.length c, .slice At gts.length ct, .slice none 0 0, .slice none 0 0, .slice none 0 0, .map (some w.heap.size)] 86)).heap.size = pg + 1) := hs1
 have Hfl := Lib.hid hfl
 have Hgl := Lib.hid hgl
 have Hfew := Lib.hid hfew
 have Hrow := Lib.hid hrow
 have Htr := Lib.hid htr
 have HP := Lib.hid hP
 have Hok := Lib.hid hok
 have Hus := Lib.hid hus
 have Hmany := Lib.hid hmany
 have Hfs := Lib.hid hfs
 have HB1 := Lib.hid hB1
 have Hpm1 := Lib.hid hpm1
 have Hd1 := Lib.hid hd1
 clear hfl hgl hfew hrow htr hP hok hus hmany hfs hpm0 hd0 hs0 hs1 hpg hB1 hpm1 hd1
 unfold ptrV at *
 go_enter Tryz.func73, Tryz.ntmps73
 go_upto_region 2 with fail
 rw [show w.heap.size + 1 = pg from Hpg.out.symm]
 generalize (w.alloc (.map #[] 0)).alloc (.cells #[.slice A fs.length c, .slice At gts.length ct, .slice none 0 0, .slice none 0 0, .slice none 0 0, .map (some w.heap.size)] 86) = w1 at *
 have hO0 : OfR w w1 (pg + 1) P pg w.heap.size (.slice A fs.length c) (.slice At gts.length ct) [] [] [] [] none 0 none 0 := ⟨HB1.out, World.ownsRow_nil _ _ _ _, World.ownsRow_nil _ _ _ _, Hpm1.out, rfl, rfl, rfl, by simp, fun f l G m s h => by simp at h, Hd1.out, by rw [Hs1.out]; exact Nat.le_refl _⟩
 clear Hs1 HB1 Hpm1 Hd1
 obtain ⟨mb, hmb⟩ : ∃ x, x = w.heap.size := ⟨_, rfl⟩
 rw [← hmb] at hO0 ⊢
 have Hmb := Lib.hid hmb
 clear hmb
 obtain ⟨IT, hIT⟩ : ∃ x, x = (Sc.wkOf fs KK).items := ⟨_, rfl⟩
 have HIT := Lib.hid hIT
 clear hIT
 go_wp2_with fail
 go_loopg [24] gts.length (fun mm u wr => ∃ (i : Nat) (GG : List (List Nat)) (ms : List Nat) (ss : List (Option Addr × Nat × Nat)) (Ai : Option Addr) (ci : Nat) (Ad : Option Addr) (cd : Nat), u = .int .i64 (i : Int) ∧ i ≤ gts.length ∧ gts.length - i ≤ mm ∧
  OfR w wr (pg + 1) P pg mb (.slice A fs.length c) (.slice At gts.length ct) (IT.take i) GG ms ss Ai ci Ad cd)
 case atStart => exact ⟨0, [], [], [], none, 0, none, 0, rfl, Nat.zero_le _, Nat.le_refl _, hO0⟩
 case round =>
  obtain ⟨i, GG, ms, ss, Ai, ci, Ad, cd, rfl, hi, hm, hO⟩ := hrel
  clear hO0
  by_cases hlt : i < gts.length
  ·have ii0 : (0 : Int) ≤ (i : Int) := by omega
   have ii1 : (i : Int) < (gts.length : Int) := by omega
   have hiK : i < KK.length := by rw [← Hgl.out]; exact hlt
   obtain ⟨b0, o0, rfl, _, hl0, hc0⟩ := Hrow.out (by simp; omega)
   have hx0 := hc0 i (.pointer (some ⟨gts[i], 0, none⟩)) (by rw [List.getElem?_map, List.getElem?_eq_getElem hlt]; rfl)
   have q0 := (hO.bel.cell (p := ⟨b0, o0 + i, none⟩) hl0).trans hx0
   obtain ⟨d, At0, ct0, T, ts, htree⟩ := Htr.out i gts[i] KK[i] (List.getElem?_eq_getElem hlt) (List.getElem?_eq_getElem hiK)
   have hks := Hok.out KK[i] (List.getElem_mem hiK)
   have HITi : Hid (IT[i]? = some (Sc.itemsM i KK[i])) := by
    show _ = _
    rw [HIT.out]
    unfold Sc.wkOf
    dsimp only
    rw [List.getElem?_map, List.getElem?_zipIdx, List.getElem?_eq_getElem hiK]
    simp
   have htree := htree.under hO.bel
   generalize KK[i] = ks at *
   generalize gts[i] = gt at *
   have c1 : IntKind.i64.wrap ((i : Int) + 1) = (i : Int) + 1 := IntWalk.i64_in _ (by have := Hfew.out; have := Hfl.out; omega)
   have hkl : ks.length ≤ 1000000000 := Nat.le_trans hks.len (by omega)
   have hkw := kids_walk (htree.under ((Below.refl _ _).alloc (Nat.le_refl _) (.map #[] 0))) hkl
   have Hlt := Lib.hid hlt
   have Hm := Lib.hid hm
   have Hks := Lib.hid hks
   have HiK := Lib.hid hiK
   clear hi hm hlt hl0 hc0 hx0 htree hks hiK hkl
   go_wp2_with fail
   refine hkw.mono ?_
   clear hkw q0
   rintro e3 w3 ⟨vs, A3, c3, rfl, hown3, hkds, hd3⟩
   have hsm := World.size_alloc wr (.map #[] 0)
   have hfm0 := own_map_keep (World.ownsMap_made (H := Unit) wr Tryz.prog 9 itemElem) (hd3.block wr.heap.size (by rw [hsm]; omega))
   have hd3' : Below wr.heap.size wr w3 := ((Below.refl _ _).alloc (Nat.le_refl _) (.map #[] 0)).trans (hd3.mono (by rw [hsm]; omega))
   have Hown3 := Lib.hid (own_mono hown3 (by rw [hsm]; omega : wr.heap.size ≤ _))
   obtain ⟨n0, hn0⟩ : ∃ x, x = wr.heap.size := ⟨_, rfl⟩
   rw [← hn0] at hfm0 ⊢
   have Hn0 := Lib.hid hn0
   have Hd3 := Lib.hid hd3'
   have Hz3 : Hid (n0 ≤ w3.heap.size) := by show _ ≤ _; rw [hn0]; exact hd3'.size
   have hF0 : FiI w3 n0 P [] [] [] n0 none 0 := ⟨rfl, List.nodup_nil, fun k x g h => by simp at h, World.ownsRow_nil _ _ _ _, ⟨_, hfm0, MapIs.nil⟩, Nat.le_refl _⟩
   have Hwn : Hid (w.heap.size ≤ n0) := by show _ ≤ _; rw [hn0]; exact hO.bel.size
   have Hpn : Hid (pg + 1 ≤ n0) := by show _ ≤ _; rw [hn0]; exact hO.sz
   clear hd3 hd3' hn0 hown3 hsm hfm0 htree
   generalize wr = wo at *
   go_wp2_with fail
   obtain ⟨i0, ji, jz0, jz1, jz2⟩ := info_parts bd_itemp
   go_loopg [8, 33] ks.length (fun mm v u wi => ∃ (j : Nat) (G : List Nat) (Ar : Option Addr) (cr : Nat), v = .slice Ar G.length cr ∧ u = .int .i64 (j : Int) ∧ j ≤ ks.length ∧ ks.length - j ≤ mm ∧ FiI wi n0 P (Sc.itemsM i (ks.take j)) G G n0 Ar cr ∧ Below n0 w3 wi ∧ KeepC [229] w3 wi)
   case atStart => exact ⟨0, [], none, 0, rfl, rfl, Nat.zero_le _, Nat.le_refl _, hF0, Below.refl _ _, KeepC.refl _ _⟩
   case round =>
    obtain ⟨j, G, Ar, cr, rfl, rfl, hj, hm2, hF, hd4, hK4⟩ := hrel
    clear hF0
    by_cases hlt2 : j < ks.length
    ·have jj0 : (0 : Int) ≤ (j : Int) := by omega
     have jj1 : (j : Int) < (ks.length : Int) := by omega
     obtain ⟨q, e0, e1, e2, e3, hpq⟩ := hkds.at_ hlt2
     obtain ⟨r3, o3, rfl, hl3, hc3⟩ := (Rd.of_own Hown3.out).2 (by omega)
     have hty3 : wr.heap[r3]? = w3.heap[r3]? := by
      obtain ⟨cs, fr, h1⟩ := own_ty Hown3.out r3 rfl
      exact (hK4 r3 cs _ fr h1 (by decide)).trans h1.symm
     have q0 := (World.cell?_of_block (a := ⟨r3, o3 + j * 4, none⟩) hty3).trans (hc3 _ _ e0)
     have q1 := (World.cell?_of_block (a := ⟨r3, o3 + (j * 4 + 1), none⟩) hty3).trans (hc3 _ _ e1)
     have q2 := (World.cell?_of_block (a := ⟨r3, o3 + (j * 4 + 2), none⟩) hty3).trans (hc3 _ _ e2)
     have q3 := (World.cell?_of_block (a := ⟨r3, o3 + (j * 4 + 3), none⟩) hty3).trans (hc3 _ _ e3)
     rw [← Nat.add_assoc] at q1 q2 q3
     have hkd := Hks.out.kids ks[j] (List.getElem_mem hlt2)
     have HT : Hid (Sc.itemsM i (ks.take (j + 1)) = Sc.itemsM i (ks.take j) ++ (if Sc.isItem ks[j] then [Sc.itemM i ks[j]] else [])) := by
      show _ = _
      rw [List.take_succ_eq_append_getElem hlt2]
      unfold Sc.itemsM
      rw [List.filter_append, List.map_append]
      congr 1
      by_cases h : Sc.isItem ks[j] = true <;> simp [h]
     have c2 : IntKind.i64.wrap ((j : Int) + 1) = (j : Int) + 1 := IntWalk.i64_in _ (by have := Hks.out.len; omega)
     have Hpq : Hid (PtF wr P ks[j].part (.iface 114 (.pointer (some ⟨q, 0, none⟩)))) := PtF.keep hd4.size (fun b hb _ => ⟨hd4.block b (Nat.lt_of_lt_of_le (HP.out b hb) Hwn.out), hb⟩) _ _ hpq
     have Hkd := Lib.hid hkd
     generalize ks[j] = k at *
     have Hll : Hid ((Sc.itemsM i (ks.take j)).length ≤ 1000000) := by
      have h1 : (Sc.itemsM i (ks.take j)).length ≤ (ks.take j).length := by unfold Sc.itemsM; rw [List.length_map]; exact List.length_filter_le _ _
      have := Hks.out.len
      rw [List.length_take] at h1
      show _ ≤ _
      omega
     generalize Sc.itemsM i (ks.take j) = l at *
     have Hlt2 := Lib.hid hlt2
     have Hm2 := Lib.hid hm2
     have hr0 := Blk.new wr 116 (kidC q k.base k.first k.last)
     have hd5 : Below wr.heap.size wr (wr.alloc (.cells (kidC q k.base k.first k.last) 116)) := (Below.refl _ _).alloc (Nat.le_refl _) _
     clear e0 e1 e2 e3 hc3 hty3 hl3 hkd hpq hlt2 hm2 hj
     unfold kidC at hr0 hd5
     unfold ptrV at hr0 hd5
     go_upto_region 10 with fail
     obtain ⟨kb, hkb⟩ : ∃ x, x = wr.heap.size := ⟨_, rfl⟩
     rw [← hkb] at hr0 ⊢
     have Hkb : Hid (kb = wr.heap.size) := hkb
     have hn0k : n0 ≤ wr.heap.size := Nat.le_trans Hz3.out hd4.size
     have hF5 := hF.below hd5
     have hpq5 := PtF.below Hpq.out hd5
     have hd5' := hd4.trans (hd5.mono hn0k)
     have hK5 : KeepC [229] w3 (wr.alloc (.cells #[.pointer (some ⟨q, 0, none⟩), .int .i64 (k.base : Int), .int .i64 (k.first : Int), .int .i64 (k.last : Int)] 116)) := hK4.trans (KeepC.below hd5)
     have hnew5 : ∀ g ∈ G, g < kb := fun g hg => by rw [hkb]; exact hF.lt hg
     have Hn0k : Hid (n0 ≤ kb) := by show _ ≤ _; rw [hkb]; exact hn0k
     clear hkb hd5 hd4 hK4 hF Hpq hn0k q0 q1 q2 q3
     generalize wr.alloc (.cells #[.pointer (some ⟨q, 0, none⟩), .int .i64 (k.base : Int), .int .i64 (k.first : Int), .int .i64 (k.last : Int)] 116) = w5 at *
     obtain ⟨kd, at_, l0, hkp⟩ : ∃ kd at_ l0, k.part = .branch kd at_ l0 := by
      cases hp : k.part with
      | leaf a b d => rw [hp] at hpq5; obtain ⟨g, e, _⟩ := hpq5; injection e with e; exact absurd e (by decide)
      | gap a b d => rw [hp] at hpq5; obtain ⟨g, e, _⟩ := hpq5; injection e with e; exact absurd e (by decide)
      | branch a b d => exact ⟨a, b, d, rfl⟩
     have hq0 : w5.cell? ⟨q, 0, none⟩ = some (.int .i64 (kd : Int)) := by
      have h := hpq5
      rw [hkp] at h
      obtain ⟨q', e, _, Ab, cb, vb, hB, _⟩ := h
      injection e with _ e
      injection e with e
      injection e with e
      injection e with e
      subst e
      have := hB.cell 0
      simpa using this
     have HI : Hid (Sc.isItem k = (kd == 3 || kd == 4)) := by show _ = _; unfold Sc.isItem Sc.kindOf; rw [hkp]
     have k0 := hr0.cell 0
     simp at k0
     clear hkp
     go_cut [50] (fun s wc => s = .bool (!Sc.isItem k) ∧ wc = w5)
     case first =>
      by_cases h3 : kd = 3
      ·subst h3
       go_wp2_with fail
       go_meet
       exact ⟨by rw [HI.out]; rfl, rfl⟩
      ·have n3 : ((kd : Int) != (3 : Int)) = true := by simp; omega
       by_cases h4 : kd = 4
       ·subst h4
        go_wp2_with fail
        go_meet
        exact ⟨by rw [HI.out]; rfl, rfl⟩
       ·have n4 : ((kd : Int) != (4 : Int)) = true := by simp; omega
        have HI2 : Hid (Sc.isItem k = false) := by show _ = _; rw [HI.out]; simp [h3, h4]
        clear HI h3 h4
        go_wp2_with fail
        go_meet
        exact ⟨by rw [HI2.out]; rfl, rfl⟩
     case rest =>
      obtain ⟨rfl, rfl⟩ := hcut
      clear hq0 k0 HI
      cases hit : Sc.isItem k with
      | false =>
       rw [hit] at HT
       have HT2 : Hid (Sc.itemsM i (ks.take (j + 1)) = l) := by show _ = _; rw [HT.out]; simp
       clear hit HT
       go_wp2_with fail
       go_roundg (ks.length - (j + 1))
       case rel => exact ⟨j + 1, G, Ar, cr, rfl, by go_num, by have := Hlt2.out; omega, Nat.le_refl _, by rw [HT2.out]; exact hF5, hd5', hK5⟩
       case measure => have := Hlt2.out; have := Hm2.out; omega
      | true =>
       obtain ⟨hx, hlow, hcnt⟩ := Hkd.out hit
       rw [hit] at HT
       have HT2 : Hid (Sc.itemsM i (ks.take (j + 1)) = l ++ [Sc.itemM i k]) := by show _ = _; rw [HT.out]; simp
       have hio := sc_itemOf hpq5 hx hlow i
       clear hit HT hx hcnt
       have Hlow := Lib.hid hlow
       clear hlow
       have hil := item_low (n := i) Hlow.out
       generalize Sc.itemM i k = x at *
       unfold kidC ptrV at hio
       have Hnm : Hid (∀ y : Sc.Wd, x.name = some y → y.text.length ≤ 1000000) := fun y e => (hil y (.inl e)).2
       clear Hlow hil
       have k0 := hr0.cell 0
       have k1 := hr0.cell 1
       have k2 := hr0.cell 2
       have k3 := hr0.cell 3
       simp at k0 k1 k2 k3
       go_wp2_with fail
       refine hio.mono ?_
       clear hio k0 k1 k2 k3
       rintro e6 w6 ⟨g, rfl, hg, hG6, hd6⟩
       have hwn : n0 ≤ wc.heap.size := Nat.le_trans Hn0k.out (Nat.le_of_lt hr0.lt)
       have Hgn : Hid (g ∉ G) := fun h => by have := hnew5 g h; have := hr0.lt; omega
       have Hng : Hid (n0 ≤ g) := Nat.le_trans hwn hg
       have HPn : Hid (∀ b, P b → b < n0) := fun b hb => Nat.lt_of_lt_of_le (HP.out b hb) Hwn.out
       have hG6' := hG6.mono (F' := fun b => n0 ≤ b) fun b hb => Nat.le_trans hwn hb
       have hd6' := hd5'.trans (hd6.mono hwn)
       have hK6 := hK5.trans (KeepC.below (T := [229]) hd6)
       have hF6 := hF5.below hd6
       obtain ⟨_, _, pb, nv, Ap, cp, ev, mv, me, av, hB, _, hnw, _⟩ := hG6
       have x5 := hB.cell 5
       simp [itC] at x5
       have hne := fun w' => (ne_word hnw (.tmp 57) (.const (.pointer none)) w').1
       have hne2 := fun w' => (ne_word hnw (.tmp 57) (.const (.pointer none)) w').2
       clear hpq5 hnew5 hr0 Hkb Hn0k
       unfold ptrV at *
       go_upto_if 58 with fail
       clear hne hne2
       go_cut [] (fun wx => FiI wx n0 P (l ++ [x]) (G ++ [g]) G n0 Ar cr ∧ Below n0 w3 wx ∧ KeepC [229] w3 wx)
       case first =>
        cases hxn : x.name with
        | none =>
         have HF7 := Lib.hid (hF6.skip (x := x) (g := g) (by rw [Sc.twice_last, hxn]; exact hG6') Hgn.out fun n hn => by unfold Sc.named at hn; rw [hxn] at hn; cases hn)
         clear hxn x5
         go_wp2_with fail
         go_meet
         exact ⟨HF7.out, hd6', hK6⟩
        | some y =>
         rw [hxn] at hnw
         obtain ⟨gw, rfl, _, hBw⟩ := hnw
         have u0 := hBw.cell 0
         simp at u0
         obtain ⟨D, hmD, hDi⟩ := hF6.map
         have hlk := found_run hmD hDi hF6.gl y.text (by have := Hnm.out y hxn; unfold maxLen; omega)
         have Htw : Hid (Sc.twiceM (l ++ [x]) l.length = (Sc.foundM l y.text).isSome) := by show _ = _; rw [Sc.twice_last, hxn]
         have x4 := hB.cell 4
         have y4 := hB.frozen 4
         simp [itC] at x4
         have Hxn := Lib.hid hxn
         have Hf := Lib.hid (rfl : Sc.foundM l y.text = Sc.foundM l y.text)
         generalize foundV l G y.text = fv at *
         generalize hfm : Sc.foundM l y.text = fm at *
         have Hfm := Lib.hid hfm
         have HmD := Lib.hid hmD
         clear hfm hxn Hf hmD
         have HDi := Lib.hid hDi
         clear hDi
         go_upto_region 14 with fail
         have hG7 := hG6'.twice fm.isSome HPn.out Hng.out
         have hd7 := hd6.setCell (p := ⟨g, 4, none⟩) hg (.bool fm.isSome)
         have hF7 := hF5.below hd7
         have hd7' := hd5'.trans (hd7.mono hwn)
         have hK7 := hK5.trans (KeepC.below (T := [229]) hd7)
         have hB7 := hB.set_ 4 (.bool fm.isSome)
         unfold itC at hB7
         simp at hB7
         have hm7 := own_map_keep HmD.out ((grown_set w6 g 4 (.bool fm.isSome)).block n0 HmD.out.lt fun e => map_ne HmD.out hB (by injection e with e; exact e.symm))
         have hBw7 := hBw.keepC (KeepC.set hB (List.mem_singleton.2 rfl) (i := 4) (v := .bool fm.isSome)) (by decide)
         clear u0 hlk x4 y4 hBw x5 hB hF6 hG6' hd6' hK6 hF5 hd5' hK5 hd6 HmD hd7 hg hwn
         generalize w6.setCell ⟨g, 4, none⟩ (.bool fm.isSome) = w7 at *
         have x4 := hB7.cell 4
         have x5 := hB7.cell 5
         simp at x4 x5
         cases fm with
         | some kf =>
          have HF8 := Lib.hid (hF7.skip (x := x) (g := g) (by rw [Htw.out]; exact hG7) Hgn.out fun n hn => by
           unfold Sc.named at hn
           rw [Hxn.out] at hn
           dsimp only at hn
           have e := eq_of_beq hn
           rw [← e, Hfm.out]
           rfl)
          clear hm7 hF7 hG7 hB7 hBw7
          go_wp2_with fail
          go_meet
          exact ⟨HF8.out, hd7', hK7⟩
         | none =>
          have hz7 : n0 ≤ w7.heap.size := Nat.le_trans Hng.out (Nat.le_of_lt hB7.lt)
          have w0c := hBw7.cell 0
          simp at w0c
          have hkl : keyOf Tryz.prog 9 (.string ⟨y.text.toArray⟩) = some (.string y.text) := by
           have h1 := WideMaps.keyOf_string_mk (P := Tryz.prog) Tryz.underlying9 (s := (⟨y.text.toArray⟩ : ByteArray)) (by rw [mk_size]; have := Hnm.out y Hxn.out; unfold maxLen; omega)
           simpa using h1
          have HF7 := Lib.hid hF7
          have HG7 := Lib.hid hG7
          have Hz7 := Lib.hid hz7
          clear hF7 hG7 hB7 hz7 hBw7
          go_wp2_with (at_mapUpdate; refine wpList_mapUpdate_own (H := Unit) w7 rfl _ _ _ 228 rfl 9 229 keyStr Tryz.underlying228 itemElem n0 l.length D rfl hm7 (by have := Hll.out; unfold maxLen; omega) _ _ _ rfl rfl hkl (.lit (.int .i64 (g : Int))) [] rfl ?_; intro w8 hm8 hg8)
          go_meet
          have hF8 := HF7.out.put HPn.out (x := x) (g := g) (by rw [Htw.out]; exact HG7.out) Hgn.out Hxn.out Hfm.out hg8 hm7 HDi.out hm8
          have hd8 : Below n0 w7 w8 := (Below.refl _ _).grown hg8 Hz7.out fun j hj => by injection hj with hj; exact hj ▸ Nat.le_refl _
          exact ⟨hF8, hd7'.trans hd8, hK7.trans ((KeepM.map hm7 hg8).mono (by simp))⟩
       case rest =>
        obtain ⟨hF8, hd8, hK8⟩ := hcut
        have hwn8 : n0 ≤ wc.heap.size := Nat.le_trans Hz3.out hd8.size
        have hrow8 := hF8.row
        have Hgl8 : Hid (G.length ≤ 1000000000) := by have h1 := hF8.gl; rw [List.length_append, List.length_append] at h1; have := Hll.out; show _ ≤ _; simp at h1; omega
        have HF8 := Lib.hid hF8
        have Hwn8 := Lib.hid hwn8
        clear hwn8 hF8 x5 hd6' hF6 hK6 hG6' hB hnw hF5 hd5' hK5 hg hwn hd6
        go_wp2_with (at_builtin; refine wpList_push _ rfl _ _ 227 rfl n0 229 1 8 Tryz.underlying227 ji jz0 jz1 jz2 rfl (by omega) rfl hrow8 #[.pointer (some ⟨g, 0, none⟩)] rfl rfl (by simp [Value.oneCell']) Hgl8.out (by omega) Hwn8.out ?_; intro A' c' w9 hown9 hd9 hg9)
        have hF9 := HF8.out.push HPn.out (by rw [List.length_append, List.map_append]; exact hown9) hd9 hg9
        go_roundg (ks.length - (j + 1))
        case rel => exact ⟨j + 1, G ++ [g], A', c', by rw [List.length_append]; rfl, by go_num, by have := Hlt2.out; omega, Nat.le_refl _, by rw [HT2.out]; exact hF9, hd8.trans hd9, hK8.trans (KeepC.row hrow8 hg9)⟩
        case measure => have := Hlt2.out; have := Hm2.out; omega
    ·obtain rfl : j = ks.length := by omega
     have i1 : ¬ (ks.length : Int) < (ks.length : Int) := by omega
     have i2 : decide (ks.length < ks.length) = false := by simp
     rw [List.take_length] at hF
     have HTi : Hid (IT.take (i + 1) = IT.take i ++ [Sc.itemsM i ks]) := by
      show _ = _
      have h := HITi.out
      have hlt := (List.getElem?_eq_some_iff.1 h).1
      rw [List.take_succ_eq_append_getElem hlt, (List.getElem?_eq_some_iff.1 h).2]
     generalize Sc.itemsM i ks = l at *
     have Hd34 := Lib.hid (Hd3.out.trans (hd4.mono (by rw [← Hn0.out]; exact Nat.le_refl _)))
     have hO4 := hO.below Hd34.out
     clear hlt2 hj hm2 hd4 hK4
     go_upto_region 18 with fail
     have hM : Mid w wr (pg + 1) n0 P pg mb (.slice A fs.length c) (.slice (some ⟨b0, o0, none⟩) gts.length ct) (IT.take i) GG ms ss (.slice Ai (IT.take i).length ci) (.slice Ad (IT.take i).length cd) l G Ar cr (.slice Ai (IT.take i).length ci) (IT.take i).length (ss.map slV) (.slice Ad (IT.take i).length cd) (IT.take i).length (ms.map fun m => .map (some m)) :=
      ⟨hO4.blk, hO4.ri, hO4.rd, hO4.pm, hO4.fi, hF, hO4.bel, hO4.sz⟩
     have hwB : w.heap.size ≤ pg + 1 := by have := Hpg.out; omega
     have hN : (IT.take i).length ≤ 1000 := by rw [List.length_take]; have := HiK.out; have := Hfl.out; have := Hfew.out; omega
     have hfin : ∀ (u : World) (A1 : Option Addr) (c1 : Nat) (A2 : Option Addr) (c2 : Nat), Mid w u (pg + 1) n0 P pg mb (.slice A fs.length c) (.slice (some ⟨b0, o0, none⟩) gts.length ct) (IT.take i) GG ms ss (.slice Ai (IT.take i).length ci) (.slice Ad (IT.take i).length cd) l G Ar cr (.slice A1 ((IT.take i).length + 1) c1) ((IT.take i).length + 1) (ss.map slV ++ [.slice Ar G.length cr]) (.slice A2 ((IT.take i).length + 1) c2) ((IT.take i).length + 1) ((ms.map fun m => .map (some m)) ++ [.map (some n0)]) →
       OfR w ((u.setCell ⟨pg, 2, none⟩ (.slice A1 ((IT.take i).length + 1) c1)).setCell ⟨pg, 4, none⟩ (.slice A2 ((IT.take i).length + 1) c2)) (pg + 1) P pg mb (.slice A fs.length c) (.slice (some ⟨b0, o0, none⟩) gts.length ct) (IT.take i ++ [l]) (GG ++ [G]) (ms ++ [n0]) (ss ++ [(Ar, G.length, cr)]) A1 c1 A2 c2 := fun u A1 c1 A2 c2 h =>
      h.done HP.out hwB (by have := Hpg.out; omega) (by omega) Hpn.out rfl rfl rfl rfl (by rw [List.map_append]; rfl) (by rw [List.map_append]; rfl) hO.gl hO.ml hO.sl hO.nd (fun g hg => by rw [Hn0.out]; exact hO.few hg) fun g hg => hF.ge hg
     obtain ⟨qi0, qi1, qi2, qi3, qi4⟩ := info_parts bd_items
     obtain ⟨qd0, qd1, qd2, qd3, qd4⟩ := info_parts bd_mapi
     have Hfin := Lib.hid hfin
     have hfin := Hfin.out
     clear hO4 hF hO Hfin ji jz0 jz1 jz2 i0 i1 i2
     generalize IT.take i = LL at *
     refine wp_region_C (fun j w' => j ∉ [1, 9, 10, 11, 13, 18, 19, 20, 21] → w'.cell? ⟨pg, 2, none⟩ = some (.slice Ai LL.length ci) ∧ w'.cell? ⟨pg, 4, none⟩ = some (.slice Ad LL.length cd)) (by kernel_rfl) ?_
     have hM := hM.below ((Below.refl _ _).drew)
     generalize wr.drew = w2 at *
     have c2 := hM.blk.cell 2
     have c4 := hM.blk.cell 4
     simp at c2 c4
     have hS0 : (fun w' : World => w'.cell? ⟨pg, 2, none⟩ = some (.slice Ai LL.length ci) ∧ w'.cell? ⟨pg, 4, none⟩ = some (.slice Ad LL.length cd)) w2 := ⟨c2, c4⟩
     refine wpAnyC_take (fun _ => True) [] (i := 1) (v := ?_) rfl (by kernel_rfl) (by kernel_rfl) (by kernel_rfl) (by kernel_rfl) (fun _ _ _ h => h) (fun _ _ _ _ _ _ => trivial) (fun w' _ h => absurd (by simp) h) (Or.inl ⟨by rfl, ?_⟩) trivial ?_; rotate_left; · (intro w hSw; go_simp; try with_reducible rfl)
     simp only [Act.put, List.setIfInBounds_toArray]
     refine wpAnyC_take (fun _ => True) [] (i := 9) (v := ?_) rfl (by kernel_rfl) (by kernel_rfl) (by kernel_rfl) (by kernel_rfl) (fun _ _ _ h => h) (fun _ _ _ _ _ _ => trivial) (fun w' _ h => absurd (by simp) h) (Or.inl ⟨by rfl, ?_⟩) trivial ?_; rotate_left; · (intro w hSw; go_simp; try with_reducible rfl)
     simp only [Act.put]
     refine wpAnyC_take (fun _ => True) [] (i := 10) (v := ?_) rfl (by kernel_rfl) (by kernel_rfl) (by kernel_rfl) (by kernel_rfl) (fun _ _ _ h => h) (fun _ _ _ _ _ _ => trivial) (fun w' _ h => absurd (by simp) h) (Or.inl ⟨by rfl, ?_⟩) trivial ?_; rotate_left; · (intro w hSw; go_simp; try with_reducible rfl)
     simp only [Act.put]
     refine wpAnyC_take (fun _ => True) [] (i := 11) (v := ?_) rfl (by kernel_rfl) (by kernel_rfl) (by kernel_rfl) (by kernel_rfl) (fun _ _ _ h => h) (fun _ _ _ _ _ _ => trivial) (fun w' _ h => absurd (by simp) h) (Or.inl ⟨by rfl, ?_⟩) trivial ?_; rotate_left; · (intro w hSw; go_simp; try with_reducible rfl)
     simp only [Act.put]
     refine wpAnyC_take (fun _ => True) [] (i := 13) (v := ?_) rfl (by kernel_rfl) (by kernel_rfl) (by kernel_rfl) (by kernel_rfl) (fun _ _ _ h => h) (fun _ _ _ _ _ _ => trivial) (fun w' _ h => absurd (by simp) h) (Or.inl ⟨by rfl, ?_⟩) trivial ?_; rotate_left; · (intro w hSw; go_simp; try with_reducible rfl)
     simp only [Act.put]
     refine wpAnyC_take (fun w' : World => w'.cell? ⟨pg, 2, none⟩ = some (.slice Ai LL.length ci) ∧ w'.cell? ⟨pg, 4, none⟩ = some (.slice Ad LL.length cd)) [18, 19, 20, 21] (i := 0) (v := ?_) rfl (by kernel_rfl) (by kernel_rfl) (by kernel_rfl) (by kernel_rfl) (fun _ _ _ h => h) (fun j w' hl _ hL h => h fun hm => by simp only [List.mem_cons, List.mem_nil_iff, or_false] at hm hL; rcases hm with rfl | rfl | rfl | rfl | rfl | rfl | rfl | rfl | rfl <;> first | exact absurd hl (by decide) | exact hL (by simp)) (fun w' h _ => h) (Or.inl ⟨by rfl, ?_⟩) hS0 ?_; rotate_left; · (intro w hSw; obtain ⟨s1, s2⟩ := hSw; go_simp; try with_reducible rfl)
     simp only [Act.put]
     refine wpAnyC_take (fun w' : World => w'.cell? ⟨pg, 2, none⟩ = some (.slice Ai LL.length ci) ∧ w'.cell? ⟨pg, 4, none⟩ = some (.slice Ad LL.length cd)) [18, 19, 20, 21] (i := 2) (v := ?_) rfl (by kernel_rfl) (by kernel_rfl) (by kernel_rfl) (by kernel_rfl) (fun _ _ _ h => h) (fun j w' hl _ hL h => h fun hm => by simp only [List.mem_cons, List.mem_nil_iff, or_false] at hm hL; rcases hm with rfl | rfl | rfl | rfl | rfl | rfl | rfl | rfl | rfl <;> first | exact absurd hl (by decide) | exact hL (by simp)) (fun w' h _ => h) (Or.inl ⟨by rfl, ?_⟩) hS0 ?_; rotate_left; · (intro w hSw; obtain ⟨s1, s2⟩ := hSw; go_simp; try with_reducible rfl)
     simp only [Act.put]
     refine wpAnyC_take (fun w' : World => w'.cell? ⟨pg, 2, none⟩ = some (.slice Ai LL.length ci) ∧ w'.cell? ⟨pg, 4, none⟩ = some (.slice Ad LL.length cd)) [18, 19, 20, 21] (i := 3) (v := ?_) rfl (by kernel_rfl) (by kernel_rfl) (by kernel_rfl) (by kernel_rfl) (fun _ _ _ h => h) (fun j w' hl _ hL h => h fun hm => by simp only [List.mem_cons, List.mem_nil_iff, or_false] at hm hL; rcases hm with rfl | rfl | rfl | rfl | rfl | rfl | rfl | rfl | rfl <;> first | exact absurd hl (by decide) | exact hL (by simp)) (fun w' h _ => h) (Or.inl ⟨by rfl, ?_⟩) hS0 ?_; rotate_left; · (intro w hSw; obtain ⟨s1, s2⟩ := hSw; go_simp; try with_reducible rfl)
     simp only [Act.put]
     refine wpAnyC_take (fun w' : World => w'.cell? ⟨pg, 2, none⟩ = some (.slice Ai LL.length ci) ∧ w'.cell? ⟨pg, 4, none⟩ = some (.slice Ad LL.length cd)) [18, 19, 20, 21] (i := 4) (v := ?_) rfl (by kernel_rfl) (by kernel_rfl) (by kernel_rfl) (by kernel_rfl) (fun _ _ _ h => h) (fun j w' hl _ hL h => h fun hm => by simp only [List.mem_cons, List.mem_nil_iff, or_false] at hm hL; rcases hm with rfl | rfl | rfl | rfl | rfl | rfl | rfl | rfl | rfl <;> first | exact absurd hl (by decide) | exact hL (by simp)) (fun w' h _ => h) (Or.inl ⟨by rfl, ?_⟩) hS0 ?_; rotate_left; · (intro w hSw; obtain ⟨s1, s2⟩ := hSw; go_simp; try with_reducible rfl)
     simp only [Act.put]
     refine wpAnyC_take (fun w' : World => w'.cell? ⟨pg, 2, none⟩ = some (.slice Ai LL.length ci) ∧ w'.cell? ⟨pg, 4, none⟩ = some (.slice Ad LL.length cd)) [18, 19, 20, 21] (i := 5) (v := ?_) rfl (by kernel_rfl) (by kernel_rfl) (by kernel_rfl) (by kernel_rfl) (fun _ _ _ h => h) (fun j w' hl _ hL h => h fun hm => by simp only [List.mem_cons, List.mem_nil_iff, or_false] at hm hL; rcases hm with rfl | rfl | rfl | rfl | rfl | rfl | rfl | rfl | rfl <;> first | exact absurd hl (by decide) | exact hL (by simp)) (fun w' h _ => h) (Or.inl ⟨by rfl, ?_⟩) hS0 ?_; rotate_left; · (intro w hSw; obtain ⟨s1, s2⟩ := hSw; go_simp; try with_reducible rfl)
     simp only [Act.put]
     refine wpAnyC_take (fun w' : World => w'.cell? ⟨pg, 2, none⟩ = some (.slice Ai LL.length ci) ∧ w'.cell? ⟨pg, 4, none⟩ = some (.slice Ad LL.length cd)) [18, 19, 20, 21] (i := 6) (v := ?_) rfl (by kernel_rfl) (by kernel_rfl) (by kernel_rfl) (by kernel_rfl) (fun _ _ _ h => h) (fun j w' hl _ hL h => h fun hm => by simp only [List.mem_cons, List.mem_nil_iff, or_false] at hm hL; rcases hm with rfl | rfl | rfl | rfl | rfl | rfl | rfl | rfl | rfl <;> first | exact absurd hl (by decide) | exact hL (by simp)) (fun w' h _ => h) (Or.inl ⟨by rfl, ?_⟩) hS0 ?_; rotate_left; · (intro w hSw; obtain ⟨s1, s2⟩ := hSw; go_simp; try with_reducible rfl)
     simp only [Act.put]
     refine wpAnyC_take (fun w' : World => w'.cell? ⟨pg, 2, none⟩ = some (.slice Ai LL.length ci) ∧ w'.cell? ⟨pg, 4, none⟩ = some (.slice Ad LL.length cd)) [18, 19, 20, 21] (i := 12) (v := ?_) rfl (by kernel_rfl) (by kernel_rfl) (by kernel_rfl) (by kernel_rfl) (fun _ _ _ h => h) (fun j w' hl _ hL h => h fun hm => by simp only [List.mem_cons, List.mem_nil_iff, or_false] at hm hL; rcases hm with rfl | rfl | rfl | rfl | rfl | rfl | rfl | rfl | rfl <;> first | exact absurd hl (by decide) | exact hL (by simp)) (fun w' h _ => h) (Or.inl ⟨by rfl, ?_⟩) hS0 ?_; rotate_left; · (intro w hSw; obtain ⟨s1, s2⟩ := hSw; go_simp; try with_reducible rfl)
     simp only [Act.put]
     clear hS0 c2 c4
     refine wpAnyC_two (i := 7) (j := 14) (by kernel_rfl) rfl rfl (fun K hK => ?_) (fun K hK => ?_)
     ·go_simp
      obtain ⟨T7, hT7⟩ : ∃ T, T = w2.heap.size := ⟨_, rfl⟩
      rw [← hT7]
      have hBT7 : Blk (World.alloc w2 (.cells #[.slice Ar G.length cr] 227)) T7 227 #[.slice Ar G.length cr] := by rw [hT7]; exact Blk.new _ _ _
      have hM := hM.below ((Below.refl _ _).alloc (Nat.le_refl _) (.cells #[.slice Ar G.length cr] 227))
      clear hT7
      generalize World.alloc w2 (.cells #[.slice Ar G.length cr] 227) = w3 at *
      have c2 := hM.blk.cell 2
      have c4 := hM.blk.cell 4
      simp at c2 c4
      refine hK.out _ _ (fun _ => ⟨c2, c4⟩) ?_
      clear hK K c2 c4
      refine wpAnyC_two (i := 8) (j := 14) (by kernel_rfl) rfl rfl (fun K hK => ?_) (fun K hK => ?_)
      ·refine step_append_gen (by rfl) _ _ _ (by rfl) (pg + 1) 227 qi0 _ 1 24 Tryz.underlying82 qi1 qi2 qi3 qi4 rfl (by omega) (.slice Ai LL.length ci) LL.length (ss.map slV) (by rfl) hM.ri ⟨T7, 0, none⟩ 1 1 [.slice Ar G.length cr] (by rfl) (by rfl) (World.news_of_block (cs := #[.slice Ar G.length cr]) (t := 227) (fr := (0, 0)) hBT7) (by simp [Value.oneCell']) (by unfold maxLen; omega) (by omega) hM.sz ?_; intro vi w4 howni hgi
       have hMn := hM.pushI HP.out hwB howni hgi
       clear hgi hM hBT7
       have hM := hMn
       clear hMn
       have c2 := hM.blk.cell 2
       have c4 := hM.blk.cell 4
       simp at c2 c4
       refine hK.out _ _ (fun _ => ⟨c2, c4⟩) ?_
       clear hK K c2 c4
       refine wpAnyC_one (i := 14) (by kernel_rfl) rfl (fun K hK => ?_)
       go_simp
       obtain ⟨T14, hT14⟩ : ∃ T, T = w4.heap.size := ⟨_, rfl⟩
       rw [← hT14]
       have hBT14 : Blk (World.alloc w4 (.cells #[.map (some n0)] 228)) T14 228 #[.map (some n0)] := by rw [hT14]; exact Blk.new _ _ _
       have hM := hM.below ((Below.refl _ _).alloc (Nat.le_refl _) (.cells #[.map (some n0)] 228))
       clear hT14
       generalize World.alloc w4 (.cells #[.map (some n0)] 228) = w5 at *
       have c2 := hM.blk.cell 2
       have c4 := hM.blk.cell 4
       simp at c2 c4
       refine hK.out _ _ (fun _ => ⟨c2, c4⟩) ?_
       clear hK K c2 c4
       refine wpAnyC_one (i := 15) (by kernel_rfl) rfl (fun K hK => ?_)
       refine step_append_gen (by rfl) _ _ _ (by rfl) (pg + 1) 228 qd0 _ 1 8 Tryz.underlying83 qd1 qd2 qd3 qd4 rfl (by omega) (.slice Ad LL.length cd) LL.length (ms.map fun m => .map (some m)) (by rfl) hM.rd ⟨T14, 0, none⟩ 1 1 [.map (some n0)] (by rfl) (by rfl) (World.news_of_block (cs := #[.map (some n0)]) (t := 228) (fr := (0, 0)) hBT14) (by simp [Value.oneCell']) (by unfold maxLen; omega) (by omega) hM.sz ?_; intro vd w6 hownd hgd
       have hMn := hM.pushD HP.out hwB hownd hgd
       clear hgd hM hBT14
       have hM := hMn
       clear hMn
       have c2 := hM.blk.cell 2
       have c4 := hM.blk.cell 4
       simp at c2 c4
       refine hK.out _ _ (fun _ => ⟨c2, c4⟩) ?_
       clear hK K c2 c4
       obtain ⟨A1, c1', rfl, _⟩ := own_cap howni
       obtain ⟨A2, c2', rfl, _⟩ := own_cap hownd
       have c2 := hM.blk.cell 2
       have c4 := hM.blk.cell 4
       simp at c2 c4
       have y2 := hM.blk.frozen 2
       refine wpAnyC_one (i := 16) (by kernel_rfl) rfl (fun K hK => ?_)
       go_simp
       refine hK.out _ _ (fun _ => ⟨c2, c4⟩) ?_
       clear hK K
       refine wpAnyC_one (i := 17) (by kernel_rfl) rfl (fun K hK => ?_)
       go_simp
       refine hK.out _ _ (fun _ => ⟨c2, c4⟩) ?_
       clear hK K
       have hB2 := hM.blk.set_ 2 (.slice A1 (LL.length + 1) c1')
       have z4 := hB2.cell 4
       have y4 := hB2.frozen 4
       simp at z4
       refine wpAnyC_one (i := 18) (by kernel_rfl) rfl (fun K hK => ?_)
       go_simp
       refine hK.out _ _ (fun h => absurd (by simp) h) ?_
       clear hK K
       refine wpAnyC_one (i := 19) (by kernel_rfl) rfl (fun K hK => ?_)
       go_simp
       refine hK.out _ _ (fun h => absurd (by simp) h) ?_
       clear hK K
       refine wpAnyC_one (i := 20) (by kernel_rfl) rfl (fun K hK => ?_)
       go_simp
       refine hK.out _ _ (fun h => absurd (by simp) h) ?_
       clear hK K
       refine wpAnyC_one (i := 21) (by kernel_rfl) rfl (fun K hK => ?_)
       go_simp
       refine hK.out _ _ (fun h => absurd (by simp) h) ?_
       clear hK K
       refine wpAnyC_done (by kernel_rfl) ?_ _
       have hE := hfin _ _ _ _ _ hM
       clear c2 c4 y2 hB2 z4 y4 hM
       rw [← HTi.out] at hE
       generalize World.setCell (World.setCell w6 ⟨pg, 2, none⟩ (.slice A1 (LL.length + 1) c1')) ⟨pg, 4, none⟩ (.slice A2 (LL.length + 1) c2') = wz at *
       go_wp2_with fail
       go_roundg (gts.length - (i + 1))
       case rel => exact ⟨i + 1, _, _, _, _, _, _, _, by go_num, by have := Hlt.out; omega, Nat.le_refl _, hE⟩
       case measure => have := Hlt.out; have := Hm.out; omega
      ·go_simp
       obtain ⟨T14, hT14⟩ : ∃ T, T = w3.heap.size := ⟨_, rfl⟩
       rw [← hT14]
       have hBT14 : Blk (World.alloc w3 (.cells #[.map (some n0)] 228)) T14 228 #[.map (some n0)] := by rw [hT14]; exact Blk.new _ _ _
       have hM := hM.below ((Below.refl _ _).alloc (Nat.le_refl _) (.cells #[.map (some n0)] 228))
       have hBT7 := hBT7.alloc (.cells #[.map (some n0)] 228)
       clear hT14
       generalize World.alloc w3 (.cells #[.map (some n0)] 228) = w4 at *
       have c2 := hM.blk.cell 2
       have c4 := hM.blk.cell 4
       simp at c2 c4
       refine hK.out _ _ (fun _ => ⟨c2, c4⟩) ?_
       clear hK K c2 c4
       refine wpAnyC_one (i := 8) (by kernel_rfl) rfl (fun K hK => ?_)
       refine step_append_gen (by rfl) _ _ _ (by rfl) (pg + 1) 227 qi0 _ 1 24 Tryz.underlying82 qi1 qi2 qi3 qi4 rfl (by omega) (.slice Ai LL.length ci) LL.length (ss.map slV) (by rfl) hM.ri ⟨T7, 0, none⟩ 1 1 [.slice Ar G.length cr] (by rfl) (by rfl) (World.news_of_block (cs := #[.slice Ar G.length cr]) (t := 227) (fr := (0, 0)) hBT7) (by simp [Value.oneCell']) (by unfold maxLen; omega) (by omega) hM.sz ?_; intro vi w5 howni hgi
       have hMn := hM.pushI HP.out hwB howni hgi
       have hBT14 := hBT14.grown hgi (own_ne hM.ri hBT14 (by decide))
       clear hgi hM hBT7
       have hM := hMn
       clear hMn
       have c2 := hM.blk.cell 2
       have c4 := hM.blk.cell 4
       simp at c2 c4
       refine hK.out _ _ (fun _ => ⟨c2, c4⟩) ?_
       clear hK K c2 c4
       refine wpAnyC_one (i := 15) (by kernel_rfl) rfl (fun K hK => ?_)
       refine step_append_gen (by rfl) _ _ _ (by rfl) (pg + 1) 228 qd0 _ 1 8 Tryz.underlying83 qd1 qd2 qd3 qd4 rfl (by omega) (.slice Ad LL.length cd) LL.length (ms.map fun m => .map (some m)) (by rfl) hM.rd ⟨T14, 0, none⟩ 1 1 [.map (some n0)] (by rfl) (by rfl) (World.news_of_block (cs := #[.map (some n0)]) (t := 228) (fr := (0, 0)) hBT14) (by simp [Value.oneCell']) (by unfold maxLen; omega) (by omega) hM.sz ?_; intro vd w6 hownd hgd
       have hMn := hM.pushD HP.out hwB hownd hgd
       clear hgd hM hBT14
       have hM := hMn
       clear hMn
       have c2 := hM.blk.cell 2
       have c4 := hM.blk.cell 4
       simp at c2 c4
       refine hK.out _ _ (fun _ => ⟨c2, c4⟩) ?_
       clear hK K c2 c4
       obtain ⟨A1, c1', rfl, _⟩ := own_cap howni
       obtain ⟨A2, c2', rfl, _⟩ := own_cap hownd
       have c2 := hM.blk.cell 2
       have c4 := hM.blk.cell 4
       simp at c2 c4
       have y2 := hM.blk.frozen 2
       refine wpAnyC_one (i := 16) (by kernel_rfl) rfl (fun K hK => ?_)
       go_simp
       refine hK.out _ _ (fun _ => ⟨c2, c4⟩) ?_
       clear hK K
       refine wpAnyC_one (i := 17) (by kernel_rfl) rfl (fun K hK => ?_)
       go_simp
       refine hK.out _ _ (fun _ => ⟨c2, c4⟩) ?_
       clear hK K
       have hB2 := hM.blk.set_ 2 (.slice A1 (LL.length + 1) c1')
       have z4 := hB2.cell 4
       have y4 := hB2.frozen 4
       simp at z4
       refine wpAnyC_one (i := 18) (by kernel_rfl) rfl (fun K hK => ?_)
       go_simp
       refine hK.out _ _ (fun h => absurd (by simp) h) ?_
       clear hK K
       refine wpAnyC_one (i := 19) (by kernel_rfl) rfl (fun K hK => ?_)
       go_simp
       refine hK.out _ _ (fun h => absurd (by simp) h) ?_
       clear hK K
       refine wpAnyC_one (i := 20) (by kernel_rfl) rfl (fun K hK => ?_)
       go_simp
       refine hK.out _ _ (fun h => absurd (by simp) h) ?_
       clear hK K
       refine wpAnyC_one (i := 21) (by kernel_rfl) rfl (fun K hK => ?_)
       go_simp
       refine hK.out _ _ (fun h => absurd (by simp) h) ?_
       clear hK K
       refine wpAnyC_done (by kernel_rfl) ?_ _
       have hE := hfin _ _ _ _ _ hM
       clear c2 c4 y2 hB2 z4 y4 hM
       rw [← HTi.out] at hE
       generalize World.setCell (World.setCell w6 ⟨pg, 2, none⟩ (.slice A1 (LL.length + 1) c1')) ⟨pg, 4, none⟩ (.slice A2 (LL.length + 1) c2') = wz at *
       go_wp2_with fail
       go_roundg (gts.length - (i + 1))
       case rel => exact ⟨i + 1, _, _, _, _, _, _, _, by go_num, by have := Hlt.out; omega, Nat.le_refl _, hE⟩
       case measure => have := Hlt.out; have := Hm.out; omega
     ·go_simp
      obtain ⟨T14, hT14⟩ : ∃ T, T = w2.heap.size := ⟨_, rfl⟩
      rw [← hT14]
      have hBT14 : Blk (World.alloc w2 (.cells #[.map (some n0)] 228)) T14 228 #[.map (some n0)] := by rw [hT14]; exact Blk.new _ _ _
      have hM := hM.below ((Below.refl _ _).alloc (Nat.le_refl _) (.cells #[.map (some n0)] 228))
      clear hT14
      generalize World.alloc w2 (.cells #[.map (some n0)] 228) = w3 at *
      have c2 := hM.blk.cell 2
      have c4 := hM.blk.cell 4
      simp at c2 c4
      refine hK.out _ _ (fun _ => ⟨c2, c4⟩) ?_
      clear hK K c2 c4
      refine wpAnyC_one (i := 7) (by kernel_rfl) rfl (fun K hK => ?_)
      go_simp
      obtain ⟨T7, hT7⟩ : ∃ T, T = w3.heap.size := ⟨_, rfl⟩
      rw [← hT7]
      have hBT7 : Blk (World.alloc w3 (.cells #[.slice Ar G.length cr] 227)) T7 227 #[.slice Ar G.length cr] := by rw [hT7]; exact Blk.new _ _ _
      have hM := hM.below ((Below.refl _ _).alloc (Nat.le_refl _) (.cells #[.slice Ar G.length cr] 227))
      have hBT14 := hBT14.alloc (.cells #[.slice Ar G.length cr] 227)
      clear hT7
      generalize World.alloc w3 (.cells #[.slice Ar G.length cr] 227) = w4 at *
      have c2 := hM.blk.cell 2
      have c4 := hM.blk.cell 4
      simp at c2 c4
      refine hK.out _ _ (fun _ => ⟨c2, c4⟩) ?_
      clear hK K c2 c4
      refine wpAnyC_one (i := 8) (by kernel_rfl) rfl (fun K hK => ?_)
      refine step_append_gen (by rfl) _ _ _ (by rfl) (pg + 1) 227 qi0 _ 1 24 Tryz.underlying82 qi1 qi2 qi3 qi4 rfl (by omega) (.slice Ai LL.length ci) LL.length (ss.map slV) (by rfl) hM.ri ⟨T7, 0, none⟩ 1 1 [.slice Ar G.length cr] (by rfl) (by rfl) (World.news_of_block (cs := #[.slice Ar G.length cr]) (t := 227) (fr := (0, 0)) hBT7) (by simp [Value.oneCell']) (by unfold maxLen; omega) (by omega) hM.sz ?_; intro vi w5 howni hgi
      have hMn := hM.pushI HP.out hwB howni hgi
      have hBT14 := hBT14.grown hgi (own_ne hM.ri hBT14 (by decide))
      clear hgi hM hBT7
      have hM := hMn
      clear hMn
      have c2 := hM.blk.cell 2
      have c4 := hM.blk.cell 4
      simp at c2 c4
      refine hK.out _ _ (fun _ => ⟨c2, c4⟩) ?_
      clear hK K c2 c4
      refine wpAnyC_one (i := 15) (by kernel_rfl) rfl (fun K hK => ?_)
      refine step_append_gen (by rfl) _ _ _ (by rfl) (pg + 1) 228 qd0 _ 1 8 Tryz.underlying83 qd1 qd2 qd3 qd4 rfl (by omega) (.slice Ad LL.length cd) LL.length (ms.map fun m => .map (some m)) (by rfl) hM.rd ⟨T14, 0, none⟩ 1 1 [.map (some n0)] (by rfl) (by rfl) (World.news_of_block (cs := #[.map (some n0)]) (t := 228) (fr := (0, 0)) hBT14) (by simp [Value.oneCell']) (by unfold maxLen; omega) (by omega) hM.sz ?_; intro vd w6 hownd hgd
      have hMn := hM.pushD HP.out hwB hownd hgd
      clear hgd hM hBT14
      have hM := hMn
      clear hMn
      have c2 := hM.blk.cell 2
      have c4 := hM.blk.cell 4
      simp at c2 c4
      refine hK.out _ _ (fun _ => ⟨c2, c4⟩) ?_
      clear hK K c2 c4
      obtain ⟨A1, c1', rfl, _⟩ := own_cap howni
      obtain ⟨A2, c2', rfl, _⟩ := own_cap hownd
      have c2 := hM.blk.cell 2
      have c4 := hM.blk.cell 4
      simp at c2 c4
      have y2 := hM.blk.frozen 2
      refine wpAnyC_one (i := 16) (by kernel_rfl) rfl (fun K hK => ?_)
      go_simp
      refine hK.out _ _ (fun _ => ⟨c2, c4⟩) ?_
      clear hK K
      refine wpAnyC_one (i := 17) (by kernel_rfl) rfl (fun K hK => ?_)
      go_simp
      refine hK.out _ _ (fun _ => ⟨c2, c4⟩) ?_
      clear hK K
      have hB2 := hM.blk.set_ 2 (.slice A1 (LL.length + 1) c1')
      have z4 := hB2.cell 4
      have y4 := hB2.frozen 4
      simp at z4
      refine wpAnyC_one (i := 18) (by kernel_rfl) rfl (fun K hK => ?_)
      go_simp
      refine hK.out _ _ (fun h => absurd (by simp) h) ?_
      clear hK K
      refine wpAnyC_one (i := 19) (by kernel_rfl) rfl (fun K hK => ?_)
      go_simp
      refine hK.out _ _ (fun h => absurd (by simp) h) ?_
      clear hK K
      refine wpAnyC_one (i := 20) (by kernel_rfl) rfl (fun K hK => ?_)
      go_simp
      refine hK.out _ _ (fun h => absurd (by simp) h) ?_
      clear hK K
      refine wpAnyC_one (i := 21) (by kernel_rfl) rfl (fun K hK => ?_)
      go_simp
      refine hK.out _ _ (fun h => absurd (by simp) h) ?_
      clear hK K
      refine wpAnyC_done (by kernel_rfl) ?_ _
      have hE := hfin _ _ _ _ _ hM
      clear c2 c4 y2 hB2 z4 y4 hM
      rw [← HTi.out] at hE
      generalize World.setCell (World.setCell w6 ⟨pg, 2, none⟩ (.slice A1 (LL.length + 1) c1')) ⟨pg, 4, none⟩ (.slice A2 (LL.length + 1) c2') = wz at *
      go_wp2_with fail
      go_roundg (gts.length - (i + 1))
      case rel => exact ⟨i + 1, _, _, _, _, _, _, _, by go_num, by have := Hlt.out; omega, Nat.le_refl _, hE⟩
      case measure => have := Hlt.out; have := Hm.out; omega
  ·obtain rfl : i = gts.length := by omega
   have i1 : ¬ (gts.length : Int) < (gts.length : Int) := by omega
   have i2 : decide (gts.length < gts.length) = false := by simp
   have hil : (Sc.wkOf fs KK).items.length = KK.length := by unfold Sc.wkOf; simp
   rw [List.take_of_length_le (by rw [HIT.out, hil, Hgl.out]; exact Nat.le_refl _), HIT.out] at hO
   obtain ⟨hPh, hP0⟩ := hO.ph Hpg.out Hmb.out Hfs.out Hfl.out Hfew.out HP.out Hok.out Hmany.out
   have hRw := hO.rows
   have HPh := Lib.hid hPh
   have HRw := Lib.hid hRw
   have hP0' := hP0
   obtain ⟨_, _, hB0, _⟩ := hP0'
   have x2 := hO.blk.cell 2
   simp at x2
   have Hbel := Lib.hid hO.bel
   have Hil : Hid ((Sc.wkOf fs KK).items.length ≤ 1000) := by show _ ≤ _; rw [hil, ← Hfl.out]; exact Hfew.out
   clear hlt hi hm hil hPh hRw hO hB0 HIT
   generalize hW : Sc.wkOf fs KK = W at *
   have HW := Lib.hid hW
   clear hW
   generalize wr = w0 at *
   have Hmp : Hid (mb < pg) := by show _ < _; have := Hpg.out; have := Hmb.out; omega
   go_wp2_with fail
   clear x2
   go_loopg [119] W.items.length (fun mm u wx => ∃ f : Nat, u = .int .i64 (f : Int) ∧ f ≤ W.items.length ∧ W.items.length - f ≤ mm ∧ PgS w0 wx pg mb (.slice A fs.length c) (.slice At gts.length ct) (.slice Ai W.items.length ci) (.slice Ad W.items.length cd) (Sc.usesTo W f 0))
   case atStart => exact ⟨0, rfl, Nat.zero_le _, Nat.le_refl _, hP0⟩
   case round =>
    obtain ⟨f, rfl, hf, hm, hPx⟩ := hrel
    by_cases hlt : f < W.items.length
    ·have ii0 : (0 : Int) ≤ (f : Int) := by omega
     have ii1 : (f : Int) < (W.items.length : Int) := by omega
     have hsf : f < ss.length := by rw [HRw.out.sl]; exact hlt
     have hGf : f < GG.length := by rw [HPh.out.wk.gl]; exact hlt
     obtain ⟨r, o, rfl, hr1, hr2, hrc⟩ := HRw.out.ri (by rw [List.length_map]; omega)
     have q0 := (World.cell?_of_block (a := ⟨r, o + f, none⟩) (hPx.old r hr2 (by omega) (by have := Hmp.out; omega))).trans (hrc f (slV ss[f]) (by rw [List.getElem?_map, List.getElem?_eq_getElem hsf]; rfl))
     obtain ⟨hsn, hrw2⟩ := HRw.out.rows f W.items[f] GG[f] ss[f] (List.getElem?_eq_getElem hlt) (List.getElem?_eq_getElem hGf) (List.getElem?_eq_getElem hsf)
     obtain ⟨hgl, hits⟩ := HPh.out.wk.its f W.items[f] GG[f] (List.getElem?_eq_getElem hlt) (List.getElem?_eq_getElem hGf)
     have hfil := HPh.out.wk.fil f W.items[f] (List.getElem?_eq_getElem hlt)
     have HE : Hid (Sc.usesTo W f W.items[f].length = Sc.usesTo W (f + 1) 0) := Sc.usesTo_file W (List.getElem?_eq_getElem hlt)
     have c1 : IntKind.i64.wrap ((f : Int) + 1) = (f : Int) + 1 := IntWalk.i64_in _ (by have := Hil.out; omega)
     have Hlf : Hid (W.items[f]? = some W.items[f]) := List.getElem?_eq_getElem hlt
     have HGf : Hid (GG[f]? = some GG[f]) := List.getElem?_eq_getElem hGf
     have HGl := Lib.hid hgl
     have Hits := Lib.hid hits
     have Hfil := Lib.hid hfil
     have Hlt := Lib.hid hlt
     generalize W.items[f] = l at *
     generalize GG[f] = G at *
     generalize ss[f] = s at *
     obtain ⟨sA, sn, scap⟩ := s
     obtain rfl : sn = l.length := hsn
     have Hrw2 : Hid (RowF w0 (fun b => pg + 1 ≤ b) sA (G.map ptrV)) := hrw2
     have Hm := Lib.hid hm
     unfold slV at q0
     clear hrc hr1 hr2 hsf hGf hgl hits hfil hlt hm hf hrw2
     go_wp2_with fail
     clear q0
     go_loopg [125] l.length (fun mm u wy => ∃ k : Nat, u = .int .i64 (k : Int) ∧ k ≤ l.length ∧ l.length - k ≤ mm ∧ PgS w0 wy pg mb (.slice A fs.length c) (.slice At gts.length ct) (.slice (some ⟨r, o, none⟩) W.items.length ci) (.slice Ad W.items.length cd) (Sc.usesTo W f k))
     case atStart => exact ⟨0, rfl, Nat.zero_le _, Nat.le_refl _, hPx⟩
     case round =>
      obtain ⟨k, rfl, hk, hm, hPy⟩ := hrel
      clear hPx
      by_cases hlt : k < l.length
      ·have jj0 : (0 : Int) ≤ (k : Int) := by omega
       have jj1 : (k : Int) < (l.length : Int) := by omega
       have hGk : k < G.length := by rw [HGl.out]; exact hlt
       obtain ⟨r2, o2, rfl, hr1, hr2, hrc⟩ := Hrw2.out (by rw [List.length_map]; omega)
       have q0 := (World.cell?_of_block (a := ⟨r2, o2 + k, none⟩) (hPy.old r2 hr2 (by omega) (by have := Hmp.out; omega))).trans (hrc k (ptrV G[k]) (by rw [List.getElem?_map, List.getElem?_eq_getElem hGk]; rfl))
       have hx : ItAt W GG f k l[k] G[k] := ⟨⟨l, G, Hlf.out, List.getElem?_eq_getElem hlt, HGf.out, List.getElem?_eq_getElem hGk⟩⟩
       have hIA : (Sc.itemsAt W f)[k]? = some l[k] := by unfold Sc.itemsAt; rw [Hlf.out]; exact List.getElem?_eq_getElem hlt
       have HU := Lib.hid (Sc.usesTo_step W hIA)
       have HU2 := Lib.hid (Sc.usesTo_le W Hlt.out (k + 1))
       have HU3 := Lib.hid (Sc.usesTo_le W Hlt.out k)
       have c2 : IntKind.i64.wrap ((k : Int) + 1) = (k : Int) + 1 := IntWalk.i64_in _ (by have := Hfil.out.1; omega)
       have hkd : ∃ kd ks, ks ∈ KK ∧ kd ∈ ks ∧ Sc.isItem kd = true ∧ l[k] = Sc.itemM f kd := by
        have h1 := Hlf.out
        rw [← HW.out] at h1
        obtain ⟨ks, hks, rfl⟩ := wk_items h1
        obtain ⟨kd, h2, h3, h4⟩ := items_of (List.getElem?_eq_getElem hlt)
        exact ⟨kd, ks, List.mem_of_getElem? hks, h2, h3, h4⟩
       have Hkd := Lib.hid hkd
       have Hk := Lib.hid hlt
       have Hm2 := Lib.hid hm
       generalize l[k] = x at *
       generalize G[k] = g at *
       have hit := (HPh.out.at_ hPy).item2 hx
       obtain ⟨_, hkind, pb, nv, Ap, cp, ev, mv, me, av, hB, hp, _⟩ := hit
       obtain ⟨kd, hk0, hkk⟩ : ∃ kd : Nat, wr.cell? ⟨pb, 0, none⟩ = some (.int .i64 (kd : Int)) ∧ Sc.kindOf x.part = kd := by
        cases hpt : x.part with
        | leaf a b d => rw [hpt] at hp; obtain ⟨g, e, _⟩ := hp; injection e with e; exact absurd e (by decide)
        | gap a b d => rw [hpt] at hp; obtain ⟨g, e, _⟩ := hp; injection e with e; exact absurd e (by decide)
        | branch a b d =>
         rw [hpt] at hp
         obtain ⟨q', e, _, Ab, cb, vb, hBb, _⟩ := hp
         injection e with _ e
         injection e with e
         injection e with e
         injection e with e
         subst e
         have := hBb.cell 0
         exact ⟨a, by simpa using this, rfl⟩
       have b2 := hB.cell 2
       simp [itC] at b2
       have hdf := sc_def (g := g) b2 hk0
       have hkb : (kd == 4) = x.isDef := by
        rw [← hkk, hkind]
        cases x.isDef <;> rfl
       rw [hkb] at hdf
       clear hB hp b2 hk0 hkb hkk hkind hrc hr1 hr2 hlt hm hk hIA hkd
       unfold ptrV at *
       cases hd : x.isDef with
       | true =>
        rw [hd] at hdf
        have hU : Sc.itemUses W f k x = Sc.defM W f k x := by unfold Sc.itemUses; rw [hd]; rfl
        have hdo : DefOk x := by
         obtain ⟨kd, ks, h1, h2, h3, h4⟩ := Hkd.out
         rw [h4] at hd ⊢
         obtain ⟨h5, h6, h7⟩ := (Hok.out ks h1).kids kd h2 h3
         exact item_defok h5 h6 h7 (by have h8 : (Sc.kindOf kd.part == 4) = true := hd; simpa using h8)
        have hlen : (Sc.usesTo W f k ++ Sc.defM W f k x).length + 1000000 ≤ 1000000000 := by rw [← hU, ← HU.out]; have := HU2.out; have := Hus.out; omega
        have HU4 : Hid (Sc.usesTo W f (k + 1) = Sc.usesTo W f k ++ Sc.defM W f k x) := by show _ = _; rw [← hU]; exact HU.out
        have Hlen := Lib.hid hlen
        have Hdo := Lib.hid hdo
        clear hd hU hlen hdo HU
        go_wp2_with fail
        refine hdf.mono ?_
        clear hdf q0
        rintro e5 w5 ⟨rfl, hd5⟩
        have hP5 := hPy.below hd5
        have hcd := sc_defn HPh.out hP5 hx Hdo.out Hlen.out
        unfold ptrV at hcd
        clear hPy hd5 hP5
        go_wp2_with fail
        refine hcd.mono ?_
        clear hcd
        rintro e6 w6 ⟨rfl, hP6, _⟩
        rw [← HU4.out] at hP6
        go_wp2_with fail
        go_roundg (l.length - (k + 1))
        case rel => exact ⟨k + 1, by go_num, by have := Hk.out; omega, Nat.le_refl _, hP6⟩
        case measure => have := Hk.out; have := Hm2.out; omega
       | false =>
        rw [hd] at hdf
        have hU : Sc.itemUses W f k x = Sc.useM W f k x := by unfold Sc.itemUses; rw [hd]; rfl
        have hlow : ∀ y : Sc.Wd, (x.mo = some y ∨ x.me = some y ∨ x.al = some y) → y.at_ ≤ 1000000000 := by
         obtain ⟨kd, ks, h1, h2, h3, h4⟩ := Hkd.out
         obtain ⟨h5, h6, h7⟩ := (Hok.out ks h1).kids kd h2 h3
         intro y hy
         rw [h4] at hy
         exact (item_low (n := f) h6 y (.inr hy)).1
        have Hlow := Lib.hid hlow
        have HU4 : Hid (Sc.usesTo W f (k + 1) = Sc.usesTo W f k ++ Sc.useM W f k x) := by show _ = _; rw [← hU]; exact HU.out
        have Hlen : Hid ((Sc.usesTo W f k).length + 1000000 ≤ 1000000000) := by show _ ≤ _; have := HU3.out; have := Hus.out; omega
        clear hd hU hlow HU
        go_wp2_with fail
        refine hdf.mono ?_
        clear hdf q0
        rintro e5 w5 ⟨rfl, hd5⟩
        have hP5 := hPy.below hd5
        have hcd := sc_use HPh.out hP5 hx Hlow.out Hlen.out
        unfold ptrV at hcd
        clear hPy hd5 hP5
        go_wp2_with fail
        refine hcd.mono ?_
        clear hcd
        rintro e6 w6 ⟨rfl, hP6, _⟩
        rw [← HU4.out] at hP6
        go_wp2_with fail
        go_roundg (l.length - (k + 1))
        case rel => exact ⟨k + 1, by go_num, by have := Hk.out; omega, Nat.le_refl _, hP6⟩
        case measure => have := Hk.out; have := Hm2.out; omega
      ·obtain rfl : k = l.length := by omega
       have i1 : ¬ (l.length : Int) < (l.length : Int) := by omega
       have i2 : decide (l.length < l.length) = false := by simp
       rw [HE.out] at hPy
       clear hlt hm hk
       go_wp2_with fail
       go_roundg (W.items.length - (f + 1))
       case rel => exact ⟨f + 1, by go_num, by have := Hlt.out; omega, Nat.le_refl _, hPy⟩
       case measure => have := Hlt.out; have := Hm.out; omega
    ·obtain rfl : f = W.items.length := by omega
     have i1 : ¬ (W.items.length : Int) < (W.items.length : Int) := by omega
     have i2 : decide (W.items.length < W.items.length) = false := by simp
     rw [Sc.usesTo_end] at hPx
     clear hlt hm hf
     go_wp2_with fail
     go_ret
     have hwg : w.heap.size ≤ pg := by have := Hpg.out; omega
     have hbel : Below w.heap.size w wr := by
      refine ⟨hPx.calm.os.trans Hbel.out.os, hPx.calm.tape.trans Hbel.out.tape, hPx.calm.output.trans Hbel.out.output, Nat.le_trans Hbel.out.size hPx.size, fun b hb => ?_⟩
      rw [hPx.old b (Nat.lt_of_lt_of_le hb Hbel.out.size) (by omega) (by have := Hmb.out; omega)]
      exact Hbel.out.block b hb
     exact ⟨pg, rfl, w0, mb, GG, Ai, ci, Ad, cd, ss, hwg, hbel, by rw [HW.out]; exact HPh.out, by rw [HW.out]; exact HRw.out, by rw [HW.out]; exact hPx, Hbel.out, HP.out⟩
end
end Go.Proofs.YtcjjfeephaddcaaGreatDoor
