import Derived.Test.YtcjjfeephaddcaaGreatDoorJam
set_option linter.all false
open Go.Proofs.Tryz renaming prog->aBS
open Go.RowKit.Below renaming refl->aBU,heap_setCell->aCG
open Go.Value renaming oneCell'->aCA
open Go.World renaming cell?_of_block->aCM,block_lt_of_cell?->aDA
open List renaming length_drop->aCB,length_cons->aCC,getElem?_eq_some_iff->aCD,length_take->aCY,map_cons->aDH,mem_filter->aEM
open Nat renaming le_refl->aBT,le_trans->aBV,lt_of_lt_of_le->aCF
set_option maxHeartbeats 64000000
set_option maxRecDepth 100000
open Go.Proofs.Tryz
namespace Go.Proofs.YtcjjfeephaddcaaGreatDoor
open Go.RowKit Go.Maps
section
variable{w w':World}{F:Nat->Prop}
theorem fP.same (hk: ∀b,F b->b<w'.heap.size/\w'.heap[b]? =w.heap[b]?){A:Option Addr}{vs:List Value}(h:fP w F A vs):fP w' F A vs:=fun hn=>by
 obtain⟨b,o,e,hF,hl,hc⟩:=h hn;exact⟨b,o,e,hF,(hk b hF).1,fun j u hu=>(aCM (a:=⟨b,o+j,none⟩) (hk b hF).2).trans (hc j u hu)⟩
mutual
theorem dE.same (hk: ∀b,F b->b<w'.heap.size/\w'.heap[b]? =w.heap[b]?): ∀(p:Tr.PT) (v:Value),dE w F p v->dE w' F p v
 | .leaf k t a,v,h=>by obtain⟨g,e,hF,hB⟩:=h;exact⟨g,e,hF,(hk g hF).2.trans hB⟩
 | .gap t a d,v,h=>by obtain⟨g,e,hF,hB⟩:=h;exact⟨g,e,hF,(hk g hF).2.trans hB⟩
 | .branch k a l,v,h=>by obtain⟨g,e,hF,A,c,vs,hB,hc,hr,hp⟩:=h;exact⟨g,e,hF,A,c,vs,(hk g hF).2.trans hB,hc,hr.same hk,eF.same hk l vs hp⟩
theorem eF.same (hk: ∀b,F b->b<w'.heap.size/\w'.heap[b]? =w.heap[b]?): ∀(l:List Tr.PT) (vs:List Value),eF w F l vs->eF w' F l vs
 | [],vs,h=>h
 |p::l,vs,h=>by obtain⟨v,vs',e,hp,hl⟩:=h;exact⟨v,vs',e,dE.same hk p v hp,eF.same hk l vs' hl⟩
end
end
def NG(k:Nat)(l:List Tr.PT):List Tr.PT:=if k=11 then Sc.bF l++Sc.bF (Sc.eZ (Sc.mP l 1))else Sc.bF l
section
variable{σ:Type}{Fn:Nat}{caps:Array Value}{w0:World}{F:Nat->Prop}{T:List TypeId}{x:Sc.It}{ib:Nat}{Q:Tr.PT->Prop}{G:σ->Prop}{st:Sc.Env->Tr.PT->σ->σ}{I:σ->World->Prop}
theorem JD.same (V:JD Fn caps w0 F T x ib Q G st I){s s':σ}{w w':World}(h:I s w)(h':I s' w'): ∀b,F b->b<w'.heap.size/\w'.heap[b]? =w.heap[b]? :=fun b hb=>by
 have hl:=V.fok b hb;obtain⟨k1,k2⟩:=V.keep s w h;obtain⟨k3,k4⟩:=V.keep s' w' h';exact⟨by omega,(k4 b hb hl).trans (k2 b hb hl).symm⟩
theorem Co{e:Sc.Env}{k a:Nat}{l:List Tr.PT}{s:σ}(hh:Sc.MJ k l)(hs:Sc.OQ l)(hk:k≠12):
  iL x st e (.branch k a l) s=PG x st (Sc.zF x e (.branch k a l)) (Sc.uQ x e (.branch k a l)) (NG k l) (st e (.branch k a l) s):=by
 obtain⟨_,_,_,h11,hn⟩:=hh;unfold NG
 by_cases h:k=11
 ·subst h;obtain⟨c,a',rfl,hc,hb,hk2⟩:=h11 rfl;cases a' with
  |leaf _ _ _=>cases hb
  |gap _ _ _=>cases hb
  |branch k2 a2 m=>have hk2:k2=12:=hk2;subst hk2;have hm: ∀p∈m,Sc.kindOf p≠12:=(by unfold Sc.OQ at hs;have h2:=hs.2;unfold Sc.OQ Sc.uE at h2;exact h2.1.1.2.2.2.2 (by omega));rw[if_pos rfl,walk_call x st e a a2 c m s hc hm];have e1:Sc.bF [c,.branch 12 a2 m]=[c]:=(by unfold Sc.bF;rw[List.filter_cons_of_pos hc,List.filter_cons_of_neg (by simp[Sc.bA]),List.filter_nil]);rw[e1];rfl
 ·rw[if_neg h,Yn x st e k a l s hk (hn h)]
theorem aAk{k:Nat}{l:List Tr.PT}{p:Tr.PT}(hh:Sc.MJ k l)(h:p∈NG k l):Sc.bA p=true/\(p∈l\/∃k2 a2 m,k=11/\.branch k2 a2 m∈l/\p∈m):=by
 unfold NG at h
 by_cases hk:k=11
 ·rw[if_pos hk] at h;obtain⟨c,a',rfl,hc,hb,hk2⟩:=hh.2.2.2.1 hk;rcases List.mem_append.1 h with h|h
  ·have:=aEM.1 h;exact⟨this.2,.inl this.1⟩
  ·have:=aEM.1 h;refine⟨this.2,.inr ?_⟩;have h1:=this.1;cases a' with
   |leaf _ _ _=>cases hb
   |gap _ _ _=>cases hb
   |branch k2 a2 m=>exact⟨k2,a2,m,hk,by simp,h1⟩
 ·rw[if_neg hk] at h;have:=aEM.1 h;exact⟨this.2,.inl this.1⟩
def WalkE(Fn:Nat)(caps:Array Value)(F:Nat->Prop)(T:List TypeId)(x:Sc.It)(ib:Nat)(Q:Tr.PT->Prop)(G:σ->Prop)(st:Sc.Env->Tr.PT->σ->σ)(I:σ->World->Prop)(p:Tr.PT):Prop:=
 ∀(e:Sc.Env) (ep:Option Addr) (up pv:Value) (vb:Nat) (s:σ) (w:World),Sc.uE p->Sc.bA p=true->fH x.base p->Q p->I s w->dE w F p pv->kJ w (fun _=>True) e ep->aV w vb 333 #[pv,.pointer ep,up]->G (iL x st e p s)->
  Calls aBS 211 #[bO ib,pZZ vb,.func (.func Fn) #[] caps] w fun e' w'=>e'=.returned (.tuple #[])/\I (iL x st e p s) w'/\aD T w w'
theorem Oo(V:JD Fn caps w0 F T x ib Q G st I)(t:Bs)(a:Nat)(d:Bool):WalkE Fn caps F T x ib Q G st I (.gap t a d):=by
 intro e ep up pv vb s w _ _ _ hQ hI hp he hv hG;have hS:iL x st e (.gap t a d) s=st e (.gap t a d) s:=by unfold iL;rfl
 rw[hS] at hG⊢;have hcl:=V.call e _ pv ep up vb s w hQ hp he hv hI hG;have hrun:=V.run;have hty:=V.types.2.1;obtain⟨g,rfl,_⟩:=hp;have has:=fun w=>tX ⟨g,0,none⟩ w
 generalize st e (.gap t a d) s=s' at *;clear V hI he;unfold bO
 go_enter func211,ntmps211
 go_wp2_with fail;refine hcl.mono ?_;clear hcl;rintro e' w1 ⟨rfl,hI1,hK⟩;have v0:=(hv.aG hK hty).cell 0;simp at v0;go_wp2_with fail;refine bodyPost_ret (results_none rfl _ _ _) rfl ?_;exact⟨rfl,hI1,hK⟩
end
end Go.Proofs.YtcjjfeephaddcaaGreatDoor
namespace Go.Proofs.YtcjjfeephaddcaaGreatDoor.Tr
variable{i:Nat}
mutual
def eP:PT->Nat
 | .leaf _ _ _=>1
 | .gap _ _ _=>1
 | .branch _ _ l=>1+eB l
def eB:List PT->Nat
 | []=>0
 |p::l=>eP p+eB l
end
theorem F4: ∀(l m:List PT),eB (l++m)=eB l+eB m
 | [],m=>by simp only[List.nil_append,eB,Nat.zero_add]
 |p::l,m=>by simp only[List.cons_append,eB,F4 l m];omega
structure Ct(T:List (Nat×Nat×Nat))(i:Nat)(c:Int)(st:St):Prop where
 up:i<=st.2
 le:st.2<=T.length
 cnt:(eB st.1:Int)<=20*((st.2:Int)-i)+c
def Ni(T:List (Nat×Nat×Nat))(f:Nat->St)(c:Int):Prop:= ∀i,i<=T.length->Ct T i c (f i)
def Ob(T:List (Nat×Nat×Nat))(f:Nat->PT×Nat)(c:Int):Prop:=Ni T (fun i=>aS (f i)) c
section
variable{T:List (Nat×Nat×Nat)}{i:Nat}{c d:Int}{st u:St}
theorem Ct.thn {f:Nat->St}(h:Ct T i c st)(hf:Ct T st.2 d (f st.2)):Ct T i (c+d) (thn st f):=by
 refine⟨aBV h.up hf.up,hf.le,?_⟩;unfold Tr.thn;dsimp only;rw[F4];have:=h.cnt;have:=hf.cnt;omega
theorem Ct.lG {f:Nat->St}(h:Ct T i c st)(hf:Ni T f d):Ct T i (c+d) (Tr.thn st f):=h.thn (hf st.2 h.le)
theorem Ct.mono (h:Ct T i c st)(hd:c<=d):Ct T i d st:=⟨h.up,h.le,by have:=h.cnt;omega⟩
theorem Ct.ite {p:Bool}(h:Ct T i c st)(hu:Ct T i c u):Ct T i c (if p then st else u):=by
 split
 ·exact h
 ·exact hu
theorem Ct.nil (hi:i<=T.length):Ct T i 0 ([],i):=⟨aBT _,hi,by simp[eB]⟩
theorem Ct.br {kind a:Nat}(h:Ct T i c st):Ct T i (c+1) ([.branch kind a st.1],st.2):=by
 refine⟨h.up,h.le,?_⟩;simp only[eB,eP];have:=h.cnt;omega
end
section
variable(s:List UInt8)(T:List (Nat×Nat×Nat))(b:Nat)
theorem xP: ∀l:List (Nat×Nat×Nat),eB (l.map (gY s b))=l.length
 | []=>rfl
 |t::l=>by simp only[aDH,eB,aCC,xP l];have:eP (gY s b t)=1:=rfl;omega
theorem yF:Ni T (aK s T b) 0:=fun i hi=>by
 have h1:=KG T i hi;have h2:=vY T i;refine⟨h1,h2,?_⟩;unfold aK;dsimp only;rw[xP,aCY,aCB];omega
theorem wY(i:Nat)(hi:i<=T.length)(hn:aH T i<T.length):Ct T i (-19) (aK s T b i):=by
 have h1:=KF T i hn;have h2:=vY T i;refine⟨by show i<=toP T i;omega,h2,?_⟩;unfold aK;dsimp only;rw[xP,aCY,aCB];omega
theorem UL(w:List UInt8):Ni T (nU s T b w) 1:=fun i hi=>⟨aBT _,hi,by unfold nU;simp[eB,eP]⟩
theorem kE(w:List UInt8):Ni T (aN s T b w) 1:=fun i hi=>by
 unfold aN;exact((yF s T b i hi).mono (by omega)).ite (UL s T b w i hi)
theorem vH:Ni T (aQ s T b) 1:=fun i hi=>by
 unfold aQ;split
 ·exact(yF s T b i hi).mono (by omega)
 ·exact UL s T b lY i hi
theorem UM{one:Nat->St}(ho:Ni T one 1){c:Int}: ∀(f:Nat) (st:St),Ct T i c st->Ct T i c (dK s T b one f st)
 |0,st,h=>h
 |f+1,st,h=>by
  rw[jS];split
  ·rename_i hi;exact UM ho f _ (((h.thn (wY s T b st.2 h.le (is_lt s T hi))).lG ho).mono (by omega))
  ·exact h
theorem QW:Ob T (bB s T b) 4:=fun i hi=>by
 have h1:=kE s T b [40] i hi;have h2:=UM s T b (vH s T b) (T.length+1) _ (h1.lG (vH s T b));exact((((h1.mono (by omega:(1:Int)<=2)).ite (p:=aW s T [[41]] (aN s T b [40] i).2) h2).lG (kE s T b [41])).br).mono (by omega)
theorem Du{e:Nat->St}(he:Ni T e 1)(kind:Nat)(shut:List UInt8)(i:Nat)(hi:i<=T.length)(hn:aH T i<T.length):Ct T i (-16) (aS (eH s T b e kind shut i)):=by
 have h1:=wY s T b i hi hn;have h2:=UM s T b he (T.length+1) _ (h1.lG he);exact((((h1.mono (by omega:(-19:Int)<= -18)).ite (p:=aW s T [shut] (aK s T b i).2) h2).lG (kE s T b shut)).br).mono (by omega)
theorem Zt{e:Nat->St}(he:Ni T e 1):Ob T (fD s T b e) 1:=fun i hi=>by
 show Ct T i 1 (aS (fD s T b e i));unfold fD;split
 ·exact((yF s T b i hi).br).mono (by omega)
 split
 ·rename_i h;exact((((wY s T b i hi (is_lt s T h)).lG he).lG (kE s T b [41])).br).mono (by omega)
 split
 ·rename_i h;exact(Du s T b he 13 [93] i hi (is_lt s T h)).mono (by omega)
 ·exact UL s T b jN i hi
theorem F7{e:Nat->St}(he:Ni T e 1): ∀(f:Nat) (r:PT×Nat),Ct T i 1 (aS r)->Ct T i 1 (aS (gJ s T b e f r))
 |0,r,h=>h
 |f+1,r,h=>by
  rw[jE];split
  ·rename_i hi;refine F7 he f _ ?_;have h2:=h.thn (f:=fun i=>aS (eH s T b e 12 [41] i)) (Du s T b he 12 [41] r.2 h.le (is_lt s T hi));exact(h2.br (kind:=11) (a:=r.1.from_)).mono (by omega)
  ·exact h
theorem lg{e:Nat->St}(he:Ni T e 1):Ob T (oG s T b e) 1:=fun i hi=>F7 s T b he _ _ (Zt s T b he i hi)
theorem Vf{one:Nat->PT×Nat}(ho:Ob T one 1){r:PT×Nat}(h:Ct T i 1 (aS r))(hn:aH T r.2<T.length):Ct T i 1 (aS (iA s T b one r)):=by
 have h1:=(h.thn (f:=aK s T b) (wY s T b r.2 h.le hn)).lG ho;exact(h1.br (kind:=10) (a:=r.1.from_)).mono (by omega)
theorem Db{one:Nat->PT×Nat}(ho:Ob T one 1)(signs:List (List UInt8)): ∀(f:Nat) (r:PT×Nat),Ct T i 1 (aS r)->Ct T i 1 (aS (iX s T b one signs f r))
 |0,r,h=>h
 |f+1,r,h=>by
  rw[kU];split
  ·rename_i hi;exact Db ho signs f _ (Vf s T b ho h (is_lt s T hi))
  ·exact h
theorem Qb{one:Nat->PT×Nat}(ho:Ob T one 1)(signs:List (List UInt8)):Ob T (rowP s T b one signs) 1:=fun i hi=>Db s T b ho signs _ _ (ho i hi)
theorem ky{e:Nat->St}(he:Ni T e 1):Ob T (jV s T b e) 1:=fun i hi=>by
 have hs:Ob T (BV s T b e) 1:=Qb s T b (Qb s T b (lg s T b he) _) _;show Ct T i 1 (aS (jV s T b e i));unfold jV;split
 ·rename_i h;exact Vf s T b hs (hs i hi) (is_lt s T h)
 ·exact hs i hi
theorem Ey: ∀f,Ob T (aU s T b f) 1
 |0=>fun i hi=>⟨aBT _,hi,by simp[aS,aU,eB,eP]⟩
 |f+1=>fun i hi=>by
  have he:=Ey f;have ht:=wY s T b i hi;show Ct T i 1 (aS (aU s T b (f+1) i));rw[aU];split
  ·rename_i h;exact(((((((ht (is_lt s T h)).lG (vH s T b)).lG (kE s T b [61])).lG he).lG (kE s T b O9)).lG he).br).mono (by omega)
  split
  ·rename_i h;exact(((((((ht (is_lt s T h)).lG he).lG (kE s T b uG)).lG he).lG (kE s T b wD)).lG he).br).mono (by omega)
  split
  ·rename_i h;exact(((((ht (is_lt s T h)).lG (QW s T b)).lG (kE s T b [61,62])).lG he).br).mono (by omega)
  ·exact ky s T b he i hi
theorem h_:Ni T (dA s T b) 0:=fun i hi=>by
 unfold dA;exact(yF s T b i hi).ite (Ct.nil hi)
theorem zq{st:St}(h:Ct T i 0 st):Ct T i 6 (nT s T b st):=by
 unfold nT;have h4:=(((h.lG (kE s T b fZ)).lG (vH s T b)).lG (kE s T b [46])).lG (vH s T b);have h5:=(h4.lG (yF s T b)).lG (vH s T b);exact((h5.ite (h4.mono (by omega))).lG (kE s T b [59])).mono (by omega)
theorem aAo{st:St}(h:Ct T i 0 st):Ct T i 9 (oC s T b st):=by
 unfold oC;have h4:=(h.lG (kE s T b iP)).lG (vH s T b);have h5:=h4.lG (QW s T b);exact((((h5.ite (h4.mono (by omega))).lG (kE s T b [61])).lG (Ey s T b 65)).lG (kE s T b [59])).mono (by omega)
theorem bu:Ob T (gT s T b) 10:=fun i hi=>by
 have h0:=h_ s T b i hi;show Ct T i 10 (aS (gT s T b i));unfold gT;split
 ·exact((zq s T b h0).br).mono (by omega)
 ·exact((aAo s T b h0).br).mono (by omega)
theorem YW: ∀(f:Nat) (last:Bool) (st:St),Ct T i 0 st->Ct T i 0 (fM s T b f last st)
 |0,_,st,h=>h
 |f+1,last,st,h=>by
  rw[kH];split
  ·exact YW f _ _ ((h.lG (yF s T b)).mono (by omega))
  ·exact h
theorem Rl:Ob T (dU s T) 10:=fun i hi=>by
 show Ct T i 10 (aS (dU s T i));unfold dU;split
 ·exact bu s T _ i hi
 ·exact((YW s T (dD s T i) (T.length+1) false ([],i) (Ct.nil hi)).br).mono (by omega)
theorem Dx: ∀(f i:Nat),i<=T.length->i<=(bV s T f i).2/\(bV s T f i).2<=T.length/\eB ((bV s T f i).1.map (·.part))<=30*((bV s T f i).2-i)
 |0,i,hi=>⟨aBT _,hi,by unfold bV;simp[eB]⟩
 |f+1,i,hi=>by
  rw[nO];split
  ·rename_i hn;have h1:=(Rl s T i hi).cnt;have h2:(dU s T i).2<=T.length:=(Rl s T i hi).le;have hg:=FI s T i hi hn;obtain⟨c1,c2,c3⟩:=Dx f (dU s T i).2 h2;have e:(ah s T i).part=(dU s T i).1:=rfl;simp only[aS,eB] at h1;simp only[aDH,eB,e];refine⟨by omega,c2,by omega⟩
  ·exact⟨aBT _,hi,by simp[eB]⟩
end
end Go.Proofs.YtcjjfeephaddcaaGreatDoor.Tr
namespace Go.Proofs.YtcjjfeephaddcaaGreatDoor
open Go.RowKit Go.Maps
variable{T:List TypeId}{w:World}{b:Nat}{v:Value}{F:Nat->Prop}{l:List Tr.PT}{p:Tr.PT}
theorem aD.set {i:Nat}{t:TypeId}{cs:Array Value}(hB:aV w b t cs)(ht:t∈T):aD T w (w.setCell ⟨b,i,none⟩ v):=
 aD.grown (fF w b i v) fun g cs' t' fr e hk=>by injection e with e;subst e;unfold aV at hB;rw[hk] at hB;injection hB with h1;injection h1 with _ h1 _;rw[h1];exact ht
theorem aD.mono {T':List TypeId}{w':World}(h:aD T w w')(ht: ∀t∈T,t∈T'):aD T' w w':=fun k cs t fr hk hn=>h k cs t fr hk fun h'=>hn (ht t h')
def qK(w:World)(F:Nat->Prop)(g o:Nat)(l:List Tr.PT):Prop:=(∃cs fr,w.heap[g]? =some (.cells cs 122 fr))/\∀(j:Nat) (p:Tr.PT),l[j]? =some p->∃v,w.cell? ⟨g,o+j,none⟩=some v/\dE w F p v
theorem qK.aG {w':World}{g o:Nat}(h:qK w F g o l)(hk:aD T w w')(ht:122∉T/\173∉T/\308∉T/\178∉T)(hp: ∀p v,p∈l->dE w F p v->dE w' F p v):qK w' F g o l:=by
 obtain⟨⟨cs,fr,h1⟩,h2⟩:=h;have h3:=hk g cs _ fr h1 ht.1;refine⟨⟨cs,fr,h3⟩,fun j p hj=> ?_⟩;obtain⟨v,hv,hpv⟩:=h2 j p hj;exact⟨v,(aCM (w:=w) (a:=⟨g,o+j,none⟩) (h3.trans h1.symm)).trans hv,hp p v (List.mem_of_getElem? hj) hpv⟩
theorem qK.rO {B:Nat}{A:Option Addr}{c:Nat}{vs:List Value}(h:w.ownsRow B 122 1 (.slice A l.length c) l.length vs)(hp:eF w F l vs)(hn:0<l.length): ∃g,A=some ⟨g,0,none⟩/\B<=g/\qK w F g 0 l:=by
 obtain⟨g,e,hc⟩:=pE h hn;subst e;obtain⟨cs,fr,hty⟩:=eU h g rfl;refine⟨g,rfl,(h.lt g rfl).1,⟨cs,fr,hty⟩,fun j p hj=> ?_⟩;have hlt:=(aCD.1 hj).1;obtain⟨v,hv,hpv⟩:=hp.at_ hlt;refine⟨v,by rw[Nat.zero_add];exact hc j v hv,?_⟩;have:=(aCD.1 hj).2
 rwa [this] at hpv
theorem qK.drop1 {g o:Nat}{x:Tr.PT}(h:qK w F g o (x::l)):qK w F g (o+1) l:=
 ⟨h.1,fun j p hj=>by
  have:=h.2 (j+1) p (by simpa using hj)
  rwa [Nat.add_assoc,Nat.add_comm 1 j]⟩
def FO(F:Nat->Prop)(n:Nat)(b:Nat):Prop:=F b/\b<n
theorem dE.fo (h:dE w F p v):dE w (FO F w.heap.size) p v:=dE.keep (aBT _) (fun _ hb hl=>⟨rfl,hb,hl⟩) _ _ h
theorem dE.move {A B:World}(hA:Below w.heap.size w A)(hB:Below w.heap.size w B)(h:dE A (FO F w.heap.size) p v):dE B (FO F w.heap.size) p v:=
 dE.same (fun b hb=>⟨aCF hb.2 hB.size,(hB.block b hb.2).trans (hA.block b hb.2).symm⟩) p v h
def WA(w:World)(P F:Nat->Prop)(x:Sc.It)(tw:Bool)(g:Nat):Prop:=
 F g/\(Sc.kindOf x.part=if x.bH then 4 else 3)/\∃pb nv A c ev mv me av,aV w g 234 (kW x tw pb nv A c ev mv me av)/\dE w P x.part (.iface 114 (bO pb))/\wI w F x.name nv/\
  x.params.length<=c/\OP w F A x.params/\(∀br o,A=some ⟨br,o,none⟩->0<x.params.length->∃cs fr,w.heap[br]? =some (.cells cs 231 fr))/\
  (x.bH=true->dE w P x.expr ev)/\wI w F x.mo mv/\wI w F x.me me/\wI w F x.al av
def aBI(P:Nat->Prop)(x:Sc.It)(w:World)(e:Ending)(w':World):Prop:= ∃g,e=.returned (bO g)/\w.heap.size<=g/\WA w' P (fun b=>w.heap.size<=b) x false g/\Below w.heap.size w w'
def V8(q b f l:Nat):Array Value:=#[bO q,vZZ b,vZZ f,vZZ l]
theorem gH{n fi la a:Nat}{l0 r:List Tr.PT}{x0 x1 x2 x3 x4:Tr.PT}(hB:Sc.bN (.branch 3 a l0)=x0::x1::x2::x3::x4::r):Sc.dZ n ⟨.branch 3 a l0,b,fi,la⟩=
  {file:=n,base:=b,part:=.branch 3 a l0,yZ:=Sc.sG Tr.gL (Sc.mP (Sc.dP (.branch 3 a l0)) 0),bH:=false,name:=if Sc.sG Tr.wE x4 then Sc.eD b (Sc.mP r 0)else Sc.eD b x3,jT:=false,params:=[],expr:=Sc.Qu,has:=Sc.sG Tr.wE x4,mo:=Sc.eD b x1,me:=Sc.eD b x3,al:=if Sc.sG Tr.wE x4 then Sc.eD b (Sc.mP r 0)else none}:=by
 unfold Sc.dZ;dsimp only;rw[hB];rfl
theorem eQ{n fi la a:Nat}{l0 r:List Tr.PT}{x0 x1 x2 x3:Tr.PT}(hB:Sc.bN (.branch 4 a l0)=x0::x1::x2::x3::r):Sc.dZ n ⟨.branch 4 a l0,b,fi,la⟩=
  {file:=n,base:=b,part:=.branch 4 a l0,yZ:=Sc.sG Tr.gL (Sc.mP (Sc.dP (.branch 4 a l0)) 0),bH:=true,name:=Sc.eD b x1,jT:=Sc.oO x2,params:=if Sc.oO x2 then Sc.bE b x2 else [],expr:=if Sc.oO x2 then Sc.mP r 0 else x3,has:=false,mo:=none,me:=none,al:=none}:=by
 unfold Sc.dZ;dsimp only;rw[hB];rfl
def Wt(g o:Nat)(v1 v3:Value)(w':World):Prop:=w'.cell? ⟨g,o+1,none⟩=some v1/\w'.cell? ⟨g,o+3,none⟩=some v3
section
variable{w:World}{F:Nat->Prop}
theorem Ig{q:Nat}{p:Tr.Kd}(hp:dE w F p.part (.iface 114 (bO q)))(hx:Sc.ItX p.part)(hlo:fH p.base p.part)(n:Nat):
  Calls aBS 120 #[vZZ n,.agg (V8 q p.base p.first p.last)] w (aBI F (Sc.dZ n p) w):=by
 obtain⟨part,b,fi,la⟩:=p;dsimp only at hp hx hlo⊢;have hbr:=hx.br;cases part with
 |leaf _ _ _=>cases hbr
 |gap _ _ _=>cases hbr
 |branch kd at_ l0=>
 unfold fH at hlo;obtain⟨hll,hlow⟩:=hlo;have hlen:3<=(Sc.bN (.branch kd at_ l0)).length:=by
  rcases hx.ways with ⟨_,⟨x0,x1,x2,x3,r,e,_⟩⟩|⟨_,⟨x0,x1,r,e,_,⟨x3,e1,x5,e2,_⟩|⟨p,x3,e1,x5,e2,_⟩⟩⟩
  ·rw[e];simp
  ·rw[e,e2];simp
  ·rw[e,e2];simp
 have hbody:Sc.bN (.branch kd at_ l0)=if Sc.sG Tr.gL (Sc.mP (Sc.aI l0) 0)then(Sc.aI l0).drop 1 else Sc.aI l0:=rfl
 have Hlen:=aB hlen;have zT:=aB hbody;have PU:aC (∀p∈Sc.aI l0,fH b p):=fun p hp=>gG hlow p (gN hp)
 have Hbr:aC (Sc.mY (.branch kd at_ l0)=true):=hbr;have Hx:=aB hx;have Hp:=aB hp;clear hlen hbody hlow hbr hx hp;have hp:=Hp.o.fo;obtain⟨hd1,hk1⟩:=uS w 116 (V8 q b fi la);obtain⟨kb,hkb⟩:=dC w.heap.size;rw[<-hkb] at hk1;have Hkb:aC (kb=w.heap.size):=hkb;unfold V8 bO at *
 go_enter func120,ntmps120
 go_upto_region 1 with fail;rw[<-hkb];have hs1:=World.size_alloc w (.cells #[pZZ q,vZZ b,vZZ fi,vZZ la] 116);rw[<-hkb] at hs1;have Wy:=aB hs1;clear hkb hs1;generalize w.alloc _=w1 at *;have k0:=hk1.cell 0;have k1:=hk1.cell 1;simp at k0 k1;go_upto_region 2 with fail;have hd2:=hd1.alloc hd1.size (.cells #[vZZ n,vZZ b,pZZ q,.bool false,.bool false,oZZ,.bool false,nZZ,.nilIface,.bool false,oZZ,oZZ,oZZ] 234);have hk2:=hk1.alloc (.cells #[vZZ n,vZZ b,pZZ q,.bool false,.bool false,oZZ,.bool false,nZZ,.nilIface,.bool false,oZZ,oZZ,oZZ] 234);have hB2:=aV.new w1 234 #[vZZ n,vZZ b,pZZ q,.bool false,.bool false,oZZ,.bool false,nZZ,.nilIface,.bool false,oZZ,oZZ,oZZ];obtain⟨ib,hib⟩:=dC w1.heap.size;have PV:aC (w.heap.size<=ib):=by show _<=_;rw[hib];exact hd1.size
 have Hio:aC (kb<ib):=by show _<_;rw[hib];exact hk1.lt
 rw[<-hib] at hB2⊢;clear hib k0 k1 hd1 hk1;generalize w1.alloc _=w2 at *;have k0:=hk2.cell 0;simp at k0;have hp2:dE w2 (FO F w.heap.size) (.branch kd at_ l0) (.iface 114 (pZZ q)):=dE.below hp (hd2.mono (aBT _));have hse:=rH hp2 hll;clear hp hp2;go_wp2_with fail;refine hse.mono ?_;clear hse k0;rintro e3 w3 ⟨A,c,vs,rfl,hown,hps,hd3⟩;have jd:0<(Sc.aI l0).length:=by
  have h1:=Hlen.o;rw[zT.o] at h1;split at h1
  ·rw[aCB] at h1;omega
  ·omega
 have hcap:(Sc.aI l0).length<=c:=by obtain⟨A',c',e1,hle,_⟩:=gQ hown;injection e1 with _ _ e1;omega
 obtain⟨g,rfl,hg2,hrow⟩:=qK.rO hown hps jd;have hlb:(Sc.aI l0).length<=1000000000:=aBV (List.length_filter_le _ _) hll;have lW:=hd2.trans (hd3.mono hd2.size);have hk3:=hk2.below hd3 hk2.lt;have hB3:=hB2.below hd3 hB2.lt;have Hgi:aC (ib<g):=by show _<_;exact aCF hB2.lt hg2
 have HL:aC (Sc.dP (.branch kd at_ l0)=Sc.aI l0):=rfl;clear hd2 hd3 hk2 hB2 hown hps hg2;cases hL:Sc.aI l0 with
 |nil=>rw[hL] at jd;exact absurd jd (by simp)
 |cons x L=>
 rw[hL] at hrow hlb hcap zT PU HL;have qM:=aB hcap;have Hlb:=aB hlb;simp only[aCC];clear hL jd hlb hcap;obtain⟨v0,hv0,hp0⟩:=hrow.2 0 x rfl;have hw0:=vC hp0 (kb:=kb) (b:=b) (by have:=hk3.cell 1;simpa using this) (fun k t a e=>by have:=PU.o x (by simp);rw[e] at this;unfold fH at this;exact this.1);go_wp2_with fail;refine hw0.mono ?_;clear hw0 hv0;rintro e4 w4 ⟨u,rfl,hu,hd4⟩;have lV:=lW.trans (hd4.mono lW.size);have hk4:=hk3.below hd4 hk3.lt;have hB4:=hB3.below hd4 hB3.lt;have hrow4:qK w4 (FO F w.heap.size) g 0 (x::L):=hrow.aG (T:=[]) (aD.below hd4) (by simp) fun p v _ h=>h.below hd4
 clear lW hk3 hB3 hrow hd4 hp0;go_upto_region 5 with fail
 go_cut [38] (fun s wc=>s=.bool (Sc.sG Tr.gL x)/\wc=w4)
 case first=>
  cases x with
  |leaf k t a=>obtain⟨gu,rfl,_,huB⟩:=hu;have u0:=huB.cell 0;simp at u0;go_wp2_with fail;go_meet;exact⟨rfl,rfl⟩
  |gap t a d=>obtain rfl:u=oZZ:=hu;go_wp2_with fail;go_meet;exact⟨rfl,rfl⟩
  |branch k a l=>obtain rfl:u=oZZ:=hu;go_wp2_with fail;go_meet;exact⟨rfl,rfl⟩
 case rest=>
  obtain⟨rfl,rfl⟩:=hcut;clear hu;have Hpub:aC (Sc.sG Tr.gL (Sc.mP (Sc.dP (.branch kd at_ l0)) 0)=Sc.sG Tr.gL x):=(by show _=_;rw[HL.o];rfl);have zT:aC (Sc.bN (.branch kd at_ l0)=if Sc.sG Tr.gL x then L else x::L):=zT.o;generalize Sc.sG Tr.gL x=yZ at *;generalize wc=w5 at *;go_upto_if 38 with fail
  go_cut [6] (fun s wx=> ∃o c',s=.slice (some ⟨g,o,none⟩) (Sc.bN (.branch kd at_ l0)).length c'/\(Sc.bN (.branch kd at_ l0)).length<=c'/\qK wx (FO F w.heap.size) g o (Sc.bN (.branch kd at_ l0))/\
   aV wx kb 116 #[pZZ q,vZZ b,vZZ fi,vZZ la]/\
   aV wx ib 234 #[vZZ n,vZZ b,pZZ q,.bool yZ,.bool false,oZZ,.bool false,nZZ,.nilIface,.bool false,oZZ,oZZ,oZZ]/\Below w.heap.size w wx)
  case first=>
   cases yZ with
   |false=>have zT:aC (Sc.bN (.branch kd at_ l0)=x::L):=zT.o;go_wp2_with fail;go_meet;rw[zT.o];exact⟨0,c,rfl,qM.o,hrow4,hk4,hB4,lV⟩
   |true=>
    have Hb2:aC (Sc.bN (.branch kd at_ l0)=L):=zT.o;have y3:=hB4.frozen 3;have x3:=hB4.cell 3;simp at x3;have hc1: ¬c=1:=(by have h1:=Hlen.o;rw[Hb2.o] at h1;have h2:=qM.o;rw[aCC] at h2;omega);go_wp2_with fail;go_meet;have hk5:=hk4.far (p:=⟨ib,3,none⟩) (Nat.ne_of_lt Hio.o) (.bool true);have rE:=hB4.bD 3 (.bool true);simp at rE;have hd5:=lV.setCell (p:=⟨ib,3,none⟩) PV.o (.bool true);have Ef:=hrow4.aG (T:=[234]) (aD.set hB4 (by simp) (i:=3) (v:=.bool true)) (by decide) fun p v hp h=>dE.move lV hd5 h
    have hcl:L.length<=c-1:=(by have:=qM.o;rw[aCC] at this;omega);rw[Hb2.o];exact⟨1,c-1,rfl,hcl,Ef.drop1,hk5,rE,hd5⟩
  case rest=>
   obtain⟨o,c',rfl,hcap,hrow,hk,hB,hd⟩:=hcut;have Xc:aC (∀p∈Sc.bN (.branch kd at_ l0),fH b p):=fun p hp=>by
    have h1:=zT.o;rw[h1] at hp;split at hp
    ·exact PU.o p (List.mem_cons_of_mem _ hp)
    ·exact PU.o p hp
   clear hrow4 hk4 hB4 lV qM Hlb zT Hlen PU HL;generalize wc=w6 at *;have hpB:dE w6 (FO F w.heap.size) (.branch kd at_ l0) (.iface 114 (pZZ q)):=dE.below Hp.o.fo hd;have hpB0:=hpB;obtain⟨q',eq,_,Aq,cq,vq,hqB,_⟩:=hpB0;injection eq with _ eq;injection eq with eq;injection eq with eq;injection eq with eq;subst eq;have hdf:=TN (w:=w6) (g:=ib) (pb:=q) (kd:=kd) (by have:=hB.cell 2;simpa using this) (by have:=hqB.cell 0;simpa using this);have ZC:=Hx.o.ways;clear hqB hpB;rcases ZC with ⟨h3,hU⟩|⟨h4,hD⟩
   ·obtain rfl:kd=3:=h3;obtain⟨x0,x1,x2,x3,r,hBe,n1,n3,hr⟩:=hU.ex;obtain⟨x4,r2,hr4,JL⟩: ∃x4 r2,r=x4::r2/\((Sc.sG Tr.wE x4=false)\/∃x5 r3,r2=x5::r3/\Sc.sG Tr.wE x4=true):=by
     rcases hr with ⟨x4,rfl,h4⟩|⟨x4,x5,x6,rfl,h4,h5⟩
     ·exact⟨x4,[],rfl,.inl h4⟩
     ·exact⟨x4,[x5,x6],rfl,.inr ⟨x5,[x6],rfl,h4⟩⟩
    subst hr4;have Hit:=aB (gH (n:=n) (b:=b) (fi:=fi) (la:=la) hBe);rw[hBe] at hcap hrow Xc⊢;have Hr5:=aB JL;have hdf:Calls aBS 121 #[pZZ ib] w6 (rX false w6):=hdf;clear hU n1 n3 hr JL hBe;have oL:=aB hrow;have Hk:=aB hk;have HB:=aB hB;have Hd:=aB hd;have qM:=aB hcap;clear hrow hk hB hd hcap;generalize hN:(x0::x1::x2::x3::x4::r2).length=N at *;have HN:=aB hN;have i1:(1:Int)<(N:Int):=(by rw[<-hN];simp;omega);have i3:(3:Int)<(N:Int):=(by rw[<-hN];simp;omega);have i4:(4:Int)<(N:Int):=(by rw[<-hN];simp;omega);have j1:1<N:=(by omega);have j3:3<N:=(by omega);have j4:4<N:=(by omega);clear hN;go_wp2_with fail;refine hdf.mono ?_;clear hdf;rintro e7 w7 ⟨rfl,hd7⟩;have JA:aD [234] w6 w7:=aD.below hd7;have zB:=Hd.o.trans (hd7.mono Hd.o.size);have tF:=oL.o.aG JA (by decide) fun p v _ h=>dE.move Hd.o zB h
    have EC:=Hk.o.aG JA (by decide);have VD:=HB.o.below hd7 HB.o.lt;clear oL Hk HB Hd hd7 JA;obtain⟨v1,hv1,hp1⟩:=tF.2 1 x1 rfl;obtain⟨v3,hv3,hp3⟩:=tF.2 3 x3 rfl;go_upto_region 9 with fail;refine aL 100 (Wt g o v1 v3) ?_;have II:=zB.drew;have zP:qK w7.drew (FO F w.heap.size) g o (x0::x1::x2::x3::x4::r2):=tF.aG (T:=[]) (aD.below ((aBU _ _).drew)) (by simp) fun p v _ h=>dE.move zB II h
    have OM:=EC.drew;have jh:=VD.drew;have hp18:=dE.move zB II hp1;have hp38:=dE.move zB II hp3;have hS0:Wt g o v1 v3 w7.drew:=⟨hv1,hv3⟩;clear tF EC VD zB hv1 hv3 hp1 hp3;generalize w7.drew=w8 at *;unfold Wt at *;refine aO 0 hS0 ?_
    iterate 4 refine aO 2 hS0 ?_
    iterate 4 refine aO 7 hS0 ?_
    refine aO 1 hS0 ?_;have hw1:=vC hp18 (kb:=kb) (b:=b) (by have:=OM.cell 1;simpa using this) (fun k t a e=>by have:=Xc.o x1 (by simp);rw[e] at this;unfold fH at this;exact this.1);refine aA 6 fun C hC=> ?_
    go_simp;refine hw1.mono ?_;clear hw1;rintro e9 w9 ⟨u1,rfl,hu1,BO⟩;have Kg:Wt g o v1 v3 w9:=⟨(BO.cell (p:=⟨g,o+1,none⟩) (aDA w8 _ hS0.1)).trans hS0.1,(BO.cell (p:=⟨g,o+3,none⟩) (aDA w8 _ hS0.2)).trans hS0.2⟩;unfold Wt at Kg;have Y5:=II.trans (BO.mono II.size);have HY:qK w9 (FO F w.heap.size) g o (x0::x1::x2::x3::x4::r2):=zP.aG (T:=[]) (aD.below BO) (by simp) fun p v _ h=>dE.move II Y5 h
    have RU:=OM.below BO OM.lt;have jU:=jh.below BO jh.lt;have hp39:=dE.move II Y5 hp38;have hu1':=hu1.mono (F':=fun b=>w.heap.size<=b) fun b hb=>aBV II.size hb
    refine hC.out _ _ (fun _=>Kg) ?_;clear hC C hS0 zP OM jh hp18 hp38 II hu1 BO;have hw3:=vC hp39 (kb:=kb) (b:=b) (by have:=RU.cell 1;simpa using this) (fun k t a e=>by have:=Xc.o x3 (by simp);rw[e] at this;unfold fH at this;exact this.1);refine aA 11 fun C hC=> ?_
    go_simp;refine hw3.mono ?_;clear hw3;rintro e10 EA ⟨u3,rfl,hu3,qO⟩;have Kh:Wt g o v1 v3 EA:=⟨(qO.cell (p:=⟨g,o+1,none⟩) (aDA w9 _ Kg.1)).trans Kg.1,(qO.cell (p:=⟨g,o+3,none⟩) (aDA w9 _ Kg.2)).trans Kg.2⟩;unfold Wt at Kh;have Ej:=Y5.trans (qO.mono Y5.size);have MF:qK EA (FO F w.heap.size) g o (x0::x1::x2::x3::x4::r2):=HY.aG (T:=[]) (aD.below qO) (by simp) fun p v _ h=>dE.move Y5 Ej h
    have hk10:=RU.below qO RU.lt;have FQ:=jU.below qO jU.lt;have hu1:=hu1'.below qO;have C_:=hu3.mono (F':=fun b=>w.heap.size<=b) fun b hb=>aBV Y5.size hb
    refine hC.out _ _ (fun _=>Kh) ?_;clear hC C Kg HY RU jU hp39 Y5 qO hu1' hu3;obtain⟨Dk,rfl⟩:=hu1.ptr;obtain⟨Xr,rfl⟩:=C_.ptr
    iterate 2 refine aO 12 Kh ?_
    have Gg:=FQ.cell 10;have y10:=FQ.frozen 10;simp at Gg;have HB11:=aB (FQ.bD 10 (.pointer Dk));have Hgb:aC (g≠ib):=(by have:=Hgi.o;show _≠_;omega);have ow:aC (Wt g o v1 v3 (EA.setCell ⟨ib,10,none⟩ (.pointer Dk))):=⟨(aCM (a:=⟨g,o+1,none⟩) (aCG EA ⟨ib,10,none⟩ _ g Hgb.o)).trans Kh.1,(aCM (a:=⟨g,o+3,none⟩) (aCG EA ⟨ib,10,none⟩ _ g Hgb.o)).trans Kh.2⟩;unfold Wt at ow;clear Kh;refine aA 14 fun C hC=> ?_
    go_simp;refine hC.out _ _ (fun _=>ow.o) ?_;clear hC C;have DD:=Ej.setCell (p:=⟨ib,10,none⟩) PV.o (.pointer Dk);have MU:aD [234] EA (EA.setCell ⟨ib,10,none⟩ (.pointer Dk)):=aD.set FQ (by simp);have l8:=HB11.o;simp at l8;have UW:=MF.aG MU (by decide) fun p v _ h=>dE.move Ej DD h
    have Y3:=hk10.aG MU (by decide);have dx:=hu1.aG MU (by decide);have hu31:=C_.aG MU (by decide);have jb:=ow.o;clear ow HB11 Gg y10 FQ Ej MU MF hk10 hu1 C_;generalize EA.setCell _ _=gB at *
    iterate 2 refine aO 15 jb ?_
    have x11:=l8.cell 11;have y11:=l8.frozen 11;simp at x11;have HB12:=aB (l8.bD 11 (.pointer Xr));have aAX:aC (Wt g o v1 v3 (gB.setCell ⟨ib,11,none⟩ (.pointer Xr))):=⟨(aCM (a:=⟨g,o+1,none⟩) (aCG gB ⟨ib,11,none⟩ _ g Hgb.o)).trans jb.1,(aCM (a:=⟨g,o+3,none⟩) (aCG gB ⟨ib,11,none⟩ _ g Hgb.o)).trans jb.2⟩;unfold Wt at aAX;clear jb;refine aA 17 fun C hC=> ?_
    go_simp;refine hC.out _ _ (fun _=>aAX.o) ?_;clear hC C;have MM:=DD.setCell (p:=⟨ib,11,none⟩) PV.o (.pointer Xr);have l6:aD [234] gB (gB.setCell ⟨ib,11,none⟩ (.pointer Xr)):=aD.set l8 (by simp);have PE:=HB12.o;simp at PE;have Sb:=UW.aG l6 (by decide) fun p v _ h=>dE.move DD MM h
    have ZR:=Y3.aG l6 (by decide);have dw:=dx.aG l6 (by decide);have hu32:=hu31.aG l6 (by decide);clear aAX HB12 x11 y11 l8 DD l6 UW Y3 dx hu31;generalize gB.setCell _ _=K3 at *;refine aR ?_;have x11:=PE.cell 11;have x5:=PE.cell 5;have y5:=PE.frozen 5;simp at x11 x5;go_upto_region 11 with fail;have qH:=MM.setCell (p:=⟨ib,5,none⟩) PV.o (.pointer Xr);have Tx:aD [234] K3 (K3.setCell ⟨ib,5,none⟩ (.pointer Xr)):=aD.set PE (by simp);have jl:=PE.bD 5 (.pointer Xr);simp at jl;have X6:=Sb.aG Tx (by decide) fun p v _ h=>dE.move MM qH h
    have ic:=ZR.aG Tx (by decide);have hu13:=dw.aG Tx (by decide);have hu33:=hu32.aG Tx (by decide);clear x11 x5 y5 PE MM Tx Sb ZR dw hu32;generalize K3.setCell _ _=XC at *;obtain⟨v4,hv4,tH⟩:=X6.2 4 x4 rfl;have hw4:=vC tH (kb:=kb) (b:=b) (by have:=ic.cell 1;simpa using this) (fun k t a e=>by have:=Xc.o x4 (by simp);rw[e] at this;unfold fH at this;exact this.1);go_wp2_with fail;refine hw4.mono ?_;clear hw4 hv4 tH;rintro e14 Xq ⟨u4,rfl,hu4,DC⟩;have ML:=qH.trans (DC.mono qH.size);have Sa:qK Xq (FO F w.heap.size) g o (x0::x1::x2::x3::x4::r2):=X6.aG (T:=[]) (aD.below DC) (by simp) fun p v _ h=>dE.move qH ML h
    have gy:=ic.below DC ic.lt;have jk:=jl.below DC jl.lt;have D_:=hu13.below DC;have dn:=hu33.below DC;clear qH X6 ic jl hu13 hu33 DC;go_upto_region 12 with fail
    go_cut [83] (fun s wc=>s=.bool (Sc.sG Tr.wE x4)/\wc=Xq)
    case first=>
     cases x4 with
     |leaf k t a=>obtain⟨gu,rfl,_,huB⟩:=hu4;have u0:=huB.cell 0;simp at u0;go_wp2_with fail;go_meet;exact⟨rfl,rfl⟩
     |gap t a d=>obtain rfl:u4=oZZ:=hu4;go_wp2_with fail;go_meet;exact⟨rfl,rfl⟩
     |branch k a l=>obtain rfl:u4=oZZ:=hu4;go_wp2_with fail;go_meet;exact⟨rfl,rfl⟩
    case rest=>
     obtain⟨rfl,rfl⟩:=hcut;clear hu4;have Hpu:=aB Hpub.o;cases hA:Sc.sG Tr.wE x4 with
     |false=>
      have HA:=aB hA;clear hA;go_wp2_with fail;go_ret;rw[Hit.o,Hpu.o,HA.o];refine⟨ib,rfl,PV.o,⟨PV.o,rfl,q,.pointer Xr,none,0,.nilIface,.pointer Dk,.pointer Xr,oZZ,jk,?_,?_,aBT _,⟨[],fun hn=>absurd hn (by simp),rfl⟩,fun br o e hl=>absurd hl (by simp),fun hd=>(by cases hd),?_,?_,rfl⟩,ML⟩
      ·exact dE.below Hp.o ML
      ·exact dn
      ·exact D_
      ·exact dn
     |true=>
      obtain⟨x5,r3,rfl,_⟩: ∃x5 r3,r2=x5::r3/\Sc.sG Tr.wE x4=true:=by
       rcases Hr5.o with h|h
       ·rw[h] at hA;cases hA
       ·exact h
      have HA:=aB hA;clear hA Hr5;have i5:(5:Int)<(N:Int):=(by rw[<-HN.o];simp;omega);have j5:5<N:=(by rw[<-HN.o];simp);obtain⟨v5,hv5,Ju⟩:=Sa.2 5 x5 rfl;have hw5:=vC Ju (kb:=kb) (b:=b) (by have:=gy.cell 1;simpa using this) (fun k t a e=>by have:=Xc.o x5 (by simp);rw[e] at this;unfold fH at this;exact this.1);go_wp2_with fail;refine hw5.mono ?_;clear hw5 hv5 Ju Sa;rintro e15 rA ⟨u5,rfl,uf,ZX⟩;have uz:=ML.trans (ZX.mono ML.size);have Z5:=jk.below ZX jk.lt;have hu15:=D_.below ZX;have hu35:=dn.below ZX;have uf:=uf.mono (F':=fun b=>w.heap.size<=b) fun b hb=>aBV ML.size hb
      obtain⟨rf,rfl⟩:=uf.ptr;clear ML jk D_ dn ZX;have x9:=Z5.cell 9;have x12:=Z5.cell 12;have y9:=Z5.frozen 9;have y12:=Z5.frozen 12;simp at x9 x12;go_upto_region 14 with fail;have iq:=(uz.setCell (p:=⟨ib,9,none⟩) PV.o (.bool true)).setCell (p:=⟨ib,12,none⟩) PV.o (.pointer rf);have jU:=Z5.bD 9 (.bool true);have jf:aD [234] rA ((rA.setCell ⟨ib,9,none⟩ (.bool true)).setCell ⟨ib,12,none⟩ (.pointer rf)):=(aD.set Z5 (by simp)).trans (aD.set jU (by simp));have Z4:=jU.bD 12 (.pointer rf);simp at Z4;have hu16:=hu15.aG jf (by decide);have hu36:=hu35.aG jf (by decide);have hu56:=(uf.aG jf (by decide));clear x9 x12 y9 y12 jU Z5 uz jf hu15 hu35 uf;generalize(rA.setCell _ _).setCell _ _=w16 at *;have x12:=Z4.cell 12;have x5c:=Z4.cell 5;have y5:=Z4.frozen 5;simp at x12 x5c;go_wp2_with fail;have hd17:=iq.setCell (p:=⟨ib,5,none⟩) PV.o (.pointer rf);have je:aD [234] w16 (w16.setCell ⟨ib,5,none⟩ (.pointer rf)):=aD.set Z4 (by simp);have hB17:=Z4.bD 5 (.pointer rf);simp at hB17;have hu17:=hu16.aG je (by decide);have hu37:=hu36.aG je (by decide);have hu57:=hu56.aG je (by decide);clear x12 x5c y5 Z4 iq je hu16 hu36 hu56;generalize w16.setCell _ _=w17 at *;go_ret;rw[Hit.o,Hpu.o,HA.o];refine⟨ib,rfl,PV.o,⟨PV.o,rfl,q,.pointer rf,none,0,.nilIface,.pointer Dk,.pointer Xr,.pointer rf,hB17,?_,?_,aBT _,⟨[],fun hn=>absurd hn (by simp),rfl⟩,fun br o e hl=>absurd hl (by simp),fun hd=>(by cases hd),?_,?_,?_⟩,hd17⟩
      ·exact dE.below Hp.o hd17
      ·exact hu57
      ·exact hu17
      ·exact hu37
      ·exact hu57
   ·obtain rfl:kd=4:=h4;obtain⟨x0,x1,r,hBe,n1,hr⟩:=hD.ex;obtain⟨x2,x3,r2,rfl,hr2⟩: ∃x2 x3 r2,r=x2::x3::r2/\((Sc.mY x2=false)\/(∃e r3,r2=e::r3/\Sc.mY x2=true/\Sc.kindOf x2=6)):=by
     rcases hr with ⟨x3,e,x5,rfl,h1,_⟩|⟨p,x3,e,x5,rfl,h1,h2,_⟩
     ·exact⟨x3,e,[x5],rfl,.inl h1⟩
     ·exact⟨p,x3,[e,x5],rfl,.inr ⟨e,[x5],rfl,h1,h2⟩⟩
    have Hit:=aB (eQ (n:=n) (b:=b) (fi:=fi) (la:=la) hBe);rw[hBe] at hcap hrow Xc⊢;have Hr2:=aB hr2;have hdf:Calls aBS 121 #[pZZ ib] w6 (rX true w6):=hdf;clear hD n1 hr hr2 hBe;have oL:=aB hrow;have Hk:=aB hk;have HB:=aB hB;have Hd:=aB hd;have qM:=aB hcap;clear hrow hk hB hd hcap;generalize hN:(x0::x1::x2::x3::r2).length=N at *;have HN:=aB hN;have i1:(1:Int)<(N:Int):=(by rw[<-hN];simp;omega);have i2:(2:Int)<(N:Int):=(by rw[<-hN];simp;omega);have i3:(3:Int)<(N:Int):=(by rw[<-hN];simp;omega);have j1:1<N:=(by omega);have j2:2<N:=(by omega);have j3:3<N:=(by omega);clear hN;go_wp2_with fail;refine hdf.mono ?_;clear hdf;rintro e7 w7 ⟨rfl,hd7⟩;have JA:aD [234] w6 w7:=aD.below hd7;have zB:=Hd.o.trans (hd7.mono Hd.o.size);have tF:=oL.o.aG JA (by decide) fun p v _ h=>dE.move Hd.o zB h
    have EC:=Hk.o.aG JA (by decide);have VD:=HB.o.below hd7 HB.o.lt;clear oL Hk HB Hd hd7 JA;obtain⟨v1,hv1,hp1⟩:=tF.2 1 x1 rfl;have hw1:=vC hp1 (kb:=kb) (b:=b) (by have:=EC.cell 1;simpa using this) (fun k t a e=>by have:=Xc.o x1 (by simp);rw[e] at this;unfold fH at this;exact this.1);go_wp2_with fail;refine hw1.mono ?_;clear hw1 hv1 hp1;rintro e8 w8 ⟨u1,rfl,hu1,II⟩;have il:=zB.trans (II.mono zB.size);have zP:qK w8 (FO F w.heap.size) g o (x0::x1::x2::x3::r2):=tF.aG (T:=[]) (aD.below II) (by simp) fun p v _ h=>dE.move zB il h
    have OM:=EC.below II EC.lt;have jh:=VD.below II VD.lt;have hu1:=hu1.mono (F':=fun b=>w.heap.size<=b) fun b hb=>aBV zB.size hb
    obtain⟨Dk,rfl⟩:=hu1.ptr;clear zB tF EC VD II;have x5:=jh.cell 5;have y5:=jh.frozen 5;simp at x5;go_upto_region 17 with fail;have BO:=il.setCell (p:=⟨ib,5,none⟩) PV.o (.pointer Dk);have wH:aD [234] w8 (w8.setCell ⟨ib,5,none⟩ (.pointer Dk)):=aD.set jh (by simp);have jU:=jh.bD 5 (.pointer Dk);simp at jU;have HY:=zP.aG wH (by decide) fun p v _ h=>dE.move il BO h
    have RU:=OM.aG wH (by decide);have hu9:=hu1.aG wH (by decide);clear x5 y5 jh il wH zP OM hu1;generalize w8.setCell _ _=w9 at *;have Hpu:=aB Hpub.o;rcases Hr2.o with hb2|⟨ee,r3,rfl,hb2,hk2⟩
    ·obtain⟨v2,hv2,hp2⟩:=HY.2 2 x2 rfl;obtain⟨v3,hv3,hp3⟩:=HY.2 3 x3 rfl;obtain⟨kd3,g3,rfl⟩:=hp3.form;have has: ∀w,(Instr.typeAssert v2 122 114 true).run aBS w=.ok (.tuple #[oZZ,.bool false]) w:=by
      cases x2 with
      |leaf k t a=>obtain⟨g2,rfl,_⟩:=hp2;exact fun w=>rW ⟨g2,0,none⟩ w
      |gap t a d=>obtain⟨g2,rfl,_⟩:=hp2;exact fun w=>tX ⟨g2,0,none⟩ w
      |branch k a m=>cases hb2
     have GD:aC (Sc.oO x2=false):=(by show _=_;unfold Sc.oO;rw[hb2];rfl);have x8:=jU.cell 8;have y8:=jU.frozen 8;simp at x8;clear hb2 Hr2;go_wp2_with fail;have qO:=BO.setCell (p:=⟨ib,8,none⟩) PV.o (.iface kd3 (pZZ g3));have MV:aD [234] w9 (w9.setCell ⟨ib,8,none⟩ (.iface kd3 (pZZ g3))):=aD.set jU (by simp);have FQ:=jU.bD 8 (.iface kd3 (pZZ g3));simp at FQ;have dz:=hu9.aG MV (by decide);have Sn:=dE.move BO qO hp3;clear x8 y8 hv2 hv3 hp2 hp3 has jU BO hu9;generalize w9.setCell _ _=EA at *;go_ret;rw[Hit.o,Hpu.o,GD.o];refine⟨ib,rfl,PV.o,⟨PV.o,rfl,q,.pointer Dk,none,0,.iface kd3 (pZZ g3),oZZ,oZZ,oZZ,FQ,?_,?_,aBT _,⟨[],fun hn=>absurd hn (by simp),rfl⟩,fun br o e hl=>absurd hl (by simp),fun _=> ?_,rfl,rfl,rfl⟩,qO⟩
     ·exact dE.below Hp.o qO
     ·exact dz
     ·exact dE.keep (aBT _) (fun b hb _=>⟨rfl,hb.1⟩) _ _ Sn
    ·cases x2 with
     |leaf k t a=>cases hb2
     |gap t a d=>cases hb2
     |branch k2 a2 m=>
     obtain rfl:k2=6:=hk2;obtain⟨v2,hv2,hp2⟩:=HY.2 2 _ rfl;have hp20:=hp2;obtain⟨q2,rfl,_,A2,c2,vs2,hqB2,_⟩:=hp20;have has:=fun w=>jW ⟨q2,0,none⟩ w
     have q20:=hqB2.cell 0;simp at q20;have hlo2:=Xc.o (.branch 6 a2 m) (by simp);unfold fH at hlo2;have GD:aC (Sc.oO (.branch 6 a2 m)=true):=rfl;have x6:=jU.cell 6;have y6:=jU.frozen 6;simp at x6;clear hb2 Hr2 hqB2;go_upto_region 20 with fail;have qO:=BO.setCell (p:=⟨ib,6,none⟩) PV.o (.bool true);have MV:aD [234] w9 (w9.setCell ⟨ib,6,none⟩ (.bool true)):=aD.set jU (by simp);have FQ:=jU.bD 6 (.bool true);simp at FQ;have dz:=hu9.aG MV (by decide);have MF:=HY.aG MV (by decide) fun p v _ h=>dE.move BO qO h
     have hk10:=RU.aG MV (by decide);have ui:=dE.move BO qO hp2;clear x6 y6 hv2 hp2 has q20 jU BO hu9 HY RU MV;generalize w9.setCell _ _=EA at *;have hnm:=LA ui hlo2.1;go_wp2_with fail;refine hnm.mono ?_;clear hnm;rintro e11 gB ⟨A,cn,ls,rfl,hown,hls,DD⟩;have Ei:=qO.trans (DD.mono qO.size);have UW:qK gB (FO F w.heap.size) g o (x0::x1:: .branch 6 a2 m::x3::ee::r3):=MF.aG (T:=[]) (aD.below DD) (by simp) fun p v _ h=>dE.move qO Ei h
     have Y3:=hk10.below DD hk10.lt;have l8:=FQ.below DD FQ.lt;have dx:=dz.below DD;clear qO MF hk10 FQ dz DD ui;have hlL:(Sc.bT m).length<=1000000000:=aBV (Sc.lK m) hlo2.1;have HW:aC (Sc.bE b (.branch 6 a2 m)=(Sc.bT m).map (Sc.kK b)):=rfl;have HlL:=aB hlL;have Hll2:aC (∀y,some y∈Sc.bT m->b+y.2<=1000000000):=uK hlo2.2;clear hlL hlo2;generalize Sc.bT m=Ln at *;go_wp2_with fail;obtain⟨i0,ji,iW,jz1,iV⟩:=info_parts H6;have Ww:=aB Ei.size
     go_loopg [132] Ln.length (fun mm u wr=> ∃(i:Nat) (Ao:Option Addr) (co:Nat) (pW:List Value),u=vZZ i/\i<=Ln.length/\Ln.length-i<=mm/\
      aV wr ib 234 #[vZZ n,vZZ b,pZZ q,.bool yZ,.bool false,.pointer Dk,.bool true,.slice Ao i co,.nilIface,.bool false,oZZ,oZZ,oZZ]/\
      wr.ownsRow gB.heap.size 231 1 (.slice Ao i co) i pW/\jX wr (fun x=>w.heap.size<=x) ((Ln.take i).map (Sc.kK b)) pW/\aD [234,231] gB wr/\Below w.heap.size w wr/\gB.heap.size<=wr.heap.size)
     case atStart=>exact⟨0,none,0,[],rfl,Nat.zero_le _,aBT _,l8,World.ownsRow_nil _ _ _ _,rfl,aD.refl _ _,Ei,aBT _⟩
     case round=>
      obtain⟨i,Ao,co,pW,rfl,hi,hm,hB,hown2,hos,hK,hd,hsz⟩:=hrel
      by_cases hlt:i<Ln.length
      ·have GZ:=iZ i;have EB:=jJ i Ln.length;obtain⟨v,hv,hpv⟩:=hls.at_ hlt;obtain⟨r0,rfl,hc⟩:=pE hown (by omega);have hcell:=hc _ _ hv;have q0:wr.cell? ⟨r0,i,none⟩=some v:=(by obtain⟨cs,fr,hty⟩:=eU hown r0 rfl;exact(aCM (w:=gB) (a:=⟨r0,i,none⟩) ((hK r0 cs _ fr hty (by decide)).trans hty.symm)).trans hcell);have hkr:=Y3.aG hK (by decide);have HT:aC ((Ln.take (i+1)).map (Sc.kK b)=(Ln.take i).map (Sc.kK b)++[Sc.kK b Ln[i]]):=(by show _=_;rw[List.take_succ_eq_append_getElem hlt,List.map_append];rfl);have Hlo:aC (∀y,Ln[i]=some y->b+y.2<=1000000000):=fun y e=>Hll2.o y (e▸List.getElem_mem hlt)
       have c1:=uX i (by have:=HlL.o;omega);have uT:=aB hsz;generalize Ln[i]=p at *;have bZ:=aB hlt;have Hm:=aB hm;have Hi:aC (i<=1000000000):=(by have:=HlL.o;show _<=_;omega);clear hv hc hcell hlt hm hi;cases p with
       |none=>
        obtain rfl:v=oZZ:=hpv;have HT:aC ((Ln.take (i+1)).map (Sc.kK b)=(Ln.take i).map (Sc.kK b)++[none]):=HT;generalize(Ln.take i).map (Sc.kK b)=st at *;have x7:=hB.cell 7;simp at x7;go_wp2_with (at_builtin;refine dF _ rfl _ _ 232 rfl gB.heap.size 231 1 8 underlying232 ji iW jz1 iV rfl (by omega) rfl hown2 #[oZZ] rfl rfl (by simp[aCA]) Hi.o (by omega) uT.o ?_;intro A' c2 w2 hown3 hd2 hg2;have hB2:aV w2 ib 234 #[vZZ n,vZZ b,pZZ q,.bool yZ,.bool false,.pointer Dk,.bool true,.slice Ao i co,.nilIface,.bool false,oZZ,oZZ,oZZ]:=hB.grown hg2 (own_ne hown2 hB (by decide));have z7:=hB2.cell 7;have u7:=hB2.frozen 7;simp at z7);have hs2:=(hos.grown hown2 hg2 (by decide)).snoc (x:=none) (v:=oZZ) rfl;have hd3:=(hd.trans (hd2.mono Ww.o)).setCell (p:=⟨ib,7,none⟩) PV.o (.slice A' (i+1) c2);have hK2:aD [234,231] wr w2:=aD.grown hg2 fun g cs t fr e hk=>(by obtain⟨cs',fr',h3⟩:=eU hown2 g e;rw[hk] at h3;injection h3 with h3;injection h3 with _ h3 _;simp[h3]);have hK3:aD [234] w2 (w2.setCell ⟨ib,7,none⟩ (.slice A' (i+1) c2)):=aD.set hB2 (by simp);have hK4:aD [234,231] gB (w2.setCell ⟨ib,7,none⟩ (.slice A' (i+1) c2)):=(hK.trans hK2).trans (hK3.mono (by simp));have hB3:=hB2.bD 7 (.slice A' (i+1) c2);simp at hB3;have qG:(w2.setCell ⟨ib,7,none⟩ (.slice A' (i+1) c2)).ownsRow gB.heap.size 231 1 (.slice A' (i+1) c2) (i+1) (pW++[oZZ]):=aM hown3 fun k hk=>(fF w2 ib 7 _).block k (hown3.lt k hk).2 fun e=>own_ne hown3 hB2 (by decide) (e.symm.trans hk.symm)
        have hs3:=hs2.aG hK3 (by decide);have hz3:gB.heap.size<=(w2.setCell ⟨ib,7,none⟩ (.slice A' (i+1) c2)).heap.size:=aBV (aBV uT.o hg2.size) (fF w2 ib 7 _).size;clear hs2 hK2 hK3 hB2 hown3 hd2 hg2 hB hos hK hd z7 u7 x7 hown2 hkr q0;generalize w2.setCell _ _=w3 at *
        go_roundg (Ln.length-(i+1))
        case rel=>exact⟨i+1,A',c2,_,by go_num,by have:=bZ.o;omega,aBT _,hB3,qG,by rw[HT.o];exact hs3,hK4,hd3,hz3⟩
        case measure=>have:=bZ.o;have:=Hm.o;omega
       |some y=>
        obtain⟨gl,rfl,hF,hBl⟩:=hpv;have hpl:dE wr (FO F w.heap.size) (.leaf 3 y.1 y.2) (.iface 171 (pZZ gl)):=⟨gl,rfl,hF,hBl.aG hK (by decide)⟩;have HT:aC ((Ln.take (i+1)).map (Sc.kK b)=(Ln.take i).map (Sc.kK b)++[Sc.eD b (.leaf 3 y.1 y.2)]):=HT;generalize(Ln.take i).map (Sc.kK b)=st at *;have x7:=hB.cell 7;simp at x7;have x7:wr.drew.cell? ⟨ib,7,none⟩=some (.slice Ao i co):=x7;go_wp2_with fail;refine aL 13 (fun w':World=>w'.cell? ⟨ib,7,none⟩=some (.slice Ao i co)) ?_;have hB:=hB.drew;have hkr:=hkr.drew;have hpl:=dE.move hd hd.drew hpl;have hown2:wr.drew.ownsRow gB.heap.size 231 1 (.slice Ao i co) i pW:=hown2;have hos:=hos.below ((aBU _ _).drew);have hK:aD [234,231] gB wr.drew:=hK.drew;have hd:=hd.drew;have uT:aC (gB.heap.size<=wr.drew.heap.size):=uT;clear q0 hBl;generalize wr.drew=w2 at *;have hS0:(fun w':World=>w'.cell? ⟨ib,7,none⟩=some (.slice Ao i co)) w2:=x7
        iterate 8 refine aO 0 hS0 ?_
        have hw1:=vC hpl (kb:=kb) (b:=b) (by have:=hkr.cell 1;simpa using this) (fun k t a e=>by injection e with _ _ e;subst e;exact Hlo.o y rfl);refine aA 8 fun C hC=> ?_
        go_simp;refine hw1.mono ?_;clear hw1;rintro e3 w3 ⟨u,rfl,hu,hd3⟩;have hB3:=hB.below hd3 hB.lt;have z7:=hB3.cell 7;simp at z7;have hown3:=aM hown2 fun k hk=>hd3.block k (hown2.lt k hk).2
        have fw:=hos.below hd3;have hK3:=hK.trans (aD.below hd3);have hz3:=aBV uT.o hd3.size;have lW:=hd.trans (hd3.mono hd.size);have hu3:=hu.mono (F':=fun x=>w.heap.size<=x) fun x hx=>aBV hd.size hx
        refine hC.out _ _ (fun _=>z7) ?_;clear hC C hS0 hB hown2 hos hK hd hd3 hu hkr hpl x7;have mh:=aB hz3;clear hz3;obtain⟨pp,rfl⟩:=hu3.ptr;refine aA 9 fun C hC=> ?_
        go_simp;refine hC.out _ _ (fun _=>(hB3.alloc _).cell 7) ?_;clear hC C;refine aA 10 fun C hC=> ?_
        refine lT w3 (by rfl) _ _ 232 (by rfl) gB.heap.size 231 1 8 underlying232 ji iW jz1 iV rfl (by omega) (by rfl) hown3 #[.pointer pp] (by rfl) rfl (by simp[aCA]) Hi.o (by omega) mh.o ?_;intro A' c2 w5 hown5 hd5 hg5;have rE:=hB3.grown hg5 (own_ne hown3 hB3 (by decide));have y7:=rE.cell 7;have v7:=rE.frozen 7;simp at y7;have hs5:=(fw.grown hown3 hg5 (by decide)).snoc (hu3.grown hown3 hg5 (by decide));have hd6:=(lW.trans (hd5.mono Ww.o)).setCell (p:=⟨ib,7,none⟩) PV.o (.slice A' (i+1) c2);have sH:aD [234,231] w3 w5:=aD.grown hg5 fun g cs t fr e hk=>by obtain⟨cs',fr',h3⟩:=eU hown3 g e;rw[hk] at h3;injection h3 with h3;injection h3 with _ h3 _;simp[h3]
        have BP:aD [234] w5 (w5.setCell ⟨ib,7,none⟩ (.slice A' (i+1) c2)):=aD.set rE (by simp);have JA:aD [234,231] gB (w5.setCell ⟨ib,7,none⟩ (.slice A' (i+1) c2)):=(hK3.trans sH).trans (BP.mono (by simp));have K6:=rE.bD 7 (.slice A' (i+1) c2);simp at K6;have hown6:(w5.setCell ⟨ib,7,none⟩ (.slice A' (i+1) c2)).ownsRow gB.heap.size 231 1 (.slice A' (i+1) c2) (i+1) (pW++[.pointer pp]):=aM hown5 fun k hk=>(fF w5 ib 7 _).block k (hown5.lt k hk).2 fun e=>own_ne hown5 rE (by decide) (e.symm.trans hk.symm)
        have hs6:=hs5.aG BP (by decide);have y_:gB.heap.size<=(w5.setCell ⟨ib,7,none⟩ (.slice A' (i+1) c2)).heap.size:=aBV (aBV mh.o hg5.size) (fF w5 ib 7 _).size;refine hC.out _ _ (fun _=>y7) ?_;clear hC C hB3 hown3 fw hK3 lW hu3 z7 hd5 hg5 sH BP hs5 hown5 mh;refine aA 11 fun C hC=> ?_
        go_simp;refine hC.out _ _ (fun _=>y7) ?_;clear hC C;refine aA 12 fun C hC=> ?_
        go_simp;refine hC.out _ _ (fun _=>y7) ?_;clear hC C;refine aA 13 fun C hC=> ?_
        go_simp;refine hC.out _ _ (fun h=>absurd rfl h) ?_;clear hC C;refine aR ?_;clear y7 v7 rE;generalize w5.setCell _ _=w6 at *;go_wp2_with fail
        go_roundg (Ln.length-(i+1))
        case rel=>exact⟨i+1,A',c2,_,by go_num,by have:=bZ.o;omega,aBT _,K6,hown6,by rw[HT.o];exact hs6,JA,hd6,y_⟩
        case measure=>have:=bZ.o;have:=Hm.o;omega
      ·obtain rfl:i=Ln.length:=(by omega);have n1:=lC Ln.length;have n2:=kZ Ln.length;rw[List.take_length] at hos;have hrow:=UW.aG hK (by decide) fun p v _ h=>dE.move Ei hd h
       obtain⟨v4,hv4,tH⟩:=hrow.2 4 ee rfl;obtain⟨kd4,g4,rfl⟩:=tH.form;have hu:=dx.aG hK (by decide);have x8:=hB.cell 8;have y8:=hB.frozen 8;simp at x8;have hcn: ¬c'=1:=(by have:=qM.o;omega);have i4:(3:Int)<((N-1:Nat):Int):=(by have h1:=HN.o;simp at h1;omega);have j4:3<N-1:=(by omega);have hv4:wr.cell? ⟨g,o+1+3,none⟩=some (.iface kd4 (pZZ g4)):=hv4;clear hlt hi hm hrow;go_wp2_with fail;have MM:=hd.setCell (p:=⟨ib,8,none⟩) PV.o (.iface kd4 (pZZ g4));have l6:aD [234] wr (wr.setCell ⟨ib,8,none⟩ (.iface kd4 (pZZ g4))):=aD.set hB (by simp);have PE:=hB.bD 8 (.iface kd4 (pZZ g4));simp at PE;have dw:=hu.aG l6 (by decide);have hp12:=dE.move hd MM tH;have aBu:=hos.aG l6 (by decide);have J_:(wr.setCell ⟨ib,8,none⟩ (.iface kd4 (pZZ g4))).ownsRow gB.heap.size 231 1 (.slice Ao Ln.length co) Ln.length pW:=aM hown2 fun k hk=>(fF wr ib 8 _).block k (hown2.lt k hk).2 fun e=>own_ne hown2 hB (by decide) (e.symm.trans hk.symm)
       obtain⟨hco,hrw,hty⟩:=bY J_ (fun x=>w.heap.size<=x) fun x hx=>aBV Ww.o hx
       clear x8 y8 hv4 tH hB hd hu hos hown2;generalize wr.setCell _ _=K3 at *;go_ret;rw[Hit.o,Hpu.o,GD.o];have hWl:(Sc.bE b (.branch 6 a2 m)).length=Ln.length:=(by rw[HW.o,List.length_map]);refine⟨ib,rfl,PV.o,⟨PV.o,rfl,q,.pointer Dk,Ao,co,.iface kd4 (pZZ g4),oZZ,oZZ,oZZ,?_,?_,?_,?_,⟨pW,hrw,?_⟩,?_,fun _=> ?_,rfl,rfl,rfl⟩,MM⟩
       ·show aV K3 ib 234 (kW _ _ _ _ _ _ _ _ _ _);unfold kW;simp only[if_true,hWl];exact PE
       ·exact dE.below Hp.o MM
       ·exact dw
       ·simp only[if_true,hWl];exact hco
       ·simp only[if_true];rw[HW.o];exact aBu
       ·simp only[if_true,hWl];exact hty
       ·exact dE.keep (aBT _) (fun b hb _=>⟨rfl,hb.1⟩) _ _ hp12
end
end Go.Proofs.YtcjjfeephaddcaaGreatDoor
