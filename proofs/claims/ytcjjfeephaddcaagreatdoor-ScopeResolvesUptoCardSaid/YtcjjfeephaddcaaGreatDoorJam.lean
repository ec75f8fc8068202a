import Derived.Test.YtcjjfeephaddcaaGreatDoorJal
set_option linter.all false
open Bool renaming eq_iff_iff->aEH
open Go.Exit renaming inBlock->aES
open Go.IntKind renaming i64->aCQ
open Go.IntWalk renaming i64_in->aCV
open Go.Proofs.Tryz renaming prog->aBS
open Go.RowKit.Below renaming refl->aBU
open Go.World renaming setCell->aCI
open List renaming length_append->aBW,getElem?_eq_getElem->aBY,length_cons->aCC,getElem?_eq_some_iff->aCD,length_map->aCE,mem_singleton->aCH,mem_cons->aCJ,append_nil->aCO,mem_of_getElem?->aDC,map_append->aDI,mem_append->aDJ,mem_map->aDQ,nodup_append->aEC,contains_iff_mem->aFE,findIdx?_eq_some_iff_getElem->aFK,flatten_cons->aFW,getElem?_cons_zero->aFX,mem_flatten->aGC,getElem?_cons_succ->aGU
open Nat renaming le_refl->aBT
open Option renaming some->aDB,getD_some->aGB
set_option maxHeartbeats 64000000
set_option maxRecDepth 100000
open Go.Proofs.Tryz
namespace Go.Proofs.YtcjjfeephaddcaaGreatDoor
open Go.RowKit Go.Maps
variable{GG:List (List Nat)}{c cd f g k pg:Nat}{M:List (Nat×Nat)}{w w':World}{F:Nat->Prop}{x:Sc.It}{W:Sc.Wk}{A Ad:Option Addr}{fs:List Fl}
def zG(GG:List (List Nat))(p:Nat×Nat):Nat:=((GG[p.1]?.getD [])[p.2]?).getD 0
def xg(GG:List (List Nat))(p:Nat×Nat):Prop:= ∃G g,GG[p.1]? =some G/\G[p.2]? =some g
theorem BM{p:Nat×Nat}{G:List Nat}(h1:GG[p.1]? =some G)(h2:G[p.2]? =some g):zG GG p=g:=by
 unfold zG;rw[h1,aGB,h2,aGB]
theorem VQ: ∀{GG:List (List Nat)},GG.flatten.Nodup->∀{p q:Nat×Nat},xg GG p->xg GG q->zG GG p=zG GG q->p=q
 | [],_,p,q,hp,_,_=>by obtain⟨G,g,h1,_⟩:=hp;simp at h1
 |G0::GG,hn,(f,k),(f',k'),⟨G,g,h1,h2⟩,⟨G',g',h1',h2'⟩,e=>by
  rw[BM h1 h2,BM h1' h2'] at e;subst e;rw[aFW,aEC] at hn;obtain⟨n1,n2,n3⟩:=hn;cases f with
  |zero=>
   cases f' with
   |zero=>simp only[aFX,aDB.injEq] at h1 h1';subst h1 h1';have:=(List.getElem?_inj (aCD.1 h2).1 n1).1 (h2.trans h2'.symm);dsimp only at this;rw[this]
   |succ f'=>simp only[aFX,aGU,aDB.injEq] at h1 h1';subst h1;exact absurd rfl (n3 g (aDC h2) g (aGC.2 ⟨G',aDC h1',aDC h2'⟩))
  |succ f=>
   cases f' with
   |zero=>simp only[aFX,aGU,aDB.injEq] at h1 h1';subst h1';exact absurd rfl (n3 g (aDC h2') g (aGC.2 ⟨G,aDC h1,aDC h2⟩))
   |succ f'=>simp only[aGU] at h1 h1';have:=VQ n2 (p:=(f,k)) (q:=(f',k')) ⟨G,g,h1,h2⟩ ⟨G',g,h1',h2'⟩ (by rw[BM (p:=(f,k)) h1 h2,BM (p:=(f',k')) h1' h2']);injection this with e1 e2;rw[e1,e2]
theorem YJ: ∀{l m:List Nat},l.Nodup->(∀x∈l,x∈m)->l.length<=m.length
 | [],_,_,_=>Nat.zero_le _
 |x::l,m,hn,hs=>by
  rw[List.nodup_cons] at hn;have hx:=hs x (by simp);have ih:=YJ (l:=l) (m:=m.erase x) hn.2 fun y hy=>(List.mem_erase_of_ne (fun e=>hn.1 (by rw[<-e];exact hy))).2 (hs y (List.mem_cons_of_mem _ hy))
  rw[List.length_erase_of_mem hx] at ih;have:=List.length_pos_of_mem hx;rw[aCC];omega
theorem ae(hn:GG.flatten.Nodup)(hM:M.Nodup)(hv: ∀p∈M,xg GG p):M.length<=GG.flatten.length:=by
 have h1:(M.map (zG GG)).Nodup:=by rw[List.nodup_iff_pairwise_ne,List.pairwise_map];exact List.Pairwise.imp_of_mem (fun{a b} ha hb hab e=>hab (VQ hn (hv a ha) (hv b hb) e)) (List.nodup_iff_pairwise_ne.1 hM)
 have h2:=YJ h1 (m:=GG.flatten) fun x hx=>by obtain⟨p,hp,rfl⟩:=aDQ.1 hx;obtain⟨G,g,e1,e2⟩:=hv p hp;rw[BM e1 e2];exact aGC.2 ⟨G,aDC e1,aDC e2⟩
 rwa [aCE] at h2
theorem lq(hn:GG.flatten.Nodup)(hv: ∀p∈M,xg GG p){q:Nat×Nat}(hq:xg GG q):((M.map (zG GG)).any fun x=>zG GG q==x)=M.contains q:=by
 rw[aEH,List.any_map,List.any_eq_true,aFE];constructor
 ·rintro⟨p,hp,e⟩;have e:zG GG q=zG GG p:=(by simpa using e);rw[VQ hn hq (hv p hp) e];exact hp
 ·intro h;exact⟨q,h,by simp⟩
theorem YQ: ∀{GG:List (List Nat)} {L:List (List Sc.It)},GG.length=L.length->(∀(f:Nat) (l:List Sc.It) (G:List Nat),L[f]? =some l->GG[f]? =some G->G.length=l.length)->GG.flatten.length=(L.map List.length).sum
 | [],[],_,_=>rfl
 |G::GG,l::L,h,hh=>by rw[aFW,aBW,List.map_cons,List.sum_cons,hh 0 l G rfl rfl,YQ (GG:=GG) (L:=L) (by simpa using h) fun f l' G' e1 e2=>hh (f+1) l' G' e1 e2]
theorem Sc.Rv {α:Type}(P:α->Bool): ∀l:List α,Sc.rU P l=match l.findIdx? P with|some i=>(i:Int)|none=> -1
 |l=>by
  cases h:l.findIdx? P with
  |none=>rw[List.findIdx?_eq_none_iff] at h;exact Sc.CV fun j hj=>by simpa using h _ (List.getElem_mem hj)
  |some i=>rw[aFK] at h;obtain⟨hi,h1,h2⟩:=h;exact Sc.UR hi h1 fun j hj hji=>by simpa using h2 j hji
theorem Sc.Uf (W:Sc.Wk)(x:Sc.It):Sc.Ew W.names x.mo=match Sc.nQ W x with|some i=>(i:Int)|none=> -1:=by
 unfold Sc.Ew Sc.nQ;cases x.mo with
 |none=>rfl
 |some m=>exact Sc.Rv _ _
theorem Nt.kind {tw:Bool}(h:Nt w F x tw g): ∃pb,w.cell? ⟨g,2,none⟩=some (bO pb)/\w.cell? ⟨pb,0,none⟩=some (kZZ ((if x.bH then 4 else 3:Nat):Int)):=by
 obtain⟨_,hkd,pb,nv,A,c,ev,mv,me,av,hB,hp,_⟩:=h;refine⟨pb,hB.cell 2,?_⟩;cases hx:x.part with
 |leaf k t a=>rw[hx] at hp;obtain⟨q,e,_⟩:=hp;injection e with e _;cases e
 |gap t a d=>rw[hx] at hp;obtain⟨q,e,_⟩:=hp;injection e with e _;cases e
 |branch k a l=>rw[hx] at hp hkd;obtain⟨q,e,_,A,c,vs,hB2,_⟩:=hp;injection e with _ e;injection e with e;injection e with e;injection e with e;subst e;have:=hB2.cell 0;simp at this;rw[<-hkd];exact this
theorem Nt.blk {tw:Bool}(h:Nt w F x tw g): ∃t cs,aV w g t cs:=by
 obtain⟨_,_,pb,nv,A,c,ev,mv,me,av,hB,_⟩:=h;exact⟨_,_,hB⟩
theorem YS(b:Bool):((if b then 4 else 3:Nat)==4)=b:=by cases b<;>rfl
def aBF(r:Int×Int×Nat)(w:World)(e:Ending)(w':World):Prop:=e=.returned (.tuple #[kZZ r.1,kZZ r.2.1,kZZ (r.2.2:Int)])/\Below w.heap.size w w'
structure xW(W:Sc.Wk)(GG:List (List Nat))(f k:Nat)(x:Sc.It)(g:Nat):Prop where
 ex: ∃l G,W.items[f]? =some l/\l[k]? =some x/\GG[f]? =some G/\G[k]? =some g
theorem xW.QX (h:xW W GG f k x g):xg GG (f,k):=by
 obtain⟨l,G,_,_,h3,h4⟩:=h.ex;exact⟨G,g,h3,h4⟩
theorem xW.blk (h:xW W GG f k x g):zG GG (f,k)=g:=by
 obtain⟨l,G,_,_,h3,h4⟩:=h.ex;exact BM h3 h4
section
variable{w:World}{F:Nat->Prop}{pg:Nat}{A:Option Addr}{c:Nat}{fs:List Fl}{Ad:Option Addr}{cd:Nat}{W:Sc.Wk}{GG:List (List Nat)}
theorem VV.item (h:VV w F pg A c fs Ad cd W GG)(hx:xW W GG f k x g): ∃tw,Nt w F x tw g:=by
 obtain⟨l,G,h1,h2,h3,h4⟩:=hx.ex;exact⟨_,(h.its f l G h1 h3).2 k x g h2 h4⟩
theorem VV.DK (h:VV w F pg A c fs Ad cd W GG)(hx:xW W GG f k x g):x.file=f/\(∀y:Sc.Wd,x.name=some y->y.at_<=1000000000)/\(∀y:Sc.Wd,x.me=some y->y.text.length<=1000000)/\f<W.items.length:=by
 obtain⟨l,G,h1,h2,h3,h4⟩:=hx.ex;have:=(h.Uh f l h1).2 x (aDC h2);exact⟨this.1,this.2.1,this.2.2,(aCD.1 h1).1⟩
theorem VV.look (h:VV w F pg A c fs Ad cd W GG)(hf:f<W.items.length){t:Bs}(ht:t.length<=1000000):
  ∃ab ao m G,Ad=some ⟨ab,ao,none⟩/\F ab/\ab<w.heap.size/\F m/\m<w.heap.size/\w.cell? ⟨ab,ao+f,none⟩=some (.map (some m))/\GG[f]? =some G/\G.length=(Sc.aT W f).length/\
   ∀w':World,w'.heap[m]? =w.heap[m]? ->(Instr.lookup 228 (.map (some m)) (.string ⟨t.toArray⟩) true).run aBS w'=.ok (.tuple #[rV (Sc.aT W f) G t,.bool (Sc.bJ (Sc.aT W f) t).isSome]) w':=by
 obtain⟨ms,h1,h2,h3⟩:=h.fnd;have hl:W.items[f]? =some W.items[f]:=aBY hf;have hG:GG[f]? =some (GG[f]'(by rw[h.gl];exact hf)):=aBY _;have hm:ms[f]? =some (ms[f]'(by rw[h1];exact hf)):=aBY _;obtain⟨n,D,hFm,ho,hD⟩:=h3 f _ _ _ hl hG hm;obtain⟨ab,ao,e,hFa,hla,hc⟩:=h2 (by rw[aCE];omega);have e1:Sc.aT W f=W.items[f]:=by unfold Sc.aT;rw[hl];rfl
 have hlen:=(h.its f _ _ hl hG).1;rw[e1];refine⟨ab,ao,_,_,e,hFa,hla,hFm,ho.lt,hc f _ (by rw[List.getElem?_map,hm];rfl),hG,hlen,fun w' hw=> ?_⟩;exact SB (dX ho hw) hD hlen t (by unfold maxLen;omega)
theorem NA(h:VV w F pg A c fs Ad cd W GG){G:List Nat}{t:Bs}(hG:GG[f]? =some G)(hk:Sc.bJ (Sc.aT W f) t=some k): ∃y g v,(Sc.aT W f)[k]? =some y/\y.name=some v/\xW W GG f k y g/\rV (Sc.aT W f) G t=bO g:=by
 obtain⟨y,hy,hn⟩:=Sc.uO hk;obtain⟨v,hv,_⟩:=Sc.AV hn;have hy':=hy;unfold Sc.aT at hy';cases hl:W.items[f]? with
 |none=>rw[hl] at hy';simp at hy'
 |some l=>rw[hl,aGB] at hy';have hkl:=(aCD.1 hy').1;have hlen:=(h.its f l G hl hG).1;have hg:G[k]? =some (G[k]'(by omega)):=aBY _;refine⟨y,_,v,hy,hv,⟨l,G,hl,hy',hG,hg⟩,?_⟩;unfold rV;rw[hk];dsimp only;rw[hg]
end
structure TgI(W:Sc.Wk)(GG:List (List Nat))(M:List (Nat×Nat))(f k:Nat)(x:Sc.It)(g:Nat):Prop where
 at_:xW W GG f k x g
 ok: ∀p∈M,xg GG p
 nd:M.Nodup
 new:(f,k)∉M
theorem TgI.len (h:TgI W GG M f k x g)(hn:GG.flatten.Nodup)(hg:GG.flatten.length=Sc.lL W):M.length+1<=Sc.lL W:=by
 have:=ae hn (M:=(f,k)::M) (List.nodup_cons.2 ⟨h.new,h.nd⟩) fun p hp=>by
  rcases aCJ.1 hp with rfl|hp
  ·exact h.at_.QX
  ·exact h.ok p hp
 rw[aCC] at this;omega
theorem TgI.next {f' k' g':Nat}{y:Sc.It}(h:TgI W GG M f k x g)(hy:xW W GG f' k' y g')(hc:(M++[(f,k)]).contains (f',k')=false):TgI W GG (M++[(f,k)]) f' k' y g':=by
 refine⟨hy,fun p hp=> ?_,?_,fun hm=> ?_⟩
 ·rcases aDJ.1 hp with hp|hp
  ·exact h.ok p hp
  ·rw[aCH] at hp;rw[hp];exact h.at_.QX
 ·rw[aEC];exact⟨h.nd,by simp,fun a ha b hb e=>by rw[aCH] at hb;subst hb;subst e;exact h.new ha⟩
 ·rw[aFE.2 hm] at hc;cases hc
mutual
def fH(b:Nat):Tr.PT->Prop
 | .leaf _ t a=>b+a<=1000000000/\t.length<=1000000
 | .gap _ _ _=>True
 | .branch _ _ l=>l.length<=1000000000/\CP b l
def CP(b:Nat):List Tr.PT->Prop
 | []=>True
 |p::l=>fH b p/\CP b l
end
theorem gG{b:Nat}: ∀{l:List Tr.PT},CP b l->∀p∈l,fH b p
 | [],_,p,hp=>absurd hp (by simp)
 |q::l,h,p,hp=>by
  unfold CP at h;rcases aCJ.1 hp with rfl|hp
  ·exact h.1
  ·exact gG h.2 p hp
theorem uK{b:Nat}{l:List Tr.PT}(h:CP b l): ∀y:Bs×Nat,some y∈Sc.bT l->b+y.2<=1000000000:=fun y hy=>by
 unfold Sc.bT at hy;obtain⟨p,hp,e⟩:=List.mem_filterMap.1 hy;have:=gG h p hp;cases p with
 |leaf k t a=>
  simp only[Sc.oN] at e
  by_cases hk:k=3
  ·rw[if_pos hk] at e;injection e with e;injection e with e;subst e;unfold fH at this;exact this.1
  ·rw[if_neg hk] at e;cases e
 |gap t a d=>
  simp only[Sc.oN] at e
  by_cases ht:t=Tr.lY
  ·rw[if_pos ht] at e;cases e
  ·rw[if_neg ht] at e;cases e
 |branch k a m=>cases e
theorem gN{l:List Tr.PT}{p:Tr.PT}(h:p∈Sc.aI l):p∈l:=(List.mem_filter.1 h).1
structure Ph(w0:World)(F:Nat->Prop)(pg mb:Nat)(A:Option Addr)(c:Nat)(fs:List Fl)(Ad:Option Addr)(cd:Nat)(W:Sc.Wk)(GG:List (List Nat)):Prop where
 wk:VV w0 F pg A c fs Ad cd W GG
 ok: ∀x,F x->x<w0.heap.size/\x≠pg/\x≠mb
 fb: ∀b o,A=some ⟨b,o,none⟩->0<fs.length->b≠pg/\b≠mb
 many:Sc.lL W<=100000000
section
variable{w0 w:World}{F:Nat->Prop}{pg mb:Nat}{A:Option Addr}{c:Nat}{fs:List Fl}{Ad:Option Addr}{cd:Nat}{W:Sc.Wk}{GG:List (List Nat)}{ts is:Value}{us:List Sc.Us}
theorem Ph.same (h:Ph w0 F pg mb A c fs Ad cd W GG)(hP:IQ w0 w pg mb (.slice A fs.length c) ts is (.slice Ad W.items.length cd) us): ∀b,F b->b<w0.heap.size->w.heap[b]? =w0.heap[b]? /\F b:=
 fun b hb hl=>⟨hP.old b hl (h.ok b hb).2.1 (h.ok b hb).2.2,hb⟩
theorem Ph.at_ (h:Ph w0 F pg mb A c fs Ad cd W GG)(hP:IQ w0 w pg mb (.slice A fs.length c) ts is (.slice Ad W.items.length cd) us):VV w F pg A c fs Ad cd W GG:=by
 obtain⟨Au,cu,hB,_⟩:=hP.blk;refine h.wk.keep hP.size ((hB.cell 0).trans h.wk.p0.symm) ((hB.cell 4).trans h.wk.p4.symm) ?_ fun b hb hl=>(h.same hP b hb hl).1
 refine⟨h.wk.files.1,fun hn=> ?_⟩;obtain⟨b,o,e,hl,hc⟩:=h.wk.files.2 hn;obtain⟨n1,n2⟩:=h.fb b o e hn;refine⟨b,o,e,Nat.lt_of_lt_of_le hl hP.size,fun j u hu=> ?_⟩;rw[World.cell?_of_block (w:=w0) (a:=⟨b,o+j,none⟩) (hP.old b hl n1 n2)];exact hc j u hu
end
theorem kJ.aG {T:List TypeId}(hk:aD T w w')(ht:359∉T): ∀{e:Sc.Env} {p:Option Addr},kJ w F e p->kJ w' F e p
 | [],_,h=>h
 |y::e,p,h=>by obtain⟨g,q,e1,hF,hB,he⟩:=h;exact⟨g,q,e1,hF,hB.aG hk ht,kJ.aG hk ht he⟩
theorem bY{B n:Nat}{e:TypeId}{vs:List Value}(h:w.ownsRow B e 1 (.slice A n c) n vs)(F:Nat->Prop)(hF: ∀x,B<=x->F x):n<=c/\fP w F A vs/\∀br o,A=some ⟨br,o,none⟩->0<n->∃cs fr,w.heap[br]? =some (.cells cs e fr):=by
 obtain⟨A',c',e1,hle,_⟩:=gQ h;injection e1 with e1 _ e2;subst e1 e2;refine⟨hle,fun hn=> ?_,fun br o e2 hn=> ?_⟩
 ·have hl:=h.1;obtain⟨g,rfl,hc⟩:=pE h (by omega);have hg:=h.lt g rfl;exact⟨g,0,rfl,hF g hg.1,hg.2,fun j u hu=>by rw[Nat.zero_add];exact hc j u hu⟩
 ·obtain⟨g,e3,_⟩:=pE h hn;rw[e2] at e3;injection e3 with e3;injection e3 with e3 e4;subst e3 e4;exact eU h br (by rw[e2];rfl)
theorem H7:(aBS.info? 229).map (fun i=>(i.zero,i.size,i.bytes))=some (some (oZZ),1,8):=by kernel_rfl
theorem Sc.XI (W:Sc.Wk)(n:Nat)(M:List (Nat×Nat))(p:Nat×Nat)(x:Sc.It):Sc.qV W (n+1) M p x=match Sc.kM W x with
  | .is f a e=>(f,a,e)
  | .at_ f k=>if(M++[p]).contains (f,k)then(-1, -1,7)else
   match(Sc.aT W f)[k]? with
   |some y=>Sc.qV W n (M++[p]) (f,k) y
   |none=>(-1, -1,7):=rfl
theorem own_below{B:Nat}{e:TypeId}{size n:Nat}{v:Value}{xs:List Value}(h:w.ownsRow B e size v n xs)(hd:Below w.heap.size w w'):w'.ownsRow B e size v n xs:=aM h fun k hk=>hd.block k (h.lt k hk).2
theorem Sc.Ug (h:Sc.nQ W x=some f):f<W.names.length:=by
 unfold Sc.nQ at h;cases hm:x.mo with
 |none=>rw[hm] at h;cases h
 |some m=>rw[hm] at h;exact(aFK.1 h).1
def xu(pg g ab ao f m gm:Nat)(fd:Value)(t:Bs)(v:Value)(b:Bool)(w':World):Prop:=
 w'.cell? ⟨pg,4,none⟩=some fd/\w'.cell? ⟨ab,ao+f,none⟩=some (.map (some m))/\w'.cell? ⟨g,11,none⟩=some (bO gm)/\w'.cell? ⟨gm,0,none⟩=some (.string ⟨t.toArray⟩)/\
 (Instr.lookup 228 (.map (some m)) (.string ⟨t.toArray⟩) true).run aBS w'=.ok (.tuple #[v,.bool b]) w'
theorem QJ(h:VV w F pg A c fs Ad cd W GG)(wG:Sc.lL W<=100000000)(hx:xW W GG f k x g):
  Calls aBS 174 #[pZZ pg,bO g] w (aBF (Sc.bP W f k x) w):=by
 obtain⟨i0,ji,iW,jz1,iV⟩:=info_parts H7;have hgl:=YQ h.gl fun f l G e1 e2=>(h.its f l G e1 e2).1
 have Yi:aC (GG.flatten.length=Sc.lL W):=hgl;have TA:=aB wG;generalize hR:Sc.bP W f k x=R;have HR:aC (R=Sc.qV W (Sc.lL W+1) [] (f,k) x):=hR.symm;clear hR hgl wG;unfold bO
 go_enter func174,ntmps174
 go_wp2_with fail
 go_loopg [1,7] (Sc.lL W+1) (fun m v u wr=> ∃(n f k:Nat) (x:Sc.It) (g:Nat) (M:List (Nat×Nat)) (Am:Option Addr) (cm:Nat),v=pZZ g/\u=.slice Am M.length cm/\TgI W GG M f k x g/\wr.ownsRow w.heap.size 229 1 (.slice Am M.length cm) M.length ((M.map (zG GG)).map bO)/\aC (R=Sc.qV W n M (f,k) x)/\aC (n+M.length=Sc.lL W+1)/\n<=m/\Below w.heap.size w wr)
 case atStart=>exact⟨Sc.lL W+1,f,k,x,g,[],none,0,rfl,rfl,⟨hx,fun p hp=>absurd hp (by simp),List.nodup_nil,by simp⟩,World.ownsRow_nil _ _ _ _,HR,rfl,aBT _,aBU _ _⟩
 case round=>
  clear HR hx;obtain⟨n,f,k,x,g,M,Am,cm,rfl,rfl,hT,hown,HR,HN,hm,hd⟩:=hrel;have hlen:=hT.len h.nd Yi.o;obtain⟨n',rfl⟩: ∃n',n=n'+1:=⟨n-1,by have:=HN.o;omega⟩;have HR:aC (R=_):=(show R=_ from HR.o).trans (Sc.XI W n' M (f,k) x);have Hn:aC (M.length<=1000000000):=(by have:=TA.o;show _<=_;omega);have uT:=aB hd.size;have Hm:=aB hm;clear hlen hm;go_upto_region 3 with (at_builtin;refine dF wr rfl _ _ 227 rfl w.heap.size 229 1 8 underlying227 ji iW jz1 iV rfl (by omega) rfl hown #[pZZ g] rfl rfl (by simp[Value.oneCell']) Hn.o (by omega) uT.o ?_;intro A' c' w2 hown2 hd2 _);have hd2:=hd.trans hd2;have hv:(M.map (zG GG)).map bO++(#[pZZ g]:Array Value).toList=((M++[(f,k)]).map (zG GG)).map bO:=by rw[aDI,aDI,List.map_singleton,List.map_singleton,hT.at_.blk]
  rw[hv] at hown2;clear hown hd hv;have hW2:=h.below hd2;obtain⟨tw,hI⟩:=hW2.item hT.at_;obtain⟨lZ,_,hme,hfl⟩:=hW2.DK hT.at_;obtain⟨hF,hkd,pb,nv,Ap,cp,ev,mv,mev,av,hB,_,_,_,_,_,_,hmo,Y1,_⟩:=hI;have hcl:=Cx hW2.files (by have:=hW2.few;omega) hW2.p0 (hB.cell 10) hmo;rw[<-hW2.names,Sc.Uf] at hcl;have HBl:=aB hB;have Hmx:=aB hme;have Fw:=aB lZ;clear hmo hkd hme lZ hfl hF;cases hfm:Sc.nQ W x with
  |none=>
   have hs:Sc.kM W x=.is (-1) (-1) 4:=(by unfold Sc.kM;rw[hfm]);rw[hs] at HR;rw[hfm] at hcl;clear hs hfm Y1 hB;go_wp2_with fail;refine hcl.mono ?_;clear hcl;rintro e w3 ⟨rfl,hd3⟩;go_wp2_with fail
   go_ret3
   exact⟨by rw[HR.o];rfl,hd2.trans (hd3.mono hd2.size)⟩
  |some f2=>
   rw[hfm] at hcl;have hf2:=Sc.Ug hfm;rw[hW2.names,aCE,hW2.fl] at hf2;go_wp2_with fail;refine hcl.mono ?_;clear hcl;rintro e w3 ⟨rfl,hd3⟩;have hB3:=hB.below hd3 hB.lt;have k11:=hB3.cell 11;simp[kW] at k11;have n0: ¬(f2:Int)<0:=by omega
   have n1:decide ((f2:Int)<0)=false:=(by simp);have lW:=hd2.trans (hd3.mono hd2.size);have hown3:=own_below hown2 hd3;have Y1:=Y1.below hd3;clear hB hown2 hd3;have yu:=aB hf2;clear hf2;cases hxm:x.me with
   |none=>
    have hs:Sc.kM W x=.is (-1) (-1) 4:=(by unfold Sc.kM;rw[hfm,hxm]);rw[hs] at HR;rw[hxm] at Y1;obtain rfl:mev=oZZ:=Y1;clear hs hfm hxm hB3;go_wp2_with fail
    go_ret3
    exact⟨by rw[HR.o];rfl,lW⟩
   |some mm=>
    rw[hxm] at Y1;obtain⟨gm,rfl,hFm,hBm⟩:=Y1;have hW3:=h.below lW;obtain⟨ab,ao,m,G,rfl,hFa,hla,hFmm,hlm,hcm,hG,hGl,ZP⟩:=hW3.look yu.o (t:=mm.text) (Hmx.o mm hxm);have hs:Sc.kM W x=Sc.uC W x f2 mm.text:=by unfold Sc.kM;rw[hfm,hxm]
    rw[hs] at HR;clear hs;clear hfm hxm;go_upto_region 6 with fail;refine aL 19 (xu pg g ab ao f2 m gm (.slice (some ⟨ab,ao,none⟩) W.items.length cd) mm.text (rV (Sc.aT W f2) G mm.text) (Sc.bJ (Sc.aT W f2) mm.text).isSome) ?_;have hS0:xu pg g ab ao f2 m gm (.slice (some ⟨ab,ao,none⟩) W.items.length cd) mm.text (rV (Sc.aT W f2) G mm.text) (Sc.bJ (Sc.aT W f2) mm.text).isSome w3.drew:=⟨hW3.p4,hcm,k11,by have:=hBm.cell 0;simpa using this,ZP _ rfl⟩;have i0:=iZ f2;have i1:(f2:Int)<(W.items.length:Int):=by have:=yu.o;omega
    clear k11 ZP
    iterate 18 refine aO 0 hS0 ?_
    refine aA 18 fun C hC=> ?_
    go_simp;refine hC.out _ _ (fun _=>hS0) ?_;clear hC C;refine aA 19 fun C hC=> ?_
    go_simp;refine hC.out _ _ (fun h=>absurd rfl h) ?_;clear hC C;refine aR ?_;have hd4:=lW.drew;have qG:w3.drew.ownsRow w.heap.size 229 1 (.slice A' (M.length+1) c') (M.length+1) (((M++[(f,k)]).map (zG GG)).map bO):=hown3;have hB4:=hB3.drew;clear hS0 lW hown3 hB3 hW3 hcm hBm;generalize w3.drew=w4 at *;have hW4:=h.below hd4;have k0:=hB4.cell 0;simp[kW] at k0;cases hk:Sc.bJ (Sc.aT W f2) mm.text with
    |none=>
     have hs:Sc.uC W x f2 mm.text=.is (-1) (-1) 4:=(by unfold Sc.uC;rw[hk]);rw[hs] at HR;clear hs hk;go_wp2_with fail
     go_ret3
     exact⟨by rw[HR.o];rfl,hd4⟩
    |some k2=>
     obtain⟨y,g2,v,hy,hyn,Ty,hfv⟩:=NA hW4 hG hk;obtain⟨tw2,hI2⟩:=hW4.item Ty;obtain⟨pb2,hp2,hp0⟩:=hI2.kind;have hs:Sc.uC W x f2 mm.text=if !y.yZ&&f2 !=x.file then .is (-1) (-1) 6 else if y.bH then .is f2 (v.at_:Int) 0 else .at_ f2 k2:=by unfold Sc.uC;rw[hk];dsimp only;rw[hy];dsimp only;rw[hyn];rfl
     rw[hs] at HR;rw[hfv];clear hs hk hfv hG hGl;obtain⟨_,_,pb3,nv2,Ap2,cp2,ev2,mv2,mev2,av2,hB2,_,MI,_⟩:=hI2;have y3:=hB2.cell 3;have y5:=hB2.cell 5;simp[kW] at y3 y5;have hfz:aC (x.file=x.file):=rfl;clear hfz;go_upto_region 9 with fail
     go_cut [48] (fun v w'=>v=.bool (!y.yZ&&f2 !=x.file)/\w'=w4)
     case first=>
      cases fu:y.yZ with
      |true=>rw[fu] at y3;go_wp2_with fail;go_meet;exact⟨by rw[fu];rfl,rfl⟩
      |false=>
       rw[fu] at y3;have e:((f2:Int) !=(x.file:Int))=(f2 !=x.file):=by rw[aEH];simp;omega
       go_wp2_with fail;go_meet;exact⟨by simp[fu],rfl⟩
     case rest=>
     obtain⟨rfl,rfl⟩:=hcut;cases hc:(!y.yZ&&f2 !=x.file)with
     |true=>
      rw[hc,if_pos rfl] at HR;clear hc;go_wp2_with fail
      go_ret3
      exact⟨by rw[HR.o];rfl,hd4⟩
     |false=>
      rw[hc,if_neg (by simp)] at HR;clear hc y3;have hdf:=TN hp2 hp0;rw[YS] at hdf;rw[hyn] at MI;obtain⟨gv,rfl,_,hBv⟩:=MI;go_wp2_with fail;refine hdf.mono ?_;clear hdf;rintro e w5 ⟨rfl,hd5⟩;have z5:=(hB2.below hd5 hB2.lt).cell 5;have v1:=(hBv.below hd5 hBv.lt).cell 1;simp[kW] at z5 v1;have hown5:=own_below qG hd5;have wO:=hd4.trans (hd5.mono hd4.size);clear qG hBv y5 hp2 hp0 hd5;cases hdd:y.bH with
      |true=>
       rw[hdd,if_pos rfl] at HR;clear hown5;go_wp2_with fail
       go_quiet (fail)
       go_wp2_with fail
       go_ret3
       exact⟨by rw[HR.o];rfl,below_drewN wO _⟩
      |false=>
       rw[hdd,if_neg (by simp)] at HR;have hW5:=h.below wO;have hll:(M++[(f,k)]).length=M.length+1:=by rw[aBW];rfl
       have hany:=Ze (gs:=(M++[(f,k)]).map (zG GG)) (A:=A') (c:=c') (B:=w.heap.size) (by rw[aCE,hll];exact hown5) (by rw[aCE,hll];have:=HN.o;have:=TA.o;omega) g2 (fun z hz=>by
        have hz: ∃p,xg GG p/\z=zG GG p:=by
         rcases hz with rfl|hz
         ·exact⟨_,Ty.QX,Ty.blk.symm⟩
         ·obtain⟨p,hp,rfl⟩:=aDQ.1 hz;rcases aDJ.1 hp with hp|hp
          ·exact⟨p,hT.ok p hp,rfl⟩
          ·rw[aCH] at hp;subst hp;exact⟨_,hT.at_.QX,rfl⟩
        obtain⟨p,⟨G',g',e1,e2⟩,rfl⟩:=hz;rw[BM e1 e2];have hl':W.items[p.1]? =some (W.items[p.1]'(by rw[<-hW5.gl];exact(aCD.1 e1).1)):=aBY _;have hlen':=(hW5.its _ _ _ hl' e1).1;have hkk:=(aCD.1 e2).1;have hkl:p.2<(W.items[p.1]'(by rw[<-hW5.gl];exact(aCD.1 e1).1)).length:=(by rw[<-hlen'];exact hkk);exact((hW5.its _ _ _ hl' e1).2 p.2 _ g' (aBY hkl) e2).blk)
       rw[aCE,hll,<-Ty.blk,lq h.nd (fun p hp=>by
        rcases aDJ.1 hp with hp|hp
        ·exact hT.ok p hp
        ·rw[aCH] at hp;subst hp;exact hT.at_.QX) Ty.QX,Ty.blk] at hany
       have hTn:=hT.next Ty;have HR:aC (R=if(M++[(f,k)]).contains (f2,k2)then(-1, -1,7)else Sc.qV W n' (M++[(f,k)]) (f2,k2) y):=(by show R=_;rw[HR.o];dsimp only;rw[hy]);clear hW5 Ty hy hT hB2 hll hdd z5 v1;generalize hM:M++[(f,k)]=M' at *;generalize hc:M'.contains (f2,k2)=b at *;clear hc;go_wp2_with fail;refine hany.mono ?_;clear hany;rintro e w6 ⟨rfl,hd6⟩;have hown6:=own_below hown5 hd6;have VB:=wO.trans (hd6.mono wO.size);clear hown5 hd6;cases b with
       |true=>
        rw[if_pos rfl] at HR;go_wp2_with fail
        go_ret3
        exact⟨by rw[HR.o];rfl,VB⟩
       |false=>
        rw[if_neg (by simp)] at HR;have hl6:aC (M'.length=M.length+1):=by show _=_;rw[<-hM,aBW];rfl
        clear hM;go_wp2_with fail
        go_roundg n'
        case rel=>exact⟨n',f2,k2,y,g2,M',A',c',rfl,by rw[hl6.out],(by first|exact hTn trivial|exact hTn rfl),by rw[hl6.out];exact hown6,HR,by have:=HN.o;have:=hl6.out;show _=_;omega,aBT _,VB⟩
        case measure=>have:=Hm.o;omega
def xm(pg ib ab ao f m lf:Nat)(fd:Value)(t:Bs)(v:Value)(b:Bool)(w':World):Prop:=
 w'.cell? ⟨pg,4,none⟩=some fd/\w'.cell? ⟨ib,0,none⟩=some (vZZ f)/\w'.cell? ⟨ab,ao+f,none⟩=some (.map (some m))/\w'.cell? ⟨lf,1,none⟩=some (.string ⟨t.toArray⟩)/\
 (Instr.lookup 228 (.map (some m)) (.string ⟨t.toArray⟩) true).run aBS w'=.ok (.tuple #[v,.bool b]) w'
theorem uY{w1:World}{r:Nat}(hd:Below w.heap.size w w1)(hr:r=w.heap.size){x0 x1 x2 x3 x4 x5:Value}(hB:aV w1 r 31 #[x0,x1,x2,x3,x4,x5])(a b c d e f:Value):
  Below w.heap.size w ((((((aCI w1 ⟨r,0,none⟩ a).setCell ⟨r,1,none⟩ b).setCell ⟨r,2,none⟩ c).setCell ⟨r,3,none⟩ d).setCell ⟨r,4,none⟩ e).setCell ⟨r,5,none⟩ f)/\
  aV ((((((aCI w1 ⟨r,0,none⟩ a).setCell ⟨r,1,none⟩ b).setCell ⟨r,2,none⟩ c).setCell ⟨r,3,none⟩ d).setCell ⟨r,4,none⟩ e).setCell ⟨r,5,none⟩ f) r 31 #[a,b,c,d,e,f]:=
 ⟨rD hd (by rw[hr];exact aBT _) a b c d e f,yI hB a b c d e f⟩
theorem XP(h:VV w F pg A c fs Ad cd W GG)(wG:Sc.lL W<=100000000){ib:Nat}(hx:xW W GG f k x ib)
  {e:Sc.Env} {p:Option Addr} {Fe:Nat->Prop} (he:kJ w Fe e p) {lf kk a:Nat} {t:Bs} (hl:aV w lf 173 #[kZZ ((kk:Nat):Int),.string ⟨t.toArray⟩,vZZ a]) (hb:x.base+a<=1000000000) (ht:t.length<=1000000):
  Calls aBS 216 #[pZZ pg,bO ib,.pointer p,pZZ lf] w (Wj (Sc.mQ W x e t a) w):=by
 obtain⟨hd,hr⟩:=uS w 31 qA;obtain⟨r,hr0⟩:=dC w.heap.size;rw[<-hr0] at hr;have Hr:=aB hr0;have hE:=he.below hd;have h1:=h.below hd;have hl1:=hl.below hd hl.lt;obtain⟨lZ,_,_,hfl⟩:=h.DK hx;unfold qA at hr hd h1 hl1 hE;have Xb:=aB hfl;clear hl he hfl;unfold bO
 go_enter func216,ntmps216
 go_upto_region 1 with fail;rw[<-hr0];clear hr0;generalize w.alloc _=w1 at *;obtain⟨tw,hI⟩:=h1.item hx;obtain⟨_,_,pb,nv,Ap,cp,ev,mv,mev,av,hB,_⟩:=hI;have k0:=hB.cell 0;have k1:=hB.cell 1;simp[kW] at k0 k1;rw[lZ] at k0;have l1:=hl1.cell 1;have l2:=hl1.cell 2;simp at l1 l2;have c1:aCQ.wrap ((x.base:Int)+(a:Int))=((x.base+a:Nat):Int):=by rw[aCV _ (by omega)];omega
 have Hb:=aB hb;clear hb;generalize Y7:x.base+a=ba at *;have Hba:=aB Y7
 go_quiet (fail)
 have hdn:Below w1.heap.size w1 (w1.drewN nq):=below_drewN (aBU _ _) nq;have hd:=below_drewN hd nq;have hr:=hr.drewN nq;have h1:=h1.below hdn;have hl1:=hl1.drewN nq;have hE:=kJ.below hE hdn;clear hdn hB k0 k1 l1 l2;generalize w1.drewN nq=w2 at *;obtain⟨tw,hI⟩:=h1.item hx;obtain⟨_,_,pb,nv,Ap,cp,ev,mv,mev,av,hB,_⟩:=hI;have k0:=hB.cell 0;simp[kW] at k0;rw[lZ] at k0;have l1:=hl1.cell 1;simp at l1;have hfnd:=Zf hE t;clear hE;go_wp2_with fail;refine hfnd.mono ?_;clear hfnd;rintro e1 w' ⟨rfl,rfl⟩;cases hfn:Sc.jG t e with
 |some oJ=>
  have hU:aC (Sc.mQ W x e t a=⟨f,ba,6,f,oJ,0⟩):=(by show _=_;unfold Sc.mQ;rw[hfn,<-lZ,<-Y7]);clear hfn;go_wp2_with fail
  go_still_tail 11,(by kernel_rfl)
  change wpList _ _ _ _ _ w'.drew;have hr:=hr.drew;have hd:=hd.drew;clear h1 hl1 k0 l1 hB;generalize w'.drew=w3 at *;obtain⟨⟨q0,q1,q2,q3,q4,q5⟩,y0,y1,y2,y3,y4,y5⟩:=aX hr;go_wp2_with fail;obtain⟨hb2,hr2⟩:=uY hd Hr.o hr (vZZ f) (vZZ ba) (kZZ 6) (vZZ f) (vZZ oJ) (kZZ 0);clear q0 q1 q2 q3 q4 q5 y0 y1 y2 y3 y4 y5 hd hr;generalize((((((aCI _ _ (vZZ f)).setCell _ _).setCell _ _).setCell _ _).setCell _ _).setCell _ _)=w4 at *;obtain⟨⟨q0,q1,q2,q3,q4,q5⟩,_⟩:=aX hr2
  (try simp only[aES,Exit.then])
  refine bodyPost_ret (v:=.agg (iT (Sc.mQ W x e t a))) (by rw[hU.out];unfold iT;simp[results,results216,go_sem,q0,q1,q2,q3,q4,q5];try rfl) rfl ?_;exact⟨rfl,hb2⟩
 |none=>
  have hV:aC (Sc.mQ W x e t a=Sc.XD W x t a):=(by show _=_;unfold Sc.mQ;rw[hfn]);clear hfn;obtain⟨ab,ao,m,G,rfl,hFa,hla,hFmm,hlm,hcm,hG,hGl,ZP⟩:=h1.look Xb.o ht;have i0:=iZ f;have i1:(f:Int)<(W.items.length:Int):=(by have:=Xb.o;omega);go_upto_region 5 with fail;refine aL 19 (xm pg ib ab ao f m lf (.slice (some ⟨ab,ao,none⟩) W.items.length cd) t (rV (Sc.aT W f) G t) (Sc.bJ (Sc.aT W f) t).isSome) ?_;have hS0:xm pg ib ab ao f m lf (.slice (some ⟨ab,ao,none⟩) W.items.length cd) t (rV (Sc.aT W f) G t) (Sc.bJ (Sc.aT W f) t).isSome w'.drew:=⟨h1.p4,k0,hcm,l1,ZP _ rfl⟩;clear ZP hcm l1 hl1
  iterate 18 refine aO 0 hS0 ?_
  refine aA 18 fun C hC=> ?_
  go_simp;refine hC.out _ _ (fun _=>hS0) ?_;clear hC C;refine aA 19 fun C hC=> ?_
  go_simp;refine hC.out _ _ (fun h=>absurd rfl h) ?_;clear hC C;refine aR ?_;have hd:=hd.drew;have hr:=hr.drew;have h1:=h1.below ((aBU _ _).drew);clear hS0 k0 hB;generalize w'.drew=w3 at *;obtain⟨tw,hI⟩:=h1.item hx;obtain⟨_,_,pb,nv,Ap,cp,ev,mv,mev,av,hB,_⟩:=hI;have k0:=hB.cell 0;simp[kW] at k0;rw[lZ] at k0;cases hk:Sc.bJ (Sc.aT W f) t with
  |none=>
   have hU:aC (Sc.mQ W x e t a=Sc.jR f ba 6 4):=(by show _=_;rw[hV.out];unfold Sc.XD;rw[lZ,hk,<-Y7]);clear hV hk hG hGl;have hno:=AJ f ba 6 4 w3;go_wp2_with fail;refine hno.mono ?_;clear hno;rintro e2 w4 ⟨rfl,hd4⟩;have lV:=hd.trans (hd4.mono hd.size);have hr4:=hr.below hd4 hr.lt;have HN:aC (iT (Sc.jR f ba 6 4)=#[vZZ f,vZZ ba,kZZ 6,kZZ (-1),kZZ (-1),kZZ 4]):=rfl;rw[HN.o];clear hd hr hd4 h1 hB k0;obtain⟨⟨q0,q1,q2,q3,q4,q5⟩,y0,y1,y2,y3,y4,y5⟩:=aX hr4;go_wp2_with fail;obtain⟨hb2,hr2⟩:=uY lV Hr.o hr4 (vZZ f) (vZZ ba) (kZZ 6) (kZZ (-1)) (kZZ (-1)) (kZZ 4);clear q0 q1 q2 q3 q4 q5 y0 y1 y2 y3 y4 y5 lV hr4;generalize((((((aCI _ _ (vZZ f)).setCell _ _).setCell _ _).setCell _ _).setCell _ _).setCell _ _)=w5 at *;obtain⟨⟨q0,q1,q2,q3,q4,q5⟩,_⟩:=aX hr2
   (try simp only[aES,Exit.then])
   refine bodyPost_ret (v:=.agg (iT (Sc.mQ W x e t a))) (by rw[hU.out,HN.o];simp[results,results216,go_sem,q0,q1,q2,q3,q4,q5];try rfl) rfl ?_;exact⟨rfl,hb2⟩
  |some k2=>
   obtain⟨y,g2,v,hy,hyn,Ty,hfv⟩:=NA h1 hG hk;have hV:aC (Sc.mQ W x e t a=if y.bH then⟨f,ba,6,f,(v.at_:Nat),0⟩else⟨f,ba,6,(Sc.bP W f k2 y).1,(Sc.bP W f k2 y).2.1,0⟩):=(by show _=_;rw[hV.out];unfold Sc.XD;rw[lZ,hk,<-Y7];dsimp only;rw[hy];dsimp only;rw[hyn];rfl);rw[hfv];obtain⟨tw2,hI2⟩:=h1.item Ty;obtain⟨pb2,hp2,hp0⟩:=hI2.kind;have hdf:=TN hp2 hp0;rw[YS] at hdf;obtain⟨_,_,pb3,nv2,Ap2,cp2,ev2,mv2,mev2,av2,hB2,_,MI,_⟩:=hI2;rw[hyn] at MI;obtain⟨gv,rfl,_,hBv⟩:=MI;clear hk hfv hG hGl hp2 hp0 hyn;go_wp2_with fail;refine hdf.mono ?_;clear hdf;rintro e2 w4 ⟨rfl,hd4⟩;have h4:=h1.below hd4;have hr4:=hr.below hd4 hr.lt;have lV:=hd.trans (hd4.mono hd.size);have k0:=(hB.below hd4 hB.lt).cell 0;have z5:=(hB2.below hd4 hB2.lt).cell 5;have v1:=(hBv.below hd4 hBv.lt).cell 1;simp[kW] at k0 z5 v1;rw[lZ] at k0;clear hd hr h1 hB hB2 hBv hd4;cases hdd:y.bH with
   |true=>
    have hU:aC (Sc.mQ W x e t a=⟨f,ba,6,f,(v.at_:Nat),0⟩):=(by show _=_;rw[hV.out,hdd,if_pos rfl]);clear hV hdd hy h4;go_wp2_with fail
    go_still_tail 16,(by kernel_rfl)
    change wpList _ _ _ _ _ w4.drew;have hr:=hr4.drew;have hd:=lV.drew;clear k0 z5 v1 hr4 lV;generalize w4.drew=w3 at *;obtain⟨⟨q0,q1,q2,q3,q4,q5⟩,y0,y1,y2,y3,y4,y5⟩:=aX hr;generalize v.at_=oJ at *;go_wp2_with fail;obtain⟨hb2,hr2⟩:=uY hd Hr.o hr (vZZ f) (vZZ ba) (kZZ 6) (vZZ f) (vZZ oJ) (kZZ 0);clear q0 q1 q2 q3 q4 q5 y0 y1 y2 y3 y4 y5 hd hr;generalize((((((aCI _ _ (vZZ f)).setCell _ _).setCell _ _).setCell _ _).setCell _ _).setCell _ _)=w9 at *;obtain⟨⟨q0,q1,q2,q3,q4,q5⟩,_⟩:=aX hr2
    (try simp only[aES,Exit.then])
    refine bodyPost_ret (v:=.agg (iT (Sc.mQ W x e t a))) (by rw[hU.out];unfold iT;simp[results,results216,go_sem,q0,q1,q2,q3,q4,q5];try rfl) rfl ?_;exact⟨rfl,hb2⟩
   |false=>
    have hU:aC (Sc.mQ W x e t a=⟨f,ba,6,(Sc.bP W f k2 y).1,(Sc.bP W f k2 y).2.1,0⟩):=(by show _=_;rw[hV.out,hdd,if_neg (by simp)]);have G_:=QJ h4 wG Ty;clear hV hdd hy h4 z5 v1;generalize Sc.bP W f k2 y=R at *;go_wp2_with fail;refine G_.mono ?_;clear G_;rintro e2 w5 ⟨rfl,hd5⟩;have hr:=hr4.below hd5 hr4.lt;have hd:=lV.trans (hd5.mono lV.size);have k0:=Ya hd5 k0;clear hr4 lV hd5;obtain⟨⟨q0,q1,q2,q3,q4,q5⟩,y0,y1,y2,y3,y4,y5⟩:=aX hr;go_wp2_with fail;obtain⟨hb2,hr2⟩:=uY hd Hr.o hr (vZZ f) (vZZ ba) (kZZ 6) (kZZ R.1) (kZZ R.2.1) (kZZ 0);clear q0 q1 q2 q3 q4 q5 y0 y1 y2 y3 y4 y5 hd hr;generalize((((((aCI _ _ (vZZ f)).setCell _ _).setCell _ _).setCell _ _).setCell _ _).setCell _ _)=w9 at *;obtain⟨⟨q0,q1,q2,q3,q4,q5⟩,_⟩:=aX hr2
    (try simp only[aES,Exit.then])
    refine bodyPost_ret (v:=.agg (iT (Sc.mQ W x e t a))) (by rw[hU.out];unfold iT;simp[results,results216,go_sem,q0,q1,q2,q3,q4,q5];try rfl) rfl ?_;exact⟨rfl,hb2⟩
theorem Sc.zm (W:Sc.Wk)(x:Sc.It)(e:Sc.Env)(t:Bs)(a:Nat):(Sc.mQ W x e t a).file=x.file/\(Sc.mQ W x e t a).at_=x.base+a:=by
 unfold Sc.mQ Sc.XD Sc.jR
 repeat' split
 all_goals exact⟨rfl,rfl⟩
def LetS(ib lf:Nat)(f b a:Nat)(w':World):Prop:=w'.cell? ⟨ib,0,none⟩=some (vZZ f)/\w'.cell? ⟨ib,1,none⟩=some (vZZ b)/\w'.cell? ⟨lf,2,none⟩=some (vZZ a)
theorem aD.cell {T:List TypeId}(hk:aD T w w'){i:Nat}{t:TypeId}{cs:Array Value}{v:Value}(hB:aV w g t cs)(ht:t∉T)(hv:cs[i]? =some v):w'.cell? ⟨g,i,none⟩=some v:=((hB.aG hk ht).cell i).trans hv
theorem Pw{w0 w:World}{F:Nat->Prop}{pg mb:Nat}{A:Option Addr}{c:Nat}{fs:List Fl}{Ad:Option Addr}{cd:Nat}{W:Sc.Wk}{GG:List (List Nat)}{ts is:Value}{us:List Sc.Us}
  (h:Ph w0 F pg mb A c fs Ad cd W GG) (hP:IQ w0 w pg mb (.slice A fs.length c) ts is (.slice Ad W.items.length cd) us) {f k ib:Nat} {x:Sc.It} (hx:xW W GG f k x ib)
  {e:Sc.Env} {ep:Option Addr} {Fe:Nat->Prop} (he:kJ w Fe e ep) {p:Tr.PT} {pv:Value} (hp:dE w F p pv) {vb:Nat} {up:Value} (hv:aV w vb 333 #[pv,.pointer ep,up])
  (hsh:Sc.uE p) (hlo:fH x.base p) (hl:us.length+1000000<=1000000000) (hl2:(Sc.visitM W x e p).length<=1000000) (hnm:Sc.kindOf p=9->(Sc.bE x.base (Sc.mP (Sc.dP p) 1)).length<=1000000):
  Calls aBS 171 #[pZZ pg,bO ib,pZZ vb] w (Xp w0 w pg mb (.slice A fs.length c) ts is (.slice Ad W.items.length cd) (us++Sc.visitM W x e p)):=by
 have hW:=h.at_ hP;have v0:=hv.cell 0;have v1:=hv.cell 1;simp at v0 v1;have Hv:=aB hv;clear hv;unfold bO;cases p with
 |leaf k t a=>
  obtain⟨g,rfl,_⟩:=hp;have has:=fun w=>rW ⟨g,0,none⟩ w
  go_enter func171,ntmps171
  go_wp2_with fail;go_end0;exact⟨rfl,by simpa [Sc.visitM,Sc.kindOf] using hP,aD.refl _ _⟩
 |gap t a d=>
  obtain⟨g,rfl,_⟩:=hp;have has:=fun w=>tX ⟨g,0,none⟩ w
  go_enter func171,ntmps171
  go_wp2_with fail;go_end0;exact⟨rfl,by simpa [Sc.visitM,Sc.kindOf] using hP,aD.refl _ _⟩
 |branch k a l=>
  have hp0:=hp;obtain⟨g,rfl,hFg,Al,cl,vl,hgB,_⟩:=hp0;have has:=fun w=>jW ⟨g,0,none⟩ w
  have g0:=hgB.cell 0;simp at g0;obtain⟨tw,hI⟩:=hW.item hx;obtain⟨lZ,_,_,hfl⟩:=hW.DK hx;obtain⟨_,_,pb,nv,Ap,cp,ev,mv,mev,av,hB,_⟩:=hI;have k0:=hB.cell 0;have k1:=hB.cell 1;simp[kW] at k0 k1;have tY:aC (x.file<=1000000000):=(by have:=hW.few;have:=hW.fl;show _<=_;omega);have HW:=aB hW;have HB:=aB hB;unfold Sc.uE at hsh;unfold fH at hlo;obtain⟨⟨h7,h9,h18,_,_⟩,hsl⟩:=hsh;obtain⟨hll,hlow⟩:=hlo;have HP:=aB hP;have Hl:=aB hl;have Hl2:=aB hl2;have Fw:=aB lZ;clear hW hB hP hl hl2 lZ hfl
  by_cases EC:k=7
  ·subst EC;obtain⟨⟨y0,y1,r,hs,_,_,hb1⟩,_⟩:=h7 rfl;have hlet:=YP hp hll hs;have hy:Sc.mP (Sc.dP (.branch 7 a l)) 1=y1:=(by show Sc.mP (Sc.aI l) 1=y1;rw[hs];rfl);have HV:aC (Sc.visitM W x e (.branch 7 a l)=(Sc.eD x.base y1).toList.map (fun w=>Sc.dM x.file w.at_ 2 false)):=(by show _=_;have e1:Sc.visitM W x e (.branch 7 a l)=(Sc.UO x.base (.branch 7 a l)).toList.map (fun w=>Sc.dM x.file w.at_ 2 false):=rfl;rw[e1];unfold Sc.UO;rw[hy]);clear hy;have hy1:fH x.base y1:=gG hlow y1 (gN (by rw[hs];simp));clear h7 h9 h18 hs hp hgB hnm
   go_enter func171,ntmps171
   go_upto_region 4 with fail;clear v0;generalize Sc.visitM W x e (.branch 7 a l)=V at *;go_wp2_with fail;refine hlet.mono ?_;clear hlet;rintro e1 w1 ⟨hd1,hm⟩;have hP1:=HP.o.below hd1;have hB1:=HB.o.below hd1 HB.o.lt;have hK1:aD [86,31] w w1:=aD.below hd1;clear g0 k0 k1 v1;cases y1 with
   |branch k2 a2 l2=>cases hb1
   |gap t2 a2 d2=>obtain rfl:=hm;have HV:aC (V=[]):=HV;clear hB1;go_wp2_with fail;go_end0;exact⟨rfl,by rw[HV.o,aCO];exact hP1,hK1⟩
   |leaf k2 t2 a2=>
    obtain⟨g1,rfl,hF1,hL1⟩:=hm;have HV:aC (V=[Sc.dM x.file (x.base+a2) 2 false]):=HV;unfold fH at hy1;have c1:aCQ.wrap ((x.base:Int)+(a2:Int))=((x.base+a2:Nat):Int):=(by rw[aCV _ (by omega)];omega);have hat:=aB hy1.1;clear hy1;generalize x.base+a2=at_ at *;go_upto_region 6 with fail;refine aL 100 (LetS ib g1 x.file x.base a2) ?_;have hP2:=hP1.below ((aBU _ _).drew);have hB2:=hB1.drew;have hL2:=hL1.drew;have hK2:=hK1.drew;clear hP1 hB1 hL1 hK1 hd1;generalize w1.drew=w2 at *;have hS0:LetS ib g1 x.file x.base a2 w2:=⟨by have:=hB2.cell 0;simpa [kW] using this,by have:=hB2.cell 1;simpa [kW] using this,by have:=hL2.cell 2;simpa using this⟩
    iterate 14 refine aO 0 hS0 ?_
    clear hS0;have hit:=EW x.file at_ 2 false w2;refine aA 14 fun C hC=> ?_
    go_simp;refine hit.mono ?_;clear hit;rintro e3 w3 ⟨rfl,hd3⟩;have hP3:=hP2.below hd3;have hB3:=hB2.below hd3 hB2.lt;have hL3:=hL2.below hd3 hL2.lt;have hK3:=hK2.trans (aD.below hd3);clear hP2 hB2 hL2 hK2 hd3;refine hC.out _ _ (fun _=>⟨by have:=hB3.cell 0;simpa [kW] using this,by have:=hB3.cell 1;simpa [kW] using this,by have:=hL3.cell 2;simpa using this⟩) ?_;clear hC C;have had:=vD hP3 (u:=Sc.dM x.file at_ 2 false) tY.o hat.out (by have:=Hl.o;omega);refine aA 15 fun C hC=> ?_
    go_simp;refine had.mono ?_;clear had;rintro e4 w4 ⟨rfl,uN,hK4⟩;refine hC.out _ _ (fun _=>⟨by have:=hK4.cell hB3 (by decide) (i:=0) rfl;simpa [kW] using this,by have:=hK4.cell hB3 (by decide) (i:=1) rfl;simpa [kW] using this,by have:=hK4.cell hL3 (by decide) (i:=2) rfl;simpa using this⟩) ?_;clear hC C hB3 hL3 hP3;refine aR ?_;go_wp2_with fail;go_end0;exact⟨rfl,by rw[HV.o];exact uN,hK3.trans hK4⟩
  have n7:((k:Int)==7)=false:=by simp;omega
  by_cases RU:k=9
  ·subst RU;obtain⟨y0,y1,r,hs,_,hb1,hk1⟩:=h9 rfl;have hy:Sc.mP (Sc.dP (.branch 9 a l)) 1=y1:=(by show Sc.mP (Sc.aI l) 1=y1;rw[hs];rfl);have hd2:Below w.heap.size w w.drew:=(aBU _ _).drew;have ZK:=BS (dE.below hp hd2) hll hs hb1;have HV:aC (Sc.visitM W x e (.branch 9 a l)=Sc.aY x.file [] (Sc.bE x.base y1)):=(by show _=_;have e1:Sc.visitM W x e (.branch 9 a l)=Sc.aY x.file [] (Sc.bE x.base (Sc.mP (Sc.dP (.branch 9 a l)) 1)):=rfl;rw[e1,hy]);have hnm:=hnm rfl;rw[hy] at hnm;have hy1:fH x.base y1:=gG hlow y1 (gN (by rw[hs];simp));have Yg:=aB hnm;clear h7 h9 h18 hs hp hgB hnm hy n7 EC;cases y1 with
   |leaf k2 t2 a2=>cases hb1
   |gap t2 a2 d2=>cases hb1
   |branch k2 a2 m=>
   go_enter func171,ntmps171
   go_upto_region 8 with fail;generalize Sc.visitM W x e (.branch 9 a l)=V at *;refine aL 100 (fun w':World=>w'.cell? ⟨ib,0,none⟩=some (kZZ (x.file:Int))) ?_;have hP2:=HP.o.below hd2;have hB2:=HB.o.drew;have hK2:aD [86,31] w w.drew:=aD.below hd2;have hS0:(fun w':World=>w'.cell? ⟨ib,0,none⟩=some (kZZ (x.file:Int))) w.drew:=k0;clear v0 v1 g0 k1 hd2;generalize w.drew=w2 at *
   iterate 7 refine aO 0 hS0 ?_
   clear hS0 k0;refine aA 7 fun C hC=> ?_
   go_simp;refine ZK.mono ?_;clear ZK;rintro e3 w3 ⟨g2,rfl,hp2,hd3⟩;have hP3:=hP2.below hd3;have hB3:=hB2.below hd3 hB2.lt;have hK3:=hK2.trans (aD.below hd3);clear hP2 hB2 hK2 hd3;refine hC.out _ _ (fun _=>by have:=hB3.cell 0;simpa [kW] using this) ?_;clear hC C;unfold fH at hy1;have hwo:=KP hp2 hy1.1 (ib:=ib) (b:=x.base) (by have:=hB3.cell 1;simpa [kW] using this) (uK hy1.2);generalize hws:Sc.bE x.base (.branch k2 a2 m)=ws at *;have di:aC (∀y,some y∈ws->y.at_<=1000000000):=fun y hy=>by
    rw[<-hws] at hy;unfold Sc.bE at hy;obtain⟨z,hz,e1⟩:=aDQ.1 hy;cases z with
    |none=>cases e1
    |some z=>injection e1 with e1;subst e1;exact uK hy1.2 z hz
   clear hws hp2;refine aA 8 fun C hC=> ?_
   go_simp;refine hwo.mono ?_;clear hwo;rintro e4 w4 ⟨A4,c4,zi,rfl,qG,Rx,hd4⟩;have uN:=hP3.below hd4;have hB4:=hB3.below hd4 hB3.lt;have hK4:=hK3.trans (aD.below hd4);refine hC.out _ _ (fun _=>by have:=hB4.cell 0;simpa [kW] using this) ?_;obtain⟨hcap,hrow,hty⟩:=bY qG (fun y=>w3.heap.size<=y) (fun y hy=>hy);have IA:=QK uN ⟨zi,hrow,Rx⟩ hty tY.o di.out (by have:=Hl.o;have:=Yg.o;omega) hcap;clear hC C hP3 hB3 hK3 hd4 qG Rx hrow hty hcap;refine aA 9 fun C hC=> ?_
   go_simp;refine IA.mono ?_;clear IA;rintro e5 w5 ⟨rfl,OZ,sH⟩;refine hC.out _ _ (fun _=>by have:=sH.cell hB4 (by decide) (i:=0) rfl;simpa [kW] using this) ?_;clear hC C hB4 uN;refine aR ?_;go_wp2_with fail;go_end0;exact⟨rfl,by rw[HV.o];exact OZ,hK4.trans sH⟩
  have n9:((k:Int)==9)=false:=by simp;omega
  by_cases R_:k=18
  ·subst R_;obtain⟨y0,hs,hy0⟩:=h18 rfl;have hy:Sc.mP (Sc.dP (.branch 18 a l)) 0=y0:=(by show Sc.mP (Sc.aI l) 0=y0;rw[hs];rfl);have hd2:Below w.heap.size w w.drew:=(aBU _ _).drew;have ek:=N8 (dE.below hp hd2) hll hs hy0;have HV:aC (Sc.visitM W x e (.branch 18 a l)=[Sc.mQ W x e (Sc.tT y0).1 (Sc.tT y0).2]):=(by show _=_;have e1:Sc.visitM W x e (.branch 18 a l)=[Sc.mQ W x e (Sc.tT (Sc.mP (Sc.dP (.branch 18 a l)) 0)).1 (Sc.tT (Sc.mP (Sc.dP (.branch 18 a l)) 0)).2]:=rfl;rw[e1,hy]);have hy1:fH x.base y0:=gG hlow y0 (gN (by rw[hs];simp));clear h7 h9 h18 hs hp hgB hnm hy n7 EC n9 RU;cases y0 with
   |branch k2 a2 m=>cases hy0
   |gap t2 a2 d2=>cases hy0
   |leaf k2 t2 a2=>
   have HV:aC (Sc.visitM W x e (.branch 18 a l)=[Sc.mQ W x e t2 a2]):=HV;have ek:Calls aBS 217 #[pZZ g] w.drew (Wm t2 a2 w.drew F):=ek;unfold fH at hy1
   go_enter func171,ntmps171
   go_upto_region 10 with fail;generalize Sc.visitM W x e (.branch 18 a l)=V at *;refine aL 100 (fun w':World=>w'.cell? ⟨vb,1,none⟩=some (.pointer ep)) ?_;have hP2:=HP.o.below hd2;have hE2:=he.below hd2;have hB2:=Hv.o.drew;have hK2:aD [86,31] w w.drew:=aD.below hd2;have hS0:(fun w':World=>w'.cell? ⟨vb,1,none⟩=some (.pointer ep)) w.drew:=v1;clear v0 g0 k0 k1 hd2;generalize w.drew=w2 at *
   iterate 8 refine aO 0 hS0 ?_
   clear hS0 v1;refine aA 8 fun C hC=> ?_
   go_simp;refine ek.mono ?_;clear ek;rintro e3 w3 ⟨g2,kk,rfl,hF2,hL3,hd3⟩;have hP3:=hP2.below hd3;have hB3:=hB2.below hd3 hB2.lt;have PD:=hE2.below hd3;have hK3:=hK2.trans (aD.below hd3);refine hC.out _ _ (fun _=>by have:=hB3.cell 1;simpa using this) ?_;clear hC C hP2 hB2 hK2 hd3 hE2;have hva:=XP (h.at_ hP3) h.many hx PD hL3 hy1.1 hy1.2;have hfa:=aB (Sc.zm W x e t2 a2);clear PD hL3;refine aA 9 fun C hC=> ?_
   go_simp;refine hva.mono ?_;clear hva;rintro e4 w4 ⟨rfl,hd4⟩;have uN:=hP3.below hd4;have hB4:=hB3.below hd4 hB3.lt;have hK4:=hK3.trans (aD.below hd4);refine hC.out _ _ (fun _=>by have:=hB4.cell 1;simpa using this) ?_;clear hC C hP3 hB3 hK3 hd4;generalize Sc.mQ W x e t2 a2=u at *;have had:=vD uN (u:=u) (by rw[hfa.out.1];exact tY.o) (by rw[hfa.out.2];exact hy1.1) (by have:=Hl.o;omega);refine aA 10 fun C hC=> ?_
   go_simp;refine had.mono ?_;clear had;rintro e5 w5 ⟨rfl,OZ,sH⟩;refine hC.out _ _ (fun _=>by have:=sH.cell hB4 (by decide) (i:=1) rfl;simpa using this) ?_;clear hC C hB4 uN;refine aR ?_;go_wp2_with fail;go_end0;exact⟨rfl,by rw[HV.o];exact OZ,hK4.trans sH⟩
  have n18:((k:Int)==18)=false:=(by simp;omega);have HV:aC (Sc.visitM W x e (.branch k a l)=[]):=(by show _=_;unfold Sc.visitM;have e1:Sc.kindOf (.branch k a l)=k:=rfl;rw[e1,if_neg EC,if_neg RU,if_neg R_]);clear h7 h9 h18 hgB hnm EC RU R_ k0 k1 v1
  go_enter func171,ntmps171
  go_wp2_with fail;go_end0;exact⟨rfl,by rw[HV.o,aCO];exact HP.o,aD.refl _ _⟩
end Go.Proofs.YtcjjfeephaddcaaGreatDoor
