import Derived.Test.YtcjjfeephaddcaaGreatDoorJar
set_option linter.all false
open Array renaming getD_eq_getD_getElem?->aDS,getElem?_setIfInBounds->aGP
open Bool renaming or_false->aDK
open Go.Proofs.Tryz renaming prog->aBS
open Go.RowKit.Below renaming heap_setCell->aCG
open Go.Value renaming slice->aBX
open Go.World renaming cell?_of_block->aCM,block_lt_of_cell?->aDA
open List renaming length_append->aBW,getElem?_eq_getElem->aBY,length_cons->aCC,getElem?_eq_some_iff->aCD,length_map->aCE,mem_singleton->aCH,append_assoc->aCL,map_cons->aDH,map_append->aDI,mem_append->aDJ,mem_map->aDQ,eq_nil_of_length_eq_zero->aDV,take_succ_cons->aDX,sum_cons->aFB,contains_iff_mem->aFE,mem_zipIdx_iff_getElem?->aHB
open Nat renaming le_refl->aBT,le_trans->aBV,zero_le->aBZ,lt_of_lt_of_le->aCF
set_option maxHeartbeats 64000000
set_option maxRecDepth 100000
open Go.Proofs.Tryz
namespace Go.Proofs.YtcjjfeephaddcaaGreatDoor
open Go.RowKit Go.Maps
variable{w w' w0:World}{F F':Nat->Prop}{A Aa Ai An:Option Addr}{x:Sc.It}{cs:Array Value}{b c ca ci cn wb:Nat}{l:List Sc.It}{fs:List Fl}{W:Sc.Wk}{fv iv rv:Value}{us:List Sc.Us}{T:List TypeId}
theorem xU.keep {t:TypeId}{vs:List Value}(h:xU w t F A vs)(hs:w.heap.size<=w'.heap.size)(hk: ∀b,F b->b<w.heap.size->w'.heap[b]? =w.heap[b]? /\F' b):xU w' t F' A vs:=
 ⟨h.1.keep hs hk,fun br o e hn=>by obtain⟨cs,fr,h2⟩:=h.2 br o e hn;obtain⟨b,o',e',hF,hl,_⟩:=h.1 hn;rw[e] at e';injection e' with e';injection e' with e';subst e';exact⟨cs,fr,(hk _ hF hl).1.trans h2⟩⟩
def JI(x:Sc.It)(nd nv mv me av bv:Value)(Ap:Option Addr)(cp:Nat):Array Value:=
 #[.bool (!x.bH),.bool x.yZ,nd,nv,mv,me,.bool x.has,av,.bool x.jT,.slice Ap x.params.length cp,bv]
def K7(w:World)(F:Nat->Prop)(x:Sc.It)(cs:Array Value):Prop:=
 ∃nd nv mv me av bv Ap cp,cs=JI x nd nv mv me av bv Ap cp/\EF w F x.name nv/\EF w F x.mo mv/\EF w F x.me me/\EF w F x.al av/\x.params.length<=cp/\
  (∃vs,xU w 89 F Ap vs/\rY w F x.params vs)/\(x.bH=true->nK w F x.base x.expr bv)/\(∃q,nd=.pointer q)/\(∃q,bv=.pointer q)
theorem K7.keep (hs:w.heap.size<=w'.heap.size)(hk: ∀x,F x->x<w.heap.size->w'.heap[x]? =w.heap[x]? /\F' x)(h:K7 w F x cs):K7 w' F' x cs:=by
 obtain⟨nd,nv,mv,me,av,bv,Ap,cp,e,h1,h2,h3,h4,h5,⟨vs,h6,h7⟩,h8,h9,h10⟩:=h;exact⟨nd,nv,mv,me,av,bv,Ap,cp,e,h1.keep hk,h2.keep hk,h3.keep hk,h4.keep hk,h5,⟨vs,h6.keep hs hk,h7.keep hk⟩,fun hd=>nK.keep hs hk _ _ (h8 hd),h9,h10⟩
theorem K7.form (h:K7 w F x cs): ∃pd pn pm pe pa pb Ap cp,cs=JI x (.pointer pd) (.pointer pn) (.pointer pm) (.pointer pe) (.pointer pa) (.pointer pb) Ap cp/\
  EF w F x.name (.pointer pn)/\EF w F x.mo (.pointer pm)/\EF w F x.me (.pointer pe)/\EF w F x.al (.pointer pa)/\x.params.length<=cp/\(∃vs,xU w 89 F Ap vs/\rY w F x.params vs)/\(x.bH=true->nK w F x.base x.expr (.pointer pb)):=by
 obtain⟨nd,nv,mv,me,av,bv,Ap,cp,e,h1,h2,h3,h4,h5,h6,h8,⟨pd,rfl⟩,⟨pb,rfl⟩⟩:=h;obtain⟨pn,rfl⟩:=h1.ptr;obtain⟨pm,rfl⟩:=h2.ptr;obtain⟨pe,rfl⟩:=h3.ptr;obtain⟨pa,rfl⟩:=h4.ptr;exact⟨pd,pn,pm,pe,pa,pb,Ap,cp,e,h1,h2,h3,h4,h5,h6,h8⟩
theorem mW{o:Nat}{nd nv mv me av bv:Value}{Ap:Option Addr}{cp:Nat}(h: ∀(j:Nat) (u:Value),(JI x nd nv mv me av bv Ap cp)[j]? =some u->w.cell? ⟨b,o+j,none⟩=some u):
  w.cell? ⟨b,o,none⟩=some (.bool (!x.bH))/\w.cell? ⟨b,o+1,none⟩=some (.bool x.yZ)/\w.cell? ⟨b,o+2,none⟩=some nd/\w.cell? ⟨b,o+3,none⟩=some nv/\w.cell? ⟨b,o+4,none⟩=some mv/\w.cell? ⟨b,o+5,none⟩=some me/\
  w.cell? ⟨b,o+6,none⟩=some (.bool x.has)/\w.cell? ⟨b,o+7,none⟩=some av/\w.cell? ⟨b,o+8,none⟩=some (.bool x.jT)/\w.cell? ⟨b,o+9,none⟩=some (.slice Ap x.params.length cp)/\w.cell? ⟨b,o+10,none⟩=some bv:=
 ⟨h 0 _ rfl,h 1 _ rfl,h 2 _ rfl,h 3 _ rfl,h 4 _ rfl,h 5 _ rfl,h 6 _ rfl,h 7 _ rfl,h 8 _ rfl,h 9 _ rfl,h 10 _ rfl⟩
def Yc(w:World)(F:Nat->Prop)(A:Option Addr)(l:List Sc.It):Prop:=
 0<l.length->∃b o,A=some ⟨b,o,none⟩/\F b/\b<w.heap.size/\∀(k:Nat) (x:Sc.It),l[k]? =some x->∃cs,K7 w F x cs/\∀(j:Nat) (u:Value),cs[j]? =some u->w.cell? ⟨b,o+k*11+j,none⟩=some u
theorem Yc.keep (hs:w.heap.size<=w'.heap.size)(hk: ∀x,F x->x<w.heap.size->w'.heap[x]? =w.heap[x]? /\F' x)(h:Yc w F A l):Yc w' F' A l:=fun hn=>by
 obtain⟨b,o,e,hF,hl,hc⟩:=h hn;have hb:=hk b hF hl;refine⟨b,o,e,hb.2,by omega,fun k x hx=> ?_⟩;obtain⟨cs,hi,hcs⟩:=hc k x hx;exact⟨cs,hi.keep hs hk,fun j u hu=>(aCM (a:=⟨b,o+k*11+j,none⟩) hb.1).trans (hcs j u hu)⟩
structure Fp(w:World)(F:Nat->Prop)(wb:Nat)(A:Option Addr)(c:Nat)(fs:List Fl)(Ai:Option Addr)(ci:Nat)(W:Sc.Wk):Prop where
 p0:w.cell? ⟨wb,0,none⟩=some (.slice A fs.length c)
 p2:w.cell? ⟨wb,2,none⟩=some (.slice Ai W.items.length ci)
 files:EI w A fs
 names:W.names=fs.map (·.1)
 fl:fs.length=W.items.length
 few:fs.length<=1000
 its: ∃ss:List (Option Addr×Nat×Nat),ss.length=W.items.length/\fP w F Ai (ss.map K4)/\∀(f:Nat) (l:List Sc.It) (s:Option Addr×Nat×Nat),W.items[f]? =some l->ss[f]? =some s->s.2.1=l.length/\Yc w F s.1 l
 Uh: ∀(f:Nat) (l:List Sc.It),W.items[f]? =some l->l.length<=1000000/\∀x∈l,x.file=f
theorem Fp.keep {F':Nat->Prop}(h:Fp w F wb A c fs Ai ci W)(hs:w.heap.size<=w'.heap.size)(h0:w'.cell? ⟨wb,0,none⟩=w.cell? ⟨wb,0,none⟩)(h2:w'.cell? ⟨wb,2,none⟩=w.cell? ⟨wb,2,none⟩)(hf:EI w' A fs)
  (hk: ∀b,F b->b<w.heap.size->w'.heap[b]? =w.heap[b]? /\F' b):Fp w' F' wb A c fs Ai ci W:=by
 obtain⟨ss,h3,h4,h5⟩:=h.its;exact⟨h0.trans h.p0,h2.trans h.p2,hf,h.names,h.fl,h.few,⟨ss,h3,h4.keep hs hk,fun f l s e1 e2=>⟨(h5 f l s e1 e2).1,(h5 f l s e1 e2).2.keep hs hk⟩⟩,h.Uh⟩
theorem Fp.below (h:Fp w F wb A c fs Ai ci W)(hd:Below w.heap.size w w'):Fp w' F wb A c fs Ai ci W:=
 h.keep hd.size (hd.cell (p:=⟨wb,0,none⟩) (aDA w _ h.p0)) (hd.cell (p:=⟨wb,2,none⟩) (aDA w _ h.p2)) (h.files.below hd) fun b hF hl=>⟨hd.block b hl,hF⟩
theorem Fp.file (h:Fp w F wb A c fs Ai ci W){f:Nat}(hl:W.items[f]? =some l):
  ∃r o s n,Ai=some ⟨r,o,none⟩/\w.cell? ⟨r,o+f,none⟩=some (.slice s l.length n)/\Yc w F s l:=by
 obtain⟨ss,h3,h4,h5⟩:=h.its;have hf:=(aCD.1 hl).1;have hs:f<ss.length:=by omega
 obtain⟨r,o,e,_,_,hc⟩:=h4 (by rw[aCE];omega);obtain⟨h6,h7⟩:=h5 f l ss[f] hl (aBY hs);refine⟨r,o,ss[f].1,ss[f].2.2,e,?_,h7⟩;have:=hc f (K4 ss[f]) (by rw[List.getElem?_map,aBY hs];rfl);unfold K4 at this;rw[h6] at this;exact this
def uM:Option Nat->Int
 |some k=>(k:Int)
 |none=> -1
theorem MX{n:Bs}(i:Nat)(hi:i<l.length)(hb: ∀j (hj:j<l.length),j<i->Sc.named n l[j]=false):
  (Sc.named n l[i]=true->Sc.bJ l n=some i)/\(Sc.named n l[i]=false->∀j (hj:j<l.length),j<i+1->Sc.named n l[j]=false):=by
 refine⟨fun h=> ?_,fun h j hj hji=> ?_⟩
 ·unfold Sc.bJ;rw[List.findIdx?_eq_some_iff_getElem];exact⟨hi,h,fun j hj=>by simpa using hb j (by omega) hj⟩
 ·rcases Nat.lt_or_ge j i with h'|h'
  ·exact hb j hj h'
  ·obtain rfl:j=i:=(by omega);exact h
theorem Kn{n:Bs}(hb: ∀j (hj:j<l.length),j<l.length->Sc.named n l[j]=false):Sc.bJ l n=none:=by
 unfold Sc.bJ;rw[List.findIdx?_eq_none_iff];intro x hx;obtain⟨j,hj,rfl⟩:=List.getElem_of_mem hx;exact hb j hj hj
def mg(n:Int)(w:World)(e:Ending)(w':World):Prop:=e=.returned (kZZ n)/\Below w.heap.size w w'
theorem uH(h:Fp w F wb A c fs Ai ci W){f:Nat}(hl:W.items[f]? =some l)(n:Bs):
  Calls aBS 39 #[pZZ wb,vZZ f,.string ⟨n.toArray⟩] w (mg (uM (Sc.bJ l n)) w):=by
 have hfl:=(aCD.1 hl).1;have Hll:=aB (h.Uh f l hl).1;have H:=aB h;have Hl:=aB hl;have ff0:=iZ f;have ff1:=jJ f W.items.length;clear h hl hfl
 go_enter func39,ntmps39
 go_wp2_with fail
 go_loopg [7] l.length (fun mm v wr=> ∃i:Nat,v=vZZ i/\i<=l.length/\l.length-i<=mm/\aC (∀j (hj:j<l.length),j<i->Sc.named n l[j]=false)/\Below w.heap.size w wr)
 case atStart=>exact⟨0,rfl,aBZ _,aBT _,fun j _ h=>absurd h (by omega),Below.refl _ _⟩
 case round=>
  obtain⟨i,rfl,hi,hm,HB,hd⟩:=hrel;have hr:=H.o.below hd;obtain⟨r,o,sA,sc,rfl,hs,hrow⟩:=hr.file Hl.o;have p2:=hr.p2;clear hr
  by_cases hlt:i<l.length
  ·have GZ:=iZ i;have EB:=jJ i l.length;obtain⟨b,o2,rfl,FP,hbl,hc⟩:=hrow (by omega);obtain⟨cs,hi2,hcs⟩:=hc i l[i] (aBY hlt);obtain⟨pd,pn,pm,pe,pa,pb,Ap,cp,rfl,hn, -, -, -, -, -, -⟩:=hi2.form;clear hi2;obtain⟨q0,q1,q2,q3,q4,q5,q6,q7,q8,q9,wF⟩:=mW hcs;have c1:=uX i (by have:=Hll.o;omega);obtain⟨h1,h2⟩:=MX i hlt HB.o;have HE:=aB h1;have HN:=aB h2;have bZ:=aB hlt;have Hm:=aB hm;obtain⟨hd1,hbx⟩:=uS wr 95 (JI l[i] (.pointer pd) (.pointer pn) (.pointer pm) (.pointer pe) (.pointer pa) (.pointer pb) Ap cp);have hd2:=hd.trans (hd1.mono hd.size);have hn1:=hn.below hd1;have Yg:aC (Sc.named n l[i]=match l[i].name with
    |some w=>w.text==n
    |none=>false):=rfl
   generalize Sc.named n l[i]=B at *;unfold JI at hd1 hbx hd2 hn1;generalize l[i].bH=xd at *;generalize l[i].yZ=xp at *;generalize l[i].has=xh at *;generalize l[i].jT=xq at *;generalize l[i].params.length=xl at *;generalize l[i].name=xn at *;clear hcs hc hlt hm hi hbl FP hrow HB h1 h2 hn hd;go_upto_region 5 with fail;obtain⟨bx,hbx0⟩:=dC wr.heap.size;rw[<-hbx0] at hbx⊢;clear hbx0 q0 q1 q2 q3 q4 q5 q6 q7 q8 q9 wF hs p2 hd1;generalize wr.alloc _=w2 at *;have x3:=hbx.cell 3;simp at x3;clear hbx;cases xn with
   |none=>
    obtain rfl:pn=none:=(by have e:Value.pointer pn=oZZ:=hn1;injection e);have HB2:=aB (HN.o Yg.o);clear HE HN;go_wp2_with fail
    go_roundg (l.length-(i+1))
    case rel=>exact⟨i+1,by go_num,by have:=bZ.o;omega,aBT _,HB2,hd2⟩
    case measure=>have:=bZ.o;have:=Hm.o;omega
   |some y=>
    obtain⟨g,e,_,hQ⟩:=hn1;injection e with e;subst e;obtain⟨_,_,z2,_,_⟩:=hQ.cells;have Yg:aC (B=(y.text==n)):=Yg;clear hQ;generalize hbb:(y.text==n)=bb at *;cases bb with
    |true=>have HF:=aB (HE.o Yg.o);clear HE HN;go_wp2_with fail;go_ret;exact⟨by rw[HF.o];rfl,hd2⟩
    |false=>
     have HB2:=aB (HN.o Yg.o);clear HE HN;go_wp2_with fail
     go_roundg (l.length-(i+1))
     case rel=>exact⟨i+1,by go_num,by have:=bZ.o;omega,aBT _,HB2,hd2⟩
     case measure=>have:=bZ.o;have:=Hm.o;omega
  ·obtain rfl:i=l.length:=(by omega);have i1:=lC l.length;have i2:=kZ l.length;have HF:=aB (Kn HB.o);clear hlt hi hm HB hrow;go_wp2_with fail;go_ret;exact⟨by rw[HF.o];rfl,hd⟩
structure yU(w0 w:World)(wb:Nat)(fv rv iv:Value)(us:List Sc.Us):Prop where
 size:w0.heap.size<=w.heap.size
 old: ∀x,x<w0.heap.size->x≠wb->w.heap[x]? =w0.heap[x]?
 calm:Calm w0 w
 blk: ∃A c,aV w wb 44 #[fv,rv,iv,.slice A us.length c]/\w.ownsRow w0.heap.size 101 6 (.slice A us.length c) us.length (us.flatMap fun u=>(iT u).toList)
 wl:wb<w0.heap.size
section
variable{w0 w w':World}{wb:Nat}{fv rv iv:Value}{us:List Sc.Us}
theorem yU.grown (h:yU w0 w wb fv rv iv us)(hs:w.heap.size<=w'.heap.size)(hk: ∀x,x<w.heap.size->w'.heap[x]? =w.heap[x]?)(hc:Calm w w'):yU w0 w' wb fv rv iv us:=by
 obtain⟨A,c,hB,ho⟩:=h.blk;exact⟨aBV h.size hs,fun x hx h1=>(hk x (aCF hx h.size)).trans (h.old x hx h1),h.calm.trans hc,⟨A,c,(hk _ hB.lt).trans hB,aM ho fun k hk'=>hk k (ho.lt k hk').2⟩,h.wl⟩
theorem yU.below (h:yU w0 w wb fv rv iv us)(hd:Below w.heap.size w w'):yU w0 w' wb fv rv iv us:=h.grown hd.size (fun x hx=>hd.block x hx) (Calm.below hd)
end
structure Rh(w0:World)(F:Nat->Prop)(wb:Nat)(A:Option Addr)(c:Nat)(fs:List Fl)(Ai:Option Addr)(ci:Nat)(W:Sc.Wk):Prop where
 wk:Fp w0 F wb A c fs Ai ci W
 ok: ∀x,F x->x<w0.heap.size/\x≠wb
 fb: ∀b o,A=some ⟨b,o,none⟩->0<fs.length->b≠wb
 many:Sc.lL W<=100000000
theorem Rh.at_ (h:Rh w0 F wb A c fs Ai ci W)(hP:yU w0 w wb (.slice A fs.length c) rv (.slice Ai W.items.length ci) us):Fp w F wb A c fs Ai ci W:=by
 obtain⟨Au,cu,hB,_⟩:=hP.blk;refine h.wk.keep hP.size ((hB.cell 0).trans h.wk.p0.symm) ((hB.cell 2).trans h.wk.p2.symm) ?_ fun b hb hl=>⟨hP.old b hl (h.ok b hb).2,hb⟩
 refine⟨h.wk.files.1,fun hn=> ?_⟩;obtain⟨b,o,e,hl,hc⟩:=h.wk.files.2 hn;refine⟨b,o,e,aCF hl hP.size,fun j u hu=> ?_⟩;rw[aCM (w:=w0) (a:=⟨b,o+j,none⟩) (hP.old b hl (h.fb b o e hn))];exact hc j u hu
theorem Rh.same (h:Rh w0 F wb A c fs Ai ci W)(hP:yU w0 w wb fv rv iv us): ∀b,F b->b<w0.heap.size->w.heap[b]? =w0.heap[b]? /\F b:=
 fun b hb hl=>⟨hP.old b hl (h.ok b hb).2,hb⟩
theorem aBB:(aBS.info? 101).map (fun i=>(i.zero,i.size,i.bytes))=some (some (.agg qA),6,48):=by kernel_rfl
def Fs(w0 w:World)(wb:Nat)(fv rv iv:Value)(us:List Sc.Us)(e:Ending)(w':World):Prop:=e=.returned (.tuple #[])/\yU w0 w' wb fv rv iv us/\aD [44,101] w w'/\w.heap.size<=w'.heap.size
theorem Wn.of {pg r:Nat}{v:Value}{u:Sc.Us}{t:TypeId}(hB:aV w pg t cs)(hv:cs[3]? =some v)(hr:aV w r 101 (iT u)):PY pg r v u w:=by
 have h0:=hr.cell 0;have h1:=hr.cell 1;have h2:=hr.cell 2;have h3:=hr.cell 3;have h4:=hr.cell 4;have h5:=hr.cell 5;exact⟨(hB.cell 3).trans hv,h0,h1,h2,h3,h4,h5⟩
theorem gP{u:Sc.Us}(h:yU w0 w wb fv rv iv us)(hl:us.length<=1000000000):
  Calls aBS 40 #[pZZ wb,.agg (iT u)] w (Fs w0 w wb fv rv iv (us++[u])):=by
 obtain⟨i0,ji,iW,jz1,iV⟩:=info_parts aBB;obtain⟨hd1,hr⟩:=uS w 101 (iT u);have h1:=h.below hd1;obtain⟨r,hr0⟩:=dC w.heap.size;obtain⟨A,c,hB0,ho0⟩:=h.blk;have Hor:aC (∀k,(aBX A us.length c).ownBlock=some k->k<r):=fun k hk=>by rw[hr0];exact(ho0.lt k hk).2
 have Hbr:aC (wb<r):=by show _<_;rw[hr0];exact hB0.lt
 have Hzr:aC (w0.heap.size<=r):=by show _<=_;rw[hr0];exact h.size
 have hB1:=hB0.below hd1 hB0.lt;have ho1:=aM ho0 fun k hk=>hd1.block k (ho0.lt k hk).2
 rw[<-hr0] at hr;have hl0:=aB hl;have hc1:aD [44,101] w (w.alloc (.cells (iT u) 101)):=aD.below hd1;clear h hB0 ho0 hd1 hl
 go_enter func40,ntmps40
 go_upto_region 1 with fail;rw[<-hr0];have hsz1:=World.size_alloc w (.cells (iT u) 101);rw[<-hr0] at hsz1;have Hsz1:=aB hsz1;clear hr0 hsz1;have hpl:=aB h1.wl;refine aL 10 (PY wb r (.slice A us.length c) u) ?_;have hB3:=hB1.drew;have hr3:=hr.drew;have ho3:(w.alloc (.cells (iT u) 101)).drew.ownsRow w0.heap.size 101 6 (.slice A us.length c) us.length (us.flatMap fun u=>(iT u).toList):=ho1;have ZN: ∀x,x<w0.heap.size->x≠wb->(w.alloc (.cells (iT u) 101)).drew.heap[x]? =w0.heap[x]? :=h1.old;have MO:=Calm.drew h1.calm;have hc3:=aD.drew hc1;have hwz3:w.heap.size<=(w.alloc (.cells (iT u) 101)).drew.heap.size:=by show _<=(w.alloc _).heap.size;simp
 have ZH:w0.heap.size<=(w.alloc (.cells (iT u) 101)).drew.heap.size:=h1.size;clear hB1 hr ho1 h1 hc1;generalize(w.alloc _).drew=w3 at *;have hS0:PY wb r (.slice A us.length c) u w3:=Wn.of hB3 rfl hr3
 iterate 6 refine aO 0 hS0 ?_
 clear hS0;have hB4:=hB3.alloc (.cells (iT u) 101);have hr4:=hr3.alloc (.cells (iT u) 101);have IJ:=aB (Wn.of hB4 (v:=.slice A us.length c) rfl hr4);clear hB4 hr4;unfold iT at IJ;refine aA 6 fun C hC=> ?_
 go_simp;refine hC.out _ _ (fun _=>IJ.out) ?_;clear hC C;refine aA 7 fun C hC=> ?_
 refine lT w3 (by rfl) _ _ 42 (by rfl) w0.heap.size 101 6 48 underlying42 ji iW jz1 iV rfl (by omega) (by rfl) ho3 (iT u) (by rfl) rfl (by simp[iT,Value.oneCell']) hl0.out (by omega) ZH ?_;intro A' c' w5 FL hd5 hg5;have rE:aV w5 wb 44 #[fv,rv,iv,.slice A us.length c]:=hB3.grown hg5 (own_ne ho3 hB3 (by decide));have JL:aV w5 r 101 (iT u):=hr3.grown hg5 fun e=>by have:=Hor.o r e.symm;omega
 have hS5:=aB (Wn.of rE (v:=.slice A us.length c) rfl JL);have ZM: ∀x,x<w0.heap.size->x≠wb->w5.heap[x]? =w0.heap[x]? :=fun x hx n1=>(hd5.block x hx).trans (ZN x hx n1)
 have ve:=hc3.trans (aD.grown hg5 fun g cs t fr e hk=>by obtain⟨cs',fr',h3⟩:=eU ho3 g e;rw[hk] at h3;injection h3 with h3;injection h3 with _ h3 _;simp[h3]);have MN:=MO.trans (Calm.below hd5);have hsz5:=aBV ZH hd5.size;have hwz5:=aBV hwz3 hd5.size;refine hC.out _ _ (fun _=>hS5.out) ?_;clear hc3 hC C hB3 hr3 ho3 ZN MO ZH hwz3 IJ hd5 hg5 JL;refine aA 8 fun C hC=> ?_
 go_simp;refine hC.out _ _ (fun _=>hS5.out) ?_;clear hC C;refine aA 9 fun C hC=> ?_
 go_simp;refine hC.out _ _ (fun _=>hS5.out) ?_;clear hC C;have p3:=rE.cell 3;have y3:=rE.frozen 3;simp at p3;refine aA 10 fun C hC=> ?_
 go_simp;refine hC.out _ _ (fun h=>absurd rfl h) ?_;clear hC C;refine aR ?_;have K6:=rE.bD 3 (.slice A' (us.length+1) c');simp at K6;have xH:=fF w5 wb 3 (.slice A' (us.length+1) c');have ho6:=aM FL fun k hk=>xH.block k (FL.lt k hk).2 fun e=>by injection e with e;have:=(FL.lt k hk).1;have:=hpl.out;omega
 have Sq: ∀x,x<w0.heap.size->x≠wb->(w5.setCell ⟨wb,3,none⟩ (.slice A' (us.length+1) c')).heap[x]? =w0.heap[x]? :=fun x hx n1=>(xH.block x (aCF hx hsz5) (by simpa using n1)).trans (ZM x hx n1)
 have hc6:=ve.trans (aD.grown xH fun g cs t fr e hk=>by injection e with e;subst e;unfold aV at rE;rw[hk] at rE;injection rE with h3;injection h3 with _ h3 _;simp[h3]);have Y6:=MN.trans (Calm.grown xH);have X5:=aBV hsz5 xH.size;have Hwz6:=aB (aBV hwz5 xH.size);clear ve rE FL ZM MN hsz5 hwz5 p3 y3 hS5 xH;go_wp2_with fail;go_end0;refine⟨rfl,⟨X5,Sq,Y6,⟨A',c',?_,?_⟩,hpl.out⟩,hc6,Hwz6.o⟩
 ·rw[aBW];exact K6
 ·rw[aBW,List.flatMap_append,List.flatMap_singleton];exact ho6
theorem pU{P:Program}{o:Oper}{a:Act}{K:Act->World->Prop}{Q:Exit->Act->World->Prop}(w:World)(s x:Operand)(t:TypeId)
  (ho:o.op=.call {callee:=.builtin .append,args:=#[s,x],argTypes:=#[t,t]})
  (base:Nat) (e:TypeId) (i:TypeInfo) (z:Value) (bytes:Nat) (ht:P.underlying t=some (.slice e)) (hi:P.info? e=some i) (hz:i.zero=some z) (hsize:i.size=1) (hby:i.bytes=bytes) (hzs:z.cells.size=1)
  (v:Value) (n:Nat) (xs:List Value) (hs:a.eval s=v) (hown:w.ownsRow base e 1 v n xs) {A:Option Addr} {m c:Nat} {F:Nat->Prop} {vs:List Value} (hx:a.eval x=.slice A m c) (hr:fP w F A vs) (hl:vs.length=m) (hnone:A=none->m=0/\c=0) (h1: ∀u∈vs,u.oneCell'=true)
  (h63:n+m<=1000000000) (hb:bytes<=64) (hbase:base<=w.heap.size)
  (h: ∀v' w',w'.ownsRow base e 1 v' (n+m) (xs++vs)->w.grownBy w' v.ownBlock->K (a.put o.dst v') w'):Oper.wp P o a w K Q:=by
 cases A with
 |none=>obtain⟨hm,hc⟩:=hnone rfl;subst hm hc;obtain rfl:vs=[]:=aDV hl;have hrun:=run_append_owned_none (P:=P) (w:=w) base t o.type e i 1 ht hi v n xs hown;unfold Oper.wp;simp[execOp,ho,resolve,invoke,builtin,hs,hx,hrun,Result.andThen];exact h v w (by simpa using hown) ⟨rfl,rfl,rfl,aBT _,fun _ _ _=>rfl⟩
 |some ad=>
  have h2: ∀j u,vs[j]? =some u->w.cell? (ad.add j)=some u:=fun j u hj=>by
   have hj':=(aCD.1 hj).1;obtain⟨b,o',e',_,_,hc⟩:=hr (by omega);injection e' with e';subst e';have:=hc j u hj;unfold Addr.add;split
   ·rename_i h0;subst h0;simpa using this
   ·exact this
  have hbm:(n+m)*bytes<=1000000000*64:=Nat.mul_le_mul h63 hb;exact wp_append_own w s x t ho base e i z 1 bytes ht hi hz hsize hby hzs (by omega) v n xs hs hown ad m c vs hx (by omega) h2 h1 (by unfold maxLen;omega) (by omega) hbase fun v' w' h2 h3 _=>h v' w' h2 h3
def UI(y:Bs×Nat):Value:=.string ⟨y.1.toArray⟩
def WO(y:Bs×Nat):Value:=kZZ (y.2:Int)
structure Ml(w:World)(An:Option Addr)(cn:Nat)(Aa:Option Addr)(ca:Nat)(s:Sc.Env):Prop where
 cn_:s.length<=cn
 ca_:s.length<=ca
 nn:An=none->s=[]/\cn=0
 na:Aa=none->s=[]/\ca=0
 n:xU w 9 (fun _=>True) An (s.map UI)
 a:xU w 3 (fun _=>True) Aa (s.map WO)
theorem Ml.aG {s:Sc.Env}(h:Ml w An cn Aa ca s)(hs:w.heap.size<=w'.heap.size)(hk:aD T w w')(ht:9∉T/\3∉T):Ml w' An cn Aa ca s:=
 ⟨h.cn_,h.ca_,h.nn,h.na,h.n.aG hs hk ht.1,h.a.aG hs hk ht.2⟩
theorem Ml.below {s:Sc.Env}(h:Ml w An cn Aa ca s)(hd:Below w.heap.size w w'):Ml w' An cn Aa ca s:=h.aG hd.size (aD.below (T:=[]) hd) (by simp)
theorem yU.aG (h:yU w0 w wb fv rv iv us)(hd:Below w0.heap.size w w')(hk:aD T w w')(ht:44∉T/\101∉T):yU w0 w' wb fv rv iv us:=by
 obtain⟨A,c,hB,ho⟩:=h.blk;refine⟨aBV h.size hd.size,fun x hx hn=>(hd.block x hx).trans (h.old x hx hn),h.calm.trans (Calm.below hd),⟨A,c,hB.aG hk ht.1,aM ho fun b hb=> ?_⟩,h.wl⟩;obtain⟨cs,fr,hty⟩:=eU ho b hb;exact(hk b cs _ fr hty ht.2).trans hty.symm
theorem aD.NT {w1 w2:World}(h:aD T w w1)(hd:Below w.heap.size w1 w2):aD T w w2:=fun k cs t fr hk ht=>(hd.block k (qX hk)).trans (h k cs t fr hk ht)
structure OD(w:World)(B:Nat)(bs:Nat)(An:Option Addr)(cn:Nat)(Aa:Option Addr)(ca:Nat)(s:Sc.Env):Prop where
 blk:aV w bs 103 #[.slice An s.length cn,.slice Aa s.length ca]
 n:w.ownsRow B 9 1 (.slice An s.length cn) s.length (s.map UI)
 a:w.ownsRow B 3 1 (.slice Aa s.length ca) s.length (s.map WO)
theorem OD.toT {B bs:Nat}{s:Sc.Env}(h:OD w B bs An cn Aa ca s):Ml w An cn Aa ca s:=by
 obtain⟨h1,h2,h3⟩:=bY h.n (fun _=>True) fun _ _=>trivial
 obtain⟨h4,h5,h6⟩:=bY h.a (fun _=>True) fun _ _=>trivial
 have hn:An=none->s=[]/\cn=0:=fun e=>by obtain⟨A',c',ev,_,hno⟩:=gQ h.n;injection ev with e1 _ e3;subst e1 e3;have:=hno e;exact⟨aDV (by omega),this⟩
 have ha:Aa=none->s=[]/\ca=0:=fun e=>by obtain⟨A',c',ev,_,hno⟩:=gQ h.a;injection ev with e1 _ e3;subst e1 e3;have:=hno e;exact⟨aDV (by omega),this⟩
 exact⟨h1,h4,hn,ha,⟨h2,fun br o e hn'=>h3 br o e (by rwa [aCE] at hn')⟩,⟨h5,fun br o e hn'=>h6 br o e (by rwa [aCE] at hn')⟩⟩
theorem Vh:(aBS.info? 9).map (fun i=>(i.zero,i.size,i.bytes))=some (some (.string .empty),1,16):=by kernel_rfl
theorem Vk:(aBS.info? 3).map (fun i=>(i.zero,i.size,i.bytes))=some (some (kZZ 0),1,8):=by kernel_rfl
def WQ(n0 bs:Nat)(s:Sc.Env)(An:Option Addr)(cn:Nat)(Aa:Option Addr)(ca:Nat)(L:Array Bool)(j:Nat)(v:Value)(u:World):Prop:=
 match j with
 |0=>L.getD 3 true=false->∃g,v=.slice (some ⟨g,0,none⟩) 0 0/\u.ownsRow n0 9 1 v 0 []
 |1=>v=pZZ bs
 |2=>v=.slice An s.length cn
 |3=> ∃A' c',v=.slice A' s.length c'/\u.ownsRow n0 9 1 v s.length (s.map UI)
 |4=>L.getD 7 true=false->∃g,v=.slice (some ⟨g,0,none⟩) 0 0/\u.ownsRow n0 3 1 v 0 []
 |5=>v=.pointer (some ⟨bs,1,none⟩)
 |6=>v=.slice Aa s.length ca
 |7=> ∃A' c',v=.slice A' s.length c'/\u.ownsRow n0 3 1 v s.length (s.map WO)
 |8=>L.getD 3 true=true/\L.getD 7 true=true/\∃A1 c1 A2 c2,v=.agg #[.slice A1 s.length c1,.slice A2 s.length c2]/\u.ownsRow n0 9 1 (.slice A1 s.length c1) s.length (s.map UI)/\u.ownsRow n0 3 1 (.slice A2 s.length c2) s.length (s.map WO)
 |9=> ∃g,v=pZZ g/\n0<=g/\(L.getD 10 true=false->aV u g 103 #[nZZ,nZZ])/\(L.getD 10 true=true->L.getD 3 true=true/\L.getD 7 true=true/\∃A1 c1 A2 c2,OD u n0 g A1 c1 A2 c2 s)
 |10=>L.getD 9 true=true
 |_=>True
section
variable{n0 bs:Nat}{s:Sc.Env}{An:Option Addr}{cn:Nat}{Aa:Option Addr}{ca:Nat}{L L':Array Bool}{j:Nat}{v:Value}{u u':World}
theorem OD.zO {B:Nat}(h:OD u B b An cn Aa ca s)(hk:bQ T u u')(ht:9∉T/\3∉T/\103∉T):OD u' B b An cn Aa ca s:=
 ⟨h.blk.aG hk.toC ht.2.2,bI h.n hk ht.1,bI h.a hk ht.2.1⟩
theorem WQ.same (h:WQ n0 bs s An cn Aa ca L j v u)(hk:bQ [] u u')(h3:L'.getD 3 true=L.getD 3 true)(h7:L'.getD 7 true=L.getD 7 true)(h10:L'.getD 10 true=L.getD 10 true)(h9:L.getD 9 true=true->L'.getD 9 true=true):WQ n0 bs s An cn Aa ca L' j v u':=by
 unfold WQ at *;split
 ·intro e;obtain⟨g,e1,ho⟩:=h (by rw[<-h3];exact e);exact⟨g,e1,bI ho hk (by simp)⟩
 ·exact h
 ·exact h
 ·obtain⟨A',c',e1,ho⟩:=h;exact⟨A',c',e1,bI ho hk (by simp)⟩
 ·intro e;obtain⟨g,e1,ho⟩:=h (by rw[<-h7];exact e);exact⟨g,e1,bI ho hk (by simp)⟩
 ·exact h
 ·exact h
 ·obtain⟨A',c',e1,ho⟩:=h;exact⟨A',c',e1,bI ho hk (by simp)⟩
 ·obtain⟨e1,e2,A1,c1,A2,c2,e3,ho,ho2⟩:=h;exact⟨h3.trans e1,h7.trans e2,A1,c1,A2,c2,e3,bI ho hk (by simp),bI ho2 hk (by simp)⟩
 ·obtain⟨g,e1,hg,hf,ht⟩:=h;refine⟨g,e1,hg,fun e=>(hf (by rw[<-h10];exact e)).aG hk.toC (by simp),fun e=> ?_⟩;obtain⟨e3,e7,A1,c1,A2,c2,hs⟩:=ht (by rw[<-h10];exact e);exact⟨h3.trans e3,h7.trans e7,A1,c1,A2,c2,hs.zO hk (by simp)⟩
 ·exact h9 h
 ·trivial
theorem WQ.strs (h:WQ n0 bs s An cn Aa ca L j v u)(hk:bQ [9] u u')(hu:L.getD 3 true=false)(h3:L'.getD 3 true=true)(h7:L'.getD 7 true=L.getD 7 true)(h10:L'.getD 10 true=L.getD 10 true)(hj:j≠3)(h9:L.getD 9 true=true->L'.getD 9 true=true):WQ n0 bs s An cn Aa ca L' j v u':=by
 unfold WQ at *;split
 ·intro e;rw[h3] at e;cases e
 ·exact h
 ·exact h
 ·exact absurd rfl hj
 ·intro e;obtain⟨g,e1,ho⟩:=h (by rw[<-h7];exact e);exact⟨g,e1,bI ho hk (by decide)⟩
 ·exact h
 ·exact h
 ·obtain⟨A',c',e1,ho⟩:=h;exact⟨A',c',e1,bI ho hk (by decide)⟩
 ·obtain⟨e1,_⟩:=h;rw[hu] at e1;cases e1
 ·obtain⟨g,e1,hg,hf,ht⟩:=h;refine⟨g,e1,hg,fun e=>(hf (by rw[<-h10];exact e)).aG hk.toC (by decide),fun e=> ?_⟩;obtain⟨e3,_⟩:=ht (by rw[<-h10];exact e);rw[hu] at e3;cases e3
 ·exact h9 h
 ·trivial
theorem WQ.ints (h:WQ n0 bs s An cn Aa ca L j v u)(hk:bQ [3] u u')(hu:L.getD 7 true=false)(h7:L'.getD 7 true=true)(h3:L'.getD 3 true=L.getD 3 true)(h10:L'.getD 10 true=L.getD 10 true)(hj:j≠7)(h9:L.getD 9 true=true->L'.getD 9 true=true):WQ n0 bs s An cn Aa ca L' j v u':=by
 unfold WQ at *;split
 ·intro e;obtain⟨g,e1,ho⟩:=h (by rw[<-h3];exact e);exact⟨g,e1,bI ho hk (by decide)⟩
 ·exact h
 ·exact h
 ·obtain⟨A',c',e1,ho⟩:=h;exact⟨A',c',e1,bI ho hk (by decide)⟩
 ·intro e;rw[h7] at e;cases e
 ·exact h
 ·exact h
 ·exact absurd rfl hj
 ·obtain⟨_,e1,_⟩:=h;rw[hu] at e1;cases e1
 ·obtain⟨g,e1,hg,hf,ht⟩:=h;refine⟨g,e1,hg,fun e=>(hf (by rw[<-h10];exact e)).aG hk.toC (by decide),fun e=> ?_⟩;obtain⟨_,e3,_⟩:=ht (by rw[<-h10];exact e);rw[hu] at e3;cases e3
 ·exact h9 h
 ·trivial
theorem WQ.laid (h:WQ n0 bs s An cn Aa ca L j v u)(hk:bQ [103] u u')(h3:L'.getD 3 true=L.getD 3 true)(h7:L'.getD 7 true=L.getD 7 true)(hj:j≠9)(h9:L.getD 9 true=true->L'.getD 9 true=true):WQ n0 bs s An cn Aa ca L' j v u':=by
 unfold WQ at *;split
 ·intro e;obtain⟨g,e1,ho⟩:=h (by rw[<-h3];exact e);exact⟨g,e1,bI ho hk (by decide)⟩
 ·exact h
 ·exact h
 ·obtain⟨A',c',e1,ho⟩:=h;exact⟨A',c',e1,bI ho hk (by decide)⟩
 ·intro e;obtain⟨g,e1,ho⟩:=h (by rw[<-h7];exact e);exact⟨g,e1,bI ho hk (by decide)⟩
 ·exact h
 ·exact h
 ·obtain⟨A',c',e1,ho⟩:=h;exact⟨A',c',e1,bI ho hk (by decide)⟩
 ·obtain⟨e1,e2,A1,c1,A2,c2,e3,ho,ho2⟩:=h;exact⟨h3.trans e1,h7.trans e2,A1,c1,A2,c2,e3,bI ho hk (by decide),bI ho2 hk (by decide)⟩
 ·exact absurd rfl hj
 ·exact h9 h
 ·trivial
end
theorem Pt{n0 g:Nat}{s:Sc.Env}{A1 A2:Option Addr}{c1 c2:Nat}{v1 v2:Value}(hB:aV w g 103 #[v1,v2])(h1:w.ownsRow n0 9 1 (.slice A1 s.length c1) s.length (s.map UI))(h2:w.ownsRow n0 3 1 (.slice A2 s.length c2) s.length (s.map WO)):
  OD ((w.setCell ⟨g,0,none⟩ (.slice A1 s.length c1)).setCell ⟨g,1,none⟩ (.slice A2 s.length c2)) n0 g A1 c1 A2 c2 s/\bQ [103] w ((w.setCell ⟨g,0,none⟩ (.slice A1 s.length c1)).setCell ⟨g,1,none⟩ (.slice A2 s.length c2)):=by
 have hk:bQ [103] w ((w.setCell ⟨g,0,none⟩ (.slice A1 s.length c1)).setCell ⟨g,1,none⟩ (.slice A2 s.length c2)):=fun k _ ht=>by have hne:k≠g:=fun e=>(by subst e;exact ht _ _ _ hB (aCH.2 rfl));rw[aCG _ _ _ k hne,aCG _ _ _ k hne]
 exact⟨⟨(hB.bD 0 _).bD 1 _,bI h1 hk (by decide),bI h2 hk (by decide)⟩,hk⟩
theorem aP{l:Array Bool}{i j:Nat}{b:Bool}(h:i≠j):(l.setIfInBounds i b).getD j true=l.getD j true:=by
 rw[aDS,aDS,aGP,if_neg h]
theorem sU{l:Array Bool}{i:Nat}{b:Bool}(h:i<l.size):(l.setIfInBounds i b).getD i true=b:=by
 rw[aDS,aGP,if_pos rfl,if_pos h];rfl
theorem gd{l:Array Bool}{j:Nat}(h:l.getD j false=true):l.getD j true=true:=by
 rw[aDS] at h⊢;cases hj:l[j]? with
 |none=>rw[hj] at h;cases h
 |some b=>rw[hj] at h;exact h
theorem Qx{s:Sc.Env}: ∀u∈s.map UI,u.oneCell'=true:=fun u hu=>by
 obtain⟨y,_,rfl⟩:=aDQ.1 hu;rfl
theorem at_one{s:Sc.Env}: ∀u∈s.map WO,u.oneCell'=true:=fun u hu=>by
 obtain⟨y,_,rfl⟩:=aDQ.1 hu;rfl
end Go.Proofs.YtcjjfeephaddcaaGreatDoor
namespace Go.Proofs.YtcjjfeephaddcaaGreatDoor.Sc
open Tr (PT)
def tK(s e:Env):Prop:= ∀n,jG n s.reverse=jG n e
def MP(n:List UInt8)(v:Option Wd):Bool:=match v with
 |some v=>v.text==n
 |none=>false
def bK:List (Option Wd)->List (Option Wd)->Env
 |_,[]=>[]
 |ahead,none::l=>bK (ahead++[none]) l
 |ahead,some w::l=>if ahead.any (MP w.text)then bK (ahead++[some w]) l else(w.text,w.at_)::bK (ahead++[some w]) l
theorem NC(n:List UInt8)(a b:Env):jG n (a++b)=(jG n a).or (jG n b):=by
 unfold jG;rw[List.find?_append];cases List.find? (fun x=>x.1==n) a<;>simp
theorem uP(n:List UInt8)(x:List UInt8×Nat)(b:Env):jG n (x::b)=if x.1=n then some x.2 else jG n b:=by
 unfold jG;rw[List.find?_cons]
 by_cases h:x.1=n
 ·simp[h]
 ·have:(x.1==n)=false:=(by simpa using h);simp[this,h]
theorem FK: ∀(l:List (Option Wd)) (e:Env),dS l e=dS l []++e
 | [],e=>rfl
 |none::l,e=>FK l e
 |some w::l,e=>by show(w.text,w.at_)::dS l e=(w.text,w.at_)::dS l []++e;rw[FK l e];rfl
theorem OA(ahead:List (Option Wd))(v:Option Wd)(n:List UInt8):(ahead++[v]).any (MP n)=(ahead.any (MP n)||MP n v):=by simp
theorem tJ(n:List UInt8): ∀(l ahead:List (Option Wd)),jG n (bK ahead l).reverse=if ahead.any (MP n)then none else jG n (dS l [])
 | [],ahead=>by unfold bK dS jG;simp
 |none::l,ahead=>by rw[bK,tJ n l,OA];have:MP n none=false:=rfl;rw[this,aDK];rfl
 |some w::l,ahead=>by
  have hi:dS (some w::l) []=(w.text,w.at_)::dS l []:=rfl;have hw:MP n (some w)=(w.text==n):=rfl;rw[bK,hi,uP]
  by_cases ht:ahead.any (MP w.text)=true
  ·rw[if_pos ht,tJ n l,OA,hw]
   by_cases hn:ahead.any (MP n)=true
   ·rw[hn,Bool.true_or,if_pos rfl,if_pos rfl]
   ·have hne: ¬w.text=n:=fun e=>hn (e▸ht)
    have:(w.text==n)=false:=(by simpa using hne);rw[this,aDK,if_neg hne]
  ·rw[if_neg ht,List.reverse_cons,NC,tJ n l,OA,hw,uP]
   by_cases he:w.text=n
   ·have hn: ¬ahead.any (MP n)=true:=fun h=>ht (by rw[he];exact h)
    have:(w.text==n)=true:=(by simpa using he);rw[this,Bool.or_true,if_pos rfl,if_pos he,if_neg hn,if_pos he];rfl
   ·have:(w.text==n)=false:=(by simpa using he);rw[this,aDK,if_neg he,if_neg he];have h0:jG n []=none:=rfl;rw[h0,Option.or_none]
theorem tK.bring {s e:Env}(h:tK s e)(l:List (Option Wd)):tK (s++bK [] l) (dS l e):=fun n=>by
 rw[List.reverse_append,NC,tJ,FK l e,NC,h n];simp
theorem tK.u_ {s e:Env}(h:tK s e)(w:Wd):tK (s++[(w.text,w.at_)]) ((w.text,w.at_)::e):=fun n=>by
 rw[List.reverse_append,List.reverse_singleton,List.singleton_append,uP,uP,h n]
theorem tK.nil:tK [] []:=fun _=>rfl
theorem C9(l:List (Option Wd)): ∀(ahead:List (Option Wd)) (i:Nat) (h:i<l.length),bK ahead (l.take (i+1))=bK ahead (l.take i)++(match l[i] with
  |none=>[]
  |some w=>if(ahead++l.take i).any (MP w.text)then [] else [(w.text,w.at_)]):=by
 induction l with
 |nil=>intro ahead i h;simp at h
 |cons v l ih=>
  intro ahead i h;cases i with
  |zero=>
   cases v with
   |none=>simp[bK]
   |some w=>simp only[aDX,List.take_zero,List.append_nil,List.getElem_cons_zero,bK,List.nil_append]
  |succ i=>
   have hi:i<l.length:=(by simpa using h);cases v with
   |none=>rw[aDX,aDX,bK,bK,ih _ i hi,List.getElem_cons_succ,aCL];rfl
   |some w=>rw[aDX,aDX,bK,bK,ih _ i hi,List.getElem_cons_succ,aCL];split<;>rfl
end Go.Proofs.YtcjjfeephaddcaaGreatDoor.Sc
namespace Go.Proofs.YtcjjfeephaddcaaGreatDoor
open Go.RowKit Go.Maps
variable{w:World}{B c1 c2 g q:Nat}{A1 A2:Option Addr}{y:Sc.Wd}{v:Value}
structure Fj(w:World)(B g:Nat)(A1:Option Addr)(c1 n1:Nat)(xs:List Value)(A2:Option Addr)(c2 n2:Nat)(ys:List Value):Prop where
 blk:aV w g 103 #[.slice A1 n1 c1,.slice A2 n2 c2]
 n:w.ownsRow B 9 1 (.slice A1 n1 c1) n1 xs
 a:w.ownsRow B 3 1 (.slice A2 n2 c2) n2 ys
theorem OD.toP {s:Sc.Env}(h:OD w B g A1 c1 A2 c2 s):Fj w B g A1 c1 s.length (s.map UI) A2 c2 s.length (s.map WO):=⟨h.blk,h.n,h.a⟩
theorem Fj.toO {s:Sc.Env}{y:Bs×Nat}(h:Fj w B g A1 c1 (s.length+1) (s.map UI++[UI y]) A2 c2 (s.length+1) (s.map WO++[WO y])):OD w B g A1 c1 A2 c2 (s++[y]):=by
 obtain⟨h1,h2,h3⟩:=h;exact⟨by rw[aBW];exact h1,by rw[aBW,aDI];exact h2,by rw[aBW,aDI];exact h3⟩
section
variable{w w' w2:World}{B g:Nat}{A1 A2:Option Addr}{c1 c2 n1 n2:Nat}{xs ys:List Value}
theorem Fj.drew (h:Fj w B g A1 c1 n1 xs A2 c2 n2 ys):Fj w.drew B g A1 c1 n1 xs A2 c2 n2 ys:=⟨h.blk,h.n,h.a⟩
theorem OD.below {s:Sc.Env}(h:OD w B g A1 c1 A2 c2 s)(hd:Below w.heap.size w w'):OD w' B g A1 c1 A2 c2 s:=h.zO (bQ.below (T:=[]) hd) (by simp)
theorem OD.aG {T:List TypeId}{s:Sc.Env}(h:OD w B g A1 c1 A2 c2 s)(hk:aD T w w')(ht:9∉T/\3∉T/\103∉T):OD w' B g A1 c1 A2 c2 s:=by
 refine⟨h.blk.aG hk ht.2.2,aM h.n fun b hb=> ?_,aM h.a fun b hb=> ?_⟩
 ·obtain⟨cs,fr,hty⟩:=eU h.n b hb;exact(hk b cs _ fr hty ht.1).trans hty.symm
 ·obtain⟨cs,fr,hty⟩:=eU h.a b hb;exact(hk b cs _ fr hty ht.2.1).trans hty.symm
theorem YU{i:Nat}{t:TypeId}{cs:Array Value}(hB:aV w g t cs):bQ [t] w (w.setCell ⟨g,i,none⟩ v):=fun k _ ht=>by
 have hne:k≠g:=fun e=>by subst e;exact ht _ _ _ hB (aCH.2 rfl)
 rw[aCG _ _ _ k hne]
theorem Fj.qz (h:Fj w B g A1 c1 n1 xs A2 c2 n2 ys){A':Option Addr}{c':Nat}(ho:w2.ownsRow B 9 1 (.slice A' (n1+1) c') (n1+1) (xs++[v]))(hg:w.grownBy w2 (aBX A1 n1 c1).ownBlock):
  w2.cell? ⟨g,0,none⟩=some (.slice A1 n1 c1)/\w2.frozen? ⟨g,0,none⟩=false/\Fj (w2.setCell ⟨g,0,none⟩ (.slice A' (n1+1) c')) B g A' c' (n1+1) (xs++[v]) A2 c2 n2 ys/\aD [9,103] w (w2.setCell ⟨g,0,none⟩ (.slice A' (n1+1) c')):=by
 have hk:bQ [9] w w2:=bQ.row h.n hg;have hB2:=h.blk.aG hk.toC (by decide);have hk2:=YU (i:=0) (v:=.slice A' (n1+1) c') hB2;refine⟨hB2.cell 0,hB2.frozen 0,⟨hB2.bD 0 _,bI ho hk2 (by decide),bI (bI h.a hk (by decide)) hk2 (by decide)⟩,?_⟩;exact(hk.toC.mono (by simp)).trans (hk2.toC.mono (by simp))
theorem Fj.qy (h:Fj w B g A1 c1 n1 xs A2 c2 n2 ys){A':Option Addr}{c':Nat}(ho:w2.ownsRow B 3 1 (.slice A' (n2+1) c') (n2+1) (ys++[v]))(hg:w.grownBy w2 (aBX A2 n2 c2).ownBlock):
  w2.cell? ⟨g,1,none⟩=some (.slice A2 n2 c2)/\w2.frozen? ⟨g,1,none⟩=false/\Fj (w2.setCell ⟨g,1,none⟩ (.slice A' (n2+1) c')) B g A1 c1 n1 xs A' c' (n2+1) (ys++[v])/\aD [3,103] w (w2.setCell ⟨g,1,none⟩ (.slice A' (n2+1) c')):=by
 have hk:bQ [3] w w2:=bQ.row h.a hg;have hB2:=h.blk.aG hk.toC (by decide);have hk2:=YU (i:=1) (v:=.slice A' (n2+1) c') hB2;refine⟨hB2.cell 1,hB2.frozen 1,⟨hB2.bD 1 _,bI (bI h.n hk (by decide)) hk2 (by decide),bI ho hk2 (by decide)⟩,?_⟩;exact(hk.toC.mono (by simp)).trans (hk2.toC.mono (by simp))
end
structure Ns(w:World)(br o q:Nat)(y:Sc.Wd):Prop where
 row: ∃cs fr,w.heap[br]? =some (.cells cs 89 fr)
 cell:w.cell? ⟨br,o,none⟩=some (pZZ q)
 qc:Qc w q 0 3 y.text none 0 0 (y.at_:Int)
theorem Ns.aG {T:List TypeId}{w':World}{br o:Nat}(h:Ns w br o q y)(hk:aD T w w')(ht:89∉T/\93∉T):Ns w' br o q y:=by
 obtain⟨⟨cs,fr,hr⟩,hc,a,e,u,d,hB⟩:=h;have hr':=hk br cs _ fr hr ht.1;exact⟨⟨cs,fr,hr'⟩,(aCM (w:=w) (a:=⟨br,o,none⟩) (hr'.trans hr.symm)).trans hc,a,e,u,d,hB.aG hk ht.2⟩
theorem Ns.drew {br o:Nat}(h:Ns w br o q y):Ns w.drew br o q y:=⟨h.row,h.cell,h.qc⟩
theorem Ns.below {w':World}{br o:Nat}(h:Ns w br o q y)(hd:Below w.heap.size w w'):Ns w' br o q y:=h.aG (aD.below (T:=[]) hd) (by simp)
def uA(g br o q:Nat)(v0 v1:Value)(y:Sc.Wd)(w:World):Prop:=w.cell? ⟨g,0,none⟩=some v0/\w.cell? ⟨g,1,none⟩=some v1/\w.cell? ⟨br,o,none⟩=some (pZZ q)/\w.cell? ⟨q,2,none⟩=some (.string ⟨y.text.toArray⟩)/\w.cell? ⟨q,6,none⟩=some (kZZ (y.at_:Int))
theorem uA.of {br o:Nat}{v0 v1:Value}(hB:aV w g 103 #[v0,v1])(hN:Ns w br o q y):uA g br o q v0 v1 y w:=
 ⟨hB.cell 0,hB.cell 1,hN.cell,hN.qc.cells.2.2.1,hN.qc.cells.2.2.2.2⟩
def NmS(br o q:Nat)(y:Sc.Wd)(w:World):Prop:=w.cell? ⟨br,o,none⟩=some (pZZ q)/\w.cell? ⟨q,6,none⟩=some (kZZ (y.at_:Int))
theorem Fj.toO2 {n:Nat}{xs ys:List Value}{s:Sc.Env}{y:Bs×Nat}(hn:n=s.length)(hx:xs=s.map UI)(hy:ys=s.map WO)(h:Fj w B g A1 c1 (n+1) (xs++[UI y]) A2 c2 (n+1) (ys++[WO y])):OD w B g A1 c1 A2 c2 (s++[y]):=by
 subst hn hx hy;exact h.toO
theorem Sc.VF (l:List (Option Sc.Wd))(i:Nat)(h:i<l.length):Sc.bK [] (l.take (i+1))=Sc.bK [] (l.take i)++(match l[i] with|some w=>(if(l.take i).any (Sc.xK w.text)then [] else [(w.text,w.at_)])|none=>[]):=by
 rw[Sc.C9 l [] i h];cases l[i]<;>rfl
theorem Sc.pK: ∀(l ahead:List (Option Sc.Wd)),(Sc.bK ahead l).length<=l.length
 | [],_=>aBT _
 |none::l,ahead=>by unfold Sc.bK;exact Nat.le_succ_of_le (Sc.pK l _)
 |some w::l,ahead=>by
  unfold Sc.bK;split
  ·exact Nat.le_succ_of_le (Sc.pK l _)
  ·exact Nat.succ_le_succ (Sc.pK l _)
theorem Sc.Mj {α:Type}(P:α->Bool)(l:List α)(k:Nat)(h:k<l.length):(l.take (k+1)).any P=((l.take k).any P||P l[k]):=by
 rw[List.take_succ_eq_append_getElem h,List.any_append];simp
def BrI(w0 w1 wx:World)(wb:Nat)(fv rv iv:Value)(us:List Sc.Us)(s:Sc.Env)(f g:Nat)(ws:List (Option Sc.Wd)):Prop:=
 ∃A1 c1 A2 c2,OD wx w1.heap.size g A1 c1 A2 c2 (s++Sc.bK [] ws)/\yU w0 wx wb fv rv iv (us++Sc.aY f [] ws)/\aD [44,101] w1 wx/\w1.heap.size<=wx.heap.size
def VY(w0 w:World)(wb:Nat)(fv rv iv:Value)(us:List Sc.Us)(s:Sc.Env)(e:Ending)(w':World):Prop:=
 ∃A1 c1 A2 c2,e=.returned (.agg #[.slice A1 s.length c1,.slice A2 s.length c2])/\Ml w' A1 c1 A2 c2 s/\yU w0 w' wb fv rv iv us/\aD [44,101] w w'/\w.heap.size<=w'.heap.size
end Go.Proofs.YtcjjfeephaddcaaGreatDoor
namespace Go.Proofs.YtcjjfeephaddcaaGreatDoor.Sc
open Tr (PT)
variable{f k:Nat}
section
variable(W:Wk)
def mM:Nat:=(W.items.map fun l=>(l.filter fun x=> !x.bH).length).sum
def aZ:Nat->It->Int×Int×Nat
 |n,x=>
  match kM W x with
  | .is f a e=>(f,a,e)
  | .at_ f k=>
   match n with
   |0=>(-1, -1,7)
   |n+1=>match(aT W f)[k]? with
    |some y=>aZ n y
    |none=>(-1, -1,7)
def TJ(f k:Nat):Prop:= ∃x,(aT W f)[k]? =some x/\x.bH=false
theorem Yx{x:It}(h:kM W x=.at_ f k):TJ W f k:=by
 unfold kM at h;split at h
 ·unfold uC at h;split at h
  ·cases h
  ·split at h
   ·cases h
   ·rename_i y hy;split at h
    ·cases h
    ·split at h
     ·cases h
     ·rename_i hd;injection h with h1 h2;subst h1 h2;exact⟨y,hy,by simpa using hd⟩
 ·cases h
theorem V5{α:Type}[DecidableEq α]: ∀{l m:List α},l.Nodup->(∀x∈l,x∈m)->l.length<=m.length
 | [],m,_,_=>aBZ _
 |x::l,m,hn,hs=>by
  obtain⟨h1,h2⟩:=List.nodup_cons.1 hn;have hx:=hs x (List.mem_cons_self ..);have h3:=V5 (l:=l) (m:=m.erase x) h2 fun y hy=>(List.mem_erase_of_ne (fun e:y=x=>h1 (by rw[<-e];exact hy))).2 (hs y (List.mem_cons_of_mem _ hy))
  rw[List.length_erase_of_mem hx] at h3;have:=List.length_pos_of_mem hx;simp only[aCC];omega
def Ou:List (Nat×Nat):=(W.items.zipIdx.map fun y=>(y.1.zipIdx.filter fun z=> !z.1.bH).map fun z=>(y.2,z.2)).flatten
theorem Cq(h:TJ W f k):(f,k)∈Ou W:=by
 obtain⟨x,hx,hd⟩:=h;unfold aT at hx;cases hf:W.items[f]? with
 |none=>rw[hf] at hx;simp at hx
 |some l=>rw[hf] at hx;have hx:l[k]? =some x:=hx;refine List.mem_flatten.2 ⟨_,aDQ.2 ⟨(l,f),aHB.2 hf,rfl⟩,aDQ.2 ⟨(x,k),List.mem_filter.2 ⟨aHB.2 hx,by simp[hd]⟩,rfl⟩⟩
theorem ND{α:Type}(P:α->Bool): ∀(l:List α) (n:Nat),((l.zipIdx n).filter fun z=>P z.1).length=(l.filter P).length
 | [],n=>rfl
 |x::l,n=>by
  rw[List.zipIdx_cons,List.filter_cons,List.filter_cons];have h:=ND P l (n+1)
  by_cases hp:P x=true
  ·simp only[hp,if_true,aCC,h]
  ·simp only[hp];simp[h]
theorem Cr:(Ou W).length=mM W:=by
 unfold Ou mM;rw[List.length_flatten,List.map_map];have h: ∀(l:List (List It)) (n:Nat),((l.zipIdx n).map (List.length∘fun y:List It×Nat=>(y.1.zipIdx.filter fun z=> !z.1.bH).map fun z=>(y.2,z.2))).sum=(l.map fun l=>(l.filter fun x=> !x.bH).length).sum:=by
  intro l
  induction l with
  |nil=>intro n;rfl
  |cons x l ih=>
   intro n;rw[List.zipIdx_cons,aDH,aFB,aDH,aFB,ih]
   congr 1
   show((x.zipIdx.filter fun z=> !z.1.bH).map fun z=>(n,z.2)).length=_;rw[aCE];exact ND (fun x:It=> !x.bH) x 0
 exact h W.items 0
inductive Reach:Nat->Nat×Nat->Nat×Nat->Prop
 |here (p:Nat×Nat):Reach 0 p p
 |step {n:Nat} {p:Nat×Nat} {x:It} {f k:Nat} {q:Nat×Nat}:(aT W p.1)[p.2]? =some x->kM W x=.at_ f k->Reach n (f,k) q->Reach (n+1) p q
variable{W}
theorem Reach.snoc: ∀{n:Nat} {p q:Nat×Nat},Reach W n p q->∀{x:It} {f k:Nat},(aT W q.1)[q.2]? =some x->kM W x=.at_ f k->Reach W (n+1) p (f,k)
 |_,_,_,.here p,_,_,_,hx,hs=>.step hx hs (.here _)
 |_,_,_,.step h1 h2 h3,_,_,_,hx,hs=>.step h1 h2 (h3.snoc hx hs)
theorem Reach.stands: ∀{j:Nat} {p q:Nat×Nat},Reach W j p q->∀(n:Nat) (x:It),(aT W p.1)[p.2]? =some x->
  aZ W n x=(-1, -1,7)\/∃y,(aT W q.1)[q.2]? =some y/\j<=n/\aZ W n x=aZ W (n-j) y
 |_,_,_,.here p,n,x,hx=>.inr ⟨x,hx,aBZ _,rfl⟩
 |_,p,q,.step (n:=j) (x:=x') (f:=f) (k:=k) h1 h2 h3,n,x,hx=>by
  obtain rfl:x'=x:=(by rw[h1] at hx;injection hx);cases n with
  |zero=>left;unfold aZ;rw[h2]
  |succ n=>
   have e:aZ W (n+1) x'=match(aT W f)[k]? with
    |some y=>aZ W n y
    |none=>(-1, -1,7):=by
    rw[aZ,h2]
   rw[e];cases hy:(aT W f)[k]? with
   |none=>exact .inl rfl
   |some y=>
    rcases h3.stands n y hy with h|⟨z,hz,hl,hr⟩
    ·exact .inl h
    ·exact .inr ⟨z,hz,by omega,by rw[show n+1-(j+1)=n-j by omega];exact hr⟩
theorem Reach.ring {j:Nat}{p:Nat×Nat}(h:Reach W (j+1) p p): ∀(n:Nat) (x:It),(aT W p.1)[p.2]? =some x->aZ W n x=(-1, -1,7):=by
 intro n
 induction n using Nat.strongRecOn with
 |ind n ih=>
  intro x hx;rcases h.stands n x hx with h1|⟨y,hy,hl,hr⟩
  ·exact h1
  ·rw[hr];exact ih (n-(j+1)) (by omega) y hy
theorem zM: ∀(n:Nat) (met:List (Nat×Nat)) (p:Nat×Nat) (x:It),(aT W p.1)[p.2]? =some x->(∀q∈met++[p],TJ W q.1 q.2)->(met++[p]).Nodup->(∀q∈met++[p],∃j,Reach W j q p)->mM W+1<=n+met.length->
  ∀left,mM W<=left+met.length+1->aZ W left x=qV W n met p x
 |0,met,p,x,hx,hu,hn,hr,hf,left,hl=>by
  have h1:=V5 hn fun q hq=>Cq W (hu q hq)
  rw[Cr,aBW] at h1;simp at h1;omega
 |n+1,met,p,x,hx,hu,hn,hr,hf,left,hl=>by
  rw[qV];cases hs:kM W x with
  |is f a e=>rw[aZ,hs]
  |at_ f k=>
   dsimp only
   by_cases hc:(met++[p]).contains (f,k)=true
   ·rw[if_pos hc];have hc:=aFE.1 hc;obtain⟨j,hj⟩:=hr _ hc;have hring:Reach W (j+1) (f,k) (f,k):=hj.snoc hx hs;cases left with
    |zero=>rw[aZ,hs]
    |succ l=>
     rw[aZ,hs];dsimp only;cases hy:(aT W f)[k]? with
     |none=>rfl
     |some y=>exact hring.ring l y hy
   ·rw[if_neg hc];have hc:(f,k)∉met++[p]:=fun h=>hc (aFE.2 h)
    have ZE:=Yx W hs;obtain⟨y,hy,hd⟩:=ZE;have hn2:((met++[p])++[(f,k)]).Nodup:=List.nodup_append.2 ⟨hn,by simp,fun a ha b hb e=>by rw[aCH] at hb;subst hb;exact hc (e▸ha)⟩;have hu2: ∀q∈(met++[p])++[(f,k)],TJ W q.1 q.2:=fun q hq=>by
     rcases aDJ.1 hq with hq|hq
     ·exact hu q hq
     ·rw[aCH] at hq;rw[hq];exact⟨y,hy,hd⟩
    have h1:=V5 hn2 fun q hq=>Cq W (hu2 q hq)
    rw[Cr] at h1;simp only[aBW,List.length_singleton] at h1;cases left with
    |zero=>omega
    |succ l=>
     rw[aZ,hs];dsimp only;rw[hy];dsimp only;refine zM n (met++[p]) (f,k) y hy hu2 hn2 (fun q hq=> ?_) (by rw[aBW];simp;omega) l (by rw[aBW];simp;omega);rcases aDJ.1 hq with hq|hq
     ·obtain⟨j,hj⟩:=hr q hq;exact⟨j+1,hj.snoc hx hs⟩
     ·rw[aCH] at hq;rw[hq];exact⟨0,.here _⟩
theorem BL:mM W<=lL W:=by
 unfold mM lL;generalize W.items=l
 induction l with
 |nil=>exact aBT _
 |cons x l ih=>rw[aDH,aFB,aDH,aFB];have:=List.length_filter_le (fun x:It=> !x.bH) x;omega
theorem KT{x:It}(hx:(aT W f)[k]? =some x)(hd:x.bH=false):aZ W (mM W) x=bP W f k x:=by
 unfold bP;have hc:=BL (W:=W);exact zM (lL W+1) [] (f,k) x hx (fun q hq=>by simp at hq;subst hq;exact⟨x,hx,hd⟩) (by simp) (fun q hq=>by simp at hq;subst hq;exact⟨0,.here _⟩) (by simp;omega) (mM W) (by simp)
end
end Go.Proofs.YtcjjfeephaddcaaGreatDoor.Sc
