import Derived.Test.YtcjjfeephaddcaaGreatDoorJas
set_option linter.all false
open Go.IntKind renaming i64->aCQ
open Go.IntWalk renaming i64_in->aCV
open Go.Proofs.Tryz renaming prog->aBS
open Go.RowKit.Below renaming refl->aBU
open Go.Value renaming pointer->aEJ
open List renaming getElem?_eq_getElem->aBY,getElem?_eq_some_iff->aCD,length_map->aCE,mem_singleton->aCH,mem_cons->aCJ,take_succ_eq_append_getElem->aCP,cons_append->aCT,nil_append->aCU,mem_of_getElem?->aDC,take_length->aDF,map_cons->aDH,map_append->aDI,mem_append->aDJ,length_filter_le->aED,sum_cons->aFB,findIdx?_eq_some_iff_getElem->aFK
open Nat renaming le_refl->aBT,zero_le->aBZ
set_option maxHeartbeats 64000000
set_option maxRecDepth 100000
open Go.Proofs.Tryz
namespace Go.Proofs.YtcjjfeephaddcaaGreatDoor
open Go.RowKit Go.Maps
variable{F:Nat->Prop}{c ci wb:Nat}{A Ai:Option Addr}{fs:List Fl}{W:Sc.Wk}
theorem vE{w:World}(h:Fp w F wb A c fs Ai ci W){mo:Option Sc.Wd}{mv:Value}(hm:EF w F mo mv):
  Calls aBS 80 #[pZZ wb,mv] w (mg (uM (mo.bind fun m=>W.names.findIdx? (· ==m.text))) w):=by
 cases mo with
 |none=>
  obtain rfl:mv=oZZ:=hm;clear h
  go_enter func80,ntmps80
  go_wp2_with fail;go_ret;exact⟨rfl,aBU _ _⟩
 |some y=>
  obtain⟨g,rfl,hFg,hQ⟩:=hm;have hfi:((some y).bind fun m=>W.names.findIdx? (· ==m.text))=fs.findIdx? fun f=>f.1==y.text:=(by rw[h.names];show List.findIdx? _ (fs.map (·.1))=_;rw[List.findIdx?_map];rfl);rw[hfi];have OW:=h.few;have tY:=aB OW;have H:=aB h;have HQ:=aB hQ;clear h hQ hfi OW hFg
  go_enter func80,ntmps80
  go_wp2_with fail
  go_loopg [5] fs.length (fun mm v wr=> ∃i:Nat,v=vZZ i/\i<=fs.length/\fs.length-i<=mm/\aC (∀j (hj:j<fs.length),j<i->(fs[j].1==y.text)=false)/\Below w.heap.size w wr)
  case atStart=>exact⟨0,rfl,aBZ _,aBT _,fun j _ h=>absurd h (by omega),aBU _ _⟩
  case round=>
   obtain⟨i,rfl,hi,hm,HB,hd⟩:=hrel;have hr:=H.o.below hd;have p0:=hr.p0
   by_cases hlt:i<fs.length
   ·have GZ:=iZ i;have EB:=jJ i fs.length;obtain⟨b,o,rfl,hbl,hc0,hc1⟩:=hr.files.at_ hlt;obtain⟨_,_,z2,_,_⟩:=(HQ.o.keep (hd.block g HQ.o.lt)).cells;have c1:=uX i (by have:=tY.o;omega);have HE:aC ((fs[i].1==y.text)=true->(fs.findIdx? fun f=>f.1==y.text)=some i):=fun h=>(by rw[aFK];exact⟨hlt,h,fun j hj=>by simpa using HB.o j (by omega) hj⟩);have HN:aC ((fs[i].1==y.text)=false->∀j (hj:j<fs.length),j<i+1->(fs[j].1==y.text)=false):=fun h j hj hji=>by
     rcases Nat.lt_or_ge j i with h'|h'
     ·exact HB.o j hj h'
     ·obtain rfl:j=i:=(by omega);exact h
    have bZ:=aB hlt;have Hm:=aB hm;generalize fs[i]=x at *;clear hbl hlt hm hi hr HB hc1;go_upto_region 6 with fail
    go_quiet (fail)
    generalize hbb:(x.1==y.text)=bb at *;have hd2:=below_drewN hd 13;have hd3: ∀n,Below w.heap.size w (wr.drewN n):=fun n=>below_drewN hd n
    clear p0 z2 hc0 hd;cases bb with
    |true=>have HF:=aB (HE.o rfl);clear HE HN;go_wp2_with fail;go_ret;exact⟨by rw[HF.o];rfl,hd3 _⟩
    |false=>
     have HB2:=aB (HN.o rfl);clear HE HN;go_wp2_with fail
     go_roundg (fs.length-(i+1))
     case rel=>exact⟨i+1,by go_num,by have:=bZ.o;omega,aBT _,HB2,hd3 _⟩
     case measure=>have:=bZ.o;have:=Hm.o;omega
   ·obtain rfl:i=fs.length:=(by omega);have i1:=lC fs.length;have i2:=kZ fs.length;have HF:aC ((fs.findIdx? fun f=>f.1==y.text)=none):=(by show _=_;rw[List.findIdx?_eq_none_iff];intro x hx;obtain⟨j,hj,rfl⟩:=List.getElem_of_mem hx;exact HB.o j hj hj);clear hlt hi hm HB hr;go_wp2_with fail;go_ret;exact⟨by rw[HF.o];rfl,hd⟩
theorem Sc.Aj (W:Sc.Wk)(i:Nat)(h:i<W.items.length):((W.items.take (i+1)).map fun l=>(l.filter fun x=> !x.bH).length).sum=((W.items.take i).map fun l=>(l.filter fun x=> !x.bH).length).sum+(W.items[i].filter fun x=> !x.bH).length:=by
 rw[aCP h,aDI,List.sum_append];simp
theorem Sc.Aw (l:List Sc.It)(k:Nat)(h:k<l.length):((l.take (k+1)).filter fun x=> !x.bH).length=((l.take k).filter fun x=> !x.bH).length+if l[k].bH then 0 else 1:=by
 rw[aCP h,List.filter_append,List.length_append];cases hd:l[k].bH<;>simp[hd]
theorem Sc.count_le (W:Sc.Wk)(i:Nat):((W.items.take i).map fun l=>(l.filter fun x=> !x.bH).length).sum<=Sc.lL W:=by
 unfold Sc.lL;generalize W.items=l
 induction l generalizing i with
 |nil=>simp
 |cons x l ih=>
  cases i with
  |zero=>simp
  |succ i=>rw[List.take_succ_cons,aDH,aFB,aDH,aFB];have:=aED (fun x:Sc.It=> !x.bH) x;have:=ih i;omega
theorem KR{w:World}(h:Fp w F wb A c fs Ai ci W)(wG:Sc.lL W<=100000000):
  Calls aBS 81 #[pZZ wb] w (mg (Sc.mM W:Int) w):=by
 have OW:W.items.length<=1000:=by rw[<-h.fl];exact h.few
 have tY:=aB OW;have H:=aB h;have TA:=aB wG;clear h OW wG
 go_enter func81,ntmps81
 go_wp2_with fail
 go_loopg [3,4] W.items.length (fun mm v u wr=> ∃i:Nat,v=kZZ (((W.items.take i).map fun l=>(l.filter fun x=> !x.bH).length).sum:Nat)/\u=vZZ i/\i<=W.items.length/\W.items.length-i<=mm/\Below w.heap.size w wr)
 case atStart=>exact⟨0,rfl,rfl,aBZ _,aBT _,aBU _ _⟩
 case round=>
  obtain⟨i,rfl,rfl,hi,hm,hd⟩:=hrel;have hr:=H.o.below hd;have p2:=hr.p2
  by_cases hlt:i<W.items.length
  ·have GZ:=iZ i;have EB:=jJ i W.items.length;have c1:=uX i (by have:=tY.o;omega);have HT:=aB (Sc.Aj W i hlt);have Hli:aC (W.items[i]? =some W.items[i]):=aBY hlt;have Hll:=aB (hr.Uh i W.items[i] (aBY hlt)).1;have Hle:=aB (Sc.count_le W i);have bZ:=aB hlt;have Hm:=aB hm;generalize W.items[i]=l at *;generalize((W.items.take i).map fun l=>(l.filter fun x=> !x.bH).length).sum=N at *;clear hlt hm hi hr;go_wp2_with fail;clear p2
   go_loopg [3,5] l.length (fun mm v u wk=> ∃k:Nat,v=kZZ ((N+((l.take k).filter fun x=> !x.bH).length:Nat):Int)/\u=vZZ k/\k<=l.length/\l.length-k<=mm/\Below w.heap.size w wk)
   case atStart=>exact⟨0,rfl,rfl,aBZ _,aBT _,hd⟩
   case round=>
    obtain⟨k,rfl,rfl,hk,hm,hd2⟩:=hrel;clear hd;have hr:=H.o.below hd2;have p2:=hr.p2;obtain⟨r,o,sA,sc,rfl,hs,hrow⟩:=hr.file Hli.o
    by_cases hlt:k<l.length
    ·have jj0:=iZ k;have jj1:=jJ k l.length;have c2:=uX k (by have:=Hll.o;omega);obtain⟨b2,o2,rfl,FP,hbl,hc⟩:=hrow (by omega);obtain⟨cs,hi,hcs⟩:=hc k l[k] (aBY hlt);obtain⟨pd,pn,pm,pe,pa,pb,Ap,cp,rfl, -, -, -, -, -, -, -⟩:=hi.form;obtain⟨q0, -⟩:=mW hcs;have HT2:=aB (Sc.Aw l k hlt);have Hk:=aB hlt;have yl:=aB hm;have hNk:((l.take k).filter fun x=> !x.bH).length<=1000000:=(by have h1:=aED (fun x:Sc.It=> !x.bH) (l.take k);rw[List.length_take] at h1;have:=Hll.o;omega);have HNk:=aB hNk;clear hcs hi hc hbl FP hr hrow hNk;generalize l[k].bH=xd at *;clear hlt hm hk;generalize((l.take k).filter fun x=> !x.bH).length=M at *;have c3:aCQ.wrap (((N+M:Nat):Int)+1)=((N+M:Nat):Int)+1:=aCV _ (by have:=HNk.o;have:=Hle.o;have:=TA.o;omega);generalize hNM:N+M=Q at *;have HNM:=aB hNM;clear hNM;cases xd with
     |true=>
      go_wp2_with fail
      go_roundg (l.length-(k+1))
      case rel=>exact⟨k+1,by rw[HT2.o,<-HNM.o];rfl,by go_num,by have:=Hk.o;omega,aBT _,hd2⟩
      case measure=>have:=Hk.o;have:=yl.o;omega
     |false=>
      go_wp2_with fail
      go_roundg (l.length-(k+1))
      case rel=>exact⟨k+1,by rw[HT2.o,show N+(M+(if false=true then 0 else 1))=Q+1 from(by rw[<-HNM.o];rfl)];go_num,by go_num,by have:=Hk.o;omega,aBT _,hd2⟩
      case measure=>have:=Hk.o;have:=yl.o;omega
    ·obtain rfl:k=l.length:=(by omega);have i1:=lC l.length;have i2:=kZ l.length;rw[aDF];have HQ:aC (((W.items.take (i+1)).map fun l=>(l.filter fun x=> !x.bH).length).sum=N+(l.filter fun x=> !x.bH).length):=HT.o;generalize N+(l.filter fun x=> !x.bH).length=Q at *;clear hlt hm hk hr hrow;go_wp2_with fail
     go_roundg (W.items.length-(i+1))
     case rel=>exact⟨i+1,by rw[HQ.o],by go_num,by have:=bZ.o;omega,aBT _,hd2⟩
     case measure=>have:=bZ.o;have:=Hm.o;omega
  ·obtain rfl:i=W.items.length:=(by omega);have i1:=lC W.items.length;have i2:=kZ W.items.length;rw[aDF];have HQ:aC ((W.items.map fun l=>(l.filter fun x=> !x.bH).length).sum=Sc.mM W):=rfl;generalize(W.items.map fun l=>(l.filter fun x=> !x.bH).length).sum=Q at *;clear hlt hm hi hr;go_wp2_with fail;go_ret;exact⟨by rw[<-HQ.o];rfl,hd⟩
def RstE(r:Int×Int×Nat)(w:World)(e:Ending)(w':World):Prop:=e=.returned (.tuple #[kZZ r.1,kZZ r.2.1,kZZ (r.2.2:Int)])/\Below w.heap.size w w'
theorem Sc.jD {n:Nat}{x:Sc.It}{f a:Int}{e:Nat}(h:Sc.kM W x=.is f a e):Sc.aZ W n x=(f,a,e):=by
 rw[Sc.aZ,h]
theorem Sc.Ev {x:Sc.It}{m:Nat}(h:Sc.nQ W x=some m):m<W.names.length:=by
 unfold Sc.nQ at h;cases hm:x.mo with
 |none=>rw[hm] at h;cases h
 |some y=>rw[hm] at h;have h:W.names.findIdx? (· ==y.text)=some m:=h;exact(aFK.1 h).1
theorem BZ(left:Nat): ∀{w:World} (_:Fp w F wb A c fs Ai ci W) {f k:Nat} {l:List Sc.It} {x:Sc.It} (_:W.items[f]? =some l) (_:l[k]? =some x) (_:left<=1000000000),
  Calls aBS 82 #[pZZ wb,vZZ f,vZZ k,vZZ left] w (RstE (Sc.aZ W left x) w):=by
 induction left with
 |zero=>
  intro w h f k l x hl hx hn0;have hxf:=(h.Uh f l hl).2 x (aDC hx);have Hxf:=aB hxf;have HN:aC (W.names.length=W.items.length):=by show _=_;rw[h.names,aCE];exact h.fl
  have hfl:=(aCD.1 hl).1;have hkl:=(aCD.1 hx).1;have ff0:=iZ f;have ff1:=jJ f W.items.length;have kk0:=iZ k;have kk1:=jJ k l.length;obtain⟨r,o,sA,sc,rfl,hs,hrow⟩:=h.file hl;have p2:=h.p2;clear hfl hkl hxf
  go_enter func82,ntmps82
  obtain⟨b,o,rfl,FP,hbl,hc⟩:=hrow (by have:=(aCD.1 hx).1;omega);obtain⟨cs,hi,hcs⟩:=hc k x hx;obtain⟨pd,pn,pm,pe,pa,pb,Ap,cp,rfl,hn,hm,he,ha, -, -, -⟩:=hi.form;obtain⟨q0,q1,q2,q3,q4,q5,q6,q7,q8,q9,wF⟩:=mW hcs;obtain⟨OO,hbx⟩:=uS w 95 (JI x (.pointer pd) (.pointer pn) (.pointer pm) (.pointer pe) (.pointer pa) (.pointer pb) Ap cp);unfold JI at OO hbx;clear hi hcs hc hbl FP;go_upto_region 2 with fail;obtain⟨bx,hbx0⟩:=dC w.heap.size;rw[<-hbx0] at hbx⊢;clear hbx0 q0 q1 q2 q3 q4 q5 q6 q7 q8 q9 wF;generalize w.alloc _=w1 at *;have h1:=h.below OO;have hmd:=vE h1 (hm.below OO);have Hdx:=aB OO;have hen:=he.below OO;have x4:=hbx.cell 4;simp at x4;have hfm:(x.mo.bind fun m=>W.names.findIdx? (· ==m.text))=Sc.nQ W x:=rfl;rw[hfm] at hmd;clear OO hs p2 hrow h hn hm he ha hl hx;go_wp2_with fail;refine hmd.mono ?_;clear hmd x4;rintro e2 w2 ⟨rfl,hd2⟩;have hb2:=hbx.below hd2 hbx.lt;have h2:=h1.below hd2;have CZ:=Hdx.o.trans (hd2.mono Hdx.o.size);have hen:=hen.below hd2;clear hbx h1 hd2;cases hfm:Sc.nQ W x with
  |none=>
   have HR:aC (Sc.aZ W 0 x=(-1, -1,4)):=Sc.jD (by unfold Sc.kM;rw[hfm]);generalize Sc.aZ W 0 x=R at *;clear hfm hb2 h2 hen;unfold uM;go_wp2_with fail
   go_ret3
   exact⟨by rw[HR.o];rfl,CZ⟩
  |some m=>
   have Su:m<W.items.length:=(by rw[<-HN.o];exact Sc.Ev hfm);have Ny:aC (W.items[m]? =some W.items[m]):=aBY Su;have mm0:=iZ m;have mm1:=jJ m W.items.length;have mm2: ¬(m:Int)<0:=(by omega);have x5:=hb2.cell 5;simp at x5;unfold uM;have yt:=aB hfm;generalize W.items[m]=lm at *;clear hfm Su;cases hme:x.me with
   |none=>
    rw[hme] at hen;have HR:aC (Sc.aZ W 0 x=(-1, -1,4)):=Sc.jD (by unfold Sc.kM;rw[yt.o,hme]);generalize Sc.aZ W 0 x=R at *;obtain rfl:pe=none:=by have e:aEJ pe=oZZ:=hen;injection e
    clear hme hb2 h2;go_wp2_with fail
    go_ret3
    exact⟨by rw[HR.o];rfl,CZ⟩
   |some y=>
    rw[hme] at hen;obtain⟨g,e,_,hQ⟩:=hen;injection e with e;subst e;obtain⟨_,_,z2,_,_⟩:=hQ.cells;have htop:=uH h2 Ny.o y.text;have Hme:=aB hme;clear hme hQ;go_wp2_with fail;refine htop.mono ?_;clear htop z2 x5;rintro e3 w3 ⟨rfl,hd3⟩;have h3:=h2.below hd3;have lW:=CZ.trans (hd3.mono CZ.size);have HF:aC (Sc.kM W x=Sc.uC W x m y.text):=by show _=_;unfold Sc.kM;rw[yt.o,Hme.o]
    have WS:aC (Sc.aT W m=lm):=(by show _=_;unfold Sc.aT;rw[Ny.o];rfl);clear h2 hd3 CZ hb2;cases hfo:Sc.bJ lm y.text with
    |none=>
     have HR:aC (Sc.aZ W 0 x=(-1, -1,4)):=Sc.jD (by rw[HF.o];unfold Sc.uC;rw[WS.o,hfo]);generalize Sc.aZ W 0 x=R at *;clear hfo h3;unfold uM;go_wp2_with fail
     go_ret3
     exact⟨by rw[HR.o];rfl,lW⟩
    |some j=>
     obtain⟨z,hz,hnz⟩:=Sc.uO hfo;obtain⟨yw,z_,_⟩:=Sc.AV hnz;have hjl:=(aCD.1 hz).1;have jj0:=iZ j;have jj1:=jJ j lm.length;have jj2: ¬(j:Int)<0:=(by omega);have HS:aC (Sc.kM W x=if(!z.yZ&&m !=f)=true then .is (-1) (-1) 6 else if z.bH=true then .is m ((yw.at_:Nat):Int) 0 else .at_ m j):=(by show _=_;rw[HF.o];unfold Sc.uC;rw[WS.o,hfo];dsimp only;rw[hz];dsimp only;rw[Hxf.o,z_];rfl);have Hz:=aB hz;obtain⟨r2,o2,s2A,s2c,e,hs2,hrow2⟩:=h3.file Ny.o;injection e with e;injection e with e e';subst e e';have p2:=h3.p2;clear hfo hnz hjl HF;unfold uM;obtain⟨b2,o2,rfl,aAg,Te,hc2⟩:=hrow2 (by have:=(aCD.1 hz).1;omega);obtain⟨cs2,hi2,hcs2⟩:=hc2 j z hz;obtain⟨pd2,pn2,pm2,pe2,pa2,pb2,Ap2,cp2,rfl,hn2,hm2,he2,ha2, -, -, -⟩:=hi2.form;obtain⟨q0,q1,q2,q3,q4,q5,q6,q7,q8,q9,wF⟩:=mW hcs2;obtain⟨MK,FM⟩:=uS w3 95 (JI z (.pointer pd2) (.pointer pn2) (.pointer pm2) (.pointer pe2) (.pointer pa2) (.pointer pb2) Ap2 cp2);unfold JI at MK FM;clear hi2 hcs2 hc2 Te aAg;go_upto_region 9 with fail;obtain⟨bx2,ZZ⟩:=dC w3.heap.size;rw[<-ZZ] at FM⊢;clear ZZ q0 q1 q2 q3 q4 q5 q6 q7 q8 q9 wF;generalize w3.alloc _=w4 at *;have lV:=lW.trans (MK.mono lW.size);have h4:=h3.below MK;have M_:=hn2.below MK;rw[z_] at M_;obtain⟨gz,e,_,hQz⟩:=M_;injection e with e;subst e;have x0:=FM.cell 0;have x1:=FM.cell 1;have x3:=FM.cell 3;simp at x0 x1 x3;obtain⟨_,_,_,_,z6⟩:=hQz.cells;clear MK hs2 p2 hrow2 h3 hn2 hm2 he2 ha2 hz z_ FM hQz lW
     by_cases hb:(!z.yZ&&m !=f)=true
     ·have HR:aC (Sc.aZ W 0 x=(-1, -1,6)):=Sc.jD (by rw[HS.o,if_pos hb]);obtain⟨hb1,hb2⟩:=Bool.and_eq_true_iff.1 hb;have hb1:z.yZ=false:=(by simpa using hb1);have n1:((m:Int) !=(f:Int))=true:=(by simp at hb2⊢;omega);generalize Sc.aZ W 0 x=R at *;rw[hb1] at x1;clear hb hb1 hb2 HS h4;go_wp2_with fail
      go_ret3
      exact⟨by rw[HR.o];rfl,lV⟩
     ·rw[if_neg hb] at HS;have ZY:z.yZ=true\/(m=f/\z.yZ=false):=by
       cases hp:z.yZ
       ·right;rw[hp] at hb;simp at hb;exact⟨hb,rfl⟩
       ·exact .inl rfl
      go_upto_region 9 with fail
      go_cut [66] (fun s wc=>s=.bool false/\wc=w4)
      case first=>
       rcases ZY with hp|⟨rfl,hp⟩
       ·rw[hp] at x1;clear hb hp HS;go_wp2_with fail;go_meet;exact⟨rfl,rfl⟩
       ·rw[hp] at x1;clear hb hp HS;go_wp2_with fail;go_meet;exact⟨rfl,rfl⟩
      case rest=>
       obtain⟨rfl,rfl⟩:=hcut;clear hb ZY x1;cases hdz:z.bH with
       |true=>
        have HR:aC (Sc.aZ W 0 x=((m:Int),((yw.at_:Nat):Int),0)):=Sc.jD (by rw[HS.o,if_pos hdz]);generalize Sc.aZ W 0 x=R at *;rw[hdz] at x0;clear hdz HS h4;go_upto_region 12 with fail
        go_quiet (fail)
        have hdq: ∀n,Below w.heap.size w (World.drewN wc n):=fun n=>below_drewN lV n
        clear x0 x3 z6;go_wp2_with fail
        go_ret3
        exact⟨by rw[HR.o];rfl,hdq _⟩
       |false=>
        rw[if_neg (by rw[hdz];decide)] at HS;rw[hdz] at x0;clear x3 z6 hdz;have HR:aC (Sc.aZ W 0 x=(-1, -1,7)):=by show _=_;rw[Sc.aZ,HS.o]
        generalize Sc.aZ W 0 x=R at *;clear HS h4;go_wp2_with fail
        go_ret3
        exact⟨by rw[HR.o];rfl,lV⟩
 |succ left ih=>
  intro w h f k l x hl hx hn0;have hxf:=(h.Uh f l hl).2 x (aDC hx);have Hxf:=aB hxf;have HN:aC (W.names.length=W.items.length):=by show _=_;rw[h.names,aCE];exact h.fl
  have hfl:=(aCD.1 hl).1;have hkl:=(aCD.1 hx).1;have ff0:=iZ f;have ff1:=jJ f W.items.length;have kk0:=iZ k;have kk1:=jJ k l.length;obtain⟨r,o,sA,sc,rfl,hs,hrow⟩:=h.file hl;have p2:=h.p2;clear hfl hkl hxf
  go_enter func82,ntmps82
  obtain⟨b,o,rfl,FP,hbl,hc⟩:=hrow (by have:=(aCD.1 hx).1;omega);obtain⟨cs,hi,hcs⟩:=hc k x hx;obtain⟨pd,pn,pm,pe,pa,pb,Ap,cp,rfl,hn,hm,he,ha, -, -, -⟩:=hi.form;obtain⟨q0,q1,q2,q3,q4,q5,q6,q7,q8,q9,wF⟩:=mW hcs;obtain⟨OO,hbx⟩:=uS w 95 (JI x (.pointer pd) (.pointer pn) (.pointer pm) (.pointer pe) (.pointer pa) (.pointer pb) Ap cp);unfold JI at OO hbx;clear hi hcs hc hbl FP;go_upto_region 2 with fail;obtain⟨bx,hbx0⟩:=dC w.heap.size;rw[<-hbx0] at hbx⊢;clear hbx0 q0 q1 q2 q3 q4 q5 q6 q7 q8 q9 wF;generalize w.alloc _=w1 at *;have h1:=h.below OO;have hmd:=vE h1 (hm.below OO);have Hdx:=aB OO;have hen:=he.below OO;have x4:=hbx.cell 4;simp at x4;have hfm:(x.mo.bind fun m=>W.names.findIdx? (· ==m.text))=Sc.nQ W x:=rfl;rw[hfm] at hmd;clear OO hs p2 hrow h hn hm he ha hl hx;go_wp2_with fail;refine hmd.mono ?_;clear hmd x4;rintro e2 w2 ⟨rfl,hd2⟩;have hb2:=hbx.below hd2 hbx.lt;have h2:=h1.below hd2;have CZ:=Hdx.o.trans (hd2.mono Hdx.o.size);have hen:=hen.below hd2;clear hbx h1 hd2;cases hfm:Sc.nQ W x with
  |none=>
   have HR:aC (Sc.aZ W (left+1) x=(-1, -1,4)):=Sc.jD (by unfold Sc.kM;rw[hfm]);generalize Sc.aZ W (left+1) x=R at *;clear hfm hb2 h2 hen;unfold uM;go_wp2_with fail
   go_ret3
   exact⟨by rw[HR.o];rfl,CZ⟩
  |some m=>
   have Su:m<W.items.length:=(by rw[<-HN.o];exact Sc.Ev hfm);have Ny:aC (W.items[m]? =some W.items[m]):=aBY Su;have mm0:=iZ m;have mm1:=jJ m W.items.length;have mm2: ¬(m:Int)<0:=(by omega);have x5:=hb2.cell 5;simp at x5;unfold uM;have yt:=aB hfm;generalize W.items[m]=lm at *;clear hfm Su;cases hme:x.me with
   |none=>
    rw[hme] at hen;have HR:aC (Sc.aZ W (left+1) x=(-1, -1,4)):=Sc.jD (by unfold Sc.kM;rw[yt.o,hme]);generalize Sc.aZ W (left+1) x=R at *;obtain rfl:pe=none:=by have e:aEJ pe=oZZ:=hen;injection e
    clear hme hb2 h2;go_wp2_with fail
    go_ret3
    exact⟨by rw[HR.o];rfl,CZ⟩
   |some y=>
    rw[hme] at hen;obtain⟨g,e,_,hQ⟩:=hen;injection e with e;subst e;obtain⟨_,_,z2,_,_⟩:=hQ.cells;have htop:=uH h2 Ny.o y.text;have Hme:=aB hme;clear hme hQ;go_wp2_with fail;refine htop.mono ?_;clear htop z2 x5;rintro e3 w3 ⟨rfl,hd3⟩;have h3:=h2.below hd3;have lW:=CZ.trans (hd3.mono CZ.size);have HF:aC (Sc.kM W x=Sc.uC W x m y.text):=by show _=_;unfold Sc.kM;rw[yt.o,Hme.o]
    have WS:aC (Sc.aT W m=lm):=(by show _=_;unfold Sc.aT;rw[Ny.o];rfl);clear h2 hd3 CZ hb2;cases hfo:Sc.bJ lm y.text with
    |none=>
     have HR:aC (Sc.aZ W (left+1) x=(-1, -1,4)):=Sc.jD (by rw[HF.o];unfold Sc.uC;rw[WS.o,hfo]);generalize Sc.aZ W (left+1) x=R at *;clear hfo h3;unfold uM;go_wp2_with fail
     go_ret3
     exact⟨by rw[HR.o];rfl,lW⟩
    |some j=>
     obtain⟨z,hz,hnz⟩:=Sc.uO hfo;obtain⟨yw,z_,_⟩:=Sc.AV hnz;have hjl:=(aCD.1 hz).1;have jj0:=iZ j;have jj1:=jJ j lm.length;have jj2: ¬(j:Int)<0:=(by omega);have HS:aC (Sc.kM W x=if(!z.yZ&&m !=f)=true then .is (-1) (-1) 6 else if z.bH=true then .is m ((yw.at_:Nat):Int) 0 else .at_ m j):=(by show _=_;rw[HF.o];unfold Sc.uC;rw[WS.o,hfo];dsimp only;rw[hz];dsimp only;rw[Hxf.o,z_];rfl);have Hz:=aB hz;obtain⟨r2,o2,s2A,s2c,e,hs2,hrow2⟩:=h3.file Ny.o;injection e with e;injection e with e e';subst e e';have p2:=h3.p2;clear hfo hnz hjl HF;unfold uM;obtain⟨b2,o2,rfl,aAg,Te,hc2⟩:=hrow2 (by have:=(aCD.1 hz).1;omega);obtain⟨cs2,hi2,hcs2⟩:=hc2 j z hz;obtain⟨pd2,pn2,pm2,pe2,pa2,pb2,Ap2,cp2,rfl,hn2,hm2,he2,ha2, -, -, -⟩:=hi2.form;obtain⟨q0,q1,q2,q3,q4,q5,q6,q7,q8,q9,wF⟩:=mW hcs2;obtain⟨MK,FM⟩:=uS w3 95 (JI z (.pointer pd2) (.pointer pn2) (.pointer pm2) (.pointer pe2) (.pointer pa2) (.pointer pb2) Ap2 cp2);unfold JI at MK FM;clear hi2 hcs2 hc2 Te aAg;go_upto_region 9 with fail;obtain⟨bx2,ZZ⟩:=dC w3.heap.size;rw[<-ZZ] at FM⊢;clear ZZ q0 q1 q2 q3 q4 q5 q6 q7 q8 q9 wF;generalize w3.alloc _=w4 at *;have lV:=lW.trans (MK.mono lW.size);have h4:=h3.below MK;have M_:=hn2.below MK;rw[z_] at M_;obtain⟨gz,e,_,hQz⟩:=M_;injection e with e;subst e;have x0:=FM.cell 0;have x1:=FM.cell 1;have x3:=FM.cell 3;simp at x0 x1 x3;obtain⟨_,_,_,_,z6⟩:=hQz.cells;clear MK hs2 p2 hrow2 h3 hn2 hm2 he2 ha2 hz z_ FM hQz lW
     by_cases hb:(!z.yZ&&m !=f)=true
     ·have HR:aC (Sc.aZ W (left+1) x=(-1, -1,6)):=Sc.jD (by rw[HS.o,if_pos hb]);obtain⟨hb1,hb2⟩:=Bool.and_eq_true_iff.1 hb;have hb1:z.yZ=false:=(by simpa using hb1);have n1:((m:Int) !=(f:Int))=true:=(by simp at hb2⊢;omega);generalize Sc.aZ W (left+1) x=R at *;rw[hb1] at x1;clear hb hb1 hb2 HS h4;go_wp2_with fail
      go_ret3
      exact⟨by rw[HR.o];rfl,lV⟩
     ·rw[if_neg hb] at HS;have ZY:z.yZ=true\/(m=f/\z.yZ=false):=by
       cases hp:z.yZ
       ·right;rw[hp] at hb;simp at hb;exact⟨hb,rfl⟩
       ·exact .inl rfl
      go_upto_region 9 with fail
      go_cut [66] (fun s wc=>s=.bool false/\wc=w4)
      case first=>
       rcases ZY with hp|⟨rfl,hp⟩
       ·rw[hp] at x1;clear hb hp HS;go_wp2_with fail;go_meet;exact⟨rfl,rfl⟩
       ·rw[hp] at x1;clear hb hp HS;go_wp2_with fail;go_meet;exact⟨rfl,rfl⟩
      case rest=>
       obtain⟨rfl,rfl⟩:=hcut;clear hb ZY x1;cases hdz:z.bH with
       |true=>
        have HR:aC (Sc.aZ W (left+1) x=((m:Int),((yw.at_:Nat):Int),0)):=Sc.jD (by rw[HS.o,if_pos hdz]);generalize Sc.aZ W (left+1) x=R at *;rw[hdz] at x0;clear hdz HS h4;go_upto_region 12 with fail
        go_quiet (fail)
        have hdq: ∀n,Below w.heap.size w (World.drewN wc n):=fun n=>below_drewN lV n
        clear x0 x3 z6;go_wp2_with fail
        go_ret3
        exact⟨by rw[HR.o];rfl,hdq _⟩
       |false=>
        rw[if_neg (by rw[hdz];decide)] at HS;rw[hdz] at x0;clear x3 z6 hdz;have HR:aC (Sc.aZ W (left+1) x=Sc.aZ W left z):=by show _=_;rw[Sc.aZ,HS.o];dsimp only;rw[WS.o,Hz.o]
        have hrec:=ih h4 Ny.o Hz.o (by omega);have cl:aCQ.wrap (((left+1:Nat):Int)-1)=(left:Int):=(by rw[show(((left+1:Nat):Int)-1)=(left:Int) by omega];exact aCV _ (by omega));have cl0: ¬((left+1:Nat):Int)=0:=(by omega);have cl1:(((left+1:Nat):Int)==0)=false:=(by simp;omega);clear HS h4;generalize Sc.aZ W (left+1) x=R at *;generalize Sc.aZ W left z=R2 at *;generalize((left+1:Nat):Int)=LL at *;go_wp2_with fail;refine hrec.mono ?_;clear hrec x0;rintro e5 w5 ⟨rfl,hd5⟩;go_wp2_with fail
        go_ret3
        exact⟨by rw[HR.o];rfl,lV.trans (hd5.mono lV.size)⟩
end Go.Proofs.YtcjjfeephaddcaaGreatDoor
namespace Go.Proofs.YtcjjfeephaddcaaGreatDoor.Sc
open Tr (PT St Kd jI aH bR gX dD bC aW gY toP aK nU aN aQ dK nC bB eH eT fD gJ oG iA iX rowP xB BV jV V4 su o8 aU fK fM dA nT oC gT qQ thn aS lY jN tQ XR wZ O9 uG wD fZ gL iP wE wC qN)
variable{a:Nat}
def wJ(w:List UInt8)(x:PT):Prop:= ∃k a,x=.leaf k w a
def Mm(Q:PT->Prop)(l:List PT):Prop:= ∃(x:PT) (r:List (PT×PT)),l=x::(r.flatMap fun y=>[y.1,y.2])/\Q x/\∀y∈r,wJ [44] y.1/\Q y.2
def SY(Q:PT->Prop)(op sh:List UInt8)(l:List PT):Prop:= ∃x0 x1 m,aI l=x0::(m++[x1])/\oI op x0/\oI sh x1/\(m=[]\/Mm Q m)
def TC(x:PT):Prop:=bA x=true
structure ze(k:Nat)(l:List PT):Prop where
 params:k=6->SY qL [40] [41] l
 u_:k=7->∃x0 x1 x2 e x4 e',aI l=[x0,x1,x2,e,x4,e']/\wJ tQ x0/\qL x1/\oI [61] x2/\TC e/\oI O9 x4/\TC e'
 if_:k=8->∃x0 e1 x2 e2 x4 e3,aI l=[x0,e1,x2,e2,x4,e3]/\wJ XR x0/\TC e1/\oI uG x2/\TC e2/\oI wD x4/\TC e3
 fun_:k=9->∃x0 p x2 e,aI l=[x0,p,x2,e]/\wJ wZ x0/\mY p=true/\kindOf p=6/\oI [61,62] x2/\TC e
 bin:k=10->∃e1 x1 e2,aI l=[e1,x1,e2]/\TC e1/\xD x1=true/\TC e2
 call:k=11->∃c a,l=[c,a]/\TC c/\mY a=true/\kindOf a=12
 args:k=12->SY TC [40] [41] l
 list:k=13->SY TC [91] [93] l
 group:k=14->∃x0 e x2,aI l=[x0,e,x2]/\wJ [40] x0/\TC e/\oI [41] x2
 one:15<=k->∃bl kk t a,l=bl++[.leaf kk t a]/\(∀p∈bl,gK p=true)/\gK (.leaf kk t a)=false/\k=eT kk t
 Zy:k≠9->∀p∈l,kindOf p≠6
mutual
def xM:PT->Prop
 | .leaf _ _ _=>True
 | .gap _ _ _=>True
 | .branch k _ l=>ze k l/\Z7 l
def Z7:List PT->Prop
 | []=>True
 |p::l=>xM p/\Z7 l
end
theorem DI: ∀(l:List PT),Z7 l↔∀p∈l,xM p
 | []=>by simp[Z7]
 |p::l=>by simp[Z7,DI l]
def OkG(l:List PT):Prop:= ∀p∈l,xM p/\kindOf p≠6
theorem OkG.app {l m:List PT}(h:OkG l)(h':OkG m):OkG (l++m):=fun p hp=>by
 rcases aDJ.1 hp with hp|hp
 ·exact h p hp
 ·exact h' p hp
theorem OkG.grs {l:List PT}(h:OkG l):Z7 l:=(DI l).2 fun p hp=>(h p hp).1
theorem OkG.Zy {l:List PT}(h:OkG l): ∀p∈l,kindOf p≠6:=fun p hp=>(h p hp).2
theorem OkG.one {p:PT}(h:xM p)(hk:kindOf p≠6):OkG [p]:=fun q hq=>by
 rw[aCH] at hq;rw[hq];exact⟨h,hk⟩
def Bq(f:Nat->St):Prop:= ∀i,OkG (f i).1
def xV(f:Nat->PT×Nat):Prop:= ∀i,xM (f i).1/\bA (f i).1=true
theorem DN{p:PT}(h:bA p=true):kindOf p≠6:=by
 cases p with
 |leaf k t a=>simp[kindOf]
 |gap t a d=>simp[kindOf]
 |branch k a l=>unfold bA at h;simp at h;simp[kindOf];omega
theorem xV.one {f:Nat->PT×Nat}(h:xV f):Bq fun i=>aS (f i):=fun i=>OkG.one (h i).1 (DN (h i).2)
theorem OkG.thn {st:St}{f:Nat->St}(h:OkG st.1)(hf:Bq f):OkG (thn st f).1:=h.app (hf st.2)
theorem OkG.ite {st u:St}{p:Bool}(h:OkG st.1)(hu:OkG u.1):OkG (if p then st else u).1:=by
 split
 ·exact h
 ·exact hu
def aAH(Q:PT->Prop)(f:Nat->St):Prop:= ∀i,∃x,aI (f i).1=[x]/\Q x
section
variable{s:List UInt8}{T:List (Nat×Nat×Nat)}(b:Nat)
theorem mV:Bq (aK s T b):=fun i p hp=>by
 obtain⟨t,ht,rfl⟩:=ER b i hp;exact⟨by unfold gY xM;trivial,by simp[gY,kindOf]⟩
theorem iI(w:List UInt8):Bq (aN s T b w):=fun i=>by
 unfold aN;exact(mV (s:=s) (T:=T) b i).ite (OkG.one (by unfold xM;trivial) (by simp[kindOf]))
theorem rQ:Bq (aQ s T b):=fun i=>by
 unfold aQ;split
 ·exact mV (s:=s) (T:=T) b i
 ·exact OkG.one (by unfold xM;trivial) (by simp[kindOf])
theorem LF{one:Nat->St}(ho:Bq one): ∀(f:Nat) (st:St),OkG st.1->OkG (dK s T b one f st).1
 |0,st,h=>h
 |f+1,st,h=>by
  rw[Tr.jS];split
  ·exact LF ho f _ ((h.thn (mV (s:=s) (T:=T) b)).thn ho)
  ·exact h
theorem Ho{ws:List (List UInt8)}{i:Nat}(h:aW s T ws i=true): ∃w∈ws,∃k a,aI (aK s T b i).1=[.leaf k w a]:=by
 have hn:=Tr.is_lt s T h;rw[vB b hn];unfold aW at h;rw[Tr.yB s T _ hn] at h;simp only[Bool.and_eq_true,List.contains_iff_mem] at h;exact⟨_,h.2,_,_,rfl⟩
theorem Mm.snoc {Q:PT->Prop}{l:List PT}(h:Mm Q l){c x:PT}(hc:wJ [44] c)(hx:Q x):Mm Q (l++[c,x]):=by
 obtain⟨y,r,e,hy,hr⟩:=h;refine⟨y,r++[(c,x)],by rw[e];simp,hy,fun z hz=> ?_⟩;rcases aDJ.1 hz with hz|hz
 ·exact hr z hz
 ·rw[aCH] at hz;subst hz;exact⟨hc,hx⟩
theorem LC{one:Nat->St}{Q:PT->Prop}(ho:aAH Q one)(pre:List PT): ∀(f:Nat) (st:St),(∃m,aI st.1=pre++m/\Mm Q m)->∃m,aI (dK s T b one f st).1=pre++m/\Mm Q m
 |0,st,h=>h
 |f+1,st,h=>by
  rw[Tr.jS];split
  ·rename_i hc;obtain⟨m,e,hm⟩:=h;obtain⟨k,a,h1⟩:=lI b hc;obtain⟨x,h2,hx⟩:=ho (thn st (aK s T b)).2;refine LC ho pre f _ ⟨m++[.leaf k [44] a,x],?_,hm.snoc ⟨k,a,rfl⟩ hx⟩;unfold Tr.fC;rw[eY,eY,e,h1,h2];simp
  ·exact h
theorem l_{f:Nat->PT×Nat}(h:xV f):aAH TC fun i=>aS (f i):=fun i=>⟨_,kT (h i).2,(h i).2⟩
theorem KX:aAH qL (aQ s T b):=fun i=>lH b i
theorem QU(i:Nat):xM (bB s T b i).1:=by
 obtain⟨x0,h0,hx0⟩:=dO (s:=s) (T:=T) b [40] i;have h1:=iI (s:=s) (T:=T) b [40] i;have hm:OkG (dK s T b (aQ s T b) (T.length+1) (thn (aN s T b [40] i) (aQ s T b))).1:=LF (s:=s) (T:=T) b (rQ (s:=s) (T:=T) b) (T.length+1) _ (h1.thn (rQ (s:=s) (T:=T) b));have h3:=((h1.ite (p:=aW s T [[41]] (aN s T b [40] i).2) hm).thn (iI (s:=s) (T:=T) b [41]))
 unfold bB nC xM;refine⟨⟨fun _=> ?_,fun e=>by omega,fun e=>by omega,fun e=>by omega,fun e=>by omega,fun e=>by omega,fun e=>by omega,fun e=>by omega,fun e=>by omega,fun e=>by omega,fun _=>h3.Zy⟩,h3.grs⟩;obtain⟨x1,h4,hx1⟩:=dO (s:=s) (T:=T) b [41] (if aW s T [[41]] (aN s T b [40] i).2 then aN s T b [40] i else dK s T b (aQ s T b) (T.length+1) (thn (aN s T b [40] i) (aQ s T b))).2
 rw[SY,eY,h4];split
 ·rw[h0];exact⟨x0,x1,[],rfl,hx0,hx1,.inl rfl⟩
 ·obtain⟨y,h5,hy⟩:=lH (s:=s) (T:=T) b (aN s T b [40] i).2;obtain⟨m,e,hm⟩:=LC b (KX b) [x0] (T.length+1) (thn (aN s T b [40] i) (aQ s T b)) ⟨[y],by rw[eY,h0,h5],y,[],rfl,hy,fun _ h=>by cases h⟩;rw[e];exact⟨x0,x1,m,rfl,hx0,hx1,.inr hm⟩
theorem Dt{E:Nat->PT×Nat}(he:xV E){kind:Nat}{op shut:List UInt8}(hk:(kind=12/\op=[40]/\shut=[41])\/(kind=13/\op=[91]/\shut=[93]))(i:Nat)(ho:aW s T [op] i=true):xM (eH s T b (fun i=>aS (E i)) kind shut i).1:=by
 have h1:=mV (s:=s) (T:=T) b i;have hm:=LF (s:=s) (T:=T) b he.one (T.length+1) _ (h1.thn he.one);have h3:=(h1.ite (p:=aW s T [shut] (aK s T b i).2) hm).thn (iI (s:=s) (T:=T) b shut);have hl:SY TC op shut (thn (if aW s T [shut] (aK s T b i).2 then aK s T b i else dK s T b (fun i=>aS (E i)) (T.length+1) (thn (aK s T b i) (fun i=>aS (E i)))) (aN s T b shut)).1:=by
  obtain⟨k0,a0,h0⟩:=lI b ho;obtain⟨x1,h4,hx1⟩:=dO (s:=s) (T:=T) b shut (if aW s T [shut] (aK s T b i).2 then aK s T b i else dK s T b (fun i=>aS (E i)) (T.length+1) (thn (aK s T b i) (fun i=>aS (E i)))).2;rw[SY,eY,h4];split
  ·rw[h0];exact⟨_,x1,[],rfl,.inl ⟨_,_,rfl⟩,hx1,.inl rfl⟩
  ·have h5:aI (aS (E (aK s T b i).2)).1=[(E (aK s T b i).2).1]:=kT (he _).2;obtain⟨m,e,hm⟩:=LC b (l_ he) [.leaf k0 op a0] (T.length+1) (thn (aK s T b i) (fun i=>aS (E i))) ⟨[(E (aK s T b i).2).1],by rw[eY,h0,h5],_,[],rfl,(he _).2,fun _ h=>by cases h⟩;rw[e];exact⟨_,x1,m,rfl,.inl ⟨_,_,rfl⟩,hx1,.inr hm⟩
 unfold eH nC xM;refine⟨⟨fun e=>by omega,fun e=>by omega,fun e=>by omega,fun e=>by omega,fun e=>by omega,fun e=>by omega,fun e=> ?_,fun e=> ?_,fun e=>by omega,fun e=>by omega,fun _=>h3.Zy⟩,h3.grs⟩
 ·rcases hk with ⟨_,rfl,rfl⟩|⟨h,_⟩
  ·exact hl
  ·omega
 ·rcases hk with ⟨h,_⟩|⟨_,rfl,rfl⟩
  ·omega
  ·exact hl
theorem take_split{i:Nat}(hn:aH T i<T.length): ∃bl,(aK s T b i).1=bl++[gY s b T[aH T i]]/\∀p∈bl,gK p=true:=by
 have h0:=Tr.CL T i;have e:toP T i-i=(aH T i-i)+1:=by unfold toP;omega
 have hl:aH T i-i<(T.drop i).length:=by rw[List.length_drop];omega
 have hg:(T.drop i)[aH T i-i]=T[aH T i]:=by
  rw[List.getElem_drop]
  congr 1
  omega
 have ht:(T.drop i).take (aH T i-i)=(T.drop i).takeWhile Tr.dY:=by have h1:(T.drop i).takeWhile Tr.dY++(T.drop i).dropWhile Tr.dY=T.drop i:=List.takeWhile_append_dropWhile;have h2:aH T i-i=((T.drop i).takeWhile Tr.dY).length:=(by unfold aH;omega);rw[h2];generalize(T.drop i).takeWhile Tr.dY=l1 at *;rw[<-h1];exact List.take_left' rfl
 refine⟨((T.drop i).takeWhile Tr.dY).map (gY s b),?_,fun p hp=> ?_⟩
 ·unfold aK;dsimp only;rw[e,aCP hl,aDI,hg,ht];rfl
 ·obtain⟨t,h1,rfl⟩:=List.mem_map.1 hp;have h2:=List.all_eq_true.1 (List.all_takeWhile (p:=Tr.dY) (l:=T.drop i)) t h1;exact h2
theorem Zr{E:Nat->PT×Nat}(he:xV E):xV (fD s T b fun i=>aS (E i)):=fun i=>by
 unfold fD;split
 ·rename_i h;have hw:=LK (bR T (aH T i)) (gX s T (aH T i));have hn:aH T i<T.length:=(by apply Nat.lt_of_not_le;intro hn;rw[Tr.mX T _ hn] at h;simp[eT] at h);have hO:=mV (s:=s) (T:=T) b i;obtain⟨bl,hs,hbl⟩:=take_split (s:=s) b hn;have hnb:=Tr.KZ (T:=T) i hn;have hk:eT (bR T (aH T i)) (gX s T (aH T i))=eT T[aH T i].1 (jI s T[aH T i]):=(by rw[Tr.tC T _ hn,Tr.yB s T _ hn]);generalize eT (bR T (aH T i)) (gX s T (aH T i))=k at *;refine⟨?_,?_⟩
  ·unfold nC xM;refine⟨⟨fun e=>by omega,fun e=>by omega,fun e=>by omega,fun e=>by omega,fun e=>by omega,fun e=>by omega,fun e=>by omega,fun e=>by omega,fun e=>by omega,fun _=> ?_,fun _=>hO.Zy⟩,hO.grs⟩;refine⟨bl,_,_,_,hs,hbl,?_,hk⟩;unfold Tr.dY at hnb;unfold gK;exact hnb
  ·simp[nC,bA];omega
 split
 ·rename_i ho;have h:=((mV (s:=s) (T:=T) b i).thn he.one).thn (iI (s:=s) (T:=T) b [41]);refine⟨?_,rfl⟩;unfold nC xM;refine⟨⟨fun e=>by omega,fun e=>by omega,fun e=>by omega,fun e=>by omega,fun e=>by omega,fun e=>by omega,fun e=>by omega,fun e=>by omega,fun _=> ?_,fun e=>by omega,fun _=>h.Zy⟩,h.grs⟩;obtain⟨k0,a0,h0⟩:=lI b ho;obtain⟨x2,h2,hx2⟩:=dO (s:=s) (T:=T) b [41] (thn (aK s T b i) (fun i=>aS (E i))).2;refine⟨_,_,x2,?_,⟨k0,a0,rfl⟩,(he (aK s T b i).2).2,hx2⟩;simp only[eY,h0,h2,kT (he _).2,aCT,aCU]
 split
 ·rename_i ho;exact⟨Dt b he (.inr ⟨rfl,rfl,rfl⟩) i ho,rfl⟩
 ·exact⟨by unfold xM;trivial,by simp[bA]⟩
theorem F6{E:Nat->PT×Nat}(he:xV E): ∀(f:Nat) (r:PT×Nat),xM r.1/\bA r.1=true->xM (gJ s T b (fun i=>aS (E i)) f r).1/\bA (gJ s T b (fun i=>aS (E i)) f r).1=true
 |0,r,h=>h
 |f+1,r,h=>by
  rw[Tr.jE];split
  ·rename_i ho;refine F6 he f _ ⟨?_,rfl⟩;have h2:=Dt b he (.inl ⟨rfl,rfl,rfl⟩) r.2 ho;unfold xM;refine⟨⟨fun e=>by omega,fun e=>by omega,fun e=>by omega,fun e=>by omega,fun e=>by omega,fun _=>⟨_,_,rfl,h.2,rfl,rfl⟩,fun e=>by omega,fun e=>by omega,fun e=>by omega,fun e=>by omega,fun _ p hp=> ?_⟩,h.1,h2,trivial⟩;simp only[aCJ,List.mem_nil_iff,or_false] at hp;rcases hp with rfl|rfl
   ·exact DN h.2
   ·simp[eH,nC,kindOf]
  ·exact h
theorem kz{E:Nat->PT×Nat}(he:xV E):xV (oG s T b fun i=>aS (E i)):=fun i=>F6 b he _ _ (Zr b he i)
theorem Ve{one:Nat->PT×Nat}(ho:xV one){ws:List (List UInt8)}{r:PT×Nat}(hw:aW s T ws r.2=true)(h:xM r.1/\bA r.1=true):xM (iA s T b one r).1/\bA (iA s T b one r).1=true:=by
 have h1:=(mV (s:=s) (T:=T) b r.2).thn ho.one;have h2:OkG (r.1::(thn (aK s T b r.2) (fun i=>aS (one i))).1):=(OkG.one h.1 (DN h.2)).app h1;unfold iA;refine⟨?_,rfl⟩;unfold xM;refine⟨⟨fun e=>by omega,fun e=>by omega,fun e=>by omega,fun e=>by omega,fun _=> ?_,fun e=>by omega,fun e=>by omega,fun e=>by omega,fun e=>by omega,fun e=>by omega,fun _=>h2.Zy⟩,h2.grs⟩;obtain⟨w,_,k0,a0,h0⟩:=Ho b hw;refine⟨r.1,.leaf k0 w a0,(one (aK s T b r.2).2).1,?_,h.2,rfl,(ho (aK s T b r.2).2).2⟩;have h3:aI (r.1::(thn (aK s T b r.2) (fun i=>aS (one i))).1)=aI [r.1]++aI (thn (aK s T b r.2) (fun i=>aS (one i))).1:=uF [r.1] _;have h4:aI [r.1]=[r.1]:=kT (r:=r) h.2;rw[h3,h4,eY,h0,kT (ho _).2];rfl
theorem Da{one:Nat->PT×Nat}(ho:xV one)(signs:List (List UInt8)): ∀(f:Nat) (r:PT×Nat),xM r.1/\bA r.1=true->xM (iX s T b one signs f r).1/\bA (iX s T b one signs f r).1=true
 |0,r,h=>h
 |f+1,r,h=>by
  rw[Tr.kU];split
  ·rename_i hw;exact Da ho signs f _ (Ve b ho hw h)
  ·exact h
theorem Qa{one:Nat->PT×Nat}(ho:xV one)(signs:List (List UInt8)):xV (rowP s T b one signs):=fun i=>Da b ho signs _ _ (ho i)
theorem ku{E:Nat->PT×Nat}(he:xV E):xV (jV s T b fun i=>aS (E i)):=fun i=>by
 have hs:xV (BV s T b fun i=>aS (E i)):=Qa b (Qa b (kz b he) _) _;unfold jV;split
 ·rename_i hw;exact Ve b hs hw (hs i)
 ·exact hs i
theorem Ex: ∀f,xV (aU s T b f)
 |0=>fun i=>⟨by unfold aU xM;trivial,by unfold aU;simp[bA]⟩
 |f+1=>fun i=>by
  have OY:=Ex f;have he:=OY.one;have ht:=mV (s:=s) (T:=T) b i;rw[aU];split
  ·rename_i hl;have h:=((((ht.thn (rQ (s:=s) (T:=T) b)).thn (iI (s:=s) (T:=T) b [61])).thn he).thn (iI (s:=s) (T:=T) b O9)).thn he;refine⟨?_,rfl⟩;unfold V4 nC xM;refine⟨⟨fun e=>by omega,fun _=> ?_,fun e=>by omega,fun e=>by omega,fun e=>by omega,fun e=>by omega,fun e=>by omega,fun e=>by omega,fun e=>by omega,fun e=>by omega,fun _=>h.Zy⟩,h.grs⟩;obtain⟨k,a,h0⟩:=lI b hl;obtain⟨x1,h1,hx1⟩:=lH (s:=s) (T:=T) b (aK s T b i).2;obtain⟨x2,h2,hx2⟩:=dO (s:=s) (T:=T) b [61] (thn (aK s T b i) (aQ s T b)).2;obtain⟨x4,h4,hx4⟩:=dO (s:=s) (T:=T) b O9 (thn (thn (thn (aK s T b i) (aQ s T b)) (aN s T b [61])) (fun i=>aS (aU s T b f i))).2;simp only[eY,h0,h1,h2,h4,kT (OY _).2,aCT,aCU];exact⟨_,x1,x2,_,x4,_,rfl,⟨k,a,rfl⟩,hx1,hx2,(OY _).2,hx4,(OY _).2⟩
  split
  ·rename_i hl;have h:=((((ht.thn he).thn (iI (s:=s) (T:=T) b uG)).thn he).thn (iI (s:=s) (T:=T) b wD)).thn he;refine⟨?_,rfl⟩;unfold su nC xM;refine⟨⟨fun e=>by omega,fun e=>by omega,fun _=> ?_,fun e=>by omega,fun e=>by omega,fun e=>by omega,fun e=>by omega,fun e=>by omega,fun e=>by omega,fun e=>by omega,fun _=>h.Zy⟩,h.grs⟩;obtain⟨k,a,h0⟩:=lI b hl;obtain⟨x2,h2,hx2⟩:=dO (s:=s) (T:=T) b uG (thn (aK s T b i) (fun i=>aS (aU s T b f i))).2;obtain⟨x4,h4,hx4⟩:=dO (s:=s) (T:=T) b wD (thn (thn (thn (aK s T b i) (fun i=>aS (aU s T b f i))) (aN s T b uG)) (fun i=>aS (aU s T b f i))).2;simp only[eY,h0,h2,h4,kT (OY _).2,aCT,aCU];exact⟨_,_,x2,_,x4,_,rfl,⟨k,a,rfl⟩,(OY _).2,hx2,(OY _).2,hx4,(OY _).2⟩
  split
  ·rename_i hl;have Sl:Z7 (aS (bB s T b (aK s T b i).2)).1:=⟨QU b _,trivial⟩;refine⟨?_,rfl⟩;unfold o8 nC xM;refine⟨⟨fun e=>by omega,fun e=>by omega,fun e=>by omega,fun _=> ?_,fun e=>by omega,fun e=>by omega,fun e=>by omega,fun e=>by omega,fun e=>by omega,fun e=>by omega,fun e=>absurd rfl e⟩,(DI _).2 fun p hp=> ?_⟩
   ·obtain⟨k,a,h0⟩:=lI b hl;have h1: ∀j,aI (aS (bB s T b j)).1=[(bB s T b j).1]:=fun j=>rfl
    obtain⟨x2,h2,hx2⟩:=dO (s:=s) (T:=T) b [61,62] (thn (aK s T b i) (fun i=>aS (bB s T b i))).2;simp only[eY,h0,h1,h2,kT (OY _).2,aCT,aCU];exact⟨_,_,x2,_,rfl,⟨k,a,rfl⟩,rfl,rfl,hx2,(OY _).2⟩
   ·simp only[thn,aDJ] at hp;rcases hp with ((hp|hp)|hp)|hp
    ·exact(ht p hp).1
    ·exact(DI _).1 Sl p hp
    ·exact(iI (s:=s) (T:=T) b [61,62] _ p hp).1
    ·exact(he _ p hp).1
  ·exact ku b OY i
theorem Zo:Bq (dA s T b):=fun i=>by
 unfold dA;exact(mV (s:=s) (T:=T) b i).ite fun p hp=>absurd hp (by simp)
theorem bg(i:Nat): ∀p∈eZ (gT s T b i).1,xM p:=by
 have h0:=Zo (s:=s) (T:=T) b i;unfold gT;split
 ·show∀p∈(nT s T b (dA s T b i)).1,xM p;unfold nT;have h4:=(((h0.thn (iI (s:=s) (T:=T) b fZ)).thn (rQ (s:=s) (T:=T) b)).thn (iI (s:=s) (T:=T) b [46])).thn (rQ (s:=s) (T:=T) b);have h5:=(h4.thn (mV (s:=s) (T:=T) b)).thn (rQ (s:=s) (T:=T) b);have h6:=(h5.ite (p:=aW s T [wE] (thn (thn (thn (thn (dA s T b i) (aN s T b fZ)) (aQ s T b)) (aN s T b [46])) (aQ s T b)).2) h4).thn (iI (s:=s) (T:=T) b [59]);exact fun p hp=>(h6 p hp).1
 ·show∀p∈(oC s T b (dA s T b i)).1,xM p;unfold oC;have h4:=(h0.thn (iI (s:=s) (T:=T) b iP)).thn (rQ (s:=s) (T:=T) b);have hg4: ∀p∈(thn (thn (dA s T b i) (aN s T b iP)) (aQ s T b)).1,xM p:=fun p hp=>(h4 p hp).1
  intro p hp;dsimp only at hp;have hsplit: ∀(u:St) (f:Nat->St),p∈(thn u f).1->p∈u.1\/p∈(f u.2).1:=fun u f h=>aDJ.1 h
  rcases hsplit _ _ hp with hp|hp
  ·rcases hsplit _ _ hp with hp|hp
   ·rcases hsplit _ _ hp with hp|hp
    ·split at hp
     ·rcases hsplit _ _ hp with hp|hp
      ·exact hg4 p hp
      ·have:p=(bB s T b (thn (thn (dA s T b i) (aN s T b iP)) (aQ s T b)).2).1:=(by simpa [aS] using hp);rw[this];exact QU b _
     ·exact hg4 p hp
    ·exact(iI (s:=s) (T:=T) b [61] _ p hp).1
   ·exact((Ex b 65).one _ p hp).1
  ·exact(iI (s:=s) (T:=T) b [59] _ p hp).1
end
theorem RN{s:List UInt8}{T:List (Nat×Nat×Nat)}: ∀(f i:Nat),∀k∈(Tr.bV s T f i).1,gU k=true->∀p∈eZ k.part,xM p
 |0,i,k,hk,_=>by unfold Tr.bV at hk;exact absurd hk (by simp)
 |f+1,i,k,hk,hi=>by
  unfold Tr.bV at hk;split at hk
  ·rcases aCJ.1 hk with rfl|hk
   ·unfold gU at hi;dsimp only at hi⊢;unfold Tr.dU at hi⊢;split at hi
    ·rename_i h;rw[if_pos h];exact bg (Tr.dD s T i) i
    ·exact absurd hi (by simp[Tr.qQ,nC,kindOf])
   ·exact RN f _ k hk hi
  ·exact absurd hk (by simp)
open Tr (PT)
section
variable{W:Wk}{x:It}{e e1 e2:Env}
theorem iK{p:PT}{l:List PT}(h:isNode p=false):bX W x e1 e2 (p::l)=bX W x e1 e2 l:=by
 have h': ¬((bA p||kindOf p==12)=true):=by unfold isNode at h;rw[h];simp
 rw[bX,if_neg h']
theorem lQ{p:PT}{l:List PT}(h:isNode p=true):bX W x e1 e2 (p::l)=dG W x e1 p++bX W x e2 e2 l:=by
 have h':(bA p||kindOf p==12)=true:=h;rw[bX,if_pos h']
theorem Vd{p:PT}(h:gK p=true):isNode p=false:=by
 cases p with
 |leaf k t a=>rfl
 |gap t a d=>cases h
 |branch k a l=>cases h
theorem sN(e1 e2:Env): ∀l:List PT,bX W x e1 e2 l=bX W x e1 e2 (aI l):=by
 intro l
 induction l generalizing e1 e2 with
 |nil=>rfl
 |cons p l ih=>
  unfold aI;rw[List.filter_cons];cases hb:gK p with
  |true=>rw[iK (Vd hb)];simpa [aI] using ih e1 e2
  |false=>
   simp only[Bool.not_false,if_true];cases hn:isNode p with
   |true=>rw[lQ hn,lQ hn,ih e2 e2];rfl
   |false=>rw[iK hn,iK hn,ih e1 e2];rfl
theorem oV(e:Env): ∀l m:List PT,bX W x e e (l++m)=bX W x e e l++bX W x e e m
 | [],m=>by simp[bX]
 |p::l,m=>by
  rw[aCT];cases hn:isNode p with
  |true=>rw[lQ hn,lQ hn,oV e l m,List.append_assoc]
  |false=>rw[iK hn,iK hn,oV e l m]
def Qo(W:Wk)(x:It)(e:Env)(p:PT):List Us:=if mY p then dG W x e p else []
theorem Gl(e:Env){p:PT}(h6:kindOf p≠6):bX W x e e [p]=Qo W x e p:=by
 unfold Qo;cases p with
 |leaf k t a=>rw[iK rfl];simp[bX,mY]
 |gap t a d=>
  cases hn:isNode (.gap t a d)with
  |true=>rw[lQ hn];simp[bX,dG,mY]
  |false=>rw[iK hn];simp[bX,mY]
 |branch k a l=>
  have h6:k≠6:=h6;have hn:isNode (.branch k a l)=true:=by
   unfold isNode bA kindOf
   by_cases h12:k=12
   ·simp[h12]
   ·simp[h6,h12]
  rw[lQ hn];simp[bX,mY]
theorem M5(e:Env)(l:List PT)(i:Nat)(h:i<l.length)(h6:kindOf l[i]≠6):bX W x e e (l.take (i+1))=bX W x e e (l.take i)++Qo W x e l[i]:=by
 rw[aCP h,oV,Gl e h6]
theorem VG{p:PT}(h:bA p=true):isNode p=true:=by unfold isNode;rw[h];rfl
theorem wJ.leaf {w:List UInt8}{p:PT}(h:wJ w p):isNode p=false:=by
 obtain⟨k,a,rfl⟩:=h;rfl
theorem TI{p:PT}(h7:kindOf p≠7)(h9:kindOf p≠9)(h18:kindOf p≠18):visitM W x e p=[]:=by
 unfold visitM;rw[if_neg h7,if_neg h9,if_neg h18]
theorem Om{a:Nat}{l:List PT}{x0 x1 x2 y x4 y2:PT}(hs:aI l=[x0,x1,x2,y,x4,y2])(h0:wJ Tr.tQ x0)(h1:qL x1)(h2:oI [61] x2)(h3:TC y)(h4:oI Tr.O9 x4)(h5:TC y2):
  dG W x e (.branch 7 a l)=(eD x.base x1).toList.map (fun w=>dM x.file w.at_ 2 false)++dG W x e y++dG W x (match eD x.base x1 with|some w=>(w.text,w.at_)::e|none=>e) y2:=by
 have hv:visitM W x e (.branch 7 a l)=(eD x.base x1).toList.map (fun w=>dM x.file w.at_ 2 false):=by have hL:UO x.base (.branch 7 a l)=eD x.base x1:=(by show eD x.base (mP (aI l) 1)=_;rw[hs];rfl);unfold visitM;rw[show kindOf (.branch 7 a l)=7 from rfl,if_pos rfl,hL]
 have h_1:zF x e (.branch 7 a l)=e:=rfl;have h_2:uQ x e (.branch 7 a l)=(match eD x.base x1 with|some w=>(w.text,w.at_)::e|none=>e):=by have hL:UO x.base (.branch 7 a l)=eD x.base x1:=(by show eD x.base (mP (aI l) 1)=_;rw[hs];rfl);unfold uQ;rw[show kindOf (.branch 7 a l)=7 from rfl,if_neg (by omega),if_pos rfl,hL];cases eD x.base x1<;>rfl
 rw[dG,hv,h_1,h_2,sN,hs,iK h0.leaf,iK h1.plain.1,iK (h2.plain (by decide)).1,lQ (VG h3),iK (h4.plain (by decide)).1,lQ (VG h5)];simp[bX]
theorem JW{a:Nat}{l:List PT}{x0 p x2 y:PT}(hs:aI l=[x0,p,x2,y])(h0:wJ Tr.wZ x0)(h1:kindOf p=6)(h2:oI [61,62] x2)(h3:TC y):
  dG W x e (.branch 9 a l)=aY x.file [] (bE x.base p)++dG W x (dS (bE x.base p) e) y:=by
 have hp:mP (dP (.branch 9 a l)) 1=p:=by show mP (aI l) 1=p;rw[hs];rfl
 have hv:visitM W x e (.branch 9 a l)=aY x.file [] (bE x.base p):=by unfold visitM;rw[show kindOf (.branch 9 a l)=9 from rfl,if_neg (by omega),if_pos rfl,hp]
 have h_1:zF x e (.branch 9 a l)=dS (bE x.base p) e:=by unfold zF;rw[show kindOf (.branch 9 a l)=9 from rfl,if_pos rfl,hp]
 have h_2:uQ x e (.branch 9 a l)=dS (bE x.base p) e:=by unfold uQ;rw[show kindOf (.branch 9 a l)=9 from rfl,if_pos rfl,hp]
 have hn:isNode p=false:=by
  cases p with
  |leaf k t a=>rfl
  |gap t a d=>simp[kindOf] at h1
  |branch k a l=>have h1:k=6:=h1;subst h1;rfl
 rw[dG,hv,h_1,h_2,sN,hs,iK h0.leaf,iK hn,iK (h2.plain (by decide)).1,lQ (VG h3)];simp[bX]
theorem Ol{a:Nat}{bl:List PT}{k:Nat}{t:List UInt8}{a0:Nat}(hb: ∀p∈bl,gK p=true)(hn:gK (.leaf k t a0)=false):
  dG W x e (.branch 18 a (bl++[.leaf k t a0]))=[mQ W x e t a0]:=by
 have hf:aI (bl++[.leaf k t a0])=[.leaf k t a0]:=by
  rw[uF];have h1:aI bl=[]:=by unfold aI;rw[List.filter_eq_nil_iff];intro p hp;rw[hb p hp];simp
  rw[h1];unfold aI;simp[hn]
 have hv:visitM W x e (.branch 18 a (bl++[.leaf k t a0]))=[mQ W x e t a0]:=by have hL:tT (mP (dP (.branch 18 a (bl++[.leaf k t a0]))) 0)=(t,a0):=(by show tT (mP (aI (bl++[.leaf k t a0])) 0)=(t,a0);rw[hf];rfl);unfold visitM;rw[show kindOf (.branch 18 a (bl++[.leaf k t a0]))=18 from rfl,if_neg (by omega),if_neg (by omega),if_pos rfl,hL]
 rw[dG,hv,sN,hf,iK rfl];simp[bX]
theorem Gm{k:Nat}{l:List PT}(h7:k≠7)(h9:k≠9)(h18:k≠18):dG W x e (.branch k a l)=bX W x e e (aI l):=by
 have h_1:zF x e (.branch k a l)=e:=by unfold zF;rw[show kindOf (.branch k a l)=k from rfl,if_neg h9]
 have h_2:uQ x e (.branch k a l)=e:=by unfold uQ;rw[show kindOf (.branch k a l)=k from rfl,if_neg h9,if_neg h7]
 rw[dG,TI (p:=.branch k a l) h7 h9 h18,h_1,h_2,sN];rfl
end
end Go.Proofs.YtcjjfeephaddcaaGreatDoor.Sc
