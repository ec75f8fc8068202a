import Derived.Test.YtcjjfeephaddcaaGreatDoorJaj
import Derived.Maps.OwnSet
import Derived.DeepKeys4
set_option linter.all false
open Go.Exit renaming inBlock->aES
open Go.Instr renaming typeAssert->aEL
open Go.IntKind renaming i64->aCQ
open Go.IntWalk renaming i64_in->aCV
open Go.Proofs.Tryz renaming prog->aBS
open Go.RowKit.Below renaming refl->aBU
open Go.Value renaming oneCell'->aCA
open Go.World renaming setCell->aCI,ownsRow_nil->aCW,block_lt_of_cell?->aDA,size_alloc->aDD
open List renaming length_append->aBW,length_cons->aCC,take_succ_eq_append_getElem->aCP,length_take->aCY,take_length->aDF
open Nat renaming le_refl->aBT,le_trans->aBV,zero_le->aBZ,lt_of_lt_of_le->aCF
set_option maxHeartbeats 64000000
set_option maxRecDepth 100000
open Go.Proofs.Tryz
namespace Go.Proofs.YtcjjfeephaddcaaGreatDoor
open Go.RowKit
variable{w w':World}{F F':Nat->Prop}{x:Option Sc.Wd}{v:Value}{B a b c g k m n q tok:Nat}{l r:List Tr.PT}{e:TypeId}{A:Option Addr}{vs:List Value}{p:Tr.PT}{f:Int}
theorem Sc.D7 (l:List Tr.PT)(i:Nat)(h:i<l.length):Sc.bF (l.take (i+1))=if Sc.bA l[i] then Sc.bF (l.take i)++[l[i]] else Sc.bF (l.take i):=by
 rw[aCP h,Sc.SE];unfold Sc.bF;rw[List.filter_cons,List.filter_nil];cases Sc.bA l[i]<;>simp
theorem Sc.nZ (l:List Tr.PT):(Sc.bF l).length<=l.length:=List.length_filter_le _ _
def Sc.bT (l:List Tr.PT):List (Option (Bs×Nat)):=l.filterMap Sc.oN
theorem Sc.GV (l:List Tr.PT)(i:Nat)(h:i<l.length):Sc.bT (l.take (i+1))=Sc.bT (l.take i)++(Sc.oN l[i]).toList:=by
 rw[aCP h];unfold Sc.bT;rw[List.filterMap_append,List.filterMap_cons,List.filterMap_nil];cases Sc.oN l[i]<;>simp
theorem Sc.lK (l:List Tr.PT):(Sc.bT l).length<=l.length:=List.length_filterMap_le _ _
def xw(w:World)(F:Nat->Prop):Option (Bs×Nat)->Value->Prop
 |none,v=>v=oZZ
 |some x,v=> ∃g,v=pZZ g/\F g/\aV w g 173 #[kZZ ((3:Nat):Int),.string ⟨x.1.toArray⟩,kZZ (x.2:Int)]
def DY(w:World)(F:Nat->Prop):List (Option (Bs×Nat))->List Value->Prop
 | [],vs=>vs=[]
 |x::l,vs=> ∃v vs',vs=v::vs'/\xw w F x v/\DY w F l vs'
theorem xw.below {x:Option (Bs×Nat)}(h:xw w F x v)(hd:Below w.heap.size w w'):xw w' F x v:=by
 cases x with
 |none=>exact h
 |some x=>obtain⟨g,e,hF,hB⟩:=h;exact⟨g,e,hF,hB.below hd hB.lt⟩
theorem DY.below (hd:Below w.heap.size w w'): ∀{l:List (Option (Bs×Nat))} {vs:List Value},DY w F l vs->DY w' F l vs
 | [],_,h=>h
 |x::l,vs,h=>by obtain⟨v,vs',e,hx,hl⟩:=h;exact⟨v,vs',e,hx.below hd,DY.below hd hl⟩
theorem DY.at_ : ∀{l:List (Option (Bs×Nat))} {vs:List Value} {i:Nat},DY w F l vs->∀(h:i<l.length),∃v,vs[i]? =some v/\xw w F l[i] v
 | [],_,_,_,h=>absurd h (by simp)
 |p::l,vs,0,hp,_=>by obtain⟨v,vs',rfl,h,_⟩:=hp;exact⟨v,rfl,h⟩
 |p::l,vs,i+1,hp,h=>by obtain⟨v,vs',rfl,_,hl⟩:=hp;have:=DY.at_ (i:=i) hl (by simpa using h);simpa using this
def aAI(l:List (Option (Bs×Nat)))(w:World)(F:Nat->Prop)(e:Ending)(w':World):Prop:=
 ∃A c vs,e=.returned (.slice A l.length c)/\w'.ownsRow w.heap.size 171 1 (.slice A l.length c) l.length vs/\DY w' F l vs/\Below w.heap.size w w'
theorem DY.snoc {x:Option (Bs×Nat)}(hx:xw w F x v): ∀{l:List (Option (Bs×Nat))} {vs:List Value},DY w F l vs->DY w F (l++[x]) (vs++[v])
 | [],vs,h=>by have:vs=[]:=h;subst this;exact⟨v,[],rfl,hx,rfl⟩
 |y::l,vs,h=>by obtain⟨u,vs',rfl,hy,hl⟩:=h;exact⟨u,vs'++[v],rfl,hy,DY.snoc hx hl⟩
theorem BI(hp:dE w F (.branch k a l) (.iface 114 (pZZ q)))(hl:l.length<=1000000000):
  Calls aBS 142 #[pZZ q] w (Bp (Sc.bF l) w F):=by
 obtain⟨i0,ji,iW,jz1,iV⟩:=info_parts VS;obtain⟨q',e,_,A,c,vs,hB,hc,hrow,hps⟩:=hp;injection e with _ e;injection e with e;injection e with e;injection e with e;subst e;have b1:=hB.cell 1;simp at b1;have Hl:=aB hl;clear hl hc
 go_enter func142,ntmps142
 go_wp2_with fail
 go_loopg [3,13] l.length (fun m v u wr=> ∃(i:Nat) (Ao:Option Addr) (co:Nat) (pW:List Value),v=.slice Ao (Sc.bF (l.take i)).length co/\u=vZZ i/\i<=l.length/\l.length-i<=m/\wr.ownsRow w.heap.size 122 1 (.slice Ao (Sc.bF (l.take i)).length co) (Sc.bF (l.take i)).length pW/\eF w F (Sc.bF (l.take i)) pW/\Below w.heap.size w wr)
 case atStart=>exact⟨0,none,0,[],rfl,rfl,aBZ _,aBT _,aCW _ _ _ _,rfl,aBU _ _⟩
 case round=>
  clear b1;obtain⟨i,Ao,co,pW,rfl,rfl,hi,hm,hown,hos,hd⟩:=hrel
  by_cases hlt:i<l.length
  ·have GZ:=iZ i;have EB:=jJ i l.length;obtain⟨v,hv,hpv⟩:=hps.at_ hlt;obtain⟨br,o,rfl,FP,hbl,hcc⟩:=hrow (by have:=hps.len;omega);have hcell:=hcc _ _ hv;have q0:=(hd.cell (p:=⟨br,o+i,none⟩) hbl).trans hcell;have HT:=aB (Sc.D7 l i hlt);have Hn:aC ((Sc.bF (l.take i)).length<=1000000000):=(by have h1:=Sc.nZ (l.take i);rw[aCY] at h1;have:=Hl.o;show _<=_;omega);have c1:=uX i (by have:=Hl.o;omega);generalize l[i]=p at *;generalize hst:Sc.bF (l.take i)=st at *;have bZ:=aB hlt;have Hm:=aB hm;have hsz:=hd.size;have uT:=aB hsz;clear hst hv hcc hcell hbl hlt hm hi FP hsz;cases p with
   |leaf k t a=>
    obtain⟨g,rfl,_,hgB⟩:=hpv;have has:=fun w=>IM ⟨g,0,none⟩ w
    have aAd:=fun w=>rW ⟨g,0,none⟩ w
    clear hgB;have HT:aC (Sc.bF (l.take (i+1))=st):=HT;go_wp2_with fail
    go_roundg (l.length-(i+1))
    case rel=>exact⟨i+1,Ao,co,pW,by rw[HT.o],by go_num,by have:=bZ.o;omega,aBT _,by rw[HT.o];exact hown,by rw[HT.o];exact hos,hd⟩
    case measure=>have:=bZ.o;have:=Hm.o;omega
   |gap t a d=>
    have vO:=hpv;obtain⟨g,rfl,_,hgB⟩:=hpv;have k0:=(hgB.below hd hgB.lt).cell 0;simp at k0;have has:=fun w=>NW ⟨g,0,none⟩ w
    clear hgB;have HT:aC (Sc.bF (l.take (i+1))=if t==Tr.jN then st++[.gap t a d] else st):=HT
    by_cases ht:t=Tr.jN
    ·subst ht;have HT:aC (Sc.bF (l.take (i+1))=st++[.gap Tr.jN a d]):=(by show _=_;rw[HT.o];simp);unfold Tr.jN at k0;go_wp2_with (at_builtin;refine dF _ rfl _ _ 119 rfl w.heap.size 122 1 16 underlying119 ji iW jz1 iV rfl (by omega) rfl hown #[.iface 176 (pZZ g)] rfl rfl (by simp[aCA]) Hn.o (by omega) uT.o ?_;intro A' c' w2 hown2 hd2 _);have nX:=hos.snoc vO
     go_roundg (l.length-(i+1))
     case rel=>exact⟨i+1,A',c',_,by rw[HT.o,aBW];rfl,by go_num,by have:=bZ.o;omega,aBT _,by rw[HT.o,aBW];exact hown2,by rw[HT.o];exact nX,hd.trans hd2⟩
     case measure=>have:=bZ.o;have:=Hm.o;omega
    ·have HT:aC (Sc.bF (l.take (i+1))=st):=(by show _=_;rw[HT.o];simp[ht]);have nt:(t==Tr.jN)=false:=(by simp[ht]);unfold Tr.jN at nt;clear ht vO;go_wp2_with fail
     go_roundg (l.length-(i+1))
     case rel=>exact⟨i+1,Ao,co,pW,by rw[HT.o],by go_num,by have:=bZ.o;omega,aBT _,by rw[HT.o];exact hown,by rw[HT.o];exact hos,hd⟩
     case measure=>have:=bZ.o;have:=Hm.o;omega
   |branch k a m=>
    have vO:=hpv;obtain⟨g,rfl,_,Am,cm,vm,hgB,_⟩:=hpv;have k0:=(hgB.below hd hgB.lt).cell 0;simp at k0;have has:=fun w=>zR ⟨g,0,none⟩ w
    have aAd:=fun w=>jW ⟨g,0,none⟩ w
    clear hgB;have HT:aC (Sc.bF (l.take (i+1))=if k !=6&&k !=12 then st++[.branch k a m] else st):=HT
    by_cases h6:k=6
    ·subst h6;have HT:aC (Sc.bF (l.take (i+1))=st):=HT;clear vO;go_wp2_with fail
     go_roundg (l.length-(i+1))
     case rel=>exact⟨i+1,Ao,co,pW,by rw[HT.o],by go_num,by have:=bZ.o;omega,aBT _,by rw[HT.o];exact hown,by rw[HT.o];exact hos,hd⟩
     case measure=>have:=bZ.o;have:=Hm.o;omega
    by_cases h12:k=12
    ·subst h12;have HT:aC (Sc.bF (l.take (i+1))=st):=HT;clear vO;go_wp2_with fail
     go_roundg (l.length-(i+1))
     case rel=>exact⟨i+1,Ao,co,pW,by rw[HT.o],by go_num,by have:=bZ.o;omega,aBT _,by rw[HT.o];exact hown,by rw[HT.o];exact hos,hd⟩
     case measure=>have:=bZ.o;have:=Hm.o;omega
    have HT:aC (Sc.bF (l.take (i+1))=st++[.branch k a m]):=(by show _=_;rw[HT.o,if_pos (by simp[h6,h12])]);have n6:((k:Int) !=6)=true:=(by simp;omega);have n12:((k:Int) !=12)=true:=(by simp;omega);clear h6 h12;go_wp2_with (at_builtin;refine dF _ rfl _ _ 119 rfl w.heap.size 122 1 16 underlying119 ji iW jz1 iV rfl (by omega) rfl hown #[.iface 114 (pZZ g)] rfl rfl (by simp[aCA]) Hn.o (by omega) uT.o ?_;intro A' c' w2 hown2 hd2 _);have nX:=hos.snoc vO
    go_roundg (l.length-(i+1))
    case rel=>exact⟨i+1,A',c',_,by rw[HT.o,aBW];rfl,by go_num,by have:=bZ.o;omega,aBT _,by rw[HT.o,aBW];exact hown2,by rw[HT.o];exact nX,hd.trans hd2⟩
    case measure=>have:=bZ.o;have:=Hm.o;omega
  ·obtain rfl:i=l.length:=(by omega);have i1:=lC l.length;have i2:=kZ l.length;rw[aDF] at hown hos⊢;generalize hst:Sc.bF l=st at *;clear hlt hi hm;go_wp2_with fail;go_ret;exact⟨Ao,co,pW,rfl,hown,hos.below hd,hd⟩
theorem LA(hp:dE w F (.branch k a l) (.iface 114 (pZZ q)))(hl:l.length<=1000000000):
  Calls aBS 165 #[pZZ q] w (aAI (Sc.bT l) w F):=by
 obtain⟨i0,ji,iW,jz1,iV⟩:=info_parts Vi;obtain⟨q',e,_,A,c,vs,hB,hc,hrow,hps⟩:=hp;injection e with _ e;injection e with e;injection e with e;injection e with e;subst e;have b1:=hB.cell 1;simp at b1;have Hl:=aB hl;clear hl hc
 go_enter func165,ntmps165
 go_wp2_with fail
 go_loopg [3,13] l.length (fun m v u wr=> ∃(i:Nat) (Ao:Option Addr) (co:Nat) (pW:List Value),v=.slice Ao (Sc.bT (l.take i)).length co/\u=vZZ i/\i<=l.length/\l.length-i<=m/\wr.ownsRow w.heap.size 171 1 (.slice Ao (Sc.bT (l.take i)).length co) (Sc.bT (l.take i)).length pW/\DY w F (Sc.bT (l.take i)) pW/\Below w.heap.size w wr)
 case atStart=>exact⟨0,none,0,[],rfl,rfl,aBZ _,aBT _,aCW _ _ _ _,rfl,aBU _ _⟩
 case round=>
  clear b1;obtain⟨i,Ao,co,pW,rfl,rfl,hi,hm,hown,hos,hd⟩:=hrel
  by_cases hlt:i<l.length
  ·have GZ:=iZ i;have EB:=jJ i l.length;obtain⟨v,hv,hpv⟩:=hps.at_ hlt;obtain⟨br,o,rfl,FP,hbl,hcc⟩:=hrow (by have:=hps.len;omega);have hcell:=hcc _ _ hv;have q0:=(hd.cell (p:=⟨br,o+i,none⟩) hbl).trans hcell;have HT:=aB (Sc.GV l i hlt);have Hn:aC ((Sc.bT (l.take i)).length<=1000000000):=(by have h1:=Sc.lK (l.take i);rw[aCY] at h1;have:=Hl.o;show _<=_;omega);have c1:=uX i (by have:=Hl.o;omega);generalize l[i]=p at *;generalize hst:Sc.bT (l.take i)=st at *;have bZ:=aB hlt;have Hm:=aB hm;have hsz:=hd.size;have uT:=aB hsz;clear hst hv hcc hcell hbl hlt hm hi FP hsz;cases p with
   |leaf k t a=>
    obtain⟨g,rfl,hFg,hgB⟩:=hpv;have k0:=(hgB.below hd hgB.lt).cell 0;simp at k0;have has:=fun w=>IM ⟨g,0,none⟩ w
    have aAd:=fun w=>qZ ⟨g,0,none⟩ w
    have HT:aC (Sc.bT (l.take (i+1))=st++(Sc.oN (.leaf k t a)).toList):=HT
    by_cases h3:k=3
    ·subst h3;have HT:aC (Sc.bT (l.take (i+1))=st++[some (t,a)]):=(by show _=_;rw[HT.o];rfl);have vO:xw w F (some (t,a)) (pZZ g):=⟨g,rfl,hFg,hgB⟩;clear hgB;go_wp2_with (at_builtin;refine dF _ rfl _ _ 275 rfl w.heap.size 171 1 8 underlying275 ji iW jz1 iV rfl (by omega) rfl hown #[pZZ g] rfl rfl (by simp[aCA]) Hn.o (by omega) uT.o ?_;intro A' c' w2 hown2 hd2 _);have nX:=hos.snoc vO
     go_roundg (l.length-(i+1))
     case rel=>exact⟨i+1,A',c',_,by rw[HT.o,aBW];rfl,by go_num,by have:=bZ.o;omega,aBT _,by rw[HT.o,aBW];exact hown2,by rw[HT.o];exact nX,hd.trans hd2⟩
     case measure=>have:=bZ.o;have:=Hm.o;omega
    ·have HT:aC (Sc.bT (l.take (i+1))=st):=(by show _=_;rw[HT.o];simp[Sc.oN,h3]);have n3:((k:Int)==3)=false:=(by simp;omega);clear h3 hgB;go_wp2_with fail
     go_roundg (l.length-(i+1))
     case rel=>exact⟨i+1,Ao,co,pW,by rw[HT.o],by go_num,by have:=bZ.o;omega,aBT _,by rw[HT.o];exact hown,by rw[HT.o];exact hos,hd⟩
     case measure=>have:=bZ.o;have:=Hm.o;omega
   |gap t a d=>
    obtain⟨g,rfl,_,hgB⟩:=hpv;have k0:=(hgB.below hd hgB.lt).cell 0;simp at k0;have has:=fun w=>NW ⟨g,0,none⟩ w
    clear hgB;have HT:aC (Sc.bT (l.take (i+1))=st++(Sc.oN (.gap t a d)).toList):=HT
    by_cases ht:t=Tr.lY
    ·subst ht;have HT:aC (Sc.bT (l.take (i+1))=st++[none]):=(by show _=_;rw[HT.o];simp[Sc.oN]);unfold Tr.lY at k0;have vO:xw w F none (oZZ):=rfl;go_wp2_with (at_builtin;refine dF _ rfl _ _ 275 rfl w.heap.size 171 1 8 underlying275 ji iW jz1 iV rfl (by omega) rfl hown #[oZZ] rfl rfl (by simp[aCA]) Hn.o (by omega) uT.o ?_;intro A' c' w2 hown2 hd2 _);have nX:=hos.snoc vO
     go_roundg (l.length-(i+1))
     case rel=>exact⟨i+1,A',c',_,by rw[HT.o,aBW];rfl,by go_num,by have:=bZ.o;omega,aBT _,by rw[HT.o,aBW];exact hown2,by rw[HT.o];exact nX,hd.trans hd2⟩
     case measure=>have:=bZ.o;have:=Hm.o;omega
    ·have HT:aC (Sc.bT (l.take (i+1))=st):=(by show _=_;rw[HT.o];simp[Sc.oN,ht]);have nt:(t==Tr.lY)=false:=(by simp[ht]);unfold Tr.lY at nt;clear ht;go_wp2_with fail
     go_roundg (l.length-(i+1))
     case rel=>exact⟨i+1,Ao,co,pW,by rw[HT.o],by go_num,by have:=bZ.o;omega,aBT _,by rw[HT.o];exact hown,by rw[HT.o];exact hos,hd⟩
     case measure=>have:=bZ.o;have:=Hm.o;omega
   |branch k a m=>
    obtain⟨g,rfl,_,Am,cm,vm,hgB,_⟩:=hpv;have has:=fun w=>zR ⟨g,0,none⟩ w
    have aAd:=fun w=>oH ⟨g,0,none⟩ w
    clear hgB;have HT:aC (Sc.bT (l.take (i+1))=st):=(by show _=_;rw[HT.o];simp[Sc.oN]);go_wp2_with fail
    go_roundg (l.length-(i+1))
    case rel=>exact⟨i+1,Ao,co,pW,by rw[HT.o],by go_num,by have:=bZ.o;omega,aBT _,by rw[HT.o];exact hown,by rw[HT.o];exact hos,hd⟩
    case measure=>have:=bZ.o;have:=Hm.o;omega
  ·obtain rfl:i=l.length:=(by omega);have i1:=lC l.length;have i2:=kZ l.length;rw[aDF] at hown hos⊢;generalize hst:Sc.bT l=st at *;clear hlt hi hm;go_wp2_with fail;go_ret;exact⟨Ao,co,pW,rfl,hown,hos.below hd,hd⟩
theorem Vs(a:Addr)(w:World):(aEL (.iface 171 (.pointer (some a))) 122 171 false).run aBS w=.ok (.pointer (some a)) w:=by kernel_rfl
theorem NZ(a:Addr)(w:World):(aEL (.iface 114 (.pointer (some a))) 122 114 false).run aBS w=.ok (.pointer (some a)) w:=by kernel_rfl
theorem pE(h:w.ownsRow B e 1 (.slice A n c) n vs)(hn:0<n): ∃g,A=some ⟨g,0,none⟩/\∀j u,vs[j]? =some u->w.cell? ⟨g,j,none⟩=some u:=by
 obtain⟨_,h2⟩:=Rd.rO h;obtain⟨b,o,rfl,_,hc⟩:=h2 hn;obtain⟨g,cap,hv,_,_⟩:=h.form hn;injection hv with hv;injection hv with hv;injection hv with h1 h2;subst h1 h2;exact⟨b,rfl,fun j u hu=>by have:=hc j u hu;rwa [Nat.zero_add] at this⟩
def Wm(t:Bs)(a:Nat)(w:World)(F:Nat->Prop)(e:Ending)(w':World):Prop:= ∃g k,e=.returned (pZZ g)/\F g/\aV w' g 173 #[kZZ ((k:Nat):Int),.string ⟨t.toArray⟩,vZZ a]/\Below w.heap.size w w'
theorem N8(hp:dE w F (.branch k a l) (.iface 114 (pZZ q)))(hl:l.length<=1000000000){x:Tr.PT}(hx:Sc.aI l=x::r)(hx0:Sc.xD x=true):
  Calls aBS 217 #[pZZ q] w (Wm (Sc.tT x).1 (Sc.tT x).2 w F):=by
 have hs:=rH hp hl;rw[hx] at hs;clear hx hp;cases x with
 |gap t a d=>cases hx0
 |branch k a l=>cases hx0
 |leaf k t a=>
 go_enter func217,ntmps217
 go_wp2_with fail;refine hs.mono ?_;clear hs;rintro e w1 ⟨A,c,vs,rfl,hown,hps,hd⟩;obtain⟨v,vs',rfl,hp,_⟩:=hps;obtain⟨g,rfl,hF,hB⟩:=hp;obtain⟨r0,rfl,hc⟩:=pE hown (by simp);have q0:=hc 0 _ rfl;have has:=fun w=>Vs ⟨g,0,none⟩ w
 clear hc hown;go_wp2_with fail;go_ret;exact⟨g,k,rfl,hF,hB,hd⟩
def aBR(p:Tr.PT)(w:World)(F:Nat->Prop)(e:Ending)(w':World):Prop:= ∃g,e=.returned (pZZ g)/\dE w' F p (.iface 114 (pZZ g))/\Below w.heap.size w w'
theorem BS(hp:dE w F (.branch k a l) (.iface 114 (pZZ q)))(hl:l.length<=1000000000){x y:Tr.PT}(hx:Sc.aI l=x::y::r)(hy:Sc.mY y=true):
  Calls aBS 215 #[pZZ q] w (aBR y w F):=by
 have hs:=rH hp hl;rw[hx] at hs;clear hx hp;cases y with
 |gap t a d=>cases hy
 |leaf k t a=>cases hy
 |branch k a l=>
 go_enter func215,ntmps215
 go_wp2_with fail;refine hs.mono ?_;clear hs;rintro e w1 ⟨A,c,vs,rfl,hown,hps,hd⟩;obtain⟨v,vs',rfl,_,v2,vs2,rfl,hp,_⟩:=hps;have hp0:=hp;obtain⟨g,rfl,_⟩:=hp0;obtain⟨r0,rfl,hc⟩:=pE hown (by simp);have q0:=hc 1 _ rfl;have has:=fun w=>NZ ⟨g,0,none⟩ w
 have i0:(1:Int)<((r.length+1+1:Nat):Int):=by omega
 have i1:1<r.length+1+1:=by omega
 simp only[aCC];clear hc hown;go_wp2_with fail;go_ret;exact⟨g,rfl,hp,hd⟩
theorem Mi(hp:dE w F (.branch k a l) (.iface 114 (pZZ q)))(hl:l.length<=1000000000){x:Tr.PT}{k2 a2:Nat}{m:List Tr.PT}(hx:Sc.aI l=x:: .branch k2 a2 m::r)(hm:m.length<=1000000000):
  Calls aBS 144 #[pZZ q] w (Bp (Sc.bF m) w F):=by
 have hs:=rH hp hl;rw[hx] at hs;clear hx hp
 go_enter func144,ntmps144
 go_wp2_with fail;refine hs.mono ?_;clear hs;rintro e w1 ⟨A,c,vs,rfl,hown,hps,hd⟩;obtain⟨v,vs',rfl,_,v2,vs2,rfl,hp,_⟩:=hps;have hp0:=hp;obtain⟨g,rfl,_⟩:=hp0;obtain⟨r0,rfl,hc⟩:=pE hown (by simp);have q0:=hc 1 _ rfl;have has:=fun w=>NZ ⟨g,0,none⟩ w
 have hcl:=BI hp hm;have hsz:=hd.size;have uT:=aB hsz;have i0:(1:Int)<((r.length+1+1:Nat):Int):=by omega
 have i1:1<r.length+1+1:=by omega
 simp only[aCC];clear hc hown hsz;go_wp2_with fail;refine hcl.mono ?_;clear hcl q0;rintro e w2 ⟨A2,c2,vs2,rfl,hown2,vN,hd2⟩;go_wp2_with fail;go_ret;exact⟨A2,c2,vs2,rfl,KW hown2 uT.o,vN,hd.trans (hd2.mono uT.o)⟩
def LetE(p:Tr.PT)(w:World)(F:Nat->Prop)(e:Ending)(w':World):Prop:=
 Below w.heap.size w w'/\match p with
  | .leaf k t a=> ∃g,e=.returned (pZZ g)/\F g/\aV w' g 173 #[kZZ ((k:Nat):Int),.string ⟨t.toArray⟩,vZZ a]
  |_=>e=.returned (oZZ)
theorem YP(hp:dE w F (.branch k a l) (.iface 114 (pZZ q)))(hl:l.length<=1000000000){x y:Tr.PT}(hx:Sc.aI l=x::y::r):
  Calls aBS 213 #[pZZ q] w (LetE y w F):=by
 have hs:=rH hp hl;rw[hx] at hs;clear hx hp
 go_enter func213,ntmps213
 go_wp2_with fail;refine hs.mono ?_;clear hs;rintro e w1 ⟨A,c,vs,rfl,hown,hps,hd⟩;obtain⟨v,vs',rfl,_,v2,vs2,rfl,hp,_⟩:=hps;obtain⟨r0,rfl,hc⟩:=pE hown (by simp);have q0:=hc 1 _ rfl;have i0:(1:Int)<((r.length+1+1:Nat):Int):=by omega
 have i1:1<r.length+1+1:=by omega
 simp only[aCC];clear hc hown;cases y with
 |leaf k t a=>
  obtain⟨g,rfl,hF,hB⟩:=hp;have has:=fun w=>qZ ⟨g,0,none⟩ w
  go_wp2_with fail;go_ret;exact⟨hd,g,rfl,hF,hB⟩
 |gap t a d=>
  obtain⟨g,rfl,hF,hB⟩:=hp;have has:=fun w=>xS ⟨g,0,none⟩ w
  clear hB;go_wp2_with fail;go_ret;exact⟨hd,rfl⟩
 |branch k a l=>
  obtain⟨g,rfl,hF,hB⟩:=hp;have has:=fun w=>oH ⟨g,0,none⟩ w
  clear hB;go_wp2_with fail;go_ret;exact⟨hd,rfl⟩
def wI(w:World)(F:Nat->Prop):Option Sc.Wd->Value->Prop
 |none,v=>v=oZZ
 |some x,v=> ∃g,v=pZZ g/\F g/\aV w g 237 #[.string ⟨x.text.toArray⟩,kZZ (x.at_:Int)]
def jX(w:World)(F:Nat->Prop):List (Option Sc.Wd)->List Value->Prop
 | [],vs=>vs=[]
 |x::l,vs=> ∃v vs',vs=v::vs'/\wI w F x v/\jX w F l vs'
section
variable{w w':World}{F F':Nat->Prop}
theorem wI.keep (hk: ∀b,F b->b<w.heap.size->w'.heap[b]? =w.heap[b]? /\F' b)(h:wI w F x v):wI w' F' x v:=by
 cases x with
 |none=>exact h
 |some x=>obtain⟨g,e,hF,hB⟩:=h;have:=hk g hF hB.lt;exact⟨g,e,this.2,this.1.trans hB⟩
theorem wI.below (h:wI w F x v)(hd:Below w.heap.size w w'):wI w' F x v:=h.keep fun b hF hl=>⟨hd.block b hl,hF⟩
theorem wI.ptr (h:wI w F x v): ∃p,v=.pointer p:=by
 cases x with
 |none=>exact⟨none,h⟩
 |some x=>obtain⟨g,e,_⟩:=h;exact⟨_,e⟩
theorem jX.keep (hk: ∀b,F b->b<w.heap.size->w'.heap[b]? =w.heap[b]? /\F' b): ∀{l:List (Option Sc.Wd)} {vs:List Value},jX w F l vs->jX w' F' l vs
 | [],_,h=>h
 |x::l,vs,h=>by obtain⟨v,vs',e,hx,hl⟩:=h;exact⟨v,vs',e,hx.keep hk,jX.keep hk hl⟩
theorem jX.below {l:List (Option Sc.Wd)}(h:jX w F l vs)(hd:Below w.heap.size w w'):jX w' F l vs:=h.keep fun b hF hl=>⟨hd.block b hl,hF⟩
theorem jX.at_: ∀{l:List (Option Sc.Wd)} {vs:List Value} {i:Nat},jX w F l vs->∀(h:i<l.length),∃v,vs[i]? =some v/\wI w F l[i] v
 | [],_,_,_,h=>absurd h (by simp)
 |p::l,vs,0,hp,_=>by obtain⟨v,vs',rfl,h,_⟩:=hp;exact⟨v,rfl,h⟩
 |p::l,vs,i+1,hp,h=>by obtain⟨v,vs',rfl,_,hl⟩:=hp;have:=jX.at_ (i:=i) hl (by simpa using h);simpa using this
theorem jX.snoc (hx:wI w F x v): ∀{l:List (Option Sc.Wd)} {vs:List Value},jX w F l vs->jX w F (l++[x]) (vs++[v])
 | [],vs,h=>by have:vs=[]:=h;subst this;exact⟨v,[],rfl,hx,rfl⟩
 |y::l,vs,h=>by obtain⟨u,vs',rfl,hy,hl⟩:=h;exact⟨u,vs'++[v],rfl,hy,jX.snoc hx hl⟩
theorem jX.len: ∀{l:List (Option Sc.Wd)} {vs:List Value},jX w F l vs->vs.length=l.length
 | [],vs,h=>by have:vs=[]:=h;subst this;rfl
 |p::l,vs,h=>by obtain⟨v,vs',rfl,_,hl⟩:=h;rw[aCC,aCC,jX.len hl]
end
def aBE(x:Option Sc.Wd)(w:World)(e:Ending)(w':World):Prop:= ∃u,e=.returned u/\wI w' (fun b=>w.heap.size<=b) x u/\Below w.heap.size w w'
theorem vC{kb:Nat}(hp:dE w F p v)(hk:w.cell? ⟨kb,1,none⟩=some (vZZ b))(hl: ∀k t a,p=.leaf k t a->b+a<=1000000000):
  Calls aBS 164 #[v,pZZ kb] w (aBE (Sc.eD b p) w):=by
 cases p with
 |leaf k t a=>
  obtain⟨g,rfl,hF,hB⟩:=hp;have has:=fun w=>qZ ⟨g,0,none⟩ w
  have b1:=hB.cell 1;have b2:=hB.cell 2;simp at b1 b2;have c1:aCQ.wrap ((b:Int)+(a:Int))=(b:Int)+(a:Int):=aCV _ (by have:=hl k t a rfl;omega);have HP:aC (Sc.eD b (.leaf k t a)=some ⟨t,b+a⟩):=rfl;have hnew:aV (w.drew.alloc (.cells #[.string ⟨t.toArray⟩,kZZ ((b:Int)+(a:Int))] 237)) w.heap.size 237 #[.string ⟨t.toArray⟩,kZZ ((b:Int)+(a:Int))]:=aV.new w.drew _ _;have hd:Below w.heap.size w (w.drew.alloc (.cells #[.string ⟨t.toArray⟩,kZZ ((b:Int)+(a:Int))] 237)):=(aBU _ _).drew.alloc (aBT _) _;clear hB hl
  go_enter func164,ntmps164
  go_wp2_with fail
  go_still_tail 12,(by kernel_rfl)
  go_wp2_with fail;go_ret;rw[HP.o];exact⟨_,rfl,⟨_,rfl,aBT _,by rw[Int.natCast_add];exact hnew⟩,hd⟩
 |gap t a d=>
  obtain⟨g,rfl,hF,hB⟩:=hp;have has:=fun w=>xS ⟨g,0,none⟩ w
  clear hB hk
  go_enter func164,ntmps164
  go_wp2_with fail;go_ret;exact⟨_,rfl,rfl,aBU _ _⟩
 |branch k a l=>
  obtain⟨g,rfl,hF,hB⟩:=hp;have has:=fun w=>oH ⟨g,0,none⟩ w
  clear hB hk
  go_enter func164,ntmps164
  go_wp2_with fail;go_ret;exact⟨_,rfl,rfl,aBU _ _⟩
def xN(b:Nat)(p:Tr.PT):Int:=if Tr.AB p<0 then-1 else(b:Int)+Tr.AB p
theorem MW(h:Tr.QX b p a):(Tr.gF p a).from_=xN b p:=by
 have h1:=Tr.QG p a h;unfold xN Tr.AB;rcases h1 with ⟨h2,h3⟩|⟨h2,h3⟩
 ·rw[if_pos (by omega),h3]
 ·rw[if_neg (by omega),h3]
def Qc(w:World)(g k tok:Nat)(t:Bs)(A:Option Addr)(m c:Nat)(f:Int):Prop:= ∃a e u d,aV w g 93 (sK k tok t A m c a e f u d)
mutual
def nK(w:World)(F:Nat->Prop)(b:Nat):Tr.PT->Value->Prop
 | .leaf k t x,v=> ∃g,v=pZZ g/\F g/\Qc w g 0 k t none 0 0 (xN b (.leaf k t x))
 | .gap t x d,v=> ∃g,v=pZZ g/\F g/\Qc w g 1 0 t none 0 0 (xN b (.gap t x d))
 | .branch k x l,v=> ∃g,v=pZZ g/\F g/\∃A c vs,Qc w g k 0 [] A l.length c (xN b (.branch k x l))/\l.length<=c/\fP w F A vs/\jY w F b l vs
def jY(w:World)(F:Nat->Prop)(b:Nat):List Tr.PT->List Value->Prop
 | [],vs=>vs=[]
 |p::l,vs=> ∃v vs',vs=v::vs'/\nK w F b p v/\jY w F b l vs'
end
theorem Qc.keep {t:Bs}(h:Qc w g k tok t A m c f)(hg:w'.heap[g]? =w.heap[g]?):Qc w' g k tok t A m c f:=by
 obtain⟨a,e,u,d,hB⟩:=h;exact⟨a,e,u,d,hg.trans hB⟩
theorem Qc.lt {t:Bs}(h:Qc w g k tok t A m c f):g<w.heap.size:=by
 obtain⟨a,e,u,d,hB⟩:=h;exact hB.lt
theorem Qc.cells {t:Bs}(h:Qc w g k tok t A m c f):
  w.cell? ⟨g,0,none⟩=some (vZZ k)/\w.cell? ⟨g,1,none⟩=some (vZZ tok)/\w.cell? ⟨g,2,none⟩=some (.string ⟨t.toArray⟩)/\w.cell? ⟨g,3,none⟩=some (.slice A m c)/\w.cell? ⟨g,6,none⟩=some (kZZ f):=by
 obtain⟨a,e,u,d,hB⟩:=h;exact⟨hB.cell 0,hB.cell 1,hB.cell 2,hB.cell 3,hB.cell 6⟩
mutual
theorem nK.keep {w w':World}{F F':Nat->Prop}{b:Nat}(hs:w.heap.size<=w'.heap.size)(hk: ∀x,F x->x<w.heap.size->w'.heap[x]? =w.heap[x]? /\F' x): ∀(p:Tr.PT) (v:Value),nK w F b p v->nK w' F' b p v
 | .leaf k t x,v,h=>by obtain⟨g,e,hF,hB⟩:=h;have:=hk g hF hB.lt;exact⟨g,e,this.2,hB.keep this.1⟩
 | .gap t x d,v,h=>by obtain⟨g,e,hF,hB⟩:=h;have:=hk g hF hB.lt;exact⟨g,e,this.2,hB.keep this.1⟩
 | .branch k x l,v,h=>by obtain⟨g,e,hF,A,c,vs,hB,hc,hr,hl⟩:=h;have:=hk g hF hB.lt;exact⟨g,e,this.2,A,c,vs,hB.keep this.1,hc,hr.keep hs hk,jY.keep hs hk l vs hl⟩
theorem jY.keep {w w':World}{F F':Nat->Prop}{b:Nat}(hs:w.heap.size<=w'.heap.size)(hk: ∀x,F x->x<w.heap.size->w'.heap[x]? =w.heap[x]? /\F' x): ∀(l:List Tr.PT) (vs:List Value),jY w F b l vs->jY w' F' b l vs
 | [],_,h=>h
 |p::l,vs,h=>by obtain⟨v,vs',e,hp,hl⟩:=h;exact⟨v,vs',e,nK.keep hs hk p v hp,jY.keep hs hk l vs' hl⟩
end
section
variable{w w':World}{F:Nat->Prop}{b:Nat}
theorem nK.below (h:nK w F b p v)(hd:Below w.heap.size w w'):nK w' F b p v:=nK.keep hd.size (fun x hF hl=>⟨hd.block x hl,hF⟩) _ _ h
theorem jY.below (h:jY w F b l vs)(hd:Below w.heap.size w w'):jY w' F b l vs:=jY.keep hd.size (fun x hF hl=>⟨hd.block x hl,hF⟩) _ _ h
theorem jY.len: ∀{l:List Tr.PT} {vs:List Value},jY w F b l vs->vs.length=l.length
 | [],_,h=>by rw[show _=[] from h];rfl
 |p::l,_,h=>by obtain⟨v,vs',rfl,_,hl⟩:=h;rw[aCC,aCC,jY.len hl]
theorem jY.at_: ∀{l:List Tr.PT} {vs:List Value} {i:Nat},jY w F b l vs->∀(h:i<l.length),∃v,vs[i]? =some v/\nK w F b l[i] v
 |p::l,_,0,h,_=>by obtain⟨v,vs',rfl,hp,_⟩:=h;exact⟨v,rfl,hp⟩
 |p::l,_,i+1,h,hi=>by obtain⟨v,vs',rfl,_,hl⟩:=h;exact hl.at_ (by simpa using hi)
theorem jY.snoc: ∀{l:List Tr.PT} {vs:List Value} {p:Tr.PT} {v:Value},jY w F b l vs->nK w F b p v->jY w F b (l++[p]) (vs++[v])
 | [],vs,p,v,h,hp=>by obtain rfl:vs=[]:=h;exact⟨v,[],rfl,hp,rfl⟩
 |q::l,vs,p,v,h,hp=>by obtain⟨u,vs',rfl,hq,hl⟩:=h;exact⟨u,vs'++[v],rfl,hq,hl.snoc hp⟩
theorem nK.form: ∀{p:Tr.PT} {v:Value},nK w F b p v->∃q,v=pZZ q
 | .leaf _ _ _,_,h=>by obtain⟨g,e,_⟩:=h;exact⟨g,e⟩
 | .gap _ _ _,_,h=>by obtain⟨g,e,_⟩:=h;exact⟨g,e⟩
 | .branch _ _ _,_,h=>by obtain⟨g,e,_⟩:=h;exact⟨g,e⟩
end
mutual
theorem nK.YI {w:World}{F:Nat->Prop}{b:Nat}: ∀(p:Tr.PT) (a:Nat) (fp:List Nat) (v:Value),EE w F p a fp v->Tr.QX b p a->nK w F b p v
 | .leaf k t x,a,fp,v,h,ho=>by obtain⟨g,e,_,hF,hB⟩:=h;unfold IV at hB;rw[MW ho] at hB;exact⟨g,e,hF,_,_,_,_,hB⟩
 | .gap t x d,a,fp,v,h,ho=>by obtain⟨g,e,_,hF,hB⟩:=h;unfold IV at hB;rw[MW ho] at hB;exact⟨g,e,hF,_,_,_,_,hB⟩
 | .branch k x l,a,fp,v,h,ho=>by obtain⟨g,dB,e,_,hF,A,c,vs,hB,hc,hr,hl⟩:=h;unfold IV at hB;rw[MW ho] at hB;have ho2:=ho;unfold Tr.QX at ho2;exact⟨g,e,hF,A,c,vs,⟨_,_,_,_,hB⟩,hc,hr,jY.YI l a dB vs hl ho2.2.1⟩
theorem jY.YI {w:World}{F:Nat->Prop}{b:Nat}: ∀(l:List Tr.PT) (a:Nat) (dB:List Nat) (vs:List Value),jZ w F l a dB vs->Tr.AR b l a->jY w F b l vs
 | [],_,_,_,h,_=>h.2
 |p::l,a,dB,vs,h,ho=>by obtain⟨fp,kP,v,vs',_,e,hp,hl⟩:=h;unfold Tr.AR at ho;exact⟨v,vs',e,nK.YI p a fp v hp ho.1,jY.YI l _ kP vs' hl ho.2⟩
end
theorem Z8{x:Nat}{t:Bs}(h:Sc.gK (.leaf k t x)=false):xN b (.leaf k t x)=((b+x:Nat):Int):=by
 unfold Sc.gK at h;have hk: ¬(k=1\/k=2):=by intro e;rcases e with rfl|rfl<;>simp at h
 have h1:Tr.AB (.leaf k t x)=(x:Int):=by unfold Tr.AB Tr.rF Tr.vZ;simp[hk]
 unfold xN;rw[h1,if_neg (by omega)];omega
def EF(w:World)(F:Nat->Prop):Option Sc.Wd->Value->Prop
 |none,v=>v=oZZ
 |some y,v=> ∃g,v=pZZ g/\F g/\Qc w g 0 3 y.text none 0 0 (y.at_:Int)
def rY(w:World)(F:Nat->Prop):List (Option Sc.Wd)->List Value->Prop
 | [],vs=>vs=[]
 |x::l,vs=> ∃v vs',vs=v::vs'/\EF w F x v/\rY w F l vs'
section
variable{w w':World}{F F':Nat->Prop}
theorem EF.keep (hk: ∀x,F x->x<w.heap.size->w'.heap[x]? =w.heap[x]? /\F' x)(h:EF w F x v):EF w' F' x v:=by
 cases x with
 |none=>exact h
 |some y=>obtain⟨g,e,hF,hB⟩:=h;have:=hk g hF hB.lt;exact⟨g,e,this.2,hB.keep this.1⟩
theorem EF.below (h:EF w F x v)(hd:Below w.heap.size w w'):EF w' F x v:=h.keep fun x hF hl=>⟨hd.block x hl,hF⟩
theorem EF.ptr (h:EF w F x v): ∃p,v=.pointer p:=by
 cases x with
 |none=>exact⟨none,h⟩
 |some y=>obtain⟨g,e,_⟩:=h;exact⟨_,e⟩
theorem rY.keep (hk: ∀x,F x->x<w.heap.size->w'.heap[x]? =w.heap[x]? /\F' x): ∀{l:List (Option Sc.Wd)} {vs:List Value},rY w F l vs->rY w' F' l vs
 | [],_,h=>h
 |x::l,vs,h=>by obtain⟨v,vs',e,hx,hl⟩:=h;exact⟨v,vs',e,hx.keep hk,rY.keep hk hl⟩
theorem rY.below {l:List (Option Sc.Wd)}(h:rY w F l vs)(hd:Below w.heap.size w w'):rY w' F l vs:=h.keep fun x hF hl=>⟨hd.block x hl,hF⟩
theorem rY.len: ∀{l:List (Option Sc.Wd)} {vs:List Value},rY w F l vs->vs.length=l.length
 | [],_,h=>by rw[show _=[] from h];rfl
 |p::l,_,h=>by obtain⟨v,vs',rfl,_,hl⟩:=h;rw[aCC,aCC,rY.len hl]
theorem rY.at_: ∀{l:List (Option Sc.Wd)} {vs:List Value} {i:Nat},rY w F l vs->∀(h:i<l.length),∃v,vs[i]? =some v/\EF w F l[i] v
 |p::l,_,0,h,_=>by obtain⟨v,vs',rfl,hp,_⟩:=h;exact⟨v,rfl,hp⟩
 |p::l,_,i+1,h,hi=>by obtain⟨v,vs',rfl,_,hl⟩:=h;exact hl.at_ (by simpa using hi)
theorem rY.snoc: ∀{l:List (Option Sc.Wd)} {vs:List Value} {p:Option Sc.Wd} {v:Value},rY w F l vs->EF w F p v->rY w F (l++[p]) (vs++[v])
 | [],vs,p,v,h,hp=>by obtain rfl:vs=[]:=h;exact⟨v,[],rfl,hp,rfl⟩
 |q::l,vs,p,v,h,hp=>by obtain⟨u,vs',rfl,hq,hl⟩:=h;exact⟨u,vs'++[v],rfl,hq,hl.snoc hp⟩
end
def Sc.U5 (b:Nat):Tr.PT->Option Sc.Wd
 | .leaf k t x=>if k=3 then some ⟨t,b+x⟩else none
 |_=>none
theorem Sc.xC {x:Tr.PT}(h:Sc.qL x):Sc.U5 b x=Sc.eD b x:=by
 rcases h with ⟨t,a,rfl⟩|⟨a,rfl⟩<;>rfl
theorem Bb:(aBS.info? 89).map (fun i=>(i.zero,i.size,i.bytes))=some (some (oZZ),1,8):=by kernel_rfl
def Sc.KY (b:Nat)(p:Tr.PT)(v:Value):Value:=match Sc.U5 b p with
 |some _=>v
 |none=>oZZ
theorem nK.Qw (h:nK w F b p v):EF w F (Sc.U5 b p) (Sc.KY b p v):=by
 cases p with
 |leaf k t x=>
  obtain⟨g,rfl,hF,hB⟩:=h
  by_cases hk:k=3
  ·subst hk;have hf:xN b (.leaf 3 t x)=((b+x:Nat):Int):=Z8 (by rfl);rw[hf] at hB;exact⟨g,rfl,hF,hB⟩
  ·have e:Sc.U5 b (.leaf k t x)=none:=if_neg hk;unfold Sc.KY;rw[e];rfl
 |gap t x d=>rfl
 |branch k x l=>rfl
def NodE(v:Value)(w:World)(e:Ending)(w':World):Prop:=e=.returned v/\w'=w
theorem lJ(h:nK w F b p v):
  Calls aBS 78 #[v] w (NodE (Sc.KY b p v) w):=by
 cases p with
 |leaf k t x=>
  obtain⟨g,rfl,hF,hB⟩:=h;obtain⟨k0,k1,_⟩:=hB.cells;clear hB
  by_cases hk:k=3
  ·subst hk
   go_enter func78,ntmps78
   go_wp2_with fail;go_ret;exact⟨rfl,rfl⟩
  ·have hk3:((k:Int)==(3:Int))=false:=(by simp;omega);have Hv:aC (Sc.KY b (.leaf k t x) (pZZ g)=oZZ):=(by have e:Sc.U5 b (.leaf k t x)=none:=if_neg hk;show Sc.KY _ _ _=_;unfold Sc.KY;rw[e]);clear hk;generalize Sc.KY b (.leaf k t x) (pZZ g)=V at *
   go_enter func78,ntmps78
   go_wp2_with fail;go_ret;exact⟨by rw[Hv.o];rfl,rfl⟩
 |gap t x d=>
  obtain⟨g,rfl,hF,hB⟩:=h;obtain⟨k0,_⟩:=hB.cells;clear hB
  go_enter func78,ntmps78
  go_wp2_with fail;go_ret;exact⟨rfl,rfl⟩
 |branch k x l=>
  obtain⟨g,rfl,hF,A,c,vs,hB,_⟩:=h;obtain⟨k0,k1,_⟩:=hB.cells;clear hB
  go_enter func78,ntmps78
  by_cases hk:k=0
  ·subst hk;go_wp2_with fail;go_ret;exact⟨rfl,rfl⟩
  ·have hk3:((k:Int)==(0:Int))=false:=(by simp;omega);go_wp2_with fail;go_ret;exact⟨rfl,rfl⟩
def iT(u:Sc.Us):Array Value:=#[kZZ (u.file:Int),kZZ (u.at_:Int),kZZ (u.Vr:Int),kZZ u.zV,kZZ u.oJ,kZZ (u.err:Int)]
def qA:Array Value:=#[kZZ 0,kZZ 0,kZZ 0,kZZ 0,kZZ 0,kZZ 0]
theorem rD{r:Nat}(h:Below B w w')(hr:B<=r)(a b c d e f:Value):Below B w ((((((aCI w' ⟨r,0,none⟩ a).setCell ⟨r,1,none⟩ b).setCell ⟨r,2,none⟩ c).setCell ⟨r,3,none⟩ d).setCell ⟨r,4,none⟩ e).setCell ⟨r,5,none⟩ f):=
 (((((h.setCell (p:=⟨r,0,none⟩) hr a).setCell (p:=⟨r,1,none⟩) hr b).setCell (p:=⟨r,2,none⟩) hr c).setCell (p:=⟨r,3,none⟩) hr d).setCell (p:=⟨r,4,none⟩) hr e).setCell (p:=⟨r,5,none⟩) hr f
theorem yI{r:Nat}{t:TypeId}{x0 x1 x2 x3 x4 x5:Value}(h:aV w r t #[x0,x1,x2,x3,x4,x5])(a b c d e f:Value):aV ((((((aCI w ⟨r,0,none⟩ a).setCell ⟨r,1,none⟩ b).setCell ⟨r,2,none⟩ c).setCell ⟨r,3,none⟩ d).setCell ⟨r,4,none⟩ e).setCell ⟨r,5,none⟩ f) r t #[a,b,c,d,e,f]:=by
 have:=(((((h.bD 0 a).bD 1 b).bD 2 c).bD 3 d).bD 4 e).bD 5 f;simpa using this
theorem aX{r:Nat}{t:TypeId}{a b c d e f:Value}(h:aV w r t #[a,b,c,d,e,f]):
  (w.cell? ⟨r,0,none⟩=some a/\w.cell? ⟨r,1,none⟩=some b/\w.cell? ⟨r,2,none⟩=some c/\w.cell? ⟨r,3,none⟩=some d/\w.cell? ⟨r,4,none⟩=some e/\w.cell? ⟨r,5,none⟩=some f)/\
  (w.frozen? ⟨r,0,none⟩=false/\w.frozen? ⟨r,1,none⟩=false/\w.frozen? ⟨r,2,none⟩=false/\w.frozen? ⟨r,3,none⟩=false/\w.frozen? ⟨r,4,none⟩=false/\w.frozen? ⟨r,5,none⟩=false):=
 ⟨⟨h.cell 0,h.cell 1,h.cell 2,h.cell 3,h.cell 4,h.cell 5⟩,h.frozen 0,h.frozen 1,h.frozen 2,h.frozen 3,h.frozen 4,h.frozen 5⟩
def Wj(u:Sc.Us)(w:World)(e:Ending)(w':World):Prop:=e=.returned (.agg (iT u))/\Below w.heap.size w w'
theorem AJ(f a k x:Nat)(w:World):Calls aBS 172 #[vZZ f,vZZ a,vZZ k,vZZ x] w (Wj (Sc.jR f a k x) w):=by
 obtain⟨hd,hr⟩:=uS w 31 qA;unfold qA at hr hd;obtain⟨r,hr0⟩:=dC w.heap.size;rw[<-hr0] at hr;have Hr:=aB hr0;have HU:aC (iT (Sc.jR f a k x)=#[vZZ f,vZZ a,vZZ k,kZZ (-1),kZZ (-1),vZZ x]):=rfl
 go_enter func172,ntmps172
 go_upto_region 1 with fail;rw[<-hr0];clear hr0;generalize w.alloc _=w1 at *;obtain⟨⟨k0,k1,k2,k3,k4,k5⟩,y0,y1,y2,y3,y4,y5⟩:=aX hr;go_wp2_with fail;have hb2:=rD hd (show w.heap.size<=r by rw[Hr.o];exact aBT _) (vZZ f) (vZZ a) (vZZ k) (kZZ (-1)) (kZZ (-1)) (vZZ x);have hr:=yI hr (vZZ f) (vZZ a) (vZZ k) (kZZ (-1)) (kZZ (-1)) (vZZ x);clear k0 k1 k2 k3 k4 k5 y0 y1 y2 y3 y4 y5;generalize((((((aCI _ _ (vZZ f)).setCell _ _).setCell _ _).setCell _ _).setCell _ _).setCell _ _)=w3 at *;obtain⟨⟨k0,k1,k2,k3,k4,k5⟩,_⟩:=aX hr
 (try simp only[aES,Exit.then])
 refine bodyPost_ret (v:=.agg (iT (Sc.jR f a k x))) (by rw[HU.o];simp[results,results172,go_sem,k0,k1,k2,k3,k4,k5];try rfl) rfl ?_;exact⟨rfl,hb2⟩
theorem EW(f a k:Nat)(tw:Bool)(w:World):Calls aBS 167 #[vZZ f,vZZ a,vZZ k,.bool tw] w (Wj (Sc.dM f a k tw) w):=by
 obtain⟨hd,hr⟩:=uS w 31 qA;unfold qA at hr hd;obtain⟨r,hr0⟩:=dC w.heap.size;rw[<-hr0] at hr;have Hr:=aB hr0
 go_enter func167,ntmps167
 go_upto_region 1 with fail;rw[<-hr0];have hs1:=aDD w (.cells #[kZZ 0,kZZ 0,kZZ 0,kZZ 0,kZZ 0,kZZ 0] 31);rw[<-hr0] at hs1;clear hr0;generalize w.alloc _=w1 at *;have hrr:aC (w.heap.size<=r+1):=by show _<=_;rw[Hr.o];exact Nat.le_succ _
 have hq2:=aV.new w1 31 #[vZZ f,vZZ a,vZZ k,vZZ f,vZZ a,kZZ 0];have hd2:=hd.alloc hd.size (.cells #[vZZ f,vZZ a,vZZ k,vZZ f,vZZ a,kZZ 0] 31);have hr2:=hr.alloc (.cells #[vZZ f,vZZ a,vZZ k,vZZ f,vZZ a,kZZ 0] 31);rw[hs1] at hq2;clear hr hd;go_upto_if 16 with fail;clear hs1;generalize w1.alloc _=w2 at *
 go_cut [17] (fun _ w'=>aV w' (r+1) 31 (iT (Sc.dM f a k tw))/\aV w' r 31 #[kZZ 0,kZZ 0,kZZ 0,kZZ 0,kZZ 0,kZZ 0]/\Below w.heap.size w w')
 case first=>
  cases tw with
  |false=>go_wp2_with fail;go_meet;exact⟨hq2,hr2,hd2⟩
  |true=>have q5:=hq2.cell 5;have z5:=hq2.frozen 5;simp at q5;have hq3:=hq2.bD 5 (kZZ 5);simp at hq3;have hr3:=hr2.far (p:=⟨r+1,5,none⟩) (show r≠r+1 by omega) (kZZ 5);have hd3:=hd2.setCell (p:=⟨r+1,5,none⟩) hrr.out (kZZ 5);go_wp2_with fail;go_meet;exact⟨hq3,hr3,hd3⟩
 case rest=>
  obtain⟨hq,hr,hd⟩:=hcut;unfold iT at hq;generalize Sc.dM f a k tw=u at *;obtain⟨⟨q0,q1,q2,q3,q4,q5⟩,_⟩:=aX hq;obtain⟨⟨k0,k1,k2,k3,k4,k5⟩,y0,y1,y2,y3,y4,y5⟩:=aX hr;go_wp2_with fail;have hb2:=rD hd (show w.heap.size<=r by rw[Hr.o];exact aBT _) (kZZ (u.file:Int)) (kZZ (u.at_:Int)) (kZZ (u.Vr:Int)) (kZZ u.zV) (kZZ u.oJ) (kZZ (u.err:Int));have hr:=yI hr (kZZ (u.file:Int)) (kZZ (u.at_:Int)) (kZZ (u.Vr:Int)) (kZZ u.zV) (kZZ u.oJ) (kZZ (u.err:Int));clear k0 k1 k2 k3 k4 k5 y0 y1 y2 y3 y4 y5 q0 q1 q2 q3 q4 q5 hq;generalize((((((aCI _ _ (kZZ (u.file:Int))).setCell _ _).setCell _ _).setCell _ _).setCell _ _).setCell _ _)=w3 at *;obtain⟨⟨k0,k1,k2,k3,k4,k5⟩,_⟩:=aX hr
  (try simp only[aES,Exit.then])
  refine bodyPost_ret (v:=.agg (iT u)) (by unfold iT;simp[results,results167,go_sem,k0,k1,k2,k3,k4,k5];try rfl) rfl ?_;exact⟨rfl,hb2⟩
def kJ(w:World)(F:Nat->Prop):Sc.Env->Option Addr->Prop
 | [],p=>p=none
 |y::e,p=> ∃g q,p=some ⟨g,0,none⟩/\F g/\aV w g 359 #[.string ⟨y.1.toArray⟩,kZZ (y.2:Int),.pointer q]/\kJ w F e q
theorem kJ.keep (hk: ∀b,F b->b<w.heap.size->w'.heap[b]? =w.heap[b]? /\F' b): ∀{e:Sc.Env} {p:Option Addr},kJ w F e p->kJ w' F' e p
 | [],_,h=>h
 |y::e,p,h=>by obtain⟨g,q,e1,hF,hB,he⟩:=h;have:=hk g hF hB.lt;exact⟨g,q,e1,this.2,this.1.trans hB,kJ.keep hk he⟩
theorem kJ.below {e:Sc.Env}{p:Option Addr}(h:kJ w F e p)(hd:Below w.heap.size w w'):kJ w' F e p:=h.keep fun b hF hl=>⟨hd.block b hl,hF⟩
def aBQ(x:Option Nat)(w:World)(e:Ending)(w':World):Prop:=e=.returned (.tuple #[kZZ (((x.getD 0:Nat)):Int),.bool x.isSome])/\w'=w
theorem Zf{e:Sc.Env}{p:Option Addr}(h:kJ w F e p)(n:Bs):Calls aBS 238 #[.pointer p,.string ⟨n.toArray⟩] w (aBQ (Sc.jG n e) w):=by
 generalize hR:Sc.jG n e=R;have HR:aC (R=Sc.jG n e):=hR.symm;clear hR
 go_enter func238,ntmps238
 go_wp2_with fail
 go_loopg [0] e.length (fun m v wr=>wr=w/\∃(e':Sc.Env) (p':Option Addr),v=.pointer p'/\kJ w F e' p'/\e'.length<=m/\aC (R=Sc.jG n e'))
 case atStart=>exact⟨rfl,e,p,rfl,h,aBT _,HR⟩
 case round=>
  clear h HR;obtain⟨rfl,e',p',rfl,h,hm,HR⟩:=hrel;cases e' with
  |nil=>obtain rfl:p'=none:=h;have HR:aC (R=none):=HR;clear hm;go_wp2_with fail;go_ret2;rw[HR.o];exact⟨rfl,rfl⟩
  |cons y e'=>
   obtain⟨g,q,rfl,hF,hB,he⟩:=h;have b0:=hB.cell 0;have b1:=hB.cell 1;have b2:=hB.cell 2;simp at b0 b1 b2;have HR:aC (R=(((y::e').find? fun x=>x.1==n).map (·.2))):=HR
   by_cases hy:y.1=n
   ·have HR:aC (R=some y.2):=(by show _=_;rw[HR.o];simp[hy]);have e1:(y.1==n)=true:=(by simp[hy]);clear hB hm hy;go_wp2_with fail;go_ret2;rw[HR.o];exact⟨rfl,rfl⟩
   ·have HR:aC (R=Sc.jG n e'):=(by show _=_;rw[HR.o];unfold Sc.jG;simp[hy]);have e1:(y.1==n)=false:=(by simp[hy]);have Hm:aC (e'.length+1<=gk):=hm;clear hB hm hy;go_wp2_with fail
    go_roundg e'.length
    case rel=>exact⟨rfl,e',q,rfl,he,aBT _,HR⟩
    case measure=>have:=Hm.o;omega
theorem wI.grown {size:Nat}{xs:List Value}(hown:w.ownsRow B e size v n xs)(hg:w.grownBy w' v.ownBlock)(he:e≠237){u:Value}(h:wI w F x u):wI w' F x u:=by
 cases x with
 |none=>exact h
 |some x=>obtain⟨g,e1,hF,hB⟩:=h;exact⟨g,e1,hF,hB.grown hg (own_ne hown hB he)⟩
theorem jX.grown {size:Nat}{xs:List Value}(hown:w.ownsRow B e size v n xs)(hg:w.grownBy w' v.ownBlock)(he:e≠237): ∀{l:List (Option Sc.Wd)} {us:List Value},jX w F l us->jX w' F l us
 | [],_,h=>h
 |x::l,us,h=>by obtain⟨u,Yr,e1,hx,hl⟩:=h;exact⟨u,Yr,e1,hx.grown hown hg he,jX.grown hown hg he hl⟩
theorem wI.mono (hF: ∀x,F x->F' x){u:Value}(h:wI w F x u):wI w F' x u:=h.keep fun b hb _=>⟨rfl,hF b hb⟩
theorem jX.mono (hF: ∀x,F x->F' x){l:List (Option Sc.Wd)}{us:List Value}(h:jX w F l us):jX w F' l us:=h.keep fun b hb _=>⟨rfl,hF b hb⟩
theorem H6:(aBS.info? 231).map (fun i=>(i.zero,i.size,i.bytes))=some (some (oZZ),1,8):=by kernel_rfl
def aAE(l:List (Option Sc.Wd))(w:World)(e:Ending)(w':World):Prop:=
 ∃A c vs,e=.returned (.slice A l.length c)/\w'.ownsRow w.heap.size 231 1 (.slice A l.length c) l.length vs/\jX w' (fun x=>w.heap.size<=x) l vs/\Below w.heap.size w w'
def Sc.kK (b:Nat)(x:Option (Bs×Nat)):Option Sc.Wd:=x.map fun y=>⟨y.1,b+y.2⟩
theorem KP{ib:Nat}(hp:dE w F (.branch k a l) (.iface 114 (pZZ q)))(hl:l.length<=1000000000)(hb:w.cell? ⟨ib,1,none⟩=some (vZZ b))(hlow: ∀y,some y∈Sc.bT l->b+y.2<=1000000000):
  Calls aBS 214 #[pZZ ib,pZZ q] w (aAE (Sc.bE b (.branch k a l)) w):=by
 obtain⟨i0,ji,iW,jz1,iV⟩:=info_parts H6;have hn:=LA hp hl;have HW:aC (Sc.bE b (.branch k a l)=(Sc.bT l).map (Sc.kK b)):=rfl;have hlen:(Sc.bT l).length<=1000000000:=aBV (Sc.lK l) hl;have hbl:=aDA w ⟨ib,1,none⟩ hb;clear hp hl;generalize Sc.bE b (.branch k a l)=W at *;generalize Sc.bT l=L at *
 go_enter func214,ntmps214
 go_wp2_with fail;refine hn.mono ?_;clear hn;rintro e w1 ⟨A,c,vs,rfl,hown0,hps,hd0⟩;have hb1:=(hd0.cell (p:=⟨ib,1,none⟩) hbl).trans hb;have hbl1:ib<w1.heap.size:=aCF hbl hd0.size;have Hl:=aB hlen;have Hd0:=aB hd0.size;clear hlen hb hbl;go_wp2_with fail
 go_loopg [5,11] L.length (fun m v u wr=> ∃(i:Nat) (Ao:Option Addr) (co:Nat) (pW:List Value),v=.slice Ao i co/\u=vZZ i/\i<=L.length/\L.length-i<=m/\wr.ownsRow w1.heap.size 231 1 (.slice Ao i co) i pW/\jX wr (fun x=>w1.heap.size<=x) ((L.take i).map (Sc.kK b)) pW/\Below w1.heap.size w1 wr)
 case atStart=>exact⟨0,none,0,[],rfl,rfl,aBZ _,aBT _,aCW _ _ _ _,rfl,aBU _ _⟩
 case round=>
  obtain⟨i,Ao,co,pW,rfl,rfl,hi,hm,hown,hos,hd⟩:=hrel
  by_cases hlt:i<L.length
  ·have GZ:=iZ i;have EB:=jJ i L.length;obtain⟨v,hv,hpv⟩:=hps.at_ hlt;obtain⟨r0,rfl,hc⟩:=pE hown0 (by omega);have hcell:=hc _ _ hv;have hrl:=aDA w1 ⟨r0,i,none⟩ hcell;have q0:=(hd.cell (p:=⟨r0,i,none⟩) hrl).trans hcell;have HT:aC ((L.take (i+1)).map (Sc.kK b)=(L.take i).map (Sc.kK b)++[Sc.kK b L[i]]):=(by show _=_;rw[aCP hlt,List.map_append];rfl);have Hlo:aC (∀y,L[i]=some y->b+y.2<=1000000000):=fun y e=>hlow y (e▸List.getElem_mem hlt)
   have c1:=uX i (by have:=Hl.o;omega);generalize L[i]=p at *;have bZ:=aB hlt;have Hm:=aB hm;have hsz:=hd.size;have uT:=aB hsz;have Hi:aC (i<=1000000000):=(by have:=Hl.o;show _<=_;omega);clear hv hc hcell hrl hlt hm hi hsz;cases p with
   |none=>
    obtain rfl:v=oZZ:=hpv;have HT:aC ((L.take (i+1)).map (Sc.kK b)=(L.take i).map (Sc.kK b)++[none]):=HT;generalize(L.take i).map (Sc.kK b)=st at *;go_wp2_with (at_builtin;refine dF _ rfl _ _ 232 rfl w1.heap.size 231 1 8 underlying232 ji iW jz1 iV rfl (by omega) rfl hown #[oZZ] rfl rfl (by simp[aCA]) Hi.o (by omega) uT.o ?_;intro A' c' w2 hown2 hd2 hg2);have nX:=(hos.grown hown hg2 (by decide)).snoc (x:=none) (v:=oZZ) rfl
    go_roundg (L.length-(i+1))
    case rel=>exact⟨i+1,A',c',_,rfl,by go_num,by have:=bZ.o;omega,aBT _,hown2,by rw[HT.o];exact nX,hd.trans hd2⟩
    case measure=>have:=bZ.o;have:=Hm.o;omega
   |some y=>
    obtain⟨g,rfl,hF,hB⟩:=hpv;have hgl:=hB.lt;have hB:=hB.below hd hB.lt;have k1:=hB.cell 1;have k2:=hB.cell 2;simp at k1 k2;have kb:=(hd.cell (p:=⟨ib,1,none⟩) hbl1).trans hb1;have c2:aCQ.wrap ((b:Int)+(y.2:Int))=(b:Int)+(y.2:Int):=aCV _ (by have:=Hlo.o y rfl;omega);have HT:aC ((L.take (i+1)).map (Sc.kK b)=(L.take i).map (Sc.kK b)++[some ⟨y.1,b+y.2⟩]):=HT;have k1:wr.drew.cell? ⟨g,1,none⟩=some (.string ⟨y.1.toArray⟩):=k1;have k2:wr.drew.cell? ⟨g,2,none⟩=some (kZZ (y.2:Int)):=k2;have kb:wr.drew.cell? ⟨ib,1,none⟩=some (vZZ b):=kb;have hown:wr.drew.ownsRow w1.heap.size 231 1 (.slice Ao i co) i pW:=hown;have hos:=hos.below ((aBU _ _).drew);have hd:=hd.drew;have uT:aC (w1.heap.size<=wr.drew.heap.size):=uT;generalize(L.take i).map (Sc.kK b)=st at *;clear hB hF Hlo;go_wp2_with fail;refine aL 18 (fun w':World=>w'.cell? ⟨g,1,none⟩=some (.string ⟨y.1.toArray⟩)/\w'.cell? ⟨ib,1,none⟩=some (vZZ b)/\w'.cell? ⟨g,2,none⟩=some (kZZ (y.2:Int))) ?_;clear q0;generalize wr.drew=w2 at *;have hS0:(fun w':World=>w'.cell? ⟨g,1,none⟩=some (.string ⟨y.1.toArray⟩)/\w'.cell? ⟨ib,1,none⟩=some (vZZ b)/\w'.cell? ⟨g,2,none⟩=some (kZZ (y.2:Int))) w2:=⟨k1,kb,k2⟩
    iterate 15 refine aO 0 hS0 ?_
    have hKp: ∀w',Below w1.heap.size w2 w'->(fun w':World=>w'.cell? ⟨g,1,none⟩=some (.string ⟨y.1.toArray⟩)/\w'.cell? ⟨ib,1,none⟩=some (vZZ b)/\w'.cell? ⟨g,2,none⟩=some (kZZ (y.2:Int))) w':=fun w' h=>⟨(h.cell (p:=⟨g,1,none⟩) hgl).trans k1,(h.cell (p:=⟨ib,1,none⟩) hbl1).trans kb,(h.cell (p:=⟨g,2,none⟩) hgl).trans k2⟩
    have hnew:aV (w2.alloc (.cells #[.string ⟨y.1.toArray⟩,kZZ ((b:Int)+(y.2:Int))] 237)) w2.heap.size 237 #[.string ⟨y.1.toArray⟩,kZZ ((b+y.2:Nat):Int)]:=(by rw[Int.natCast_add];exact aV.new w2 _ _);have hd3:=nR w2 (.cells #[.string ⟨y.1.toArray⟩,kZZ ((b:Int)+(y.2:Int))] 237);have hown3:=hown.alloc (.cells #[.string ⟨y.1.toArray⟩,kZZ ((b:Int)+(y.2:Int))] 237);have mh:aC (w1.heap.size<=(w2.alloc (.cells #[.string ⟨y.1.toArray⟩,kZZ ((b:Int)+(y.2:Int))] 237)).heap.size):=(by have:=hd3.size;have:=uT.o;show _<=_;omega);have BQ:aC (Below w1.heap.size w2 (w2.alloc (.cells #[.string ⟨y.1.toArray⟩,kZZ ((b:Int)+(y.2:Int))] 237))):=hd3.mono uT.o;have fw:=hos.below hd3;have wK:=aB (hd.trans BQ.o);have hpn:wI (w2.alloc (.cells #[.string ⟨y.1.toArray⟩,kZZ ((b:Int)+(y.2:Int))] 237)) (fun x=>w1.heap.size<=x) (some ⟨y.1,b+y.2⟩) (.pointer (some ⟨w2.heap.size,0,none⟩)):=⟨_,rfl,uT.o,hnew⟩;have Hh:=aB (aDD w2 (.cells #[.string ⟨y.1.toArray⟩,kZZ ((b:Int)+(y.2:Int))] 237));clear hS0 hos hd hown hnew hd3;refine aA 15 fun C hC=> ?_
    go_simp;refine hC.out _ _ (fun _=>hKp _ BQ.o) ?_;clear hC C;generalize w2.alloc _=w3 at *;refine aA 16 fun C hC=> ?_
    go_simp;refine hC.out _ _ (fun _=>hKp _ (BQ.o.alloc mh.o _)) ?_;clear hC C;refine aA 17 fun C hC=> ?_
    refine lT w3 (by rfl) _ _ 232 (by rfl) w1.heap.size 231 1 8 underlying232 ji iW jz1 iV rfl (by omega) (by rfl) hown3 #[.pointer (some ⟨w2.heap.size,0,none⟩)] (by rw[Hh.o];rfl) rfl (by simp[aCA]) Hi.o (by omega) mh.o ?_;intro A' c' w5 hown2 hd2 hg2;refine hC.out _ _ (fun _=>hKp _ (BQ.o.trans hd2)) ?_;clear hC C;refine aA 18 fun C hC=> ?_
    go_simp;refine hC.out _ _ (fun h=>absurd rfl h) ?_;clear hC C;refine aR ?_;clear hKp k1 k2 kb;go_wp2_with fail;have nX:=(fw.grown hown3 hg2 (by decide)).snoc (hpn.grown hown3 hg2 (by decide))
    go_roundg (L.length-(i+1))
    case rel=>exact⟨i+1,A',c',_,rfl,by go_num,by have:=bZ.o;omega,aBT _,hown2,by rw[HT.o];exact nX,wK.o.trans hd2⟩
    case measure=>have:=bZ.o;have:=Hm.o;omega
  ·obtain rfl:i=L.length:=(by omega);have i1:=lC L.length;have i2:=kZ L.length;rw[aDF] at hos;have hWl:W.length=L.length:=(by rw[HW.o,List.length_map]);have Fu:=aB hWl;clear hlt hi hm hWl;go_wp2_with fail;go_ret;refine⟨Ao,co,pW,by rw[Fu.o];rfl,?_,by rw[HW.o];exact hos.mono fun x hx=>aBV Hd0.o hx,hd0.trans (hd.mono Hd0.o)⟩;rw[Fu.o];exact KW hown Hd0.o
open Go.RowKit Go.Maps
theorem zy:laidOutB aBS=true:=by kernel_rfl
theorem Qd:(325:TypeId)<aBS.types.size:=of_decide_eq_true (by kernel_rfl)
theorem QA:(match aBS.underlying 325 with|some (.array _ _)|some (.struct _)=>true|_=>false)=true:=by kernel_rfl
theorem Lc:aBS.keyTypeAt 2 325=true:=by kernel_rfl
theorem Iz:WideMaps.KeyLaw aBS 325:=deep_law_laid zy (m:=2) (by omega) Qd Lc QA
theorem Ql:Keyed aBS 325:=Keyed.of_law Iz
theorem NK:aBS.cellsOf 325=2:=by kernel_rfl
theorem Uu:aBS.cellsOf 3=1:=by kernel_rfl
theorem Ro:aBS.keyType 325=true:=by kernel_rfl
theorem Qv:(match aBS.underlying 325 with|some (.struct fs)=>fs.all (·.name != "_")&&(fs.toList.map (fun f=>(f.type,f.offset))== [(3,0),(3,1)])|_=>false)=true:=by kernel_rfl
theorem Ow: ∃n,aBS.types.size=n+1:=by
 have h:(0:Nat)<aBS.types.size:=of_decide_eq_true (by kernel_rfl);exact⟨aBS.types.size-1,by omega⟩
theorem Oj(h:a<=1000000000000):(Lit.int .i64 (a:Int)).wf=true:=WalkArith.wf_i64 (by omega)
theorem YY{d:Nat}(h:a<=1000000000000):aBS.keyLits (d+1) 3 [.int .i64 (a:Int)]=some [.int .i64 (a:Int)]:=by
 unfold Program.keyLits;rw[underlying3];simp[Oj h]
theorem Iy{f:Nat}(hf:f<=1000000000000)(ha:a<=1000000000000): ∃kl,keyOf aBS 325 (.agg #[.int .i64 (f:Int),.int .i64 (a:Int)])=some kl:=by
 obtain⟨n,hn⟩:=Ow;have hw:=QA;have hk:=Qv;have hform:(Value.agg #[.int .i64 (f:Int),.int .i64 (a:Int)]).formed aBS 325=true:=by unfold Value.formed;split at hw<;>simp_all [NK]
 unfold keyOf;cases hu:aBS.underlying 325 with
 |none=>rw[hu] at hk;cases hk
 |some u=>
  rw[hu] at hk;cases u with
  |struct fs=>
   simp only[Bool.and_eq_true,beq_iff_eq] at hk;obtain⟨h1,h2⟩:=hk;rw[hform,Ro,hn];have:aBS.keyLits (n+1+1) 325 (Value.agg #[.int .i64 (f:Int),.int .i64 (a:Int)]).cells.toList=some [.int .i64 (f:Int),.int .i64 (a:Int)]:=by unfold Program.keyLits;rw[hu];have e:(Value.agg #[.int .i64 (f:Int),.int .i64 (a:Int)]).cells.toList=[.int .i64 (f:Int),.int .i64 (a:Int)]:=(by simp[Value.cells]);rw[e];dsimp only;rw[if_pos ⟨by rw[NK];rfl,h1⟩];have hm:fs.toList.mapM (fun f'=>aBS.keyLits (n+1) f'.type (([Value.int .i64 (f:Int),.int .i64 (a:Int)].drop f'.offset).take (aBS.cellsOf f'.type)))=(fs.toList.map fun f'=>(f'.type,f'.offset)).mapM (fun x=>aBS.keyLits (n+1) x.1 (([Value.int .i64 (f:Int),.int .i64 (a:Int)].drop x.2).take (aBS.cellsOf x.1))):=(by rw[List.mapM_map];rfl);rw[hm,h2];simp[Uu,YY hf,YY ha]
   rw[this];exact⟨_,rfl⟩
  |_=>cases hk
structure IQ(w0 w:World)(pg mb:Nat)(fs ts is fd:Value)(us:List Sc.Us):Prop where
 size:w0.heap.size<=w.heap.size
 old: ∀x,x<w0.heap.size->x≠pg->x≠mb->w.heap[x]? =w0.heap[x]?
 calm:Calm w0 w
 blk: ∃A c,aV w pg 86 #[fs,ts,is,.slice A us.length c,fd,.map (some mb)]/\w.ownsRow w0.heap.size 31 6 (.slice A us.length c) us.length (us.flatMap fun u=>(iT u).toList)
 map: ∃D:DataW Unit,w.ownsMap aBS 325 (plainElem aBS 3) mb us.length D
 pl:pg<w0.heap.size
 ml:mb<w0.heap.size
section
variable{w0 w w':World}{pg mb:Nat}{fs ts is fd:Value}{us:List Sc.Us}
theorem IQ.grown (h:IQ w0 w pg mb fs ts is fd us)(hs:w.heap.size<=w'.heap.size)(hk: ∀x,x<w.heap.size->w'.heap[x]? =w.heap[x]?)(hc:Calm w w'):IQ w0 w' pg mb fs ts is fd us:=by
 obtain⟨A,c,hB,ho⟩:=h.blk;obtain⟨D,hm⟩:=h.map;refine⟨aBV h.size hs,fun x hx h1 h2=>(hk x (aCF hx h.size)).trans (h.old x hx h1 h2),h.calm.trans hc,⟨A,c,(hk _ hB.lt).trans hB,aM ho fun k hk'=>hk k (ho.lt k hk').2⟩,⟨D,hm.kept (row:=none) ⟨hc.os,hc.tape,hc.output,hs,fun k hk' _=>hk k hk'⟩ (by simp)⟩,h.pl,h.ml⟩
theorem IQ.below (h:IQ w0 w pg mb fs ts is fd us)(hd:Below w.heap.size w w'):IQ w0 w' pg mb fs ts is fd us:=h.grown hd.size (fun x hx=>hd.block x hx) (Calm.below hd)
end
end Go.Proofs.YtcjjfeephaddcaaGreatDoor
