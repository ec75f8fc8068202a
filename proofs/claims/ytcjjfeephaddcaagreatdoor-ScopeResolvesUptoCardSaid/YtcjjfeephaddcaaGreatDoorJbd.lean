import Derived.Test.YtcjjfeephaddcaaGreatDoorJbc
set_option linter.all false
open Go.Proofs.Tryz renaming prog->aBS
open Go.RowKit.Below renaming refl->aBU
open Go.Value renaming oneCell'->aCA
open Go.World renaming news_of_block->aCK
open List renaming getElem_mem->aCR
open Nat renaming le_refl->aBT,zero_le->aBZ
set_option maxHeartbeats 64000000
set_option maxRecDepth 100000
open Go.Proofs.Tryz
namespace Go.Proofs.YtcjjfeephaddcaaGreatDoor
open Go.RowKit
variable{w0:World}{cc h:Nat}{c1:Bool}
theorem Jl{s:Bs}{T:List Tk}(hW:yV s T)(i:Nat):Tr.eT (Tr.bR T (Tr.aH T i)) (Tr.gX s T (Tr.aH T i))=
  (if Tr.bR T (Tr.aH T i)=5 then 15 else if Tr.bR T (Tr.aH T i)=6 then 16 else if Tr.bR T (Tr.aH T i)=3 then 18 else if Tr.aW s T [Tr.wC] i then 17 else if Tr.aW s T [Tr.qN] i then 17 else if Tr.aW s T [[63]] i then 19 else 0):=by
 unfold Tr.aW;rw[Fa,Fa,Fa]
 by_cases hlt:Tr.aH T i<T.length
 ·have h:=hW _ (aCR hlt);rw[Tr.tC T _ hlt,Tr.yB s T _ hlt];generalize Tr.jI s T[Tr.aH T i]=t at *;generalize(T[Tr.aH T i]).1=k at *;obtain⟨h7,h4⟩:=h;unfold Tr.eT
  by_cases k4:k=4
  ·subst k4;have h4:=h4 rfl
   by_cases ht:t=Tr.wC
   ·simp[ht]
   ·by_cases hf:t=Tr.qN
    ·simp[hf]
    ·simp[ht,hf,h4]
  ·by_cases k7:k=7
   ·subst k7;obtain⟨h71,h72⟩:=h7 rfl
    by_cases hq:t=[63]
    ·subst hq;simp[Tr.wC,Tr.qN]
    ·simp[h71,h72,hq]
   ·have e4:(k==4)=false:=(by simpa using k4);have e7:(k==7)=false:=(by simpa using k7);simp[k4,k7,e4,e7]
 ·rw[Tr.mX T _ (by omega)];simp[Tr.eT]
section
variable{w:World}{K:Nat->Prop}{g:Nat}{s:Bs}{T:List Tk}{Ar:Option Addr}{c0 n i:Nat}{cut:Bool}{e:Nat->Tr.St}
theorem Q6(b:Nat)(X:FZ s T)(hW:yV s T)(E:qj 178 g s T Ar c0 n e)(R:mO w K g s T Ar c0 n i cut):
  Calls aBS 240 #[pZZ g] w (JE w K g s T Ar c0 n cut (Tr.fD s T b e i)):=by
 refine Calls.mono ?_ fun _ _ h=>JE.old R h
 have R:=R.old;have HL:=aB (Jl hW i);have HP:aC (∀k,Tr.eT (Tr.bR T (Tr.aH T i)) (Tr.gX s T (Tr.aH T i))=k+1->Tr.fD s T b e i=Tr.nC s T b (k+1) i (Tr.aK s T b i)):=fun k h=>by unfold Tr.fD;rw[h,if_pos (by omega)]
 have HG:aC (Tr.eT (Tr.bR T (Tr.aH T i)) (Tr.gX s T (Tr.aH T i))=0->Tr.aW s T [[40]] i=true->Tr.fD s T b e i=Tr.nC s T b 14 i (Tr.thn (Tr.thn (Tr.aK s T b i) e) (Tr.aN s T b [41]))):=fun h h2=>by unfold Tr.fD;rw[h,if_neg (by omega),if_pos h2]
 have Gc:aC (Tr.eT (Tr.bR T (Tr.aH T i)) (Tr.gX s T (Tr.aH T i))=0->Tr.aW s T [[40]] i=false->Tr.aW s T [[91]] i=true->Tr.fD s T b e i=Tr.eH s T b e 13 [93] i):=fun h h2 h3=>by unfold Tr.fD;rw[h,if_neg (by omega),if_neg (by rw[h2];simp),if_pos h3]
 have HN:aC (Tr.eT (Tr.bR T (Tr.aH T i)) (Tr.gX s T (Tr.aH T i))=0->Tr.aW s T [[40]] i=false->Tr.aW s T [[91]] i=false->Tr.fD s T b e i=(.gap Tr.jN (Tr.bC s T b i) false,i)):=fun h h2 h3=>by unfold Tr.fD;rw[h,if_neg (by omega),if_neg (by rw[h2];simp),if_neg (by rw[h3];simp)]
 have hk:=qD X R;generalize Tr.fD s T b e i=r at *;generalize Tr.eT (Tr.bR T (Tr.aH T i)) (Tr.gX s T (Tr.aH T i))=lk at *;generalize Tr.bR T (Tr.aH T i)=kd at *;have his: ∀(x:Bs) (w':World),Below w.heap.size w w'->Calls aBS 130 #[pZZ g,.string ⟨x.toArray⟩] w' fun e' w''=>e'=.returned (.bool (Tr.aW s T [x] i))/\Below w.heap.size w w'':=fun x w' hd=>(jQ X (R.below hd) x).mono fun _ _ h=>⟨h.1,hd.trans (h.2.mono hd.size)⟩
 have dh:=his Tr.wC;have hno:=his Tr.qN;have Eh:=his [63];have UY:=his [40];have hlist:=his [91];clear his;generalize Tr.aW s T [Tr.wC] i=v1 at *;generalize Tr.aW s T [Tr.qN] i=v2 at *;generalize Tr.aW s T [[63]] i=v3 at *
 generalize Tr.aW s T [[40]] i=v4 at *
 generalize Tr.aW s T [[91]] i=v5 at *
 go_enter func240,ntmps240
 go_wp2_with fail;refine hk.mono ?_;clear hk;rintro e1 w1 ⟨rfl,rfl⟩;have dh:=dh w1 (aBU _ _);go_wp2_with fail;refine dh.mono ?_;clear dh;rintro e1 w2 ⟨rfl,hd⟩;have hno:=hno w2 hd;go_wp2_with fail;refine hno.mono ?_;clear hno hd;rintro e1 w3 ⟨rfl,hd⟩;have Eh:=Eh w3 hd;go_wp2_with fail;refine Eh.mono ?_;clear Eh hd;rintro e1 w4 ⟨rfl,hd⟩;have UY:=UY w4 hd;go_wp2_with fail;refine UY.mono ?_;clear UY hd;rintro e1 w5 ⟨rfl,hd⟩;have hlist:=hlist w5 hd;go_wp2_with fail;refine hlist.mono ?_;clear hlist hd;rintro e1 w6 ⟨rfl,hd⟩;have hA:=Kept.cZ (Kept.below hd R.dL) g;have R:=R.below hd;clear hd;have CW: ∀(w:World) (R:mO w (Old w1) g s T Ar c0 n i cut) (k:Nat),oK w (Old w) g w.heap.size k s T Ar c0 n i 0 cut ([],i) (w.alloc (.cells #[vZZ k,kZZ 0,.string ⟨#[]⟩,nZZ,kZZ 0,kZZ 0,kZZ 0,kZZ 0,.bool false] 93)):=fun w R k=>AU R k
 have hfin: ∀(w8:World) (hp0 k:Nat) (st:Tr.St) (e':Ending),e'=.returned (pZZ hp0)->∀{cc:Nat},oK w6 (Old w6) g hp0 k s T Ar c0 n i cc cut st w8->r=Tr.nC s T b k i st->JE w1 (Old w1) g s T Ar c0 n cut r e' w8:=fun w8 hp0 k st e' he cc S hr=>by
  have hA1:=hA.trans (S.A.old R.dL);have hR:=R.dH S.R (S.A.old R.dL);refine⟨hp0,he,hA1,?_,?_⟩
  ·rw[hr];have e2:Tr.eO (Tr.nC s T b k i st).1=Tr.dQ st.1:=by unfold Tr.nC;simp only[Tr.eO]
   rw[e2];exact hR
  ·rw[hr];exact(S.B.part (Tr.bC s T b i)).keep (aBT _) fun _ hF _=>⟨rfl,fun hk=>hF (R.dL _ hk)⟩
 by_cases k5:kd=5
 ·have HV:aC (r=Tr.nC s T b 15 i (Tr.aK s T b i)):=HP.o 14 (by rw[HL.o,if_pos k5]);clear HL HP HG Gc HN;subst k5;go_upto_region 28 with fail;have S:=CW w6 R 15;obtain⟨hp0,fB⟩:=dC w6.heap.size;rw[<-fB] at S;go_upto_region 29 with fail;rw[<-fB];clear fB;generalize w6.alloc _=w7 at *;have htk:=mJ b X S (by omega);rw[jO] at htk;clear S;go_wp2_with fail;refine htk.mono ?_;clear htk;rintro e1 w8 ⟨rfl,S⟩;go_wp2_with fail;go_ret;exact hfin w8 hp0 15 _ _ rfl S HV.o
 have e5:((kd:Int)==5)=false:=by simp;omega
 rw[if_neg k5] at HL;clear k5
 by_cases k6:kd=6
 ·have HV:aC (r=Tr.nC s T b 16 i (Tr.aK s T b i)):=HP.o 15 (by rw[HL.o,if_pos k6]);clear HL HP HG Gc HN e5;subst k6;go_upto_region 28 with fail;have S:=CW w6 R 16;obtain⟨hp0,fB⟩:=dC w6.heap.size;rw[<-fB] at S;go_upto_region 29 with fail;rw[<-fB];clear fB;generalize w6.alloc _=w7 at *;have htk:=mJ b X S (by omega);rw[jO] at htk;clear S;go_wp2_with fail;refine htk.mono ?_;clear htk;rintro e1 w8 ⟨rfl,S⟩;go_wp2_with fail;go_ret;exact hfin w8 hp0 16 _ _ rfl S HV.o
 have e6:((kd:Int)==6)=false:=by simp;omega
 rw[if_neg k6] at HL;clear k6
 by_cases k3:kd=3
 ·have HV:aC (r=Tr.nC s T b 18 i (Tr.aK s T b i)):=HP.o 17 (by rw[HL.o,if_pos k3]);clear HL HP HG Gc HN e5 e6;subst k3;go_upto_region 28 with fail;have S:=CW w6 R 18;obtain⟨hp0,fB⟩:=dC w6.heap.size;rw[<-fB] at S;go_upto_region 29 with fail;rw[<-fB];clear fB;generalize w6.alloc _=w7 at *;have htk:=mJ b X S (by omega);rw[jO] at htk;clear S;go_wp2_with fail;refine htk.mono ?_;clear htk;rintro e1 w8 ⟨rfl,S⟩;go_wp2_with fail;go_ret;exact hfin w8 hp0 18 _ _ rfl S HV.o
 have e3:((kd:Int)==3)=false:=by simp;omega
 rw[if_neg k3] at HL;clear k3;cases v1 with
 |true=>have HV:aC (r=Tr.nC s T b 17 i (Tr.aK s T b i)):=HP.o 16 (by rw[HL.o,if_pos rfl]);clear HL HP HG Gc HN;go_upto_region 28 with fail;have S:=CW w6 R 17;obtain⟨hp0,fB⟩:=dC w6.heap.size;rw[<-fB] at S;go_upto_region 29 with fail;rw[<-fB];clear fB;generalize w6.alloc _=w7 at *;have htk:=mJ b X S (by omega);rw[jO] at htk;clear S;go_wp2_with fail;refine htk.mono ?_;clear htk;rintro e1 w8 ⟨rfl,S⟩;go_wp2_with fail;go_ret;exact hfin w8 hp0 17 _ _ rfl S HV.o
 |false=>
 rw[if_neg (by simp)] at HL;cases v2 with
 |true=>have HV:aC (r=Tr.nC s T b 17 i (Tr.aK s T b i)):=HP.o 16 (by rw[HL.o,if_pos rfl]);clear HL HP HG Gc HN;go_upto_region 28 with fail;have S:=CW w6 R 17;obtain⟨hp0,fB⟩:=dC w6.heap.size;rw[<-fB] at S;go_upto_region 29 with fail;rw[<-fB];clear fB;generalize w6.alloc _=w7 at *;have htk:=mJ b X S (by omega);rw[jO] at htk;clear S;go_wp2_with fail;refine htk.mono ?_;clear htk;rintro e1 w8 ⟨rfl,S⟩;go_wp2_with fail;go_ret;exact hfin w8 hp0 17 _ _ rfl S HV.o
 |false=>
 rw[if_neg (by simp)] at HL;cases v3 with
 |true=>have HV:aC (r=Tr.nC s T b 19 i (Tr.aK s T b i)):=HP.o 18 (by rw[HL.o,if_pos rfl]);clear HL HP HG Gc HN;go_upto_region 28 with fail;have S:=CW w6 R 19;obtain⟨hp0,fB⟩:=dC w6.heap.size;rw[<-fB] at S;go_upto_region 29 with fail;rw[<-fB];clear fB;generalize w6.alloc _=w7 at *;have htk:=mJ b X S (by omega);rw[jO] at htk;clear S;go_wp2_with fail;refine htk.mono ?_;clear htk;rintro e1 w8 ⟨rfl,S⟩;go_wp2_with fail;go_ret;exact hfin w8 hp0 19 _ _ rfl S HV.o
 |false=>
 rw[if_neg (by simp)] at HL;have HG:=fun h=>HG.o HL.o h
 have Gc:=fun h=>Gc.o HL.o h
 have HN:=fun h=>HN.o HL.o h
 clear HP HL;cases v4 with
 |true=>have HV:=aB (HG rfl);clear HG Gc HN;have S:=CW w6 R 14;obtain⟨hp0,fB⟩:=dC w6.heap.size;rw[<-fB] at S;go_upto_region 20 with fail;rw[<-fB];clear fB;generalize w6.alloc _=w7 at *;have htk:=mJ b X S (by omega);rw[jO] at htk;clear S;go_wp2_with fail;refine htk.mono ?_;clear htk;rintro e1 w8 ⟨rfl,S⟩;have htk:=E.step X S (by omega);clear S;go_wp2_with fail;refine htk.mono ?_;clear htk;rintro e1 w9 ⟨rfl,S⟩;have htk:=nH b X S [41] (by omega);clear S;go_wp2_with fail;refine htk.mono ?_;clear htk;rintro e1 EA ⟨rfl,S⟩;go_wp2_with fail;go_ret;exact hfin EA hp0 14 _ _ rfl S HV.o
 |false=>
 have Gc:=Gc rfl;have HN:=HN rfl;clear HG;cases v5 with
 |true=>have HV:=aB (Gc rfl);clear Gc HN;have hls:Calls aBS 241 #[pZZ g,kZZ 13,.string ⟨#[93]⟩] w6 (JE w6 (Old w1) g s T Ar c0 n cut (Tr.eH s T b e 13 [93] i)):=KU b X E R 13 [93];rw[<-HV.o] at hls;clear hfin CW;go_wp2_with fail;refine hls.mono ?_;clear hls;intro e1 w7 h7;obtain⟨q,rfl,hA7,R7,hp7⟩:=h7;go_wp2_with fail;go_ret;exact⟨q,rfl,hA.trans hA7,R7,hp7⟩
 |false=>
  have HV:=aB (HN rfl);clear Gc HN hfin CW;have hd:=nR w6 (.cells #[kZZ 1,kZZ 0,.string ⟨#[101,120,112,114,101,115,115,105,111,110]⟩,nZZ,kZZ 0,kZZ 0,kZZ 0,kZZ 0,.bool false] 93);go_wp2_with fail;go_ret;have hgl: ∀x,Old w1 x->x<w6.heap.size:=fun x hx=>R.dL x hx
  rw[HV.o];refine⟨w6.heap.size,rfl,hA.trans (Kept.cZ (Kept.below hd R.dL) g),?_,[w6.heap.size],⟨w6.heap.size,rfl,rfl,fun hk=>Nat.lt_irrefl _ (hgl _ hk),aV.new _ _ _⟩,by simp⟩;have:=R.below hd
  rwa [show(cut||Tr.eO (Tr.PT.gap Tr.jN (Tr.bC s T b i) false))=cut from by simp[Tr.eO]]
end
section
variable{w:World}{K:Nat->Prop}{g:Nat}{s:Bs}{T:List Tk}{Ar:Option Addr}{c0 n i:Nat}{cut:Bool}{e:Nat->Tr.St}
theorem YF{kind:Nat}{st:Tr.St}(b:Nat)(X:FZ s T)(S:oK w0 K g h kind s T Ar c0 n i cc c1 st w)(hc:cc<=1000):
  Calls aBS 134 #[pZZ g,pZZ h] w fun e' w'=>e'=.returned (.tuple #[])/\oK w0 K g h kind s T Ar c0 n i (cc+1) c1 (Tr.thn st fun i=>Tr.aS (Tr.bB s T b i)) w':=
 (TU b X S.R S.B (by have:=S.len X hc;omega)).mono fun _ _ he=>S.step (f:=fun i=>Tr.aS (Tr.bB s T b i)) (Tr.oQ.one (Tr.qE s T b)) he
theorem R9(b:Nat){kind:Nat}{pts:List Tr.PT}(X:FZ s T)(hn:n=65)(R:mO w K g s T Ar c0 n i cut)(hb:Bn w K h kind pts)(hl:pts.length<=40000000):
  Calls aBS 135 #[pZZ g,pZZ h] w (lu w K g h kind s T Ar c0 n (cut||Tr.dQ (Tr.aS (Tr.aU s T b 0 i)).1) (Tr.thn (pts,i) fun i=>Tr.aS (Tr.aU s T b 0 i))):=by
 subst hn;obtain⟨i0,ji,iW,jz1,iV⟩:=info_parts tV;have HP:aC ((Tr.thn (pts,i) fun i=>Tr.aS (Tr.aU s T b 0 i))=(pts++[.gap Tr.jN (Tr.bC s T b i) true],i)):=rfl;have HD:aC ((cut||Tr.dQ (Tr.aS (Tr.aU s T b 0 i)).1)=true):=by show _=_;unfold Tr.aU Tr.aS;simp[Tr.dQ,Tr.eO]
 rw[HP.o,HD.o];clear HP HD;have his: ∀(x:Bs) (w':World),Below w.heap.size w w'->Calls aBS 130 #[pZZ g,.string ⟨x.toArray⟩] w' fun e' w''=>e'=.returned (.bool (Tr.aW s T [x] i))/\Below w.heap.size w w'':=fun x w' hd=>(jQ X (R.below hd) x).mono fun _ _ h=>⟨h.1,hd.trans (h.2.mono hd.size)⟩
 have hlet:=his Tr.tQ w (aBU _ _);have hif:=his Tr.XR;have hfun:=his Tr.wZ;clear his;generalize Tr.aW s T [Tr.tQ] i=v1 at *;generalize Tr.aW s T [Tr.XR] i=v2 at *;generalize Tr.aW s T [Tr.wZ] i=v3 at *
 go_enter func135,ntmps135
 go_wp2_with fail;refine hlet.mono ?_;clear hlet;rintro e1 w1 ⟨rfl,hd⟩;have hif:=hif w1 hd;go_wp2_with fail;refine hif.mono ?_;clear hif hd;rintro e1 w2 ⟨rfl,hd⟩;have hfun:=hfun w2 hd;go_wp2_with fail;refine hfun.mono ?_;clear hfun hd;rintro e1 w3 ⟨rfl,hd⟩;have hA:=Kept.cZ (Kept.below hd R.dL) g;have R:=R.below hd;have hb:=hb.below hd;clear hd;obtain⟨_,_,_,g3,g4⟩:=R.cells;have gf:=R.rd.frozen 4;have hA:=hA.set 4 (.bool true);have hb:=hb.cZ ((fG.refl (Old w3) g w3).set 4 (.bool true)) R.kg;have R:=R.cut_ true;go_upto_region 5 with fail;clear g3 g4 gf;generalize w3.setCell _ _=w4 at *;obtain⟨dB,A,c,vs,hb⟩:=hb;have o1:=hb.blk.cell 3;simp[iG] at o1;have xI:=hb.blk.lt;go_wp2_with (at_builtin;refine wpList_append_lies _ rfl _ _ 40 rfl 0 89 i0 _ 1 8 underlying40 ji iW jz1 iV rfl (by omega) (.slice A pts.length c) pts.length vs rfl ((hb.own.alloc (.cells #[kZZ 1,kZZ 0,.string ⟨#[101,120,112,114,101,115,115,105,111,110]⟩,nZZ,kZZ 0,kZZ 0,kZZ 0,kZZ 0,.bool false] 93)).alloc (.cells #[.pointer (some ⟨w4.heap.size,0,none⟩)] 89)) ⟨w4.heap.size+1,0,none⟩ 1 1 [.pointer (some ⟨w4.heap.size,0,none⟩)] rfl rfl (aCK (LJ w4 _ _)) (by simp[aCA]) (by omega) (by unfold maxLen;omega) (by omega) (aBZ _) (w4.heap.size+1+1) (by simp) ?_;intro gg cap' w5 hown5 hgrow hat lD;have kX:=AO (word:=Tr.jN) (pl:=Tr.bC s T b i) (d:=true) R hb hown5 hgrow hat;obtain⟨b1,bf,hB,hk,R5⟩:=kX);go_end0;exact⟨rfl,hA.trans (hk.cZ g),R5,hB⟩
theorem Q9(b f:Nat){kind:Nat}{pts:List Tr.PT}(X:FZ s T)(hn:n<=64)(E:qj 178 g s T Ar c0 n (fun i=>Tr.aS (Tr.aU s T b f i)))(L:xk g s T Ar c0 n 0 (Tr.jV s T b (fun i=>Tr.aS (Tr.aU s T b f i))))(R:mO w K g s T Ar c0 n i cut)(hb:Bn w K h kind pts)(hl:pts.length<=40000000):
  Calls aBS 135 #[pZZ g,pZZ h] w (lu w K g h kind s T Ar c0 n (cut||Tr.dQ (Tr.aS (Tr.aU s T b (f+1) i)).1) (Tr.thn (pts,i) fun i=>Tr.aS (Tr.aU s T b (f+1) i))):=by
 obtain⟨i0,ji,iW,jz1,iV⟩:=info_parts tV;have HS:aC (∀p j,Tr.aU s T b (f+1) i=(p,j)->(Tr.thn (pts,i) fun i=>Tr.aS (Tr.aU s T b (f+1) i))=(pts++[p],j)/\(cut||Tr.dQ (Tr.aS (Tr.aU s T b (f+1) i)).1)=(cut||Tr.eO p)):=fun p j h=>by unfold Tr.thn Tr.aS;dsimp only;rw[h];exact⟨rfl,by simp only[Tr.dQ,Bool.or_false]⟩
 generalize(Tr.thn (pts,i) fun i=>Tr.aS (Tr.aU s T b (f+1) i))=stx at *;generalize(cut||Tr.dQ (Tr.aS (Tr.aU s T b (f+1) i)).1)=aAp at *;have HE7:aC (Tr.aW s T [Tr.tQ] i=true->Tr.aU s T b (f+1) i=Tr.V4 s T b (fun i=>Tr.aS (Tr.aU s T b f i)) i):=fun h=>by rw[Tr.aU,if_pos h]
 have Ci:aC (Tr.aW s T [Tr.tQ] i=false->Tr.aW s T [Tr.XR] i=true->Tr.aU s T b (f+1) i=Tr.su s T b (fun i=>Tr.aS (Tr.aU s T b f i)) i):=fun h h2=>by rw[Tr.aU,if_neg (by rw[h];simp),if_pos h2]
 have WH:aC (Tr.aW s T [Tr.tQ] i=false->Tr.aW s T [Tr.XR] i=false->Tr.aW s T [Tr.wZ] i=true->Tr.aU s T b (f+1) i=Tr.o8 s T b (fun i=>Tr.aS (Tr.aU s T b f i)) i):=fun h h2 h3=>by rw[Tr.aU,if_neg (by rw[h];simp),if_neg (by rw[h2];simp),if_pos h3]
 have WI:aC (Tr.aW s T [Tr.tQ] i=false->Tr.aW s T [Tr.XR] i=false->Tr.aW s T [Tr.wZ] i=false->Tr.aU s T b (f+1) i=Tr.jV s T b (fun i=>Tr.aS (Tr.aU s T b f i)) i):=fun h h2 h3=>by rw[Tr.aU,if_neg (by rw[h];simp),if_neg (by rw[h2];simp),if_neg (by rw[h3];simp)]
 have his: ∀(x:Bs) (w':World),Below w.heap.size w w'->Calls aBS 130 #[pZZ g,.string ⟨x.toArray⟩] w' fun e' w''=>e'=.returned (.bool (Tr.aW s T [x] i))/\Below w.heap.size w w'':=fun x w' hd=>(jQ X (R.below hd) x).mono fun _ _ h=>⟨h.1,hd.trans (h.2.mono hd.size)⟩
 have hlet:=his Tr.tQ w (aBU _ _);have hif:=his Tr.XR;have hfun:=his Tr.wZ;clear his;generalize Tr.aW s T [Tr.tQ] i=v1 at *;generalize Tr.aW s T [Tr.XR] i=v2 at *;generalize Tr.aW s T [Tr.wZ] i=v3 at *
 go_enter func135,ntmps135
 go_wp2_with fail;refine hlet.mono ?_;clear hlet;rintro e1 w1 ⟨rfl,hd⟩;have hif:=hif w1 hd;go_wp2_with fail;refine hif.mono ?_;clear hif hd;rintro e1 w2 ⟨rfl,hd⟩;have hfun:=hfun w2 hd;go_wp2_with fail;refine hfun.mono ?_;clear hfun hd;rintro e1 w3 ⟨rfl,hd⟩;have hA:=Kept.cZ (Kept.below hd R.dL) g;have R:=R.below hd;have hb:=hb.below hd;clear hd;obtain⟨_,_,_,g3,g4⟩:=R.cells;have gf:=R.rd.frozen 4;have n64: ¬(64:Int)<(n:Int):=by omega
 have hend: ∀(wl:World) (hp0:Nat) {p:Tr.PT} {j:Nat} {kr:Bool},Bn w3 K h kind pts->mO w3 K g s T Ar c0 n i cut->fG K g w w3->fG (Old w3) g w3 wl->mO wl (Old w3) g s T Ar c0 n j kr->Rn wl (fun x=> ¬Old w3 x) p (pZZ hp0)->
   ∃dB A c vs,I8 wl K h kind pts dB A c vs/\fG K g w wl/\mO wl K g s T Ar c0 n j kr/\OE wl K h pts dB A c p (pZZ hp0)/\pts.length<=40000000:=fun wl hp0 p j kr hb R hA hA3 R3 hp=>by
  obtain⟨dB,A,c,vs,hb⟩:=hb;have nJ:=hA3.old R.dL;exact⟨dB,A,c,vs,hb.cZ hA3 R.kg (fun _ hx=>hx),hA.trans nJ,R.dH R3 nJ,OE.of hp R.dL hb,hl⟩
 cases v1 with
 |true=>have HE8:True:=trivial;have HE9:True:=trivial;have HE0:True:=trivial;clear Ci WH WI;have HV:aC (Tr.aU s T b (f+1) i=Tr.V4 s T b (fun i=>Tr.aS (Tr.aU s T b f i)) i):=HE7.o rfl;clear HE7 HE8 HE9 HE0;have S:=(AU R 0).turned 7;obtain⟨hp0,fB⟩:=dC w3.heap.size;rw[<-fB] at S;have hzb:aV (w3.alloc (.cells #[kZZ 0,kZZ 0,.string ⟨#[]⟩,nZZ,kZZ 0,kZZ 0,kZZ 0,kZZ 0,.bool false] 93)) hp0 93 #[kZZ 0,kZZ 0,.string ⟨#[]⟩,nZZ,kZZ 0,kZZ 0,kZZ 0,kZZ 0,.bool false]:=(by rw[fB];exact aV.new _ _ _);go_upto_region 7 with fail;rw[<-fB];clear fB;have S:oK w3 (Old w3) g hp0 7 s T Ar c0 n i 0 cut ([],i) ((w3.alloc (.cells #[kZZ 0,kZZ 0,.string ⟨#[]⟩,nZZ,kZZ 0,kZZ 0,kZZ 0,kZZ 0,.bool false] 93)).setCell ⟨hp0,0,none⟩ (kZZ 7)):=S;generalize w3.alloc _=w7 at *;have z0:=hzb.cell 0;have zf:=hzb.frozen 0;simp at z0;clear hzb;go_upto_region 9 with fail;clear z0 zf;generalize w7.setCell _ _=w8 at *;have htk:=mJ b X S (by omega);rw[jO] at htk;clear S;go_wp2_with fail;refine htk.mono ?_;clear htk;rintro e1 EA ⟨rfl,S⟩;have htk:=AX b X S (by omega);clear S;go_wp2_with fail;refine htk.mono ?_;clear htk;rintro e1 gB ⟨rfl,S⟩;have htk:=nH b X S [61] (by omega);clear S;go_wp2_with fail;refine htk.mono ?_;clear htk;rintro e1 K3 ⟨rfl,S⟩;have htk:=E.step X S (by omega);clear S;go_wp2_with fail;refine htk.mono ?_;clear htk;rintro e1 XC ⟨rfl,S⟩;have htk:=nH b X S Tr.O9 (by omega);clear S;go_wp2_with fail;refine htk.mono ?_;clear htk;rintro e1 Xq ⟨rfl,S⟩;have htk:=E.step X S (by omega);clear S;go_wp2_with fail;refine htk.mono ?_;clear htk;rintro e1 rA ⟨rfl,S⟩;have hpt:=S.B.part (Tr.bC s T b i);have hx:=hend rA hp0 hb R hA S.A S.R hpt;have hfin:=HS.o _ _ HV.o;have hcx:aAp=_:=hfin.2;simp only[Tr.eO] at hcx;have HF:=aB hfin.1;have HC:=aB hcx;clear S hpt hA R hb hfin hcx HV HS hend;obtain⟨dB,A,c,vs,hb,hA,R,hp,hl9⟩:=hx;have o1:=hb.blk.cell 3;simp[iG] at o1;have xI:=hb.blk.lt;go_wp2_with (at_builtin;refine wpList_append_lies _ rfl _ _ 40 rfl 0 89 i0 _ 1 8 underlying40 ji iW jz1 iV rfl (by omega) (.slice A pts.length c) pts.length vs rfl (hb.own.alloc (.cells #[pZZ hp0] 89)) ⟨rA.heap.size,0,none⟩ 1 1 [pZZ hp0] rfl rfl (aCK (heap_alloc_new rA _)) (by simp[aCA]) (by omega) (by unfold maxLen;omega) (by omega) (aBZ _) (rA.heap.size+1) (by simp) ?_;intro gg cap' w5 hown5 hgrow hat lD;obtain⟨b1,bf,hB,hk,R5⟩:=kV R hb hp hown5 hgrow hat);go_end0;rw[HF.o,HC.o];exact⟨rfl,hA.trans (hk.cZ g),R5,hB⟩
 |false=>
 have Ci:=Ci.o rfl;have WH:=WH.o rfl;have WI:=WI.o rfl;cases v2 with
 |true=>have HE8:=aB (fun h=>Ci h);have HE9:True:=trivial;have HE0:True:=trivial;clear Ci WH WI;have HV:aC (Tr.aU s T b (f+1) i=Tr.su s T b (fun i=>Tr.aS (Tr.aU s T b f i)) i):=HE8.o rfl;clear HE7 HE8 HE9 HE0;have S:=(AU R 0).turned 8;obtain⟨hp0,fB⟩:=dC w3.heap.size;rw[<-fB] at S;have hzb:aV (w3.alloc (.cells #[kZZ 0,kZZ 0,.string ⟨#[]⟩,nZZ,kZZ 0,kZZ 0,kZZ 0,kZZ 0,.bool false] 93)) hp0 93 #[kZZ 0,kZZ 0,.string ⟨#[]⟩,nZZ,kZZ 0,kZZ 0,kZZ 0,kZZ 0,.bool false]:=(by rw[fB];exact aV.new _ _ _);go_upto_region 7 with fail;rw[<-fB];clear fB;have S:oK w3 (Old w3) g hp0 8 s T Ar c0 n i 0 cut ([],i) ((w3.alloc (.cells #[kZZ 0,kZZ 0,.string ⟨#[]⟩,nZZ,kZZ 0,kZZ 0,kZZ 0,kZZ 0,.bool false] 93)).setCell ⟨hp0,0,none⟩ (kZZ 8)):=S;generalize w3.alloc _=w7 at *;have z0:=hzb.cell 0;have zf:=hzb.frozen 0;simp at z0;clear hzb;go_upto_region 17 with fail;clear z0 zf;generalize w7.setCell _ _=w8 at *;have htk:=mJ b X S (by omega);rw[jO] at htk;clear S;go_wp2_with fail;refine htk.mono ?_;clear htk;rintro e1 EA ⟨rfl,S⟩;have htk:=E.step X S (by omega);clear S;go_wp2_with fail;refine htk.mono ?_;clear htk;rintro e1 gB ⟨rfl,S⟩;have htk:=nH b X S Tr.uG (by omega);clear S;go_wp2_with fail;refine htk.mono ?_;clear htk;rintro e1 K3 ⟨rfl,S⟩;have htk:=E.step X S (by omega);clear S;go_wp2_with fail;refine htk.mono ?_;clear htk;rintro e1 XC ⟨rfl,S⟩;have htk:=nH b X S Tr.wD (by omega);clear S;go_wp2_with fail;refine htk.mono ?_;clear htk;rintro e1 Xq ⟨rfl,S⟩;have htk:=E.step X S (by omega);clear S;go_wp2_with fail;refine htk.mono ?_;clear htk;rintro e1 rA ⟨rfl,S⟩;have hpt:=S.B.part (Tr.bC s T b i);have hx:=hend rA hp0 hb R hA S.A S.R hpt;have hfin:=HS.o _ _ HV.o;have hcx:aAp=_:=hfin.2;simp only[Tr.eO] at hcx;have HF:=aB hfin.1;have HC:=aB hcx;clear S hpt hA R hb hfin hcx HV HS hend;obtain⟨dB,A,c,vs,hb,hA,R,hp,hl9⟩:=hx;have o1:=hb.blk.cell 3;simp[iG] at o1;have xI:=hb.blk.lt;go_wp2_with (at_builtin;refine wpList_append_lies _ rfl _ _ 40 rfl 0 89 i0 _ 1 8 underlying40 ji iW jz1 iV rfl (by omega) (.slice A pts.length c) pts.length vs rfl (hb.own.alloc (.cells #[pZZ hp0] 89)) ⟨rA.heap.size,0,none⟩ 1 1 [pZZ hp0] rfl rfl (aCK (heap_alloc_new rA _)) (by simp[aCA]) (by omega) (by unfold maxLen;omega) (by omega) (aBZ _) (rA.heap.size+1) (by simp) ?_;intro gg cap' w5 hown5 hgrow hat lD;obtain⟨b1,bf,hB,hk,R5⟩:=kV R hb hp hown5 hgrow hat);go_end0;rw[HF.o,HC.o];exact⟨rfl,hA.trans (hk.cZ g),R5,hB⟩
 |false=>
 have WH:=WH rfl;have WI:=WI rfl;cases v3 with
 |true=>have HE8:True:=trivial;have HE9:=aB (fun h=>WH h);have HE0:True:=trivial;clear Ci WH WI;have HV:aC (Tr.aU s T b (f+1) i=Tr.o8 s T b (fun i=>Tr.aS (Tr.aU s T b f i)) i):=HE9.o rfl;clear HE7 HE8 HE9 HE0;have S:=(AU R 0).turned 9;obtain⟨hp0,fB⟩:=dC w3.heap.size;rw[<-fB] at S;have hzb:aV (w3.alloc (.cells #[kZZ 0,kZZ 0,.string ⟨#[]⟩,nZZ,kZZ 0,kZZ 0,kZZ 0,kZZ 0,.bool false] 93)) hp0 93 #[kZZ 0,kZZ 0,.string ⟨#[]⟩,nZZ,kZZ 0,kZZ 0,kZZ 0,kZZ 0,.bool false]:=(by rw[fB];exact aV.new _ _ _);go_upto_region 7 with fail;rw[<-fB];clear fB;have S:oK w3 (Old w3) g hp0 9 s T Ar c0 n i 0 cut ([],i) ((w3.alloc (.cells #[kZZ 0,kZZ 0,.string ⟨#[]⟩,nZZ,kZZ 0,kZZ 0,kZZ 0,kZZ 0,.bool false] 93)).setCell ⟨hp0,0,none⟩ (kZZ 9)):=S;generalize w3.alloc _=w7 at *;have z0:=hzb.cell 0;have zf:=hzb.frozen 0;simp at z0;clear hzb;go_upto_region 25 with fail;clear z0 zf;generalize w7.setCell _ _=w8 at *;have htk:=mJ b X S (by omega);rw[jO] at htk;clear S;go_wp2_with fail;refine htk.mono ?_;clear htk;rintro e1 EA ⟨rfl,S⟩;have htk:=YF b X S (by omega);clear S;go_wp2_with fail;refine htk.mono ?_;clear htk;rintro e1 gB ⟨rfl,S⟩;have htk:=nH b X S [61,62] (by omega);clear S;go_wp2_with fail;refine htk.mono ?_;clear htk;rintro e1 K3 ⟨rfl,S⟩;have htk:=E.step X S (by omega);clear S;go_wp2_with fail;refine htk.mono ?_;clear htk;rintro e1 XC ⟨rfl,S⟩;have hpt:=S.B.part (Tr.bC s T b i);have hx:=hend XC hp0 hb R hA S.A S.R hpt;have hfin:=HS.o _ _ HV.o;have hcx:aAp=_:=hfin.2;simp only[Tr.eO] at hcx;have HF:=aB hfin.1;have HC:=aB hcx;clear S hpt hA R hb hfin hcx HV HS hend;obtain⟨dB,A,c,vs,hb,hA,R,hp,hl9⟩:=hx;have o1:=hb.blk.cell 3;simp[iG] at o1;have xI:=hb.blk.lt;go_wp2_with (at_builtin;refine wpList_append_lies _ rfl _ _ 40 rfl 0 89 i0 _ 1 8 underlying40 ji iW jz1 iV rfl (by omega) (.slice A pts.length c) pts.length vs rfl (hb.own.alloc (.cells #[pZZ hp0] 89)) ⟨XC.heap.size,0,none⟩ 1 1 [pZZ hp0] rfl rfl (aCK (heap_alloc_new XC _)) (by simp[aCA]) (by omega) (by unfold maxLen;omega) (by omega) (aBZ _) (XC.heap.size+1) (by simp) ?_;intro gg cap' w5 hown5 hgrow hat lD;obtain⟨b1,bf,hB,hk,R5⟩:=kV R hb hp hown5 hgrow hat);go_end0;rw[HF.o,HC.o];exact⟨rfl,hA.trans (hk.cZ g),R5,hB⟩
 |false=>have HV:=aB (WI rfl);clear HE7 Ci WH WI;have hd:=nR w3 (.cells #[kZZ 0,kZZ 0,.string ⟨#[]⟩,nZZ,kZZ 0,kZZ 0,kZZ 0,kZZ 0,.bool false] 93);have hA:=hA.trans (Kept.cZ (Kept.below hd R.dL) g);have R:=R.below hd;have hb:=hb.below hd;clear hd hend;go_upto_region 29 with fail;clear g3 g4 gf;generalize w3.alloc _=w4 at *;have hL:Calls aBS 179 #[pZZ g,kZZ 0] w4 (JE w4 (Old w4) g s T Ar c0 n cut (Tr.jV s T b (fun i=>Tr.aS (Tr.aU s T b f i)) i)):=L.calls w4 _ i _ R.old;have hfin:=HS.o (Tr.jV s T b (fun i=>Tr.aS (Tr.aU s T b f i)) i).1 (Tr.jV s T b (fun i=>Tr.aS (Tr.aU s T b f i)) i).2 HV.o;have HF:=aB hfin.1;have HC:=aB hfin.2;clear hfin HS HV;generalize Tr.jV s T b (fun i=>Tr.aS (Tr.aU s T b f i)) i=y at *;go_wp2_with fail;refine hL.mono ?_;clear hL;intro e1 w6 h6;obtain⟨hp0,rfl,zD,R6,hu⟩:=h6;obtain⟨dB,A,c,vs,hb⟩:=hb;have hp:=OE.of hu R.dL hb;have hb:=hb.cZ zD R.kg (fun _ hx=>hx);have zD:=zD.old R.dL;have R:=R.dH R6 zD;have hA:=hA.trans zD;clear zD R6 hu;have o1:=hb.blk.cell 3;simp[iG] at o1;have xI:=hb.blk.lt;go_wp2_with (at_builtin;refine wpList_append_lies _ rfl _ _ 40 rfl 0 89 i0 _ 1 8 underlying40 ji iW jz1 iV rfl (by omega) (.slice A pts.length c) pts.length vs rfl (hb.own.alloc (.cells #[pZZ hp0] 89)) ⟨w6.heap.size,0,none⟩ 1 1 [pZZ hp0] rfl rfl (aCK (heap_alloc_new w6 _)) (by simp[aCA]) (by omega) (by unfold maxLen;omega) (by omega) (aBZ _) (w6.heap.size+1) (by simp) ?_;intro gg cap' w5 hown5 hgrow hat lD;obtain⟨b1,bf,hB,hk,R5⟩:=kV R hb hp hown5 hgrow hat);go_end0;rw[HF.o,HC.o];exact⟨rfl,hA.trans (hk.cZ g),R5,hB⟩
theorem TW(b:Nat)(hcl:Calls aBS 220 #[pZZ g] w (JE w K g s T Ar c0 n cut (Tr.oG s T b e i))):
  Calls aBS 179 #[pZZ g,kZZ 3] w (JE w K g s T Ar c0 n cut (Tr.oG s T b e i)):=by
 generalize Tr.oG s T b e i=r at *
 go_enter func179,ntmps179
 go_wp2_with fail;refine hcl.mono ?_;clear hcl;intro e1 w1 h1;obtain⟨q,rfl,h2⟩:=h1;go_wp2_with fail;go_ret;exact⟨q,rfl,h2⟩
theorem QR(b:Nat)(X:FZ s T)(hW:yV s T): ∀(f n:Nat),n+f=65->qj 135 g s T Ar c0 n (fun i=>Tr.aS (Tr.aU s T b f i))
 |0,_,hn=>⟨Tr.DR s T b 0,fun _ _ _ _ _ _ _ R hb hl=>R9 b X (by omega) R hb hl⟩
 |f+1,n,hn=>by have E:=Q3 (by omega) (QR b X hW f (n+1) (by omega));have L3:xk g s T Ar c0 n 3 (Tr.oG s T b (fun i=>Tr.aS (Tr.aU s T b f i))):=⟨Tr.FX s T b E.SS,fun w K i cut R=>TW b (S9 b X E R (Q6 b X hW E R))⟩;have L0:=UA b X (TZ b X (TY b X L3));exact⟨Tr.DR s T b (f+1),fun _ _ _ _ _ _ _ R hb hl=>Q9 b f X (by omega) E L0 R hb hl⟩
end
section
variable{w:World}{K:Nat->Prop}{g:Nat}{s:Bs}{T:List Tk}{Ar:Option Addr}{c0 n i:Nat}{cut:Bool}
theorem KD{s:Bs}{T:List Tk}(hG:Tr.Good s T)(i:Nat):Tr.bR T (Tr.aH T i)=0↔¬Tr.aH T i<T.length:=by
 constructor
 ·intro h hlt;rw[Tr.tC T _ hlt] at h;have:=(hG.WK _ (aCR hlt)).2.1;omega
 ·intro h;exact Tr.mX T _ (by omega)
theorem XM{kind:Nat}{st:Tr.St}(X:FZ s T)(S:oK w0 K g h kind s T Ar c0 n i cc c1 st w):
  Calls aBS 129 #[pZZ g] w fun e w'=>e=.returned (.bool (Tr.fK s T st.2))/\oK w0 K g h kind s T Ar c0 n i cc c1 st w':=
 (TR X S.R).mono fun _ _ ⟨h1,h2⟩=>⟨h1,S.below h2⟩
theorem v_{kind:Nat}{st:Tr.St}(X:FZ s T)(S:oK w0 K g h kind s T Ar c0 n i cc c1 st w):
  Calls aBS 75 #[pZZ g] w fun e w'=>e=.returned (kZZ (Tr.bR T (Tr.aH T st.2):Int))/\oK w0 K g h kind s T Ar c0 n i cc c1 st w':=
 (qD X S.R).mono fun _ _ ⟨h1,h2⟩=>⟨h1,h2▸S⟩
theorem oK.zero {kind:Nat}{st:Tr.St}(S:oK w0 K g h kind s T Ar c0 n i cc c1 st w):oK w0 K g h kind s T Ar c0 0 i cc c1 st (w.setCell ⟨g,3,none⟩ (kZZ 0)):=
 ⟨S.A.set 3 _,S.R.deep 0,S.B.cZ ((fG.refl (Old w) g w).set 3 _) S.R.kg,S.ok⟩
theorem Q8(X:FZ s T)(hW:yV s T)(R:mO w K g s T Ar c0 0 i cut)(hi:Tr.aH T i<T.length):
  Calls aBS 76 #[pZZ g] w (JE w K g s T Ar c0 0 cut (Tr.dU s T i)):=by
 refine Calls.mono ?_ fun _ _ h=>JE.old R h
 have R:=R.old;obtain⟨b,hb⟩:=dC (Tr.dD s T i);have za:aC (Tr.fK s T i=true->Tr.dU s T i=Tr.gT s T b i):=fun h=>by unfold Tr.dU;rw[if_pos h,hb]
 have zb:aC (Tr.fK s T i=false->Tr.dU s T i=Tr.qQ s T b i):=fun h=>by unfold Tr.dU;rw[if_neg (by rw[h];simp),hb]
 clear hb;have S:oK w (Old w) g w.heap.size 5 s T Ar c0 0 i 0 cut ([],i) (w.alloc (.cells #[kZZ 5,kZZ 0,.string ⟨#[]⟩,nZZ,kZZ 0,kZZ 0,kZZ 0,kZZ 0,.bool false] 93)):=AU R 5;generalize Tr.dU s T i=r at *;have hfin: ∀(w8:World) (hp0 k cc:Nat) (st:Tr.St) (e':Ending),e'=.returned (pZZ hp0)->oK w (Old w) g hp0 k s T Ar c0 0 i cc cut st w8->r=Tr.nC s T b k i st->JE w (Old w) g s T Ar c0 0 cut r e' w8:=fun w8 hp0 k cc st e' he S hr=>by
  refine⟨hp0,he,S.A,?_,?_⟩
  ·rw[hr];have e2:Tr.eO (Tr.nC s T b k i st).1=Tr.dQ st.1:=by unfold Tr.nC;simp only[Tr.eO]
   rw[e2];exact S.R
  ·rw[hr];exact S.B.part (Tr.bC s T b i)
 obtain⟨hp0,fB⟩:=dC w.heap.size;rw[<-fB] at S;have HP: ∀y:Tr.St,y=Tr.dA s T b i->aC (Tr.gT s T b i=if Tr.aW s T [Tr.fZ] y.2 then Tr.nC s T b 3 i (Tr.nT s T b y)else Tr.nC s T b 4 i (Tr.oC s T b y)):=fun y hy=>by subst hy;show _=_;rfl
 clear R
 go_enter func76,ntmps76
 go_upto_region 2 with fail;rw[<-fB];clear fB;generalize w.alloc _=w1 at *;have hst:=XM X S;clear S;have Hi:=aB hi;clear hi;dsimp only at hst;generalize hvs:Tr.fK s T i=vs at *;go_wp2_with fail;refine hst.mono ?_;clear hst;rintro e1 w2 ⟨rfl,S⟩;cases vs with
 |false=>
  have HV:=aB (zb.o rfl);clear za zb HP;have hj0:=Tr.vL s T b false ([],i) S.ok.2.1 ⟨rfl,Hi.o,hvs⟩;have HJ:aC (r=Tr.nC s T b 5 i (Tr.fM s T b (T.length+1) (Tr.aW s T [[59]] i) (Tr.thn ([],i) (Tr.aK s T b)))):=by show _=_;rw[HV.o];unfold Tr.qQ;rw[hj0]
  clear hj0 HV hvs;go_wp2_with fail
  go_loopg [4,5,6] (T.length-i) (fun q v u z wr=> ∃y:Tr.St,T.length-y.2<=q/\aC (Tr.aH T y.2<T.length)/\aC (r=Tr.nC s T b 5 i (Tr.fM s T b (T.length+1) (Tr.aW s T [[59]] y.2) (Tr.thn y (Tr.aK s T b))))/\oK w (Old w) g hp0 5 s T Ar c0 0 i 0 cut y wr)
  case atStart=>exact⟨([],i),aBT _,Hi,HJ,S⟩
  case round=>
   clear S HJ Hi;obtain⟨y,hq,Hi,HJ,S⟩:=hrel;have his:=MB X S [59];have hadv:=Tr.iO s T b y S.ok.2.1 Hi.o;generalize Tr.aW s T [[59]] y.2=v1 at *
   clear S;go_wp2_with fail;refine his.mono ?_;clear his;rintro e1 w3 ⟨rfl,S⟩;have htk:=mJ b X S (by omega);clear S;generalize Tr.thn y (Tr.aK s T b)=z at *;obtain⟨hz1,hz2,hz3⟩:=hadv;have Hz1:=aB hz1;clear hz1 hz3;go_wp2_with fail;refine htk.mono ?_;clear htk;rintro e1 w4 ⟨rfl,S⟩;have hkd:=v_ X S;clear S;have HK:=aB (KD X.good z.2);generalize Tr.bR T (Tr.aH T z.2)=kd at *;go_wp2_with fail;refine hkd.mono ?_;clear hkd;rintro e1 w5 ⟨rfl,S⟩;have hst:=XM X S;clear S;have HS:aC (v1=false->Tr.aH T z.2<T.length->Tr.fK s T z.2=false->r=Tr.nC s T b 5 i (Tr.fM s T b (T.length+1) (Tr.aW s T [[59]] z.2) (Tr.thn z (Tr.aK s T b)))):=fun h1 h2 h3=>by rw[HJ.o,Tr.vL s T b v1 z hz2 ⟨h1,h2,h3⟩]
   have HE:aC (¬(v1=false/\Tr.aH T z.2<T.length/\Tr.fK s T z.2=false)->r=Tr.nC s T b 5 i z):=fun h=>(by rw[HJ.o,Tr.LU s T b v1 z h]);clear HJ;generalize Tr.fK s T z.2=v2 at *;go_wp2_with fail;refine hst.mono ?_;clear hst;rintro e1 w6 ⟨rfl,S⟩;cases v1 with
   |true=>have HV:=aB (HE.o (fun h=>by simp at h));clear HE HS HK;go_wp2_with fail;go_ret;exact hfin w6 hp0 5 _ z _ rfl S HV.o
   |false=>
   cases v2 with
   |true=>have HV:=aB (HE.o (fun h=>by simp at h));clear HE HS HK;go_wp2_with fail;go_ret;exact hfin w6 hp0 5 _ z _ rfl S HV.o
   |false=>
   by_cases k0:kd=0
   ·have HV:=aB (HE.o (fun h=>(HK.o.1 k0) h.2.1));clear HE HS HK;subst k0;go_wp2_with fail;go_ret;exact hfin w6 hp0 5 _ z _ rfl S HV.o
   ·have hnx:Tr.aH T z.2<T.length:=Classical.byContradiction fun h=>k0 (HK.o.2 h)
    have HJ:=aB (HS.o rfl hnx rfl);have Hnx:=aB hnx;have e0:((kd:Int)==0)=false:=(by simp;omega);clear HE HS HK k0 hnx hfin;go_wp2_with fail
    go_roundg (T.length-z.2)
    case rel=>exact⟨z,aBT _,Hnx,HJ,S⟩
    case measure=>have:=Hz1.o;omega
 |true=>
  have HV:=aB (za.o rfl);clear za zb hvs Hi;obtain⟨_,_,_,g3,_⟩:=S.R.cells;have gf:=S.R.rd.frozen 3;have S:=S.zero;go_upto_region 11 with fail;clear g3 gf;generalize w2.setCell _ _=w3 at *;have his:=MB X S Tr.gL;clear S;have Mv:aC (Tr.aW s T [Tr.gL] i=true->Tr.thn ([],i) (Tr.aK s T b)=Tr.dA s T b i):=fun h=>by unfold Tr.dA;rw[if_pos h,jO]
  have ny:aC (Tr.aW s T [Tr.gL] i=false->([],i)=Tr.dA s T b i):=fun h=>(by unfold Tr.dA;rw[if_neg (by rw[h];simp)]);have HP:=HP _ rfl;generalize Tr.dA s T b i=pb at *;dsimp only at his;generalize Tr.aW s T [Tr.gL] i=v1 at *;go_wp2_with fail;refine his.mono ?_;clear his;rintro e1 w4 ⟨rfl,S⟩;go_upto_if 40 with fail
  go_cut [40] (fun _ wc=>oK w (Old w) g hp0 5 s T Ar c0 0 i 0 cut pb wc)
  case first=>
   cases v1 with
   |true=>have h:=Mv.o rfl;have htk:=mJ b X S (by omega);rw[h] at htk;clear S Mv ny h;go_wp2_with fail;refine htk.mono ?_;clear htk;rintro e1 w5 ⟨rfl,S⟩;go_wp2_with fail;go_meet;exact S
   |false=>have h:=ny.o rfl;rw[h] at S;clear Mv ny h;go_wp2_with fail;go_meet;exact S
  case rest=>
  clear S Mv ny;have S:=hcut;clear hcut;have his:=MB X S Tr.fZ;clear S;generalize Tr.aW s T [Tr.fZ] pb.2=v2 at *;go_wp2_with fail;refine his.mono ?_;clear his;rintro e1 w5 ⟨rfl,S⟩;cases v2 with
  |true=>
   have Nh:aC (r=Tr.nC s T b 3 i (Tr.nT s T b pb)):=(by show _=_;rw[HV.o,HP.o];rfl);clear HV HP;obtain⟨dB,A,c,vs,hb⟩:=S.B;have z0:=hb.blk.cell 0;have zf:=hb.blk.frozen 0;simp[iG] at z0;have S:=S.turned 3;clear hb;go_upto_region 17 with fail;have S:oK w (Old w) g hp0 3 s T Ar c0 0 i 0 cut pb (w5.setCell ⟨hp0,0,none⟩ (kZZ 3)):=S;clear z0 zf;generalize w5.setCell _ _=w6 at *;have htk:=nH b X S Tr.fZ (by omega);clear S;go_wp2_with fail;refine htk.mono ?_;clear htk;rintro e1 w7 ⟨rfl,S⟩;have htk:=AX b X S (by omega);clear S;go_wp2_with fail;refine htk.mono ?_;clear htk;rintro e1 w8 ⟨rfl,S⟩;have htk:=nH b X S [46] (by omega);clear S;go_wp2_with fail;refine htk.mono ?_;clear htk;rintro e1 w9 ⟨rfl,S⟩;have htk:=AX b X S (by omega);clear S;go_wp2_with fail;refine htk.mono ?_;clear htk;rintro e1 EA ⟨rfl,S⟩;have HU:aC (Tr.nT s T b pb=Tr.thn (if Tr.aW s T [Tr.wE] (Tr.thn (Tr.thn (Tr.thn (Tr.thn pb (Tr.aN s T b Tr.fZ)) (Tr.aQ s T b)) (Tr.aN s T b [46])) (Tr.aQ s T b)).2 then Tr.thn (Tr.thn (Tr.thn (Tr.thn (Tr.thn (Tr.thn pb (Tr.aN s T b Tr.fZ)) (Tr.aQ s T b)) (Tr.aN s T b [46])) (Tr.aQ s T b)) (Tr.aK s T b)) (Tr.aQ s T b)else(Tr.thn (Tr.thn (Tr.thn (Tr.thn pb (Tr.aN s T b Tr.fZ)) (Tr.aQ s T b)) (Tr.aN s T b [46])) (Tr.aQ s T b))) (Tr.aN s T b [59])):=rfl;generalize(Tr.thn (Tr.thn (Tr.thn (Tr.thn pb (Tr.aN s T b Tr.fZ)) (Tr.aQ s T b)) (Tr.aN s T b [46])) (Tr.aQ s T b))=u at *;have WB:aC (Tr.aW s T [Tr.wE] u.2=true->Tr.thn (Tr.thn u (Tr.aK s T b)) (Tr.aQ s T b)=(if Tr.aW s T [Tr.wE] u.2 then Tr.thn (Tr.thn u (Tr.aK s T b)) (Tr.aQ s T b)else u)):=fun h=>by rw[if_pos h]
   have WC:aC (Tr.aW s T [Tr.wE] u.2=false->u=(if Tr.aW s T [Tr.wE] u.2 then Tr.thn (Tr.thn u (Tr.aK s T b)) (Tr.aQ s T b)else u)):=fun h=>(by rw[if_neg (by rw[h];simp)]);generalize(if Tr.aW s T [Tr.wE] u.2 then Tr.thn (Tr.thn u (Tr.aK s T b)) (Tr.aQ s T b)else u)=u2 at *;have his:=MB X S Tr.wE;clear S;generalize Tr.aW s T [Tr.wE] u.2=v3 at *;go_wp2_with fail;refine his.mono ?_;clear his;rintro e1 gB ⟨rfl,S⟩;go_upto_if 64 with fail
   go_cut [64] (fun _ wc=>oK w (Old w) g hp0 3 s T Ar c0 0 i 100 cut u2 wc)
   case first=>
    cases v3 with
    |true=>have h:=WB.o rfl;clear WB WC;have htk:=mJ b X S (by omega);clear S;go_wp2_with fail;refine htk.mono ?_;clear htk;rintro e1 K3 ⟨rfl,S⟩;have htk:=AX b X S (by omega);rw[h] at htk;clear S h;go_wp2_with fail;refine htk.mono ?_;clear htk;rintro e1 XC ⟨rfl,S⟩;go_wp2_with fail;go_meet;exact S.mono (by omega)
    |false=>have h:=WC.o rfl;rw[h] at S;clear WB WC h;go_wp2_with fail;go_meet;exact S.mono (by omega)
   case rest=>
   clear S WB WC;have S:=hcut;clear hcut;have htk:=nH b X S [59] (by omega);clear S;go_wp2_with fail;refine htk.mono ?_;clear htk;rintro e1 K3 ⟨rfl,S⟩;rw[<-HU.o] at S;go_wp2_with fail;go_ret;exact hfin _ hp0 3 _ _ _ rfl S Nh.o
  |false=>
   have Nh:aC (r=Tr.nC s T b 4 i (Tr.oC s T b pb)):=(by show _=_;rw[HV.o,HP.o];rfl);clear HV HP;obtain⟨dB,A,c,vs,hb⟩:=S.B;have z0:=hb.blk.cell 0;have zf:=hb.blk.frozen 0;simp[iG] at z0;have S:=S.turned 4;clear hb;go_upto_region 28 with fail;have S:oK w (Old w) g hp0 4 s T Ar c0 0 i 0 cut pb (w5.setCell ⟨hp0,0,none⟩ (kZZ 4)):=S;clear z0 zf;generalize w5.setCell _ _=w6 at *;have htk:=nH b X S Tr.iP (by omega);clear S;go_wp2_with fail;refine htk.mono ?_;clear htk;rintro e1 w7 ⟨rfl,S⟩;have htk:=AX b X S (by omega);clear S;go_wp2_with fail;refine htk.mono ?_;clear htk;rintro e1 w8 ⟨rfl,S⟩;have HU:aC (Tr.oC s T b pb=Tr.thn (Tr.thn (Tr.thn (if Tr.aW s T [[40]] (Tr.thn (Tr.thn pb (Tr.aN s T b Tr.iP)) (Tr.aQ s T b)).2 then Tr.thn (Tr.thn (Tr.thn pb (Tr.aN s T b Tr.iP)) (Tr.aQ s T b)) (fun i=>Tr.aS (Tr.bB s T b i))else(Tr.thn (Tr.thn pb (Tr.aN s T b Tr.iP)) (Tr.aQ s T b))) (Tr.aN s T b [61])) (fun i=>Tr.aS (Tr.aU s T b 65 i))) (Tr.aN s T b [59])):=rfl
   generalize(Tr.thn (Tr.thn pb (Tr.aN s T b Tr.iP)) (Tr.aQ s T b))=u at *;have WB:aC (Tr.aW s T [[40]] u.2=true->Tr.thn u (fun i=>Tr.aS (Tr.bB s T b i))=(if Tr.aW s T [[40]] u.2 then Tr.thn u (fun i=>Tr.aS (Tr.bB s T b i))else u)):=fun h=>by rw[if_pos h]
   have WC:aC (Tr.aW s T [[40]] u.2=false->u=(if Tr.aW s T [[40]] u.2 then Tr.thn u (fun i=>Tr.aS (Tr.bB s T b i))else u)):=fun h=>by rw[if_neg (by rw[h];simp)]
   generalize(if Tr.aW s T [[40]] u.2 then Tr.thn u (fun i=>Tr.aS (Tr.bB s T b i))else u)=u2 at *
   have his:=MB X S [40];clear S;generalize Tr.aW s T [[40]] u.2=v3 at *
   go_wp2_with fail;refine his.mono ?_;clear his;rintro e1 gB ⟨rfl,S⟩;go_upto_if 86 with fail
   go_cut [86] (fun _ wc=>oK w (Old w) g hp0 4 s T Ar c0 0 i 100 cut u2 wc)
   case first=>
    cases v3 with
    |true=>have h:=WB.o rfl;clear WB WC;have htk:=YF b X S (by omega);rw[h] at htk;clear S h;go_wp2_with fail;refine htk.mono ?_;clear htk;rintro e1 XC ⟨rfl,S⟩;go_wp2_with fail;go_meet;exact S.mono (by omega)
    |false=>have h:=WC.o rfl;rw[h] at S;clear WB WC h;go_wp2_with fail;go_meet;exact S.mono (by omega)
   case rest=>
   clear S WB WC;have S:=hcut;clear hcut;have htk:=nH b X S [61] (by omega);clear S;go_wp2_with fail;refine htk.mono ?_;clear htk;rintro e1 K3 ⟨rfl,S⟩;have htk:=(QR (s:=s) (T:=T) (g:=g) (Ar:=Ar) (c0:=c0) b X hW 65 0 (by omega)).step X S (by omega);clear S;go_wp2_with fail;refine htk.mono ?_;clear htk;rintro e1 XC ⟨rfl,S⟩;have htk:=nH b X S [59] (by omega);clear S;go_wp2_with fail;refine htk.mono ?_;clear htk;rintro e1 Xq ⟨rfl,S⟩;rw[<-HU.o] at S;go_wp2_with fail;go_ret;exact hfin _ hp0 4 _ _ _ rfl S Nh.o
end
end Go.Proofs.YtcjjfeephaddcaaGreatDoor
