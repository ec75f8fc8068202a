import Derived.Test.YtcjjfeephaddcaaGreatDoorJay
set_option linter.all false
open Bool renaming eq_iff_iff->aEH
open Go.Proofs.Tryz renaming prog->aBS
open Go.RowKit.Below renaming refl->aBU
open List renaming getElem?_eq_getElem->aBY,length_drop->aCB,drop_eq_getElem_cons->aDE,length->aDG,drop_drop->aDP,mem_map->aDQ,takeWhile_cons->aDW,drop_length->aEG,contains_iff_mem->aFE
open Nat renaming le_refl->aBT,lt_or_ge->aCN
open UInt8 renaming ofNat->aET
set_option maxHeartbeats 64000000
set_option maxRecDepth 100000
open Go.Proofs.Tryz
namespace Go.Proofs.YtcjjfeephaddcaaGreatDoor
open Go.RowKit
variable{c:Nat}
theorem Pq(c:Nat)(h:128<=c):Lx.cO c=false:=by unfold Lx.cO;simp;omega
theorem Um(c:Nat)(h:128<=c):Lx.cB c=false:=by unfold Lx.cB;simp;omega
theorem Oy{s:Bs}{k:Nat}(p:UInt8->Bool)(h:k<s.length)(hp:p s[k]=true):((s.drop k).takeWhile p).length=((s.drop (k+1)).takeWhile p).length+1:=by
 rw[aDE h,aDW,if_pos hp];rfl
theorem TK{s:Bs}{k:Nat}(p:UInt8->Bool)(h:k<s.length)(hp:p s[k]=false):((s.drop k).takeWhile p).length=0:=by
 rw[aDE h,aDW,if_neg (by simp[hp])];rfl
theorem N7(s:Bs)(p:UInt8->Bool):((s.drop s.length).takeWhile p).length=0:=by rw[aEG];rfl
theorem O4(b:UInt8):Lx.cO b.toNat=(decide (b=9)||decide (b=10)||decide (b=13)||decide (b=32)):=by
 have h: ∀i:Fin 256,Lx.cO (aET i.val).toNat=(decide (aET i.val=9)||decide (aET i.val=10)||decide (aET i.val=13)||decide (aET i.val=32)):=by decide+kernel
 have:=h ⟨b.toNat,b.toNat_lt⟩;simpa using this
theorem Mc(l:Bs)(k:Nat):aF l k<256:=by unfold aF;exact UInt8.toNat_lt _
theorem dec_lt(l:Bs):(dec l).1<100000000:=by
 have h0:=Mc l 0;have hr:Utf8.runeError<100000000:=by decide
 unfold dec;split
 ·show aF l 0<_;omega
 split
 ·split
  ·show(aF l 0%32)*64+aF l 1%64<_;omega
  ·exact hr
 split
 ·split
  ·show(aF l 0%16)*4096+(aF l 1%64)*64+aF l 2%64<_;omega
  ·exact hr
 split
 ·split
  ·show(aF l 0%8)*262144+(aF l 1%64)*4096+(aF l 2%64)*64+aF l 3%64<_;omega
  ·exact hr
 ·exact hr
theorem O3(h:Lx.cO c=true):c=9\/c=10\/c=13\/c=32:=by
 unfold Lx.cO at h;simp at h;omega
theorem uD(h:Lx.cO c=false):c≠9/\c≠10/\c≠13/\c≠32:=by
 unfold Lx.cO at h;simp at h;omega
theorem BJ(h:Lx.cB c=true):48<=c/\c<=57:=by
 unfold Lx.cB at h;simp at h;omega
theorem FV(h:Lx.cB c=false):c<48\/57<c:=by
 unfold Lx.cB at h;simp at h;omega
def UF(i:Nat)(x:Nat×Nat):Value:=.agg #[kZZ x.1,kZZ i,kZZ x.2]
theorem iC(i:Nat)(x:Nat×Nat)(a b:Int)(h1:a=x.1)(h2:b=x.2):Ending.returned (.agg #[kZZ a,kZZ i,kZZ b])=.returned (UF i x):=by subst h1 h2;rfl
theorem w_:(aBS.info? 149).map (fun i=>(i.zero,i.size,i.bytes))=some (some (.agg #[kZZ 0,kZZ 0,kZZ 0]),3,24):=by kernel_rfl
theorem Gx(l:Bs)(hne:l≠ []):Lx.qP l=if([61,62].isPrefixOf l|| [61,61].isPrefixOf l|| [43,43].isPrefixOf l)=true then 2 else if(dec l).1∈Lx.signs.map UInt8.toNat then 1 else 0:=by
 unfold Lx.qP Lx.Yt
 by_cases h:([61,62].isPrefixOf l|| [61,61].isPrefixOf l|| [43,43].isPrefixOf l)=true
 ·rw[if_pos h,if_pos h]
 ·rw[if_neg h,if_neg h];cases l with
  |nil=>exact absurd rfl hne
  |cons a t=>
   have hb:aF (a::t) 0=a.toNat:=rfl;have e:Lx.signs.contains a=decide ((dec (a::t)).1∈Lx.signs.map UInt8.toNat):=by
    rcases aCN a.toNat 128 with h1|h1
    ·rw[FW (by rw[hb];exact h1),hb,aEH];simp only[aFE,decide_eq_true_eq,aDQ];exact⟨fun h=>⟨a,h,rfl⟩,fun⟨x,hx,he⟩=>by rw[<-UInt8.toNat_inj.1 he];exact hx⟩
    ·have h2:=VN (l:=a::t) (by rw[hb];exact h1);have hs: ∀x∈Lx.signs,x.toNat<128:=(by decide);rw[aEH];simp only[aFE,decide_eq_true_eq,aDQ];constructor
     ·intro h;have:=hs a h;omega
     ·rintro⟨x,hx,he⟩;have:=hs x hx;omega
   simp only[e,decide_eq_true_eq]
theorem Yz(j:Nat)(hj:j<13)(c:Nat):((c:Int)==wrap64 ((((⟨#[40,41,91,93,44,59,61,60,43,45,42,46,63]⟩:ByteArray)[j]'hj).toNat:Nat):Int))=decide ((Lx.signs[j]?.getD 0).toNat=c):=by
 have gq:j<Lx.signs.length:=hj;have e:((⟨#[40,41,91,93,44,59,61,60,43,45,42,46,63]⟩:ByteArray)[j]'hj)=Lx.signs[j]:=rfl;have hlt:=(Lx.signs[j]).toNat_lt;rw[e,IntWalk.wrap64_in _ (by omega),aBY gq,aEH];simp;omega
section
variable(s:Bs)(i:Nat)(w:World)
abbrev wT(w:World):World:=w.alloc (.cells #[kZZ 0,kZZ 0,kZZ 0] 149)
theorem Jd(hi:i<s.length)(hl:s.length<=100000000)(hS:Lx.cO (dec (s.drop i)).1=true):
  Calls aBS 115 #[.string ⟨s.toArray⟩,kZZ i] w fun e w'=>e=.returned (UF i (1,Lx.run Lx.cO (s.drop i)))/\Below w.heap.size w w':=by
 have hd:=fun w=>pV s i hi w
 have hlt:=fun w=>iY (dec (s.drop i)).1 (dec_lt _) w
 have hb1:Below w.heap.size w (wT w):=(aBU _ _).alloc (aBT _) _;have hB1:aV (wT w) w.heap.size 149 #[kZZ 0,kZZ 0,kZZ 0]:=aV.new _ _ _;have i0:=iZ i;have i1:=jJ i s.length;have i2:(i:Int)<=(s.length:Int):=by omega
 have z0:=hB1.cell 0;have z1:=hB1.cell 1;have z2:=hB1.cell 2;have f0:=hB1.frozen 0;have f1:=hB1.frozen 1;have f2:=hB1.frozen 2;simp at z0 z1 z2;have HR:aC (Lx.run Lx.cO (s.drop i)=((s.drop i).takeWhile fun b=>Lx.cO b.toNat).length):=Lx.EY _ Pq _;generalize Lx.run Lx.cO (s.drop i)=R at *;generalize dec (s.drop i)=D at *;obtain⟨c,z⟩:=D;simp only at *;have hw:=O3 hS;clear hS;rcases hw with rfl|rfl|rfl|rfl
 all_goals
  go_enter func115,ntmps115
  go_wp2_with fail;refine(hd _).mono ?_;rintro e w1 ⟨rfl,rfl⟩;go_wp2_with fail;refine(hlt _).mono ?_;rintro e w1 ⟨rfl,rfl⟩;go_wp2_with fail
  go_loop [8] (fun kv=> ∃k:Nat,kv=kZZ k/\i<=k/\k<=s.length/\aC (R=(k-i)+((s.drop k).takeWhile fun b=>Lx.cO b.toNat).length)) (fun kv=>s.length-(intOf kv).toNat)
  case atStart=>exact⟨i,rfl,by omega,by omega,by show _=_;rw[HR.o];omega⟩
  case round=>
   obtain⟨k,rfl,hk1,hk2,H⟩:=hrel
   by_cases hlt:k<s.length
   ·have j0:=iZ k;have j1:=jJ k s.length;have e9:=jH s k hlt 9;have e10:=jH s k hlt 10;have e13:=jH s k hlt 13;have e32:=jH s k hlt 32
    try unfold vZZ at e9
    rw[show(((9:UInt8).toNat:Nat):Int)=9 from rfl] at e9
    try unfold vZZ at e10
    rw[show(((10:UInt8).toNat:Nat):Int)=10 from rfl] at e10
    try unfold vZZ at e13
    rw[show(((13:UInt8).toNat:Nat):Int)=13 from rfl] at e13
    try unfold vZZ at e32
    rw[show(((32:UInt8).toNat:Nat):Int)=32 from rfl] at e32;have hsp:=O4 s[k];have rZ:aC (Lx.cO s[k].toNat=true->R=(k+1-i)+((s.drop (k+1)).takeWhile fun b=>Lx.cO b.toNat).length):=fun h=>by have:=H.o;rw[Oy _ hlt h] at this;omega
    have Hno:aC (Lx.cO s[k].toNat=false->R=k-i):=fun h=>(by have:=H.o;rw[TK _ hlt h] at this;omega);generalize decide (s[k]=9)=q9 at *;generalize decide (s[k]=10)=wF at *;generalize decide (s[k]=13)=q13 at *;generalize decide (s[k]=32)=q32 at *;generalize Lx.cO s[k].toNat=Q at *;have hw:(q9=true/\Q=true)\/(q9=false/\wF=true/\Q=true)\/(q9=false/\wF=false/\q13=true/\Q=true)\/(q9=false/\wF=false/\q13=false/\q32=true/\Q=true)\/(q9=false/\wF=false/\q13=false/\q32=false/\Q=false):=(by clear e9 e10 e13 e32 rZ Hno;revert hsp;cases q9<;>cases wF<;>cases q13<;>cases q32<;>simp);clear hsp H HR;rcases hw with ⟨rfl,rfl⟩|⟨rfl,rfl,rfl⟩|⟨rfl,rfl,rfl,rfl⟩|⟨rfl,rfl,rfl,rfl,rfl⟩|⟨rfl,rfl,rfl,rfl,rfl⟩
    iterate 4
     ·have Hn:=aB (rZ.o rfl);clear rZ Hno;go_wp2_with fail
      go_round
      case rel=>exact⟨k+1,by go_num,by omega,by omega,Hn.o⟩
      case measure=>simp[intOf];omega
    ·have Hn:=aB (Hno.o rfl);clear rZ Hno;go_wp2_with fail;have hB3:aV (w.alloc (.cells #[kZZ 1,kZZ i,kZZ ((k:Int)-i)] 149)) w.heap.size 149 #[kZZ 1,kZZ i,kZZ ((k:Int)-i)]:=aV.new _ _ _;have hb3:=nR w (.cells #[kZZ 1,kZZ i,kZZ ((k:Int)-i)] 149);exact bodyPost_ret (v:=.agg #[kZZ 1,kZZ i,kZZ ((k:Int)-i)]) (results_cell_row (hu:=underlying149) (h:=rfl) (hp:=rfl) (hg:=hB3) (hd:=rfl) (hi:=by kernel_rfl)) rfl ⟨iC i _ _ _ rfl (by have:=Hn.o;show _=((R:Nat):Int);omega),hb3⟩
   ·obtain rfl:k=s.length:=(by omega);have Hn:aC (R=s.length-i):=(by show R=_;have:=H.o;rw[N7] at this;omega);clear H HR;go_wp2_with fail;have hB3:aV (w.alloc (.cells #[kZZ 1,kZZ i,kZZ ((s.length:Int)-i)] 149)) w.heap.size 149 #[kZZ 1,kZZ i,kZZ ((s.length:Int)-i)]:=aV.new _ _ _;have hb3:=nR w (.cells #[kZZ 1,kZZ i,kZZ ((s.length:Int)-i)] 149);exact bodyPost_ret (v:=.agg #[kZZ 1,kZZ i,kZZ ((s.length:Int)-i)]) (results_cell_row (hu:=underlying149) (h:=rfl) (hp:=rfl) (hg:=hB3) (hd:=rfl) (hi:=by kernel_rfl)) rfl ⟨iC i _ _ _ rfl (by have:=Hn.o;show _=((R:Nat):Int);omega),hb3⟩
theorem Qs(hi:i<s.length)(hl:s.length<=100000000)(hS:Lx.cO (dec (s.drop i)).1=false)(hP1: [45,45].isPrefixOf (s.drop i)=true):
  Calls aBS 115 #[.string ⟨s.toArray⟩,kZZ i] w fun e w'=>e=.returned (UF i (2,((s.drop i).takeWhile (· !=10)).length))/\Below w.heap.size w w':=by
 have hd:=fun w=>pV s i hi w
 have hlt:=fun w=>iY (dec (s.drop i)).1 (dec_lt _) w
 have hp1: ∀w,Calls aBS 158 #[.string ⟨s.toArray⟩,kZZ i,.int .u8 45,.int .u8 45] w fun e w'=>e=.returned (.bool ([45,45].isPrefixOf (s.drop i)))/\w'=w:=fun w=>gZ s i 45 45 w hl (by omega)
 have hb1:Below w.heap.size w (wT w):=(aBU _ _).alloc (aBT _) _;have hB1:aV (wT w) w.heap.size 149 #[kZZ 0,kZZ 0,kZZ 0]:=aV.new _ _ _;have i0:=iZ i;have i1:=jJ i s.length;have i2:(i:Int)<=(s.length:Int):=by omega
 have z0:=hB1.cell 0;have z1:=hB1.cell 1;have z2:=hB1.cell 2;have f0:=hB1.frozen 0;have f1:=hB1.frozen 1;have f2:=hB1.frozen 2;simp at z0 z1 z2;generalize hR:((s.drop i).takeWhile (· !=10)).length=R;have HR:=aB hR;clear hR;generalize dec (s.drop i)=D at *;obtain⟨c,z⟩:=D;simp only at *;obtain⟨s9,s10,s13,Zk⟩:=uD hS;have t9:((c:Int)==9)=false:=by simp;omega
 have t10:((c:Int)==10)=false:=by simp;omega
 have t13:((c:Int)==13)=false:=by simp;omega
 have t32:((c:Int)==32)=false:=by simp;omega
 clear s9 s10 s13 Zk
 go_enter func115,ntmps115
 go_wp2_with fail;refine(hd _).mono ?_;rintro e w1 ⟨rfl,rfl⟩;go_wp2_with fail;refine(hlt _).mono ?_;rintro e w1 ⟨rfl,rfl⟩;go_wp2_with fail;have hq:=hp1 (wT w);rw[hP1] at hq;refine hq.mono ?_;clear hq;rintro e w1 ⟨rfl,rfl⟩;go_wp2_with fail
 go_loop [8] (fun kv=> ∃k:Nat,kv=kZZ k/\i<=k/\k<=s.length/\aC (R=(k-i)+((s.drop k).takeWhile (· !=10)).length)) (fun kv=>s.length-(intOf kv).toNat)
 case atStart=>exact⟨i,rfl,by omega,by omega,by show _=_;rw[<-HR.o];omega⟩
 case round=>
  obtain⟨k,rfl,hk1,hk2,H⟩:=hrel
  by_cases hlt:k<s.length
  ·have j0:=iZ k;have j1:=jJ k s.length;have e10:=jH s k hlt 10
   try unfold vZZ at e10
   rw[show(((10:UInt8).toNat:Nat):Int)=10 from rfl] at e10
   by_cases q:s[k]=10
   ·have Hn:aC (R=k-i):=(by show R=_;have:=H.o;rw[TK _ hlt (by simp[q])] at this;omega);rw[decide_eq_true q] at e10;have n10:((((⟨s.toArray⟩:ByteArray)[k]'(by rw[bG];exact hlt)).toNat:Int) !=10)=false:=(by rw[bne,e10];rfl);clear H HR q e10;go_wp2_with fail;have hB3:aV (w.alloc (.cells #[kZZ 2,kZZ i,kZZ ((k:Int)-i)] 149)) w.heap.size 149 #[kZZ 2,kZZ i,kZZ ((k:Int)-i)]:=aV.new _ _ _;have hb3:=nR w (.cells #[kZZ 2,kZZ i,kZZ ((k:Int)-i)] 149);exact bodyPost_ret (v:=.agg #[kZZ 2,kZZ i,kZZ ((k:Int)-i)]) (results_cell_row (hu:=underlying149) (h:=rfl) (hp:=rfl) (hg:=hB3) (hd:=rfl) (hi:=by kernel_rfl)) rfl ⟨iC i _ _ _ rfl (by have:=Hn.o;show _=((R:Nat):Int);omega),hb3⟩
   ·have Hn:aC (R=(k+1-i)+((s.drop (k+1)).takeWhile (· !=10)).length):=(by show R=_;have:=H.o;rw[Oy _ hlt (by simpa using q)] at this;omega);rw[decide_eq_false q] at e10;have n10:((((⟨s.toArray⟩:ByteArray)[k]'(by rw[bG];exact hlt)).toNat:Int) !=10)=true:=(by rw[bne,e10];rfl);clear H HR q e10;go_wp2_with fail
    go_round
    case rel=>exact⟨k+1,by go_num,by omega,by omega,Hn.o⟩
    case measure=>simp[intOf];omega
  ·obtain rfl:k=s.length:=(by omega);have Hn:aC (R=s.length-i):=(by show R=_;have:=H.o;rw[N7] at this;omega);clear H HR;go_wp2_with fail;have hB3:aV (w.alloc (.cells #[kZZ 2,kZZ i,kZZ ((s.length:Int)-i)] 149)) w.heap.size 149 #[kZZ 2,kZZ i,kZZ ((s.length:Int)-i)]:=aV.new _ _ _;have hb3:=nR w (.cells #[kZZ 2,kZZ i,kZZ ((s.length:Int)-i)] 149);exact bodyPost_ret (v:=.agg #[kZZ 2,kZZ i,kZZ ((s.length:Int)-i)]) (results_cell_row (hu:=underlying149) (h:=rfl) (hp:=rfl) (hg:=hB3) (hd:=rfl) (hi:=by kernel_rfl)) rfl ⟨iC i _ _ _ rfl (by have:=Hn.o;show _=((R:Nat):Int);omega),hb3⟩
theorem U4(hi:i<s.length)(hl:s.length<=100000000)(hS:Lx.cO (dec (s.drop i)).1=false)(hP1: [45,45].isPrefixOf (s.drop i)=false)(hP2: [123,45].isPrefixOf (s.drop i)=true):
  Calls aBS 115 #[.string ⟨s.toArray⟩,kZZ i] w fun e w'=>e=.returned (UF i (match Lx.iR 1 (s.drop (i+2))with|some k=>(2,k+2)|none=>(8,s.length-i)))/\Below w.heap.size w w':=by
 have hd:=fun w=>pV s i hi w
 have hlt:=fun w=>iY (dec (s.drop i)).1 (dec_lt _) w
 have hp1: ∀w,Calls aBS 158 #[.string ⟨s.toArray⟩,kZZ i,.int .u8 45,.int .u8 45] w fun e w'=>e=.returned (.bool ([45,45].isPrefixOf (s.drop i)))/\w'=w:=fun w=>gZ s i 45 45 w hl (by omega)
 have hp2: ∀w,Calls aBS 158 #[.string ⟨s.toArray⟩,kZZ i,.int .u8 123,.int .u8 45] w fun e w'=>e=.returned (.bool ([123,45].isPrefixOf (s.drop i)))/\w'=w:=fun w=>gZ s i 123 45 w hl (by omega)
 have hns:=fun w=>YL s i w hP2 hl
 have hRle: ∀k,Lx.iR 1 (s.drop (i+2))=some k->i+2+k<=s.length:=fun k hk=>by have:=Lx.CE _ _ _ hk;rw[aCB] at this;omega
 generalize Lx.iR 1 (s.drop (i+2))=R at *;have hb1:Below w.heap.size w (wT w):=(aBU _ _).alloc (aBT _) _;have hB1:aV (wT w) w.heap.size 149 #[kZZ 0,kZZ 0,kZZ 0]:=aV.new _ _ _;have i0:=iZ i;have i1:=jJ i s.length;have i2:(i:Int)<=(s.length:Int):=by omega
 have z0:=hB1.cell 0;have z1:=hB1.cell 1;have z2:=hB1.cell 2;have f0:=hB1.frozen 0;have f1:=hB1.frozen 1;have f2:=hB1.frozen 2;simp at z0 z1 z2;generalize dec (s.drop i)=D at *;obtain⟨c,z⟩:=D;simp only at *;obtain⟨s9,s10,s13,Zk⟩:=uD hS;have t9:((c:Int)==9)=false:=by simp;omega
 have t10:((c:Int)==10)=false:=by simp;omega
 have t13:((c:Int)==13)=false:=by simp;omega
 have t32:((c:Int)==32)=false:=by simp;omega
 clear s9 s10 s13 Zk
 go_enter func115,ntmps115
 go_wp2_with fail;refine(hd _).mono ?_;rintro e w1 ⟨rfl,rfl⟩;go_wp2_with fail;refine(hlt _).mono ?_;rintro e w1 ⟨rfl,rfl⟩;go_wp2_with fail;have hq:=hp1 (wT w);rw[hP1] at hq;refine hq.mono ?_;clear hq;rintro e w1 ⟨rfl,rfl⟩;go_wp2_with fail;have hq:=hp2 (wT w);rw[hP2] at hq;refine hq.mono ?_;clear hq;rintro e w1 ⟨rfl,rfl⟩;go_wp2_with fail;cases R with
 |none=>
  have K_: ∀w,Calls aBS 159 #[.string ⟨s.toArray⟩,kZZ i] w fun e w'=>e=.returned (.tuple #[kZZ (s.length:Nat),.bool false])/\w'=w:=hns
  refine(K_ _).mono ?_;rintro e w1 ⟨rfl,rfl⟩;go_wp2_with fail;have hB3:aV (w.alloc (.cells #[kZZ 8,kZZ i,kZZ ((s.length:Int)-i)] 149)) w.heap.size 149 #[kZZ 8,kZZ i,kZZ ((s.length:Int)-i)]:=aV.new _ _ _;have hb3:=nR w (.cells #[kZZ 8,kZZ i,kZZ ((s.length:Int)-i)] 149);exact bodyPost_ret (v:=.agg #[kZZ 8,kZZ i,kZZ ((s.length:Int)-i)]) (results_cell_row (hu:=underlying149) (h:=rfl) (hp:=rfl) (hg:=hB3) (hd:=rfl) (hi:=by kernel_rfl)) rfl ⟨iC i _ _ _ rfl (by show _=((s.length-i:Nat):Int);omega),hb3⟩
 |some k=>
  have K_: ∀w,Calls aBS 159 #[.string ⟨s.toArray⟩,kZZ i] w fun e w'=>e=.returned (.tuple #[kZZ ((i+2+k:Nat):Int),.bool true])/\w'=w:=hns
  have hkle:i+2+k<=s.length:=hRle k rfl;refine(K_ _).mono ?_;rintro e w1 ⟨rfl,rfl⟩;go_wp2_with fail;have hB3:aV (w.alloc (.cells #[kZZ 2,kZZ i,kZZ ((i:Int)+2+k-i)] 149)) w.heap.size 149 #[kZZ 2,kZZ i,kZZ ((i:Int)+2+k-i)]:=aV.new _ _ _;have hb3:=nR w (.cells #[kZZ 2,kZZ i,kZZ ((i:Int)+2+k-i)] 149);exact bodyPost_ret (v:=.agg #[kZZ 2,kZZ i,kZZ ((i:Int)+2+k-i)]) (results_cell_row (hu:=underlying149) (h:=rfl) (hp:=rfl) (hg:=hB3) (hd:=rfl) (hi:=by kernel_rfl)) rfl ⟨iC i _ _ _ rfl (by show _=((k+2:Nat):Int);omega),hb3⟩
end
section
variable(s:Bs)(i:Nat)(w:World)
theorem KX(hi:i<s.length)(hl:s.length<=100000000)(hS:Lx.cO (dec (s.drop i)).1=false)(hP1: [45,45].isPrefixOf (s.drop i)=false)(hP2: [123,45].isPrefixOf (s.drop i)=false)(hL:Lx.dI (dec (s.drop i)).1=true):
  Calls aBS 115 #[.string ⟨s.toArray⟩,kZZ i] w fun e w'=>e=.returned (UF i (if Lx.zK ((s.drop i).take (Lx.run Lx.kR (s.drop i)))then 4 else 3,Lx.run Lx.kR (s.drop i)))/\Below w.heap.size w w':=by
 have hd:=fun w=>pV s i hi w
 have hlt:=fun w=>iY (dec (s.drop i)).1 (dec_lt _) w
 have hp1: ∀w,Calls aBS 158 #[.string ⟨s.toArray⟩,kZZ i,.int .u8 45,.int .u8 45] w fun e w'=>e=.returned (.bool ([45,45].isPrefixOf (s.drop i)))/\w'=w:=fun w=>gZ s i 45 45 w hl (by omega)
 have hp2: ∀w,Calls aBS 158 #[.string ⟨s.toArray⟩,kZZ i,.int .u8 123,.int .u8 45] w fun e w'=>e=.returned (.bool ([123,45].isPrefixOf (s.drop i)))/\w'=w:=fun w=>gZ s i 123 45 w hl (by omega)
 have hb1:Below w.heap.size w (wT w):=(aBU _ _).alloc (aBT _) _;have hB1:aV (wT w) w.heap.size 149 #[kZZ 0,kZZ 0,kZZ 0]:=aV.new _ _ _;have i0:=iZ i;have i1:=jJ i s.length;have i2:(i:Int)<=(s.length:Int):=by omega
 have z0:=hB1.cell 0;have z1:=hB1.cell 1;have z2:=hB1.cell 2;have f0:=hB1.frozen 0;have f1:=hB1.frozen 1;have f2:=hB1.frozen 2;simp at z0 z1 z2;have hwd:=fun w=>P5 ((s.drop i).take (Lx.run Lx.kR (s.drop i))) w
 have hrle:=Lx.EX Lx.kR _ (s.drop i) rfl;rw[aCB] at hrle;have hex:=DL s i (i+Lx.run Lx.kR (s.drop i));rw[List.drop_take,Nat.add_sub_cancel_left] at hex;unfold ET at hex;rw[<-hex] at hwd;clear hex;generalize Lx.zK ((s.drop i).take (Lx.run Lx.kR (s.drop i)))=B at *;generalize hR:Lx.run Lx.kR (s.drop i)=R at *;have HR:=aB hR;clear hR;have Hwd:=aB hwd;clear hwd;rw[hL] at hlt;generalize dec (s.drop i)=D at *;obtain⟨c,z⟩:=D;simp only at *;obtain⟨s9,s10,s13,Zk⟩:=uD hS;have t9:((c:Int)==9)=false:=by simp;omega
 have t10:((c:Int)==10)=false:=by simp;omega
 have t13:((c:Int)==13)=false:=by simp;omega
 have t32:((c:Int)==32)=false:=by simp;omega
 clear s9 s10 s13 Zk
 go_enter func115,ntmps115
 go_wp2_with fail;refine(hd _).mono ?_;rintro e w1 ⟨rfl,rfl⟩;go_wp2_with fail;refine(hlt _).mono ?_;rintro e w1 ⟨rfl,rfl⟩;go_wp2_with fail;have hq:=hp1 (wT w);rw[hP1] at hq;refine hq.mono ?_;clear hq;rintro e w1 ⟨rfl,rfl⟩;go_wp2_with fail;have hq:=hp2 (wT w);rw[hP2] at hq;refine hq.mono ?_;clear hq;rintro e w1 ⟨rfl,rfl⟩;go_wp2_with fail
 go_loop [8] (fun kv=> ∃k:Nat,kv=kZZ k/\i<=k/\k<=s.length/\aC (R=(k-i)+Lx.run Lx.kR (s.drop k))) (fun kv=>s.length-(intOf kv).toNat)
 case atStart=>exact⟨i,rfl,by omega,by omega,by show _=_;rw[<-HR.o];omega⟩
 case round=>
  obtain⟨k,rfl,hk1,hk2,H⟩:=hrel;have HRk:aC (Lx.kR (dec (s.drop k)).1=false->R=k-i):=fun h=>(by have:=H.o;rw[Lx.xA _ h] at this;omega);have HRe:aC (k=s.length->R=k-i):=fun h=>by have:=H.o;rw[h,aEG,Lx.Cz] at this;omega
  by_cases hlt2:k<s.length
  ·have j0:=iZ k;have j1:=jJ k s.length;have j2:(k:Int)<=(s.length:Int):=(by omega);have j4:(i:Int)<=(k:Int):=(by omega);have hne:s.drop k≠ []:=(by intro e;have:=congrArg aDG e;simp at this;omega);have hdk:=fun w=>pV s k hlt2 w
   have Y2:=fun w=>iY (dec (s.drop k)).1 (dec_lt _) w
   have hcb:=dec_lt (s.drop k);have hsz:=(kQ (s.drop k)).1;have hle:=xO (s.drop k) hne;rw[aCB] at hle;have rZ:aC (Lx.kR (dec (s.drop k)).1=true->R=(k+(dec (s.drop k)).2-i)+Lx.run Lx.kR (s.drop (k+(dec (s.drop k)).2))):=fun h=>(by have:=H.o;rw[Lx.run_go _ hne h,aDP] at this;omega);generalize dec (s.drop k)=D2 at *;obtain⟨d,m⟩:=D2;simp only at hdk Y2 hcb hsz hle rZ HRk;have hbo:aC (Lx.kR d=(Lx.dI d||Lx.cB d)):=rfl;have Hdk:=aB hdk;clear hdk hne H HR;cases hLd:Lx.dI d with
   |true=>
    have Hn:=aB (rZ.o (by rw[hbo.out,hLd];rfl));rw[hLd] at Y2;clear rZ HRk hbo;go_wp2_with fail;refine(Hdk.o _).mono ?_;rintro e w1 ⟨rfl,rfl⟩;go_wp2_with fail;refine(Y2 _).mono ?_;rintro e w1 ⟨rfl,rfl⟩;go_wp2_with fail
    go_round
    case rel=>exact⟨k+m,by go_num,by omega,by omega,Hn.o⟩
    case measure=>simp[intOf];omega
   |false=>
    rw[hLd] at Y2;cases hDd:Lx.cB d with
    |true=>
     have Hn:=aB (rZ.o (by rw[hbo.out,hLd,hDd];rfl));obtain⟨d1,d2⟩:=BJ hDd;have g1: ¬(d:Int)<48:=(by omega);have g2: ¬(57:Int)<(d:Int):=(by omega);clear rZ HRk hbo d1 d2;go_wp2_with fail;refine(Hdk.o _).mono ?_;rintro e w1 ⟨rfl,rfl⟩;go_wp2_with fail;refine(Y2 _).mono ?_;rintro e w1 ⟨rfl,rfl⟩;go_wp2_with fail
     go_round
     case rel=>exact⟨k+m,by go_num,by omega,by omega,Hn.o⟩
     case measure=>simp[intOf];omega
    |false=>
     have Hn:=aB (HRk.o (by rw[hbo.out,hLd,hDd];rfl));have WN:k=i+R:=(by have:=Hn.o;omega);clear rZ HRk hbo HRe;rcases FV hDd with g|g
     ·have g1:(d:Int)<48:=(by omega);subst WN;go_wp2_with fail;refine(Hdk.o _).mono ?_;rintro e w1 ⟨rfl,rfl⟩;go_wp2_with fail;refine(Y2 _).mono ?_;rintro e w1 ⟨rfl,rfl⟩;go_wp2_with fail;refine(Hwd.o _).mono ?_;rintro e w2 ⟨rfl,hb2⟩;have hB2:=hB1.below hb2 (by simp);have zC:=hb1.trans (hb2.mono (by simp));have z0:=hB2.cell 0;have z1:=hB2.cell 1;have z2:=hB2.cell 2;have f0:=hB2.frozen 0;have f1:=hB2.frozen 1;have f2:=hB2.frozen 2;simp at z0 z1 z2;cases B with
      |true=>go_wp2_with fail;have hB3:=((hB2.bD 0 (kZZ 4)).bD 1 (kZZ i)).bD 2 (kZZ ((i:Int)+R-i));have hb3:=((zC.setCell (p:=⟨w.heap.size,0,none⟩) (aBT _) (kZZ 4)).setCell (p:=⟨w.heap.size,1,none⟩) (aBT _) (kZZ i)).setCell (p:=⟨w.heap.size,2,none⟩) (aBT _) (kZZ ((i:Int)+R-i));exact bodyPost_ret (v:=.agg #[kZZ 4,kZZ i,kZZ ((i:Int)+R-i)]) (results_cell_row (hu:=underlying149) (h:=rfl) (hp:=rfl) (hg:=hB3) (hd:=rfl) (hi:=by kernel_rfl)) rfl ⟨iC i _ _ _ rfl (by show _=((R:Nat):Int);omega),hb3⟩
      |false=>go_wp2_with fail;have hB3:=((hB2.bD 0 (kZZ 3)).bD 1 (kZZ i)).bD 2 (kZZ ((i:Int)+R-i));have hb3:=((zC.setCell (p:=⟨w.heap.size,0,none⟩) (aBT _) (kZZ 3)).setCell (p:=⟨w.heap.size,1,none⟩) (aBT _) (kZZ i)).setCell (p:=⟨w.heap.size,2,none⟩) (aBT _) (kZZ ((i:Int)+R-i));exact bodyPost_ret (v:=.agg #[kZZ 3,kZZ i,kZZ ((i:Int)+R-i)]) (results_cell_row (hu:=underlying149) (h:=rfl) (hp:=rfl) (hg:=hB3) (hd:=rfl) (hi:=by kernel_rfl)) rfl ⟨iC i _ _ _ rfl (by show _=((R:Nat):Int);omega),hb3⟩
     ·have g1: ¬(d:Int)<48:=(by omega);have g2:(57:Int)<(d:Int):=(by omega);subst WN;go_wp2_with fail;refine(Hdk.o _).mono ?_;rintro e w1 ⟨rfl,rfl⟩;go_wp2_with fail;refine(Y2 _).mono ?_;rintro e w1 ⟨rfl,rfl⟩;go_wp2_with fail;refine(Hwd.o _).mono ?_;rintro e w2 ⟨rfl,hb2⟩;have hB2:=hB1.below hb2 (by simp);have zC:=hb1.trans (hb2.mono (by simp));have z0:=hB2.cell 0;have z1:=hB2.cell 1;have z2:=hB2.cell 2;have f0:=hB2.frozen 0;have f1:=hB2.frozen 1;have f2:=hB2.frozen 2;simp at z0 z1 z2;cases B with
      |true=>go_wp2_with fail;have hB3:=((hB2.bD 0 (kZZ 4)).bD 1 (kZZ i)).bD 2 (kZZ ((i:Int)+R-i));have hb3:=((zC.setCell (p:=⟨w.heap.size,0,none⟩) (aBT _) (kZZ 4)).setCell (p:=⟨w.heap.size,1,none⟩) (aBT _) (kZZ i)).setCell (p:=⟨w.heap.size,2,none⟩) (aBT _) (kZZ ((i:Int)+R-i));exact bodyPost_ret (v:=.agg #[kZZ 4,kZZ i,kZZ ((i:Int)+R-i)]) (results_cell_row (hu:=underlying149) (h:=rfl) (hp:=rfl) (hg:=hB3) (hd:=rfl) (hi:=by kernel_rfl)) rfl ⟨iC i _ _ _ rfl (by show _=((R:Nat):Int);omega),hb3⟩
      |false=>go_wp2_with fail;have hB3:=((hB2.bD 0 (kZZ 3)).bD 1 (kZZ i)).bD 2 (kZZ ((i:Int)+R-i));have hb3:=((zC.setCell (p:=⟨w.heap.size,0,none⟩) (aBT _) (kZZ 3)).setCell (p:=⟨w.heap.size,1,none⟩) (aBT _) (kZZ i)).setCell (p:=⟨w.heap.size,2,none⟩) (aBT _) (kZZ ((i:Int)+R-i));exact bodyPost_ret (v:=.agg #[kZZ 3,kZZ i,kZZ ((i:Int)+R-i)]) (results_cell_row (hu:=underlying149) (h:=rfl) (hp:=rfl) (hg:=hB3) (hd:=rfl) (hi:=by kernel_rfl)) rfl ⟨iC i _ _ _ rfl (by show _=((R:Nat):Int);omega),hb3⟩
  ·have Hn:=aB (HRe.o (by omega));have WN:k=i+R:=(by have:=Hn.o;omega);clear H HR HRk HRe;subst WN;have j0:(0:Int)<=((i+R:Nat):Int):=(by omega);have j1:(i:Int)<=((i+R:Nat):Int):=(by omega);have j2:((i+R:Nat):Int)<=(s.length:Int):=(by omega);have j3: ¬((i+R:Nat):Int)<(s.length:Int):=(by omega);go_wp2_with fail;refine(Hwd.o _).mono ?_;rintro e w2 ⟨rfl,hb2⟩;have hB2:=hB1.below hb2 (by simp);have zC:=hb1.trans (hb2.mono (by simp));have z0:=hB2.cell 0;have z1:=hB2.cell 1;have z2:=hB2.cell 2;have f0:=hB2.frozen 0;have f1:=hB2.frozen 1;have f2:=hB2.frozen 2;simp at z0 z1 z2;cases B with
   |true=>go_wp2_with fail;have hB3:=((hB2.bD 0 (kZZ 4)).bD 1 (kZZ i)).bD 2 (kZZ ((i:Int)+R-i));have hb3:=((zC.setCell (p:=⟨w.heap.size,0,none⟩) (aBT _) (kZZ 4)).setCell (p:=⟨w.heap.size,1,none⟩) (aBT _) (kZZ i)).setCell (p:=⟨w.heap.size,2,none⟩) (aBT _) (kZZ ((i:Int)+R-i));exact bodyPost_ret (v:=.agg #[kZZ 4,kZZ i,kZZ ((i:Int)+R-i)]) (results_cell_row (hu:=underlying149) (h:=rfl) (hp:=rfl) (hg:=hB3) (hd:=rfl) (hi:=by kernel_rfl)) rfl ⟨iC i _ _ _ rfl (by show _=((R:Nat):Int);omega),hb3⟩
   |false=>go_wp2_with fail;have hB3:=((hB2.bD 0 (kZZ 3)).bD 1 (kZZ i)).bD 2 (kZZ ((i:Int)+R-i));have hb3:=((zC.setCell (p:=⟨w.heap.size,0,none⟩) (aBT _) (kZZ 3)).setCell (p:=⟨w.heap.size,1,none⟩) (aBT _) (kZZ i)).setCell (p:=⟨w.heap.size,2,none⟩) (aBT _) (kZZ ((i:Int)+R-i));exact bodyPost_ret (v:=.agg #[kZZ 3,kZZ i,kZZ ((i:Int)+R-i)]) (results_cell_row (hu:=underlying149) (h:=rfl) (hp:=rfl) (hg:=hB3) (hd:=rfl) (hi:=by kernel_rfl)) rfl ⟨iC i _ _ _ rfl (by show _=((R:Nat):Int);omega),hb3⟩
theorem Zw(hi:i<s.length)(hl:s.length<=100000000)(hS:Lx.cO (dec (s.drop i)).1=false)(hP1: [45,45].isPrefixOf (s.drop i)=false)(hP2: [123,45].isPrefixOf (s.drop i)=false)(hL:Lx.dI (dec (s.drop i)).1=false)(hD:Lx.cB (dec (s.drop i)).1=true):
  Calls aBS 115 #[.string ⟨s.toArray⟩,kZZ i] w fun e w'=>e=.returned (UF i (if Lx.run Lx.cB (s.drop i)<=18 then 5 else 8,Lx.run Lx.cB (s.drop i)))/\Below w.heap.size w w':=by
 have hd:=fun w=>pV s i hi w
 have hlt:=fun w=>iY (dec (s.drop i)).1 (dec_lt _) w
 have hp1: ∀w,Calls aBS 158 #[.string ⟨s.toArray⟩,kZZ i,.int .u8 45,.int .u8 45] w fun e w'=>e=.returned (.bool ([45,45].isPrefixOf (s.drop i)))/\w'=w:=fun w=>gZ s i 45 45 w hl (by omega)
 have hp2: ∀w,Calls aBS 158 #[.string ⟨s.toArray⟩,kZZ i,.int .u8 123,.int .u8 45] w fun e w'=>e=.returned (.bool ([123,45].isPrefixOf (s.drop i)))/\w'=w:=fun w=>gZ s i 123 45 w hl (by omega)
 have hb1:Below w.heap.size w (wT w):=(aBU _ _).alloc (aBT _) _;have hB1:aV (wT w) w.heap.size 149 #[kZZ 0,kZZ 0,kZZ 0]:=aV.new _ _ _;have i0:=iZ i;have i1:=jJ i s.length;have i2:(i:Int)<=(s.length:Int):=by omega
 have z0:=hB1.cell 0;have z1:=hB1.cell 1;have z2:=hB1.cell 2;have f0:=hB1.frozen 0;have f1:=hB1.frozen 1;have f2:=hB1.frozen 2;simp at z0 z1 z2;have HR:aC (Lx.run Lx.cB (s.drop i)=((s.drop i).takeWhile fun b=>Lx.cB b.toNat).length):=Lx.EY _ Um _;generalize Lx.run Lx.cB (s.drop i)=R at *;rw[hL] at hlt;generalize dec (s.drop i)=D at *;obtain⟨c,z⟩:=D;simp only at *;obtain⟨s9,s10,s13,Zk⟩:=uD hS;have t9:((c:Int)==9)=false:=by simp;omega
 have t10:((c:Int)==10)=false:=by simp;omega
 have t13:((c:Int)==13)=false:=by simp;omega
 have t32:((c:Int)==32)=false:=by simp;omega
 clear s9 s10 s13 Zk;obtain⟨d1,d2⟩:=BJ hD;have g1:(48:Int)<=(c:Int):=by omega
 have g2:(c:Int)<=57:=by omega
 clear d1 d2 hD
 go_enter func115,ntmps115
 go_wp2_with fail;refine(hd _).mono ?_;rintro e w1 ⟨rfl,rfl⟩;go_wp2_with fail;refine(hlt _).mono ?_;rintro e w1 ⟨rfl,rfl⟩;go_wp2_with fail;have hq:=hp1 (wT w);rw[hP1] at hq;refine hq.mono ?_;clear hq;rintro e w1 ⟨rfl,rfl⟩;go_wp2_with fail;have hq:=hp2 (wT w);rw[hP2] at hq;refine hq.mono ?_;clear hq;rintro e w1 ⟨rfl,rfl⟩;go_wp2_with fail
 go_loop [8] (fun kv=> ∃k:Nat,kv=kZZ k/\i<=k/\k<=s.length/\aC (R=(k-i)+((s.drop k).takeWhile fun b=>Lx.cB b.toNat).length)) (fun kv=>s.length-(intOf kv).toNat)
 case atStart=>exact⟨i,rfl,by omega,by omega,by show _=_;rw[HR.o];omega⟩
 case round=>
  obtain⟨k,rfl,hk1,hk2,H⟩:=hrel
  by_cases hlt2:k<s.length
  ·have j0:=iZ k;have j1:=jJ k s.length;have hbb:(⟨s.toArray⟩:ByteArray)[k]'(by rw[bG];exact hlt2)=s[k]:=(by rfl);have rZ:aC (Lx.cB s[k].toNat=true->R=(k+1-i)+((s.drop (k+1)).takeWhile fun b=>Lx.cB b.toNat).length):=fun h=>(by have:=H.o;rw[Oy _ hlt2 h] at this;omega);have Hno:aC (Lx.cB s[k].toNat=false->R=k-i):=fun h=>(by have:=H.o;rw[TK _ hlt2 h] at this;omega);rw[<-hbb] at rZ Hno;clear hbb;generalize hN:((⟨s.toArray⟩:ByteArray)[k]'(by rw[bG];exact hlt2)).toNat=N at *;cases hq:Lx.cB N with
   |true=>
    obtain⟨d1,d2⟩:=BJ hq;have g3:(48:Int)<=(N:Int):=(by omega);have g4:(N:Int)<=57:=(by omega);have Hn:=aB (rZ.o hq);clear rZ Hno H HR hq d1 d2;go_wp2_with fail
    go_round
    case rel=>exact⟨k+1,by go_num,by omega,by omega,Hn.o⟩
    case measure=>simp[intOf];omega
   |false=>
    have Hn:=aB (Hno.o hq);have WN:k=i+R:=(by have:=Hn.o;omega);clear rZ Hno H HR Hn;rcases FV hq with g|g
    ·have g3: ¬(48:Int)<=(N:Int):=(by omega);clear hq
     by_cases h18:R<=18
     ·have h19: ¬(18:Int)<(k:Int)-(i:Int):=(by omega);have HK:=aB WN;have Xm:=aB h18;clear h18 WN;go_wp2_with fail;have hB3:aV (w.alloc (.cells #[kZZ 5,kZZ i,kZZ ((k:Int)-i)] 149)) w.heap.size 149 #[kZZ 5,kZZ i,kZZ ((k:Int)-i)]:=aV.new _ _ _;have hb3:=nR w (.cells #[kZZ 5,kZZ i,kZZ ((k:Int)-i)] 149);exact bodyPost_ret (v:=.agg #[kZZ 5,kZZ i,kZZ ((k:Int)-i)]) (results_cell_row (hu:=underlying149) (h:=rfl) (hp:=rfl) (hg:=hB3) (hd:=rfl) (hi:=by kernel_rfl)) rfl ⟨iC i _ _ _ (by first|rfl|(rw[if_pos Xm.o];rfl)) (by show _=((R:Nat):Int);have:=HK.o;omega),hb3⟩
     ·have h19:(18:Int)<(k:Int)-(i:Int):=(by omega);have HK:=aB WN;have Xm:=aB h18;clear h18 WN;go_wp2_with fail;have hB3:aV (w.alloc (.cells #[kZZ 8,kZZ i,kZZ ((k:Int)-i)] 149)) w.heap.size 149 #[kZZ 8,kZZ i,kZZ ((k:Int)-i)]:=aV.new _ _ _;have hb3:=nR w (.cells #[kZZ 8,kZZ i,kZZ ((k:Int)-i)] 149);exact bodyPost_ret (v:=.agg #[kZZ 8,kZZ i,kZZ ((k:Int)-i)]) (results_cell_row (hu:=underlying149) (h:=rfl) (hp:=rfl) (hg:=hB3) (hd:=rfl) (hi:=by kernel_rfl)) rfl ⟨iC i _ _ _ (by first|rfl|(rw[if_neg Xm.o];rfl)) (by show _=((R:Nat):Int);have:=HK.o;omega),hb3⟩
    ·have g3:(48:Int)<=(N:Int):=(by omega);have g4: ¬(N:Int)<=57:=(by omega);clear hq
     by_cases h18:R<=18
     ·have h19: ¬(18:Int)<(k:Int)-(i:Int):=(by omega);have HK:=aB WN;have Xm:=aB h18;clear h18 WN;go_wp2_with fail;have hB3:aV (w.alloc (.cells #[kZZ 5,kZZ i,kZZ ((k:Int)-i)] 149)) w.heap.size 149 #[kZZ 5,kZZ i,kZZ ((k:Int)-i)]:=aV.new _ _ _;have hb3:=nR w (.cells #[kZZ 5,kZZ i,kZZ ((k:Int)-i)] 149);exact bodyPost_ret (v:=.agg #[kZZ 5,kZZ i,kZZ ((k:Int)-i)]) (results_cell_row (hu:=underlying149) (h:=rfl) (hp:=rfl) (hg:=hB3) (hd:=rfl) (hi:=by kernel_rfl)) rfl ⟨iC i _ _ _ (by first|rfl|(rw[if_pos Xm.o];rfl)) (by show _=((R:Nat):Int);have:=HK.o;omega),hb3⟩
     ·have h19:(18:Int)<(k:Int)-(i:Int):=(by omega);have HK:=aB WN;have Xm:=aB h18;clear h18 WN;go_wp2_with fail;have hB3:aV (w.alloc (.cells #[kZZ 8,kZZ i,kZZ ((k:Int)-i)] 149)) w.heap.size 149 #[kZZ 8,kZZ i,kZZ ((k:Int)-i)]:=aV.new _ _ _;have hb3:=nR w (.cells #[kZZ 8,kZZ i,kZZ ((k:Int)-i)] 149);exact bodyPost_ret (v:=.agg #[kZZ 8,kZZ i,kZZ ((k:Int)-i)]) (results_cell_row (hu:=underlying149) (h:=rfl) (hp:=rfl) (hg:=hB3) (hd:=rfl) (hi:=by kernel_rfl)) rfl ⟨iC i _ _ _ (by first|rfl|(rw[if_neg Xm.o];rfl)) (by show _=((R:Nat):Int);have:=HK.o;omega),hb3⟩
  ·have WN:k=i+R:=(by have:=H.o;rw[show k=s.length by omega,N7] at this;omega);have j1: ¬(k:Int)<(s.length:Int):=(by omega);clear H HR
   by_cases h18:R<=18
   ·have h19: ¬(18:Int)<(k:Int)-(i:Int):=(by omega);have HK:=aB WN;have Xm:=aB h18;clear h18 WN;go_wp2_with fail;have hB3:aV (w.alloc (.cells #[kZZ 5,kZZ i,kZZ ((k:Int)-i)] 149)) w.heap.size 149 #[kZZ 5,kZZ i,kZZ ((k:Int)-i)]:=aV.new _ _ _;have hb3:=nR w (.cells #[kZZ 5,kZZ i,kZZ ((k:Int)-i)] 149);exact bodyPost_ret (v:=.agg #[kZZ 5,kZZ i,kZZ ((k:Int)-i)]) (results_cell_row (hu:=underlying149) (h:=rfl) (hp:=rfl) (hg:=hB3) (hd:=rfl) (hi:=by kernel_rfl)) rfl ⟨iC i _ _ _ (by first|rfl|(rw[if_pos Xm.o];rfl)) (by show _=((R:Nat):Int);have:=HK.o;omega),hb3⟩
   ·have h19:(18:Int)<(k:Int)-(i:Int):=(by omega);have HK:=aB WN;have Xm:=aB h18;clear h18 WN;go_wp2_with fail;have hB3:aV (w.alloc (.cells #[kZZ 8,kZZ i,kZZ ((k:Int)-i)] 149)) w.heap.size 149 #[kZZ 8,kZZ i,kZZ ((k:Int)-i)]:=aV.new _ _ _;have hb3:=nR w (.cells #[kZZ 8,kZZ i,kZZ ((k:Int)-i)] 149);exact bodyPost_ret (v:=.agg #[kZZ 8,kZZ i,kZZ ((k:Int)-i)]) (results_cell_row (hu:=underlying149) (h:=rfl) (hp:=rfl) (hg:=hB3) (hd:=rfl) (hi:=by kernel_rfl)) rfl ⟨iC i _ _ _ (by first|rfl|(rw[if_neg Xm.o];rfl)) (by show _=((R:Nat):Int);have:=HK.o;omega),hb3⟩
end
section
variable(s:Bs)(i:Nat)(w:World)
theorem Qq(hi:i<s.length)(hl:s.length<=100000000)(hS:Lx.cO (dec (s.drop i)).1=false)(hP1: [45,45].isPrefixOf (s.drop i)=false)(hP2: [123,45].isPrefixOf (s.drop i)=false)(hL:Lx.dI (dec (s.drop i)).1=false)(hc:(dec (s.drop i)).1=34):
  Calls aBS 115 #[.string ⟨s.toArray⟩,kZZ i] w fun e w'=>e=.returned (UF i (if(Lx.jL (s.drop (i+1))).2.1/\(Lx.jL (s.drop (i+1))).2.2 then 6 else 8,(Lx.jL (s.drop (i+1))).1+1))/\Below w.heap.size w w':=by
 have hd:=fun w=>pV s i hi w
 have hlt:=fun w=>iY (dec (s.drop i)).1 (dec_lt _) w
 have hp1: ∀w,Calls aBS 158 #[.string ⟨s.toArray⟩,kZZ i,.int .u8 45,.int .u8 45] w fun e w'=>e=.returned (.bool ([45,45].isPrefixOf (s.drop i)))/\w'=w:=fun w=>gZ s i 45 45 w hl (by omega)
 have hp2: ∀w,Calls aBS 158 #[.string ⟨s.toArray⟩,kZZ i,.int .u8 123,.int .u8 45] w fun e w'=>e=.returned (.bool ([123,45].isPrefixOf (s.drop i)))/\w'=w:=fun w=>gZ s i 123 45 w hl (by omega)
 have hb1:Below w.heap.size w (wT w):=(aBU _ _).alloc (aBT _) _;have hB1:aV (wT w) w.heap.size 149 #[kZZ 0,kZZ 0,kZZ 0]:=aV.new _ _ _;have i0:=iZ i;have i1:=jJ i s.length;have i2:(i:Int)<=(s.length:Int):=by omega
 have z0:=hB1.cell 0;have z1:=hB1.cell 1;have z2:=hB1.cell 2;have f0:=hB1.frozen 0;have f1:=hB1.frozen 1;have f2:=hB1.frozen 2;simp at z0 z1 z2;have hqu:=fun w=>YA s i w hi hl
 have hxl:=(Lx.zY _ (s.drop (i+1)) true rfl).1;rw[aCB] at hxl;have hxl:(Lx.jL (s.drop (i+1))).1<=s.length-(i+1):=hxl;have hkd:aC (Dv ((Lx.jL (s.drop (i+1))).2.1&&(Lx.jL (s.drop (i+1))).2.2)=((if(Lx.jL (s.drop (i+1))).2.1=true/\(Lx.jL (s.drop (i+1))).2.2=true then 6 else 8:Nat):Int)):=by show _=_;cases(Lx.jL (s.drop (i+1))).2.1<;>cases(Lx.jL (s.drop (i+1))).2.2<;>rfl
 generalize(if(Lx.jL (s.drop (i+1))).2.1=true/\(Lx.jL (s.drop (i+1))).2.2=true then 6 else 8:Nat)=K at *;generalize Lx.jL (s.drop (i+1))=X at *;obtain⟨n,b1,b2⟩:=X;simp only at hkd hxl;have hqu2:aC (∀w,Calls aBS 161 #[.string ⟨s.toArray⟩,kZZ i] w fun e w'=>e=.returned (.tuple #[kZZ ((i+1+n:Nat):Int),kZZ K])/\w'=w):=fun w=>by have h:=hqu w;unfold qx at h;simp only[hkd.out] at h;exact h
 clear hqu hkd;rw[hL] at hlt;generalize dec (s.drop i)=D at *;obtain⟨c,z⟩:=D;simp only at *;subst hc
 go_enter func115,ntmps115
 go_wp2_with fail;refine(hd _).mono ?_;rintro e w1 ⟨rfl,rfl⟩;go_wp2_with fail;refine(hlt _).mono ?_;rintro e w1 ⟨rfl,rfl⟩;go_wp2_with fail;have hq:=hp1 (wT w);rw[hP1] at hq;refine hq.mono ?_;clear hq;rintro e w1 ⟨rfl,rfl⟩;go_wp2_with fail;have hq:=hp2 (wT w);rw[hP2] at hq;refine hq.mono ?_;clear hq;rintro e w1 ⟨rfl,rfl⟩;go_wp2_with fail;refine(hqu2.out _).mono ?_;clear hqu2;rintro e w1 ⟨rfl,rfl⟩;go_wp2_with fail;have hB3:aV (w.alloc (.cells #[kZZ K,kZZ i,kZZ ((i:Int)+1+n-i)] 149)) w.heap.size 149 #[kZZ K,kZZ i,kZZ ((i:Int)+1+n-i)]:=aV.new _ _ _;have hb3:=nR w (.cells #[kZZ K,kZZ i,kZZ ((i:Int)+1+n-i)] 149);exact bodyPost_ret (v:=.agg #[kZZ K,kZZ i,kZZ ((i:Int)+1+n-i)]) (results_cell_row (hu:=underlying149) (h:=rfl) (hp:=rfl) (hg:=hB3) (hd:=rfl) (hi:=by kernel_rfl)) rfl ⟨iC i _ _ _ rfl (by show _=((n+1:Nat):Int);omega),hb3⟩
theorem Qr(hi:i<s.length)(hl:s.length<=100000000)(hS:Lx.cO (dec (s.drop i)).1=false)(hP1: [45,45].isPrefixOf (s.drop i)=false)(hP2: [123,45].isPrefixOf (s.drop i)=false)(hL:Lx.dI (dec (s.drop i)).1=false)(hD:Lx.cB (dec (s.drop i)).1=false)(hc:(dec (s.drop i)).1≠34):
  Calls aBS 115 #[.string ⟨s.toArray⟩,kZZ i] w fun e w'=>e=.returned (UF i (if Lx.qP (s.drop i)>0 then(7,Lx.qP (s.drop i))else(8,(dec (s.drop i)).2)))/\Below w.heap.size w w':=by
 have hd:=fun w=>pV s i hi w
 have hlt:=fun w=>iY (dec (s.drop i)).1 (dec_lt _) w
 have hp1: ∀w,Calls aBS 158 #[.string ⟨s.toArray⟩,kZZ i,.int .u8 45,.int .u8 45] w fun e w'=>e=.returned (.bool ([45,45].isPrefixOf (s.drop i)))/\w'=w:=fun w=>gZ s i 45 45 w hl (by omega)
 have hp2: ∀w,Calls aBS 158 #[.string ⟨s.toArray⟩,kZZ i,.int .u8 123,.int .u8 45] w fun e w'=>e=.returned (.bool ([123,45].isPrefixOf (s.drop i)))/\w'=w:=fun w=>gZ s i 123 45 w hl (by omega)
 have hp3: ∀w,Calls aBS 158 #[.string ⟨s.toArray⟩,kZZ i,.int .u8 61,.int .u8 62] w fun e w'=>e=.returned (.bool ([61,62].isPrefixOf (s.drop i)))/\w'=w:=fun w=>gZ s i 61 62 w hl (by omega)
 have tH: ∀w,Calls aBS 158 #[.string ⟨s.toArray⟩,kZZ i,.int .u8 61,.int .u8 61] w fun e w'=>e=.returned (.bool ([61,61].isPrefixOf (s.drop i)))/\w'=w:=fun w=>gZ s i 61 61 w hl (by omega)
 have Ju: ∀w,Calls aBS 158 #[.string ⟨s.toArray⟩,kZZ i,.int .u8 43,.int .u8 43] w fun e w'=>e=.returned (.bool ([43,43].isPrefixOf (s.drop i)))/\w'=w:=fun w=>gZ s i 43 43 w hl (by omega)
 have hb1:Below w.heap.size w (wT w):=(aBU _ _).alloc (aBT _) _;have hB1:aV (wT w) w.heap.size 149 #[kZZ 0,kZZ 0,kZZ 0]:=aV.new _ _ _;have i0:=iZ i;have i1:=jJ i s.length;have i2:(i:Int)<=(s.length:Int):=by omega
 have z0:=hB1.cell 0;have z1:=hB1.cell 1;have z2:=hB1.cell 2;have f0:=hB1.frozen 0;have f1:=hB1.frozen 1;have f2:=hB1.frozen 2;simp at z0 z1 z2;have hsg:=Gx (s.drop i) (by intro e;have:=congrArg aDG e;simp at this;omega);rw[hL] at hlt;generalize Lx.qP (s.drop i)=G at *;generalize [(61:UInt8),62].isPrefixOf (s.drop i)=p3 at *;generalize [(61:UInt8),61].isPrefixOf (s.drop i)=p4 at *;generalize [(43:UInt8),43].isPrefixOf (s.drop i)=p5 at *;generalize dec (s.drop i)=D at *;obtain⟨c,z⟩:=D;simp only at *;obtain⟨s9,s10,s13,Zk⟩:=uD hS;have t9:((c:Int)==9)=false:=by simp;omega
 have t10:((c:Int)==10)=false:=by simp;omega
 have t13:((c:Int)==13)=false:=by simp;omega
 have t32:((c:Int)==32)=false:=by simp;omega
 clear s9 s10 s13 Zk;have hdn:=FV hD;have c34:((c:Int)==34)=false:=by simp;omega
 have HG:=aB hsg;clear hsg hD hc;have hdd:((48:Int)<=(c:Int)/\¬(c:Int)<=57)\/¬(48:Int)<=(c:Int):=by omega
 clear hdn;generalize hK:(if G>0 then(7,G)else(8,z):Nat×Nat)=K;have HK:=aB hK;clear hK;rcases hdd with ⟨g1,g2⟩|g1
 all_goals
  go_enter func115,ntmps115
  go_wp2_with fail;refine(hd _).mono ?_;rintro e w1 ⟨rfl,rfl⟩;go_wp2_with fail;refine(hlt _).mono ?_;rintro e w1 ⟨rfl,rfl⟩;go_wp2_with fail;have hq:=hp1 (wT w);rw[hP1] at hq;refine hq.mono ?_;clear hq;rintro e w1 ⟨rfl,rfl⟩;go_wp2_with fail;have hq:=hp2 (wT w);rw[hP2] at hq;refine hq.mono ?_;clear hq;rintro e w1 ⟨rfl,rfl⟩;go_wp2_with fail;have hq:=hp3 (wT w);refine hq.mono ?_;clear hq;rintro e w1 ⟨rfl,rfl⟩;go_wp2_with fail;have hq:=tH (wT w);refine hq.mono ?_;clear hq;rintro e w1 ⟨rfl,rfl⟩;go_wp2_with fail;have hq:=Ju (wT w);refine hq.mono ?_;clear hq;rintro e w1 ⟨rfl,rfl⟩;clear hp1 hp2 hp3 tH Ju;have ZC:(p3=true\/(p3=false/\p4=true)\/(p3=false/\p4=false/\p5=true))\/(p3=false/\p4=false/\p5=false):=(by cases p3<;>cases p4<;>cases p5<;>simp);rcases ZC with hw|⟨rfl,rfl,rfl⟩
  ·have Hn:aC (K=(7,2)):=(by show _=_;have h2:G=2:=(by rw[HG.o];rcases hw with rfl|⟨rfl,rfl⟩|⟨rfl,rfl,rfl⟩<;>simp);rw[<-HK.o,h2];rfl);clear HG HK;rcases hw with rfl|⟨rfl,rfl⟩|⟨rfl,rfl,rfl⟩
   all_goals
    go_wp2_with fail;have hB3:aV (w.alloc (.cells #[kZZ 7,kZZ i,kZZ (2)] 149)) w.heap.size 149 #[kZZ 7,kZZ i,kZZ (2)]:=aV.new _ _ _;have hb3:=nR w (.cells #[kZZ 7,kZZ i,kZZ (2)] 149);exact bodyPost_ret (v:=.agg #[kZZ 7,kZZ i,kZZ (2)]) (results_cell_row (hu:=underlying149) (h:=rfl) (hp:=rfl) (hg:=hB3) (hd:=rfl) (hi:=by kernel_rfl)) rfl ⟨by rw[Hn.o];rfl,hb3⟩
  ·have HG2:aC (G=if c∈Lx.signs.map UInt8.toNat then 1 else 0):=HG.o;clear HG;go_wp2_with fail
   go_loop [23] (fun jv=> ∃j:Nat,jv=kZZ j/\j<=13/\aC (∀n,n<j->(Lx.signs[n]?.getD 0).toNat≠c)) (fun jv=>13-(intOf jv).toNat)
   case atStart=>exact⟨0,rfl,by omega,by show∀n,n<0->_;omega⟩
   case round=>
    obtain⟨j,rfl,hj,H⟩:=hrel
    by_cases hlt3:j<13
    ·have j0:=iZ j;have j1:(j:Int)<13:=(by omega);have hsj:=Yz j hlt3 c
     by_cases hq:(Lx.signs[j]?.getD 0).toNat=c
     ·have Hn:aC (K=(7,1)):=(by show _=_;have h1:G=1:=(by rw[HG2.o,if_pos];rw[<-hq];refine List.mem_map_of_mem ?_;have gq:j<Lx.signs.length:=hlt3;rw[aBY gq];exact List.getElem_mem gq);rw[<-HK.o,h1];rfl);rw[decide_eq_true hq] at hsj;clear HK HG2 H hq;go_wp2_with fail;have hB3:aV (w.alloc (.cells #[kZZ 7,kZZ i,kZZ (1)] 149)) w.heap.size 149 #[kZZ 7,kZZ i,kZZ (1)]:=aV.new _ _ _;have hb3:=nR w (.cells #[kZZ 7,kZZ i,kZZ (1)] 149);exact bodyPost_ret (v:=.agg #[kZZ 7,kZZ i,kZZ (1)]) (results_cell_row (hu:=underlying149) (h:=rfl) (hp:=rfl) (hg:=hB3) (hd:=rfl) (hi:=by kernel_rfl)) rfl ⟨by rw[Hn.o];rfl,hb3⟩
     ·have Hn:aC (∀n,n<j+1->(Lx.signs[n]?.getD 0).toNat≠c):=fun n hn=>by
       rcases aCN n j with h|h
       ·exact H.o n h
       ·obtain rfl:n=j:=(by omega);exact hq
      rw[decide_eq_false hq] at hsj;clear HK HG2 H hq;go_wp2_with fail
      go_round
      case rel=>exact⟨j+1,by go_num,by omega,Hn.o⟩
      case measure=>simp[intOf];omega
    ·obtain rfl:j=13:=(by omega);have Hn:aC (K=(8,z)):=(by show _=_;have h1:G=0:=(by rw[HG2.o,if_neg];intro hm;obtain⟨x,hx,rfl⟩:=aDQ.1 hm;obtain⟨n,hn,zA⟩:=List.getElem_of_mem hx;refine H.o n hn ?_;rw[aBY hn,zA];rfl);rw[<-HK.o,h1];rfl);clear HK HG2 H;go_wp2_with fail;have hB3:aV (w.alloc (.cells #[kZZ 8,kZZ i,kZZ (z)] 149)) w.heap.size 149 #[kZZ 8,kZZ i,kZZ (z)]:=aV.new _ _ _;have hb3:=nR w (.cells #[kZZ 8,kZZ i,kZZ (z)] 149);exact bodyPost_ret (v:=.agg #[kZZ 8,kZZ i,kZZ (z)]) (results_cell_row (hu:=underlying149) (h:=rfl) (hp:=rfl) (hg:=hB3) (hd:=rfl) (hi:=by kernel_rfl)) rfl ⟨by rw[Hn.o];rfl,hb3⟩
theorem Ij(hi:i<s.length)(hl:s.length<=100000000):
  Calls aBS 115 #[.string ⟨s.toArray⟩,kZZ i] w fun e w'=>e=.returned (UF i (Lx.gM (s.drop i)))/\Below w.heap.size w w':=by
 unfold Lx.gM;have hne:s.drop i≠ []:=by intro e;have:=congrArg aDG e;simp at this;omega
 cases hS:Lx.cO (dec (s.drop i)).1 with
 |true=>rw[if_pos rfl];exact Jd s i w hi hl hS
 |false=>
  rw[if_neg (by simp)];cases hP1: [(45:UInt8),45].isPrefixOf (s.drop i)with
  |true=>rw[if_pos rfl];exact Qs s i w hi hl hS hP1
  |false=>
   rw[if_neg (by simp)];cases hP2: [(123:UInt8),45].isPrefixOf (s.drop i)with
   |true=>rw[if_pos rfl,aDP,aCB];exact U4 s i w hi hl hS hP1 hP2
   |false=>
    rw[if_neg (by simp)];cases hL:Lx.dI (dec (s.drop i)).1 with
    |true=>rw[if_pos rfl];exact KX s i w hi hl hS hP1 hP2 hL
    |false=>
     rw[if_neg (by simp)];cases hD:Lx.cB (dec (s.drop i)).1 with
     |true=>rw[if_pos rfl];exact Zw s i w hi hl hS hP1 hP2 hL hD
     |false=>
      rw[if_neg (by simp)]
      by_cases hc:(dec (s.drop i)).1=34
      ·rw[if_pos hc,aDP];exact Qq s i w hi hl hS hP1 hP2 hL hc
      ·rw[if_neg hc];exact Qr s i w hi hl hS hP1 hP2 hL hD hc
end
theorem BX(s:Bs)(w:World)(hl:s.length<=8388608):
  Calls aBS 67 #[.string ⟨s.toArray⟩] w fun e w'=> ∃A c,e=.returned (.slice A (Lx.dR 0 s).length c)/\Rd w' w'.heap.size 3 A (Lx.dR 0 s).length (fJ (Lx.dR 0 s))/\Below w.heap.size w w':=by
 obtain⟨i0,ji,iW,jz1,iV⟩:=info_parts w_;generalize hR:Lx.dR 0 s=R;have HR:=aB hR;clear hR
 go_enter func67,ntmps67
 go_wp2_with fail
 go_loopw [3,4] (fun v i wr=> ∃(k:Nat) (done:List Tk),i=kZZ k/\k<=s.length/\done.length<=k/\wr.ownsRow w.heap.size 149 3 v done.length (fJ done)/\Below w.heap.size w wr/\aC (R=done++Lx.dR k (s.drop k))) (fun _ i _=>s.length-(intOf i).toNat)
 case atStart=>exact⟨0,[],rfl,Nat.zero_le _,aBT _,World.ownsRow_nil _ _ _ _,aBU _ _,by show _=_;rw[<-HR.o];rfl⟩
 case round=>
  obtain⟨k,done,rfl,hk,hdl,hown,hb,H⟩:=hrel;have hbs:=hb.size
  by_cases hlt:k<s.length
  ·have hne:s.drop k≠ []:=(by intro e;have:=congrArg aDG e;simp at this;omega);have hnx:=Ij s k wr hlt (by omega);have hone:=Lx.one_le (s.drop k) hne;have Hs:aC (R=(done++[((Lx.gM (s.drop k)).1,k,(Lx.gM (s.drop k)).2)])++Lx.dR (k+(Lx.gM (s.drop k)).2) (s.drop (k+(Lx.gM (s.drop k)).2))):=(by show _=_;rw[H.o,Lx.lS k hne,aDP];simp);rw[aCB] at hone;generalize Lx.gM (s.drop k)=X at *;obtain⟨a,n⟩:=X;simp only at hone Hs;have hnx:Calls aBS 115 _ wr fun e w'=>e=.returned (.agg #[kZZ a,kZZ k,kZZ n])/\Below wr.heap.size wr w':=hnx
   obtain⟨o1,o2,o3,o4⟩:=hone;have i0':(0:Int)<=(k:Int):=(by omega);have i1:=jJ k s.length;clear hne H o3 o4;go_wp2_with fail;refine hnx.mono ?_;clear hnx;rintro e w2 ⟨rfl,hb2⟩;have Tf:=hb.trans (hb2.mono hbs);have aAb:=Tf.size;have hown2:=aM hown fun b hbk=>hb2.block b (hown.lt b hbk).2
   obtain⟨Av,cv,rfl⟩:=CJ hown2;have hoA:=(hown2.alloc (.cells #[kZZ a,kZZ k,kZZ n] 149)).alloc (.cells #[kZZ a,kZZ k,kZZ n] 149);have hbA:Below w.heap.size w ((w2.alloc (.cells #[kZZ a,kZZ k,kZZ n] 149)).alloc (.cells #[kZZ a,kZZ k,kZZ n] 149)):=(Tf.alloc aAb _).alloc (by simp;omega) _;have hBT:aV ((w2.alloc (.cells #[kZZ a,kZZ k,kZZ n] 149)).alloc (.cells #[kZZ a,kZZ k,kZZ n] 149)) w2.heap.size 149 #[kZZ a,kZZ k,kZZ n]:=(aV.new w2 _ _).alloc _;have hne2:some w2.heap.size≠(Value.slice Av done.length cv).ownBlock:=fun e=>(by have:=(hown2.lt _ e.symm).2;omega);have hBN:((w2.alloc (.cells #[kZZ a,kZZ k,kZZ n] 149)).alloc (.cells #[kZZ a,kZZ k,kZZ n] 149)).heap[w2.heap.size+1]? =some (.cells #[kZZ a,kZZ k,kZZ n] 149 (0,0)):=(by have:=heap_alloc_new (w2.alloc (.cells #[kZZ a,kZZ k,kZZ n] 149)) (.cells #[kZZ a,kZZ k,kZZ n] 149);simpa using this);clear hown hb hbs hb2;go_wp2_with (at_builtin;refine wpList_append_lies _ rfl _ _ 147 rfl w.heap.size 149 i0 _ 3 24 underlying147 ji iW jz1 iV rfl (by omega) (.slice Av done.length cv) done.length (fJ done) rfl hoA ⟨w2.heap.size+1,0,none⟩ 1 1 [kZZ a,kZZ k,kZZ n] rfl rfl (World.news_of_block (cs:=#[kZZ a,kZZ k,kZZ n]) (t:=149) (fr:=(0,0)) hBN) (by simp[Value.oneCell']) (by omega) (by unfold maxLen;omega) (by omega) (by simp;omega) _ rfl ?_;intro gg cap' w3 hown3 hgrow hat hlt3;have hB3:=hBT.grown hgrow hne2;have c2:=hB3.cell 2;simp at c2)
   go_roundw
   case rel=>exact⟨k+n,done++[(a,k,n)],by go_num,by omega,by simp;omega,by rw[QF,List.length_append];exact hown3,hbA.grown hgrow (by simp;omega) (fun g hg=>(hown2.lt g hg).1),Hs.o⟩
   case measure=>simp[intOf];omega
  ·obtain rfl:k=s.length:=(by omega);have hRd:aC (R=done):=(by show _=_;rw[H.o,aEG,Lx.jK,List.append_nil]);obtain⟨Av,cv,rfl,hle,hvn⟩:=gQ hown;have hrd:=Rd.rO hown;clear H;go_wp2_with fail;go_ret;rw[hRd.out];exact⟨Av,cv,rfl,hrd,hb⟩
end Go.Proofs.YtcjjfeephaddcaaGreatDoor
namespace Go.Proofs.YtcjjfeephaddcaaGreatDoor.Lx
def pO(l:List UInt8)(k:Nat):Bool:= !l.isEmpty&&decide ((gM l).1=k)&&decide ((gM l).2=l.length)
theorem SN(l:List UInt8)(k:Nat):pO l k=true↔∃n,dR 0 l=[(k,0,n)]:=by
 unfold pO;cases l with
 |nil=>simp[jK]
 |cons a t=>
  have hne:(a::t)≠ []:=(by simp);obtain⟨h1,h2,_⟩:=one_le (a::t) hne;rw[lS 0 hne];generalize gM (a::t)=X at *;obtain⟨x,n⟩:=X;simp only at h1 h2;simp only[List.isEmpty_cons,Bool.not_false,Bool.true_and,Bool.and_eq_true,decide_eq_true_eq];constructor
  ·rintro⟨rfl,hn⟩;refine⟨n,?_⟩;rw[hn,aEG,jK]
  ·rintro⟨m,hm⟩;injection hm with hm1 hm2;injection hm1 with hx _;refine⟨hx,?_⟩;rcases aCN n (a::t).length with hlt|hge
   ·rw[lS _ (by intro e;have:=congrArg aDG e;rw[aCB] at this;simp only[List.length_nil] at this;omega)] at hm2;cases hm2
   ·omega
end Go.Proofs.YtcjjfeephaddcaaGreatDoor.Lx
namespace Go.Proofs.YtcjjfeephaddcaaGreatDoor
open Go.RowKit
theorem Bh(s:Bs)(k:Nat)(m:Int)(w:World)(hM:lN w m)(hT:T8 w)(hW:dJ w)(hl:s.length<=8388608):
  Calls aBS 162 #[.string ⟨s.toArray⟩,kZZ k] w fun e w'=>e=.returned (.bool (Lx.pO s k))/\Below w.heap.size w w':=by
 cases s with
 |nil=>
  go_enter func162,ntmps162
  go_wp2_with fail;go_ret;exact⟨rfl,aBU _ _⟩
 |cons a t=>
  have hne:((a::t:Bs)== [])=false:=rfl;have hsc:=QI (a::t) m w hM hT hW (by simp) (by omega);have hB:aC (Lx.pO (a::t) k=(decide ((Lx.gM (a::t)).1=k)&&decide ((Lx.gM (a::t)).2=(a::t).length))):=(by show _=_;simp[Lx.pO]);generalize Lx.pO (a::t) k=B at *;have aBv:(((⟨(a::t).toArray⟩:ByteArray).size:Nat):Int)=(((a::t).length:Nat):Int):=(by rw[bG]);generalize hL:(a::t)=L at *;generalize Lx.gM L=X at *;obtain⟨x,n⟩:=X;simp only at hB;have hsc:Calls aBS 148 #[.string ⟨L.toArray⟩] w fun e w'=>e=.returned (.tuple #[kZZ x,kZZ n])/\Below w.heap.size w w':=hsc
  have hLe:(L== [])=false:=hne;have HL:=aB hL;clear hL hne aBv
  by_cases h1:x=k
  ·by_cases h2:n=L.length
   ·have hR:aC (B=true):=(by show _=_;rw[hB.out,decide_eq_true h1,decide_eq_true h2];rfl);have e1:((x:Int)==(k:Int))=true:=(by simp[h1]);have e2:((n:Int)==(L.length:Int))=true:=(by simp[h2]);clear h1 h2 hB
    go_enter func162,ntmps162
    go_wp2_with fail;refine hsc.mono ?_;rintro e w2 ⟨rfl,hb2⟩;go_wp2_with fail;go_ret;exact⟨by rw[hR.out];rfl,hb2⟩
   ·have hR:aC (B=false):=(by show _=_;rw[hB.out,decide_eq_true h1,decide_eq_false h2];rfl);have e1:((x:Int)==(k:Int))=true:=(by simp[h1]);have e2:((n:Int)==(L.length:Int))=false:=(by simp;omega);clear h1 h2 hB
    go_enter func162,ntmps162
    go_wp2_with fail;refine hsc.mono ?_;rintro e w2 ⟨rfl,hb2⟩;go_wp2_with fail;go_ret;exact⟨by rw[hR.out];rfl,hb2⟩
  ·have hR:aC (B=false):=(by show _=_;rw[hB.out,decide_eq_false h1];rfl);have e1:((x:Int)==(k:Int))=false:=(by simp;omega);clear h1 hB
   go_enter func162,ntmps162
   go_wp2_with fail;refine hsc.mono ?_;rintro e w2 ⟨rfl,hb2⟩;go_wp2_with fail;go_ret;exact⟨by rw[hR.out];rfl,hb2⟩
def uJ(s:Bs):Bool:=decide (s.length<=40)&&Lx.pO s 3
theorem U9(s:Bs)(m:Int)(w:World)(hM:lN w m)(hT:T8 w)(hW:dJ w)(hl:s.length<=8388608):
  Calls aBS 117 #[.string ⟨s.toArray⟩] w fun e w'=>e=.returned (.bool (uJ s))/\Below w.heap.size w w':=by
 have ha:Calls aBS 162 #[.string ⟨s.toArray⟩,kZZ 3] w fun e w'=>e=.returned (.bool (Lx.pO s 3))/\Below w.heap.size w w':=Bh s 3 m w hM hT hW hl
 have hR:aC (uJ s=(decide (s.length<=40)&&Lx.pO s 3)):=rfl;generalize uJ s=B at *;generalize Lx.pO s 3=Q at *
 by_cases h:s.length<=40
 ·have h1:(s.length:Int)<=40:=(by omega);have hR2:aC (B=Q):=(by show _=_;rw[hR.out,decide_eq_true h];rfl);clear h hR
  go_enter func117,ntmps117
  go_wp2_with fail;refine ha.mono ?_;rintro e w2 ⟨rfl,hb2⟩;go_wp2_with fail;go_ret;exact⟨by rw[hR2.out];rfl,hb2⟩
 ·have h1: ¬(s.length:Int)<=40:=(by omega);have hR2:aC (B=false):=(by show _=_;rw[hR.out,decide_eq_false h];rfl);clear h hR
  go_enter func117,ntmps117
  go_wp2_with fail;go_ret;exact⟨by rw[hR2.out];rfl,aBU _ _⟩
theorem Vu(s:Bs)(k:Nat)(h:Lx.pO s k=false)(hl:(Lx.dR 0 s).length=1): ∃x y z,Lx.dR 0 s=[(x,y,z)]/\x≠k:=by
 match hR:Lx.dR 0 s,hl with
 | [(x,y,z)],_=>
  refine⟨x,y,z,rfl,fun e=> ?_⟩;subst e;have hne:s≠ []:=by rintro rfl;rw[Lx.jK] at hR;cases hR
  have hy:y=0:=(by rw[Lx.lS 0 hne] at hR;injection hR with h1 _;injection h1 with _ h2;injection h2 with h3 _;exact h3.symm);subst hy;rw[(Lx.SN s x).2 ⟨z,hR⟩] at h;cases h
theorem XW(s:Bs)(w:World)(hl:s.length<=8388608):
  Calls aBS 34 #[.string ⟨s.toArray⟩] w fun e w'=>e=.returned (.bool (uJ s))/\Below w.heap.size w w':=by
 have hr:=BX s w hl;have hB:aC (uJ s=(decide (s.length<=40)&&Lx.pO s 3)):=rfl;generalize uJ s=B at *
 by_cases h:s.length<=40
 ·have h1:(s.length:Int)<=40:=(by omega);cases hq:Lx.pO s 3 with
  |true=>
   have hB2:aC (B=true):=(by show _=_;rw[hB.out,decide_eq_true h,hq];rfl);obtain⟨n,hn⟩:=(Lx.SN s 3).1 hq;rw[hn] at hr;clear hB h hn hq
   go_enter func34,ntmps34
   go_wp2_with fail;refine hr.mono ?_;rintro e w2 ⟨A,c,rfl,hrd,hb2⟩;obtain⟨b,o,rfl,_,c0,_,_⟩:=Rd.tk (l:=[(3,0,n)]) (k:=0) hrd (by simp);simp at c0;clear hr hrd;go_wp2_with fail;go_ret;exact⟨by rw[hB2.out];rfl,hb2⟩
  |false=>
   have hB2:aC (B=false):=by show _=_;rw[hB.out,hq];simp
   by_cases hl1:(Lx.dR 0 s).length=1
   ·obtain⟨x,y,z,hx,hne⟩:=Vu s 3 hq hl1;rw[hx] at hr;have e3:((x:Int)==3)=false:=(by simp;omega);clear hB h hq hl1 hx hne
    go_enter func34,ntmps34
    go_wp2_with fail;refine hr.mono ?_;rintro e w2 ⟨A,c,rfl,hrd,hb2⟩;obtain⟨b,o,rfl,_,c0,_,_⟩:=Rd.tk (l:=[(x,y,z)]) (k:=0) hrd (by simp);simp at c0;clear hr hrd;go_wp2_with fail;go_ret;exact⟨by rw[hB2.out];rfl,hb2⟩
   ·generalize Lx.dR 0 s=R at *;have e3:((R.length:Int)==1)=false:=(by simp;omega);clear hB h hq hl1
    go_enter func34,ntmps34
    go_wp2_with fail;refine hr.mono ?_;rintro e w2 ⟨A,c,rfl,hrd,hb2⟩;clear hr hrd;go_wp2_with fail;go_ret;exact⟨by rw[hB2.out];rfl,hb2⟩
 ·have h1: ¬(s.length:Int)<=40:=(by omega);have hB2:aC (B=false):=(by show _=_;rw[hB.out,decide_eq_false h];rfl);generalize Lx.dR 0 s=R at *;clear hB h
  go_enter func34,ntmps34
  go_wp2_with fail;refine hr.mono ?_;rintro e w2 ⟨A,c,rfl,hrd,hb2⟩;clear hr hrd;go_wp2_with fail;go_ret;exact⟨by rw[hB2.out];rfl,hb2⟩
end Go.Proofs.YtcjjfeephaddcaaGreatDoor
