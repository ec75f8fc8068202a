import Derived.Test.YtcjjfeephaddcaaGreatDoorJba
import Derived.LaidEql
import Derived.Stop.Asserts
import Derived.RowKitTokens
set_option linter.all false
open Bool renaming or_false->aDK
open Decidable renaming of_not_not->aFM
open Go.IntKind renaming i64->aCQ
open Go.IntWalk renaming i64_in->aCV
open Go.Proofs.Tryz renaming prog->aBS
open Go.Result renaming andThen->aFJ
open Go.RowKit.Below renaming refl->aBU
open Go.Value renaming slice->aBX,oneCell'->aCA,ownBlock->aCZ
open Go.World renaming news_of_block->aCK,cell?_of_block->aCM,block_lt_of_cell?->aDA
open List renaming mem_singleton->aCH,contains_cons->aGJ,contains_nil->aGK
open Nat renaming le_refl->aBT,zero_le->aBZ,lt_of_lt_of_le->aCF,lt_irrefl->aDR
set_option maxHeartbeats 64000000
set_option maxRecDepth 100000
open Go.Proofs.Tryz
namespace Go.Proofs.YtcjjfeephaddcaaGreatDoor
open Go.RowKit Go.Maps
variable{w w':World}{A:Option Addr}{c:Nat}
theorem aBD:(aBS.info? 87).map (fun i=>(i.zero,i.size,i.bytes))=some (some (.agg #[.string .empty,.string .empty]),2,32):=by kernel_rfl
def RfiE(w:World)(fs:List Fl)(e:Ending)(w':World):Prop:= ∃A c,e=.returned (.slice A fs.length c)/\EI w' A fs/\Below w.heap.size w w'/\(∀b o,A=some ⟨b,o,none⟩->w.heap.size<=b)
def FsS(br o:Nat)(x:Fl)(w:World):Prop:=w.cell? ⟨br,o,none⟩=some (.string ⟨x.1.toArray⟩)/\w.cell? ⟨br,o+1,none⟩=some (.string ⟨x.2.toArray⟩)
theorem XX{c:Nat}{fs:List Fl}(hr:EI w A fs)(hl:fs.length<=1000000000):
  Calls aBS 12 #[.slice A fs.length c] w (RfiE w fs):=by
 obtain⟨i0,ji,iW,jz1,iV⟩:=info_parts aBD;have Hl:=aB hl;have Hr:=aB hr;clear hr hl
 go_enter func12,ntmps12
 go_wp2_with fail
 go_loopg [3,4] fs.length (fun m v u wr=> ∃(i:Nat) (Ao:Option Addr) (co:Nat),v=.slice Ao i co/\u=vZZ i/\i<=fs.length/\fs.length-i<=m/\wr.ownsRow w.heap.size 87 2 (.slice Ao i co) i ((fs.take i).flatMap C8)/\Below w.heap.size w wr)
 case atStart=>exact⟨0,none,0,rfl,rfl,aBZ _,aBT _,World.ownsRow_nil _ _ _ _,aBU _ _⟩
 case round=>
  obtain⟨i,Ao,co,rfl,rfl,hi,hm,hown,hd⟩:=hrel
  by_cases hlt: ¬i<fs.length
  ·obtain rfl:i=fs.length:=(by omega);have i1:=lC fs.length;have i2:=kZ fs.length;rw[List.take_length] at hown;have OG:=aB hown;have Hd:=aB hd;clear hlt hi hm hown hd;go_wp2_with fail;go_ret;refine⟨Ao,co,rfl,Rd.rO OG.o,Hd.o,fun b o e=> ?_⟩;subst e;rcases Nat.eq_zero_or_pos fs.length with h0|h0
   ·have:=(OG.o.lt b (by simp[aCZ]));exact this.1
   ·exact(OG.o.lt b (by simp[aCZ])).1
  replace hlt:=aFM hlt;have ir0:=iZ i;have ir1:=jJ i fs.length;have c1:=uX i (by have:=Hl.o;omega);have HT:aC ((fs.take (i+1)).flatMap C8=(fs.take i).flatMap C8++[.string ⟨fs[i].1.toArray⟩,.string ⟨fs[i].2.toArray⟩]):=(by show _=_;rw[List.take_succ_eq_append_getElem hlt,List.flatMap_append];rfl);obtain⟨br,o,rfl,hbl,hc0,hc1⟩:=Hr.o.at_ hlt;have hn:i<=1000000000:=(by have:=Hl.o;omega);have Hn:=aB hn;have hS:FsS br (o+i*2) fs[i] wr.drew:=⟨(hd.cell (p:=⟨br,o+i*2,none⟩) hbl).trans hc0,(hd.cell (p:=⟨br,o+i*2+1,none⟩) hbl).trans hc1⟩;have hbr:aC (br<w.heap.size):=hbl;generalize fs[i]=x at *;generalize(fs.take i).flatMap C8=vs at *;have bZ:=aB hlt;have Hm:=aB hm;have hd2:Below w.heap.size w wr.drew:=hd.drew;have hown2:wr.drew.ownsRow w.heap.size 87 2 (.slice Ao i co) i vs:=hown;clear hlt hm hi hd hown hc0 hc1 hbl hn;go_upto_region 5 with fail;refine aL 100 (FsS br (o+i*2) x) ?_;generalize wr.drew=w2 at *;have nG:=aB hd2;have aBN:=aB hown2;have hal:=nR w2 (.cells #[.string ⟨x.1.toArray⟩,.string ⟨x.2.toArray⟩] 87);have IJ:aC (FsS br (o+i*2) x (w2.alloc (.cells #[.string ⟨x.1.toArray⟩,.string ⟨x.2.toArray⟩] 87))):=⟨(hal.cell (p:=⟨br,o+i*2,none⟩) (aCF hbr.out hd2.size)).trans hS.1,(hal.cell (p:=⟨br,o+i*2+1,none⟩) (aCF hbr.out hd2.size)).trans hS.2⟩;have hS0:=hS;unfold FsS at *;clear hd2 hown2 hal
  iterate 12 refine aO 0 hS0 ?_
  clear hS0;refine aA 12 fun C hC=> ?_
  go_simp;refine hC.out _ _ (fun _=>IJ.out) ?_;clear hC C;refine aA 13 fun C hC=> ?_
  refine lT w2 (by rfl) _ _ 33 (by rfl) w.heap.size 87 2 32 underlying33 ji iW jz1 iV rfl (by omega) (by rfl) aBN.o #[.string ⟨x.1.toArray⟩,.string ⟨x.2.toArray⟩] (by rfl) rfl (by simp[aCA]) Hn.o (by omega) nG.o.size ?_;intro A' c' w5 FL hd5 hg5;have hS5:aC (w5.cell? ⟨br,o+i*2,none⟩=some (.string ⟨x.1.toArray⟩)/\w5.cell? ⟨br,o+i*2+1,none⟩=some (.string ⟨x.2.toArray⟩)):=⟨(aCM (a:=⟨br,o+i*2,none⟩) (hd5.block br hbr.out)).trans hS.1,(aCM (a:=⟨br,o+i*2+1,none⟩) (hd5.block br hbr.out)).trans hS.2⟩;refine hC.out _ _ (fun _=>hS5.out) ?_;clear hC C IJ hg5;refine aA 14 fun C hC=> ?_
  go_simp;refine hC.out _ _ (fun _=>hS5.out) ?_;clear hC C;refine aR ?_;have IU:=aB (nG.o.trans hd5);have Ho5:=aB FL;clear hd5 FL hS hS5;go_wp2_with fail
  go_roundg (fs.length-(i+1))
  case rel=>exact⟨i+1,A',c',by go_num,by go_num,by have:=bZ.o;omega,aBT _,by rw[HT.o];exact Ho5.o,IU.o⟩
  case measure=>have:=bZ.o;have:=Hm.o;omega
theorem P8(u:Sc.Us)(w:World):Calls aBS 43 #[.agg (iT u),.agg (iT u)] w (rX true w):=by
 have hd:Below w.heap.size w ((w.alloc (.cells (iT u) 31)).alloc (.cells (iT u) 101)):=((aBU _ w).alloc (aBT _) _).alloc (by simp) _;have h1:aV ((w.alloc (.cells (iT u) 31)).alloc (.cells (iT u) 101)) w.heap.size 31 (iT u):=(aV.new w _ _).alloc _;have h2:=aV.new (w.alloc (.cells (iT u) 31)) 101 (iT u);rw[World.size_alloc] at h2;obtain⟨r,hr⟩:=dC w.heap.size;rw[<-hr] at h1 h2
 go_enter func43,ntmps43
 go_upto_region 1 with fail;rw[<-hr];clear hr;generalize(w.alloc _).alloc _=w2 at *;have a0:=h1.cell 0;have a1:=h1.cell 1;have a2:=h1.cell 2;have a3:=h1.cell 3;have a4:=h1.cell 4;have a5:=h1.cell 5;have b0:=h2.cell 0;have b1:=h2.cell 1;have b2:=h2.cell 2;have b3:=h2.cell 3;have b4:=h2.cell 4;have b5:=h2.cell 5;simp[iT] at a0 a1 a2 a3 a4 a5 b0 b1 b2 b3 b4 b5;clear h1 h2;go_wp2_with fail;go_ret;exact⟨rfl,hd⟩
def wm(b o:Nat)(u:Sc.Us)(w:World):Prop:=w.cell? ⟨b,o+0,none⟩=some (kZZ (u.file:Int))/\w.cell? ⟨b,o+1,none⟩=some (kZZ (u.at_:Int))/\w.cell? ⟨b,o+2,none⟩=some (kZZ (u.Vr:Int))/\w.cell? ⟨b,o+3,none⟩=some (kZZ u.zV)/\w.cell? ⟨b,o+4,none⟩=some (kZZ u.oJ)/\w.cell? ⟨b,o+5,none⟩=some (kZZ (u.err:Int))
theorem Fh.six {us:List Sc.Us}(h:Fh w A us){i:Nat}(hi:i<us.length): ∃br o,A=some ⟨br,o,none⟩/\br<w.heap.size/\wm br (o+i*6) us[i] w:=by
 obtain⟨br,o,e,hl,hc⟩:=h.at_ hi;exact⟨br,o,e,hl,hc 0 _ rfl,hc 1 _ rfl,hc 2 _ rfl,hc 3 _ rfl,hc 4 _ rfl,hc 5 _ rfl⟩
theorem wm.below {B b o:Nat}{u:Sc.Us}(h:wm b o u w)(hd:Below B w w')(hb:b<B):wm b o u w':=
 ⟨(hd.cell (p:=⟨b,o+0,none⟩) hb).trans h.1,(hd.cell (p:=⟨b,o+1,none⟩) hb).trans h.2.1,(hd.cell (p:=⟨b,o+2,none⟩) hb).trans h.2.2.1,(hd.cell (p:=⟨b,o+3,none⟩) hb).trans h.2.2.2.1,(hd.cell (p:=⟨b,o+4,none⟩) hb).trans h.2.2.2.2.1,(hd.cell (p:=⟨b,o+5,none⟩) hb).trans h.2.2.2.2.2⟩
def VW(b o b' o':Nat)(u:Sc.Us)(w:World):Prop:=w.cell? ⟨b,o,none⟩=some (kZZ (u.file:Int))/\w.cell? ⟨b,o+1,none⟩=some (kZZ (u.at_:Int))/\w.cell? ⟨b,o+2,none⟩=some (kZZ (u.Vr:Int))/\w.cell? ⟨b,o+3,none⟩=some (kZZ u.zV)/\w.cell? ⟨b,o+4,none⟩=some (kZZ u.oJ)/\w.cell? ⟨b,o+5,none⟩=some (kZZ (u.err:Int))/\
 w.cell? ⟨b',o',none⟩=some (kZZ (u.file:Int))/\w.cell? ⟨b',o'+1,none⟩=some (kZZ (u.at_:Int))/\w.cell? ⟨b',o'+2,none⟩=some (kZZ (u.Vr:Int))/\w.cell? ⟨b',o'+3,none⟩=some (kZZ u.zV)/\w.cell? ⟨b',o'+4,none⟩=some (kZZ u.oJ)/\w.cell? ⟨b',o'+5,none⟩=some (kZZ (u.err:Int))
theorem VW.of {b o b' o':Nat}{u:Sc.Us}(h:wm b o u w)(h':wm b' o' u w):VW b o b' o' u w:=
 ⟨h.1,h.2.1,h.2.2.1,h.2.2.2.1,h.2.2.2.2.1,h.2.2.2.2.2,h'.1,h'.2.1,h'.2.2.1,h'.2.2.2.1,h'.2.2.2.2.1,h'.2.2.2.2.2⟩
theorem OT{A':Option Addr}{c c':Nat}{us:List Sc.Us}(h1:Fh w A us)(h2:Fh w A' us)(hl:us.length<=1000000000):
  Calls aBS 16 #[.slice A us.length c,.slice A' us.length c'] w (rX true w):=by
 have Hl:=aB hl;have H1:=aB h1;have H2:=aB h2;clear hl h1 h2
 go_enter func16,ntmps16
 go_wp2_with fail
 go_loopg [5] us.length (fun m v wr=> ∃i:Nat,v=vZZ i/\i<=us.length/\us.length-i<=m/\Below w.heap.size w wr)
 case atStart=>exact⟨0,rfl,aBZ _,aBT _,aBU _ _⟩
 case round=>
  obtain⟨i,rfl,hi,hm,hd⟩:=hrel
  by_cases hlt: ¬i<us.length
  ·obtain rfl:i=us.length:=(by omega);have i1:=lC us.length;have i2:=kZ us.length;clear hlt hi hm;go_wp2_with fail;go_ret;exact⟨rfl,hd⟩
  replace hlt:=aFM hlt;have ir0:=iZ i;have ir1:=jJ i us.length;have c1:=uX i (by have:=Hl.o;omega);obtain⟨b,o,rfl,hb,s1⟩:=H1.o.six hlt;obtain⟨b',o',rfl,hb',s2⟩:=H2.o.six hlt;have hS:VW b (o+i*6) b' (o'+i*6) us[i] wr.drew:=VW.of (s1.below hd.drew hb) (s2.below hd.drew hb');have Hb:aC (b<wr.drew.heap.size):=aCF hb hd.size;have Hb':aC (b'<wr.drew.heap.size):=aCF hb' hd.size;have hu:=P8 us[i] wr.drew;have HS:aC (wm b (o+i*6) us[i] wr.drew/\wm b' (o'+i*6) us[i] wr.drew):=⟨s1.below hd.drew hb,s2.below hd.drew hb'⟩;generalize us[i]=u at *;have bZ:=aB hlt;have Hm:=aB hm;have Hd:aC (Below w.heap.size w wr.drew):=hd.drew;clear hlt hm hi hd hb hb' s1 s2;unfold iT at hu;go_upto_region 6 with fail;refine aL 100 (VW b (o+i*6) b' (o'+i*6) u) ?_;generalize wr.drew=w2 at *;have hS0:=hS;unfold VW at *
  iterate 8 refine aO 0 hS0 ?_
  clear hS0;refine aA 8 fun C hC=> ?_
  go_simp;refine hu.mono ?_;clear hu;rintro e3 w3 ⟨rfl,hd3⟩;have hS5:aC (VW b (o+i*6) b' (o'+i*6) u w3):=VW.of (HS.o.1.below hd3 Hb.o) (HS.o.2.below hd3 Hb'.o);unfold VW at hS5;refine hC.out _ _ (fun _=>hS5.out) ?_;clear hC C;refine aA 9 fun C hC=> ?_
  go_simp;refine hC.out _ _ (fun _=>hS5.out) ?_;clear hC C;refine aR ?_;have IU:=aB (Hd.o.trans (hd3.mono Hd.o.size));clear hd3 hS hS5 HS;go_wp2_with fail
  go_roundg (us.length-(i+1))
  case rel=>exact⟨i+1,by go_num,by have:=bZ.o;omega,aBT _,IU.o⟩
  case measure=>have:=bZ.o;have:=Hm.o;omega
open Go.RowKit Go.Extern.Stop Go.Stop Go.Extern
theorem H9(t:Addr)(w:World):(ReflectliteValue.unpack (.iface 160 (.pointer (some t)))).run aBS w
  =.ok (.agg #[.pointer (some ⟨11,160,none⟩),.pointer (some ⟨w.heap.size,0,none⟩),.int .u64 150]) (w.alloc (.cells #[.pointer (some t)] 160)):=by kernel_rfl
theorem Vm(a:Addr)(w:World):(ReflectliteValue.methodAny (ReflectliteValue.valueError "reflectlite.Value.Type" 0) (fun t _ _ _=>ReflectliteType.toType t) #[.agg #[.pointer (some ⟨11,160,none⟩),.pointer (some a),.int .u64 150]]).run aBS w
  =.ok (.iface 289 (.agg #[.pointer (some ⟨11,160,none⟩)])) w:=by kernel_rfl
theorem PN(h:Value)(w:World):(Go.method 542 289 (.agg #[h]) "Kind").run aBS w=.ok (315,h) w:=by kernel_rfl
theorem Vo(w:World):((ReflectliteType.abiMethod fun t=>(fun a:Nat=>Value.int IntKind.u8 (a:Int))<$> Rtype.kind t) #[.pointer (some ⟨11,160,none⟩)]).run aBS w=.ok (.int .u8 22) w:=by kernel_rfl
theorem Vp(w:World):((ReflectliteType.abiMethod fun t=>(fun a:Nat=>Value.int IntKind.u8 (a:Int))<$> Rtype.kind t) #[.pointer (some ⟨11,29,none⟩)]).run aBS w=.ok (.int .u8 2) w:=by kernel_rfl
theorem Vn(z:Sem Value)(f:TypeId->Addr->Nat->Nat->Sem Value)(v:Value):
  ReflectliteValue.method z f #[v]=(do match<-ReflectliteValue.parts v with|none=>z|some (t,a,fl)=>f t a fl (fl%32)):=rfl
theorem SL(a:Addr)(w:World):(ReflectliteValue.parts (.agg #[.pointer (some ⟨11,160,none⟩),.pointer (some a),.int .u64 150])).run aBS w=.ok (some (160,a,150)) w:=by kernel_rfl
theorem Mg(a p:Addr)(W:World)(ha:W.cell? a=some (.pointer (some p))):
  (ReflectliteValue.method (ReflectliteValue.valueError "reflectlite.Value.IsNil" 0) ReflectliteValue.isNil #[.agg #[.pointer (some ⟨11,160,none⟩),.pointer (some a),.int .u64 150]]).run aBS W=.ok (.bool false) W:=by
 rw[Vn];simp only[Sem.run_bind,SL,aFJ];simp[ReflectliteValue.isNil,loadVar,isAgg,underlying,underlying160,ha,aFJ]
theorem PO(h:Value)(w:World):(Go.method 542 289 (.agg #[h]) "Elem").run aBS w=.ok (339,.agg #[h]) w:=by kernel_rfl
theorem zH(h:Value)(w:World):(Go.method 542 289 (.agg #[h]) "Implements").run aBS w=.ok (340,.agg #[h]) w:=by kernel_rfl
theorem wP(h:Value)(w:World):(Go.method 542 289 (.agg #[h]) "AssignableTo").run aBS w=.ok (337,.agg #[h]) w:=by kernel_rfl
theorem Vq(w:World):(ReflectliteType.method ReflectliteType.elem #[.agg #[.pointer (some ⟨11,160,none⟩)]]).run aBS w=.ok (.iface 289 (.agg #[.pointer (some ⟨11,29,none⟩)])) w:=by kernel_rfl
theorem NV(w:World):(ReflectliteType.relation "Implements" ReflectliteType.implements_ #[.agg #[.pointer (some ⟨11,29,none⟩)],.iface 289 (.agg #[.pointer (some ⟨11,26,none⟩)])]).run aBS w=.ok (.bool true) w:=by kernel_rfl
theorem Bd(v:Value)(w:World):(ReflectliteType.typeOf #[.iface 29 v]).run aBS w=.ok (.iface 289 (.agg #[.pointer (some ⟨11,29,none⟩)])) w:=by kernel_rfl
theorem NY(w:World):(ReflectliteType.relation "AssignableTo" ReflectliteType.assignableTo #[.agg #[.pointer (some ⟨11,29,none⟩)],.iface 289 (.agg #[.pointer (some ⟨11,29,none⟩)])]).run aBS w=.ok (.bool true) w:=by kernel_rfl
theorem I1(n:Int)(w:World):(ReflectliteValue.unpack (.iface 29 (kZZ n))).run aBS w
  =.ok (.agg #[.pointer (some ⟨11,29,none⟩),.pointer (some ⟨w.heap.size,0,none⟩),.int .u64 130]) (w.alloc (.cells #[kZZ n] 29)):=by kernel_rfl
theorem Bf(w:World):(Rtype.elem? 160).run aBS w=.ok (some 29) w:=by kernel_rfl
theorem aAx(p:Addr)(w:World):(ReflectliteValue.mk 29 p ReflectliteValue.flagAddr).run aBS w=.ok (.agg #[.pointer (some ⟨11,29,none⟩),.pointer (some p),.int .u64 386]) w:=by kernel_rfl
theorem Mh(a p:Addr)(W:World)(ha:W.cell? a=some (.pointer (some p))):
  (ReflectliteValue.method (ReflectliteValue.valueError "reflectlite.Value.Elem" 0) ReflectliteValue.elem #[.agg #[.pointer (some ⟨11,160,none⟩),.pointer (some a),.int .u64 150]]).run aBS W
   =.ok (.agg #[.pointer (some ⟨11,29,none⟩),.pointer (some p),.int .u64 386]) W:=by
 rw[Vn];simp only[Sem.run_bind,SL,aFJ];simp[ReflectliteValue.elem,loadVar,isAgg,underlying,underlying160,ha,aFJ,Bf,aAx]
theorem aAw(v x:Value): ∃(s1 s2 s3 s4 s5:String),ReflectliteValue.set #[v,x]=(do
  let (some (dst,a,fl),some (src,b,_)):=(<-ReflectliteValue.parts v,<-ReflectliteValue.parts x)
   |unsupported (.noEntry s1)
  if fl/ReflectliteValue.flagAddr%2==0 then unsupported (.noEntry s2)
  let val<-loadVar src b
  if<-Rtype.directlyAssignable dst src then storeVar dst a val
  else if<-Rtype.implements dst src then
   if(<-Rtype.kind src)==20 then
    match val with
    | .nilIface=>unsupported (.noEntry s3)
    |_=>storeVar dst a val
   else storeVar dst a (.iface src val)
  else panicString (s4++(<-Rtype.spelt src)++s5++(<-Rtype.spelt dst))
  pure (.tuple #[])):=⟨_,_,_,_,_,rfl⟩
theorem Be(a:Addr)(w:World):(ReflectliteValue.parts (.agg #[.pointer (some ⟨11,29,none⟩),.pointer (some a),.int .u64 386])).run aBS w=.ok (some (29,a,386)) w:=by kernel_rfl
theorem Mf(a:Addr)(w:World):(ReflectliteValue.parts (.agg #[.pointer (some ⟨11,29,none⟩),.pointer (some a),.int .u64 130])).run aBS w=.ok (some (29,a,130)) w:=by kernel_rfl
theorem Bg(w:World):(Rtype.directlyAssignable 29 29).run aBS w=.ok true w:=by kernel_rfl
theorem ll(ta b:Addr)(n:Int)(old:Value)(W:World)(hb:W.cell? b=some (kZZ n))(ht:W.cell? ta=some old)(hf:W.frozen? ta=false):
  (ReflectliteValue.set #[.agg #[.pointer (some ⟨11,29,none⟩),.pointer (some ta),.int .u64 386],.agg #[.pointer (some ⟨11,29,none⟩),.pointer (some b),.int .u64 130]]).run aBS W
   =.ok (.tuple #[]) (W.setCell ta (kZZ n)):=by
 obtain⟨s1,s2,s3,s4,s5,he⟩:=aAw (.agg #[.pointer (some ⟨11,29,none⟩),.pointer (some ta),.int .u64 386]) (.agg #[.pointer (some ⟨11,29,none⟩),.pointer (some b),.int .u64 130]);rw[he];simp only[Sem.run_bind,Be,Mf,aFJ];simp[ReflectliteValue.flagAddr,loadVar,isAgg,underlying,underlying29,hb,aFJ,Bg,storeVar,Value.cells,storeCells,Addr.add];rw[run_store aBS W ta _ _ (by rfl)];simp[ht,hf]
def xY(w:World):Prop:=w.cell? ⟨1,0,none⟩=some (.iface 289 (.agg #[.pointer (some ⟨11,26,none⟩)]))
theorem xY.lt (h:xY w):1<w.heap.size:=aDA w ⟨1,0,none⟩ h
theorem xY.below {B:Nat}(h:xY w)(hb:Below B w w')(hB:1<B):xY w':=(hb.cell (p:=⟨1,0,none⟩) hB).trans h
theorem xY.size (h:xY w)(hb:Below w.heap.size w w'):xY w':=h.below hb h.lt
theorem aAy(n:Int)(tb:Nat)(old:Value)(w:World)(hg:xY w)(ht0:w.cell? ⟨tb,0,none⟩=some old)(hf0:w.frozen? ⟨tb,0,none⟩=false):
  Calls aBS 74 #[.iface 29 (kZZ n),.iface 160 (pZZ tb)] w fun ev w'=>ev=.returned (.bool true)/\
   w'=((((w.alloc (.cells #[pZZ tb] 160)).alloc (.cells #[.pointer (some ⟨11,160,none⟩),.pointer (some ⟨w.heap.size,0,none⟩),.int .u64 150] 242)).alloc (.cells #[.pointer (some ⟨11,160,none⟩),.pointer (some ⟨w.heap.size,0,none⟩),.int .u64 150] 242)).alloc (.cells #[kZZ n] 29)).setCell ⟨tb,0,none⟩ (kZZ n):=by
 have h6:= @run_callFunc_extern aBS 124 _ (fun args=>ReflectliteValue.unpack (args.getD 0 (.tuple #[]))) func124 (by kernel_rfl) (by kernel_rfl) (by kernel_rfl) (by kernel_rfl);have h7:= @run_callFunc_extern aBS 125 _ (ReflectliteValue.methodAny (ReflectliteValue.valueError "reflectlite.Value.Type" 0) (fun t _ _ _=>ReflectliteType.toType t)) func125 (by kernel_rfl) (by kernel_rfl) (by kernel_rfl) (by kernel_rfl);have h8:= @run_callFunc_extern aBS 126 _ (ReflectliteValue.method (ReflectliteValue.valueError "reflectlite.Value.IsNil" 0) ReflectliteValue.isNil) func126 (by kernel_rfl) (by kernel_rfl) (by kernel_rfl) (by kernel_rfl);have h27:= @run_callFunc_extern aBS 315 _ (ReflectliteType.abiMethod fun t=>do pure (.int .u8 (<-Rtype.kind t))) func315 (by kernel_rfl) (by kernel_rfl) (by kernel_rfl) (by kernel_rfl);have h37:= @run_callFunc_extern aBS 339 _ (ReflectliteType.method ReflectliteType.elem) func339 (by kernel_rfl) (by kernel_rfl) (by kernel_rfl) (by kernel_rfl);have h38:= @run_callFunc_extern aBS 340 _ (ReflectliteType.relation "Implements" ReflectliteType.implements_) func340 (by kernel_rfl) (by kernel_rfl) (by kernel_rfl) (by kernel_rfl);have h10:= @run_callFunc_extern aBS 175 _ ReflectliteType.typeOf func175 (by kernel_rfl) (by kernel_rfl) (by kernel_rfl) (by kernel_rfl);have h35:= @run_callFunc_extern aBS 337 _ (ReflectliteType.relation "AssignableTo" ReflectliteType.assignableTo) func337 (by kernel_rfl) (by kernel_rfl) (by kernel_rfl) (by kernel_rfl);have h11:= @run_callFunc_extern aBS 176 _ (ReflectliteValue.method (ReflectliteValue.valueError "reflectlite.Value.Elem" 0) ReflectliteValue.elem) func176 (by kernel_rfl) (by kernel_rfl) (by kernel_rfl) (by kernel_rfl);have h12:= @run_callFunc_extern aBS 177 _ ReflectliteValue.set func177 (by kernel_rfl) (by kernel_rfl) (by kernel_rfl) (by kernel_rfl);have tO:=Bd;have mA:=wP;have a25:=NY;have v25:=I1;have f6:=H9;have f7:=Vm;have mK:=PN;have mE:=PO;have mI:=zH;have k27:=Vo;have k25:=Vp;have e27:=Vq;have i25:=NV;have n8:=Mg ⟨w.heap.size,0,none⟩ ⟨tb,0,none⟩ ((w.alloc (.cells #[pZZ tb] 160)).alloc (.cells #[.pointer (some ⟨11,160,none⟩),.pointer (some ⟨w.heap.size,0,none⟩),.int .u64 150] 242)) (by simp);have hlt:=hg.lt;have hg2:((w.alloc (.cells #[pZZ tb] 160)).alloc (.cells #[.pointer (some ⟨11,160,none⟩),.pointer (some ⟨w.heap.size,0,none⟩),.int .u64 150] 242)).cell? ⟨1,0,none⟩=some (.iface 289 (.agg #[.pointer (some ⟨11,26,none⟩)])):=by rw[aJ _ _ _ _ (by simp<;>omega),aJ _ _ _ _ hlt];exact hg
 have htl:tb<w.heap.size:=aDA w ⟨tb,0,none⟩ ht0;have el:=Mh ⟨w.heap.size,0,none⟩ ⟨tb,0,none⟩ (((w.alloc (.cells #[pZZ tb] 160)).alloc (.cells #[.pointer (some ⟨11,160,none⟩),.pointer (some ⟨w.heap.size,0,none⟩),.int .u64 150] 242)).alloc (.cells #[.pointer (some ⟨11,160,none⟩),.pointer (some ⟨w.heap.size,0,none⟩),.int .u64 150] 242)) (by rw[aJ _ _ _ _ (by simp;omega)];simp);have st:=ll ⟨tb,0,none⟩ ⟨w.heap.size+1+1+1,0,none⟩ n old ((((w.alloc (.cells #[pZZ tb] 160)).alloc (.cells #[.pointer (some ⟨11,160,none⟩),.pointer (some ⟨w.heap.size,0,none⟩),.int .u64 150] 242)).alloc (.cells #[.pointer (some ⟨11,160,none⟩),.pointer (some ⟨w.heap.size,0,none⟩),.int .u64 150] 242)).alloc (.cells #[kZZ n] 29))
  (by rw[World.cell?_alloc_at (hn:=by simp)];rfl)
  (by rw[aJ _ _ _ _ (by simp;omega),aJ _ _ _ _ (by simp;omega),aJ _ _ _ _ (by simp;omega),aJ _ _ _ _ htl];exact ht0)
  (by rw[qY _ _ _ _ (by simp;omega),qY _ _ _ _ (by simp;omega),qY _ _ _ _ (by simp;omega),qY _ _ _ _ htl];exact hf0)
 unfold xY at hg
 go_enter func74,ntmps74
 go_wp2
 refine wp_loop_rounds 1 ?_;rw[rounds_succ]
 go_wp2
 go_ret;exact⟨rfl,rfl⟩
theorem Pj(w:World):Calls aBS 35 #[.nilIface] w fun e w'=>e=.returned (kZZ 0)/\Below w.heap.size w w':=by
 go_enter func35,ntmps35
 go_wp2
 go_ret;exact⟨rfl,aBU _ _⟩
theorem Pk(n:Int)(w:World)(hg:xY w):Calls aBS 35 #[.iface 29 (kZZ n)] w fun e w'=>e=.returned (kZZ n)/\Below w.heap.size w w':=by
 have hA:=nR w (.cells #[kZZ 0] 29);have hgA:=hg.size hA;have htA:(w.alloc (.cells #[kZZ 0] 29)).cell? ⟨w.heap.size,0,none⟩=some (kZZ 0):=by simp
 have hfA:(w.alloc (.cells #[kZZ 0] 29)).frozen? ⟨w.heap.size,0,none⟩=false:=by simp
 have hh:=aAy n w.heap.size _ _ hgA htA hfA;have Hh:=aB hh;clear hh htA hfA hgA
 go_enter func35,ntmps35
 go_wp2_with fail;refine Hh.o.mono ?_;rintro e w' ⟨rfl,rfl⟩
 go_wp2
 go_ret;exact⟨rfl,(((((aBU _ _).alloc (aBT _) _).alloc (by simp) _).alloc (by simp;omega) _).alloc (by simp;omega) _).alloc (by simp;omega) _⟩
theorem Gq(k:Nat)(w:World)(hg:xY w):Calls aBS 35 #[VH k] w fun e w'=>e=.returned (kZZ k)/\Below w.heap.size w w':=by
 cases k with
 |zero=>exact Pj w
 |succ k=>exact Pk _ w hg
theorem Ky(k:Nat)(n:Int)(w:World)(hg:xY w)(hk:(k:Int)=n):Calls aBS 14 #[VH k,kZZ n] w fun e w'=>e=.returned (.bool true)/\Below w.heap.size w w':=by
 subst hk
 go_enter func14,ntmps14
 go_wp2_with fail;refine(Gq k _ hg).mono ?_;rintro e w1 ⟨rfl,hb1⟩
 go_wp2
 go_ret;exact⟨by simp,hb1⟩
def xc(us:List Sc.Us)(w:World)(e:Ending)(w':World):Prop:= ∃wb Au cu,e=.returned (pZZ wb)/\w'.cell? ⟨wb,3,none⟩=some (.slice Au us.length cu)/\Fh w' Au us/\Below w.heap.size w w'
theorem yY{fs:List Fl}{m:Int}(hr:EI w A fs)(hM:lN w m)(hT:T8 w)(hW:dJ w)(hE:xY w)(hn: ∀f∈fs,f.1.length<=8388608)(hcap:fs.length<=c)(hlen:fs.length<=1000000000)
  (hNew:Sc.fO fs=0->∀(w':World) (A':Option Addr) (c':Nat),EI w' A' fs->Below w.heap.size w w'->Calls aBS 15 #[.slice A' fs.length c'] w' (xc (Sc.qC (Sc.uV fs)) w')):
  Calls aBS 4 #[.slice A fs.length c] w fun e w'=>e=.returned (.bool true)/\Below w.heap.size w w':=by
 have hrs:=O8 hr hM hT hW hn hcap;have Hr:=aB hr;have Hn:=aB hn;have HE:=aB hE;have Hl:=aB hlen;have aBd:=aB hNew;have HU:aC (Sc.fO fs=0->(Sc.qC (Sc.uV fs)).length<=1000000000):=fun h=>by obtain⟨h1,h2⟩:=Sc.BH h;have:=Sc.EL fs h1 h2;omega
 clear hr hM hT hW hE hn hcap hlen hNew;generalize Sc.qC (Sc.uV fs)=us at *
 go_enter func4,ntmps4
 go_wp2_with fail;refine hrs.mono ?_;clear hrs;rintro e1 w1 ⟨hd1,h1,h0⟩;have hfi:=XX (c:=c) (Hr.o.below hd1) Hl.o;obtain⟨AL,cL,xL,nL,hx1,hx2,hx3,hx4⟩: ∃AL cL xL nL,e1=.returned (.tuple #[.slice AL nL cL,xL])/\xL=VH (Sc.fO fs)/\(Sc.fO fs≠0->nL=0)/\(Sc.fO fs=0->nL=us.length/\Fh w1 AL us):=by
  by_cases hf:Sc.fO fs=0
  ·obtain⟨A1,e,hu⟩:=h0 hf;exact⟨A1,us.length,.nilIface,us.length,e,by rw[hf];rfl,fun h=>absurd hf h,fun _=>⟨rfl,hu⟩⟩
  ·exact⟨none,0,_,0,h1 hf,rfl,fun _=>rfl,fun h=>absurd h hf⟩
 subst hx1;have Hx2:=aB hx2;have Hx3:=aB hx3;have Hx4:=aB hx4;have wL:=aB hd1;clear h1 h0 hx2 hx3 hx4 hd1;go_wp2_with fail;refine hfi.mono ?_;clear hfi;rintro e2 w2 ⟨A2,c2,rfl,hf2,hd2,_⟩;have CZ:=wL.o.trans (hd2.mono wL.o.size);have hft:=XY (c:=c2) hf2 Hn.o;have Ca:=aB hd2;have nG:=aB CZ;have yu:=aB hf2;generalize Sc.fO fs=R at *;clear hd2 CZ hf2;go_wp2_with fail;refine hft.mono ?_;clear hft;rintro e3 w3 ⟨rfl,hd3⟩;have BQ:=aB (nG.o.trans (hd3.mono nG.o.size));have aAU:=aB (Ca.o.trans (hd3.mono Ca.o.size));have Hf3:=aB (yu.o.below hd3);have her:=Ky R (R:Int) w3 (HE.o.size BQ.o) rfl;rw[<-Hx2.o] at her;clear hd3 nG yu Ca;go_wp2_with fail;refine her.mono ?_;clear her;rintro e4 w4 ⟨rfl,hd4⟩;have wK:=aB (BQ.o.trans (hd4.mono BQ.o.size));have om:=aB (aAU.o.trans (hd4.mono aAU.o.size));have Hf4:=aB (Hf3.o.below hd4);clear hd4 BQ Hf3 aAU
 by_cases hR:R=0
 ·subst hR;obtain⟨hn1,ZE⟩:=Hx4.o rfl;have hnw:=aBd.o rfl w4 A2 c2 Hf4.o wK.o;have HU2:=HU.o rfl;have Hus:=aB (ZE.below om.o);have Xg:=aB HU2;subst hn1;clear aBd HU HU2 ZE Hx2 Hx3 Hx4;go_wp2_with fail;refine hnw.mono ?_;clear hnw;rintro e5 w5 ⟨wb,Au,cu,rfl,h3,uf,hd5⟩;have hsm:=OT (c:=cL) (c':=cu) (Hus.o.below hd5) uf Xg.o;have IU:=aB (wK.o.trans (hd5.mono wK.o.size));clear hd5 uf;go_wp2_with fail;refine hsm.mono ?_;clear hsm h3;rintro e6 w6 ⟨rfl,hd6⟩;go_wp2_with fail;go_ret;exact⟨rfl,IU.o.trans (hd6.mono IU.o.size)⟩
 ·have n0:((R:Int) !=(0:Int))=true:=(by simp;omega);obtain rfl:=Hx3.o hR;clear aBd HU Hx2 Hx3 Hx4 hR;go_wp2_with fail;go_ret;exact⟨rfl,wK.o⟩
open Go.RowKit
structure FZ(s:Bs)(T:List Tk):Prop where
 good:Tr.Good s T
 hT:T.length<=4194304
 hs:s.length<=4194304
theorem Fa(x y:Bs): [x].contains y=(y==x):=by rw[aGJ,aGK,aDK]
section
variable{w:World}{K:Nat->Prop}{g:Nat}{s:Bs}{T:List Tk}{Ar:Option Addr}{c n i:Nat}{cut:Bool}
theorem BN(R:mO w K g s T Ar c n i cut)(hT:T.length<=8388608):
  Calls aBS 128 #[pZZ g] w fun e w'=>e=.returned (kZZ (Tr.aH T i:Int))/\w'=w:=by
 obtain⟨_,g1,g2,_,_⟩:=R.cells;have hrow:=R.row;have hi:=R.hi;clear R;obtain⟨N,hN⟩:=dC (Tr.aH T i);rw[<-hN];have HR:aC (Tr.aH T i=N):=hN.symm;clear hN
 go_enter func128,ntmps128
 go_wp2
 go_loop [3] (fun v=> ∃k:Nat,k<=T.length/\v=kZZ k/\aC (Tr.aH T k=N)) (fun v=>T.length-(intOf v).toNat)
 case atStart=>exact⟨i,hi,rfl,HR⟩
 case round=>
  obtain⟨k,hk,rfl,Hk⟩:=hrel;have i0:=iZ k
  by_cases hlt:k<T.length
  ·have i1:=jJ k T.length;obtain⟨br,o,rfl,_,_,q0,_,_⟩:=hrow.tk hlt;have rZ:aC (Tr.dY T[k]=true->Tr.aH T (k+1)=N):=fun h=>(by rw[<-Tr.Dn T k hlt h];exact Hk.o);have kC:aC (Tr.dY T[k]=false->N=k):=fun h=>(by rw[<-Hk.o];exact Tr.QY T k hlt h);have Fy:aC (Tr.dY T[k]=(T[k].1==1||T[k].1==2)):=rfl;generalize T[k].1=kd at *
   by_cases k1:kd=1
   ·subst k1;have Hb:=aB (rZ.o Fy.o);clear Fy rZ kC HR
    go_wp2
    go_round
    case rel=>exact⟨k+1,by omega,by go_num,Hb.o⟩
    case measure=>simp[intOf];omega
   ·have e1:((kd:Int)==1)=false:=(by simp;omega);have f1:(kd==1)=false:=by simpa using k1
    by_cases k2:kd=2
    ·subst k2;have Hb:=aB (rZ.o Fy.o);clear Fy rZ kC HR k1 f1
     go_wp2
     go_round
     case rel=>exact⟨k+1,by omega,by go_num,Hb.o⟩
     case measure=>simp[intOf];omega
    ·have e2:((kd:Int)==2)=false:=(by simp;omega);have f2:(kd==2)=false:=(by simpa using k2);rw[f1,f2] at Fy;have Hb:=aB (kC.o Fy.o);clear Fy rZ kC HR Hk k1 k2 f1 f2
     go_wp2
     go_ret;exact⟨by rw[Hb.o];rfl,rfl⟩
  ·have i1: ¬(k:Int)<(T.length:Int):=(by omega);have Hb:aC (N=k):=(by show _=_;rw[<-Hk.o];exact Tr.YK T k (by omega));clear Hk HR hlt
   go_wp2
   go_ret;exact⟨by rw[Hb.o];rfl,rfl⟩
theorem qD(X:FZ s T)(R:mO w K g s T Ar c n i cut):
  Calls aBS 75 #[pZZ g] w fun e w'=>e=.returned (kZZ (Tr.bR T (Tr.aH T i):Int))/\w'=w:=by
 have h1:=BN R (by have:=X.hT;omega);obtain⟨_,g1,_,_,_⟩:=R.cells;have hrow:=R.row;clear R X;generalize Tr.aH T i=k at *;have i0:=iZ k
 by_cases hlt:k<T.length
 ·have i1:=jJ k T.length;have i2: ¬(T.length:Int)<=(k:Int):=(by omega);obtain⟨br,o,rfl,_,hbl,q0,_,_⟩:=hrow.tk hlt;have Hk:=aB (Tr.tC T k hlt);generalize Tr.bR T k=kk at *;generalize T[k].1=t at *;clear hrow
  go_enter func75,ntmps75
  go_wp2_with fail;refine h1.mono ?_;clear h1;rintro e w1 ⟨rfl,rfl⟩;go_wp2_with fail;go_ret;exact⟨by rw[Hk.o];rfl,rfl⟩
 ·have i1:(T.length:Int)<=(k:Int):=(by omega);rw[Tr.mX T k (by omega)];clear hrow
  go_enter func75,ntmps75
  go_wp2_with fail;refine h1.mono ?_;clear h1;rintro e w1 ⟨rfl,rfl⟩;go_wp2_with fail;go_ret;exact⟨rfl,rfl⟩
theorem jQ(X:FZ s T)(R:mO w K g s T Ar c n i cut)(x:Bs):
  Calls aBS 130 #[pZZ g,.string ⟨x.toArray⟩] w fun e w'=>e=.returned (.bool (Tr.aW s T [x] i))/\Below w.heap.size w w':=by
 have h1:=BN R (by have:=X.hT;omega);obtain⟨g0,g1,_,_,_⟩:=R.cells;have hrow:=R.row;have hgl:=R.lt;have HR:aC (Tr.aW s T [x] i=((Tr.bR T (Tr.aH T i)==4||Tr.bR T (Tr.aH T i)==7)&& [x].contains (Tr.gX s T (Tr.aH T i)))):=rfl;generalize Tr.aW s T [x] i=r at *;generalize Tr.aH T i=k at *;have i0:=iZ k
 by_cases hlt:k<T.length
 ·have i1:=jJ k T.length;have i2: ¬(T.length:Int)<=(k:Int):=(by omega);obtain⟨br,o,rfl,_,hbl,q0,q1,q2⟩:=hrow.tk hlt;obtain⟨h2,_,_⟩:=X.good.at_ hlt;have hs:=X.hs;rw[Tr.tC T k hlt,Tr.yB s T k hlt] at HR;have uU:=aB (yG s T[k]);generalize T[k]=t at *;obtain⟨tk,ta,tl⟩:=t;dsimp only at h2 q0 q1 q2;clear hrow X R
  by_cases hk:tk=4\/tk=7
  ·have HB:aC (r=(Tr.jI s (tk,ta,tl)==x)):=(by show _=_;rw[HR.o];rw[Fa];rcases hk with rfl|rfl<;>rfl);clear HR;have hb0:=nR w (.cells #[vZZ tk,vZZ ta,vZZ tl] 149);have hB:aV (w.alloc (.cells #[vZZ tk,vZZ ta,vZZ tl] 149)) w.heap.size 149 #[vZZ tk,vZZ ta,vZZ tl]:=aV.new _ _ _;obtain⟨bx,hbx⟩:=dC w.heap.size;rw[<-hbx] at hB;have r0:=(hb0.cell (p:=⟨g,0,none⟩) hgl).trans g0;have a0:aCQ.wrap ((ta:Int)+tl)=(ta:Int)+tl:=aCV _ (by omega);have a1:(0:Int)<=(ta:Int)+tl:=(by omega);have a2:((ta:Int)+tl).toNat=ta+tl:=(by omega);have a3:(ta:Int)+tl<=(s.length:Int):=(by omega);have a4:(ta:Int)<=(ta:Int)+tl:=(by omega);have a5:ta<=ta+tl:=(by omega);have a6:ta+tl<=s.length:=h2;have b0:=hB.cell 0;have b1:=hB.cell 1;have b2:=hB.cell 2;simp at b0 b1 b2;have HE:aC (((⟨s.toArray⟩:ByteArray).extract ta (ta+tl)).toList=Tr.jI s (tk,ta,tl)):=(by show _=_;have h:=uU.o;injection h with h;have h':(⟨s.toArray⟩:ByteArray).extract ta (ta+tl)=⟨(Tr.jI s (tk,ta,tl)).toArray⟩:=h;rw[h'];simp);clear hs h2 uU;rcases hk with rfl|rfl
   ·go_enter func130,ntmps130
    go_wp2_with fail;refine h1.mono ?_;clear h1;rintro e w1 ⟨rfl,rfl⟩;go_upto_region 5 with fail;rw[<-hbx];clear hbx g0 g1 q0 q1 q2 hbl hgl;generalize w1.alloc _=w2 at *
    go_quiet (fail)
    go_wp2_with fail;go_ret;exact⟨by rw[HB.o,<-HE.o];rfl,below_drewN hb0 _⟩
   ·go_enter func130,ntmps130
    go_wp2_with fail;refine h1.mono ?_;clear h1;rintro e w1 ⟨rfl,rfl⟩;go_upto_region 5 with fail;rw[<-hbx];clear hbx g0 g1 q0 q1 q2 hbl hgl;generalize w1.alloc _=w2 at *
    go_quiet (fail)
    go_wp2_with fail;go_ret;exact⟨by rw[HB.o,<-HE.o];rfl,below_drewN hb0 _⟩
  ·have hk4: ¬tk=4:=fun e=>hk (.inl e)
   have EC: ¬tk=7:=fun e=>hk (.inr e)
   have e4:((tk:Int)==4)=false:=(by simp;omega);have e7:((tk:Int)==7)=false:=(by simp;omega);have HB:aC (r=false):=(by show _=_;rw[HR.o];simp[hk4,EC]);have n4:((tk:Int) !=4)=true:=(by rw[bne,e4];rfl);have n7:((tk:Int) !=7)=true:=(by rw[bne,e7];rfl);have i3:decide (T.length<=k)=false:=(by simpa using hlt);clear hk hk4 EC HR hs h2
   go_enter func130,ntmps130
   go_wp2_with fail;refine h1.mono ?_;clear h1;rintro e w1 ⟨rfl,rfl⟩;go_wp2_with fail;go_ret;exact⟨by rw[HB.o];rfl,aBU _ _⟩
 ·have i1:(T.length:Int)<=(k:Int):=(by omega);rw[Tr.mX T k (by omega)] at HR;clear hrow X R
  go_enter func130,ntmps130
  go_wp2_with fail;refine h1.mono ?_;clear h1;rintro e w1 ⟨rfl,rfl⟩;go_wp2_with fail;go_ret;exact⟨by rw[HR.o];rfl,aBU _ _⟩
end
theorem tV:(aBS.info? 89).map (fun i=>(i.zero,i.size,i.bytes))=some (some (oZZ),1,8):=by kernel_rfl
theorem YR(s:Bs)(T:List Tk)(b i j:Nat):Tr.dQ (bS s T b i j)=false:=by
 unfold bS
 induction (T.drop i).take (j-i)with
 |nil=>rfl
 |cons t l ih=>simp only[List.map_cons,Tr.dQ,ih];rfl
def lu(w:World)(K:Nat->Prop)(g h kind:Nat)(s:Bs)(T:List Tk)(Ar:Option Addr)(c0 n:Nat)(cut:Bool)(st:Tr.St)(e:Ending)(w':World):Prop:=
 e=.returned (.tuple #[])/\fG K g w w'/\mO w' K g s T Ar c0 n st.2 cut/\Bn w' K h kind st.1
theorem oZ{K:Nat->Prop}{g:Nat}{s:Bs}{T:List Tk}{Ar:Option Addr}{c0 n i:Nat}{cut:Bool}{h kind:Nat}{pts:List Tr.PT}(b:Nat)(X:FZ s T)(R:mO w K g s T Ar c0 n i cut)(hb:Bn w K h kind pts)(hl:pts.length<=50000000):
  Calls aBS 131 #[pZZ g,pZZ h] w (lu w K g h kind s T Ar c0 n cut (Tr.thn (pts,i) (Tr.aK s T b))):=by
 obtain⟨i0,ji,iW,jz1,iV⟩:=info_parts tV;have HP:aC (Tr.thn (pts,i) (Tr.aK s T b)=(pts++bS s T b i (Tr.toP T i),Tr.toP T i)):=rfl;have hT:=X.hT;have hs:=X.hs;have F_:=Tr.KG T i R.hi;have hto2:=Tr.vY T i;have HT:aC (Tr.toP T i=min (Tr.aH T i+1) T.length):=rfl;have hi:=R.hi;have hnx:=BN R (by omega);generalize Tr.toP T i=oJ at *;rw[HP.o];clear HP;generalize Tr.aH T i=nx at *
 go_enter func131,ntmps131
 go_wp2_with fail;refine hnx.mono ?_;clear hnx;rintro e w1 ⟨rfl,rfl⟩;go_wp2_with fail
 go_loopg [5] (oJ-i) (fun q v wr=> ∃j,i<=j/\j<=oJ/\oJ-j<=q/\fG K g w1 wr/\mO wr K g s T Ar c0 n j cut/\Bn wr K h kind (pts++bS s T b i j))
 case atStart=>exact⟨i,aBT _,F_,aBT _,fG.refl _ _ _,R,by rw[sW,List.append_nil];exact hb⟩
 case round=>
  clear R hb;obtain⟨j,hij,hjt,hq,hA,R,hb⟩:=hrel;obtain⟨g0,g1,g2,_,_⟩:=R.cells;have hrow:=R.row;have HT2:aC (j<oJ↔(j<=nx/\j<T.length)):=by show _↔_;have:=HT.o;omega
  by_cases hlt:j<oJ
  ·obtain⟨hjn,Jv⟩:=HT2.o.1 hlt;have j0:=iZ j;have j1:=jJ j T.length;have j2:(j:Int)<=(nx:Int):=(by omega);obtain⟨br,o,rfl,hbr,hbl,q0,q1,q2⟩:=hrow.tk Jv;have HL:=aB (sV s T b i j hij Jv);have hll:=vK s T b i j;obtain⟨h1,h2,h3⟩:=X.good.at_ Jv;have EG:aC (Tr.gY s b T[j]=.leaf T[j].1 (Tr.jI s T[j]) (T[j].2.1-b)):=rfl;have uU:=aB (yG s T[j]);generalize T[j]=t at *;obtain⟨tk,ta,tl⟩:=t;dsimp only at h1 h2 h3 q0 q1 q2 EG uU;have hpl:(pts++bS s T b i j).length<=60000000:=(by rw[List.length_append];omega);have HL2:aC (pts++bS s T b i (j+1)=(pts++bS s T b i j)++[.leaf tk (Tr.jI s (tk,ta,tl)) (ta-b)]):=(by show _=_;rw[HL.o,EG.o,List.append_assoc]);clear HL EG hll hrow;obtain⟨dB,A,c,vs,hb⟩:=hb;generalize pts++bS s T b i j=ps at *;obtain⟨bx,hbx⟩:=dC wr.heap.size;have hHT:aC (j<oJ):=hlt;have hb0:=fun m=>below_drewN (aBU wr.heap.size wr) m
   have hA0:=fun m=>hA.trans (Kept.cZ (Kept.below (hb0 m) R.dL) g)
   have R0:=fun m=>R.below (hb0 m)
   have Kc:=fun m=>hb.below (hb0 m)
   clear hA R hb;go_wp2_with fail
   go_quiet (fail)
   have hA:=hA0 nq;have R:=R0 nq;have hb:=Kc nq;rw[show wr.heap.size=(wr.drewN nq).heap.size from rfl] at hbx hbl;have g1:(wr.drewN nq).cell? ⟨g,1,none⟩=_:=g1;have g2:(wr.drewN nq).cell? ⟨g,2,none⟩=_:=g2;have q0:(wr.drewN nq).cell? ⟨br,o+j*3,none⟩=_:=q0;have q1:(wr.drewN nq).cell? ⟨br,o+j*3+1,none⟩=_:=q1;have q2:(wr.drewN nq).cell? ⟨br,o+j*3+2,none⟩=_:=q2;clear hA0 R0 Kc hb0 g0;generalize wr.drewN nq=w2 at *;go_wp2_with fail;refine aL 11 (fun w':World=>w'.cell? ⟨g,1,none⟩=some (.slice (some ⟨br,o,none⟩) T.length c0)/\w'.cell? ⟨g,2,none⟩=some (vZZ j)/\w'.cell? ⟨br,o+j*3,none⟩=some (vZZ tk)/\w'.cell? ⟨br,o+j*3+1,none⟩=some (vZZ ta)/\w'.cell? ⟨br,o+j*3+2,none⟩=some (vZZ tl)) ?_;have hgl:=R.lt;have hS0:(fun w':World=>w'.cell? ⟨g,1,none⟩=some (.slice (some ⟨br,o,none⟩) T.length c0)/\w'.cell? ⟨g,2,none⟩=some (vZZ j)/\w'.cell? ⟨br,o+j*3,none⟩=some (vZZ tk)/\w'.cell? ⟨br,o+j*3+1,none⟩=some (vZZ ta)/\w'.cell? ⟨br,o+j*3+2,none⟩=some (vZZ tl)) w2.drew:=⟨g1,g2,q0,q1,q2⟩
   iterate 10 refine aO 0 hS0 ?_
   clear hS0;refine aA 10 fun C hC=> ?_
   go_simp;refine hC.out _ _ (fun _=>⟨(aJ _ _ _ _ hgl).trans g1,(aJ _ _ _ _ hgl).trans g2,(aJ _ _ _ _ hbl).trans q0,(aJ _ _ _ _ hbl).trans q1,(aJ _ _ _ _ hbl).trans q2⟩) ?_;clear hC C;refine aA 11 fun C hC=> ?_
   go_simp;refine hC.out _ _ (fun h=>absurd rfl h) ?_;clear hC C;refine aR ?_;have hd:Below w2.heap.size w2 ((w2.alloc (.cells #[vZZ tk,vZZ ta,vZZ tl] 149)).drew):=((aBU _ _).alloc (aBT _) _).drew;have hA:=hA.trans (Kept.cZ (Kept.below hd R.dL) g);have R:=R.below hd;have hb:=hb.below hd;have hBx:aV ((w2.alloc (.cells #[vZZ tk,vZZ ta,vZZ tl] 149)).drew) bx 149 #[vZZ tk,vZZ ta,vZZ tl]:=(by rw[hbx];exact(aV.new _ _ _).drew);rw[<-hbx];clear hbx hd g1 g2 q0 q1 q2 hbl hbr hgl;generalize(w2.alloc _).drew=w2 at *;go_wp2_with fail;refine aL 25 (fun w':World=>w'.cell? ⟨h,3,none⟩=some (.slice A ps.length c)/\w'.cell? ⟨bx,0,none⟩=some (vZZ tk)/\w'.cell? ⟨bx,1,none⟩=some (vZZ ta)/\w'.cell? ⟨bx,2,none⟩=some (vZZ tl)/\w'.cell? ⟨g,0,none⟩=some (.string ⟨s.toArray⟩)) ?_;have hd:Below w2.heap.size w2 w2.drew:=(aBU _ _).drew;have hA:=hA.trans (Kept.cZ (Kept.below hd R.dL) g);have R:=R.below hd;have hb:=hb.below hd;have hBx:=hBx.drew;clear hd;generalize w2.drew=w3 at *;have o1:=hb.blk.cell 3;have b0:=hBx.cell 0;have b1:=hBx.cell 1;have b2:=hBx.cell 2;simp[iG] at o1 b0 b1 b2;obtain⟨g0,_,_,_,_⟩:=R.cells;have hS0:(fun w':World=>w'.cell? ⟨h,3,none⟩=some (.slice A ps.length c)/\w'.cell? ⟨bx,0,none⟩=some (vZZ tk)/\w'.cell? ⟨bx,1,none⟩=some (vZZ ta)/\w'.cell? ⟨bx,2,none⟩=some (vZZ tl)/\w'.cell? ⟨g,0,none⟩=some (.string ⟨s.toArray⟩)) w3:=⟨o1,b0,b1,b2,g0⟩;have a0:aCQ.wrap ((ta:Int)+tl)=(ta:Int)+tl:=aCV _ (by omega);have a1:(0:Int)<=(ta:Int)+tl:=(by omega);have a2:((ta:Int)+tl).toNat=ta+tl:=(by omega);have a3:(ta:Int)+tl<=(s.length:Int):=(by omega);have a4:(ta:Int)<=(ta:Int)+tl:=(by omega);have a5:ta<=ta+tl:=(by omega);have a6:ta+tl<=s.length:=h1
   iterate 20 refine aO 0 hS0 ?_
   clear hS0;have hd:=nR w3 (.cells #[kZZ 0,vZZ tk,.string ((⟨s.toArray⟩:ByteArray).extract ta (ta+tl)),nZZ,kZZ 0,kZZ 0,kZZ 0,kZZ 0,.bool false] 93);have hBg:aV (w3.alloc (.cells #[kZZ 0,vZZ tk,.string ((⟨s.toArray⟩:ByteArray).extract ta (ta+tl)),nZZ,kZZ 0,kZZ 0,kZZ 0,kZZ 0,.bool false] 93)) w3.heap.size 93 #[kZZ 0,vZZ tk,.string ((⟨s.toArray⟩:ByteArray).extract ta (ta+tl)),nZZ,kZZ 0,kZZ 0,kZZ 0,kZZ 0,.bool false]:=aV.new _ _ _;have hA:=hA.trans (Kept.cZ (Kept.below hd R.dL) g);have hp:wQ (w3.alloc (.cells #[kZZ 0,vZZ tk,.string ((⟨s.toArray⟩:ByteArray).extract ta (ta+tl)),nZZ,kZZ 0,kZZ 0,kZZ 0,kZZ 0,.bool false] 93)) (fun x=> ¬K x/\x≠h/\some x≠(aBX A ps.length c).ownBlock) (.leaf tk (Tr.jI s (tk,ta,tl)) (ta-b)) [w3.heap.size] (.pointer (some ⟨w3.heap.size,0,none⟩)):=
    ⟨w3.heap.size,rfl,rfl,⟨fun hk=>aDR _ (R.dL _ hk),fun e=>by have:=hb.blk.lt;omega,fun e=>by have:=hb.kF _ e.symm;omega⟩,by unfold iG;rw[<-show Value.string ((⟨s.toArray⟩:ByteArray).extract ta (ta+tl))=.string ⟨(Tr.jI s (tk,ta,tl)).toArray⟩from uU.o];exact hBg⟩
   have hdj: ∀x∈[w3.heap.size],x∉dB:=fun x hx hf=>(by simp only[aCH] at hx;subst hx;exact aDR _ (gV.fp _ _ _ hb.parts _ hf).2);have pJ:=hBx.lt;have hgl:=R.lt;refine aA 20 fun C hC=> ?_
   go_simp;have c0':=(aJ w3 (.cells #[kZZ 0,vZZ tk,.string ((⟨s.toArray⟩:ByteArray).extract ta (ta+tl)),nZZ,kZZ 0,kZZ 0,kZZ 0,kZZ 0,.bool false] 93) bx 0 pJ).trans b0;have c1:=(aJ w3 (.cells #[kZZ 0,vZZ tk,.string ((⟨s.toArray⟩:ByteArray).extract ta (ta+tl)),nZZ,kZZ 0,kZZ 0,kZZ 0,kZZ 0,.bool false] 93) bx 1 pJ).trans b1;have c2:=(aJ w3 (.cells #[kZZ 0,vZZ tk,.string ((⟨s.toArray⟩:ByteArray).extract ta (ta+tl)),nZZ,kZZ 0,kZZ 0,kZZ 0,kZZ 0,.bool false] 93) bx 2 pJ).trans b2;have f0:=(aJ w3 (.cells #[kZZ 0,vZZ tk,.string ((⟨s.toArray⟩:ByteArray).extract ta (ta+tl)),nZZ,kZZ 0,kZZ 0,kZZ 0,kZZ 0,.bool false] 93) g 0 hgl).trans g0;have hBx:=hBx.alloc (.cells #[kZZ 0,vZZ tk,.string ((⟨s.toArray⟩:ByteArray).extract ta (ta+tl)),nZZ,kZZ 0,kZZ 0,kZZ 0,kZZ 0,.bool false] 93);have R:=R.below hd;have hb:=hb.below hd;have o1:(w3.alloc (.cells #[kZZ 0,vZZ tk,.string ((⟨s.toArray⟩:ByteArray).extract ta (ta+tl)),nZZ,kZZ 0,kZZ 0,kZZ 0,kZZ 0,.bool false] 93)).cell? ⟨h,3,none⟩=some (.slice A ps.length c):=(by have:=hb.blk.cell 3;simpa [iG] using this);refine hC.out _ _ (fun _=>⟨o1,c0',c1,c2,f0⟩) ?_;clear hC C hd hBg b0 b1 b2 g0;obtain⟨q,hq⟩:=dC w3.heap.size;rw[<-hq] at hp hdj⊢;clear hq;generalize(w3.alloc _)=w6 at *;refine aA 21 fun C hC=> ?_
   go_simp;refine hC.out _ _ (fun _=>⟨(aJ _ _ _ _ hb.blk.lt).trans o1,(aJ _ _ _ _ hBx.lt).trans c0',(aJ _ _ _ _ hBx.lt).trans c1,(aJ _ _ _ _ hBx.lt).trans c2,(aJ _ _ _ _ R.lt).trans f0⟩) ?_;clear hC C;refine aA 22 fun C hC=> ?_
   refine step_append_lies _ (by rfl) _ _ _ (by rfl) 0 89 i0 _ 1 8 underlying40 ji iW jz1 iV rfl (by omega) (.slice A ps.length c) ps.length vs (by rfl) (hb.own.alloc (.cells #[pZZ q] 89)) ⟨w6.heap.size,0,none⟩ 1 1 [pZZ q] (by rfl) (by rfl) (aCK (heap_alloc_new w6 _)) (by simp[aCA]) (by omega) (by unfold maxLen;omega) (by omega) (aBZ _) (w6.heap.size+1) (by simp) ?_;intro gg cap' w5 hown5 hgrow hat lD;have kX:=hb.push R.dL hp (by simp) hdj hown5 hgrow hat;have hg5:=(hb.blk.alloc (.cells #[pZZ q] 89)).grown hgrow hb.jP;have b1:=hg5.cell 3;have bf:=hg5.frozen 3;simp[iG] at b1;have hx5:=(hBx.alloc (.cells #[pZZ q] 89)).grown hgrow (own_ne hb.own hBx (by decide));have JL:=(R.rd.alloc (.cells #[pZZ q] 89)).grown hgrow (own_ne hb.own R.rd (by decide));have e0:=hx5.cell 0;have e1:=hx5.cell 1;have e2:=hx5.cell 2;have k0:=JL.cell 0;simp at e0 e1 e2 k0;refine hC.out _ _ (fun _=>⟨b1,e0,e1,e2,k0⟩) ?_;clear hC C;refine aA 23 fun C hC=> ?_
   go_simp;refine hC.out _ _ (fun _=>⟨b1,e0,e1,e2,k0⟩) ?_;clear hC C;refine aA 24 fun C hC=> ?_
   go_simp;refine hC.out _ _ (fun _=>⟨b1,e0,e1,e2,k0⟩) ?_;clear hC C;refine aA 25 fun C hC=> ?_
   go_simp;refine hC.out _ _ (fun h=>absurd rfl h) ?_;clear hC C;refine aR ?_;have hB:=kX.1;have R:=R.kept kX.2;have hA:=hA.trans (kX.2.cZ g);clear hb hp hdj o1 hown5 hgrow hat lD kX hg5 b1 bf c0' c1 c2 f0 pJ hgl hBx hx5 JL e0 e1 e2 k0 a0 a1 a2 a3 a4 a5 a6 uU;generalize(World.setCell _ _ (.slice (some ⟨gg,0,none⟩) (ps.length+1) cap'))=w7 at *;obtain⟨_,_,g2,_,_⟩:=R.cells;have gf:=R.rd.frozen 2;go_wp2_with fail
   go_roundg (oJ-(j+1))
   case rel=>
    have hR:=R.at_ (j:=j+1) (by omega);have Er:=hB.cZ ((fG.refl (Old w7) g w7).set 2 (kZZ ((j+1:Nat):Int))) R.kg
    try unfold vZZ at Er
    rw[<-HL2.o,show((j+1:Nat):Int)=(j:Int)+1 by omega] at Er;have hA2:=hA.set 2 (kZZ ((j:Int)+1))
    try unfold vZZ at hR
    rw[show((j+1:Nat):Int)=(j:Int)+1 by omega] at hR;have hlt:=hHT.out;exact⟨j+1,by omega,by omega,aBT _,hA2,hR,Er⟩
   case measure=>have hlt:=hHT.out;omega
  ·obtain rfl:j=oJ:=(by omega);have hno:aC (¬(j<=nx/\j<T.length)):=fun h=>hlt (HT2.o.2 h)
   clear hlt HT2 HT hq
   by_cases hjn:j<=nx
   ·have Jv: ¬j<T.length:=fun h=>hno.out ⟨hjn,h⟩
    have j1: ¬(j:Int)<(T.length:Int):=(by omega);have j2:(j:Int)<=(nx:Int):=(by omega);clear hno;have hb0:=fun m=>below_drewN (aBU wr.heap.size wr) m
    go_wp2_with fail
    go_quiet (fail)
    go_wp2_with fail;go_end0;exact⟨rfl,hA.trans (Kept.cZ (Kept.below (hb0 _) R.dL) g),R.below (hb0 _),hb.below (hb0 _)⟩
   ·have j2: ¬(j:Int)<=(nx:Int):=(by omega);have j3:decide (j<=nx)=false:=(by simpa using hjn);have j4:decide ((j:Int)<=(nx:Int))=false:=(by simpa using hjn);clear hno hjn;have hb0:=fun m=>below_drewN (aBU wr.heap.size wr) m
    go_wp2_with fail
    go_quiet (fail)
    go_wp2_with fail;go_end0;exact⟨rfl,hA.trans (Kept.cZ (Kept.below (hb0 _) R.dL) g),R.below (hb0 _),hb.below (hb0 _)⟩
theorem LJ(w:World)(o o2:Obj):((w.alloc o).alloc o2).heap[w.heap.size+1]? =some o2:=by
 have h:=heap_alloc_new (w.alloc o) o2;simpa using h
section
variable{w w5:World}{K:Nat->Prop}{g h kind:Nat}{s:Bs}{T:List Tk}{Ar:Option Addr}{c0 n i:Nat}{cut:Bool}{pts:List Tr.PT}{dB:List Nat}{A:Option Addr}{c:Nat}{vs:List Value}
def OE(w:World)(K:Nat->Prop)(h:Nat)(pts:List Tr.PT)(dB:List Nat)(A:Option Addr)(c:Nat)(p:Tr.PT)(v:Value):Prop:=
 ∃fp,wQ w (fun x=> ¬K x/\x≠h/\some x≠(aBX A pts.length c).ownBlock) p fp v/\fp.Nodup/\∀x∈fp,x∉dB
theorem OE.of {w0:World}{p:Tr.PT}{v:Value}(hp:Rn w (fun x=> ¬Old w0 x) p v)(hK:In K w0)(hb:I8 w0 K h kind pts dB A c vs):OE w K h pts dB A c p v:=by
 obtain⟨fp,hp,hn⟩:=hp;refine⟨fp,wQ.keep (aBT _) (fun _ hF _=>⟨rfl,fun hk=>hF (hK _ hk),fun e=>hF (e▸hb.blk.lt),fun e=>hF (hb.kF _ e.symm)⟩) _ _ _ hp,hn,fun x hx hf=> ?_⟩;exact(wQ.fp _ _ _ hp x hx).1 (gV.fp _ _ _ hb.parts x hf).2
theorem kV(R:mO w K g s T Ar c0 n i cut)(hb:I8 w K h kind pts dB A c vs){p:Tr.PT}{v:Value}{gg cap:Nat}(hp:OE w K h pts dB A c p v)
  (hown:w5.ownsRow 0 89 1 (.slice (some ⟨gg,0,none⟩) (pts.length+1) cap) (pts.length+1) (vs++[v]))
  (hgrow:(w.alloc (.cells #[v] 89)).grownBy w5 (aBX A pts.length c).ownBlock)
  (hat:(aBX A pts.length c).ownBlock=some gg\/gg=w.heap.size+1):
  w5.cell? ⟨h,3,none⟩=some (.slice A pts.length c)/\w5.frozen? ⟨h,3,none⟩=false/\Bn (w5.setCell ⟨h,3,none⟩ (.slice (some ⟨gg,0,none⟩) (pts.length+1) cap)) K h kind (pts++[p])/\Kept K w (w5.setCell ⟨h,3,none⟩ (.slice (some ⟨gg,0,none⟩) (pts.length+1) cap))/\mO (w5.setCell ⟨h,3,none⟩ (.slice (some ⟨gg,0,none⟩) (pts.length+1) cap)) K g s T Ar c0 n i cut:=by
 obtain⟨fp,h1,h2,h3⟩:=hp;have kX:=hb.push R.dL h1 h2 h3 hown hgrow hat;have hg5:=(hb.blk.alloc (.cells #[v] 89)).grown hgrow hb.jP;have b1:=hg5.cell 3;simp[iG] at b1;exact⟨b1,hg5.frozen 3,kX.1,kX.2,R.kept kX.2⟩
theorem AO{word:Bs}{gg cap pl:Nat}{d:Bool}(R:mO w K g s T Ar c0 n i cut)(hb:I8 w K h kind pts dB A c vs)
  (hown:w5.ownsRow 0 89 1 (.slice (some ⟨gg,0,none⟩) (pts.length+1) cap) (pts.length+1) (vs++[.pointer (some ⟨w.heap.size,0,none⟩)]))
  (hgrow:((w.alloc (.cells (iG 1 0 word (nZZ)) 93)).alloc (.cells #[.pointer (some ⟨w.heap.size,0,none⟩)] 89)).grownBy w5 (aBX A pts.length c).ownBlock)
  (hat:(aBX A pts.length c).ownBlock=some gg\/gg=w.heap.size+1+1):
  w5.cell? ⟨h,3,none⟩=some (.slice A pts.length c)/\w5.frozen? ⟨h,3,none⟩=false/\Bn (w5.setCell ⟨h,3,none⟩ (.slice (some ⟨gg,0,none⟩) (pts.length+1) cap)) K h kind (pts++[.gap word pl d])/\Kept K w (w5.setCell ⟨h,3,none⟩ (.slice (some ⟨gg,0,none⟩) (pts.length+1) cap))/\mO (w5.setCell ⟨h,3,none⟩ (.slice (some ⟨gg,0,none⟩) (pts.length+1) cap)) K g s T Ar c0 n i cut:=by
 have hd:=nR w (.cells (iG 1 0 word (nZZ)) 93);have hp:wQ (w.alloc (.cells (iG 1 0 word (nZZ)) 93)) (fun x=> ¬K x/\x≠h/\some x≠(aBX A pts.length c).ownBlock) (.gap word pl d) [w.heap.size] (.pointer (some ⟨w.heap.size,0,none⟩)):=
  ⟨w.heap.size,rfl,rfl,⟨fun hk=>aDR _ (R.dL _ hk),fun e=>by have:=hb.blk.lt;omega,fun e=>by have:=hb.kF _ e.symm;omega⟩,aV.new _ _ _⟩
 have hdj: ∀x∈[w.heap.size],x∉dB:=fun x hx hf=>by simp only[aCH] at hx;subst hx;exact aDR _ (gV.fp _ _ _ hb.parts _ hf).2
 have hk0:=Kept.below hd R.dL;have hz:(w.alloc (.cells (iG 1 0 word (nZZ)) 93)).heap.size=w.heap.size+1:=by simp
 obtain⟨h1,h2,h3,h4,h5⟩:=kV (R.below hd) (hb.below hd) ⟨_,hp,by simp,hdj⟩ hown hgrow (by rw[hz];exact hat);exact⟨h1,h2,h3,⟨Nat.le_trans hk0.size h4.size,fun x hx=>(h4.same x hx).trans (hk0.same x hx),hk0.calm.trans h4.calm⟩,h5⟩
theorem P6(b:Nat)(X:FZ s T)(R:mO w K g s T Ar c0 n i cut)(hb:Bn w K h kind pts)(word:Bs)(hl:pts.length<=50000000):
  Calls aBS 132 #[pZZ g,pZZ h,.string ⟨word.toArray⟩] w (lu w K g h kind s T Ar c0 n cut (Tr.thn (pts,i) (Tr.aN s T b word))):=by
 obtain⟨i0,ji,iW,jz1,iV⟩:=info_parts tV;have his:=jQ X R word;have HT:aC (Tr.aW s T [word] i=true->Tr.thn (pts,i) (Tr.aN s T b word)=Tr.thn (pts,i) (Tr.aK s T b)):=fun h=>by unfold Tr.thn;dsimp only;unfold Tr.aN;rw[if_pos h]
 have HF:aC (Tr.aW s T [word] i=false->Tr.thn (pts,i) (Tr.aN s T b word)=(pts++[.gap word (Tr.bC s T b i) false],i)):=fun h=>by unfold Tr.thn;dsimp only;unfold Tr.aN;rw[if_neg (by rw[h];simp)];rfl
 generalize Tr.thn (pts,i) (Tr.aN s T b word)=r at *
 go_enter func132,ntmps132
 go_wp2_with fail;refine his.mono ?_;clear his;rintro e w2 ⟨rfl,hd⟩;have hA:=Kept.cZ (Kept.below hd R.dL) g;have R:=R.below hd;have hb:=hb.below hd;clear hd;generalize Tr.aW s T [word] i=v at *;cases v with
 |true=>have HR:=aB (HT.o rfl);clear HT HF;have htk:=oZ b X R hb hl;go_wp2_with fail;refine htk.mono ?_;clear htk hb R;intro e w3 h3;obtain⟨rfl,hA3,R3,hB3⟩:=h3;go_wp2_with fail;go_end0;rw[HR.o];exact⟨rfl,hA.trans hA3,R3,hB3⟩
 |false=>have HR:=aB (HF.o rfl);clear HT HF;obtain⟨dB,A,c,vs,hb⟩:=hb;have o1:=hb.blk.cell 3;simp[iG] at o1;have xI:=hb.blk.lt;go_wp2_with (at_builtin;refine wpList_append_lies _ rfl _ _ 40 rfl 0 89 i0 _ 1 8 underlying40 ji iW jz1 iV rfl (by omega) (.slice A pts.length c) pts.length vs rfl ((hb.own.alloc (.cells #[kZZ 1,kZZ 0,.string ⟨word.toArray⟩,nZZ,kZZ 0,kZZ 0,kZZ 0,kZZ 0,.bool false] 93)).alloc (.cells #[.pointer (some ⟨w2.heap.size,0,none⟩)] 89)) ⟨w2.heap.size+1,0,none⟩ 1 1 [.pointer (some ⟨w2.heap.size,0,none⟩)] rfl rfl (aCK (LJ w2 _ _)) (by simp[aCA]) (by omega) (by unfold maxLen;omega) (by omega) (aBZ _) (w2.heap.size+1+1) (by simp) ?_;intro gg cap' w5 hown5 hgrow hat lD;have kX:=AO (word:=word) (pl:=Tr.bC s T b i) (d:=false) R hb hown5 hgrow hat;obtain⟨b1,bf,hB,hk,R5⟩:=kX);go_end0;rw[HR.o];exact⟨rfl,hA.trans (hk.cZ g),R5,hB⟩
theorem Pg(s:Bs)(T:List Tk)(x y z:Bs)(i:Nat):Tr.aW s T [x,y,z] i=(Tr.aW s T [x] i||Tr.aW s T [y] i||Tr.aW s T [z] i):=by
 unfold Tr.aW;generalize(Tr.bR T (Tr.aH T i)==4||Tr.bR T (Tr.aH T i)==7)=a;simp only[aGJ,aGK,aDK];cases a<;>simp[Bool.or_assoc]
theorem zt(s:Bs)(T:List Tk)(x y:Bs)(i:Nat):Tr.aW s T [x,y] i=(Tr.aW s T [x] i||Tr.aW s T [y] i):=by
 unfold Tr.aW;generalize(Tr.bR T (Tr.aH T i)==4||Tr.bR T (Tr.aH T i)==7)=a;simp only[aGJ,aGK,aDK];cases a<;>simp
theorem Q7(b:Nat)(X:FZ s T)(R:mO w K g s T Ar c0 n i cut)(hb:Bn w K h kind pts)(hl:pts.length<=50000000):
  Calls aBS 133 #[pZZ g,pZZ h] w (lu w K g h kind s T Ar c0 n cut (Tr.thn (pts,i) (Tr.aQ s T b))):=by
 obtain⟨i0,ji,iW,jz1,iV⟩:=info_parts tV;have his:=qD X R;have HT:aC (Tr.bR T (Tr.aH T i)=3->Tr.thn (pts,i) (Tr.aQ s T b)=Tr.thn (pts,i) (Tr.aK s T b)):=fun h=>by unfold Tr.thn;dsimp only;unfold Tr.aQ;rw[if_pos (by rw[h];rfl)]
 have HF:aC (¬Tr.bR T (Tr.aH T i)=3->Tr.thn (pts,i) (Tr.aQ s T b)=(pts++[.gap Tr.lY (Tr.bC s T b i) false],i)):=fun h=>by unfold Tr.thn;dsimp only;unfold Tr.aQ;rw[if_neg (by simpa using h)];rfl
 generalize Tr.thn (pts,i) (Tr.aQ s T b)=r at *;generalize Tr.bR T (Tr.aH T i)=kd at *
 go_enter func133,ntmps133
 go_wp2_with fail;refine his.mono ?_;clear his;rintro e w2 ⟨rfl,rfl⟩
 by_cases k3:kd=3
 ·have HR:=aB (HT.o k3);clear HT HF;subst k3;have htk:=oZ b X R hb hl;go_wp2_with fail;refine htk.mono ?_;clear htk hb R;intro e w3 h3;obtain⟨rfl,hA3,R3,hB3⟩:=h3;go_wp2_with fail;go_end0;rw[HR.o];exact⟨rfl,hA3,R3,hB3⟩
 ·have HR:=aB (HF.o k3);have e3:((kd:Int)==3)=false:=(by simp;omega);clear HT HF k3;obtain⟨dB,A,c,vs,hb⟩:=hb;have o1:=hb.blk.cell 3;simp[iG] at o1;have xI:=hb.blk.lt;go_wp2_with (at_builtin;refine wpList_append_lies _ rfl _ _ 40 rfl 0 89 i0 _ 1 8 underlying40 ji iW jz1 iV rfl (by omega) (.slice A pts.length c) pts.length vs rfl ((hb.own.alloc (.cells #[kZZ 1,kZZ 0,.string ⟨#[110,97,109,101]⟩,nZZ,kZZ 0,kZZ 0,kZZ 0,kZZ 0,.bool false] 93)).alloc (.cells #[.pointer (some ⟨w2.heap.size,0,none⟩)] 89)) ⟨w2.heap.size+1,0,none⟩ 1 1 [.pointer (some ⟨w2.heap.size,0,none⟩)] rfl rfl (aCK (LJ w2 _ _)) (by simp[aCA]) (by omega) (by unfold maxLen;omega) (by omega) (aBZ _) (w2.heap.size+1+1) (by simp) ?_;intro gg cap' w5 hown5 hgrow hat lD;have kX:=AO (word:=Tr.lY) (pl:=Tr.bC s T b i) (d:=false) R hb hown5 hgrow hat;obtain⟨b1,bf,hB,hk,R5⟩:=kX);go_end0;rw[HR.o];exact⟨rfl,hk.cZ g,R5,hB⟩
theorem TR(X:FZ s T)(R:mO w K g s T Ar c0 n i cut):
  Calls aBS 129 #[pZZ g] w fun e w'=>e=.returned (.bool (Tr.fK s T i))/\Below w.heap.size w w':=by
 have hu:=jQ X R Tr.fZ;have HP:aC (Tr.fK s T i=(Tr.aW s T [Tr.fZ] i||Tr.aW s T [Tr.gL] i||Tr.aW s T [Tr.iP] i)):=Pg s T _ _ _ i;generalize Tr.fK s T i=v at *;have hp:=fun w' (hd:Below w.heap.size w w')=>jQ X (R.below hd) Tr.gL
 have hf:=fun w' (hd:Below w.heap.size w w')=>jQ X (R.below hd) Tr.iP
 clear R X;generalize Tr.aW s T [Tr.fZ] i=v1 at *;generalize Tr.aW s T [Tr.gL] i=v2 at *;generalize Tr.aW s T [Tr.iP] i=v3 at *
 go_enter func129,ntmps129
 go_wp2_with fail;refine hu.mono ?_;clear hu;rintro e w1 ⟨rfl,hd1⟩;have hp:=hp w1 hd1;go_wp2_with fail;refine hp.mono ?_;clear hp;rintro e w2 ⟨rfl,hd2⟩;have hd2:=hd1.trans (hd2.mono hd1.size);have hf:=hf w2 hd2;go_wp2_with fail;refine hf.mono ?_;clear hf;rintro e w3 ⟨rfl,hd3⟩;have hd3:=hd2.trans (hd3.mono hd2.size);clear hd1 hd2;cases v1<;>cases v2<;>cases v3<;>
 ·go_wp2_with fail;go_ret;exact⟨by rw[HP.o];rfl,hd3⟩
end
end Go.Proofs.YtcjjfeephaddcaaGreatDoor
