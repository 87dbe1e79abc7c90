/-
  Contracts of functions, plain laws.
-/
import Derived.Lib.SlicesCompact
import Derived.Test.YtpolljfkceanaaaGreatDoorCS1
import Derived.Lib.RowBridge
import Derived.Shelf.Slices.In.SortNone
import Derived.DeepKeys4
import Derived.Maps.OwnSet
import Derived.Maps.Views
import Derived.WideKeyEntry
import Derived.Maps.RangeRun
import Derived.Shelf.SlMaps.Clone
import Derived.DeepKeys
import Derived.Laws.StructEq
import Derived.Test.YtpolljfkceanaaaGreatDoorC02
namespace Go.Proofs.YtpolljfkceanaaaGreatDoor
open Go.RowKit Go.Shelf Go.Maps Go.Proofs.Tryz
set_option maxRecDepth 100000
set_option maxHeartbeats 64000000
variable {cs:AV}{x:Int}{l tx:LI}{B J N b c d g i n p:Nat}{A:OA}{e t ty:TI}{D F G H I O P R S T U V W X c12 c13 j o r v z:VL}{a w:WD}
set_option linter.all false
section
attribute [local go_sem ↓] a2t a2s a2n a3n b0R
def a5u(n:Nat):Code->Option Code
 |
  .seq a b=>match a5u n a with
  | some c=>some c
  | none=>a5u n b
 | .block id c=>if id=n then some (.block id c)else a5u n c
 | .loop c=>a5u n c
 | .scope c=>a5u n c
 |
  .cond _ a b=>match a5u n a with
  | some c=>some c
  | none=>a5u n b
 | _=>none
theorem c8U{Q:Exit->Act->WD->Prop}{N f g x y:VL}{G:LV}{E M cm:Nat}(blk:LI)(c:Code)(a:(Tryz.f168.body.bind (a5u 6)).getD .skip=c)(Z:J+64<=M)(hM:M<=300000000)(K:b<w.heap.size)(Y:∀j,j<64->w.cell? ⟨b,E+(J+j),none⟩=some (.int .u8 (blk.getD j 0))) (ht:G.length=300) (hQ:d3T 108 λm=>∀(x13 x14:VL) (Aw:OA) (cw:Nat) (w':WD),a1X w w' (.slice Aw 64 cw) (a0Y blk 64)->Below w w w'->Q .normal ⟨(N::O::R::S::T::U::V:: .slice (some ⟨b,E,none⟩) M cm::F::X:: .int .i64 J:: .slice Aw 64 cw:: .int .i64 64::x13::x14::f::g::o::r::v::x::y::z::D::d3V G 38 108 m).toArray,[]⟩ w'):Code.wp prog c Q ⟨(N::O::R::S::T::U::V:: .slice (some ⟨b,E,none⟩) M cm::F::X:: .int .i64 J:: .slice none 0 0:: .int .i64 0::c13::H::f::g::o::r::v::x::y::z::D::G).toArray,[]⟩ w:=by
 subst a
 revert G
 refine @(d3U ?_);dsimp only[d3T,d3V,List.take_succ_cons,List.take_zero,List.drop_succ_cons,List.drop_zero,List.cons_append,List.nil_append];intros
 rename_i hQ
 conv=>arg 2;whnf
 have HM:=η1 Y;clear Y;go_wp2_with fail;go_loopg [11,12] 64 (λk wv t wx=>∃(i:Nat) (A:OA) (c:Nat),i+k=64/\t=.int .i64 i/\wv=.slice A i c/\a1X w wx wv (a0Y blk i)/\Below w w wx);exact⟨0,none,0,by omega,rfl,rfl,by rw[b6J];exact a1X.nil _ _,Qf _ _⟩;obtain⟨i,Aw,cw,hi,rfl,rfl,af,ad⟩:=hrel
 by_cases bi:i<64
 ·have ac:(i:Int)<64:=ρo
  by_cases ay:i<16
  ·have aP:(i:Int)<16:=ρo
   obtain⟨I4,a4⟩:∃I4,I4=4*i:=⟨_,rfl⟩;obtain⟨P0,a8⟩:∃P,P=J+I4:=⟨_,rfl⟩;obtain⟨P1,bb⟩:∃P,P=P0+1:=⟨_,rfl⟩;obtain⟨P2,bg⟩:∃P,P=P0+2:=⟨_,rfl⟩;obtain⟨P3,ba⟩:∃P,P=P0+3:=⟨_,rfl⟩;have q0:IntKind.i64.wrap (4*(i:Int))=(I4:Int):=by rw[IntKind.wrap_i64];omega
   have q1:IntKind.i64.wrap ((J:Int)+I4)=(P0:Int):=by rw[IntKind.wrap_i64];omega
   have q2:IntKind.i64.wrap ((P0:Int)+1)=(P1:Int):=by rw[IntKind.wrap_i64];omega
   have q3:IntKind.i64.wrap ((P0:Int)+2)=(P2:Int):=by rw[IntKind.wrap_i64];omega
   have q4:IntKind.i64.wrap ((P0:Int)+3)=(P3:Int):=by rw[IntKind.wrap_i64];omega
   have b0:P0<M:=ρo;have b1:P1<M:=ρo;have b2:P2<M:=ρo;have b3:P3<M:=ρo;have i0:(P0:Int)<M:=ρo;have i1:(P1:Int)<M:=ρo;have i2:(P2:Int)<M:=ρo;have i3:(P3:Int)<M:=ρo
   have aa:∀P d,P=J+(4*i+d)->d<4->wr.cell? ⟨b,E+P,none⟩=some (.int .u8 (blk.getD (4*i+d) 0)):=λP d hP hd=>by
    rw[(ad.cell (p:=⟨b,E+P,none⟩) K),hP];exact HM.o (4*i+d) ρo
   have e0:=aa P0 0 ρo ρo;have e1:=aa P1 1 ρo ρo;have e2:=aa P2 2 ρo ρo;have e3:=aa P3 3 ρo ρo;rw[ZH]at e0;have⟨x0,aJ⟩:=η0 (blk.getD (4*i) 0);have⟨x1,aS⟩:=η0 (blk.getD (4*i+1) 0);have⟨x2,aG⟩:=η0 (blk.getD (4*i+2) 0);have⟨x3,aL⟩:=η0 (blk.getD (4*i+3) 0);rw[aJ]at e0;rw[aS]at e1;rw[aG]at e2;rw[aL]at e3
   have ag:a0Y blk (i+1)=a0Y blk i++[b6M x0 x1 x2 x3]:=by
    rw[a0Y,if_pos ay];unfold b5b;rw[aJ,aS,aG,aL]
   have a1:b6M x0 x1 x2 x3=bits .or .u32 (bits .or .u32 (bits .or .u32 (IntKind.u32.wrap (IntKind.u32.wrap x0*16777216)) (IntKind.u32.wrap (IntKind.u32.wrap x1*65536))) (IntKind.u32.wrap (IntKind.u32.wrap x2*256))) (IntKind.u32.wrap x3):=by
    unfold b6M;simp only[IntKind.wrap_u32,Int.emod_add_emod,Int.add_emod_emod]
   obtain⟨v',w',aj,ab,an,_⟩:=b2b (ty:=283) af (b6M x0 x1 x2 x3) (by rw[a1i];omega) ad.size 1;rw[<-ag]at ab;have aq:=an.below (B:=w.heap.size) ad.size (λk hk e=>by have:=(af.lt e).1;omega);obtain⟨A8,F,rfl⟩:=ab.form;rw[a1i]at aj ab;rw[a1,show∀W:WD,W.drewN 1=W.drew from λ_=>rfl]at aj;have aT:Below w w w':=ad.trans aq;have⟨al,au⟩:=η2 ab aT;clear af ad an aq ag aJ aS aG aL aa ab aT bb bg ba a8 a4 a1;go_wp2_with fail;with_reducible refine c5g _ ρk ac q0 q1 q2 q3 q4 b0 i0 e0 b1 i1 e1 b2 i2 e2 b3 i3 e3 aj ρk ?_
   dsimp only[d3T,d3V,List.take_succ_cons,List.take_zero,List.drop_succ_cons,List.drop_zero,List.cons_append,List.nil_append];intros;go_wp2;go_roundg (64-(i+1));exact⟨i+1,_,_,by omega,by go_num,rfl,al.o,au.o⟩;omega
  have aP:¬((i:Int)<16):=ρo;have⟨SW,ax⟩:=η0 (a0Y blk i);have aK:SW.length=i:=by rw[<-ax,a1i]
  rw[ax]at af;obtain⟨gw,bj,ew,bk,bl,av⟩:=af.cells ρo;rw[aK]at ew;simp only[Value.slice.injEq,true_and]at ew;obtain⟨rfl,rfl⟩:=ew;obtain⟨ao,aD⟩:∃I,I=i-15:=⟨_,rfl⟩;obtain⟨I2,aV⟩:∃I,I=i-2:=⟨_,rfl⟩;obtain⟨ai,aB⟩:∃I,I=i-16:=⟨_,rfl⟩;obtain⟨I7,aU⟩:∃I,I=i-7:=⟨_,rfl⟩;have a9:IntKind.i64.wrap ((i:Int)-15)=(ao:Int):=by rw[IntKind.wrap_i64];omega
  have q2:IntKind.i64.wrap ((i:Int)-2)=(I2:Int):=by rw[IntKind.wrap_i64];omega
  have a6:IntKind.i64.wrap ((i:Int)-16)=(ai:Int):=by rw[IntKind.wrap_i64];omega
  have q7:IntKind.i64.wrap ((i:Int)-7)=(I7:Int):=by rw[IntKind.wrap_i64];omega
  have be:ao<i:=ρo;have n2:I2<i:=ρo;have a5:ai<i:=ρo;have n7:I7<i:=ρo;have a7:(ao:Int)<i:=ρo;have m2:(I2:Int)<i:=ρo;have a3:(ai:Int)<i:=ρo;have m7:(I7:Int)<i:=ρo;have aQ:=(av ao ρo).1;have l2:=(av I2 ρo).1;have aM:=(av ai ρo).1;have l7:=(av I7 ρo).1;have⟨xa,aO⟩:=η0 (SW.getD ao 0);have⟨xb,aR⟩:=η0 (SW.getD I2 0);have⟨xp,aI⟩:=η0 (SW.getD ai 0);have⟨xq,aH⟩:=η0 (SW.getD I7 0);rw[aO]at aQ;rw[aR]at l2;rw[aI]at aM;rw[aH]at l7
  have ag:a0Y blk (i+1)=SW++[b5I xp xa xq xb]:=by
   rw[a0Y,if_neg ay,ax,<-aB,<-aD,<-aU,<-aV,aI,aO,aH,aR]
  have aZ:b5I xp xa xq xb=IntKind.u32.wrap (IntKind.u32.wrap (IntKind.u32.wrap (xp+bits .xor .u32 (bits .xor .u32 (a5U xa 7) (a5U xa 18)) (xa / 8))+xq)+bits .xor .u32 (bits .xor .u32 (a5U xb 17) (a5U xb 19)) (xb / 1024)):=by
   unfold b5I s0P s1P x3P;simp only[c1z]
  have⟨bf,aW,aX,bh,bc⟩:=η5 aK af ad ag aZ;clear ax aK af av aD aV aB aU aO aR aI aH ag ad aZ;go_wp2_with fail;with_reducible refine c3A _ ρk ac a9 be a7 aQ ρk ?_
  dsimp only[d3T,d3V,List.take_succ_cons,List.take_zero,List.drop_succ_cons,List.drop_zero,List.cons_append,List.nil_append];intros;go_wp2_with fail
  generalize ak:World.drewN wr _=wy
  have a2:wy.cell? ⟨gw,I2,none⟩=some (.int .u32 xb):=by rw[<-ak];exact l2
  have aE:wy.cell? ⟨gw,ai,none⟩=some (.int .u32 xp):=by rw[<-ak];exact aM
  have aY:wy.cell? ⟨gw,I7,none⟩=some (.int .u32 xq):=by rw[<-ak];exact l7
  have az:a1X w wy (.slice gw i cw) SW:=by rw[<-ak];exact aW.o
  have aC:Below w w wy:=by rw[<-ak];exact a2Z aX.o _
  have⟨aF,aA⟩:=η2 az aC;clear az aC ak l2 aM l7 aQ aW aX;with_reducible refine c4F _ ρk ac q2 n2 m2 a2 ρk ?_
  dsimp only[d3T,d3V,List.take_succ_cons,List.take_zero,List.drop_succ_cons,List.drop_zero,List.cons_append,List.nil_append];intros;go_wp2_with fail
  generalize ar:World.drewN wy _=wz
  have aN:wz.cell? ⟨gw,ai,none⟩=some (.int .u32 xp):=by rw[<-ar];exact aE
  have a0:wz.cell? ⟨gw,I7,none⟩=some (.int .u32 xq):=by rw[<-ar];exact aY
  have ah:a1X w wz (.slice gw i cw) SW:=by rw[<-ar];exact aF.o
  have ae:Below w w wz:=by rw[<-ar];exact a2Z aA.o _
  obtain⟨v',w',aj,ab,an,_⟩:=b2b (ty:=283) ah (b5I xp xa xq xb) (by rw[bf.o];omega) ae.size 1;rw[<-bh.o]at ab;have aq:=an.below (B:=w.heap.size) ae.size (λk hk e=>by have:=(ah.lt e).1;omega);obtain⟨A8,F,rfl⟩:=ab.form;rw[a1i]at aj ab;rw[bc.o,show∀W:WD,W.drewN 1=W.drew from λ_=>rfl]at aj;have⟨al,au⟩:=η2 ab (ae.trans aq);clear ar a2 aE aY aF aA ah ae ab an aq;with_reducible refine c3S _ ρk ac a6 q7 a5 n7 a3 m7 aN a0 aj ρk ?_
  dsimp only[d3T,d3V,List.take_succ_cons,List.take_zero,List.drop_succ_cons,List.drop_zero,List.cons_append,List.nil_append];intros;go_wp2;go_roundg (64-(i+1));exact⟨i+1,_,_,by omega,by go_num,rfl,al.o,au.o⟩;omega
 obtain rfl:i=64:=ρo;have ac:¬(((64:Nat):Int)<64):=ρo;have⟨al,au⟩:=η2 af ad;clear af ad;go_wp2_with fail
 apply hQ
 exact al;exact au
theorem c8m{Q:Exit->Act->WD->Prop}{g J:VL}{E:LV}{a f Y Z k8:Nat}{A8:OA}(B:Nat)(h blk:LI)(c:Code)(d:(Tryz.f168.body.bind (a5u 8)).getD .skip=c)(hB:B<=w.heap.size)(K:a<w.heap.size)(v:∀i,i<64->w.cell? ⟨a,f+i,none⟩=some (.int .u32 (K0.getD i 0)))(N:b<w.heap.size)(x:∀i,i<64->w.cell? ⟨b,i,none⟩=some (.int .u32 ((a0Y blk 64).getD i 0)))(y:h.length=8)(z:W32 h)(D:a1X B w (.slice A8 8 k8) h) (ht:E.length=300) (hQ:d3T 117 λm=>∀(x17 x18 x19 x20 x21:VL) (Av:OA) (cv:Nat) (w':WD),a1X B w' (.slice Av 8 cv) (a2z h blk 64)->Below w w w'->Q .normal ⟨(O::P:: .slice (some ⟨a,f,none⟩) 64 Y::R::S::T::U::V::W::X::g:: .slice b 64 Z::c12::c13::j:: .slice Av 8 cv:: .int .i64 64::x17::x18::x19::x20::x21::o::r::d3V E 149 117 m).toArray,[]⟩ w'):Code.wp prog c Q ⟨(O::P:: .slice (some ⟨a,f,none⟩) 64 Y::R::S::T::U::V::W::X::g:: .slice b 64 Z::c12::c13::j:: .slice A8 8 k8:: .int .i64 0::F::G::H::I::J::o::r::E).toArray,[]⟩ w:=by
 subst d
 revert E
 refine @(d3U ?_);dsimp only[d3T,d3V,List.take_succ_cons,List.take_zero,List.drop_succ_cons,List.drop_zero,List.cons_append,List.nil_append];intros
 rename_i hQ
 conv=>arg 2;whnf
 have⟨aG,aH,aJ,aK,az⟩:=η5 v x y z D;clear v x y z D;go_wp2_with fail;go_loopg [15,16] 64 (λk vv t wx=>∃(i:Nat) (A:OA) (c:Nat),i+k=64/\t=.int .i64 i/\vv=.slice A 8 c/\a1X B wx vv (a2z h blk i)/\Below w w wx);exact⟨0,_,_,by omega,rfl,rfl,by rw[a5j];exact az.o,Qf _ _⟩;clear az;obtain⟨i,Av,cv,hi,rfl,rfl,ah,ag⟩:=hrel
 by_cases aj:i<64
 ·have ai:(i:Int)<64:=ρo
  have ay:=a6c h blk aJ i;have aq:W32 (a2z h blk i):=b5k aK i;obtain⟨a0,a1,a2,a3,a4,a5,a6,a7,hR⟩:=d0D ay;rw[hR]at ah aq;obtain⟨gv,aM,ev,aN,aL,af⟩:=ah.cells ρp;simp only[Qy,Qv,Nat.reduceAdd,Value.slice.injEq,true_and]at ev;obtain⟨rfl,rfl⟩:=ev;have v0:=(af 0 ρp).1;have v1:=(af 1 ρp).1;have v2:=(af 2 ρp).1;have v3:=(af 3 ρp).1;have v4:=(af 4 ρp).1;have v5:=(af 5 ρp).1;have v6:=(af 6 ρp).1;have v7:=(af 7 ρp).1;simp only[List.getD_cons_zero,List.getD_cons_succ]at v0 v1 v2 v3 v4 v5 v6 v7;have av:0<=a4/\a4<=4294967295:=aq a4 ρp;have an:wr.cell? ⟨b,i,none⟩=some (.int .u32 ((a0Y blk 64).getD i 0)):=(ag.cell (p:=⟨b,i,none⟩) N).trans (aH.o i aj);have al:wr.cell? ⟨a,f+i,none⟩=some (.int .u32 (K0.getD i 0)):=(ag.cell (p:=⟨a,f+i,none⟩) K).trans (aG.o i aj);have⟨xk,ak⟩:=η0 (K0.getD i 0)
  have⟨xw,ar⟩:=η0 ((a0Y blk 64).getD i 0);rw[ak]at al;rw[ar]at an
  have aA:a2z h blk (i+1)=a8v [a0,a1,a2,a3,a4,a5,a6,a7] xk xw:=by
   rw[a5e,hR,ak,ar]
  have⟨aF,aC,aB⟩:=η3 aA av ag;clear ay aq hR ah af ak ar aA av ag;go_wp2_with fail;with_reducible refine c4y _ ρk v4 ρk ?_
  dsimp only[d3T,d3V,List.take_succ_cons,List.take_zero,List.drop_succ_cons,List.drop_zero,List.cons_append,List.nil_append];intros;go_wp2_with fail
  generalize aa:World.drewN wr _=wa
  have u4:wa.cell? ⟨gv,4,none⟩=some (.int .u32 a4):=by rw[<-aa];exact v4
  have u5:wa.cell? ⟨gv,5,none⟩=some (.int .u32 a5):=by rw[<-aa];exact v5
  have u6:wa.cell? ⟨gv,6,none⟩=some (.int .u32 a6):=by rw[<-aa];exact v6
  with_reducible refine c3N _ ρk u4 u5 u6 ρk ?_
  dsimp only[d3T,d3V,List.take_succ_cons,List.take_zero,List.drop_succ_cons,List.drop_zero,List.cons_append,List.nil_append];intros;go_wp2_with fail;clear u4 u5 u6
  generalize ab:World.drewN wa _=wb
  have u7:wb.cell? ⟨gv,7,none⟩=some (.int .u32 a7):=by rw[<-ab,<-aa];exact v7
  have uk:wb.cell? ⟨a,f+i,none⟩=some (.int .u32 xk):=by rw[<-ab,<-aa];exact al
  have uw:wb.cell? ⟨b,i,none⟩=some (.int .u32 xw):=by rw[<-ab,<-aa];exact an
  with_reducible refine c5u _ ρk ai u7 uk uw ρk ?_
  dsimp only[d3T,d3V,List.take_succ_cons,List.take_zero,List.drop_succ_cons,List.drop_zero,List.cons_append,List.nil_append];intros;go_wp2_with fail;clear u7 uk uw
  generalize ad:World.drewN wb _=wy
  have u0:wy.cell? ⟨gv,0,none⟩=some (.int .u32 a0):=by rw[<-ad,<-ab,<-aa];exact v0
  have u1:wy.cell? ⟨gv,1,none⟩=some (.int .u32 a1):=by rw[<-ad,<-ab,<-aa];exact v1
  have u2:wy.cell? ⟨gv,2,none⟩=some (.int .u32 a2):=by rw[<-ad,<-ab,<-aa];exact v2
  have u3:wy.cell? ⟨gv,3,none⟩=some (.int .u32 a3):=by rw[<-ad,<-ab,<-aa];exact v3
  have u4:wy.cell? ⟨gv,4,none⟩=some (.int .u32 a4):=by rw[<-ad,<-ab,<-aa];exact v4
  have u5:wy.cell? ⟨gv,5,none⟩=some (.int .u32 a5):=by rw[<-ad,<-ab,<-aa];exact v5
  have u6:wy.cell? ⟨gv,6,none⟩=some (.int .u32 a6):=by rw[<-ad,<-ab,<-aa];exact v6
  have ax:Below w w wy:=by rw[<-ad,<-ab,<-aa];exact a2Z (a2Z (a2Z aB.o _) _) _
  have aD:=η1 ax;clear v0 v1 v2 v3 v4 v5 v6 v7 an al ad aa ab ax;with_reducible refine c4S _ ρk u0 ρk ?_
  dsimp only[d3T,d3V,List.take_succ_cons,List.take_zero,List.drop_succ_cons,List.drop_zero,List.cons_append,List.nil_append];intros;go_wp2_with fail
  generalize ac:World.drewN wy _=wd
  have t0:wd.cell? ⟨gv,0,none⟩=some (.int .u32 a0):=by rw[<-ac];exact u0
  have t1:wd.cell? ⟨gv,1,none⟩=some (.int .u32 a1):=by rw[<-ac];exact u1
  have t2:wd.cell? ⟨gv,2,none⟩=some (.int .u32 a2):=by rw[<-ac];exact u2
  with_reducible refine c4a _ ρk t0 t1 t2 ρk ?_
  dsimp only[d3T,d3V,List.take_succ_cons,List.take_zero,List.drop_succ_cons,List.drop_zero,List.cons_append,List.nil_append];intros;go_wp2_with fail;clear t0 t1 t2
  generalize ae:World.drewN wd _=wz
  have v0:wz.cell? ⟨gv,0,none⟩=some (.int .u32 a0):=by rw[<-ae,<-ac];exact u0
  have v1:wz.cell? ⟨gv,1,none⟩=some (.int .u32 a1):=by rw[<-ae,<-ac];exact u1
  have v2:wz.cell? ⟨gv,2,none⟩=some (.int .u32 a2):=by rw[<-ae,<-ac];exact u2
  have v3:wz.cell? ⟨gv,3,none⟩=some (.int .u32 a3):=by rw[<-ae,<-ac];exact u3
  have v4:wz.cell? ⟨gv,4,none⟩=some (.int .u32 a4):=by rw[<-ae,<-ac];exact u4
  have v5:wz.cell? ⟨gv,5,none⟩=some (.int .u32 a5):=by rw[<-ae,<-ac];exact u5
  have v6:wz.cell? ⟨gv,6,none⟩=some (.int .u32 a6):=by rw[<-ae,<-ac];exact u6
  have au:Below w w wz:=by rw[<-ae,<-ac];exact a2Z (a2Z aD.o _) _
  have ao:=η1 au;clear u0 u1 u2 u3 u4 u5 u6 ae ac au;with_reducible refine c5T _ ρk v0 v1 v2 v3 v4 v5 v6 ρk ?_
  dsimp only[d3T,d3V,List.take_succ_cons,List.take_zero,List.drop_succ_cons,List.drop_zero,List.cons_append,List.nil_append];intros;go_wp2;go_roundg (64-(i+1))
  case measure=>omega
  refine⟨i+1,some ⟨wz,0,none⟩,8,by omega,by go_num,rfl,?_,(ao.alloc ao.size _).drew⟩;rw[aF.o,<-c7b aC.o];simp only[IntKind.wrap_u32,Int.emod_add_emod,Int.add_emod_emod];exact c0x wz _ (Qk hB ao.size) ρp
 obtain rfl:i=64:=ρo;have ai:¬(((64:Nat):Int)<64):=ρo;have⟨aE,aI⟩:=η2 ah ag;clear ah ag;go_wp2_with fail
 apply hQ
 exact aE;exact aI
theorem c5N{Q:Exit->Act->WD->Prop}{Y Z E:VL}{K:LV}{cv:Nat}(B:Nat)(h R:LI)(c:Code)(f:(Tryz.f168.body.bind (a5u 10)).getD .skip=c)(N:h.length=8)(_hRl:R.length=8)(a:a1X B w (.slice d 8 g) h)(b:∀k,k<8->w.cell? ⟨J,k,none⟩=some (.int .u32 (R.getD k 0)))(O:J≠d) (ht:K.length=300) (hQ:d3T 16 λm=>∀(w':WD),a1X B w' (.slice d 8 g) (b1d h R 8)->Fr (λk=>k=d) w w'->Q .normal ⟨(P:: .slice d 8 g::S::T::U::V::W::X::Y::Z::o::r::c12::c13::v:: .slice J 8 cv::z::D::E::F::G::H:: .int .i64 8::I::d3V K 266 16 m).toArray,[]⟩ w'):Code.wp prog c Q ⟨(P:: .slice d 8 g::S::T::U::V::W::X::Y::Z::o::r::c12::c13::v:: .slice J 8 cv::z::D::E::F::G::H:: .int .i64 0::I::K).toArray,[]⟩ w:=by
 subst f
 revert K
 refine @(d3U ?_);dsimp only[d3T,d3V,List.take_succ_cons,List.take_zero,List.drop_succ_cons,List.drop_zero,List.cons_append,List.nil_append];intros
 rename_i hQ
 conv=>arg 2;whnf
 have ai:a1X B w (.slice d 8 g) (b1d h R 0):=by rw[b4O N];exact a
 have⟨aj,af⟩:=η2 ai b;clear ai b a;go_wp2_with fail;go_loopg [22] 8 (λk t wx=>∃(j:Nat),j+k=8/\t=.int .i64 j/\a1X B wx (.slice d 8 g) (b1d h R j)/\(∀k,k<8->wx.cell? ⟨J,k,none⟩=some (.int .u32 (R.getD k 0)))/\Fr (λk=>k=d) w wx);exact⟨0,by omega,rfl,aj.o,af.o,Qp _ _⟩;clear aj af;obtain⟨i,hi,rfl,a,b,ab⟩:=hrel
 by_cases aa:i<8
 ·have ac:(i:Int)<8:=ρo
  obtain⟨gg,cc,ee,_,_,ad⟩:=a.cells (by rw[a3v];omega);rw[a3v]at ee;simp only[Value.slice.injEq,Option.some.injEq,Addr.mk.injEq,and_true,true_and]at ee;obtain⟨rfl,rfl⟩:=ee;have l0:=(ad i (ρy a3v aa)).1;have f0:=(ad i (ρy a3v aa)).2;have l2:=b i aa;rw[c7L h R aa]at l0;have⟨x,hx⟩:=η0 (h.getD i 0);have⟨y,hy⟩:=η0 (R.getD i 0);rw[hx]at l0;rw[hy]at l2;have ah:(b1d h R i).set i ((x+y) % 4294967296)=b1d h R (i+1):=by rw[<-hx,<-hy];exact c5r h R i
  have⟨ae,ag,ak,al⟩:=η4 a b ab ah;clear ad hx hy ah a b ab;go_wp2_with fail;with_reducible refine c4i _ ρk ac aa l0 f0 l2 ρk ?_
  dsimp only[d3T,d3V,List.take_succ_cons,List.take_zero,List.drop_succ_cons,List.drop_zero,List.cons_append,List.nil_append];intros;go_wp2;go_roundg (8-(i+1))
  case measure=>omega
  refine⟨i+1,by omega,by go_num,?_,λk hk=>?_,(ak.setCell (p:=⟨d,i,none⟩) (λ_=>rfl) _).drew⟩
  ·rw[<-al.o]
   exact ae.put i (ρy a3v aa) _
  exact(World.cell?_setCell_other _ _ _ _ (λe=>O (congrArg Addr.block e).symm)).trans (ag.o k hk)
 obtain rfl:i=8:=ρo;have ac:¬(((8:Nat):Int)<8):=ρo;have⟨an,ao⟩:=η2 a ab;clear a b ab;go_wp2_with fail
 apply hQ
 exact an;exact ao
end
structure InD where
 tx:LI
 ix:Int
 am:Int
 sec:LI
structure a1q where
 ow:LI
 am:Int
structure TxD where
 ins:List InD
 outs:List a1q
 fee:Int
 exp:Int
instance:Inhabited InD:=⟨⟨[],0,0,[]⟩⟩
instance:Inhabited a1q:=⟨⟨[],0⟩⟩
structure InD.Bd(i:InD):Prop where
 len:i.tx.length=32
 tx:∀x∈i.tx,0<=x/\x<=255
 ix:-9223372036854775808<=i.ix/\i.ix<=9223372036854775807
 am:0<=i.am/\i.am<=18446744073709551615
 sec:∀x∈i.sec,0<=x/\x<=255
structure a1q.Bd(o:a1q):Prop where
 len:o.ow.length=32
 ow:∀x∈o.ow,0<=x/\x<=255
 am:0<=o.am/\o.am<=18446744073709551615
structure TxD.Bd(t:TxD):Prop where
 ins:∀i∈t.ins,i.Bd
 outs:∀o∈t.outs,o.Bd
 fee:0<=t.fee/\t.fee<=18446744073709551615
 exp:-9223372036854775808<=t.exp/\t.exp<=9223372036854775807
def a7J(i:InD):Bool:=decide (64<i.sec.length)||!decide (0<=i.ix/\i.ix<=15)
def b1z(t:TxD):Bool:=!decide (1<=t.ins.length/\t.ins.length<=16)||(!decide (1<=t.outs.length/\t.outs.length<=16)||(!decide (0<=t.exp/\t.exp<=1099511627776)||t.ins.any a7J))
def b6v(l:List InD):List (LI×Int):=l.map λi=>(i.tx,i.ix)
def a8D(l:List InD):Bool:=!decide (b6v l).Nodup
def c7X(t:TxD):Bool:=(t.ins.map (·.am)).contains 0||(t.outs.map (·.am)).contains 0
def b8L(t:TxD):Int:=
 if(b3O 0 (t.ins.map (·.am))).2≠0 then(b3O 0 (t.ins.map (·.am))).2
 else if(b3O 0 (t.outs.map (·.am)++[t.fee])).2≠0 then(b3O 0 (t.outs.map (·.am)++[t.fee])).2
 else if(b3O 0 (t.ins.map (·.am))).1≠(b3O 0 (t.outs.map (·.am)++[t.fee])).1 then 9 else 0
def a1a(t:TxD):Int:=if b1z t then 4 else if a8D t.ins then 7 else if c7X t then 8 else b8L t
theorem c3B(t:TxD):0<=b8L t/\b8L t<=9:=by
 unfold b8L;have a:=b5c (t.ins.map (·.am)) 0;have b:=b5c (t.outs.map (·.am)++[t.fee]) 0
 split
 ·omega
 split
 ·omega
 split<;>omega
theorem c3e(t:TxD):0<=a1a t/\a1a t<=9:=by
 unfold a1a
 have:=c3B t
 split
 ·omega
 split
 ·omega
 split<;>omega
def inF(i:InD):LI:=i.tx++(a0K i.ix.toNat++(a0K i.am.toNat++(a0K i.sec.length++i.sec)))
def b3j(o:a1q):LI:=o.ow++a0K o.am.toNat
def a9w(t:TxD):LI:=a0K t.ins.length++t.ins.flatMap inF++a0K t.outs.length++t.outs.flatMap b3j++a0K t.fee.toNat++a0K t.exp.toNat
def b3c(t:TxD):LI:=if a1a t=0 then a9w t else []
def idP(t:TxD):LI:=if a1a t=0 then a1K 8 [a9w t]else List.replicate 32 0
theorem a3b(t:TxD):(idP t).length=32:=by
 unfold idP
 split
 ·exact a5y _ _
 simp
theorem a5f(t:TxD):∀x∈idP t,0<=x/\x<=255:=by
 unfold idP
 split
 ·exact b0Z _ _
 intro x a
 have:=Zf a
 omega
theorem a4S{t:TxD}(h:a1a t=0):b1z t=false/\a8D t.ins=false/\c7X t=false/\b8L t=0:=by
 unfold a1a at h
 split at h
 ·simp at h
 split at h
 ·simp at h
 split at h
 ·simp at h
 simp_all
theorem a4R{t:TxD}(h:b1z t=false):(1<=t.ins.length/\t.ins.length<=16)/\(1<=t.outs.length/\t.outs.length<=16)/\(0<=t.exp/\t.exp<=1099511627776)/\∀i∈t.ins,i.sec.length<=64/\0<=i.ix/\i.ix<=15:=by
 unfold b1z at h;simp only[Bool.or_eq_false_iff,Bool.not_eq_false',decide_eq_true_eq,List.any_eq_false]at h;refine⟨h.1,h.2.1,h.2.2.1,λi hi=>?_⟩
 have:=h.2.2.2 i hi
 unfold a7J at this;simp only[Bool.or_eq_true,decide_eq_true_eq,Bool.not_eq_true',not_or,decide_eq_false_iff_not,Classical.not_not]at this;omega
theorem a0p(h:n<18446744073709551616):(a0K n).length<=9:=by
 have:=a8J h
 rw[b7k];omega
theorem b9S{i:InD}(h:i.Bd)(a:i.sec.length<=64)(b:0<=i.ix/\i.ix<=15):(inF i).length<=123:=by
 unfold inF;have d:=a0p (n:=i.ix.toNat) ρo;have f:=a0p (n:=i.am.toNat) (ρh h.am);have g:=a0p (n:=i.sec.length) ρo
 have:=h.len
 simp only[Qa];omega
theorem b7X{o:a1q}(h:o.Bd):(b3j o).length<=41:=by
 unfold b3j;have a:=a0p (n:=o.am.toNat) (ρh h.am)
 have:=h.len
 simp only[Qa];omega
theorem b0V{α:Type}(f:α->LI)(m:Nat):∀(l:List α) (_:∀x∈l,(f x).length<=m),(l.flatMap f).length<=l.length*m
 | [],_=>by simp
 |
  x::l,h=>by
  have h1:=b0V f m l (λy hy=>h y (by simp[hy]));have h2:=h x ρp;simp only[List.flatMap_cons,Qa,Qy,Yb,Nat.one_mul];omega
theorem b2t{t:TxD}(a:t.Bd)(h:b1z t=false):(a9w t).length<=2660:=by
 obtain⟨g,f,x,b⟩:=a4R h;have m:=b0V inF 123 t.ins (λi hi=>b9S (a.ins i hi) (b i hi).1 (b i hi).2);have j:=b0V b3j 41 t.outs (λo d=>b7X (a.outs o d));have v:=a0p (n:=t.ins.length) ρo;have r:=a0p (n:=t.outs.length) ρo;have y:=a0p (n:=t.fee.toNat) (ρh a.fee);have z:=a0p (n:=t.exp.toNat) ρo;have w:t.ins.length*123<=16*123:=Zb _ g.2;have p:t.outs.length*41<=16*41:=Zb _ f.2;unfold a9w;simp only[Qa];omega
theorem a1I{a b:LI}(d:∀x∈a,0<=x/\x<=255)(f:∀x∈b,0<=x/\x<=255):∀x∈a++b,0<=x/\x<=255:=λx hx=>(Qq.1 hx).elim (d x) (f x)
theorem d0r{i:InD}(h:i.Bd)(a:i.sec.length<=64)(b:0<=i.ix/\i.ix<=15):∀x∈inF i,0<=x/\x<=255:=
 a1I h.tx (a1I (a0L ρo) (a1I (a0L (ρh h.am)) (a1I (a0L ρo) h.sec)))
theorem c8u{o:a1q}(h:o.Bd):∀x∈b3j o,0<=x/\x<=255:=a1I h.ow (a0L (ρh h.am))
theorem b4h{t:TxD}(a:t.Bd)(h:b1z t=false):∀x∈a9w t,0<=x/\x<=255:=by
 obtain⟨p,m,r,d⟩:=a4R h
 have j:∀x∈t.ins.flatMap inF,0<=x/\x<=255:=λx b=>by
  obtain⟨i,hi,b⟩:=List.mem_flatMap.1 b;exact d0r (a.ins i hi) (d i hi).1 (d i hi).2 x b
 have f:∀x∈t.outs.flatMap b3j,0<=x/\x<=255:=λx b=>by
  obtain⟨o,g,b⟩:=List.mem_flatMap.1 b;exact c8u (a.outs o g) x b
 exact a1I (a1I (a1I (a1I (a1I (a0L ρo) j) (a0L ρo)) f) (a0L (ρh a.fee))) (a0L ρo)
def okN(n:Int):Bool:=decide (1<=n/\n<=64)
def a2P(t:TxD)(n:Int):LI:=if a1a t=0/\okN n=true then t.ins.map λi=>ofO i.tx i.ix n else []
def a2K(t:TxD)(n:Int):LI:=if a1a t=0/\okN n=true then(List.range t.outs.length).map λk=>ofO (idP t) (k:Nat) n else []
def a2V(l:LI):LI:=((List.range 64).map λ(k:Nat)=>(k:Int)).filter λv=>l.contains v
def a0M(l:LI)(v:Int):LI:=((List.range l.length).filter λi=>l.getD i 0 == v).map λ(k:Nat)=>(k:Int)
theorem c6e(tx:LI)(ix n:Int)(h:okN n=true):0<=ofO tx ix n/\ofO tx ix n<n/\n<=64:=by
 have a:1<=n/\n<=64:=by simpa[okN]using h
 unfold ofO
 split
 ·exact⟨Int.emod_nonneg _ ρo,Int.emod_lt_of_pos _ ρo,a.2⟩
 omega
theorem c0g(t:TxD)(n:Int):∀x∈a2P t n,0<=x/\x<n/\n<=64:=by
 unfold a2P
 split
 ·rename_i h
  intro x a;obtain⟨i,_,rfl⟩:=Qs.1 a;exact c6e _ _ n h.2
 simp
theorem c4v(t:TxD)(n:Int):∀x∈a2K t n,0<=x/\x<n/\n<=64:=by
 unfold a2K
 split
 ·rename_i h
  intro x a;obtain⟨i,_,rfl⟩:=Qs.1 a;exact c6e _ _ n h.2
 simp
section
attribute [local go_sem ↓] a2t a2s a2n a3n b0R
theorem c9c:prog.underlying 31=some (.array 32 5):=b1w
def Wds(w:WD)(A:OA)(l:LI):Prop:=∃g o,A=some ⟨g,o,none⟩/\g<w.heap.size/\∀i,i<l.length->w.cell? ⟨g,o+i,none⟩=some (.int .u32 (l.getD i 0))
theorem Wds.below{b:WD}(h:Wds w A l){n₀:Nat}(d:Below n₀ w b)(f:∀a,A=some a->a.block<n₀):Wds b A l:=by
 obtain⟨g,o,rfl,m,r⟩:=h;have j:g<n₀:=f ⟨g,o,none⟩ rfl;exact⟨g,o,rfl,Qh m d.size,λi hi=>(d.cell (p:=⟨g,o+i,none⟩) j).trans (r i hi)⟩
theorem c3Y(A:OA)(c:Nat)(B:A=none->c=0)(b:LI)(D E:OA)(G O:Nat)(w:WD)(r:Byt w A b)(F:b.length<=100000000)(I:Wds w D H0)(f:Wds w E K0):Calls prog 168 #[.slice A b.length c,.slice D 8 G,.slice E 64 O] w λe w'=>e=.returned (.agg (bys (a3x b)).toArray)/\Below w w w':=by
 obtain⟨z,ba,a5⟩:=Q8.1 b9C;have ag:=Pc (t:=31) z ba w;have a9:=η1 (λW=>Pc (t:=31) z ba W);have⟨V,ai⟩:=η0 z.cells;have br:=η1 a5;rw[ai]at ag a9 br;have a8:V.size=32:=by rw[<-ai,<-QD,a5];simp
 have az:=ρb w (.cells V 31);have bb:=Qd w 31 V;have a6:(w.alloc (.cells V 31)).heap.size=w.heap.size+1:=by simp
 generalize cp:w.alloc (.cells V 31)=W1 at ag az bb a6
 have h0:a0N W1 (W1.alloc (.cells #[] 5)) (.slice W1 0 0) []:=c2e W1 _ _ (Qg _);obtain⟨v2,w2,ah,aj,bx,bn⟩:=c3v (ty:=22) h0 ((r.below az).below ((Qf _ W1).alloc (Qg _) (.cells #[] 5))) (by simp;omega) ρp B;rw[QF]at aj;have aF:Below W1 W1 w2:=(ρb W1 _).trans (bx.below ρp (λk f e=>by simp[Value.ownBlock]at e;omega));obtain⟨A2,c2,rfl⟩:=aj.form;obtain⟨v3,w3,aq,aJ,bm,_⟩:=a3P (ty:=22) (x:=128) aj ρo ρo aF.size;have bj:Below W1 W1 w3:=aF.trans (bm.below aF.size (λk f e=>by have:=(aj.lt e).1;omega));obtain⟨A3,c3,rfl⟩:=aJ.form;have⟨n,hn⟩:=η0 b.length;have bw:(b++[128]).length=n+1:=by simp[hn]
 rw[bw]at aq aJ;rw[hn]at ah aq F⊢;rw[a6]at ah;have cV:IntKind.u64.wrap ((n:Int))=(n:Int):=by rw[IntKind.wrap_u64];omega
 have cX:IntKind.u64.wrap ((n:Int)*8)=((8*n:Nat):Int):=by rw[IntKind.wrap_u64];omega
 have⟨cy,HN,HH,HK,cx,bF,HI,bX⟩:=η8 (c8x r.bd) hn I f az bj bb aJ;clear hn I f az aF bj bb aj aJ bx bn bm r bw h0 cp ai ba a5;go_in;go_wp2_with fail;clear ag ah aq;have⟨Zn,bl⟩:=η0 ((119-n % 64) % 64);have ay:=η1 bl;clear bl;go_loopg [7] Zn (λk v wr=>∃z N A2 c2,z+k=Zn/\N=n+1+z/\v=.slice A2 N c2/\a0N W1 wr v (b++[128]++List.replicate z 0)/\Below W1 W1 wr);exact⟨0,n+1,A3,c3,by omega,rfl,rfl,by simpa using bX.o,bF.o⟩;clear bX bF;obtain⟨z,N,A4,c4,hz,hN,rfl,ho,Q⟩:=hrel;have⟨HO,aK,HZ,aI⟩:=η4 ho Q hz hN;have cR:N<=200000000:=by have:=ay.o;omega
 have Y:(b++[128]++List.replicate z 0).length=N:=by simp[HN.o];omega
 have cA:W1.heap.size<=wr.heap.size:=Q.size;have aL:=η1 Y;clear Q hz hN
 by_cases f:z<Zn
 ·have aR:N % 64≠56:=by have:=aI.o;have:=ay.o;omega
  obtain⟨v',w',U,S,af,_⟩:=a3P (ty:=22) (x:=0) ho ρo (by rw[Y];omega) cA;obtain⟨A3,c3,rfl⟩:=S.form;rw[Qa,Y]at U S;have⟨a7,a0⟩:=η2 S af;clear ho S af Y;go_wp2;go_roundg (Zn-(z+1))
  case measure=>have:=HZ.o;omega
  refine⟨z+1,N+1,_,_,by omega,by have:=aI.o;omega,rfl,?_,aK.trans (a0.below aK.size (λk f e=>by have:=(HO.lt e).1;omega))⟩;rw[List.replicate_succ',<-QC];exact a7
 have aR:N % 64=56:=by have:=aI.o;have:=ay.o;have:=HZ.o;omega
 have bM:z=Zn:=by have:=HZ.o;omega
 have a2:(b++[128]++List.replicate z 0)++beN ((8*n:Nat):Int) 8=a6A b:=by
  unfold a6A;rw[bM,<-ay.o,HN.o]
  simp
 have⟨M0,bv⟩:=η0 (b++[128]++List.replicate z 0);rw[bv]at a2 ho Y;have⟨a1,HO,aL⟩:=η3 a2 ho Y;obtain⟨wa,cB⟩:∃wa,wa=wr:=⟨_,rfl⟩;subst cB
 have a4:(((N:Int) % 64) != 56)=false:=by
  have:(N:Int) % 64=56:=ρo
  rw[this]
  rfl
 clear ho Y bM a2 bv f aR;go_wp2_with fail;clear a4;go_loopg [7,9] 8 (λk v t wr=>∃j A c,j+k=8/\((j<8/\t=.int .i64 ((7-j:Nat):Int))\/(j=8/\t=.int .i64 (-1)))/\v=.slice A (N+j) c/\a0N W1 wr v (M0++(beN ((8*n:Nat):Int) 8).take j)/\Below W1 W1 wr);exact⟨0,A4,c4,by omega,.inl ⟨by omega,rfl⟩,rfl,by simpa using HO.o,aK.o⟩;obtain⟨j,A5,c5,hj,ht,rfl,ho,Q⟩:=hrel;have aG:(M0++(beN ((8*n:Nat):Int) 8).take j).length=N+j:=by rw[Qa,aL.o,Qx,a1E];omega
 have av:=η1 Q
 rcases ht with⟨aY,rfl⟩ | ⟨rfl,rfl⟩
 ·have bk:(beN ((8*n:Nat):Int) 8).getD j 0=8*(n:Int) / 2 ^ (8*(7-j)) % 256:=by
   rw[b6d _ aY,IntKind.wrap_u8',Int.natCast_mul]
   rfl
  have bJ:(beN ((8*n:Nat):Int) 8).take (j+1)=(beN ((8*n:Nat):Int) 8).take j++[8*(n:Int) / 2 ^ (8*(7-j)) % 256]:=by
   rw[Qe (ρy a1E aY),<-bk];simp[List.getD,a1E,aY]
  obtain⟨v',w',U,S,af,_⟩:=a3P (ty:=22) (x:=8*(n:Int) / 2 ^ (8*(7-j)) % 256) ho ρo (by rw[aG];omega) Q.size;obtain⟨A6,c6,rfl⟩:=S.form;rw[Qa,aG]at U S;rw[QC,<-bJ]at S;have⟨ci,a7,a0⟩:=η3 ho S af;clear ho S af aG Q bk bJ;go_wp2;go_roundg (8-(j+1))
  case measure=>omega
  refine⟨j+1,_,_,by omega,?_,rfl,a7.o,av.trans (a0.below av.size (λk f e=>by have:=(ci.lt e).1;omega))⟩
  by_cases h7:j=7
  ·subst h7;exact .inr ⟨rfl,rfl⟩
  refine .inl ⟨by omega,?_⟩
  have:IntKind.i64.wrap (((7-j:Nat):Int)-1)=((7-(j+1):Nat):Int):=by rw[IntKind.wrap_i64];omega
  go_num
 rw[Qb (by rw[a1E];exact Qg _),a1.o]at ho;obtain⟨K,hK⟩:∃K,(a6A b).length=64*K:=⟨(a6A b).length / 64,by have:=b7a b;omega⟩
 have bU:N+8=64*K:=by
  rw[<-hK,<-a1.o,Qa,aL.o,a1E]
 have aX:∀x∈a6A b,0<=x/\x<=255:=cy.o;rw[bU]at ho⊢;have cQ:1<=K/\64*K<=200000100:=ρo;obtain⟨A6,c6,e6,bt,_,_⟩:=ho.byt aX;rw[hK]at e6;simp only[Value.slice.injEq,true_and]at e6;obtain⟨rfl,rfl⟩:=e6;obtain⟨gm,om,rfl,bA,bH⟩:=bt.cell (by rw[hK];omega);obtain⟨wb,bq⟩:∃wb,wb=wr:=⟨_,rfl⟩;subst bq;have aE:Below w w wb:=cx.trans (Q.mono (by rw[a6];omega));have bC:=η1 (HI.fr (Q9 Q) ρo)
 obtain⟨gh,oh,rfl,cg,ax⟩:=(HH.below (aE) (λa ha=>by
  obtain⟨g,o,e,hg,_⟩:=HH.o;rw[ha]at e;cases e;exact hg):Wds wb D H0)
 obtain⟨ad,ok,rfl,bW,bp⟩:=(HK.below (aE) (λa ha=>by
  obtain⟨g,o,e,hg,_⟩:=HK.o;rw[ha]at e;cases e;exact hg):Wds wb E K0)
 obtain⟨vh,w5,U,aA,bY⟩:=c6H (ty:=283) wb (a:=⟨gh,oh,none⟩) (m:=H0) (c:=G) (λj x hx=>by
  have hj:j<H0.length:=(Qm.1 hx).1;have an:(⟨gh,oh,none⟩:Addr).add j=⟨gh,oh+j,none⟩:=by unfold Addr.add;split<;>simp_all
  rw[an,ax j hj];simp[List.getD,hx]) (λ_=>cg) (by simp[H0])
 obtain⟨A7,c7,rfl⟩:=aA.form;rw[show H0.length=8 from rfl]at U aA;have b4:a1X wb.heap.size w5 (.slice A7 8 c7) (a6V (a6A b) 0):=by rw[a7t];exact aA
 have⟨b0,cq,cC,bi,cT,bN,bT⟩:=η7 bH bp aE hK aX b4 bY;clear ho Q aG aX hK bt bH aE ax bp aA bY b4 bU a1 HO aK av aI aL HH HK;go_wp2_with fail;clear U;go_loopg [10] K (λk t wr=>∃(j J:Nat),j+k=K/\J=64*j/\t=.int .i64 J/\a1X wb.heap.size wr (.slice A7 8 c7) (a6V (a6A b) j)/\Below wb.heap.size wb wr);exact⟨0,0,by omega,rfl,rfl,bN.o,bT.o⟩;clear bN bT;obtain⟨j,J,hj,hJ,rfl,ab,Q⟩:=hrel
 by_cases ch:j<K
 ·
  have cN:J<64*K:=ρo;have cW:(J:Int)<64*K:=ρo;have aS:J+64<=64*K:=ρo;have⟨h,ar⟩:=η0 (a6V (a6A b) j);have be:h.length=8:=by rw[<-ar];exact a8q _ _
  have b7:W32 h:=by rw[<-ar];exact c2C _ _
  rw[ar]at ab;have⟨blk,ak⟩:=η0 (((a6A b).drop (64*j)).take 64)
  have aN:∀d,d<64->wr.cell? ⟨gm,om+(J+d),none⟩=some (.int .u8 (blk.getD d 0)):=λd hd=>by
   rw[Q.cell (p:=⟨gm,om+(J+d),none⟩) bA,<-ak,a6J _ _ _ _ hd,hJ];have F:64*j+d<(a6A b).length:=by rw[bi.o];omega
   exact b0.o (64*j+d) _ (by simp[List.getD,QN F])
  have b3:gm<wr.heap.size:=Qh bA Q.size;have ae:ad<wr.heap.size:=Qh bW Q.size;have⟨b9,Z,cz,cu,bQ,ac,HJ,bZ⟩:=η8 ar be b7 ak ab Q hJ aN;clear ar be b7 ak ab Q hJ aN;go_upto_block 6 with fail
  with_reducible refine c8U blk _ ρk aS ρo b3 bZ.o ρk ?_
  dsimp only[d3T,d3V,List.take_succ_cons,List.take_zero,List.drop_succ_cons,List.drop_zero,List.cons_append,List.nil_append];intros
  rename_i Aw cw w6 ow b6
  obtain⟨gw,cH,ew,_,aV,bI⟩:=ow.cells (by rw[a1i];omega);rw[a1i]at ew;simp only[Value.slice.injEq,true_and]at ew;obtain⟨rfl,rfl⟩:=ew;have aM:∀k,k<64->w6.cell? ⟨gw,k,none⟩=some (.int .u32 ((a0Y blk 64).getD k 0)):=λk f=>(bI k (ρy a1i f)).1
  obtain⟨g7,cM,e7,cI,ao,bR⟩:=bQ.cells (by rw[Z.o];omega);rw[Z.o]at e7;simp only[Value.slice.injEq,true_and]at e7;obtain⟨rfl,rfl⟩:=e7
  obtain⟨vv,w7,U,aD,aa⟩:=c6H (ty:=283) w6 (a:=⟨g7,0,none⟩) (m:=h) (c:=c7) (λj x hx=>by
   have ce:j<h.length:=(Qm.1 hx).1;have an:(⟨g7,0,none⟩:Addr).add j=⟨g7,j,none⟩:=by rw[d1E,QP]
   have ca:h.getD j 0=x:=by rw[List.getD_eq_getElem?_getD,hx];rfl
   rw[an,b6.cell (p:=⟨g7,j,none⟩) ao,(bR j ce).1,ca]) (λ_=>Qh ao b6.size) (by rw[Z.o];omega)
  obtain⟨A8,c8,rfl⟩:=aD.form;rw[Z.o]at U aD
  have aQ:∀i,i<64->w7.cell? ⟨ad,ok+i,none⟩=some (.int .u32 (K0.getD i 0)):=λi hi=>by
   rw[aa.cell (p:=⟨ad,ok+i,none⟩) (Qh ae b6.size),b6.cell (p:=⟨ad,ok+i,none⟩) ae,ac.cell (p:=⟨ad,ok+i,none⟩) bW];exact cq.o i (by simpa[K0]using hi)
  have aO:∀k,k<64->w7.cell? ⟨gw,k,none⟩=some (.int .u32 ((a0Y blk 64).getD k 0)):=λk f=>(aa.cell (p:=⟨gw,k,none⟩) aV).trans (aM k f)
  have⟨aB,ct,ck,bK,b2⟩:=η5 b6 aa aD aQ aO;have bu:ad<w7.heap.size:=Qh (Qh ae b6.size) aa.size;have bo:gw<w7.heap.size:=Qh aV aa.size;have bG:w6.heap.size<=w7.heap.size:=aa.size;clear ow b6 bI aM bR aD aa aQ aO;go_upto_block 8 with fail
  clear U;with_reducible refine c8m w6.heap.size h blk _ ρk bG bu bK.o bo b2.o Z.o cz.o ck.o ρk ?_
  dsimp only[d3T,d3V,List.take_succ_cons,List.take_zero,List.drop_succ_cons,List.drop_zero,List.cons_append,List.nil_append];intros
  rename_i Av cv w8 ov b8
  have⟨R,hR⟩:=η0 (a2z h blk 64);have bB:R.length=8:=by rw[<-hR];exact a6c h blk Z.o 64
  rw[hR]at ov;have aC:b1d h R 8=a6V (a6A b) (j+1):=by rw[<-hR,b8m,a7r,b9.o,cu.o]
  obtain⟨gv,cG,ev,cJ,cF,bE⟩:=ov.cells ρo;rw[bB]at ev;simp only[Value.slice.injEq,true_and]at ev;obtain⟨rfl,rfl⟩:=ev;have aW:∀k,k<8->w8.cell? ⟨gv,k,none⟩=some (.int .u32 (R.getD k 0)):=λk f=>(bE k ρo).1
  have al:Below wr.heap.size wr w8:=(aB.trans (ct.mono aB.size)).trans (b8.mono (Qk aB.size bG));have aT:a1X wb.heap.size w8 (.slice g7 8 c7) h:=bQ.below al (λk f=>by cases f;exact ao);have cc:gv≠g7:=by have:=aB.size;omega
  have⟨cE,bO,cd,aU⟩:=η4 aC aT aW (φt ac al);clear hR aC ov bE aW al aT b8;go_upto_block 10 with fail
  with_reducible refine c5N wb.heap.size h R _ ρk Z.o bB bO.o cd.o cc ρk ?_
  dsimp only[d3T,d3V,List.take_succ_cons,List.take_zero,List.drop_succ_cons,List.drop_zero,List.cons_append,List.nil_append];intros
  rename_i w9 o9 f9
  rw[cE.o]at o9;have⟨cf,cj⟩:=η2 o9 (aU.trans (f9.below aU.size (λk f e=>ρo)));have aS:IntKind.i64.wrap ((J:Int)+64)=((J+64:Nat):Int):=by rw[IntKind.wrap_i64];omega
  clear o9 f9;go_wp2;go_roundg (K-(j+1));exact⟨j+1,J+64,by omega,by have:=HJ.o;omega,by go_num,cf.o,cj.o⟩;omega
 ·
  obtain rfl:j=K:=ρo;have⟨H,hH⟩:=η0 (a6V (a6A b) j);have aH:H.length=8:=by rw[<-hH];exact a8q _ _
  have bh:W32 H:=by rw[<-hH];exact c2C _ _
  have aP:b6H H 32=a3x b:=by
   rw[c5s aH,<-hH];rw[c8k,bi.o]
   congr 2
   omega
  rw[hH]at ab;obtain⟨gh,cK,eh,_,b5,ax⟩:=ab.cells ρo;rw[aH]at eh;simp only[Value.slice.injEq,true_and]at eh;obtain⟨rfl,rfl⟩:=eh;obtain⟨wo,bP⟩:∃wo,wo=wr:=⟨_,rfl⟩;subst bP;have ag:=a9.o wo
  have bs:Blk (wo.alloc (.cells V 31)) wo.heap.size 31 (bys (b6H H 0)).toArray:=by
   rw[show(bys (b6H H 0)).toArray=V from by
    rw[c1L]
    apply Array.toList_inj.1
    rw[br.o];simp[bys]]
   exact Qd wo _ _
  have bf:=ρb wo (.cells V 31);have bS:∀k,k<8->wo.cell? ⟨gh,k,none⟩=some (.int .u32 (H.getD k 0)):=λk f=>(ax k ρo).1
  have⟨cr,bD,bg,HC,cU,au,bc,cS⟩:=η8 aP bs bf bS aH (φt cC Q) Q bh;have cL:¬(((64*j:Nat):Int)<64*(j:Int)):=ρo;have cn:J=64*j:=hJ;subst cn;clear hH aP bs bf bS ax ab Q aH bh ch hj b0 a9;go_wp2_with fail;clear ag;go_loopg [24] 32 (λk t wx=>∃(i:Nat),i+k=32/\t=.int .i64 i/\Blk wx wo.heap.size 31 (bys (b6H H i)).toArray/\Below wo.heap.size wo wx);exact⟨0,by omega,rfl,bD.o,bg.o⟩;clear bD bg;obtain⟨i,hi,rfl,r,Q⟩:=hrel
  by_cases bL:i<32
  ·have aZ:(i:Int)<32:=ρo
   have l0:=(Q.cell (p:=⟨gh,i / 4,none⟩) b5).trans (HC.o (i / 4) ρo);have f0:=r.frozen i;have X:=c5o H i;rw[IntKind.wrap_u8']at X;obtain⟨y,c0⟩:∃y,wr.cell? ⟨wo.heap.size,i,none⟩=some (.int .u8 y):=⟨(b6H H i).getD i 0,by rw[r.cell];simp[bys,b7e,List.getD,bL]⟩;have⟨x,hx⟩:=η0 (H.getD (i / 4) 0);rw[hx]at l0 X;have⟨q,hq⟩:=η0 (i / 4);have⟨s,hs⟩:=η0 (24-8*(i % 4));rw[hq]at l0;rw[hs]at X;have q8:q<8:=ρo;have cO:(q:Int)<8:=ρo;have e1:(i:Int) / 4=(q:Int):=ρo;have e2:24-8*((i:Int) % 4)=(s:Int):=ρo;have⟨ac,HB,bV⟩:=η3 Q r X;clear Q r X hx hq hs;go_wp2;go_roundg (32-(i+1))
   case measure=>omega
   refine⟨i+1,by omega,by go_num,?_,(ac.setCell (p:=⟨wo.heap.size,i,none⟩) (Qg _) _)⟩;have h3:=HB.set_ i (.int .u8 (x / 2 ^ s % 256))
   have h4:(bys (b6H H (i+1))).toArray=(bys (b6H H i)).toArray.setIfInBounds i (.int .u8 (x / 2 ^ s % 256)):=by
    rw[<-bV.o];simp[bys,List.map_set]
   rw[h4];exact h3
  obtain rfl:i=32:=ρo;have aZ:¬(((32:Nat):Int)<32):=ρo;rw[cr.o]at r;have bP:=au.size;have bq:w.heap.size<wb.heap.size:=bC.lt;have a3:=(bC.fr (Q9 bc.o) ρo).fr (Q9 Q) ρo;have T:(bys (a3x b)).length=32:=by rw[a0a,a5Y]
  have cP:=Ph c9c rfl a5m r (off:=0) (bys (a3x b)) T (by simp[Qb,T]);have aC:=Pa (t:=31) a5m a3 (off:=0) (bys (a3x b)) T ρo (a0h _);rw[a0q _ _ (by rw[T,a8])]at aC;have⟨HB,ac,cD,bz⟩:=η4 r Q a3 T;clear r Q a3 T;go_wp2;exact bodyPost_ret (a0c rfl _ _ w.heap.size 31 (bys (a3x b)) _ rfl (cD.row_ _) c9c rfl (ρy bz.o a5m)) rfl ⟨rfl,Ql (au.trans (ac.mono au.size)) (Qg _) _⟩
end
structure a1P where
 kind:Int
 sh:Int
 tx:LI
 am:Int
 why:Int
 ep:Int
structure a0Q where
 sh:Int
 ht:Int
 ep:Int
 prev:LI
 root:LI
structure a0y where
 e:a1P
 path:LL
 h:a0Q
 tag:LI
instance:Inhabited a1P:=⟨⟨0,0,[],0,0,0⟩⟩
instance:Inhabited a0Q:=⟨⟨0,0,0,[],[]⟩⟩
instance:Inhabited a0y:=⟨⟨default,[],default,[]⟩⟩
def Dig(l:LI):Prop:=l.length=32/\∀x∈l,0<=x/\x<=255
def InI(n:Int):Prop:=-9223372036854775808<=n/\n<=9223372036854775807
structure a1P.Bd(e:a1P):Prop where
 kind:InI e.kind
 sh:InI e.sh
 tx:Dig e.tx
 am:0<=e.am/\e.am<=18446744073709551615
 why:InI e.why
 ep:InI e.ep
structure a0Q.Bd(h:a0Q):Prop where
 sh:InI h.sh
 ht:InI h.ht
 ep:InI h.ep
 prev:Dig h.prev
 root:Dig h.root
structure a0y.Bd(c:a0y):Prop where
 e:c.e.Bd
 path:∀d∈c.path,Dig d
 h:c.h.Bd
 tag:Dig c.tag
def a0D(e:a1P):Bool:=decide (1<=e.kind)&&(decide (e.kind<=3)&&(decide (0<=e.sh)&&(decide (e.sh<=63)&&(decide (e.am<=4611686018427387904)&&(decide (0<=e.why)&&(decide (e.why<=63)&&(decide (0<=e.ep)&&decide (e.ep<=1099511627776))))))))
def a0w(h:a0Q):Bool:=decide (0<=h.sh)&&(decide (h.sh<=63)&&(decide (1<=h.ht)&&(decide (h.ht<=1099511627776)&&(decide (0<=h.ep)&&decide (h.ep<=1099511627776)))))
theorem b2B(e:a1P):a0D e=true↔(1<=e.kind/\e.kind<=3)/\(0<=e.sh/\e.sh<=63)/\e.am<=4611686018427387904/\(0<=e.why/\e.why<=63)/\0<=e.ep/\e.ep<=1099511627776:=by
 unfold a0D;simp only[QA,decide_eq_true_eq]
 constructor
 ·rintro⟨a,b,c,d,e,f,g,h,i⟩;exact⟨⟨a,b⟩,⟨c,d⟩,e,⟨f,g⟩,h,i⟩
 rintro⟨⟨a,b⟩,⟨c,d⟩,e,⟨f,g⟩,h,i⟩;exact⟨a,b,c,d,e,f,g,h,i⟩
theorem a3B(h:a0Q):a0w h=true↔(0<=h.sh/\h.sh<=63)/\(1<=h.ht/\h.ht<=1099511627776)/\0<=h.ep/\h.ep<=1099511627776:=by
 unfold a0w;simp only[QA,decide_eq_true_eq]
 constructor
 ·rintro⟨a,b,c,d,e,f⟩;exact⟨⟨a,b⟩,⟨c,d⟩,e,f⟩
 rintro⟨⟨a,b⟩,⟨c,d⟩,e,f⟩;exact⟨a,b,c,d,e,f⟩
def a5V(e:a1P):LI:=a0K e.kind.toNat++a0K e.sh.toNat++e.tx++a0K e.am.toNat++a0K e.why.toNat++a0K e.ep.toNat
def a2a(h:a0Q):LI:=a0K h.sh.toNat++a0K h.ht.toNat++a0K h.ep.toNat++h.prev++h.root
def a0R(b:LI):LI:=a1K 1 [b]
def a1n(a b:LI):LI:=a1K 2 [a,b]
theorem Dig.under(m:Int)(L:LL):Dig (a1K m L):=⟨a5y m L,b0Z m L⟩
theorem Dig.leaf(b:LI):Dig (a0R b):=Dig.under _ _
theorem Dig.node(a b:LI):Dig (a1n a b):=Dig.under _ _
theorem Dig.sha(b:LI):Dig (a3x b):=⟨a5Y b,c2U b⟩
theorem Dig.zero:Dig (List.replicate 32 0):=⟨by simp,λx hx=>by have:=Zf hx;omega⟩
abbrev ZZ:=@Dig.zero
def d0A(k:LI):LI:=if 64<k.length then a3x k else k
def a7V(k:LI):LI:=d0A k++List.replicate (64-(d0A k).length) 0
def a2L(y:Int)(l:LI):LI:=l.map λx=>bits .xor .u8 x y
def b0H(k b:LI):LI:=a3x (a2L 92 (a7V k)++a3x (a2L 54 (a7V k)++b))
theorem c4b(k:LI):(d0A k).length<=64:=by
 unfold d0A
 split
 ·rw[a5Y];omega
 omega
theorem b0g(k:LI):(a7V k).length=64:=by
 have:=c4b k
 unfold a7V;rw[Qa,List.length_replicate];omega
theorem Dig.mac(k b:LI):Dig (b0H k b):=Dig.sha _
def a7C(seed:LI)(sh:Int)(b:LI):LI:=b0H (b0H seed [sh]) b
def isP(seed:LI)(n:Int)(c:a0y):Bool:=
 a0D c.e&&(a0w c.h&&(decide (c.e.sh=c.h.sh)&&(decide (c.e.ep=c.h.ep)&&(decide (c.path.length=2)&&(decide (c.h.sh<n)&&
  (decide (a1n (a1n (c.path.getD 0 []) (a0R (a5V c.e))) (c.path.getD 1 [])=c.h.root)&&decide (c.tag=a7C seed c.h.sh (a2a c.h))))))))
def a6B(t:TxD)(n s:Int):Int:=((a0M (a2P t n) s).map λk=>(t.ins.getD k.toNat default).am).foldl (λa b=>IntKind.u64.wrap (a+b)) 0
def b4x(seed:LI)(t:TxD)(n:Int)(s:Int)(c:a0y):Bool:=
 isP seed n c&&(decide (c.e.kind=1)&&(decide (c.e.sh=s)&&(decide (c.e.tx=idP t)&&decide (c.e.am=a6B t n s))))
def b6w(seed:LI)(t:TxD)(n:Int):LI->List a0y->Bool
 | s::S,c::L=>b4x seed t n s c&&b6w seed t n S L
 | _,_=>true
def b6j(seed:LI)(t:TxD)(n:Int)(l:List a0y):Int:=
 if¬(1<=n/\n<=64)then 1 else if a1a t≠0 then a1a t else if l.length≠(a2V (a2P t n)).length then 27 else if b6w seed t n (a2V (a2P t n)) l then 0 else 16
def b5g(seed:LI)(t:TxD)(n:Int)(c:a0y):Bool:=
 isP seed n c&&(decide (c.e.kind=2)&&(decide (c.e.tx=idP t)&&(a2V (a2P t n)).contains c.e.sh))
def d1D(seed:LI)(t:TxD)(n:Int)(l:List a0y):Int:=
 if¬(1<=n/\n<=64)then 1 else if a1a t≠0 then a1a t else if l.length≠1 then 27 else if b5g seed t n (l.getD 0 default)then 0 else 16
theorem a9A:∀(a b:LI),a.Pairwise (· < ·)->b.Pairwise (· < ·)->(∀x,x∈a↔x∈b)->a=b
 | [],[],_,_,_=>rfl
 | [],y::b,_,_,h=>absurd ((h y).2 ρp) ρp
 | x::a,[],_,_,h=>absurd ((h x).1 ρp) ρp
 |
  x::a,y::b,ha,hb,h=>by
  obtain⟨ha1,ha2⟩:=List.pairwise_cons.1 ha;obtain⟨hb1,hb2⟩:=List.pairwise_cons.1 hb
  have hxy:x=y:=by
   have j:=(h x).1 ρp;have g:=(h y).2 ρp
   rcases Qo.1 j with e | e
   ·exact e
   rcases Qo.1 g with d | d
   ·exact d.symm
   have:=hb1 x e
   have:=ha1 y d
   omega
  subst hxy
  rw[a9A a b ha2 hb2 (λz=>by
   have f:=h z;simp only[Qo]at f
   constructor
   ·intro m
    rcases f.1 (.inr m)with e | e
    ·subst e;have:=ha1 z m;omega
    exact e
   intro m
   rcases f.2 (.inr m)with e | e
   ·subst e;have:=hb1 z m;omega
   exact e)]
theorem a4I(d:Array Int)(x:Int):∀m,x∈Lib.compactUpTo d m↔∃j,j<m/\d[j]! =x
 | 0=>by simp[Lib.compactUpTo]
 |
  m+1=>by
  rw[Lib.compactUpTo_succ,Qq,a4I d x m]
  constructor
  ·rintro(⟨j,hj,e⟩ | h)
   ·exact⟨j,by omega,e⟩
   split at h
   ·exact⟨m,by omega,(by simpa using h:x=d[m]!).symm⟩
   simp at h
  rintro⟨j,hj,e⟩
  by_cases hm:j<m
  ·exact .inl ⟨j,hm,e⟩
  obtain rfl:j=m:=by omega
  by_cases b:Lib.keeps d j=true
  ·exact .inr (by simp[b,e])
  have a:¬(j=0\/d[j]! ≠d[j-1]!):=by simpa[Lib.keeps]using b
  have g:j≠0:=λe=>a (.inl e)
  have f:d[j]! =d[j-1]! :=by
   by_cases e:d[j]! =d[j-1]!
   ·exact e
   exact absurd (.inr e) a
  exact .inl ⟨j-1,by omega,by rw[<-f,e]⟩
theorem a6r(d:Array Int)(h:∀i j,i<=j->j<d.size->d[i]! <=d[j]!):∀m,m<=d.size->(Lib.compactUpTo d m).Pairwise (· < ·)
 | 0,_=>by simp[Lib.compactUpTo]
 |
  m+1,hm=>by
  rw[Lib.compactUpTo_succ,List.pairwise_append];refine⟨a6r d h m ρo,by split<;>simp,λa ha b hb=>?_⟩
  split at hb
  ·rename_i hk
   obtain rfl:b=d[m]! :=ρw hb;obtain⟨j,hj,rfl⟩:=(a4I d a m).1 ha;have hk':m=0\/d[m]! ≠d[m-1]! :=by simpa[Lib.keeps]using hk
   have f:=h j (m-1) ρo ρo;have g:=h (m-1) m ρo ρo;have o:d[m]! ≠d[m-1]! :=hk'.resolve_left ρo;omega
  simp at hb
theorem b1H(h:l.Pairwise (· <= ·)):(Lib.compact l).Pairwise (· < ·):=by
 refine a6r l.toArray (λi j d b=>?_) l.length ρp;have a:j<l.length:=ρw b
 by_cases e:i=j
 ·subst e;exact Int.le_refl _
 have:=ZV.1 h i j ρo a ρo
 simpa[getElem!_pos,a,show i<l.length by omega]using this
theorem b5L(x:Int):x∈Lib.compact l↔x∈l:=by
 unfold Lib.compact;rw[a4I,List.mem_iff_getElem]
 constructor
 ·rintro⟨j,a,e⟩
  exact⟨j,a,by simpa[getElem!_pos,a]using e⟩
 rintro⟨j,a,e⟩;exact⟨j,a,by simpa[getElem!_pos,a]using e⟩
theorem b8z(l:LI):(a2V l).Pairwise (· < ·):=by
 unfold a2V;refine List.Pairwise.filter _ ?_;rw[Yk];exact List.pairwise_lt_range.imp (fun{a b} h=>ρo)
theorem c3l(l:LI)(x:Int):x∈a2V l↔x∈l/\0<=x/\x<64:=by
 unfold a2V;simp only[ZD,Qs,ZU,List.contains_iff_mem]
 constructor
 ·rintro⟨⟨k,a,rfl⟩,h⟩
  exact⟨h,by omega,by omega⟩
 rintro⟨h,d,b⟩;exact⟨⟨x.toNat,by omega,by omega⟩,h⟩
theorem c7c(h:∀x∈l,0<=x/\x<64):Lib.compact (l.mergeSort λx y=>decide (x<=y))=a2V l:=by
 have f:(l.mergeSort λx y=>decide (x<=y)).Pairwise (· <= ·):=
  (List.pairwise_mergeSort (le:=λ(x y:Int)=>decide (x<=y)) (λa b c j g=>by simp at*;omega) (λa b=>by simp;omega) l).imp (fun{a b} h=>by simpa using h)
 refine a9A _ _ (b1H f) (b8z l) (λx=>?_);rw[b5L,c3l,List.mem_mergeSort]
 constructor
 ·intro d
  exact⟨d,h x d⟩
 intro d;exact d.1
theorem b4i(l:LI):(a2V l).length<=64:=by
 unfold a2V;exact Qk (ZX _ _) ρp
theorem c2X:a2V []=[]:=by
 unfold a2V
 simp
theorem a3I(l:LI)(v x:Int):x∈a0M l v↔∃i:Nat,x=(i:Int)/\l[i]? =some v:=by
 unfold a0M;simp only[Qs,ZD,ZU,beq_iff_eq]
 constructor
 ·rintro⟨i,⟨hi,h⟩,rfl⟩
  exact⟨i,rfl,by rw[<-h];simp[List.getD,hi]⟩
 rintro⟨i,rfl,h⟩;obtain⟨hi,e⟩:=Qm.1 h;exact⟨i,⟨hi,by simp[List.getD,hi,e]⟩,rfl⟩
theorem b5P(v:Int):a0M [] v=[]:=rfl
theorem b5x(l:LI)(x v:Int):a0M (l++[x]) v=a0M l v++(if x=v then [(l.length:Int)]else []):=by
 unfold a0M;rw[Qa,ZB,List.range_succ,List.filter_append,QV]
 congr 1
 ·congr 1
  refine List.filter_congr (λi hi=>?_)
  have:=ZU.1 hi
  simp[List.getD,QO this]
 by_cases h:x=v
 ·subst h;simp
 simp[h]
theorem a1V(l:LI)(v:Int):(a0M l v).length<=l.length:=by
 unfold a0M;rw[Qw];exact Qk (ZX _ _) ρp
section
section
section
theorem b9w(w:WD):Calls prog 169 #[] w λe w'=>e=.returned (.slice w 8 8)/\w'=w.alloc (.cells (a2d H0).toArray 312):=by
 go_in;go_wp2;go_ret;exact⟨rfl,rfl⟩
theorem b6l(w:WD):Calls prog 170 #[] w λe w'=>e=.returned (.slice w 64 64)/\w'=w.alloc (.cells (a2d K0).toArray 312):=by
 go_in;go_wp2;go_ret;exact⟨rfl,rfl⟩
theorem Wds.blk(h:Blk w g t (a2d l).toArray):Wds w g l:=by
 refine⟨g,0,rfl,h.lt,λi hi=>?_⟩;rw[QP,h.cell i];simp[a2d,List.getD,hi]
attribute [local go_sem ↓] a2t a2s a2n
theorem b3g(A:OA)(c:Nat)(a:A=none->c=0)(b:LI)(w:WD)(d:Byt w A b)(f:b.length<=100000000):Calls prog 102 #[.slice A b.length c] w λe w'=>e=.returned (.agg (bys (a3x b)).toArray)/\Below w w w':=by
 obtain⟨z,y,m⟩:=Q8.1 b9C;have F:=Pc (t:=31) z y w;have⟨Z,hZ⟩:=η0 z.cells;rw[hZ]at F m;have D:Z.size=32:=by rw[<-QD,m];rfl
 have N:=Qd w 31 Z;have O:=ρb w (.cells Z 31);have j:(w.alloc (.cells Z 31)).heap.size=w.heap.size+1:=by simp
 generalize hW:w.alloc (.cells Z 31)=W at F N O j
 have⟨HB,H,B,HS,HZ⟩:=η5 d N O j D
 generalize hn:b.length=n
 have HN:=η1 hn;clear d N O j y m hZ hW D hn;go_in;go_wp2_with fail;with_reducible refine(b9w W).mono ?_
 rintro e w1 ⟨rfl,rfl⟩;have b1:=Qd W 312 (a2d H0).toArray;have S:=ρb W (.cells (a2d H0).toArray 312);have p:(W.alloc (.cells (a2d H0).toArray 312)).heap.size=W.heap.size+1:=by simp
 generalize hX:W.alloc (.cells (a2d H0).toArray 312)=X at b1 S p⊢
 have⟨H1,T,aa⟩:=η3 b1 S p;clear hX b1 S p;go_wp2_with fail;with_reducible refine(b6l X).mono ?_
 rintro e w2 ⟨rfl,rfl⟩;have R:=Qd X 312 (a2d K0).toArray;have U:=ρb X (.cells (a2d K0).toArray 312);have b1:=H1.alloc (.cells (a2d K0).toArray 312)
 generalize hY:X.alloc (.cells (a2d K0).toArray 312)=Y at R U b1⊢
 have E:Below W W Y:=φt T U;have⟨H2,x,I⟩:=η3 R E b1;clear hY R U E b1;go_wp2_with fail;have v:=c3Y A c a b W X 8 64 Y ((HB.below B).below x) f (Wds.blk I) (Wds.blk H2);rw[HN.o]at v;refine μi v ?_;intro V G;have r:Below W W V:=φt x G;have o:Blk V w.heap.size 31 Z:=φf H r;have g:(bys (a3x b)).length=32:=by rw[a0a,a5Y]
 have J:=Pa (t:=31) a5m o (off:=0) (bys (a3x b)) g (by rw[HZ.o];omega) (a0h _);rw[a0q _ _ (by rw[g,HZ.o])]at J;have⟨Q,K,HL⟩:=η3 r o g;clear v G r o g;go_wp2;exact bodyPost_ret (a0c rfl _ _ w.heap.size 31 (bys (a3x b)) _ rfl (K.row_ _) c9c rfl (ρy HL.o a5m)) rfl ⟨rfl,Ql (B.trans (Q.mono (ρh HS.o))) (Qg _) _⟩
attribute [local go_sem ↓] a3n
end
end
section
section
attribute [local go_sem ↓] a3n d0s
theorem b3d{B':Nat}{m:LI}(h:a0N B w v l)(b:a0N B' w (.slice A m.length c) m)(d:∀x∈m,0<=x/\x<=255)(a:l.length+m.length<=1000000000)(f:B<=w.heap.size):∃v' w',(APs #[22,22] ty #[v,.slice A m.length c]).run prog w=.ok v' w'/\a0N B w' v' (l++m)/\Fr (λk=>v.ownBlock=some k) w w'/\a7W w v v':=by
 obtain⟨z,r,e,p,_,y⟩:=b.byt d;simp only[Value.slice.injEq,true_and]at e;obtain⟨rfl,rfl⟩:=e;refine c3v h p (Qk a ρo) f (λe=>?_);subst e;obtain⟨_,⟨j,_⟩ | ⟨g,cap,o,j,_⟩⟩:=b
 ·simp only[Value.slice.injEq]at j
  exact j.2.2
 simp at j
theorem a0N.nul(h:a0N B w (.slice none n c) l):c=0:=by
 obtain⟨_,⟨a,_⟩ | ⟨g,cap,b,a,_⟩⟩:=h
 ·simp only[Value.slice.injEq]at a
  exact a.2.2
 simp at a
end
end
end
def inV(i:InD)(A:OA)(c:Nat):LV:=ptL i.tx i.ix++[.int .u64 i.am,.slice A i.sec.length c]
theorem a3l{i:InD}(h:i.Bd)(A:OA)(c:Nat):(inV i A c).length=35:=by
 simp[inV,a1x h.len]
theorem a2p(tx:LI)(ix:Int):∀v∈ptL tx ix,v.oneCell'=true:=by
 intro v a
 rcases Qq.1 a with h | h
 ·exact a0h _ v h
 simp only[Qn]at h;subst h;rfl
theorem a8W(i:InD)(A:OA)(c:Nat):∀v∈inV i A c,v.oneCell'=true:=by
 intro v a
 rcases Qq.1 a with h | h
 ·exact a2p _ _ v h
 simp only[Qo,Qt,or_false]at h
 rcases h with rfl | rfl<;>rfl
def a1s(o:a1q):LV:=bys o.ow++[.int .u64 o.am]
theorem a0G{o:a1q}(h:o.Bd):(a1s o).length=33:=by simp[a1s,a0a,h.len]
theorem a1O(o:a1q):∀v∈a1s o,v.oneCell'=true:=by
 intro v a
 rcases Qq.1 a with h | h
 ·exact a0h _ v h
 simp only[Qn]at h;subst h;rfl
structure d1B(w:WD)(g o:Nat)(A:OA)(c:Nat)(i:InD):Prop where
 cell:∀j x,(inV i A c)[j]? =some x->w.cell? ⟨g,o+j,none⟩=some x
 sec:Byt w A i.sec
 cap:i.sec.length<=c
 nul:A=none->c=0
 max:i.sec.length<=maxLen
def b4z(w:WD)(A:OA)(l:List InD):Prop:=∀j (h:j<l.length),∃g off B c,A=some ⟨g,off,none⟩/\g<w.heap.size/\d1B w g (off+j*35) B c l[j]
def b4c(w:WD)(A:OA)(l:List a1q):Prop:=∀j (h:j<l.length),∃g off,A=some ⟨g,off,none⟩/\g<w.heap.size/\∀k x,(a1s l[j])[k]? =some x->w.cell? ⟨g,off+j*33+k,none⟩=some x
theorem d1B.below{w a:WD}{g o:Nat}{A:OA}{c:Nat}{i:InD}(h:d1B w g o A c i)(d:g<w.heap.size)(b:Below w w a):d1B a g o A c i:=
 ⟨λj x hx=>(b.cell (p:=⟨g,o+j,none⟩) d).trans (h.cell j x hx),h.sec.below b,h.cap,h.nul,h.max⟩
theorem b4z.below{w a:WD}{A:OA}{l:List InD}(h:b4z w A l)(b:Below w w a):b4z a A l:=λj hj=>by
 obtain⟨g,off,B,c,e,hg,hi⟩:=h j hj;exact⟨g,off,B,c,e,Qh hg b.size,hi.below hg b⟩
theorem b4c.below{l:List a1q}(h:b4c w A l)(b:Below w w a):b4c a A l:=λj hj=>by
 obtain⟨g,off,e,hg,hi⟩:=h j hj;exact⟨g,off,e,Qh hg b.size,λk x hx=>(b.cell (p:=⟨g,off+j*33+k,none⟩) hg).trans (hi k x hx)⟩
def txV(A1:OA)(c1:Nat)(A2:OA)(c2:Nat)(t:TxD):AV:=#[.slice A1 t.ins.length c1,.slice A2 t.outs.length c2,.int .u64 t.fee,.int .i64 t.exp]
structure a9H(w:WD)(A1 A2:OA)(t:TxD):Prop where
 ins:b4z w A1 t.ins
 outs:b4c w A2 t.outs
 bd:t.Bd
theorem a9H.below{w a:WD}{b d:OA}{t:TxD}(h:a9H w b d t)(f:Below w w a):a9H a b d t:=⟨h.ins.below f,h.outs.below f,h.bd⟩
abbrev a6W:=ldOf 191
abbrev a8U:=stOf 191
abbrev a9c:=alOf 191
abbrev a9R:=ldOf 56
abbrev b0o:=stOf 56
abbrev b0b:=alOf 56
abbrev a1F:=ldOf 189
theorem uIn:(prog.underlying 191).map a1f=some true:=ρk
theorem iIn:(prog.info? 191).map (·.size)=some 35:=ρk
theorem zIn:(((prog.info? 191).bind (·.zero)).map (·.cells.size))=some 35:=ρk
theorem d1I:(prog.underlying 56).map a1f=some true:=ρk
theorem c6h:(prog.info? 56).map (·.size)=some 33:=ρk
theorem d1w:(((prog.info? 56).bind (·.zero)).map (·.cells.size))=some 33:=ρk
theorem uPt:(prog.underlying 189).map a1f=some true:=ρk
theorem iPt:(prog.info? 189).map (·.size)=some 33:=ρk
theorem a2e{P:PG}{t:TI}{n:Nat}(a:(P.underlying t).map a1f=some true)(hi:(P.info? t).map (·.size)=some n)(w:WD)(g off:Nat)(xs:LV)(b:xs.length=n) (hc:∀j v,xs[j]? =some v->w.cell? ⟨g,off+j,none⟩=some v):(LDs t (.pointer (some ⟨g,off,none⟩))).run P w=.ok (.agg xs.toArray) w:=by
 obtain⟨d,m,f⟩:=Q8.1 a;exact a3R w t d n m f hi g off xs b hc
abbrev Pf:=@a2e prog
theorem a0g{P:PG}{t:TI}{n:Nat}(a:(P.underlying t).map a1f=some true)(hi:(P.info? t).map (·.size)=some n){w:WD}{g off:Nat}{e:TI}{cs:AV}(b:Blk w g e cs)(xs:LV)(f:xs.length=n) (hx:(cs.toList.drop off).take n=xs):(LDs t (.pointer (some ⟨g,off,none⟩))).run P w=.ok (.agg xs.toArray) w:=by
 obtain⟨d,m,j⟩:=Q8.1 a;exact a6R m j hi b xs f hx
abbrev P6:=@a0g prog
theorem c6l{P:PG}{t:TI}{n:Nat}(hi:(P.info? t).map (·.size)=some n)(a:(((P.info? t).bind (·.zero)).map (·.cells.size))=some n):∃ Z:AV,(∀W:WD,(ALs t).run P W=.ok (.pointer (some ⟨W.heap.size,0,none⟩)) (W.alloc (.cells Z t)))/\∀(W:WD) (xs:LV),xs.length=n->(∀v∈xs,v.oneCell'=true)->(STs t (.pointer (some ⟨W.heap.size,0,none⟩)) (.agg xs.toArray)).run P (W.alloc (.cells Z t))=.ok () (W.alloc (.cells xs.toArray t)):=by
 obtain⟨z,b,f⟩:=Q8.1 a;exact⟨z.cells,λW=>a0U z b W,λW xs d b=>a7S hi W _ f xs d b⟩
abbrev Pg:=@c6l prog
theorem a7q(n lo hi:Int)(w:WD):Calls prog 242 #[.int .i64 n,.int .i64 lo,.int .i64 hi] w λe w'=>e=.returned (.bool (decide (lo<=n/\n<=hi)))/\w'=w:=by
 by_cases a:lo<=n
 ·by_cases b:n<=hi
  ·have hd:decide (lo<=n/\n<=hi)=true:=by simp[a,b]
   rw[hd];clear hd;go_in;go_wp2;go_ret;exact⟨rfl,rfl⟩
  have hd:decide (lo<=n/\n<=hi)=false:=by simp[b]
  rw[hd];clear hd;go_in;go_wp2;go_ret;exact⟨rfl,rfl⟩
 have hd:decide (lo<=n/\n<=hi)=false:=by simp[a]
 rw[hd];clear hd;go_in;go_wp2;go_ret;exact⟨rfl,rfl⟩
theorem c0b(i:InD)(a:i.Bd)(A:OA)(c:Nat)(w:WD):Calls prog 244 #[.agg (inV i A c).toArray] w λe w'=>e=.returned (.bool (a7J i))/\Below w w w':=by
 have d:=Qd w 191 (inV i A c).toArray;have f:=ρb w (.cells (inV i A c).toArray 191);have⟨W,b⟩:=η0 (w.alloc (.cells (inV i A c).toArray 191));have⟨g,j⟩:=ηs w;rw[b,j]at d;rw[b]at f
 have z:W.cell? ⟨g,32,none⟩=some (.int .i64 i.ix):=by
  rw[d.cell 32];simp[inV,ptL,a0a,a.len]
 have m:W.cell? ⟨g,34,none⟩=some (.slice A i.sec.length c):=by
  rw[d.cell 34];simp[inV,ptL,a0a,a.len]
 have o:=a7q i.ix 0 15 W;have⟨r,p,v⟩:=η3 b j f;unfold a7J;clear b j f d a
 generalize B:i.sec.length=n at m⊢
 clear B
 by_cases h:64<n
 ·have x:(64:Int)<(n:Int):=ρo
  have hd:decide (64<n)=true:=by simp[h]
  rw[hd,Bool.true_or];clear hd;go_in;go_upto_region 1 with fail
  rw[r.o,p.o];go_wp2;go_ret;exact⟨rfl,v.o⟩
 have x:¬(64:Int)<(n:Int):=ρo;have hd:decide (64<n)=false:=by simp[h]
 rw[hd,Bool.false_or]
 generalize y:decide ((0:Int)<=i.ix/\i.ix<=15)=R at o⊢
 clear hd y;go_in;go_upto_region 1 with fail
 rw[r.o,p.o];go_wp2_with fail;refine μf o ?_;go_wp2;go_ret;exact⟨rfl,v.o⟩
structure InW where
 i:InD
 bd:i.Bd
 A:OA
 c:Nat
instance:Inhabited InW:=⟨⟨⟨List.replicate 32 0,0,0,[]⟩,⟨by simp,by intro x hx;have:=Zf hx;omega,by simp,by simp,by simp⟩,none,0⟩⟩
theorem b4z.rows{l:List InD}(h:b4z w A l)(a:∀i∈l,i.Bd)(b:0<l.length):∃g off,A=some ⟨g,off,none⟩/\g<w.heap.size/\∃zs:List InW,zs.map (·.i)=l/\∀j,j<zs.length->∀k v,(inV zs[j]!.i zs[j]!.A zs[j]!.c)[k]? =some v->w.cell? ⟨g,off+j*35+k,none⟩=some v:=by
 obtain⟨g,off,_,_,rfl,D,_⟩:=h 0 b;refine⟨g,off,rfl,D,?_⟩
 have m:∀j:Nat,∃z:InW,∀d:j<l.length,z.i=l[j]/\∀k v,(inV z.i z.A z.c)[k]? =some v->w.cell? ⟨g,off+j*35+k,none⟩=some v:=by
  intro j
  by_cases d:j<l.length
  ·obtain⟨G,r,B,c,e,_,hi⟩:=h j d
   cases e
   exact⟨⟨l[j],a _ (Qu d),B,c⟩,λ_=>⟨rfl,λk v p=>hi.cell k v p⟩⟩
  exact⟨default,λE=>absurd E d⟩
 obtain⟨f,x⟩:=Classical.skolem.1 m;refine⟨(List.range l.length).map f,?_,λj d k v p=>?_⟩
 ·apply ZE
  ·simp
  intro j F y
  simpa using(x j y).1
 have o:j<l.length:=ρw d;have e:((List.range l.length).map f)[j]! =f j:=by simp[getElem!_pos,o]
 rw[e]at p;exact(x j o).2 k v p
theorem aIn(w:WD):(isAgg 191).run prog w=.ok true w:=ρk
theorem sIn(w:WD):(Go.sizeOf 191).run prog w=.ok 35 w:=ρk
theorem d0H(A:OA)(c:Nat)(l:List InD)(a:∀i∈l,i.Bd)(w:WD)(h:b4z w A l)(b:0<l.length)(d:l.length<=1000000000):Calls prog 243 #[.slice A l.length c,.func (.func 244) #[] #[]] w λe w'=>e=.returned (.bool (l.any a7J))/\Below w w w':=by
 obtain⟨g,off,rfl,o,f,rfl,p⟩:=h.rows a b;have r:(f.map (·.i)).length=f.length:=by simp
 rw[r]at d⊢
 have:=AnyQ.slices_ContainsFunc Tryz.laysCF 35 aIn sIn (λz:InW=>inV z.i z.A z.c) (λz=>a3l z.bd z.A z.c) (λz=>a7J z.i) 244 #[]
  (enters_of func244 ρk rfl) g off f.length c f w
  (λW x m=>(c0b x.i x.bd x.A x.c W).mono (λe w' j=>⟨j.1,m.trans (j.2.mono m.size)⟩)) (Qg _) ρo o p
 rw[ZF]at this;rw[List.any_map];exact this
theorem b8I(a:OA)(b:Nat)(d:OA)(f:Nat)(t:TxD)(w:WD)(h:a9H w a d t)(j:t.ins.length<=1000000000):Calls prog 195 #[.agg (txV a b d f t)] w λe w'=>e=.returned (.bool (b1z t))/\Below w w w':=by
 obtain⟨ins,outs,fee,exp⟩:=t;have D:=Qd w 53 (txV a b d f ⟨ins,outs,fee,exp⟩);have K:=ρb w (.cells (txV a b d f ⟨ins,outs,fee,exp⟩) 53);have o:=λT:0<ins.length=>d0H a b ins h.bd.ins _ (h.ins.below K) T j
 have⟨W,z⟩:=η0 (w.alloc (.cells (txV a b d f ⟨ins,outs,fee,exp⟩) 53));have⟨g,N⟩:=ηs w;rw[z]at o;rw[z,N]at D;rw[z]at K;have q0:W.cell? ⟨g,0,none⟩=some (.slice a ins.length b):=D.cell 0;have q1:W.cell? ⟨g,1,none⟩=some (.slice d outs.length f):=D.cell 1;have X:W.cell? ⟨g,3,none⟩=some (.int .i64 exp):=D.cell 3;have r:=a7q (ins.length:Int) 1 16 W;have y:=a7q (outs.length:Int) 1 16 W;have G:=a7q exp 0 1099511627776 W;unfold txV at z⊢;unfold b1z;simp only at z⊢;have⟨v,H,I⟩:=η3 z N K;clear z N K D h j;have S:decide ((1:Int)<=(ins.length:Int)/\(ins.length:Int)<=16)=decide (1<=ins.length/\ins.length<=16):=by rw[decide_eq_decide];omega
 have Q:decide ((1:Int)<=(outs.length:Int)/\(outs.length:Int)<=16)=decide (1<=outs.length/\outs.length<=16):=by rw[decide_eq_decide];omega
 rw[S]at r;rw[Q]at y;clear S Q
 by_cases J:1<=ins.length/\ins.length<=16
 ·have o:=o ρo
  have m:decide (1<=ins.length/\ins.length<=16)=true:=ρw J;rw[m]at r⊢;clear m J
  generalize U:ins.any a7J=R at o⊢
  clear U
  generalize p:ins.length=V at o q0 r v⊢
  clear p
  by_cases E:1<=outs.length/\outs.length<=16
  ·have m:decide (1<=outs.length/\outs.length<=16)=true:=ρw E
   rw[m]at y⊢;clear m E
   generalize B:outs.length=n2 at q1 y v⊢
   clear B
   by_cases F:0<=exp/\exp<=1099511627776
   ·have m:decide (0<=exp/\exp<=1099511627776)=true:=ρw F
    rw[m]at G⊢;clear m F;rw[show(!true||(!true||(!true||R)))=R from rfl];go_in;go_upto_region 1 with fail
    rw[v.o,H.o];go_wp2_with fail;refine μf r ?_;go_wp2_with fail;refine μf y ?_;go_wp2_with fail;refine μf G ?_;go_wp2_with fail;refine μi o ?_;intro w' P;have O:=η1 (φt I P);clear P;go_wp2;go_ret;exact⟨rfl,O.o⟩
   have m:decide (0<=exp/\exp<=1099511627776)=false:=ρw F;rw[m]at G⊢;clear m F;rw[show(!true||(!true||(!false||R)))=true from rfl];go_in;go_upto_region 1 with fail
   rw[v.o,H.o];go_wp2_with fail;refine μf r ?_;go_wp2_with fail;refine μf y ?_;go_wp2_with fail;refine μf G ?_;go_wp2;go_ret;exact⟨rfl,I.o⟩
  have m:decide (1<=outs.length/\outs.length<=16)=false:=ρw E;rw[m]at y⊢;clear m E
  generalize B:outs.length=n2 at q1 y v⊢
  clear B;rw[show∀x:Bool,(!true||(!false||x))=true from λ_=>rfl];go_in;go_upto_region 1 with fail
  rw[v.o,H.o];go_wp2_with fail;refine μf r ?_;go_wp2_with fail;refine μf y ?_;go_wp2;go_ret;exact⟨rfl,I.o⟩
 have m:decide (1<=ins.length/\ins.length<=16)=false:=ρw J;rw[m]at r⊢;clear m J o;have⟨V,p⟩:=η0 ins.length;rw[p]at q0 r v;rw[p];clear p;rw[show∀x:Bool,(!false||x)=true from λ_=>rfl];go_in;go_upto_region 1 with fail
 rw[v.o,H.o];go_wp2_with fail;refine μf r ?_;go_wp2;go_ret;exact⟨rfl,I.o⟩
section
open Go.RowKit Go.Shelf Go.Sort
def a8x(B:Nat)(w:WD)(v:VL)(l:LI):Prop:=a2X 3 .i64 B w v l
theorem b4q{α:Type}[Inhabited α](enc:α->VL)(w:WD)(blk off:Nat)(d:Array α):Fr (λk=>k=blk) w (putRow enc w blk off d):=
 ⟨rfl,rfl,rfl,by simp[putRow,mapBlock],λk hk hne=>by
  have:blk≠k:=λe=>hne e.symm
  simp[putRow,mapBlock,Array.getElem?_modify,this]⟩
theorem b4Y{F:Nat->Prop}(h:Fr F (Sort.ahead w n) a):Fr F w a:=⟨h.os,h.tape,h.output,h.size,h.block⟩
theorem c8Y{F:Nat->Prop}(h:Fr F w a)(os:Array Obj):Fr F w (grow a os):=
 ⟨h.os,h.tape,h.output,by have:=h.size;simp[grow];omega,λk hk hn=>by
  rw[heap_grow_old a os (Qh hk h.size)];exact h.block k hk hn⟩
theorem b8i(B:Nat)(A:OA)(N c:Nat)(l:LI)(w:WD)(h:a8x B w (.slice A N c) l)(a:∀x∈l,0<=x/\x<64)(b:l.length<=1000000):Calls prog 208 #[.slice A N c] w λe w'=>∃A' c',e=.returned (.slice A' (a2V l).length c')/\RdW .i64 w' A' (a2V l)/\Fr (λk=>(Value.slice A N c).ownBlock=some k) w w':=by
 rcases Zq l.length with G | G
 ·obtain rfl:l=[]:=Zv.1 G
  obtain⟨A2,c2,e⟩:=h.form;simp only[Value.slice.injEq,Qv]at e;obtain⟨rfl,rfl,rfl⟩:=e;have z:=Any.slices_Sort_int_none Tryz.laysSo A c w;have s2:=Any.slices_Compact_int_empty Tryz.laysCo A c w;rw[c2X];clear h G a;have T:Calls prog 250 #[.slice A 0 c] w λe w'=>e=.returned (.tuple #[])/\w'=w:=z
  have W:Calls prog 251 #[.slice A 0 c] w λe w'=>e=.returned (.slice A 0 c)/\w'=w:=s2
  clear z s2;go_in;go_wp2_with fail;refine μf T ?_;go_wp2_with fail;refine μ1 W ?_;rintro e w' ⟨rfl,rfl⟩;go_wp2;go_ret;exact⟨_,_,rfl,RdW.nil _ _ _,Qp _ _⟩
 obtain⟨g,cap,e,H,ab,U,d⟩:=h.cells G;simp only[Value.slice.injEq]at e;obtain⟨rfl,rfl,rfl⟩:=e
 have Z:Holds (Value.int .i64) w g 0 l.toArray:=λj hj=>by
  have I:j<l.length:=ρw hj;obtain⟨e1,e2⟩:=d j I;rw[QP];exact⟨by rw[e1];simp[getElem!_pos,I,List.getD],e2⟩
 have z:Calls prog 250 #[.slice g l.length c] w λe w'=>e=.returned (.tuple #[])/\∃n os,w'=grow (putRow (Value.int .i64) (Sort.ahead w n) g 0 (l.mergeSort λx y=>decide (x<=y)).toArray) os:=
  Any.slices_Sort_int Tryz.laysSo g 0 c l w Z U ρo
 have⟨m,hm⟩:=η0 ((l.mergeSort λx y=>decide (x<=y)));have p:m.length=l.length:=by rw[<-hm];exact List.length_mergeSort l
 have r:=c7c a;rw[hm]at z r
 have s2:∀o,Holds (Value.int .i64) o g 0 m.toArray->Calls prog 251 #[.slice g l.length c] o λe w'=>e=.returned (.slice g (a2V l).length c)/\∃q,w'=putRow (Value.int .i64) (Sort.ahead o q) g 0 (a2V l++List.replicate (l.length-(a2V l).length) 0).toArray:=λo f=>by
  have:=Any.slices_Compact_int Tryz.laysCo g 0 c m o f ρo ρo
  rw[r,p]at this;exact this
 have Q:(a2V l).length<=l.length:=by rw[<-r,<-p];exact Lib.compact_length_le m
 have⟨n,hn⟩:=η0 l.length
 generalize hE:a2V l=E at s2 Q⊢
 rw[hn]at z s2 Q;have⟨HH,X,F,HN⟩:=η4 Z s2 p hn;clear Z d h a hm r p hE H s2 hn G b;rw[HN.o];go_in;go_wp2_with fail;refine μ1 z ?_;rintro e o ⟨rfl,k,os,D⟩
 have f:Holds (Value.int .i64) o g 0 m.toArray:=by
  rw[D];refine holds_grow _ _ _ _ _ _ (by simpa[putRow,mapBlock]using U) ?_;exact holds_putRow _ _ _ _ l.toArray m.toArray (holds_ahead _ _ _ _ _ _ HH.o) (by simp[F.o])
 have P:Fr (λj=>j=g) w o:=by
  rw[D];exact c8Y (b4Y (b4q _ _ _ _ _)) os
 have K:=X.o o f;have⟨Y,R⟩:=η2 f P;clear D f P z;go_wp2_with fail;refine μ1 K ?_;rintro e w2 ⟨rfl,q,v⟩
 have O:Fr (λj=>j=g) o w2:=by
  rw[v];exact b4Y (b4q _ _ _ _ _)
 have S:Holds (Value.int .i64) w2 g 0 (E++List.replicate (n-E.length) 0).toArray:=by
  rw[v];exact holds_putRow _ _ _ _ m.toArray _ (holds_ahead _ _ _ _ _ _ Y.o) (by have:=F.o;have:=HN.o;simp;omega)
 have⟨V,J⟩:=η2 S O;clear v O S K;go_wp2;go_ret;refine⟨_,_,rfl,λ_=>⟨g,0,rfl,Qh U (Qk R.size J.size),λj x hx=>?_⟩,?_⟩
 ·obtain⟨hj,hx⟩:=Qm.1 hx
  have:=(V.o j (by simp;omega)).1
  rw[this];have aa:j<(E++List.replicate (n-E.length) 0).length:=by simp;omega
  have e:(E++List.replicate (n-E.length) 0).toArray[j]! =x:=by
   rw[getElem!_pos _ _ (ρw aa)];simp only[List.getElem_toArray];rw[ZK hj,hx]
  rw[e]
 exact(R.trans J.o (λk _ e=>e)).mono (λk _ e=>by subst e;rfl)
end
section
section
attribute [local go_sem ↓] a2t a2s a2n a3n a3w
theorem a3E(tx:LI)(a:tx.length=32)(b:∀x∈tx,0<=x/\x<=255)(w:WD):Calls prog 73 #[.agg (bys tx).toArray] w λe w'=>∃v,e=.returned v/\a0N w w' v tx/\Below w w w':=by
 have G:=Qd w 31 (bys tx).toArray;have K:=ρb w (.cells (bys tx).toArray 31)
 generalize R:w.alloc (.cells (bys tx).toArray 31)=W at G K
 have⟨g,r⟩:=ηs w;rw[r]at G;have⟨HW,H,Z,m,V,P⟩:=η6 R G K a b r;clear R G K a b r;go_in;go_upto_region 1 with fail
 rw[HW.o,P.o];go_wp2_with fail;go_loopg [3,4] 32 (λU v t wr=>∃(i:Nat) (A:OA) (c:Nat),i+U=32/\t=.int .i64 i/\v=.slice A i c/\a0N w wr v (tx.take i)/\Below w w wr/\Blk wr g 31 (bys tx).toArray);exact⟨0,none,0,by omega,rfl,rfl,by simpa using a0N.nil _ _,Z.o,H.o⟩;obtain⟨i,A,c,hi,rfl,rfl,p,z,d⟩:=hrel
 by_cases J:i<32
 ·have B:(i:Int)<32:=ρo
  have y:i<tx.length:=by rw[m.o];exact J
  have E:=V.o _ (Qu y);have f:tx.take (i+1)=tx.take i++[tx[i]]:=Qe y
  have I:wr.cell? ⟨g,i,none⟩=some (.int .u8 tx[i]):=by
   rw[d.cell i];simp only[QE];rw[a3J,QN y]
   rfl
  have⟨x,T⟩:=η0 (tx[i]);rw[T]at E f I;obtain⟨v',w',X,j,N,_⟩:=a3P (ty:=22) p E (by rw[Qx];omega) z.size;obtain⟨A2,Y,S⟩:=j.form;rw[<-f,Qx,m.o,QY ρo]at S;subst S;rw[<-f]at j;have D:Below w w w':=z.trans (N.below z.size (λk hk e=>by have:=(p.lt e).1;omega));have F:=d.fr N (λe=>a2D p d ρd e);have⟨O,o,Q⟩:=η3 j D F;clear p z d j N D F f T;go_wp2;go_roundg (32-(i+1));exact⟨i+1,A2,Y,by omega,by go_num,rfl,O.o,o.o,Q.o⟩;omega
 obtain rfl:i=32:=ρo;have B:¬(((32:Nat):Int)<32):=ρo;rw[Qb (by rw[m.o];exact Qg _)]at p;have⟨O,o⟩:=η2 p z;clear p z d;go_wp2;go_ret;exact⟨_,rfl,O.o,o.o⟩
end
end
theorem b7q{α β:Type}(f:α->Option β)(g:α->β):∀l:List α,(∀x∈l,f x=some (g x))->l.mapM f=some (l.map g)
 | [],_=>rfl
 |
  x::l,h=>by
  rw[Zg,h x ρp,b7q f g l (λy hy=>h y (by simp[hy]))]
  rfl
theorem d2g:∃f0 f1:Field,prog.underlying 189=some (.struct #[f0,f1])∧f0.type=31∧f1.type=3∧f0.offset=0∧f1.offset=32∧f0.name≠ "_" ∧f1.name≠ "_" :=
 ⟨_,_,Tryz.underlying189,rfl,rfl,rfl,rfl,by decide,by decide⟩
theorem uId:prog.underlying 31=some (.array 32 5):=ρk
theorem c9F:prog.underlying 3=some (.int .i64):=ρk
theorem cId:prog.cellsOf 31=32:=ρk
theorem cU8:prog.cellsOf 5=1:=ρk
theorem d1H:prog.cellsOf 3=1:=ρk
theorem cPt:prog.cellsOf 189=33:=ρk
theorem d2m(h:0<=x/\x<=255):(Lit.int .u8 x).wf=true:=by
 simp only[Lit.wf];rw[show IntKind.u8.min=0 from rfl,show IntKind.u8.max=255 from rfl];simp[h]
theorem b6L(h:-9223372036854775808<=x/\x<=9223372036854775807):(Lit.int .i64 x).wf=true:=by
 simp only[Lit.wf];rw[show IntKind.i64.min=-9223372036854775808 from rfl,show IntKind.i64.max=9223372036854775807 from rfl];simp[h]
theorem c8a(d:Nat)(h:0<=x/\x<=255):prog.keyLits (d+1) 5 [.int .u8 x]=some [.int .u8 x]:=by
 unfold Program.keyLits;simp[d2m h]
theorem a4t(d:Nat)(h:-9223372036854775808<=x/\x<=9223372036854775807):prog.keyLits (d+1) 3 [.int .i64 x]=some [.int .i64 x]:=by
 unfold Program.keyLits;simp[b6L h]
theorem a6a(d:Nat)(a:tx.length=32)(b:∀x∈tx,0<=x/\x<=255):prog.keyLits (d+2) 31 (bys tx)=some (tx.map (Lit.int .u8)):=by
 have e:(List.range 32).mapM (λi=>prog.keyLits (d+1) 5 (((bys tx).drop (i*1)).take 1))=some ((List.range 32).map λi=>[Lit.int .u8 (tx.getD i 0)]):=by
  refine b7q _ _ _ (λi hi=>?_);have f:i<tx.length:=by have:=ZU.1 hi;omega
  have:((bys tx).drop (i*1)).take 1=[.int .u8 (tx.getD i 0)]:=by
   rw[Nat.mul_one,List.drop_eq_getElem_cons (by simpa[a0a]using f)];simp[bys,List.getD,f]
  rw[this]
  exact c8a d (by
   have:tx.getD i 0=tx[i]:=by simp[List.getD,f]
   rw[this];exact b _ (Qu f))
 unfold Program.keyLits;simp only[uId];rw[if_pos (by rw[cId,a0a,a]),cU8,e];simp only[Option.map_some,Option.some.injEq]
 apply List.ext_getElem?
 intro j
 have m:((List.range 32).map λi=>[Lit.int .u8 (tx.getD i 0)]).flatten=(List.range 32).map λi=>Lit.int .u8 (tx.getD i 0):=by
  rw[<-List.flatMap_def]
  induction (List.range 32)with
  | nil=>rfl
  | cons x l p=>rw[List.flatMap_cons,p];rfl
 rw[m];simp only[ZJ]
 by_cases o:j<32
 ·have g:j<tx.length:=ρo
  rw[List.getElem?_range o];simp[List.getD,g]
 rw[ZL (by simp;omega),ZL ρo]
 rfl
def ptK(tx:LI)(ix:Int):Lit:=.string (keyBytes (tx.map (Lit.int .u8)++[.int .i64 ix]))
theorem b9q:Go.WideMaps.KeyLaw prog 189:=deep_law_laid ρk (m:=4) ρo (of_decide_eq_true ρk) ρk (by obtain⟨f0,f1,h,_⟩:=d2g;rw[h])
theorem d1v{ix:Int}(a:tx.length=32)(b:∀x∈tx,0<=x/\x<=255)(d:-9223372036854775808<=ix/\ix<=9223372036854775807):keyOf prog 189 (.agg (ptL tx ix).toArray)=some (ptK tx ix):=by
 obtain⟨B,z,f,t0,t1,p,w,y,r⟩:=d2g;have o:prog.keyType 189=true:=ρk;obtain⟨m,g⟩:∃m,prog.types.size=m+2:=⟨prog.types.size-2,by have:2<=prog.types.size:=of_decide_eq_true ρk;omega⟩;unfold keyOf;simp only[f];rw[if_pos (by rw[o];simp[Value.formed,f,cPt,a1x a]),g];unfold Program.keyLits;simp only[f,Value.cells]
 have j:((ptL tx ix).drop 0).take 32=bys tx:=by
  rw[Zs];unfold ptL;rw[QJ (by rw[a0a];omega),Qb (by rw[a0a];omega)]
 have v:((ptL tx ix).drop 32).take 1=[.int .i64 ix]:=by
  unfold ptL;rw[Zw (by rw[a0a];omega),QQ (by rw[a0a];omega)]
  rfl
 rw[if_pos ⟨by rw[cPt];exact a1x a ix,by simp[y,r]⟩];rw[Zg,Zg,List.mapM_nil,t0,t1,p,w,cId,d1H,j,v,a6a _ a b,a4t _ d];simp[ptK]
theorem c9w:prog.underlying 362=some (.map 189 3):=ρk
theorem d2Z(w:WD):(zeroValue 3).run prog w=.ok (.int .i64 0) w:=ρk
theorem a7B:Keyed prog 189:=Keyed.of_law b9q
structure a6l(p:LI×Int):Prop where
 len:p.1.length=32
 tx:∀x∈p.1,0<=x/\x<=255
 ix:-9223372036854775808<=p.2/\p.2<=9223372036854775807
theorem a6l.key{p:LI×Int}(h:a6l p):keyOf prog 189 (.agg (ptL p.1 p.2).toArray)=some (ptK p.1 p.2):=d1v h.len h.tx h.ix
theorem c2H{p q:LI×Int}(d:a6l p)(f:a6l q)(h:(Value.agg (ptL p.1 p.2).toArray)=.agg (ptL q.1 q.2).toArray):p=q:=by
 have e:ptL p.1 p.2=ptL q.1 q.2:=ρw h;unfold ptL at e;obtain⟨g,o⟩:=List.append_inj e (by rw[a0a,a0a,d.len,f.len])
 have j:p.1=q.1:=by
  unfold bys at g;exact(List.map_inj_right (λa b h=>by simpa using h)).1 g
 have m:p.2=q.2:=ρw o;exact Prod.ext j m
theorem c8r{p q:LI×Int}(a:a6l p)(b:a6l q)(h:ptK p.1 p.2=ptK q.1 q.2):p=q:=
 c2H a b (a7B.inj a.key (h ▸ b.key))
def a3r(w:WD)(b n:Nat)(l:List (LI×Int)):Prop:=
 ∃
  D:DataW Nat,w.ownsMap prog 189 (plainElem prog 3) b n D/\
  ∀p,a6l p->(p∈l->∀z,D.atKey (ptK p.1 p.2) z=.lit (.int .i64 1))/\(p ∉ l->∀z,D.atKey (ptK p.1 p.2) z=z)
theorem a3r.made(w:WD):a3r (w.alloc (.map #[] 0)) w.heap.size 0 []:=
 ⟨_,World.ownsMap_made _ _ _ _,λp _=>⟨λh=>absurd h ρp,λ_ z=>WideAt.atKey_none z ρp⟩⟩
theorem a3r.kept{w d:WD}{b n:Nat}{l:List (LI×Int)}{row:Option Nat}(h:a3r w b n l)(f:w.grownBy d row)(a:some b≠row):a3r d b n l:=by
 obtain⟨D,g,j⟩:=h;exact⟨D,g.kept f a,j⟩
theorem a3r.lt{w:WD}{b n:Nat}{l:List (LI×Int)}(h:a3r w b n l):b<w.heap.size:=by
 obtain⟨D,a,_⟩:=h;exact a.lt
theorem a3r.look{l:List (LI×Int)}(h:a3r w b n l){p:LI×Int}(a:a6l p):(Instr.lookup 362 (.map (some b)) (.agg (ptL p.1 p.2).toArray) false).run prog w=.ok (.int .i64 (if p∈l then 1 else 0)) w:=by
 obtain⟨D,m,g⟩:=h;obtain⟨c,j,d,_⟩:=m.lookup_int a7B c9w c9F (d2Z w) a.key;rw[j]
 by_cases f:p∈l
 ·rw[(g p a).1 f]at d
  rw[if_pos f];simp only[DataW.lit.injEq,Lit.int.injEq,true_and]at d;rw[d]
 rw[(g p a).2 f]at d;rw[if_neg f];simp only[DataW.lit.injEq,Lit.int.injEq,true_and]at d;rw[d]
theorem b1y(w:WD)(b:Nat)(o a:Obj):ChangeMaps.setBlock (ChangeMaps.setBlock w b o) b a=ChangeMaps.setBlock w b a:=by
 unfold ChangeMaps.setBlock
 simp
theorem a3r.incr{l:List (LI×Int)}(h:a3r w b n l)(g:n<1000000000){p:LI×Int}(d:a6l p)(f:p ∉ l):∃ (st:Nat) (w1 w2:WD),(Instr.mapEntry 362 (.map (some b)) (.agg (ptL p.1 p.2).toArray)).run prog w=.ok (.tuple #[.int .i64 0,.int .i64 st]) w1/\(Instr.lookup 362 (.map (some b)) (.agg (ptL p.1 p.2).toArray) false).run prog w1=.ok (.int .i64 0) w1/\(Instr.entryStore 362 (.map (some b)) (.int .i64 st) (.int .i64 1)).run prog w1=.ok () w2/\a3r w2 b (n+1) (l++[p])/\w.grownBy w2 (some b)/\w.grownBy w1 (some b):=by
 obtain⟨D,S,V⟩:=h;obtain⟨w2,E,ac,Y⟩:=S.update (key:=.agg (ptL p.1 p.2).toArray) (val:=.int .i64 1) a7B c9w (by unfold maxLen;omega) d.key (plainElem_int c9F (b6L ρo));obtain⟨w1,r,Z,X⟩:=S.update (key:=.agg (ptL p.1 p.2).toArray) (val:=.int .i64 0) a7B c9w (by unfold maxLen;omega) d.key (plainElem_int c9F (b6L ρo));obtain⟨c,ab,v,_⟩:=Z.lookup_int a7B c9w c9F (d2Z w1) d.key;rw[Maps.atKey_put_same S.isMap (a7B.key d.key)]at v
 obtain rfl:c=0:=by
  simp only[DataW.lit.injEq,Lit.int.injEq,true_and]at v;exact v.symm
 obtain⟨o,m,I,F,hs,hD⟩:=S
 have U:∀x∈o.toList,x.key≠ .agg (ptL p.1 p.2).toArray:=by
  intro x P J;obtain⟨y,hy⟩:=F.reads x P
  obtain⟨z,hz⟩:∃z,plainElem (H:=Nat) prog 3 x.val=some z:=by
   unfold Go.WideElems.rd at hy
   cases N:plainElem (H:=Nat) prog 3 x.val with
   | none=>rw[N]at hy;cases hkk:keyOf prog 189 x.key<;>simp[hkk]at hy
   | some z=>exact⟨z,rfl⟩
  have T:=Go.WideElems.atKey_some b9q F d.key P J hz (.lit (.int .i64 5));have e2:=Go.WideElems.atKey_some b9q F d.key P J hz (.lit (.int .i64 6));rw[<-hD,(V p d).2 f]at T e2;rw[<-e2]at T;simp at T
 have B:(Instr.findKey 189 (.agg (ptL p.1 p.2).toArray) o.toList).run prog w=.ok none w:=by
  rcases b9q.find w d.key o.toList F.keys with⟨K,_⟩ | ⟨j,e0,_,K,W⟩
  ·exact K
  exact absurd W (U e0 (Zy K))
 have R:=b9q.check w false d.key
 have aa:∀val,(Instr.mapUpdate 362 (.map (some b)) (.agg (ptL p.1 p.2).toArray) val).run prog w=.ok () (ChangeMaps.setBlock w b (.map (o.push ⟨.agg (ptL p.1 p.2).toArray,val,m⟩) (m+1))):=by
  intro val;simp[Instr.mapUpdate,run_underlying c9w,Za I,R,B,Zz _ I,Result.andThen,ChangeMaps.setBlock]
 rw[aa]at r E;simp only[Result.ok.injEq,true_and]at r E
 have Q:w1.heap[b]? =some (.map (o.push ⟨.agg (ptL p.1 p.2).toArray,.int .i64 0,m⟩) (m+1)):=by
  rw[<-r];exact ChangeMaps.heap_setBlock_same I _
 obtain⟨s1,s2,_⟩:=F.stamped;refine⟨m,w1,w2,?_,ab,?_,⟨_,ac,λq N=>?_⟩,Y,X⟩
 ·rw[<-r]
  simp[Instr.mapEntry,run_underlying c9w,Za I,R,B,Zz _ I,Result.andThen,ChangeMaps.setBlock,goInt]
 ·have G:(o.push ⟨.agg (ptL p.1 p.2).toArray,.int .i64 0,m⟩).findIdx? (λe=>((e.born:Nat):Int) == ((m:Nat):Int))=some o.size:=by
   rw[Go.WideElems.findIdx_arr]
   have:=Go.WideElems.findIdx_born (l:=(o.push ⟨.agg (ptL p.1 p.2).toArray,.int .i64 0,m⟩).toList) (j:=o.size) (e0:=⟨.agg (ptL p.1 p.2).toArray,.int .i64 0,m⟩) (by
    simp only[ZN,QV,Yl,List.map_nil];refine List.nodup_append.2 ⟨s2,by simp,λa ha c hc T=>?_⟩;simp only[Qn]at hc;obtain⟨x,P,rfl⟩:=Qs.1 ha
    have:=s1 x P
    omega) ρp
   exact this
  have O:(o.push ⟨.agg (ptL p.1 p.2).toArray,.int .i64 0,m⟩).modify o.size (λe=>{e with val:=.int .i64 1})=o.push ⟨.agg (ptL p.1 p.2).toArray,.int .i64 1,m⟩:=by
   apply ZM
   rw[Array.toList_modify,ZN,ZN,<-QD,Go.WideElems.modify_last]
  rw[<-E,<-b1y w b (.map (o.push ⟨.agg (ptL p.1 p.2).toArray,.int .i64 0,m⟩) (m+1)),r];simp[Instr.entryStore,Za Q,asInt,asIntOf,G,O,Zz _ Q,Result.andThen,ChangeMaps.setBlock]
 by_cases e:q=p
 ·subst e
  refine⟨λ_ z=>Maps.atKey_put_same ⟨_,hD⟩ (a7B.key d.key) _ z,λh=>absurd ρp h⟩
 have J:ptK q.1 q.2≠ptK p.1 p.2:=λh=>e (c8r N d h)
 refine⟨λh z=>?_,λh z=>?_⟩
 ·rw[Maps.atKey_put_other J]
  exact(V q N).1 (by simpa[e]using h) z
 rw[Maps.atKey_put_other J];exact(V q N).2 (λK=>h (by simp[K])) z
section
theorem b8X:prog.underlying 202=some (.slice 3):=ρk
theorem d0E:(prog.info? 3).map (λi=>(i.zero.map (·.cells.size),i.size,i.bytes))=some (some 1,1,8):=ρk
theorem c0I(xs:AV)(t:TI):Builtin.append_ #[202,202] t xs=APs #[202,202] t xs:=rfl
attribute [local go_sem ↓] c0I
theorem a8x.formN(h:a8x B w v l):∃A N c,v=.slice A N c:=by
 obtain⟨A,c,e⟩:=a2X.form h;exact⟨A,_,c,e⟩
theorem a8x.lenN(h:a8x B w (.slice A N c) l):N=l.length:=by
 obtain⟨a,b,e⟩:=a2X.form h;simp only[Value.slice.injEq]at e;exact e.2.1
theorem d2o(h:a8x B w (.slice A N c) l)(x:Int)(a:l.length+1<=1000000000)(b:B<=w.heap.size):∃A' N' c' w',(APs #[202,202] ty #[.slice A N c,.slice w 1 1]).run prog (w.alloc (.cells #[.int .i64 x] 3))=.ok (.slice A' N' c') w'/\a8x B w' (.slice A' N' c') (l++[x])/\Below B w w':=by
 obtain⟨j,w',f,d,g,_⟩:=a9V (ty:=ty) b8X d0E ρo h x a b;obtain⟨A',N',c',rfl⟩:=a8x.formN d;exact⟨A',N',c',w',f,d,a2X.step h g b⟩
theorem RdW.at{q:IntKind}(h:RdW q w A l)(hi:i<l.length):∃g off,A=some ⟨g,off,none⟩/\g<w.heap.size/\w.cell? ⟨g,off+i,none⟩=some (.int q (l.getD i 0)):=by
 obtain⟨g,off,e,a,b⟩:=h ρo;exact⟨g,off,e,a,b i _ (by simp[List.getD,hi])⟩
theorem c2D(hi:i<l.length):l.take (i+1)=l.take i++[l.getD i 0]:=by
 rw[Qe hi];simp[List.getD,hi]
theorem b2z(A:OA)(N c:Nat)(l:LI)(x:Int)(w:WD)(h:RdW .i64 w A l)(a:N=l.length)(b:l.length<=1000000):Calls prog 212 #[.slice A N c,.int .i64 x] w λe w'=>∃v,e=.returned v/\a8x w w' v (a0M l x)/\Below w w w':=by
 rw[<-a]at b;have⟨H,J⟩:=η2 h a;clear h a;go_in;go_upto_region 2 with fail
 go_loopg [4,5,6,9] N (λK v _ _ s wr=>∃i:Nat,i+K=N/\s=.int .i64 i/\a8x w wr v (a0M (l.take i) x)/\Below w w wr);exact⟨0,by omega,rfl,by rw[List.take_zero,b5P];exact a2X.nil _ _ _ _,Qf _ _⟩;obtain⟨i,hi,rfl,f,j⟩:=hrel;obtain⟨S,R,U,rfl⟩:=f.formN
 by_cases B:i<N
 ·have r:(i:Int)<N:=ρo
  have z:i<l.length:=by rw[<-J.o];exact B
  obtain⟨g,off,rfl,V,Q⟩:=(H.below j).at z;have d:=b5x (l.take i) (l.getD i 0) x;rw[<-c2D z,Qx,QY ρo]at d;have⟨y,F⟩:=η0 (l.getD i 0);rw[F]at Q d;have m:=a1V (l.take i) x;rw[Qx]at m
  by_cases o:y=x
  ·subst o
   rw[if_pos rfl]at d;obtain⟨W,X,T,w',O,E,p⟩:=d2o (ty:=202) f (i:Int) ρo j.size;rw[<-d]at E;have⟨P,G⟩:=η2 E (j.trans p);clear f j d m E p F;go_wp2;go_roundg (N-(i+1));exact⟨i+1,by omega,by go_num,P.o,G.o⟩;omega
  rw[if_neg o,ZC]at d;rw[<-d]at f;have⟨I,D⟩:=η2 f j;clear f j d m F;go_wp2;go_roundg (N-(i+1));exact⟨i+1,by omega,by go_num,I.o,D.o⟩;omega
 obtain rfl:N=i:=ρo;have r:¬(N:Int)<N:=ρo;rw[Qb (by rw[J.o];exact Qg _)]at f;have⟨I,D⟩:=η2 f j;clear f j;go_wp2;go_ret;exact⟨_,rfl,I.o,D.o⟩
end
section
attribute [local go_sem ↓] a6W a8U a9c a1F
theorem d1Z(w:WD):(Instr.makeMap 362 none).run prog w=.ok (.map (some w.heap.size)) (w.alloc (.map #[] 0)):=run_makeMap _ w
theorem c0S(l:List InD)(i:Nat):(b6v l).take i=b6v (l.take i):=by simp[b6v,List.map_take]
theorem InD.Bd.pt{i:InD}(h:i.Bd):a6l (i.tx,i.ix):=⟨h.len,h.tx,h.ix⟩
theorem a3r.drew{w:WD}{b n:Nat}{l:List (LI×Int)}(h:a3r w b n l):a3r w.drew b n l:=by
 obtain⟨D,a,d⟩:=h;exact⟨D,a.drew,d⟩
theorem b5d{i:InD}(h:i.Bd)(A:OA)(c:Nat):((inV i A c).toArray.toList.drop 0).take 33=ptL i.tx i.ix:=by
 simp only[Zs];unfold inV;rw[QJ (by rw[a1x h.len];omega),Qb (by rw[a1x h.len];omega)]
theorem b6t(f:OA)(m:Nat)(p:OA)(r:Nat)(t:TxD)(w:WD)(h:a9H w f p t)(x:t.ins.length<=1000000):Calls prog 196 #[.agg (txV f m p r t)] w λe w'=>e=.returned (.bool (a8D t.ins))/\Below w w w':=by
 obtain⟨ins,outs,fee,exp⟩:=t;have b0:=Qd w 53 (txV f m p r ⟨ins,outs,fee,exp⟩);have B0:=ρb w (.cells (txV f m p r ⟨ins,outs,fee,exp⟩) 53);have⟨W,hW⟩:=η0 (w.alloc (.cells (txV f m p r ⟨ins,outs,fee,exp⟩) 53));have⟨g,hg⟩:=ηs w;have s0:=a3r.made W;rw[hW]at B0;rw[hW,hg]at b0;have b1:=b0.alloc (.map #[] 0);have B1:Below w w (W.alloc (.map #[] 0)):=B0.alloc B0.size _;have⟨W1,ae⟩:=η0 (W.alloc (.map #[] 0));have⟨b,U⟩:=ηs W;rw[ae]at B1 s0 b1;rw[U]at s0;have q0:W1.cell? ⟨g,0,none⟩=some (.slice f ins.length m):=b1.cell 0;have⟨n,hn⟩:=η0 ins.length;have ay:Below w w W1:=B1;obtain⟨Z,aR,ao⟩:=Pg (t:=191) iIn zIn;have⟨R,hR⟩:=η0 (a8D ins);unfold txV at hW⊢;simp only at hW x⊢;have hh:=h.ins;have ad:=h.bd.ins;simp only at hh ad;rw[hR];rw[hn]at hW x q0⊢;have ar:w.heap.size<=b:=by rw[<-U];exact B0.size
 have aG:=η1 ar;clear ar;have⟨HW,HG,aI,aN,aO,HN,HH,aE⟩:=η8 hW hg ae U ay hn hh ad;have⟨aB,HR,aP⟩:=η3 s0 hR ao;have aQ:=d1Z;clear hW hg B0 b0 h ae U s0 b1 hn ay B1 hh ad hR ao;go_in;go_upto_region 1 with fail
 rw[HW.o,HG.o];go_upto_region 2 with fail
 rw[aI.o,aN.o];go_upto_region 3 with fail
 go_loopg [5,10] n (λkk _ s wr=>∃i:Nat,i+kk=n/\s=.int .i64 i/\a3r wr b i (b6v (ins.take i))/\(b6v (ins.take i)).Nodup/\Below w w wr);exact⟨0,by omega,rfl,by simpa[b6v]using aB.o,by simp[b6v],aO.o⟩;obtain⟨i,hi,rfl,hs,G,hB⟩:=hrel
 by_cases aC:i<n
 ·have ax:(i:Int)<n:=ρo
  have ai:i<ins.length:=by rw[HN.o];exact aC
  obtain⟨g',off,T,cs,rfl,aS,ag⟩:=HH.below (hB.mono (Qg _)) i ai;have y:=aE.o _ (Qu ai);have aJ:=a2e uIn iIn wr g' (off+i*35) (inV ins[i] T cs) (a3l y _ _) ag.cell;have az:=aP.o wr (inV ins[i] T cs) (a3l y _ _) (a8W _ _ _);have Y:=Qd wr 191 (inV ins[i] T cs).toArray;have O:=a0g uPt iPt Y (off:=0) (ptL ins[i].tx ins[i].ix) (a1x y.len _) (b5d y T cs);have E:=hs.kept (World.grownBy_alloc wr (.cells (inV ins[i] T cs).toArray 191) none) ρp;have B5:=hB.alloc hB.size (.cells (inV ins[i] T cs).toArray 191);have Q:=y.pt
  have K:b6v (ins.take (i+1))=b6v (ins.take i)++[(ins[i].tx,ins[i].ix)]:=by
   unfold b6v;rw[Qe ai,QV];rfl
  have z:=E.look Q;simp only at z O
  generalize J:wr.alloc (.cells (inV ins[i] T cs).toArray 191)=W5 at az Y O E B5 z
  have⟨d,hd⟩:=ηs wr;rw[hd]at O Y;have⟨xs,N⟩:=η0 ((inV ins[i] T cs).toArray);rw[N]at aJ az Y J;have⟨ps,F⟩:=η0 ((ptL ins[i].tx ins[i].ix).toArray);rw[F]at O z
  have S:a8D ins=false->(b6v (ins.take (i+1))).Nodup:=by
   intro hf
   have:(b6v ins).Nodup:=by simpa[a8D]using hf
   exact(c0S ins (i+1)) ▸ this.sublist (List.take_sublist _ _)
  by_cases B:(ins[i].tx,ins[i].ix)∈b6v (ins.take i)
  ·have aL:R=true:=by
    cases hq:R
    ·have:=S (HR.trans hq)
     rw[K,List.nodup_append]at this;exact absurd rfl (this.2.2 _ B _ ρp)
    rfl
   rw[if_pos B]at z;subst aL;have⟨aM,aK,HD⟩:=η3 B5 J hd;clear B hs hB ag y E B5 Q K S G N F J hd Y;go_upto_region 5 with fail
   rw[HD.o];go_wp2;go_ret;exact⟨rfl,aM.o⟩
  rw[if_neg B]at z;obtain⟨st,w1,w2,ab,V,af,ac,au,aq⟩:=a3r.incr (w:=W5.drew) E.drew ρo Q B
  have aA:d≠b:=λe=>by
   have:=hs.lt
   omega
  have b6:=(Y.drew).grown aq (λe=>aA (ρw e.symm));have H:=a0g uPt iPt (Y.drew) (off:=0) (ptL ins[i].tx ins[i].ix) (a1x y.len _) (by rw[<-N];exact b5d y T cs)
  have B6:=B5.drew.grown au B5.size (λj hj=>by
   cases hj
   exact aG.o)
  have D:(Instr.lookup 362 (.map (some b)) (.agg ps) false).run prog W5.drew=.ok (.int .i64 0) W5.drew:=by
   rw[<-F]
   have:=(a3r.look (w:=W5.drew) E.drew Q)
   rw[if_neg B]at this;exact this
  have I:=a0g uPt iPt b6 (off:=0) (ptL ins[i].tx ins[i].ix) (a1x y.len _) (by rw[<-N];exact b5d y T cs);rw[F]at H I;simp only at ab V af;rw[F]at ab V;rw[<-K]at ac
  have aa:(b6v (ins.take (i+1))).Nodup:=by
   rw[K,List.nodup_append];exact⟨G,by simp,λa ha c hc=>by simp only[Qn]at hc;subst hc;exact λe=>B (e ▸ ha)⟩
  have an:(Instr.entryStore 362 (.map (some b)) (.int .i64 st) (.int .i64 (IntKind.i64.wrap 1))).run prog w1=.ok () w2:=af;have⟨aD,aK,HD,aF,ak⟩:=η5 B6 J hd ac aa;clear B hs hB ag y E B5 Q K S G N F J hd Y ac aa B6;go_upto_region 5 with fail
  rw[HD.o];go_upto_region 7 with fail
  let S0:WD->Prop:=λX=>(LDs 189 (.pointer d)).run prog X=.ok (.agg ps) X/\(Instr.lookup 362 (.map (some b)) (.agg ps) false).run prog X=.ok (.int .i64 0) X
  have al:S0 W5.drew:=⟨H,D⟩;have av:S0 w1:=⟨I,V⟩;have aj:=η1 av;refine a0s [(0,3),(1,3),(2,0),(3,0),(4,3),(5,1),(6,3),(7,2)] S0 ρk ρk ρk ρk al ?_;clear al av O z H D I V;refine ε2 ?_
  iterate 2 (with_reducible refine a0t (o:=?_) (v:=?_) (a':=?_) ρu ρu (λW' ah=>?_) ?_ ?_;rotate_left 2;(focus(have j0:=ah.1;have j1:=ah.2;clear ah;exact ρs));focus(exact ρs))
  refine ε1 ?_;refine κ1 aj.o ?_;refine ε1 ?_;refine τ1 ?_;refine ν ?_;clear aj af an ab au aq b6;go_upto_region 8 with fail
  go_wp2;go_roundg (n-(i+1));exact⟨i+1,by omega,by go_num,aF.o,ak.o,aD.o⟩;omega
 obtain rfl:i=n:=ρo;have ax:¬(i:Int)<i:=ρo;rw[Qb (by rw[HN.o];exact Qg _)]at G;have aH:R=false:=by rw[<-HR.o];simp[a8D,G]
 subst aH;have HB:=η1 hB;clear hs G hB;go_wp2;go_ret;exact⟨rfl,HB.o⟩
end
section
open Go.RowKit Go.Shelf Go.Maps Go.ChangeMaps Go.MapKept
def a2g(P:PG)(k:TI)(w:WD)(b:Nat)(L:List (VL×VL)):Prop:=
 ∃(es:Array MapEntry) (clock:Nat),w.heap[b]? =some (.map es clock)/\Stamped es clock/\es.toList.map (λe=>(e.key,e.val))=L/\∀p∈L,∃l,keyOf P k p.1=some l
section
variable {P:PG} {k:TI} {w w':WD} {b:Nat} {L:List (VL×VL)}
theorem a2g.lt(h:a2g P k w b L):b<w.heap.size:=by
 obtain⟨d,c,a,_⟩:=h;exact(QK.1 a).1
theorem a2g.fr{F:Nat->Prop}(h:a2g P k w b L)(a:Fr F w w')(d:¬F b):a2g P k w' b L:=by
 obtain⟨g,c,f,j⟩:=h;exact⟨g,c,(a.block b (QK.1 f).1 d).trans f,j⟩
theorem a2g.ne_blk(h:a2g P k w b L)(a:Blk w g t cs):b≠g:=by
 rintro rfl;obtain⟨f,c,d,_⟩:=h;unfold Blk at a;rw[d]at a
 cases a
theorem a2g.new(w:WD):a2g P k (w.alloc (.map #[] 0)) w.heap.size []:=⟨#[],0,heap_alloc_new w _,stamped_empty 0,rfl,by simp⟩
theorem a2g.nodup(h:a2g P k w b L):L.Pairwise (λp q=>p.1≠q.1):=by
 obtain⟨a,c,_,d,rfl,_⟩:=h;rw[Yk];exact((stamped_iff a c).1 d).2.2
theorem a2g.esKeys{a:Array MapEntry}(b:a.toList.map (λe=>(e.key,e.val))=L)(d:∀p∈L,∃l,keyOf P k p.1=some l):∀e∈a.toList,∃l,keyOf P k e.key=some l:=λe he=>by
 subst b;exact d _ (Qs.2 ⟨e,he,rfl⟩)
theorem a2g.look_in(K:Go.WideMaps.KeyLaw P k)(ht:P.underlying t=some (.map k e))(h:a2g P k w b L){key:VL}(a:(key,v)∈L)(ok:Bool):(Instr.lookup t (.map (some b)) key ok).run P w=.ok (if ok then .tuple #[v,.bool true]else v) w:=by
 obtain⟨y,c,S,V,J,I⟩:=h;obtain⟨l,N⟩:=I _ a;have H:=a2g.esKeys J I;have g:=a;rw[<-J]at g;obtain⟨R,m,p⟩:=Qs.1 g;simp only[Prod.mk.injEq]at p
 rcases K.find w N y.toList H with⟨_,B⟩ | ⟨j,Q,U,W,o⟩
 ·exact absurd p.1 (B R m)
 have O:=((stamped_iff y c).1 V).2.2
 have:Q.val=v:=by
  have T:Q∈y.toList:=Zy W
  rcases List.mem_iff_getElem.1 m with⟨x,r,E⟩
  rcases List.mem_iff_getElem.1 T with⟨z,f,d⟩
  have:x=z:=by
   rcases Nat.lt_trichotomy x z with D | F | G
   ·have:=ZV.1 O x z r f D
    rw[E,d,p.1,o]at this;exact absurd rfl this
   ·exact F
   have:=ZV.1 O z x f r G
   rw[E,d,p.1,o]at this;exact absurd rfl this
  subst this;rw[<-d,E];exact p.2
 simp only[Instr.lookup,Ya,run_underlying ht,Result.andThen,Za S]
 cases ok<;>simp[Ya,Result.andThen,K.check w y.isEmpty N,U,this]
theorem a2g.look_out(K:Go.WideMaps.KeyLaw P k)(ht:P.underlying t=some (.map k e))(h:a2g P k w b L){key:VL}{l:Lit}(a:keyOf P k key=some l)(d:(zeroValue e).run P w=.ok z w)(f:∀p∈L,p.1≠key)(ok:Bool):(Instr.lookup t (.map (some b)) key ok).run P w=.ok (if ok then .tuple #[z,.bool false]else z) w:=by
 obtain⟨r,c,D,E,v,x⟩:=h;have o:=a2g.esKeys v x
 rcases K.find w a r.toList o with⟨y,_⟩ | ⟨j,g,_,B,m⟩
 ·simp only[Instr.lookup,Ya,run_underlying ht,Result.andThen,Za D]
  cases ok<;>simp[Ya,Result.andThen,K.check w r.isEmpty a,y,d]
 refine absurd m (f (g.key,g.val) ?_);rw[<-v];exact Qs.2 ⟨g,Zy B,rfl⟩
theorem Fr.setBlock{b:Nat}{a:Array MapEntry}{c:Nat}(d:w.heap[b]? =some (.map a c))(o:Obj):Fr (λj=>j=b) w (setBlock w b o):=
 ⟨rfl,rfl,rfl,by simp[Go.ChangeMaps.setBlock],λj _ hn=>heap_setBlock_other d o hn⟩
theorem a2g.put(K:Go.WideMaps.KeyLaw P k)(ht:P.underlying t=some (.map k e))(h:a2g P k w b L){key:VL}(v:VL){l:Lit}(a:keyOf P k key=some l)(d:∀p∈L,p.1≠key):∃w',(Instr.mapUpdate t (.map (some b)) key v).run P w=.ok () w'/\a2g P k w' b (L++[(key,v)])/\Fr (λj=>j=b) w w'/\w'.heap.size=w.heap.size:=by
 obtain⟨z,c,g,F,r,B⟩:=h;have y:=a2g.esKeys r B;have f:∀x∈z.toList,x.key≠key:=λx G=>d (x.key,x.val) (by rw[<-r];exact Qs.2 ⟨x,G,rfl⟩)
 rcases K.find w a z.toList y with⟨E,_⟩ | ⟨j,H,_,I,m⟩
 ·refine⟨setBlock w b (.map (z.push ⟨key,v,c⟩) (c+1)),?_,⟨_,_,heap_setBlock_same g _,stamped_push F f,?_,?_⟩,Fr.setBlock g _,by simp[Go.ChangeMaps.setBlock]⟩
  ·simp[Instr.mapUpdate,run_underlying ht,Za g,K.check w false a,E,Zz _ g,Result.andThen,Go.ChangeMaps.setBlock]
  ·rw[ZN,QV,r];rfl
  intro p D
  rcases Qq.1 D with o | o
  ·exact B p o
  rw[Qn.1 o];exact⟨l,a⟩
 exact absurd m (f H (Zy I))
theorem a2g.entry(K:Go.WideMaps.KeyLaw P k)(ht:P.underlying t=some (.map k e))(h:a2g P k w b L){key:VL}(v:VL){l:Lit}(f:keyOf P k key=some l)(g:(zeroValue e).run P w=.ok z w)(m:∀p∈L,p.1≠key):∃ (st:Nat) (w1 w2:WD),(Instr.mapEntry t (.map (some b)) key).run P w=.ok (.tuple #[z,.int .i64 st]) w1/\(Instr.entryStore t (.map (some b)) (.int .i64 st) v).run P w1=.ok () w2/\a2g P k w2 b (L++[(key,v)])/\Fr (λj=>j=b) w w1/\Fr (λj=>j=b) w1 w2/\w1.heap.size=w.heap.size/\w2.heap.size=w.heap.size:=by
 obtain⟨o,c,F,R,I,Q⟩:=h;have J:=a2g.esKeys I Q;have B:∀x∈o.toList,x.key≠key:=λx O=>m (x.key,x.val) (by rw[<-I];exact Qs.2 ⟨x,O,rfl⟩)
 rcases K.find w f o.toList J with⟨U,_⟩ | ⟨j,S,_,W,G⟩
 ·have y:(setBlock w b (.map (o.push ⟨key,z,c⟩) (c+1))).heap[b]? =some (.map (o.push ⟨key,z,c⟩) (c+1)):=heap_setBlock_same F _
  obtain⟨V,s2,_⟩:=(show Stamped o c from R)
  have D:(o.push ⟨key,z,c⟩).findIdx? (λe=>((e.born:Nat):Int) == ((c:Nat):Int))=some o.size:=by
   rw[Go.WideElems.findIdx_arr]
   exact Go.WideElems.findIdx_born (l:=(o.push ⟨key,z,c⟩).toList) (j:=o.size) (e0:=⟨key,z,c⟩) (by
    simp only[ZN,QV,Yl,List.map_nil];refine List.nodup_append.2 ⟨s2,by simp,λa X d hd S=>?_⟩;simp only[Qn]at hd;obtain⟨x,O,rfl⟩:=Qs.1 X
    have:=V x O
    omega) ρp
  have E:(o.push ⟨key,z,c⟩).modify o.size (λe=>{e with val:=v})=o.push ⟨key,v,c⟩:=by
   apply ZM
   rw[Array.toList_modify,ZN,ZN,<-QD,Go.WideElems.modify_last]
  have N:Stamped (o.push ⟨key,v,c⟩) (c+1):=stamped_push R B;have⟨w1,r⟩:=η0 (setBlock w b (.map (o.push ⟨key,z,c⟩) (c+1)));rw[r]at y;refine⟨c,w1,setBlock w1 b (.map (o.push ⟨key,v,c⟩) (c+1)),?_,?_,⟨_,_,heap_setBlock_same y _,N,?_,?_⟩,by rw[<-r];exact Fr.setBlock F _,Fr.setBlock y _,by rw[<-r];simp[Go.ChangeMaps.setBlock],by rw[<-r];simp[Go.ChangeMaps.setBlock]⟩
  ·rw[<-r]
   simp[Instr.mapEntry,run_underlying ht,Za F,K.check w false f,U,g,Zz _ F,Result.andThen,Go.ChangeMaps.setBlock,goInt]
  ·simp[Instr.entryStore,Za y,asInt,asIntOf,D,E,Zz _ y,Result.andThen,Go.ChangeMaps.setBlock]
  ·rw[ZN,QV,I];rfl
  intro p T
  rcases Qq.1 T with H | H
  ·exact Q p H
  rw[Qn.1 H];exact⟨l,f⟩
 exact absurd G (B S (Zy W))
theorem a8c{α β:Type}(f:α->β)(l:List α)(j:Nat):(l.eraseIdx j).map f=(l.map f).eraseIdx j:=by
 simp[List.eraseIdx_eq_take_drop_succ,List.map_take,List.map_drop]
theorem a6z{α:Type}(q:α->Bool):∀(l:List α) (j:Nat) (x:α),l[j]? =some x->q x=false->(∀i y,l[i]? =some y->i≠j->q y=true)->l.eraseIdx j=l.filter q
 | [],j,x,h,_,_=>by simp at h
 |
  a::l,0,x,h,hx,ha=>by
  simp only[List.getElem?_cons_zero,Option.some.injEq]at h;subst h
  have:∀y∈l,q y=true:=λy hy=>by
   obtain⟨i,hi⟩:=List.mem_iff_getElem?.1 hy;exact ha (i+1) y (ρw hi) ρo
  rw[List.eraseIdx_cons_zero,List.filter_cons,if_neg (by simp[hx])];exact(List.filter_eq_self.2 this).symm
 |
  a::l,j+1,x,h,hx,ha=>by
  have h1:q a=true:=ha 0 a ρp ρo;rw[List.eraseIdx_cons_succ,List.filter_cons,if_pos h1];rw[a6z q l j x (ρw h) hx (λi y hi hn=>ha (i+1) y (ρw hi) ρo)]
theorem a2g.del{α:Type}(K:Go.WideMaps.KeyLaw P k)(ht:P.underlying t=some (.map k e)){m:List α}{f:α->VL×VL}(h:a2g P k w b (m.map f)){key:VL}{l:Lit}(a:keyOf P k key=some l)(q:α->Bool)(d:∀p∈m,q p=true↔(f p).1≠key):∃w',(Builtin.delete_ #[t,k] ty #[.map (some b),key]).run P w=.ok (.tuple #[]) w'/\a2g P k w' b ((m.filter q).map f)/\Fr (λj=>j=b) w w'/\w'.heap.size=w.heap.size:=by
 have F:=h.nodup;obtain⟨r,c,o,hs,E,X⟩:=h;have R:=a2g.esKeys E X;have W:=((stamped_iff r c).1 hs)
 have D:∀p∈(m.filter q).map f,∃l,keyOf P k p.1=some l:=λp I=>by
  obtain⟨x,g,rfl⟩:=Qs.1 I;exact X _ (Qs.2 ⟨x,(ZD.1 g).1,rfl⟩)
 rcases K.find w a r.toList R with⟨S,J⟩ | ⟨j,e1,S,hj,v⟩
 ·have U:m.filter q=m:=List.filter_eq_self.2 (λp I=>(d p I).2 (λQ=>by
   have h3:f p∈r.toList.map (λe=>(e.key,e.val)):=by rw[E];exact Qs.2 ⟨p,I,rfl⟩
   obtain⟨x,g,h4⟩:=Qs.1 h3;exact J x g (by rw[<-Q,<-h4])))
  refine⟨setBlock w b (.map r c),?_,⟨r,c,heap_setBlock_same o _,hs,by rw[U];exact E,D⟩,Fr.setBlock o _,by simp[Go.ChangeMaps.setBlock]⟩;simp[Builtin.delete_,run_underlying ht,Za o,K.check w r.isEmpty a,S,Zz _ o,Result.andThen,Go.ChangeMaps.setBlock]
 have V:(m.map f)[j]? =some (e1.key,e1.val):=by rw[<-E,ZJ,hj];rfl
 obtain⟨x,g,z⟩:=Q8.1 (by rwa [ZJ]at V)
 have T:m.eraseIdx j=m.filter q:=a6z q m j x g (by
  have Z:=d x (Zy g);rw[z]at Z
  cases hqx:q x with
  | false=>rfl
  |
   true=>exact absurd v (Z.1 hqx)) (λi y hi N=>(d y (Zy hi)).2 (λH=>by
   have B:i<(m.map f).length:=by rw[Qw];exact(Qm.1 hi).1
   have G:j<(m.map f).length:=by rw[Qw];exact(Qm.1 g).1
   have gi:(m.map f)[i]=f y:=by rw[QS,(Qm.1 hi).2]
   have Y:(m.map f)[j]=f x:=by rw[QS,(Qm.1 g).2]
   rcases Nat.lt_or_gt_of_ne N with O | O
   ·have:=ZV.1 F i j B G O
    rw[gi,Y,H,z]at this;exact this v.symm
   have:=ZV.1 F j i G B O
   rw[gi,Y,H,z]at this;exact this v))
 refine⟨setBlock w b (.map (r.eraseIdxIfInBounds j) c),?_,⟨_,c,heap_setBlock_same o _,?_,?_,D⟩,Fr.setBlock o _,by simp[Go.ChangeMaps.setBlock]⟩
 ·simp[Builtin.delete_,run_underlying ht,Za o,K.check w r.isEmpty a,S,Zz _ o,Result.andThen,Go.ChangeMaps.setBlock]
 ·refine(stamped_iff _ _).2 ⟨λx g=>?_,?_,?_⟩
  ·rw[ZO]at g;exact W.1 x (List.mem_of_mem_eraseIdx g)
  ·rw[ZO];exact W.2.1.sublist (List.Sublist.map _ (List.eraseIdx_sublist _ _))
  rw[ZO];exact W.2.2.sublist (List.eraseIdx_sublist _ _)
 rw[ZO,<-T,a8c,a8c,E]
theorem a2g.len_{ty t e:TI}(h:a2g P k w b L)(ht:P.underlying t=some (.map k e)):(Builtin.len_ #[t] ty #[.map (some b)]).run P w=.ok (.int .i64 (L.length:Int)) w:=by
 obtain⟨a,c,d,j,f,g⟩:=h
 have:L.length=a.size:=by rw[<-f];simp
 rw[this];simp[Builtin.len_,run_underlying ht,Za d,Result.andThen,goInt]
theorem a2g.clone(h:a2g P k w b L):∃es c,w.heap[b]? =some (.map es c)/\a2g P k (w.alloc (.map es c)) w.heap.size L/\a2g P k (w.alloc (.map es c)) b L:=by
 obtain⟨es,c,a,f,g,d⟩:=h;exact⟨es,c,a,⟨es,c,heap_alloc_new w _,f,g,d⟩,⟨es,c,(Below.heap_alloc w _ b (QK.1 a).1).trans a,f,g,d⟩⟩
end
end
section
theorem c8c:prog.underlying 141=some (.slice 32):=ρk
theorem c7u:(prog.info? 32).map (λi=>(i.zero.map (·.cells.size),i.size,i.bytes))=some (some 1,1,8):=ρk
theorem b6y(xs:AV)(t:TI):Builtin.append_ #[141,141] t xs=APs #[141,141] t xs:=rfl
attribute [local go_sem ↓] a6W a8U a9c a1F a9R b0o b0b b6y
def b4V(B:Nat)(w:WD)(v:VL)(l:LI):Prop:=a2X 32 .u64 B w v l
theorem c6f{i:InD}(h:i.Bd)(A:OA)(c:Nat):(inV i A c).toArray[33]? =some (.int .u64 i.am):=by
 simp[inV,ptL,a0a,h.len]
theorem b6R{o:a1q}(h:o.Bd):(a1s o).toArray[32]? =some (.int .u64 o.am):=by
 simp[a1s,a0a,h.len]
theorem b6S(a:OA)(d:Nat)(b:OA)(f:Nat)(t:TxD)(w:WD)(h:a9H w a b t)(o:t.ins.length<=1000000)(j:t.outs.length<=1000000):Calls prog 194 #[.agg (txV a d b f t)] w λe w'=>∃v u,e=.returned (.tuple #[v,u])/\b4V w w' v (t.ins.map (·.am))/\b4V w w' u (t.outs.map (·.am))/\Below w w w':=by
 obtain⟨ins,outs,fee,exp⟩:=t;have b0:=Qd w 53 (txV a d b f ⟨ins,outs,fee,exp⟩);have B0:=ρb w (.cells (txV a d b f ⟨ins,outs,fee,exp⟩) 53);have⟨W,hW⟩:=η0 (w.alloc (.cells (txV a d b f ⟨ins,outs,fee,exp⟩) 53));have⟨g,hg⟩:=ηs w;rw[hW]at B0;rw[hW,hg]at b0;have q0:W.cell? ⟨g,0,none⟩=some (.slice a ins.length d):=b0.cell 0;have q1:W.cell? ⟨g,1,none⟩=some (.slice b outs.length f):=b0.cell 1;have aj:g<W.heap.size:=b0.lt;have⟨n,hn⟩:=η0 ins.length;have⟨m,hm⟩:=η0 outs.length;obtain⟨Z,an,af⟩:=Pg (t:=191) iIn zIn;obtain⟨Y,aB,ai⟩:=Pg (t:=56) c6h d1w;unfold txV at hW⊢;simp only at hW o j⊢;have hh:=h.ins;have U:=h.bd.ins;have ho:=h.outs;have aa:=h.bd.outs;simp only at hh U ho aa;rw[hn,hm]at hW⊢;rw[hn]at q0 o;rw[hm]at q1 j;have⟨HW,HG,HN,HM,HH,ar,HO,au⟩:=η8 hW hg hn hm hh U ho aa;have⟨az,av,S⟩:=η3 af ai B0;clear hW hg B0 b0 h hn hm hh U af ho aa ai
 go_in;go_upto_region 1 with fail
 rw[HW.o,HG.o];go_upto_region 2 with fail
 go_loopg [2,5,11] n (λkk v _ s wr=>∃i:Nat,i+kk=n/\s=.int .i64 i/\b4V W wr v ((ins.map (·.am)).take i)/\Below W W wr);exact⟨0,by omega,rfl,a2X.nil _ _ _ _,Qf _ _⟩;obtain⟨i,hi,rfl,F,E⟩:=hrel;have ag:=φt S E
 by_cases ao:i<n
 ·have N:(i:Int)<n:=ρo
  have B:i<ins.length:=by rw[HN.o];exact ao
  obtain⟨g',off,T,cs,rfl,aq,I⟩:=HH.below ag i B;have r:=ar.o _ (Qu B);have ae:=a2e uIn iIn wr g' (off+i*35) (inV ins[i] T cs) (a3l r _ _) I.cell;have Q:=az.o wr (inV ins[i] T cs) (a3l r _ _) (a8W _ _ _);have X:=Qd wr 191 (inV ins[i] T cs).toArray;have O:=E.alloc E.size (.cells (inV ins[i] T cs).toArray 191);have y:=F.alloc (.cells (inV ins[i] T cs).toArray 191)
  have H:(ins.map (·.am)).take (i+1)=(ins.map (·.am)).take i++[ins[i].am]:=by
   rw[Qe (ρw B)];simp
  have J:((ins.map (·.am)).take i).length=i:=by simp;omega
  generalize ab:wr.alloc (.cells (inV ins[i] T cs).toArray 191)=W5 at Q X O y
  have qa:W5.cell? ⟨wr.heap.size,33,none⟩=some (.int .u64 ins[i].am):=by rw[X.cell 33];exact c6f r T cs
  have⟨xs,K⟩:=η0 ((inV ins[i] T cs).toArray);rw[K]at ae Q;obtain⟨v',w',ac,x,G,_⟩:=a9V (ty:=141) c8c c7u ρo y ins[i].am ρo O.size;obtain⟨A6,c6,z⟩:=F.form;rw[J]at z;subst z;rw[<-H]at x;obtain⟨A7,c7,rfl⟩:=x.form;have R:((ins.map (·.am)).take (i+1)).length=i+1:=by simp;omega
  rw[R]at ac x;have⟨ad,V⟩:=η2 x (O.trans ((y.step G O.size).mono (Qg _)));clear x G y F I r X O H J R K ab E;go_upto_region 4 with fail
  go_wp2;go_roundg (n-(i+1));exact⟨i+1,by omega,by go_num,ad.o,V.o⟩;omega
 obtain rfl:i=n:=ρo;have N:¬(i:Int)<i:=ρo;rw[Qb (by simp[HN.o])]at F;obtain⟨A6,c6,z⟩:=F.form;rw[Qw,HN.o]at z;subst z;have aA:=(E.cell (p:=⟨g,1,none⟩) aj).trans q1;have⟨HV,ay⟩:=η2 F E;obtain⟨w2,al⟩:∃w2,w2=wr:=⟨_,rfl⟩;subst al;clear F E ag;go_upto_region 7 with fail
 have D:=η1 (S.trans (ay.mono S.size));clear q0 q1 aj an;go_loopg [3,7,24] m (λkk v _ s wr=>∃k:Nat,k+kk=m/\s=.int .i64 k/\b4V w2.heap.size wr v ((outs.map (·.am)).take k)/\Below w2.heap.size w2 wr);exact⟨0,by omega,rfl,a2X.nil _ _ _ _,Qf _ _⟩;obtain⟨k,hk,rfl,F,E⟩:=hrel
 by_cases ak:k<m
 ·have N:(k:Int)<m:=ρo
  have B:k<outs.length:=by rw[HM.o];exact ak
  obtain⟨g',off,rfl,aq,I⟩:=HO.below (φt D E) k B;have r:=au.o _ (Qu B);have ae:=a2e d1I c6h wr g' (off+k*33) (a1s outs[k]) (a0G r) I;have Q:=av.o wr (a1s outs[k]) (a0G r) (a1O _);have X:=Qd wr 56 (a1s outs[k]).toArray;have O:=E.alloc E.size (.cells (a1s outs[k]).toArray 56);have y:=F.alloc (.cells (a1s outs[k]).toArray 56)
  have H:(outs.map (·.am)).take (k+1)=(outs.map (·.am)).take k++[outs[k].am]:=by
   rw[Qe (ρw B)];simp
  have J:((outs.map (·.am)).take k).length=k:=by simp;omega
  generalize ab:wr.alloc (.cells (a1s outs[k]).toArray 56)=W5 at Q X O y
  have qa:W5.cell? ⟨wr.heap.size,32,none⟩=some (.int .u64 outs[k].am):=by rw[X.cell 32];exact b6R r
  have⟨xs,K⟩:=η0 ((a1s outs[k]).toArray);rw[K]at ae Q;obtain⟨v',w',ac,x,G,_⟩:=a9V (ty:=141) c8c c7u ρo y outs[k].am ρo O.size;obtain⟨A6,c6,z⟩:=F.form;rw[J]at z;subst z;rw[<-H]at x;obtain⟨A7,c7,rfl⟩:=x.form;have R:((outs.map (·.am)).take (k+1)).length=k+1:=by simp;omega
  rw[R]at ac x;have⟨ad,V⟩:=η2 x (O.trans ((y.step G O.size).mono (Qg _)));clear x G y F I r X O H J R K ab E;go_upto_region 9 with fail
  go_wp2;go_roundg (m-(k+1));exact⟨k+1,by omega,by go_num,ad.o,V.o⟩;omega
 obtain rfl:k=m:=ρo;have N:¬(k:Int)<k:=ρo;rw[Qb (by simp[HM.o])]at F;have⟨ax,ah⟩:=η2 F E;clear F E;go_wp2;go_ret2;exact⟨_,_,rfl,(HV.below ah.o (λ_ hk=>(HV.lt hk).2)).base S.size,ax.base D.size,D.trans (ah.mono D.size)⟩
end
section
open Go.RowKit Go.Shelf Go.Maps Go.ChangeMaps Go.MapKept
def a2E{κ ν:Type}[DecidableEq κ](m:List (κ×ν))(a:κ):Option ν:=(m.find? (λp=>decide (p.1=a))).map (·.2)
def b6D{κ ν:Type}[DecidableEq κ](m:List (κ×ν))(a:κ):List (κ×ν):=m.filter (λp=>decide (p.1≠a))
section
variable {κ ν:Type} [DecidableEq κ]
theorem a6T{m:List (κ×ν)}{a:κ}{v:ν}(h:a2E m a=some v):(a,v)∈m:=by
 unfold a2E at h;obtain⟨p,d,rfl⟩:=Q8.1 h;have f:=List.mem_of_find?_eq_some d;have b:=List.find?_some d;simp only[decide_eq_true_eq]at b;obtain⟨g,j⟩:=p;simp only at b;subst b;exact f
theorem b0r{m:List (κ×ν)}{a:κ}(h:a2E m a=none):∀p∈m,p.1≠a:=by
 unfold a2E at h;rw[Option.map_eq_none_iff,List.find?_eq_none]at h;intro p b e;exact h p b (ρw e)
end
structure Enc(κ:Type) where
 k:TI
 e:κ->LV
 ok:κ->Prop
 law:Go.WideMaps.KeyLaw prog k
 key:∀a,ok a->∃l,keyOf prog k (.agg (e a).toArray)=some l
 inj:∀a b,ok a->ok b->e a=e b->a=b
structure a4o{κ ν:Type}(E:Enc κ)(ev:ν->LV)(w:WD)(b:Nat)(m:List (κ×ν)):Prop where
 is:a2g prog E.k w b (m.map λp=>(.agg (E.e p.1).toArray,.agg (ev p.2).toArray))
 ok:∀p∈m,E.ok p.1
section
variable {κ ν:Type} [DecidableEq κ] {E:Enc κ} {ev:ν->LV} {w w':WD} {b:Nat} {m:List (κ×ν)}
omit [DecidableEq κ]in
theorem a4o.fr{F:Nat->Prop}(h:a4o E ev w b m)(a:Fr F w w')(d:¬F b):a4o E ev w' b m:=⟨h.is.fr a d,h.ok⟩
omit [DecidableEq κ]in
theorem a4o.lt(h:a4o E ev w b m):b<w.heap.size:=h.is.lt
omit [DecidableEq κ]in
theorem a4o.ne_blk(h:a4o E ev w b m){g:Nat}{t:TI}{cs:AV}(a:Blk w g t cs):b≠g:=h.is.ne_blk a
omit [DecidableEq κ]in
theorem a4o.new(w:WD):a4o E ev (w.alloc (.map #[] 0)) w.heap.size []:=⟨a2g.new w,by simp⟩
omit [DecidableEq κ]in
theorem a4o.apart(h:a4o E ev w b m):m.Pairwise (λp q=>p.1≠q.1):=by
 have:=h.is.nodup
 rw[Yk]at this;exact this.imp (λa e=>a (by rw[e]))
omit [DecidableEq κ]in
theorem a4o.other(h:a4o E ev w b m){a:κ}(d:E.ok a)(f:∀p∈m,p.1≠a):∀p∈m.map (λp=>(Value.agg (E.e p.1).toArray,Value.agg (ev p.2).toArray)),p.1≠ .agg (E.e a).toArray:=by
 intro p j e;obtain⟨q,g,rfl⟩:=Qs.1 j;simp only[Value.agg.injEq]at e;exact f q g (E.inj _ _ (h.ok q g) d (by simpa using congrArg Array.toList e))
theorem a4o.look_in{t e:TI}(ht:prog.underlying t=some (.map E.k e))(h:a4o E ev w b m){a:κ}{v:ν}(d:a2E m a=some v)(ok:Bool):(Instr.lookup t (.map (some b)) (.agg (E.e a).toArray) ok).run prog w=.ok (if ok then .tuple #[.agg (ev v).toArray,.bool true]else .agg (ev v).toArray) w:=
 h.is.look_in E.law ht (Qs.2 ⟨(a,v),a6T d,rfl⟩) ok
theorem a4o.look_out{t e:TI}(ht:prog.underlying t=some (.map E.k e))(h:a4o E ev w b m){a:κ}(d:E.ok a){z:VL}(f:(zeroValue e).run prog w=.ok z w)(g:a2E m a=none)(ok:Bool):(Instr.lookup t (.map (some b)) (.agg (E.e a).toArray) ok).run prog w=.ok (if ok then .tuple #[z,.bool false]else z) w:=by
 obtain⟨l,j⟩:=E.key a d;exact h.is.look_out E.law ht j f (h.other d (b0r g)) ok
theorem a4o.put{t e:TI}(ht:prog.underlying t=some (.map E.k e))(h:a4o E ev w b m){a:κ}(d:E.ok a)(v:ν)(f:a2E m a=none):∃w',(Instr.mapUpdate t (.map (some b)) (.agg (E.e a).toArray) (.agg (ev v).toArray)).run prog w=.ok () w'/\a4o E ev w' b (m++[(a,v)])/\Fr (λj=>j=b) w w'/\w'.heap.size=w.heap.size:=by
 obtain⟨l,r⟩:=E.key a d;obtain⟨w',z,x,B,y⟩:=h.is.put E.law ht (.agg (ev v).toArray) r (h.other d (b0r f));refine⟨w',z,⟨by rw[QV];exact x,λp o=>?_⟩,B,y⟩
 rcases Qq.1 o with g | g
 ·exact h.ok p g
 rw[Qn.1 g];exact d
theorem a4o.entry{t e:TI}(ht:prog.underlying t=some (.map E.k e))(h:a4o E ev w b m){a:κ}(d:E.ok a)(v:ν){z:VL}(f:(zeroValue e).run prog w=.ok z w)(g:a2E m a=none):∃ (st:Nat) (w1 w2:WD),(Instr.mapEntry t (.map (some b)) (.agg (E.e a).toArray)).run prog w=.ok (.tuple #[z,.int .i64 st]) w1/\(Instr.entryStore t (.map (some b)) (.int .i64 st) (.agg (ev v).toArray)).run prog w1=.ok () w2/\a4o E ev w2 b (m++[(a,v)])/\Fr (λj=>j=b) w w1/\Fr (λj=>j=b) w1 w2/\w1.heap.size=w.heap.size/\w2.heap.size=w.heap.size:=by
 obtain⟨l,x⟩:=E.key a d;obtain⟨st,w1,w2,D,y,F,B⟩:=h.is.entry E.law ht (.agg (ev v).toArray) x f (h.other d (b0r g));refine⟨st,w1,w2,D,y,⟨by rw[QV];exact F,λp r=>?_⟩,B⟩
 rcases Qq.1 r with o | o
 ·exact h.ok p o
 rw[Qn.1 o];exact d
theorem a4o.del{t e ty:TI}(ht:prog.underlying t=some (.map E.k e))(h:a4o E ev w b m){a:κ}(d:E.ok a):∃w',(Builtin.delete_ #[t,E.k] ty #[.map (some b),.agg (E.e a).toArray]).run prog w=.ok (.tuple #[]) w'/\a4o E ev w' b (b6D m a)/\Fr (λj=>j=b) w w'/\w'.heap.size=w.heap.size:=by
 obtain⟨l,o⟩:=E.key a d
 obtain⟨w',x,r,y,v⟩:=h.is.del (ty:=ty) E.law ht o (λp=>decide (p.1≠a)) (λp f=>by
  simp only[decide_eq_true_eq];refine⟨λg e=>g ?_,λg e=>g (by rw[e])⟩;simp only[Value.agg.injEq]at e;exact E.inj _ _ (h.ok p f) d (by simpa using congrArg Array.toList e))
 exact⟨w',x,⟨r,λp f=>h.ok p ((ZD.1 f).1)⟩,y,v⟩
omit [DecidableEq κ]in
theorem a4o.len_{ty t e:TI}(h:a4o E ev w b m)(ht:prog.underlying t=some (.map E.k e)):(Builtin.len_ #[t] ty #[.map (some b)]).run prog w=.ok (.int .i64 (m.length:Int)) w:=by
 rw[h.is.len_ ht,Qw]
omit [DecidableEq κ]in
theorem a4o.clone(h:a4o E ev w b m):∃es c,w.heap[b]? =some (.map es c)/\a4o E ev (w.alloc (.map es c)) w.heap.size m/\a4o E ev (w.alloc (.map es c)) b m:=by
 obtain⟨es,c,d,a,f⟩:=h.is.clone;exact⟨es,c,d,⟨a,h.ok⟩,⟨f,h.ok⟩⟩
end
def ptE:Enc (LI×Int) where
 k:=189
 e:=λp=>ptL p.1 p.2
 ok:=a6l
 law:=b9q
 key:=λ_ h=>⟨_,h.key⟩
 inj:=λa b ha hb h=>c2H ha hb (by rw[h])
end
section
attribute [local go_sem ↓] b6y
theorem c6m(A:OA)(c:Nat)(l:LI)(x:Int)(w:WD)(h:RdW .u64 w A l)(a:l.length<=1000000000):Calls prog 197 #[.slice A l.length c,.int .u64 x] w λe w'=>e=.returned (.bool (l.contains x))/\w'=w:=by
 rcases Zq l.length with b | b
 ·obtain rfl:l=[]:=Zv.1 b
  exact AnyE.slices_Contains_empty Tryz.laysCU A c (.int .u64 x) w
 obtain⟨g,off,rfl,m,f⟩:=h b
 have:=AnyE.slices_Contains Tryz.laysCU (Value.int .u64) (λx y=>x == y) (EqlAt.int _ _ .u64) g off l.length c l x w (Qg _) ρo (λj d=>f j _ (by simp[getElem!_pos,d]))
 rw[ZF]at this
 have e:(l.any λy=>x == y)=l.contains x:=by
  rw[Bool.eq_iff_iff]
  simp
 rw[e]at this;exact this
theorem U64.of(h:RdW .u64 w A l)(a:∀x∈l,0<=x/\x<=18446744073709551615):U64 w A l:=⟨h,a⟩
theorem a3L(a:OA)(f:Nat)(b:OA)(j:Nat)(t:TxD)(w:WD)(h:a9H w a b t)(m:t.ins.length<=1000000)(d:t.outs.length<=1000000):Calls prog 136 #[.agg (txV a f b j t)] w λe w'=>e=.returned (.int .i64 (a1a t))/\Below w w w':=by
 have b0:=Qd w 53 (txV a f b j t);have B0:=ρb w (.cells (txV a f b j t) 53);have⟨W,hW⟩:=η0 (w.alloc (.cells (txV a f b j t) 53));have⟨g,hg⟩:=ηs w;rw[hW]at B0;rw[hW,hg]at b0;have ad:g<W.heap.size:=b0.lt;have hT:=h.below B0
 have Y:∀X,Below W W X->X.cell? ⟨g,0,none⟩=some (.slice a t.ins.length f)/\X.cell? ⟨g,1,none⟩=some (.slice b t.outs.length j)/\X.cell? ⟨g,2,none⟩=some (.int .u64 t.fee)/\X.cell? ⟨g,3,none⟩=some (.int .i64 t.exp):=λX hX=>
  ⟨(hX.cell (p:=⟨g,0,none⟩) ad).trans (b0.cell 0),(hX.cell (p:=⟨g,1,none⟩) ad).trans (b0.cell 1),(hX.cell (p:=⟨g,2,none⟩) ad).trans (b0.cell 2),(hX.cell (p:=⟨g,3,none⟩) ad).trans (b0.cell 3)⟩
 obtain⟨q0,q1,q2,q3⟩:=Y W (Qf _ _);have K:=b6S a f b j t W hT m d
 have aA:∀x∈t.ins.map (·.am),0<=x/\x<=18446744073709551615:=λx hx=>by
  obtain⟨i,hi,rfl⟩:=Qs.1 hx;exact(h.bd.ins i hi).am
 have aE:∀x∈t.outs.map (·.am),0<=x/\x<=18446744073709551615:=λx hx=>by
  obtain⟨i,hi,rfl⟩:=Qs.1 hx;exact(h.bd.outs i hi).am
 have aD:∀x∈t.outs.map (·.am)++[t.fee],0<=x/\x<=18446744073709551615:=λx hx=>by
  rcases Qq.1 hx with h' | h'
  ·exact aE x h'
  simp only[Qn]at h';subst h';exact h.bd.fee
 have af:(t.ins.map (·.am)).length<=1000000:=ρw m;have ae:(t.outs.map (·.am)).length<=1000000:=ρw d
 generalize hR:a1a t=R
 unfold a1a b8L c7X at hR;have⟨ag,ab,HW,HG,r,I,HT,aU⟩:=η8 af ae hW hg B0 Y hT K;have⟨HL,bc,aH,aM,HR⟩:=η5 m d aA aD hR;clear hW hg B0 b0 h Y hT K m d aA aE aD hR af ae;go_in;unfold txV at HW⊢;go_upto_region 1 with fail
 rw[HW.o,HG.o];have K:=aU.o;unfold txV at K;go_wp2_with fail;refine μ1 K ?_;rintro e w1 ⟨v,u,rfl,hv,hu,Z⟩;obtain⟨a6,a4,ba,a9⟩:=I.o w1 Z;have G:=b8I a f b j t w1 (HT.o.below Z) (ρh HL.o);unfold txV at G;have⟨HV,HU,aP⟩:=η3 hv hu Z;clear hv hu Z K
 by_cases h1:b1z t=true
 ·have o:=HR.o
  rw[if_pos h1]at o;subst o;rw[h1]at G;go_wp2_with fail;refine μi G ?_;intro w2 E;have ac:=η1 (φt aP E);clear E G;go_wp2;go_ret;exact⟨rfl,r.o.trans (ac.o.mono r.o.size)⟩
 have a0:b1z t=false:=ρw h1;have o:=HR.o;rw[if_neg h1]at o;rw[a0]at G;go_wp2_with fail;refine μi G ?_;intro w2 E;have H:=φt aP E;obtain⟨a3,bk,a5,a7⟩:=I.o w2 H;have aJ:b4V W w2 v (t.ins.map (·.am)):=HV.o.keep E;have ay:b4V W w2 u (t.outs.map (·.am)):=HU.o.keep E;have F:=b6t a f b j t w2 (HT.o.below H) HL.o;unfold txV at F;have⟨ac,aN,aG⟩:=η3 H aJ ay;clear E H aJ ay G HV HU
 by_cases h2:a8D t.ins=true
 ·rw[if_pos h2]at o
  subst o;rw[h2]at F;go_wp2_with fail;refine μi F ?_;intro w3 D;have P:=η1 (φt ac D);clear D F;go_wp2;go_ret;exact⟨rfl,r.o.trans (P.o.mono r.o.size)⟩
 have aT:a8D t.ins=false:=ρw h2;rw[if_neg h2]at o;rw[aT]at F;have O:=η1 o;clear o HR;go_wp2_with fail;refine μi F ?_;intro w3 D;have S:=φt ac D;obtain⟨bh,be,bf,a8⟩:=I.o w3 S;have aO:b4V W w3 v (t.ins.map (·.am)):=aN.o.keep D;have an:b4V W w3 u (t.outs.map (·.am)):=aG.o.keep D;have⟨P,al⟩:=η2 S an;obtain⟨Av,cv,aZ,ah,_⟩:=aO.rd;obtain⟨Au,cu,aV,aQ,_⟩:=an.rd;subst aZ;subst aV;have B:=c6m Av cv (t.ins.map (·.am)) 0 w3 ah (ρh ag.o);have N:=c6m Au cu (t.outs.map (·.am)) 0 w3 aQ (ρh ab.o);have V:=b7P Av cv (t.ins.map (·.am)) w3 (U64.of ah aH.o) (ρh ag.o);clear D S aO an F aN aG ah aQ;have⟨li,aq⟩:=η0 (t.ins.map (·.am));have⟨lo,aj⟩:=η0 (t.outs.map (·.am));rw[aq]at B V O ag aH;rw[aj]at N O ab aM al;rw[aq,aj];clear aq aj
 by_cases h3:li.contains 0=true
 ·have o:=O.o
  rw[if_pos (by rw[h3];rfl)]at o;subst o;rw[h3]at B;clear h3;go_wp2_with fail;refine μf B ?_;go_wp2;go_ret;exact⟨rfl,r.o.trans (P.o.mono r.o.size)⟩
 have J:li.contains 0=false:=ρw h3
 by_cases h4:lo.contains 0=true
 ·have o:=O.o
  rw[if_pos (by rw[J,h4];rfl)]at o;subst o;rw[J]at B;rw[h4]at N;clear h3 h4 J;go_wp2_with fail;refine μf B ?_;go_wp2_with fail;refine μf N ?_;go_wp2;go_ret;exact⟨rfl,r.o.trans (P.o.mono r.o.size)⟩
 have ao:lo.contains 0=false:=ρw h4;have o:=O.o;rw[if_neg (by rw[J,ao];simp)]at o;rw[J]at B;rw[ao]at N;clear h3 h4 J ao O;go_wp2_with fail;refine μf B ?_;go_wp2_with fail;refine μf N ?_;clear B N;have au:=b5c li 0;have⟨P1,aK⟩:=η0 (b3O 0 li);rw[aK]at V o au;obtain⟨a1,e1⟩:=P1;simp only at V o au;clear aK;have⟨aL,ax⟩:=η2 o V;clear o V
 rcases au with rfl | rfl
 ·have o:=aL.o
  rw[if_neg ρo]at o;have aa:=η1 o;clear o;go_wp2_with fail;refine μi ax.o ?_;intro w5 Q;have y:=φt P Q;obtain⟨bb,bg,bi,bj⟩:=I.o w5 y;have ar:=al.o.keep Q;obtain⟨v',w6,aW,aF,aB,_⟩:=a9V (ty:=141) c8c c7u ρo ar t.fee (ρh ab.o) y.size;have aI:=y.trans ((ar.step aB y.size).mono (Qg _));obtain⟨A7,c7,aX,aC,_⟩:=aF.rd;subst aX;have T:=b7P A7 c7 (lo++[t.fee]) w6 (U64.of aC aM.o) (by have:=ab.o;simp;omega);have⟨k7,az⟩:=η0 ((lo++[t.fee]).length);rw[az]at T aW;have av:=b5c (lo++[t.fee]) 0;have⟨P2,aS⟩:=η0 (b3O 0 (lo++[t.fee]));rw[aS]at T av aa;obtain⟨a2,e2⟩:=P2;simp only at T aa av;have⟨ak,ai⟩:=η2 aI T;clear Q y ar aF aB aI aC T az aS al
  rcases av with rfl | rfl
  ·have o:=aa.o
   rw[if_neg ρo]at o
   by_cases aR:a1=a2
   ·subst aR
    rw[if_neg ρp]at o;subst o;go_wp2_with fail;refine μi ai.o ?_;intro w7 z;have U:=η1 (φt ak z);clear z;go_wp2;go_ret;exact⟨rfl,r.o.trans (U.o.mono r.o.size)⟩
   rw[if_pos aR]at o;subst o;go_wp2_with fail;refine μi ai.o ?_;intro w7 z;have U:=η1 (φt ak z);clear z;go_wp2;go_ret;exact⟨rfl,r.o.trans (U.o.mono r.o.size)⟩
  have o:=aa.o;rw[if_pos ρo]at o;subst o;go_wp2_with fail;refine μi ai.o ?_;intro w7 z;have U:=η1 (φt ak z);clear z;go_wp2;go_ret;exact⟨rfl,r.o.trans (U.o.mono r.o.size)⟩
 have o:=aL.o;rw[if_pos ρo]at o;subst o;go_wp2_with fail;refine μi ax.o ?_;intro w5 Q;have aY:=η1 (φt P Q);clear Q;go_wp2;go_ret;exact⟨rfl,r.o.trans (aY.o.mono r.o.size)⟩
end
section
attribute [local go_sem ↓] b3z a3w
theorem a5S(B p:Nat)(v:VL)(l:LI)(d:LI)(hd:d.length=32)(a:∀x∈d,0<=x/\x<=255)(w:WD)(h:a3Z B w p v l)(f:l.length<=500000000)(b:B<=w.heap.size):Calls prog 107 #[.pointer p,.agg (bys d).toArray] w λe w'=>e=.returned (.tuple #[])/\(∃v',a3Z B w' p v' (l++d)/\a7W w v v')/\Fr (λk=>k=p\/v.ownBlock=some k) w w':=by
 have b0:=Qd w 31 (bys d).toArray;have Z:Fr (λk=>k=p\/v.ownBlock=some k) w (w.alloc (.cells (bys d).toArray 31)):=(Qp _ w).alloc _;have R:=h.st.alloc (.cells (bys d).toArray 31);have V:a0N B (w.alloc (.cells (bys d).toArray 31)) v l:=World.ownsRow.alloc h.own _;have⟨W,hW⟩:=η0 (w.alloc (.cells (bys d).toArray 31));have⟨g,hg⟩:=ηs w;rw[hW]at Z R V;rw[hW,hg]at b0;have T:=(b0.drew).byt a;have ae:∀X,(SLs 31 (.pointer g) none none none).run prog X=.ok (.slice g 32 32) X:=λX=>Pi uId ρk X g ρo
 have oD:a0N B W.drew v l:=V;obtain⟨v2,w2,y,o,z,r⟩:=c3v (ty:=22) (c:=32) oD T ρo (Qk b Z.size) ρp;rw[hd]at y;obtain⟨N,S,I⟩:=V.form;obtain⟨A2,c2,rfl⟩:=o.form;have E:=a2D V R ρd;have m:=(R.drew).fr z (λe=>E e);have⟨O,U⟩:=η0 l.length;have⟨N2,Y⟩:=η0 ((l++d).length);rw[U]at I;subst I;rw[Y]at y o;have k1:W.cell? ⟨p,0,none⟩=some (.slice N O S):=R.cell 0;have k2:w2.cell? ⟨p,0,none⟩=some (.slice N O S):=m.cell 0;have f2:=m.frozen 0;have⟨O2,F0,J,ab,S2,H,HW,HG⟩:=η8 o Z z r m h hW hg;clear b0 Z R V oD hW hg T o z r m E U Y h;go_in;go_upto_region 1 with fail
 rw[HW.o,HG.o];have⟨wd,D⟩:=η0 W.drew;refine b4g [3,3,3,3,0,3,2,3,3,2] (λW'=>W'=wd) ρk ρk ρk ρk D ?_;have ad:wd.cell? ⟨p,0,none⟩=some (.slice N O S):=by rw[<-D];exact k1
 rw[D]at y⊢;refine εj2 ?_;refine εj2 ?_
 iterate 1 (with_reducible refine a1g (v:=?_) (a':=?_) ρu (λW' hS=>?_) ?_ ?_;rotate_left 2;(focus(subst hS;exact ρs));focus(exact ρs))
 refine εj1 ?_;with_reducible refine a3d ρu (λK Q=>?_)
 go_simp;with_reducible refine Q _ _ ?_;clear Q K
 refine εj2 ?_;with_reducible refine a3d ρu (λK Q=>?_)
 go_simp;with_reducible refine Q _ _ ?_;clear Q K
 with_reducible refine a6C ?_
 rw[noPan_normal];go_wp2;go_end0;have ac:=a2D O2.o S2.o ρd;have aa:Fr (λk=>(Value.slice N O S).ownBlock=some k) W w2:=⟨J.os,J.tape,J.output,J.size,J.block⟩;refine⟨rfl,⟨.slice A2 N2 c2,⟨by simpa using S2.set_ 0 (.slice A2 N2 c2),H.b1,?_⟩,?_⟩,?_⟩
 ·exact O2.fr (F:=λj=>j=p) ((Qp (λj=>j=p) w2).setCell (p:=⟨p,0,none⟩) (λ_=>rfl) (.slice A2 N2 c2)) (λj hj e=>ac (e ▸ hj))
 ·intro j hj
  rcases ab.o j ((b0K A2 _ _ _ _).trans hj)with h | h
  ·exact .inl h
  exact .inr (Qk F0.size h)
 refine(F0.trans (aa.mono (G:=λj=>j=p\/(Value.slice N O S).ownBlock=some j) (λj _ h=>.inr h)) (λj hj h=>h)).setCell (p:=⟨p,0,none⟩) (λ_=>.inl rfl) _
end
section
def EQs(t:TI)(x y:VL):Sem VL:=binOp .eql t x y
theorem c8z(x y:VL):binOp .eql 189 x y=EQs 189 x y:=rfl
attribute [local go_sem ↓] a1F b6y c8z
theorem c3t{i:InD}(h:i.Bd)(A:OA)(c:Nat):(inV i A c)[33]? =some (.int .u64 i.am):=by
 simp[inV,ptL,a0a,h.len]
end
section
attribute [local go_sem ↓] b6Y
theorem a0k{P:PG}{fn:Func}{p q:Tmp}(h:fn.results=#[.cell p ty,.tmp q])(tmps:AV)(w:WD)(g:Nat)(t:TI)(cs:AV)(fr:Nat×Nat){d:TypeDesc} (hg:w.heap[g]? =some (.cells cs t fr)) (hu:P.underlying ty=some d) (hd:a1f d=true) (hi:(P.info? ty).map (·.size)=some cs.size) (hp:tmps.getD p undef=.pointer g)  (hq:tmps.getD q undef=v:=by rfl):(results fn tmps).run P w=.ok (.tuple #[.agg cs,v]) w:=by
 have b:tmps[p]?.getD undef=.pointer g:=ρw hp;have a:tmps[q]?.getD undef=v:=ρw hq;simp[results,h,b,a,asAddr,run_loadVar_row w g t ty cs fr d hg hu (by cases d<;>simp_all [a1f]) hi]
def a0S(w:WD)(p s:Nat)(l:LI):Prop:=∃A c,b8R w p A c l/\∀a,A=some a->a.block=s
theorem a0S.fr{w b:WD}{p s:Nat}{l:LI}{F:Nat->Prop}(h:a0S w p s l)(d:Fr F w b)(f:¬F p)(g:¬F s):a0S b p s l:=by
 obtain⟨A,c,j,m⟩:=h;exact⟨A,c,⟨j.st.fr d f,j.by_.fr d (λa e _=>by rw[m a e];exact g),j.ne,j.cap⟩,m⟩
theorem a0S.far{s:Nat}(h:a0S w p s l)(a:Blk w g t cs)(ht:218≠t):p≠g:=by
 obtain⟨A,c,b,_⟩:=h;exact b.st.ne_ a ht
theorem a7u(p s:Nat)(l:LI)(n:Nat)(d:n<=l.length)(f:l.length<=1000000000)(w:WD)(h:a0S w p s l):Calls prog 115 #[.pointer p,.int .i64 n] w λe w'=>(∃A',e=.returned (.slice A' n n)/\Byt w' A' (l.take n))/\a0S w' p s (l.drop n)/\Fr (λk=>k=p) w w':=by
 obtain⟨A,c,h,O⟩:=h;have R:w.cell? ⟨p,0,none⟩=some (.slice A l.length c):=h.st.cell 0;have X:=h.st.frozen 0;obtain⟨K,v,m,D,_⟩:=c7j h.by_ c 0 n n none (some (.int .i64 n)) (some (.int .i64 n)) (Zu _) d (Qg _) (Qk d h.cap) (.inl ⟨rfl,rfl⟩) (.inr ⟨_,rfl,rfl⟩) (.inr ⟨⟨_,rfl,rfl⟩,by simp⟩);obtain⟨B,F,r,y,z⟩:=c7j h.by_ c n l.length c (some (.int .i64 n)) none none d (Qg _) h.cap (Qg _) (.inr ⟨_,rfl,rfl⟩) (.inl ⟨rfl,rfl⟩) (.inl ⟨rfl,rfl⟩);simp only[Nat.sub_zero,Zs]at v m;rw[Qb ρp]at r;have⟨N,J⟩:=η0 l.length;rw[J]at R v F;have V:(n:Int)<=(N:Int):=ρo;have⟨H,x,Q,P,T,I,W,U⟩:=η8 h J m r D y z O;clear h J m r D y z O;go_in;go_wp2;go_ret;have hF:Fr (λk=>k=p) w (w.setCell ⟨p,0,none⟩ (.slice B (N-n) (c-n))):=(Qp (λk=>k=p) w).setCell (p:=⟨p,0,none⟩) (λ_=>rfl) _
 have j:∀A':OA,(∀a,A'=some a->∃b,A=some b/\a.block=b.block)->0<N->∀a,A'=some a->a.block≠p:=λA' S o a g=>by
  obtain⟨b,G,E⟩:=S a g;rw[E];exact H.ne b G (ρy x.o o)
 refine⟨⟨K,rfl,Q.fr hF (λa g o=>j K T.o (by have:=x.o;simp at o;omega) a g)⟩,⟨B,c-n,⟨?_,P.fr hF (λa g o=>j B I.o (by have:=x.o;simp at o;omega) a g),λa g o=>j B I.o (by have:=x.o;simp at o;omega) a g,?_⟩,λa g=>?_⟩,hF⟩
 ·have:=H.st.set_ 0 (.slice B (N-n) (c-n))
  rw[Yp,x.o]
  simpa using this
 ·have:=H.cap
  rw[Yp];omega
 obtain⟨b,G,E⟩:=I.o a g;rw[E];exact U.o b G
theorem b2R(p s:Nat)(l:LI)(most val:Nat)(b:LI)(_hm:most<=18446744073709551615)(f:l.length<=1000000000)(w:WD)(h:a0S w p s l)(d:a2J most l=some (val,b)):Calls prog 60 #[.pointer p,.int .u64 most] w λe w'=>e=.returned (.int .u64 val)/\a0S w' p s b/\Fr (λk=>k=p) w w':=by
 cases l with
 | nil=>simp[a2J]at d
 |
  cons k g=>
  have E:∀x∈k::g,0<=x/\x<=255:=by
   obtain⟨A,c,he,_⟩:=h;exact he.by_.bd
  have hk:=E k ρp;obtain⟨K,rfl⟩:∃K:Nat,k=K:=⟨k.toNat,by omega⟩;have ag:K<=255:=ρo;simp only[a2J,Zd]at d
  split at d
  ·cases d
  rename_i hno
  simp only[Option.some.injEq,Prod.mk.injEq]at d;obtain⟨j,m⟩:=d;have ah:(K:Int)<=8:=ρo;have U:K<=g.length:=ρo;have ab:g.length<=1000000000:=by simp at f;omega
  have⟨HV,D,J,H,Z⟩:=η5 j m hno h E;clear j m hno h E hk;go_in;go_wp2_with fail;have F:=a7u p s ((K:Int)::g) 1 ρp f w H.o;rw[show((1:Nat):Int)=1 from rfl]at F;refine μ1 F ?_;rintro e w1 ⟨⟨A1,rfl,y1⟩,h2,f1⟩;obtain⟨g1,o1,rfl,_,V⟩:=y1.at_ (i:=0) ρp;have ac:w1.cell? ⟨g1,o1,none⟩=some (.int .u8 K):=ρw V;have P:a0S w1 p s g:=ρw h2;have R:=a7u p s g K U ab w1 P;have F1:=η1 f1;clear f1 y1 h2 V P F;go_wp2_with fail;refine μ1 R ?_;rintro e w2 ⟨⟨A3,rfl,y3⟩,h4,f2⟩;have N:(g.take K).length=K:=by rw[Qx];omega
  have⟨F2,Y3,H4,S⟩:=η4 (F1.trans f2 (λ_ _ h=>h)) y3 h4 N;clear y3 h4 N f2 R;go_wp2_with fail
  go_loopw [6,22] (λv t wr=>∃i:Nat,i<=K/\t=.int .i64 i/\v=.int .u64 (a9g ((g.take K).take i):Nat)/\wr=w2)
   (λ_ t _=>K-(intOf t).toNat)
  exact⟨0,Zu _,rfl,rfl,rfl⟩;obtain⟨i,hi,rfl,rfl,hw⟩:=hrel;subst hw;have G:=b2X ((g.take K).take i) (λx W=>Z.o x (Qj _ (QM (QM W))));rw[Qx,S.o,QY hi]at G;have T:a9g ((g.take K).take i)<256 ^ i:=G;have I:=η1 T;clear T G
  by_cases aa:i<K
  ·have y:i<(g.take K).length:=by rw[S.o];exact aa
   obtain⟨g3,o3,rfl,_,O⟩:=Y3.at_ y;have Q:=Y3.bd (g.take K)[i] (Qu _);have e1:(g.take K).take (i+1)=(g.take K).take i++[(g.take K)[i]]:=Qe y
   have Y:i=0->g.headD 1=(g.take K)[i]:=λe=>by
    subst e
    cases g with
    | nil=>simp at y
    | cons a r=>simp
   have⟨x,W⟩:=η0 ((g.take K)[i]);rw[W]at O Q e1 Y;obtain⟨X,rfl⟩:∃X:Nat,x=X:=⟨x.toNat,by omega⟩
   generalize hv:a9g ((g.take K).take i)=v at I⊢
   have h7:i<=7:=ρo
   have ae:v<72057594037927936:=Qh I.o (by
    have:=Nat.pow_le_pow_right (n:=256) ρo h7
    simpa using this)
   have ak:X<=255:=ρo
   have ad:bits .or .u64 ((v:Int)*256) (X:Int)=((v*256+X:Nat):Int):=by
    have e:=c1d v X ρo ρo
    rwa [Int.natCast_mul]at e
   have j:a9g ((g.take K).take (i+1))=v*256+X:=by rw[e1,a8E,hv,Zd]
   have z:=J.o
   have o:i=0->X≠0:=λe e'=>by
    have e3:=Y e;rw[e']at e3;exact z (.inr (.inr (.inl ⟨by omega,e3⟩)))
   have⟨B,al⟩:=η2 j Y;clear j Y W Q y hv e1 z
   by_cases h0:i=0
   ·subst h0
    have aj:((X:Int) == 0)=false:=by have:=o rfl;simp;omega
    simp only[ZH]at O;clear o;go_wp2;go_roundw
    case rel=>exact⟨1,by omega,by go_num,by rw[B.o];go_num,by first | rfl | trivial⟩
    case measure=>simp[intOf];omega
   have ai:((i:Int) == 0)=false:=by simp;omega
   clear o;go_wp2;go_roundw
   case rel=>exact⟨i+1,by omega,by go_num,by rw[B.o];go_num,by first | rfl | trivial⟩
   case measure=>simp[intOf];omega
  obtain rfl:i=K:=ρo;have ht:(g.take i).take i=g.take i:=by rw[List.take_take,Nat.min_self]
  rw[ht,HV.o]at I;rw[ht,HV.o]
  have af:(val:Int)<=(most:Int):=by
   have:=J.o
   rw[HV.o]at this;omega
  clear ht;go_wp2;go_ret;refine⟨rfl,?_,F2.o⟩;rw[<-D.o];exact H4
theorem c3o(p s:Nat)(l:LI)(most:Nat)(x r:LI)(b:most<=400000000)(d:l.length<=400000000)(w:WD)(h:a0S w p s l)(a:a8o most l=some (x,r)):Calls prog 61 #[.pointer p,.int .i64 most] w λe w'=>(∃v,e=.returned v/\a0N w w' v x)/\a0S w' p s r/\Fr (λk=>k=p) w w':=by
 have V:(0:Int)<=(most:Int):=ρo;unfold a8o at a
 cases hN:a2J most l with
 | none=>rw[hN]at a;cases a
 |
  some Z=>
  obtain⟨v,q⟩:=Z;obtain⟨hv,aa⟩:=a3y hN;rw[hN]at a;simp only at a
  split at a
  ·cases a
  rename_i hfew
  simp only[Option.some.injEq,Prod.mk.injEq]at a;obtain⟨rfl,rfl⟩:=a;have j:=b2R p s l most v q ρo ρo w h hN;clear h hN;go_in;go_wp2_with fail;refine μ1 j ?_;rintro e T ⟨rfl,I,N⟩;have ht:=a7u p s q v ρo ρo T I;have Y:=η1 N;clear N I j;go_wp2_with fail;refine μ1 ht ?_;rintro e w2 ⟨⟨S,rfl,E⟩,P,R⟩;have y:(q.take v).length=v:=by rw[Qx];omega
  have z:S=none->v=0:=by
   rintro rfl
   rcases Zq v with J | J
   ·exact J
   obtain⟨g,o,e,_⟩:=E.cell ρo
   cases e
  have f:=a8r S v z (q.take v) w2 E ρo;rw[y]at f;have⟨H,U,B⟩:=η3 f P (Y.trans R (λ_ _ h=>h));clear f P ht E y z R;have m:=B.size;have G:=η1 m;clear m;go_wp2_with fail;refine μ1 H.o ?_;rintro e w3 ⟨u,rfl,Q,K⟩;have⟨X,O⟩:=η2 Q K;clear Q K;go_wp2;go_ret;obtain⟨W,c4,D,F⟩:=U.o;exact⟨⟨u,rfl,X.base G.o⟩,⟨W,c4,D.below O.o,F⟩,B.trans (Q9 O.o) (λk hk h=>by have:=B.size;omega)⟩
theorem c5x{P:PG}{t:TI}{n:Nat}(hi:(P.info? t).map (·.size)=some n)(a:(((P.info? t).bind (·.zero)).map (·.cells.size))=some n):∃ Z:AV,(∀W:WD,(ALs t).run P W=.ok (.pointer (some ⟨W.heap.size,0,none⟩)) (W.alloc (.cells Z t)))/\(∀(W:WD) (xs:LV),xs.length=n->(∀v∈xs,v.oneCell'=true)->(STs t (.pointer (some ⟨W.heap.size,0,none⟩)) (.agg xs.toArray)).run P (W.alloc (.cells Z t))=.ok () (W.alloc (.cells xs.toArray t)))/\Z.size=n:=by
 obtain⟨z,b,d⟩:=Q8.1 a;exact⟨z.cells,λW=>a0U z b W,λW xs f b=>a7S hi W _ d xs f b,d⟩
abbrev Pk:=@c5x prog
theorem d0T:(((prog.info? 31).bind (·.zero)).map (·.cells.size))=some 32:=ρk
theorem d2k:(prog.underlying 31).map a1f=some true:=ρk
attribute [local go_sem ↓] a2t a2s a2n
theorem c9g(p s:Nat)(l:LI)(a:32<=l.length)(b:l.length<=1000000000)(w:WD)(h:a0S w p s l)(d:p<w.heap.size)(f:s<w.heap.size):Calls prog 117 #[.pointer p] w λe w'=>e=.returned (.agg (bys (l.take 32)).toArray)/\a0S w' p s (l.drop 32)/\Fr (λk=>k=p) w w':=by
 obtain⟨Z,E,_,hZ⟩:=Pk (t:=31) a5m d0T;have y:=E w;have G:=Qd w 31 Z;have H:=ρb w (.cells Z 31);have⟨W,F⟩:=η0 (w.alloc (.cells Z 31));have⟨g,K⟩:=ηs w;rw[F]at H;rw[F,K]at G y;have J:=h.fr (Q9 H) (show¬_<=_ by omega) (show¬_<=_ by omega);have B:=J.far G ρd;have ht:=a7u p s l 32 a b W J;rw[show((32:Nat):Int)=32 from rfl]at ht;have r:(l.take 32).length=32:=by rw[Qx];omega
 have f0:Fr (λk=>k=p) w W:=(Q9 H).mono (λk hk h=>ρo)
 generalize hT:l.take 32=T at ht r⊢
 have⟨HW,HG,I,D,Q,HZ⟩:=η6 F K G B f0 hZ;clear F K G B f0 hZ hT h J H E;go_in;go_upto_region 1 with fail
 clear y;go_wp2_with fail;refine μ1 ht ?_;rintro e V ⟨⟨A1,rfl,Y⟩,X,O⟩;obtain⟨g1,o,rfl,aa,hc⟩:=Y.cell ρo;have ab:=b5M (P:=prog) (t:=31) b1w (some ⟨g1,o,none⟩) 32 32 (Qg _);have m:(bys T).length=32:=by rw[a0a];exact r
 have ac:=Pf d2k a5m V g1 o (bys T) m (λj v hv=>by
  rw[a3J]at hv;obtain⟨x,hx,rfl⟩:=Q8.1 hv;exact hc j x hx)
 have z:=I.fr O (λe=>D.o e.symm);have N:=Pa (t:=31) a5m z (off:=0) (bys T) m (by rw[HZ.o];omega) (a0h _);rw[a0q _ _ (by rw[m,HZ.o])]at N;have S:=ρr (g) V (bys T).toArray;have h3:=X.fr S (show¬_=_ from D.o) (show¬_=_ by have:=HG.o;omega);have f3:=(Q.trans O (λ_ _ h=>h)).trans S (λk hk e=>by have:=HG.o;omega);have⟨H3,F3,U,R⟩:=η4 h3 f3 z m;clear h3 f3 z m X O Y hc r ht S;go_wp2;refine bodyPost_ret (a0c rfl _ _ g 31 (bys T) _ rfl (U.row_ _) b1w rfl (ρy R.o a5m)) rfl ?_;exact⟨rfl,H3.o,F3.o⟩
end
section
abbrev a1B:=ldOf 31
theorem a2i:(prog.underlying 31).map a1f=some true:=ρk
theorem iId:(prog.info? 31).map (·.size)=some 32:=ρk
attribute [local go_sem ↓] a6W a8U a9c a9R b0o b0b a1B
theorem a8p{g:WD}(b:d≠p)(a:v.ownBlock≠some d)(m:Blk w d t cs)(f:a7W w v j)(o:Fr (λk=>k=p\/v.ownBlock=some k) w g):Blk g d t cs/\j.ownBlock≠some d:=by
 refine⟨m.fr o (λh=>h.elim b a),λe=>?_⟩
 rcases f d e with h | h
 ·exact a h
 have:=m.lt
 omega
theorem a1j(h:a3Z B w p v l)(b:Fr (λk=>k=p\/v.ownBlock=some k) w a)(d:B<=w.heap.size):Below B w a:=
 b.below d (λk hk e=>by
  rcases e with e | e
  ·have:=h.b1;omega
  have:=(h.own.lt e).1;omega)
theorem c9E{i:InD}(h:i.Bd)(A:OA)(c:Nat):((inV i A c).toArray.toList.drop 0).take 32=bys i.tx:=by
 simp only[Zs];unfold inV ptL;rw[QC,QJ (by rw[a0a,h.len];omega),Qb (by rw[a0a,h.len];omega)]
theorem b3l{o:a1q}(h:o.Bd):((a1s o).toArray.toList.drop 0).take 32=bys o.ow:=by
 simp only[Zs];unfold a1s;rw[QJ (by rw[a0a,h.len];omega),Qb (by rw[a0a,h.len];omega)]
theorem c9t{i:InD}(h:i.Bd)(A:OA)(c:Nat):(inV i A c).toArray[32]? =some (.int .i64 i.ix):=by
 simp[inV,ptL,a0a,h.len]
theorem b7W{i:InD}(h:i.Bd)(A:OA)(c:Nat):(inV i A c).toArray[34]? =some (.slice A i.sec.length c):=by
 simp[inV,ptL,a0a,h.len]
theorem a1C(h:0<=x):∃n:Nat,x=(n:Int):=⟨x.toNat,by omega⟩
theorem b9Z(j:OA)(b:Nat)(m:OA)(f:Nat)(t:TxD)(w:WD)(h:a9H w j m t)(r:t.ins.length<=1000000)(o:t.outs.length<=1000000):Calls prog 220 #[.agg (txV j b m f t)] w λe w'=>∃v,e=.returned (.tuple #[v,.int .i64 (a1a t)])/\a0N w w' v (b3c t)/\Below w w w':=by
 have b0:=Qd w 53 (txV j b m f t);have B0:=ρb w (.cells (txV j b m f t) 53);have⟨W,hW⟩:=η0 (w.alloc (.cells (txV j b m f t) 53));have⟨g,hg⟩:=ηs w;rw[hW]at B0;rw[hW,hg]at b0;have aY:g<W.heap.size:=b0.lt;have hT:=h.below B0
 have a9:∀X,Below W W X->X.cell? ⟨g,0,none⟩=some (.slice j t.ins.length b)/\X.cell? ⟨g,1,none⟩=some (.slice m t.outs.length f)/\X.cell? ⟨g,2,none⟩=some (.int .u64 t.fee)/\X.cell? ⟨g,3,none⟩=some (.int .i64 t.exp):=λX hX=>
  ⟨(hX.cell (p:=⟨g,0,none⟩) aY).trans (b0.cell 0),(hX.cell (p:=⟨g,1,none⟩) aY).trans (b0.cell 1),(hX.cell (p:=⟨g,2,none⟩) aY).trans (b0.cell 2),(hX.cell (p:=⟨g,3,none⟩) aY).trans (b0.cell 3)⟩
 have bi:=a3L j b m f t W hT r o
 generalize hR:a1a t=R at bi⊢
 have⟨HW,HG,b8,G,HT,aE,HR⟩:=η7 hW hg B0 a9 hT bi hR;clear hW hg B0 b0 a9 hT bi hR r o aY
 by_cases ck:R=0
 ·subst ck
  have ay:b3c t=a9w t:=by unfold b3c;rw[if_pos HR.o]
  rw[ay];obtain⟨aa,_⟩:=a4S HR;obtain⟨⟨bT,bN⟩,⟨cd,b7⟩,⟨bR,cR⟩,V⟩:=a4R aa;obtain⟨aH,aq,ah⟩:=HT.o;obtain⟨ins,outs,fee,exp⟩:=t;simp only at bT bN cd b7 bR cR V aH aq ah;have bs:=b2t ah aa;have bE:=b4h ah aa;have bf:=ah.ins;have bm:=ah.outs;have bU:=ah.fee;simp only at bf bm bU;obtain⟨nf,rfl⟩:=a1C bU.1;obtain⟨ne,rfl⟩:=a1C bR;have⟨N,aB⟩:=η0 ins.length;have⟨O,a0⟩:=η0 outs.length
  have aC:a9w ⟨ins,outs,(nf:Int),(ne:Int)⟩=a0K N++ins.flatMap inF++a0K O++outs.flatMap b3j++a0K nf++a0K ne:=by
   unfold a9w;simp only[aB,a0,Zd]
  rw[aC]at bs bE⊢;rw[aB]at bT bN;rw[a0]at cd b7;have c6:IntKind.u64.wrap (N:Int)=N:=by rw[IntKind.wrap_u64];omega
  have c9:IntKind.u64.wrap (O:Int)=O:=by rw[IntKind.wrap_u64];omega
  have c8:IntKind.u64.wrap (ne:Int)=ne:=by rw[IntKind.wrap_u64];omega
  obtain⟨Z,cy,bX⟩:=Pg (t:=191) iIn zIn;obtain⟨Y,cJ,b4⟩:=Pg (t:=56) c6h d1w;unfold txV at HW aE⊢;simp only[aB,a0]at HW G aE⊢;have⟨bq,bl,HI,HO,bu,bn,cD,bD⟩:=η8 aB a0 aH aq bf bm bs bE;have⟨ax,cS,cE⟩:=η3 V bX b4;clear aB a0 aH aq bf bm bs bE V bX b4 ay aa h ah HT aC;obtain⟨q0,q1,q2,q3⟩:=G.o W (Qf _ _);go_in;go_upto_region 1 with fail
  rw[HW.o,HG.o];go_wp2_with fail;refine μi aE.o ?_;intro w1 aA;have a2:=η1 aA;clear aA q0 q1 q2 q3;have aZ:a3Z w1 (w1.alloc (.cells #[.slice none 0 0] 123)) w1.heap.size (.slice none 0 0) []:=⟨Qd w1 _ _,Qg _,a0N.nil _ _⟩;have aJ:=ρb w1 (.cells #[.slice none 0 0] 123);have⟨w2,bc⟩:=η0 (w1.alloc (.cells #[.slice none 0 0] 123));have⟨p,hp⟩:=ηs w1;rw[bc]at aZ aJ;rw[hp]at aZ aJ;have bw:p<=w2.heap.size:=by rw[<-hp];exact aJ.size
  have bb:W.heap.size<=p:=by rw[<-hp];exact a2.size
  have aG:Below W W w2:=a2.trans (aJ.mono bb);obtain⟨q0,q1,q2,q3⟩:=G.o w2 aG;have ba:=a2M p p (.slice none 0 0) [] N ρo w2 aZ ρp bw;have⟨cv,HP,ce,H,cx⟩:=η5 bc hp aG bb aZ;clear bc hp aZ aJ aG bb;go_upto_region 5 with fail
  rw[cv.o,HP.o];go_wp2_with fail;refine μ1 ba ?_;rintro e w3 ⟨rfl,⟨v3,bg,cf⟩,bV⟩;rw[QF]at bg;have bj:=a1j cx bV bw;have aK:=ce.trans (bj.mono (Qk H (Qg _)));obtain⟨q0,q1,q2,q3⟩:=G.o w3 aK;have bO:p<=w3.heap.size:=Qk bw bj.size;have⟨cA,cL⟩:=η2 bg aK;clear bg cf bV bj aK ba;go_upto_region 7 with fail
  have aL:∀i,i<=N->(a0K N++(ins.take i).flatMap inF).length<=2000:=λi hi=>by
   have h1:=b0V inF 123 (ins.take i) (λx hx=>b9S (bu.o x (QM hx)) (ax.o x (QM hx)).1 (ax.o x (QM hx)).2);have h2:=a0p (n:=N) ρo;have h3:(ins.take i).length*123<=16*123:=Zb _ (by rw[Qx];omega);simp only[Qa];omega
  have an:=η1 aL;clear aL q0 q1 q2 q3;go_loopg [7,23] N (λkk _ s wr=>∃(i:Nat) (v:VL),i+kk=N/\s=.int .i64 i/\a3Z p wr p v (a0K N++(ins.take i).flatMap inF)/\Below W W wr/\p<=wr.heap.size);exact⟨0,v3,by omega,rfl,by simpa using cA.o,cL.o,bO⟩;obtain⟨i,v,hi,rfl,y,hB,bA⟩:=hrel
  by_cases cz:i<N
  ·have aX:(i:Int)<N:=ρo
   have ad:i<ins.length:=by rw[bq.o];exact cz
   obtain⟨g',off,As,cs,rfl,bW,au⟩:=HI.o i ad;have aU:=au.below bW hB;have z:=bu.o _ (Qu ad);obtain⟨ci,bS,cc⟩:=ax.o _ (Qu ad);have bC:=a2e uIn iIn wr g' (off+i*35) (inV ins[i] As cs) (a3l z _ _) aU.cell;have a1:=cS.o wr (inV ins[i] As cs) (a3l z _ _) (a8W _ _ _);have b5:=Qd wr 191 (inV ins[i] As cs).toArray;have B5:=hB.alloc hB.size (.cells (inV ins[i] As cs).toArray 191);have E:a3Z p (wr.alloc (.cells (inV ins[i] As cs).toArray 191)) p v (a0K N++(ins.take i).flatMap inF):=⟨y.st.alloc _,y.b1,World.ownsRow.alloc y.own _⟩;have ai:wr.heap.size≠p:=λe=>by have:=y.st.lt;omega
   have aO:v.ownBlock≠some wr.heap.size:=λe=>by have:=(y.own.lt e).2;omega
   have hid:=a0g a2i iId b5 (off:=0) (bys ins[i].tx) (by rw[a0a,z.len]) (c9E z As cs);have B:p<=(wr.alloc (.cells (inV ins[i] As cs).toArray 191)).heap.size:=by simp;omega
   generalize aM:wr.alloc (.cells (inV ins[i] As cs).toArray 191)=W5 at a1 b5 B5 E hid B
   have⟨d,hd⟩:=ηs wr;rw[hd]at b5 ai aO hid
   have aT:(ins.take (i+1)).flatMap inF=(ins.take i).flatMap inF++inF ins[i]:=by
    rw[Qe ad,List.flatMap_append];simp
   obtain⟨nx,br⟩:=a1C bS;obtain⟨na,aj⟩:=a1C z.am.1;have cZ:IntKind.u64.wrap (nx:Int)=nx:=by rw[IntKind.wrap_u64];omega
   have bL:nx<18446744073709551616:=ρo;have ab:na<18446744073709551616:=by have:=z.am;omega
   have a4:=an.o i ρo
   have hF:inF ins[i]=ins[i].tx++(a0K nx++(a0K na++(a0K ins[i].sec.length++ins[i].sec))):=by
    unfold inF;rw[br,aj,Zd,Zd]
   have⟨l0,ae⟩:=η0 (a0K N++(ins.take i).flatMap inF);rw[ae]at E a4;have F:=z.len;have c0:=a0p (n:=nx) ρo;have ca:=a0p (n:=na) ab
   have D:a0K N++(ins.take (i+1)).flatMap inF=l0++ins[i].tx++a0K nx++a0K na++(a0K ins[i].sec.length++ins[i].sec):=by
    rw[aT,<-QC,ae,hF];simp only[QC]
   have ag:=c9t z As cs;have bI:=c6f z As cs;have bx:=b7W z As cs;rw[br]at ag;rw[aj]at bI;have I:=z.tx;have al:=au.sec;have bH:=au.nul;have⟨tx,aD⟩:=η0 (ins[i].tx);have⟨sec,V⟩:=η0 (ins[i].sec);have⟨xs,aV⟩:=η0 ((inV ins[i] As cs).toArray);rw[aV]at bC a1 b5 ag bI bx;rw[aD]at hid F D I;rw[V]at D bx al ci;have⟨sl,bY⟩:=η0 sec.length;have b:=a5S p p v l0 tx F I W5 E ρo B;have⟨cO,HD,aP,aS,aW,bB,cn,bG⟩:=η8 aM hd D E B5 b5 al bY;clear y hB au aU z bS cc aV aD V br aj hF ae aT aM hd D E B5 b5 al I bY;go_upto_region 9 with fail
   rw[HD.o];go_wp2_with fail;refine μ1 b ?_;rintro e w6 ⟨rfl,⟨v6,S,K⟩,T⟩;obtain⟨k6,a8⟩:=a8p ai aO bB K T;have Q:=a1j aS T B;have J:p<=w6.heap.size:=Qk B Q.size;have c2:w6.cell? ⟨d,32,none⟩=some (.int .i64 nx):=(k6.cell 32).trans ag;have⟨bp,cQ,ak⟩:=η3 S k6 (aW.trans (Q.mono (Qk H (Qg _))));have f:=a2M p p v6 (l0++tx) nx bL w6 S (by simp only[Qa];omega) J;clear S K T k6 Q b;go_upto_region 10 with fail
   go_wp2_with fail;refine μ1 f ?_;rintro e w7 ⟨rfl,⟨v7,ao,av⟩,az⟩;obtain⟨k7,bP⟩:=a8p ai a8 cQ av az;have U:=a1j bp az J;have ac:p<=w7.heap.size:=Qk J U.size;have cT:w7.cell? ⟨d,33,none⟩=some (.int .u64 na):=(k7.cell 33).trans bI;have⟨be,cP,aN⟩:=η3 ao k7 (ak.trans (U.mono (Qk H (Qg _))));have c3:=a2M p p v7 (l0++tx++a0K nx) na ab w7 ao (by simp only[Qa];omega) ac;clear ao av az k7 U f;go_wp2_with fail;refine μ1 c3 ?_;rintro e w8 ⟨rfl,⟨v8,a3,a7⟩,bk⟩;obtain⟨k8,cW⟩:=a8p ai bP cP a7 bk;have bF:=a1j be bk ac;have aI:p<=w8.heap.size:=Qk ac bF.size;have c7:w8.cell? ⟨d,34,none⟩=some (.slice As sl cs):=by rw[<-bG.o];exact(k8.cell 34).trans bx
   have⟨cr,b9⟩:=η2 a3 (aN.trans (bF.mono (Qk H (Qg _))))
   have c4:=b7A p p v8 (l0++tx++a0K nx++a0K na) As cs bH sec w8 a3 (cn.below b9.o) (λa ea h0=>by
    obtain⟨ga,oa,eq,c5,_⟩:=cn.cell h0;rw[ea]at eq
    cases eq
    rintro(e | e)
    ·have e':ga=p:=e
     have:=H.o
     omega
    have e':p<=ga:=(a3.own.lt e).1
    have:=H.o
    omega) (by simp only[Qa];omega) (by simp only[Qa];omega) aI
   rw[bG.o]at c4;clear a3 a7 bk k8 bF c3;go_wp2_with fail;refine μ1 c4 ?_;rintro e w9 ⟨rfl,⟨v9,bv,b6⟩,bM⟩;have bJ:=a1j cr bM aI;have bK:p<=w9.heap.size:=Qk aI bJ.size;have D:=aP.o;rw[bG.o]at D;rw[<-D]at bv;have⟨cq,cB⟩:=η2 bv (b9.trans (bJ.mono (Qk H (Qg _))));clear bv b6 bM bJ c4 D;go_wp2;go_roundg (N-(i+1));exact⟨i+1,v9,by omega,by go_num,cq.o,cB.o,bK⟩;omega
  obtain rfl:N=i:=ρo;have aX:¬(N:Int)<N:=ρo;have a4:=an.o N (Qg _);rw[Qb (by rw[bq.o];exact Qg _)]at y a4;have⟨l0,ae⟩:=η0 (a0K N++ins.flatMap inF);have a5:=cD.o;rw[ae]at y a4 a5 bD;have ct:=η1 ae;obtain⟨q0,q1,q2,q3⟩:=G.o wr hB;obtain⟨wo,cN⟩:∃wo,wo=wr:=⟨_,rfl⟩;subst cN;have b:=a2M p p v l0 O ρo wo y ρo bA;have⟨ch,HB⟩:=η2 y hB;clear y hB ae an bq HI bu ax cy;go_wp2_with fail;refine μ1 b ?_;rintro e w4 ⟨rfl,⟨v4,bQ,cg⟩,b3⟩;have bo:=a1j ch b3 bA;have aQ:=HB.trans (bo.mono H);have cj:p<=w4.heap.size:=Qk bA bo.size;obtain⟨cw,cu,cK,cI⟩:=G.o w4 aQ;have⟨cC,cM⟩:=η2 bQ aQ;clear bQ cg b3 bo aQ b q0 q1 q2 q3;have cV:=a0p (n:=O) ρo
  have aL:∀i,i<=O->(l0++a0K O++(outs.take i).flatMap b3j).length<=3000:=λi hi=>by
   have h1:=b0V b3j 41 (outs.take i) (λx hx=>b7X (bn.o x (QM hx)));have h3:(outs.take i).length*41<=16*41:=Zb _ (by rw[Qx];omega);simp only[Qa];omega
  have an:=η1 aL;clear aL;go_upto_region 16 with fail
  clear cw cu cK cI;go_loopg [9,51] O (λkk _ s wr=>∃(i:Nat) (v:VL),i+kk=O/\s=.int .i64 i/\a3Z p wr p v (l0++a0K O++(outs.take i).flatMap b3j)/\Below W W wr/\p<=wr.heap.size);exact⟨0,v4,by omega,rfl,by simpa using cC.o,cM.o,cj⟩;obtain⟨i,v,hi,rfl,y,hB,aF⟩:=hrel
  by_cases cp:i<O
  ·have aX:(i:Int)<O:=ρo
   have ad:i<outs.length:=by rw[bl.o];exact cp
   obtain⟨g',off,rfl,bW,aU⟩:=HO.below hB i ad;have z:=bn.o _ (Qu ad);have bC:=a2e d1I c6h wr g' (off+i*33) (a1s outs[i]) (a0G z) aU;have a1:=cE.o wr (a1s outs[i]) (a0G z) (a1O _);have b5:=Qd wr 56 (a1s outs[i]).toArray;have B5:=hB.alloc hB.size (.cells (a1s outs[i]).toArray 56);have E:a3Z p (wr.alloc (.cells (a1s outs[i]).toArray 56)) p v (l0++a0K O++(outs.take i).flatMap b3j):=⟨y.st.alloc _,y.b1,World.ownsRow.alloc y.own _⟩;have ai:wr.heap.size≠p:=λe=>by have:=y.st.lt;omega
   have aO:v.ownBlock≠some wr.heap.size:=λe=>by have:=(y.own.lt e).2;omega
   have hid:=a0g a2i iId b5 (off:=0) (bys outs[i].ow) (by rw[a0a,z.len]) (b3l z);have B:p<=(wr.alloc (.cells (a1s outs[i]).toArray 56)).heap.size:=by simp;omega
   generalize aM:wr.alloc (.cells (a1s outs[i]).toArray 56)=W5 at a1 b5 B5 E hid B
   have⟨d,hd⟩:=ηs wr;rw[hd]at b5 ai aO hid
   have aT:(outs.take (i+1)).flatMap b3j=(outs.take i).flatMap b3j++b3j outs[i]:=by
    rw[Qe ad,List.flatMap_append];simp
   obtain⟨na,aj⟩:=a1C z.am.1;have ab:na<18446744073709551616:=by have:=z.am;omega
   have ar:=an.o i ρo
   have hF:b3j outs[i]=outs[i].ow++a0K na:=by
    unfold b3j;rw[aj,Zd]
   have⟨l1,af⟩:=η0 (l0++a0K O++(outs.take i).flatMap b3j);rw[af]at E ar;have F:=z.len;have ca:=a0p (n:=na) ab
   have D:l0++a0K O++(outs.take (i+1)).flatMap b3j=l1++outs[i].ow++a0K na:=by
    rw[aT,<-QC,af,hF];simp only[QC]
   have ag:=b6R z;rw[aj]at ag;have I:=z.ow;have⟨tx,aD⟩:=η0 (outs[i].ow);have⟨xs,aV⟩:=η0 ((a1s outs[i]).toArray);rw[aV]at bC a1 b5 ag;rw[aD]at hid F D I;have b:=a5S p p v l1 tx F I W5 E ρo B;have⟨cO,HD,aP,aS,aW,bB⟩:=η6 aM hd D E B5 b5;clear y hB aU z aV aD aj hF af aT aM hd D E B5 b5 I;go_upto_region 18 with fail
   rw[HD.o];go_wp2_with fail;refine μ1 b ?_;rintro e w6 ⟨rfl,⟨v6,S,K⟩,T⟩;obtain⟨k6,a8⟩:=a8p ai aO bB K T;have Q:=a1j aS T B;have J:p<=w6.heap.size:=Qk B Q.size;have cT:w6.cell? ⟨d,32,none⟩=some (.int .u64 na):=(k6.cell 32).trans ag;have⟨bp,ak⟩:=η2 S (aW.trans (Q.mono H));have f:=a2M p p v6 (l1++tx) na ab w6 S (by simp only[Qa];omega) J;clear S K T k6 Q b;go_wp2_with fail;refine μ1 f ?_;rintro e w7 ⟨rfl,⟨v7,ao,av⟩,az⟩;have U:=a1j bp az J;have ac:p<=w7.heap.size:=Qk J U.size;rw[<-aP.o]at ao;have⟨be,aN⟩:=η2 ao (ak.trans (U.mono H));clear ao av az U f;go_wp2;go_roundg (O-(i+1));exact⟨i+1,v7,by omega,by go_num,be.o,aN.o,ac⟩;omega
  obtain rfl:O=i:=ρo;have aX:¬(O:Int)<O:=ρo;have ar:=an.o O (Qg _);rw[Qb (by rw[bl.o];exact Qg _)]at y ar;have⟨l1,af⟩:=η0 (l0++a0K O++outs.flatMap b3j);rw[af]at y ar a5 bD;have cH:=η1 af;obtain⟨q0,q1,q2,q3⟩:=G.o wr hB;have b:=a2M p p v l1 nf ρo wr y ρo aF;have⟨bh,cF⟩:=η2 y hB;clear y hB af an bl HO bn cJ;go_wp2_with fail;refine μ1 b ?_;rintro e w5 ⟨rfl,⟨v5,E,bZ⟩,b2⟩;have bz:=a1j bh b2 aF;have aR:=cF.trans (bz.mono H);have B:p<=w5.heap.size:=Qk aF bz.size;obtain⟨cX,da,cY,c1⟩:=G.o w5 aR;have cU:=a0p (n:=nf) ρo;have f:=a2M p p v5 (l1++a0K nf) ne ρo w5 E (by simp only[Qa];omega) B;have⟨aS,aW⟩:=η2 E aR;clear E bZ b2 bz aR b q0 q1 q2 q3;go_wp2_with fail;refine μ1 f ?_;rintro e w6 ⟨rfl,⟨v6,S,K⟩,T⟩;have Q:=a1j aS T B;have a6:=aW.trans (Q.mono H);have c3:=a4A p p v6 (l1++a0K nf++a0K ne) bD.o w6 S ρo
  have ak:=η1 (φt b8 a6);clear S K T Q a6 f;go_wp2_with fail;refine μ1 c3 ?_;rintro e w7 ⟨v7,rfl,bt,U⟩;rw[<-cH.o,<-ct.o]at bt;have⟨cG,aN⟩:=η2 bt U;clear bt U c3;go_wp2;go_ret2;exact⟨_,rfl,cG.base ak.size,ak.trans (aN.mono ak.size)⟩
 have ay:b3c t=[]:=by unfold b3c;rw[HR.o,if_neg ck]
 rw[ay];unfold txV at HW aE⊢;obtain⟨q0,q1,q2,q3⟩:=G.o W (Qf _ _);go_in;go_upto_region 1 with fail
 rw[HW.o,HG.o];go_wp2_with fail;refine μi aE.o ?_;intro w1 aA;have a2:=η1 (φt b8 aA);clear aA;go_wp2;go_ret2;exact⟨_,rfl,a0N.nil _ _,a2.o⟩
end
end Go.Proofs.YtpolljfkceanaaaGreatDoor
