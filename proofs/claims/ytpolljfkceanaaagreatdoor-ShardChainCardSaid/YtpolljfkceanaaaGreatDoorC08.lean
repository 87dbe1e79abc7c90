/-
  Contracts of functions, plain laws.
-/
import Derived.Test.YtpolljfkceanaaaGreatDoorC07
namespace Go.Proofs.YtpolljfkceanaaaGreatDoor
open Go.RowKit Go.Shelf Go.Maps Go.Proofs.Tryz
set_option maxRecDepth 100000
set_option maxHeartbeats 64000000
variable {cs:AV}{am ep k ser:Int}{a b id ow seed:LI}{T:LV}{N:List Nat}{B d f g:Nat}{C:VL}{w:WD}
set_option linter.all false
section
def c9P(x:ShD)(r:RpD):Prop:=r=b1A 13\/∃k,(a2E x.M k).isSome=true/\r=a2O (a2Q x.M k).c
theorem c7m(w:WD):(BDs 41 #[(0,.int .i64 13)]).run prog w=.ok (.agg (a0O 13 false a0r none 0).toArray) w:=ρk
abbrev a8N:=bdOf 41
attribute [local go_sem ↓] a1B a5a a5i a1G a1M a1D a7A a7I a7U a8N
theorem c8G(B d:Nat)(b:ShB)(N:List Nat)(seed:LI)(x:ShD)(D:LI)(f:Dig D)(w:WD)(h:a1e w d b N seed x)(p:∀j∈d::b.own,B<=j):Calls prog 94 #[.pointer d,.agg (bys D).toArray] w λe w'=>∃r,c9P x r/\a6x B d N seed (.ok (x,r)) e w'/\Below w w w':=by
 have⟨g,hg⟩:=ηs w;have bl:B<=w.heap.size:=by have:=p d Qr;have:=h.st.lt;omega
 have bm:(bys D).length=32:=by rw[a0a,f.1]
 have af:=λ(aj:Int) (hp:-9223372036854775808<=aj/\aj<=9223372036854775807) X (hX:a1e X d b N seed x)=>b5u b.kb b.km N x.M (aj,D) ⟨hp,f.1,f.2⟩ X hX.ma hX.lt
 have⟨dv,aB⟩:=η0 ((bys D).toArray);simp only[aB]at af⊢;have b0:=Qd w 31 (dv);have B0:=ρb w (.cells (dv) 31)
 generalize hW:w.alloc (.cells (dv) 31)=W at b0 B0
 rw[hg]at b0;have aA:W.heap.size=g+1:=by rw[<-hW,Qi,hg]
 have au:=a5k W;have⟨zs,aQ⟩:=η0 ((a0O 0 false a0r none 0).toArray);have aH:zs.size=139:=by rw[<-aQ,Qc];exact a0A a0B _ _ _ _
 rw[aQ,aA]at au;have aS:=b0.alloc (.cells zs 41);have bz:=Qd W 41 zs;have B1:Below w w (W.alloc (.cells zs 41)):=B0.alloc B0.size _
 generalize hV:W.alloc (.cells zs 41)=V at aS bz B1 au
 rw[aA]at bz;have aZ:V.heap.size=g+2:=by rw[<-hV,Qi,aA]
 have bt:(ALs 41).run prog (w.alloc (.cells dv 31))=.ok (.pointer (g+1:Nat)) V:=by rw[hW];exact au
 have br:=Qd V 3 #[.int .i64 0,.int .i64 1];have aD:=aS.alloc (.cells #[.int .i64 0,.int .i64 1] 3);have aO:=bz.alloc (.cells #[.int .i64 0,.int .i64 1] 3);have B2:=B1.alloc B1.size (.cells #[.int .i64 0,.int .i64 1] 3);rw[aZ]at br
 generalize bx:V.alloc (.cells #[.int .i64 0,.int .i64 1] 3)=V2 at br aD aO B2
 have bK:=λX (hX:Below V2 V2 X)=>h.below (B2.trans (hX.mono B2.size))
 have ah:=λX' (b5:Below V2 V2 X')=>P4 a2i iId (w:=X') (bys D) (by rw[aB];exact aD.fr (Q9 b5) (ρh aD.lt)) bm
 simp only[aB]at ah;have⟨HG,aX,a0,bJ,ca,a2,bg,bF⟩:=η8 hg B2 bK ah br aO aH af;have⟨bX,bT,bD,b7,HH⟩:=η5 bx aZ p bl h;clear hg B2 bK ah br aO aH af bx aZ p bl h b0 aS aD B0 B1 bz aA au hW hV aQ bm aB;go_in;go_upto_region 2 with fail
 try rw[HG.o]
 try rw[bT.o]
 rw[bX.o];clear bt;go_loopg [6,7,8,11] 2 (λkk _ _ _ s wr=>∃i:Nat,i+kk=2/\s=.int .i64 i/\Below V2 V2 wr);exact⟨0,by omega,rfl,Qf _ _⟩;obtain⟨i,hi,rfl,I⟩:=hrel
 by_cases ag:i<2
 ·have cd:(i:Int)<2:=ρo
  have cg:wr.cell? ⟨g+2,i,none⟩=some (.int .i64 i):=by
   rw[(φf ca I).cell i]
   have:i=0\/i=1:=ρo
   rcases this with rfl | rfl<;>rfl
  have⟨U,hU⟩:=η0 wr.drew;have a7:Below wr.heap.size wr U:=by rw[<-hU];exact(Qf _ wr).drew
  have G:=I.trans (a7.mono I.size);have F1:=λY (hY:Below U U Y)=>bJ.o Y (G.trans (hY.mono G.size))
  have F2:=λY (hY:Below U U Y)=>(a0.o Y (G.trans (hY.mono G.size))).c.2.2.2.2.2.2.2.2.2.1
  have⟨S0,aW⟩:=η0 ((λY=>(LDs 31 (.pointer g)).run prog Y=.ok (.agg dv) Y/\Y.cell? ⟨d,9,none⟩=some (.pointer b.kb)):WD->Prop);have bE:∀Y,Below U U Y->S0 Y:=λY hY=>by rw[<-aW];exact⟨F1 Y hY,F2 Y hY⟩
  have aM:=c1K;have⟨zm,aU⟩:=η0 ((mkV a4n).toArray);have aI:zm.size=138:=by rw[<-aU,Qc];exact a3i a0B
  simp only[aU]at aM;have⟨pi,bq⟩:=η0 ((i:Int):Int);have bs:=bF.o pi ρo;have⟨b8,a6,HU,cf,aJ,bR,av,cc⟩:=η8 aW bE hU a7 G aI ag I;have⟨aY,bQ⟩:=η2 bq bs;clear aW bE hU a7 G aI ag I bq bs F1 F2 aU;go_upto_region 4 with fail
  with_reducible refine a4F (λi=>i != 6&&i != 11) S0 ρk ?_
  rw[HU.o]
  try rw[aY.o]
  refine a2b (m:=7) (Lf:=#[true,true,true,true,true,true,false,false,false,false,false,false,false]) [(0,3),(1,3),(2,3),(4,3),(3,0),(5,0)] true ρk ρk ρk (λ_=>a6.o _ (Qf _ _)) ?_;refine εc4 ?_
  iterate 2 refine θc2 (λ_ h=>by rw[<-b8.o]at h;exact h) ?_
  with_reducible refine a2m ?_
  refine a2A (j:=10) (n:=2) (Lf:=#[true,true,true,true,true,true,true,true,true,true,true,false,false]) (t:=214) (Z:=zm) [(6,2),(7,3),(8,3),(9,3)] ρk ρk ρk ρu rfl (λa X=>by go_simp) a6.o ?_;intro X0 a4;have ar:=η1 (φt aJ a4);have k6:=bQ.o X0 (a0.o X0 ar);have b4:=η1 a4;clear a4 aM;with_reducible refine a4f (o:=?_) ρu ρu (λK hK=>?_)
  refine ψ ?_;go_simp;refine μ1 k6 ?_;rintro e2 w6 ⟨⟨E,z,rfl,be,bk⟩,aC⟩;clear k6;have bn:=φt ar aC;have bA:=φt b4 aC;have⟨bv,bL⟩:=η2 bn bA;clear bn bA;with_reducible refine hK _ _ aC (λY7 ak=>?_);clear hK K
  have aa:=be.below ak;have O:=a0T.keep bk ak;have a9:=φt bv ak;have bw:=φt bL ak;have⟨b3,bM,bf,bI⟩:=η4 aa O a9 bw;clear aa O a9 bw ak be bk aC
  iterate 3 (with_reducible refine a8f (o:=?_) (v:=?_) (a':=?_) ρu ρu (λW'=>?_) ?_ ?_;rotate_left 2;(focus exact ρs);focus(exact ρs))
  with_reducible refine a6e ?_;intro bP J bu ab
  have⟨ok,aR⟩:=η0 ((a2E x.M (pi,D)).isSome);have⟨y,hy⟩:=η0 (a2Q x.M (pi,D));have aa:=b3.o;have O:=bM.o;rw[hy]at aa O;have a8:=a4l O.own ab ρd;have aq:=aa.bd;have bC:(mkV ⟨y.c,E,z,y.ex⟩).length=138:=a3i aq;have bh:=P9 iMk ab bR (mkV ⟨y.c,E,z,y.ex⟩) bC (a7Q _);have r1:=ab.row_ (mkV ⟨y.c,E,z,y.ex⟩).toArray;have f6:=ρr (J) Y7 (mkV ⟨y.c,E,z,y.ex⟩).toArray;have b6:V2.heap.size<=J:=by have:=aJ.size;omega
  have r2:=Ql (g:=J) bf.o b6 (mkV ⟨y.c,E,z,y.ex⟩).toArray;have S:=O.fr f6 (λj hj e=>a8 (by rw[hj,e]));have⟨ys,az⟩:=η0 (mkV ⟨y.c,E,z,y.ex⟩);have ad:∀(j:Nat) (v:VL),(a0d y.c E z)[j]? =some v->ys[0+j]? =some v:=λj v hv=>by rw[<-az];exact b7R (x:=⟨y.c,E,z,y.ex⟩) hv
  have aK:ys[137]? =some (.int .i64 y.ex):=by rw[<-az];exact c6n (x:=⟨y.c,E,z,y.ex⟩) aq
  have aE:=aa.len;rw[az]at bh r1 r2 S;simp only[hy,az,aR];have⟨R1,R2,bN,bO,ay,HY,bU,bY⟩:=η8 r1 r2 S ad aq hy aR aK;have bV:=η1 aE;clear r1 r2 S ad aq hy aR aK aE ab bP bu a8 bC f6 O aa;refine a1c [(11,2),(12,3)] true ρk ρk ρk (λ_=>a6.o _ bI.o) ?_;refine τ1 ?_;refine ε1 ?_;refine ν ?_;have⟨Y9,bW⟩:=η0 (Y7.setRow J ys.toArray);have r1:=R1.o;have r2:=R2.o;have S:=bN.o;rw[bW]at r1 r2 S⊢;clear bh;have⟨Z,hZ⟩:=η0 Y9.drew;have ax:Below Y9 Y9 Z:=by rw[<-hZ];exact(Qf _ Y9).drew
  have aP:=r2.trans (ax.mono r2.size);have a3:=r1.fr (Q9 ax) (ρh r1.lt);have aN:=S.keep ax;have bi:Z.cell? ⟨J,137,none⟩=some (.int .i64 y.ex)/\Z.cell? ⟨d,3,none⟩=some (.int .i64 x.ep):=⟨(a3.cell 137).trans (by rw[QE];exact bY.o),(a0.o Z aP).c.2.2.2.1⟩;have ac:=b3K y.ex x.ep Z;have⟨ob,bj⟩:=η0 (b9d y.ex x.ep);rw[bj]at ac;have⟨HZ,a5,bZ,aF,b2⟩:=η5 hZ aP a3 aN bi;clear hZ aP a3 aN bi ax r1 r2 S bj;go_upto_region 5 with fail
  cases ok with
  |
   false=>
   clear ac;refine a0s [(0,3),(1,3),(2,3),(3,3),(4,3),(5,3),(6,3),(7,3),(8,3),(9,3),(10,3)] (λY=>True) ρk ρk ρk ρk trivial ?_;rw[HZ.o];refine ε2 ?_;refine δ4 ?_;refine δ4 ?_;refine ε1 ?_;refine ν ?_;go_wp2;go_roundg (2-(i+1));exact⟨i+1,by have:=av.o;omega,by have h1:=aY.o;have h2:=av.o;rw[<-h1,show wrap64 ((i:Int)+1)=((i+1:Nat):Int) by unfold wrap64;omega],a5.o⟩;omega
  | true=>
  refine a0s [(0,3),(1,3),(2,3),(4,3),(5,3),(6,3),(3,0),(7,0),(8,2),(9,3),(10,3)] (λY=>Y.cell? ⟨J,137,none⟩=some (.int .i64 y.ex)/\Y.cell? ⟨d,3,none⟩=some (.int .i64 x.ep)) ρk ρk ρk ρk (ρy HZ.o b2.o) ?_;rw[HZ.o];refine ε6 ?_
  iterate 2 refine θ2 (λ_ h=>h) ?_
  refine τ ?_;intro K hK;refine μf ac ?_;with_reducible refine hK _ _ ?_;clear hK K
  refine ε2 ?_;clear ac;refine ν ?_
  cases ob with
  |
   true=>
   go_wp2;go_roundg (2-(i+1));exact⟨i+1,by have:=av.o;omega,by have h1:=aY.o;have h2:=av.o;rw[<-h1,show wrap64 ((i:Int)+1)=((i+1:Nat):Int) by unfold wrap64;omega],a5.o⟩;omega
  |
   false=>
   obtain⟨dC,bS,bG⟩:=Q8.1 a8j;have bb:(LDs 39 (.pointer J)).run prog Z=.ok (.agg (a0d y.c E z).toArray) Z:=a3R Z _ dC 137 bS bG a4U J 0 _ (a0l ay.o E z) (λj v hv=>(bZ.cell (0+j)).trans (by rw[QE];exact bO.o j v hv));have Q:=a5d y.c ay E z Z;have⟨cv,bo⟩:=η0 ((a0d y.c E z).toArray);rw[bo]at bb Q;clear bo;go_wp2_with fail;refine μi Q ?_;intro ai ae;have R:=φt a5 ae;have kR:=φf a2 R;have H:=a0A ay 0 true E z;have ao:=P9 a4h kR bg (a0O 0 true y.c E z) H (a0W _ _ _ _ _);have q5:=kR.row_ (a0O 0 true y.c E z).toArray;have a1:=HG.o;have bc:Fr (λj=>j=g+1) ai (ai.setRow (g+1) (a0O 0 true y.c E z).toArray):=(Qp (λj=>j=g+1) ai).setRow (g:=g+1) (λ_=>rfl) _;have q6:=Ql (g:=g+1) (φt aX R) ρo (a0O 0 true y.c E z).toArray;have e1:=a2.lt
   have ag:∀j,(Value.slice E y.c.path.length z).ownBlock=some j->¬j=g+1:=λj hj e=>by have:=(aF.lt hj).1;have:=ar.size;omega
   have bp:=ar.size;have bH:=aX.size;have aL:=((aF.keep ae).fr bc ag).base (B':=B) (ρh b7.o);have ba:a3C B (ai.setRow (g+1) (a0O 0 true y.c E z).toArray) y.c E z:=⟨ay.o,bV.o,aL⟩;have F:a6x B d N seed (.ok (x,a2O y.c)) (.returned (.agg (a0O 0 true y.c E z).toArray)) (ai.setRow (g+1) (a0O 0 true y.c E z).toArray):=⟨c9y.of (HH.below q6) bD.o,E,z,rfl,ba⟩;have aG:c9P x (a2O y.c):=.inr ⟨(pi,D),bU.o,by rw[HY.o]⟩;have⟨rs,T⟩:=η0 (a0O 0 true y.c E z);rw[T]at H ao q5 q6 F;simp only[T];have⟨Q5,Q6,aV,al,bB⟩:=η5 q5 q6 H F aG;clear q5 q6 H F aG kR bc ag aL ba R ae a1 e1 bp bH T Q;go_wp2_with fail;obtain⟨dR,aT,an⟩:=Q8.1 a7w;refine bodyPost_ret (v:=.agg rs.toArray) (a0c rfl _ _ (g+1) _ rs dR rfl Q5 aT an (ρy aV.o a4h)) rfl ?_;exact⟨_,bB.o,al.o,Q6.o⟩
 have ce:¬((i:Int)<2):=ρo;have kR:=φf a2 I;have b9:=c7m;have H:=a0A a0B 13 false none 0;have ao:=P9 a4h kR bg (a0O 13 false a0r none 0) H (a0W _ _ _ _ _);have q5:=kR.row_ (a0O 13 false a0r none 0).toArray;have a1:=HG.o;have q6:=Ql (g:=g+1) (φt aX I) ρo (a0O 13 false a0r none 0).toArray;have F:a6x B d N seed (.ok (x,b1A 13)) (.returned (.agg (a0O 13 false a0r none 0).toArray)) (wr.setRow (g+1) (a0O 13 false a0r none 0).toArray):=⟨c9y.of (HH.below q6) bD.o,none,0,rfl,a3C.zero _ _⟩;have⟨rs,T⟩:=η0 (a0O 13 false a0r none 0);rw[T]at H ao q5 q6 F;simp only[T]at b9;have⟨Q5,Q6,aV,al⟩:=η4 q5 q6 H F;clear q5 q6 H F kR a1 T I;go_wp2_with fail;obtain⟨dR,aT,an⟩:=Q8.1 a7w;refine bodyPost_ret (v:=.agg rs.toArray) (a0c rfl _ _ (g+1) _ rs dR rfl Q5 aT an (ρy aV.o a4h)) rfl ?_;exact⟨_,.inl rfl,al.o,Q6.o⟩
end
def d0S(x y:ShD):Prop:=y.me=x.me/\y.n=x.n/\y.h=x.h/\y.M=x.M
def b1m(seed:LI)(x:ShD)(cmd:LI)(q:Except Int (ShD×RpD)):Prop:=
 (∃k,q=.error k)\/(∃r,q=.ok (x,r)/\c9P x r)\/(∃M',(∀p∈M',p∈x.M)/\q=.ok ({x with M:=M'},b1A 0))\/(∃y e,d0S x y/\q=b9r seed y cmd e)\/(∃y part t e,d0S x y/\q=b5e seed y part cmd t e)
theorem b8l{x y:ShD}{a:Int}{t:TxD}{e:a1P}(h:d0S x y):b1m seed x b (b5e seed y a b t e):=.inr (.inr (.inr (.inr ⟨_,_,_,_,h,rfl⟩)))
theorem d3Y{x y:ShD}{e:a1P}(h:d0S x y):b1m seed x a (b9r seed y a e):=.inr (.inr (.inr (.inl ⟨_,_,h,rfl⟩)))
theorem d3X{x:ShD}{k:Ke}(h:(a2E x.M k).isSome=true):b1m seed x a (.ok (x,a2O (a2Q x.M k).c)):=.inr (.inl ⟨_,rfl,.inr ⟨_,h,rfl⟩⟩)
theorem b8o{x:ShD}:b1m seed x a (.error k):=.inl ⟨_,rfl⟩
theorem d3W{p:Prop}(h:p:=by first | exact b8o | exact b8l ⟨rfl,rfl,rfl,rfl⟩ | exact d3Y ⟨rfl,rfl,rfl,rfl⟩ | exact d3X (by assumption)):p:=h
theorem b8x(seed:LI)(x y:ShD)(b:d0S x y)(a:LI)(t:TxD):b1m seed x a (c4t seed y a t):=by
 unfold c4t
 repeat' split
 all_goals first
  | exact b8o
  | exact b8l b
theorem c2i(seed:LI)(x:ShD)(a:LI)(t:TxD):b1m seed x a (c6M seed x a t):=by
 unfold c6M
 repeat' split
 all_goals first
  | (refine b8x seed x _ ?_ a t;exact⟨rfl,rfl,rfl,rfl⟩)
  | exact d3W
theorem c3G(seed:LI)(x:ShD)(a:LI)(t:TxD):b1m seed x a (lkQ seed x a t):=by
 unfold lkQ
 repeat' split
 all_goals exact d3W
theorem c5M(seed:LI)(x:ShD)(a:LI)(t:TxD)(cl:List a0y):b1m seed x a (mnQ seed x a t cl):=by
 unfold mnQ
 repeat' split
 all_goals exact d3W
theorem b5B(seed:LI)(x:ShD)(a:LI)(ser:Int)(o:a1q):b1m seed x a (a5I seed x a ser o):=by
 unfold a5I
 repeat' split
 all_goals exact d3W
theorem b8P(seed:LI)(x:ShD)(a:LI)(ep:Int):b1m seed x a (b5q seed x a ep):=by
 unfold b5q
 repeat' split
 all_goals exact d3W
theorem GoQ.step{x:ShD}{q:Except Int (ShD×RpD)}(h:GoQ seed x a q):b1m seed x a q:=by
 rcases h with⟨k,rfl⟩ | ⟨y,e,h,rfl⟩
 ·exact .inl ⟨_,rfl⟩
 exact .inr (.inr (.inr (.inl ⟨y,e,⟨h.1,h.2.1,h.2.2.2.2.2.1,h.2.2.2.2.2.2⟩,rfl⟩)))
def a4d(seed:LI)(x:ShD)(cmd:LI)(m:c7Z)(q:Except Int (ShD×RpD)):Prop:=
 if m.kind=1 then q=a5I seed x cmd m.ser ⟨m.ow,m.am⟩
 else if m.kind=2 then q=c6M seed x cmd m.t
 else if m.kind=3 then q=lkQ seed x cmd m.t
 else if m.kind=4 then q=mnQ seed x cmd m.t m.certs
 else if m.kind=5\/m.kind=6 then GoQ seed x cmd q
 else if m.kind=7 then q=b5q seed x cmd m.ep
 else if m.kind=8 then∃M',(∀p∈M',p∈x.M)/\q=.ok ({x with M:=M'},b1A 0)
 else∃r,q=.ok (x,r)/\c9P x r
theorem a4d.step{seed:LI}{x:ShD}{a:LI}{m:c7Z}{q:Except Int (ShD×RpD)}(h:a4d seed x a m q):b1m seed x a q:=by
 unfold a4d at h
 split at h
 ·rw[h];exact b5B _ _ _ _ _
 split at h
 ·rw[h];exact c2i _ _ _ _
 split at h
 ·rw[h];exact c3G _ _ _ _
 split at h
 ·rw[h];exact c5M _ _ _ _ _
 split at h
 ·exact h.step
 split at h
 ·rw[h];exact b8P _ _ _ _
 split at h
 ·exact .inr (.inr (.inl h))
 exact .inr (.inl h)
theorem a1e.uniq{b b':ShB}{g:List Nat}{x j:ShD}(h:a1e w f b N seed x)(d:a1e w f b' g a j):b'.own=b.own:=by
 obtain⟨-,-,-,-,-,-,-,E,F,z,-⟩:=h.c;obtain⟨-,-,-,-,-,-,-,o,m,p,-⟩:=d.c;rw[E]at o;rw[F]at m;rw[z]at p;simp only[Option.some.injEq,Value.pointer.injEq,Addr.mk.injEq,and_true]at o m p;have B:=h.co.q0;have G:=h.lo.q0;have D:=h.ma.q0;have v:=d.co.q0;have r:=d.lo.q0;have y:=d.ma.q0;rw[<-o,B]at v;rw[<-m,G]at r;rw[<-p,D]at y;simp only[Option.some.injEq,Value.map.injEq]at v r y;simp[ShB.own,o,m,p,v,r,y]
theorem a1e.not_own{b:ShB}{x:ShD}(h:a1e w d b N seed x)(a:Blk w g 41 cs):g ∉ d::b.own:=by
 intro f;simp only[ShB.own,Qo,Qt,or_false]at f
 rcases f with e | e | e | e | e | e | e
 ·exact h.st.apart a ρd e.symm
 ·exact h.co.st.apart a ρd e.symm
 ·exact h.co.mp.ne_blk a e.symm
 ·exact h.lo.st.apart a ρd e.symm
 ·exact h.lo.mp.ne_blk a e.symm
 ·exact h.ma.st.apart a ρd e.symm
 exact h.ma.mp.ne_blk a e.symm
theorem b1q.blk{a:Nat}{b:ShB}{x:ShD}{d:WD}(h:b1q B a seed w d)(f:a1e w a b N seed x){t:TI}(j:Blk w g t cs)(m:g ∉ a::b.own):Blk d g t cs:=by
 obtain⟨-,y,z,v,r,p⟩:=h;refine j.fr p (λo=>m ?_);rw[f.uniq r]at o;exact o
theorem c3V{r:Nat}{V a:WD}{b:ShB}{x:ShD}{K:List Kpt}(d:a4m B r w f b (r::N) seed x K V){m:AV}(g:(r,41,m)∈K)(p:m.size=139)(o:a1e w f b N seed x) {y:ShD} {rp:RpD} {e:Ending} (hE:a6x B f (r::N) seed (.ok (y,rp)) e a) (hs:b1q B f seed V a):∃ rs:LV,e=.returned (.agg rs.toArray)/\rs.length=139/\(STs 41 (.pointer r) (.agg rs.toArray)).run prog a=.ok () (a.setRow r rs.toArray)/\Blk (a.setRow r rs.toArray) r 41 rs.toArray/\a6x B f N seed (.ok (y,rp)) (.returned (.agg rs.toArray)) (a.setRow r rs.toArray)/\b1q B f seed w (a.setRow r rs.toArray):=by
 obtain⟨⟨Y,N',y',U,Q,J,G⟩,A,cap,rfl,v⟩:=hE;have z:=d.kp _ g;simp only at z;have D:=hs.blk d.sh z.1 z.2.1;have H:=a0A v.1 rp.e rp.has A cap;have T:=a0W rp.e rp.has rp.c A cap;have O:=ρr (r) a (a0O rp.e rp.has rp.c A cap).toArray;have R:=P9 a4h D p _ H T;have E:a3C B (a.setRow r (a0O rp.e rp.has rp.c A cap).toArray) rp.c A cap:=⟨v.1,v.2.1,v.2.2.fr O (λk g e=>a4l v.2.2.own D ρd (e ▸ g))⟩;have S:=U.away O (J r Qr) (U.not_own D);refine⟨_,rfl,H,R,D.row_ _,⟨⟨Y,N',y',S,Q,λj hj=>J j (Qj _ hj),G⟩,A,cap,rfl,E⟩,?_,?_⟩
 ·exact(d.fr.trans hs.1).trans (O.below_of (ρi d.sz hs.1.size) (λk e=>by have:=z.2.2;omega))
 obtain⟨-,b0,N0,y0,Z,F⟩:=hs;refine⟨b,N,x,o,?_⟩;obtain⟨b2,N2,y2,X,I,-⟩:=d.fo;have e2:=o.uniq X;have W:=d.sh.uniq Z;rw[e2]at I;rw[W]at F;exact(I.trans F (λk _ e=>e)).trans O (λk g e=>by have:=d.rz;omega)
section
theorem b2k(a:T.length=4):((a1Q k T C ow am ser ep id).drop 1).take 4=T:=by
 simp[a1Q,QT,a]
theorem b0I(a:T.length=4)(b:ow.length=32)(hi:id.length=32):((a1Q k T C ow am ser ep id).drop 41).take 32=bys id:=by
 have e:a1Q k T C ow am ser ep id=([.int .i64 k]++T++[C]++bys ow++[.int .u64 am,.int .i64 ser,.int .i64 ep])++bys id:=by simp[a1Q]
 rw[e,QR,Yc (by simp[a,a0a,b])];simp[a,a0a,b,Qb,hi]
attribute [local go_sem ↓] a2q a1B a5a a5i a1G a1M a8N a7s
theorem c3Q(B f:Nat)(b:ShB)(N:List Nat)(seed:LI)(x:ShD)(A:OA)(n c:Nat)(a:LI)(I:n=a.length)(J:A=none->c=0)(H:a.length<=100000000)(m:c7Z)(G:d0d m)(o:OA)(D:Nat)(p:OA)(E:Nat)(z:OA)(F:Nat)(w:WD) (h:a1e w f b N seed x) (hB:∀j∈f::b.own,B<=j) (hby:b9j B w A a) (hgl:a8S B w) (ht:TxS B w o p m.t) (hcs:∀w',Below B w w'->a4g w' z m.certs):Calls prog 34 #[.pointer f,.slice A n c,.agg (a1Q m.kind (txV o D p E m.t).toList (.slice z m.certs.length F) m.ow m.am m.ser m.ep m.id).toArray] w λe w'=>∃q,a4d seed x a m q/\a6x B f N seed q e w'/\b1q B f seed w w':=by
 have⟨g,hg⟩:=ηs w;have aH:(txV o D p E m.t).toList.length=4:=rfl;have av:=a2I (k:=m.kind) aH (C:=.slice z m.certs.length F) G.ow.1 (am:=m.am) (ser:=m.ser) (ep:=m.ep) G.id.1;have g0:=a4a (k:=m.kind) (T:=(txV o D p E m.t).toList) (C:=.slice z m.certs.length F) (ow:=m.ow) (am:=m.am) (ser:=m.ser) (ep:=m.ep) (id:=m.id);have g5:=a8A (k:=m.kind) (C:=.slice z m.certs.length F) (ow:=m.ow) (am:=m.am) (ser:=m.ser) (ep:=m.ep) (id:=m.id) aH;have a2:=a9t (k:=m.kind) (C:=.slice z m.certs.length F) (am:=m.am) (ser:=m.ser) (ep:=m.ep) (id:=m.id) aH G.ow.1;have g1:=b2k (k:=m.kind) aH (C:=.slice z m.certs.length F) (ow:=m.ow) (am:=m.am) (ser:=m.ser) (ep:=m.ep) (id:=m.id);have aZ:=b0I (k:=m.kind) aH (C:=.slice z m.certs.length F) G.ow.1 (am:=m.am) (ser:=m.ser) (ep:=m.ep) G.id.1
 generalize bi:a1Q m.kind (txV o D p E m.t).toList (.slice z m.certs.length F) m.ow m.am m.ser m.ep m.id=cv at av g0 g5 a2 g1 aZ⊢
 have b0:=Qd w 58 (cv.toArray);have B0:=ρb w (.cells (cv.toArray) 58)
 generalize hW:w.alloc (.cells (cv.toArray) 58)=W at b0 B0
 rw[hg]at b0;have a3:W.heap.size=g+1:=by rw[<-hW,Qi,hg]
 have aN:=a5k W;have⟨zs,aV⟩:=η0 ((a0O 0 false a0r none 0).toArray);have aQ:zs.size=139:=by rw[<-aV,Qc];exact a0A a0B _ _ _ _
 rw[aV,a3]at aN;have ak:=b0.alloc (.cells zs 41);have bz:=Qd W 41 zs;have B1:Below w w (W.alloc (.cells zs 41)):=B0.alloc B0.size _
 generalize hV:W.alloc (.cells zs 41)=V at ak bz B1 aN
 rw[a3]at bz;have af:(ALs 41).run prog (w.alloc (.cells cv.toArray 58))=.ok (.pointer (g+1:Nat)) V:=by rw[hW];exact aN
 have hX:=a4m.begin h hB B1 (r:=g+1) ⟨by omega,bz.lt⟩ (K:=[(g,58,cv.toArray),(g+1,41,zs)]) (λq hq=>by
  simp only[Qo,Qt,or_false]at hq
  rcases hq with rfl | rfl
  ·exact⟨by simp only;omega,ak⟩
  exact⟨by simp only;omega,bz⟩)
 have a8:(g+1,41,zs)∈[(g,58,cv.toArray),(g+1,41,zs)]:=by simp
 have q0:V.cell? ⟨g,0,none⟩=some (.int .i64 m.kind):=(ak.cell 0).trans g0;have q5:V.cell? ⟨g,5,none⟩=some (.slice z m.certs.length F):=(ak.cell 5).trans g5;have a0:V.cell? ⟨g,40,none⟩=some (.int .i64 m.ep):=(ak.cell 40).trans a2;have lT:=P6 uTx iTx ak (off:=1) (txV o D p E m.t).toList rfl g1;have lI:=P6 a2i iId ak (off:=41) (bys m.id) (by rw[a0a,G.id.1]) aZ;have lC:=P4 b2N a6X cv ak av;have aW:(txV o D p E m.t).toList.toArray=txV o D p E m.t:=by simp
 rw[aW]at lT;have aR:=λ(y:ShD) (rp:RpD) (e:Ending) (w1:WD) (hE:a6x B f ((g+1)::N) seed (.ok (y,rp)) e w1) (hs:b1q B f seed V w1)=>c3V hX a8 aQ h hE hs
 have bb:=hby.go hX.fr;have bh:=hgl.go hX.fr;have bj:=ht.go hX.fr;have bg:∀w',Below B V w'->a4g w' z m.certs:=λw' hb=>hcs w' (hX.fr.trans hb)
 have aP:∀w1,b1q B f seed V w1->b1q B f seed w w1:=λw1 hs=>by
  obtain⟨h1,bW,bN,bS,h2,hf⟩:=hs;refine⟨hX.fr.trans h1,b,N,x,h,?_⟩;have e0:=hX.sh.uniq h2;rw[e0]at hf;exact(Yn B1).trans hf (λk _ e=>e)
 have⟨tv,a5⟩:=η0 (txV o D p E m.t);have⟨iv,a7⟩:=η0 ((bys m.id).toArray);have⟨nc,a4⟩:=η0 m.certs.length;have⟨K,hK⟩:=η0 m.kind;have⟨bC,al⟩:=η0 cv.toArray;rw[a5]at lT;rw[a7]at lI;rw[a4]at q5;rw[hK]at q0;rw[al]at lC af;have aI:(a1Q m.kind (txV o D p E m.t).toList (.slice z m.certs.length F) m.ow m.am m.ser m.ep m.id).toArray=bC:=by rw[bi,al]
 rw[al];have⟨HX,HG,HH,HB,ah,aE,aq,aL⟩:=η8 hX hg h hB aR bb bh bj;have⟨aY,ai,aM,bx,aU,aj,bD,HM⟩:=η8 bg aP a5 a7 a4 hK aI G;have⟨aC,ay,aG,bB,aX,bc,aJ,bn⟩:=η8 I J H q0 q5 a0 lT lI;have⟨bs,bH,bK⟩:=η3 lC al aW;clear hX hg h hB aR bb bh bj bg aP a5 a7 a4 hK aI G I J H q0 q5 a0 lT lI lC al aW b0 ak B0 B1 bz a3 aN hW hV aV aQ a8 g0 g5 a2 g1 aZ av aH bi hby hgl ht hcs;go_in;go_upto_region 1 with fail
 rw[HG.o];have q0:=bB.o
 by_cases aD:K=1
 ·rw[aD]at q0
  have ag:=η1 aD;clear aD;have lC:=bs.o;have Q:=c3n B f b ((g+1)::N) seed x A n c a aC.o ay.o aG.o m.kind (txV o D p E m.t).toList rfl (.slice z m.certs.length F) ⟨m.ow,m.am⟩ ⟨HM.ow.1,HM.ow.2,by have:=HM.am;simp only;omega⟩ m.ser (ρh HM.o.ser) m.ep m.id V HX.sh HX.pos aE.o aq.o;rw[bD.o]at Q;clear af;go_wp2_with fail;refine μ1 Q ?_;rintro e1 w1 ⟨R,X⟩;clear Q;have O:a4d seed x a m (a5I seed x a m.ser ⟨m.ow,m.am⟩):=by have hk:=aj.o;rw[ag.o]at hk;unfold a4d;simp[hk]
  have⟨q,hq⟩:=η0 (a5I seed x a m.ser ⟨m.ow,m.am⟩);rw[hq]at R O;clear hq
  cases q with
  |
   error k=>
   obtain⟨hk,rfl⟩:=R;exact⟨rfl,.error k,O,⟨hk,rfl⟩,ai.o _ X⟩
  |
   ok yr=>
   obtain⟨y,rp⟩:=yr;obtain⟨rs,rfl,Z,an,ab,hE,hS⟩:=ah.o _ _ _ _ R X;have⟨ad,ae,HE,HS,S⟩:=η5 Z ab hE hS O;clear Z ab hE hS O R X;go_wp2_with fail;obtain⟨dR,ac,aa⟩:=Q8.1 a7w;refine bodyPost_ret (v:=.agg rs.toArray) (a0c rfl _ _ (g+1) _ rs dR rfl ae ac aa (ρy ad.o a4h)) rfl ?_;exact⟨_,S.o,HE.o,HS.o⟩
 have bU:decide (K=1)=false:=ρw aD;have b3:(K == 1)=false:=ρw aD;have bt:=η1 aD;clear aD
 by_cases au:K=2
 ·rw[au]at q0
  have ag:=η1 au;clear au;have lT:=aJ.o;have Q:=d0a B f b ((g+1)::N) seed x A n c a aC ay aG o D p E m.t V HX.sh HX.pos aE aq aL (ρh HM.o.ins) (ρh HM.o.outs);rw[aM.o]at Q;clear af;go_wp2_with fail;refine μ1 Q ?_;rintro e1 w1 ⟨R,X⟩;clear Q;have O:a4d seed x a m (c6M seed x a m.t):=by have hk:=aj.o;rw[ag.o]at hk;unfold a4d;simp[hk]
  have⟨q,hq⟩:=η0 (c6M seed x a m.t);rw[hq]at R O;clear hq
  cases q with
  |
   error k=>
   obtain⟨hk,rfl⟩:=R;exact⟨rfl,.error k,O,⟨hk,rfl⟩,ai.o _ X⟩
  |
   ok yr=>
   obtain⟨y,rp⟩:=yr;obtain⟨rs,rfl,Z,an,ab,hE,hS⟩:=ah.o _ _ _ _ R X;have⟨ad,ae,HE,HS,S⟩:=η5 Z ab hE hS O;clear Z ab hE hS O R X;go_wp2_with fail;obtain⟨dR,ac,aa⟩:=Q8.1 a7w;refine bodyPost_ret (v:=.agg rs.toArray) (a0c rfl _ _ (g+1) _ rs dR rfl ae ac aa (ρy ad.o a4h)) rfl ?_;exact⟨_,S.o,HE.o,HS.o⟩
 have bR:decide (K=2)=false:=ρw au;have bO:(K == 2)=false:=ρw au;have bq:=η1 au;clear au
 by_cases aB:K=3
 ·rw[aB]at q0
  have ag:=η1 aB;clear aB;have lT:=aJ.o;have Q:=c8N B f b ((g+1)::N) seed x A n c a aC ay aG o D p E m.t V HX.sh HX.pos aE aq aL (ρh HM.o.ins) (ρh HM.o.outs);rw[aM.o]at Q;clear af;go_wp2_with fail;refine μ1 Q ?_;rintro e1 w1 ⟨R,X⟩;clear Q;have O:a4d seed x a m (lkQ seed x a m.t):=by have hk:=aj.o;rw[ag.o]at hk;unfold a4d;simp[hk]
  have⟨q,hq⟩:=η0 (lkQ seed x a m.t);rw[hq]at R O;clear hq
  cases q with
  |
   error k=>
   obtain⟨hk,rfl⟩:=R;exact⟨rfl,.error k,O,⟨hk,rfl⟩,ai.o _ X⟩
  |
   ok yr=>
   obtain⟨y,rp⟩:=yr;obtain⟨rs,rfl,Z,an,ab,hE,hS⟩:=ah.o _ _ _ _ R X;have⟨ad,ae,HE,HS,S⟩:=η5 Z ab hE hS O;clear Z ab hE hS O R X;go_wp2_with fail;obtain⟨dR,ac,aa⟩:=Q8.1 a7w;refine bodyPost_ret (v:=.agg rs.toArray) (a0c rfl _ _ (g+1) _ rs dR rfl ae ac aa (ρy ad.o a4h)) rfl ?_;exact⟨_,S.o,HE.o,HS.o⟩
 have bI:decide (K=3)=false:=ρw aB;have bQ:(K == 3)=false:=ρw aB;have bv:=η1 aB;clear aB
 by_cases aF:K=4
 ·rw[aF]at q0
  have ag:=η1 aF;clear aF;have lT:=aJ.o;have q5:=aX.o;have Q:=c6X B f b ((g+1)::N) seed x A n c a aC.o ay.o aG.o o D p E m.t z F m.certs V HX.sh HX.pos aE.o aq.o aL.o (ρh HM.o.ins) (ρh HM.o.outs) aY.o (λd hd=>by have:=HM.path d hd;omega) (ρh HM.o.certs);rw[aM.o,aU.o]at Q;clear af;go_wp2_with fail;refine μ1 Q ?_;rintro e1 w1 ⟨R,X⟩;clear Q;have O:a4d seed x a m (mnQ seed x a m.t m.certs):=by have hk:=aj.o;rw[ag.o]at hk;unfold a4d;simp[hk]
  have⟨q,hq⟩:=η0 (mnQ seed x a m.t m.certs);rw[hq]at R O;clear hq
  cases q with
  |
   error k=>
   obtain⟨hk,rfl⟩:=R;exact⟨rfl,.error k,O,⟨hk,rfl⟩,ai.o _ X⟩
  |
   ok yr=>
   obtain⟨y,rp⟩:=yr;obtain⟨rs,rfl,Z,an,ab,hE,hS⟩:=ah.o _ _ _ _ R X;have⟨ad,ae,HE,HS,S⟩:=η5 Z ab hE hS O;clear Z ab hE hS O R X;go_wp2_with fail;obtain⟨dR,ac,aa⟩:=Q8.1 a7w;refine bodyPost_ret (v:=.agg rs.toArray) (a0c rfl _ _ (g+1) _ rs dR rfl ae ac aa (ρy ad.o a4h)) rfl ?_;exact⟨_,S.o,HE.o,HS.o⟩
 have bV:decide (K=4)=false:=ρw aF;have b2:(K == 4)=false:=ρw aF;have br:=η1 aF;clear aF
 by_cases az:K=5
 ·rw[az]at q0
  have ag:=η1 az;clear az;have lT:=aJ.o;have q5:=aX.o;have Q:=c3g B f b ((g+1)::N) seed x A n c a aC.o ay.o aG.o o D p E m.t z F m.certs V HX.sh HX.pos aE.o aq.o aL.o (ρh HM.o.ins) (ρh HM.o.outs) aY.o (λd hd=>by have:=HM.path d hd;omega) (ρh HM.o.certs);rw[aM.o,aU.o]at Q;clear af;go_wp2_with fail;refine μ1 Q ?_;rintro e1 w1 ⟨q,a6,R,X⟩;clear Q;have O:a4d seed x a m q:=by have hk:=aj.o;rw[ag.o]at hk;unfold a4d;simp only[hk];simp;exact a6
  cases q with
  |
   error k=>
   obtain⟨hk,rfl⟩:=R;exact⟨rfl,.error k,O,⟨hk,rfl⟩,ai.o _ X⟩
  |
   ok yr=>
   obtain⟨y,rp⟩:=yr;obtain⟨rs,rfl,Z,an,ab,hE,hS⟩:=ah.o _ _ _ _ R X;have⟨ad,ae,HE,HS,S⟩:=η5 Z ab hE hS O;clear Z ab hE hS O R X;go_wp2_with fail;obtain⟨dR,ac,aa⟩:=Q8.1 a7w;refine bodyPost_ret (v:=.agg rs.toArray) (a0c rfl _ _ (g+1) _ rs dR rfl ae ac aa (ρy ad.o a4h)) rfl ?_;exact⟨_,S.o,HE.o,HS.o⟩
 have bM:decide (K=5)=false:=ρw az;have bY:(K == 5)=false:=ρw az;have bp:=η1 az;clear az
 by_cases ax:K=6
 ·rw[ax]at q0
  have ag:=η1 ax;clear ax;have lT:=aJ.o;have q5:=aX.o;have Q:=b9L B f b ((g+1)::N) seed x A n c a aC.o ay.o aG.o o D p E m.t z F m.certs V HX.sh HX.pos aE.o aq.o aL.o (ρh HM.o.ins) (ρh HM.o.outs) aY.o (λd hd=>by have:=HM.path d hd;omega);rw[aM.o,aU.o]at Q;clear af;go_wp2_with fail;refine μ1 Q ?_;rintro e1 w1 ⟨q,a6,R,X⟩;clear Q;have O:a4d seed x a m q:=by have hk:=aj.o;rw[ag.o]at hk;unfold a4d;simp only[hk];simp;exact a6
  cases q with
  |
   error k=>
   obtain⟨hk,rfl⟩:=R;exact⟨rfl,.error k,O,⟨hk,rfl⟩,ai.o _ X⟩
  |
   ok yr=>
   obtain⟨y,rp⟩:=yr;obtain⟨rs,rfl,Z,an,ab,hE,hS⟩:=ah.o _ _ _ _ R X;have⟨ad,ae,HE,HS,S⟩:=η5 Z ab hE hS O;clear Z ab hE hS O R X;go_wp2_with fail;obtain⟨dR,ac,aa⟩:=Q8.1 a7w;refine bodyPost_ret (v:=.agg rs.toArray) (a0c rfl _ _ (g+1) _ rs dR rfl ae ac aa (ρy ad.o a4h)) rfl ?_;exact⟨_,S.o,HE.o,HS.o⟩
 have bJ:decide (K=6)=false:=ρw ax;have bT:(K == 6)=false:=ρw ax;have bu:=η1 ax;clear ax
 by_cases ar:K=7
 ·rw[ar]at q0
  have ag:=η1 ar;clear ar;have a0:=bc.o;have Q:=c5V B f b ((g+1)::N) seed x A n c a aC ay aG m.ep (ρh HM.o.ep) V HX.sh HX.pos aE aq;clear af;go_wp2_with fail;refine μ1 Q ?_;rintro e1 w1 ⟨R,X⟩;clear Q;have O:a4d seed x a m (b5q seed x a m.ep):=by have hk:=aj.o;rw[ag.o]at hk;unfold a4d;simp[hk]
  have⟨q,hq⟩:=η0 (b5q seed x a m.ep);rw[hq]at R O;clear hq
  cases q with
  |
   error k=>
   obtain⟨hk,rfl⟩:=R;exact⟨rfl,.error k,O,⟨hk,rfl⟩,ai.o _ X⟩
  |
   ok yr=>
   obtain⟨y,rp⟩:=yr;obtain⟨rs,rfl,Z,an,ab,hE,hS⟩:=ah.o _ _ _ _ R X;have⟨ad,ae,HE,HS,S⟩:=η5 Z ab hE hS O;clear Z ab hE hS O R X;go_wp2_with fail;obtain⟨dR,ac,aa⟩:=Q8.1 a7w;refine bodyPost_ret (v:=.agg rs.toArray) (a0c rfl _ _ (g+1) _ rs dR rfl ae ac aa (ρy ad.o a4h)) rfl ?_;exact⟨_,S.o,HE.o,HS.o⟩
 have bX:decide (K=7)=false:=ρw ar;have bZ:(K == 7)=false:=ρw ar;have bA:=η1 ar;clear ar
 by_cases aA:K=8
 ·rw[aA]at q0
  have ag:=η1 aA;clear aA;clear af;have⟨U,hU⟩:=η0 V.drew;have ao:=HX.drew;rw[hU]at ao;have hS:U.cell? ⟨f,9,none⟩=some (.pointer b.kb)/\U.cell? ⟨f,3,none⟩=some (.int .i64 x.ep):=⟨ao.sh.c.2.2.2.2.2.2.2.2.2.1,ao.sh.c.2.2.2.1⟩;have bk:=c1q b.kb b.km ((g+1)::N) x.M x.ep (ρh ao.sh.ok.lM) U ao.sh.ma (ao.sh.inN.2.2.2.2.2.2);have⟨HU,aO,bo⟩:=η3 hU ao hS;clear hU ao hS;go_upto_region 17 with fail
  refine a0s [(0,3),(1,3),(2,3),(4,3),(5,3),(6,3),(3,0),(7,0),(8,2)] (λY=>Y.cell? ⟨f,9,none⟩=some (.pointer b.kb)/\Y.cell? ⟨f,3,none⟩=some (.int .i64 x.ep)) ρk ρk ρk ρk (ρy HU.o bo.o) ?_;rw[HU.o];refine ε6 ?_
  iterate 2 refine θ2 (λ_ h=>h) ?_
  refine τ ?_;intro K hK;refine μ1 bk ?_;rintro e8 w8 ⟨pn,M',rfl,bf,aS,a9,aK⟩;with_reducible refine hK _ _ ?_;clear hK K;clear bk
  refine ν ?_;have a1:=aO.sh.setM aK bf (ρh aO.o.sh.ok.lM);have bE:=aO.step' a1 (aK.mono (λk _ e=>c8s f b k e));have bF:Below w8 w8 w8:=Qf _ _;have R:a6x B f ((g+1)::N) seed (.ok ({x with M:=M'},b1A 0)) (.returned (.agg (a0O 0 false a0r none 0).toArray)) w8:=⟨c9y.of a1 HX.pos,none,0,rfl,a3C.zero _ _⟩
  have X:b1q B f seed V w8:=by
   refine⟨?_,b,(g+1)::N,x,HX.sh,?_⟩
   ·have aT:Below V V U:=by rw[<-HU.o];exact(Qf _ _).drew
    exact(aT.mono HX.sz).trans (aK.below_of aO.sz (λk e=>HX.pos _ (c8s f b k e)))
   have aT:Below V V U:=by rw[<-HU.o];exact(Qf _ _).drew
   exact(Yn aT).trans aK (λk hk e=>c8s f b k e)
  have O:a4d seed x a m (.ok ({x with M:=M'},b1A 0)):=by
   have hk:=aj.o;rw[ag.o]at hk;unfold a4d;simp only[hk];rw[if_neg ρd,if_neg ρd,if_neg ρd,if_neg ρd,if_neg ρd,if_neg ρd,if_pos trivial];exact⟨M',aS,rfl⟩
  obtain⟨rs,bl,Z,an,ab,hE,hS⟩:=ah.o _ _ _ _ R X;have bG:=d0l
  have bm:(a0O 0 false a0r none 0).toArray=rs.toArray:=by
   have h1:=bl;simp only[Ending.returned.injEq,Value.agg.injEq]at h1;exact h1
  simp only[bm]at bG;have⟨ad,ae,HE,HS,S⟩:=η5 Z ab hE hS O;clear Z ab hE hS O R X a1 bE bF bf aK aS a9 bm bl;go_wp2_with fail;obtain⟨dR,ac,aa⟩:=Q8.1 a7w;refine bodyPost_ret (v:=.agg rs.toArray) (a0c rfl _ _ (g+1) _ rs dR rfl ae ac aa (ρy ad.o a4h)) rfl ?_;exact⟨_,S.o,HE.o,HS.o⟩
 have bP:decide (K=8)=false:=ρw aA;have bL:(K == 8)=false:=ρw aA;have bw:=η1 aA;clear aA;have lI:=bn.o;have Q:=c8G B f b ((g+1)::N) seed x m.id HM.id V HX.sh HX.pos;rw[bx.o]at Q;clear af;go_wp2_with fail;refine μ1 Q ?_;rintro e1 w1 ⟨r,be,R,ba⟩;clear Q;have X:b1q B f seed V w1:=⟨ba.mono HX.sz,b,(g+1)::N,x,HX.sh,Yn ba⟩
 have O:a4d seed x a m (.ok (x,r)):=by
  have hk:=aj.o;unfold a4d;simp only[hk,bt.o,bq.o,bv.o,br.o,bp.o,bu.o,bA.o,bw.o,if_false,or_self];exact⟨r,rfl,be⟩
 obtain⟨rs,rfl,Z,an,ab,hE,hS⟩:=ah.o _ _ _ _ R X;have⟨ad,ae,HE,HS,S⟩:=η5 Z ab hE hS O;clear Z ab hE hS O R X;go_wp2_with fail;obtain⟨dR,ac,aa⟩:=Q8.1 a7w;refine bodyPost_ret (v:=.agg rs.toArray) (a0c rfl _ _ (g+1) _ rs dR rfl ae ac aa (ρy ad.o a4h)) rfl ?_;exact⟨_,S.o,HE.o,HS.o⟩
end
section
theorem b9f(x:Int)(W:WD):(TAs (a2F x) 20 99 true).run prog W=.ok (.tuple #[.agg #[.int .i64 x],.bool true]) W:=by rfl
abbrev c5q:=ldOf 99
abbrev c4U:=stOf 99
abbrev c6c:=alOf 99
theorem d3O:(prog.info? 99).map (·.size)=some 1:=ρk
theorem d3B:(prog.info? 99).bind (·.zero)=some (.agg #[.int .i64 0]):=ρk
attribute [local go_sem ↓] c6w c5q c4U c6c c0U c1T a1G a1M a8N
theorem c3J(f j y t0 a:Nat)(b:LV)(d:b.length=77)(m:∀v∈b,v.oneCell'=true)(Z:AV)(o:Z.size=77)(w:WD)(ht:Blk w f 27 #[.pointer t0])(p:Blk w j 27 #[.pointer a])(r:Blk w t0 94 b.toArray)(x:Blk w a 94 Z):CallsD prog 33 #[.pointer f,.pointer j,.pointer y] .returning w λe u' w'=>e=.returned (.tuple #[])/\u'=.returning/\Blk w' a 94 b.toArray/\Fr (λk=>k=a) w w':=by
 have S:∀W:WD,(binOp .eql 20 .nilIface .nilIface).run prog W=.ok (.bool true) W:=λW=>by kernel_rfl
 have B:Fr (λ_=>False) w w.drew:=(Qp _ _).drew;have H:=ht.fr B id;have F:=p.fr B id;have I:=r.fr B id;have E:=x.fr B id;have⟨U,J⟩:=η0 w.drew;rw[J]at H F I E B;have D:=P4 uSh iSh b I d;have z:=P9 iSh E o b d m;have N:=E.row_ b.toArray;have O:Fr (λk=>k=a) w (U.setRow a b.toArray):=(B.mono (G:=λk=>k=a) (λ_ _ e=>e.elim)).trans ((Qp (λk=>k=a) U).setRow (g:=a) (λ_=>rfl) b.toArray) (λ_ _ e=>e);have X:U.cell? ⟨f,0,none⟩=some (.pointer t0):=H.cell 0;have T:U.cell? ⟨j,0,none⟩=some (.pointer a):=F.cell 0;have Q:(LDs 94 (.pointer t0)).run prog U=.ok (.agg b.toArray) U/\U.cell? ⟨f,0,none⟩=some (.pointer t0)/\U.cell? ⟨j,0,none⟩=some (.pointer a):=⟨D,X,T⟩
 generalize K:b.toArray=va at Q z N O⊢
 have⟨V,HS,Q5,HF,R⟩:=η5 J Q N O z;clear J Q N O z H F I E B D X T ht p r x o d m K;refine callsD_of_wpS func33 rfl λc₀ cs hu=>?_
 apply wpS_seq
 apply wpS_region
 simp[wpOpsS,go_sem,recoverD,hu,ntmps33,Exit.thenS]
 apply wpS_seq
 apply wpS_seq
 apply wpS_region
 simp[wpOpsS,go_sem,Exit.thenS,S];refine wpS_cond (t:=true) (by simp[Act.eval,Array.replicate]) ?_;simp only[if_true];refine wpS_of_wp ?_;simp only[QW,QX,Ze,QZ,QF,QG,Yd,List.set_cons_zero,List.set_cons_succ];clear S;go_upto_region 2 with fail
 refine a0s [(0,0),(1,0),(2,3),(3,0),(4,3),(5,2)] (λY=>(LDs 94 (.pointer t0)).run prog Y=.ok (.agg va) Y/\Y.cell? ⟨f,0,none⟩=some (.pointer t0)/\Y.cell? ⟨j,0,none⟩=some (.pointer a)) ρk ρk ρk ρk (ρy V.o HS.o) ?_;rw[V.o]
 iterate 2 refine θ3 (λ_ h=>h) ?_
 refine ε1 ?_
 refine θ3 (λ_ h=>h) ?_
 refine ε1 ?_;have z:=R.o;refine τ1 ?_;clear z;refine ν ?_;go_wp2_with fail
 cases c₀
 simp_all [bodyPostS,results,Tryz.results33,Exit.thenS]
 exact⟨Q5,HF.o⟩
theorem c1m(q1 f:VL)(a:Nat)(k:Int)(b:AV)(m:b.size=139)(w:WD)(d:Blk w a 41 b):CallsD prog 33 #[q1,f,.pointer a] (.panicking [{v:=a2F k,recovered:=false}]) w λe u' w'=>e=.returned (.tuple #[])/\u'=.panicking [{v:=a2F k,recovered:=true}]/\Blk w' a 41 (a0O k false a0r none 0).toArray/\Fr (λj=>j=a) w w':=by
 have B:∀W:WD,(binOp .eql 20 (a2F k) .nilIface).run prog W=.ok (.bool false) W:=λW=>by rfl
 have o:∀W:WD,(eqGuard .eql 20 (Operand.tmp 7) (Operand.const Value.nilIface) (a2F k) .nilIface).run prog W=.ok () W:=λW=>by rfl
 have x:=d.alloc (.cells #[.int .i64 k] 99);have F:=b9f k;have Q:∀W:WD,(ALs 99).run prog W=.ok (.pointer (some ⟨W.heap.size,0,none⟩)) (W.alloc (.cells #[.int .i64 0] 99)):=λW=>a0U _ d3B W
 have N:∀W:WD,(STs 99 (.pointer (some ⟨W.heap.size,0,none⟩)) (.agg #[.int .i64 k])).run prog (W.alloc (.cells #[.int .i64 0] 99))=.ok () (W.alloc (.cells #[.int .i64 k] 99)):=λW=>
  a7S d3O W #[.int .i64 0] rfl [.int .i64 k] rfl (by intro v J;simp at J;subst J;rfl)
 have r:=a0A a0B k false none 0;have z:=P9 a4h x m (a0O k false a0r none 0) r (a0W _ _ _ _ _);have D:=x.row_ (a0O k false a0r none 0).toArray;have E:Fr (λj=>j=a) w ((w.alloc (.cells #[.int .i64 k] 99)).setRow a (a0O k false a0r none 0).toArray):=((Qp (λj=>j=a) w).alloc _).trans ((Qp (λj=>j=a) _).setRow (g:=a) (λ_=>rfl) _) (λ_ _ e=>e);have G:=c6i k
 generalize p:(a0O k false a0r none 0).toArray=rs at z D E⊢
 simp only[p]at G
 generalize y:a2F k=bv at B o F⊢
 have⟨H,I⟩:=η2 D E;clear D E y d x r p;refine callsD_of_wpS func33 rfl λK cs O=>?_
 apply wpS_seq
 apply wpS_region
 simp[wpOpsS,go_sem,recoverD,O,ntmps33,Exit.thenS]
 apply wpS_seq
 apply wpS_seq
 apply wpS_region
 simp[wpOpsS,go_sem,Exit.thenS,B,o];refine wpS_cond (t:=false) (by simp[Act.eval,Array.replicate]) ?_;simp only[QI,if_false];refine wpS_of_wp (wp_skip ?_);refine wpS_of_wp ?_;simp only[QW,QX,Ze,QZ,QF,QG,Yd,List.set_cons_zero,List.set_cons_succ];clear B o;go_wp2_with fail
 cases K
 first
  | exact⟨rfl,_,rfl,_,results_none rfl _ _ _,rfl,rfl,H.o,I.o⟩
  | exact⟨trivial,_,rfl,_,results_none rfl _ _ _,rfl,rfl,H.o,I.o⟩
end
section
def b7v(seed:LI)(x:ShD)(cmd:LI)(y:ShD)(r:RpD):Prop:=
 match a2o cmd with
 | .error k=>y=x/\r=b1A k
 |
  .ok m=>∃q,a4d seed x cmd m q/\(match q with
  | .error k=>y=x/\r=b1A k
  | .ok z=>z=(y,r))
structure c6L(sb:Nat)(N:List Nat)(seed:LI)(x:ShD)(cmd:LI)(w:WD)(e:Ending)(w':WD)(y:ShD)(r:RpD):Prop where
 q:b7v seed x cmd y r
 sh:∃b' N' y',a1e w' sb b' N' seed y'/\y'.er=y.er
 rep:b2c w r e w'
 fr:Fr (λk=>k=sb) w w'
theorem a1e.into{g:WD}{m:Nat}{b:ShB}{x:ShD}(h:a1e w m b N seed x)(o:d∈N)(a:d ∉ m::b.own)(f:Fr (λk=>k=d) w g)(p:Blk g d 94 (shV x b).toArray):a1e g d b N seed x:=by
 simp only[ShB.own,Qo,Qt,or_false,not_or]at a;have v:∀k,k=d->k∈N:=λk e=>by rw[e];exact o
 have y:=h.inN;refine⟨p,h.co.fr f (λe=>a.2.1 e.symm) (λe=>a.2.2.1 e.symm),h.lo.fr f (λe=>a.2.2.2.1 e.symm) (λe=>a.2.2.2.2.1 e.symm),h.ma.fr f (λe=>a.2.2.2.2.2.1 e.symm) (λe=>a.2.2.2.2.2.2 e.symm) v,h.rg.fr f v,λj r=>?_,λj r=>Qh (h.lt j r) f.size,h.ok,h.ap⟩
 rcases Qo.1 r with e | e
 ·rw[e];exact o
 exact h.sub j (Qj _ e)
theorem d1M:(((prog.info? 58).bind (·.zero)).map (·.cells.size))=some 73:=ρk
abbrev c1w:=stOf 58
abbrev c3r:=alOf 58
attribute [local go_sem ↓] a1G a1M a8N a7s c1w c3r
theorem a6E(d:Nat)(b:ShB)(N:List Nat)(seed:LI)(x:ShD)(A:OA)(n c:Nat)(a:LI)(p:n=a.length)(z:A=none->c=0)(o:a.length<=100000000)(w:WD) (h:a1e w d b N seed x) (hby:Byt w A a) (hgl:a2x w):Calls prog 12 #[.pointer d,.slice A n c] w λe w'=>∃y r,c6L d N seed x a w e w' y r:=by
 have cw:∀(fn:Fn) (first cap:AV) (w:WD),(Instr.makeFunc fn first cap).run prog w=.ok (.func fn first cap) w:=λ_ _ _ _=>rfl
 have⟨g,hg⟩:=ηs w;have b0:=Qd w 27 (#[.pointer d]);have B0:=ρb w (.cells (#[.pointer d]) 27)
 generalize hW:w.alloc (.cells (#[.pointer d]) 27)=W at b0 B0
 rw[hg]at b0;have a3:W.heap.size=g+1:=by rw[<-hW,Qi,hg]
 have av:=a5k W;have⟨zs,aN⟩:=η0 ((a0O 0 false a0r none 0).toArray);have aD:zs.size=139:=by rw[<-aN,Qc];exact a0A a0B _ _ _ _
 rw[aN,a3]at av;have aS:=b0.alloc (.cells zs 41);have bz:=Qd W 41 zs;have B1:Below w w (W.alloc (.cells zs 41)):=B0.alloc B0.size _
 generalize hV:W.alloc (.cells zs 41)=V at aS bz B1 av
 rw[a3]at bz;have bs:(ALs 41).run prog (w.alloc (.cells #[.pointer d] 27))=.ok (.pointer (g+1:Nat)) V:=by rw[hW];exact av
 have a7:=b5X A c z a ρo V (hby.below B1);rw[<-p]at a7;obtain⟨Zc,aB,ao,b5⟩:=P8 (t:=58) a6X d1M;have⟨aF,aI⟩:=η2 aB ao;have az:=hby.bd;have⟨HG,HH,bK,bN,b6,bY,b9,aT⟩:=η8 hg h hby hgl B1 aS bz aD;have⟨cd,bW,ci,bS⟩:=η4 p z o az;clear hg h hby hgl B1 aS bz aD p z o az b0 B0 a3 av hW hV aN aB ao b5;go_enter_defers func12,ntmps12;go_upto_region 1 with fail
 rw[HG.o];go_wp2_with fail;refine μ1 a7 ?_;rintro e1 w1 ⟨E,G⟩;clear bs a7;have J:=φt b6 G;have kz:=φf b9 G;have ks:=φf bY G;unfold a5x at E
 cases hrc:a2o a with
 |
  error k=>
  rw[hrc]at E;obtain⟨rfl,cu⟩:=E;have X:a7G.length=73:=a2I a0E a0n a0n;have ae:∀v∈a7G,v.oneCell'=true:=a6g a5O rfl;have ar:=aF.o w1;have F:=aI.o w1 a7G X ae;have K:=kz.alloc (.cells a7G.toArray 58);have B2:=J.alloc J.size (.cells a7G.toArray 58);have⟨r5,aa⟩:=ηs w1;rw[aa]at ar F
  generalize ad:w1.alloc (.cells a7G.toArray 58)=W2 at F K B2
  have B:=a0A a0B k false none 0;have bT:=P9 a4h K aT (a0O k false a0r none 0) B (a0W _ _ _ _ _);have q5:=K.row_ (a0O k false a0r none 0).toArray;have D:=HG.o;have q6:=Ql (g:=g+1) B2 ρo (a0O k false a0r none 0).toArray;have ck:=c6i k
  have H:c6L d N seed x a w (.returned (.agg (a0O k false a0r none 0).toArray)) (W2.setRow (g+1) (a0O k false a0r none 0).toArray) x (b1A k):=
   ⟨by unfold b7v;rw[hrc];exact⟨rfl,rfl⟩,⟨b,N,x,HH.below q6,rfl⟩,⟨none,0,rfl,a3C.zero _ _⟩,Yn q6⟩
  have⟨rs,Q⟩:=η0 (a0O k false a0r none 0);rw[Q]at bT q5 H B;simp only[Q]at ck;have⟨cv,aZ⟩:=η0 a7G.toArray;rw[aZ]at F ad;rw[aZ];have⟨Q5,bG,aV,bM,cg⟩:=η5 q5 H B ad aa;clear q5 H B ad aa q6 J G kz ks hrc X ae K B2 Q D aZ;go_wp2_with fail;obtain⟨dR,ai,U⟩:=Q8.1 a7w;refine⟨.agg rs.toArray,a0c rfl _ _ (g+1) _ rs dR rfl Q5 ai U (ρy aV.o a4h),x,b1A k,bG.o⟩
 |
  ok m=>
  rw[hrc]at E;obtain⟨A1,c1,A2,c2,Ac,cc,R,rfl,aJ,bB,bI⟩:=E;have hm:=b8G bS hrc;have X:=a2I (k:=m.kind) (T:=(txV A1 c1 A2 c2 m.t).toList) rfl (C:=.slice Ac m.certs.length cc) hm.ow.1 (am:=m.am) (ser:=m.ser) (ep:=m.ep) hm.id.1;have ae:∀v∈a1Q m.kind (txV A1 c1 A2 c2 m.t).toList (.slice Ac m.certs.length cc) m.ow m.am m.ser m.ep m.id,v.oneCell'=true:=a6g (by simp[txV,Value.oneCell']) rfl;have⟨cs,aY⟩:=η0 (a1Q m.kind (txV A1 c1 A2 c2 m.t).toList (.slice Ac m.certs.length cc) m.ow m.am m.ser m.ep m.id);rw[aY]at X ae;have ar:=aF.o w1;have F:=aI.o w1 cs X ae;have kc:=Qd w1 58 cs.toArray;have K:=kz.alloc (.cells cs.toArray 58);have au:=ks.alloc (.cells cs.toArray 58);have ac:=ρb w1 (.cells cs.toArray 58);have⟨r5,aa⟩:=ηs w1;rw[aa]at ar F kc
  generalize ad:w1.alloc (.cells cs.toArray 58)=W2 at F K au ac kc
  have B2:=J.trans (ac.mono J.size);have c0:W2.cell? ⟨g,0,none⟩=some (.pointer d):=au.cell 0;have D:=HG.o;have ba:=c9d d b ((g+1)::N) seed x W2 (HH.more B2 (g:=g+1) ⟨by omega,K.lt⟩);clear D;have⟨bM,cg,bx,HM,bq,bQ,cp,KC⟩:=η8 ad aa B2 hm aJ bB bI kc;have⟨bC,cf,I,bu,bo,cq,bl⟩:=η7 K au ac aY X G hrc;clear ad aa B2 hm aJ bB bI kc K au ac aY X G hrc J kz ks ae;rw[bu.o];go_wp2_with fail;refine μ1 ba ?_;rintro e4 w4 ⟨rfl,a8,Z,ay⟩;clear ba;have b7:=Z;have aM:=φf KC Z;have aX:=φf bC Z;have aO:=φf cf Z
  generalize O:W2.heap.size=q0 at a8 ay⊢
  have kt:=Qd w4 27 #[.pointer q0];have Y:=ρb w4 (.cells #[.pointer q0] 27);rw[ay]at kt
  generalize bn:w4.alloc (.cells #[.pointer q0] 27)=w5 at kt Y
  have ab:=a8.below Y;have a4:=aM.fr (Q9 Y) (ρh aM.lt);have be:=aX.fr (Q9 Y) (ρh aX.lt);have bt:=aO.fr (Q9 Y) (ρh aO.lt);have bc:=P4 b2N a6X cs a4 bo;have ct:w5.cell? ⟨q0+7,0,none⟩=some (.pointer q0):=kt.cell 0;have a9:=Z.trans (Y.mono Z.size);have bb:=φt bx a9;have⟨a2,bZ,bO,KT,cr,ca,b8,ce⟩:=η8 O ay ab kt a4 be bt bn;have⟨aG,a1⟩:=η2 a9 bb;clear O ay ab kt a4 be bt bn a9 bb a8 Z b7 aM aX aO Y;go_upto_region 6 with fail
  rw[bZ.o,ce.o];have D:=HG.o;have O:=a2.o;have bH:=bx.size;have af:=bC.lt;have S:w.heap.size<=q0:=ρo;have⟨N4,aP⟩:=η0 (d::q0::((cpB b.rp q0).own++(g+1)::N));have ab:=bO.o;rw[aP]at ab
  have aK:=c3Q q0 q0 (cpB b.rp q0) N4 seed x A n c a cd.o bW.o ci.o m HM.o A1 c1 A2 c2 Ac cc w5 ab (λj hj=>by
    simp only[cpB,ShB.own,Qo,Qt,or_false]at hj;omega)
   (λw' hb=>bK.below (a1.trans (hb.mono S))) (λw' hb=>bN.below (a1.trans (hb.mono S)))
   (λw' hb=>bq.at_.below ((I.trans (aG.mono I.size)).trans (hb.mono (ρh I.o.size))))
   (λw' hb=>(cp.at' bQ.o).below ((I.trans (aG.mono I.size)).trans (hb.mono (ρh I.o.size))))
  rw[bu.o]at aK;have⟨bi,bj,a5,bv⟩:=η4 ab aP S af;clear ab aP S af D O bH;go_wp2_with fail;refine μ1 aK ?_;rintro e6 w6 ⟨q,ak,H,an⟩;clear aK bc ct;have D:=HG.o;have O:=a2.o;have af:=bv.o
  have bk:=an.blk bi.o KT.o (by
   simp only[cpB,ShB.own,Qo,Qt,or_false,not_or];omega)
  have bE:=ca.fr (Q9 an.1) ρo;have bw:=b8.fr (Q9 an.1) ρo;have bA:Below w w w6:=a1.trans (an.1.mono a5);have⟨b3,aA,b4,aj,aq⟩:=η5 bk bE bw bA ak;clear bk bE bw bA ak an O af D
  cases q with
  |
   error k=>
   obtain⟨hk,rfl⟩:=H;have az:=c1m (.pointer (q0+7:Nat)) (.pointer g) (g+1) k zs aT w6 aA;refine leaves_cons (f:=33) (args:=#[.pointer (q0+7:Nat),.pointer g,.pointer (g+1:Nat)]) ρp (by simp[go_sem]) ?_;refine az.mono ?_;rintro e u' w7 ⟨rfl,rfl,cj,f7⟩;have D:=HG.o;have B7:Below w w w7:=aj.trans (f7.below aj.size (λk hk e=>ρo));have B:=a0A a0B k false none 0;obtain⟨dR,ai,U⟩:=Q8.1 a7w;refine⟨.agg (a0O k false a0r none 0).toArray,a0c rfl _ _ (g+1) _ _ dR rfl cj ai U (ρy B a4h),x,b1A k,⟨by unfold b7v;rw[bl.o];exact⟨_,aq.o,rfl,rfl⟩,⟨b,N,x,HH.below B7,rfl⟩,⟨none,0,rfl,a3C.zero _ _⟩,Yn B7⟩⟩
  |
   ok yr=>
   obtain⟨y,rp⟩:=yr;obtain⟨⟨b',N',y',aR,br,aQ,aC⟩,A7,c7,rfl,aL⟩:=H;have B:=a0A aL.1 rp.e rp.has A7 c7;have aU:=P9 a4h aA aT (a0O rp.e rp.has rp.c A7 c7) B (a0W _ _ _ _ _);have ax:=aA.row_ (a0O rp.e rp.has rp.c A7 c7).toArray;have f7:Fr (λk=>k=g+1) w6 (w6.setRow (g+1) (a0O rp.e rp.has rp.c A7 c7).toArray):=(Qp (λk=>k=g+1) w6).setRow (g:=g+1) (λ_=>rfl) _;have bf:g+1∈N':=aQ _ (by rw[<-bj.o];simp);have bD:d∈N':=aQ _ (by rw[<-bj.o];simp);have D:=HG.o;have O:=a2.o;have af:=bv.o;have S:=a5.o;have aW:=HH.st.lt;have al:=aR.away f7 bf (aR.not_own aA);have a6:=b3.fr f7 ρo;have a0:=b4.fr f7 ρo;have ah:Blk (w6.setRow (g+1) (a0O rp.e rp.has rp.c A7 c7).toArray) d 94 (shV x b).toArray:=(HH.st.fr (Q9 aj.o) ρo).fr f7 ρo;have B7:Below w w (w6.setRow (g+1) (a0O rp.e rp.has rp.c A7 c7).toArray):=aj.trans (f7.below aj.size (λk hk e=>ρo))
   have aE:d ∉ q0::b'.own:=λhm=>by have:=aC _ hm;omega
   have ag:a3C q0 (w6.setRow (g+1) (a0O rp.e rp.has rp.c A7 c7).toArray) rp.c A7 c7:=aL.fr f7 (λk e=>ρo)
   generalize bF:w6.setRow (g+1) (a0O rp.e rp.has rp.c A7 c7).toArray=w7 at ax al a6 a0 ah B7 ag
   replace aU:=aU.trans (show _=Result.ok () w7 by rw[<-bF]);have hid:=c3J (q0+7) g (g+1) q0 d (shV y' b') (b3p al.ok.h b') (c2Z y' b') (shV x b).toArray (by rw[Qc];exact b3p HH.ok.h b) w7 a6 a0 al.st ah;have⟨rs,Q⟩:=η0 (a0O rp.e rp.has rp.c A7 c7);have aH:(a0O rp.e rp.has rp.c A7 c7).toArray=rs.toArray:=by rw[Q]
   rw[Q]at aU ax B;rw[Q];have⟨bL,ch,bV,bm,bR,bX,bU,bh⟩:=η8 ax al B7 ag hid br bD aE;have⟨aV,bp,bg⟩:=η3 B aH aW;clear ax al B7 ag hid br bD aE B aH aW aR aL f7 bf D O af S a6 a0 ah bF Q aQ aC;go_wp2_with fail;refine leaves_cons (f:=33) (args:=#[.pointer (q0+7:Nat),.pointer g,.pointer (g+1:Nat)]) ρp (by simp[go_sem]) ?_;refine bR.mono ?_;rintro e u' w8 ⟨rfl,rfl,bP,f8⟩;have D:=HG.o;have S:=a5.o;have aW:=bg.o;have cn:=bL.fr f8 ρo;have bJ:=bm.fr f8 (λk e=>ρo);have b2:=ch.into bU bh f8 bP;obtain⟨dR,ai,U⟩:=Q8.1 a7w;refine⟨.agg rs.toArray,a0c rfl _ _ (g+1) _ _ dR rfl cn ai U (ρy aV.o a4h),y,rp,⟨by unfold b7v;rw[bl.o];exact⟨_,aq.o,rfl⟩,⟨b',N',y',b2,bX.o⟩,⟨A7,c7,by rw[bp.o],bJ.base S⟩,(Yn bV.o).trans f8 (λ_ _ e=>e)⟩⟩
end
def c6E(seed:LI)(x:ShD):Prop:=∀p∈x.M,isP seed x.n p.2.c=true
structure c1W(seed:LI)(x z:ShD)(r:RpD):Prop where
 me:z.me=x.me
 n:z.n=x.n
 marks:c6E seed z
 is_:r.has=true->isP seed x.n r.c=true
 hd:z.h=x.h\/(r.has=true/\r.c.h=z.h/\a0w z.h=true/\z.h.sh=x.me/\z.h.ep=z.ep/\
  ((x.h.ht=0/\z.h.ht=1/\z.h.prev=List.replicate 32 0)\/(x.h.ht≠0/\a0w x.h=true/\z.h.ht=x.h.ht+1/\x.h.ep<=z.h.ep/\z.h.prev=b4F x.h/\z.h.sh=x.h.sh)))
theorem c7H{x:ShD}(h:c6E seed x){k:Ke}(a:(a2E x.M k).isSome=true):isP seed x.n (a2Q x.M k).c=true:=by
 obtain⟨v,b⟩:=Option.isSome_iff_exists.1 a
 have:=h _ (a6T b)
 unfold a2Q;rw[b];exact this
theorem c3p{x:ShD}{r:RpD}(a:c6E seed x)(h:c9P x r):c1W seed x x r:=by
 refine⟨rfl,rfl,a,λd=>?_,.inl rfl⟩
 rcases h with rfl | ⟨k,b,rfl⟩
 ·cases d
 exact c7H a b
theorem b4Q{x y:ShD}{e:a1P}(d:b9N x)(f:d0S x y)(b:a9K y a e=true):isP seed x.n (a9F seed y a e)=true/\a0w (a4T y a e)=true/\(a4T y a e).sh=x.me/\(a4T y a e).ep=y.ep/\(a9F seed y a e).h=a4T y a e/\((x.h.ht=0/\(a4T y a e).ht=1/\(a4T y a e).prev=List.replicate 32 0)\/(x.h.ht≠0/\a0w x.h=true/\(a4T y a e).ht=x.h.ht+1/\x.h.ep<=(a4T y a e).ep/\(a4T y a e).prev=b4F x.h/\(a4T y a e).sh=x.h.sh)):=by
 obtain⟨z,s2,p,G⟩:=f;unfold a9K at b;rw[QA]at b;obtain⟨E,v⟩:=b;unfold okH at v;rw[QA]at v;obtain⟨o,D⟩:=v;have r:=d.me;rw[p]at o;rw[p,z]at D;have j:a4T y a e=hdP x.h (decide (x.h.ht=0)) (c3x y a e) x.me y.ep:=by unfold a4T;rw[p,z]
 have B:a0w (a4T y a e)=true:=by rw[j];exact D
 have g:(a4T y a e).sh=x.me/\(a4T y a e).ep=y.ep/\(a4T y a e).root=c3x y a e/\
   ((x.h.ht=0/\(a4T y a e).ht=1/\(a4T y a e).prev=List.replicate 32 0)\/(x.h.ht≠0/\a0w x.h=true/\(a4T y a e).ht=x.h.ht+1/\x.h.ep<=(a4T y a e).ep/\(a4T y a e).prev=b4F x.h/\(a4T y a e).sh=x.h.sh)):=by
  rw[j]
  by_cases m:x.h.ht=0
  ·have hd:decide (x.h.ht=0)=true:=ρw m
   unfold hdP;rw[hd,if_pos rfl];exact⟨rfl,rfl,rfl,.inl ⟨m,rfl,rfl⟩⟩
  have hd:decide (x.h.ht=0)=false:=ρw m;rw[hd,Bool.false_or,QA,decide_eq_true_eq]at o;unfold hdP;rw[hd,if_neg ρp]
  rcases d.head with F | ⟨H,w⟩
  ·exact absurd (by rw[F];rfl) m
  exact⟨w,rfl,rfl,.inr ⟨m,o.1,rfl,o.2,rfl,rfl⟩⟩
 refine⟨?_,B,g.1,g.2.1,rfl,g.2.2.2⟩;refine c6B E B ?_ ?_ ?_ ?_
 ·show y.me=_
  rw[g.1,z]
 ·show y.ep=_
  exact g.2.1.symm
 ·rw[g.1];exact r.2
 rw[g.2.2.1];rfl
theorem b9I{x z:ShD}{r:RpD}{q:Except Int (ShD×RpD)}(d:b9N x)(a:c6E seed x)(h:b1m seed x b q)(f:q=.ok (z,r)):c1W seed x z r:=by
 subst f
 rcases h with⟨k,h⟩ | ⟨H,h,G⟩ | ⟨I,j,h⟩ | ⟨y,e,j,h⟩ | ⟨y,B,t,e,j,h⟩
 ·cases h
 ·cases h
  exact c3p a G
 ·cases h
  exact⟨rfl,rfl,λp m=>a p (j p m),λE=>(by cases E),.inl rfl⟩
 ·unfold b9r at h
  split at h
  ·rename_i ho
   cases h
   have g:=b4Q (seed:=seed) d j ho;have D:=j;obtain⟨w,s2,F,o⟩:=j
   exact⟨w,s2,λp m=>by
    show isP seed y.n p.2.c=true
    rw[s2];exact a p (ρz o m),λ_=>g.1,.inr ⟨rfl,rfl,g.2.1,g.2.2.1,g.2.2.2.1,g.2.2.2.2.2⟩⟩
  cases h
 unfold b5e at h
 split at h
 ·rename_i ho
  split at h
  ·cases h
  cases h
  have g:=b4Q (seed:=seed) d j ho;obtain⟨w,s2,F,o⟩:=j;refine⟨w,s2,λp m=>?_,λ_=>g.1,.inr ⟨rfl,rfl,g.2.1,g.2.2.1,g.2.2.2.1,g.2.2.2.2.2⟩⟩
  show isP seed y.n p.2.c=true
  rw[s2]
  rcases Qq.1 m with v | v
  ·exact a p (ρz o v)
  rw[Qn.1 v];exact g.1
 cases h
theorem b9W{x z:ShD}{r:RpD}(d:b9N x)(b:c6E seed x)(h:b7v seed x a z r):c1W seed x z r:=by
 unfold b7v at h
 split at h
 ·obtain⟨rfl,rfl⟩:=h
  exact⟨rfl,rfl,b,λg=>(by cases g),.inl rfl⟩
 obtain⟨q,hd,f⟩:=h
 cases q with
 |
  error k=>
  obtain⟨rfl,rfl⟩:=f;exact⟨rfl,rfl,b,λg=>(by cases g),.inl rfl⟩
 |
  ok j=>
  simp only at f;subst f;exact b9I d b hd.step rfl
theorem d1N{x y:ShD}(h:y.er=x.er):y.me=x.me/\y.n=x.n/\y.ep=x.ep/\y.ser=x.ser/\y.iss=x.iss/\y.fees=x.fees/\y.h=x.h/\y.C=x.C/\y.sC=x.sC/\y.L=x.L/\y.sL=x.sL:=by
 unfold ShD.er at h;simp only[ShD.mk.injEq]at h;obtain⟨o,j,v,m,r,d,p,g,f,a,b,-⟩:=h;exact⟨o,j,v,m,r,d,p,g,f,a,b⟩
theorem c4d{x y:ShD}(h:y.er=x.er)(a:c6E seed x):c6E seed y:=by
 intro p g;have m:=(d1N h).2.1;unfold ShD.er at h;simp only[ShD.mk.injEq]at h;obtain⟨-,-,-,-,-,-,-,-,-,-,-,d⟩:=h;have f:(p.1,({p.2 with A:=none,cap:=0}:MkD))∈y.M.map λp=>(p.1,{p.2 with A:=none,cap:=0}):=Qs.2 ⟨p,g,rfl⟩
 rw[d]at f;obtain⟨j,b,e⟩:=Qs.1 f;simp only[Prod.mk.injEq,MkD.mk.injEq]at e;rw[m,<-e.2.1];exact a j b
section
theorem c2c(w:WD):Calls prog 130 #[.agg a5c.toArray] w λe w'=>e=.returned (.bool true)/\Below w w w':=by
 have a:=Qd w 53 a5c.toArray;have b:=ρb w (.cells a5c.toArray 53);have m:=a.cell 0;have o:=a.cell 1;have g:=a.cell 2;have j:=a.cell 3;rw[show a5c.toArray[0]? =some (.slice none 0 0)from rfl]at m;rw[show a5c.toArray[1]? =some (.slice none 0 0)from rfl]at o;rw[show a5c.toArray[2]? =some (.int .u64 0)from rfl]at g;rw[show a5c.toArray[3]? =some (.int .i64 0)from rfl]at j
 generalize d:a5c.toArray=zt at a b m o g j⊢
 have f:=η1 b;clear b a d;go_in;go_wp2;go_ret;exact⟨rfl,f.o⟩
theorem b9a(n:Nat)(a:n<9223372036854775808)(w:WD):Calls prog 72 #[.int .i64 n] w λe w'=>∃v,e=.returned v/\a0N w w' v (a0K n)/\Below w w w':=by
 have f:=a3W n ρo w;have m:IntKind.u64.wrap (n:Int)=n:=by simp[IntKind.wrap,IntKind.bits,IntKind.signed];omega
 go_in;go_wp2_with fail;refine μ1 f ?_;rintro p o ⟨v,rfl,b,d⟩;obtain⟨A,c,rfl⟩:=b.form;have⟨j,g⟩:=η2 b d;clear b d f;go_wp2;go_ret;exact⟨_,rfl,j.o,g.o⟩
def b2p:LV:=a1Q 1 a5c (.slice none 0 0) zId 7 1 0 zId
theorem c4w:b2p.length=73:=a2I a0E a0n a0n
theorem c8D:(b2p.drop 1).take 4=a5c:=b2k a0E
theorem c7w:(b2p.drop 41).take 32=bys zId:=b0I a0E a0n a0n
theorem c7J:(b2p.drop 6).take 32=bys zId:=by
 unfold b2p a1Q;simp[a0E,Qb,a5c,zId,a0a]
attribute [local go_sem ↓] a1B a2q b7y c4Y
theorem b4N(w:WD):Calls prog 71 #[.agg b2p.toArray] w λe w'=>e=.returned (.int .i64 0)/\Below w w w':=by
 have⟨g,H⟩:=ηs w;have y:=Qd w 58 b2p.toArray;have K:=ρb w (.cells b2p.toArray 58);rw[H]at y
 generalize I:w.alloc (.cells b2p.toArray 58)=W at y K
 have x:=c2c W;have d:=λX (o:Below W W X)=>(show Blk X g 58 b2p.toArray from y.fr (Q9 o) (ρh y.lt))
 have F:=λX (o:Below W W X)=>(show X.cell? ⟨g,0,none⟩=some (.int .i64 1)/\X.cell? ⟨g,5,none⟩=some (.slice none 0 0)/\X.cell? ⟨g,38,none⟩=some (.int .u64 7)/\X.cell? ⟨g,39,none⟩=some (.int .i64 1)/\X.cell? ⟨g,40,none⟩=some (.int .i64 0)from
  ⟨((d X o).cell 0).trans a4a,((d X o).cell 5).trans (a8A a0E),((d X o).cell 38).trans (a7h a0E a0n),((d X o).cell 39).trans (a7c a0E a0n),((d X o).cell 40).trans (a9t a0E a0n)⟩)
 obtain⟨R,Q,B,D,v⟩:=F W (Qf _ _);have O:=P6 a2i iId (d W (Qf _ _)) (off:=41) (bys zId) (by rw[a0a,a0n]) c7w;have V:=P6 uTx iTx (d W (Qf _ _)) (off:=1) a5c rfl c8D;have j:=λX=>c6F (a:=zId) (b:=List.replicate 32 0) Dig.zIdZ ZZ X
 have E:=λX=>d2K X
 have r:(!decide (zId=List.replicate 32 0))=false:=by simp[zId]
 simp only[r]at j;have⟨Z,p⟩:=η0 ((bys zId).toArray);have f:(bys (List.replicate 32 0)).toArray=Z:=p;simp only[p,f]at j E O
 generalize N:b2p.toArray=cv at I⊢
 have⟨T,U,Y,G⟩:=η4 F H I K;clear F H I K y d N p f r;go_in;go_upto_region 1 with fail
 rw[Y.o,U.o];go_wp2_with fail;refine μi x ?_;intro S m;clear R Q B D v O V j E x;obtain⟨R,Q,B,D,v⟩:=T.o S m;have z:=φt G m;have J:=η1 z;clear z m;go_wp2_with fail;refine wp_loop_rounds 1 ?_;rw[rounds_succ];go_wp2;go_ret;exact⟨rfl,J.o⟩
def b0i:LI:=a0K 1++a0K 1++zId++a0K 7
attribute [local go_sem ↓] a3n a7s
theorem b8Q(w:WD):Calls prog 26 #[.agg b2p.toArray] w λe w'=>∃v,e=.returned (.tuple #[v,.int .i64 0])/\a0N w w' v b0i/\Below w w w':=by
 have⟨g,hg⟩:=ηs w;have b0:=Qd w 58 b2p.toArray;have B0:=ρb w (.cells b2p.toArray 58);rw[hg]at b0
 generalize hW:w.alloc (.cells b2p.toArray 58)=W at b0 B0
 have ag:=b4N W
 have F:=λX (r:Blk X g 58 b2p.toArray)=>(show X.cell? ⟨g,0,none⟩=some (.int .i64 1)/\X.cell? ⟨g,38,none⟩=some (.int .u64 7)/\X.cell? ⟨g,39,none⟩=some (.int .i64 1)/\(LDs 31 (.pointer (some ⟨g,6,none⟩))).run prog X=.ok (.agg (bys zId).toArray) X from
  ⟨(r.cell 0).trans a4a,(r.cell 38).trans (a7h a0E a0n),(r.cell 39).trans (a7c a0E a0n),P6 a2i iId r (off:=6) (bys zId) (by rw[a0a,a0n]) c7J⟩)
 have lC:=P4 b2N a6X b2p b0 c4w;have⟨iv,au⟩:=η0 ((bys zId).toArray);simp only[au]at F;have aD:∀X,Calls prog 73 #[.agg iv] X λe w'=>∃v,e=.returned v/\a0N X.heap.size w' v zId/\Below X.heap.size X w':=λX=>by rw[<-au];exact a3E zId a0n (λx hx=>by simp[zId]at hx;omega) X
 generalize a1:b2p.toArray=cv at hW ag lC⊢
 have c0:=(F W b0).1;have⟨H,HG,HW,a4,a7,aU⟩:=η6 F hg hW B0 b0 aD;clear F hg hW B0 b0 aD a1 au;go_in;go_upto_region 1 with fail
 rw[HW.o,HG.o];go_wp2_with fail;refine μi ag ?_;intro w1 ae;clear ag lC c0;have k1:=φf a7 ae;have c0:=(H.o w1 k1).1;have⟨l1,z⟩:=η0 (a0K 1);have⟨l7,D⟩:=η0 (a0K 7);have y:=λX=>(show Calls prog 72 #[.int .i64 1] X λe w'=>∃v,e=.returned v/\a0N X.heap.size w' v l1/\Below X.heap.size X w' by rw[<-z];exact b9a 1 ρo X)
 have N:=λX=>(show Calls prog 74 #[.int .u64 7] X λe w'=>∃v,e=.returned v/\a0N X.heap.size w' v l7/\Below X.heap.size X w' by rw[<-D];exact a3W 7 ρo X)
 have aT:∀x∈l1,0<=x/\x<=255:=by rw[<-z];exact a0L ρo
 have aR:∀x∈l7,0<=x/\x<=255:=by rw[<-D];exact a0L ρo
 have S:l1.length<=9:=by rw[<-z];exact a0p ρo
 have aa:l7.length<=9:=by rw[<-D];exact a0p ρo
 have ax:∀x∈zId,0<=x/\x<=255:=λx hx=>by simp[zId]at hx;omega
 have av:=y w1;have R:=φt a4 ae;have⟨aW,aK,aJ,aN,a0,a8,p,Q⟩:=η8 k1 R y N z D S aa;have⟨az,aM,aG⟩:=η3 aT aR ax;clear k1 R y N z D S aa aT aR ax ae;go_wp2_with fail;refine μ1 av ?_;rintro e2 w2 ⟨v1,rfl,B,ak⟩;clear av c0;have k2:=φf aW ak;have f:=φt aK ak;have B:=B.base aK.size;obtain⟨A1,d1,rfl⟩:=B.form;have c0:=(H.o w2 k2).1;have⟨U,hU⟩:=η0 w2.drew;have fd:Fr (λ_=>False) w2 U:=by rw[<-hU];exact(Qp _ _).drew
 have kU:=k2.fr fd id;have aS:=f.trans (fd.below f.size (λ_ _=>id));have aH:=B.fr fd (λ_ _=>id);have aB:=H.o U kU;have E:=aJ.o U;have⟨bb,ba,a2,aX,ay,HU,aE⟩:=η7 k2 f kU aS aH hU aB;clear k2 f kU aS aH hU aB fd ak B;go_upto_region 6 with fail
 refine a0s [(0,3),(1,3),(5,3),(6,3),(2,0),(7,0),(3,1),(4,1),(8,2),(9,2),(10,3)] (λY=>Y.cell? ⟨g,39,none⟩=some (.int .i64 1)/\(LDs 31 (.pointer (some ⟨g,6,none⟩))).run prog Y=.ok (.agg iv) Y) ρk ρk ρk ρk (by rw[HU.o];exact⟨aE.2.2.1,aE.2.2.2⟩) ?_;rw[HU.o];clear c0;refine ε4 ?_
 iterate 2 refine θ2 (λ_ h=>h) ?_
 refine κ ?_;intro K V;refine μ1 E ?_;rintro e3 w3 ⟨v2,rfl,al,G⟩;clear E;have k3:=φf a2 G;have a:=φt aX G;have m:=ay.fr (Q9 G) (λk r e=>by have:=(ay.lt r).2;omega);obtain⟨A2,d2,rfl⟩:=al.form;obtain⟨v3,w4,aQ,ar,aj,-⟩:=b3d (ty:=22) m al az (ρh p.o) a.size;have aC:=a2D m k3 ρd;have k4:=k3.fr aj (λe=>aC e);have Z:=a.trans (aj.below a.size (λk r e=>by have:=(m.lt e).1;omega));obtain⟨A3,d3,rfl⟩:=ar.form;have⟨aL,aq,a6,aF⟩:=η4 k3 k4 Z ar;clear k3 k4 Z ar m al aj G a aC;with_reducible refine V _ _ (⟨(H.o _ aL.o).2.2.1,(H.o _ aL.o).2.2.2⟩) ?_;clear V K
 refine κ ?_;intro K V;with_reducible refine V _ _ (⟨(H.o _ aq.o).2.2.1,(H.o _ aq.o).2.2.2⟩) ?_;clear V K;clear aQ
 have hz:=aU.o w4;refine τ ?_;intro K V;refine μ1 hz ?_;rintro e5 w5 ⟨v4,rfl,af,I⟩;clear hz;have k5:=φf aq I;have b:=φt a6 I;have j:=aF.fr (Q9 I) (λk r e=>by have:=(aF.lt r).2;omega);obtain⟨A4,d4,rfl⟩:=af.form;obtain⟨v5,w6,T,an,ao,-⟩:=b3d (ty:=22) j af aG.o (by have:=p.o;have:=a0n;simp;omega) b.size;have aP:=a2D j k5 ρd;have k6:=k5.fr ao (λe=>aP e);have ab:=b.trans (ao.below b.size (λk r e=>by have:=(j.lt e).1;omega));obtain⟨A5,d5,rfl⟩:=an.form;simp only[Qa]at T;have⟨aO,aY,aI⟩:=η3 k6 ab an;clear k6 ab an j af ao I b aP k5;with_reducible refine V _ _ ?_;clear V K
 refine τ1 ?_;refine ε1 ?_;clear T;refine ν ?_;have a9:=(H.o w6 aO).2.1;have E:=aN.o w6;go_wp2_with fail;refine μ1 E ?_;rintro e3 w7 ⟨v6,rfl,ai,J⟩;clear E a9;have k7:=φf aO J;have o:=φt aY J;have d:=aI.fr (Q9 J) (λk r e=>by have:=(aI.lt r).2;omega);obtain⟨A6,d6,rfl⟩:=ai.form;obtain⟨v7,w8,O,ad,ah,-⟩:=b3d (ty:=22) d ai aM.o (by have:=p.o;have:=Q.o;have:=a0n;simp;omega) o.size;have aA:=a2D d k7 ρd;have k8:=k7.fr ah (λe=>aA e);have ac:=o.trans (ah.below o.size (λk r e=>by have:=(d.lt e).1;omega));obtain⟨A7,d7,rfl⟩:=ad.form;simp only[Qa]at O;have⟨a3,a5,aV⟩:=η3 k8 ac ad;clear k8 ac ad d ai ah J o aA k7;have c0:=(H.o w8 a3).1;have⟨n,hn⟩:=η0 (l1.length+l1.length+zId.length+l7.length)
 have aZ:¬((8192:Int)<(n:Int)):=by
  rw[<-hn]
  have:=p.o;have:=Q.o;have:=a0n
  omega
 have bc:decide ((8192:Int)<(n:Int))=false:=ρw aZ;rw[hn]at O;have HN:=η1 hn;clear hn;go_wp2;go_ret2;refine⟨_,rfl,?_,a5.o⟩;have h8:=aV.o;simp only[Qa]at h8
 try rw[HN.o]at h8
 unfold b0i;rw[a0.o,a8.o];exact h8
end
theorem c8H:a2o [1,8]=.ok ⟨8,zTx,[],zId,0,0,0,zId⟩:=by rfl
theorem np1:a0K 1=[1,1]:=by simp[a0K,beP,leP]
theorem np7:a0K 7=[1,7]:=by simp[a0K,beP,leP]
theorem b5K:b0i=[1,1,1,1]++zId++[1,7]:=by
 unfold b0i;rw[np1,np7]
 rfl
theorem b7u:a2o b0i=.ok ⟨1,zTx,[],zId,7,1,0,zId⟩:=by
 rw[b5K]
 rfl
theorem c7x(D:LI):b9R D 1 0=some 0:=c2M ρo (λj hj=>ρo) (by
 unfold ofO
 split
 ·omega
 rfl)
theorem c0X(seed:LI)(x:ShD)(h:x.ser=1)(a:LI)(o:a1q):a5I seed x a 1 o=.error 24:=by
 unfold a5I;rw[if_pos ρo]
def b9Q(cmd:LI):ShD:={a1U 0 1 with C:=[((a1K 12 [cmd],0),⟨zId,7⟩)],sC:=7,ser:=1,iss:=7}
def c3E(cmd:LI):a1P:=⟨3,0,a1K 12 [cmd],7,1,0⟩
theorem c8R(seed a:LI):a5I seed (a1U 0 1) a 1 ⟨zId,7⟩=b9r seed (b9Q a) a (c3E a):=by
 unfold a5I;have d:b9R (a1K 12 [a]) (a1U 0 1).n (a1U 0 1).me=some 0:=c7x _;simp only[d]
 have b:a7H (a1U 0 1).C (a1U 0 1).sC (a1K 12 [a],((0:Nat):Int)) ⟨zId,7⟩=(0,[((a1K 12 [a],0),⟨zId,7⟩)],7):=by
  simp[a1U,a7H,a5b,a2E]
 rw[b];rw[if_neg (by simp[a1U]),if_neg (by simp[a1U]),if_neg ρp,if_neg (by simp[a1U]),if_neg (by simp[b1e,a1U]),if_neg ρp]
 rfl
theorem c9N(a:LI):a9K (b9Q a) a (c3E a)=true:=by
 simp[a9K,b9Q,c3E,a1U,b4M,a0D,okH,hdP,a0w,a1y]
theorem c5v(seed a:LI):a5I seed (a1U 0 1) a 1 ⟨zId,7⟩=.ok ({b9Q a with h:=a4T (b9Q a) a (c3E a)},a2O (a9F seed (b9Q a) a (c3E a))):=by
 rw[c8R,b9r,if_pos (c9N a)]
theorem d1n(a:LI):(a4T (b9Q a) a (c3E a)).ht=1:=by
 simp[a4T,b9Q,a1U,hdP,a1y]
section
theorem c6q{x y:ShD}(a:x.M=[])(h:y.er=x.er):y=x:=by
 have f:=d1N h;have b:y.M.map (λp=>(p.1,({p.2 with A:=none,cap:=0}:MkD)))=x.M.map (λp=>(p.1,({p.2 with A:=none,cap:=0}:MkD))):=congrArg ShD.M h;rw[a]at b;have d:y.M=[]:=ρw b
 cases x
 cases y
 simp_all
theorem d3Q{y:ShD}{r:RpD}(h:b7v seed (a1U 0 1) [1,8] y r):y=a1U 0 1/\r=b1A 0:=by
 unfold b7v at h;rw[c8H]at h;obtain⟨q,a,b⟩:=h;unfold a4d at a;rw[if_neg ρp,if_neg ρp,if_neg ρp,if_neg ρp,if_neg ρp,if_neg ρp,if_pos rfl]at a;obtain⟨g,f,rfl⟩:=a;have j:g=[]:=List.eq_nil_iff_forall_not_mem.2 (λp d=>by have:=f p d;simp[a1U]at this);subst j;simp only[Prod.mk.injEq]at b;exact⟨b.1.symm,b.2.symm⟩
def b2I:ShD:={b9Q b0i with h:=a4T (b9Q b0i) b0i (c3E b0i)}
theorem d2N{y:ShD}{r:RpD}(h:b7v seed (a1U 0 1) b0i y r):y=b2I/\r=a2O (a9F seed (b9Q b0i) b0i (c3E b0i)):=by
 unfold b7v at h;rw[b7u]at h;obtain⟨q,b,a⟩:=h;unfold a4d at b;rw[if_pos rfl,c5v]at b;subst b;simp only[Prod.mk.injEq]at a;exact⟨a.1.symm,a.2.symm⟩
theorem c8Q{y:ShD}{r:RpD}(h:b7v seed b2I b0i y r):y=b2I/\r=b1A 24:=by
 unfold b7v at h;rw[b7u]at h;obtain⟨q,a,b⟩:=h;unfold a4d at a;rw[if_pos rfl,c0X seed b2I rfl]at a;subst a;exact b
theorem c7o:∀x∈b0i,0<=x/\x<=255:=by
 rw[b5K];intro x a;simp[zId]at a;omega
theorem b7t:b0i.length=38:=by rw[b5K];rfl
theorem d3o(w:WD):(BDs 56 #[(1,.int .u64 7)]).run prog w=.ok (.agg (a1s ⟨zId,7⟩).toArray) w:=run_build w _ _ _ ρk
theorem d3u(w:WD):(BDs 58 #[(0,.int .i64 1),(4,.int .i64 1),(3,.agg (a1s ⟨zId,7⟩).toArray)]).run prog w=.ok (.agg b2p.toArray) w:=run_build w _ _ _ ρk
abbrev c2a:=bdOf 56
abbrev c1y:=bdOf 58
theorem c5Y(v:VL)(i:Nat):Instr.field 47 v i=FDl 47 v i:=rfl
theorem c5I(v:VL)(i:Nat):Instr.field 41 v i=FDl 41 v i:=rfl
theorem c7n(a b c d:Int)(w:WD):(FDl 47 (.agg #[.int .u64 a,.int .u64 b,.int .u64 c,.int .u64 0,.int .u64 0,.int .u64 d]) 1).run prog w=.ok (.int .u64 b) w:=ρk
theorem c8O(e:Int)(has:Bool)(c:a0y)(A:OA)(cap:Nat)(w:WD):(FDl 41 (.agg (a0O e has c A cap).toArray) 0).run prog w=.ok (.int .i64 e) w:=ρk
attribute [local go_sem ↓] c5Y c5I
attribute [local go_sem ↓] c2a c1y a1G a1M a4E a4z
theorem a6p(w:WD)(d:a2x w):Calls prog 10 #[] w λe w'=>e=.returned (.bool true)/\Below w w w':=by
 have bm:Blk (w.alloc (.cells (bys [1]).toArray 5)) w.heap.size 5 (bys [1]).toArray:=Qd w _ _;have BX:=ρb w (.cells (bys [1]).toArray 5);have H:=b5G 0 1 w 1 [1] (w.alloc (.cells (bys [1]).toArray 5)) ρo ρo ρp (bm.byt ρp) (d.below BX);have z:=d.below BX;rw[show(bys [1]).toArray=#[.int .u8 1]from rfl]at z H;rw[show([1]:LI).length=1 from rfl,show((1:Nat):Int)=1 from rfl]at H;obtain⟨Zr,ar,aj,_⟩:=P8 (t:=41) a4h b4t;obtain⟨Zh,az,ak,_⟩:=P8 (t:=37) a1h d1g;have⟨cj,av,aE,bu,bH,b6,bB⟩:=η7 z ar aj az ak d.size BX;clear z ar aj az ak bm BX d;go_in;go_wp2_with fail;refine μ1 H ?_;rintro e1 w1 ⟨⟨sb,b,N,aR,rfl,a4⟩,aI⟩;clear H;have z:=cj.below aI;have be:=c3c w1;have ba:2<=sb:=by have:=b6.o;simp only[Qi]at aR;omega
 have au:=a4.st.lt;have bq:=φt bB aI;have bA:w.heap.size<=sb:=Qk bB.size aR;have⟨b9,aq,ag,cd,bc,a2⟩:=η6 a4 z ba au bq bA;clear a4 z ba au bq bA aI aR;go_wp2_with fail;refine μi be ?_;intro cr bV;subst bV;clear be;have b2:Blk (w1.alloc (.cells (bys [1,8]).toArray 5)) w1.heap.size 5 (bys [1,8]).toArray:=Qd w1 _ _;have B2:=ρb w1 (.cells (bys [1,8]).toArray 5);have V:=a6E sb b N [1] (a1U 0 1) w1 2 2 [1,8] rfl ρp ρp (w1.alloc (.cells (bys [1,8]).toArray 5)) (b9.below B2) (b2.byt ρp) (aq.below B2);have a0:=aq.below B2;have aK:=bc.alloc bc.size (.cells (bys [1,8]).toArray 5);have bb:=cd.o;have T:(w1.alloc (.cells (bys [1,8]).toArray 5)).heap.size=w1.heap.size+1:=by simp
 rw[show(bys [1,8]).toArray=#[.int .u8 1,.int .u8 8]from rfl]at V a0 T aK;have⟨b7,cq,bE⟩:=η3 a0 T aK;clear a0 T aK b2 B2 bb;go_wp2_with fail;refine μ1 V ?_;rintro e3 w2 ⟨y,r,ab⟩;clear V;obtain⟨hq,⟨b',N',y',aH,U⟩,⟨A,cap,rfl,ad⟩,g⟩:=ab;have aJ:=bE.trans (g.below_of bE.size (λj e=>by rw[e];exact a2.o));obtain⟨rfl,rfl⟩:=d3Q hq;obtain rfl:=c6q (x:=a1U 0 1) rfl U;have bl:=b7.fr g (ρh ag.o) (ρh ag.o);simp only[show(b1A 0).e=0 from rfl,show(b1A 0).has=false from rfl,show(b1A 0).c=a0r from rfl];have B:=av.o w2;have f:=aE.o w2 (a0O 0 false a0r A cap) (a0A a0B _ _ _ _) (a0W _ _ _ _ _);have k1:=Qd w2 41 (a0O 0 false a0r A cap).toArray;have B3:=ρb w2 (.cells (a0O 0 false a0r A cap).toArray 41);have d0:(a0O 0 false a0r A cap).toArray[0]? =some (.int .i64 0):=rfl;have d1:(a0O 0 false a0r A cap).toArray[1]? =some (.bool false):=rfl;have⟨z1,aZ⟩:=η0 ((a0O 0 false a0r A cap).toArray)
 rw[aZ]at k1 B3 d0 d1 f;simp only[aZ];have aS:=aH.below B3;have aY:=bl.below B3;have m:=aH.st.lt;have⟨p1,aW⟩:=ηs w2;have p:(w2.alloc (.cells z1 41)).heap.size=p1+1:=by simp[aW]
 rw[aW]at k1 B f m
 generalize bD:w2.alloc (.cells z1 41)=V2 at k1 f aS aY p
 have bt:Below w w V2:=by rw[<-bD];exact aJ.alloc aJ.size _
 have ac:=b8Q V2;have bi:=d3o;have aG:=d3u;have⟨ov,bk⟩:=η0 ((a1s ⟨zId,7⟩).toArray);have⟨iv,bK⟩:=η0 b2p.toArray;simp only[bk]at bi aG;simp only[bK]at aG ac;have⟨bS,bR,bZ,b4,b0,bN,an,bT⟩:=η8 k1 d0 d1 aS aY p m bt;clear k1 d0 d1 aS aY p m bt aJ B3 bk bK aZ aW bD bl aH g ad hq U;go_wp2_with fail;refine μ1 ac ?_;rintro e4 w3 ⟨v,rfl,G,I⟩;clear ac bi aG f B;obtain⟨A3,c3,rfl⟩:=G.form;obtain⟨ct,cv,bn,aa,aB,-⟩:=G.byt c7o;simp only[Value.slice.injEq]at bn;obtain⟨rfl,-,rfl⟩:=bn;have R:A3=none->c3=0:=λe=>by subst e;exact G.nul
 have m:=an.o;have p:=bN.o;have bh:=b4.below I;have a5:=b0.below I;have k5:=φf bS I;have al:=a6E sb b' N' [1] (a1U 0 1) A3 b0i.length c3 b0i rfl R (by rw[b7t];omega) w3 bh aa a5;have bw:∀a,A3=some a->a.block≠sb:=λa e=>by have:=aB a e;omega
 have bf:=φt bT I;have aA:p1+1<=w3.heap.size:=by rw[<-p];exact I.size
 have⟨ca,bP,bL,bF,b5,bJ,br⟩:=η7 k5 a5 aa R bw aA bf;clear k5 a5 aa R bw aA bf G aB m p I bh;go_wp2_with fail;refine μ1 al ?_;rintro e5 w4 ⟨y2,r2,ab⟩;clear al;obtain⟨hq,⟨b2,N2,y3,aL,U⟩,⟨A2,o,rfl,ad⟩,g⟩:=ab;have aN:=br.trans (g.below_of br.size (λj e=>by rw[e];exact a2.o));obtain⟨rfl,rfl⟩:=d2N hq;obtain rfl:=c6q (x:=b2I) rfl U;have m:=an.o;have bx:=bP.fr g (ρh ag.o) (ρh ag.o);have aD:=bL.fr g (λa e _=>b5.o a e);have k6:=ca.fr g (show¬p1=sb by omega);have K:=Qk bJ g.size;have J:=ad.1;have Q:=aL.st.lt;have⟨F,af⟩:=η0 (a9F [1] (b9Q b0i) b0i (c3E b0i));have bg:F.e.am=7:=by rw[<-af];rfl
 rw[af]at J;simp only[af,show(a2O F).e=0 from rfl,show(a2O F).has=true from rfl,show(a2O F).c=F from rfl];replace J:F.Bd:=J;have B:=av.o w4;have f:=aE.o w4 (a0O 0 true F A2 o) (a0A J _ _ _ _) (a0W _ _ _ _ _);have k7:=Qd w4 41 (a0O 0 true F A2 o).toArray;have B7:=ρb w4 (.cells (a0O 0 true F A2 o).toArray 41);have f0:(a0O 0 true F A2 o).toArray[0]? =some (.int .i64 0):=rfl;have f1:(a0O 0 true F A2 o).toArray[1]? =some (.bool true):=rfl
 have aO:(a0O 0 true F A2 o).toArray[36]? =some (.int .u64 7):=by
  rw[<-bg];have hl:(bys F.e.tx).length=32:=by rw[a0a,J.e.tx.1]
  simp[a0O,a0d,a0x,List.getElem?_append,hl]
 have⟨z2,aU⟩:=η0 ((a0O 0 true F A2 o).toArray);rw[aU]at k7 B7 f0 f1 aO f;simp only[aU];have⟨p2,aT⟩:=ηs w4;have S:(w4.alloc (.cells z2 41)).heap.size=p2+1:=by simp[aT]
 have Y:=aL.below B7;have aP:=bx.below B7;have W:=aD.below B7;have a1:=k6.alloc (.cells z2 41);rw[aT]at k7 B f Q K
 generalize bz:w4.alloc (.cells z2 41)=V4 at k7 f Y aP W a1 S
 have a6:Below w w V4:=by rw[<-bz];exact aN.alloc aN.size _
 have aV:=b6n sb b2 N2 [1] b2I V4 Y;have aX:b2I.h.ht=1:=d1n b0i;rw[show decide (0<b2I.h.ht)=true by rw[aX];decide]at aV;have⟨cc,bv,b8,bU,bo,ch,bQ,bG⟩:=η8 k7 a1 f0 f1 aO Y aP W;have⟨ck,cn,cp,cf,b3⟩:=η5 S Q K Y.ok.h a6;clear k7 a1 f0 f1 aO Y aP W S Q K a6 aN B7 aU aT bz bx aL g ad hq U af bg J aD k6 m;go_wp2_with fail;refine μi aV ?_;intro w5 E;clear aV B f;have B:=bu.o w5;have f:=bH.o w5 (a0b b2I.h) (a0f cf) (a1p _);have k9:=Qd w5 37 (a0b b2I.h).toArray;have B9:=ρb w5 (.cells (a0b b2I.h).toArray 37);have g1:(a0b b2I.h).toArray[1]? =some (.int .i64 1):=by rw[<-aX];rfl
 have⟨z3,aM⟩:=η0 ((a0b b2I.h).toArray);rw[aM]at k9 B9 g1 f;simp only[aM];have ah:=(ch.below E).below B9;have a3:=(bQ.below E).below B9;have Z:=(bG.below E).below B9;have ai:=(φf bv E).alloc (.cells z3 37);have O:=(φf cc E).alloc (.cells z3 37);have⟨p3,a8⟩:=ηs w5;rw[a8]at k9 B f
 generalize bj:w5.alloc (.cells z3 37)=V5 at k9 ai O f ah a3 Z
 have aQ:=φt b3 E;have bC:Below w w V5:=by rw[<-bj];exact aQ.alloc aQ.size _
 have a9:=ai.cell 0;have bI:=ai.cell 1;have bO:=O.cell 0;have bp:=O.cell 1;have ax:=O.cell 36;have a7:=k9.cell 1;rw[bR.o]at a9;rw[bZ.o]at bI;rw[b8.o]at bO;rw[bU.o]at bp;rw[bo.o]at ax;rw[g1]at a7;have ae:=c2b sb b2 N2 [1] b2I V5 ah;have bW:b2I.sC=7:=rfl;unfold c8L at ae;rw[bW]at ae;have⟨cg,ce,bs,bX⟩:=η4 ah a3 Z bC;clear ah a3 Z bC aQ k9 ai O B9 aM a8 bj g1 E aX;go_wp2_with fail;refine μi ae ?_;intro w6 D;clear ae B f a9 bI bO bp ax a7;have cu:=λX=>c7n b2I.iss 7 b2I.sL b2I.fees X
 have ao:=a6E sb b2 N2 [1] b2I A3 b0i.length c3 b0i rfl bF.o (by rw[b7t];omega) w6 (cg.below D) (bs.below D) (ce.below D);have aF:=η1 (φt bX D);clear D;go_wp2_with fail;refine μ1 ao ?_;rintro e8 w7 ⟨y4,r4,ab⟩;clear ao;obtain⟨hq,-,⟨A5,aC,rfl,-⟩,g⟩:=ab;have ay:=aF.trans (g.below_of aF.size (λj e=>by rw[e];exact a2.o));have bM:=η1 ay;clear ay g;obtain⟨-,rfl⟩:=c8Q hq;clear hq;simp only[show(b1A 24).e=24 from rfl,show(b1A 24).has=false from rfl,show(b1A 24).c=a0r from rfl];have ci:=c8O 24 false a0r A5 aC
 generalize bY:(a0O 24 false a0r A5 aC).toArray=z5 at ci⊢
 clear bY;go_wp2;go_ret;exact⟨rfl,bM.o⟩
end
section
attribute [local go_sem ↓] b4b a8b a1G a1M a4E a4z a1l a1D a1B c9o a6i
theorem c1H(f d:Int)(Q:0<=f/\f<=255)(R:0<=d/\d<=255)(F:OA)(I cs:Nat)(seed:LI)(G:I=seed.length)(A:OA)(z c:Nat)(l:LL)(B:z=l.length)(J:l.length<=9223372036854775807)(w:WD)(O:Txs w A l)(H:c5y w F cs seed)(E:a2x w):Calls prog 6 #[.int .u8 f,.int .u8 d,.slice F I cs,.slice A z c] w λe w'=>e=.returned (.bool true)/\Below w w w':=by
 have cf:=b0C F I cs A c l J w O;rw[<-B]at cf;have bh:=a6p w E;obtain⟨Zr,bC,bx,_⟩:=P8 (t:=41) a4h b4t;obtain⟨Zh,bw,bG,_⟩:=P8 (t:=37) a1h d1g;have⟨cJ,cT,bA,bF⟩:=η4 bC bx bw bG;clear bC bx bw bG;have⟨HL,aB,aO,HM,bc,aM,bR,bJ⟩:=η8 O H E J G B Q R;clear O H E J G B Q R;go_in;go_wp2_with fail;refine μ1 cf ?_;rintro e w1 ⟨⟨r,rfl,hr⟩,rfl⟩;clear cf
 cases r with
 |
  true=>
  clear hr;go_wp2_with fail;refine μi bh ?_;intro w1 hB;have bP:=η1 hB;clear hB;go_wp2_with fail;go_ret;exact⟨rfl,bP.o⟩
 |
  false=>
  clear bh;obtain⟨cv,dk,bH⟩:=hr rfl;clear hr;obtain⟨k,hk⟩:∃k:Nat,1+d % 16=(k:Int):=⟨(1+d % 16).toNat,by have:=bJ.o;omega⟩;have⟨m,cd⟩:=η0 (f % (k:Int));have bT:1<=k/\k<=16:=ρo;have az:0<=m/\m<(k:Int):=by rw[<-cd];exact⟨Int.emod_nonneg _ ρo,Int.emod_lt_of_pos _ ρo⟩
  have t1:d.tmod 16=d % 16:=Ye bJ.1;have t2:f.tmod (k:Int)=m:=by rw[Ye bR.1];exact cd
  have cD:(k:Int)≠0:=ρo;have aY:=b5G m k F cs seed w bT az (ρh bc.o) aB.byt aO;rw[<-bc.o]at aY;have⟨aX,cR,cx,dm⟩:=η4 cv bH bT az;clear cv bH bT az;have x0:wrap64 f=f:=a2j _ (ρh bR.o);have x1:wrap64 d=d:=a2j _ (ρh bJ.o);have x2:wrap64 (k:Int)=k:=a2j _ (ρh cx.o);have hz:(wrap64 (1+(wrap64 d).tmod 16)=0)=False:=by rw[x1,t1,hk,x2];exact eq_false cD
  have dn:¬(wrap64 (1+(wrap64 d).tmod 16)=0):=by rw[hz];exact id
  clear cD;have⟨X0,X1,X2,T1,T2,HK⟩:=η6 x0 x1 x2 t1 t2 hk;clear x0 x1 x2 t1 t2 hk cd;go_wp2_with fail;rw[X1.o,T1.o,HK.o,X2.o,X0.o,T2.o];refine μ1 aY ?_;rintro e w1 ⟨⟨sb,b,N,aA,rfl,au⟩,a4⟩;clear aY;have de:=aB.byt.below a4;have cZ:=aO.below a4;have ak:=aO.size;have bl:Below w w w1:=a4;have⟨cA,c3,c4,du⟩:=η4 aA au a4 ak;clear aA au a4 ak de cZ bl;go_upto_region 8 with fail
  go_loopg [11] 20 (λkk s wr=>∃(i:Nat) (b:ShB) (N:List Nat) (x:ShD),i+kk=20/\s=.int .i64 i/\i<=z/\a1e wr sb b N seed x/\c6E seed x/\x.me=m/\x.n=(k:Int)/\Below w w wr);exact⟨0,b,N,a1U m k,by omega,rfl,by omega,c3.o,λp hp=>by simp[a1U]at hp,rfl,rfl,c4.o⟩;obtain⟨i,b,N,x,hi,rfl,dc,au,az,cI,hn,hB⟩:=hrel
  by_cases c9:i<z
  ·have dh:(i:Int)<z:=ρo
   have cw:i<l.length:=by have:=aM.o;omega
   obtain⟨g,off,rfl,hg,A',c',hc,bN,-⟩:=HL.o i cw;have b2:=cR.o _ (Qu cw);have⟨cm,bl⟩:=η0 (l[i]);rw[bl]at hc bN b2;have aA:=cA.o;have a2:=b6n sb b N seed x wr au;have cr:=au.ok.h;have bD:i<z/\z<=20:=by have:=aM.o;have:=aX.o;omega
   have⟨HG,HC,cg,c1,a1,cQ,HB,bs⟩:=η8 hg hc bN b2 au az hB hi;have⟨U,ar,b9,HN⟩:=η4 bD cr cI hn;clear hg hc bN b2 au az hB hi bD cr cI hn bl dc c9 aA;go_wp2_with fail;refine μi a2 ?_;intro w2 an;clear a2;have ah:=bA.o w2;have ab:=bF.o w2 (a0b x.h) (a0f ar) (a1p _);have k2:=Qd w2 37 (a0b x.h).toArray;have bV:=φt HB an;have B2:=(Qf wr.heap.size wr).trans an |>.alloc an.size (.cells (a0b x.h).toArray 37);have aE:=bV.alloc bV.size (.cells (a0b x.h).toArray 37);have bq:=a1.below B2;have bB:=a1.st.lt;have aI:=cg.byt.below aE;have ak:=aO.below aE;have br:=(aE.cell (p:=⟨g,off+i,none⟩) HG.o).trans HC;have⟨za,bX⟩:=η0 ((a0b x.h).toArray);simp only[bX]at ah ab k2 B2 aE bq aI ak br⊢;have⟨p2,bt⟩:=ηs w2;have a0:(w2.alloc (.cells za 37)).heap.size=p2+1:=by simp[bt]
   have ct:wr.heap.size<=p2:=by rw[<-bt];exact an.size
   rw[bt]at ah ab k2
   generalize cY:w2.alloc (.cells za 37)=V2 at ab k2 B2 aE bq aI ak br a0
   have a7:=a6E sb b N seed x A' cm.length c' cm rfl cg.nil_ (ρh c1.o) V2 bq aI ak;have⟨nc,cu⟩:=η0 cm.length;rw[cu]at a7 br;have⟨K2,cE,dt,cB,dg,PR,cF⟩:=η7 k2 aE ak a0 bB ct bX;clear k2 aE ak a0 bB ct bX an bV B2 bq aI bt cY cu;go_wp2_with fail;refine μ1 a7 ?_;rintro e3 w3 ⟨y,r,df⟩;clear a7 ab ah br;obtain⟨hq,⟨b',N',S,bI,bW⟩,⟨A4,W,rfl,be⟩,bb⟩:=df;have bf:=b9W a1.ok cQ hq;have cq:=d1N bW;have bz:=c4d bW bf.marks;have aA:=cA.o;have bU:=cE.trans (bb.below_of cE.size (λj e=>by rw[e];exact aA));have k3:=K2.fr bb (show¬p2=sb by have:=dg.o;have:=PR.o;omega);have aT:p2+1<=w3.heap.size:=by rw[<-cB.o];exact bb.size
   have aP:=bI.st.lt;obtain⟨re,rh,rc⟩:=r;simp only at bf be⊢;have bY:=be.1;have ah:=cJ.o w3;have ab:=cT.o w3 (a0O re rh rc A4 W) (a0A bY _ _ _ _) (a0W _ _ _ _ _);have k4:=Qd w3 41 (a0O re rh rc A4 W).toArray;have B4:=ρb w3 (.cells (a0O re rh rc A4 W).toArray 41);have bn:=bU.alloc bU.size (.cells (a0O re rh rc A4 W).toArray 41);have a9:=k3.alloc (.cells (a0O re rh rc A4 W).toArray 41);have aL:=bI.below B4;have aH:=be.below B4;have⟨zb,b3⟩:=η0 ((a0O re rh rc A4 W).toArray);simp only[b3]at ah ab k4 bn a9 aL aH⊢;have⟨p3,b0⟩:=ηs w3;have aR:(w3.alloc (.cells zb 41)).heap.size=p3+1:=by simp[b0]
   rw[b0]at ah ab k4 aT aP
   generalize cX:w3.alloc (.cells zb 41)=V3 at ab k4 bn a9 aL aH aR
   have a2:=b6n sb b' N' seed S V3 aL;have cH:=aL.ok.h;have bE:a3C w V3 rc A4 W:=aH.base (by rw[cB.o];have:=PR.o;have:=HB.size;omega);have⟨c0,K4,dd,c2,cW,aF,ax,bk⟩:=η8 a9 k4 bn aL bE bf cq bz;have⟨b5,ai,dp,dw,ds,ba⟩:=η6 b3 cH aR aT aP bY;clear a9 k4 bn aL bE bf cq bz b3 cH aR aT aP bY hq bW be bb bU k3 bI B4 aH b0 cX aA;go_wp2_with fail;refine μi a2 ?_;intro w5 b8;clear a2 ab ah;have ah:=bA.o w5;have ab:=bF.o w5 (a0b S.h) (a0f ai) (a1p _);have k5:=Qd w5 37 (a0b S.h).toArray;have B5:=b8.alloc b8.size (.cells (a0b S.h).toArray 37);have bp:=φt dd B5;have b6:=c2.below B5;have ka:=(φf c0 B5);have kb:=(φf K4 B5);have bu:=cW.below B5;have d1:(a0O re rh rc A4 W).toArray[1]? =some (.bool rh):=rfl;obtain⟨A6,c6,ck,hP,-,-,-⟩:=bu.2.2.rd;simp only[Value.slice.injEq]at ck;obtain⟨rfl,-,rfl⟩:=ck;have kA:=ka;have kB:=kb;have⟨p5,cN⟩:=ηs w5;rw[cN]at ah ab k5
   have bj:∃V,w5.alloc (.cells (a0b S.h).toArray 37)=V:=⟨_,rfl⟩;obtain⟨V5,bj⟩:=bj;rw[bj]at ab k5 bp b6 kA kB hP;have bL:=kB;rw[<-b5.o]at bL;have lC:=P6 b3R a4U bL (off:=2) (a0d rc A4 W) (a0l ba _ _) (c6v ba _ _ _ _);have cy:=kB.cell 1;have cj:zb[1]? =some (.bool rh):=by rw[<-b5.o];exact d1
   rw[cj]at cy;clear cj;have aJ:=c7v F cs seed (ρh bc.o) (k:Int) A4 W rc V5 ba (aB.byt.below bp) hP;rw[<-bc.o]at aJ;have⟨zq,ca⟩:=η0 ((a0d rc A4 W).toArray);rw[ca]at lC aJ;have⟨KA,KB,K5,cn,ch,dq,dv⟩:=η7 kA kB k5 b6 bp hP ca;clear kA kB k5 b6 bp hP ca bL ka kb B5 b8 bu d1 bj cN
   cases rh with
   |
    true=>
    have b4:=aF.is_ rfl;rw[HN.o]at b4;rw[b4]at aJ;clear b4;go_wp2_with fail;refine μi aJ ?_;intro w6 cp;obtain⟨X,rfl⟩:∃X,X=w6:=⟨_,rfl⟩;have hX:=cp;clear aJ cp lC cy;have al:=φf K5 hX;have ad:=φf KA hX;have aK:=φf KB hX;have aC:=cn.below hX;have Z:=φt ch hX;have aa:S.me=m:=by rw[ax.1,aF.me];exact b9.o
    have ag:S.n=(k:Int):=by rw[ax.2.1,aF.n];exact HN.o
    have T:=ax.2.2.2.2.2.2.1;have aN:=ax.2.2.1;rw[<-cF.o]at ad;have l5:=P4 a1S a1h (a0b S.h) al (a0f ai);have l2:=P4 a1S a1h (a0b x.h) ad (a0f ar)
    rcases aF.hd with hh | ⟨-,ci,cL,cO,cM,bM⟩
    focus
     have e1:S.h=x.h:=by rw[T];exact hh
     have aq:=b6A ar X;rw[e1]at l5;simp only[e1];have⟨hv,ae⟩:=η0 ((a0b x.h).toArray);rw[ae]at l5 l2 aq;have⟨cc,aV,aU,b7⟩:=η4 aC Z aa ag;clear aC Z aa ag al ad aK hX T aN e1 ae;go_wp2_with fail;go_roundg (20-(i+1))
     case measure=>have:=bs.o;have:=aM.o;have:=aX.o;omega
     exact⟨i+1,b',N',S,by have:=U.o;omega,by have:=U.o;rw[a2j _ ρo];simp,by have:=U.o;omega,cc.o,bk.o,aU.o,b7.o,aV.o⟩
    have cC:S.h.ht≠x.h.ht:=by
     rw[T]
     rcases bM with⟨q1,q2,-⟩ | ⟨q1,-,q2,-⟩<;>omega
    have aq:=d1l ai ar cC X;have bg:=λV=>c9Q ai.o V
    have bo:=c5h sb b' N' seed S
    have bS:decide (0<S.h.ht)=true:=by
     rw[T]
     rcases bM with⟨q1,q2,-⟩ | ⟨q1,q3,q2,-⟩
     ·simp;omega
     have:=a7l q3;simp;omega
    simp only[bS];have aW:S.h.ep=S.ep:=by rw[T,cM,aN]
    have a3:S.h.sh=m:=by rw[T,cO];exact b9.o
    have cK:rc.h=S.h:=by rw[T];exact ci
    have bO:(bys S.h.prev).length=32:=by rw[a0a,ai.prev.1]
    have⟨D,hD⟩:=η0 X.drew;have ay:Below X.heap.size X D:=by rw[<-hD];exact(Qf _ _).drew
    have bQ:=al.fr (Q9 ay) (ρh al.lt);have bK:=ad.fr (Q9 ay) (ρh ad.lt);have bm:=aK.fr (Q9 ay) (ρh aK.lt);have cP:=aC.below ay;have bZ:a2x D:=aO.below (Z.trans (ay.mono Z.size));have bv:=Z.trans (ay.mono Z.size);rw[<-b5.o]at bm
    have ac:∀Y,Below D D Y->((Y.cell? ⟨p3,1,none⟩=some (.bool true)/\(LDs 37 (.pointer (some ⟨p3,40,none⟩))).run prog Y=.ok (.agg (a0b S.h).toArray) Y/\(LDs 37 (.pointer p5)).run prog Y=.ok (.agg (a0b S.h).toArray) Y/\(LDs 37 (.pointer p2)).run prog Y=.ok (.agg (a0b x.h).toArray) Y)/\
      (Y.cell? ⟨p5,0,none⟩=some (.int .i64 m)/\Y.cell? ⟨p5,1,none⟩=some (.int .i64 S.h.ht)/\Y.cell? ⟨p5,2,none⟩=some (.int .i64 S.ep))/\(LDs 31 (.pointer (some ⟨p5,3,none⟩))).run prog Y=.ok (.agg (bys S.h.prev).toArray) Y)/\a1e Y sb b' N' seed S:=λY hY=>by
     have y5:=bQ.fr (Q9 hY) (ρh bQ.lt);have ya:=bK.fr (Q9 hY) (ρh bK.lt);have yb:=bm.fr (Q9 hY) (ρh bm.lt);refine⟨⟨⟨yb.cell 1,?_,P4 a1S a1h (a0b S.h) y5 (a0f ai),P4 a1S a1h (a0b x.h) ya (a0f ar)⟩,⟨?_,y5.cell 1,?_⟩,?_⟩,cP.below hY⟩
     ·refine P6 a1S a1h yb (off:=40) (a0b S.h) (a0f ai) ?_
      show((a0d rc A4 W).drop 38).take 67=_
      rw[a6M ba.o,cK]
     ·rw[<-a3];exact y5.cell 0
     ·rw[<-aW];exact y5.cell 2
     exact P6 a2i iId y5 (off:=3) (bys S.h.prev) bO (by simp[a0b,QT,bO,Qb])
    have a5:∀Y,Below D D Y->Below w w Y:=λY hY=>bv.trans (hY.mono bv.size)
    have cU:=cL;clear al ad aK bK bm bQ cP aC Z ay hX bO cK ci cL cO cM cC;have⟨hv,ae⟩:=η0 ((a0b x.h).toArray);have⟨hu,bi⟩:=η0 ((a0b S.h).toArray);have x0:=X0.o;have t2:=T2.o;have dr:¬(k=0):=by have:=cx.o;omega
    have dl:IntKind.i64.wrap f=f:=IntWalk.i64_in _ (ρh bR.o)
    rcases bM with⟨q1,q2,q3⟩ | ⟨q1,q3,q2,q4,q5,q6⟩
    focus
     have a6:decide (0<x.h.ht)=false:=by simp;omega
     simp only[a6];have aD:=λV=>d0t (a:=List.replicate 32 0) (b:=List.replicate 32 0) ZZ ZZ V
     have cz:=λV=>b1S V
     have cV:S.h.ht=1:=by rw[T];exact q2
     have cG:S.h.prev=List.replicate 32 0:=by rw[T];exact q3
     rw[cV]at ac;rw[cG]at ac;simp only[decide_true,Bool.not_true]at aD;have⟨zi,cS⟩:=η0 ((bys (List.replicate 32 0)).toArray);simp only[cS]at ac aD cz;simp only[ae,bi]at ac l2 l5 aq bg
     obtain⟨S0,aG⟩:∃S0:WD->Prop,(λY=>(Y.cell? ⟨p3,1,none⟩=some (.bool true)/\(LDs 37 (.pointer (some ⟨p3,40,none⟩))).run prog Y=.ok (.agg hu) Y/\(LDs 37 (.pointer p5)).run prog Y=.ok (.agg hu) Y/\(LDs 37 (.pointer p2)).run prog Y=.ok (.agg hv) Y)/\
      (Y.cell? ⟨p5,0,none⟩=some (.int .i64 m)/\Y.cell? ⟨p5,1,none⟩=some (.int .i64 1)/\Y.cell? ⟨p5,2,none⟩=some (.int .i64 S.ep))/\(LDs 31 (.pointer (some ⟨p5,3,none⟩))).run prog Y=.ok (.agg zi) Y)=S0:=⟨_,rfl⟩
     have av:∀Y,Below D D Y->S0 Y:=λY hY=>by rw[<-aG];exact(ac Y hY).1
     have aS:=(ac D (Qf _ _)).2;have ao:=bo D aS;have⟨HS,aj,aB,HD,aQ,a8,ce⟩:=η7 aG av aS hD aa ag (a5 D (Qf _ _));clear aG av aS hD aa ag ac ae bi cS q1 q2 q3 cV cG bo bS a6 aW a3 T aN bZ;go_upto_region 18 with fail
     refine a0s [(0,3),(1,0),(2,3),(3,3),(4,3),(5,3),(6,0),(7,0),(8,3),(9,3),(10,3),(11,3),(12,3),(13,3),(14,3),(15,3),(16,3),(17,3),(18,3),(19,3),(20,3),(21,3),(22,3),(23,3),(24,3),(25,3),(26,3),(27,3),(28,0),(29,3),(30,3),(31,3),(33,3),(32,0),(34,3),(35,3),(36,3),(37,3),(38,3),(39,3),(41,3),(40,0),(42,1),(43,3),(44,3),(45,3),(46,3),(48,3),(49,3),(50,3),(51,3),(47,0),(52,3),(53,3)] S0 ρk ρk ρk ρk (by rw[HD.o];exact aj.o _ (Qf _ _)) ?_;rw[HD.o];clear l2 l5 aq;refine ε1 ?_
     (with_reducible refine a0t (o:=?_) (v:=?_) (a':=?_) ρu ρu (λW' hS=>?_) ?_ ?_;rotate_left 2;(focus(rw[<-HS.o]at hS;obtain⟨⟨s1,s2,s3,s4⟩,⟨s5,s6,s7⟩,s8⟩:=hS;exact ρs));focus(exact ρs))
     refine ε4 ?_
     iterate 2 (with_reducible refine a0t (o:=?_) (v:=?_) (a':=?_) ρu ρu (λW' hS=>?_) ?_ ?_;rotate_left 2;(focus(rw[<-HS.o]at hS;obtain⟨⟨s1,s2,s3,s4⟩,⟨s5,s6,s7⟩,s8⟩:=hS;exact ρs));focus(exact ρs))
     refine ε7 ?_;refine ε2 ?_;refine δ4 ?_;refine ε7 ?_
     (with_reducible refine a0t (o:=?_) (v:=?_) (a':=?_) ρu ρu (λW' hS=>?_) ?_ ?_;rotate_left 2;(focus(rw[<-HS.o]at hS;obtain⟨⟨s1,s2,s3,s4⟩,⟨s5,s6,s7⟩,s8⟩:=hS;exact ρs));focus(exact ρs))
     refine ε4 ?_
     (with_reducible refine a0t (o:=?_) (v:=?_) (a':=?_) ρu ρu (λW' hS=>?_) ?_ ?_;rotate_left 2;(focus(rw[<-HS.o]at hS;obtain⟨⟨s1,s2,s3,s4⟩,⟨s5,s6,s7⟩,s8⟩:=hS;exact ρs));focus(exact ρs))
     refine ε7 ?_
     (with_reducible refine a0t (o:=?_) (v:=?_) (a':=?_) ρu ρu (λW' hS=>?_) ?_ ?_;rotate_left 2;(focus(rw[<-HS.o]at hS;obtain⟨⟨s1,s2,s3,s4⟩,⟨s5,s6,s7⟩,s8⟩:=hS;exact ρs));focus(exact ρs))
     refine κ ?_;intro K hK;refine μ1 ao ?_;rintro e c7 ⟨rfl,rfl⟩;with_reducible refine hK _ _ (aj.o _ (Qf _ _)) ?_;clear hK K;clear ao
     refine ε7 ?_;refine ε1 ?_
     (with_reducible refine a0t (o:=?_) (v:=?_) (a':=?_) ρu ρu (λW' hS=>?_) ?_ ?_;rotate_left 2;(focus(rw[<-HS.o]at hS;obtain⟨⟨s1,s2,s3,s4⟩,⟨s5,s6,s7⟩,s8⟩:=hS;exact ρs));focus(exact ρs))
     refine ε2 ?_;refine ν ?_;clear bg aD cz;go_wp2_with fail;go_roundg (20-(i+1))
     case measure=>have:=bs.o;have:=aM.o;have:=aX.o;omega
     exact⟨i+1,b',N',S,by have:=U.o;omega,by have:=U.o;rw[a2j _ ρo];simp,by have:=U.o;omega,aB.o,bk.o,aQ.o,a8.o,ce.o⟩
    have a6:decide (0<x.h.ht)=true:=by have:=a7l q3;simp;omega
    simp only[a6];have aZ:=b5V x.h S.h ar ai q3 (ρy T cU) (ρy T q6) (ρy T q2) (ρy T q4) (ρy T q5) D bZ;simp only[ae,bi]at ac l2 l5 aq bg aZ
    obtain⟨S0,aG⟩:∃S0:WD->Prop,(λY=>(Y.cell? ⟨p3,1,none⟩=some (.bool true)/\(LDs 37 (.pointer (some ⟨p3,40,none⟩))).run prog Y=.ok (.agg hu) Y/\(LDs 37 (.pointer p5)).run prog Y=.ok (.agg hu) Y/\(LDs 37 (.pointer p2)).run prog Y=.ok (.agg hv) Y)/\
     (Y.cell? ⟨p5,0,none⟩=some (.int .i64 m)/\Y.cell? ⟨p5,1,none⟩=some (.int .i64 S.h.ht)/\Y.cell? ⟨p5,2,none⟩=some (.int .i64 S.ep))/\(LDs 31 (.pointer (some ⟨p5,3,none⟩))).run prog Y=.ok (.agg (bys S.h.prev).toArray) Y)=S0:=⟨_,rfl⟩
    have av:∀Y,Below D D Y->S0 Y/\a1e Y sb b' N' seed S/\Below w w Y:=λY hY=>by rw[<-aG];exact⟨(ac Y hY).1,(ac Y hY).2,a5 Y hY⟩
    have⟨HS,aj,c8,HD,aQ,a8⟩:=η6 aG av bo hD aa ag;clear aG av bo hD aa ag ac ae bi q1 q2 q3 q4 q5 q6 bS a6 aW a3 T aN bZ a5;go_upto_region 18 with fail
    refine a0s [(0,3),(1,0),(2,3),(3,3),(4,3),(5,3),(6,0),(7,0),(8,3),(9,3),(10,3),(11,3),(12,3),(13,3),(14,3),(15,3),(16,3),(17,0),(18,0),(19,1),(20,3),(21,3),(22,3),(23,3),(24,3),(25,3),(26,3),(27,3),(28,3),(29,3),(30,3),(31,3),(32,3),(33,3),(34,3),(35,3),(36,3),(37,3),(38,3),(39,3),(41,3),(40,0),(42,1),(43,3),(44,3),(45,3),(46,3),(48,3),(49,3),(50,3),(51,3),(47,0),(52,3),(53,3)] S0 ρk ρk ρk ρk (by rw[HD.o];exact(aj.o _ (Qf _ _)).1) ?_;rw[HD.o];clear l2 l5 aq;refine ε1 ?_
    (with_reducible refine a0t (o:=?_) (v:=?_) (a':=?_) ρu ρu (λW' hS=>?_) ?_ ?_;rotate_left 2;(focus(rw[<-HS.o]at hS;obtain⟨⟨s1,s2,s3,s4⟩,⟨s5,s6,s7⟩,s8⟩:=hS;exact ρs));focus(exact ρs))
    refine ε4 ?_
    iterate 2 (with_reducible refine a0t (o:=?_) (v:=?_) (a':=?_) ρu ρu (λW' hS=>?_) ?_ ?_;rotate_left 2;(focus(rw[<-HS.o]at hS;obtain⟨⟨s1,s2,s3,s4⟩,⟨s5,s6,s7⟩,s8⟩:=hS;exact ρs));focus(exact ρs))
    refine ε7 ?_;refine ε2 ?_
    iterate 2 (with_reducible refine a0t (o:=?_) (v:=?_) (a':=?_) ρu ρu (λW' hS=>?_) ?_ ?_;rotate_left 2;(focus(rw[<-HS.o]at hS;obtain⟨⟨s1,s2,s3,s4⟩,⟨s5,s6,s7⟩,s8⟩:=hS;exact ρs));focus(exact ρs))
    refine κ ?_;intro K hK;refine μ1 aZ ?_;rintro e db ⟨rfl,af⟩;with_reducible refine hK _ _ ((aj.o _ af).1) ?_;clear hK K;clear aZ
    have ao:=c8.o db (aj.o _ af).2.1;have⟨aB,ce,c5⟩:=η3 ((aj.o _ af).2.1) ((aj.o _ af).2.2) ((aj.o _ af).1);clear af;refine ε7 ?_;refine δ4 ?_;refine δ4 ?_;refine δ1 ?_;refine ε5 ?_
    (with_reducible refine a0t (o:=?_) (v:=?_) (a':=?_) ρu ρu (λW' hS=>?_) ?_ ?_;rotate_left 2;(focus(rw[<-HS.o]at hS;obtain⟨⟨s1,s2,s3,s4⟩,⟨s5,s6,s7⟩,s8⟩:=hS;exact ρs));focus(exact ρs))
    refine κ ?_;intro K hK;refine μ1 ao ?_;rintro e c7 ⟨rfl,rfl⟩;with_reducible refine hK _ _ (c5.o) ?_;clear hK K;clear ao
    refine ε7 ?_;refine ε1 ?_
    (with_reducible refine a0t (o:=?_) (v:=?_) (a':=?_) ρu ρu (λW' hS=>?_) ?_ ?_;rotate_left 2;(focus(rw[<-HS.o]at hS;obtain⟨⟨s1,s2,s3,s4⟩,⟨s5,s6,s7⟩,s8⟩:=hS;exact ρs));focus(exact ρs))
    refine ε2 ?_;refine ν ?_;clear bg;go_wp2_with fail;go_roundg (20-(i+1))
    case measure=>have:=bs.o;have:=aM.o;have:=aX.o;omega
    exact⟨i+1,b',N',S,by have:=U.o;omega,by have:=U.o;rw[a2j _ ρo];simp,by have:=U.o;omega,aB.o,bk.o,aQ.o,a8.o,ce.o⟩
   |
    false=>
    clear aJ;go_upto_region 15 with fail
    obtain⟨X,rfl⟩:∃X,X=V5:=⟨_,rfl⟩;have hX:=Qf X.heap.size X;clear lC;have al:=φf K5 hX;have ad:=φf KA hX;have aK:=φf KB hX;have aC:=cn.below hX;have Z:=φt ch hX;have aa:S.me=m:=by rw[ax.1,aF.me];exact b9.o
    have ag:S.n=(k:Int):=by rw[ax.2.1,aF.n];exact HN.o
    have T:=ax.2.2.2.2.2.2.1;have aN:=ax.2.2.1;rw[<-cF.o]at ad;have l5:=P4 a1S a1h (a0b S.h) al (a0f ai);have l2:=P4 a1S a1h (a0b x.h) ad (a0f ar);have e1:S.h=x.h:=by rw[T];exact(aF.hd.elim id (λh=>by cases h.1))
    have aq:=b6A ar X;rw[e1]at l5;simp only[e1];have⟨hv,ae⟩:=η0 ((a0b x.h).toArray);rw[ae]at l5 l2 aq;have⟨cc,aV,aU,b7⟩:=η4 aC Z aa ag;clear aC Z aa ag al ad aK hX T aN e1 ae;go_wp2_with fail;go_roundg (20-(i+1))
    case measure=>have:=bs.o;have:=aM.o;have:=aX.o;omega
    exact⟨i+1,b',N',S,by have:=U.o;omega,by have:=U.o;rw[a2j _ ρo];simp,by have:=U.o;omega,cc.o,bk.o,aU.o,b7.o,aV.o⟩
  have dj:decide ((i:Int)<z)=false:=by simp;omega
  have di:¬((i:Int)<z):=ρo;have bh:=a6p wr (aO.below hB);have da:=η1 hB;clear hB;clear au az;go_wp2_with fail;refine μi bh ?_;intro w2 an;have bP:=η1 (φt da an);clear an;go_wp2_with fail;go_ret;exact⟨rfl,bP.o⟩
theorem c0y(a b:Int)(d:OA)(cs:Nat)(seed:LI)(A:OA)(c:Nat)(l:LL)(w:WD)(j:0<=a/\a<=255)(m:0<=b/\b<=255)(f:c5y w d cs seed)(_hms:seed.length<=maxLen)(o:Txs w A l)(p:l.length<=maxLen)(g:a2x w):Calls prog 6 #[.int .u8 a,.int .u8 b,.slice d seed.length cs,.slice A l.length c] w λe w'=>e=.returned (.bool true)/\Below w w w':=
 c1H a b j m d seed.length cs seed rfl A l.length c l rfl (by unfold maxLen at p;omega) w o f g
end
end Go.Proofs.YtpolljfkceanaaaGreatDoor
