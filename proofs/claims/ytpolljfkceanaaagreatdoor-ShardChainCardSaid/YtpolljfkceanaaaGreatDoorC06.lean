/-
  Contracts of functions, plain laws.
-/
import Derived.Laws.Externs
import Derived.Lib.BytesEntry
import Derived.Test.YtpolljfkceanaaaGreatDoorCS2
import Derived.Test.YtpolljfkceanaaaGreatDoorC05
namespace Go.Proofs.YtpolljfkceanaaaGreatDoor
open Go.RowKit Go.Shelf Go.Maps Go.Proofs.Tryz
set_option maxRecDepth 100000
set_option maxHeartbeats 64000000
variable {first:Bool}{ep me n s sh:Int}{b1 b3 id l root seed:LI}{N:List Nat}{B b cap cb g i j k kb p:Nat}{A:OA}{t:TxD}{v:VL}{a w:WD}
set_option linter.all false
section
attribute [local go_sem ↓] a4v a4s a4r a1F
theorem b1J(cb b:Nat)(m:List (Pt×a1q))(s:Int)(p:Pt)(d:a6l p)(w:WD)(h:a0i w cb b m s):Calls prog 210 #[.pointer cb,.agg (ptL p.1 p.2).toArray] w λe w'=>e=.returned (.tuple #[.agg (a1s (a1v m p)).toArray,.bool (a2E m p).isSome])/\a0i w' cb b (b6D m p) (IntKind.u64.wrap (s-(a1v m p).am))/\Fr (λk=>k=cb\/k=b) w w':=by
 have⟨g,hg⟩:=ηs w;have⟨j,D⟩:=η0 ((ptL p.1 p.2).toArray);have⟨I,aI⟩:=η0 ((a1s a3q).toArray);have K:=b1a;simp only[aI]at K;have aB:I.size=33:=by rw[<-aI,Qc];exact a0G a2R
 have a4:=h.st.lt;have a7:=h.mp.lt;have b0:=Qd w 189 j;have B0:=ρb w (.cells j 189)
 generalize al:w.alloc (.cells j 189)=W1 at b0 B0
 rw[hg]at b0;have aH:W1.heap.size=g+1:=by rw[<-al,<-hg];simp
 have F:(ALs 206).run prog (w.alloc (.cells j 189))=.ok (.pointer W1) (W1.alloc (.cells I 206)):=by rw[al];exact K W1
 have af:=b0.alloc (.cells I 206);have b1:=Qd W1 206 I;have B1:=B0.alloc B0.size (.cells I 206);have⟨W2,ak⟩:=η0 (W1.alloc (.cells I 206));have aA:W2.heap.size=g+2:=by rw[<-ak];simp;omega
 rw[ak]at af b1 B1 F;rw[aH]at b1 F;have h2:=h.below B1;have fd:Fr (λ_=>False) W2 W2.drew:=(Qp _ _).drew;have⟨X,hX⟩:=η0 W2.drew;rw[hX]at fd;have aK:X.heap.size=g+2:=by rw[<-hX];exact aA
 have O:a0i X cb b m s/\Blk X g 189 j:=⟨h2.fr fd id id,af.fr fd id⟩;have E:=K X;have bx:=Qd X 206 I;have BX:=ρb X (.cells I 206)
 generalize hY:X.alloc (.cells I 206)=Y at bx BX E
 rw[aK]at bx E;have T:a0i Y cb b m s/\Blk Y g 189 j:=⟨O.1.below BX,O.2.fr (Q9 BX) ρo⟩;have ae:=a3p h.bd p;have z:=a0G ae;have V:=a1O (a1v m p);have y:=λ(W:WD) (hw:a0i W cb b m s)=>hw.look d
 simp only[D]at y
 generalize ah:a1s (a1v m p)=cs at z V⊢
 simp only[ah]at y
 generalize aT:(a2E m p).isSome=ok at y⊢
 have N:=P7 a9y bx aB cs z V;have fY:Fr (λk=>k=g+2) Y (Y.setRow (g+2) cs.toArray):=(Qp (λk=>k=g+2) Y).setRow (g:=g+2) (λ_=>rfl) _;have kx:=bx.row_ cs.toArray;have kr:Blk (Y.setRow (g+2) cs.toArray) (g+1) 206 I:=((b1.fr fd id).fr (Q9 BX) ρo).fr fY ρo;have kp:Blk (Y.setRow (g+2) cs.toArray) g 189 j:=T.2.fr fY ρo;have av:a0i (Y.setRow (g+2) cs.toArray) cb b m s:=T.1.fr fY ρo ρo;have BY:Below w w (Y.setRow (g+2) cs.toArray):=((B1.trans (fd.below ρo (λ_ _=>id))).trans (BX.mono ρo)).trans (fY.below (B:=w.heap.size) (ρh BX.size) (λk hk e=>ρo));have⟨Z,hZ⟩:=η0 (Y.setRow (g+2) cs.toArray);replace N:=N.trans (show _=Result.ok () Z by rw[<-hZ]);rw[hZ]at kx kr BY kp av;have H:=λ(W:WD) (hb:Blk W g 189 j)=>Pb a3a a1H (w:=W) j.toList (ρw hb) (by rw[<-D];simpa using d.vlen)
 simp only[show j.toList.toArray=j by simp]at H;have o:Fr (λ_=>False) Z Z.drew:=(Qp _ _).drew;have⟨Z1,aq⟩:=η0 Z.drew;rw[aq]at o;have R:a0i Z1 cb b m s/\Blk Z1 g 189 j:=⟨av.fr o id id,kp.fr o id⟩;obtain⟨Z2,ab,aL,f,aD⟩:=R.1.mp.del (ty:=0) b0v (a:=p) d;have ao:=h.ne;have ad:Blk Z2 cb 163 #[.map (some b),.int .u64 s]:=R.1.st.fr f (λe=>ao e.symm);have aG:=(kx.fr o id).fr f (show¬_=_ by omega);have aP:=(kr.fr o id).fr f (show¬_=_ by omega);have F2:Fr (λk=>k=cb\/k=b) w Z2:=(((Q9 BY).mono (G:=λk=>k=cb\/k=b) (λk hk e=>ρo)).trans o (λ_ _ e=>e.elim)).trans f (λk hk e=>.inr e);have r:Fr (λ_=>False) Z2 Z2.drew:=(Qp _ _).drew;have⟨J,au⟩:=η0 Z2.drew;rw[au]at r;have x:=ad.fr r id;have ai:=aG.fr r id;have az:=aP.fr r id;have ac:=aL.fr r id;have qs:J.cell? ⟨cb,1,none⟩=some (.int .u64 s):=x.cell 1;have zs:=x.frozen 1
 have qa:J.cell? ⟨g+2,32,none⟩=some (.int .u64 (a1v m p).am):=(ai.cell 32).trans (by rw[<-ah];unfold a1s;simp[a0a,ae.len]);have⟨s',Q⟩:=η0 (IntKind.u64.wrap (s-(a1v m p).am));have k4:Blk (J.setCell ⟨cb,1,none⟩ (.int .u64 s')) cb 163 #[.map (some b),.int .u64 s']:=by simpa using x.set_ 1 (.int .u64 s')
 have f4:Fr (λk=>k=cb) J (J.setCell ⟨cb,1,none⟩ (.int .u64 s')):=(Qp (λk=>k=cb) J).setCell (p:=⟨cb,1,none⟩) (λ_=>rfl) _;have an:=ai.fr f4 (show¬_=_ by omega);have S:=az.fr f4 (show¬_=_ by omega);have ay:a0i (J.setCell ⟨cb,1,none⟩ (.int .u64 s')) cb b (b6D m p) s':=⟨k4,ac.fr f4 ao,λq hq=>h.bd q (ZD.1 hq).1⟩;have F4:=(F2.trans r (λ_ _ e=>e.elim)).trans f4 (λk hk e=>.inl e)
 generalize aJ:J.setCell ⟨cb,1,none⟩ (.int .u64 s')=Z4 at an S ay F4
 have aC:=Pb c3f a9y cs an z;have aM:=P7 a9y S aB cs z V;have ax:=S.row_ cs.toArray;have f5:Fr (λk=>k=g+1) Z4 (Z4.setRow (g+1) cs.toArray):=(Qp (λk=>k=g+1) Z4).setRow (g:=g+1) (λ_=>rfl) _;have ar:=ay.fr f5 ρo ρo;have F5:=F4.trans f5 (λk hk e=>ρo);have⟨xa,ag⟩:=η0 cs.toArray;have aN:xa.size=33:=by rw[<-ag,Qc,z]
 generalize aV:(a1v m p).am=am at qa Q⊢
 rw[Q];simp only[ag]at y N aC aM ax ar F5⊢;have aj:∀ty:TI,(Builtin.delete_ #[161,189] ty #[.map (some b),.agg j]).run prog Z1=.ok (.tuple #[]) Z2:=λty=>by rw[<-D];exact ab
 rw[D];have aE:J.cell? ⟨cb,1,none⟩=some (.int .u64 s)/\J.cell? ⟨g+2,32,none⟩=some (.int .u64 am):=⟨qs,qa⟩;have⟨aS,aR,aX,aU,a5,a1,aa,HX⟩:=η8 O T R aN ax y H hX;have⟨HG,aQ,aO,aY,a2,a3,aF,a6⟩:=η8 hg aq au aJ ar F5 aE Q;clear O T R aN ax y H hX hg aq au aJ ar F5 aE Q b0 B0 af b1 B1 h2 fd aK bx BX hY ae z V ah aT fY kx kr BY hZ aA al aH ak K h a4 a7 ag D kp av o aL f aD ao ad aG aP F2 r x ai az ac k4 f4 an S ay F4 f5 aV ab qs qa;go_in;go_upto_region 1 with fail
 clear F;rw[HG.o];refine a0s [(0,3),(1,3),(2,3),(3,0),(4,0),(5,0),(6,3),(7,3),(8,3),(9,1),(10,2),(11,3)] (λW=>a0i W cb b m s/\Blk W g 189 j) ρk ρk ρk ρk (ρy HX.o aS.o) ?_;rw[HX.o];refine ε3 ?_
 iterate 3 refine θ3 (λW' U=>QU U.1.q0 (QU (aa.o W' U.2) (a1.o W' U.1))) ?_
 refine ε3 ?_;refine κ1 (aR.o) ?_;refine τ1 ?_;refine ε1 ?_;refine ν ?_;clear E N;go_upto_region 2 with fail
 refine a0s [(0,3),(1,3),(2,3),(3,0),(4,0),(5,2)] (λW=>a0i W cb b m s/\Blk W g 189 j) ρk ρk ρk ρk (ρy aQ.o aX.o) ?_;rw[aQ.o];refine ε3 ?_
 iterate 2 refine θ2 (λW' U=>QU U.1.q0 (aa.o W' U.2)) ?_
 refine τ1 ?_;refine ν ?_;clear aj;go_upto_region 3 with fail
 refine a0s [(0,3),(1,3),(2,3),(4,3),(3,0),(5,0),(6,3),(7,3),(8,3),(9,2)] (λW=>W.cell? ⟨cb,1,none⟩=some (.int .u64 s)/\W.cell? ⟨g+2,32,none⟩=some (.int .u64 am)) ρk ρk ρk ρk (ρy aO.o aF.o) ?_;rw[aO.o];have qs:=aF.1;have aZ:=a6.o;refine ε4 ?_
 iterate 2 refine θ2 (λW' U=>QU U.1 U.2) ?_
 refine ε3 ?_;refine τ1 ?_;refine ν ?_;go_upto_region 4 with fail
 rw[aY.o];clear qs zs aZ;go_wp2_with fail;obtain⟨dT,aW,a0⟩:=Q8.1 c3f;refine bodyPost_ret (v:=.tuple #[.agg xa,.bool ok]) (a0k rfl _ _ (g+1) _ _ (0,0) a5.o aW a0 (ρy aU.o a9y) rfl) rfl ?_;exact⟨rfl,a2.o,a3.o⟩
def a7H(m:List (Pt×a1q))(s:Int)(p:Pt)(x:a1q):Int×List (Pt×a1q)×Int:=
 if p.2<0\/16<=p.2\/x.am=0\/4611686018427387904<x.am then(5,m,s)
 else if(a2E m p).isSome then(24,m,s)
 else if 256<=m.length then(18,m,s)
 else if(a5b s x.am).2≠0 then((a5b s x.am).2,m,s)
 else(0,m++[(p,x)],(a5b s x.am).1)
theorem b0Q(cb b:Nat)(m:List (Pt×a1q))(s:Int)(p:Pt)(f:a6l p)(x:a1q)(d:x.Bd)(j:0<=s/\s<=18446744073709551615)(w:WD)(h:a0i w cb b m s):Calls prog 119 #[.pointer cb,.agg (ptL p.1 p.2).toArray,.agg (a1s x).toArray] w λe w'=>e=.returned (.int .i64 (a7H m s p x).1)/\a0i w' cb b (a7H m s p x).2.1 (a7H m s p x).2.2/\Fr (λk=>k=cb\/k=b) w w':=by
 have⟨g,N⟩:=ηs w;have⟨r,G⟩:=η0 ((ptL p.1 p.2).toArray);have⟨E,aa⟩:=η0 ((a1s x).toArray);have⟨zc,aM⟩:=η0 ((a1s a3q).toArray);have aH:=b1a;simp only[aM]at aH;have aX:zc.size=33:=by rw[<-aM,Qc];exact a0G a2R
 have bc:=h.st.lt;have bk:=h.mp.lt;have b0:=Qd w 189 r;have B0:=ρb w (.cells r 189);have ag:=b0.alloc (.cells E 206);have b1:=Qd (w.alloc (.cells r 189)) 206 E;have B1:=B0.alloc B0.size (.cells E 206);rw[Qi]at b1;have⟨W2,aj⟩:=η0 ((w.alloc (.cells r 189)).alloc (.cells E 206));have aU:W2.heap.size=g+2:=by rw[<-aj,<-N];simp
 rw[aj]at ag b1 B1;rw[N]at ag b1;have h2:=h.below B1;have fd:Fr (λ_=>False) W2 W2.drew:=(Qp _ _).drew;have⟨X,hX⟩:=η0 W2.drew;rw[hX]at fd;have ba:X.heap.size=g+2:=by rw[<-hX];exact aU
 have ai:a0i X cb b m s/\Blk X g 189 r:=⟨h2.fr fd id id,ag.fr fd id⟩;have S:=aH X;have bx:=Qd X 206 zc;have BX:=ρb X (.cells zc 206)
 generalize hY:X.alloc (.cells zc 206)=Y at bx BX S
 rw[ba]at bx S;have ao:a0i Y cb b m s/\Blk Y g 189 r:=⟨ai.1.below BX,ai.2.fr (Q9 BX) ρo⟩;have aZ:=a3p h.bd p;have aQ:=a0G aZ;have aR:=a1O (a1v m p);have F:=λ(W:WD) (hw:a0i W cb b m s)=>hw.look f
 simp only[G]at F;have⟨cs,aJ⟩:=η0 (a1s (a1v m p));rw[aJ]at aQ aR;simp only[aJ]at F;have⟨ok,aG⟩:=η0 ((a2E m p).isSome);rw[aG]at F;have ah:=P7 a9y bx aX cs aQ aR;have fY:Fr (λk=>k=g+2) Y (Y.setRow (g+2) cs.toArray):=(Qp (λk=>k=g+2) Y).setRow (g:=g+2) (λ_=>rfl) _;have aD:a0i (Y.setRow (g+2) cs.toArray) cb b m s:=ao.1.fr fY ρo ρo;have kp:Blk (Y.setRow (g+2) cs.toArray) g 189 r:=ao.2.fr fY ρo;have kx:Blk (Y.setRow (g+2) cs.toArray) (g+1) 206 E:=((b1.fr fd id).fr (Q9 BX) ρo).fr fY ρo;have BY:Below w w (Y.setRow (g+2) cs.toArray):=((B1.trans (fd.below ρo (λ_ _=>id))).trans (BX.mono ρo)).trans (fY.below (B:=w.heap.size) (ρh BX.size) (λk hk e=>ρo));have⟨Z,hZ⟩:=η0 (Y.setRow (g+2) cs.toArray);replace ah:=ah.trans (show _=Result.ok () Z by rw[<-hZ]);rw[hZ]at aD kp kx BY
 have ac:=λ(W:WD) (hb:Blk W g 189 r)=>Pb a3a a1H (w:=W) r.toList (ρw hb) (by rw[<-G];simpa using f.vlen)
 simp only[show r.toList.toArray=r by simp]at ac;have O:=λ(W:WD) (hb:Blk W (g+1) 206 E)=>Pb c3f a9y (w:=W) E.toList (ρw hb) (by rw[<-aa];simpa using a0G d)
 simp only[show E.toList.toArray=E by simp]at O;have T:E[32]? =some (.int .u64 x.am):=by rw[<-aa];unfold a1s;simp[a0a,d.len]
 have az:r[32]? =some (.int .i64 p.2):=by rw[<-G];unfold ptL;simp[a0a,f.len]
 have I:Fr (λ_=>False) Z Z.drew:=(Qp _ _).drew;have⟨Z1,aN⟩:=η0 Z.drew;rw[aN]at I;have Q:=aD.fr I id id;have aL:=kx.fr I id;have aS:=kp.fr I id;have bg:Z1.cell? ⟨cb,1,none⟩=some (.int .u64 s)/\Z1.cell? ⟨g+1,32,none⟩=some (.int .u64 x.am):=⟨Q.q1,(aL.cell 32).trans T⟩;have ax:=a8G s x.am j d.am Z1;have⟨xa,a4⟩:=η0 cs.toArray;simp only[a4]at F ah;have a3:Below w w Z1:=BY.trans (I.below (ρh BY.size) (λ_ _=>id));rw[G,aa];have⟨br,bp,bF,ar,a0,HX,HG,bm⟩:=η8 ai ao F ac O hX N aN;have⟨bs,bu,bB,bM,bG,bq,bJ,bt⟩:=η8 bg Q aL aS a3 aj d T;have⟨bE,bv,bH,bC,bL,bf,aY⟩:=η7 az G aa aG h.bd bc bk;clear ai ao F ac O hX N aN bg Q aL aS a3 aj d T az G aa aG bc bk b0 B0 ag b1 B1 h2 fd ba bx BX hY aZ aQ aR aJ fY BY hZ aU aH h a4 kp kx I aD aX aM;go_in;go_upto_region 1 with fail
 rw[bq.o,HG.o];refine a0s [(0,3),(1,3),(2,3),(3,0),(4,0),(5,0),(6,3),(7,3),(8,3),(9,1),(10,2),(11,3)] (λW=>a0i W cb b m s/\Blk W g 189 r) ρk ρk ρk ρk (ρy HX.o br.o) ?_;rw[HX.o];refine ε3 ?_
 iterate 3 refine θ3 (λW' hS=>QU hS.1.q0 (QU (ar.o W' hS.2) (bF.o W' hS.1))) ?_
 refine ε3 ?_;refine κ1 (bp.o) ?_;refine τ1 ?_;refine ε1 ?_;refine ν ?_;clear S ah;go_upto_region 2 with fail
 refine a0s [(0,3),(1,3),(2,3),(4,3),(3,0),(5,0),(6,2),(7,3),(8,3),(9,3),(10,3),(11,3)] (λW=>W.cell? ⟨cb,1,none⟩=some (.int .u64 s)/\W.cell? ⟨g+1,32,none⟩=some (.int .u64 x.am)) ρk ρk ρk ρk (ρy bm.o bs.o) ?_;rw[bm.o];refine ε4 ?_
 iterate 2 refine θ2 (λW' hS=>QU hS.1 hS.2) ?_
 refine τ ?_;intro K hK;refine μ1 ax ?_;rintro e w4 ⟨rfl,R⟩;with_reducible refine hK _ _ ?_;clear hK K
 refine ε5 ?_;refine ν ?_;clear ax;have bo:=bu.below R;have al:=φf bB R;have aq:=φf bM R;have af:=φt bG R;have qi:w4.cell? ⟨g,32,none⟩=some (.int .i64 p.2):=(aq.cell 32).trans bE;have qa:w4.cell? ⟨g+1,32,none⟩=some (.int .u64 x.am):=(al.cell 32).trans bt;have F4:Fr (λk=>k=cb\/k=b) w w4:=(Q9 af).mono (λk hk e=>ρo);have aB:g+2<=w4.heap.size:=by have:=al.lt;have:=af.size;have:=aq.lt;omega
 have⟨z,bl,a7,bN,U,bP⟩:=η6 bo al aq af F4 aB;clear bo al aq af F4 aB R;have ak:(p.2<0\/16<=p.2\/x.am=0\/4611686018427387904<x.am)\/¬(p.2<0\/16<=p.2\/x.am=0\/4611686018427387904<x.am):=Classical.em _
 rcases ak with hA | hA
 focus
  have o:a7H m s p x=(5,m,s):=if_pos hA
  have bI:(decide (p.2<0)=true)\/(decide (p.2<0)=false/\decide (16<=p.2)=true)\/(decide (p.2<0)=false/\decide (16<=p.2)=false/\(x.am == 0)=true)\/(decide (p.2<0)=false/\decide (16<=p.2)=false/\(x.am == 0)=false/\decide (4611686018427387904<x.am)=true):=by
   simp only[decide_eq_true_eq,decide_eq_false_iff_not,beq_iff_eq,beq_eq_false_iff_ne,ne_eq];omega
  have D:=η1 o;clear o hA
  rcases bI with d1 | ⟨d1,d2⟩ | ⟨d1,d2,d3⟩ | ⟨d1,d2,d3,d4⟩
  all_goals
   go_wp2;go_ret;rw[D.o];exact⟨rfl,z.o,U.o⟩
 have d1:decide (p.2<0)=false:=by simp;omega
 have d2:decide (16<=p.2)=false:=by simp;omega
 have d3:(x.am == 0)=false:=by simp;omega
 have d4:decide (4611686018427387904<x.am)=false:=by simp;omega
 have o:a7H m s p x=(if(a2E m p).isSome then(24,m,s)else if 256<=m.length then(18,m,s)else if(a5b s x.am).2≠0 then((a5b s x.am).2,m,s)else(0,m++[(p,x)],(a5b s x.am).1)):=if_neg hA;have⟨aC,D⟩:=η2 bC o;clear o hA;go_upto_region 5 with fail
 clear d1 d2 d3 d4 qi qa
 cases N:a2E m p with
 |
  some v=>
  have ab:ok=true:=by rw[<-aC.o,N];rfl
  subst ab;have o:=D.o;rw[N]at o;simp only[Option.isSome_some,if_true]at o;have y:=η1 o;clear o;clear N;go_wp2;go_ret;rw[y.o];exact⟨rfl,z.o,U.o⟩
 |
  none=>
  have ab:ok=false:=by rw[<-aC.o,N];rfl
  subst ab;have o:=D.o;rw[N]at o;simp only[Option.isSome_none,QI,if_false]at o;have q0:=z.q0;have hl:=z.mp.len_ (ty:=3) b0v;have⟨n,hn⟩:=η0 m.length;rw[hn]at hl o;have⟨bK,HN⟩:=η2 N hn;clear N hn
  by_cases au:256<=n
  ·have aI:(256:Int)<=(n:Int):=ρo
   rw[if_pos au]at o;have y:=η1 o;clear o;go_wp2;go_ret;rw[y.o];exact⟨rfl,z.o,U.o⟩
  have aI:¬(256:Int)<=(n:Int):=ρo;rw[if_neg au]at o
  generalize bQ:a5b s x.am=ad at o⊢
  obtain⟨a1,a2⟩:=ad;simp only at o⊢
  by_cases ae:a2=0
  ·rw[if_neg (ρw ae)]at o
   subst ae;have y:=η1 o;clear o;have H:Fr (λ_=>False) w4 w4.drew:=(Qp _ _).drew;have⟨Z5,aO⟩:=η0 w4.drew;rw[aO]at H;have J:=z.fr H (λe=>e) (λe=>e);have aP:=a7.fr H (λe=>e);have aK:=bl.fr H (λe=>e);have aW:Z5.cell? ⟨cb,0,none⟩=some (.map (some b))/\Blk Z5 g 189 r/\Blk Z5 (g+1) 206 E:=⟨J.q0,aP,aK⟩;obtain⟨st,Z6,Z7,aT,a9,bb,V,bn,be,aV⟩:=J.mp.entry b0v (a:=p) f x (d2E Z5) bK.o;have bi:=bf.o;have a6:=aY.o;have bz:=HG.o;have an:=J.ne;have aF:Fr (λk=>k=b) Z5 Z7:=V.trans bn (λ_ _ e=>e);have k7:=J.st.fr aF (λe=>an e.symm);have q7:Z7.cell? ⟨cb,1,none⟩=some (.int .u64 s):=k7.cell 1;have z7:=k7.frozen 1;have k8:Blk (Z7.setCell ⟨cb,1,none⟩ (.int .u64 a1)) cb 163 #[.map (some b),.int .u64 a1]:=by simpa using k7.set_ 1 (.int .u64 a1)
   have aE:Fr (λk=>k=cb) Z7 (Z7.setCell ⟨cb,1,none⟩ (.int .u64 a1)):=(Qp (λk=>k=cb) Z7).setCell (p:=⟨cb,1,none⟩) (λ_=>rfl) _
   have aA:a0i (Z7.setCell ⟨cb,1,none⟩ (.int .u64 a1)) cb b (m++[(p,x)]) a1:=⟨k8,bb.fr aE an,λq hq=>by
    rcases Qq.1 hq with h1 | h1
    ·exact bL.o q h1
    rw[Qn.1 h1];exact bJ.o⟩
   have F8:Fr (λk=>k=cb\/k=b) w (Z7.setCell ⟨cb,1,none⟩ (.int .u64 a1)):=((U.trans H (λ_ _ e=>e.elim)).trans aF (λk hk e=>.inr e)).trans aE (λk hk e=>.inl e);have bj:Z6.cell? ⟨cb,0,none⟩=some (.map (some b))/\Blk Z6 g 189 r/\Blk Z6 (g+1) 206 E:=⟨(J.st.fr V (λe=>an e.symm)).cell 0,aP.fr V (show¬_=_ by omega),aK.fr V (show¬_=_ by omega)⟩;have ay:(Instr.mapEntry 161 (.map (some b)) (.agg r)).run prog Z5=.ok (.tuple #[.agg (a1s a3q).toArray,.int .i64 st]) Z6:=by rw[<-bv.o];exact aT
   have a5:(Instr.entryStore 161 (.map (some b)) (.int .i64 st) (.agg E)).run prog Z6=.ok () Z7:=by rw[<-bH.o];exact a9
   have⟨bR,av⟩:=η0 ((a1s a3q).toArray);rw[av]at ay;have⟨a8,bD,bA,bh,bw⟩:=η5 aA F8 aW aO bj;clear aA F8 aW aO bj J aP aK H aT a9 bb V bn be aV an aF k7 k8 aE av bi a6 bz;go_upto_region 11 with fail
   clear hl q0;refine a0s [(0,3),(1,3),(2,3),(5,3),(7,3),(3,0),(4,0),(6,0),(8,1),(9,3),(10,2),(11,3),(12,3),(13,2)] (λW=>W.cell? ⟨cb,0,none⟩=some (.map (some b))/\Blk W g 189 r/\Blk W (g+1) 206 E) ρk ρk ρk ρk (ρy bh.o bA.o) ?_;rw[bh.o];refine ε5 ?_
   iterate 3 refine θ3 (λW' hS=>QU hS.1 (QU (ar.o W' hS.2.1) (a0.o W' hS.2.2))) ?_
   refine κ1 (bw.o) ?_;refine ε1 ?_;refine τ1 ?_;refine ε2 ?_;refine τ1 ?_;refine ν ?_;clear ay a5 z7 q7;go_wp2;go_ret;rw[y.o];exact⟨rfl,a8.o,bD.o⟩
  have bO:(a2 != 0)=true:=ρw ae;rw[if_pos (ρw ae)]at o;have y:=η1 o;clear o ae;go_wp2;go_ret;rw[y.o];exact⟨rfl,z.o,U.o⟩
end
theorem b9x{c:a0y}(h:a5s l=.ok c):c.path.length<=32:=by
 have a:=b1n (a0o 32 (a0C 100 (.ok l)).2).2 (a0o 32 (a0C 100 (.ok l)).2).1;have b:=a0P 32 (a0C 100 (.ok l)).2;have e:a3z l=((a0C 100 (.ok l)).1,(a2w (a0o 32 (a0C 100 (.ok l)).2).1 (a0o 32 (a0C 100 (.ok l)).2).2).1,(a0C 100 (a2w (a0o 32 (a0C 100 (.ok l)).2).1 (a0o 32 (a0C 100 (.ok l)).2).2).2).1,(idT (a0C 100 (a2w (a0o 32 (a0C 100 (.ok l)).2).1 (a0o 32 (a0C 100 (.ok l)).2).2).2).2).1,(idT (a0C 100 (a2w (a0o 32 (a0C 100 (.ok l)).2).1 (a0o 32 (a0C 100 (.ok l)).2).2).2).2).2):=rfl;unfold a5s at h;rw[e]at h
 revert h
 generalize(idT (a0C 100 (a2w (a0o 32 (a0C 100 (.ok l)).2).1 (a0o 32 (a0C 100 (.ok l)).2).2).2).2).2=s5
 cases s5 with
 | error x=>intro h;cases h
 |
  ok r=>
  intro h;simp only at h
  split at h
  ·cases h
  split at h
  ·cases h
  split at h
  ·cases h
  cases h
  exact Qk a b
theorem b4d:∀{L:LL} {cl:List a0y},a1Z L=.ok cl->(∀d∈cl,d.path.length<=32)/\cl.length=L.length
 | [],cl,h=>by cases h;simp
 |
  x::r,cl,h=>by
  unfold a1Z at h
  cases hc:a5s x with
  | error e=>rw[hc]at h;cases h
  |
   ok c=>
   rw[hc]at h;simp only at h
   cases hr:a1Z r with
   | error e=>rw[hr]at h;cases h
   |
    ok M=>
    rw[hr]at h
    cases h
    have ih:=b4d hr;refine⟨λd hd=>?_,by simp[ih.2]⟩
    rcases Qo.1 hd with e | e
    ·rw[e];exact b9x hc
    exact ih.1 d e
theorem b9X(h:a5N l=.ok t):t.ins.length<=16/\t.outs.length<=16:=by
 unfold a5N at h
 have e:t=(txT l).1:=by
  revert h
  generalize(txT l).2=s
  cases s with
  | error x=>intro h;cases h
  |
   ok r=>
   intro h;simp only at h
   split at h
   ·cases h
   split at h
   ·cases h;rfl
   cases h
 subst e;exact⟨Qk (a9Z _ _) (a0P 16 _),Qk (a8d _ _) (a0P 16 _)⟩
structure d0d(c:c7Z):Prop where
 ins:c.t.ins.length<=16
 outs:c.t.outs.length<=16
 certs:c.certs.length<=16
 path:∀d∈c.certs,d.path.length<=32
 ow:Dig c.ow
 am:0<=c.am/\c.am<=4611686018427387904
 ser:0<=c.ser/\c.ser<=1099511627776
 ep:0<=c.ep/\c.ep<=1099511627776
 id:Dig c.id
 kind:0<=c.kind/\c.kind<=9
theorem Dig.zIdZ:Dig zId:=⟨by simp[zId],λx hx=>by have:=Zf hx;omega⟩
structure d0n(r:b8k):Prop where
 ow:Dig r.ow
 am:r.am<=4611686018427387904
 ser:r.ser<=1099511627776
 ep:r.ep<=1099511627776
 id:Dig r.id
 cs:r.cs.length<=16
theorem c7U{s:St}(a:a9Q s):d0n (a3H k s).1:=by
 have b:d0n a4D:=⟨Dig.zIdZ,by simp[a4D],by simp[a4D],by simp[a4D],Dig.zIdZ,by simp[a4D]⟩;unfold a3H
 split
 ·have b1:=a2c (most:=1099511627776) a
  exact⟨⟨a1R _,(a7z b1).2⟩,a0P _ _,a0P _ _,by simp,Dig.zIdZ,by simp⟩
 split
 ·exact{b with}
 split
 ·exact{b with cs:=Qk (a7j _ _) (a0P 16 _)}
 split
 ·exact{b with ep:=a0P _ _}
 split
 ·exact{b with id:=⟨a1R _,(a7z a).2⟩}
 exact b
theorem b8G(a:∀x∈l,0<=x/\x<=255){c:c7Z}(h:a2o l=.ok c):d0d c:=by
 unfold a2o at h;have d:=a0P 9 (.ok l);have b:=c7U (k:=(a0o 9 (.ok l)).1) (a2c (most:=9) (s:=.ok l) a)
 revert h b d
 generalize o:(a0o 9 (.ok l)).1=k
 generalize m:(a0o 9 (.ok l)).2=s
 generalize j:a3H k s=rs
 obtain⟨r,st⟩:=rs;intro h d b;simp only at h b
 split at h
 ·cases h
 split at h
 ·cases h
 split at h
 ·cases h
 split at h
 ·cases h
 split at h
 ·split at h
  ·cases h
  rename_i t ht
  split at h
  ·cases h
  rename_i M hM
  cases h
  have g:=b9X ht;have f:=b4d hM;exact⟨g.1,g.2,by show M.length<=16;rw[f.2];exact b.cs,f.1,Dig.zIdZ,by simp,by simp,by simp,Dig.zIdZ,by simp only;omega⟩
 cases h
 refine⟨by simp[zTx],by simp[zTx],by simp,by simp,b.ow,?_,?_,?_,b.id,by simp only;omega⟩
 ·have:=b.am;simp only;omega
 ·have:=b.ser;simp only;omega
 have:=b.ep;simp only;omega
theorem b1r.at'{N c:Nat}{R:LW}{L:List a0y}(h:b1r b w (.slice A N c) R L)(a:a0T 39 137 b w (.slice A N c) R):a4g w A L:=λj hj=>by
 obtain⟨B,cap,h1,h2,h3,h4,h5,h6⟩:=h.at_ j hj;obtain⟨A',c',e,hr,-⟩:=a.rd;simp only[Value.slice.injEq]at e;obtain⟨rfl,-,-⟩:=e;have hjR:j<R.length:=by rw[h.len];exact hj
 obtain⟨g,off,m,d,f⟩:=hr j hjR;refine⟨g,off,B,cap,m,d,⟨λk x o=>f k x ?_,h2,h3,h4,h5⟩⟩
 have:R[j]=a0d L[j] B cap:=by
  rw[QN hjR]at h1;exact Option.some.inj h1
 rw[this];exact o
section
theorem c8d:a3s prog 39=some [(0,37),(37,1),(38,67),(105,32)]:=ρk
theorem c6V:(((prog.info? 39).bind (·.zero)).map (·.cells.toList))=some (a0d a0r none 0):=ρk
theorem c7a(c:a0y)(a:c.Bd)(A:OA)(N cap:Nat)(b:N=c.path.length)(w:WD):(BDs 39 #[(0,.agg (a0x c.e).toArray),(1,.slice A N cap),(2,.agg (a0b c.h).toArray),(3,.agg (bys c.tag).toArray)]).run prog w=.ok (.agg (a0d c A cap).toArray) w:=by
 subst b;have z0:=a0l a0B none 0;have d:=a0u a.e;have o:=a0f a.h;have l2:(bys c.tag).length=32:=by rw[a0a,a.tag.1]
 refine a2H c8d c6V _ _ ?_ w;rw[a0v (off:=0) (size:=37) rfl (by simp[Value.cells,d]) ρo]
 have j:(a0d a0r none 0).take 0++(Value.agg (a0x c.e).toArray).cells.toList++(a0d a0r none 0).drop (0+37)=a0d ⟨c.e,[],a1y,List.replicate 32 0⟩ none 0:=by
  rw[a3Q,a3Q,QR,QQ (by rw[a0u a0B.e];omega),a0u a0B.e];simp[Value.cells,a0r]
 rw[j];have b1:(⟨c.e,[],a1y,List.replicate 32 0⟩:a0y).Bd:=⟨a.e,by simp,a1A,ZZ⟩;rw[a0v (off:=37) (size:=1) rfl rfl (by rw[a0l b1];omega)]
 have r:(a0d ⟨c.e,[],a1y,List.replicate 32 0⟩ none 0).take 37++(Value.slice A c.path.length cap).cells.toList++(a0d ⟨c.e,[],a1y,List.replicate 32 0⟩ none 0).drop (37+1)=a0d ⟨c.e,c.path,a1y,List.replicate 32 0⟩ A cap:=by
  rw[a3Q,a3Q,QJ (by simp only;omega),Qb (by simp only;omega),QR,QQ (by simp only;omega),d];simp[Value.cells]
 rw[r];have f:(⟨c.e,c.path,a1y,List.replicate 32 0⟩:a0y).Bd:=⟨a.e,a.path,a1A,ZZ⟩;rw[a0v (off:=38) (size:=67) rfl (by simp[Value.cells,o]) (by rw[a0l f];omega)]
 have m:(a0d ⟨c.e,c.path,a1y,List.replicate 32 0⟩ A cap).take 38++(Value.agg (a0b c.h).toArray).cells.toList++(a0d ⟨c.e,c.path,a1y,List.replicate 32 0⟩ A cap).drop (38+67)=a0d ⟨c.e,c.path,c.h,List.replicate 32 0⟩ A cap:=by
  rw[a7o f,a3Q,a3Q];simp only
  rw[show a0x c.e++Value.slice A c.path.length cap::(a0b a1y++bys (List.replicate 32 0))=(a0x c.e++[Value.slice A c.path.length cap])++(a0b a1y++bys (List.replicate 32 0)) by simp,
   QJ (by simp;omega),Qb (by simp;omega),QR,QQ (by rw[a0f a1A];omega),a0f a1A]
  simp[Value.cells]
 rw[m];have g:(⟨c.e,c.path,c.h,List.replicate 32 0⟩:a0y).Bd:=⟨a.e,a.path,a.h,ZZ⟩;rw[a0v (off:=105) (size:=32) rfl (by simp[Value.cells,l2]) (by rw[a0l g];omega),a1Y]
 have p:(a0d ⟨c.e,c.path,c.h,List.replicate 32 0⟩ A cap).take 105++(Value.agg (bys c.tag).toArray).cells.toList++(a0d ⟨c.e,c.path,c.h,List.replicate 32 0⟩ A cap).drop (105+32)=a0d c A cap:=by
  rw[QQ (by rw[a0l g];omega),ZC,a3Q,a3Q];simp only
  rw[show a0x c.e++Value.slice A c.path.length cap::(a0b c.h++bys (List.replicate 32 0))=(a0x c.e++Value.slice A c.path.length cap::a0b c.h)++bys (List.replicate 32 0) by simp,
   QJ (by simp;omega),Qb (by simp;omega)]
  simp[Value.cells]
 rw[p]
abbrev b9m:=bdOf 39
attribute [local go_sem ↓] a1W a1l a1D a3u a3h b9m a2t a2s a2n
def mkC(seed:LI)(b1 b3:LI)(e:a1P)(h:a0Q):a0y:=⟨e,[a0R b1,a0R b3],h,a7C seed h.sh (a2a h)⟩
theorem c6B{e:a1P}{h:a0Q}(a:a0D e=true)(b:a0w h=true)(d:e.sh=h.sh)(f:e.ep=h.ep)(g:h.sh<n)(j:h.root=a1n (a1n (a0R b1) (a0R (a5V e))) (a0R b3)):isP seed n (mkC seed b1 b3 e h)=true:=by
 unfold isP mkC;simp[a,b,d,f,g,j]
theorem c6t{e:a1P}{h:a0Q}(a:e.Bd)(b:h.Bd):(mkC seed b1 b3 e h).Bd:=
 ⟨a,by intro d hd;simp only[mkC,Qo,Qt,or_false]at hd;rcases hd with rfl | rfl<;>exact Dig.leaf _,b,Dig.mac _ _⟩
def c6r(b:Nat)(c:a0y)(x:Ending)(w':WD):Prop:=∃A cap,x=.returned (.tuple #[.agg (a0d c A cap).toArray,.bool true])/\a0T 31 32 b w' (.slice A c.path.length cap) (c.path.map bys)
theorem b5z(p k:Nat)(seed:LI)(f:k<=64)(g:Nat)(b1 b3:LI)(e:a1P)(h:a0Q)(d:e.Bd)(b:h.Bd)(w:WD)(r:a5n w p seed k)(y:a4M w g 0 b1)(z:a4M w g 2 b3)(B:b1.length<=10000000)(D:b3.length<=10000000) (hre:a0D e=true) (hrh:a0w h=true) (hs:e.sh=h.sh) (hp:e.ep=h.ep) (hn:h.sh<(k:Int)) (hroot:h.root=a1n (a1n (a0R b1) (a0R (a5V e))) (a0R b3)) (hgl:a2x w):Calls prog 206 #[.pointer p,.slice g 3 3,.agg (a0x e).toArray,.agg (a0b h).toArray] w λx w'=>c6r w (mkC seed b1 b3 e h) x w'/\Below w w w':=by
 have⟨g0,aC⟩:=ηs w;have aY:=c6B (seed:=seed) hre hrh hs hp hn hroot;have N:=c6t (seed:=seed) (b1:=b1) (b3:=b3) d b;have bU:=(a3B h).1 hrh;have⟨c,hc⟩:=η0 (mkC seed b1 b3 e h);have bT:c.e=e:=by rw[<-hc];rfl
 have bJ:c.h=h:=by rw[<-hc];rfl
 have aU:c.path=[a0R b1,a0R b3]:=by rw[<-hc];rfl
 have bR:c.tag=a7C seed h.sh (a2a h):=by rw[<-hc];rfl
 rw[hc]at aY N⊢;have b0:=Qd w 34 (((a0x e).toArray));have B0:=ρb w (.cells (((a0x e).toArray)) 34)
 generalize hW:w.alloc (.cells (((a0x e).toArray)) 34)=W at b0 B0
 rw[aC]at b0;have be:W.heap.size=g0+1:=by rw[<-hW,Qi,aC]
 have aZ:=b0.alloc (.cells ((a0b h).toArray) 37);have bh:=Qd W 37 ((a0b h).toArray);have B1:Below w w (W.alloc (.cells ((a0b h).toArray) 37)):=B0.alloc B0.size _
 generalize aq:W.alloc (.cells ((a0b h).toArray) 37)=W2 at aZ bh B1
 rw[be]at bh;have aB:W2.heap.size=g0+2:=by rw[<-aq,Qi,be]
 have aE:=a9u W2;have⟨zc,aG⟩:=η0 ((a0d a0r none 0).toArray);have bq:zc.size=137:=by rw[<-aG,Qc];exact a0l a0B none 0
 have aa:=a9u;simp only[aG]at aa;rw[aG,aB]at aE;have aH:=aZ.alloc (.cells zc 39);have ai:=bh.alloc (.cells zc 39);have bz:=Qd W2 39 zc;have B2:Below w w (W2.alloc (.cells zc 39)):=B1.alloc B1.size _
 generalize hV:W2.alloc (.cells zc 39)=V at aH ai bz B2 aE
 rw[aB]at bz;have bH:V.heap.size=g0+3:=by rw[<-hV,Qi,aB]
 have aj:=λX (F:Below V V X)=>P4 b3q a8Q (a0x e) (aH.fr (Q9 F) (ρh aH.lt)) (a0u d)
 have ag:=λX (F:Below V V X)=>P4 a1S a1h (a0b h) (ai.fr (Q9 F) (ρh ai.lt)) (a0f b)
 have bb:=λX (F:Below V V X)=>((ai.fr (Q9 F) (ρh ai.lt)).cell 0).trans (show(a0b h).toArray[0]? =some (.int .i64 h.sh) by simp[a0b])
 have aT:=ag V (Qf _ _);have O:=a3A h b V;rw[hrh]at O;simp only[if_true]at O;have bk:=a8g b;have bD:=a7a b;have G:=λ(A:OA) (c2:Nat) (X:WD) (F:Below w w X) (hb:Byt X A (a2a h)) (hc:A=none->c2=0)=>c4I p k seed h.sh A c2 (a2a h) X (r.below F) ⟨bU.1.1,hn⟩ hb hc ρo (hgl.below F)
 rw[<-bR]at G;have ae:=λX (F:Below w w X)=>c7y g 0 3 ρo b1 b3 X (y.below F) (z.below F) B D (hgl.below F)
 rw[<-aU]at ae;have S:c.path.length=2:=by rw[aU];rfl
 have ay:=λ(A:OA) (cap:Nat) (X:WD) (F:Below w w X) (h2:2<=cap) (hP:RdR 32 X A (c.path.map bys))=>b1O p k seed A cap c X (r.below F) f N ρo ρo hP (hgl.below F)
 rw[aY]at ay;have ab:=λ(A:OA) (cap:Nat) (X:WD)=>c7a c N A 2 cap S.symm X
 rw[bT,bJ]at ab;have aV:(bys c.tag).length=32:=by rw[a0a,N.tag.1]
 have⟨T,hT⟩:=η0 c.tag;simp only[hT]at G ab aV;have⟨ev,bO⟩:=η0 ((a0x e).toArray);have⟨hv,bW⟩:=η0 ((a0b h).toArray);simp only[bO,bW]at hW aq aj ag aT O ab⊢;have⟨hf,br⟩:=η0 (a2a h);simp only[br]at O G bk bD;have⟨fl,al⟩:=η0 hf.length;simp only[al]at G;have⟨sh,bV⟩:=η0 h.sh;simp only[bV]at G bb;obtain⟨ZI,aK,aR,cA⟩:=P8 (t:=31) iId b1N;have I:=λA cap=>a0l N A cap
 have H:=λA cap=>a2C c A cap
 have bI:(ALs 39).run prog ((w.alloc (.cells ev 34)).alloc (.cells hv 37))=.ok (.pointer (g0+2:Nat)) V:=by rw[hW,aq];exact aE
 have⟨HW,cx,HV,HG,bF,cj,cq,cn⟩:=η8 hW aq hV aC B2 bz aj ag;have⟨cg,ck,bQ,bf,bY,b5,bK,bv⟩:=η8 bb bk G ae ay ab aV bq;have⟨ar,aQ,bE,bM,a9,b9⟩:=η6 I H S aa bH al;clear hW aq hV aC B2 bz aj ag bb bk G ae ay ab aV bq I H S aa bH al b0 B0 aZ bh B1 aH ai aY N bU hc bT bJ aU bR be aB aG hT br bV bO bW r y z B D hre hrh hs hp hn hroot hgl bD;go_in;go_upto_region 1 with fail
 rw[HG.o];go_wp2_with fail;refine μ1 O ?_;rintro e1 w1 ⟨v1,rfl,a0,aA⟩;obtain⟨A1,c1,ba,aI,_,_⟩:=a0N.byt a0 ck;have bn:A1=none->c1=0:=λe=>by subst e;subst ba;exact a0N.nulI a0
 rw[b9.o]at ba;subst ba;have az:=φt bF aA;have bB:=bQ.o A1 c1 w1 az aI bn;have q1:=cg.o w1 aA;have⟨ci,cv⟩:=η2 aA az;clear aA az a0 aI bn;clear O aT aE bI;go_wp2_with fail;refine μi bB ?_;intro w2 bA;have⟨x,hx⟩:=ηs w2;have ax:=aK w2;have ad:=aR w2 (bys T) bK.o (a0h _);have bx:=Qd w2 31 (bys T).toArray;have BX:=(Qf _ w2).alloc (Qg _) (.cells (bys T).toArray 31);rw[hx]at ax ad bx
 generalize hY:w2.alloc (.cells (bys T).toArray 31)=Y at ad bx BX
 have ah:Below V V w2:=φt ci bA;have aM:Below V V Y:=ah.trans (BX.mono ah.size);have E:Below V V Y.drew:=aM.drew;have⟨U,hU⟩:=η0 Y.drew;have bu:Blk U x 31 (bys T).toArray:=by rw[<-hU];exact bx.drew
 rw[hU]at E;have aX:=a9.o;have bg:=HG.o;have bN:V.heap.size<=x:=by rw[<-hx];exact ah.size
 have F1:=λX (F:Below U U X)=>cq.o X (E.trans (F.mono E.size))
 have F2:=λX (F:Below U U X)=>cn.o X (E.trans (F.mono E.size))
 have F3:=λX (F:Below U U X)=>P4 a2i iId (bys T) (bu.fr (Q9 F) (ρh bu.lt)) bK.o
 have⟨S0,a2⟩:=η0 ((λX=>(LDs 34 (.pointer g0)).run prog X=.ok (.agg ev) X/\(LDs 37 (.pointer (g0+1:Nat))).run prog X=.ok (.agg hv) X/\(LDs 31 (.pointer (some ⟨x,0,none⟩))).run prog X=.ok (.agg (bys T).toArray) X):WD->Prop);have bS:∀X,Below U U X->S0 X:=λX F=>by rw[<-a2];exact⟨F1 X F,F2 X F,F3 X F⟩
 have aP:Below w w U:=φt bF E;have⟨cr,bl,HU,J,an,cy⟩:=η6 a2 bS hU E aP bN;clear a2 bS hU E aP bN ah aM BX bx bu hx hY aX bg F1 F2 F3 bA q1 bB aK;go_upto_region 5 with fail
 clear ax ad aR;with_reducible refine a4F (λi=>i != 7) S0 ρk ?_
 rw[HU.o];refine a2b (m:=4) (Lf:=#[true,true,false,true,true,false,false,false]) [(1,3),(0,0),(3,0),(4,0)] true ρk ρk ρk (λ_=>bl.o _ (Qf _ _)) ?_;refine εc1 ?_
 iterate 3 refine θc3 (λ_ h=>by rw[<-cr.o]at h;exact h) ?_
 with_reducible refine a2m ?_
 have aa:=bM.o;refine a2A (j:=6) (n:=1) (Lf:=#[true,true,true,true,true,true,true,false]) (t:=39) (Z:=zc) [(2,2),(5,3)] ρk ρk ρk ρu rfl (λa X=>by go_simp) bl.o ?_;intro X0 bj;have c2:=bf.o X0 (φt an bj);have aD:=η1 bj;clear bj aa;with_reducible refine a4f (o:=?_) ρu ρu (λK hK=>?_)
 refine ψ ?_;go_simp;refine μ1 c2 ?_;rintro e2 w6 ⟨v6,rfl,a8,a7⟩;obtain⟨Q,N6,R,rfl,cf⟩:=a8.formN;have S:=bE.o;obtain rfl:N6=2:=ρo;have bw:=φt aD a7;have ct:=aD.size;have ab:=b5.o Q R;have⟨bZ,ch,b6⟩:=η3 bw a8 a7;clear bw a8 a7 c2 cf S;with_reducible refine hK _ _ b6.o (λX6 aW=>?_);clear hK K
 have a3:=a0T.keep ch aW;have bX:=η1 (φt bZ aW);clear aW
 (with_reducible refine a8f (o:=?_) (v:=?_) (a':=?_) ρu ρu (λW'=>?_) ?_ ?_;rotate_left 2;(focus exact ρs);focus(exact ρs))
 with_reducible refine a6e ?_;intro b8 h6 a1 aF
 have bm:=b3t a3 aF ρd;have b7:=P9 a4U aF bv (a0d c Q R) (ar.o Q R) (aQ.o Q R);have r1:=aF.row_ (a0d c Q R).toArray;have a6:Below U U X6:=bX.o;have r2:=Ql (g:=h6) a6 a1 (a0d c Q R).toArray;have f6:=ρr (h6) X6 (a0d c Q R).toArray;have ac:=a0T.fr a3 f6 (λj hj e=>bm (by rw[hj,e]));have⟨cB,cC,R1,R2,b4⟩:=η5 a6 a1 r1 r2 ac;clear a6 a1 r1 r2 ac aF b8 f6 bm a3;clear ab;refine a1c [(7,2)] true ρk ρk ρk (λ_=>bl.o _ bX.o) ?_;refine τ1 ?_;refine ν ?_;have⟨Y7,bL⟩:=η0 (X6.setRow h6 (a0d c Q R).toArray);have r1:=R1.o;have r2:=R2.o;have ac:=b4.o;rw[bL]at r1 r2 ac⊢;obtain⟨A',c',bP,bi,aL,bs,aS⟩:=a0T.rd ac;simp only[Value.slice.injEq]at bP;obtain⟨rfl,-,rfl⟩:=bP;rw[Qw]at aL;have S:=bE.o;have ak:=φt an r2;have a5:=bY.o Q R Y7 ak ρo bi;have aJ:=P4 a8j a4U (a0d c Q R) r1 (ar.o Q R);have I:=ar.o Q R
 have H:=aQ.o Q R;have af:∀(W:WD) (e:Ending),e=.returned (.tuple #[.agg (a0d c Q R).toArray,.bool true])->a0T 31 32 w.heap.size W (.slice Q 2 R) (c.path.map bys)->c6r w c e W:=λW e d ho=>⟨Q,R,d,by rw[S];exact ho⟩
 have bo:a0T 31 32 X0.heap.size Y7 (.slice Q 2 R) (c.path.map bys):=ac;have⟨cs,a4⟩:=η0 (a0d c Q R);rw[a4]at r1 aJ I H;simp only[a4]at af a5⊢
 have au:∀a,Q=some a->¬a.block=g0+2:=λa ha e=>by
  have h1:=aS a ha;have h2:=J.size;have h3:=aD.size;have h4:=a9.o;omega
 have⟨cd,cc,cz,bp,bc,ao,bG,cD⟩:=η8 r1 ak bi bo af I H au;have bt:=η1 r2;clear r1 ak bi bo af I H au r2 bs aS aL bL S ac a4 b7;go_wp2_with fail;refine μi a5 ?_;intro w8 av;have r3:=φf cd av;have cw:=P4 a8j a4U cs r3 ao;have aN:=(J.trans (bt.mono J.size)).trans (av.mono (J.trans (bt.mono J.size)).size);have kz:=φf cj aN;have cu:=P9 a4U kz bv cs ao bG;have k9:=kz.row_ cs.toArray;have f9:Fr (λj=>j=g0+2) w8 (w8.setRow (g0+2) cs.toArray):=(Qp (λj=>j=g0+2) w8).setRow (g:=g0+2) (λ_=>rfl) _;have b2:=an.size;have ca:=aD.size;have ce:=J.size;have aX:=a9.o;have aO:=((bp.keep av).fr f9 (λk f e=>by have:=(bp.lt f).1;omega)).base (B':=w.heap.size) ρo;have bg:=HG.o;have B9:=Ql (g:=g0+2) (φt cc av) ρo cs.toArray;have⟨K9,cp,bC⟩:=η3 k9 B9 aO;clear k9 B9 aO r3 aN kz f9 bg av b2 ca ce aX;clear a5 aJ;go_wp2
 refine bodyPost_ret (a0Z rfl _ _ (g0+2) 39 cs K9 a8j (ρy ao.o a4U) rfl (.bool true)) rfl ?_;exact⟨bc.o _ _ rfl bC,cp.o⟩
end
theorem d1u(b:Nat)(a:Array MapEntry)(c:Nat)(w:WD)(d:w.heap[b]? =some (.map a c)):Calls prog 139 #[.map (some b)] w λe w'=>e=.returned (.map (some w.heap.size))/\w'=w.alloc (.map a c):=by
 have m:=λw=>run_eql_map_nil_sl (P:=prog) w 161 _ _ (some b) b0v
 have j:∀v,(callFunc 201 #[v]).run prog w=((Extern.MapsClone.clone #[v]).run prog w).andThen λv w'=>.ok (.value v) w':=λv=>run_callFunc_extern (P:=prog) (f:=201) (fn:=Tryz.f201) ρk ρk ρk ρk ρk #[v] w
 have g:=λt=>run_maps_clone_sl (P:=prog) (w:=w) t d
 go_in;go_wp2;rw[run_typeAssert_map_sl _ 161 _ _ _ _ b0v];simp only[Result.andThen];rw[Oper.upon_value];go_wp2;go_ret;exact⟨rfl,rfl⟩
theorem a8R:prog.underlying 164=some (.map 189 208):=ρk
theorem c9W(b:Nat)(a:Array MapEntry)(c:Nat)(w:WD)(d:w.heap[b]? =some (.map a c)):Calls prog 140 #[.map (some b)] w λe w'=>e=.returned (.map (some w.heap.size))/\w'=w.alloc (.map a c):=by
 have m:=λw=>run_eql_map_nil_sl (P:=prog) w 164 _ _ (some b) a8R
 have j:∀v,(callFunc 201 #[v]).run prog w=((Extern.MapsClone.clone #[v]).run prog w).andThen λv w'=>.ok (.value v) w':=λv=>run_callFunc_extern (P:=prog) (f:=201) (fn:=Tryz.f201) ρk ρk ρk ρk ρk #[v] w
 have g:=λt=>run_maps_clone_sl (P:=prog) (w:=w) t d
 go_in;go_wp2;rw[run_typeAssert_map_sl _ 164 _ _ _ _ a8R];simp only[Result.andThen];rw[Oper.upon_value];go_wp2;go_ret;exact⟨rfl,rfl⟩
theorem b0F:prog.underlying 167=some (.map 212 214):=ρk
theorem d1s(b:Nat)(a:Array MapEntry)(c:Nat)(w:WD)(d:w.heap[b]? =some (.map a c)):Calls prog 141 #[.map (some b)] w λe w'=>e=.returned (.map (some w.heap.size))/\w'=w.alloc (.map a c):=by
 have m:=λw=>run_eql_map_nil_sl (P:=prog) w 167 _ _ (some b) b0F
 have j:∀v,(callFunc 201 #[v]).run prog w=((Extern.MapsClone.clone #[v]).run prog w).andThen λv w'=>.ok (.value v) w':=λv=>run_callFunc_extern (P:=prog) (f:=201) (fn:=Tryz.f201) ρk ρk ρk ρk ρk #[v] w
 have g:=λt=>run_maps_clone_sl (P:=prog) (w:=w) t d
 go_in;go_wp2;rw[run_typeAssert_map_sl _ 167 _ _ _ _ b0F];simp only[Result.andThen];rw[Oper.upon_value];go_wp2;go_ret;exact⟨rfl,rfl⟩
section
abbrev a1J:=a1q×LI
structure a6v(l:a1J):Prop where
 co:l.1.Bd
 len:l.2.length=32
 id:∀x∈l.2,0<=x/\x<=255
def a4V(l:a1J):LV:=a1s l.1++bys l.2
theorem a4w{l:a1J}(h:a6v l):(a4V l).length=65:=by simp[a4V,a0G h.co,a0a,h.len]
theorem a8O(l:a1J):∀v∈a4V l,v.oneCell'=true:=by
 intro v a
 rcases Qq.1 a with h | h
 ·exact a1O _ v h
 exact a0h _ v h
theorem b1h{l:a1J}(h:a6v l)(a:(a1s l.1)[j]? =some v):(a4V l)[j]? =some v:=by
 have b:j<(a1s l.1).length:=(Qm.1 a).1;unfold a4V;rw[QO b];exact a
theorem c2S{l:a1J}(h:a6v l)(a:(bys l.2)[j]? =some v):(a4V l)[33+j]? =some v:=by
 have b:=a0G h.co;unfold a4V;rw[QL ρo,b,Nat.add_sub_cancel_left];exact a
theorem c2W{l:a1J}(h:a6v l):(a4V l)[32]? =some (.int .u64 l.1.am):=b1h h (by unfold a1s;simp[a0a,h.co.len])
theorem b5Y{P:PG}{fn:Func}{p q r:Tmp}{ty a:TI}(h:fn.results=#[.cell p ty,.cell q a,.tmp r])(tmps:AV)(w:WD)(g g':Nat)(t m:TI)(cs b:AV)(fr f:Nat×Nat){d j:TypeDesc} (hg:w.heap[g]? =some (.cells cs t fr)) (hu:P.underlying ty=some d) (hd:a1f d=true) (hi:(P.info? ty).map (·.size)=some cs.size) (hp:tmps.getD p undef=.pointer g) (hg':w.heap[g']? =some (.cells b m f)) (hu':P.underlying a=some j) (hd':a1f j=true) (hi':(P.info? a).map (·.size)=some b.size) (hq:tmps.getD q undef=.pointer g')  (hr:tmps.getD r undef=v:=by rfl):(results fn tmps).run P w=.ok (.tuple #[.agg cs,.agg b,v]) w:=by
 have y:tmps[p]?.getD undef=.pointer g:=ρw hp;have x:tmps[q]?.getD undef=.pointer g':=ρw hq;have o:tmps[r]?.getD undef=v:=ρw hr;simp[results,h,y,x,o,asAddr,run_loadVar_row w g t ty cs fr d hg hu (by cases d<;>simp_all [a1f]) hi,run_loadVar_row w g' m a b f j hg' hu' (by cases j<;>simp_all [a1f]) hi']
theorem c1o(w:WD):(ALs 31).run prog w=.ok (.pointer w) (w.alloc (.cells (bys (List.replicate 32 0)).toArray 31)):=a0U (.agg (bys (List.replicate 32 0)).toArray) ρk w
abbrev b3a:=ldOf 208
abbrev b3o:=stOf 208
abbrev b3h:=alOf 208
theorem d3M:(prog.underlying 208).map a1f=some true:=ρk
theorem c9u:(prog.info? 208).map (·.size)=some 65:=ρk
def a6q:a1J:=(a3q,List.replicate 32 0)
theorem a6P:a6v a6q:=⟨a2R,by simp[a6q],by intro x hx;have:=Zf hx;omega⟩
theorem c0O(w:WD):(ALs 208).run prog w=.ok (.pointer w) (w.alloc (.cells (a4V a6q).toArray 208)):=a0U (.agg (a4V a6q).toArray) ρk w
theorem d1K(w:WD):(zeroValue 208).run prog w=.ok (.agg (a4V a6q).toArray) w:=ρk
structure a0j(w:WD)(cb mb:Nat)(m:List (Pt×a1J))(s:Int):Prop where
 st:Blk w cb 166 #[.map (some mb),.int .u64 s]
 mp:a4o ptE a4V w mb m
 bd:∀p∈m,a6v p.2
theorem a0j.fr{w b:WD}{cb a:Nat}{m:List (Pt×a1J)}{s:Int}{F:Nat->Prop}(h:a0j w cb a m s)(d:Fr F w b)(f:¬F cb)(g:¬F a):a0j b cb a m s:=⟨h.st.fr d f,h.mp.fr d g,h.bd⟩
theorem a0j.below{m:List (Pt×a1J)}(h:a0j w cb b m s)(d:Below w w a):a0j a cb b m s:=h.fr (Q9 d) (ρh h.st.lt) (ρh h.mp.lt)
theorem a0j.ne{a:Nat}{m:List (Pt×a1J)}(h:a0j w cb a m s):a≠cb:=h.mp.ne_blk h.st
theorem a0j.q0{a:Nat}{m:List (Pt×a1J)}(h:a0j w cb a m s):w.cell? ⟨cb,0,none⟩=some (.map (some a)):=h.st.cell 0
theorem a0j.q1{a:Nat}{m:List (Pt×a1J)}(h:a0j w cb a m s):w.cell? ⟨cb,1,none⟩=some (.int .u64 s):=h.st.cell 1
def a0H(m:List (Pt×a1J))(p:Pt):a1J:=(a2E m p).getD a6q
theorem a2U{m:List (Pt×a1J)}(h:∀p∈m,a6v p.2)(p:Pt):a6v (a0H m p):=by
 unfold a0H
 cases hg:a2E m p with
 | none=>exact a6P
 | some v=>exact h _ (a6T hg)
theorem a0j.look{m:List (Pt×a1J)}(h:a0j w cb b m s){p:Pt}(d:a6l p):(Instr.lookup 164 (.map (some b)) (.agg (ptL p.1 p.2).toArray) true).run prog w=.ok (.tuple #[.agg (a4V (a0H m p)).toArray,.bool (a2E m p).isSome]) w:=by
 unfold a0H
 cases hg:a2E m p with
 | none=>exact h.mp.look_out a8R (a:=p) d (d1K w) hg true
 | some v=>exact h.mp.look_in a8R (a:=p) hg true
theorem c0n(w:WD):Calls prog 29 #[] w λe w'=>e=.returned (.pointer (w.heap.size+1:Nat))/\a0j w' (w.heap.size+1) w.heap.size [] 0/\Below w w w'/\w'.heap.size=w.heap.size+2:=by
 have m:a4o ptE a4V (w.alloc (.map #[] 0)) w.heap.size []:=a4o.new w;have f:=ρb w (.map #[] 0);have o:=f.alloc f.size (.cells #[.map (some w.heap.size),.int .u64 0] 166);have d:=Qd (w.alloc (.map #[] 0)) 166 #[.map (some w.heap.size),.int .u64 0];rw[Qi]at d;have j:=m.fr (Q9 ((Qf _ (w.alloc (.map #[] 0))).alloc (Qg _) (.cells #[.map (some w.heap.size),.int .u64 0] 166))) ρp;have a:a0j ((w.alloc (.map #[] 0)).alloc (.cells #[.map (some w.heap.size),.int .u64 0] 166)) (w.heap.size+1) w.heap.size [] 0:=⟨d,j,by simp⟩;have⟨b,g⟩:=η2 a o;have p:=run_makeMap (P:=prog) (t:=164) w;clear a o d j m f;go_in;go_wp2;go_ret;exact⟨by simp,b.o,g.o,by simp⟩
theorem b1f(cb a:Nat)(m:List (Pt×a1J))(s:Int)(w:WD)(h:a0j w cb a m s):Calls prog 203 #[.pointer cb] w λe w'=>e=.returned (.int .i64 (m.length:Int))/\w=w':=by
 have q0:=h.q0;have b:=h.mp.len_ (ty:=3) a8R
 generalize d:m.length=n at b⊢
 clear h d;go_in;go_wp2;go_ret;exact⟨rfl,rfl⟩
theorem b4f(cb a:Nat)(m:List (Pt×a1J))(s:Int)(w:WD)(h:a0j w cb a m s):Calls prog 36 #[.pointer cb] w λe w'=>e=.returned (.int .u64 s)/\w=w':=by
 have q1:=h.q1;clear h;go_in;go_wp2;go_ret;exact⟨rfl,rfl⟩
attribute [local go_sem ↓] b3a b3o b3h a1F
abbrev c5D:=bdOf 208
theorem d2S{x:a1J}(h:a6v x)(w:WD):(BDs 208 #[(0,.agg (a1s x.1).toArray),(1,.agg (bys x.2).toArray)]).run prog w=.ok (.agg (a4V x).toArray) w:=by
 have a:=a0G h.co;have b:(bys x.2).length=32:=by rw[a0a,h.len]
 have key:∀Z:LV,Z.length=65->b1G [(0,33),(33,32)] Z [(0,.agg (a1s x.1).toArray),(1,.agg (bys x.2).toArray)]=some (a4V x):=by
  intro Z d;rw[a0v (off:=0) (size:=33) rfl (by simp[Value.cells,a]) ρo,a0v (off:=33) (size:=32) rfl (by simp[Value.cells,b]) (by simp[Value.cells,a,d]),a1Y]
  congr 1
  unfold a4V;simp[Value.cells,a,b,QQ,d]
 exact a2H (pl:=[(0,33),(33,32)]) (Z:=a4V a6q) ρk ρk _ _ (key _ (a4w a6P)) w
attribute [local go_sem ↓] a1B a2s a2n
attribute [local go_sem ↓] a4s a4r a4v
theorem b5f(cb a:Nat)(m:List (Pt×a1J))(s:Int)(p:Pt)(b:a6l p)(w:WD)(h:a0j w cb a m s):Calls prog 222 #[.pointer cb,.agg (ptL p.1 p.2).toArray] w λe w'=>e=.returned (.tuple #[.agg (bys (a0H m p).2).toArray,.agg (a1s (a0H m p).1).toArray,.bool (a2E m p).isSome])/\Below w w w':=by
 have⟨g,hg⟩:=ηs w;have⟨E,T⟩:=η0 ((ptL p.1 p.2).toArray);have⟨zc,aW⟩:=η0 ((a4V a6q).toArray);have⟨zo,a3⟩:=η0 ((a1s a3q).toArray);have⟨zi,aU⟩:=η0 ((bys (List.replicate 32 0)).toArray);have ag:=c0O;simp only[aW]at ag;have H:=b1a;simp only[a3]at H;have r:=c1o;simp only[aU]at r;have a7:zc.size=65:=by rw[<-aW,Qc];exact a4w a6P
 have aM:zo.size=33:=by rw[<-a3,Qc];exact a0G a2R
 have aX:zi.size=32:=by rw[<-aU,Qc];simp[a0a]
 have bg:=h.st.lt;have bi:=h.mp.lt;have b0:=Qd w 189 E;have B0:=ρb w (.cells E 189)
 generalize ao:w.alloc (.cells E 189)=W1 at b0 B0
 rw[hg]at b0;have aV:W1.heap.size=g+1:=by rw[<-ao,<-hg];simp
 have J:(ALs 31).run prog (w.alloc (.cells E 189))=.ok (.pointer W1) (W1.alloc (.cells zi 31)):=by rw[ao];exact r W1
 have ai:=b0.alloc (.cells zi 31);have b1:=Qd W1 31 zi;have B1:=B0.alloc B0.size (.cells zi 31);have⟨W2,al⟩:=η0 (W1.alloc (.cells zi 31));have aJ:W2.heap.size=g+2:=by rw[<-al];simp;omega
 rw[al]at ai b1 B1 J;rw[aV]at b1 J;have G:(ALs 206).run prog W2=.ok (.pointer W2) (W2.alloc (.cells zo 206)):=H W2;have aC:=ai.alloc (.cells zo 206);have aE:=b1.alloc (.cells zo 206);have b2:=Qd W2 206 zo;have B2:=B1.alloc B1.size (.cells zo 206);have⟨W3,ay⟩:=η0 (W2.alloc (.cells zo 206));have aH:W3.heap.size=g+3:=by rw[<-ay];simp;omega
 rw[ay]at aC aE b2 B2 G;rw[aJ]at b2 G;have h2:=h.below B2;have fd:Fr (λ_=>False) W3 W3.drew:=(Qp _ _).drew;have⟨X,hX⟩:=η0 W3.drew;rw[hX]at fd;have aY:X.heap.size=g+3:=by rw[<-hX];exact aH
 have S:a0j X cb a m s/\Blk X g 189 E:=⟨h2.fr fd id id,aC.fr fd id⟩;have F:=ag X;have bx:=Qd X 208 zc;have BX:=ρb X (.cells zc 208)
 generalize hY:X.alloc (.cells zc 208)=Y at bx BX F
 rw[aY]at bx F;have a0:a0j Y cb a m s/\Blk Y g 189 E:=⟨S.1.below BX,S.2.fr (Q9 BX) ρo⟩;have f:=a2U h.bd p;have aF:=a4w f;have aG:=a8O (a0H m p);have d:=λ(W:WD) (hw:a0j W cb a m s)=>hw.look b
 simp only[T]at d;have av:∀(j:Nat) (v:VL),(a1s (a0H m p).1)[j]? =some v->(a4V (a0H m p)).toArray[j]? =some v:=λj v hv=>by rw[QE];exact b1h f hv
 have an:∀(j:Nat) (v:VL),(bys (a0H m p).2)[j]? =some v->(a4V (a0H m p)).toArray[33+j]? =some v:=λj v hv=>by rw[QE];exact c2S f hv
 have z:=a0G f.co;have au:=a1O (a0H m p).1;have O:(bys (a0H m p).2).length=32:=by rw[a0a,f.len]
 have ah:=a0h (a0H m p).2;have⟨os,aQ⟩:=η0 (a1s (a0H m p).1);have⟨is,aL⟩:=η0 (bys (a0H m p).2);have⟨cs,aj⟩:=η0 (a4V (a0H m p));rw[aj]at aF aG;simp only[aj,aQ,aL]at d av an z au O ah⊢
 generalize a9:(a2E m p).isSome=ok at d⊢
 have R:=P7 c9u bx a7 cs aF aG;have fY:Fr (λk=>k=g+3) Y (Y.setRow (g+3) cs.toArray):=(Qp (λk=>k=g+3) Y).setRow (g:=g+3) (λ_=>rfl) _;have kx:=bx.row_ cs.toArray;have kr:Blk (Y.setRow (g+3) cs.toArray) (g+1) 31 zi:=((aE.fr fd id).fr (Q9 BX) ρo).fr fY ρo;have ks:Blk (Y.setRow (g+3) cs.toArray) (g+2) 206 zo:=((b2.fr fd id).fr (Q9 BX) ρo).fr fY ρo;have BY:Below w w (Y.setRow (g+3) cs.toArray):=((B2.trans (fd.below ρo (λ_ _=>id))).trans (BX.mono ρo)).trans (fY.below (B:=w.heap.size) (ρh BX.size) (λk hk e=>ρo));have⟨Z,hZ⟩:=η0 (Y.setRow (g+3) cs.toArray);replace R:=R.trans (show _=Result.ok () Z by rw[<-hZ]);rw[hZ]at kx kr ks BY;have o:Fr (λ_=>False) Z Z.drew:=(Qp _ _).drew;have⟨Z1,ax⟩:=η0 Z.drew;rw[ax]at o;have V:=kx.fr o id;have aA:=kr.fr o id;have aS:=ks.fr o id
 have aN:Below w w Z1:=BY.trans (o.below (ρh BY.size) (λ_ _=>id));obtain⟨dI,az,y⟩:=Q8.1 a2i;obtain⟨dC,ak,N⟩:=Q8.1 c3f;have D:∀W:WD,Blk W (g+3) 208 cs.toArray->(LDs 31 (.pointer (some ⟨g+3,33,none⟩))).run prog W=.ok (.agg is.toArray) W:=λW hb=>a3R W _ dI 32 az y iId (g+3) 33 is O (λj v hv=>(hb.cell (33+j)).trans (an j v hv))
 have x:∀W:WD,Blk W (g+3) 208 cs.toArray->(LDs 206 (.pointer (g+3:Nat))).run prog W=.ok (.agg os.toArray) W:=λW hb=>a3R W _ dC 33 ak N a9y (g+3) 0 os z (λj v hv=>by rw[QP];exact(hb.cell j).trans (av j v hv))
 have I:=P7 iId aA aX is O ah;have aD:=aA.row_ is.toArray;have f3:Fr (λk=>k=g+1) Z1 (Z1.setRow (g+1) is.toArray):=(Qp (λk=>k=g+1) Z1).setRow (g:=g+1) (λ_=>rfl) _;have Q:=aS.fr f3 (show¬_=_ by omega);have U:=V.fr f3 (show¬_=_ by omega);have aB:=Ql (g:=g+1) aN ρo is.toArray;have⟨Z2,ad⟩:=η0 (Z1.setRow (g+1) is.toArray);replace I:=I.trans (show _=Result.ok () Z2 by rw[<-ad]);rw[ad]at aD Q U aB;have aT:=P7 a9y Q aM os z au;have ac:=Q.row_ os.toArray;have f4:Fr (λk=>k=g+2) Z2 (Z2.setRow (g+2) os.toArray):=(Qp (λk=>k=g+2) Z2).setRow (g:=g+2) (λ_=>rfl) _;have ae:=aD.fr f4 (show¬_=_ by omega);have aq:=Ql (g:=g+2) aB ρo os.toArray;have K:=λ(W:WD) (hb:Blk W g 189 E)=>Pb a3a a1H (w:=W) E.toList (ρw hb) (by rw[<-T];simpa using b.vlen)
 simp only[show E.toList.toArray=E by simp]at K;have⟨xa,aP⟩:=η0 cs.toArray;have⟨oa,ar⟩:=η0 os.toArray;have⟨ia,af⟩:=η0 is.toArray;have ab:oa.size=33:=by rw[<-ar,Qc,z]
 have aa:ia.size=32:=by rw[<-af,Qc,O]
 simp only[aP,ar,af]at d R D x I aT ae ac aq V U⊢;rw[T];have⟨a6,a4,bc,ba,bh,a8,bf,be⟩:=η8 S a0 ab aa ae ac aq d;have⟨aI,aZ,aO,bb,aR,HX,a2,HG⟩:=η8 K D x V U hX ax hg;have⟨bj,a1,a5,aK⟩:=η4 az y ak N;clear S a0 ab aa ae ac aq d K D x V U hX ax hg az y ak N b0 B0 ai b1 B1 aC aE b2 B2 h2 fd aY bx BX hY f aF aG aj a9 fY kx kr ks BY hZ aJ aH ao aV al ay ag H r h bg bi aP T av an z au O ah aQ aL o aA aS aN aD f3 Q aB ad f4 ar af;go_in;go_upto_region 1 with fail
 clear J G;rw[HG.o];refine a0s [(0,3),(1,3),(2,3),(3,0),(4,0),(5,0),(6,3),(7,3),(8,3),(9,1),(10,2),(11,3)] (λW=>a0j W cb a m s/\Blk W g 189 E) ρk ρk ρk ρk (ρy HX.o a6.o) ?_;rw[HX.o];refine ε3 ?_
 iterate 3 refine θ3 (λW' hS=>QU hS.1.q0 (QU (aI.o W' hS.2) (be.o W' hS.1))) ?_
 refine ε3 ?_;refine κ1 (a4.o) ?_;refine τ1 ?_;refine ε1 ?_;refine ν ?_;clear F R;go_upto_region 2 with fail
 refine a0s [(0,3),(2,3),(4,3),(1,0),(3,0),(5,1),(6,2),(7,3)] (λW=>Blk W (g+3) 208 xa) ρk ρk ρk ρk (ρy a2.o bb.o) ?_;rw[a2.o];refine ε3 ?_
 iterate 2 refine θ2 (λW' hS=>QU (aZ.o W' hS) (aO.o W' hS)) ?_
 refine κ1 (aR.o) ?_;refine τ1 ?_;refine ε1 ?_;refine ν ?_;go_wp2;refine bodyPost_ret (v:=.tuple #[.agg ia,.agg oa,.bool ok]) (b5Y rfl _ _ (g+1) (g+2) _ _ _ _ (0,0) (0,0) bh.o bj a1 (ρy ba.o iId) rfl a8 a5 aK (ρy bc.o a9y) rfl) rfl ?_;exact⟨rfl,bf.o⟩
end
section
attribute [local go_sem ↓] a1l a1B
theorem b5V(a b:a0Q)(j:a.Bd)(f:b.Bd)(p:a0w a=true)(y:a0w b=true)(r:b.sh=a.sh)(x:b.ht=a.ht+1)(z:a.ep<=b.ep)(m:b.prev=b4F a)(w:WD)(d:a2x w):Calls prog 19 #[.agg (a0b a).toArray,.agg (a0b b).toArray] w λe w'=>e=.returned (.bool true)/\Below w w w':=by
 have⟨g,hg⟩:=ηs w;have hm:=a7l p;have V:=(Qd w 37 (a0b a).toArray).alloc (.cells (a0b b).toArray 37);have b1:=Qd (w.alloc (.cells (a0b a).toArray 37)) 37 (a0b b).toArray;have B1:Below w w ((w.alloc (.cells (a0b a).toArray 37)).alloc (.cells (a0b b).toArray 37)):=(ρb w _).alloc ρp _;rw[Qi]at b1;rw[hg]at V b1;have Z:=a0f j;have ac:=a0f f;have a0:(a0b a).toArray[0]? =some (.int .i64 a.sh):=rfl;have a1:(a0b a).toArray[1]? =some (.int .i64 a.ht):=rfl;have a2:(a0b a).toArray[2]? =some (.int .i64 a.ep):=rfl;have e0:(a0b b).toArray[0]? =some (.int .i64 a.sh):=by rw[<-r];rfl
 have e1:(a0b b).toArray[1]? =some (.int .i64 (a.ht+1)):=by rw[<-x];rfl
 have e2:(a0b b).toArray[2]? =some (.int .i64 b.ep):=rfl;have D:(bys b.prev).length=32:=by rw[a0a,f.prev.1]
 have e3:((a0b b).drop 3).take 32=bys b.prev:=by simp[a0b,QT,D,Qb]
 have⟨va,an⟩:=η0 (a0b a);have⟨vb,ao⟩:=η0 (a0b b);have H:=λX=>a2f a j X
 have F:=λX=>a2f b f X
 have hid:=λX hX=>b1K a j X hX
 have G:=λX=>a8i b.prev (b4F a) f.prev (Dig.hid a) X
 rw[p]at H;rw[y]at F;rw[m]at D e3;simp only[m,decide_true]at G;simp only[an]at V b1 B1 Z a0 a1 a2 H hid⊢;simp only[ao]at V b1 B1 ac e0 e1 e2 e3 F⊢
 generalize hW:(w.alloc (.cells va.toArray 37)).alloc (.cells vb.toArray 37)=W at V b1 B1
 have⟨U,hU⟩:=η0 W.drew;have N:Below W W U:=by rw[<-hU];exact(Qf _ _).drew
 have BU:=B1.trans (N.mono B1.size);have u0:=V.fr (Q9 N) (ρh V.lt);have u1:=b1.fr (Q9 N) (ρh b1.lt);have⟨dv,ad⟩:=η0 (bys (b4F a));rw[ad]at D e3;simp only[ad]at hid G
 have aq:∀Y,Below U U Y->((LDs 37 (.pointer g)).run prog Y=.ok (.agg va.toArray) Y/\(LDs 37 (.pointer (g+1:Nat))).run prog Y=.ok (.agg vb.toArray) Y/\
   (Y.cell? ⟨g,0,none⟩=some (.int .i64 a.sh)/\Y.cell? ⟨g,1,none⟩=some (.int .i64 a.ht)/\Y.cell? ⟨g,2,none⟩=some (.int .i64 a.ep))/\(Y.cell? ⟨g+1,0,none⟩=some (.int .i64 a.sh)/\Y.cell? ⟨g+1,1,none⟩=some (.int .i64 (a.ht+1))/\Y.cell? ⟨g+1,2,none⟩=some (.int .i64 b.ep))/\
   (LDs 31 (.pointer (some ⟨g+1,3,none⟩))).run prog Y=.ok (.agg dv.toArray) Y):=λY hY=>by
  have y0:=u0.fr (Q9 hY) (ρh u0.lt);have y1:=u1.fr (Q9 hY) (ρh u1.lt);exact⟨P4 a1S a1h va y0 Z,P4 a1S a1h vb y1 ac,⟨(y0.cell 0).trans a0,(y0.cell 1).trans a1,(y0.cell 2).trans a2⟩,⟨(y1.cell 0).trans e0,(y1.cell 1).trans e1,(y1.cell 2).trans e2⟩,P6 a2i iId y1 (off:=3) dv D e3⟩
 obtain⟨S0,aa⟩:∃S0:WD->Prop,(λY=>((LDs 37 (.pointer g)).run prog Y=.ok (.agg va.toArray) Y/\(LDs 37 (.pointer (g+1:Nat))).run prog Y=.ok (.agg vb.toArray) Y/\
  (Y.cell? ⟨g,0,none⟩=some (.int .i64 a.sh)/\Y.cell? ⟨g,1,none⟩=some (.int .i64 a.ht)/\Y.cell? ⟨g,2,none⟩=some (.int .i64 a.ep))/\(Y.cell? ⟨g+1,0,none⟩=some (.int .i64 a.sh)/\Y.cell? ⟨g+1,1,none⟩=some (.int .i64 (a.ht+1))/\Y.cell? ⟨g+1,2,none⟩=some (.int .i64 b.ep))/\
  (LDs 31 (.pointer (some ⟨g+1,3,none⟩))).run prog Y=.ok (.agg dv.toArray) Y))=S0:=⟨_,rfl⟩
 have R:∀Y,Below U U Y->S0 Y:=λY hY=>by rw[<-aa];exact aq Y hY
 have ar:=H U;have aC:decide (a.ep<=b.ep)=true:=ρw z;have aB:IntKind.i64.wrap (a.ht+1)=a.ht+1:=IntWalk.i64_in _ ρo;have⟨HS,J,HU,HW,HG,I,ay,ax⟩:=η8 aa R hU hW hg BU F hid;have⟨au,av⟩:=η2 G d;clear aa R hU hW hg BU F hid G d aq V b1 B1 u0 u1 N an ao ad H a0 a1 a2 e0 e1 e2 e3 r x m D Z ac;go_in;go_upto_region 1 with fail
 rw[HW.o,HG.o];refine a0s [(0,0),(1,1),(2,3),(3,0),(4,1),(5,3),(6,3),(7,3),(9,3),(8,0),(10,0),(11,3),(12,3),(13,3),(14,3),(16,3),(15,0),(17,0),(18,3),(19,3),(20,3),(21,3),(22,3),(24,3),(23,0),(25,0),(26,3),(27,3),(28,3),(29,3),(30,0),(31,0),(32,1),(33,2),(34,3),(35,3)] S0 ρk ρk ρk ρk (by rw[HU.o];exact J.o _ (Qf _ _)) ?_;rw[HU.o]
 (with_reducible refine a0t (o:=?_) (v:=?_) (a':=?_) ρu ρu (λW' B=>?_) ?_ ?_;rotate_left 2;(focus(rw[<-HS.o]at B;obtain⟨t1,t2,⟨t3,t4,t5⟩,⟨t6,t7,t8⟩,t9⟩:=B;exact ρs));focus(exact ρs))
 refine κ ?_;intro K E;refine μi ar ?_;intro w1 T;with_reducible refine E _ _ (J.o _ T) ?_;clear E K;clear ar
 have aj:=ay.o w1;have aA:=η1 T;clear T;refine ε1 ?_
 (with_reducible refine a0t (o:=?_) (v:=?_) (a':=?_) ρu ρu (λW' B=>?_) ?_ ?_;rotate_left 2;(focus(rw[<-HS.o]at B;obtain⟨t1,t2,⟨t3,t4,t5⟩,⟨t6,t7,t8⟩,t9⟩:=B;exact ρs));focus(exact ρs))
 refine κ ?_;intro K E;refine μi aj ?_;intro w2 ai;have Q:=φt aA ai;have ab:=η1 Q;clear Q ai;with_reducible refine E _ _ (J.o _ ab.o) ?_;clear E K;clear aj
 refine ε4 ?_
 iterate 2 (with_reducible refine a0t (o:=?_) (v:=?_) (a':=?_) ρu ρu (λW' B=>?_) ?_ ?_;rotate_left 2;(focus(rw[<-HS.o]at B;obtain⟨t1,t2,⟨t3,t4,t5⟩,⟨t6,t7,t8⟩,t9⟩:=B;exact ρs));focus(exact ρs))
 refine ε5 ?_
 iterate 2 (with_reducible refine a0t (o:=?_) (v:=?_) (a':=?_) ρu ρu (λW' B=>?_) ?_ ?_;rotate_left 2;(focus(rw[<-HS.o]at B;obtain⟨t1,t2,⟨t3,t4,t5⟩,⟨t6,t7,t8⟩,t9⟩:=B;exact ρs));focus(exact ρs))
 refine ε6 ?_
 iterate 2 (with_reducible refine a0t (o:=?_) (v:=?_) (a':=?_) ρu ρu (λW' B=>?_) ?_ ?_;rotate_left 2;(focus(rw[<-HS.o]at B;obtain⟨t1,t2,⟨t3,t4,t5⟩,⟨t6,t7,t8⟩,t9⟩:=B;exact ρs));focus(exact ρs))
 refine ε4 ?_
 iterate 2 (with_reducible refine a0t (o:=?_) (v:=?_) (a':=?_) ρu ρu (λW' B=>?_) ?_ ?_;rotate_left 2;(focus(rw[<-HS.o]at B;obtain⟨t1,t2,⟨t3,t4,t5⟩,⟨t6,t7,t8⟩,t9⟩:=B;exact ρs));focus(exact ρs))
 have S:=I.trans (ab.mono I.size);have ak:=ax.o w2 (av.below S);clear S;refine κ ?_;intro K E;refine μi ak ?_;intro w3 af;have O:=φt ab af;have al:=η1 O;clear O af;with_reducible refine E _ _ (J.o _ al.o) ?_;clear E K;clear ak
 have ah:=au.o w3;refine τ ?_;intro K E;refine μi ah ?_;intro w4 ag;with_reducible refine E _ _ ?_;clear E K;clear ah
 have ae:=I.trans ((φt al ag).mono I.size);have az:=η1 ae;clear ae ag;refine ε2 ?_;refine ν ?_;go_wp2;go_ret;exact⟨rfl,az.o⟩
end
section
attribute [local go_sem ↓] b3a b3o b3h a4v a4s a4r a1F a1B
theorem b8V(cb b:Nat)(m:List (Pt×a1J))(s:Int)(p:Pt)(d:a6l p)(w:WD)(h:a0j w cb b m s):Calls prog 219 #[.pointer cb,.agg (ptL p.1 p.2).toArray] w λe w'=>e=.returned (.tuple #[.agg (a1s (a0H m p).1).toArray,.bool (a2E m p).isSome])/\a0j w' cb b (b6D m p) (IntKind.u64.wrap (s-(a0H m p).1.am))/\Fr (λk=>k=cb\/k=b) w w':=by
 have⟨g,hg⟩:=ηs w;have⟨r,H⟩:=η0 ((ptL p.1 p.2).toArray);have⟨zc,aR⟩:=η0 ((a4V a6q).toArray);have⟨zo,aF⟩:=η0 ((a1s a3q).toArray);have ag:=c0O;simp only[aR]at ag;have J:=b1a;simp only[aF]at J;have a2:zc.size=65:=by rw[<-aR,Qc];exact a4w a6P
 have ac:zo.size=33:=by rw[<-aF,Qc];exact a0G a2R
 have bf:=h.st.lt;have bi:=h.mp.lt;have b0:=Qd w 189 r;have B0:=ρb w (.cells r 189)
 generalize an:w.alloc (.cells r 189)=W1 at b0 B0
 rw[hg]at b0;have aQ:W1.heap.size=g+1:=by rw[<-an,<-hg];simp
 have K:(ALs 206).run prog (w.alloc (.cells r 189))=.ok (.pointer W1) (W1.alloc (.cells zo 206)):=by rw[an];exact J W1
 have ah:=b0.alloc (.cells zo 206);have b1:=Qd W1 206 zo;have B1:=B0.alloc B0.size (.cells zo 206);have⟨W2,al⟩:=η0 (W1.alloc (.cells zo 206));have aH:W2.heap.size=g+2:=by rw[<-al];simp;omega
 rw[al]at ah b1 B1 K;rw[aQ]at b1 K;have h2:=h.below B1;have fd:Fr (λ_=>False) W2 W2.drew:=(Qp _ _).drew;have⟨X,hX⟩:=η0 W2.drew;rw[hX]at fd;have aT:X.heap.size=g+2:=by rw[<-hX];exact aH
 have R:a0j X cb b m s/\Blk X g 189 r:=⟨h2.fr fd id id,ah.fr fd id⟩;have I:=ag X;have bx:=Qd X 208 zc;have BX:=ρb X (.cells zc 208)
 generalize hY:X.alloc (.cells zc 208)=Y at bx BX I
 rw[aT]at bx I;have V:a0j Y cb b m s/\Blk Y g 189 r:=⟨R.1.below BX,R.2.fr (Q9 BX) ρo⟩;have E:=a2U h.bd p;have aC:=a4w E;have aE:=a8O (a0H m p);have D:=λ(W:WD) (hw:a0j W cb b m s)=>hw.look d
 simp only[H]at D;have av:∀(j:Nat) (v:VL),(a1s (a0H m p).1)[j]? =some v->(a4V (a0H m p)).toArray[j]? =some v:=λj v hv=>by rw[QE];exact b1h E hv
 have o:=c2W E;have F:=a0G E.co;have au:=a1O (a0H m p).1;have⟨os,aM⟩:=η0 (a1s (a0H m p).1);have⟨cs,ai⟩:=η0 (a4V (a0H m p));rw[ai]at aC aE o;simp only[ai,aM]at D av F au⊢
 generalize a3:(a2E m p).isSome=ok at D⊢
 have Q:=P7 c9u bx a2 cs aC aE;have fY:Fr (λk=>k=g+2) Y (Y.setRow (g+2) cs.toArray):=(Qp (λk=>k=g+2) Y).setRow (g:=g+2) (λ_=>rfl) _;have kx:=bx.row_ cs.toArray;have kr:Blk (Y.setRow (g+2) cs.toArray) (g+1) 206 zo:=((b1.fr fd id).fr (Q9 BX) ρo).fr fY ρo;have kp:Blk (Y.setRow (g+2) cs.toArray) g 189 r:=V.2.fr fY ρo;have aA:a0j (Y.setRow (g+2) cs.toArray) cb b m s:=V.1.fr fY ρo ρo;have BY:Below w w (Y.setRow (g+2) cs.toArray):=((B1.trans (fd.below ρo (λ_ _=>id))).trans (BX.mono ρo)).trans (fY.below (B:=w.heap.size) (ρh BX.size) (λk hk e=>ρo));have⟨Z,hZ⟩:=η0 (Y.setRow (g+2) cs.toArray);replace Q:=Q.trans (show _=Result.ok () Z by rw[<-hZ]);rw[hZ]at kx kr BY kp aA;have N:=λ(W:WD) (hb:Blk W g 189 r)=>Pb a3a a1H (w:=W) r.toList (ρw hb) (by rw[<-H];simpa using d.vlen)
 simp only[show r.toList.toArray=r by simp]at N;have x:Fr (λ_=>False) Z Z.drew:=(Qp _ _).drew;have⟨Z1,ax⟩:=η0 Z.drew;rw[ax]at x;have T:a0j Z1 cb b m s/\Blk Z1 g 189 r:=⟨aA.fr x id id,kp.fr x id⟩;obtain⟨Z2,ab,aU,f,aJ⟩:=T.1.mp.del (ty:=0) a8R (a:=p) d;have aq:=h.ne;have af:Blk Z2 cb 166 #[.map (some b),.int .u64 s]:=T.1.st.fr f (λe=>aq e.symm);have aP:=(kx.fr x id).fr f (show¬_=_ by omega);have aY:=(kr.fr x id).fr f (show¬_=_ by omega);have F2:Fr (λk=>k=cb\/k=b) w Z2:=(((Q9 BY).mono (G:=λk=>k=cb\/k=b) (λk hk e=>ρo)).trans x (λ_ _ e=>e.elim)).trans f (λk hk e=>.inr e);have y:Fr (λ_=>False) Z2 Z2.drew:=(Qp _ _).drew;have⟨O,az⟩:=η0 Z2.drew;rw[az]at y;have z:=af.fr y id;have aj:=aP.fr y id;have aG:=aY.fr y id;have ad:=aU.fr y id;have qs:O.cell? ⟨cb,1,none⟩=some (.int .u64 s):=z.cell 1;have zs:=z.frozen 1
 have qa:O.cell? ⟨g+2,32,none⟩=some (.int .u64 (a0H m p).1.am):=(aj.cell 32).trans (by rw[QE];exact o);have⟨s',S⟩:=η0 (IntKind.u64.wrap (s-(a0H m p).1.am));have k4:Blk (O.setCell ⟨cb,1,none⟩ (.int .u64 s')) cb 166 #[.map (some b),.int .u64 s']:=by simpa using z.set_ 1 (.int .u64 s')
 have f4:Fr (λk=>k=cb) O (O.setCell ⟨cb,1,none⟩ (.int .u64 s')):=(Qp (λk=>k=cb) O).setCell (p:=⟨cb,1,none⟩) (λ_=>rfl) _;have ao:=aj.fr f4 (show¬_=_ by omega);have U:=aG.fr f4 (show¬_=_ by omega);have aD:a0j (O.setCell ⟨cb,1,none⟩ (.int .u64 s')) cb b (b6D m p) s':=⟨k4,ad.fr f4 aq,λq hq=>h.bd q (ZD.1 hq).1⟩;have F4:=(F2.trans y (λ_ _ e=>e.elim)).trans f4 (λk hk e=>.inl e)
 generalize aS:O.setCell ⟨cb,1,none⟩ (.int .u64 s')=Z4 at ao U aD F4
 obtain⟨dC,aN,ae⟩:=Q8.1 c3f;have aI:(LDs 206 (.pointer (g+2:Nat))).run prog Z4=.ok (.agg os.toArray) Z4:=a3R Z4 _ dC 33 aN ae a9y (g+2) 0 os F (λj v hv=>by rw[QP];exact(ao.cell j).trans (av j v hv));have aV:=P7 a9y U ac os F au;have aB:=U.row_ os.toArray;have f5:Fr (λk=>k=g+1) Z4 (Z4.setRow (g+1) os.toArray):=(Qp (λk=>k=g+1) Z4).setRow (g:=g+1) (λ_=>rfl) _;have ay:=aD.fr f5 ρo ρo;have F5:=F4.trans f5 (λk hk e=>ρo);have⟨xa,aK⟩:=η0 cs.toArray;have⟨oa,ar⟩:=η0 os.toArray;have aW:oa.size=33:=by rw[<-ar,Qc,F]
 generalize a5:(a0H m p).1.am=am at qa S⊢
 rw[S];simp only[aK,ar]at D Q aI aV aB ay F5⊢;have ak:∀ty:TI,(Builtin.delete_ #[164,189] ty #[.map (some b),.agg r]).run prog Z1=.ok (.tuple #[]) Z2:=λty=>by rw[<-H];exact ab
 rw[H];have aL:O.cell? ⟨cb,1,none⟩=some (.int .u64 s)/\O.cell? ⟨g+2,32,none⟩=some (.int .u64 am):=⟨qs,qa⟩;have⟨a1,a0,a7,a4,bg,bb,aa,HX⟩:=η8 R V T aW aB D N hX;have⟨HG,aZ,aX,a8,bc,be,aO,bh⟩:=η8 hg ax az aS ay F5 aL S;clear R V T aW aB D N hX hg ax az aS ay F5 aL S b0 B0 ah b1 B1 h2 fd aT bx BX hY E aC aE ai a3 fY kx kr BY hZ aH an aQ al ag h bf bi aK H kp aA x aU f aJ aq af aP aY F2 y z aj aG ad k4 f4 ao U aD F4 f5 a5 ab qs qa av o F au aM ar aN ae J ac aF;go_in;go_upto_region 1 with fail
 clear K;rw[HG.o];refine a0s [(0,3),(1,3),(2,3),(3,0),(4,0),(5,0),(6,3),(7,3),(8,3),(9,1),(10,2),(11,3)] (λW=>a0j W cb b m s/\Blk W g 189 r) ρk ρk ρk ρk (ρy HX.o a1.o) ?_;rw[HX.o];refine ε3 ?_
 iterate 3 refine θ3 (λW' hS=>QU hS.1.q0 (QU (aa.o W' hS.2) (bb.o W' hS.1))) ?_
 refine ε3 ?_;refine κ1 (a0.o) ?_;refine τ1 ?_;refine ε1 ?_;refine ν ?_;clear I Q;go_upto_region 2 with fail
 refine a0s [(0,3),(1,3),(2,3),(3,0),(4,0),(5,2)] (λW=>a0j W cb b m s/\Blk W g 189 r) ρk ρk ρk ρk (ρy aZ.o a7.o) ?_;rw[aZ.o];refine ε3 ?_
 iterate 2 refine θ2 (λW' hS=>QU hS.1.q0 (aa.o W' hS.2)) ?_
 refine τ1 ?_;refine ν ?_;clear ak;go_upto_region 3 with fail
 refine a0s [(0,3),(1,3),(2,3),(4,3),(5,3),(3,0),(6,0),(7,3),(8,3),(9,3),(10,2)] (λW=>W.cell? ⟨cb,1,none⟩=some (.int .u64 s)/\W.cell? ⟨g+2,32,none⟩=some (.int .u64 am)) ρk ρk ρk ρk (ρy aX.o aO.o) ?_;rw[aX.o];have qs:=aO.1;have a9:=bh.o;refine ε5 ?_
 iterate 2 refine θ2 (λW' hS=>QU hS.1 hS.2) ?_
 refine ε3 ?_;refine τ1 ?_;refine ν ?_;go_upto_region 4 with fail
 rw[a8.o];clear qs zs a9;go_wp2_with fail;obtain⟨dT,a6,ba⟩:=Q8.1 c3f;refine bodyPost_ret (v:=.tuple #[.agg oa,.bool ok]) (a0k rfl _ _ (g+1) _ _ (0,0) bg.o a6 ba (ρy a4.o a9y) rfl) rfl ?_;exact⟨rfl,bc.o,be.o⟩
attribute [local go_sem ↓] c5D
def b9M(m:List (Pt×a1J))(s:Int)(p:Pt)(x:a1J):Int×List (Pt×a1J)×Int:=
 if p.2<0\/16<=p.2\/x.1.am=0\/4611686018427387904<x.1.am then(5,m,s)
 else if(a2E m p).isSome then(24,m,s)
 else if 64<=m.length then(18,m,s)
 else if(a5b s x.1.am).2≠0 then((a5b s x.1.am).2,m,s)
 else(0,m++[(p,x)],(a5b s x.1.am).1)
theorem b9V(cb b:Nat)(m:List (Pt×a1J))(s:Int)(p:Pt)(f:a6l p)(x:a1J)(d:a6v x)(j:0<=s/\s<=18446744073709551615)(w:WD)(h:a0j w cb b m s):Calls prog 120 #[.pointer cb,.agg (ptL p.1 p.2).toArray,.agg (bys x.2).toArray,.agg (a1s x.1).toArray] w λe w'=>e=.returned (.int .i64 (b9M m s p x).1)/\a0j w' cb b (b9M m s p x).2.1 (b9M m s p x).2.2/\Fr (λk=>k=cb\/k=b) w w':=by
 have⟨g,T⟩:=ηs w;have⟨r,O⟩:=η0 ((ptL p.1 p.2).toArray);have⟨iv,aE⟩:=η0 ((bys x.2).toArray);have⟨ov,av⟩:=η0 ((a1s x.1).toArray);have⟨G,N⟩:=η0 (a4V x);have⟨zc,a4⟩:=η0 ((a4V a6q).toArray);have ar:=c0O;simp only[a4]at ar;have aU:zc.size=65:=by rw[<-a4,Qc];exact a4w a6P
 have E:G.length=65:=by rw[<-N];exact a4w d
 have ab:∀v∈G,v.oneCell'=true:=by rw[<-N];exact a8O x
 have aj:G[32]? =some (.int .u64 x.1.am):=by rw[<-N];exact c2W d
 have aP:∀W:WD,(BDs 208 #[(0,.agg ov),(1,.agg iv)]).run prog W=.ok (.agg G.toArray) W:=by
  intro W;rw[<-av,<-aE,<-N];exact d2S d W
 have bC:=h.st.lt;have bH:=h.mp.lt;have b0:=Qd w 189 r;have B0:=ρb w (.cells r 189);have bm:=b0.alloc (.cells iv 31);have b1:=Qd (w.alloc (.cells r 189)) 31 iv;have B1:=B0.alloc B0.size (.cells iv 31);rw[Qi]at b1;have aD:=bm.alloc (.cells ov 206);have aF:=b1.alloc (.cells ov 206);have b2:=Qd ((w.alloc (.cells r 189)).alloc (.cells iv 31)) 206 ov;have B2:=B1.alloc B1.size (.cells ov 206);rw[Qi,Qi]at b2;have⟨W3,aB⟩:=η0 (((w.alloc (.cells r 189)).alloc (.cells iv 31)).alloc (.cells ov 206));have bc:W3.heap.size=g+3:=by rw[<-aB,<-T];simp
 rw[aB]at aD aF b2 B2;rw[T]at aD aF b2;have aH:=Pb c3f a9y (w:=W3) ov.toList (ρw b2) (by rw[<-av];simpa using a0G d.co);have aJ:=Pb a2i iId (w:=W3) iv.toList (ρw aF) (by rw[<-aE];simp[a0a,d.len]);simp only[show ov.toList.toArray=ov by simp,show iv.toList.toArray=iv by simp]at aH aJ;have ae:=ar W3;have bx:=Qd W3 208 zc;have BX:=ρb W3 (.cells zc 208);have aX:=aD.alloc (.cells zc 208);have h3:=(h.below B2).below BX;have⟨W4,aY⟩:=η0 (W3.alloc (.cells zc 208));have bt:W4.heap.size=g+4:=by rw[<-aY];simp;omega
 rw[aY]at bx BX aX h3 ae;rw[bc]at bx ae;have H:=P7 c9u bx aU G E ab;have fY:Fr (λk=>k=g+3) W4 (W4.setRow (g+3) G.toArray):=(Qp (λk=>k=g+3) W4).setRow (g:=g+3) (λ_=>rfl) _;have kx:=bx.row_ G.toArray;have kp:=aX.fr fY (show¬_=_ by omega);have hV:=h3.fr fY ρo ρo;have aW:(W4.setRow (g+3) G.toArray).heap.size=g+4:=ρw bt;have BV:Below w w (W4.setRow (g+3) G.toArray):=(B2.trans (BX.mono ρo)).trans (fY.below (B:=w.heap.size) ρo (λk hk e=>ρo));have⟨V,a6⟩:=η0 (W4.setRow (g+3) G.toArray);replace H:=H.trans (show _=Result.ok () V by rw[<-a6]);rw[a6]at kx kp hV BV aW;have aN:r[32]? =some (.int .i64 p.2):=by rw[<-O];unfold ptL;simp[a0a,f.len]
 have qi:V.cell? ⟨g,32,none⟩=some (.int .i64 p.2):=(kp.cell 32).trans aN;have qa:V.cell? ⟨g+3,32,none⟩=some (.int .u64 x.1.am):=(kx.cell 32).trans (by rw[QE];exact aj);have FV:Fr (λk=>k=cb\/k=b) w V:=(Q9 BV).mono (λk hk e=>ρo);have fd:Fr (λ_=>False) V V.drew:=(Qp _ _).drew;have⟨X,hX⟩:=η0 V.drew;rw[hX]at fd;have bA:X.heap.size=g+4:=by rw[<-hX];exact aW
 have ax:a0j X cb b m s/\Blk X g 189 r:=⟨hV.fr fd id id,kp.fr fd id⟩;have I:=ar X;have by_:=Qd X 208 zc;have D:=ρb X (.cells zc 208)
 generalize hY:X.alloc (.cells zc 208)=Y at by_ D I
 rw[bA]at by_ I;have aC:a0j Y cb b m s/\Blk Y g 189 r:=⟨ax.1.below D,ax.2.fr (Q9 D) ρo⟩;have bk:=a2U h.bd p;have ba:=a4w bk;have bb:=a8O (a0H m p);have J:=λ(W:WD) (hw:a0j W cb b m s)=>hw.look f
 simp only[O]at J;have⟨cs,aZ⟩:=η0 (a4V (a0H m p));rw[aZ]at ba bb;simp only[aZ]at J;have⟨ok,aV⟩:=η0 ((a2E m p).isSome);rw[aV]at J;have y:=P7 c9u by_ aU cs ba bb;have fZ:Fr (λk=>k=g+4) Y (Y.setRow (g+4) cs.toArray):=(Qp (λk=>k=g+4) Y).setRow (g:=g+4) (λ_=>rfl) _;have ao:a0j (Y.setRow (g+4) cs.toArray) cb b m s:=aC.1.fr fZ ρo ρo;have a7:Blk (Y.setRow (g+4) cs.toArray) g 189 r:=aC.2.fr fZ ρo;have aq:Blk (Y.setRow (g+4) cs.toArray) (g+3) 208 G.toArray:=((kx.fr fd id).fr (Q9 D) ρo).fr fZ ρo;have BZ:Below w w (Y.setRow (g+4) cs.toArray):=((BV.trans (fd.below ρo (λ_ _=>id))).trans (D.mono ρo)).trans (fZ.below (B:=w.heap.size) (ρh D.size) (λk hk e=>ρo));have⟨Z,hZ⟩:=η0 (Y.setRow (g+4) cs.toArray);replace y:=y.trans (show _=Result.ok () Z by rw[<-hZ]);rw[hZ]at ao a7 aq BZ;have FZ:Fr (λk=>k=cb\/k=b) w Z:=(Q9 BZ).mono (λk hk e=>ρo)
 have al:=λ(W:WD) (hb:Blk W g 189 r)=>Pb a3a a1H (w:=W) r.toList (ρw hb) (by rw[<-O];simpa using f.vlen)
 simp only[show r.toList.toArray=r by simp]at al;have U:=λ(W:WD) (hb:Blk W (g+3) 208 G.toArray)=>Pb d3M c9u (w:=W) G hb E
 have R:Fr (λ_=>False) Z Z.drew:=(Qp _ _).drew;have⟨Z1,a5⟩:=η0 Z.drew;rw[a5]at R;have aa:=ao.fr R id id;have az:=aq.fr R id;have be:=a7.fr R id;have bE:Z1.cell? ⟨cb,1,none⟩=some (.int .u64 s)/\Z1.cell? ⟨g+3,32,none⟩=some (.int .u64 x.1.am):=⟨aa.q1,(az.cell 32).trans (by rw[QE];exact aj)⟩;have ah:=a8G s x.1.am j d.co.am Z1;have⟨xa,bo⟩:=η0 cs.toArray;have⟨xv,a3⟩:=η0 G.toArray;simp only[bo]at J y;simp only[a3]at aP H U aq az kx;have bn:Below w w Z1:=BZ.trans (R.below (ρh BZ.size) (λ_ _=>id));have aK:(a4V x).toArray=xv:=by rw[N];exact a3
 rw[O,aE,av];have⟨bP,bO,b3,aG,bl,HX,HG,bK⟩:=η8 ax aC J al U hX T a5;have⟨bQ,bR,bW,cc,b4,bZ,b8,bS⟩:=η8 bE aa az be bn aB d O;have⟨b6,bX,ca,aQ,aI,HV,b5,au⟩:=η8 aK aV h.bd bC bH hV FV ao;have bf:=η1 FZ;clear ax aC J al U hX T a5 bE aa az be bn aB d O aK aV bC bH hV FV ao FZ b0 B0 bm b1 B1 aD aF b2 B2 bc bx BX aX h3 aY bt fY kx kp aW BV a6 aN fd bA by_ D hY bk ba bb aZ fZ a7 aq BZ hZ ar h bo N E ab aj a3 R aU a4 aE av;go_in;go_upto_region 1 with fail
 rw[bZ.o,HG.o];go_upto_region 2 with fail
 clear aH aJ ae H aP;have ay:(p.2<0\/16<=p.2\/x.1.am=0\/4611686018427387904<x.1.am)\/¬(p.2<0\/16<=p.2\/x.1.am=0\/4611686018427387904<x.1.am):=Classical.em _
 rcases ay with hA | hA
 focus
  have o:b9M m s p x=(5,m,s):=if_pos hA
  have b7:(decide (p.2<0)=true)\/(decide (p.2<0)=false/\decide (16<=p.2)=true)\/(decide (p.2<0)=false/\decide (16<=p.2)=false/\(x.1.am == 0)=true)\/(decide (p.2<0)=false/\decide (16<=p.2)=false/\(x.1.am == 0)=false/\decide (4611686018427387904<x.1.am)=true):=by
   simp only[decide_eq_true_eq,decide_eq_false_iff_not,beq_iff_eq,beq_eq_false_iff_ne,ne_eq];omega
  have F:=η1 o;clear o hA;clear I y ah
  rcases b7 with d1 | ⟨d1,d2⟩ | ⟨d1,d2,d3⟩ | ⟨d1,d2,d3,d4⟩
  all_goals
   go_wp2;go_ret;rw[F.o];exact⟨rfl,HV.o,b5.o⟩
 have d1:decide (p.2<0)=false:=by simp;omega
 have d2:decide (16<=p.2)=false:=by simp;omega
 have d3:(x.1.am == 0)=false:=by simp;omega
 have d4:decide (4611686018427387904<x.1.am)=false:=by simp;omega
 have o:b9M m s p x=(if(a2E m p).isSome then(24,m,s)else if 64<=m.length then(18,m,s)else if(a5b s x.1.am).2≠0 then((a5b s x.1.am).2,m,s)else(0,m++[(p,x)],(a5b s x.1.am).1)):=if_neg hA;have⟨aR,F⟩:=η2 bX o;clear o hA;go_upto_region 4 with fail
 clear d1 d2 d3 d4 qi qa;refine a0s [(0,3),(1,3),(2,3),(3,0),(4,0),(5,0),(6,3),(7,3),(8,3),(9,1),(10,2),(11,3)] (λW=>a0j W cb b m s/\Blk W g 189 r) ρk ρk ρk ρk (ρy HX.o bP.o) ?_;rw[HX.o];refine ε3 ?_
 iterate 3 refine θ3 (λW' hS=>QU hS.1.q0 (QU (aG.o W' hS.2) (b3.o W' hS.1))) ?_
 refine ε3 ?_;refine κ1 (bO.o) ?_;refine τ1 ?_;refine ε1 ?_;refine ν ?_;clear I y
 cases T:a2E m p with
 |
  some v=>
  have ai:ok=true:=by rw[<-aR.o,T];rfl
  subst ai;have o:=F.o;rw[T]at o;simp only[Option.isSome_some,if_true]at o;have z:=η1 o;clear o;clear T;go_wp2;go_ret;rw[z.o];exact⟨rfl,au.o,bf.o⟩
 |
  none=>
  have ai:ok=false:=by rw[<-aR.o,T];rfl
  subst ai;have o:=F.o;rw[T]at o;simp only[Option.isSome_none,QI,if_false]at o;have q0:=au.q0;have hl:=au.mp.len_ (ty:=3) a8R;have⟨n,hn⟩:=η0 m.length;rw[hn]at hl o;have⟨b9,HN⟩:=η2 T hn;clear T hn
  by_cases bp:64<=n
  ·have bI:(64:Int)<=(n:Int):=ρo
   rw[if_pos bp]at o;have z:=η1 o;clear o;go_wp2;go_ret;rw[z.o];exact⟨rfl,au.o,bf.o⟩
  have bI:¬(64:Int)<=(n:Int):=ρo;rw[if_neg bp]at o;go_upto_region 9 with fail
  clear hl q0;refine a0s [(0,3),(1,3),(2,3),(4,3),(5,3),(3,0),(6,0),(7,2),(8,3),(9,3),(10,3),(11,3),(12,3)] (λW=>W.cell? ⟨cb,1,none⟩=some (.int .u64 s)/\W.cell? ⟨g+3,32,none⟩=some (.int .u64 x.1.am)) ρk ρk ρk ρk (ρy bK.o bQ.o) ?_;rw[bK.o];refine ε5 ?_
  iterate 2 refine θ2 (λW' hS=>QU hS.1 hS.2) ?_
  refine τ ?_;intro K hK;refine μ1 ah ?_;rintro e w4 ⟨rfl,ac⟩;with_reducible refine hK _ _ ?_;clear hK K
  refine ε5 ?_;refine ν ?_;clear ah;have bN:=bR.below ac;have bs:=φf bW ac;have bM:=φf cc ac;have bi:=φt b4 ac;have ak:=aQ.o;have af:=aI.o;have F4:Fr (λk=>k=cb\/k=b) w w4:=(Q9 bi).mono (λk hk e=>ρo);have⟨bw,bJ,bu,br⟩:=η4 bN bs bM F4;clear bN bs bM F4 ac bi ak af
  generalize ce:a5b s x.1.am=ad at o⊢
  obtain⟨a1,a2⟩:=ad;simp only at o⊢
  by_cases an:a2=0
  ·rw[if_neg (ρw an)]at o
   subst an;have z:=η1 o;clear o;have Q:Fr (λ_=>False) w4 w4.drew:=(Qp _ _).drew;have⟨Z5,a8⟩:=η0 w4.drew;rw[a8]at Q;have S:=bw.fr Q (λe=>e) (λe=>e);have a9:=bu.fr Q (λe=>e);have a0:=bJ.fr Q (λe=>e);have bj:Z5.cell? ⟨cb,0,none⟩=some (.map (some b))/\Blk Z5 g 189 r/\Blk Z5 (g+3) 208 xv:=⟨S.q0,a9,a0⟩;obtain⟨st,Z6,Z7,bg,bz,bB,ag,bL,bD,bh⟩:=S.mp.entry a8R (a:=p) f x (d1K Z5) b9.o;have ak:=aQ.o;have af:=aI.o;have bU:=HG.o;have aA:=S.ne;have aT:Fr (λk=>k=b) Z5 Z7:=ag.trans bL (λ_ _ e=>e);have k7:=S.st.fr aT (λe=>aA e.symm);have q7:Z7.cell? ⟨cb,1,none⟩=some (.int .u64 s):=k7.cell 1;have z7:=k7.frozen 1;have k8:Blk (Z7.setCell ⟨cb,1,none⟩ (.int .u64 a1)) cb 166 #[.map (some b),.int .u64 a1]:=by simpa using k7.set_ 1 (.int .u64 a1)
   have aS:Fr (λk=>k=cb) Z7 (Z7.setCell ⟨cb,1,none⟩ (.int .u64 a1)):=(Qp (λk=>k=cb) Z7).setCell (p:=⟨cb,1,none⟩) (λ_=>rfl) _
   have aO:a0j (Z7.setCell ⟨cb,1,none⟩ (.int .u64 a1)) cb b (m++[(p,x)]) a1:=⟨k8,bB.fr aS aA,λq hq=>by
    rcases Qq.1 hq with h1 | h1
    ·exact ca.o q h1
    rw[Qn.1 h1];exact b8.o⟩
   have F8:Fr (λk=>k=cb\/k=b) w (Z7.setCell ⟨cb,1,none⟩ (.int .u64 a1)):=((br.trans Q (λ_ _ e=>e.elim)).trans aT (λk hk e=>.inr e)).trans aS (λk hk e=>.inl e);have bG:Z6.cell? ⟨cb,0,none⟩=some (.map (some b))/\Blk Z6 g 189 r/\Blk Z6 (g+3) 208 xv:=⟨(S.st.fr ag (λe=>aA e.symm)).cell 0,a9.fr ag (show¬_=_ by omega),a0.fr ag (show¬_=_ by omega)⟩;have aM:(Instr.mapEntry 164 (.map (some b)) (.agg r)).run prog Z5=.ok (.tuple #[.agg (a4V a6q).toArray,.int .i64 st]) Z6:=by rw[<-bS.o];exact bg
   have bq:(Instr.entryStore 164 (.map (some b)) (.int .i64 st) (.agg xv)).run prog Z6=.ok () Z7:=by rw[<-b6.o];exact bz
   have⟨cf,aL⟩:=η0 ((a4V a6q).toArray);rw[aL]at aM;have⟨bv,bY,bV,bF,bT⟩:=η5 aO F8 bj a8 bG;clear aO F8 bj a8 bG S a9 a0 Q bg bz bB ag bL bD bh aA aT k7 k8 aS aL ak af bU;go_upto_region 11 with fail
   refine a0s [(0,3),(1,3),(2,3),(5,3),(7,3),(3,0),(4,0),(6,0),(8,1),(9,3),(10,2),(11,3),(12,3),(13,2)] (λW=>W.cell? ⟨cb,0,none⟩=some (.map (some b))/\Blk W g 189 r/\Blk W (g+3) 208 xv) ρk ρk ρk ρk (ρy bF.o bV.o) ?_;rw[bF.o];refine ε5 ?_
   iterate 3 refine θ3 (λW' hS=>QU hS.1 (QU (aG.o W' hS.2.1) (bl.o W' hS.2.2))) ?_
   refine κ1 (bT.o) ?_;refine ε1 ?_;refine τ1 ?_;refine ε2 ?_;refine τ1 ?_;refine ν ?_;clear aM bq z7 q7;go_wp2;go_ret;rw[z.o];exact⟨rfl,bv.o,bY.o⟩
  have cd:(a2 != 0)=true:=ρw an;rw[if_pos (ρw an)]at o;have z:=η1 o;clear o an;go_wp2;go_ret;rw[z.o];exact⟨rfl,bw.o,br.o⟩
end
section
abbrev b5C:=bdOf 163
attribute [local go_sem ↓] b5C
theorem a9h(cb a:Nat)(m:List (Pt×a1q))(s:Int)(w:WD)(h:a0i w cb a m s):Calls prog 83 #[.pointer cb] w λe w'=>e=.returned (.pointer (w.heap.size+1:Nat))/\a0i w' (w.heap.size+1) w.heap.size m s/\Below w w w'/\w'.heap.size=w.heap.size+2:=by
 have I:Fr (λ_=>False) w w.drew:=(Qp _ _).drew;have⟨X,J⟩:=η0 w.drew;rw[J]at I;have z:X.heap.size=w.heap.size:=by rw[<-J];rfl
 have r:=h.fr I id id;have H:=h.bd;obtain⟨E,c,F,o,S⟩:=r.mp.clone;have j:=d1u a E c X F;have B:=ρb X (.map E c);have x:=r.below B;have p:X.cell? ⟨cb,0,none⟩=some (.map (some a))/\X.cell? ⟨cb,1,none⟩=some (.int .u64 s):=⟨r.q0,r.q1⟩;have b:(X.alloc (.map E c)).cell? ⟨cb,0,none⟩=some (.map (some a))/\(X.alloc (.map E c)).cell? ⟨cb,1,none⟩=some (.int .u64 s):=⟨x.q0,x.q1⟩;have⟨V,N⟩:=η0 (X.alloc (.map E c));have d:V.heap.size=w.heap.size+1:=by rw[<-N,Qi,z]
 rw[N]at o B b;rw[z]at o B j;simp only[N]at j;have R:=Qd V 163 #[.map (some w.heap.size),.int .u64 s];have Y:Below w w (V.alloc (.cells #[.map (some w.heap.size),.int .u64 s] 163)):=((I.below (Qg _) (λ_ _=>id)).trans B).alloc ρo _;have G:=o.fr (Q9 ((Qf _ V).alloc (Qg _) (.cells #[.map (some w.heap.size),.int .u64 s] 163))) ρo;have y:(V.alloc (.cells #[.map (some w.heap.size),.int .u64 s] 163)).heap.size=w.heap.size+2:=by simp[d]
 have v:∀W:WD,(BDs 163 #[(0,.map (some w.heap.size)),(1,.int .u64 s)]).run prog W=.ok (.agg #[.map (some w.heap.size),.int .u64 s]) W:=λW=>run_build W _ _ _ ρk
 rw[d]at R;have f:a0i (V.alloc (.cells #[.map (some w.heap.size),.int .u64 s] 163)) (w.heap.size+1) w.heap.size m s:=⟨R,G,H⟩
 generalize hg:w.heap.size=g at f Y y j v d⊢
 have⟨Q,P,D,U,T,HX,O⟩:=η7 p b f Y y J d;clear p b f Y y J d r x o S G R B I z H h F N hg;go_in;go_upto_region 1 with fail
 refine a0s [(0,3),(1,3),(2,3),(5,3),(6,3),(7,3),(3,0),(8,0),(4,1),(9,3),(10,2),(11,3)] (λW=>W.cell? ⟨cb,0,none⟩=some (.map (some a))/\W.cell? ⟨cb,1,none⟩=some (.int .u64 s)) ρk ρk ρk ρk (ρy HX.o Q.o) ?_;rw[HX.o];refine ε6 ?_
 iterate 2 refine θ2 (λW' r=>QU r.1 r.2) ?_
 refine κ ?_;intro K Z;refine μf j ?_;with_reducible refine Z _ _ (P.o) ?_;clear Z K
 have hb:=v;refine ε1 ?_;refine τ1 ?_;refine ε1 ?_;refine ν ?_;clear hb v j;go_wp2;go_ret;exact⟨by rw[O.o];rfl,D.o,U.o,T.o⟩
abbrev b6s:=bdOf 166
attribute [local go_sem ↓] b6s
theorem b9y(cb a:Nat)(m:List (Pt×a1J))(s:Int)(w:WD)(h:a0j w cb a m s):Calls prog 84 #[.pointer cb] w λe w'=>e=.returned (.pointer (w.heap.size+1:Nat))/\a0j w' (w.heap.size+1) w.heap.size m s/\Below w w w'/\w'.heap.size=w.heap.size+2:=by
 have I:Fr (λ_=>False) w w.drew:=(Qp _ _).drew;have⟨X,J⟩:=η0 w.drew;rw[J]at I;have z:X.heap.size=w.heap.size:=by rw[<-J];rfl
 have r:=h.fr I id id;have H:=h.bd;obtain⟨E,c,F,o,S⟩:=r.mp.clone;have j:=c9W a E c X F;have B:=ρb X (.map E c);have x:=r.below B;have p:X.cell? ⟨cb,0,none⟩=some (.map (some a))/\X.cell? ⟨cb,1,none⟩=some (.int .u64 s):=⟨r.q0,r.q1⟩;have b:(X.alloc (.map E c)).cell? ⟨cb,0,none⟩=some (.map (some a))/\(X.alloc (.map E c)).cell? ⟨cb,1,none⟩=some (.int .u64 s):=⟨x.q0,x.q1⟩;have⟨V,N⟩:=η0 (X.alloc (.map E c));have d:V.heap.size=w.heap.size+1:=by rw[<-N,Qi,z]
 rw[N]at o B b;rw[z]at o B j;simp only[N]at j;have R:=Qd V 166 #[.map (some w.heap.size),.int .u64 s];have Y:Below w w (V.alloc (.cells #[.map (some w.heap.size),.int .u64 s] 166)):=((I.below (Qg _) (λ_ _=>id)).trans B).alloc ρo _;have G:=o.fr (Q9 ((Qf _ V).alloc (Qg _) (.cells #[.map (some w.heap.size),.int .u64 s] 166))) ρo;have y:(V.alloc (.cells #[.map (some w.heap.size),.int .u64 s] 166)).heap.size=w.heap.size+2:=by simp[d]
 have v:∀W:WD,(BDs 166 #[(0,.map (some w.heap.size)),(1,.int .u64 s)]).run prog W=.ok (.agg #[.map (some w.heap.size),.int .u64 s]) W:=λW=>run_build W _ _ _ ρk
 rw[d]at R;have f:a0j (V.alloc (.cells #[.map (some w.heap.size),.int .u64 s] 166)) (w.heap.size+1) w.heap.size m s:=⟨R,G,H⟩
 generalize hg:w.heap.size=g at f Y y j v d⊢
 have⟨Q,P,D,U,T,HX,O⟩:=η7 p b f Y y J d;clear p b f Y y J d r x o S G R B I z H h F N hg;go_in;go_upto_region 1 with fail
 refine a0s [(0,3),(1,3),(2,3),(5,3),(6,3),(7,3),(3,0),(8,0),(4,1),(9,3),(10,2),(11,3)] (λW=>W.cell? ⟨cb,0,none⟩=some (.map (some a))/\W.cell? ⟨cb,1,none⟩=some (.int .u64 s)) ρk ρk ρk ρk (ρy HX.o Q.o) ?_;rw[HX.o];refine ε6 ?_
 iterate 2 refine θ2 (λW' r=>QU r.1 r.2) ?_
 refine κ ?_;intro K Z;refine μf j ?_;with_reducible refine Z _ _ (P.o) ?_;clear Z K
 have hb:=v;refine ε1 ?_;refine τ1 ?_;refine ε1 ?_;refine ν ?_;clear hb v j;go_wp2;go_ret;exact⟨by rw[O.o];rfl,D.o,U.o,T.o⟩
end
abbrev Ke:=Int×LI
def keL(part:Int)(id:LI):LV:=.int .i64 part::bys id
theorem a6m(b:id.length=32)(a:Int):(keL a id).length=33:=by simp[keL,a0a,b]
theorem a7K(a:Int)(id:LI):∀v∈keL a id,v.oneCell'=true:=by
 intro v b
 rcases Qo.1 b with h | h
 ·subst h;rfl
 exact a0h _ v h
theorem d2Q:∃f0 f1:Field,prog.underlying 212=some (.struct #[f0,f1])∧f0.type=3∧f1.type=31∧f0.offset=0∧f1.offset=1∧f0.name≠ "_" ∧f1.name≠ "_" :=
 ⟨_,_,Tryz.underlying212,rfl,rfl,rfl,rfl,by decide,by decide⟩
theorem cKe:prog.cellsOf 212=33:=ρk
theorem d2H:Go.WideMaps.KeyLaw prog 212:=deep_law_laid ρk (m:=4) ρo (of_decide_eq_true ρk) ρk (by obtain⟨f0,f1,h,_⟩:=d2Q;rw[h])
structure b2y(p:Ke):Prop where
 pt:-9223372036854775808<=p.1/\p.1<=9223372036854775807
 len:p.2.length=32
 id:∀x∈p.2,0<=x/\x<=255
theorem b2y.key{p:Ke}(h:b2y p):∃l,keyOf prog 212 (.agg (keL p.1 p.2).toArray)=some l:=by
 obtain⟨a,id⟩:=p;obtain⟨g,b,f⟩:=h;simp only at g b f⊢;obtain⟨B,D,d,t0,t1,y,v,r,z⟩:=d2Q;have j:prog.keyType 212=true:=ρk;obtain⟨m,x⟩:∃m,prog.types.size=m+2:=⟨prog.types.size-2,by have:2<=prog.types.size:=of_decide_eq_true ρk;omega⟩;unfold keyOf;simp only[d];rw[if_pos (by rw[j];simp[Value.formed,d,cKe,a6m b]),x];unfold Program.keyLits;simp only[d,Value.cells];have w:((keL a id).drop 0).take 1=[.int .i64 a]:=by simp[keL]
 have o:((keL a id).drop 1).take 32=bys id:=by
  unfold keL;rw[ZQ,Zs,Qb (by rw[a0a];omega)]
 rw[if_pos ⟨by rw[cKe];exact a6m b a,by simp[r,z]⟩];rw[Zg,Zg,List.mapM_nil,t0,t1,y,v,cId,d1H,w,o,a6a _ b f,a4t _ g]
 simp
theorem c8V{p q:Ke}(h:keL p.1 p.2=keL q.1 q.2):p=q:=by
 unfold keL at h;simp only[List.cons.injEq,Value.int.injEq,true_and]at h
 have e:p.2=q.2:=by
  have:=h.2
  unfold bys at this;exact(List.map_inj_right (λa b h=>by simpa using h)).1 this
 exact Prod.ext h.1 e
def keE:Enc Ke where
 k:=212
 e:=λp=>keL p.1 p.2
 ok:=b2y
 law:=d2H
 key:=λ_ h=>h.key
 inj:=λa b _ _ h=>c8V h
theorem d3N:(((prog.info? 212).bind (·.zero)).map (·.cells.size))=some (1+32):=ρk
abbrev c1a:=bdOf 212
theorem d3e(b:id.length=32)(a:Int)(w:WD):(BDs 212 #[(0,.int .i64 a),(1,.agg (bys id).toArray)]).run prog w=.ok (.agg (keL a id).toArray) w:=by
 obtain⟨m,j,g,t0,t1,d,f,_,_⟩:=d2Q
 have:=b7T (P:=prog) g d3N (ρy t0 d0b) (ρy t1 iId) d f w (.int .i64 a) (.agg (bys id).toArray) rfl (by simp[Value.cells,a0a,b])
 rw[this];simp[Value.cells,keL]
structure MkD where
 c:a0y
 A:OA
 cap:Nat
 ex:Int
def mkV(x:MkD):LV:=a0d x.c x.A x.cap++[.int .i64 x.ex]
theorem a3i{x:MkD}(h:x.c.Bd):(mkV x).length=138:=by simp[mkV,a0l h]
theorem a7Q(x:MkD):∀v∈mkV x,v.oneCell'=true:=by
 intro v a
 rcases Qq.1 a with h | h
 ·exact a2C _ _ _ v h
 simp only[Qn]at h;subst h;rfl
structure a7b(w:WD)(N:List Nat)(x:MkD):Prop where
 bd:x.c.Bd
 path:RdR 32 w x.A (x.c.path.map bys)
 cap:x.c.path.length<=x.cap
 nil:x.A=none->x.cap=0
 far:∀a,x.A=some a->a.block<w.heap.size/\a.block ∉ N
 ex:-9223372036854775808<=x.ex/\x.ex<=9223372036854775807
 len:x.c.path.length<=32
theorem a7b.fr{b:WD}{x:MkD}{F:Nat->Prop}(h:a7b w N x)(d:Fr F w b)(f:∀k,F k->k∈N):a7b b N x:=
 ⟨h.bd,h.path.frY d (λa ha hF=>(h.far a ha).2 (f _ hF)),h.cap,h.nil,λa ha=>⟨Qh (h.far a ha).1 d.size,(h.far a ha).2⟩,h.ex,h.len⟩
theorem a7b.below{w b:WD}{N:List Nat}{x:MkD}(h:a7b w N x)(d:Below w w b):a7b b N x:=
 ⟨h.bd,h.path.below d,h.cap,h.nil,λa ha=>⟨Qh (h.far a ha).1 d.size,(h.far a ha).2⟩,h.ex,h.len⟩
theorem a7b.far_{b:List Nat}{x:MkD}(h:a7b w N x)(d:∀k,k<w.heap.size->k∈b->k∈N):a7b w b x:=
 ⟨h.bd,h.path,h.cap,h.nil,λa ha=>⟨(h.far a ha).1,λhk=>(h.far a ha).2 (d _ (h.far a ha).1 hk)⟩,h.ex,h.len⟩
structure a0z(w:WD)(kb mb:Nat)(N:List Nat)(m:List (Ke×MkD)):Prop where
 st:Blk w kb 169 #[.map (some mb)]
 mp:a4o keE mkV w mb m
 bd:∀p∈m,a7b w N p.2
theorem a0z.fr{w d:WD}{kb a:Nat}{N:List Nat}{m:List (Ke×MkD)}{F:Nat->Prop}(h:a0z w kb a N m)(b:Fr F w d)(f:¬F kb)(g:¬F a)(j:∀k,F k->k∈N):a0z d kb a N m:=
 ⟨h.st.fr b f,h.mp.fr b g,λp hp=>(h.bd p hp).fr b j⟩
theorem a0z.below{w b:WD}{kb d:Nat}{N:List Nat}{m:List (Ke×MkD)}(h:a0z w kb d N m)(a:Below w w b):a0z b kb d N m:=
 ⟨h.st.fr (Q9 a) (ρh h.st.lt),h.mp.fr (Q9 a) (ρh h.mp.lt),λp hp=>(h.bd p hp).below a⟩
theorem a0z.far_{w:WD}{kb a:Nat}{N b:List Nat}{m:List (Ke×MkD)}(h:a0z w kb a N m)(d:∀k,k<w.heap.size->k∈b->k∈N):a0z w kb a b m:=
 ⟨h.st,h.mp,λp hp=>(h.bd p hp).far_ d⟩
theorem a0z.ne{a:Nat}{m:List (Ke×MkD)}(h:a0z w kb a N m):a≠kb:=h.mp.ne_blk h.st
theorem a0z.q0{a:Nat}{m:List (Ke×MkD)}(h:a0z w kb a N m):w.cell? ⟨kb,0,none⟩=some (.map (some a)):=h.st.cell 0
def a4n:MkD:=⟨a0r,none,0,0⟩
def a2Q(m:List (Ke×MkD))(k:Ke):MkD:=(a2E m k).getD a4n
theorem c0C(w:WD)(N:List Nat):a7b w N a4n:=⟨a0B,RdR.nil _ _ _,Zu _,λ_=>rfl,λa ha=>(by cases ha),(by simp[a4n]),(by simp[a4n,a0r])⟩
theorem a6b{m:List (Ke×MkD)}(h:∀p∈m,a7b w N p.2)(k:Ke):a7b w N (a2Q m k):=by
 unfold a2Q
 cases hg:a2E m k with
 | none=>exact c0C w N
 | some v=>exact h _ (a6T hg)
theorem zMk(w:WD):(zeroValue 214).run prog w=.ok (.agg (mkV a4n).toArray) w:=ρk
theorem a0z.look{m:List (Ke×MkD)}(h:a0z w kb b N m){k:Ke}(d:b2y k):(Instr.lookup 167 (.map (some b)) (.agg (keL k.1 k.2).toArray) true).run prog w=.ok (.tuple #[.agg (mkV (a2Q m k)).toArray,.bool (a2E m k).isSome]) w:=by
 unfold a2Q
 cases hg:a2E m k with
 | none=>exact h.mp.look_out b0F (a:=k) d (zMk w) hg true
 | some v=>exact h.mp.look_in b0F (a:=k) hg true
section
theorem c0N(N:List Nat)(w:WD):Calls prog 30 #[] w λe w'=>e=.returned (.pointer (w.heap.size+1:Nat))/\a0z w' (w.heap.size+1) w.heap.size N []/\Below w w w'/\w'.heap.size=w.heap.size+2:=by
 have m:a4o keE mkV (w.alloc (.map #[] 0)) w.heap.size []:=a4o.new w;have f:=ρb w (.map #[] 0);have o:=f.alloc f.size (.cells #[.map (some w.heap.size)] 169);have d:=Qd (w.alloc (.map #[] 0)) 169 #[.map (some w.heap.size)];rw[Qi]at d;have j:=m.fr (Q9 ((Qf _ (w.alloc (.map #[] 0))).alloc (Qg _) (.cells #[.map (some w.heap.size)] 169))) ρp;have a:a0z ((w.alloc (.map #[] 0)).alloc (.cells #[.map (some w.heap.size)] 169)) (w.heap.size+1) w.heap.size N []:=⟨d,j,by simp⟩;have⟨b,g⟩:=η2 a o;have p:=run_makeMap (P:=prog) (t:=167) w;clear a o d j m f;go_in;go_wp2;go_ret;exact⟨by simp,b.o,g.o,by simp⟩
theorem c1b(kb a:Nat)(N:List Nat)(m:List (Ke×MkD))(w:WD)(h:a0z w kb a N m):Calls prog 211 #[.pointer kb] w λe w'=>e=.returned (.int .i64 (m.length:Int))/\w=w':=by
 have q0:=h.q0;have b:=h.mp.len_ (ty:=3) b0F
 generalize d:m.length=n at b⊢
 clear h d;go_in;go_wp2;go_ret;exact⟨rfl,rfl⟩
abbrev b6i:=bdOf 169
attribute [local go_sem ↓] b6i
theorem b9h(kb a:Nat)(N:List Nat)(m:List (Ke×MkD))(w:WD)(h:a0z w kb a N m):Calls prog 85 #[.pointer kb] w λe w'=>e=.returned (.pointer (w.heap.size+1:Nat))/\a0z w' (w.heap.size+1) w.heap.size N m/\Below w w w'/\w'.heap.size=w.heap.size+2:=by
 have R:=h.q0;have z:=h.bd;obtain⟨G,c,x,r,I⟩:=h.mp.clone;have f:=d1s a G c w x;have F:=ρb w (.map G c);have⟨V,B⟩:=η0 (w.alloc (.map G c));have b:V.heap.size=w.heap.size+1:=by rw[<-B,Qi]
 rw[B]at r F;simp only[B]at f;have H:=Qd V 169 #[.map (some w.heap.size)];have D:Below w w (V.alloc (.cells #[.map (some w.heap.size)] 169)):=F.alloc ρo _;have y:=r.fr (Q9 ((Qf _ V).alloc (Qg _) (.cells #[.map (some w.heap.size)] 169))) ρo;have o:(V.alloc (.cells #[.map (some w.heap.size)] 169)).heap.size=w.heap.size+2:=by simp[b]
 have j:∀W:WD,(BDs 169 #[(0,.map (some w.heap.size))]).run prog W=.ok (.agg #[.map (some w.heap.size)]) W:=λW=>run_build W _ _ _ ρk
 rw[b]at H;have d:a0z (V.alloc (.cells #[.map (some w.heap.size)] 169)) (w.heap.size+1) w.heap.size N m:=⟨H,y,λp Q=>(z p Q).below D⟩
 generalize P:w.heap.size=g at d D o f j b⊢
 have⟨v,K,J,E⟩:=η4 d D o b;clear d D o b r I y H F z h x B P;go_in;go_wp2_with fail;refine μf f ?_;have O:=j;go_wp2_with fail;clear O j f;go_ret;exact⟨by rw[E.o];rfl,v.o,K.o,J.o⟩
def b9u(n:Int):Bool:=decide (0<=n/\n<=1099511627776)
theorem a7M(n:Int)(w:WD):Calls prog 223 #[.int .i64 n] w λe w'=>e=.returned (.bool (b9u n))/\w=w':=by
 have d:(decide (0<=n)=true/\decide (n<=1099511627776)=true/\b9u n=true)\/(decide (0<=n)=true/\decide (n<=1099511627776)=false/\b9u n=false)\/(decide (0<=n)=false/\b9u n=false):=by
  unfold b9u;simp only[decide_eq_true_eq,decide_eq_false_iff_not];omega
 rcases d with⟨b,f,a⟩ | ⟨b,f,a⟩ | ⟨b,a⟩
 all_goals
  rw[a];clear a;go_in;go_wp2;go_ret;exact⟨rfl,rfl⟩
def b9d(ex ep:Int):Bool:=b9u ex&&b9u ep&&decide (ex+2<ep)
theorem b3K(ex ep:Int)(w:WD):Calls prog 165 #[.int .i64 ex,.int .i64 ep] w λe w'=>e=.returned (.bool (b9d ex ep))/\w=w':=by
 have d:=a7M ex w;have f:=a7M ep w;have⟨b1,a⟩:=η0 (b9u ex);have⟨m,b⟩:=η0 (b9u ep);have j:b9d ex ep=(b1&&m&&decide (ex+2<ep)):=by unfold b9d;rw[a,b]
 rw[j];rw[a]at d;rw[b]at f
 have g:b1=true->IntKind.i64.wrap (ex+2)=ex+2:=by
  rintro rfl;unfold b9u at a;simp only[decide_eq_true_eq]at a;rw[IntKind.wrap_i64];omega
 clear a b j
 cases b1 with
 |
  false=>
  clear g;go_in;go_wp2_with fail;refine μf d ?_;go_wp2;go_ret;exact⟨rfl,rfl⟩
 |
  true=>
  have o:=g rfl;clear g
  cases m with
  |
   false=>
   go_in;go_wp2_with fail;refine μf d ?_;go_wp2_with fail;refine μf f ?_;go_wp2;go_ret;exact⟨rfl,rfl⟩
  |
   true=>
   go_in;go_wp2_with fail;refine μf d ?_;go_wp2_with fail;refine μf f ?_;go_wp2;go_ret;exact⟨rfl,rfl⟩
end
section
structure a4k{α:Type}(f:α->α->Int):Prop where
 refl:∀x,f x x=0
 anti:∀x y,f x y<0↔0<f y x
 tr:∀x y z,f x y<=0->f y z<=0->f x z<=0
section
variable {α β:Type} {f:α->α->Int} {g:β->β->Int}
theorem a4k.sw(h:a4k f){x y:α}(a:f x y=0):f y x=0:=by
 have b:=h.anti x y;have d:=h.anti y x;omega
theorem a4k.le_lt(h:a4k f){x y z:α}(a:f x y<=0)(b:f y z<0):f x z<0:=by
 have d:=h.tr x y z a ρo
 rcases Int.lt_or_eq_of_le d with e | e
 ·exact e
 have m:=h.sw e;have g:=h.tr z x y ρo a;have j:=(h.anti y z).1 b;omega
theorem a4k.lt_le(h:a4k f){x y z:α}(b:f x y<0)(a:f y z<=0):f x z<0:=by
 have d:=h.tr x y z ρo a
 rcases Int.lt_or_eq_of_le d with e | e
 ·exact e
 have m:=h.sw e;have g:=h.tr y z x a ρo;have j:=(h.anti x y).1 b;omega
theorem a4k.swo(h:a4k f):Go.Sort.SWO (ltOf f) where
 irrefl:=λx=>by simp[ltOf,h.refl]
 trans:=λx y z h1 h2=>by
  simp only[ltOf,decide_eq_true_eq]at h1 h2⊢;exact h.lt_le h1 ρo
 ntrans:=λx y z h1 h2=>by
  simp only[ltOf,decide_eq_false_iff_not,Int.not_lt]at h1 h2⊢;have a1:=h.anti x y;have a2:=h.anti y z;have a3:=h.anti x z
  have:=h.tr z y x ρo ρo
  omega
theorem a4k.lex(a:a4k f)(b:a4k g):a4k (λ(x y:α×β)=>if f x.1 y.1≠0 then f x.1 y.1 else g x.2 y.2) where
 refl:=λx=>by simp[a.refl,b.refl]
 anti:=λx y=>by
  have a1:=a.anti x.1 y.1;have a2:=a.anti y.1 x.1;have b1:=b.anti x.2 y.2
  by_cases h:f x.1 y.1=0
  ·have h':=a.sw h
   simp only[h,h',ne_eq,not_true_eq_false,if_false];exact b1
  have h':f y.1 x.1≠0:=λe=>h (a.sw e)
  rw[if_pos h,if_pos h'];exact a1
 tr:=λx y z h1 h2=>by
  by_cases e1:f x.1 y.1=0
  ·simp only[e1,ne_eq,not_true_eq_false,if_false]at h1
   by_cases e2:f y.1 z.1=0
   ·simp only[e2,ne_eq,not_true_eq_false,if_false]at h2
    have t1:=a.tr x.1 y.1 z.1 ρo ρo;have t2:=a.tr z.1 y.1 x.1 (by rw[a.sw e2];omega) (by rw[a.sw e1];omega);have a1:=a.anti z.1 x.1;have a2:=a.anti x.1 z.1;rw[if_neg ρo];exact b.tr _ _ _ h1 h2
   rw[if_pos e2]at h2
   have:=a.le_lt (x:=x.1) (y:=y.1) (z:=z.1) ρo ρo
   rw[if_pos ρo];omega
  rw[if_pos e1]at h1
  have h2':f y.1 z.1<=0:=by
   by_cases e2:f y.1 z.1=0
   ·omega
   rw[if_pos e2]at h2;exact h2
  have:=a.lt_le (x:=x.1) (y:=y.1) (z:=z.1) ρo h2'
  rw[if_pos ρo];omega
theorem a4k.comp{γ:Type}(h:a4k f)(k:γ->α):a4k (λx y=>f (k x) (k y)):=⟨λx=>h.refl _,λx y=>h.anti _ _,λx y z=>h.tr _ _ _⟩
end
def b7z(a b:Int):Int:=if a<b then-1 else if b<a then 1 else 0
theorem c3b:a4k b7z where
 refl:=λx=>by simp[b7z]
 anti:=λx y=>by unfold b7z;split<;>split<;>(try split)<;>omega
 tr:=λx y z=>by
  unfold b7z
  repeat' split
  all_goals omega
theorem c4g:a4k Lib.compareBytes where
 refl:=λx=>by
  induction x with
  | nil=>rfl
  | cons a l ih=>simp[Lib.compareBytes,ih]
 anti:=λx=>by
  induction x with
  | nil=>intro y;cases y<;>simp[Lib.compareBytes]
  |
   cons a l ih=>
   intro y
   cases y with
   | nil=>simp[Lib.compareBytes]
   |
    cons b m=>
    simp only[Lib.compareBytes,UInt8.lt_iff_toNat_lt]
    have:=ih m
    split<;>split<;>(try split)<;>omega
 tr:=λx=>by
  induction x with
  | nil=>intro y z _ _;cases z<;>simp[Lib.compareBytes]
  |
   cons a l ih=>
   intro y z
   cases y with
   | nil=>simp[Lib.compareBytes]
   |
    cons b m=>
    cases z with
    | nil=>simp[Lib.compareBytes]
    |
     cons c n=>
     simp only[Lib.compareBytes,UInt8.lt_iff_toNat_lt]
     have:=ih m n
     repeat' split
     all_goals omega
def c5d(a b:LI):Int:=Lib.compareBytes (Lib.bytesOf a) (Lib.bytesOf b)
theorem c1R:a4k c5d:=c4g.comp Lib.bytesOf
def a5t(x y:Pt):Int:=if c5d x.1 y.1≠0 then c5d x.1 y.1 else b7z x.2 y.2
theorem a6o:a4k a5t:=c1R.lex c3b
def a6w(x y:Ke):Int:=if b7z x.1 y.1≠0 then b7z x.1 y.1 else c5d x.2 y.2
theorem a7f:a4k a6w:=c3b.lex c1R
theorem b4s(a:Int)(w:WD):Calls prog 235 #[.int .i64 a] w λe w'=>e=.returned (.bool false)/\w=w':=by
 have b:(a != a)=false:=by simp
 go_in;go_wp2;go_ret;exact⟨rfl,rfl⟩
theorem b8c(a b:Int)(w:WD):Calls prog 181 #[.int .i64 a,.int .i64 b] w λe w'=>e=.returned (.int .i64 (b7z a b))/\w=w':=by
 generalize d:b7z a b=q
 unfold b7z at d;have j:=b4s a w;have m:=b4s b w;go_in;go_wp2_with fail;refine μf j ?_;go_wp2_with fail;refine μf m ?_
 by_cases g:a<b
 ·rw[if_pos g]at d
  subst d;go_wp2;go_ret;exact⟨rfl,rfl⟩
 rw[if_neg g]at d
 by_cases f:b<a
 ·rw[if_pos f]at d
  subst d;go_wp2;go_ret;exact⟨rfl,rfl⟩
 rw[if_neg f]at d;subst d;go_wp2;go_ret;exact⟨rfl,rfl⟩
theorem b5w(g:Nat)(x y:Int)(w:WD)(h:Blk w g 3 #[.int .i64 x,.int .i64 y]):Calls prog 179 #[.slice g 2 2] w λe w'=>e=.returned (.int .i64 (if x≠0 then x else y))/\w=w':=by
 generalize f:(if x≠0 then x else y)=q
 have z:w.cell? ⟨g,0,none⟩=some (.int .i64 x):=h.cell 0;have v:w.cell? ⟨g,1,none⟩=some (.int .i64 y):=h.cell 1;clear h;go_in;go_upto_region 3 with fail
 go_loopg [5,8] 2 (λr _ s wr=>∃i:Nat,i+r=2/\s=.int .i64 i/\w=wr/\(1<=i->x=0)/\(2<=i->y=0));exact⟨0,by omega,rfl,rfl,λh=>ρo,λh=>ρo⟩;obtain⟨i,hi,rfl,rfl,d,j⟩:=hrel;have o:i=0\/i=1\/i=2:=ρo
 rcases o with rfl | rfl | rfl
 ·by_cases a:x=0
  ·have p:(x != 0)=false:=ρw a
   clear d j;go_wp2;go_roundg 1;exact⟨1,by omega,by go_num,rfl,λ_=>a,λh=>ρo⟩;omega
  have p:(x != 0)=true:=ρw a;rw[if_pos a]at f;subst f;clear a d j;go_wp2;go_ret;exact⟨rfl,rfl⟩
 ·have a:=d ρo
  rw[if_neg (by simp[a])]at f
  by_cases b:y=0
  ·have p:(y != 0)=false:=ρw b
   have m:=η1 a;clear d j a;go_wp2;go_roundg 0;exact⟨2,by omega,by go_num,rfl,λ_=>m.o,λ_=>b⟩;omega
  have p:(y != 0)=true:=ρw b;subst f;clear b d j a;go_wp2;go_ret;exact⟨rfl,rfl⟩
 have a:=d ρo;have b:=j ρo;rw[if_neg (by simp[a]),b]at f;subst f;clear a b d j;go_wp2;go_ret;exact⟨rfl,rfl⟩
theorem b2L(w:WD)(A B:OA)(n m c d:Nat)(a b:LI)(r:Byt w A a)(v:Byt w B b)(f:n=a.length)(p:m=b.length)(y:0<a.length)(z:0<b.length):(Extern.BytealgCompare.compare #[.slice A n c,.slice B m d]).run prog w=.ok (.int .i64 (c5d a b)) w:=by
 obtain⟨g,o,rfl,_,I⟩:=r.cell y;obtain⟨G,F,rfl,_,J⟩:=v.cell z;have e:∀(g o j:Nat),(⟨g,o,none⟩:Addr).add j=⟨g,o+j,none⟩:=λg o j=>by unfold Addr.add;split<;>simp_all
 have E:=Lib.run_loadBytesX (P:=prog) w a ⟨g,o,none⟩ .empty (λj x D=>by rw[e];exact I j x D);have l2:=Lib.run_loadBytesX (P:=prog) w b ⟨G,F,none⟩ .empty (λj x D=>by rw[e];exact J j x D)
 have H:∀l:LI,(⟨ByteArray.empty.data++(Lib.bytesOf l).toArray⟩:ByteArray)=⟨(Lib.bytesOf l).toArray⟩:=λl=>by
  apply ByteArray.ext
  show(#[]:Array UInt8)++(Lib.bytesOf l).toArray=(Lib.bytesOf l).toArray
  simp
 rw[H]at E l2;subst f p
 change Sem.run prog (do pure (goInt (Extern.BytealgCompare.cmp (<-Extern.Bytes.bytesOf (.slice (some ⟨g,o,none⟩) a.length c)) (<-Extern.Bytes.bytesOf (.slice (some ⟨G,F,none⟩) b.length d))))) w=_
 simp only[Extern.Bytes.bytesOf,Ya,Sem.run_pure,E,l2,Result.andThen];rw[Lib.cmp_eq]
 rfl
theorem a9I(A B:OA)(n m c d:Nat)(a b:LI)(w:WD)(o:Byt w A a)(p:Byt w B b)(g:n=a.length)(j:m=b.length)(r:0<a.length)(x:0<b.length):Calls prog 180 #[.slice A n c,.slice B m d] w λe w'=>e=.returned (.int .i64 (c5d a b))/\w=w':=by
 have z:∀v u,(callFunc 234 #[v,u]).run prog w=((Extern.BytealgCompare.compare #[v,u]).run prog w).andThen λv w'=>.ok (.value v) w':=λv u=>run_callFunc_extern (P:=prog) (f:=234) (fn:=Tryz.f234) ρk ρk ρk ρk (by rfl) #[v,u] w
 have y:=b2L w A B n m c d a b o p g j r x;clear o p g j r x;go_in;go_wp2
 try(simp only[Result.andThen];rw[Oper.upon_value];go_wp2)
 go_ret;exact⟨rfl,rfl⟩
def Ext(w w':WD):Prop:=∃q os,w'=Go.Sort.grow (w.drewN q) os
theorem Ext.refl(w:WD):Ext w w:=⟨0,#[],by simp[Go.Sort.grow,World.drewN]⟩
theorem Ext.alloc{w a:WD}(h:Ext w a)(o:Obj):Ext w (a.alloc o):=by
 obtain⟨q,os,rfl⟩:=h;exact⟨q,os.push o,by simp[Go.Sort.grow,World.alloc,World.drewN]⟩
theorem Ext.drew{w a:WD}(h:Ext w a):Ext w a.drew:=by
 obtain⟨q,os,rfl⟩:=h;exact⟨q+1,os,by simp[Go.Sort.grow,World.drew,World.drewN,ZT]⟩
theorem Ext.below(h:Ext w a):Below w w a:=by
 obtain⟨q,os,rfl⟩:=h;refine⟨rfl,rfl,rfl,by simp[Go.Sort.grow,World.drewN],λk b=>?_⟩;simp only[Go.Sort.grow,World.drewN];rw[Array.getElem?_append_left b]
attribute [local go_sem ↓] a1F a3w
theorem b0U(p q:Pt)(a:a6l p)(b:a6l q)(w:WD):Calls prog 118 #[.agg (ptL p.1 p.2).toArray,.agg (ptL q.1 q.2).toArray] w λe w'=>e=.returned (.int .i64 (a5t p q))/\Ext w w':=by
 have⟨g,I⟩:=ηs w;have J:=Qd w 189 (ptL p.1 p.2).toArray;rw[I]at J;have o:=J.alloc (.cells (ptL q.1 q.2).toArray 189);have b1:=Qd (w.alloc (.cells (ptL p.1 p.2).toArray 189)) 189 (ptL q.1 q.2).toArray;rw[Qi,I]at b1;have E:=(((Ext.refl w).alloc (.cells (ptL p.1 p.2).toArray 189)).alloc (.cells (ptL q.1 q.2).toArray 189)).drew;have T:(ptL p.1 p.2).toArray[32]? =some (.int .i64 p.2):=by simp[ptL,a0a,a.len]
 have R:(ptL q.1 q.2).toArray[32]? =some (.int .i64 q.2):=by simp[ptL,a0a,b.len]
 have⟨pv,B⟩:=η0 ((ptL p.1 p.2).toArray);have⟨qv,z⟩:=η0 ((ptL q.1 q.2).toArray);have f:=o.drew;have d:=b1.drew;have m:=c2O a.len a.tx p.2 f;have j:=c2O b.len b.tx q.2 d;rw[B]at J o b1 E T f d m j;rw[z]at o b1 E R f d m j;rw[B,z]
 generalize hV:(w.alloc (.cells pv 189)).alloc (.cells qv 189)=V at E f d m j
 have⟨U,N⟩:=η0 V.drew;rw[N]at E f d m j;have aa:∀r,(SLs 31 (.pointer g) none none none).run prog r=.ok (.slice g 32 32) r:=λr=>a4Q b1w ρk r g ρo
 have Y:∀r,(SLs 31 (.pointer (g+1:Nat)) none none none).run prog r=.ok (.slice (g+1:Nat) 32 32) r:=λr=>a4Q b1w ρk r (g+1) ρo
 have O:=a9I g (g+1:Nat) 32 32 32 32 p.1 q.1 U m j a.len.symm b.len.symm (by rw[a.len];omega) (by rw[b.len];omega);have P:=b8c p.2 q.2 U;have⟨cb,y⟩:=η0 (c5d p.1 q.1);have⟨G,D⟩:=η0 (b7z p.2 q.2);have x:a5t p q=if cb≠0 then cb else G:=by unfold a5t;rw[y,D]
 rw[x];rw[y]at O;rw[D]at P;have S:=b5w U.heap.size cb G (U.alloc (.cells #[.int .i64 cb,.int .i64 G] 3)) (Qd U _ _);have H:=E.alloc (.cells #[.int .i64 cb,.int .i64 G] 3)
 generalize hr:(if cb≠0 then cb else G)=res at S⊢
 have Z:U.cell? ⟨g,32,none⟩=some (.int .i64 p.2)/\U.cell? ⟨g+1,32,none⟩=some (.int .i64 q.2):=⟨(f.cell 32).trans T,(d.cell 32).trans R⟩;have⟨F,W,Q,HG⟩:=η4 Z N H I;clear Z N H I J o b1 f d m j E T R B z a b x y D hr;go_in;go_upto_region 1 with fail
 rw[HG.o];refine a0s [(0,3),(1,3),(2,3),(3,3),(5,3),(7,3),(6,0),(8,0),(4,1),(9,2),(10,2),(11,2),(12,3)] (λX=>X.cell? ⟨g,32,none⟩=some (.int .i64 p.2)/\X.cell? ⟨g+1,32,none⟩=some (.int .i64 q.2)) ρk ρk ρk ρk (ρy W.o F.o) ?_;rw[W.o];refine ε6 ?_
 iterate 2 refine θ2 (λ_ h=>h) ?_
 refine κ ?_;intro K v;refine μf O ?_;with_reducible refine v _ _ (F.o) ?_;clear v K
 refine τ ?_;intro K v;refine μf P ?_;with_reducible refine v _ _ ?_;clear v K
 refine τ1 ?_;refine τ ?_;intro K v;refine μf S ?_;with_reducible refine v _ _ ?_;clear v K
 refine ε1 ?_;clear O P S;refine ν ?_;go_wp2;go_ret;exact⟨rfl,Q.o⟩
theorem c6O{k:Ke}(a:b2y k){X:WD}{t:TI}(h:Blk X g t (keL k.1 k.2).toArray):Byt X (some ⟨g,1,none⟩) k.2:=
 ⟨λ_=>⟨g,1,rfl,h.lt,λj x hx=>by
  have hj:j<k.2.length:=(Qm.1 hx).1;rw[h.cell (1+j)];simp only[keL,QE];rw[show 1+j=j+1 by omega,List.getElem?_cons_succ,a3J,hx]
  rfl⟩,a.id⟩
abbrev c8X:=ldOf 212
attribute [local go_sem ↓] c8X
theorem b0s(p q:Ke)(a:b2y p)(b:b2y q)(w:WD):Calls prog 121 #[.agg (keL p.1 p.2).toArray,.agg (keL q.1 q.2).toArray] w λe w'=>e=.returned (.int .i64 (a6w p q))/\Ext w w':=by
 have⟨g,H⟩:=ηs w;have I:=Qd w 212 (keL p.1 p.2).toArray;rw[H]at I;have o:=I.alloc (.cells (keL q.1 q.2).toArray 212);have b1:=Qd (w.alloc (.cells (keL p.1 p.2).toArray 212)) 212 (keL q.1 q.2).toArray;rw[Qi,H]at b1;have F:=(((Ext.refl w).alloc (.cells (keL p.1 p.2).toArray 212)).alloc (.cells (keL q.1 q.2).toArray 212)).drew;have T:(keL p.1 p.2).toArray[0]? =some (.int .i64 p.1):=by simp[keL]
 have Q:(keL q.1 q.2).toArray[0]? =some (.int .i64 q.1):=by simp[keL]
 have⟨pv,D⟩:=η0 ((keL p.1 p.2).toArray);have⟨qv,z⟩:=η0 ((keL q.1 q.2).toArray);have f:=o.drew;have d:=b1.drew;have m:=c6O a f;have j:=c6O b d;rw[D]at I o b1 F T f d m j;rw[z]at o b1 F Q f d m j;rw[D,z]
 generalize hV:(w.alloc (.cells pv 212)).alloc (.cells qv 212)=V at F f d m j
 have⟨U,J⟩:=η0 V.drew;rw[J]at F f d m j;have aa:∀r,(SLs 31 (.pointer (some ⟨g,1,none⟩)) none none none).run prog r=.ok (.slice (some ⟨g,1,none⟩) 32 32) r:=λr=>b0k b1w ρk r g 1 ρo
 have Y:∀r,(SLs 31 (.pointer (some ⟨g+1,1,none⟩)) none none none).run prog r=.ok (.slice (some ⟨g+1,1,none⟩) 32 32) r:=λr=>b0k b1w ρk r (g+1) 1 ρo
 have N:=a9I (some ⟨g,1,none⟩) (some ⟨g+1,1,none⟩) 32 32 32 32 p.2 q.2 U m j a.len.symm b.len.symm (by rw[a.len];omega) (by rw[b.len];omega);have O:=b8c p.1 q.1 U;have⟨cb,y⟩:=η0 (c5d p.2 q.2);have⟨B,E⟩:=η0 (b7z p.1 q.1);have x:a6w p q=if B≠0 then B else cb:=by unfold a6w;rw[y,E]
 rw[x];rw[y]at N;rw[E]at O;have R:=b5w U.heap.size B cb (U.alloc (.cells #[.int .i64 B,.int .i64 cb] 3)) (Qd U _ _);have G:=F.alloc (.cells #[.int .i64 B,.int .i64 cb] 3)
 generalize hr:(if B≠0 then B else cb)=res at R⊢
 have Z:U.cell? ⟨g,0,none⟩=some (.int .i64 p.1)/\U.cell? ⟨g+1,0,none⟩=some (.int .i64 q.1):=⟨(f.cell 0).trans T,(d.cell 0).trans Q⟩;have⟨S,W,P,HG⟩:=η4 Z J G H;clear Z J G H I o b1 f d m j F T Q D z a b x y E hr;go_in;go_upto_region 1 with fail
 rw[HG.o];refine a0s [(0,3),(2,3),(5,3),(6,3),(7,3),(8,3),(1,0),(3,0),(4,2),(9,2),(10,2),(11,2),(12,3)] (λX=>X.cell? ⟨g,0,none⟩=some (.int .i64 p.1)/\X.cell? ⟨g+1,0,none⟩=some (.int .i64 q.1)) ρk ρk ρk ρk (ρy W.o S.o) ?_;rw[W.o];refine ε6 ?_
 iterate 2 refine θ2 (λ_ h=>h) ?_
 refine τ ?_;intro K v;refine μf O ?_;with_reducible refine v _ _ ?_;clear v K
 refine τ ?_;intro K v;refine μf N ?_;with_reducible refine v _ _ ?_;clear v K
 refine τ1 ?_;refine τ ?_;intro K v;refine μf R ?_;with_reducible refine v _ _ ?_;clear v K
 refine ε1 ?_;clear N O R;refine ν ?_;go_wp2;go_ret;exact⟨rfl,P.o⟩
end
section
theorem c5c(w:WD):(BSs 35 0 #[]).run prog w=.ok (.slice w 0 0) (w.alloc (.cells #[] 31)):=by
 obtain⟨i,d,a⟩:=Q8.1 c1e;simp only[Prod.mk.injEq]at a;obtain⟨z,g,b⟩:=Q8.1 a.1;have f:Array.range 0=#[]:=by apply ZM;simp
 simp[BSs,Instr.buildSlice,run_underlying c5Q,sizeOf,typeInfo,d,Instr.fill,newRow,f]
theorem a0T.emptyY{e:TI}{m:Nat}(a:Blk w g e #[])(b:B<=g):a0T e m B w (.slice g 0 0) []:=
 ⟨⟨by simp,.inr ⟨g,0,#[],rfl,b,a,Qg _,by simp,by simp,by simp⟩⟩,by simp⟩
attribute [local go_sem ↓] a9S a9T
def b5Z(b:Nat)(L:LL)(n:Nat)(e:Ending)(w':WD):Prop:=∃A' c',e=.returned (.slice A' n c')/\a0T 31 32 b w' (.slice A' n c') (L.map bys)
theorem b5D(A:OA)(c:Nat)(L:LL)(m:∀d∈L,d.length=32)(b:L.length<=1000000)(j:A=none->c=0)(w:WD)(f:RdR 32 w A (L.map bys)):Calls prog 237 #[.slice A L.length c] w λe w'=>b5Z w L L.length e w'/\Below w w w':=by
 have Y:∀(W:WD) (n c:Nat),(binOp .eql 35 (.slice A n c) (.slice none 0 0)).run prog W=.ok (.bool A.isNone) W:=λW n c=>Lib.run_eql_slice_nil W _ _ A n c 0 0 c5Q
 cases A with
 |
  none=>
  have e:L=[]:=by
   cases L with
   | nil=>rfl
   |
    cons x r=>
    obtain⟨g,off,e,_⟩:=f 0 ρp
    cases e
  subst e;obtain rfl:=j rfl;have o:b5Z w [] 0 (.returned (.slice none 0 0)) w:=⟨none,0,rfl,a0T.nil _ _ _ _⟩;have p:=η1 o;clear o f;go_in;go_wp2;go_ret;exact⟨p,Qf _ _⟩
 |
  some a=>
  have F:=ρb w (.cells #[] 31);have J:a0T 31 32 w.heap.size (w.alloc (.cells #[] 31)) (.slice w 0 0) []:=a0T.emptyY (Qd w _ _) (Qg _);have N:=c5c w;obtain⟨Q,K,z,v,y,-⟩:=d2X (P:=prog) (ty:=35) (S:=L.map bys) (c:=c) c5Q d2s ρo ρo J (f.below F) (by intro s G;obtain⟨d,hd,rfl⟩:=Qs.1 G;rw[a0a];exact m d hd) (by intro s G;obtain⟨d,hd,rfl⟩:=Qs.1 G;exact a0h d) j (by simp;omega) ρp;obtain⟨T,O,D,I,H,U,R⟩:=v.rd;simp only[QF,Qw]at D I H;rw[Qw]at z;have B:Below w w K:=F.trans (y.below ρp (λk X e=>by simp[Value.ownBlock]at e;omega));have o:b5Z w L L.length (.returned Q) K:=⟨T,O,by rw[D],by rw[<-D];simpa using v⟩
  generalize V:L.length=n at z o⊢
  have⟨p,E⟩:=η2 o B;clear o B F J v y D I H U R f m b V j;go_in;go_wp2;go_ret;exact⟨p,E.o⟩
abbrev a7A:=ldOf 214
abbrev a7I:=stOf 214
abbrev a7U:=alOf 214
theorem uMk:(prog.underlying 214).map a1f=some true:=ρk
theorem iMk:(prog.info? 214).map (·.size)=some 138:=ρk
theorem c1K(w:WD):(ALs 214).run prog w=.ok (.pointer w) (w.alloc (.cells (mkV a4n).toArray 214)):=a0U (.agg (mkV a4n).toArray) ρk w
theorem c6P{x:MkD}(a:x.c.Bd):(mkV x).toArray[37]? =some (.slice x.A x.c.path.length x.cap):=by
 have h:=a3X a x.A x.cap;rw[QE]at h⊢;unfold mkV;rw[QO (by rw[a0l a];omega)];exact h
theorem c8J{x:MkD}(d:x.c.Bd)(a:OA)(b:Nat):(mkV x).toArray.setIfInBounds 37 (.slice a x.c.path.length b)=(mkV ⟨x.c,a,b,x.ex⟩).toArray:=by
 have h:=b2C x.c d x.A a x.cap b x.c.path
 have f:(a0d x.c x.A x.cap).set 37 (.slice a x.c.path.length b)=a0d x.c a b:=by
  have:=congrArg Array.toList h
  simpa using this
 apply ZM
 simp only[Zt];unfold mkV;rw[List.set_append_left _ _ (by rw[a0l d];omega),f]
attribute [local go_sem ↓] a7A a7I a7U
def b6q(b:Nat)(N:List Nat)(x:MkD)(e:Ending)(w':WD):Prop:=∃A' c',e=.returned (.agg (mkV ⟨x.c,A',c',x.ex⟩).toArray)/\a7b w' N ⟨x.c,A',c',x.ex⟩/\a0T 31 32 b w' (.slice A' x.c.path.length c') (x.c.path.map bys)
theorem b0G(x:MkD)(N:List Nat)(w:WD)(h:a7b w N x)(b:∀k∈N,k<w.heap.size):Calls prog 184 #[.agg (mkV x).toArray] w λe w'=>b6q w N x e w'/\Below w w w':=by
 have⟨g,hg⟩:=ηs w;have⟨xv,S⟩:=η0 ((mkV x).toArray);have⟨zv,ah⟩:=η0 ((mkV a4n).toArray);have aa:=c1K;simp only[ah]at aa;have aj:zv.size=138:=by rw[<-ah,Qc];exact a3i a0B
 have av:xv.size=138:=by rw[<-S,Qc];exact a3i h.bd
 have ac:xv[37]? =some (.slice x.A x.c.path.length x.cap):=by rw[<-S];exact c6P h.bd
 have I:∀m j,xv.setIfInBounds 37 (.slice m x.c.path.length j)=(mkV ⟨x.c,m,j,x.ex⟩).toArray:=λm j=>by rw[<-S];exact c8J h.bd m j
 have b0:=Qd w 214 xv;have B0:=ρb w (.cells xv 214);have⟨W1,R⟩:=η0 (w.alloc (.cells xv 214));have aq:W1.heap.size=g+1:=by rw[<-R,<-hg];simp
 have K:(ALs 214).run prog (w.alloc (.cells xv 214))=.ok (.pointer W1) (W1.alloc (.cells zv 214)):=by rw[R];exact aa W1
 rw[R]at b0 B0;rw[hg]at b0;have Q:=b0.alloc (.cells zv 214);have b1:=Qd W1 214 zv;have B1:=B0.alloc B0.size (.cells zv 214);have⟨V,hV⟩:=η0 (W1.alloc (.cells zv 214));have O:V.heap.size=g+2:=by rw[<-hV];simp;omega
 rw[hV]at Q b1 B1 K;rw[aq]at b1 K;have aN:V.cell? ⟨g,37,none⟩=some (.slice x.A x.c.path.length x.cap):=(Q.cell 37).trans ac;have hm:=h.below B1;have aB:=b5D x.A x.cap x.c.path (λd hd=>(h.bd.path d hd).1) (ρh h.len) h.nil V hm.path;have⟨n,hn⟩:=η0 x.c.path.length;rw[hn]at aB aN;simp only[hn]at I;have ak:=b;rw[S];have⟨aE,az,aH,aL,W,HG,aA,aP⟩:=η8 O Q b1 B1 hm hg I av;have⟨aM,aI,HN,au⟩:=η4 aj ak hn ac;clear O Q b1 B1 hm hg I av aj ak hn ac b0 B0 R aq hV h b aa;go_in;go_upto_region 1 with fail
 rw[HG.o];clear K;go_wp2_with fail;refine μ1 aB ?_;rintro e w4 ⟨⟨m,j,rfl,z⟩,H⟩;obtain⟨A2,c2,an,af,F,G,o⟩:=z.rd;simp only[Value.slice.injEq]at an;obtain⟨rfl,-,rfl⟩:=an;rw[Qw,HN.o]at F;have ax:=aI.o;have hg:=HG.o;have O:=aE.o;have k4:=az.fr (Q9 H) ρo;have j4:=aH.fr (Q9 H) ρo;have z4:=k4.frozen 37;have q4:=(k4.cell 37).trans au;have k5:=k4.set_ 37 (.slice m n j);rw[aA.o]at k5;have f5:Fr (λk=>k=g) w4 (w4.setCell ⟨g,37,none⟩ (.slice m n j)):=(Qp (λk=>k=g) w4).setCell (p:=⟨g,37,none⟩) (λ_=>rfl) _;have j5:=j4.fr f5 (show¬_=_ by omega);have ar:=H.size;have B5:Below w w (w4.setCell ⟨g,37,none⟩ (.slice m n j)):=(aL.trans (H.mono ρo)).trans (f5.below (B:=w.heap.size) ρo (λk T e=>ρo));have ad:=HN.o;have Y:a7b w4 N ⟨x.c,m,j,x.ex⟩:=⟨W.bd,af,(ρy ad F),G,λa D=>⟨(o a D).2,λT=>by have:=ax _ T;have:=(o a D).1;omega⟩,W.ex,W.len⟩
 have Z:a7b (w4.setCell ⟨g,37,none⟩ (.slice m n j)) N ⟨x.c,m,j,x.ex⟩:=
  ⟨W.bd,af.frY f5 (λa D e=>by have:=(o a D).1;omega),Y.cap,G,λa D=>⟨Qh (o a D).2 f5.size,(Y.far a D).2⟩,W.ex,W.len⟩
 have ab:=λk (T:(Value.slice m n j).ownBlock=some k)=>(z.lt T).1
 have X:=z.fr f5 (λk T e=>by have:=ab k T;omega);have f:(mkV ⟨x.c,m,j,x.ex⟩).length=138:=a3i W.bd;have y:=a7Q ⟨x.c,m,j,x.ex⟩
 generalize ao:w4.setCell ⟨g,37,none⟩ (.slice m n j)=W5 at k5 j5 B5 Z X
 have J:=λ(e:Ending) (he:e=.returned (.agg (mkV ⟨x.c,m,j,x.ex⟩).toArray)) (W6:WD) (h6:a7b W6 N ⟨x.c,m,j,x.ex⟩) (h7:a0T 31 32 w.heap.size W6 (.slice m n j) (x.c.path.map bys))=>(⟨m,j,he,h6,by rw[ad];exact h7⟩:b6q w N x e W6)
 have r:=Z;have⟨U,ae⟩:=η0 (mkV ⟨x.c,m,j,x.ex⟩);simp only[ae]at J;rw[ae]at k5 f y;have aO:=Pb uMk iMk U k5 f;have aQ:=P7 iMk j5 aM U f y;have j6:=j5.row_ U.toArray;have f6:Fr (λk=>k=g+1) W5 (W5.setRow (g+1) U.toArray):=(Qp (λk=>k=g+1) W5).setRow (g:=g+1) (λ_=>rfl) _;have B6:=Ql (g:=g+1) B5 ρo U.toArray
 have ai:a7b (W5.setRow (g+1) U.toArray) N ⟨x.c,m,j,x.ex⟩:=
  ⟨r.bd,r.path.frY f6 (λa D e=>by have:=(o a D).1;omega),r.cap,r.nil,λa D=>⟨Qh (r.far a D).1 f6.size,(r.far a D).2⟩,r.ex,r.len⟩
 have al:=(X.fr f6 (λk T e=>by have:=ab k T;omega)).base (B':=w.heap.size) ρo;have E:=λe he=>J e he _ ai al
 have⟨aG,aC,aF,aD,aK⟩:=η5 j6 B6 E f ao;clear j6 B6 E f ao k4 j4 k5 f5 j5 ar B5 ad Y Z y r f6 ai J ae af F G o ax hg O H z ab X al;dsimp only;go_upto_region 2 with fail
 rw[aK.o];go_wp2_with fail;obtain⟨dM,aJ,ay⟩:=Q8.1 uMk;refine bodyPost_ret (v:=.agg U.toArray) (a0c rfl _ _ (g+1) _ U dM rfl aG aJ ay (ρy aD.o iMk)) rfl ?_;exact⟨aF.o _ rfl,aC.o⟩
end
section
theorem c7T{x:MkD}(a:(a0x x.c.e)[j]? =some v):(mkV x)[0+j]? =some v:=by
 have b:j<(a0x x.c.e).length:=(Qm.1 a).1;rw[QP];unfold mkV a0d;simp only[QC];rw[QO b];exact a
theorem c5L{x:MkD}(b:x.c.Bd)(a:(a0b x.c.h)[j]? =some v):(mkV x)[38+j]? =some v:=by
 have f:=a0u b.e;have d:j<(a0b x.c.h).length:=(Qm.1 a).1;unfold mkV a0d;simp only[QC];rw[QL ρo,f,show 38+j-37=j+1 by omega,List.singleton_append,List.getElem?_cons_succ,QO d];exact a
theorem c6n{x:MkD}(a:x.c.Bd):(mkV x)[137]? =some (.int .i64 x.ex):=by
 unfold mkV;rw[QL (by rw[a0l a];omega),a0l a]
 rfl
def b3Y(c:a0y)(ex:Int):Bool:=a0D c.e&&a0w c.h&&b9u ex
attribute [local go_sem ↓] a7A a7I a7U a1W a1l
theorem b6p(x:MkD)(N:List Nat)(w:WD)(h:a7b w N x):Calls prog 183 #[.agg (mkV x).toArray] w λe w'=>e=.returned (.bool (b3Y x.c x.ex))/\Below w w w':=by
 have⟨g,hg⟩:=ηs w;have S:=Qd w 214 (mkV x).toArray;have B0:=ρb w (.cells (mkV x).toArray 214);have D:=h.bd;have z:∀W:WD,Blk W g 214 (mkV x).toArray->W.cell? ⟨g,37,none⟩=some (.slice x.A x.c.path.length x.cap):=λW J=>(J.cell 37).trans (c6P D)
 have a:∀W:WD,Blk W g 214 (mkV x).toArray->W.cell? ⟨g,137,none⟩=some (.int .i64 x.ex):=λW J=>(J.cell 137).trans (by rw[QE];exact c6n D)
 obtain⟨dE,U,B⟩:=Q8.1 b3q;obtain⟨dH,aa,G⟩:=Q8.1 a1S;have r:∀W:WD,Blk W g 214 (mkV x).toArray->(LDs 34 (.pointer g)).run prog W=.ok (.agg (a0x x.c.e).toArray) W:=λW J=>a3R W _ dE 37 U B a8Q g 0 _ (a0u D.e) (λj v hv=>(J.cell (0+j)).trans (by rw[QE];exact c7T hv))
 have p:∀W:WD,Blk W g 214 (mkV x).toArray->(LDs 37 (.pointer (some ⟨g,38,none⟩))).run prog W=.ok (.agg (a0b x.c.h).toArray) W:=λW J=>a3R W _ dH 67 aa G a1h g 38 _ (a0f D.h) (λj v hv=>(J.cell (38+j)).trans (by rw[QE];exact c5L D hv))
 have m:=a9B x.c.e D.e;have y:=a2f x.c.h D.h;have O:=a7M x.ex;have E:=h.len;have⟨xv,o⟩:=η0 ((mkV x).toArray);rw[o]at S B0;simp only[o]at r p z a;have⟨ev,X⟩:=η0 ((a0x x.c.e).toArray);have⟨hv,Z⟩:=η0 ((a0b x.c.h).toArray);simp only[X]at r m;simp only[Z]at p y;have hr:b3Y x.c x.ex=(a0D x.c.e&&a0w x.c.h&&b9u x.ex):=rfl;have⟨r1,P⟩:=η0 (a0D x.c.e);have⟨r2,I⟩:=η0 (a0w x.c.h);have⟨r3,Q⟩:=η0 (b9u x.ex);simp only[P]at m;simp only[I]at y;simp only[Q]at O;rw[hr,P,I,Q,o];have⟨n,hn⟩:=η0 x.c.path.length;rw[hn]at E;simp only[hn]at z;have dn:decide ((n:Int)<=32)=true:=by simp;omega
 generalize hV:w.alloc (.cells xv 214)=V at S B0
 rw[hg]at S;have l0:=r V S;have H:=m V;have⟨ab,K,HG,ag,ac,ad,HQ,af⟩:=η8 S B0 hg p y O z a;have HV:=η1 hV;clear S B0 hg p y O z a hV r m o X Z P I Q D hn E h U B aa G hr;go_in;go_upto_region 1 with fail
 rw[HV.o,HG.o];go_wp2_with fail;refine μi H ?_;intro w4 b
 cases r1 with
 |
  false=>
  have R:=η1 b;clear b;go_wp2;go_ret;exact⟨rfl,K.trans (R.mono K.size)⟩
 |
  true=>
  have b4:=φf ab b;have l4:=ag.o w4 b4;have F:=ac.o w4;have B4:=φt K b;have⟨R,f⟩:=η2 b4 B4;clear b4 B4 b l0 H;go_wp2_with fail;refine μi F ?_;intro w5 d
  cases r2 with
  |
   false=>
   have ae:=η1 d;clear d;go_wp2;go_ret;exact⟨rfl,f.trans (ae.mono f.size)⟩
  |
   true=>
   have b5:=φf R d;have q5:=HQ.o w5 b5;have q6:=af.o w5 b5;have T:=ad.o w5;have B5:=φt f d;have Y:=η1 B5;clear B5 d l4 F b5;go_wp2_with fail;refine μf T ?_;go_wp2;go_ret;exact⟨by cases r3<;>rfl,Y.o⟩
end
section
def c0t(b:Nat)(N:List Nat)(m:List (Ke×MkD))(k:Ke)(e:Ending)(w':WD):Prop:=∃A' c',e=.returned (.tuple #[.agg (mkV ⟨(a2Q m k).c,A',c',(a2Q m k).ex⟩).toArray,.bool (a2E m k).isSome])/\a7b w' N ⟨(a2Q m k).c,A',c',(a2Q m k).ex⟩/\a0T 31 32 b w' (.slice A' (a2Q m k).c.path.length c') ((a2Q m k).c.path.map bys)
attribute [local go_sem ↓] a7A a7I a7U a1B c1a
theorem b5u(kb b:Nat)(N:List Nat)(m:List (Ke×MkD))(k:Ke)(d:b2y k)(w:WD)(h:a0z w kb b N m)(f:∀j∈N,j<w.heap.size):Calls prog 166 #[.pointer kb,.int .i64 k.1,.agg (bys k.2).toArray] w λe w'=>c0t w N m k e w'/\Below w w w':=by
 have⟨g,hg⟩:=ηs w;have⟨E,au⟩:=η0 ((bys k.2).toArray);have⟨kv,aj⟩:=η0 ((keL k.1 k.2).toArray);have⟨R,aA⟩:=η0 ((mkV a4n).toArray);have S:=c1K;simp only[aA]at S;have ac:R.size=138:=by rw[<-aA,Qc];exact a3i a0B
 have a2:∀W:WD,(BDs 212 #[(0,.int .i64 k.1),(1,.agg E)]).run prog W=.ok (.agg kv) W:=by
  intro W;rw[<-au,<-aj];exact d3e d.len k.1 W
 have aS:=h.st.lt;have a1:=h.mp.lt;have b0:=Qd w 31 E;have B0:=ρb w (.cells E 31)
 generalize al:w.alloc (.cells E 31)=W1 at b0 B0
 rw[hg]at b0;have aI:W1.heap.size=g+1:=by rw[<-al,<-hg];simp
 have K:(ALs 214).run prog (w.alloc (.cells E 31))=.ok (.pointer W1) (W1.alloc (.cells R 214)):=by rw[al];exact S W1
 have ag:=b0.alloc (.cells R 214);have b1:=Qd W1 214 R;have B1:=B0.alloc B0.size (.cells R 214);have⟨W2,ak⟩:=η0 (W1.alloc (.cells R 214));have aD:W2.heap.size=g+2:=by rw[<-ak];simp;omega
 rw[ak]at ag b1 B1 K;rw[aI]at b1 K;have h2:=h.below B1;have fd:Fr (λ_=>False) W2 W2.drew:=(Qp _ _).drew;have⟨X,hX⟩:=η0 W2.drew;rw[hX]at fd;have aK:X.heap.size=g+2:=by rw[<-hX];exact aD
 have I:a0z X kb b N m/\Blk X g 31 E:=⟨h2.fr fd id id (λ_ e=>e.elim),ag.fr fd id⟩;have J:=S X;have bx:=Qd X 214 R;have BX:=ρb X (.cells R 214)
 generalize hY:X.alloc (.cells R 214)=Y at bx BX J
 rw[aK]at bx J;have ar:a0z Y kb b N m/\Blk Y g 31 E:=⟨I.1.below BX,I.2.fr (Q9 BX) ρo⟩;have F:=λ(W:WD) (hw:a0z W kb b N m)=>hw.look d
 simp only[aj]at F;have r:=a6b ar.1.bd k;have⟨x,hx⟩:=η0 (a2Q m k);have⟨ok,ad⟩:=η0 ((a2E m k).isSome);rw[hx]at r;simp only[hx,ad]at F;have ax:=a3i r.bd;have aP:=a7Q x;have fY:Fr (λj=>j=g+2) Y (Y.setRow (g+2) (mkV x).toArray):=(Qp (λj=>j=g+2) Y).setRow (g:=g+2) (λ_=>rfl) _;have T:=P7 iMk bx ac (mkV x) ax aP;have kx:=bx.row_ (mkV x).toArray;have kr:Blk (Y.setRow (g+2) (mkV x).toArray) (g+1) 214 R:=((b1.fr fd id).fr (Q9 BX) ρo).fr fY ρo;have BY:Below w w (Y.setRow (g+2) (mkV x).toArray):=((B1.trans (fd.below ρo (λ_ _=>id))).trans (BX.mono ρo)).trans (fY.below (B:=w.heap.size) (ρh BX.size) (λj Q e=>ρo));have af:=a6b I.1.bd k;rw[hx]at af;have o:a7b (Y.setRow (g+2) (mkV x).toArray) N x:=⟨r.bd,r.path.frY fY (λa ha e=>by have:=(af.far a ha).1;omega),r.cap,r.nil,λa ha=>⟨Qh (r.far a ha).1 fY.size,(r.far a ha).2⟩,r.ex,r.len⟩
 have⟨Z,hZ⟩:=η0 (Y.setRow (g+2) (mkV x).toArray);replace T:=T.trans (show _=Result.ok () Z by rw[<-hZ]);rw[hZ]at kx kr BY o;have aC:=Pb uMk iMk (mkV x) kx ax;have ah:=a6b h.bd k;rw[hx]at ah
 have O:a7b Z ((g+1)::N) x:=⟨o.bd,o.path,o.cap,o.nil,λa ha=>⟨(o.far a ha).1,λQ=>by
  rcases Qo.1 Q with e | e
  ·have:=(ah.far a ha).1;omega
  exact(o.far a ha).2 e⟩,o.ex,o.len⟩
 have G:=b0G x ((g+1)::N) Z O (λj Q=>by
  rcases Qo.1 Q with e | e
  ·have:=kr.lt;omega
  have:=f j e;have:=BY.size;omega)
 have H:=λ(W:WD) (hb:Blk W g 31 E)=>Pb a2i iId (w:=W) E.toList (ρw hb) (by rw[<-au];simp[a0a,d.len])
 simp only[show E.toList.toArray=E by simp]at H;have p:∀D z (W:WD) (e:Ending),a7b W N ⟨x.c,D,z,x.ex⟩->a0T 31 32 w.heap.size W (.slice D x.c.path.length z) (x.c.path.map bys)->e=.returned (.tuple #[.agg (mkV ⟨x.c,D,z,x.ex⟩).toArray,.bool ok])->c0t w N m k e W:=λD z W e h1 h3 h2=>⟨D,z,by rw[hx,ad];exact h2,by rw[hx];exact h1,by rw[hx];exact h3⟩
 have V:∃v,(mkV x).toArray=v:=⟨_,rfl⟩;obtain⟨xv,V⟩:=V;simp only[V]at F T aC kx G;have U:w.heap.size<=g:=ρo;rw[au];have⟨aR,aQ,aM,ay,aW,aO,HX,HG⟩:=η8 I ar kr BY F H hX hg;have⟨a0,an,aT,aV⟩:=η4 ac p r.bd U;clear I ar kr BY F H hX hg ac p U b0 B0 ag b1 B1 h2 fd aK bx BX hY r ax aP ad fY kx hZ aD al aI ak S h aS a1 aj V hx af o ah O f;go_in;go_upto_region 1 with fail
 clear K;rw[HG.o];refine a0s [(0,3),(1,3),(2,3),(4,3),(3,0),(5,0),(6,3),(7,0),(8,3),(9,3),(10,3),(11,1),(12,2),(13,3)] (λW=>a0z W kb b N m/\Blk W g 31 E) ρk ρk ρk ρk (ρy HX.o aR.o) ?_;rw[HX.o];refine ε4 ?_
 iterate 2 refine θ2 (λW' hS=>QU hS.1.q0 (aO.o W' hS.2)) ?_
 refine ε1 ?_
 refine θ1 (λW' hS=>aW.o W' hS.1) ?_
 refine ε3 ?_;refine κ1 (aQ.o) ?_;refine τ1 ?_;refine ε1 ?_;refine ν ?_;clear J T a2;go_upto_region 2 with fail
 go_wp2_with fail;refine μ1 G ?_;rintro e w4 ⟨⟨D,z,rfl,aB,aq⟩,ai⟩;have ao:=φf aM ai;have B4:=φt ay ai;have y:(mkV ⟨x.c,D,z,x.ex⟩).length=138:=a3i aT;have aN:=P7 iMk ao a0 _ y (a7Q _);have av:=ao.row_ (mkV ⟨x.c,D,z,x.ex⟩).toArray;have f5:Fr (λj=>j=g+1) w4 (w4.setRow (g+1) (mkV ⟨x.c,D,z,x.ex⟩).toArray):=(Qp (λj=>j=g+1) w4).setRow (g:=g+1) (λ_=>rfl) _;have aE:a7b (w4.setRow (g+1) (mkV ⟨x.c,D,z,x.ex⟩).toArray) N ⟨x.c,D,z,x.ex⟩:=(aB.fr f5 (λj Q=>by rw[Q];exact Qr)).far_ (λj _ Q=>Qj _ Q);have U:=aV.o;have B5:=Ql (g:=g+1) B4 ρo (mkV ⟨x.c,D,z,x.ex⟩).toArray;have aG:=aM.lt;have aa:=ay.size;have az:=(aq.fr f5 (λj Q e=>by have:=(aq.lt Q).1;omega)).base (B':=w.heap.size) aa;have p:=λe=>an.o D z _ e aE az
 have⟨ya,ae⟩:=η0 ((mkV ⟨x.c,D,z,x.ex⟩).toArray);have aH:ya.size=138:=by rw[<-ae,Qc];exact y
 simp only[ae]at aN av B5 p⊢;obtain⟨dM,aL,ab⟩:=Q8.1 uMk;have⟨aF,aZ,aX,aU,aY,aJ⟩:=η6 av B5 p aH aL ab;clear av B5 p aH aL ab f5 aE y ae U ao B4 aB ai aq az aG aa;go_wp2;refine bodyPost_ret (v:=.tuple #[.agg ya,.bool ok]) (a0k rfl _ _ (g+1) _ _ (0,0) aF.o aY aJ (ρy aU.o iMk) rfl) rfl ?_;exact⟨aX.o _ rfl,aZ.o⟩
end
section
def c3z(m:List (Ke×MkD))(k:Ke)(c:a0y)(ex:Int):Int:=
 if k.1≠0/\k.1≠1 then 1
 else if b3Y c ex=false then 16
 else if(a2E m k).isSome then 24
 else if 128<=m.length then 18
 else 0
def b6K(kb mb:Nat)(N:List Nat)(m:List (Ke×MkD))(k:Ke)(x:MkD)(e:Ending)(w':WD):Prop:=
 e=.returned (.int .i64 (c3z m k x.c x.ex))/\((c3z m k x.c x.ex≠0/\a0z w' kb mb N m)\/(c3z m k x.c x.ex=0/\∃A' c',a0z w' kb mb N (m++[(k,⟨x.c,A',c',x.ex⟩)])))
attribute [local go_sem ↓] a7A a7I a7U a1B c1a
theorem c2k(kb b:Nat)(N:List Nat)(m:List (Ke×MkD))(k:Ke)(o:b2y k)(x:MkD)(w:WD)(f:a7b w N x)(h:a0z w kb b N m)(y:∀j∈N,j<w.heap.size)(r:b∈N):Calls prog 122 #[.pointer kb,.int .i64 k.1,.agg (bys k.2).toArray,.agg (mkV x).toArray] w λe w'=>b6K kb b N m k x e w'/\Fr (λj=>j=b) w w':=by
 have⟨g,hg⟩:=ηs w;have⟨G,ay⟩:=η0 ((bys k.2).toArray);have⟨kv,ao⟩:=η0 ((keL k.1 k.2).toArray);have⟨zv,aj⟩:=η0 ((mkV a4n).toArray);have aJ:=c1K;simp only[aj]at aJ;have a7:zv.size=138:=by rw[<-aj,Qc];exact a3i a0B
 have ax:∀W:WD,(BDs 212 #[(0,.int .i64 k.1),(1,.agg G)]).run prog W=.ok (.agg kv) W:=by
  intro W;rw[<-ay,<-ao];exact d3e o.len k.1 W
 have a3:=h.st.lt;have bu:=h.mp.lt;have bb:=a3i f.bd;have⟨S,ag⟩:=η0 ((mkV x).toArray);have b0:=Qd w 31 G;have B0:=ρb w (.cells G 31);have ak:=b0.alloc (.cells S 214);have b1:=Qd (w.alloc (.cells G 31)) 214 S;have B1:=B0.alloc B0.size (.cells S 214);rw[Qi]at b1;have⟨W2,ar⟩:=η0 ((w.alloc (.cells G 31)).alloc (.cells S 214));have a2:W2.heap.size=g+2:=by rw[<-ar,<-hg];simp
 rw[ar]at ak b1 B1;rw[hg]at ak b1;have h2:=h.below B1;have fd:Fr (λ_=>False) W2 W2.drew:=(Qp _ _).drew;have⟨X,hX⟩:=η0 W2.drew;rw[hX]at fd;have bn:X.heap.size=g+2:=by rw[<-hX];exact a2
 have an:a0z X kb b N m/\Blk X g 31 G:=⟨h2.fr fd id id (λ_ e=>e.elim),ak.fr fd id⟩;have ae:=aJ X;have bx:=Qd X 214 zv;have BX:=ρb X (.cells zv 214)
 generalize hY:X.alloc (.cells zv 214)=Y at bx BX ae
 rw[bn]at bx ae;have av:a0z Y kb b N m/\Blk Y g 31 G:=⟨an.1.below BX,an.2.fr (Q9 BX) ρo⟩;have aa:=λ(W:WD) (hw:a0z W kb b N m)=>hw.look o
 simp only[ao]at aa;have bf:=a6b av.1.bd k;have⟨ok,aH⟩:=η0 ((a2E m k).isSome);have⟨ys,aO⟩:=η0 (mkV (a2Q m k));have aS:=a3i bf.bd;have aT:=a7Q (a2Q m k);rw[aO]at aS aT;simp only[aO,aH]at aa;have fY:Fr (λj=>j=g+2) Y (Y.setRow (g+2) ys.toArray):=(Qp (λj=>j=g+2) Y).setRow (g:=g+2) (λ_=>rfl) _;have al:=P7 iMk bx a7 ys aS aT;have ki:Blk (Y.setRow (g+2) ys.toArray) g 31 G:=av.2.fr fY ρo;have kx:Blk (Y.setRow (g+2) ys.toArray) (g+1) 214 S:=((b1.fr fd id).fr (Q9 BX) ρo).fr fY ρo;have br:Below w w Y:=(B1.trans (fd.below ρo (λ_ _=>id))).trans (BX.mono ρo);have BY:Below w w (Y.setRow (g+2) ys.toArray):=br.trans (fY.below (B:=w.heap.size) (ρh BX.size) (λj hj e=>ρo));have aM:a0z (Y.setRow (g+2) ys.toArray) kb b N m:=h.below BY;have aq:a7b (Y.setRow (g+2) ys.toArray) N x:=f.below BY;have⟨Z,hZ⟩:=η0 (Y.setRow (g+2) ys.toArray)
 replace al:=al.trans (show _=Result.ok () Z by rw[<-hZ]);rw[hZ]at ki kx BY aM aq
 have U:∀W:WD,Blk W (g+1) 214 S->(LDs 214 (.pointer (g+1:Nat))).run prog W=.ok (.agg S) W:=λW hb=>by
  have:=Pb uMk iMk (w:=W) S.toList (ρw hb) (by rw[<-ag];simpa using bb)
  simpa using this
 have ab:=λ(W:WD) (hb:Blk W g 31 G)=>Pb a2i iId (w:=W) G.toList (ρw hb) (by rw[<-ay];simp[a0a,o.len])
 simp only[show G.toList.toArray=G by simp]at ab;have af:=b6p x N Z aq;rw[ag]at af;have aF:∀W:WD,a7b W N x->(∀j∈N,j<W.heap.size)->Calls prog 184 #[.agg S] W λe w'=>b6q W.heap.size N x e w'/\Below W.heap.size W w':=λW h1 h2=>by rw[<-ag];exact b0G x N W h1 h2
 have⟨rt,aI⟩:=η0 (b3Y x.c x.ex);rw[aI]at af;have⟨ya,a9⟩:=η0 ys.toArray;simp only[a9]at aa al;have FY:Fr (λj=>j=b) w Z:=(Q9 BY).mono (λj hj e=>ρo);have aD:∀(v:Int) (W:WD),c3z m k x.c x.ex=v->v≠0->a0z W kb b N m->b6K kb b N m k x (.returned (.int .i64 v)) W:=λv W hv h0 hW=>⟨by rw[hv],.inl ⟨by rw[hv];exact h0,hW⟩⟩
 have aX:=U Z kx;rw[ay,ag];have⟨bH,bF,bA,bM,bC,bO,aE,ba⟩:=η8 an av ki kx BY aa ab U;have⟨HX,HG,bG,bP,J,be,bp,bU⟩:=η8 hX hg ar FY aD aF aM aq;have⟨bh,bI,bJ,bQ,aA,bV,bB,bD⟩:=η8 aH aI ao y bu a3 o r;have bW:=η1 aj;clear an av ki kx BY aa ab U hX hg ar FY aD aF aM aq aH aI ao y bu a3 o r aj b0 B0 ak b1 B1 h2 fd bn bx BX hY bf aS aT fY hZ a2 aJ h ag aO a9 bb f br a7 ay;go_in;go_upto_region 1 with fail
 rw[bG.o,HG.o];refine a0s [(0,3),(1,3),(2,3),(4,3),(3,0),(5,0),(6,3),(7,0),(8,3),(9,3),(10,3),(11,1),(12,2),(13,3)] (λW=>a0z W kb b N m/\Blk W g 31 G) ρk ρk ρk ρk (ρy HX.o bH.o) ?_;rw[HX.o];refine ε4 ?_
 iterate 2 refine θ2 (λW' hS=>QU hS.1.q0 (aE.o W' hS.2)) ?_
 refine ε1 ?_
 refine θ1 (λW' hS=>bO.o W' hS.1) ?_
 refine ε3 ?_;refine κ1 (bF.o) ?_;refine τ1 ?_;refine ε1 ?_;refine ν ?_;clear ae al
 have az:((k.1 != 0)=true/\(k.1 != 1)=true)\/((k.1 != 0)=true/\(k.1 != 1)=false)\/((k.1 != 0)=false):=by
  cases h0:(k.1 != 0)<;>cases h1:(k.1 != 1)<;>simp
 rcases az with H | H
 focus
  have z:c3z m k x.c x.ex=1:=if_pos ⟨by simpa using H.1,by simpa using H.2⟩;have D:=J.o 1 Z z ρo bp.o;obtain⟨d1,d2⟩:=H;have E:=η1 D;clear D z af ax aX;go_wp2;go_ret;exact⟨E,bP.o⟩
 have z:c3z m k x.c x.ex=(if b3Y x.c x.ex=false then 16 else if(a2E m k).isSome then 24 else if 128<=m.length then 18 else 0):=if_neg (by
  rintro⟨h1,h2⟩
  rcases H with⟨_,d⟩ | d
  ·exact h2 (ρw d)
  exact h1 (ρw d))
 rw[bI.o,bh.o]at z;have bL:(k.1 != 0)=false\/((k.1 != 0)=true/\(k.1 != 1)=false):=H.symm;have aC:=η1 z;clear z H
 rcases bL with d1 | ⟨d1,d2⟩
 all_goals
  go_wp2_with fail;refine μ1 af ?_;rintro e w4 ⟨rfl,O⟩;have B4:=φt bC O;have a0:=bp.below O;have aZ:=bU.below O;have bc:=φf bA O;have bi:=φf bM O;have ad:=aA.o;have F4:Fr (λj=>j=b) w w4:=(Q9 B4).mono (λj hj e=>ρo);have⟨Q,bR,bt,bz,au,a5⟩:=η6 a0 aZ bc bi F4 B4;clear a0 aZ bc bi F4 B4 O ad;clear aX af
  cases rt with
  |
   false=>
   have z:=aC.o;simp only[if_true]at z;have D:=J.o 16 w4 z ρo Q.o;have E:=η1 D;clear D z ax;go_wp2;go_ret;exact⟨E,au.o⟩
  |
   true=>
   have z:=aC.o;simp only[Bool.true_eq_false,if_false]at z
   cases ok with
   |
    true=>
    simp only[if_true]at z;have D:=J.o 24 w4 z ρo Q.o;have E:=η1 D;clear D z ax;go_wp2;go_ret;exact⟨E,au.o⟩
   |
    false=>
    simp only[QI,if_false]at z;have q0:=Q.q0;have hl:=Q.mp.len_ (ty:=3) b0F;have⟨n,hn⟩:=η0 m.length;rw[hn]at hl z
    by_cases ac:128<=n
    ·have aR:(128:Int)<=(n:Int):=ρo
     rw[if_pos ac]at z;have D:=J.o 18 w4 z ρo Q.o;have E:=η1 D;clear D z ax hn;go_wp2;go_ret;exact⟨E,au.o⟩
    have aR:¬(128:Int)<=(n:Int):=ρo;rw[if_neg ac]at z;have aP:=η1 z;clear z hn ac;dsimp only;go_upto_region 10 with fail
    clear hl q0;have F:Fr (λ_=>False) w4 w4.drew:=(Qp _ _).drew;have⟨Z5,aQ⟩:=η0 w4.drew;rw[aQ]at F;have aG:=Q.fr F (λe=>e) (λe=>e) (λ_ e=>e.elim);have a1:=bR.fr F (λ_ e=>e.elim);have aL:=bt.fr F (λe=>e);have aN:=bz.fr F (λe=>e);have bq:=bQ.o;have ah:=a5.size;have bg:=F.size;have aK:=be.o Z5 a1 (λj hj=>by have:=bq j hj;omega);have aV:=au.trans F (λ_ _ e=>e.elim);have a6:Z5.cell? ⟨kb,0,none⟩=some (.map (some b))/\Blk Z5 g 31 G/\Blk Z5 (g+1) 214 S:=⟨aG.q0,aL,aN⟩;have⟨bE,bw,a8,bl,bK,bs⟩:=η6 aG aL aN aV a6 aQ;clear aG aL aN aV a6 aQ a1 F bq ah bg;refine a0s [(0,3),(1,3),(2,3),(4,3),(3,0),(5,0),(6,3),(7,0),(8,1),(9,2)] (λW=>W.cell? ⟨kb,0,none⟩=some (.map (some b))/\Blk W g 31 G/\Blk W (g+1) 214 S) ρk ρk ρk ρk (ρy bs.o bK.o) ?_;rw[bs.o];refine ε4 ?_
    iterate 2 refine θ2 (λW' hS=>QU hS.1 (aE.o W' hS.2.1)) ?_
    refine ε1 ?_
    refine θ1 (λW' hS=>ba.o W' hS.2.2) ?_
    refine κ ?_;intro K hK;refine μ1 aK ?_;rintro e w8 ⟨⟨A',c',rfl,bm,_⟩,ai⟩;have R:=bE.below ai;have aW:=φf bw ai;have bk:=φf a8 ai;have aU:w8.cell? ⟨kb,0,none⟩=some (.map (some b))/\Blk w8 g 31 G/\Blk w8 (g+1) 214 S:=⟨R.q0,aW,bk⟩
    have a4:a2E m k=none:=by
     have:=bh.o
     cases hg0:a2E m k with
     | none=>rfl
     | some v=>rw[hg0]at this;cases this
    obtain⟨w9,bv,bo,f9,bT⟩:=R.mp.put b0F (a:=k) bB.o ⟨x.c,A',c',x.ex⟩ a4;have bj:=R.ne;have V:=bD.o
    have T:a0z w9 kb b N (m++[(k,⟨x.c,A',c',x.ex⟩)]):=⟨R.st.fr f9 (λe=>bj e.symm),bo,λp hp=>by
     rcases Qq.1 hp with h1 | h1
     ·exact(R.bd p h1).fr f9 (λj hj=>by rw[hj];exact V)
     rw[Qn.1 h1];exact bm.fr f9 (λj hj=>by rw[hj];exact V)⟩
    have I:=aP.o;have D:b6K kb b N m k x (.returned (.int .i64 0)) w9:=⟨by rw[I],.inr ⟨I,A',c',T⟩⟩;have ad:=aA.o;have ah:=bl.size;have F9:=(bl.trans (Q9 ai) (λj hj e=>ρo)).trans f9 (λj hj e=>e);have aB:(Instr.mapUpdate 167 (.map (some b)) (.agg kv) (.agg (mkV ⟨x.c,A',c',x.ex⟩).toArray)).run prog w8=.ok () w9:=by rw[<-bJ.o];exact bv
    have⟨yb,aY⟩:=η0 ((mkV ⟨x.c,A',c',x.ex⟩).toArray);simp only[aY]at aB⊢;have⟨E,bN,bS⟩:=η3 D F9 aU;clear D F9 aU R aW bk a4 bv bo f9 bT bj V T I ad ah bm ai aY;with_reducible refine hK _ _ (bS.o) ?_;clear hK K
    refine τ1 ?_;refine ν ?_;clear aB;go_wp2;go_ret;exact⟨E,bN.o⟩
end
section
def a2F(x:Int):VL:=.iface 99 (.agg #[.int .i64 x])
abbrev c3U:=bdOf 99
theorem d1V(x:Int)(w:WD):(BDs 99 #[(0,.int .i64 x)]).run prog w=.ok (.agg #[.int .i64 x]) w:=run_build w _ _ _ ρk
attribute [local go_sem ↓] c3U
theorem a1o(w:WD):Calls prog 142 #[.int .i64 0] w λe w'=>e=.returned (.tuple #[])/\w=w':=by
 go_in;go_wp2_with fail;exact bodyPost_end (results_none rfl _ _ _) rfl ⟨rfl,rfl⟩
theorem a1m(x:Int)(a:x≠0)(w:WD):Calls prog 142 #[.int .i64 x] w λe w'=>e=.panicked [{v:=a2F x,recovered:=false}]/\w=w':=by
 have b:(x != 0)=true:=ρw a;have d:=d1V x w;go_in;go_wp2_with fail;exact⟨rfl,rfl,rfl⟩
theorem a0X(b:Bool)(x:Int)(w:WD):Calls prog 143 #[.bool b,.int .i64 x] w λe w'=>e=.returned (.int .i64 (if b=true then x else 0))/\w=w':=by
 cases b with
 |
  true=>
  go_in;go_wp2;go_ret;exact⟨rfl,rfl⟩
 |
  false=>
  go_in;go_wp2;go_ret;exact⟨rfl,rfl⟩
attribute [local go_sem ↓] a1W a1l a4z a4E a5P
theorem b9v(A:OA)(n c:Nat)(e:a1P)(a:e.Bd)(iss:Int)(h:a0D e=false\/4611686018427387904<iss)(w:WD):Calls prog 204 #[.slice A n c,.agg (a0x e).toArray,.int .u64 iss] w λx w'=>x=.returned (.tuple #[.slice none 0 0,.bool false])/\Below w w w':=by
 have o:=Qd w 34 (((a0x e).toArray));have z:=ρb w (.cells (((a0x e).toArray)) 34)
 generalize y:w.alloc (.cells (((a0x e).toArray)) 34)=W at o z
 have⟨K,j⟩:=ηs w;rw[j]at o;have m:=P4 b3q a8Q (a0x e) o (a0u a);have b:=a5H e a W
 generalize v:(a0x e).toArray=xs at y m b⊢
 have⟨r,B⟩:=η0 (a0D e);rw[B]at b
 have f:r=false\/(r=true/\4611686018427387904<iss):=by
  cases r with
  | false=>exact .inl rfl
  | true=>exact .inr ⟨rfl,h.elim (λh=>by rw[B]at h;cases h) id⟩
 have⟨F,D,p⟩:=η3 y j z;clear y j z v o B h
 rcases f with rfl | ⟨rfl,E⟩
 focus
  go_in;go_upto_region 1 with fail
  rw[F.o,D.o];go_wp2_with fail;refine μ1 b ?_;rintro J G ⟨H,rfl,_,d⟩;have g:=η1 d;clear d;go_wp2;go_ret2;exact⟨rfl,p.trans (g.mono p.size)⟩
 have I:decide (4611686018427387904<iss)=true:=ρw E;clear E;go_in;go_upto_region 1 with fail
 rw[F.o,D.o];go_wp2_with fail;refine μ1 b ?_;rintro J G ⟨H,rfl,_,d⟩;have g:=η1 d;clear d;go_wp2;go_ret2;exact⟨rfl,p.trans (g.mono p.size)⟩
theorem c1g(prev:a0Q)(a:prev.Bd)(first:Bool)(sh ep:Int)(w:WD):Calls prog 205 #[.agg (a0b prev).toArray,.bool first,.slice none 0 0,.int .i64 sh,.int .i64 ep] w λx w'=>x=.returned (.tuple #[.agg (a0b a1y).toArray,.bool false])/\Below w w w':=by
 have⟨r,m⟩:=ηs w;have J:=Qd w 37 (((a0b prev).toArray));have B:=ρb w (.cells (((a0b prev).toArray)) 37)
 generalize z:w.alloc (.cells (((a0b prev).toArray)) 37)=W at J B
 have f:W.heap.size=r+1:=by rw[<-z,Qi,m]
 have d:=a6H W;have D:=λX=>b2Y X
 have b:=a0f a1A;have j:=a1p a1y
 generalize v:a0b a1y=zs at d b j⊢
 simp only[v]at D;have p:=Qd W 37 zs.toArray;have E:Below w w (W.alloc (.cells zs.toArray 37)):=B.alloc B.size _
 generalize Q:W.alloc (.cells zs.toArray 37)=V at p E d
 rw[f]at p d;have O:=P9 a1h p (ρy Qc b) zs b j;have K:=p.row_ zs.toArray;have H:=Ql (g:=r+1) E ρo zs.toArray
 generalize y:(a0b prev).toArray=pv at z⊢
 have I:(ALs 37).run prog (w.alloc (.cells pv 37))=.ok (.pointer (r+1:Nat)) V:=by rw[z];exact d
 have⟨F,N,G,o⟩:=η4 K H m b;clear K H m b p E B J Q z d j v y f
 cases first with
 |
  true=>
  go_in;go_upto_region 1 with fail
  rw[G.o];go_wp2;exact bodyPost_ret (a0Z rfl _ _ (r+1) 37 zs F a1S (ρy o.o a1h) rfl (.bool false)) rfl ⟨rfl,N.o⟩
 |
  false=>
  go_in;go_upto_region 1 with fail
  rw[G.o];go_wp2;exact bodyPost_ret (a0Z rfl _ _ (r+1) 37 zs F a1S (ρy o.o a1h) rfl (.bool false)) rfl ⟨rfl,N.o⟩
end
section
def a0O(e:Int)(has:Bool)(c:a0y)(A:OA)(cap:Nat):LV:=[.int .i64 e,.bool has]++a0d c A cap
theorem a0A{c:a0y}(h:c.Bd)(e:Int)(has:Bool)(A:OA)(cap:Nat):(a0O e has c A cap).length=139:=by simp[a0O,a0l h]
theorem a0W(e:Int)(has:Bool)(c:a0y)(A:OA)(cap:Nat):∀v∈a0O e has c A cap,v.oneCell'=true:=by
 intro v a
 rcases Qq.1 a with h | h
 ·simp only[Qo,Qt,or_false]at h
  rcases h with rfl | rfl<;>rfl
 exact a2C _ _ _ v h
abbrev a7d:=ldOf 41
abbrev a1M:=stOf 41
abbrev a1G:=alOf 41
abbrev c1Z:=bdOf 41
theorem a7w:(prog.underlying 41).map a1f=some true:=ρk
theorem a4h:(prog.info? 41).map (·.size)=some 139:=ρk
theorem a5k(w:WD):(ALs 41).run prog w=.ok (.pointer w) (w.alloc (.cells (a0O 0 false a0r none 0).toArray 41)):=a0U (.agg (a0O 0 false a0r none 0).toArray) ρk w
theorem d2M:(((prog.info? 41).bind (·.zero)).map (·.cells.toList))=some (a0O 0 false a0r none 0):=ρk
theorem d2R:a3s prog 41=some [(0,1),(1,1),(2,137)]:=ρk
theorem d0h{c:a0y}(h:c.Bd)(A:OA)(cap:Nat)(w:WD):(BDs 41 #[(1,.bool true),(2,.agg (a0d c A cap).toArray)]).run prog w=.ok (.agg (a0O 0 true c A cap).toArray) w:=by
 have b:=a0l h A cap;have a:=a0l a0B none 0;refine a2H d2R d2M _ _ ?_ w;rw[a0v (off:=1) (size:=1) rfl rfl (by simp[a0O]),a0v (off:=2) (size:=137) rfl (by simp[Value.cells,b]) (by simp[a0O,Value.cells,a]),a1Y]
 congr 1
 unfold a0O
 generalize d:a0d a0r none 0=z at a⊢
 simp[Value.cells,a]
theorem c6i(x:Int)(w:WD):(BDs 41 #[(0,.int .i64 x)]).run prog w=.ok (.agg (a0O x false a0r none 0).toArray) w:=run_build w _ _ _ ρk
theorem d0l(w:WD):(BDs 41 #[]).run prog w=.ok (.agg (a0O 0 false a0r none 0).toArray) w:=run_build w _ _ _ ρk
attribute [local go_sem ↓] a1D a7d a1M a1G c1Z
theorem a5d(c:a0y)(h:c.Bd)(A:OA)(cap:Nat)(w:WD):Calls prog 146 #[.agg (a0d c A cap).toArray] w λe w'=>e=.returned (.agg (a0O 0 true c A cap).toArray)/\Below w w w':=by
 have⟨g,D⟩:=ηs w;have F:=Qd w 39 (((a0d c A cap).toArray));have G:=ρb w (.cells (((a0d c A cap).toArray)) 39)
 generalize E:w.alloc (.cells (((a0d c A cap).toArray)) 39)=W at F G
 rw[D]at F;have x:W.heap.size=g+1:=by rw[<-E,Qi,D]
 have a:=a5k W;have j:=a0A a0B 0 false none 0;have⟨B,y⟩:=η0 (a0O 0 false a0r none 0);rw[y]at a j;have f:=F.alloc (.cells B.toArray 41);have r:=Qd W 41 B.toArray;have O:Below w w (W.alloc (.cells B.toArray 41)):=G.alloc G.size _
 generalize hV:W.alloc (.cells B.toArray 41)=V at f r O a
 rw[x]at r a;have Q:=P4 a8j a4U (a0d c A cap) f (a0l h A cap);have R:=d0h h A cap V;have b:=a0A h 0 true A cap;have I:=P9 a4h r (ρy Qc j) (a0O 0 true c A cap) b (a0W _ _ _ _ _);have N:=r.row_ (a0O 0 true c A cap).toArray;have K:=Ql (g:=g+1) O ρo (a0O 0 true c A cap).toArray;have⟨X,z⟩:=η0 ((a0d c A cap).toArray);have⟨T,p⟩:=η0 (a0O 0 true c A cap);rw[z]at E Q R⊢;rw[p]at R b I N K⊢;have S:(ALs 41).run prog (w.alloc (.cells X 39))=.ok (.pointer (g+1:Nat)) V:=by rw[E];exact a
 obtain⟨Z,o,d⟩:=Q8.1 a7w;have⟨U,Q6,Y,J,H,m⟩:=η6 N K D b o d;clear N K D b o d r O G F f hV E a j y z p x;go_in;go_upto_region 1 with fail
 rw[Y.o];go_wp2;refine bodyPost_ret (v:=.agg T.toArray) (a0c rfl _ _ (g+1) _ T Z rfl U H m (ρy J.o a4h)) rfl ?_;exact⟨rfl,Q6.o⟩
end
def c7h(ns:Nat)(l:LL)(e:Ending):Prop:=∃r,e=.returned (.bool r)/\(r=false->l.length<=20/\ns<=60/\∀x∈l,x.length<=3000)
theorem b0C(b:OA)(a cs:Nat)(A:OA)(c:Nat)(l:LL)(d:l.length<=9223372036854775807)(w:WD)(h:Txs w A l):Calls prog 9 #[.slice b a cs,.slice A l.length c,.int .i64 20] w λe w'=>c7h a l e/\w=w':=by
 generalize P:l.length=n
 have W:n<=9223372036854775807:=ρo;have⟨J,V⟩:=η2 P h;clear P h d;go_in;go_upto_region 2 with fail
 go_loopg [7] 20 (λS s wr=>∃i:Nat,i+S=20/\s=.int .i64 i/\i<=n/\w=wr/\∀x∈l.take i,x.length<=3000);exact⟨0,by omega,rfl,by omega,rfl,by simp⟩;obtain⟨i,hi,rfl,T,rfl,f⟩:=hrel
 by_cases F:i<n
 ·have N:(i:Int)<n:=ρo
  by_cases H:i<20
  ·have r:(i:Int)<20:=ρo
   have y:i<l.length:=by rw[J.o];exact F
   obtain⟨g,off,rfl,Z,A',Y,X,-,-⟩:=V.o i y;have⟨m,v⟩:=η0 (l[i].length);rw[v]at X;have⟨j,I⟩:=η2 f v;clear f v
   by_cases O:3000<m
   ·have E:(3000:Int)<(m:Int):=ρo
    go_wp2;go_ret;exact⟨⟨true,rfl,λe=>by cases e⟩,rfl⟩
   have E:¬((3000:Int)<(m:Int)):=ρo;go_wp2;go_roundg (20-(i+1))
   case measure=>omega
   case rel=>exact⟨i+1,by omega,by go_num,by omega,rfl,λx D=>by
    rw[Qe y]at D
    rcases Qq.1 D with G | G
    ·exact j.o x G
    rw[Qn.1 G,I.o];omega⟩
  have r:¬((i:Int)<20):=ρo;have o:(20:Int)<(n:Int):=ρo;have B:decide ((i:Int)<20)=false:=ρw r;have j:=η1 f;clear f;go_wp2;go_ret;exact⟨⟨true,rfl,λe=>by cases e⟩,rfl⟩
 have K:¬((i:Int)<n):=ρo;have U:decide ((i:Int)<n)=false:=ρw K;have Q:i=n:=ρo
 by_cases H:20<n
 ·have o:(20:Int)<(n:Int):=ρo
  omega
 have o:¬((20:Int)<(n:Int)):=ρo;have B:decide ((20:Int)<(n:Int))=false:=ρw o
 by_cases R:60<a
 ·have p:(60:Int)<(a:Int):=ρo
  have z:decide ((60:Int)<(a:Int))=true:=ρw p;have j:=η1 f;clear f;go_wp2;go_ret;exact⟨⟨true,rfl,λe=>by cases e⟩,rfl⟩
 have p:¬((60:Int)<(a:Int)):=ρo;have z:decide ((60:Int)<(a:Int))=false:=ρw p;have j:=η1 f;clear f;go_wp2;go_ret;exact⟨⟨false,rfl,λ_=>⟨by rw[J.o];omega,by omega,λx D=>j.o x (by rw[Qb (by rw[J.o];omega)];exact D)⟩⟩,rfl⟩
section
structure ShD where
 me:Int
 n:Int
 ep:Int
 ser:Int
 iss:Int
 fees:Int
 h:a0Q
 C:List (Pt×a1q)
 sC:Int
 L:List (Pt×a1J)
 sL:Int
 M:List (Ke×MkD)
structure ShB where
 rp:Nat
 cb:Nat
 cm:Nat
 lb:Nat
 lm:Nat
 kb:Nat
 km:Nat
def ShB.own(b:ShB):List Nat:=[b.cb,b.cm,b.lb,b.lm,b.kb,b.km]
def shV(x:ShD)(b:ShB):LV:=
 [.int .i64 x.me,.int .i64 x.n,.pointer b.rp,.int .i64 x.ep,.int .i64 x.ser,.int .u64 x.iss,.int .u64 x.fees,.pointer b.cb,.pointer b.lb,.pointer b.kb]++a0b x.h
theorem b3p{x:ShD}(h:x.h.Bd)(b:ShB):(shV x b).length=77:=by simp[shV,a0f h]
theorem c2Z(x:ShD)(b:ShB):∀v∈shV x b,v.oneCell'=true:=by
 intro v a
 rcases Qq.1 a with h | h
 ·simp only[Qo,Qt,or_false]at h
  rcases h with rfl | rfl | rfl | rfl | rfl | rfl | rfl | rfl | rfl | rfl<;>rfl
 exact a1p _ v h
theorem d0G(x:ShD)(b:ShB)(v:Int):(shV x b).toArray.setIfInBounds 3 (.int .i64 v)=(shV {x with ep:=v} b).toArray:=by simp[shV]
theorem c6T(x:ShD)(b:ShB)(v:Int):(shV x b).toArray.setIfInBounds 4 (.int .i64 v)=(shV {x with ser:=v} b).toArray:=by simp[shV]
theorem c7C(x:ShD)(b:ShB)(v:Int):(shV x b).toArray.setIfInBounds 5 (.int .u64 v)=(shV {x with iss:=v} b).toArray:=by simp[shV]
theorem c5E(x:ShD)(b:ShB)(v:Int):(shV x b).toArray.setIfInBounds 6 (.int .u64 v)=(shV {x with fees:=v} b).toArray:=by simp[shV]
theorem c3H{x:ShD}(a:x.h.Bd)(b:ShB){h:a0Q}(d:h.Bd):a1d (shV x b).toArray 10 (a0b h)=(shV {x with h:=h} b).toArray:=by
 have f:=a0f a;have g:=a0f d;unfold shV a1d;simp[QR,f,g]
theorem Blk.apart{g':Nat}{t d:TI}{cs b:AV}(h:Blk w g t cs)(a:Blk w g' d b)(ht:t≠d):g≠g':=by
 rintro rfl;unfold Blk at h a;rw[h]at a;simp only[Option.some.injEq,Obj.cells.injEq]at a;exact ht a.2.1
def a9r(w:WD)(N:List Nat)(p:Nat)(seed:LI)(k:Nat):Prop:=∃A c,Blk w p 159 #[.slice A k c]/\RdR 32 w A ((List.range k).map λ(i:Nat)=>bys (a4X seed (i:Int)))/\p ∉ N/\∀a,A=some a->a.block<w.heap.size/\a.block ∉ N
theorem a9r.at_(h:a9r w N p seed k):a5n w p seed k:=by
 obtain⟨A,c,b,a,_⟩:=h;exact⟨A,c,b,a⟩
theorem a9r.fr{w d:WD}{N:List Nat}{p:Nat}{seed:LI}{k:Nat}{F:Nat->Prop}(h:a9r w N p seed k)(b:Fr F w d)(f:∀j,F j->j∈N):a9r d N p seed k:=by
 obtain⟨A,c,v,r,o,m⟩:=h;exact⟨A,c,v.fr b (λe=>o (f _ e)),r.frY b (λa g e=>(m a g).2 (f _ e)),o,λa g=>⟨Qh (m a g).1 b.size,(m a g).2⟩⟩
theorem a9r.below{w d:WD}{N:List Nat}{p:Nat}{seed:LI}{k:Nat}(h:a9r w N p seed k)(b:Below w w d):a9r d N p seed k:=by
 obtain⟨A,c,j,m,o,g⟩:=h;exact⟨A,c,j.fr (Q9 b) (ρh j.lt),m.below b,o,λa f=>⟨Qh (g a f).1 b.size,(g a f).2⟩⟩
theorem a9r.far_{b:List Nat}(h:a9r w N p seed k)(d:∀j,j<w.heap.size->j∈b->j∈N):a9r w b p seed k:=by
 obtain⟨A,c,o,r,v,m⟩:=h;exact⟨A,c,o,r,λf=>v (d _ o.lt f),λa g=>⟨(m a g).1,λf=>(m a g).2 (d _ (m a g).1 f)⟩⟩
structure b9N(x:ShD):Prop where
 me:0<=x.me/\x.me<x.n
 n:x.n<=16
 ep:0<=x.ep/\x.ep<=1099511627776
 ser:0<=x.ser/\x.ser<=1099511627776
 iss:0<=x.iss/\x.iss<=4611686018427387904
 fees:0<=x.fees/\x.fees<=4611686018427387904
 sC:0<=x.sC/\x.sC<=18446744073709551615
 sL:0<=x.sL/\x.sL<=18446744073709551615
 h:x.h.Bd
 head:x.h=a1y\/(a0w x.h=true/\x.h.sh=x.me)
 lC:x.C.length<=256
 lL:x.L.length<=64
 lM:x.M.length<=128
structure a1e(w:WD)(sb:Nat)(b:ShB)(N:List Nat)(seed:LI)(x:ShD):Prop where
 st:Blk w sb 94 (shV x b).toArray
 co:a0i w b.cb b.cm x.C x.sC
 lo:a0j w b.lb b.lm x.L x.sL
 ma:a0z w b.kb b.km N x.M
 rg:a9r w N b.rp seed x.n.toNat
 sub:∀j∈sb::b.own,j∈N
 lt:∀j∈N,j<w.heap.size
 ok:b9N x
 ap:b.cm≠b.lm/\b.cm≠b.km/\b.lm≠b.km
section
variable {w w':WD} {sb:Nat} {b:ShB} {N:List Nat} {seed:LI} {x:ShD}
theorem a1e.below(h:a1e w sb b N seed x)(a:Below w w w'):a1e w' sb b N seed x:=
 ⟨h.st.fr (Q9 a) (ρh h.st.lt),h.co.below a,h.lo.below a,h.ma.below a,h.rg.below a,h.sub,λj hj=>Qh (h.lt j hj) a.size,h.ok,h.ap⟩
theorem a1e.drew(h:a1e w sb b N seed x):a1e w.drew sb b N seed x:=h.below (Qf _ _).drew
theorem a0i.ne_blk{cb a g:Nat}{t:TI}{cs:AV}{m:List (Pt×a1q)}{s:Int}(h:a0i w cb a m s)(b:Blk w g t cs):a≠g:=h.mp.ne_blk b
theorem a1e.sb_cb(h:a1e w sb b N seed x):sb≠b.cb:=h.st.apart h.co.st ρd
theorem a1e.sb_lb(h:a1e w sb b N seed x):sb≠b.lb:=h.st.apart h.lo.st ρd
theorem a1e.sb_kb(h:a1e w sb b N seed x):sb≠b.kb:=h.st.apart h.ma.st ρd
theorem a1e.sb_cm(h:a1e w sb b N seed x):b.cm≠sb:=h.co.mp.ne_blk h.st
theorem a1e.sb_lm(h:a1e w sb b N seed x):b.lm≠sb:=h.lo.mp.ne_blk h.st
theorem a1e.sb_km(h:a1e w sb b N seed x):b.km≠sb:=h.ma.mp.ne_blk h.st
theorem a1e.upd(h:a1e w sb b N seed x){y:ShD}(a:Fr (λk=>k=sb) w w')(d:Blk w' sb 94 (shV y b).toArray)(f:b9N y)(o:y.C=x.C)(g:y.sC=x.sC)(p:y.L=x.L)(m:y.sL=x.sL)(r:y.M=x.M)(v:y.n=x.n):a1e w' sb b N seed y:=by
 refine⟨d,?_,?_,?_,?_,h.sub,λj z=>Qh (h.lt j z) a.size,f,h.ap⟩
 ·rw[o,g];exact h.co.fr a (λe=>h.sb_cb e.symm) h.sb_cm
 ·rw[p,m];exact h.lo.fr a (λe=>h.sb_lb e.symm) h.sb_lm
 ·rw[r];exact h.ma.fr a (λe=>h.sb_kb e.symm) h.sb_km (λk e=>by rw[e];exact h.sub _ Qr)
 rw[v];exact h.rg.fr a (λk e=>by rw[e];exact h.sub _ Qr)
theorem a1e.c(h:a1e w sb b N seed x):w.cell? ⟨sb,0,none⟩=some (.int .i64 x.me)/\w.cell? ⟨sb,1,none⟩=some (.int .i64 x.n)/\w.cell? ⟨sb,2,none⟩=some (.pointer b.rp)/\w.cell? ⟨sb,3,none⟩=some (.int .i64 x.ep)/\w.cell? ⟨sb,4,none⟩=some (.int .i64 x.ser)/\w.cell? ⟨sb,5,none⟩=some (.int .u64 x.iss)/\w.cell? ⟨sb,6,none⟩=some (.int .u64 x.fees)/\w.cell? ⟨sb,7,none⟩=some (.pointer b.cb)/\w.cell? ⟨sb,8,none⟩=some (.pointer b.lb)/\w.cell? ⟨sb,9,none⟩=some (.pointer b.kb)/\w.cell? ⟨sb,11,none⟩=some (.int .i64 x.h.ht):=
 ⟨(h.st.cell 0).trans rfl,(h.st.cell 1).trans rfl,(h.st.cell 2).trans rfl,(h.st.cell 3).trans rfl,(h.st.cell 4).trans rfl,(h.st.cell 5).trans rfl,(h.st.cell 6).trans rfl,(h.st.cell 7).trans rfl,(h.st.cell 8).trans rfl,(h.st.cell 9).trans rfl,(h.st.cell 11).trans rfl⟩
theorem a1e.ldh(h:a1e w sb b N seed x):(LDs 37 (.pointer (some ⟨sb,10,none⟩))).run prog w=.ok (.agg (a0b x.h).toArray) w:=by
 have a:=a0f h.ok.h;exact P6 a1S a1h h.st (off:=10) (a0b x.h) a (by simp[shV,Qb,a])
end
theorem c5h(a:Nat)(b:ShB)(N:List Nat)(seed:LI)(x:ShD)(w:WD)(h:a1e w a b N seed x):Calls prog 17 #[.pointer a] w λe w'=>e=.returned (.int .i64 x.ep)/\w=w':=by
 have d:=h.c.2.2.2.1;clear h;go_in;go_wp2;go_ret;exact⟨rfl,rfl⟩
theorem b0A(a:Nat)(b:ShB)(N:List Nat)(seed:LI)(x:ShD)(w:WD)(h:a1e w a b N seed x):Calls prog 151 #[.pointer a] w λe w'=>e=.returned (.bool (decide (128<=x.M.length)))/\w=w':=by
 have g:=h.c.2.2.2.2.2.2.2.2.2.1;have d:=c1b b.kb b.km N x.M w h.ma;have hd:decide (128<=x.M.length)=decide ((128:Int)<=(x.M.length:Int)):=by rw[decide_eq_decide];omega
 rw[hd]
 generalize f:x.M.length=n at d⊢
 clear h f hd;go_in;go_wp2_with fail;refine μf d ?_;go_wp2;go_ret;exact⟨rfl,rfl⟩
end
theorem c8K{a c:Int}(b:0<=a)(d:0<=c)(h:(a5b a c).2=0):(a5b a c).1=a+c/\a+c<=4611686018427387904:=by
 unfold a5b at h⊢
 split
 ·rename_i hc
  rw[if_pos hc]at h;simp at h
 rename_i hc
 exact⟨rfl,by omega⟩
theorem c6u(d:Nat)(b:ShB)(N:List Nat)(seed:LI)(x:ShD)(n:Int)(f:0<=n/\n<=18446744073709551615)(w:WD)(h:a1e w d b N seed x)(a:(a5b x.fees n).2≠0):Calls prog 153 #[.pointer d,.int .u64 n] w λe w'=>e=.panicked [{v:=a2F (a5b x.fees n).2,recovered:=false}]/\Below w w w':=by
 have D:=h.c.2.2.2.2.2.2.1;have y:=h.ok.fees;have g:=a8G x.fees n ρo f w
 generalize m:a5b x.fees n=ad at g a⊢
 obtain⟨E,z⟩:=ad;simp only at g a⊢;have r:=λW=>a1m z a W
 clear h y f m;go_in;go_wp2_with fail;refine μi g ?_;intro B j;have p:=r B;have o:=η1 j;clear j r;go_wp2_with fail;refine μf p ?_;exact⟨rfl,rfl,o.o⟩
theorem c6J(a:Nat)(b:ShB)(N:List Nat)(seed:LI)(x:ShD)(n:Int)(d:0<=n/\n<=18446744073709551615)(w:WD)(h:a1e w a b N seed x)(f:(a5b x.fees n).2=0):Calls prog 153 #[.pointer a,.int .u64 n] w λe w'=>e=.returned (.tuple #[])/\a1e w' a b N seed {x with fees:=x.fees+n}/\Fr (λk=>k=a) w w':=by
 have q6:=h.c.2.2.2.2.2.2.1;have V:=h.ok.fees;have g:=a8G x.fees n ρo d w;obtain⟨Y,U⟩:=c8K V.1 d.1 f;rw[f,Y]at g;have X:=λW=>a1o W
 have r:b9N {x with fees:=x.fees+n}:={h.ok with fees:=⟨by show 0<=x.fees+n;omega,U⟩};have⟨y,m⟩:=η0 ({x with fees:=x.fees+n});have j:=c5E x b (x.fees+n);rw[m]at j r⊢;have E:=λ(W T:WD) (hW:a1e W a b N seed x) (hF:Fr (λk=>k=a) W T) (hS:Blk T a 94 (shV y b).toArray)=>hW.upd hF hS r (by rw[<-m]) (by rw[<-m]) (by rw[<-m]) (by rw[<-m]) (by rw[<-m]) (by rw[<-m])
 have v:=h.st.lt;have⟨HH,S,F,J⟩:=η4 h E j v;clear h E j v r m Y U f V d;go_in;go_wp2_with fail;refine μ1 g ?_;rintro e I ⟨rfl,o⟩;have O:=X I;have B:=HH.below o;have q2:=B.c.2.2.2.2.2.2.1;have z2:=B.st.frozen 6;have K:=B.st.set_ 6 (.int .u64 (x.fees+n));rw[F.o]at K;have R:Fr (λk=>k=a) I (I.setCell ⟨a,6,none⟩ (.int .u64 (x.fees+n))):=(Qp (λk=>k=a) I).setCell (p:=⟨a,6,none⟩) (λ_=>rfl) _;have z:=S.o _ _ B R K;have H:=J.o;have Z:=((Q9 o).mono (G:=λk=>k=a) (λk hk e=>ρo)).trans R (λk hk e=>e);have⟨P,Q⟩:=η2 z Z;clear z Z B K R X H o q6 g;go_wp2_with fail;refine μf O ?_;go_wp2_with fail;exact bodyPost_end (results_none rfl _ _ _) rfl ⟨rfl,P.o,Q.o⟩
def b1e(x:ShD)(n:Int):Bool:=decide (256<(x.C.length:Int)+(x.L.length:Int)+n)
theorem b5T(a:Nat)(b:ShB)(N:List Nat)(seed:LI)(x:ShD)(n:Int)(f:0<=n/\n<=1000000)(w:WD)(h:a1e w a b N seed x)(d:b1e x n=true):Calls prog 145 #[.pointer a,.int .i64 n] w λe w'=>e=.panicked [{v:=a2F 18,recovered:=false}]/\Below w w w':=by
 have g:=h.drew;have m:Below w w w.drew:=(Qf _ _).drew;have y:=h.ok.lC;have z:=h.ok.lL;have⟨X,O⟩:=η0 w.drew;rw[O]at g m;have Q:=g.c.2.2.2.2.2.2.2.1;have R:=g.c.2.2.2.2.2.2.2.2.1;have E:=b4j b.cb b.cm x.C x.sC X g.co;have r:=b1f b.lb b.lm x.L x.sL X g.lo;unfold b1e at d;have⟨G,p⟩:=η0 x.C.length;have⟨H,D⟩:=η0 x.L.length;rw[p]at E d y;rw[D]at r d z;have T:IntKind.i64.wrap ((G:Int)+H)=(G:Int)+H:=by rw[IntKind.wrap_i64];omega
 have V:IntKind.i64.wrap ((G:Int)+H+n)=(G:Int)+H+n:=by rw[IntKind.wrap_i64];omega
 have o:=a0X true 18 X;have P:=a1m 18 ρo X;have F:X.cell? ⟨a,7,none⟩=some (.pointer b.cb)/\X.cell? ⟨a,8,none⟩=some (.pointer b.lb):=⟨Q,R⟩;simp only[if_true]at o;have⟨B,S,I⟩:=η3 F O m;clear F O m h g Q R y z p D f;go_in;refine a3Y [(0,3),(1,3),(2,3),(5,3),(6,3),(7,3),(11,3),(3,0),(8,0),(4,1),(9,2),(10,3),(12,3),(13,3),(14,2),(15,2)] (λW=>W.cell? ⟨a,7,none⟩=some (.pointer b.cb)/\W.cell? ⟨a,8,none⟩=some (.pointer b.lb)) ρk ρk ρk ρk (ρy S.o B.o) ?_;rw[S.o];refine ε7 ?_
 iterate 2 refine θ2 (λY F=>QU F.1 F.2) ?_
 refine κ ?_;intro K j;refine μf E ?_;with_reducible refine j _ _ (B.o) ?_;clear j K
 refine τ ?_;intro K j;refine μf r ?_;with_reducible refine j _ _ ?_;clear j K
 refine ε3 ?_;refine τ ?_;intro K j;refine μf o ?_;with_reducible refine j _ _ ?_;clear j K
 refine τ ?_;intro K j;refine μf P ?_;exact λU J=>⟨J,rfl,I.o⟩
theorem b6o(a:Nat)(b:ShB)(N:List Nat)(seed:LI)(x:ShD)(n:Int)(f:0<=n/\n<=1000000)(w:WD)(h:a1e w a b N seed x)(d:b1e x n=false):Calls prog 145 #[.pointer a,.int .i64 n] w λe w'=>e=.returned (.tuple #[])/\Below w w w':=by
 have g:=h.drew;have m:Below w w w.drew:=(Qf _ _).drew;have v:=h.ok.lC;have y:=h.ok.lL;have⟨X,I⟩:=η0 w.drew;rw[I]at g m;have O:=g.c.2.2.2.2.2.2.2.1;have P:=g.c.2.2.2.2.2.2.2.2.1;have D:=b4j b.cb b.cm x.C x.sC X g.co;have r:=b1f b.lb b.lm x.L x.sL X g.lo;unfold b1e at d;have⟨F,p⟩:=η0 x.C.length;have⟨G,B⟩:=η0 x.L.length;rw[p]at D d v;rw[B]at r d y;have R:IntKind.i64.wrap ((F:Int)+G)=(F:Int)+G:=by rw[IntKind.wrap_i64];omega
 have S:IntKind.i64.wrap ((F:Int)+G+n)=(F:Int)+G+n:=by rw[IntKind.wrap_i64];omega
 have o:=a0X false 18 X;have J:=a1o X;have E:X.cell? ⟨a,7,none⟩=some (.pointer b.cb)/\X.cell? ⟨a,8,none⟩=some (.pointer b.lb):=⟨O,P⟩;simp only[QI,if_false]at o;have⟨z,Q,H⟩:=η3 E I m;clear E I m h g O P v y p B f;go_in;refine a3Y [(0,3),(1,3),(2,3),(5,3),(6,3),(7,3),(11,3),(3,0),(8,0),(4,1),(9,2),(10,3),(12,3),(13,3),(14,2),(15,2)] (λW=>W.cell? ⟨a,7,none⟩=some (.pointer b.cb)/\W.cell? ⟨a,8,none⟩=some (.pointer b.lb)) ρk ρk ρk ρk (ρy Q.o z.o) ?_;rw[Q.o];refine ε7 ?_
 iterate 2 refine θ2 (λT E=>QU E.1 E.2) ?_
 refine κ ?_;intro K j;refine μf D ?_;with_reducible refine j _ _ (z.o) ?_;clear j K
 refine τ ?_;intro K j;refine μf r ?_;with_reducible refine j _ _ ?_;clear j K
 refine ε3 ?_;refine τ ?_;intro K j;refine μf o ?_;with_reducible refine j _ _ ?_;clear j K
 refine τ ?_;intro K j;refine μf J ?_;with_reducible refine j _ _ ?_;clear j K
 with_reducible refine a1N ?_
 rw[a0V];go_wp2_with fail;exact bodyPost_end (results_none rfl _ _ _) rfl ⟨rfl,H.o⟩
section
abbrev c0U:=ldOf 94
abbrev c1T:=stOf 94
abbrev c8C:=alOf 94
theorem uSh:(prog.underlying 94).map a1f=some true:=ρk
theorem iSh:(prog.info? 94).map (·.size)=some 77:=ρk
theorem zSh:(((prog.info? 94).bind (·.zero)).map (·.cells.size))=some 77:=ρk
def cpB(rp g:Nat):ShB:=⟨rp,g+2,g+1,g+4,g+3,g+6,g+5⟩
theorem c9I(x:ShD)(b:ShB)(g:Nat):(((shV x b).toArray.setIfInBounds 7 (.pointer (g+2:Nat))).setIfInBounds 8 (.pointer (g+4:Nat))).setIfInBounds 9 (.pointer (g+6:Nat))=(shV x (cpB b.rp g)).toArray:=by simp[shV,cpB]
attribute [local go_sem ↓] c0U c1T c8C
theorem c9d(a:Nat)(b:ShB)(N:List Nat)(seed:LI)(x:ShD)(w:WD)(h:a1e w a b N seed x):Calls prog 32 #[.pointer a] w λe w'=>e=.returned (.pointer w)/\a1e w' w.heap.size (cpB b.rp w.heap.size) (a::w.heap.size::((cpB b.rp w.heap.size).own++N)) seed x/\Below w w w'/\w'.heap.size=w.heap.size+7:=by
 generalize hg:w.heap.size=g
 have Q:=h.st.lt;rw[hg]at Q;have ay:=b3p h.ok.h b;obtain⟨Z,aG,af,hz⟩:=P8 (t:=94) iSh zSh;have aE:=P4 uSh iSh (shV x b) h.st ay;have aj:=aG w;have aa:=af w (shV x b) ay (c2Z x b);rw[hg]at aj aa;have bV:=Qd w 94 (shV x b).toArray;rw[hg]at bV;have BV:=ρb w (.cells (shV x b).toArray 94);have⟨V,hV⟩:=η0 (w.alloc (.cells (shV x b).toArray 94));have aM:V.heap.size=g+1:=by rw[<-hV,Qi,hg]
 rw[hV]at bV BV aa;have y:=(h.below BV).drew;have BX:Below w w V.drew:=BV.drew;have bX:Blk V.drew g 94 (shV x b).toArray:=bV.drew;have ac:V.drew.heap.size=g+1:=aM;have⟨X,hX⟩:=η0 V.drew;rw[hX]at y BX bX ac;have aI:X.cell? ⟨a,7,none⟩=some (.pointer b.cb)/\X.cell? ⟨a,8,none⟩=some (.pointer b.lb)/\X.cell? ⟨a,9,none⟩=some (.pointer b.kb):=⟨y.c.2.2.2.2.2.2.2.1,y.c.2.2.2.2.2.2.2.2.1,y.c.2.2.2.2.2.2.2.2.2.1⟩;have c1:=a9h b.cb b.cm x.C x.sC X y.co;have c2:=λW (hW:a1e W a b N seed x)=>b9y b.lb b.lm x.L x.sL W hW.lo
 have c3:=λW (hW:a1e W a b N seed x)=>b9h b.kb b.km N x.M W hW.ma
 rw[ac]at c1;simp only[show g+1+1=g+2 from rfl,show g+1+2=g+3 from rfl]at c1;have⟨sv,G⟩:=η0 ((shV x b).toArray);have ar:sv[7]? =some (.pointer b.cb):=by rw[<-G];rfl
 have aq:∀v,(sv.setIfInBounds 7 v)[8]? =some (.pointer b.lb):=λv=>by rw[<-G];rfl
 have ag:∀u v,((sv.setIfInBounds 7 u).setIfInBounds 8 v)[9]? =some (.pointer b.kb):=λu v=>by rw[<-G];rfl
 have av:=c9I x b g;rw[G]at av aa aE bX;have⟨aS,HX,a0,a4,a1,aH,aX,aU⟩:=η8 aI hX y BX bX ac c2 c3;have⟨HG,a6,H7,H8,H9,aW,HH⟩:=η7 hg Q ar aq ag av h;clear aI hX y BX bX ac c2 c3 hg Q ar aq ag av h G hV aM BV bV ay aG af hz;go_in;go_upto_region 2 with fail
 clear aE aj aa;refine a0s [(0,3),(1,3),(2,3),(5,3),(6,3),(7,3),(10,3),(11,3),(12,3),(3,0),(8,0),(13,0),(4,1),(9,1),(14,2),(15,3),(16,2),(17,3),(18,2),(19,3),(20,2)] (λW=>W.cell? ⟨a,7,none⟩=some (.pointer b.cb)/\W.cell? ⟨a,8,none⟩=some (.pointer b.lb)/\W.cell? ⟨a,9,none⟩=some (.pointer b.kb)) ρk ρk ρk ρk (ρy HX.o aS.o) ?_;rw[HX.o];refine ε7 ?_;refine ε2 ?_
 iterate 3 refine θ3 (λW' hS=>QU hS.1 (QU hS.2.1 hS.2.2)) ?_
 refine κ ?_;intro K m;refine μ1 c1 ?_;rintro e w4 ⟨rfl,H,az,E⟩;have h4:=a0.below (az.mono (Nat.le_of_eq aH));have aQ:w4.cell? ⟨a,7,none⟩=some (.pointer b.cb)/\w4.cell? ⟨a,8,none⟩=some (.pointer b.lb)/\w4.cell? ⟨a,9,none⟩=some (.pointer b.kb):=⟨h4.c.2.2.2.2.2.2.2.1,h4.c.2.2.2.2.2.2.2.2.1,h4.c.2.2.2.2.2.2.2.2.2.1⟩;have c2:=aX.o w4 h4;rw[E]at c2;simp only[show g+3+1=g+4 from rfl,show g+3+2=g+5 from rfl]at c2;have⟨a3,a2,aK,a8,aL⟩:=η5 H az E h4 aQ;clear H az E h4 aQ c1;with_reducible refine m _ _ (aL.o) ?_;clear m K
 refine κ ?_;intro K m;refine μ1 c2 ?_;rintro e w9 ⟨rfl,O,aB,F⟩;have ak:=aK.o;have h9:=a8.below (aB.mono (Nat.le_of_eq ak));have aD:w9.cell? ⟨a,7,none⟩=some (.pointer b.cb)/\w9.cell? ⟨a,8,none⟩=some (.pointer b.lb)/\w9.cell? ⟨a,9,none⟩=some (.pointer b.kb):=⟨h9.c.2.2.2.2.2.2.2.1,h9.c.2.2.2.2.2.2.2.2.1,h9.c.2.2.2.2.2.2.2.2.2.1⟩;have c3:=aU.o w9 h9;rw[F]at c3;simp only[show g+5+1=g+6 from rfl,show g+5+2=g+7 from rfl]at c3;have⟨aY,aT,a7,a9,aN⟩:=η5 O aB F h9 aD;clear O aB F h9 aD c2 ak;with_reducible refine m _ _ (aN.o) ?_;clear m K
 refine τ ?_;intro K m;refine μ1 c3 ?_;rintro e f ⟨rfl,aA,ai,ah⟩;have aP:=HG.o;have Q:=a6.o;have E:=aK.o;have F:=a7.o;have aR:=aH.o;have R:Below w4 w4 w9:=aT.mono (Nat.le_of_eq E);have r:Below w9 w9 f:=ai.mono (Nat.le_of_eq F);have S:Below X X w4:=a2.mono (Nat.le_of_eq aR);have o:Below w4 w4 f:=R.trans (r.mono R.size);have H:=a3.below o;have O:=aY.below r;have z:Below X X f:=S.trans (o.mono S.size);have d:Below w w f:=φt a4 z;have kg:=φf a1 z;have hh:=HH.o
 have I:∀j,j<w.heap.size->j∈a::g::((cpB b.rp g).own++N)->j∈N:=λj hj hm=>by
  simp only[cpB,ShB.own,Qo,Qq,Qt,or_false]at hm
  rcases hm with rfl | hm | hm | hm
  ·exact hh.sub _ Qr
  ·omega
  ·omega
  exact hm
 have U:=(hh.rg.far_ I).below d;have B:a0z f (g+6) (g+5) (a::g::((cpB b.rp g).own++N)) x.M:=⟨aA.st,aA.mp,λp hp=>((hh.ma.bd p hp).far_ I).below d⟩;have aF:=hh.ok;have p1:=(kg.cell 7).trans H7;have z1:=kg.frozen 7;have J:=kg.set_ 7 (.pointer (g+2:Nat));have f1:Fr (λk=>k=g) f (f.setCell ⟨g,7,none⟩ (.pointer (g+2:Nat))):=(Qp (λk=>k=g) f).setCell (p:=⟨g,7,none⟩) (λ_=>rfl) _;have⟨Y1,ab⟩:=η0 (f.setCell ⟨g,7,none⟩ (.pointer (g+2:Nat)));have au:Y1.heap.size=g+7:=by rw[<-ab];simpa using ah
 rw[ab]at J f1;have p2:=(J.cell 8).trans (H8.o _);have z2:=J.frozen 8;have T:=J.set_ 8 (.pointer (g+4:Nat));have f2:Fr (λk=>k=g) Y1 (Y1.setCell ⟨g,8,none⟩ (.pointer (g+4:Nat))):=(Qp (λk=>k=g) Y1).setCell (p:=⟨g,8,none⟩) (λ_=>rfl) _;have⟨Y2,ad⟩:=η0 (Y1.setCell ⟨g,8,none⟩ (.pointer (g+4:Nat)));have an:Y2.heap.size=g+7:=by rw[<-ad];simpa using au
 rw[ad]at T f2;have p3:=(T.cell 9).trans (H9.o _ _);have z3:=T.frozen 9;have Y:=T.set_ 9 (.pointer (g+6:Nat));have f3:Fr (λk=>k=g) Y2 (Y2.setCell ⟨g,9,none⟩ (.pointer (g+6:Nat))):=(Qp (λk=>k=g) Y2).setCell (p:=⟨g,9,none⟩) (λ_=>rfl) _;have⟨Y3,ae⟩:=η0 (Y2.setCell ⟨g,9,none⟩ (.pointer (g+6:Nat)));have ao:Y3.heap.size=g+7:=by rw[<-ae];simpa using an
 rw[ae]at Y f3;rw[aW.o]at Y;have ff:Fr (λk=>k=g) f Y3:=(f1.trans f2 (λk _ e=>e)).trans f3 (λk _ e=>e);have D:Below w w Y3:=d.trans (ff.below d.size (λk hk e=>ρo));have ax:∀k,k=g->k∈a::g::((cpB b.rp g).own++N):=λk e=>by rw[e];simp
 have al:a1e Y3 g (cpB b.rp g) (a::g::((cpB b.rp g).own++N)) seed x:=⟨Y,H.fr ff (by show¬g+2=g;omega) (by show¬g+1=g;omega),O.fr ff (by show¬g+4=g;omega) (by show¬g+3=g;omega),B.fr ff ρo ρo ax,U.fr ff ax,λj hj=>by
  rcases Qo.1 hj with e | e
  ·rw[e];simp
  ·simp[e],λj hj=>by
  simp only[cpB,ShB.own,Qo,Qq,Qt,or_false]at hj
  rcases hj with e | e | e | e
  ·omega
  ·omega
  ·omega
  have:=hh.lt j e;have:=D.size;omega,aF,by simp only[cpB];omega⟩
 rw[aP]at D;have⟨aO,aC,aJ,aZ,a5,aV,P2,Z2⟩:=η8 al D ao ab ad ae p2 z2;have⟨P3,Z3⟩:=η2 p3 z3;clear al D ao ab ad ae p2 z2 p3 z3 aP Q E F aR R r S o H O z d kg hh I U B aF J T Y f1 f2 f3 ff au an ax aA ai ah c3;with_reducible refine m _ _ ?_;clear m K
 refine ε1 ?_;refine τ ?_;intro K m;rw[aZ.o];with_reducible refine m _ _ ?_;clear m K;clear p1 z1
 have p2:=P2.o;have z2:=Z2.o;refine ε1 ?_;refine τ ?_;intro K m;rw[a5.o];with_reducible refine m _ _ ?_;clear m K;clear p2 z2
 have p3:=P3.o;have z3:=Z3.o;refine ε1 ?_;refine τ ?_;intro K m;rw[aV.o];with_reducible refine m _ _ ?_;clear m K;clear p3 z3
 refine ν ?_;go_wp2;go_ret;exact⟨rfl,aO.o,aC.o,aJ.o⟩
end
section
attribute [local go_sem ↓] a1l a4z a4E
theorem b6n(a:Nat)(b:ShB)(N:List Nat)(seed:LI)(x:ShD)(w:WD)(h:a1e w a b N seed x):Calls prog 13 #[.pointer a] w λe w'=>e=.returned (.tuple #[.agg (a0b x.h).toArray,.bool (decide (0<x.h.ht))])/\Below w w w':=by
 have⟨g,E⟩:=ηs w;have j:=a6H w;have p:=a0f a1A;have f:=a0f h.ok.h;have o:=a1p x.h;have⟨B,v⟩:=η0 (a0b a1y);rw[v]at j p;rw[E]at j;have F:=Qd w 37 B.toArray;rw[E]at F;have z:=ρb w (.cells B.toArray 37)
 generalize hV:w.alloc (.cells B.toArray 37)=V at F z j
 have d:=(h.below z).drew;have O:Below w w V.drew:=z.drew;have G:Blk V.drew g 37 B.toArray:=F.drew;have⟨X,D⟩:=η0 V.drew;rw[D]at d O G;have m:X.cell? ⟨a,11,none⟩=some (.int .i64 x.h.ht)/\(LDs 37 (.pointer (some ⟨a,10,none⟩))).run prog X=.ok (.agg (a0b x.h).toArray) X:=⟨d.c.2.2.2.2.2.2.2.2.2.2,d.ldh⟩
 generalize y:a0b x.h=hs at f o m⊢
 have H:=P9 a1h G (ρy Qc p) hs f o;have T:=G.row_ hs.toArray;have S:=Ql (g:=g) O ρo hs.toArray;have J:=h.st.lt;have Y:=ρr (g) X hs.toArray
 have r:(X.setRow g hs.toArray).cell? ⟨a,11,none⟩=some (.int .i64 x.h.ht)/\(LDs 37 (.pointer (some ⟨a,10,none⟩))).run prog (X.setRow g hs.toArray)=.ok (.agg hs.toArray) (X.setRow g hs.toArray):=by
  have hB:Below X V.drew X:=by rw[D];exact Qf _ _
  have R:=d.st.fr Y (show¬_=_ by omega);have U:=a0f h.ok.h;refine⟨(R.cell 11).trans rfl,?_⟩
  have:=P6 a1S a1h R (off:=10) (a0b x.h) U (by simp[shV,Qb,U])
  rw[y]at this;exact this
 have⟨Q,I,HX,Q5,Q6,K,HG⟩:=η7 m r D T S f E;clear m r D T S f E h d O G p v hV z F o y J Y;go_in;go_upto_region 1 with fail
 refine a0s [(0,3),(1,3),(2,3),(4,3),(5,3),(6,3),(7,3),(3,0),(8,0),(9,3),(10,1),(11,3)] (λW=>W.cell? ⟨a,11,none⟩=some (.int .i64 x.h.ht)/\(LDs 37 (.pointer (some ⟨a,10,none⟩))).run prog W=.ok (.agg hs.toArray) W) ρk ρk ρk ρk (ρy HX.o Q.o) ?_;rw[HX.o];refine ε7 ?_
 iterate 2 refine θ2 (λW' Z=>QU Z.1 Z.2) ?_
 refine ε1 ?_;refine κ1 (I.o) ?_;refine ε1 ?_;refine ν ?_;clear H j;go_wp2;refine bodyPost_ret (a0Z rfl _ _ g 37 hs Q5 a1S (ρy K.o a1h) rfl (.bool (decide (0<x.h.ht)))) rfl ?_;exact⟨rfl,Q6.o⟩
end
section
abbrev c4Z:=stOf 47
abbrev c3Z:=alOf 47
abbrev c4s:=bdOf 47
theorem d3v:(prog.underlying 47).map a1f=some true:=ρk
theorem d3k:(prog.info? 47).map (·.size)=some 6:=ρk
def c8L(x:ShD):LV:=[.int .u64 x.iss,.int .u64 x.sC,.int .u64 x.sL,.int .u64 0,.int .u64 0,.int .u64 x.fees]
theorem c9D(w:WD):(ALs 47).run prog w=.ok (.pointer w) (w.alloc (.cells #[.int .u64 0,.int .u64 0,.int .u64 0,.int .u64 0,.int .u64 0,.int .u64 0] 47)):=a0U (.agg #[.int .u64 0,.int .u64 0,.int .u64 0,.int .u64 0,.int .u64 0,.int .u64 0]) ρk w
theorem d2u(x:ShD)(w:WD):(BDs 47 #[(0,.int .u64 x.iss),(1,.int .u64 x.sC),(2,.int .u64 x.sL),(5,.int .u64 x.fees)]).run prog w=.ok (.agg (c8L x).toArray) w:=run_build w _ _ _ ρk
attribute [local go_sem ↓] c4Z c3Z c4s
theorem c2b(a:Nat)(b:ShB)(N:List Nat)(seed:LI)(x:ShD)(w:WD)(h:a1e w a b N seed x):Calls prog 15 #[.pointer a] w λe w'=>e=.returned (.agg (c8L x).toArray)/\Below w w w':=by
 have⟨g,T⟩:=ηs w;have y:=c9D w;have⟨z,p⟩:=η0 (#[Value.int .u64 0,.int .u64 0,.int .u64 0,.int .u64 0,.int .u64 0,.int .u64 0]:AV);have F:z.size=6:=by rw[<-p];rfl
 rw[p,T]at y;have O:=Qd w 47 z;rw[T]at O;have J:=ρb w (.cells z 47)
 generalize hV:w.alloc (.cells z 47)=V at O J y
 have d:=(h.below J).drew;have Z:Below w w V.drew:=J.drew;have Q:Blk V.drew g 47 z:=O.drew;have⟨X,S⟩:=η0 V.drew;rw[S]at d Z Q;have I:=d.c;have E:X.cell? ⟨a,5,none⟩=some (.int .u64 x.iss)/\X.cell? ⟨a,7,none⟩=some (.pointer b.cb)/\X.cell? ⟨a,8,none⟩=some (.pointer b.lb)/\X.cell? ⟨a,6,none⟩=some (.int .u64 x.fees):=⟨I.2.2.2.2.2.1,I.2.2.2.2.2.2.2.1,I.2.2.2.2.2.2.2.2.1,I.2.2.2.2.2.2.1⟩;have c1:=c2f b.cb b.cm x.C x.sC X d.co;have c2:=b4f b.lb b.lm x.L x.sL X d.lo;have hb:=λW=>d2u x W
 have f:(c8L x).length=6:=rfl
 have m:∀v∈c8L x,v.oneCell'=true:=by
  intro v hv;simp only[c8L,Qo,Qt,or_false]at hv
  rcases hv with rfl | rfl | rfl | rfl | rfl | rfl<;>rfl
 have⟨G,r⟩:=η0 (c8L x);simp only[r]at hb;rw[r]at f m⊢;have U:=P9 d3k Q F G f m;have q5:=Q.row_ G.toArray;have q6:=Ql (g:=g) Z ρo G.toArray;obtain⟨dT,B,j⟩:=Q8.1 d3v;have⟨o,HX,Q5,Q6,Y,aa,H⟩:=η7 E S q5 q6 f B j;clear E S q5 q6 f B j h d Z Q F p hV J O I m r T;go_in;go_upto_region 1 with fail
 refine a0s [(0,3),(1,3),(2,3),(4,3),(5,3),(6,3),(9,3),(10,3),(11,3),(14,3),(15,3),(16,3),(3,0),(7,0),(12,0),(17,0),(8,1),(13,1),(18,3),(19,2)] (λW=>W.cell? ⟨a,5,none⟩=some (.int .u64 x.iss)/\W.cell? ⟨a,7,none⟩=some (.pointer b.cb)/\W.cell? ⟨a,8,none⟩=some (.pointer b.lb)/\W.cell? ⟨a,6,none⟩=some (.int .u64 x.fees)) ρk ρk ρk ρk (ρy HX.o o.o) ?_;rw[HX.o];refine ε7 ?_;refine ε5 ?_
 iterate 4 refine θ4 (λW' R=>QU R.1 (QU R.2.1 (QU R.2.2.1 R.2.2.2))) ?_
 refine κ ?_;intro K D;refine μf c1 ?_;with_reducible refine D _ _ (o.o) ?_;clear D K
 refine κ ?_;intro K D;refine μf c2 ?_;with_reducible refine D _ _ (o.o) ?_;clear D K
 refine ε1 ?_;refine τ1 ?_;refine ν ?_;clear U y hb;go_wp2;refine bodyPost_ret (v:=.agg G.toArray) (a0c rfl _ _ g _ G dT rfl Q5 aa H (ρy Y.o d3k)) rfl ?_;exact⟨rfl,Q6.o⟩
end
abbrev c9r:=bdOf 94
def a1U(me n:Int):ShD:=⟨me,n,0,0,0,0,a1y,[],0,[],0,[]⟩
theorem c5U(h:0<=me/\me<n)(a:n<=16):b9N (a1U me n):=
 ⟨h,a,by simp[a1U],by simp[a1U],by simp[a1U],by simp[a1U],by simp[a1U],by simp[a1U],a1A,.inl rfl,by simp[a1U],by simp[a1U],by simp[a1U]⟩
theorem d3J(me n:Int)(b:ShB)(w:WD):(BDs 94 #[(0,.int .i64 me),(1,.int .i64 n),(2,.pointer b.rp),(7,.pointer b.cb),(8,.pointer b.lb),(9,.pointer b.kb)]).run prog w=.ok (.agg (shV (a1U me n) b).toArray) w:=run_build w _ _ _ ρk
section
attribute [local go_sem ↓] a2q a1G
theorem a7T(d:Nat)(b:ShB)(N:List Nat)(seed:LI)(x:ShD)(a:Int)(f:OA)(j:Nat)(m:OA)(o:Nat)(t:TxD)(w:WD)(h:a1e w d b N seed x)(p:b9d t.exp x.ep=true):Calls prog 149 #[.pointer d,.int .i64 a,.agg (txV f j m o t)] w λe w'=>e=.panicked [{v:=a2F 12,recovered:=false}]/\Below w w w':=by
 have⟨g,S⟩:=ηs w;have B:(txV f j m o t)[3]? =some (.int .i64 t.exp):=rfl
 generalize T:txV f j m o t=tv at B⊢
 have I:=Qd w 53 (tv);have J:=ρb w (.cells (tv) 53)
 generalize hW:w.alloc (.cells (tv) 53)=W at I J
 rw[S]at I;have r:=a5k W;have⟨Q,H⟩:=η0 ((a0O 0 false a0r none 0).toArray);rw[H]at r;have z:=I.alloc (.cells Q 41);have O:Below w w (W.alloc (.cells Q 41)):=J.alloc J.size _
 generalize hV:W.alloc (.cells Q 41)=V at z O r
 have ac:(ALs 41).run prog (w.alloc (.cells tv 53))=.ok (.pointer (some ⟨W.heap.size,0,none⟩)) V:=by rw[hW];exact r
 have y:=(h.below O).drew;have U:Below w w V.drew:=O.drew;have Z:Blk V.drew g 53 tv:=z.drew;have⟨X,R⟩:=η0 V.drew;rw[R]at y U Z;have F:X.cell? ⟨g,3,none⟩=some (.int .i64 t.exp)/\X.cell? ⟨d,3,none⟩=some (.int .i64 x.ep):=⟨(Z.cell 3).trans B,y.c.2.2.2.1⟩;have E:=b3K t.exp x.ep X;rw[p]at E;have G:=a0X true 12 X;simp only[if_true]at G;have aa:=a1m 12 ρo X;have⟨Y,HX,ab,HG⟩:=η4 F R U S;clear F R U S h y Z I z J O hV hW r H T p B;go_in;go_upto_region 1 with fail
 rw[HG.o];refine a3Y [(0,3),(2,3),(3,3),(4,3),(1,0),(5,0),(6,2),(7,2),(8,2)] (λW=>W.cell? ⟨g,3,none⟩=some (.int .i64 t.exp)/\W.cell? ⟨d,3,none⟩=some (.int .i64 x.ep)) ρk ρk ρk ρk (ρy HX.o Y.o) ?_;rw[HX.o];refine ε4 ?_
 iterate 2 refine θ2 (λW' hS=>QU hS.1 hS.2) ?_
 refine τ ?_;intro K D;refine μf E ?_;with_reducible refine D _ _ ?_;clear D K
 refine τ ?_;intro K D;refine μf G ?_;with_reducible refine D _ _ ?_;clear D K
 refine τ ?_;intro K D;refine μf aa ?_;exact λa' P=>⟨P,rfl,ab.o⟩
end
section
def b7g(B:Nat)(me n:Int)(seed:LI)(e:Ending)(w':WD):Prop:=∃sb b N,B<=sb/\e=.returned (.pointer (some ⟨sb,0,none⟩))/\a1e w' sb b N seed (a1U me n)
theorem c3c(w:WD):Calls prog 11 #[.int .i64 1,.int .i64 1,.slice none 0 0] w λe w'=>e=.returned (.pointer none)/\w=w':=by
 go_in;go_wp2;go_ret;exact⟨rfl,rfl⟩
attribute [local go_sem ↓] c9r
theorem b5G(me:Int)(k:Nat)(A:OA)(c:Nat)(seed:LI)(w:WD)(f:1<=k/\k<=16)(b:0<=me/\me<(k:Int))(m:seed.length<=64)(o:Byt w A seed)(d:a2x w):Calls prog 11 #[.int .i64 me,.int .i64 k,.slice A seed.length c] w λe w'=>b7g w me k seed e w'/\Below w w w':=by
 have v:=c3K A c seed k w f.1 ρo m o d;have d1:decide ((k:Int)<1)=false:=by simp;omega
 have d2:decide ((16:Int)<(k:Int))=false:=by simp;omega
 have d3:decide (me<0)=false:=by simp;omega
 have d4:decide ((k:Int)<=me)=false:=by simp;omega
 have ae:=c5U b (show(k:Int)<=16 by omega);have I:=f.1
 generalize hn:seed.length=n at v⊢
 have⟨aj,al⟩:=η2 ae I;clear ae I f b m o d hn;go_in;go_wp2_with fail;refine μ1 v ?_;rintro e T ⟨p,rfl,R,ai,x⟩;have⟨g,hg⟩:=ηs T;have cn:=c0Y T;rw[hg]at cn;clear v;go_wp2_with fail;refine μ1 cn ?_;rintro e U ⟨rfl,X,ad,Q⟩;have ln:=c0n U;rw[Q]at ln;simp only[show g+2+1=g+3 from rfl,show g+2+2=g+4 from rfl]at ln;clear cn;go_wp2_with fail;refine μ1 ln ?_;rintro e w3 ⟨rfl,af,ag,N⟩;have mn:=c0N ((g+6)::(⟨p,g+1,g,g+3,g+2,g+5,g+4⟩:ShB).own) w3;rw[N]at mn;simp only[show g+4+1=g+5 from rfl,show g+4+2=g+6 from rfl]at mn;clear ln;go_wp2_with fail;refine μ1 mn ?_;rintro e H ⟨rfl,Y,aa,J⟩;clear mn;have z:Below T T U:=ad.mono (Nat.le_of_eq hg);have y:Below U U w3:=ag.mono (Nat.le_of_eq Q);have G:Below w3 w3 H:=aa.mono (Nat.le_of_eq N);have D:Below U U H:=y.trans (G.mono y.size);have r:Below T T H:=z.trans (D.mono z.size)
 have S:=ρb H (.cells (shV (a1U me k) ⟨p,g+1,g,g+3,g+2,g+5,g+4⟩).toArray 94);have b5:=Qd H 94 (shV (a1U me k) ⟨p,g+1,g,g+3,g+2,g+5,g+4⟩).toArray;rw[J]at b5;have ar:=λW=>d3J me k ⟨p,g+1,g,g+3,g+2,g+5,g+4⟩ W
 have ab:(H.alloc (.cells (shV (a1U me k) ⟨p,g+1,g,g+3,g+2,g+5,g+4⟩).toArray 94)).heap.size=g+7:=by rw[Qi,J]
 have I:=al.o;have ah:=R.below r
 have E:a9r H ((g+6)::(⟨p,g+1,g,g+3,g+2,g+5,g+4⟩:ShB).own) p seed k:=by
  obtain⟨A,c,r1,r2⟩:=R;have au:=r1.lt;obtain⟨gk,ok,rfl,av,_⟩:=r2 0 (by simp;omega);refine⟨_,c,r1.fr (Q9 r) ρo,r2.below r,λb=>?_,λa ha=>?_⟩
  ·simp only[ShB.own,Qo,Qt,or_false]at b
   omega
  simp only[Option.some.injEq]at ha;subst ha;refine⟨by show gk<H.heap.size;omega,λb=>?_⟩;simp only[ShB.own,Qo,Qt,or_false]at b;omega
 generalize Z:H.alloc (.cells (shV (a1U me k) ⟨p,g+1,g,g+3,g+2,g+5,g+4⟩).toArray 94)=W5 at S b5 ab
 have K:a1e W5 (g+6) ⟨p,g+1,g,g+3,g+2,g+5,g+4⟩ ((g+6)::(⟨p,g+1,g,g+3,g+2,g+5,g+4⟩:ShB).own) seed (a1U me k):=
  ⟨b5,(X.below D).below S,(af.below G).below S,Y.below S,by simpa[a1U]using E.below S,λj hj=>hj,λj hj=>by
   simp only[ShB.own,Qo,Qt,or_false]at hj;omega,aj.o,by simp only;omega⟩
 have ac:Below w w W5:=(x.trans (r.mono x.size)).trans (S.mono (x.trans (r.mono x.size)).size);have V:w.heap.size<=g+6:=by have:=x.size;omega
 have F:b7g w me k seed (.returned (.pointer (g+6:Nat))) W5:=⟨_,_,_,V,rfl,K⟩;clear V;have⟨O,ao,an,ak⟩:=η4 F ac J Z;clear F ac J Z K E ah I b5 S r D z y G Y af X x ad ag aa Q N R ai hg ab;have⟨ss,P⟩:=η0 (shV (a1U me k) ⟨p,g+1,g,g+3,g+2,g+5,g+4⟩);simp only[P]at ar;have B:=ak.o;rw[P]at B;have aq:=η1 B;clear B P;go_wp2_with fail;rw[aq.o,an.o];go_ret;exact⟨O,ao.o⟩
end
section
theorem b7R{x:MkD}(a:(a0d x.c x.A x.cap)[j]? =some v):(mkV x)[0+j]? =some v:=by
 have b:j<(a0d x.c x.A x.cap).length:=(Qm.1 a).1;rw[QP];unfold mkV;rw[QO b];exact a
theorem a8I(a:Addr)(n c:Nat):(Value.slice (some a) n c).ownBlock=some a.block:=rfl
def c1C(b:Nat)(N:List Nat)(M:List (Ke×MkD))(k:Ke)(e:Ending)(w':WD):Prop:=∃A' c',e=.returned (.tuple #[.agg (a0O 0 true (a2Q M k).c A' c').toArray,.bool (a2E M k).isSome])/\a7b w' N ⟨(a2Q M k).c,A',c',(a2Q M k).ex⟩/\a0T 31 32 b w' (.slice A' (a2Q M k).c.path.length c') ((a2Q M k).c.path.map bys)
attribute [local go_sem ↓] a2q a1G a1M a1D a7A a7I a7U
theorem a7X(p:Nat)(b:ShB)(N:List Nat)(seed:LI)(x:ShD)(d:Int)(f:-9223372036854775808<=d/\d<=9223372036854775807)(r:OA)(B:Nat)(z:OA)(E:Nat)(t:TxD)(w:WD)(h:a1e w p b N seed x)(I:b9d t.exp x.ep=false)(ht:a9H w r z t)(F:a2x w)(G:t.ins.length<=1000000)(H:t.outs.length<=1000000):Calls prog 149 #[.pointer p,.int .i64 d,.agg (txV r B z E t)] w λe w'=>c1C w N x.M (d,idP t) e w'/\Below w w w':=by
 have hid:=λX (hX:Below w w X)=>a2v r B z E t X (ht.below hX) (F.below hX) G H
 have be:b2y (d,idP t):=⟨f,a3b t,a5f t⟩;have ak:=λX (hX:a1e X p b N seed x)=>b5u b.kb b.km N x.M (d,idP t) be X hX.ma hX.lt
 have bO:(txV r B z E t).toList.length=4:=rfl;have⟨g,hg⟩:=ηs w;have bb:(txV r B z E t)[3]? =some (.int .i64 t.exp):=rfl
 generalize a7:txV r B z E t=tv at bb⊢
 have b0:=Qd w 53 (tv);have B0:=ρb w (.cells (tv) 53)
 generalize hW:w.alloc (.cells (tv) 53)=W at b0 B0
 rw[hg]at b0;have bJ:W.heap.size=g+1:=by rw[<-hW,Qi,hg]
 have aA:=a5k W;have⟨zs,aS⟩:=η0 ((a0O 0 false a0r none 0).toArray);rw[aS]at aA;have aV:=b0.alloc (.cells zs 41);have B1:Below w w (W.alloc (.cells zs 41)):=B0.alloc B0.size _
 generalize hV:W.alloc (.cells zs 41)=V at aV B1 aA
 have bn:(ALs 41).run prog (w.alloc (.cells tv 53))=.ok (.pointer (g+1:Nat)) V:=by rw[hW,<-bJ];exact aA
 have aC:=(h.below B1).drew;have BX:Below w w V.drew:=B1.drew;have bX:Blk V.drew g 53 tv:=aV.drew;have⟨X,hX⟩:=η0 V.drew;rw[hX]at aC BX bX;have ar:=λX' (bQ:Below X.heap.size X X')=>P4 uTx iTx (w:=X') tv.toList (by simpa using bX.fr (Q9 bQ) (ρh bX.lt)) (by rw[<-a7];rfl)
 simp only[show tv.toList.toArray=tv by simp]at ar;have bg:zs.size=139:=by rw[<-aS,Qc];exact a0A a0B _ _ _ _
 have bR:Blk X (g+1) 41 zs:=by
  have:=Qd W 41 zs
  rw[hV,<-hW,Qi,hg]at this;rw[<-hX];exact this.drew
 simp only[a7]at hid;have ah:X.cell? ⟨g,3,none⟩=some (.int .i64 t.exp)/\X.cell? ⟨p,3,none⟩=some (.int .i64 x.ep):=⟨(bX.cell 3).trans bb,aC.c.2.2.2.1⟩;have a6:=b3K t.exp x.ep X;rw[I]at a6;have aZ:=a0X false 12 X;simp only[QI,if_false]at aZ;have bv:=a1o X;have⟨D,hD⟩:=η0 (idP t);simp only[hD]at hid ak⊢;have⟨bz,HX,bM,HG,bA,bq,bu,bI⟩:=η8 ah hX BX hg hid ak ar aC;have⟨bl,bB⟩:=η2 bR bg;clear ah hX BX hg hid ak ar aC bR bg h bX b0 aV B0 B1 hV hW aA aS a7 I bb ht F G H be hD bO;go_in;go_upto_region 1 with fail
 rw[HG.o];refine a3Y [(0,3),(2,3),(3,3),(4,3),(1,0),(5,0),(6,2),(7,2),(8,2)] (λW=>W.cell? ⟨g,3,none⟩=some (.int .i64 t.exp)/\W.cell? ⟨p,3,none⟩=some (.int .i64 x.ep)) ρk ρk ρk ρk (ρy HX.o bz.o) ?_;rw[HX.o];refine ε4 ?_
 iterate 2 refine θ2 (λW' hS=>QU hS.1 hS.2) ?_
 refine τ ?_;intro K hK;refine μf a6 ?_;with_reducible refine hK _ _ ?_;clear hK K
 refine τ ?_;intro K hK;refine μf aZ ?_;with_reducible refine hK _ _ ?_;clear hK K
 refine τ ?_;intro K hK;refine μ1 bv ?_;rintro e w8 ⟨rfl,rfl⟩;with_reducible refine hK _ _ ?_;clear hK K
 with_reducible refine a1N ?_
 rw[a0V];clear a6 aZ bv bn;go_upto_region 2 with fail
 have⟨U,hU⟩:=η0 X.drew;have T:Below X.heap.size X U:=by rw[<-hU];exact(Qf _ X).drew
 have aJ:=φt bM T;have a0:=bI.below T;have F1:=λY (hY:Below U U Y)=>bu.o Y (T.trans (hY.mono T.size))
 have F2:=λY (hY:Below U U Y)=>(a0.below hY).c.2.2.2.2.2.2.2.2.2.1
 have⟨S0,ah⟩:=η0 ((λY=>(LDs 53 (.pointer g)).run prog Y=.ok (.agg tv) Y/\Y.cell? ⟨p,9,none⟩=some (.pointer b.kb)):WD->Prop);have bp:∀Y,Below U U Y->S0 Y:=λY hY=>by rw[<-ah];exact⟨F1 Y hY,F2 Y hY⟩
 have aM:=c1K;have⟨zm,aX⟩:=η0 ((mkV a4n).toArray);have aH:zm.size=138:=by rw[<-aX,Qc];exact a3i a0B
 simp only[aX]at aM;have⟨bS,ba,HU,av,aq,bE,bG⟩:=η7 ah bp hU T aJ a0 aH;clear ah bp hU T aJ a0 aH F1 F2 aX;with_reducible refine a4F (λi=>i != 7&&i != 12) S0 ρk ?_
 rw[HU.o];refine a2b (m:=8) (Lf:=#[true,true,true,true,true,true,false,false,false,false,false,false,false,false]) [(0,3),(1,3),(2,3),(4,3),(3,0),(5,0)] true ρk ρk ρk (λ_=>ba.o _ (Qf _ _)) ?_;refine εc4 ?_
 iterate 2 refine θc2 (λ_ h=>by rw[<-bS.o]at h;exact h) ?_
 with_reducible refine a2m ?_
 refine a2A (j:=11) (n:=2) (Lf:=#[true,true,true,true,true,true,true,true,true,true,true,true,false,false]) (t:=214) (Z:=zm) [(6,2),(7,2),(8,3),(9,3),(10,3)] ρk ρk ρk ρu rfl (λa X=>by go_simp) ba.o ?_;intro Y0 aP;have k6:=bA.o Y0 (φt aq aP);have bN:=η1 aP;clear aP aM;with_reducible refine a4f (o:=?_) ρu ρu (λK hK=>?_)
 refine ψ ?_;go_simp;refine μi k6 ?_;intro w6 a2;clear k6;have bU:=η1 (φt bN a2);with_reducible refine hK _ _ a2 (λY6 bi=>?_);clear hK K
 have aY:=η1 (φt bU bi);have k7:=bq.o Y6 (bE.below aY);clear a2 bi;with_reducible refine a4f (o:=?_) ρu ρu (λK hK=>?_)
 refine ψ ?_;go_simp;refine μ1 k7 ?_;rintro e3 w7 ⟨⟨O,S,rfl,bh,bk⟩,a9⟩;clear k7;have aU:=φt aY a9;with_reducible refine hK _ _ a9 (λY7 aD=>?_);clear hK K
 have Q:=bh.below aD;have ac:=a0T.keep bk aD;have bc:=aU.trans (aD.mono aU.size);have⟨bL,bw,aF⟩:=η3 Q ac bc;clear Q ac bc aU aD bh bk a9
 iterate 3 (with_reducible refine a8f (o:=?_) (v:=?_) (a':=?_) ρu ρu (λW'=>?_) ?_ ?_;rotate_left 2;(focus exact ρs);focus(exact ρs))
 with_reducible refine a6e ?_;intro bF ai aI ag
 have⟨y,hy⟩:=η0 (a2Q x.M (d,D));have Q:=bL.o;have ac:=bw.o;rw[hy]at Q ac;have aQ:=a4l ac.own ag ρd;have aR:=Q.bd;have bo:(mkV ⟨y.c,O,S,y.ex⟩).length=138:=a3i aR;have bj:=P9 iMk ag bG (mkV ⟨y.c,O,S,y.ex⟩) bo (a7Q _);have r1:=ag.row_ (mkV ⟨y.c,O,S,y.ex⟩).toArray;have f6:=ρr (ai) Y7 (mkV ⟨y.c,O,S,y.ex⟩).toArray;have r2:=Ql (g:=ai) aF.o aI (mkV ⟨y.c,O,S,y.ex⟩).toArray;have af:=ac.fr f6 (λj hj e=>aQ (by rw[hj,e]));have ae:a7b (Y7.setRow ai (mkV ⟨y.c,O,S,y.ex⟩).toArray) N ⟨y.c,O,S,y.ex⟩:=⟨Q.bd,Q.path.frY f6 (λa ha e=>aQ (by show(Value.slice O _ _).ownBlock=_;rw[show O=some a from ha,a8I,e])),Q.cap,Q.nil,λa ha=>⟨Qh (Q.far a ha).1 f6.size,(Q.far a ha).2⟩,Q.ex,Q.len⟩;have⟨ys,a5⟩:=η0 (mkV ⟨y.c,O,S,y.ex⟩);have aj:∀(j:Nat) (v:VL),(a0d y.c O S)[j]? =some v->ys[0+j]? =some v:=λj v hv=>by rw[<-a5];exact b7R (x:=⟨y.c,O,S,y.ex⟩) hv
 rw[a5]at bj r1 r2 af ae;simp only[hy,a5];have⟨R1,R2,bx,bT,bD,a1,HY⟩:=η7 r1 r2 af ae aj aR hy;clear r1 r2 af ae aj aR hy ag bF aI aQ bo f6 ac Q;refine a1c [(12,2),(13,3)] true ρk ρk ρk (λ_=>ba.o _ aF.o) ?_;refine τ1 ?_;refine ε1 ?_;refine ν ?_;have⟨Y9,a4⟩:=η0 (Y7.setRow ai ys.toArray);have r1:=R1.o;have r2:=R2.o;have af:=bx.o;have ae:=bT.o;rw[a4]at r1 r2 af ae⊢;clear bj;have R:Below Y9 Y9 Y9:=Qf _ Y9;have r3:=r1.fr (Q9 R) (ρh r1.lt);obtain⟨dC,bH,br⟩:=Q8.1 a8j;have bf:(LDs 39 (.pointer ai)).run prog Y9=.ok (.agg (a0d y.c O S).toArray) Y9:=a3R Y9 _ dC 137 bH br a4U ai 0 _ (a0l a1.o O S) (λj v hv=>(r3.cell (0+j)).trans (by rw[QE];exact bD.o j v hv));have ad:=a5d y.c a1 O S Y9;have al:=φt aq r2;have ax:=al.trans (R.mono al.size);have ao:=(φt av r2).trans (R.mono (φt av r2).size)
 have⟨cv,bm⟩:=η0 ((a0d y.c O S).toArray);rw[bm]at bf ad;have aO:=a0T.keep af R;have aN:=ae.below R;have⟨aG,bs,aT,ay,bV⟩:=η5 aO aN ax ao a4;clear aO aN ax ao a4 af ae r1 r2 r3 al R bm;go_upto_region 3 with fail
 go_wp2_with fail;refine μi ad ?_;intro au ab;have an:=φt ay ab;have kR:=φf bl an;have aB:=a0A a1 0 true O S;have bt:=P9 a4h kR bB (a0O 0 true y.c O S) aB (a0W _ _ _ _ _);have q5:=kR.row_ (a0O 0 true y.c O S).toArray;have bK:=HG.o;have bP:=ay.size;have az:Fr (λj=>j=g+1) au (au.setRow (g+1) (a0O 0 true y.c O S).toArray):=(Qp (λj=>j=g+1) au).setRow (g:=g+1) (λ_=>rfl) _;have q6:=Ql (g:=g+1) (φt aT ab) ρo (a0O 0 true y.c O S).toArray;have e1:=bl.lt;have e2:=av.size;have e3:=aY.size;have e4:=aq.size;have aW:∀j,(Value.slice O y.c.path.length S).ownBlock=some j->¬j=g+1:=λj hj e=>by have:=(aG.lt hj).1;omega
 have aK:=((aG.keep ab).fr az aW).base (B':=w.heap.size) ρo;have J:=bs.below ab;have aL:a7b (au.setRow (g+1) (a0O 0 true y.c O S).toArray) N ⟨y.c,O,S,y.ex⟩:=⟨J.bd,J.path.frY az (λa ha e=>aW a.block (by rw[show O=some a from ha];rfl) e),J.cap,J.nil,λa ha=>⟨Qh (J.far a ha).1 az.size,(J.far a ha).2⟩,J.ex,J.len⟩;have aE:=HY.o;have aa:∀e:Ending,e=.returned (.tuple #[.agg (a0O 0 true y.c O S).toArray,.bool (a2E x.M (d,D)).isSome])->c1C w N x.M (d,D) e (au.setRow (g+1) (a0O 0 true y.c O S).toArray):=λe he=>⟨O,S,by rw[aE];exact he,by rw[aE];exact aL,by rw[aE];exact aK⟩
 have⟨rs,a8⟩:=η0 (a0O 0 true y.c O S);rw[a8]at aB bt q5 q6 aa;simp only[a8]at aa⊢;have⟨Q5,Q6,bC,a3⟩:=η4 q5 q6 aB aa;clear q5 q6 aB aa kR an ab bK bP az e1 e2 e3 e4 aW aK J aL aE a8 ad;go_wp2;refine bodyPost_ret (a0Z rfl _ _ (g+1) 41 rs Q5 a7w (ρy bC.o a4h) rfl (.bool (a2E x.M (d,D)).isSome)) rfl ?_;exact⟨a3.o _ rfl,Q6.o⟩
end
section
structure RpD where
 e:Int
 has:Bool
 c:a0y
def a2O(c:a0y):RpD:=⟨0,true,c⟩
def b1A(e:Int):RpD:=⟨e,false,a0r⟩
def a3C(B:Nat)(w:WD)(c:a0y)(A:OA)(cap:Nat):Prop:=c.Bd/\c.path.length<=32/\a0T 31 32 B w (.slice A c.path.length cap) (c.path.map bys)
theorem a3C.below{c:a0y}(h:a3C B w c A cap)(b:Below w w a):a3C B a c A cap:=⟨h.1,h.2.1,h.2.2.keep b⟩
theorem a3C.base{B B':Nat}{w:WD}{c:a0y}{A:OA}{cap:Nat}(h:a3C B w c A cap)(a:B'<=B):a3C B' w c A cap:=⟨h.1,h.2.1,h.2.2.base a⟩
theorem a3C.zero(B:Nat)(w:WD):a3C B w a0r none 0:=⟨a0B,by simp[a0r],a0T.nil _ _ _ _⟩
def b2c(B:Nat)(r:RpD)(e:Ending)(w:WD):Prop:=∃A cap,e=.returned (.agg (a0O r.e r.has r.c A cap).toArray)/\a3C B w r.c A cap
theorem b2c.below{B:Nat}{r:RpD}{e:Ending}{w a:WD}(h:b2c B r e w)(b:Below w w a):b2c B r e a:=by
 obtain⟨A,cap,d,f⟩:=h;exact⟨A,cap,d,f.below b⟩
def b7C(k:Int)(e:Ending):Prop:=k≠0/\e=.panicked [{v:=a2F k,recovered:=false}]
def ShD.er(x:ShD):ShD:={x with M:=x.M.map λp=>(p.1,{p.2 with A:=none,cap:=0})}
def c9y(B sb:Nat)(N:List Nat)(seed:LI)(y:ShD)(w:WD):Prop:=∃b' N' y',a1e w sb b' N' seed y'/\y'.er=y.er/\(∀j∈N,j∈N')/\(∀j∈sb::b'.own,B<=j)
def a6x(B sb:Nat)(N:List Nat)(seed:LI)(q:Except Int (ShD×RpD))(e:Ending)(w':WD):Prop:=
 match q with
 | .error k=>b7C k e
 | .ok (y,r)=>c9y B sb N seed y w'/\b2c B r e w'
def c6j(Bn sb:Nat)(b:ShB)(N:List Nat)(seed:LI)(q:Except Int (ShD×RpD))(e:Ending)(w':WD):Prop:=
 match q with
 | .error k=>b7C k e
 | .ok (y,r)=>(∃y',a1e w' sb b N seed y'/\y'.er=y.er)/\b2c Bn r e w'
theorem c9y.of{a:Nat}{b:ShB}{y:ShD}(h:a1e w a b N seed y)(d:∀j∈a::b.own,B<=j):c9y B a N seed y w:=⟨b,N,y,h,rfl,λ_ h=>h,d⟩
def TxS(B:Nat)(w:WD)(A1 A2:OA)(t:TxD):Prop:=∀w',Below B w w'->a9H w' A1 A2 t
theorem TxS.at_{a b:OA}(h:TxS B w a b t):a9H w a b t:=h w (Qf _ _)
theorem TxS.go{b d:OA}(h:TxS B w b d t)(f:Below B w a):TxS B a b d t:=λv hv=>h v (f.trans hv)
def b9j(B:Nat)(w:WD)(A:OA)(l:LI):Prop:=∀w',Below B w w'->Byt w' A l
theorem b9j.at_(h:b9j B w A l):Byt w A l:=h w (Qf _ _)
theorem b9j.go(h:b9j B w A l)(b:Below B w a):b9j B a A l:=λv hv=>h v (b.trans hv)
def a8S(B:Nat)(w:WD):Prop:=∀w',Below B w w'->a2x w'
theorem a8S.at_(h:a8S B w):a2x w:=h w (Qf _ _)
theorem a8S.go(h:a8S B w)(b:Below B w a):a8S B a:=λv hv=>h v (b.trans hv)
theorem Fr.below_of{F:Nat->Prop}(h:Fr F w a)(b:B<=w.heap.size)(hF:∀k,F k->B<=k):Below B w a:=h.below b (λk hk e=>by have:=hF k e;omega)
section
variable {w w':WD} {sb:Nat} {b:ShB} {N:List Nat} {seed:LI} {x:ShD}
theorem a1e.cb_lb(h:a1e w sb b N seed x):b.cb≠b.lb:=h.co.st.apart h.lo.st ρd
theorem a1e.cb_kb(h:a1e w sb b N seed x):b.cb≠b.kb:=h.co.st.apart h.ma.st ρd
theorem a1e.lb_kb(h:a1e w sb b N seed x):b.lb≠b.kb:=h.lo.st.apart h.ma.st ρd
theorem a1e.cm_lb(h:a1e w sb b N seed x):b.cm≠b.lb:=h.co.mp.ne_blk h.lo.st
theorem a1e.cm_kb(h:a1e w sb b N seed x):b.cm≠b.kb:=h.co.mp.ne_blk h.ma.st
theorem a1e.lm_cb(h:a1e w sb b N seed x):b.lm≠b.cb:=h.lo.mp.ne_blk h.co.st
theorem a1e.lm_kb(h:a1e w sb b N seed x):b.lm≠b.kb:=h.lo.mp.ne_blk h.ma.st
theorem a1e.km_cb(h:a1e w sb b N seed x):b.km≠b.cb:=h.ma.mp.ne_blk h.co.st
theorem a1e.km_lb(h:a1e w sb b N seed x):b.km≠b.lb:=h.ma.mp.ne_blk h.lo.st
theorem a1e.inN(h:a1e w sb b N seed x):sb∈N/\b.cb∈N/\b.cm∈N/\b.lb∈N/\b.lm∈N/\b.kb∈N/\b.km∈N:=
 ⟨h.sub _ ρp,h.sub _ (by simp[ShB.own]),h.sub _ (by simp[ShB.own]),h.sub _ (by simp[ShB.own]),h.sub _ (by simp[ShB.own]),h.sub _ (by simp[ShB.own]),h.sub _ (by simp[ShB.own])⟩
theorem a1e.setM(h:a1e w sb b N seed x){m:List (Ke×MkD)}(a:Fr (λk=>k=b.km) w w')(d:a0z w' b.kb b.km N m)(f:m.length<=128):a1e w' sb b N seed {x with M:=m}:=by
 have o:=h.inN;exact⟨h.st.fr a (λe=>h.sb_km e.symm),h.co.fr a (λe=>h.km_cb e.symm) h.ap.2.1,h.lo.fr a (λe=>h.km_lb e.symm) h.ap.2.2,d,h.rg.fr a (λk e=>by rw[e];exact o.2.2.2.2.2.2),h.sub,λj g=>Qh (h.lt j g) a.size,{h.ok with lM:=f},h.ap⟩
theorem a1e.setC(h:a1e w sb b N seed x){C:List (Pt×a1q)}(a:Fr (λk=>k=b.cb\/k=b.cm) w w')(d:a0i w' b.cb b.cm C s)(f:0<=s/\s<=18446744073709551615)(g:C.length<=256):a1e w' sb b N seed {x with C:=C,sC:=s}:=by
 have m:=h.inN;exact⟨h.st.fr a (λe=>e.elim (λe=>h.sb_cb e) (λe=>h.sb_cm e.symm)),d,h.lo.fr a (λe=>e.elim (λe=>h.cb_lb e.symm) (λe=>h.cm_lb e.symm)) (λe=>e.elim (λe=>h.lm_cb e) (λe=>h.ap.1 e.symm)),h.ma.fr a (λe=>e.elim (λe=>h.cb_kb e.symm) (λe=>h.cm_kb e.symm)) (λe=>e.elim (λe=>h.km_cb e) (λe=>h.ap.2.1 e.symm)) (λk e=>e.elim (λe=>by rw[e];exact m.2.1) (λe=>by rw[e];exact m.2.2.1)),h.rg.fr a (λk e=>e.elim (λe=>by rw[e];exact m.2.1) (λe=>by rw[e];exact m.2.2.1)),h.sub,λj o=>Qh (h.lt j o) a.size,{h.ok with sC:=f,lC:=g},h.ap⟩
theorem a1e.setL(h:a1e w sb b N seed x){L:List (Pt×a1J)}(a:Fr (λk=>k=b.lb\/k=b.lm) w w')(d:a0j w' b.lb b.lm L s)(f:0<=s/\s<=18446744073709551615)(g:L.length<=64):a1e w' sb b N seed {x with L:=L,sL:=s}:=by
 have m:=h.inN;exact⟨h.st.fr a (λe=>e.elim (λe=>h.sb_lb e) (λe=>h.sb_lm e.symm)),h.co.fr a (λe=>e.elim (λe=>h.cb_lb e) (λe=>h.lm_cb e.symm)) (λe=>e.elim (λe=>h.cm_lb e) (λe=>h.ap.1 e)),d,h.ma.fr a (λe=>e.elim (λe=>h.lb_kb e.symm) (λe=>h.lm_kb e.symm)) (λe=>e.elim (λe=>h.km_lb e) (λe=>h.ap.2.2 e.symm)) (λk e=>e.elim (λe=>by rw[e];exact m.2.2.2.1) (λe=>by rw[e];exact m.2.2.2.2.1)),h.rg.fr a (λk e=>e.elim (λe=>by rw[e];exact m.2.2.2.1) (λe=>by rw[e];exact m.2.2.2.2.1)),h.sub,λj o=>Qh (h.lt j o) a.size,{h.ok with sL:=f,lL:=g},h.ap⟩
theorem a1e.newC(f:a1e a sb b N seed x)(m:Below a a w){C:List (Pt×a1q)}(v:a.heap.size<=g)(d:Fr (λk=>k=b.cb) w w')(o:a0i w' b.cb g C s)(p:0<=s/\s<=18446744073709551615)(r:C.length<=256):a1e w' sb {b with cm:=g} (g::N) seed {x with C:=C,sC:=s}:=by
 have h:=f.below m;have y:=h.inN;have D:g ∉ N:=λe=>by have:=f.lt g e;omega
 have B:∀j,j<a.heap.size->j∈g::N->j∈N:=λj z F=>by
  rcases Qo.1 F with e | e
  ·omega
  exact e
 have E:∀k,k=b.cb->k∈g::N:=λk e=>by rw[e];exact Qj _ y.2.1
 refine⟨h.st.fr d (λe=>h.sb_cb e),o,h.lo.fr d (λe=>h.cb_lb e.symm) (λe=>h.lm_cb e),((f.ma.far_ B).below m).fr d (λe=>h.cb_kb e.symm) (λe=>h.km_cb e) E,((f.rg.far_ B).below m).fr d E,?_,?_,{h.ok with sC:=p,lC:=r},?_⟩
 ·intro j z
  simp only[ShB.own,Qo,Qt,or_false]at z
  rcases z with e | e | e | e | e | e | e
  ·rw[e];exact Qj _ y.1
  ·rw[e];exact Qj _ y.2.1
  ·rw[e];exact Qr
  ·rw[e];exact Qj _ y.2.2.2.1
  ·rw[e];exact Qj _ y.2.2.2.2.1
  ·rw[e];exact Qj _ y.2.2.2.2.2.1
  rw[e];exact Qj _ y.2.2.2.2.2.2
 ·intro j z
  rcases Qo.1 z with e | e
  ·rw[e];exact o.mp.lt
  exact Qh (h.lt j e) d.size
 exact⟨λe=>D (by show g∈N;rw[show g=b.lm from e];exact y.2.2.2.2.1),λe=>D (by show g∈N;rw[show g=b.km from e];exact y.2.2.2.2.2.2),h.ap.2.2⟩
theorem a1e.more(d:a1e a sb b N seed x)(f:Below a a w)(m:a.heap.size<=g/\g<w.heap.size):a1e w sb b (g::N) seed x:=by
 have h:=d.below f
 have o:∀j,j<a.heap.size->j∈g::N->j∈N:=λj p r=>by
  rcases Qo.1 r with e | e
  ·omega
  exact e
 exact⟨h.st,h.co,h.lo,(d.ma.far_ o).below f,(d.rg.far_ o).below f,λj p=>Qj _ (h.sub j p),λj p=>by
  rcases Qo.1 p with e | e
  ·rw[e];exact m.2
  exact h.lt j e,h.ok,h.ap⟩
theorem a1e.away(h:a1e w sb b N seed x)(d:Fr (λk=>k=g) w w')(f:g∈N)(a:g ∉ sb::b.own):a1e w' sb b N seed x:=by
 simp only[ShB.own,Qo,Qt,or_false,not_or]at a;have m:∀k,k=g->k∈N:=λk e=>by rw[e];exact f
 exact⟨h.st.fr d (λe=>a.1 e.symm),h.co.fr d (λe=>a.2.1 e.symm) (λe=>a.2.2.1 e.symm),h.lo.fr d (λe=>a.2.2.2.1 e.symm) (λe=>a.2.2.2.2.1 e.symm),h.ma.fr d (λe=>a.2.2.2.2.2.1 e.symm) (λe=>a.2.2.2.2.2.2 e.symm) m,h.rg.fr d m,h.sub,λj o=>Qh (h.lt j o) d.size,h.ok,h.ap⟩
theorem a1e.less{d:List Nat}(h:a1e w sb b d seed x)(a:∀j∈N,j∈d)(f:∀j∈sb::b.own,j∈N):a1e w sb b N seed x:=
 ⟨h.st,h.co,h.lo,h.ma.far_ (λj _ hj=>a j hj),h.rg.far_ (λj _ hj=>a j hj),f,λj hj=>h.lt j (a j hj),h.ok,h.ap⟩
theorem a3C.mk{c:a0y}(h:a3C B w c A cap)(d:∀j∈N,j<B){ex:Int}(b:-9223372036854775808<=ex/\ex<=9223372036854775807):a7b w N ⟨c,A,cap,ex⟩:=by
 obtain⟨x,v,e,r,g,m,f⟩:=h.2.2.rd;simp only[Value.slice.injEq]at e;obtain⟨rfl,-,rfl⟩:=e;rw[Qw]at g;exact⟨h.1,r,g,m,λa o=>⟨(f a o).2,λp=>by have:=d _ p;have:=(f a o).1;omega⟩,b,h.2.1⟩
theorem a3C.fr{B:Nat}{c:a0y}{A:OA}{cap:Nat}{F:Nat->Prop}(h:a3C B w c A cap)(a:Fr F w w')(hF:∀k,F k->k<B):a3C B w' c A cap:=
 ⟨h.1,h.2.1,h.2.2.fr a (λk hk e=>by have:=hF k e;have:=(h.2.2.lt hk).1;omega)⟩
end
end
section
theorem d2t(b:OA)(m d:Nat)(a:LI)(X:WD)(o:Byt X b a)(f:m=a.length)(g:b=none->d=0)(r:a.length<=400000000)(p:a2x X):Calls prog 132 #[.slice X 1 1] (X.alloc (.cells #[.slice b m d] 22)) λe w'=>e=.returned (.agg (bys (a3x a)).toArray)/\Below X X w':=by
 subst f;have z:=Qd X 22 #[.slice b a.length d];have y:=ρb X (.cells #[.slice b a.length d] 22)
 have B:b8s (X.alloc (.cells #[.slice b a.length d] 22)) X [.slice b a.length d] [a]:=⟨rfl,λ_=>⟨X.heap.size,0,rfl,z.lt,λj x v=>by rw[QP,z.cell j];simpa using v⟩,λi h D=>by
  obtain rfl:i=0:=by simp at h;omega
  exact⟨b,d,rfl,o.below y,g⟩⟩
 have:=b3k X 1 _ [a] _ B ρp (by simp;omega) (by
  intro x v;simp only[Zm,List.flatten_nil,ZC]at v;exact o.bd x v) (p.below y)
 refine this.mono ?_;rintro e w' ⟨rfl,w⟩;exact⟨by simp,y.trans (w.mono ρp)⟩
def b4M(x:ShD)(e:a1P):a1P:={e with sh:=x.me,ep:=x.ep}
def c3x(x:ShD)(cmd:LI)(e:a1P):LI:=a1n (a1n (a0R (a3x cmd)) (a0R (a5V (b4M x e)))) (a0R (a0K x.iss.toNat))
def a9K(x:ShD)(cmd:LI)(e:a1P):Bool:=a0D (b4M x e)&&okH x.h (decide (x.h.ht=0)) (c3x x cmd e) x.me x.ep
def a4T(x:ShD)(cmd:LI)(e:a1P):a0Q:=hdP x.h (decide (x.h.ht=0)) (c3x x cmd e) x.me x.ep
def a9F(seed:LI)(x:ShD)(cmd:LI)(e:a1P):a0y:=mkC seed (a3x cmd) (a0K x.iss.toNat) (b4M x e) (a4T x cmd e)
def c6z(sb:Nat)(b:ShB)(N:List Nat)(seed:LI)(x:ShD)(cmd:LI)(e0:a1P)(Bn:Nat)(e:Ending)(w':WD):Prop:=
 (a9K x cmd e0=true/\∃A cap,e=.returned (.agg (a0d (a9F seed x cmd e0) A cap).toArray)/\a3C Bn w' (a9F seed x cmd e0) A cap/\a1e w' sb b N seed {x with h:=a4T x cmd e0})\/(a9K x cmd e0=false/\b7C 17 e)
theorem c9e{x:ShD}(b:b9N x){e:a1P}(a:e.Bd):(b4M x e).Bd:=⟨a.kind,(by have:=b.me;have:=b.n;show InI x.me;unfold InI;omega),a.tx,a.am,a.why,(by have:=b.ep;show InI x.ep;unfold InI;omega)⟩
theorem b9U{x:ShD}(d:b9N x){a:LI}{e:a1P}(b:a9K x a e=true):a0D (b4M x e)=true/\okH x.h (decide (x.h.ht=0)) (c3x x a e) x.me x.ep=true/\a0w (a4T x a e)=true/\(a4T x a e).sh=x.me/\(a4T x a e).ep=x.ep/\(a4T x a e).root=c3x x a e:=by
 unfold a9K at b;rw[QA]at b;refine⟨b.1,b.2,?_⟩;have g:=b.2;unfold okH at g;rw[QA]at g;refine⟨g.2,?_⟩;unfold a4T hdP
 by_cases f:x.h.ht=0
 ·simp[f]
 simp only[f,decide_false,QI,if_false,and_true]
 rcases d.head with m | ⟨_,j⟩
 ·rw[m]at f;exact absurd rfl f
 exact j
def c9a(prev:a0Q)(first:Bool)(D:LI)(e:a1P)(iss:Nat)(sh ep:Int):Bool:=a0D e&&okH prev first (a1n (a1n (a0R D) (a0R (a5V e))) (a0R (a0K iss))) sh ep
def nxH(prev:a0Q)(first:Bool)(D:LI)(e:a1P)(iss:Nat)(sh ep:Int):a0Q:=if a0D e=true then b1F prev first (a1n (a1n (a0R D) (a0R (a5V e))) (a0R (a0K iss))) sh ep else a1y
theorem d0y{prev:a0Q}(a:a0w (hdP prev first root sh ep)=true)(hd:Dig root):(hdP prev first root sh ep).Bd:=by
 have h:=(a3B _).1 a
 have b:Dig (hdP prev first root sh ep).prev:=by
  unfold hdP
  split
  ·exact ZZ
  exact Dig.hid prev
 have d:Dig (hdP prev first root sh ep).root:=by
  unfold hdP
  split<;>exact hd
 exact⟨⟨by omega,by omega⟩,⟨by omega,by omega⟩,⟨by omega,by omega⟩,b,d⟩
theorem c5k{prev:a0Q}(hd:Dig root):(b1F prev first root sh ep).Bd:=by
 unfold b1F
 split
 ·rename_i h
  unfold okH at h;rw[QA]at h;exact d0y h.2 hd
 exact a1A
theorem d1c(prev:a0Q)(first:Bool)(D:LI)(e:a1P)(iss:Nat)(sh ep:Int):(nxH prev first D e iss sh ep).Bd:=by
 unfold nxH
 split
 ·exact c5k (Dig.node _ _)
 exact a1A
def d3r(prev:a0Q)(first:Bool)(D:LI)(e:a1P)(iss:Nat)(sh ep:Int)(r:Ending)(w':WD):Prop:=
 ∃
  gA gn,r=.returned (.tuple #[.slice gA gn gn,.bool (a0D e)])/\
  (∀X,Below w' w' X->Calls prog 205 #[.agg (a0b prev).toArray,.bool first,.slice gA gn gn,.int .i64 sh,.int .i64 ep] X λy w2=>y=.returned (.tuple #[.agg (a0b (nxH prev first D e iss sh ep)).toArray,.bool (c9a prev first D e iss sh ep)])/\Below X.heap.size X w2)/\
  (a0D e=true->∃g3,gA=some ⟨g3,0,none⟩/\gn=3/\a4M w' g3 0 D/\a4M w' g3 1 (a5V e)/\a4M w' g3 2 (a0K iss))
theorem c5Z(d:Nat)(D:LI)(b:Dig D)(e:a1P)(f:e.Bd)(iss:Nat)(hi:iss<=4611686018427387904)(prev:a0Q)(a:prev.Bd)(first:Bool)(sh ep:Int)(g:InI sh)(j:InI ep)(w:WD)(o:Byt w d D)(m:a2x w):Calls prog 204 #[.slice d 32 32,.agg (a0x e).toArray,.int .u64 iss] w λr w'=>d3r prev first D e iss sh ep r w'/\Below w w w':=by
 cases hr:a0D e with
 |
  false=>
  refine(b9v d 32 32 e f (iss:Int) (.inl hr) w).mono ?_;rintro r w' ⟨rfl,p⟩;refine⟨⟨none,0,by rw[hr],λX _=>?_,λh=>by rw[hr]at h;cases h⟩,p⟩
  have:=c1g prev a first sh ep X
  have x:nxH prev first D e iss sh ep=a1y:=by unfold nxH;rw[hr];rfl
  have y:c9a prev first D e iss sh ep=false:=by unfold c9a;rw[hr];rfl
  rw[x,y];exact this
 |
  true=>
  have:=b6b d 32 (λh=>by cases h) D (by rw[b.1];omega) e f hr iss hi w o
  rw[b.1]at this;refine this.mono ?_;rintro r w' ⟨⟨z,rfl,B,l2,E⟩,p⟩;refine⟨⟨some ⟨z,0,none⟩,3,by rw[hr],λX v=>?_,λ_=>⟨z,rfl,rfl,B,l2,E⟩⟩,p⟩;have G:=a9Y f;have F:=a0p (n:=iss) ρo
  have:=c1F prev a first z D (a5V e) (a0K iss) sh ep g j X (B.below v) (l2.below v) (E.below v) (by rw[b.1];omega) ρo ρo ((m.below p).below v) _ rfl
  have x:nxH prev first D e iss sh ep=b1F prev first (a1n (a1n (a0R D) (a0R (a5V e))) (a0R (a0K iss))) sh ep:=by unfold nxH;rw[if_pos hr]
  have y:c9a prev first D e iss sh ep=okH prev first (a1n (a1n (a0R D) (a0R (a5V e))) (a0R (a0K iss))) sh ep:=by unfold c9a;rw[hr];rfl
  rw[x,y];exact this
attribute [local go_sem ↓] a1W a1l a4z a4E a1D a3u a3h a2t a2s a2n a3w
theorem a5C(r:Nat)(b:ShB)(N:List Nat)(seed:LI)(x:ShD)(A:OA)(n c:Nat)(f:LI)(F:n=f.length)(H:A=none->c=0)(E:f.length<=100000000)(e0:a1P)(z:e0.Bd)(w:WD)(h:a1e w r b N seed x)(B:Byt w A f)(y:a2x w):Calls prog 147 #[.pointer r,.slice A n c,.agg (a0x e0).toArray] w λe w'=>c6z r b N seed x f e0 w.heap.size e w'/\Fr (λk=>k=r) w w':=by
 have⟨g,hg⟩:=ηs w;have aV:=a0u z;have cA:=z.tx.1;have b0:=Qd w 34 (((a0x e0).toArray));have B0:=ρb w (.cells (((a0x e0).toArray)) 34)
 generalize hW:w.alloc (.cells (((a0x e0).toArray)) 34)=W at b0 B0
 rw[hg]at b0;have bN:W.heap.size=g+1:=by rw[<-hW,Qi,hg]
 have bg:=a9u W;have⟨zc,bf⟩:=η0 ((a0d a0r none 0).toArray);rw[bf,bN]at bg;have bS:=b0.alloc (.cells zc 39);have bz:=Qd W 39 zc;have B1:Below w w (W.alloc (.cells zc 39)):=B0.alloc B0.size _
 generalize hV:W.alloc (.cells zc 39)=V at bS bz B1 bg
 rw[bN]at bz;have cu:(ALs 39).run prog (w.alloc (.cells (a0x e0).toArray 34))=.ok (.pointer (g+1:Nat)) V:=by rw[hW];exact bg
 have R:=(h.below B1).drew;have BX:Below w w V.drew:=B1.drew;have bX:Blk V.drew g 34 (a0x e0).toArray:=bS.drew;have bZ:Blk V.drew (g+1) 39 zc:=bz.drew;have⟨X,hX⟩:=η0 V.drew;rw[hX]at R BX bX bZ;have bi:=h.st.lt;have ag:X.cell? ⟨r,0,none⟩=some (.int .i64 x.me)/\X.cell? ⟨r,3,none⟩=some (.int .i64 x.ep):=⟨R.c.1,R.c.2.2.2.1⟩;have p1:X.cell? ⟨g,1,none⟩=some (.int .i64 e0.sh):=(bX.cell 1).trans rfl;have z1:=bX.frozen 1;have k1:=bX.set_ 1 (.int .i64 x.me);rw[b2D]at k1;have f1:Fr (λk=>k=g) X (X.setCell ⟨g,1,none⟩ (.int .i64 x.me)):=(Qp (λk=>k=g) X).setCell (p:=⟨g,1,none⟩) (λ_=>rfl) _
 generalize cq:X.setCell ⟨g,1,none⟩ (.int .i64 x.me)=Y1 at k1 f1
 have dl:r<X.heap.size:=by have:=R.st.lt;omega
 have aM:=R.st.fr f1 (show¬_=_ by omega);have cB:Y1.cell? ⟨r,0,none⟩=some (.int .i64 x.me)/\Y1.cell? ⟨r,3,none⟩=some (.int .i64 x.ep):=⟨(aM.cell 0).trans rfl,(aM.cell 3).trans rfl⟩;have p2:Y1.cell? ⟨g,36,none⟩=some (.int .i64 e0.ep):=(k1.cell 36).trans (by simp[a0x,List.getElem?_append,a0a,cA]);have z2:=k1.frozen 36;have k2:=k1.set_ 36 (.int .i64 x.ep);rw[b1R (by exact cA)]at k2;have f2:Fr (λk=>k=g) Y1 (Y1.setCell ⟨g,36,none⟩ (.int .i64 x.ep)):=(Qp (λk=>k=g) Y1).setCell (p:=⟨g,36,none⟩) (λ_=>rfl) _
 generalize dg:Y1.setCell ⟨g,36,none⟩ (.int .i64 x.ep)=Y2 at k2 f2
 have ff:=f1.trans f2 (λ_ _ e=>e);have B2:Below w w Y2:=BX.trans (ff.below BX.size (λk hk e=>ρo));have cI:a1e Y2 r b N seed x:=h.below B2;have cU:=bZ.fr ff (show¬_=_ by omega);have T:=d2t A n c f Y2 (B.below B2) F H ρo (y.below B2);have a8:Dig (a3x f):=Dig.sha f;have⟨D,hD⟩:=η0 (a3x f);rw[hD]at T a8;have cr:(bys D).length=32:=by rw[a0a,a8.1]
 obtain⟨ZI,bl,bt,dX⟩:=P8 (t:=31) iId b1N
 generalize dP:(a0x e0).toArray=ev at cu⊢
 have cP:zc.size=137:=by rw[<-bf,Qc];exact a0l a0B none 0
 have an:=a9u;simp only[bf]at an;have⟨cO,dv,ds,HX,HG,dA,du,dO⟩:=η8 an h ag hX hg cB cq dg;have⟨K2,aS,dF,db,P2,Z2,cV,dM⟩:=η8 k2 B2 cI cU p2 z2 T cr;have⟨b5,av,da,cH,dJ,ck,bn⟩:=η7 a8 hD bl bt y cP bi;clear an h ag hX hg cB cq dg k2 B2 cI cU p2 z2 T cr a8 hD bl bt y cP bi R bX b0 bS bz bZ B0 B1 BX hV hW bg bN bf dl aM k1 f1 f2 ff dP aV B F H E;go_in;go_upto_region 1 with fail
 rw[HG.o];refine a0s [(0,3),(1,3),(2,3),(4,3),(5,3),(6,3),(3,0),(8,3),(7,0),(9,1),(10,3),(11,2)] (λW=>W.cell? ⟨r,0,none⟩=some (.int .i64 x.me)/\W.cell? ⟨r,3,none⟩=some (.int .i64 x.ep)) ρk ρk ρk ρk (ρy HX.o ds.o) ?_;rw[HX.o];refine ε6 ?_
 refine θ1 (λW' hS=>hS.1) ?_
 refine ε1 ?_
 refine θ1 (λW' hS=>hS.2) ?_
 refine κ ?_;intro K hK;rw[du.o];with_reducible refine hK _ _ (dA.o) ?_;clear hK K;clear p1 z1
 have p2:=P2.o;have z2:=Z2.o;refine ε1 ?_;refine τ ?_;intro K hK;rw[dO.o];with_reducible refine hK _ _ ?_;clear hK K;clear p2 z2
 refine ν ?_;go_upto_region 2 with fail
 have T:=cV.o;go_wp2_with fail;refine μi T ?_;intro w3 cK;clear T;have ca:=da.o w3;have aU:=cH.o w3 (bys D) dM.o (a0h _);have bD:=Qd w3 31 (bys D).toArray;have BD:=(Qf _ w3).alloc (Qg _) (.cells (bys D).toArray 31);have⟨d,hd⟩:=ηs w3;rw[hd]at ca aU bD;have aX:Below Y2 Y2 w3:=cK
 generalize dm:w3.alloc (.cells (bys D).toArray 31)=Y3 at aU bD BD
 have ad:Below Y2 Y2 Y3:=aX.trans (BD.mono aX.size);have k3:=φf K2 ad;have c2:=dF.below ad;have cZ:=dJ.below (φt aS ad);have⟨dw,ab,K3,cY,cQ⟩:=η5 bD ad k3 c2 cZ;clear bD ad k3 c2 cZ BD aX cK dm;have⟨U0,b2⟩:=η0 Y3.drew;have ac:Below Y3 Y3 U0:=by rw[<-b2];exact(Qf _ Y3).drew
 have aC:=cY.ok;have aA:=c9e aC (z);have aV:=a0u aA;have FE:=λX (hX:Below Y3 Y3 X)=>P4 b3q a8Q (a0x (b4M x e0)) (φf K3 hX) aV
 have FS:=λX (hX:Below Y3 Y3 X)=>cY.below hX
 have FD:=λX (hX:Below Y3 Y3 X)=>b3N (φf dw hX) b5.2
 have cC:=aC.iss;obtain⟨i,hi⟩:∃i:Nat,x.iss=(i:Int):=⟨x.iss.toNat,by omega⟩;have dh:x.iss.toNat=i:=ρo;have bu:InI x.me:=aA.sh;have bp:InI x.ep:=aA.ep;have b7:=λX (hX:Below Y3 Y3 X)=>c5Z d D b5.o (b4M x e0) aA i ρo x.h aC.h (decide (x.h.ht=0)) x.me x.ep bu bp X (FD X hX) (cQ.below hX)
 have⟨bR,aY⟩:=η0 ((a0x (b4M x e0)).toArray);simp only[aY]at FE b7;have bi:∀W',(SLs 31 (.pointer d) none none none).run prog W'=.ok (.slice d 32 32) W':=λW'=>a4Q b1w ρk W' d ρo
 have cJ:(LDs 34 (.pointer g)).run prog U0=.ok (.agg bR) U0/\U0.cell? ⟨r,5,none⟩=some (.int .u64 i):=⟨FE U0 ac,by rw[<-hi];exact(FS U0 ac).c.2.2.2.2.2.1⟩;have c6:=b7 U0 ac;have⟨dk,a1,dS,dt,cL,ci,cw,dU⟩:=η8 FE FS FD cJ b2 ac aA aV;have⟨HI,ba,ai,di⟩:=η4 hi dh aC aY;clear FE FS FD cJ b2 ac aA aV hi dh aC aY b7 cC bu bp z;go_upto_region 3 with fail
 refine a0s [(0,3),(2,3),(3,3),(4,3),(1,0),(5,0),(6,2),(7,3),(8,3),(9,3),(10,3),(11,3)] (λX=>(LDs 34 (.pointer g)).run prog X=.ok (.agg bR) X/\X.cell? ⟨r,5,none⟩=some (.int .u64 i)) ρk ρk ρk ρk (ρy cL.o dt.o) ?_;rw[cL.o];refine ε4 ?_
 iterate 2 refine θ2 (λW' hS=>QU hS.1 hS.2) ?_
 refine τ ?_;intro K hK;refine μ1 c6 ?_;rintro e w6 ⟨⟨gA,gn,rfl,b4,bQ⟩,ct⟩;with_reducible refine hK _ _ ?_;clear hK K
 refine ε5 ?_;clear c6;refine ν ?_;have⟨U,hU⟩:=η0 w6.drew;have af:Below w6 w6 U:=by rw[<-hU];exact(Qf _ w6).drew
 have aG:=φt ci ct;have S:=aG.trans (af.mono aG.size);have⟨ak,aI⟩:=η0 (a0D (b4M x e0));have⟨okN,aJ⟩:=η0 (c9a x.h (decide (x.h.ht=0)) D (b4M x e0) i x.me x.ep);have⟨nh,bc⟩:=η0 (nxH x.h (decide (x.h.ht=0)) D (b4M x e0) i x.me x.ep);have a0:nh.Bd:=by rw[<-bc];exact d1c _ _ _ _ _ _ _
 have aN:=a0f a0;have F1:=λY (hY:Below U U Y)=>(a1.o Y (S.trans (hY.mono S.size))).ldh
 have F2:=λY (hY:Below U U Y)=>(a1.o Y (S.trans (hY.mono S.size))).c
 have⟨S0,ag⟩:=η0 ((λY=>(LDs 37 (.pointer (some ⟨r,10,none⟩))).run prog Y=.ok (.agg (a0b x.h).toArray) Y/\Y.cell? ⟨r,11,none⟩=some (.int .i64 x.h.ht)/\Y.cell? ⟨r,0,none⟩=some (.int .i64 x.me)/\Y.cell? ⟨r,3,none⟩=some (.int .i64 x.ep)):WD->Prop);have c5:∀Y,Below U U Y->S0 Y:=λY hY=>by rw[<-ag];exact⟨F1 Y hY,(F2 Y hY).2.2.2.2.2.2.2.2.2.2,(F2 Y hY).1,(F2 Y hY).2.2.2.1⟩
 rw[bc,aJ]at b4;rw[aI]at bQ⊢;have ah:=λX (hX:Below U U X)=>b4 X (af.trans (hX.mono af.size))
 have⟨fb,bk⟩:=η0 (decide (x.h.ht=0));simp only[bk]at ah;have⟨hv,b3⟩:=η0 (a0b x.h);rw[b3]at ag;simp only[b3]at ah;have⟨nv,aB⟩:=η0 (a0b nh);rw[aB]at aN;simp only[aB]at ah;have bB:∀v∈nv,v.oneCell'=true:=by rw[<-aB];exact a1p _
 have bA:=a6H;have⟨zh,bU⟩:=η0 ((a0b a1y).toArray);have bF:zh.size=67:=by rw[<-bU,Qc];exact a0f a1A
 simp only[bU]at bA;have⟨ht,a7⟩:=η0 x.h.ht;rw[a7]at bk;have c8:(ht == 0)=fb:=by rw[<-bk];rfl
 rw[a7]at ag;have⟨cS,cd,HU,cg,br,c1,c0,cX⟩:=η8 ag c5 hU S af bQ ah aI;have⟨de,dL,aq,au,df,bq,dx,dW⟩:=η8 aJ bc a0 aN aB bB bF a7;clear ag c5 hU S af bQ ah aI aJ bc a0 aN aB bB bF a7 F1 F2 bU b3 b4 aG ct bi;go_upto_region 4 with fail
 with_reducible refine a4F (λi=>i != 19&&i != 24) S0 ρk ?_
 rw[HU.o];refine a2b (m:=7) (Lf:=#[true,true,true,true,true,true,true,true,true,true,true,true,true,true,true,true,true,true,true,false,false,false,false,false,false,false]) [(0,3),(1,3),(2,3),(4,3),(5,3),(6,3),(7,3),(10,3),(11,3),(12,3),(13,3),(15,3),(16,3),(17,3),(3,0),(8,0),(9,3),(14,0),(18,0)] true ρk ρk ρk (λ_=>cd.o _ (Qf _ _)) ?_;refine εc4 ?_;refine εc4 ?_;refine εc4 ?_;refine εc1 ?_;refine εc1 ?_
 iterate 2 refine θc4 (λ_ h=>by rw[<-cS.o]at h;exact h) ?_
 refine εc1 ?_
 iterate 2 refine θc4 (λ_ h=>by rw[<-cS.o]at h;exact h) ?_
 with_reducible refine a2m ?_
 refine a2A (j:=23) (n:=2) (Lf:=#[true,true,true,true,true,true,true,true,true,true,true,true,true,true,true,true,true,true,true,true,true,true,true,true,false,false]) (t:=37) (Z:=zh) [(19,2),(20,3),(21,3),(22,3)] ρk ρk ρk ρu rfl (λa X=>by go_simp) cd.o ?_;intro X0 R;have c4:=c0.o X0 R;have dK:=η1 R;clear R bA;with_reducible refine a4f (o:=?_) ρu ρu (λK hK=>?_)
 refine ψ ?_;go_simp;refine μ1 c4 ?_;rintro e dV ⟨rfl,aP⟩;clear c4;have aW:=φt dK aP;with_reducible refine hK _ _ aP (λdq bH=>?_);clear hK K
 have bG:=η1 (aW.trans (bH.mono aW.size));clear aP bH aW
 iterate 3 (with_reducible refine a8f (o:=?_) (v:=?_) (a':=?_) ρu ρu (λW'=>?_) ?_ ?_;rotate_left 2;(focus exact ρs);focus(exact ρs))
 with_reducible refine a6e ?_;intro b8 bO aR ao
 have bb:=P7 a1h ao dx nv au bq;have r1:=ao.row_ nv.toArray;have r2:=Ql (g:=bO) bG.o aR nv.toArray;have⟨R1,R2,dR,dQ⟩:=η4 r1 r2 ao aR;clear r1 r2 ao aR b8;refine a1c [(24,2),(25,3)] true ρk ρk ρk (λ_=>cd.o _ bG.o) ?_;refine τ1 ?_;refine ε1 ?_;clear bb;refine ν ?_;have⟨Y4,bL⟩:=η0 (dq.setRow bO nv.toArray);have r1:=R1.o;have r2:=R2.o;rw[bL]at r1 r2;have bw:=φt cg r2;have⟨R1,bs,dn,dd⟩:=η4 r1 bw bL r2;clear r1 bw bL r2 bk c8
 have al:a9K x f e0=(ak&&okN):=by
  have h1:=cX.o;have h2:=de.o;rw[<-h1,<-h2];unfold a9K c9a
  cases h:a0D (b4M x e0)with
  | false=>rfl
  | true=>simp only[Y5];unfold c3x;rw[ba.o,av.o]
 go_upto_region 5 with fail
 rw[dn.o]
 cases hokb:(ak&&okN)with
 |
  false=>
  rw[hokb]at al;have aj:=a0X true 17 Y4;simp only[if_true]at aj;have hm:=a1m 17 ρo Y4;have az:Fr (λk=>k=r) w Y4:=(Q9 (aS.trans ((ab.trans (bs.mono ab.size)).mono aS.size))).mono (λk hk e=>by have:=bn.o;omega);have⟨a4,bh⟩:=η2 al az;clear al az
  rcases(show ak=false\/(ak=true/\okN=false) by revert hokb;cases ak<;>cases okN<;>simp)with e1 | ⟨e1,e2⟩
  ·subst e1
   clear hokb;go_wp2_with fail;refine μf aj ?_;go_wp2_with fail;refine μf hm ?_;exact⟨rfl,.inr ⟨a4.o,by omega,rfl⟩,bh.o⟩
  subst e1 e2;clear hokb;go_wp2_with fail;refine μf aj ?_;go_wp2_with fail;refine μf hm ?_;exact⟨rfl,.inr ⟨a4.o,by omega,rfl⟩,bh.o⟩
 |
  true=>
  rw[hokb]at al;obtain⟨e1,e2⟩:ak=true/\okN=true:=by revert hokb;cases ak<;>cases okN<;>simp
  subst e1 e2;clear hokb;have aj:=a0X false 17 Y4;simp only[QI,if_false]at aj;have hm:=a1o Y4;obtain⟨f1,f2,f3,f4,f5,f6⟩:=b9U ai al
  have Q:nh=a4T x f e0:=by
   have h1:=dL.o;rw[<-h1];unfold nxH b1F a4T;rw[if_pos f1];have h2:a1n (a1n (a0R D) (a0R (a5V (b4M x e0)))) (a0R (a0K i))=c3x x f e0:=by unfold c3x;rw[ba.o,av.o]
   rw[h2,if_pos f2]
  rw[<-Q]at f3 f4 f5 f6;obtain⟨g3,rfl,rfl,l1,l2,l3⟩:=c1.o rfl;have a2:Below w6 w6 Y4:=br.trans (dd.mono br.size);have⟨U6,bY⟩:=η0 Y4.drew;have ax:Below Y4 Y4 U6:=by rw[<-bY];exact(Qf _ Y4).drew
  have I:=φt bs ax;have O:=a2.trans (ax.mono a2.size);have rb:=φf R1 ax;have G1:=λY (hY:Below U6 U6 Y)=>dk.o Y (I.trans (hY.mono I.size))
  have G2:=λY (hY:Below U6 U6 Y)=>P4 a1S a1h nv (rb.fr (Q9 hY) (ρh rb.lt)) au.o
  have G3:=λY (hY:Below U6 U6 Y)=>(a1.o Y (I.trans (hY.mono I.size))).c.2.2.1
  have⟨S6,bW⟩:=η0 ((λY=>(LDs 34 (.pointer g)).run prog Y=.ok (.agg bR) Y/\(LDs 37 (.pointer bO)).run prog Y=.ok (.agg nv.toArray) Y/\Y.cell? ⟨r,2,none⟩=some (.pointer b.rp)):WD->Prop);have bo:∀Y,Below U6 U6 Y->S6 Y:=λY hY=>by rw[<-bW];exact⟨G1 Y hY,G2 Y hY,G3 Y hY⟩
  have dE:=ai.me;have dz:=ai.n;have a9:mkC seed D (a0K i) (b4M x e0) nh=a9F seed x f e0:=by unfold a9F;rw[Q,ba.o,av.o]
  have aE:nh.root=a1n (a1n (a0R D) (a0R (a5V (b4M x e0)))) (a0R (a0K i)):=by rw[f6];unfold c3x;rw[ba.o,av.o]
  have bP:=ai.iss;have dp:=HI.o;have cz:=a0p (n:=i) ρo;have be:=λX (hX:Below U6 U6 X)=>b5z b.rp x.n.toNat seed ρo g3 D (a0K i) (b4M x e0) nh cw.o aq.o X (a1.o X (I.trans (hX.mono I.size))).rg.at_ (l1.below (O.trans (hX.mono O.size))) (l3.below (O.trans (hX.mono O.size))) (by rw[b5.1];omega) ρo f1 f3 (f4.symm) (f5.symm) (by rw[f4];omega) aE (cQ.below (I.trans (hX.mono I.size)))
  rw[a9]at be;have aH:(a9F seed x f e0).Bd:=by rw[<-a9];exact c6t cw.o aq.o
  have aD:(a9F seed x f e0).path.length=2:=by rw[<-a9];rfl
  have⟨cc,a5⟩:=η0 (a9F seed x f e0);simp only[di.o,df.o,a5]at be;rw[a5]at aH aD;have bx:b9N {x with h:=nh}:={ai.o with h:=aq.o,head:=.inr ⟨f3,f4⟩};have a3:=c3H ai.h b aq;rw[df.o]at a3;have cj:∀X:WD,(ALs 39).run prog X=.ok (.pointer (some ⟨X.heap.size,0,none⟩)) (X.alloc (.cells zc 39)):=cO.o;have⟨c9,aF,dr,aT,dI,bI,cx,dG⟩:=η8 bW bo bY I be aH aD a5;have⟨cE,cD,a4,cy,dB⟩:=η5 bx a3 al Q rb;clear bW bo bY I be aH aD a5 bx a3 al Q rb G1 G2 G3 l1 l2 l3 f1 f2 f3 f4 f5 f6 dE dz a9 aE bP dp cz a2 O ax c1 c0;go_wp2_with fail;refine μf aj ?_;go_wp2_with fail;refine μf hm ?_;clear aj hm;go_upto_region 6 with fail
  with_reducible refine a4F (λi=>i != 7&&i != 12) S6 ρk ?_
  rw[dr.o];refine a2b (m:=7) (Lf:=#[true,true,true,true,true,true,true,false,false,false,false,false,false,false]) [(0,3),(1,3),(2,3),(4,3),(3,0),(5,0),(6,0)] true ρk ρk ρk (λ_=>aF.o _ (Qf _ _)) ?_;refine εc4 ?_
  iterate 3 refine θc3 (λ_ h=>by rw[<-c9.o]at h;exact h) ?_
  with_reducible refine a2m ?_
  refine a2A (j:=11) (n:=2) (Lf:=#[true,true,true,true,true,true,true,true,true,true,true,true,false,false]) (t:=39) (Z:=zc) [(7,2),(8,3),(9,3),(10,3)] ρk ρk ρk ρu rfl (λa X=>by go_simp) aF.o ?_;intro Z0 bT;have c7:=dI.o Z0 bT;have cv:=η1 bT;clear bT cj;with_reducible refine a4f (o:=?_) ρu ρu (λK hK=>?_)
  refine ψ ?_;go_simp;refine μ1 c7 ?_;rintro e7 w7 ⟨⟨A7,J,rfl,dc⟩,b6⟩;clear c7;have ch:=φt cv b6;have bv:=cv.size;have bJ:=dc.base (B':=U6.heap.size) bv;have⟨cM,cG⟩:=η2 bJ ch;clear bJ ch dc bv;with_reducible refine hK _ _ b6 (λZ7 bV=>?_);clear hK K
  have bK:=a0T.keep cM bV;have cf:=η1 (φt cG bV);clear b6 bV cM
  iterate 3 (with_reducible refine a8f (o:=?_) (v:=?_) (a':=?_) ρu ρu (λW'=>?_) ?_ ?_;rotate_left 2;(focus exact ρs);focus(exact ρs))
  with_reducible refine a6e ?_;intro b8 a6 aZ ay
  have cT:=a4l bK.own ay ρd;have ar:=a0l bI A7 J;have bb:=P9 a4U ay ck (a0d cc A7 J) ar (a2C cc A7 J);have r1:=ay.row_ (a0d cc A7 J).toArray;have f6:=ρr (a6) Z7 (a0d cc A7 J).toArray;have r2:=Ql (g:=a6) cf.o aZ (a0d cc A7 J).toArray;have aa:=bK.fr f6 (λj hj e=>cT (by rw[hj,e]));have⟨cs,bj⟩:=η0 (a0d cc A7 J);rw[bj]at bb r1 r2 aa ar;simp only[bj];have⟨Q1,Q2,dD,aL,c3,cW⟩:=η6 r1 r2 aa ar bj aZ;clear r1 r2 aa ar bj aZ ay b8 cT f6 bK;refine a1c [(12,2),(13,3)] true ρk ρk ρk (λ_=>aF.o _ cf.o) ?_;refine τ1 ?_;refine ε1 ?_;clear bb;refine ν ?_;have⟨Y7,dy⟩:=η0 (Z7.setRow a6 cs.toArray);have q1:=Q1.o;have q2:=Q2.o;have aa:=dD.o;rw[dy]at q1 q2 aa;have aQ:=φt aT q2;have b9:=a1.o Y7 aQ;have kh:=φf dB q2;have ldh:=P4 a1S a1h nv kh au;have bC:=Pa a1h b9.st (off:=10) nv au.o (by rw[Qc,b3p ai.h];omega) bq.o
  have k8:=b9.st.row_ (a1d (shV x b).toArray 10 nv);rw[cD.o]at bC k8;have⟨W8,dH⟩:=η0 (Y7.setRow r (shV {x with h:=nh} b).toArray);have f8:=ρr (r) Y7 (shV {x with h:=nh} b).toArray;rw[dH]at bC k8 f8;have cF:=bn.o;have dN:=HG.o;have e1:=aS.size;have e2:=ab.size;have e3:=aT.size;have e4:=cW.o;have e5:=q2.size;have cN:=q1.fr f8 (show¬a6=r by omega);have dY:=P4 a8j a4U cs cN aL;have aK:=φt ab aQ;have ce:=(φf db aK).fr f8 (show¬g+1=r by omega);have cn:=P9 a4U ce ck.o cs aL.o (by rw[<-c3.o];exact a2C cc A7 J);have q5:=ce.row_ cs.toArray;have f9:Fr (λj=>j=g+1) W8 (W8.setRow (g+1) cs.toArray):=(Qp (λj=>j=g+1) W8).setRow (g:=g+1) (λ_=>rfl) _
  generalize dT:W8.setRow (g+1) cs.toArray=W9 at cn q5 f9
  have bE:=φt aS aK;have az:Fr (λk=>k=r) w W9:=(((Q9 bE).mono (G:=λk=>k=r) (λk hk e=>ρo)).trans f8 (λk hk e=>e)).trans f9 (λk hk e=>ρo);have cp:a1e W9 r b N seed {x with h:=nh}:=dv.upd az (k8.fr f9 ρo) cE.o rfl rfl rfl rfl rfl rfl;have bm:=((aa.fr f8 (λj hj e=>by have:=(aa.lt hj).1;omega)).fr f9 (λj hj e=>by have:=(aa.lt hj).1;have:=db.lt;omega)).base (B':=w.heap.size) ρo;have Q:=cy.o;have ae:=dG.o;have aO:∀e:Ending,e=.returned (.agg cs.toArray)->c6z r b N seed x f e0 w.heap.size e W9:=λe z=>.inl ⟨a4.o,A7,J,by rw[ae,c3.o];exact z,⟨by rw[ae];exact bI.o,by rw[ae,cx.o];omega,by rw[ae];exact bm⟩,by rw[<-Q];exact cp⟩
  have⟨Q5,bM,bh⟩:=η3 q5 aO az;clear q5 aO az cp bm Q ae bE f9 ce cN aK e1 e2 e3 e4 e5 cF dN f8 k8 b9 kh aQ q1 q2 aa;go_wp2_with fail;obtain⟨dC,dj,cR⟩:=Q8.1 a8j;refine bodyPost_ret (v:=.agg cs.toArray) (a0c rfl _ _ (g+1) _ cs dC rfl Q5 dj cR (ρy aL.o a4U)) rfl ?_;exact⟨bM.o _ rfl,bh.o⟩
end
section
def b4G(id:LI)(n me:Int):List Nat->Option Nat
 | []=>none
 | i::l=>if ofO id (i:Int) n=me then some i else b4G id n me l
def b9R(id:LI)(n me:Int):Option Nat:=b4G id n me (List.range 16)
theorem b0t(id:LI)(n me:Int):∀(a b:List Nat),(∀i∈a,ofO id (i:Int) n≠me)->b4G id n me (a++b)=b4G id n me b
 | [],_,_=>rfl
 |
  i::a,b,h=>by
  rw[QG,b4G,if_neg (h i Qr)];exact b0t id n me a b (λj hj=>h j (Qj _ hj))
theorem c2M(hi:i<16)(h:∀j:Nat,j<i->ofO id (j:Int) n≠me)(a:ofO id (i:Int) n=me):b9R id n me=some i:=by
 unfold b9R
 have e:List.range 16=List.range i++(i::List.range' (i+1) (16-(i+1))):=by
  rw[show i::List.range' (i+1) (16-(i+1))=List.range' i (16-i) by rw[show 16-i=(16-(i+1))+1 by omega,List.range'_succ],List.range_eq_range',List.range_eq_range']
  have:= @List.range'_append_1 0 i (16-i)
  rw[QP]at this;rw[this]
  congr 1;omega
 rw[e,b0t id n me _ _ (λj b=>h j (ZU.1 b)),b4G,if_pos a]
theorem b9T(h:∀j:Nat,j<16->ofO id (j:Int) n≠me):b9R id n me=none:=by
 unfold b9R
 have:=b0t id n me (List.range 16) [] (λj a=>h j (ZU.1 a))
 rw[ZC]at this;rw[this];rfl
theorem c9q(h:b9R id n me=some i):i<16:=by
 have:∀(l:List Nat),b4G id n me l=some i->i∈l:=by
  intro l
  induction l with
  | nil=>intro h;cases h
  |
   cons j l a=>
   intro h;rw[b4G]at h
   split at h
   ·cases h;exact Qr
   exact Qj _ (a h)
 exact ZU.1 (this _ h)
def c9B(id:LI):Option Nat->LV
 | some i=>ptL id (i:Int)
 | none=>ptL (List.replicate 32 0) 0
abbrev a4Z:=stOf 189
abbrev a5p:=alOf 189
theorem c3w:(((prog.info? 189).bind (·.zero)).map (·.cells.size))=some 33:=ρk
theorem d2B(w:WD):(ALs 189).run prog w=.ok (.pointer w) (w.alloc (.cells (ptL (List.replicate 32 0) 0).toArray 189)):=a0U (.agg (ptL (List.replicate 32 0) 0).toArray) ρk w
theorem d1Q(w:WD):(BDs 189 #[]).run prog w=.ok (.agg (ptL (List.replicate 32 0) 0).toArray) w:=run_build w _ _ _ ρk
attribute [local go_sem ↓] a1B a1F a4Z a5p b6z
theorem c7g(f:Nat)(b:ShB)(N:List Nat)(seed:LI)(x:ShD)(D:LI)(a:Dig D)(w:WD)(h:a1e w f b N seed x)(d:a2x w):Calls prog 144 #[.pointer f,.agg (bys D).toArray] w λe w'=>e=.returned (.tuple #[.agg (c9B D (b9R D x.n x.me)).toArray,.bool (b9R D x.n x.me).isSome])/\Below w w w':=by
 have⟨g,hg⟩:=ηs w;have aF:(bys D).length=32:=by rw[a0a,a.1]
 have aI:∀X,(BDs 189 #[]).run prog X=.ok (.agg (ptL (List.replicate 32 0) 0).toArray) X:=d1Q;have aj:(ptL (List.replicate 32 0) 0).length=33:=by decide
 have aq:=a2p (List.replicate 32 0) 0;have b0:=Qd w 31 (((bys D).toArray));have B0:=ρb w (.cells (((bys D).toArray)) 31)
 generalize hW:w.alloc (.cells (((bys D).toArray)) 31)=W at b0 B0
 rw[hg]at b0;have Y:W.heap.size=g+1:=by rw[<-hW,Qi,hg]
 have G:=d2B W;obtain⟨Z,af,ae,be⟩:=P8 (t:=189) a1H c3w;have⟨S,O⟩:=η0 (ptL (List.replicate 32 0) 0);rw[O]at G aj aq;simp only[O]at aI;rw[Y]at G;have al:=b0.alloc (.cells S.toArray 189);have bz:=Qd W 189 S.toArray;have B1:Below w w (W.alloc (.cells S.toArray 189)):=B0.alloc B0.size _
 generalize hV:W.alloc (.cells S.toArray 189)=V at al bz B1 G
 rw[Y]at bz;have aJ:V.heap.size=g+2:=by rw[<-hV,Qi,Y]
 have E:∀o:Option Nat,o=none->c9B D o=S:=λo e=>by rw[e,<-O];rfl
 have⟨dv,aa⟩:=η0 ((bys D).toArray);have a8:(ALs 189).run prog (w.alloc (.cells dv 31))=.ok (.pointer (g+1:Nat)) V:=by rw[<-aa,hW];exact G
 have H:x.n=x.n:=rfl;have bc:=h.ok.n;have bf:=h.ok.me;rw[aa]at hW
 generalize aM:b9R D x.n x.me=oq
 have⟨aS,aO,aU,aL,HG,ao,a1,aN⟩:=η8 af ae aM h hg B1 al bz;have⟨aH,a0,au,Q,a5,a3,aX,HW⟩:=η8 aJ aF aa aj aq E d hW;have HV:=η1 hV;clear af ae aM h hg B1 al bz aJ aF aa aj aq E d hW hV Y b0 B0 G O;rw[au.o];go_in;go_upto_region 2 with fail
 rw[HG.o];go_loopg [6,7,8,9,10] 16 (λkk _ _ _ _ s wr=>∃i:Nat,i+kk=16/\s=.int .i64 i/\(∀j:Nat,j<i->ofO D (j:Int) x.n≠x.me)/\Below V V wr);exact⟨0,by omega,rfl,λj hj=>ρo,Qf _ _⟩;obtain⟨i,hi,rfl,H,r⟩:=hrel
 by_cases aC:i<16
 ·have ag:(i:Int)<16:=ρo
  have aA:=P4 a2i iId (bys D) (φf a1 r) a0.o;have aB:=λX=>d2G a.1 (i:Int) X
  have ad:=aS.o wr;have I:(ptL D (i:Int)).length=33:=a1x a.1 _;have v:=aO.o wr (ptL D (i:Int)) I (a2p _ _);have bp:=Qd wr 189 (ptL D (i:Int)).toArray;have R:=ρb wr (.cells (ptL D (i:Int)).toArray 189);have⟨p,hp⟩:=ηs wr;rw[hp]at ad v bp
  generalize aZ:wr.alloc (.cells (ptL D (i:Int)).toArray 189)=W4 at v bp R
  have⟨U,hU⟩:=η0 W4.drew;have ar:Below W4 W4 U:=by rw[<-hU];exact(Qf _ _).drew
  have ah:=R.trans (ar.mono R.size);have F:=r.trans (ah.mono r.size);have m:=φt ao F;have kp:=bp.fr (Q9 ar) (ρh bp.lt);have ay:=aL.below m;have y:=λX (hX:Below U U X)=>P4 a3a a1H (ptL D (i:Int)) (kp.fr (Q9 hX) (ρh kp.lt)) I
  have an:(LDs 189 (.pointer p)).run prog U=.ok (.agg (ptL D (i:Int)).toArray) U/\U.cell? ⟨f,1,none⟩=some (.int .i64 x.n):=⟨y U (Qf _ _),ay.c.2.1⟩;have ab:=b2T D a.1 a.2 (i:Int) x.n ρo ρo U (aX.below m);have az:=λX (hX:Below U U X)=>(aL.below (m.trans (hX.mono m.size))).c.1
  have⟨k,hk⟩:=η0 (ofO D (i:Int) x.n);have⟨kb,J⟩:=η0 (okO (i:Int) x.n);rw[hk,J]at ab;rw[au.o]at aA;simp only[au.o]at aB;have⟨pv,ac⟩:=η0 (ptL D (i:Int));rw[ac]at v I an;simp only[ac]at aB y ab;have⟨aY,HU,aK,a7,ax,a4,HK,aR⟩:=η8 an hU F m y az hk ac;have⟨aG,aE,HP,a6,aD⟩:=η5 I H hp r aC;clear an hU F m y az hk ac I H hp r aC bp R ar ah kp ay J aZ;go_upto_region 5 with fail
  refine a0s [(1,3),(2,3),(3,3),(0,0),(4,0),(5,2),(6,3),(7,3),(8,3),(9,3),(10,3)] (λX=>(LDs 189 (.pointer p)).run prog X=.ok (.agg pv.toArray) X/\X.cell? ⟨f,1,none⟩=some (.int .i64 x.n)) ρk ρk ρk ρk (ρy HU.o aY.o) ?_;rw[HU.o];refine ε3 ?_
  iterate 2 refine θ2 (λ_ h=>h) ?_
  refine τ ?_;intro K hK;refine μi ab ?_;intro w5 T;with_reducible refine hK _ _ ?_;clear hK K
  refine ε5 ?_;clear ab aA ad v;refine ν ?_;have a9:=a4.o w5 T;have aP:=ax.o w5 T;have z:=φt aK T;have ai:=φf aN z;have ak:=aH.o;have aW:(w5.setRow (g+1) pv.toArray).heap.size=w5.heap.size:=by simp
  have aT:=P9 a1H ai (by rw[Qc,Q.o]) pv aG.o (by rw[<-aR.o];exact a2p _ _);have q5:=ai.row_ pv.toArray;have q6:=Ql (g:=g+1) (φt ao z) (by rw[HG.o];omega) pv.toArray;have⟨av,Q5,Q6⟩:=η3 z q5 q6;clear z q5 q6 T ai aW ak
  by_cases B:k=x.me
  ·have aQ:=c2M aD aE (HK.trans B)
   obtain rfl:oq=some i:=aU.symm.trans aQ;have J:(k == x.me)=true:=ρw B;have a2:decide (k=x.me)=true:=ρw B;clear ag;go_wp2;refine bodyPost_ret (a0Z rfl _ _ (g+1) 189 pv Q5 a3a (ρy aG.o a1H) rfl (.bool true)) rfl ?_;exact⟨by rw[<-aR.o];rfl,Q6.o⟩
  have J:(k == x.me)=false:=ρw B;have a2:decide (k=x.me)=false:=ρw B;clear aT aP;go_wp2;go_roundg (16-(i+1))
  case measure=>omega
  case rel=>exact⟨i+1,by have:=aD.o;omega,by go_num,λj hj=>by
   by_cases e:j=i
   ·subst e;rw[HK.o];exact B
   exact aE.o j ρo,av.o⟩
 obtain rfl:i=16:=ρo;have ag:¬((16:Nat):Int)<16:=ρo;obtain rfl:oq=none:=aU.symm.trans (b9T H);have kz:=φf aN r;have ak:=aH.o;have bb:=P9 a1H kz (by rw[Qc,Q.o]) S Q.o a5.o;have q5:=kz.row_ S.toArray;have q6:=Ql (g:=g+1) (φt ao r) (by rw[HG.o];omega) S.toArray;have ba:=aI wr;have E:=a3.o none rfl;have⟨Q5,Q6,a6,aV⟩:=η4 q5 q6 r E;clear q5 q6 r E H kz ak;go_wp2;refine bodyPost_ret (a0Z rfl _ _ (g+1) 189 S Q5 a3a (ρy Q.o a1H) rfl (.bool false)) rfl ?_;exact⟨by rw[aV.o],Q6.o⟩
end
def inO(t:TxD)(k:Int):InD:=t.ins.getD k.toNat default
def b4C(t:TxD)(k:Int):a1q:=t.outs.getD k.toNat default
def ptI(i:InD):Pt:=(i.tx,i.ix)
def inQ(C:List (Pt×a1q))(L:List (Pt×a1J))(i:InD):Int:=
 if(a2E L (ptI i)).isSome then 14
 else if(a2E C (ptI i)).isSome=false then 13
 else if(a1v C (ptI i)).ow≠c8B i.sec then 10
 else if(a1v C (ptI i)).am≠i.am then 15
 else 0
def b3P(C:List (Pt×a1q))(L:List (Pt×a1J))(t:TxD):LI->Int
 | []=>0
 | k::ks=>if inQ C L (inO t k)≠0 then inQ C L (inO t k)else b3P C L t ks
theorem b3u{C:List (Pt×a1q)}{L:List (Pt×a1J)}{t:TxD}:∀(a b:LI),b3P C L t a=0->b3P C L t (a++b)=b3P C L t b
 | [],b,_=>rfl
 |
  k::ks,b,h=>by
  unfold b3P at h;rw[QG]
  conv=>lhs;unfold b3P
  by_cases hk:inQ C L (inO t k)≠0
  ·rw[if_pos hk]at h;exact absurd h hk
  rw[if_neg hk]at h⊢;exact b3u ks b h
def a1w(n me:Int)(C:List (Pt×a1q))(L:List (Pt×a1J))(t:TxD):Int×Int:=
 if a1a t≠0 then(0,a1a t)
 else if a0M (a2P t n) me=[]then(0,11)
 else if b3P C L t (a0M (a2P t n) me)≠0 then(0,b3P C L t (a0M (a2P t n) me))
 else(a6B t n me,0)
def a6u(t:TxD):LI->List (Pt×a1q)×Int->List (Pt×a1q)×Int
 | [],c=>c
 | k::ks,c=>a6u t ks (b6D c.1 (ptI (inO t k)),IntKind.u64.wrap (c.2-(a1v c.1 (ptI (inO t k))).am))
theorem b1X(t:TxD)(k:Int):∀(l:LI) (c:List (Pt×a1q)×Int),a6u t (l++[k]) c=(b6D (a6u t l c).1 (ptI (inO t k)),IntKind.u64.wrap ((a6u t l c).2-(a1v (a6u t l c).1 (ptI (inO t k))).am))
 | [],_=>rfl
 | _::l,_=>b1X t k l _
def a4H(t:TxD)(id:LI):LI->(List (Pt×a1q)×Int)×(List (Pt×a1J)×Int)->(List (Pt×a1q)×Int)×(List (Pt×a1J)×Int)
 | [],c=>c
 | k::ks,c=>a4H t id ks ((b6D c.1.1 (ptI (inO t k)),IntKind.u64.wrap (c.1.2-(a1v c.1.1 (ptI (inO t k))).am)),(b9M c.2.1 c.2.2 (ptI (inO t k)) (a1v c.1.1 (ptI (inO t k)),id)).2)
theorem b2i(t:TxD)(id:LI)(k:Int):∀(l:LI) (c:(List (Pt×a1q)×Int)×(List (Pt×a1J)×Int)),a4H t id (l++[k]) c=((b6D (a4H t id l c).1.1 (ptI (inO t k)),IntKind.u64.wrap ((a4H t id l c).1.2-(a1v (a4H t id l c).1.1 (ptI (inO t k))).am)),(b9M (a4H t id l c).2.1 (a4H t id l c).2.2 (ptI (inO t k)) (a1v (a4H t id l c).1.1 (ptI (inO t k)),id)).2)
 | [],_=>rfl
 | _::l,_=>b2i t id k l _
def a3f(t:TxD)(id:LI):LI->List (Pt×a1q)×Int->Int×(List (Pt×a1q)×Int)
 | [],c=>(0,c)
 | k::ks,c=>if(a7H c.1 c.2 (id,k) (b4C t k)).1≠0 then((a7H c.1 c.2 (id,k) (b4C t k)).1,c)else a3f t id ks (a7H c.1 c.2 (id,k) (b4C t k)).2
theorem a5M(t:TxD)(id:LI)(k:Int)(a:LI)(c:List (Pt×a1q)×Int):a3f t id (k::a) c=if(a7H c.1 c.2 (id,k) (b4C t k)).1≠0 then((a7H c.1 c.2 (id,k) (b4C t k)).1,c)else a3f t id a (a7H c.1 c.2 (id,k) (b4C t k)).2:=rfl
theorem b0M(t:TxD)(id:LI):∀(a b:LI) (c:List (Pt×a1q)×Int),(a3f t id a c).1=0->a3f t id (a++b) c=a3f t id b (a3f t id a c).2
 | [],_,_,_=>rfl
 |
  j::l,b,c,h=>by
  rw[QG];rw[a5M]at h⊢;rw[a5M]
  by_cases hk:(a7H c.1 c.2 (id,j) (b4C t j)).1≠0
  ·rw[if_pos hk]at h;exact absurd h hk
  rw[if_neg hk]at h⊢;rw[if_neg hk];exact b0M t id l b _ h
theorem b9s(t:TxD)(id:LI)(k:Int)(l:LI)(c:List (Pt×a1q)×Int)(h:(a3f t id l c).1=0):a3f t id (l++[k]) c=if(a7H (a3f t id l c).2.1 (a3f t id l c).2.2 (id,k) (b4C t k)).1≠0 then((a7H (a3f t id l c).2.1 (a3f t id l c).2.2 (id,k) (b4C t k)).1,(a3f t id l c).2)else(0,(a7H (a3f t id l c).2.1 (a3f t id l c).2.2 (id,k) (b4C t k)).2):=by
 rw[b0M t id l [k] c h,a5M]
 rfl
def a5v(t:TxD)(l:LI):Int:=(l.map λk=>(b4C t k).am).foldl (λa b=>IntKind.u64.wrap (a+b)) 0
theorem a9x(t:TxD)(l:LI)(k:Int):a5v t (l++[k])=IntKind.u64.wrap (a5v t l+(b4C t k).am):=by simp[a5v]
theorem b4b(a b:VL):binOp .eql 37 a b=EQs 37 a b:=rfl
theorem b7J{e f:a0Q}(a:e.Bd)(b:f.Bd)(w:WD):∃r:Bool,(EQs 37 (.agg (a0b e).toArray) (.agg (a0b f).toArray)).run prog w=.ok (.bool r) w/\(r=true↔b1C e=b1C f):=by
 unfold EQs;obtain⟨x,p,m,v,o,g,_⟩:=c0G
 obtain⟨r,j,d⟩:=run_equalIn_deep (P:=prog) 9997 3 37 ρk w 3 3 (.agg (a0b e).toArray) (.agg (a0b f).toArray) _ _
  (by simp[Value.formed,g,c0E,a0f a]) (by simp[Value.formed,g,c0E,a0f b]) (by simpa[Value.cells]using a8n 0 a) (by simpa[Value.cells]using a8n 0 b)
 refine⟨r,?_,d⟩;simp only[binOp];rw[show(Op.equal 37 (.agg (a0b e).toArray) (.agg (a0b f).toArray))=Op.equalIn (9997+3) 37 (.agg (a0b e).toArray) (.agg (a0b f).toArray)from rfl];simp[j]
theorem b6A{e:a0Q}(a:e.Bd)(w:WD):(EQs 37 (.agg (a0b e).toArray) (.agg (a0b e).toArray)).run prog w=.ok (.bool true) w:=by
 obtain⟨r,b,hi⟩:=b7J a a w;rw[b,hi.2 rfl]
theorem d1l{e f:a0Q}(b:e.Bd)(d:f.Bd)(a:e.ht≠f.ht)(w:WD):(EQs 37 (.agg (a0b e).toArray) (.agg (a0b f).toArray)).run prog w=.ok (.bool false) w:=by
 obtain⟨r,g,hi⟩:=b7J b d w;rw[g]
 cases r with
 | false=>rfl
 |
  true=>
  have h:=hi.1 rfl;simp only[b1C,QG,List.cons.injEq,Lit.int.injEq]at h;exact absurd h.2.1.2 a
theorem c9Q{e:a0Q}(a:e.Bd)(w:WD):(NEs 37 (.agg (a0b e).toArray) (.agg (a0b e).toArray)).run prog w=.ok (.bool false) w:=by
 obtain⟨r,b,hi⟩:=b7O a a w;rw[b,hi.2 rfl]
 rfl
theorem c6v{c:a0y}(h:c.Bd)(e:Int)(has:Bool)(A:OA)(cap:Nat):((a0O e has c A cap).drop 2).take 137=a0d c A cap:=by
 unfold a0O;simp only[QG,QF,ZQ,Zs];exact Qb (by rw[a0l h];omega)
section
def b9r(seed:LI)(x:ShD)(cmd:LI)(e:a1P):Except Int (ShD×RpD):=if a9K x cmd e=true then .ok ({x with h:=a4T x cmd e},a2O (a9F seed x cmd e))else .error 17
def b5e(seed:LI)(x:ShD)(part:Int)(cmd:LI)(t:TxD)(e:a1P):Except Int (ShD×RpD):=
 if a9K x cmd {e with tx:=idP t}=true then
  (if c3z x.M (part,idP t) (a9F seed x cmd {e with tx:=idP t}) t.exp≠0 then .error (c3z x.M (part,idP t) (a9F seed x cmd {e with tx:=idP t}) t.exp)
  else .ok ({x with h:=a4T x cmd {e with tx:=idP t},M:=x.M++[((part,idP t),⟨a9F seed x cmd {e with tx:=idP t},none,0,t.exp⟩)]},a2O (a9F seed x cmd {e with tx:=idP t})))
 else .error 17
abbrev c5K:=bdOf 214
theorem d2z:a3s prog 214=some [(0,137),(137,1)]:=ρk
theorem d2F:(((prog.info? 214).bind (·.zero)).map (·.cells.toList))=some (mkV a4n):=ρk
theorem d2A{c:a0y}(a:c.Bd)(A:OA)(cap:Nat)(ex:Int)(w:WD):(BDs 214 #[(0,.agg (a0d c A cap).toArray),(1,.int .i64 ex)]).run prog w=.ok (.agg (mkV ⟨c,A,cap,ex⟩).toArray) w:=by
 have b:=a0l a A cap;have d:=a0l a0B none 0;refine a2H d2z d2F _ _ ?_ w;rw[a0v (off:=0) (size:=137) rfl (by simp[Value.cells,b]) (by simp[mkV,a4n,d]),a0v (off:=137) (size:=1) rfl rfl (by simp[mkV,a4n,Value.cells,b,d]),a1Y]
 congr 1
 unfold mkV a4n;have⟨z,g⟩:=η0 (a0d a0r none 0);simp only[g]at d⊢;have⟨y,f⟩:=η0 (a0d c A cap);simp only[f]at b⊢;simp[Value.cells,d,b,QR,QT]
abbrev c4c:=stOf 31
theorem c4L{e:a1P}(h:e.tx.length=32):((a0x e).toArray.toList.drop 2).take 32=bys e.tx:=by
 have:(bys e.tx).length=32:=by rw[a0a,h]
 simp[a0x,QT,this]
theorem c9T:(((prog.info? 39).bind (·.zero)).map (·.cells.size))=some 137:=ρk
attribute [local go_sem ↓] a2q a1W a1D a3u a3h a1B c4c a1G a1M c5K
theorem a5z(f:Nat)(b:ShB)(N:List Nat)(seed:LI)(x:ShD)(a:Int)(E:a=0\/a=1)(A:OA)(n c:Nat)(m:LI)(F:n=m.length)(H:A=none->c=0)(p:m.length<=100000000)(r:OA)(z:Nat)(y:OA)(B:Nat)(t:TxD)(e0:a1P)(o:e0.Bd)(w:WD) (h:a1e w f b N seed x) (hby:Byt w A m) (ht:a9H w r y t) (hl1:t.ins.length<=1000000) (hl2:t.outs.length<=1000000) (hgl:a2x w):Calls prog 154 #[.pointer f,.int .i64 a,.slice A n c,.agg (txV r z y B t),.agg (a0x e0).toArray] w λe w'=>c6j w f b N seed (b5e seed x a m t e0) e w'/\Fr (λk=>k∈f::b.own) w w':=by
 generalize Z:b5e seed x a m t e0=q
 unfold b5e at Z;have⟨e1,aC⟩:=η0 ({e0 with tx:=idP t});rw[aC]at Z;have R:Dig (idP t):=⟨a3b t,a5f t⟩;have aF:e1.tx=idP t:=by rw[<-aC]
 have aX:e1.Bd:=by rw[<-aC];exact⟨o.kind,o.sh,R,o.am,o.why,o.ep⟩
 have⟨g,hg⟩:=ηs w;have b4:=a0u o;have ch:=o.tx.1;have bD:(txV r z y B t)[3]? =some (.int .i64 t.exp):=rfl;have hid:=λX (hX:Below w w X)=>a2v r z y B t X (ht.below hX) (hgl.below hX) hl1 hl2
 have⟨tv,bB⟩:=η0 (txV r z y B t);have bg:tv.toList.length=4:=by rw[<-bB];rfl
 simp only[bB]at bD hid⊢;have ac:=b8e ch (d:=idP t) R.1;rw[aC]at ac;have b0:=Qd w 53 (tv);have B0:=ρb w (.cells (tv) 53)
 generalize hW:w.alloc (.cells (tv) 53)=W at b0 B0
 rw[hg]at b0;have bt:W.heap.size=g+1:=by rw[<-hW,Qi,hg]
 have bp:=b0.alloc (.cells (a0x e0).toArray 34);have be:=Qd W 34 (a0x e0).toArray;have B1:Below w w (W.alloc (.cells (a0x e0).toArray 34)):=B0.alloc B0.size _
 generalize aG:W.alloc (.cells (a0x e0).toArray 34)=W2 at bp be B1
 rw[bt]at be;have aR:W2.heap.size=g+2:=by rw[<-aG,Qi,bt]
 have aS:=a5k W2;have⟨zs,bn⟩:=η0 ((a0O 0 false a0r none 0).toArray);have a5:zs.size=139:=by rw[<-bn,Qc];exact a0A a0B _ _ _ _
 rw[bn,aR]at aS;have aO:=bp.alloc (.cells zs 41);have aQ:=be.alloc (.cells zs 41);have bz:=Qd W2 41 zs;have B2:Below w w (W2.alloc (.cells zs 41)):=B1.alloc B1.size _
 generalize hV:W2.alloc (.cells zs 41)=V at aO aQ bz B2 aS
 rw[aR]at bz;have bZ:V.heap.size=g+3:=by rw[<-hV,Qi,aR]
 have aj:=λX' (cY:Below V V X')=>P4 uTx iTx (w:=X') tv.toList (by simpa using aO.fr (Q9 cY) (ρh aO.lt)) bg
 simp only[show tv.toList.toArray=tv by simp]at aj;have cy:=aj V (Qf _ _);have aN:=hid V B2;have⟨D,hD⟩:=η0 (idP t);rw[hD]at Z ac aN R aF;have bR:(bys D).length=32:=by rw[a0a,R.1]
 generalize cj:(a0x e0).toArray=ev at aG aQ ac⊢
 have a2:ev.size=37:=by rw[<-cj,Qc,b4]
 have c6:(ALs 41).run prog ((w.alloc (.cells tv 53)).alloc (.cells ev 34))=.ok (.pointer (g+2:Nat)) V:=by rw[hW,aG];exact aS
 have bM:-9223372036854775808<=t.exp/\t.exp<=9223372036854775807:=ht.bd.exp;have cu:=h.more B2 (g:=g+2) ⟨by omega,by omega⟩;have⟨cC,di,HQ,ar,HG,cK,cX,cS⟩:=η8 bM cu Z h hg B2 aO aQ;have⟨cU,cG,bW,c8,bS,cq,bv,bF⟩:=η8 bz a5 bZ aj bR R aX aF;have⟨cx,b9,cz,cA,cO,cW,cM,cZ⟩:=η8 ac a2 hby hgl bD F H p;have⟨HW,db,HV⟩:=η3 hW aG hV;clear bM cu Z h hg B2 aO aQ bz a5 bZ aj bR R aX aF ac a2 hby hgl bD F H p hW aG hV b0 B0 bt bp be B1 aR aS bn bB bg hid ht hl1 hl2 b4 ch aC hD cj o;go_in;go_upto_region 1 with fail
 rw[HG.o];go_wp2_with fail;refine μi aN ?_;intro w3 af;have ke:=φf cS af;have aM:=Pa iId ke (off:=2) (bys D) bS.o (by rw[b9.o];omega) (a0h _);have k4:=ke.row_ (a1d ev 2 (bys D));rw[cx.o]at aM k4;have⟨W4,aD⟩:=η0 (w3.setRow (g+1) (a0x e1).toArray);have f4:Fr (λk=>k=g+1) w3 (w3.setRow (g+1) (a0x e1).toArray):=(Qp (λk=>k=g+1) w3).setRow (g:=g+1) (λ_=>rfl) _;rw[aD]at aM k4 f4;have bo:=bW.o;have aK:=HG.o;have br:=af.size;have aB:=φt cK af;have aa:Below w w W4:=aB.trans (f4.below aB.size (λk hk e=>ρo));have bw:=ar.more aa (g:=g+2) ⟨by omega,by have:=f4.size;omega⟩;have aE:=a5C f b ((g+2)::N) seed x A n c m cW cM cZ e1 bv W4 bw (cz.below aa) (cA.below aa);have ba:=P4 b3q a8Q (a0x e1) k4 (a0u bv);obtain⟨da,aW,a8,df⟩:=P8 (t:=39) a4U c9T;have aZ:=bF.o;have an:=c4L bv.tx.1;rw[aZ]at an
 have bb:=(φf cX af).fr f4 (show¬g=g+1 by omega);have a0:=(φf cU af).fr f4 (show¬g+2=g+1 by omega);have au:=ar.st.lt;have⟨de,a9⟩:=η0 ((a0x e1).toArray);rw[a9]at aD k4 aE ba an;have ak:W4.heap.size=w3.heap.size:=by rw[<-aD];simp
 have⟨cQ,K4,dc,aA,ct,bi,aY,b8⟩:=η8 af k4 aD aa an bb a0 au;have⟨cr,bN,cf,bm⟩:=η4 ak aW a8 bw.lt;clear af k4 aD aa an bb a0 au ak aW a8 f4 ke bw aZ a9 bo aK br aB cy aN;go_upto_region 2 with fail
 go_wp2_with fail;refine μ1 aE ?_;rintro e5 w5 ⟨bE,ad⟩;have aK:=HG.o;have au:=b8.o;have bo:=bW.o;have ak:=cr.o;have br:=cQ.size;have ao:Fr (λk=>k∈f::b.own) w w5:=((Q9 aA.o).mono (G:=λk=>k∈f::b.own) (λk hk e=>ρo)).trans ad (λk _ e=>by rw[e];exact Qr);have Z:=HQ.o
 rcases bE with⟨bK,O,I,rfl,ay,bA⟩ | ⟨cD,hk,rfl⟩
 rotate_left
 ·rw[if_neg (by rw[cD];simp)]at Z
  subst Z;exact⟨rfl,⟨hk,rfl⟩,ao⟩
 rw[if_pos bK]at Z;have⟨J,cn⟩:=η0 (a9F seed x m e1);have⟨bh,cp⟩:=η0 (a4T x m e1);simp only[cn,cp]at Z ay bA⊢;have S:=a0l ay.1 O I;have bq:=bN.o w5;have ag:=cf.o w5 (a0d J O I) S (a2C _ _ _);have⟨d,hd⟩:=ηs w5;rw[hd]at bq ag;have bc:=Qd w5 39 (a0d J O I).toArray;rw[hd]at bc;have b6:=ρb w5 (.cells (a0d J O I).toArray 39)
 generalize c9:w5.alloc (.cells (a0d J O I).toArray 39)=W6 at ag bc b6
 have⟨U,hU⟩:=η0 W6.drew;have bU:Below W6 W6 U:=by rw[<-hU];exact(Qf _ _).drew
 have ah:=b6.trans (bU.mono b6.size);have kc:=bc.fr (Q9 bU) (ρh bc.lt);have ke:=(K4.fr ad (show¬g+1=f by omega)).fr (Q9 ah) (by have:=(K4.fr ad (show¬g+1=f by omega)).lt;omega);have kt:=(bi.fr ad (show¬g=f by omega)).fr (Q9 ah) (by have:=(bi.fr ad (show¬g=f by omega)).lt;omega);have aq:=bA.below ah;have ax:=ay.below ah;have bj:=ao.trans (Q9 ah) (λk hk e=>by have:=ao.size;omega);have ai:=λX (hX:Below U U X)=>P4 a8j a4U (a0d J O I) (kc.fr (Q9 hX) (ρh kc.lt)) S
 have aT:U.cell? ⟨f,9,none⟩=some (.pointer b.kb)/\(LDs 31 (.pointer (some ⟨g+1,2,none⟩))).run prog U=.ok (.agg (bys D).toArray) U/\(LDs 39 (.pointer d)).run prog U=.ok (.agg (a0d J O I).toArray) U/\U.cell? ⟨g,3,none⟩=some (.int .i64 t.exp):=
  ⟨aq.c.2.2.2.2.2.2.2.2.2.1,P6 a2i iId ke (off:=2) (bys D) bS.o ct.o,ai U (Qf _ _),(kt.cell 3).trans cO.o⟩
 have cg:=λX=>d2A ay.1 O I t.exp X
 have bH:b2y (a,D):=⟨by show _<=a/\a<=_;omega,cq.1,cq.2⟩;have hm:a7b U ((g+2)::N) ⟨J,O,I,t.exp⟩:=ax.mk bm cC;have aP:=c2k b.kb b.km ((g+2)::N) x.M (a,D) bH ⟨J,O,I,t.exp⟩ U hm aq.ma aq.lt aq.inN.2.2.2.2.2.2;have⟨pe,bx⟩:=η0 (c3z x.M (a,D) J t.exp);rw[bx]at Z;have⟨cs,aV⟩:=η0 (a0d J O I);rw[aV]at ag kc S aT;simp only[aV]at ai cg⊢;have⟨mv,ck⟩:=η0 ((mkV ⟨J,O,I,t.exp⟩).toArray);simp only[ck]at cg aP;have⟨dv,b5⟩:=η0 ((bys D).toArray);simp only[b5]at aP aT;have dj:=S;have⟨cB,HU,ce,cv,bV,bY,a1,c5⟩:=η8 aT hU bx Z aq ax bj ai;have⟨cP,dg,b3,cT,ca,bL,bf,bX⟩:=η8 kc kt S aV ad ah ay.1 hd;clear aT hU bx Z aq ax bj ai kc kt S aV ad ah hd bU bc b6 ke bA bK cn cp ao br ak bo aK au hm bH ck b5 ba aE aM;go_upto_region 3 with fail
 refine a3Y [(0,3),(1,3),(2,3),(4,3),(5,3),(8,3),(3,0),(6,0),(7,0),(9,0),(10,3),(11,2),(12,2)] (λX=>X.cell? ⟨f,9,none⟩=some (.pointer b.kb)/\(LDs 31 (.pointer (some ⟨g+1,2,none⟩))).run prog X=.ok (.agg dv) X/\(LDs 39 (.pointer d)).run prog X=.ok (.agg cs.toArray) X/\X.cell? ⟨g,3,none⟩=some (.int .i64 t.exp)) ρk ρk ρk ρk (ρy HU.o cB.o) ?_;rw[HU.o];refine ε6 ?_
 iterate 4 refine θ4 (λ_ h=>h) ?_
 refine ε1 ?_;refine τ ?_;intro K hK;refine μ1 aP ?_;rintro dh Y ⟨⟨rfl,av⟩,Q⟩;with_reducible refine hK _ _ ?_;clear hK K
 simp only[ce.o]at av⊢;have c7:=bV.inN.2.2.2.2.2.2;have T:=a1.trans Q (λk _ e=>by rw[e];simp[ShB.own])
 rcases av with⟨bk,av⟩ | ⟨hz,A4,c4,av⟩
 ·have Z:=cv.o
  rw[if_pos bk]at Z;subst Z;have cJ:=a1m pe bk Y;refine τ ?_;intro K hK;refine μf cJ ?_;exact λa' c1=>⟨c1,⟨bk,rfl⟩,T⟩
 have Z:=cv.o;rw[if_neg ρo]at Z;subst Z;rw[hz];have cL:=a1o Y;refine τ ?_;intro K hK;refine μf cL ?_;with_reducible refine hK _ _ ?_;clear hK K
 with_reducible refine a1N ?_
 rw[a0V]
 have bQ:(x.M++[((a,D),(⟨J,A4,c4,t.exp⟩:MkD))]).length<=128:=by
  have h1:=ce.o;rw[hz]at h1;unfold c3z at h1;simp only[Qa,ZB]
  split at h1
  ·omega
  split at h1
  ·omega
  split at h1
  ·omega
  split at h1
  ·omega
  omega
 have a7:=bV.setM Q av bQ;have aK:=HG.o;have au:=b8.o;have aH:=ar.lt;have cF:b.km<g:=by have:=aH b.km ar.inN.2.2.2.2.2.2;omega
 have ci:f<g:=ρo;have cI:=aA.size;have cR:=ca.size;have cN:=bX.o;have a4:=cP.fr Q (show¬d=b.km by omega);have c2:=P4 a8j a4U cs a4 b3;have ae:=a5d J bf O I Y;rw[cT.o]at ae;have aI:=bY.fr Q (λk e=>ρo);have bl:=aY.fr ca.o (show¬g+2=f by omega);have bJ:=bl.fr (Q9 bL) (ρh bl.lt);have ab:=bJ.fr Q (show¬g+2=b.km by omega);have bG:g+2<W4.heap.size:=aY.lt;have bT:g+2 ∉ f::b.own:=λhm=>by have:=aH _ (ar.sub _ hm);omega
 have aU:=a0A bf 0 true O I;have az:=λX (hX:Below Y Y X)=>P9 a4h (ab.fr (Q9 hX) (ρh ab.lt)) cG.o (a0O 0 true J O I) aU (a0W _ _ _ _ _)
 have aL:=λX (hX:Below Y Y X)=>(ab.fr (Q9 hX) (ρh ab.lt)).row_ (a0O 0 true J O I).toArray
 have c0:=a1.size;have bO:=aA.size
 have aJ:∀X,Below Y Y X->∀e:Ending,e=.returned (.agg (a0O 0 true J O I).toArray)->c6j w f b N seed (.ok ({x with h:=bh,M:=x.M++[((a,D),⟨J,none,0,t.exp⟩)]},a2O J)) e (X.setRow (g+2) (a0O 0 true J O I).toArray)/\Fr (λk=>k∈f::b.own) w (X.setRow (g+2) (a0O 0 true J O I).toArray):=λX hX e o=>by
  have bs:Fr (λk=>k=g+2) X (X.setRow (g+2) (a0O 0 true J O I).toArray):=(Qp (λk=>k=g+2) X).setRow (g:=g+2) (λ_=>rfl) _;have dd:=hX.size;have c3:=T.size;refine⟨⟨⟨_,((a7.below hX).away bs Qr bT).less (λj hj=>Qj _ hj) ar.sub,?_⟩,O,I,o,?_⟩,?_⟩
  ·simp[ShD.er]
  ·exact((aI.below hX).fr bs (λk e=>ρo)).base ρo
  exact(T.trans (Q9 hX) (λk hk e=>ρo)).trans bs (λk hk e=>ρo)
 have⟨rs,bC⟩:=η0 (a0O 0 true J O I);simp only[bC]at az aL aJ ae;rw[bC]at aU;have⟨cd,b2,b7,cH⟩:=η4 az aL aJ aU;clear az aL aJ aU a7 aI ab bJ bl bT aH cF ci cI cR cN a4 bQ av Q T c0 bO bC aK au bG hz;go_wp2_with fail;refine μi ae ?_;intro bu al;have cV:=cd.o bu al;have a3:=b2.o bu al;have a6:=b7.o bu al _ rfl;have⟨bP,bI⟩:=η2 a3 a6;clear a3 a6 al;go_wp2_with fail;obtain⟨dR,cE,cw⟩:=Q8.1 a7w;refine bodyPost_ret (v:=.agg rs.toArray) (a0c rfl _ _ (g+2) _ rs dR rfl bP cE cw (ρy cH.o a4h)) rfl ?_;exact bI
end
section
theorem c8g{i:InD}(h:i.Bd)(A:OA)(c:Nat):((inV i A c).toArray.toList.drop 0).take 33=ptL (ptI i).1 (ptI i).2:=b5d h A c
theorem InD.Bd.ptY{i:InD}(h:i.Bd):a6l (ptI i):=⟨h.len,h.tx,h.ix⟩
theorem c6Q{i:InD}(h:i.Bd)(A:OA)(c:Nat):(inV i A c).toArray[33]? =some (.int .u64 i.am):=by simp[inV,ptL,a0a,h.len]
theorem b7D{o:a1q}(h:o.Bd):(a1s o).toArray[32]? =some (.int .u64 o.am):=by simp[a1s,a0a,h.len]
abbrev a5a:=stOf 31
abbrev a5i:=alOf 31
attribute [local go_sem ↓] a6W a1F a1B a5a a5i a4v a4s a4r
theorem c2w(cb cm:Nat)(C:List (Pt×a1q))(sC:Int)(lb lm:Nat)(L:List (Pt×a1J))(sL:Int)(i:InD)(hi:i.Bd)(a:OA)(b:Nat)(d:a=none->b=0)(f:i.sec.length<=400000000)(w:WD)(m:a0i w cb cm C sC)(o:a0j w lb lm L sL)(p:Byt w a i.sec)(j:a2x w):Calls prog 213 #[.agg (inV i a b).toArray,.pointer cb,.pointer lb] w λe w'=>e=.returned (.int .i64 (inQ C L i))/\Below w w w':=by
 generalize y:inQ C L i=q
 unfold inQ at y;have af:=hi.ptY;have⟨g,hg⟩:=ηs w;have bm:=a3l hi a b;have b0:=Qd w 191 (((inV i a b).toArray));have B0:=ρb w (.cells (((inV i a b).toArray)) 191)
 generalize hW:w.alloc (.cells (((inV i a b).toArray)) 191)=W at b0 B0
 rw[hg]at b0;have F:=λX (N:Below W W X)=>P6 a3a a1H (b0.fr (Q9 N) (ρh b0.lt)) (off:=0) (ptL (ptI i).1 (ptI i).2) af.vlen (c8g hi a b)
 have a4:=F W (Qf _ _);have D:=b5f lb lm L sL (ptI i) af W (o.below B0);have r:=a3p m.bd (ptI i);have Y:=a2U o.bd (ptI i);have aV:=λX (N:Below W W X)=>((b0.fr (Q9 N) (ρh b0.lt)).cell 34).trans (b7W hi a b)
 have a7:=λX (N:Below W W X)=>((b0.fr (Q9 N) (ρh b0.lt)).cell 33).trans (c6Q hi a b)
 have x:=λX (N:Below w w X)=>c0F cb cm C sC (ptI i) af X (m.below N)
 have a6:=λX (N:Below w w X)=>c0u a b d i.sec X (p.below N) f (j.below N)
 have z:=λX=>a8i (a1v C (ptI i)).ow (c8B i.sec) ⟨r.len,r.ow⟩ (Dig.own _) X
 have aa:=c1o;have V:=b1a;have⟨z1,aH⟩:=η0 ((bys (List.replicate 32 0)).toArray);have⟨z2,aB⟩:=η0 ((a1s a3q).toArray);have ax:z1.size=32:=by rw[<-aH];simp[a0a]
 have au:z2.size=33:=by rw[<-aB,Qc];exact a0G a2R
 simp only[aH]at aa;simp only[aB]at V;have aJ:=a0G r;have aF:=a0G Y.co;have Q:(bys (a0H L (ptI i)).2).length=32:=by rw[a0a,Y.len]
 have T:(bys (a1v C (ptI i)).ow).length=32:=by rw[a0a,r.len]
 generalize bn:(inV i a b).toArray=iv at hW⊢
 have⟨pv,a3⟩:=η0 (ptL (ptI i).1 (ptI i).2);simp only[a3]at F a4 D x;have⟨be,ar⟩:=η0 ((a2E L (ptI i)).isSome);have⟨is,aA⟩:=η0 ((a2E C (ptI i)).isSome);rw[ar]at y D;rw[aA]at y;simp only[aA]at x;have⟨c,aG⟩:=η0 (a1v C (ptI i));rw[aG]at y r aJ T;simp only[aG]at x z;have⟨lk,aO⟩:=η0 (a0H L (ptI i));rw[aO]at D aF Q;have⟨aT,v⟩:=η0 (decide (c.ow=c8B i.sec));simp only[v]at z;have ao:=b7D r;have an:((a1s c).toArray.toList.drop 0).take 32=bys c.ow:=b3l r;have⟨HQ,bf,aK,bb,bk,aC,bh,aE⟩:=η8 y B0 F aV a7 x a6 z;have⟨bo,aQ,bl,bj,aZ,aU,aN,aW⟩:=η8 ax au aJ aF Q T ao an;have⟨a8,HG⟩:=η2 v hg;clear y B0 F aV a7 x a6 z ax au aJ aF Q T ao an v hg b0 bm af m o p j d f hi r Y aH aB ar aA aG aO bn a3;go_in;go_upto_region 1 with fail
 rw[HG.o];have⟨aL,aq⟩:=η2 aa V;clear aa V;go_wp2_with fail;refine μi D ?_;intro w1 ad;have ab:=φt bf ad;have⟨a1,ay⟩:=ηs w1;have k1:=aL.o w1;rw[ay]at k1;have c1:=Qd w1 31 z1;have D1:=ρb w1 (.cells z1 31);have ac:(w1.alloc (.cells z1 31)).heap.size=a1+1:=by rw[Qi,ay]
 generalize aj:w1.alloc (.cells z1 31)=V1 at k1 c1 D1 ac
 have k2:=aq.o V1;rw[ac]at k2;have ak:=c1.alloc (.cells z2 206);have c2:=Qd V1 206 z2;have D2:Below w1 w1 (V1.alloc (.cells z2 206)):=D1.alloc D1.size _
 generalize bi:V1.alloc (.cells z2 206)=V2 at k2 ak c2 D2
 rw[ac]at c2;rw[ay]at ak;have k3:=P9 iId ak bo (bys lk.2) aZ.o (a0h _);have f3:=ρr (a1) V2 (bys lk.2).toArray;have D3:=Ql (g:=a1) D2 ρo (bys lk.2).toArray
 generalize ah:V2.setRow a1 (bys lk.2).toArray=V3 at k3 f3 D3
 have k4:=P9 a9y (c2.fr f3 (show¬a1+1=a1 by omega)) aQ.o (a1s lk.1) bj.o (a1O _);have D4:=Ql (g:=a1+1) D3 ρo (a1s lk.1).toArray
 generalize bg:V3.setRow (a1+1) (a1s lk.1).toArray=V4 at k4 D4
 have S:=ab.trans (D4.mono ab.size);have R:=ad.trans (D4.mono ad.size);have a2:=aC.o V4 S;have aX:=aK.o V4 R;have⟨al,aP⟩:=η2 S R;clear S R D1 D2 D3 f3 c1 ak c2 ad ab bi aj ah bg D4
 cases be with
 |
  true=>
  have y:=HQ.o;simp only[if_true]at y;subst y;clear a2 aX;go_wp2;go_ret;exact⟨rfl,al.o⟩
 |
  false=>
  have y:=HQ.o;simp only[QI,if_false]at y;go_wp2_with fail;refine μi a2 ?_;intro w5 ai;clear aX k1 k2 k3 k4;have J:=φt al ai;have G:=φt aP ai;have k1:=aq.o w5;have⟨a5,aM⟩:=ηs w5;rw[aM]at k1;have c1:=Qd w5 206 z2;rw[aM]at c1;have D1:=ρb w5 (.cells z2 206)
  generalize aj:w5.alloc (.cells z2 206)=V1 at k1 c1 D1
  have k3:=P9 a9y c1 aQ (a1s c) bl.o (a1O _);have kc:=c1.row_ (a1s c).toArray;have D3:=Ql (g:=a5) D1 ρo (a1s c).toArray
  generalize ah:V1.setRow a5 (a1s c).toArray=V3 at k3 D3 kc
  have B:=J.trans (D3.mono J.size);have H:=G.trans (D3.mono G.size)
  cases is with
  |
   false=>
   simp only[if_true]at y;subst y;have aY:=η1 B;clear B H D1 D3 c1 kc aj ah G J ai;go_wp2;go_ret;exact⟨rfl,aY.o⟩
  |
   true=>
   simp only[Bool.true_eq_false,if_false]at y;have⟨U,hU⟩:=η0 V3.drew;have ae:Below V3 V3 U:=by rw[<-hU];exact(Qf _ _).drew
   have Z:=B.trans (ae.mono B.size);have I:=H.trans (ae.mono H.size);have kU:=kc.fr (Q9 ae) (ρh kc.lt);have az:∀X,Below U U X->(LDs 31 (.pointer a5)).run prog X=.ok (.agg (bys c.ow).toArray) X/\X.cell? ⟨g,34,none⟩=some (.slice a i.sec.length b):=λX N=>⟨P6 a2i iId (kU.fr (Q9 N) (ρh kU.lt)) (off:=0) (bys c.ow) aU.o aW.o,bb.o X (I.trans (N.mono I.size))⟩
   have aS:=az U (Qf _ _);have c4:=bh.o U Z;have⟨ba,a9,HU,aR,aI,bc⟩:=η6 aS az hU Z I kU;clear aS az hU Z I kU ae B H D1 D3 c1 kc aj ah G J ai;go_upto_region 7 with fail
   refine a0s [(0,3),(2,3),(1,0),(3,0),(4,1),(5,2),(6,3),(7,3)] (λX=>(LDs 31 (.pointer a5)).run prog X=.ok (.agg (bys c.ow).toArray) X/\X.cell? ⟨g,34,none⟩=some (.slice a i.sec.length b)) ρk ρk ρk ρk (ρy HU.o ba.o) ?_;rw[HU.o];refine ε2 ?_
   iterate 2 refine θ2 (λ_ h=>h) ?_
   refine κ ?_;intro K hK;refine μi c4 ?_;intro w6 ag;with_reducible refine hK _ _ (a9.o w6 ag) ?_;clear hK K
   have c5:=aE.o w6;clear c4;refine τ ?_;intro K hK;refine μi c5 ?_;intro w7 a0;with_reducible refine hK _ _ ?_;clear hK K
   refine ε2 ?_;clear c5 k1 k3;refine ν ?_;have E:=ag.trans (a0.mono ag.size);have av:=φt aR E;have k7:=φf bc E;have p1:=(k7.cell 32).trans aN;have p2:=bk.o w7 (φt aI E);have v:=a8.o;have aD:=η1 av;clear av E k7 ag a0
   cases aT with
   |
    false=>
    simp only[decide_eq_false_iff_not]at v;rw[if_pos v]at y;subst y;clear p1 p2 v;go_wp2;go_ret;exact⟨rfl,aD.o⟩
   |
    true=>
    simp only[decide_eq_true_eq]at v;rw[if_neg (by simp[v])]at y
    by_cases O:c.am=i.am
    ·rw[if_neg (by simp[O])]at y
     subst y;have hb:(c.am != i.am)=false:=ρw O;clear O v;go_wp2;go_ret;exact⟨rfl,aD.o⟩
    rw[if_pos O]at y;subst y;have hb:(c.am != i.am)=true:=ρw O;clear O v;go_wp2;go_ret;exact⟨rfl,aD.o⟩
end
end Go.Proofs.YtpolljfkceanaaaGreatDoor
