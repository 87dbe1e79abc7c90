/-
  Contracts of functions, plain laws.
-/
import Derived.Laws.Externs
import Derived.Lib.BytesEntry
import Derived.Test.YtpolljfkceanaaaGreatDoorKS2
import Derived.Test.YtpolljfkceanaaaGreatDoorK08
namespace Go.Proofs.YtpolljfkceanaaaGreatDoor
open Go.RowKit Go.Shelf Go.Maps Go.Proofs.Tryz
set_option maxRecDepth 100000
set_option maxHeartbeats 64000000
variable {s:Int}{b1 b3 id seed:LI}{N:List Nat}{a b cb g j kb:Nat}{v:VL}{w:WD}
set_option linter.all false
section
theorem c8d:a3s prog 39=some [(0,37),(37,1),(38,67),(105,32)]:=ρk
theorem c6V:(((prog.info? 39).bind (·.zero)).map (·.cells.toList))=some (a0d a0r none 0):=ρk
theorem c7a(c:a0y)(a:c.Bd)(A:OA)(N cap:Nat)(b:N=c.path.length)(w:WD):(BDs 39 #[(0,.agg (a0x c.e).toArray),(1,.slice A N cap),(2,.agg (a0b c.h).toArray),(3,.agg (bys c.tag).toArray)]).run prog w=.ok (.agg (a0d c A cap).toArray) w:=by
 subst b;have z0:=a0l a0B none 0;have d:=a0u a.e;have o:=a0f a.h;have l2:(bys c.tag).length=32:=by rw[a0a,a.tag.1]
 refine a2H c8d c6V _ _ ?_ w;rw[a0v (off:=0) (size:=37) rfl (by simp[Value.cells,d]) ρo]
 have j:(a0d a0r none 0).take 0++(Value.agg (a0x c.e).toArray).cells.toList++(a0d a0r none 0).drop (0+37)=a0d ⟨c.e,[],a1y,List.replicate 32 0⟩ none 0:=by
  rw[a3Q,a3Q,QR,QQ (by rw[a0u a0B.e];omega),a0u a0B.e];simp[Value.cells,a0r]
 rw[j];have b1:(⟨c.e,[],a1y,List.replicate 32 0⟩:a0y).Bd:=⟨a.e,by simp,a1A,ZZ⟩;rw[a0v (off:=37) (size:=1) rfl rfl (by rw[a0l b1];omega)]
 have r:(a0d ⟨c.e,[],a1y,List.replicate 32 0⟩ none 0).take 37++(Value.slice A c.path.length cap).cells.toList++(a0d ⟨c.e,[],a1y,List.replicate 32 0⟩ none 0).drop (37+1)=a0d ⟨c.e,c.path,a1y,List.replicate 32 0⟩ A cap:=by
  rw[a3Q,a3Q,QJ (by simp only;omega),Qb (by simp only;omega),QR,QQ (by simp only;omega),d];simp[Value.cells]
 rw[r];have f:(⟨c.e,c.path,a1y,List.replicate 32 0⟩:a0y).Bd:=⟨a.e,a.path,a1A,ZZ⟩;rw[a0v (off:=38) (size:=67) rfl (by simp[Value.cells,o]) (by rw[a0l f];omega)]
 have m:(a0d ⟨c.e,c.path,a1y,List.replicate 32 0⟩ A cap).take 38++(Value.agg (a0b c.h).toArray).cells.toList++(a0d ⟨c.e,c.path,a1y,List.replicate 32 0⟩ A cap).drop (38+67)=a0d ⟨c.e,c.path,c.h,List.replicate 32 0⟩ A cap:=by
  rw[a7o f,a3Q,a3Q];simp only
  rw[show a0x c.e++Value.slice A c.path.length cap::(a0b a1y++bys (List.replicate 32 0))=(a0x c.e++[Value.slice A c.path.length cap])++(a0b a1y++bys (List.replicate 32 0)) by simp,
   QJ (by simp;omega),Qb (by simp;omega),QR,QQ (by rw[a0f a1A];omega),a0f a1A]
  simp[Value.cells]
 rw[m];have g:(⟨c.e,c.path,c.h,List.replicate 32 0⟩:a0y).Bd:=⟨a.e,a.path,a.h,ZZ⟩;rw[a0v (off:=105) (size:=32) rfl (by simp[Value.cells,l2]) (by rw[a0l g];omega),a1Y]
 have p:(a0d ⟨c.e,c.path,c.h,List.replicate 32 0⟩ A cap).take 105++(Value.agg (bys c.tag).toArray).cells.toList++(a0d ⟨c.e,c.path,c.h,List.replicate 32 0⟩ A cap).drop (105+32)=a0d c A cap:=by
  rw[QQ (by rw[a0l g];omega),ZC,a3Q,a3Q];simp only
  rw[show a0x c.e++Value.slice A c.path.length cap::(a0b c.h++bys (List.replicate 32 0))=(a0x c.e++Value.slice A c.path.length cap::a0b c.h)++bys (List.replicate 32 0) by simp,
   QJ (by simp;omega),Qb (by simp;omega)]
  simp[Value.cells]
 rw[p]
abbrev b9m:=bdOf 39
attribute [local go_sem ↓] a1W a1l a1D a3u a3h b9m a2t a2s a2n
def mkC(seed:LI)(b1 b3:LI)(e:a1P)(h:a0Q):a0y:=⟨e,[a0R b1,a0R b3],h,a7C seed h.sh (a2a h)⟩
theorem c6B{n:Int}{e:a1P}{h:a0Q}(a:a0D e=true)(b:a0w h=true)(d:e.sh=h.sh)(f:e.ep=h.ep)(g:h.sh<n)(j:h.root=a1n (a1n (a0R b1) (a0R (a5V e))) (a0R b3)):isP seed n (mkC seed b1 b3 e h)=true:=by
 unfold isP mkC;simp[a,b,d,f,g,j]
theorem c6t{e:a1P}{h:a0Q}(a:e.Bd)(b:h.Bd):(mkC seed b1 b3 e h).Bd:=
 ⟨a,by intro d hd;simp only[mkC,Qo,Qt,or_false]at hd;rcases hd with rfl | rfl<;>exact Dig.leaf _,b,Dig.mac _ _⟩
def c6r(b:Nat)(c:a0y)(x:Ending)(w':WD):Prop:=∃A cap,x=.returned (.tuple #[.agg (a0d c A cap).toArray,.bool true])/\a0T 31 32 b w' (.slice A c.path.length cap) (c.path.map bys)
theorem b5z(p k:Nat)(seed:LI)(f:k<=64)(g:Nat)(b1 b3:LI)(e:a1P)(h:a0Q)(d:e.Bd)(b:h.Bd)(w:WD)(r:a5n w p seed k)(y:a4M w g 0 b1)(z:a4M w g 2 b3)(B:b1.length<=10000000)(D:b3.length<=10000000)
  (hre:a0D e=true) (hrh:a0w h=true) (hs:e.sh=h.sh) (hp:e.ep=h.ep) (hn:h.sh<(k:Int)) (hroot:h.root=a1n (a1n (a0R b1) (a0R (a5V e))) (a0R b3)) (hgl:a2x w):
  Calls prog 206 #[.pointer p,.slice g 3 3,.agg (a0x e).toArray,.agg (a0b h).toArray] w λx w'=>c6r w (mkC seed b1 b3 e h) x w'/\Below w w w':=by
 have⟨g0,aC⟩:=ηs w;have aY:=c6B (seed:=seed) hre hrh hs hp hn hroot;have N:=c6t (seed:=seed) (b1:=b1) (b3:=b3) d b;have bU:=(a3B h).1 hrh;have⟨c,hc⟩:=η0 (mkC seed b1 b3 e h);have bT:c.e=e:=by rw[<-hc];rfl
 have bJ:c.h=h:=by rw[<-hc];rfl
 have aU:c.path=[a0R b1,a0R b3]:=by rw[<-hc];rfl
 have bR:c.tag=a7C seed h.sh (a2a h):=by rw[<-hc];rfl
 rw[hc]at aY N⊢;have b0:=Qd w 34 (((a0x e).toArray));have B0:=ρb w (.cells (((a0x e).toArray)) 34)
 generalize hW:w.alloc (.cells (((a0x e).toArray)) 34)=W at b0 B0
 rw[aC]at b0;have be:W.heap.size=g0+1:=by rw[<-hW,Qi,aC]
 have aZ:=b0.alloc (.cells ((a0b h).toArray) 37);have bh:=Qd W 37 ((a0b h).toArray);have B1:Below w w (W.alloc (.cells ((a0b h).toArray) 37)):=B0.alloc B0.size _
 generalize aq:W.alloc (.cells ((a0b h).toArray) 37)=W2 at aZ bh B1
 rw[be]at bh;have aB:W2.heap.size=g0+2:=by rw[<-aq,Qi,be]
 have aE:=a9u W2;have⟨zc,aG⟩:=η0 ((a0d a0r none 0).toArray);have bq:zc.size=137:=by rw[<-aG,Qc];exact a0l a0B none 0
 have aa:=a9u;simp only[aG]at aa;rw[aG,aB]at aE;have aH:=aZ.alloc (.cells zc 39);have ai:=bh.alloc (.cells zc 39);have bz:=Qd W2 39 zc;have B2:Below w w (W2.alloc (.cells zc 39)):=B1.alloc B1.size _
 generalize hV:W2.alloc (.cells zc 39)=V at aH ai bz B2 aE
 rw[aB]at bz;have bH:V.heap.size=g0+3:=by rw[<-hV,Qi,aB]
 have aj:=λX (F:Below V V X)=>P4 b3q a8Q (a0x e) (aH.fr (Q9 F) (ρh aH.lt)) (a0u d)
 have ag:=λX (F:Below V V X)=>P4 a1S a1h (a0b h) (ai.fr (Q9 F) (ρh ai.lt)) (a0f b)
 have bb:=λX (F:Below V V X)=>((ai.fr (Q9 F) (ρh ai.lt)).cell 0).trans (show(a0b h).toArray[0]? =some (.int .i64 h.sh) by simp[a0b])
 have aT:=ag V (Qf _ _);have O:=a3A h b V;rw[hrh]at O;simp only[if_true]at O;have bk:=a8g b;have bD:=a7a b;have G:=λ(A:OA) (c2:Nat) (X:WD) (F:Below w w X) (hb:Byt X A (a2a h)) (hc:A=none->c2=0)=>c4I p k seed h.sh A c2 (a2a h) X (r.below F) ⟨bU.1.1,hn⟩ hb hc ρo (hgl.below F)
 rw[<-bR]at G;have ae:=λX (F:Below w w X)=>c7y g 0 3 ρo b1 b3 X (y.below F) (z.below F) B D (hgl.below F)
 rw[<-aU]at ae;have S:c.path.length=2:=by rw[aU];rfl
 have ay:=λ(A:OA) (cap:Nat) (X:WD) (F:Below w w X) (h2:2<=cap) (hP:RdR 32 X A (c.path.map bys))=>b1O p k seed A cap c X (r.below F) f N ρo ρo hP (hgl.below F)
 rw[aY]at ay;have ab:=λ(A:OA) (cap:Nat) (X:WD)=>c7a c N A 2 cap S.symm X
 rw[bT,bJ]at ab;have aV:(bys c.tag).length=32:=by rw[a0a,N.tag.1]
 have⟨T,hT⟩:=η0 c.tag;simp only[hT]at G ab aV;have⟨ev,bO⟩:=η0 ((a0x e).toArray);have⟨hv,bW⟩:=η0 ((a0b h).toArray);simp only[bO,bW]at hW aq aj ag aT O ab⊢;have⟨hf,br⟩:=η0 (a2a h);simp only[br]at O G bk bD;have⟨fl,al⟩:=η0 hf.length;simp only[al]at G;have⟨sh,bV⟩:=η0 h.sh;simp only[bV]at G bb;obtain⟨ZI,aK,aR,cA⟩:=P8 (t:=31) iId b1N;have I:=λA cap=>a0l N A cap
 have H:=λA cap=>a2C c A cap
 have bI:(ALs 39).run prog ((w.alloc (.cells ev 34)).alloc (.cells hv 37))=.ok (.pointer (g0+2:Nat)) V:=by rw[hW,aq];exact aE
 have⟨HW,cx,HV,HG,bF,cj,cq,cn⟩:=η8 hW aq hV aC B2 bz aj ag;have⟨cg,ck,bQ,bf,bY,b5,bK,bv⟩:=η8 bb bk G ae ay ab aV bq;have⟨ar,aQ,bE,bM,a9,b9⟩:=η6 I H S aa bH al;clear hW aq hV aC B2 bz aj ag bb bk G ae ay ab aV bq I H S aa bH al b0 B0 aZ bh B1 aH ai aY N bU hc bT bJ aU bR be aB aG hT br bV bO bW r y z B D hre hrh hs hp hn hroot hgl bD;go_enter func206,ntmps206;go_upto_region 1 with fail
 rw[HG.o];go_wp2_with fail;refine μ1 O ?_;rintro e1 w1 ⟨v1,rfl,a0,aA⟩;obtain⟨A1,c1,ba,aI,_,_⟩:=a0N.byt a0 ck;have bn:A1=none->c1=0:=λe=>by subst e;subst ba;exact a0N.nulI a0
 rw[b9.o]at ba;subst ba;have az:=φt bF aA;have bB:=bQ.o A1 c1 w1 az aI bn;have q1:=cg.o w1 aA;have⟨ci,cv⟩:=η2 aA az;clear aA az a0 aI bn;clear O aT aE bI;go_wp2_with fail;refine μi bB ?_;intro w2 bA;have⟨x,hx⟩:=ηs w2;have ax:=aK w2;have ad:=aR w2 (bys T) bK.o (a0h _);have bx:=Qd w2 31 (bys T).toArray;have BX:=(Qf _ w2).alloc (Qg _) (.cells (bys T).toArray 31);rw[hx]at ax ad bx
 generalize hY:w2.alloc (.cells (bys T).toArray 31)=Y at ad bx BX
 have ah:Below V V w2:=φt ci bA;have aM:Below V V Y:=ah.trans (BX.mono ah.size);have E:Below V V Y.drew:=aM.drew;have⟨U,hU⟩:=η0 Y.drew;have bu:Blk U x 31 (bys T).toArray:=by rw[<-hU];exact bx.drew
 rw[hU]at E;have aX:=a9.o;have bg:=HG.o;have bN:V.heap.size<=x:=by rw[<-hx];exact ah.size
 have F1:=λX (F:Below U U X)=>cq.o X (E.trans (F.mono E.size))
 have F2:=λX (F:Below U U X)=>cn.o X (E.trans (F.mono E.size))
 have F3:=λX (F:Below U U X)=>P4 a2i iId (bys T) (bu.fr (Q9 F) (ρh bu.lt)) bK.o
 have⟨S0,a2⟩:=η0 ((λX=>(LDs 34 (.pointer g0)).run prog X=.ok (.agg ev) X/\(LDs 37 (.pointer (g0+1:Nat))).run prog X=.ok (.agg hv) X/\(LDs 31 (.pointer (some ⟨x,0,none⟩))).run prog X=.ok (.agg (bys T).toArray) X):WD->Prop);have bS:∀X,Below U U X->S0 X:=λX F=>by rw[<-a2];exact⟨F1 X F,F2 X F,F3 X F⟩
 have aP:Below w w U:=φt bF E;have⟨cr,bl,HU,J,an,cy⟩:=η6 a2 bS hU E aP bN;clear a2 bS hU E aP bN ah aM BX bx bu hx hY aX bg F1 F2 F3 bA q1 bB aK;go_upto_region 5 with fail
 clear ax ad aR;with_reducible refine a4F (λi=>i != 7) S0 ρk ?_
 rw[HU.o];refine a2b (m:=4) (Lf:=#[true,true,false,true,true,false,false,false]) [(1,3),(0,0),(3,0),(4,0)] true ρk ρk ρk (λ_=>bl.o _ (Qf _ _)) ?_;refine εc1 ?_
 iterate 3 refine θc3 (λ_ h=>by rw[<-cr.o]at h;exact h) ?_
 with_reducible refine a2m ?_
 have aa:=bM.o;refine a2A (j:=6) (n:=1) (Lf:=#[true,true,true,true,true,true,true,false]) (t:=39) (Z:=zc) [(2,2),(5,3)] ρk ρk ρk ρu rfl (λa X=>by go_simp) bl.o ?_;intro X0 bj;have c2:=bf.o X0 (φt an bj);have aD:=η1 bj;clear bj aa;with_reducible refine a4f (o:=?_) ρu ρu (λK hK=>?_)
 refine ψ ?_;go_simp;refine μ1 c2 ?_;rintro e2 w6 ⟨v6,rfl,a8,a7⟩;obtain⟨Q,N6,R,rfl,cf⟩:=a8.formN;have S:=bE.o;obtain rfl:N6=2:=ρo;have bw:=φt aD a7;have ct:=aD.size;have ab:=b5.o Q R;have⟨bZ,ch,b6⟩:=η3 bw a8 a7;clear bw a8 a7 c2 cf S;with_reducible refine hK _ _ b6.o (λX6 aW=>?_);clear hK K
 have a3:=a0T.keep ch aW;have bX:=η1 (φt bZ aW);clear aW
 iterate 1 (with_reducible refine a8f (o:=?_) (v:=?_) (a':=?_) ρu ρu (λW'=>?_) ?_ ?_;rotate_left 2;(focus exact ρs);focus(exact ρs))
 with_reducible refine a6e ?_;intro b8 h6 a1 aF
 have bm:=b3t a3 aF ρd;have b7:=P9 a4U aF bv (a0d c Q R) (ar.o Q R) (aQ.o Q R);have r1:=aF.row_ (a0d c Q R).toArray;have a6:Below U U X6:=bX.o;have r2:=Ql (g:=h6) a6 a1 (a0d c Q R).toArray;have f6:=ρr (h6) X6 (a0d c Q R).toArray;have ac:=a0T.fr a3 f6 (λj hj e=>bm (by rw[hj,e]));have⟨cB,cC,R1,R2,b4⟩:=η5 a6 a1 r1 r2 ac;clear a6 a1 r1 r2 ac aF b8 f6 bm a3;clear ab;refine a1c [(7,2)] true ρk ρk ρk (λ_=>bl.o _ bX.o) ?_;refine τ1 ?_;refine ν ?_;have⟨Y7,bL⟩:=η0 (X6.setRow h6 (a0d c Q R).toArray);have r1:=R1.o;have r2:=R2.o;have ac:=b4.o;rw[bL]at r1 r2 ac⊢;obtain⟨A',c',bP,bi,aL,bs,aS⟩:=a0T.rd ac;simp only[Value.slice.injEq]at bP;obtain⟨rfl,-,rfl⟩:=bP;rw[Qw]at aL;have S:=bE.o;have ak:=φt an r2;have a5:=bY.o Q R Y7 ak ρo bi;have aJ:=P4 a8j a4U (a0d c Q R) r1 (ar.o Q R);have I:=ar.o Q R
 have H:=aQ.o Q R;have af:∀(W:WD) (e:Ending),e=.returned (.tuple #[.agg (a0d c Q R).toArray,.bool true])->a0T 31 32 w.heap.size W (.slice Q 2 R) (c.path.map bys)->c6r w c e W:=λW e d ho=>⟨Q,R,d,by rw[S];exact ho⟩
 have bo:a0T 31 32 X0.heap.size Y7 (.slice Q 2 R) (c.path.map bys):=ac;have⟨cs,a4⟩:=η0 (a0d c Q R);rw[a4]at r1 aJ I H;simp only[a4]at af a5⊢
 have au:∀a,Q=some a->¬a.block=g0+2:=λa ha e=>by
  have h1:=aS a ha;have h2:=J.size;have h3:=aD.size;have h4:=a9.o;omega
 have⟨cd,cc,cz,bp,bc,ao,bG,cD⟩:=η8 r1 ak bi bo af I H au;have bt:=η1 r2;clear r1 ak bi bo af I H au r2 bs aS aL bL S ac a4 b7;go_wp2_with fail;refine μi a5 ?_;intro w8 av;have r3:=φf cd av;have cw:=P4 a8j a4U cs r3 ao;have aN:=(J.trans (bt.mono J.size)).trans (av.mono (J.trans (bt.mono J.size)).size);have kz:=φf cj aN;have cu:=P9 a4U kz bv cs ao bG;have k9:=kz.row_ cs.toArray;have f9:Fr (λj=>j=g0+2) w8 (w8.setRow (g0+2) cs.toArray):=(Qp (λj=>j=g0+2) w8).setRow (g:=g0+2) (λ_=>rfl) _;have b2:=an.size;have ca:=aD.size;have ce:=J.size;have aX:=a9.o;have aO:=((bp.keep av).fr f9 (λk f e=>by have:=(bp.lt f).1;omega)).base (B':=w.heap.size) ρo;have bg:=HG.o;have B9:=Ql (g:=g0+2) (φt cc av) ρo cs.toArray;have⟨K9,cp,bC⟩:=η3 k9 B9 aO;clear k9 B9 aO r3 aN kz f9 bg av b2 ca ce aX;clear a5 aJ;go_wp2
 refine bodyPost_ret (a0Z rfl _ _ (g0+2) 39 cs K9 a8j (ρy ao.o a4U) rfl (.bool true)) rfl ?_;exact⟨bc.o _ _ rfl bC,cp.o⟩
end
theorem d1u(b:Nat)(a:Array MapEntry)(c:Nat)(w:WD)(d:w.heap[b]? =some (.map a c)):
  Calls prog 139 #[.map (some b)] w λe w'=>e=.returned (.map (some w.heap.size))/\w'=w.alloc (.map a c):=by
 have m:=λw=>run_eql_map_nil_sl (P:=prog) w 161 _ _ (some b) b0v
 have j:∀v,(callFunc 201 #[v]).run prog w=((Extern.MapsClone.clone #[v]).run prog w).andThen λv w'=>.ok (.value v) w':=λv=>run_callFunc_extern (P:=prog) (f:=201) (fn:=Tryz.f201) ρk ρk ρk ρk ρk #[v] w
 have g:=λt=>run_maps_clone_sl (P:=prog) (w:=w) t d
 go_enter func139,ntmps139;go_wp2;rw[run_typeAssert_map_sl _ 161 _ _ _ _ b0v];simp only[Result.andThen];rw[Oper.upon_value];go_wp2;go_ret;exact⟨rfl,rfl⟩
theorem a8R:prog.underlying 164=some (.map 189 208):=ρk
theorem c9W(b:Nat)(a:Array MapEntry)(c:Nat)(w:WD)(d:w.heap[b]? =some (.map a c)):
  Calls prog 140 #[.map (some b)] w λe w'=>e=.returned (.map (some w.heap.size))/\w'=w.alloc (.map a c):=by
 have m:=λw=>run_eql_map_nil_sl (P:=prog) w 164 _ _ (some b) a8R
 have j:∀v,(callFunc 201 #[v]).run prog w=((Extern.MapsClone.clone #[v]).run prog w).andThen λv w'=>.ok (.value v) w':=λv=>run_callFunc_extern (P:=prog) (f:=201) (fn:=Tryz.f201) ρk ρk ρk ρk ρk #[v] w
 have g:=λt=>run_maps_clone_sl (P:=prog) (w:=w) t d
 go_enter func140,ntmps140;go_wp2;rw[run_typeAssert_map_sl _ 164 _ _ _ _ a8R];simp only[Result.andThen];rw[Oper.upon_value];go_wp2;go_ret;exact⟨rfl,rfl⟩
theorem b0F:prog.underlying 167=some (.map 212 214):=ρk
theorem d1s(b:Nat)(a:Array MapEntry)(c:Nat)(w:WD)(d:w.heap[b]? =some (.map a c)):
  Calls prog 141 #[.map (some b)] w λe w'=>e=.returned (.map (some w.heap.size))/\w'=w.alloc (.map a c):=by
 have m:=λw=>run_eql_map_nil_sl (P:=prog) w 167 _ _ (some b) b0F
 have j:∀v,(callFunc 201 #[v]).run prog w=((Extern.MapsClone.clone #[v]).run prog w).andThen λv w'=>.ok (.value v) w':=λv=>run_callFunc_extern (P:=prog) (f:=201) (fn:=Tryz.f201) ρk ρk ρk ρk ρk #[v] w
 have g:=λt=>run_maps_clone_sl (P:=prog) (w:=w) t d
 go_enter func141,ntmps141;go_wp2;rw[run_typeAssert_map_sl _ 167 _ _ _ _ b0F];simp only[Result.andThen];rw[Oper.upon_value];go_wp2;go_ret;exact⟨rfl,rfl⟩
section
abbrev a1J:=a1q×LI
structure a6v(l:a1J):Prop where
 co:l.1.Bd
 len:l.2.length=32
 id:∀x∈l.2,0<=x/\x<=255
def a4V(l:a1J):LV:=a1s l.1++bys l.2
theorem a4w{l:a1J}(h:a6v l):(a4V l).length=65:=by simp[a4V,a0G h.co,a0a,h.len]
theorem a8O(l:a1J):∀v∈a4V l,v.oneCell'=true:=by
 intro v a
 rcases Qq.1 a with h | h
 ·exact a1O _ v h
 exact a0h _ v h
theorem b1h{l:a1J}(h:a6v l)(a:(a1s l.1)[j]? =some v):(a4V l)[j]? =some v:=by
 have b:j<(a1s l.1).length:=(Qm.1 a).1;unfold a4V;rw[QO b];exact a
theorem c2S{l:a1J}(h:a6v l)(a:(bys l.2)[j]? =some v):(a4V l)[33+j]? =some v:=by
 have b:=a0G h.co;unfold a4V;rw[QL ρo,b,Nat.add_sub_cancel_left];exact a
theorem c2W{l:a1J}(h:a6v l):(a4V l)[32]? =some (.int .u64 l.1.am):=b1h h (by unfold a1s;simp[a0a,h.co.len])
theorem b5Y{P:PG}{fn:Func}{p q r:Tmp}{ty a:TI}(h:fn.results=#[.cell p ty,.cell q a,.tmp r])(tmps:AV)(w:WD)(g g':Nat)(t m:TI)(cs b:AV)(fr f:Nat×Nat){d j:TypeDesc}
  (hg:w.heap[g]? =some (.cells cs t fr)) (hu:P.underlying ty=some d) (hd:a1f d=true) (hi:(P.info? ty).map (·.size)=some cs.size) (hp:tmps.getD p undef=.pointer g)
  (hg':w.heap[g']? =some (.cells b m f)) (hu':P.underlying a=some j) (hd':a1f j=true) (hi':(P.info? a).map (·.size)=some b.size) (hq:tmps.getD q undef=.pointer g') {v:VL} (hr:tmps.getD r undef=v:=by rfl):
  (results fn tmps).run P w=.ok (.tuple #[.agg cs,.agg b,v]) w:=by
 have y:tmps[p]?.getD undef=.pointer g:=ρw hp;have x:tmps[q]?.getD undef=.pointer g':=ρw hq;have o:tmps[r]?.getD undef=v:=ρw hr;simp[results,h,y,x,o,asAddr,run_loadVar_row w g t ty cs fr d hg hu (by cases d<;>simp_all [a1f]) hi,run_loadVar_row w g' m a b f j hg' hu' (by cases j<;>simp_all [a1f]) hi']
theorem c1o(w:WD):(ALs 31).run prog w=.ok (.pointer w) (w.alloc (.cells (bys (List.replicate 32 0)).toArray 31)):=a0U (.agg (bys (List.replicate 32 0)).toArray) ρk w
abbrev b3a:=ldOf 208
abbrev b3o:=stOf 208
abbrev b3h:=alOf 208
theorem d3M:(prog.underlying 208).map a1f=some true:=ρk
theorem c9u:(prog.info? 208).map (·.size)=some 65:=ρk
def a6q:a1J:=(a3q,List.replicate 32 0)
theorem a6P:a6v a6q:=⟨a2R,by simp[a6q],by intro x hx;have:=Zf hx;omega⟩
theorem c0O(w:WD):(ALs 208).run prog w=.ok (.pointer w) (w.alloc (.cells (a4V a6q).toArray 208)):=a0U (.agg (a4V a6q).toArray) ρk w
theorem d1K(w:WD):(zeroValue 208).run prog w=.ok (.agg (a4V a6q).toArray) w:=ρk
structure a0j(w:WD)(cb mb:Nat)(m:List (Pt×a1J))(s:Int):Prop where
 st:Blk w cb 166 #[.map (some mb),.int .u64 s]
 mp:a4o ptE a4V w mb m
 bd:∀p∈m,a6v p.2
theorem a0j.fr{w b:WD}{cb a:Nat}{m:List (Pt×a1J)}{s:Int}{F:Nat->Prop}(h:a0j w cb a m s)(d:Fr F w b)(f:¬F cb)(g:¬F a):a0j b cb a m s:=⟨h.st.fr d f,h.mp.fr d g,h.bd⟩
theorem a0j.below{a:WD}{m:List (Pt×a1J)}(h:a0j w cb b m s)(d:Below w w a):a0j a cb b m s:=h.fr (Q9 d) (ρh h.st.lt) (ρh h.mp.lt)
theorem a0j.ne{m:List (Pt×a1J)}(h:a0j w cb a m s):a≠cb:=h.mp.ne_blk h.st
theorem a0j.q0{m:List (Pt×a1J)}(h:a0j w cb a m s):w.cell? ⟨cb,0,none⟩=some (.map (some a)):=h.st.cell 0
theorem a0j.q1{m:List (Pt×a1J)}(h:a0j w cb a m s):w.cell? ⟨cb,1,none⟩=some (.int .u64 s):=h.st.cell 1
def a0H(m:List (Pt×a1J))(p:Pt):a1J:=(a2E m p).getD a6q
theorem a2U{m:List (Pt×a1J)}(h:∀p∈m,a6v p.2)(p:Pt):a6v (a0H m p):=by
 unfold a0H
 cases hg:a2E m p with
 | none=>exact a6P
 | some v=>exact h _ (a6T hg)
theorem a0j.look{m:List (Pt×a1J)}(h:a0j w cb b m s){p:Pt}(d:a6l p):
  (Instr.lookup 164 (.map (some b)) (.agg (ptL p.1 p.2).toArray) true).run prog w=.ok (.tuple #[.agg (a4V (a0H m p)).toArray,.bool (a2E m p).isSome]) w:=by
 unfold a0H
 cases hg:a2E m p with
 | none=>exact h.mp.look_out a8R (a:=p) d (d1K w) hg true
 | some v=>exact h.mp.look_in a8R (a:=p) hg true
theorem c0n(w:WD):Calls prog 29 #[] w λe w'=>e=.returned (.pointer (w.heap.size+1:Nat))/\a0j w' (w.heap.size+1) w.heap.size [] 0/\Below w w w'/\w'.heap.size=w.heap.size+2:=by
 have m:a4o ptE a4V (w.alloc (.map #[] 0)) w.heap.size []:=a4o.new w;have f:=ρb w (.map #[] 0);have o:=f.alloc f.size (.cells #[.map (some w.heap.size),.int .u64 0] 166);have d:=Qd (w.alloc (.map #[] 0)) 166 #[.map (some w.heap.size),.int .u64 0];rw[Qi]at d;have j:=m.fr (Q9 ((Qf _ (w.alloc (.map #[] 0))).alloc (Qg _) (.cells #[.map (some w.heap.size),.int .u64 0] 166))) ρp;have a:a0j ((w.alloc (.map #[] 0)).alloc (.cells #[.map (some w.heap.size),.int .u64 0] 166)) (w.heap.size+1) w.heap.size [] 0:=⟨d,j,by simp⟩;have⟨b,g⟩:=η2 a o;have p:=run_makeMap (P:=prog) (t:=164) w;clear a o d j m f;go_enter func29,ntmps29;go_wp2;go_ret;exact⟨by simp,b.o,g.o,by simp⟩
theorem b1f(cb a:Nat)(m:List (Pt×a1J))(s:Int)(w:WD)(h:a0j w cb a m s):Calls prog 203 #[.pointer cb] w λe w'=>e=.returned (.int .i64 (m.length:Int))/\w=w':=by
 have q0:=h.q0;have b:=h.mp.len_ (ty:=3) a8R
 generalize d:m.length=n at b⊢
 clear h d;go_enter func203,ntmps203;go_wp2;go_ret;exact⟨rfl,rfl⟩
theorem b4f(cb a:Nat)(m:List (Pt×a1J))(s:Int)(w:WD)(h:a0j w cb a m s):Calls prog 36 #[.pointer cb] w λe w'=>e=.returned (.int .u64 s)/\w=w':=by
 have q1:=h.q1;clear h;go_enter func36,ntmps36;go_wp2;go_ret;exact⟨rfl,rfl⟩
attribute [local go_sem ↓] b3a b3o b3h a1F
abbrev c5D:=bdOf 208
theorem d2S{x:a1J}(h:a6v x)(w:WD):(BDs 208 #[(0,.agg (a1s x.1).toArray),(1,.agg (bys x.2).toArray)]).run prog w=.ok (.agg (a4V x).toArray) w:=by
 have a:=a0G h.co;have b:(bys x.2).length=32:=by rw[a0a,h.len]
 have key:∀Z:LV,Z.length=65->b1G [(0,33),(33,32)] Z [(0,.agg (a1s x.1).toArray),(1,.agg (bys x.2).toArray)]=some (a4V x):=by
  intro Z d;rw[a0v (off:=0) (size:=33) rfl (by simp[Value.cells,a]) ρo,a0v (off:=33) (size:=32) rfl (by simp[Value.cells,b]) (by simp[Value.cells,a,d]),a1Y]
  congr 1
  unfold a4V;simp[Value.cells,a,b,QQ,d]
 exact a2H (pl:=[(0,33),(33,32)]) (Z:=a4V a6q) ρk ρk _ _ (key _ (a4w a6P)) w
attribute [local go_sem ↓] a1B a2s a2n
attribute [local go_sem ↓] a4s a4r a4v
theorem b5f(cb a:Nat)(m:List (Pt×a1J))(s:Int)(p:Pt)(b:a6l p)(w:WD)(h:a0j w cb a m s):
  Calls prog 222 #[.pointer cb,.agg (ptL p.1 p.2).toArray] w λe w'=>e=.returned (.tuple #[.agg (bys (a0H m p).2).toArray,.agg (a1s (a0H m p).1).toArray,.bool (a2E m p).isSome])/\Below w w w':=by
 have⟨g,hg⟩:=ηs w;have⟨E,T⟩:=η0 ((ptL p.1 p.2).toArray);have⟨zc,aW⟩:=η0 ((a4V a6q).toArray);have⟨zo,a3⟩:=η0 ((a1s a3q).toArray);have⟨zi,aU⟩:=η0 ((bys (List.replicate 32 0)).toArray);have ag:=c0O;simp only[aW]at ag;have H:=b1a;simp only[a3]at H;have r:=c1o;simp only[aU]at r;have a7:zc.size=65:=by rw[<-aW,Qc];exact a4w a6P
 have aM:zo.size=33:=by rw[<-a3,Qc];exact a0G a2R
 have aX:zi.size=32:=by rw[<-aU,Qc];simp[a0a]
 have bg:=h.st.lt;have bi:=h.mp.lt;have b0:=Qd w 189 E;have B0:=ρb w (.cells E 189)
 generalize ao:w.alloc (.cells E 189)=W1 at b0 B0
 rw[hg]at b0;have aV:W1.heap.size=g+1:=by rw[<-ao,<-hg];simp
 have J:(ALs 31).run prog (w.alloc (.cells E 189))=.ok (.pointer W1) (W1.alloc (.cells zi 31)):=by rw[ao];exact r W1
 have ai:=b0.alloc (.cells zi 31);have b1:=Qd W1 31 zi;have B1:=B0.alloc B0.size (.cells zi 31);have⟨W2,al⟩:=η0 (W1.alloc (.cells zi 31));have aJ:W2.heap.size=g+2:=by rw[<-al];simp;omega
 rw[al]at ai b1 B1 J;rw[aV]at b1 J;have G:(ALs 206).run prog W2=.ok (.pointer W2) (W2.alloc (.cells zo 206)):=H W2;have aC:=ai.alloc (.cells zo 206);have aE:=b1.alloc (.cells zo 206);have b2:=Qd W2 206 zo;have B2:=B1.alloc B1.size (.cells zo 206);have⟨W3,ay⟩:=η0 (W2.alloc (.cells zo 206));have aH:W3.heap.size=g+3:=by rw[<-ay];simp;omega
 rw[ay]at aC aE b2 B2 G;rw[aJ]at b2 G;have h2:=h.below B2;have fd:Fr (λ_=>False) W3 W3.drew:=(Qp _ _).drew;have⟨X,hX⟩:=η0 W3.drew;rw[hX]at fd;have aY:X.heap.size=g+3:=by rw[<-hX];exact aH
 have S:a0j X cb a m s/\Blk X g 189 E:=⟨h2.fr fd id id,aC.fr fd id⟩;have F:=ag X;have bx:=Qd X 208 zc;have BX:=ρb X (.cells zc 208)
 generalize hY:X.alloc (.cells zc 208)=Y at bx BX F
 rw[aY]at bx F;have a0:a0j Y cb a m s/\Blk Y g 189 E:=⟨S.1.below BX,S.2.fr (Q9 BX) ρo⟩;have f:=a2U h.bd p;have aF:=a4w f;have aG:=a8O (a0H m p);have d:=λ(W:WD) (hw:a0j W cb a m s)=>hw.look b
 simp only[T]at d;have av:∀(j:Nat) (v:VL),(a1s (a0H m p).1)[j]? =some v->(a4V (a0H m p)).toArray[j]? =some v:=λj v hv=>by rw[QE];exact b1h f hv
 have an:∀(j:Nat) (v:VL),(bys (a0H m p).2)[j]? =some v->(a4V (a0H m p)).toArray[33+j]? =some v:=λj v hv=>by rw[QE];exact c2S f hv
 have z:=a0G f.co;have au:=a1O (a0H m p).1;have O:(bys (a0H m p).2).length=32:=by rw[a0a,f.len]
 have ah:=a0h (a0H m p).2;have⟨os,aQ⟩:=η0 (a1s (a0H m p).1);have⟨is,aL⟩:=η0 (bys (a0H m p).2);have⟨cs,aj⟩:=η0 (a4V (a0H m p));rw[aj]at aF aG;simp only[aj,aQ,aL]at d av an z au O ah⊢
 generalize a9:(a2E m p).isSome=ok at d⊢
 have R:=P7 c9u bx a7 cs aF aG;have fY:Fr (λk=>k=g+3) Y (Y.setRow (g+3) cs.toArray):=(Qp (λk=>k=g+3) Y).setRow (g:=g+3) (λ_=>rfl) _;have kx:=bx.row_ cs.toArray;have kr:Blk (Y.setRow (g+3) cs.toArray) (g+1) 31 zi:=((aE.fr fd id).fr (Q9 BX) ρo).fr fY ρo;have ks:Blk (Y.setRow (g+3) cs.toArray) (g+2) 206 zo:=((b2.fr fd id).fr (Q9 BX) ρo).fr fY ρo;have BY:Below w w (Y.setRow (g+3) cs.toArray):=((B2.trans (fd.below ρo (λ_ _=>id))).trans (BX.mono ρo)).trans (fY.below (B:=w.heap.size) (ρh BX.size) (λk hk e=>ρo));have⟨Z,hZ⟩:=η0 (Y.setRow (g+3) cs.toArray);replace R:=R.trans (show _=Result.ok () Z by rw[<-hZ]);rw[hZ]at kx kr ks BY;have o:Fr (λ_=>False) Z Z.drew:=(Qp _ _).drew;have⟨Z1,ax⟩:=η0 Z.drew;rw[ax]at o;have V:=kx.fr o id;have aA:=kr.fr o id;have aS:=ks.fr o id
 have aN:Below w w Z1:=BY.trans (o.below (ρh BY.size) (λ_ _=>id));obtain⟨dI,az,y⟩:=Q8.1 a2i;obtain⟨dC,ak,N⟩:=Q8.1 c3f;have D:∀W:WD,Blk W (g+3) 208 cs.toArray->(LDs 31 (.pointer (some ⟨g+3,33,none⟩))).run prog W=.ok (.agg is.toArray) W:=λW hb=>a3R W _ dI 32 az y iId (g+3) 33 is O (λj v hv=>(hb.cell (33+j)).trans (an j v hv))
 have x:∀W:WD,Blk W (g+3) 208 cs.toArray->(LDs 206 (.pointer (g+3:Nat))).run prog W=.ok (.agg os.toArray) W:=λW hb=>a3R W _ dC 33 ak N a9y (g+3) 0 os z (λj v hv=>by rw[QP];exact(hb.cell j).trans (av j v hv))
 have I:=P7 iId aA aX is O ah;have aD:=aA.row_ is.toArray;have f3:Fr (λk=>k=g+1) Z1 (Z1.setRow (g+1) is.toArray):=(Qp (λk=>k=g+1) Z1).setRow (g:=g+1) (λ_=>rfl) _;have Q:=aS.fr f3 (show¬_=_ by omega);have U:=V.fr f3 (show¬_=_ by omega);have aB:=Ql (g:=g+1) aN ρo is.toArray;have⟨Z2,ad⟩:=η0 (Z1.setRow (g+1) is.toArray);replace I:=I.trans (show _=Result.ok () Z2 by rw[<-ad]);rw[ad]at aD Q U aB;have aT:=P7 a9y Q aM os z au;have ac:=Q.row_ os.toArray;have f4:Fr (λk=>k=g+2) Z2 (Z2.setRow (g+2) os.toArray):=(Qp (λk=>k=g+2) Z2).setRow (g:=g+2) (λ_=>rfl) _;have ae:=aD.fr f4 (show¬_=_ by omega);have aq:=Ql (g:=g+2) aB ρo os.toArray;have K:=λ(W:WD) (hb:Blk W g 189 E)=>Pb a3a a1H (w:=W) E.toList (ρw hb) (by rw[<-T];simpa using b.vlen)
 simp only[show E.toList.toArray=E by simp]at K;have⟨xa,aP⟩:=η0 cs.toArray;have⟨oa,ar⟩:=η0 os.toArray;have⟨ia,af⟩:=η0 is.toArray;have ab:oa.size=33:=by rw[<-ar,Qc,z]
 have aa:ia.size=32:=by rw[<-af,Qc,O]
 simp only[aP,ar,af]at d R D x I aT ae ac aq V U⊢;rw[T];have⟨a6,a4,bc,ba,bh,a8,bf,be⟩:=η8 S a0 ab aa ae ac aq d;have⟨aI,aZ,aO,bb,aR,HX,a2,HG⟩:=η8 K D x V U hX ax hg;have⟨bj,a1,a5,aK⟩:=η4 az y ak N;clear S a0 ab aa ae ac aq d K D x V U hX ax hg az y ak N b0 B0 ai b1 B1 aC aE b2 B2 h2 fd aY bx BX hY f aF aG aj a9 fY kx kr ks BY hZ aJ aH ao aV al ay ag H r h bg bi aP T av an z au O ah aQ aL o aA aS aN aD f3 Q aB ad f4 ar af;go_enter func222,ntmps222;go_upto_region 1 with fail
 clear J G;rw[HG.o];refine a0s [(0,3),(1,3),(2,3),(3,0),(4,0),(5,0),(6,3),(7,3),(8,3),(9,1),(10,2),(11,3)] (λW=>a0j W cb a m s/\Blk W g 189 E) ρk ρk ρk ρk (ρy HX.o a6.o) ?_;rw[HX.o];refine ε3 ?_
 iterate 3 refine θ3 (λW' hS=>QU hS.1.q0 (QU (aI.o W' hS.2) (be.o W' hS.1))) ?_
 refine ε3 ?_;refine κ1 (a4.o) ?_;refine τ1 ?_;refine ε1 ?_;refine ν ?_;clear F R;go_upto_region 2 with fail
 refine a0s [(0,3),(2,3),(4,3),(1,0),(3,0),(5,1),(6,2),(7,3)] (λW=>Blk W (g+3) 208 xa) ρk ρk ρk ρk (ρy a2.o bb.o) ?_;rw[a2.o];refine ε3 ?_
 iterate 2 refine θ2 (λW' hS=>QU (aZ.o W' hS) (aO.o W' hS)) ?_
 refine κ1 (aR.o) ?_;refine τ1 ?_;refine ε1 ?_;refine ν ?_;go_wp2;refine bodyPost_ret (v:=.tuple #[.agg ia,.agg oa,.bool ok]) (b5Y rfl _ _ (g+1) (g+2) _ _ _ _ (0,0) (0,0) bh.o bj a1 (ρy ba.o iId) rfl a8 a5 aK (ρy bc.o a9y) rfl) rfl ?_;exact⟨rfl,bf.o⟩
end
section
attribute [local go_sem ↓] b3a b3o b3h a4v a4s a4r a1F a1B
theorem b8V(cb b:Nat)(m:List (Pt×a1J))(s:Int)(p:Pt)(d:a6l p)(w:WD)(h:a0j w cb b m s):
  Calls prog 219 #[.pointer cb,.agg (ptL p.1 p.2).toArray] w λe w'=>e=.returned (.tuple #[.agg (a1s (a0H m p).1).toArray,.bool (a2E m p).isSome])/\a0j w' cb b (b6D m p) (IntKind.u64.wrap (s-(a0H m p).1.am))/\Fr (λk=>k=cb\/k=b) w w':=by
 have⟨g,hg⟩:=ηs w;have⟨r,H⟩:=η0 ((ptL p.1 p.2).toArray);have⟨zc,aR⟩:=η0 ((a4V a6q).toArray);have⟨zo,aF⟩:=η0 ((a1s a3q).toArray);have ag:=c0O;simp only[aR]at ag;have J:=b1a;simp only[aF]at J;have a2:zc.size=65:=by rw[<-aR,Qc];exact a4w a6P
 have ac:zo.size=33:=by rw[<-aF,Qc];exact a0G a2R
 have bf:=h.st.lt;have bi:=h.mp.lt;have b0:=Qd w 189 r;have B0:=ρb w (.cells r 189)
 generalize an:w.alloc (.cells r 189)=W1 at b0 B0
 rw[hg]at b0;have aQ:W1.heap.size=g+1:=by rw[<-an,<-hg];simp
 have K:(ALs 206).run prog (w.alloc (.cells r 189))=.ok (.pointer W1) (W1.alloc (.cells zo 206)):=by rw[an];exact J W1
 have ah:=b0.alloc (.cells zo 206);have b1:=Qd W1 206 zo;have B1:=B0.alloc B0.size (.cells zo 206);have⟨W2,al⟩:=η0 (W1.alloc (.cells zo 206));have aH:W2.heap.size=g+2:=by rw[<-al];simp;omega
 rw[al]at ah b1 B1 K;rw[aQ]at b1 K;have h2:=h.below B1;have fd:Fr (λ_=>False) W2 W2.drew:=(Qp _ _).drew;have⟨X,hX⟩:=η0 W2.drew;rw[hX]at fd;have aT:X.heap.size=g+2:=by rw[<-hX];exact aH
 have R:a0j X cb b m s/\Blk X g 189 r:=⟨h2.fr fd id id,ah.fr fd id⟩;have I:=ag X;have bx:=Qd X 208 zc;have BX:=ρb X (.cells zc 208)
 generalize hY:X.alloc (.cells zc 208)=Y at bx BX I
 rw[aT]at bx I;have V:a0j Y cb b m s/\Blk Y g 189 r:=⟨R.1.below BX,R.2.fr (Q9 BX) ρo⟩;have E:=a2U h.bd p;have aC:=a4w E;have aE:=a8O (a0H m p);have D:=λ(W:WD) (hw:a0j W cb b m s)=>hw.look d
 simp only[H]at D;have av:∀(j:Nat) (v:VL),(a1s (a0H m p).1)[j]? =some v->(a4V (a0H m p)).toArray[j]? =some v:=λj v hv=>by rw[QE];exact b1h E hv
 have o:=c2W E;have F:=a0G E.co;have au:=a1O (a0H m p).1;have⟨os,aM⟩:=η0 (a1s (a0H m p).1);have⟨cs,ai⟩:=η0 (a4V (a0H m p));rw[ai]at aC aE o;simp only[ai,aM]at D av F au⊢
 generalize a3:(a2E m p).isSome=ok at D⊢
 have Q:=P7 c9u bx a2 cs aC aE;have fY:Fr (λk=>k=g+2) Y (Y.setRow (g+2) cs.toArray):=(Qp (λk=>k=g+2) Y).setRow (g:=g+2) (λ_=>rfl) _;have kx:=bx.row_ cs.toArray;have kr:Blk (Y.setRow (g+2) cs.toArray) (g+1) 206 zo:=((b1.fr fd id).fr (Q9 BX) ρo).fr fY ρo;have kp:Blk (Y.setRow (g+2) cs.toArray) g 189 r:=V.2.fr fY ρo;have aA:a0j (Y.setRow (g+2) cs.toArray) cb b m s:=V.1.fr fY ρo ρo;have BY:Below w w (Y.setRow (g+2) cs.toArray):=((B1.trans (fd.below ρo (λ_ _=>id))).trans (BX.mono ρo)).trans (fY.below (B:=w.heap.size) (ρh BX.size) (λk hk e=>ρo));have⟨Z,hZ⟩:=η0 (Y.setRow (g+2) cs.toArray);replace Q:=Q.trans (show _=Result.ok () Z by rw[<-hZ]);rw[hZ]at kx kr BY kp aA;have N:=λ(W:WD) (hb:Blk W g 189 r)=>Pb a3a a1H (w:=W) r.toList (ρw hb) (by rw[<-H];simpa using d.vlen)
 simp only[show r.toList.toArray=r by simp]at N;have x:Fr (λ_=>False) Z Z.drew:=(Qp _ _).drew;have⟨Z1,ax⟩:=η0 Z.drew;rw[ax]at x;have T:a0j Z1 cb b m s/\Blk Z1 g 189 r:=⟨aA.fr x id id,kp.fr x id⟩;obtain⟨Z2,ab,aU,f,aJ⟩:=T.1.mp.del (ty:=0) a8R (a:=p) d;have aq:=h.ne;have af:Blk Z2 cb 166 #[.map (some b),.int .u64 s]:=T.1.st.fr f (λe=>aq e.symm);have aP:=(kx.fr x id).fr f (show¬_=_ by omega);have aY:=(kr.fr x id).fr f (show¬_=_ by omega);have F2:Fr (λk=>k=cb\/k=b) w Z2:=(((Q9 BY).mono (G:=λk=>k=cb\/k=b) (λk hk e=>ρo)).trans x (λ_ _ e=>e.elim)).trans f (λk hk e=>.inr e);have y:Fr (λ_=>False) Z2 Z2.drew:=(Qp _ _).drew;have⟨O,az⟩:=η0 Z2.drew;rw[az]at y;have z:=af.fr y id;have aj:=aP.fr y id;have aG:=aY.fr y id;have ad:=aU.fr y id;have qs:O.cell? ⟨cb,1,none⟩=some (.int .u64 s):=z.cell 1;have zs:=z.frozen 1
 have qa:O.cell? ⟨g+2,32,none⟩=some (.int .u64 (a0H m p).1.am):=(aj.cell 32).trans (by rw[QE];exact o);have⟨s',S⟩:=η0 (IntKind.u64.wrap (s-(a0H m p).1.am));have k4:Blk (O.setCell ⟨cb,1,none⟩ (.int .u64 s')) cb 166 #[.map (some b),.int .u64 s']:=by simpa using z.set_ 1 (.int .u64 s')
 have f4:Fr (λk=>k=cb) O (O.setCell ⟨cb,1,none⟩ (.int .u64 s')):=(Qp (λk=>k=cb) O).setCell (p:=⟨cb,1,none⟩) (λ_=>rfl) _;have ao:=aj.fr f4 (show¬_=_ by omega);have U:=aG.fr f4 (show¬_=_ by omega);have aD:a0j (O.setCell ⟨cb,1,none⟩ (.int .u64 s')) cb b (b6D m p) s':=⟨k4,ad.fr f4 aq,λq hq=>h.bd q (ZD.1 hq).1⟩;have F4:=(F2.trans y (λ_ _ e=>e.elim)).trans f4 (λk hk e=>.inl e)
 generalize aS:O.setCell ⟨cb,1,none⟩ (.int .u64 s')=Z4 at ao U aD F4
 obtain⟨dC,aN,ae⟩:=Q8.1 c3f;have aI:(LDs 206 (.pointer (g+2:Nat))).run prog Z4=.ok (.agg os.toArray) Z4:=a3R Z4 _ dC 33 aN ae a9y (g+2) 0 os F (λj v hv=>by rw[QP];exact(ao.cell j).trans (av j v hv));have aV:=P7 a9y U ac os F au;have aB:=U.row_ os.toArray;have f5:Fr (λk=>k=g+1) Z4 (Z4.setRow (g+1) os.toArray):=(Qp (λk=>k=g+1) Z4).setRow (g:=g+1) (λ_=>rfl) _;have ay:=aD.fr f5 ρo ρo;have F5:=F4.trans f5 (λk hk e=>ρo);have⟨xa,aK⟩:=η0 cs.toArray;have⟨oa,ar⟩:=η0 os.toArray;have aW:oa.size=33:=by rw[<-ar,Qc,F]
 generalize a5:(a0H m p).1.am=am at qa S⊢
 rw[S];simp only[aK,ar]at D Q aI aV aB ay F5⊢;have ak:∀ty:TI,(Builtin.delete_ #[164,189] ty #[.map (some b),.agg r]).run prog Z1=.ok (.tuple #[]) Z2:=λty=>by rw[<-H];exact ab
 rw[H];have aL:O.cell? ⟨cb,1,none⟩=some (.int .u64 s)/\O.cell? ⟨g+2,32,none⟩=some (.int .u64 am):=⟨qs,qa⟩;have⟨a1,a0,a7,a4,bg,bb,aa,HX⟩:=η8 R V T aW aB D N hX;have⟨HG,aZ,aX,a8,bc,be,aO,bh⟩:=η8 hg ax az aS ay F5 aL S;clear R V T aW aB D N hX hg ax az aS ay F5 aL S b0 B0 ah b1 B1 h2 fd aT bx BX hY E aC aE ai a3 fY kx kr BY hZ aH an aQ al ag h bf bi aK H kp aA x aU f aJ aq af aP aY F2 y z aj aG ad k4 f4 ao U aD F4 f5 a5 ab qs qa av o F au aM ar aN ae J ac aF;go_enter func219,ntmps219;go_upto_region 1 with fail
 clear K;rw[HG.o];refine a0s [(0,3),(1,3),(2,3),(3,0),(4,0),(5,0),(6,3),(7,3),(8,3),(9,1),(10,2),(11,3)] (λW=>a0j W cb b m s/\Blk W g 189 r) ρk ρk ρk ρk (ρy HX.o a1.o) ?_;rw[HX.o];refine ε3 ?_
 iterate 3 refine θ3 (λW' hS=>QU hS.1.q0 (QU (aa.o W' hS.2) (bb.o W' hS.1))) ?_
 refine ε3 ?_;refine κ1 (a0.o) ?_;refine τ1 ?_;refine ε1 ?_;refine ν ?_;clear I Q;go_upto_region 2 with fail
 refine a0s [(0,3),(1,3),(2,3),(3,0),(4,0),(5,2)] (λW=>a0j W cb b m s/\Blk W g 189 r) ρk ρk ρk ρk (ρy aZ.o a7.o) ?_;rw[aZ.o];refine ε3 ?_
 iterate 2 refine θ2 (λW' hS=>QU hS.1.q0 (aa.o W' hS.2)) ?_
 refine τ1 ?_;refine ν ?_;clear ak;go_upto_region 3 with fail
 refine a0s [(0,3),(1,3),(2,3),(4,3),(5,3),(3,0),(6,0),(7,3),(8,3),(9,3),(10,2)] (λW=>W.cell? ⟨cb,1,none⟩=some (.int .u64 s)/\W.cell? ⟨g+2,32,none⟩=some (.int .u64 am)) ρk ρk ρk ρk (ρy aX.o aO.o) ?_;rw[aX.o];have qs:=aO.1;have a9:=bh.o;refine ε5 ?_
 iterate 2 refine θ2 (λW' hS=>QU hS.1 hS.2) ?_
 refine ε3 ?_;refine τ1 ?_;refine ν ?_;go_upto_region 4 with fail
 rw[a8.o];clear qs zs a9;go_wp2_with fail;obtain⟨dT,a6,ba⟩:=Q8.1 c3f;refine bodyPost_ret (v:=.tuple #[.agg oa,.bool ok]) (a0k rfl _ _ (g+1) _ _ (0,0) bg.o a6 ba (ρy a4.o a9y) rfl) rfl ?_;exact⟨rfl,bc.o,be.o⟩
attribute [local go_sem ↓] c5D
def b9M(m:List (Pt×a1J))(s:Int)(p:Pt)(x:a1J):Int×List (Pt×a1J)×Int:=
 if p.2<0\/16<=p.2\/x.1.am=0\/4611686018427387904<x.1.am then(5,m,s)
 else if(a2E m p).isSome then(24,m,s)
 else if 64<=m.length then(18,m,s)
 else if(a5b s x.1.am).2≠0 then((a5b s x.1.am).2,m,s)
 else(0,m++[(p,x)],(a5b s x.1.am).1)
theorem b9V(cb b:Nat)(m:List (Pt×a1J))(s:Int)(p:Pt)(f:a6l p)(x:a1J)(d:a6v x)(j:0<=s/\s<=18446744073709551615)(w:WD)(h:a0j w cb b m s):
  Calls prog 120 #[.pointer cb,.agg (ptL p.1 p.2).toArray,.agg (bys x.2).toArray,.agg (a1s x.1).toArray] w λe w'=>e=.returned (.int .i64 (b9M m s p x).1)/\a0j w' cb b (b9M m s p x).2.1 (b9M m s p x).2.2/\Fr (λk=>k=cb\/k=b) w w':=by
 have⟨g,T⟩:=ηs w;have⟨r,O⟩:=η0 ((ptL p.1 p.2).toArray);have⟨iv,aE⟩:=η0 ((bys x.2).toArray);have⟨ov,av⟩:=η0 ((a1s x.1).toArray);have⟨G,N⟩:=η0 (a4V x);have⟨zc,a4⟩:=η0 ((a4V a6q).toArray);have ar:=c0O;simp only[a4]at ar;have aU:zc.size=65:=by rw[<-a4,Qc];exact a4w a6P
 have E:G.length=65:=by rw[<-N];exact a4w d
 have ab:∀v∈G,v.oneCell'=true:=by rw[<-N];exact a8O x
 have aj:G[32]? =some (.int .u64 x.1.am):=by rw[<-N];exact c2W d
 have aP:∀W:WD,(BDs 208 #[(0,.agg ov),(1,.agg iv)]).run prog W=.ok (.agg G.toArray) W:=by
  intro W;rw[<-av,<-aE,<-N];exact d2S d W
 have bC:=h.st.lt;have bH:=h.mp.lt;have b0:=Qd w 189 r;have B0:=ρb w (.cells r 189);have bm:=b0.alloc (.cells iv 31);have b1:=Qd (w.alloc (.cells r 189)) 31 iv;have B1:=B0.alloc B0.size (.cells iv 31);rw[Qi]at b1;have aD:=bm.alloc (.cells ov 206);have aF:=b1.alloc (.cells ov 206);have b2:=Qd ((w.alloc (.cells r 189)).alloc (.cells iv 31)) 206 ov;have B2:=B1.alloc B1.size (.cells ov 206);rw[Qi,Qi]at b2;have⟨W3,aB⟩:=η0 (((w.alloc (.cells r 189)).alloc (.cells iv 31)).alloc (.cells ov 206));have bc:W3.heap.size=g+3:=by rw[<-aB,<-T];simp
 rw[aB]at aD aF b2 B2;rw[T]at aD aF b2;have aH:=Pb c3f a9y (w:=W3) ov.toList (ρw b2) (by rw[<-av];simpa using a0G d.co);have aJ:=Pb a2i iId (w:=W3) iv.toList (ρw aF) (by rw[<-aE];simp[a0a,d.len]);simp only[show ov.toList.toArray=ov by simp,show iv.toList.toArray=iv by simp]at aH aJ;have ae:=ar W3;have bx:=Qd W3 208 zc;have BX:=ρb W3 (.cells zc 208);have aX:=aD.alloc (.cells zc 208);have h3:=(h.below B2).below BX;have⟨W4,aY⟩:=η0 (W3.alloc (.cells zc 208));have bt:W4.heap.size=g+4:=by rw[<-aY];simp;omega
 rw[aY]at bx BX aX h3 ae;rw[bc]at bx ae;have H:=P7 c9u bx aU G E ab;have fY:Fr (λk=>k=g+3) W4 (W4.setRow (g+3) G.toArray):=(Qp (λk=>k=g+3) W4).setRow (g:=g+3) (λ_=>rfl) _;have kx:=bx.row_ G.toArray;have kp:=aX.fr fY (show¬_=_ by omega);have hV:=h3.fr fY ρo ρo;have aW:(W4.setRow (g+3) G.toArray).heap.size=g+4:=ρw bt;have BV:Below w w (W4.setRow (g+3) G.toArray):=(B2.trans (BX.mono ρo)).trans (fY.below (B:=w.heap.size) ρo (λk hk e=>ρo));have⟨V,a6⟩:=η0 (W4.setRow (g+3) G.toArray);replace H:=H.trans (show _=Result.ok () V by rw[<-a6]);rw[a6]at kx kp hV BV aW;have aN:r[32]? =some (.int .i64 p.2):=by rw[<-O];unfold ptL;simp[a0a,f.len]
 have qi:V.cell? ⟨g,32,none⟩=some (.int .i64 p.2):=(kp.cell 32).trans aN;have qa:V.cell? ⟨g+3,32,none⟩=some (.int .u64 x.1.am):=(kx.cell 32).trans (by rw[QE];exact aj);have FV:Fr (λk=>k=cb\/k=b) w V:=(Q9 BV).mono (λk hk e=>ρo);have fd:Fr (λ_=>False) V V.drew:=(Qp _ _).drew;have⟨X,hX⟩:=η0 V.drew;rw[hX]at fd;have bA:X.heap.size=g+4:=by rw[<-hX];exact aW
 have ax:a0j X cb b m s/\Blk X g 189 r:=⟨hV.fr fd id id,kp.fr fd id⟩;have I:=ar X;have by_:=Qd X 208 zc;have D:=ρb X (.cells zc 208)
 generalize hY:X.alloc (.cells zc 208)=Y at by_ D I
 rw[bA]at by_ I;have aC:a0j Y cb b m s/\Blk Y g 189 r:=⟨ax.1.below D,ax.2.fr (Q9 D) ρo⟩;have bk:=a2U h.bd p;have ba:=a4w bk;have bb:=a8O (a0H m p);have J:=λ(W:WD) (hw:a0j W cb b m s)=>hw.look f
 simp only[O]at J;have⟨cs,aZ⟩:=η0 (a4V (a0H m p));rw[aZ]at ba bb;simp only[aZ]at J;have⟨ok,aV⟩:=η0 ((a2E m p).isSome);rw[aV]at J;have y:=P7 c9u by_ aU cs ba bb;have fZ:Fr (λk=>k=g+4) Y (Y.setRow (g+4) cs.toArray):=(Qp (λk=>k=g+4) Y).setRow (g:=g+4) (λ_=>rfl) _;have ao:a0j (Y.setRow (g+4) cs.toArray) cb b m s:=aC.1.fr fZ ρo ρo;have a7:Blk (Y.setRow (g+4) cs.toArray) g 189 r:=aC.2.fr fZ ρo;have aq:Blk (Y.setRow (g+4) cs.toArray) (g+3) 208 G.toArray:=((kx.fr fd id).fr (Q9 D) ρo).fr fZ ρo;have BZ:Below w w (Y.setRow (g+4) cs.toArray):=((BV.trans (fd.below ρo (λ_ _=>id))).trans (D.mono ρo)).trans (fZ.below (B:=w.heap.size) (ρh D.size) (λk hk e=>ρo));have⟨Z,hZ⟩:=η0 (Y.setRow (g+4) cs.toArray);replace y:=y.trans (show _=Result.ok () Z by rw[<-hZ]);rw[hZ]at ao a7 aq BZ;have FZ:Fr (λk=>k=cb\/k=b) w Z:=(Q9 BZ).mono (λk hk e=>ρo)
 have al:=λ(W:WD) (hb:Blk W g 189 r)=>Pb a3a a1H (w:=W) r.toList (ρw hb) (by rw[<-O];simpa using f.vlen)
 simp only[show r.toList.toArray=r by simp]at al;have U:=λ(W:WD) (hb:Blk W (g+3) 208 G.toArray)=>Pb d3M c9u (w:=W) G hb E
 have R:Fr (λ_=>False) Z Z.drew:=(Qp _ _).drew;have⟨Z1,a5⟩:=η0 Z.drew;rw[a5]at R;have aa:=ao.fr R id id;have az:=aq.fr R id;have be:=a7.fr R id;have bE:Z1.cell? ⟨cb,1,none⟩=some (.int .u64 s)/\Z1.cell? ⟨g+3,32,none⟩=some (.int .u64 x.1.am):=⟨aa.q1,(az.cell 32).trans (by rw[QE];exact aj)⟩;have ah:=a8G s x.1.am j d.co.am Z1;have⟨xa,bo⟩:=η0 cs.toArray;have⟨xv,a3⟩:=η0 G.toArray;simp only[bo]at J y;simp only[a3]at aP H U aq az kx;have bn:Below w w Z1:=BZ.trans (R.below (ρh BZ.size) (λ_ _=>id));have aK:(a4V x).toArray=xv:=by rw[N];exact a3
 rw[O,aE,av];have⟨bP,bO,b3,aG,bl,HX,HG,bK⟩:=η8 ax aC J al U hX T a5;have⟨bQ,bR,bW,cc,b4,bZ,b8,bS⟩:=η8 bE aa az be bn aB d O;have⟨b6,bX,ca,aQ,aI,HV,b5,au⟩:=η8 aK aV h.bd bC bH hV FV ao;have bf:=η1 FZ;clear ax aC J al U hX T a5 bE aa az be bn aB d O aK aV bC bH hV FV ao FZ b0 B0 bm b1 B1 aD aF b2 B2 bc bx BX aX h3 aY bt fY kx kp aW BV a6 aN fd bA by_ D hY bk ba bb aZ fZ a7 aq BZ hZ ar h bo N E ab aj a3 R aU a4 aE av;go_enter func120,ntmps120;go_upto_region 1 with fail
 rw[bZ.o,HG.o];go_upto_region 2 with fail
 clear aH aJ ae H aP;have ay:(p.2<0\/16<=p.2\/x.1.am=0\/4611686018427387904<x.1.am)\/¬(p.2<0\/16<=p.2\/x.1.am=0\/4611686018427387904<x.1.am):=Classical.em _
 rcases ay with hA | hA
 focus
  have o:b9M m s p x=(5,m,s):=if_pos hA
  have b7:(decide (p.2<0)=true)\/(decide (p.2<0)=false/\decide (16<=p.2)=true)\/(decide (p.2<0)=false/\decide (16<=p.2)=false/\(x.1.am == 0)=true)\/(decide (p.2<0)=false/\decide (16<=p.2)=false/\(x.1.am == 0)=false/\decide (4611686018427387904<x.1.am)=true):=by
   simp only[decide_eq_true_eq,decide_eq_false_iff_not,beq_iff_eq,beq_eq_false_iff_ne,ne_eq];omega
  have F:=η1 o;clear o hA;clear I y ah
  rcases b7 with d1 | ⟨d1,d2⟩ | ⟨d1,d2,d3⟩ | ⟨d1,d2,d3,d4⟩
  all_goals
   go_wp2;go_ret;rw[F.o];exact⟨rfl,HV.o,b5.o⟩
 have d1:decide (p.2<0)=false:=by simp;omega
 have d2:decide (16<=p.2)=false:=by simp;omega
 have d3:(x.1.am == 0)=false:=by simp;omega
 have d4:decide (4611686018427387904<x.1.am)=false:=by simp;omega
 have o:b9M m s p x=(if(a2E m p).isSome then(24,m,s)else if 64<=m.length then(18,m,s)else if(a5b s x.1.am).2≠0 then((a5b s x.1.am).2,m,s)else(0,m++[(p,x)],(a5b s x.1.am).1)):=if_neg hA;have⟨aR,F⟩:=η2 bX o;clear o hA;go_upto_region 4 with fail
 clear d1 d2 d3 d4 qi qa;refine a0s [(0,3),(1,3),(2,3),(3,0),(4,0),(5,0),(6,3),(7,3),(8,3),(9,1),(10,2),(11,3)] (λW=>a0j W cb b m s/\Blk W g 189 r) ρk ρk ρk ρk (ρy HX.o bP.o) ?_;rw[HX.o];refine ε3 ?_
 iterate 3 refine θ3 (λW' hS=>QU hS.1.q0 (QU (aG.o W' hS.2) (b3.o W' hS.1))) ?_
 refine ε3 ?_;refine κ1 (bO.o) ?_;refine τ1 ?_;refine ε1 ?_;refine ν ?_;clear I y
 cases T:a2E m p with
 |
  some v=>
  have ai:ok=true:=by rw[<-aR.o,T];rfl
  subst ai;have o:=F.o;rw[T]at o;simp only[Option.isSome_some,if_true]at o;have z:=η1 o;clear o;clear T;go_wp2;go_ret;rw[z.o];exact⟨rfl,au.o,bf.o⟩
 |
  none=>
  have ai:ok=false:=by rw[<-aR.o,T];rfl
  subst ai;have o:=F.o;rw[T]at o;simp only[Option.isSome_none,QI,if_false]at o;have q0:=au.q0;have hl:=au.mp.len_ (ty:=3) a8R;have⟨n,hn⟩:=η0 m.length;rw[hn]at hl o;have⟨b9,HN⟩:=η2 T hn;clear T hn
  by_cases bp:64<=n
  ·have bI:(64:Int)<=(n:Int):=ρo
   rw[if_pos bp]at o;have z:=η1 o;clear o;go_wp2;go_ret;rw[z.o];exact⟨rfl,au.o,bf.o⟩
  have bI:¬(64:Int)<=(n:Int):=ρo;rw[if_neg bp]at o;go_upto_region 9 with fail
  clear hl q0;refine a0s [(0,3),(1,3),(2,3),(4,3),(5,3),(3,0),(6,0),(7,2),(8,3),(9,3),(10,3),(11,3),(12,3)] (λW=>W.cell? ⟨cb,1,none⟩=some (.int .u64 s)/\W.cell? ⟨g+3,32,none⟩=some (.int .u64 x.1.am)) ρk ρk ρk ρk (ρy bK.o bQ.o) ?_;rw[bK.o];refine ε5 ?_
  iterate 2 refine θ2 (λW' hS=>QU hS.1 hS.2) ?_
  refine τ ?_;intro K hK;refine μ1 ah ?_;rintro e w4 ⟨rfl,ac⟩;with_reducible refine hK _ _ ?_;clear hK K
  refine ε5 ?_;refine ν ?_;clear ah;have bN:=bR.below ac;have bs:=φf bW ac;have bM:=φf cc ac;have bi:=φt b4 ac;have ak:=aQ.o;have af:=aI.o;have F4:Fr (λk=>k=cb\/k=b) w w4:=(Q9 bi).mono (λk hk e=>ρo);have⟨bw,bJ,bu,br⟩:=η4 bN bs bM F4;clear bN bs bM F4 ac bi ak af
  generalize ce:a5b s x.1.am=ad at o⊢
  obtain⟨a1,a2⟩:=ad;simp only at o⊢
  by_cases an:a2=0
  ·rw[if_neg (ρw an)]at o
   subst an;have z:=η1 o;clear o;have Q:Fr (λ_=>False) w4 w4.drew:=(Qp _ _).drew;have⟨Z5,a8⟩:=η0 w4.drew;rw[a8]at Q;have S:=bw.fr Q (λe=>e) (λe=>e);have a9:=bu.fr Q (λe=>e);have a0:=bJ.fr Q (λe=>e);have bj:Z5.cell? ⟨cb,0,none⟩=some (.map (some b))/\Blk Z5 g 189 r/\Blk Z5 (g+3) 208 xv:=⟨S.q0,a9,a0⟩;obtain⟨st,Z6,Z7,bg,bz,bB,ag,bL,bD,bh⟩:=S.mp.entry a8R (a:=p) f x (d1K Z5) b9.o;have ak:=aQ.o;have af:=aI.o;have bU:=HG.o;have aA:=S.ne;have aT:Fr (λk=>k=b) Z5 Z7:=ag.trans bL (λ_ _ e=>e);have k7:=S.st.fr aT (λe=>aA e.symm);have q7:Z7.cell? ⟨cb,1,none⟩=some (.int .u64 s):=k7.cell 1;have z7:=k7.frozen 1;have k8:Blk (Z7.setCell ⟨cb,1,none⟩ (.int .u64 a1)) cb 166 #[.map (some b),.int .u64 a1]:=by simpa using k7.set_ 1 (.int .u64 a1)
   have aS:Fr (λk=>k=cb) Z7 (Z7.setCell ⟨cb,1,none⟩ (.int .u64 a1)):=(Qp (λk=>k=cb) Z7).setCell (p:=⟨cb,1,none⟩) (λ_=>rfl) _
   have aO:a0j (Z7.setCell ⟨cb,1,none⟩ (.int .u64 a1)) cb b (m++[(p,x)]) a1:=⟨k8,bB.fr aS aA,λq hq=>by
    rcases Qq.1 hq with h1 | h1
    ·exact ca.o q h1
    rw[Qn.1 h1];exact b8.o⟩
   have F8:Fr (λk=>k=cb\/k=b) w (Z7.setCell ⟨cb,1,none⟩ (.int .u64 a1)):=((br.trans Q (λ_ _ e=>e.elim)).trans aT (λk hk e=>.inr e)).trans aS (λk hk e=>.inl e);have bG:Z6.cell? ⟨cb,0,none⟩=some (.map (some b))/\Blk Z6 g 189 r/\Blk Z6 (g+3) 208 xv:=⟨(S.st.fr ag (λe=>aA e.symm)).cell 0,a9.fr ag (show¬_=_ by omega),a0.fr ag (show¬_=_ by omega)⟩;have aM:(Instr.mapEntry 164 (.map (some b)) (.agg r)).run prog Z5=.ok (.tuple #[.agg (a4V a6q).toArray,.int .i64 st]) Z6:=by rw[<-bS.o];exact bg
   have bq:(Instr.entryStore 164 (.map (some b)) (.int .i64 st) (.agg xv)).run prog Z6=.ok () Z7:=by rw[<-b6.o];exact bz
   have⟨cf,aL⟩:=η0 ((a4V a6q).toArray);rw[aL]at aM;have⟨bv,bY,bV,bF,bT⟩:=η5 aO F8 bj a8 bG;clear aO F8 bj a8 bG S a9 a0 Q bg bz bB ag bL bD bh aA aT k7 k8 aS aL ak af bU;go_upto_region 11 with fail
   refine a0s [(0,3),(1,3),(2,3),(5,3),(7,3),(3,0),(4,0),(6,0),(8,1),(9,3),(10,2),(11,3),(12,3),(13,2)] (λW=>W.cell? ⟨cb,0,none⟩=some (.map (some b))/\Blk W g 189 r/\Blk W (g+3) 208 xv) ρk ρk ρk ρk (ρy bF.o bV.o) ?_;rw[bF.o];refine ε5 ?_
   iterate 3 refine θ3 (λW' hS=>QU hS.1 (QU (aG.o W' hS.2.1) (bl.o W' hS.2.2))) ?_
   refine κ1 (bT.o) ?_;refine ε1 ?_;refine τ1 ?_;refine ε2 ?_;refine τ1 ?_;refine ν ?_;clear aM bq z7 q7;go_wp2;go_ret;rw[z.o];exact⟨rfl,bv.o,bY.o⟩
  have cd:(a2 != 0)=true:=ρw an;rw[if_pos (ρw an)]at o;have z:=η1 o;clear o an;go_wp2;go_ret;rw[z.o];exact⟨rfl,bw.o,br.o⟩
end
section
abbrev b5C:=bdOf 163
attribute [local go_sem ↓] b5C
theorem a9h(cb a:Nat)(m:List (Pt×a1q))(s:Int)(w:WD)(h:a0i w cb a m s):
  Calls prog 83 #[.pointer cb] w λe w'=>e=.returned (.pointer (w.heap.size+1:Nat))/\a0i w' (w.heap.size+1) w.heap.size m s/\Below w w w'/\w'.heap.size=w.heap.size+2:=by
 have I:Fr (λ_=>False) w w.drew:=(Qp _ _).drew;have⟨X,J⟩:=η0 w.drew;rw[J]at I;have z:X.heap.size=w.heap.size:=by rw[<-J];rfl
 have r:=h.fr I id id;have H:=h.bd;obtain⟨E,c,F,o,S⟩:=r.mp.clone;have j:=d1u a E c X F;have B:=ρb X (.map E c);have x:=r.below B;have p:X.cell? ⟨cb,0,none⟩=some (.map (some a))/\X.cell? ⟨cb,1,none⟩=some (.int .u64 s):=⟨r.q0,r.q1⟩;have b:(X.alloc (.map E c)).cell? ⟨cb,0,none⟩=some (.map (some a))/\(X.alloc (.map E c)).cell? ⟨cb,1,none⟩=some (.int .u64 s):=⟨x.q0,x.q1⟩;have⟨V,N⟩:=η0 (X.alloc (.map E c));have d:V.heap.size=w.heap.size+1:=by rw[<-N,Qi,z]
 rw[N]at o B b;rw[z]at o B j;simp only[N]at j;have R:=Qd V 163 #[.map (some w.heap.size),.int .u64 s];have Y:Below w w (V.alloc (.cells #[.map (some w.heap.size),.int .u64 s] 163)):=((I.below (Qg _) (λ_ _=>id)).trans B).alloc ρo _;have G:=o.fr (Q9 ((Qf _ V).alloc (Qg _) (.cells #[.map (some w.heap.size),.int .u64 s] 163))) ρo;have y:(V.alloc (.cells #[.map (some w.heap.size),.int .u64 s] 163)).heap.size=w.heap.size+2:=by simp[d]
 have v:∀W:WD,(BDs 163 #[(0,.map (some w.heap.size)),(1,.int .u64 s)]).run prog W=.ok (.agg #[.map (some w.heap.size),.int .u64 s]) W:=λW=>run_build W _ _ _ ρk
 rw[d]at R;have f:a0i (V.alloc (.cells #[.map (some w.heap.size),.int .u64 s] 163)) (w.heap.size+1) w.heap.size m s:=⟨R,G,H⟩
 generalize hg:w.heap.size=g at f Y y j v d⊢
 have⟨Q,P,D,U,T,HX,O⟩:=η7 p b f Y y J d;clear p b f Y y J d r x o S G R B I z H h F N hg;go_enter func83,ntmps83;go_upto_region 1 with fail
 refine a0s [(0,3),(1,3),(2,3),(5,3),(6,3),(7,3),(3,0),(8,0),(4,1),(9,3),(10,2),(11,3)] (λW=>W.cell? ⟨cb,0,none⟩=some (.map (some a))/\W.cell? ⟨cb,1,none⟩=some (.int .u64 s)) ρk ρk ρk ρk (ρy HX.o Q.o) ?_;rw[HX.o];refine ε6 ?_
 iterate 2 refine θ2 (λW' r=>QU r.1 r.2) ?_
 refine κ ?_;intro K Z;refine μf j ?_;with_reducible refine Z _ _ (P.o) ?_;clear Z K
 have hb:=v;refine ε1 ?_;refine τ1 ?_;refine ε1 ?_;refine ν ?_;clear hb v j;go_wp2;go_ret;exact⟨by rw[O.o];rfl,D.o,U.o,T.o⟩
abbrev b6s:=bdOf 166
attribute [local go_sem ↓] b6s
theorem b9y(cb a:Nat)(m:List (Pt×a1J))(s:Int)(w:WD)(h:a0j w cb a m s):
  Calls prog 84 #[.pointer cb] w λe w'=>e=.returned (.pointer (w.heap.size+1:Nat))/\a0j w' (w.heap.size+1) w.heap.size m s/\Below w w w'/\w'.heap.size=w.heap.size+2:=by
 have I:Fr (λ_=>False) w w.drew:=(Qp _ _).drew;have⟨X,J⟩:=η0 w.drew;rw[J]at I;have z:X.heap.size=w.heap.size:=by rw[<-J];rfl
 have r:=h.fr I id id;have H:=h.bd;obtain⟨E,c,F,o,S⟩:=r.mp.clone;have j:=c9W a E c X F;have B:=ρb X (.map E c);have x:=r.below B;have p:X.cell? ⟨cb,0,none⟩=some (.map (some a))/\X.cell? ⟨cb,1,none⟩=some (.int .u64 s):=⟨r.q0,r.q1⟩;have b:(X.alloc (.map E c)).cell? ⟨cb,0,none⟩=some (.map (some a))/\(X.alloc (.map E c)).cell? ⟨cb,1,none⟩=some (.int .u64 s):=⟨x.q0,x.q1⟩;have⟨V,N⟩:=η0 (X.alloc (.map E c));have d:V.heap.size=w.heap.size+1:=by rw[<-N,Qi,z]
 rw[N]at o B b;rw[z]at o B j;simp only[N]at j;have R:=Qd V 166 #[.map (some w.heap.size),.int .u64 s];have Y:Below w w (V.alloc (.cells #[.map (some w.heap.size),.int .u64 s] 166)):=((I.below (Qg _) (λ_ _=>id)).trans B).alloc ρo _;have G:=o.fr (Q9 ((Qf _ V).alloc (Qg _) (.cells #[.map (some w.heap.size),.int .u64 s] 166))) ρo;have y:(V.alloc (.cells #[.map (some w.heap.size),.int .u64 s] 166)).heap.size=w.heap.size+2:=by simp[d]
 have v:∀W:WD,(BDs 166 #[(0,.map (some w.heap.size)),(1,.int .u64 s)]).run prog W=.ok (.agg #[.map (some w.heap.size),.int .u64 s]) W:=λW=>run_build W _ _ _ ρk
 rw[d]at R;have f:a0j (V.alloc (.cells #[.map (some w.heap.size),.int .u64 s] 166)) (w.heap.size+1) w.heap.size m s:=⟨R,G,H⟩
 generalize hg:w.heap.size=g at f Y y j v d⊢
 have⟨Q,P,D,U,T,HX,O⟩:=η7 p b f Y y J d;clear p b f Y y J d r x o S G R B I z H h F N hg;go_enter func84,ntmps84;go_upto_region 1 with fail
 refine a0s [(0,3),(1,3),(2,3),(5,3),(6,3),(7,3),(3,0),(8,0),(4,1),(9,3),(10,2),(11,3)] (λW=>W.cell? ⟨cb,0,none⟩=some (.map (some a))/\W.cell? ⟨cb,1,none⟩=some (.int .u64 s)) ρk ρk ρk ρk (ρy HX.o Q.o) ?_;rw[HX.o];refine ε6 ?_
 iterate 2 refine θ2 (λW' r=>QU r.1 r.2) ?_
 refine κ ?_;intro K Z;refine μf j ?_;with_reducible refine Z _ _ (P.o) ?_;clear Z K
 have hb:=v;refine ε1 ?_;refine τ1 ?_;refine ε1 ?_;refine ν ?_;clear hb v j;go_wp2;go_ret;exact⟨by rw[O.o];rfl,D.o,U.o,T.o⟩
end
abbrev Ke:=Int×LI
def keL(part:Int)(id:LI):LV:=.int .i64 part::bys id
theorem a6m(b:id.length=32)(a:Int):(keL a id).length=33:=by simp[keL,a0a,b]
theorem a7K(a:Int)(id:LI):∀v∈keL a id,v.oneCell'=true:=by
 intro v b
 rcases Qo.1 b with h | h
 ·subst h;rfl
 exact a0h _ v h
theorem d2Q:∃f0 f1:Field,prog.underlying 212=some (.struct #[f0,f1])∧f0.type=3∧f1.type=31∧f0.offset=0∧f1.offset=1∧f0.name≠ "_" ∧f1.name≠ "_" :=
 ⟨_,_,Tryz.underlying212,rfl,rfl,rfl,rfl,by decide,by decide⟩
theorem cKe:prog.cellsOf 212=33:=ρk
theorem d2H:Go.WideMaps.KeyLaw prog 212:=deep_law_laid ρk (m:=4) ρo (of_decide_eq_true ρk) ρk (by obtain⟨f0,f1,h,_⟩:=d2Q;rw[h])
structure b2y(p:Ke):Prop where
 pt:-9223372036854775808<=p.1/\p.1<=9223372036854775807
 len:p.2.length=32
 id:∀x∈p.2,0<=x/\x<=255
theorem b2y.key{p:Ke}(h:b2y p):∃l,keyOf prog 212 (.agg (keL p.1 p.2).toArray)=some l:=by
 obtain⟨a,id⟩:=p;obtain⟨g,b,f⟩:=h;simp only at g b f⊢;obtain⟨B,D,d,t0,t1,y,v,r,z⟩:=d2Q;have j:prog.keyType 212=true:=ρk;obtain⟨m,x⟩:∃m,prog.types.size=m+2:=⟨prog.types.size-2,by have:2<=prog.types.size:=of_decide_eq_true ρk;omega⟩;unfold keyOf;simp only[d];rw[if_pos (by rw[j];simp[Value.formed,d,cKe,a6m b]),x];unfold Program.keyLits;simp only[d,Value.cells];have w:((keL a id).drop 0).take 1=[.int .i64 a]:=by simp[keL]
 have o:((keL a id).drop 1).take 32=bys id:=by
  unfold keL;rw[ZQ,Zs,Qb (by rw[a0a];omega)]
 rw[if_pos ⟨by rw[cKe];exact a6m b a,by simp[r,z]⟩];rw[Zg,Zg,List.mapM_nil,t0,t1,y,v,cId,d1H,w,o,a6a _ b f,a4t _ g]
 simp
theorem c8V{p q:Ke}(h:keL p.1 p.2=keL q.1 q.2):p=q:=by
 unfold keL at h;simp only[List.cons.injEq,Value.int.injEq,true_and]at h
 have e:p.2=q.2:=by
  have:=h.2
  unfold bys at this;exact(List.map_inj_right (λa b h=>by simpa using h)).1 this
 exact Prod.ext h.1 e
def keE:Enc Ke where
 k:=212
 e:=λp=>keL p.1 p.2
 ok:=b2y
 law:=d2H
 key:=λ_ h=>h.key
 inj:=λa b _ _ h=>c8V h
theorem d3N:(((prog.info? 212).bind (·.zero)).map (·.cells.size))=some (1+32):=ρk
abbrev c1a:=bdOf 212
theorem d3e(b:id.length=32)(a:Int)(w:WD):(BDs 212 #[(0,.int .i64 a),(1,.agg (bys id).toArray)]).run prog w=.ok (.agg (keL a id).toArray) w:=by
 obtain⟨m,j,g,t0,t1,d,f,_,_⟩:=d2Q
 have:=b7T (P:=prog) g d3N (ρy t0 d0b) (ρy t1 iId) d f w (.int .i64 a) (.agg (bys id).toArray) rfl (by simp[Value.cells,a0a,b])
 rw[this];simp[Value.cells,keL]
structure MkD where
 c:a0y
 A:OA
 cap:Nat
 ex:Int
def mkV(x:MkD):LV:=a0d x.c x.A x.cap++[.int .i64 x.ex]
theorem a3i{x:MkD}(h:x.c.Bd):(mkV x).length=138:=by simp[mkV,a0l h]
theorem a7Q(x:MkD):∀v∈mkV x,v.oneCell'=true:=by
 intro v a
 rcases Qq.1 a with h | h
 ·exact a2C _ _ _ v h
 simp only[Qn]at h;subst h;rfl
structure a7b(w:WD)(N:List Nat)(x:MkD):Prop where
 bd:x.c.Bd
 path:RdR 32 w x.A (x.c.path.map bys)
 cap:x.c.path.length<=x.cap
 nil:x.A=none->x.cap=0
 far:∀a,x.A=some a->a.block<w.heap.size/\a.block ∉ N
 ex:-9223372036854775808<=x.ex/\x.ex<=9223372036854775807
 len:x.c.path.length<=32
theorem a7b.fr{b:WD}{x:MkD}{F:Nat->Prop}(h:a7b w N x)(d:Fr F w b)(f:∀k,F k->k∈N):a7b b N x:=
 ⟨h.bd,h.path.frY d (λa ha hF=>(h.far a ha).2 (f _ hF)),h.cap,h.nil,λa ha=>⟨Qh (h.far a ha).1 d.size,(h.far a ha).2⟩,h.ex,h.len⟩
theorem a7b.below{w b:WD}{N:List Nat}{x:MkD}(h:a7b w N x)(d:Below w w b):a7b b N x:=
 ⟨h.bd,h.path.below d,h.cap,h.nil,λa ha=>⟨Qh (h.far a ha).1 d.size,(h.far a ha).2⟩,h.ex,h.len⟩
theorem a7b.far_{b:List Nat}{x:MkD}(h:a7b w N x)(d:∀k,k<w.heap.size->k∈b->k∈N):a7b w b x:=
 ⟨h.bd,h.path,h.cap,h.nil,λa ha=>⟨(h.far a ha).1,λhk=>(h.far a ha).2 (d _ (h.far a ha).1 hk)⟩,h.ex,h.len⟩
structure a0z(w:WD)(kb mb:Nat)(N:List Nat)(m:List (Ke×MkD)):Prop where
 st:Blk w kb 169 #[.map (some mb)]
 mp:a4o keE mkV w mb m
 bd:∀p∈m,a7b w N p.2
theorem a0z.fr{w d:WD}{kb a:Nat}{N:List Nat}{m:List (Ke×MkD)}{F:Nat->Prop}(h:a0z w kb a N m)(b:Fr F w d)(f:¬F kb)(g:¬F a)(j:∀k,F k->k∈N):a0z d kb a N m:=
 ⟨h.st.fr b f,h.mp.fr b g,λp hp=>(h.bd p hp).fr b j⟩
theorem a0z.below{w b:WD}{kb d:Nat}{N:List Nat}{m:List (Ke×MkD)}(h:a0z w kb d N m)(a:Below w w b):a0z b kb d N m:=
 ⟨h.st.fr (Q9 a) (ρh h.st.lt),h.mp.fr (Q9 a) (ρh h.mp.lt),λp hp=>(h.bd p hp).below a⟩
theorem a0z.far_{w:WD}{kb a:Nat}{N b:List Nat}{m:List (Ke×MkD)}(h:a0z w kb a N m)(d:∀k,k<w.heap.size->k∈b->k∈N):a0z w kb a b m:=
 ⟨h.st,h.mp,λp hp=>(h.bd p hp).far_ d⟩
theorem a0z.ne{m:List (Ke×MkD)}(h:a0z w kb a N m):a≠kb:=h.mp.ne_blk h.st
theorem a0z.q0{m:List (Ke×MkD)}(h:a0z w kb a N m):w.cell? ⟨kb,0,none⟩=some (.map (some a)):=h.st.cell 0
def a4n:MkD:=⟨a0r,none,0,0⟩
def a2Q(m:List (Ke×MkD))(k:Ke):MkD:=(a2E m k).getD a4n
theorem c0C(w:WD)(N:List Nat):a7b w N a4n:=⟨a0B,RdR.nil _ _ _,Zu _,λ_=>rfl,λa ha=>(by cases ha),(by simp[a4n]),(by simp[a4n,a0r])⟩
theorem a6b{m:List (Ke×MkD)}(h:∀p∈m,a7b w N p.2)(k:Ke):a7b w N (a2Q m k):=by
 unfold a2Q
 cases hg:a2E m k with
 | none=>exact c0C w N
 | some v=>exact h _ (a6T hg)
theorem zMk(w:WD):(zeroValue 214).run prog w=.ok (.agg (mkV a4n).toArray) w:=ρk
theorem a0z.look{m:List (Ke×MkD)}(h:a0z w kb b N m){k:Ke}(d:b2y k):
  (Instr.lookup 167 (.map (some b)) (.agg (keL k.1 k.2).toArray) true).run prog w=.ok (.tuple #[.agg (mkV (a2Q m k)).toArray,.bool (a2E m k).isSome]) w:=by
 unfold a2Q
 cases hg:a2E m k with
 | none=>exact h.mp.look_out b0F (a:=k) d (zMk w) hg true
 | some v=>exact h.mp.look_in b0F (a:=k) hg true
section
theorem c0N(N:List Nat)(w:WD):Calls prog 30 #[] w λe w'=>e=.returned (.pointer (w.heap.size+1:Nat))/\a0z w' (w.heap.size+1) w.heap.size N []/\Below w w w'/\w'.heap.size=w.heap.size+2:=by
 have m:a4o keE mkV (w.alloc (.map #[] 0)) w.heap.size []:=a4o.new w;have f:=ρb w (.map #[] 0);have o:=f.alloc f.size (.cells #[.map (some w.heap.size)] 169);have d:=Qd (w.alloc (.map #[] 0)) 169 #[.map (some w.heap.size)];rw[Qi]at d;have j:=m.fr (Q9 ((Qf _ (w.alloc (.map #[] 0))).alloc (Qg _) (.cells #[.map (some w.heap.size)] 169))) ρp;have a:a0z ((w.alloc (.map #[] 0)).alloc (.cells #[.map (some w.heap.size)] 169)) (w.heap.size+1) w.heap.size N []:=⟨d,j,by simp⟩;have⟨b,g⟩:=η2 a o;have p:=run_makeMap (P:=prog) (t:=167) w;clear a o d j m f;go_enter func30,ntmps30;go_wp2;go_ret;exact⟨by simp,b.o,g.o,by simp⟩
theorem c1b(kb a:Nat)(N:List Nat)(m:List (Ke×MkD))(w:WD)(h:a0z w kb a N m):Calls prog 211 #[.pointer kb] w λe w'=>e=.returned (.int .i64 (m.length:Int))/\w=w':=by
 have q0:=h.q0;have b:=h.mp.len_ (ty:=3) b0F
 generalize d:m.length=n at b⊢
 clear h d;go_enter func211,ntmps211;go_wp2;go_ret;exact⟨rfl,rfl⟩
abbrev b6i:=bdOf 169
attribute [local go_sem ↓] b6i
theorem b9h(kb a:Nat)(N:List Nat)(m:List (Ke×MkD))(w:WD)(h:a0z w kb a N m):
  Calls prog 85 #[.pointer kb] w λe w'=>e=.returned (.pointer (w.heap.size+1:Nat))/\a0z w' (w.heap.size+1) w.heap.size N m/\Below w w w'/\w'.heap.size=w.heap.size+2:=by
 have R:=h.q0;have z:=h.bd;obtain⟨G,c,x,r,I⟩:=h.mp.clone;have f:=d1s a G c w x;have F:=ρb w (.map G c);have⟨V,B⟩:=η0 (w.alloc (.map G c));have b:V.heap.size=w.heap.size+1:=by rw[<-B,Qi]
 rw[B]at r F;simp only[B]at f;have H:=Qd V 169 #[.map (some w.heap.size)];have D:Below w w (V.alloc (.cells #[.map (some w.heap.size)] 169)):=F.alloc ρo _;have y:=r.fr (Q9 ((Qf _ V).alloc (Qg _) (.cells #[.map (some w.heap.size)] 169))) ρo;have o:(V.alloc (.cells #[.map (some w.heap.size)] 169)).heap.size=w.heap.size+2:=by simp[b]
 have j:∀W:WD,(BDs 169 #[(0,.map (some w.heap.size))]).run prog W=.ok (.agg #[.map (some w.heap.size)]) W:=λW=>run_build W _ _ _ ρk
 rw[b]at H;have d:a0z (V.alloc (.cells #[.map (some w.heap.size)] 169)) (w.heap.size+1) w.heap.size N m:=⟨H,y,λp Q=>(z p Q).below D⟩
 generalize P:w.heap.size=g at d D o f j b⊢
 have⟨v,K,J,E⟩:=η4 d D o b;clear d D o b r I y H F z h x B P;go_enter func85,ntmps85;go_wp2_with fail;refine μf f ?_;have O:=j;go_wp2_with fail;clear O j f;go_ret;exact⟨by rw[E.o];rfl,v.o,K.o,J.o⟩
def b9u(n:Int):Bool:=decide (0<=n/\n<=1099511627776)
theorem a7M(n:Int)(w:WD):Calls prog 223 #[.int .i64 n] w λe w'=>e=.returned (.bool (b9u n))/\w=w':=by
 have d:(decide (0<=n)=true/\decide (n<=1099511627776)=true/\b9u n=true)\/(decide (0<=n)=true/\decide (n<=1099511627776)=false/\b9u n=false)\/(decide (0<=n)=false/\b9u n=false):=by
  unfold b9u;simp only[decide_eq_true_eq,decide_eq_false_iff_not];omega
 rcases d with⟨b,f,a⟩ | ⟨b,f,a⟩ | ⟨b,a⟩
 all_goals
  rw[a];clear a;go_enter func223,ntmps223;go_wp2;go_ret;exact⟨rfl,rfl⟩
def b9d(ex ep:Int):Bool:=b9u ex&&b9u ep&&decide (ex+2<ep)
theorem b3K(ex ep:Int)(w:WD):Calls prog 165 #[.int .i64 ex,.int .i64 ep] w λe w'=>e=.returned (.bool (b9d ex ep))/\w=w':=by
 have d:=a7M ex w;have f:=a7M ep w;have⟨b1,a⟩:=η0 (b9u ex);have⟨m,b⟩:=η0 (b9u ep);have j:b9d ex ep=(b1&&m&&decide (ex+2<ep)):=by unfold b9d;rw[a,b]
 rw[j];rw[a]at d;rw[b]at f
 have g:b1=true->IntKind.i64.wrap (ex+2)=ex+2:=by
  rintro rfl;unfold b9u at a;simp only[decide_eq_true_eq]at a;rw[IntKind.wrap_i64];omega
 clear a b j
 cases b1 with
 |
  false=>
  clear g;go_enter func165,ntmps165;go_wp2_with fail;refine μf d ?_;go_wp2;go_ret;exact⟨rfl,rfl⟩
 |
  true=>
  have o:=g rfl;clear g
  cases m with
  |
   false=>
   go_enter func165,ntmps165;go_wp2_with fail;refine μf d ?_;go_wp2_with fail;refine μf f ?_;go_wp2;go_ret;exact⟨rfl,rfl⟩
  |
   true=>
   go_enter func165,ntmps165;go_wp2_with fail;refine μf d ?_;go_wp2_with fail;refine μf f ?_;go_wp2;go_ret;exact⟨rfl,rfl⟩
end
section
structure a4k{α:Type}(f:α->α->Int):Prop where
 refl:∀x,f x x=0
 anti:∀x y,f x y<0↔0<f y x
 tr:∀x y z,f x y<=0->f y z<=0->f x z<=0
section
variable {α β:Type} {f:α->α->Int} {g:β->β->Int}
theorem a4k.sw(h:a4k f){x y:α}(a:f x y=0):f y x=0:=by
 have b:=h.anti x y;have d:=h.anti y x;omega
theorem a4k.le_lt(h:a4k f){x y z:α}(a:f x y<=0)(b:f y z<0):f x z<0:=by
 have d:=h.tr x y z a ρo
 rcases Int.lt_or_eq_of_le d with e | e
 ·exact e
 have m:=h.sw e;have g:=h.tr z x y ρo a;have j:=(h.anti y z).1 b;omega
theorem a4k.lt_le(h:a4k f){x y z:α}(b:f x y<0)(a:f y z<=0):f x z<0:=by
 have d:=h.tr x y z ρo a
 rcases Int.lt_or_eq_of_le d with e | e
 ·exact e
 have m:=h.sw e;have g:=h.tr y z x a ρo;have j:=(h.anti x y).1 b;omega
theorem a4k.swo(h:a4k f):Go.Sort.SWO (ltOf f) where
 irrefl:=λx=>by simp[ltOf,h.refl]
 trans:=λx y z h1 h2=>by
  simp only[ltOf,decide_eq_true_eq]at h1 h2⊢;exact h.lt_le h1 ρo
 ntrans:=λx y z h1 h2=>by
  simp only[ltOf,decide_eq_false_iff_not,Int.not_lt]at h1 h2⊢;have a1:=h.anti x y;have a2:=h.anti y z;have a3:=h.anti x z
  have:=h.tr z y x ρo ρo
  omega
theorem a4k.lex(a:a4k f)(b:a4k g):a4k (λ(x y:α×β)=>if f x.1 y.1≠0 then f x.1 y.1 else g x.2 y.2) where
 refl:=λx=>by simp[a.refl,b.refl]
 anti:=λx y=>by
  have a1:=a.anti x.1 y.1;have a2:=a.anti y.1 x.1;have b1:=b.anti x.2 y.2
  by_cases h:f x.1 y.1=0
  ·have h':=a.sw h
   simp only[h,h',ne_eq,not_true_eq_false,if_false];exact b1
  have h':f y.1 x.1≠0:=λe=>h (a.sw e)
  rw[if_pos h,if_pos h'];exact a1
 tr:=λx y z h1 h2=>by
  by_cases e1:f x.1 y.1=0
  ·simp only[e1,ne_eq,not_true_eq_false,if_false]at h1
   by_cases e2:f y.1 z.1=0
   ·simp only[e2,ne_eq,not_true_eq_false,if_false]at h2
    have t1:=a.tr x.1 y.1 z.1 ρo ρo;have t2:=a.tr z.1 y.1 x.1 (by rw[a.sw e2];omega) (by rw[a.sw e1];omega);have a1:=a.anti z.1 x.1;have a2:=a.anti x.1 z.1;rw[if_neg ρo];exact b.tr _ _ _ h1 h2
   rw[if_pos e2]at h2
   have:=a.le_lt (x:=x.1) (y:=y.1) (z:=z.1) ρo ρo
   rw[if_pos ρo];omega
  rw[if_pos e1]at h1
  have h2':f y.1 z.1<=0:=by
   by_cases e2:f y.1 z.1=0
   ·omega
   rw[if_pos e2]at h2;exact h2
  have:=a.lt_le (x:=x.1) (y:=y.1) (z:=z.1) ρo h2'
  rw[if_pos ρo];omega
theorem a4k.comp{γ:Type}(h:a4k f)(k:γ->α):a4k (λx y=>f (k x) (k y)):=⟨λx=>h.refl _,λx y=>h.anti _ _,λx y z=>h.tr _ _ _⟩
end
def b7z(a b:Int):Int:=if a<b then-1 else if b<a then 1 else 0
theorem c3b:a4k b7z where
 refl:=λx=>by simp[b7z]
 anti:=λx y=>by unfold b7z;split<;>split<;>(try split)<;>omega
 tr:=λx y z=>by
  unfold b7z
  repeat' split
  all_goals omega
theorem c4g:a4k Lib.compareBytes where
 refl:=λx=>by
  induction x with
  | nil=>rfl
  | cons a l ih=>simp[Lib.compareBytes,ih]
 anti:=λx=>by
  induction x with
  | nil=>intro y;cases y<;>simp[Lib.compareBytes]
  |
   cons a l ih=>
   intro y
   cases y with
   | nil=>simp[Lib.compareBytes]
   |
    cons b m=>
    simp only[Lib.compareBytes,UInt8.lt_iff_toNat_lt]
    have:=ih m
    split<;>split<;>(try split)<;>omega
 tr:=λx=>by
  induction x with
  | nil=>intro y z _ _;cases z<;>simp[Lib.compareBytes]
  |
   cons a l ih=>
   intro y z
   cases y with
   | nil=>simp[Lib.compareBytes]
   |
    cons b m=>
    cases z with
    | nil=>simp[Lib.compareBytes]
    |
     cons c n=>
     simp only[Lib.compareBytes,UInt8.lt_iff_toNat_lt]
     have:=ih m n
     repeat' split
     all_goals omega
def c5d(a b:LI):Int:=Lib.compareBytes (Lib.bytesOf a) (Lib.bytesOf b)
theorem c1R:a4k c5d:=c4g.comp Lib.bytesOf
def a5t(x y:Pt):Int:=if c5d x.1 y.1≠0 then c5d x.1 y.1 else b7z x.2 y.2
theorem a6o:a4k a5t:=c1R.lex c3b
def a6w(x y:Ke):Int:=if b7z x.1 y.1≠0 then b7z x.1 y.1 else c5d x.2 y.2
theorem a7f:a4k a6w:=c3b.lex c1R
theorem b4s(a:Int)(w:WD):Calls prog 235 #[.int .i64 a] w λe w'=>e=.returned (.bool false)/\w=w':=by
 have b:(a != a)=false:=by simp
 go_enter func235,ntmps235;go_wp2;go_ret;exact⟨rfl,rfl⟩
theorem b8c(a b:Int)(w:WD):Calls prog 181 #[.int .i64 a,.int .i64 b] w λe w'=>e=.returned (.int .i64 (b7z a b))/\w=w':=by
 generalize d:b7z a b=q
 unfold b7z at d;have j:=b4s a w;have m:=b4s b w;go_enter func181,ntmps181;go_wp2_with fail;refine μf j ?_;go_wp2_with fail;refine μf m ?_
 by_cases g:a<b
 ·rw[if_pos g]at d
  subst d;go_wp2;go_ret;exact⟨rfl,rfl⟩
 rw[if_neg g]at d
 by_cases f:b<a
 ·rw[if_pos f]at d
  subst d;go_wp2;go_ret;exact⟨rfl,rfl⟩
 rw[if_neg f]at d;subst d;go_wp2;go_ret;exact⟨rfl,rfl⟩
theorem b5w(g:Nat)(x y:Int)(w:WD)(h:Blk w g 3 #[.int .i64 x,.int .i64 y]):Calls prog 179 #[.slice g 2 2] w λe w'=>e=.returned (.int .i64 (if x≠0 then x else y))/\w=w':=by
 generalize f:(if x≠0 then x else y)=q
 have z:w.cell? ⟨g,0,none⟩=some (.int .i64 x):=h.cell 0;have v:w.cell? ⟨g,1,none⟩=some (.int .i64 y):=h.cell 1;clear h;go_enter func179,ntmps179;go_upto_region 3 with fail
 go_loopg [5,8] 2 (λr _ s wr=>∃i:Nat,i+r=2/\s=.int .i64 i/\w=wr/\(1<=i->x=0)/\(2<=i->y=0));exact⟨0,by omega,rfl,rfl,λh=>ρo,λh=>ρo⟩;obtain⟨i,hi,rfl,rfl,d,j⟩:=hrel;have o:i=0\/i=1\/i=2:=ρo
 rcases o with rfl | rfl | rfl
 ·by_cases a:x=0
  ·have p:(x != 0)=false:=ρw a
   clear d j;go_wp2;go_roundg 1;exact⟨1,by omega,by go_num,rfl,λ_=>a,λh=>ρo⟩;omega
  have p:(x != 0)=true:=ρw a;rw[if_pos a]at f;subst f;clear a d j;go_wp2;go_ret;exact⟨rfl,rfl⟩
 ·have a:=d ρo
  rw[if_neg (by simp[a])]at f
  by_cases b:y=0
  ·have p:(y != 0)=false:=ρw b
   have m:=η1 a;clear d j a;go_wp2;go_roundg 0;exact⟨2,by omega,by go_num,rfl,λ_=>m.o,λ_=>b⟩;omega
  have p:(y != 0)=true:=ρw b;subst f;clear b d j a;go_wp2;go_ret;exact⟨rfl,rfl⟩
 have a:=d ρo;have b:=j ρo;rw[if_neg (by simp[a]),b]at f;subst f;clear a b d j;go_wp2;go_ret;exact⟨rfl,rfl⟩
theorem b2L(w:WD)(A B:OA)(n m c d:Nat)(a b:LI)(r:Byt w A a)(v:Byt w B b)(f:n=a.length)(p:m=b.length)(y:0<a.length)(z:0<b.length):
  (Extern.BytealgCompare.compare #[.slice A n c,.slice B m d]).run prog w=.ok (.int .i64 (c5d a b)) w:=by
 obtain⟨g,o,rfl,_,I⟩:=r.cell y;obtain⟨G,F,rfl,_,J⟩:=v.cell z;have e:∀(g o j:Nat),(⟨g,o,none⟩:Addr).add j=⟨g,o+j,none⟩:=λg o j=>by unfold Addr.add;split<;>simp_all
 have E:=Lib.run_loadBytesX (P:=prog) w a ⟨g,o,none⟩ .empty (λj x D=>by rw[e];exact I j x D);have l2:=Lib.run_loadBytesX (P:=prog) w b ⟨G,F,none⟩ .empty (λj x D=>by rw[e];exact J j x D)
 have H:∀l:LI,(⟨ByteArray.empty.data++(Lib.bytesOf l).toArray⟩:ByteArray)=⟨(Lib.bytesOf l).toArray⟩:=λl=>by
  apply ByteArray.ext
  show(#[]:Array UInt8)++(Lib.bytesOf l).toArray=(Lib.bytesOf l).toArray
  simp
 rw[H]at E l2;subst f p
 change Sem.run prog (do pure (goInt (Extern.BytealgCompare.cmp (<-Extern.Bytes.bytesOf (.slice (some ⟨g,o,none⟩) a.length c)) (<-Extern.Bytes.bytesOf (.slice (some ⟨G,F,none⟩) b.length d))))) w=_
 simp only[Extern.Bytes.bytesOf,Ya,Sem.run_pure,E,l2,Result.andThen];rw[Lib.cmp_eq]
 rfl
theorem a9I(A B:OA)(n m c d:Nat)(a b:LI)(w:WD)(o:Byt w A a)(p:Byt w B b)(g:n=a.length)(j:m=b.length)(r:0<a.length)(x:0<b.length):
  Calls prog 180 #[.slice A n c,.slice B m d] w λe w'=>e=.returned (.int .i64 (c5d a b))/\w=w':=by
 have z:∀v u,(callFunc 234 #[v,u]).run prog w=((Extern.BytealgCompare.compare #[v,u]).run prog w).andThen λv w'=>.ok (.value v) w':=λv u=>run_callFunc_extern (P:=prog) (f:=234) (fn:=Tryz.f234) ρk ρk ρk ρk (by rfl) #[v,u] w
 have y:=b2L w A B n m c d a b o p g j r x;clear o p g j r x;go_enter func180,ntmps180;go_wp2
 try(simp only[Result.andThen];rw[Oper.upon_value];go_wp2)
 go_ret;exact⟨rfl,rfl⟩
def Ext(w w':WD):Prop:=∃q os,w'=Go.Sort.grow (w.drewN q) os
theorem Ext.refl(w:WD):Ext w w:=⟨0,#[],by simp[Go.Sort.grow,World.drewN]⟩
theorem Ext.alloc{w a:WD}(h:Ext w a)(o:Obj):Ext w (a.alloc o):=by
 obtain⟨q,os,rfl⟩:=h;exact⟨q,os.push o,by simp[Go.Sort.grow,World.alloc,World.drewN]⟩
theorem Ext.drew{w a:WD}(h:Ext w a):Ext w a.drew:=by
 obtain⟨q,os,rfl⟩:=h;exact⟨q+1,os,by simp[Go.Sort.grow,World.drew,World.drewN,ZT]⟩
theorem Ext.below{a:WD}(h:Ext w a):Below w w a:=by
 obtain⟨q,os,rfl⟩:=h;refine⟨rfl,rfl,rfl,by simp[Go.Sort.grow,World.drewN],λk b=>?_⟩;simp only[Go.Sort.grow,World.drewN];rw[Array.getElem?_append_left b]
attribute [local go_sem ↓] a1F a3w
theorem b0U(p q:Pt)(a:a6l p)(b:a6l q)(w:WD):Calls prog 118 #[.agg (ptL p.1 p.2).toArray,.agg (ptL q.1 q.2).toArray] w λe w'=>e=.returned (.int .i64 (a5t p q))/\Ext w w':=by
 have⟨g,I⟩:=ηs w;have J:=Qd w 189 (ptL p.1 p.2).toArray;rw[I]at J;have o:=J.alloc (.cells (ptL q.1 q.2).toArray 189);have b1:=Qd (w.alloc (.cells (ptL p.1 p.2).toArray 189)) 189 (ptL q.1 q.2).toArray;rw[Qi,I]at b1;have E:=(((Ext.refl w).alloc (.cells (ptL p.1 p.2).toArray 189)).alloc (.cells (ptL q.1 q.2).toArray 189)).drew;have T:(ptL p.1 p.2).toArray[32]? =some (.int .i64 p.2):=by simp[ptL,a0a,a.len]
 have R:(ptL q.1 q.2).toArray[32]? =some (.int .i64 q.2):=by simp[ptL,a0a,b.len]
 have⟨pv,B⟩:=η0 ((ptL p.1 p.2).toArray);have⟨qv,z⟩:=η0 ((ptL q.1 q.2).toArray);have f:=o.drew;have d:=b1.drew;have m:=c2O a.len a.tx p.2 f;have j:=c2O b.len b.tx q.2 d;rw[B]at J o b1 E T f d m j;rw[z]at o b1 E R f d m j;rw[B,z]
 generalize hV:(w.alloc (.cells pv 189)).alloc (.cells qv 189)=V at E f d m j
 have⟨U,N⟩:=η0 V.drew;rw[N]at E f d m j;have aa:∀r,(SLs 31 (.pointer g) none none none).run prog r=.ok (.slice g 32 32) r:=λr=>a4Q b1w ρk r g ρo
 have Y:∀r,(SLs 31 (.pointer (g+1:Nat)) none none none).run prog r=.ok (.slice (g+1:Nat) 32 32) r:=λr=>a4Q b1w ρk r (g+1) ρo
 have O:=a9I g (g+1:Nat) 32 32 32 32 p.1 q.1 U m j a.len.symm b.len.symm (by rw[a.len];omega) (by rw[b.len];omega);have P:=b8c p.2 q.2 U;have⟨cb,y⟩:=η0 (c5d p.1 q.1);have⟨G,D⟩:=η0 (b7z p.2 q.2);have x:a5t p q=if cb≠0 then cb else G:=by unfold a5t;rw[y,D]
 rw[x];rw[y]at O;rw[D]at P;have S:=b5w U.heap.size cb G (U.alloc (.cells #[.int .i64 cb,.int .i64 G] 3)) (Qd U _ _);have H:=E.alloc (.cells #[.int .i64 cb,.int .i64 G] 3)
 generalize hr:(if cb≠0 then cb else G)=res at S⊢
 have Z:U.cell? ⟨g,32,none⟩=some (.int .i64 p.2)/\U.cell? ⟨g+1,32,none⟩=some (.int .i64 q.2):=⟨(f.cell 32).trans T,(d.cell 32).trans R⟩;have⟨F,W,Q,HG⟩:=η4 Z N H I;clear Z N H I J o b1 f d m j E T R B z a b x y D hr;go_enter func118,ntmps118;go_upto_region 1 with fail
 rw[HG.o];refine a0s [(0,3),(1,3),(2,3),(3,3),(5,3),(7,3),(6,0),(8,0),(4,1),(9,2),(10,2),(11,2),(12,3)] (λX=>X.cell? ⟨g,32,none⟩=some (.int .i64 p.2)/\X.cell? ⟨g+1,32,none⟩=some (.int .i64 q.2)) ρk ρk ρk ρk (ρy W.o F.o) ?_;rw[W.o];refine ε6 ?_
 iterate 2 refine θ2 (λ_ h=>h) ?_
 refine κ ?_;intro K v;refine μf O ?_;with_reducible refine v _ _ (F.o) ?_;clear v K
 refine τ ?_;intro K v;refine μf P ?_;with_reducible refine v _ _ ?_;clear v K
 refine τ1 ?_;refine τ ?_;intro K v;refine μf S ?_;with_reducible refine v _ _ ?_;clear v K
 refine ε1 ?_;clear O P S;refine ν ?_;go_wp2;go_ret;exact⟨rfl,Q.o⟩
theorem c6O{k:Ke}(a:b2y k){X:WD}{t:TI}(h:Blk X g t (keL k.1 k.2).toArray):Byt X (some ⟨g,1,none⟩) k.2:=
 ⟨λ_=>⟨g,1,rfl,h.lt,λj x hx=>by
  have hj:j<k.2.length:=(Qm.1 hx).1;rw[h.cell (1+j)];simp only[keL,QE];rw[show 1+j=j+1 by omega,List.getElem?_cons_succ,a3J,hx]
  rfl⟩,a.id⟩
abbrev c8X:=ldOf 212
attribute [local go_sem ↓] c8X
theorem b0s(p q:Ke)(a:b2y p)(b:b2y q)(w:WD):Calls prog 121 #[.agg (keL p.1 p.2).toArray,.agg (keL q.1 q.2).toArray] w λe w'=>e=.returned (.int .i64 (a6w p q))/\Ext w w':=by
 have⟨g,H⟩:=ηs w;have I:=Qd w 212 (keL p.1 p.2).toArray;rw[H]at I;have o:=I.alloc (.cells (keL q.1 q.2).toArray 212);have b1:=Qd (w.alloc (.cells (keL p.1 p.2).toArray 212)) 212 (keL q.1 q.2).toArray;rw[Qi,H]at b1;have F:=(((Ext.refl w).alloc (.cells (keL p.1 p.2).toArray 212)).alloc (.cells (keL q.1 q.2).toArray 212)).drew;have T:(keL p.1 p.2).toArray[0]? =some (.int .i64 p.1):=by simp[keL]
 have Q:(keL q.1 q.2).toArray[0]? =some (.int .i64 q.1):=by simp[keL]
 have⟨pv,D⟩:=η0 ((keL p.1 p.2).toArray);have⟨qv,z⟩:=η0 ((keL q.1 q.2).toArray);have f:=o.drew;have d:=b1.drew;have m:=c6O a f;have j:=c6O b d;rw[D]at I o b1 F T f d m j;rw[z]at o b1 F Q f d m j;rw[D,z]
 generalize hV:(w.alloc (.cells pv 212)).alloc (.cells qv 212)=V at F f d m j
 have⟨U,J⟩:=η0 V.drew;rw[J]at F f d m j;have aa:∀r,(SLs 31 (.pointer (some ⟨g,1,none⟩)) none none none).run prog r=.ok (.slice (some ⟨g,1,none⟩) 32 32) r:=λr=>b0k b1w ρk r g 1 ρo
 have Y:∀r,(SLs 31 (.pointer (some ⟨g+1,1,none⟩)) none none none).run prog r=.ok (.slice (some ⟨g+1,1,none⟩) 32 32) r:=λr=>b0k b1w ρk r (g+1) 1 ρo
 have N:=a9I (some ⟨g,1,none⟩) (some ⟨g+1,1,none⟩) 32 32 32 32 p.2 q.2 U m j a.len.symm b.len.symm (by rw[a.len];omega) (by rw[b.len];omega);have O:=b8c p.1 q.1 U;have⟨cb,y⟩:=η0 (c5d p.2 q.2);have⟨B,E⟩:=η0 (b7z p.1 q.1);have x:a6w p q=if B≠0 then B else cb:=by unfold a6w;rw[y,E]
 rw[x];rw[y]at N;rw[E]at O;have R:=b5w U.heap.size B cb (U.alloc (.cells #[.int .i64 B,.int .i64 cb] 3)) (Qd U _ _);have G:=F.alloc (.cells #[.int .i64 B,.int .i64 cb] 3)
 generalize hr:(if B≠0 then B else cb)=res at R⊢
 have Z:U.cell? ⟨g,0,none⟩=some (.int .i64 p.1)/\U.cell? ⟨g+1,0,none⟩=some (.int .i64 q.1):=⟨(f.cell 0).trans T,(d.cell 0).trans Q⟩;have⟨S,W,P,HG⟩:=η4 Z J G H;clear Z J G H I o b1 f d m j F T Q D z a b x y E hr;go_enter func121,ntmps121;go_upto_region 1 with fail
 rw[HG.o];refine a0s [(0,3),(2,3),(5,3),(6,3),(7,3),(8,3),(1,0),(3,0),(4,2),(9,2),(10,2),(11,2),(12,3)] (λX=>X.cell? ⟨g,0,none⟩=some (.int .i64 p.1)/\X.cell? ⟨g+1,0,none⟩=some (.int .i64 q.1)) ρk ρk ρk ρk (ρy W.o S.o) ?_;rw[W.o];refine ε6 ?_
 iterate 2 refine θ2 (λ_ h=>h) ?_
 refine τ ?_;intro K v;refine μf O ?_;with_reducible refine v _ _ ?_;clear v K
 refine τ ?_;intro K v;refine μf N ?_;with_reducible refine v _ _ ?_;clear v K
 refine τ1 ?_;refine τ ?_;intro K v;refine μf R ?_;with_reducible refine v _ _ ?_;clear v K
 refine ε1 ?_;clear N O R;refine ν ?_;go_wp2;go_ret;exact⟨rfl,P.o⟩
end
section
theorem c5c(w:WD):(BSs 35 0 #[]).run prog w=.ok (.slice w 0 0) (w.alloc (.cells #[] 31)):=by
 obtain⟨i,d,a⟩:=Q8.1 c1e;simp only[Prod.mk.injEq]at a;obtain⟨z,g,b⟩:=Q8.1 a.1;have f:Array.range 0=#[]:=by apply ZM;simp
 simp[BSs,Instr.buildSlice,run_underlying c5Q,sizeOf,typeInfo,d,Instr.fill,newRow,f]
theorem a0T.emptyY{e:TI}{m B:Nat}(a:Blk w g e #[])(b:B<=g):a0T e m B w (.slice g 0 0) []:=
 ⟨⟨by simp,.inr ⟨g,0,#[],rfl,b,a,Qg _,by simp,by simp,by simp⟩⟩,by simp⟩
attribute [local go_sem ↓] a9S a9T
def b5Z(b:Nat)(L:LL)(n:Nat)(e:Ending)(w':WD):Prop:=∃A' c',e=.returned (.slice A' n c')/\a0T 31 32 b w' (.slice A' n c') (L.map bys)
theorem b5D(A:OA)(c:Nat)(L:LL)(m:∀d∈L,d.length=32)(b:L.length<=1000000)(j:A=none->c=0)(w:WD)(f:RdR 32 w A (L.map bys)):
  Calls prog 237 #[.slice A L.length c] w λe w'=>b5Z w L L.length e w'/\Below w w w':=by
 have Y:∀(W:WD) (n c:Nat),(binOp .eql 35 (.slice A n c) (.slice none 0 0)).run prog W=.ok (.bool A.isNone) W:=λW n c=>Lib.run_eql_slice_nil W _ _ A n c 0 0 c5Q
 cases A with
 |
  none=>
  have e:L=[]:=by
   cases L with
   | nil=>rfl
   |
    cons x r=>
    obtain⟨g,off,e,_⟩:=f 0 ρp
    cases e
  subst e;obtain rfl:=j rfl;have o:b5Z w [] 0 (.returned (.slice none 0 0)) w:=⟨none,0,rfl,a0T.nil _ _ _ _⟩;have p:=η1 o;clear o f;go_enter func237,ntmps237;go_wp2;go_ret;exact⟨p,Qf _ _⟩
 |
  some a=>
  have F:=ρb w (.cells #[] 31);have J:a0T 31 32 w.heap.size (w.alloc (.cells #[] 31)) (.slice w 0 0) []:=a0T.emptyY (Qd w _ _) (Qg _);have N:=c5c w;obtain⟨Q,K,z,v,y,-⟩:=d2X (P:=prog) (ty:=35) (S:=L.map bys) (c:=c) c5Q d2s ρo ρo J (f.below F) (by intro s G;obtain⟨d,hd,rfl⟩:=Qs.1 G;rw[a0a];exact m d hd) (by intro s G;obtain⟨d,hd,rfl⟩:=Qs.1 G;exact a0h d) j (by simp;omega) ρp;obtain⟨T,O,D,I,H,U,R⟩:=v.rd;simp only[QF,Qw]at D I H;rw[Qw]at z;have B:Below w w K:=F.trans (y.below ρp (λk X e=>by simp[Value.ownBlock]at e;omega));have o:b5Z w L L.length (.returned Q) K:=⟨T,O,by rw[D],by rw[<-D];simpa using v⟩
  generalize V:L.length=n at z o⊢
  have⟨p,E⟩:=η2 o B;clear o B F J v y D I H U R f m b V j;go_enter func237,ntmps237;go_wp2;go_ret;exact⟨p,E.o⟩
abbrev a7A:=ldOf 214
abbrev a7I:=stOf 214
abbrev a7U:=alOf 214
theorem uMk:(prog.underlying 214).map a1f=some true:=ρk
theorem iMk:(prog.info? 214).map (·.size)=some 138:=ρk
theorem c1K(w:WD):(ALs 214).run prog w=.ok (.pointer w) (w.alloc (.cells (mkV a4n).toArray 214)):=a0U (.agg (mkV a4n).toArray) ρk w
theorem c6P{x:MkD}(a:x.c.Bd):(mkV x).toArray[37]? =some (.slice x.A x.c.path.length x.cap):=by
 have h:=a3X a x.A x.cap;rw[QE]at h⊢;unfold mkV;rw[QO (by rw[a0l a];omega)];exact h
theorem c8J{x:MkD}(d:x.c.Bd)(a:OA)(b:Nat):(mkV x).toArray.setIfInBounds 37 (.slice a x.c.path.length b)=(mkV ⟨x.c,a,b,x.ex⟩).toArray:=by
 have h:=b2C x.c d x.A a x.cap b x.c.path
 have f:(a0d x.c x.A x.cap).set 37 (.slice a x.c.path.length b)=a0d x.c a b:=by
  have:=congrArg Array.toList h
  simpa using this
 apply ZM
 simp only[Zt];unfold mkV;rw[List.set_append_left _ _ (by rw[a0l d];omega),f]
attribute [local go_sem ↓] a7A a7I a7U
def b6q(b:Nat)(N:List Nat)(x:MkD)(e:Ending)(w':WD):Prop:=∃A' c',e=.returned (.agg (mkV ⟨x.c,A',c',x.ex⟩).toArray)/\a7b w' N ⟨x.c,A',c',x.ex⟩/\a0T 31 32 b w' (.slice A' x.c.path.length c') (x.c.path.map bys)
theorem b0G(x:MkD)(N:List Nat)(w:WD)(h:a7b w N x)(b:∀k∈N,k<w.heap.size):
  Calls prog 184 #[.agg (mkV x).toArray] w λe w'=>b6q w N x e w'/\Below w w w':=by
 have⟨g,hg⟩:=ηs w;have⟨xv,S⟩:=η0 ((mkV x).toArray);have⟨zv,ah⟩:=η0 ((mkV a4n).toArray);have aa:=c1K;simp only[ah]at aa;have aj:zv.size=138:=by rw[<-ah,Qc];exact a3i a0B
 have av:xv.size=138:=by rw[<-S,Qc];exact a3i h.bd
 have ac:xv[37]? =some (.slice x.A x.c.path.length x.cap):=by rw[<-S];exact c6P h.bd
 have I:∀m j,xv.setIfInBounds 37 (.slice m x.c.path.length j)=(mkV ⟨x.c,m,j,x.ex⟩).toArray:=λm j=>by rw[<-S];exact c8J h.bd m j
 have b0:=Qd w 214 xv;have B0:=ρb w (.cells xv 214);have⟨W1,R⟩:=η0 (w.alloc (.cells xv 214));have aq:W1.heap.size=g+1:=by rw[<-R,<-hg];simp
 have K:(ALs 214).run prog (w.alloc (.cells xv 214))=.ok (.pointer W1) (W1.alloc (.cells zv 214)):=by rw[R];exact aa W1
 rw[R]at b0 B0;rw[hg]at b0;have Q:=b0.alloc (.cells zv 214);have b1:=Qd W1 214 zv;have B1:=B0.alloc B0.size (.cells zv 214);have⟨V,hV⟩:=η0 (W1.alloc (.cells zv 214));have O:V.heap.size=g+2:=by rw[<-hV];simp;omega
 rw[hV]at Q b1 B1 K;rw[aq]at b1 K;have aN:V.cell? ⟨g,37,none⟩=some (.slice x.A x.c.path.length x.cap):=(Q.cell 37).trans ac;have hm:=h.below B1;have aB:=b5D x.A x.cap x.c.path (λd hd=>(h.bd.path d hd).1) (ρh h.len) h.nil V hm.path;have⟨n,hn⟩:=η0 x.c.path.length;rw[hn]at aB aN;simp only[hn]at I;have ak:=b;rw[S];have⟨aE,az,aH,aL,W,HG,aA,aP⟩:=η8 O Q b1 B1 hm hg I av;have⟨aM,aI,HN,au⟩:=η4 aj ak hn ac;clear O Q b1 B1 hm hg I av aj ak hn ac b0 B0 R aq hV h b aa;go_enter func184,ntmps184;go_upto_region 1 with fail
 rw[HG.o];clear K;go_wp2_with fail;refine μ1 aB ?_;rintro e w4 ⟨⟨m,j,rfl,z⟩,H⟩;obtain⟨A2,c2,an,af,F,G,o⟩:=z.rd;simp only[Value.slice.injEq]at an;obtain⟨rfl,-,rfl⟩:=an;rw[Qw,HN.o]at F;have ax:=aI.o;have hg:=HG.o;have O:=aE.o;have k4:=az.fr (Q9 H) ρo;have j4:=aH.fr (Q9 H) ρo;have z4:=k4.frozen 37;have q4:=(k4.cell 37).trans au;have k5:=k4.set_ 37 (.slice m n j);rw[aA.o]at k5;have f5:Fr (λk=>k=g) w4 (w4.setCell ⟨g,37,none⟩ (.slice m n j)):=(Qp (λk=>k=g) w4).setCell (p:=⟨g,37,none⟩) (λ_=>rfl) _;have j5:=j4.fr f5 (show¬_=_ by omega);have ar:=H.size;have B5:Below w w (w4.setCell ⟨g,37,none⟩ (.slice m n j)):=(aL.trans (H.mono ρo)).trans (f5.below (B:=w.heap.size) ρo (λk T e=>ρo));have ad:=HN.o;have Y:a7b w4 N ⟨x.c,m,j,x.ex⟩:=⟨W.bd,af,(ρy ad F),G,λa D=>⟨(o a D).2,λT=>by have:=ax _ T;have:=(o a D).1;omega⟩,W.ex,W.len⟩
 have Z:a7b (w4.setCell ⟨g,37,none⟩ (.slice m n j)) N ⟨x.c,m,j,x.ex⟩:=
  ⟨W.bd,af.frY f5 (λa D e=>by have:=(o a D).1;omega),Y.cap,G,λa D=>⟨Qh (o a D).2 f5.size,(Y.far a D).2⟩,W.ex,W.len⟩
 have ab:=λk (T:(Value.slice m n j).ownBlock=some k)=>(z.lt T).1
 have X:=z.fr f5 (λk T e=>by have:=ab k T;omega);have f:(mkV ⟨x.c,m,j,x.ex⟩).length=138:=a3i W.bd;have y:=a7Q ⟨x.c,m,j,x.ex⟩
 generalize ao:w4.setCell ⟨g,37,none⟩ (.slice m n j)=W5 at k5 j5 B5 Z X
 have J:=λ(e:Ending) (he:e=.returned (.agg (mkV ⟨x.c,m,j,x.ex⟩).toArray)) (W6:WD) (h6:a7b W6 N ⟨x.c,m,j,x.ex⟩) (h7:a0T 31 32 w.heap.size W6 (.slice m n j) (x.c.path.map bys))=>(⟨m,j,he,h6,by rw[ad];exact h7⟩:b6q w N x e W6)
 have r:=Z;have⟨U,ae⟩:=η0 (mkV ⟨x.c,m,j,x.ex⟩);simp only[ae]at J;rw[ae]at k5 f y;have aO:=Pb uMk iMk U k5 f;have aQ:=P7 iMk j5 aM U f y;have j6:=j5.row_ U.toArray;have f6:Fr (λk=>k=g+1) W5 (W5.setRow (g+1) U.toArray):=(Qp (λk=>k=g+1) W5).setRow (g:=g+1) (λ_=>rfl) _;have B6:=Ql (g:=g+1) B5 ρo U.toArray
 have ai:a7b (W5.setRow (g+1) U.toArray) N ⟨x.c,m,j,x.ex⟩:=
  ⟨r.bd,r.path.frY f6 (λa D e=>by have:=(o a D).1;omega),r.cap,r.nil,λa D=>⟨Qh (r.far a D).1 f6.size,(r.far a D).2⟩,r.ex,r.len⟩
 have al:=(X.fr f6 (λk T e=>by have:=ab k T;omega)).base (B':=w.heap.size) ρo;have E:=λe he=>J e he _ ai al
 have⟨aG,aC,aF,aD,aK⟩:=η5 j6 B6 E f ao;clear j6 B6 E f ao k4 j4 k5 f5 j5 ar B5 ad Y Z y r f6 ai J ae af F G o ax hg O H z ab X al;dsimp only;go_upto_region 2 with fail
 rw[aK.o];go_wp2_with fail;obtain⟨dM,aJ,ay⟩:=Q8.1 uMk;refine bodyPost_ret (v:=.agg U.toArray) (a0c rfl _ _ (g+1) _ U dM rfl aG aJ ay (ρy aD.o iMk)) rfl ?_;exact⟨aF.o _ rfl,aC.o⟩
end
section
theorem c7T{x:MkD}(a:(a0x x.c.e)[j]? =some v):(mkV x)[0+j]? =some v:=by
 have b:j<(a0x x.c.e).length:=(Qm.1 a).1;rw[QP];unfold mkV a0d;simp only[QC];rw[QO b];exact a
theorem c5L{x:MkD}(b:x.c.Bd)(a:(a0b x.c.h)[j]? =some v):(mkV x)[38+j]? =some v:=by
 have f:=a0u b.e;have d:j<(a0b x.c.h).length:=(Qm.1 a).1;unfold mkV a0d;simp only[QC];rw[QL ρo,f,show 38+j-37=j+1 by omega,List.singleton_append,List.getElem?_cons_succ,QO d];exact a
theorem c6n{x:MkD}(a:x.c.Bd):(mkV x)[137]? =some (.int .i64 x.ex):=by
 unfold mkV;rw[QL (by rw[a0l a];omega),a0l a]
 rfl
def b3Y(c:a0y)(ex:Int):Bool:=a0D c.e&&a0w c.h&&b9u ex
attribute [local go_sem ↓] a7A a7I a7U a1W a1l
theorem b6p(x:MkD)(N:List Nat)(w:WD)(h:a7b w N x):
  Calls prog 183 #[.agg (mkV x).toArray] w λe w'=>e=.returned (.bool (b3Y x.c x.ex))/\Below w w w':=by
 have⟨g,hg⟩:=ηs w;have S:=Qd w 214 (mkV x).toArray;have B0:=ρb w (.cells (mkV x).toArray 214);have D:=h.bd;have z:∀W:WD,Blk W g 214 (mkV x).toArray->W.cell? ⟨g,37,none⟩=some (.slice x.A x.c.path.length x.cap):=λW J=>(J.cell 37).trans (c6P D)
 have a:∀W:WD,Blk W g 214 (mkV x).toArray->W.cell? ⟨g,137,none⟩=some (.int .i64 x.ex):=λW J=>(J.cell 137).trans (by rw[QE];exact c6n D)
 obtain⟨dE,U,B⟩:=Q8.1 b3q;obtain⟨dH,aa,G⟩:=Q8.1 a1S;have r:∀W:WD,Blk W g 214 (mkV x).toArray->(LDs 34 (.pointer g)).run prog W=.ok (.agg (a0x x.c.e).toArray) W:=λW J=>a3R W _ dE 37 U B a8Q g 0 _ (a0u D.e) (λj v hv=>(J.cell (0+j)).trans (by rw[QE];exact c7T hv))
 have p:∀W:WD,Blk W g 214 (mkV x).toArray->(LDs 37 (.pointer (some ⟨g,38,none⟩))).run prog W=.ok (.agg (a0b x.c.h).toArray) W:=λW J=>a3R W _ dH 67 aa G a1h g 38 _ (a0f D.h) (λj v hv=>(J.cell (38+j)).trans (by rw[QE];exact c5L D hv))
 have m:=a9B x.c.e D.e;have y:=a2f x.c.h D.h;have O:=a7M x.ex;have E:=h.len;have⟨xv,o⟩:=η0 ((mkV x).toArray);rw[o]at S B0;simp only[o]at r p z a;have⟨ev,X⟩:=η0 ((a0x x.c.e).toArray);have⟨hv,Z⟩:=η0 ((a0b x.c.h).toArray);simp only[X]at r m;simp only[Z]at p y;have hr:b3Y x.c x.ex=(a0D x.c.e&&a0w x.c.h&&b9u x.ex):=rfl;have⟨r1,P⟩:=η0 (a0D x.c.e);have⟨r2,I⟩:=η0 (a0w x.c.h);have⟨r3,Q⟩:=η0 (b9u x.ex);simp only[P]at m;simp only[I]at y;simp only[Q]at O;rw[hr,P,I,Q,o];have⟨n,hn⟩:=η0 x.c.path.length;rw[hn]at E;simp only[hn]at z;have dn:decide ((n:Int)<=32)=true:=by simp;omega
 generalize hV:w.alloc (.cells xv 214)=V at S B0
 rw[hg]at S;have l0:=r V S;have H:=m V;have⟨ab,K,HG,ag,ac,ad,HQ,af⟩:=η8 S B0 hg p y O z a;have HV:=η1 hV;clear S B0 hg p y O z a hV r m o X Z P I Q D hn E h U B aa G hr;go_enter func183,ntmps183;go_upto_region 1 with fail
 rw[HV.o,HG.o];go_wp2_with fail;refine μi H ?_;intro w4 b
 cases r1 with
 |
  false=>
  have R:=η1 b;clear b;go_wp2;go_ret;exact⟨rfl,K.trans (R.mono K.size)⟩
 |
  true=>
  have b4:=φf ab b;have l4:=ag.o w4 b4;have F:=ac.o w4;have B4:=φt K b;have⟨R,f⟩:=η2 b4 B4;clear b4 B4 b l0 H;go_wp2_with fail;refine μi F ?_;intro w5 d
  cases r2 with
  |
   false=>
   have ae:=η1 d;clear d;go_wp2;go_ret;exact⟨rfl,f.trans (ae.mono f.size)⟩
  |
   true=>
   have b5:=φf R d;have q5:=HQ.o w5 b5;have q6:=af.o w5 b5;have T:=ad.o w5;have B5:=φt f d;have Y:=η1 B5;clear B5 d l4 F b5;go_wp2_with fail;refine μf T ?_;go_wp2;go_ret;exact⟨by cases r3<;>rfl,Y.o⟩
end
section
def c0t(b:Nat)(N:List Nat)(m:List (Ke×MkD))(k:Ke)(e:Ending)(w':WD):Prop:=∃A' c',e=.returned (.tuple #[.agg (mkV ⟨(a2Q m k).c,A',c',(a2Q m k).ex⟩).toArray,.bool (a2E m k).isSome])/\a7b w' N ⟨(a2Q m k).c,A',c',(a2Q m k).ex⟩/\a0T 31 32 b w' (.slice A' (a2Q m k).c.path.length c') ((a2Q m k).c.path.map bys)
attribute [local go_sem ↓] a7A a7I a7U a1B c1a
theorem b5u(kb b:Nat)(N:List Nat)(m:List (Ke×MkD))(k:Ke)(d:b2y k)(w:WD)(h:a0z w kb b N m)(f:∀j∈N,j<w.heap.size):
  Calls prog 166 #[.pointer kb,.int .i64 k.1,.agg (bys k.2).toArray] w λe w'=>c0t w N m k e w'/\Below w w w':=by
 have⟨g,hg⟩:=ηs w;have⟨E,au⟩:=η0 ((bys k.2).toArray);have⟨kv,aj⟩:=η0 ((keL k.1 k.2).toArray);have⟨R,aA⟩:=η0 ((mkV a4n).toArray);have S:=c1K;simp only[aA]at S;have ac:R.size=138:=by rw[<-aA,Qc];exact a3i a0B
 have a2:∀W:WD,(BDs 212 #[(0,.int .i64 k.1),(1,.agg E)]).run prog W=.ok (.agg kv) W:=by
  intro W;rw[<-au,<-aj];exact d3e d.len k.1 W
 have aS:=h.st.lt;have a1:=h.mp.lt;have b0:=Qd w 31 E;have B0:=ρb w (.cells E 31)
 generalize al:w.alloc (.cells E 31)=W1 at b0 B0
 rw[hg]at b0;have aI:W1.heap.size=g+1:=by rw[<-al,<-hg];simp
 have K:(ALs 214).run prog (w.alloc (.cells E 31))=.ok (.pointer W1) (W1.alloc (.cells R 214)):=by rw[al];exact S W1
 have ag:=b0.alloc (.cells R 214);have b1:=Qd W1 214 R;have B1:=B0.alloc B0.size (.cells R 214);have⟨W2,ak⟩:=η0 (W1.alloc (.cells R 214));have aD:W2.heap.size=g+2:=by rw[<-ak];simp;omega
 rw[ak]at ag b1 B1 K;rw[aI]at b1 K;have h2:=h.below B1;have fd:Fr (λ_=>False) W2 W2.drew:=(Qp _ _).drew;have⟨X,hX⟩:=η0 W2.drew;rw[hX]at fd;have aK:X.heap.size=g+2:=by rw[<-hX];exact aD
 have I:a0z X kb b N m/\Blk X g 31 E:=⟨h2.fr fd id id (λ_ e=>e.elim),ag.fr fd id⟩;have J:=S X;have bx:=Qd X 214 R;have BX:=ρb X (.cells R 214)
 generalize hY:X.alloc (.cells R 214)=Y at bx BX J
 rw[aK]at bx J;have ar:a0z Y kb b N m/\Blk Y g 31 E:=⟨I.1.below BX,I.2.fr (Q9 BX) ρo⟩;have F:=λ(W:WD) (hw:a0z W kb b N m)=>hw.look d
 simp only[aj]at F;have r:=a6b ar.1.bd k;have⟨x,hx⟩:=η0 (a2Q m k);have⟨ok,ad⟩:=η0 ((a2E m k).isSome);rw[hx]at r;simp only[hx,ad]at F;have ax:=a3i r.bd;have aP:=a7Q x;have fY:Fr (λj=>j=g+2) Y (Y.setRow (g+2) (mkV x).toArray):=(Qp (λj=>j=g+2) Y).setRow (g:=g+2) (λ_=>rfl) _;have T:=P7 iMk bx ac (mkV x) ax aP;have kx:=bx.row_ (mkV x).toArray;have kr:Blk (Y.setRow (g+2) (mkV x).toArray) (g+1) 214 R:=((b1.fr fd id).fr (Q9 BX) ρo).fr fY ρo;have BY:Below w w (Y.setRow (g+2) (mkV x).toArray):=((B1.trans (fd.below ρo (λ_ _=>id))).trans (BX.mono ρo)).trans (fY.below (B:=w.heap.size) (ρh BX.size) (λj Q e=>ρo));have af:=a6b I.1.bd k;rw[hx]at af;have o:a7b (Y.setRow (g+2) (mkV x).toArray) N x:=⟨r.bd,r.path.frY fY (λa ha e=>by have:=(af.far a ha).1;omega),r.cap,r.nil,λa ha=>⟨Qh (r.far a ha).1 fY.size,(r.far a ha).2⟩,r.ex,r.len⟩
 have⟨Z,hZ⟩:=η0 (Y.setRow (g+2) (mkV x).toArray);replace T:=T.trans (show _=Result.ok () Z by rw[<-hZ]);rw[hZ]at kx kr BY o;have aC:=Pb uMk iMk (mkV x) kx ax;have ah:=a6b h.bd k;rw[hx]at ah
 have O:a7b Z ((g+1)::N) x:=⟨o.bd,o.path,o.cap,o.nil,λa ha=>⟨(o.far a ha).1,λQ=>by
  rcases Qo.1 Q with e | e
  ·have:=(ah.far a ha).1;omega
  exact(o.far a ha).2 e⟩,o.ex,o.len⟩
 have G:=b0G x ((g+1)::N) Z O (λj Q=>by
  rcases Qo.1 Q with e | e
  ·have:=kr.lt;omega
  have:=f j e;have:=BY.size;omega)
 have H:=λ(W:WD) (hb:Blk W g 31 E)=>Pb a2i iId (w:=W) E.toList (ρw hb) (by rw[<-au];simp[a0a,d.len])
 simp only[show E.toList.toArray=E by simp]at H;have p:∀D z (W:WD) (e:Ending),a7b W N ⟨x.c,D,z,x.ex⟩->a0T 31 32 w.heap.size W (.slice D x.c.path.length z) (x.c.path.map bys)->e=.returned (.tuple #[.agg (mkV ⟨x.c,D,z,x.ex⟩).toArray,.bool ok])->c0t w N m k e W:=λD z W e h1 h3 h2=>⟨D,z,by rw[hx,ad];exact h2,by rw[hx];exact h1,by rw[hx];exact h3⟩
 have V:∃v,(mkV x).toArray=v:=⟨_,rfl⟩;obtain⟨xv,V⟩:=V;simp only[V]at F T aC kx G;have U:w.heap.size<=g:=ρo;rw[au];have⟨aR,aQ,aM,ay,aW,aO,HX,HG⟩:=η8 I ar kr BY F H hX hg;have⟨a0,an,aT,aV⟩:=η4 ac p r.bd U;clear I ar kr BY F H hX hg ac p U b0 B0 ag b1 B1 h2 fd aK bx BX hY r ax aP ad fY kx hZ aD al aI ak S h aS a1 aj V hx af o ah O f;go_enter func166,ntmps166;go_upto_region 1 with fail
 clear K;rw[HG.o];refine a0s [(0,3),(1,3),(2,3),(4,3),(3,0),(5,0),(6,3),(7,0),(8,3),(9,3),(10,3),(11,1),(12,2),(13,3)] (λW=>a0z W kb b N m/\Blk W g 31 E) ρk ρk ρk ρk (ρy HX.o aR.o) ?_;rw[HX.o];refine ε4 ?_
 iterate 2 refine θ2 (λW' hS=>QU hS.1.q0 (aO.o W' hS.2)) ?_
 refine ε1 ?_
 iterate 1 refine θ1 (λW' hS=>aW.o W' hS.1) ?_
 refine ε3 ?_;refine κ1 (aQ.o) ?_;refine τ1 ?_;refine ε1 ?_;refine ν ?_;clear J T a2;go_upto_region 2 with fail
 go_wp2_with fail;refine μ1 G ?_;rintro e w4 ⟨⟨D,z,rfl,aB,aq⟩,ai⟩;have ao:=φf aM ai;have B4:=φt ay ai;have y:(mkV ⟨x.c,D,z,x.ex⟩).length=138:=a3i aT;have aN:=P7 iMk ao a0 _ y (a7Q _);have av:=ao.row_ (mkV ⟨x.c,D,z,x.ex⟩).toArray;have f5:Fr (λj=>j=g+1) w4 (w4.setRow (g+1) (mkV ⟨x.c,D,z,x.ex⟩).toArray):=(Qp (λj=>j=g+1) w4).setRow (g:=g+1) (λ_=>rfl) _;have aE:a7b (w4.setRow (g+1) (mkV ⟨x.c,D,z,x.ex⟩).toArray) N ⟨x.c,D,z,x.ex⟩:=(aB.fr f5 (λj Q=>by rw[Q];exact Qr)).far_ (λj _ Q=>Qj _ Q);have U:=aV.o;have B5:=Ql (g:=g+1) B4 ρo (mkV ⟨x.c,D,z,x.ex⟩).toArray;have aG:=aM.lt;have aa:=ay.size;have az:=(aq.fr f5 (λj Q e=>by have:=(aq.lt Q).1;omega)).base (B':=w.heap.size) aa;have p:=λe=>an.o D z _ e aE az
 have⟨ya,ae⟩:=η0 ((mkV ⟨x.c,D,z,x.ex⟩).toArray);have aH:ya.size=138:=by rw[<-ae,Qc];exact y
 simp only[ae]at aN av B5 p⊢;obtain⟨dM,aL,ab⟩:=Q8.1 uMk;have⟨aF,aZ,aX,aU,aY,aJ⟩:=η6 av B5 p aH aL ab;clear av B5 p aH aL ab f5 aE y ae U ao B4 aB ai aq az aG aa;go_wp2;refine bodyPost_ret (v:=.tuple #[.agg ya,.bool ok]) (a0k rfl _ _ (g+1) _ _ (0,0) aF.o aY aJ (ρy aU.o iMk) rfl) rfl ?_;exact⟨aX.o _ rfl,aZ.o⟩
end
section
def c3z(m:List (Ke×MkD))(k:Ke)(c:a0y)(ex:Int):Int:=
 if k.1≠0/\k.1≠1 then 1
 else if b3Y c ex=false then 16
 else if(a2E m k).isSome then 24
 else if 128<=m.length then 18
 else 0
def b6K(kb mb:Nat)(N:List Nat)(m:List (Ke×MkD))(k:Ke)(x:MkD)(e:Ending)(w':WD):Prop:=
 e=.returned (.int .i64 (c3z m k x.c x.ex))/\((c3z m k x.c x.ex≠0/\a0z w' kb mb N m)\/(c3z m k x.c x.ex=0/\∃A' c',a0z w' kb mb N (m++[(k,⟨x.c,A',c',x.ex⟩)])))
attribute [local go_sem ↓] a7A a7I a7U a1B c1a
theorem c2k(kb b:Nat)(N:List Nat)(m:List (Ke×MkD))(k:Ke)(o:b2y k)(x:MkD)(w:WD)(f:a7b w N x)(h:a0z w kb b N m)(y:∀j∈N,j<w.heap.size)(r:b∈N):
  Calls prog 122 #[.pointer kb,.int .i64 k.1,.agg (bys k.2).toArray,.agg (mkV x).toArray] w λe w'=>b6K kb b N m k x e w'/\Fr (λj=>j=b) w w':=by
 have⟨g,hg⟩:=ηs w;have⟨G,ay⟩:=η0 ((bys k.2).toArray);have⟨kv,ao⟩:=η0 ((keL k.1 k.2).toArray);have⟨zv,aj⟩:=η0 ((mkV a4n).toArray);have aJ:=c1K;simp only[aj]at aJ;have a7:zv.size=138:=by rw[<-aj,Qc];exact a3i a0B
 have ax:∀W:WD,(BDs 212 #[(0,.int .i64 k.1),(1,.agg G)]).run prog W=.ok (.agg kv) W:=by
  intro W;rw[<-ay,<-ao];exact d3e o.len k.1 W
 have a3:=h.st.lt;have bu:=h.mp.lt;have bb:=a3i f.bd;have⟨S,ag⟩:=η0 ((mkV x).toArray);have b0:=Qd w 31 G;have B0:=ρb w (.cells G 31);have ak:=b0.alloc (.cells S 214);have b1:=Qd (w.alloc (.cells G 31)) 214 S;have B1:=B0.alloc B0.size (.cells S 214);rw[Qi]at b1;have⟨W2,ar⟩:=η0 ((w.alloc (.cells G 31)).alloc (.cells S 214));have a2:W2.heap.size=g+2:=by rw[<-ar,<-hg];simp
 rw[ar]at ak b1 B1;rw[hg]at ak b1;have h2:=h.below B1;have fd:Fr (λ_=>False) W2 W2.drew:=(Qp _ _).drew;have⟨X,hX⟩:=η0 W2.drew;rw[hX]at fd;have bn:X.heap.size=g+2:=by rw[<-hX];exact a2
 have an:a0z X kb b N m/\Blk X g 31 G:=⟨h2.fr fd id id (λ_ e=>e.elim),ak.fr fd id⟩;have ae:=aJ X;have bx:=Qd X 214 zv;have BX:=ρb X (.cells zv 214)
 generalize hY:X.alloc (.cells zv 214)=Y at bx BX ae
 rw[bn]at bx ae;have av:a0z Y kb b N m/\Blk Y g 31 G:=⟨an.1.below BX,an.2.fr (Q9 BX) ρo⟩;have aa:=λ(W:WD) (hw:a0z W kb b N m)=>hw.look o
 simp only[ao]at aa;have bf:=a6b av.1.bd k;have⟨ok,aH⟩:=η0 ((a2E m k).isSome);have⟨ys,aO⟩:=η0 (mkV (a2Q m k));have aS:=a3i bf.bd;have aT:=a7Q (a2Q m k);rw[aO]at aS aT;simp only[aO,aH]at aa;have fY:Fr (λj=>j=g+2) Y (Y.setRow (g+2) ys.toArray):=(Qp (λj=>j=g+2) Y).setRow (g:=g+2) (λ_=>rfl) _;have al:=P7 iMk bx a7 ys aS aT;have ki:Blk (Y.setRow (g+2) ys.toArray) g 31 G:=av.2.fr fY ρo;have kx:Blk (Y.setRow (g+2) ys.toArray) (g+1) 214 S:=((b1.fr fd id).fr (Q9 BX) ρo).fr fY ρo;have br:Below w w Y:=(B1.trans (fd.below ρo (λ_ _=>id))).trans (BX.mono ρo);have BY:Below w w (Y.setRow (g+2) ys.toArray):=br.trans (fY.below (B:=w.heap.size) (ρh BX.size) (λj hj e=>ρo));have aM:a0z (Y.setRow (g+2) ys.toArray) kb b N m:=h.below BY;have aq:a7b (Y.setRow (g+2) ys.toArray) N x:=f.below BY;have⟨Z,hZ⟩:=η0 (Y.setRow (g+2) ys.toArray)
 replace al:=al.trans (show _=Result.ok () Z by rw[<-hZ]);rw[hZ]at ki kx BY aM aq
 have U:∀W:WD,Blk W (g+1) 214 S->(LDs 214 (.pointer (g+1:Nat))).run prog W=.ok (.agg S) W:=λW hb=>by
  have:=Pb uMk iMk (w:=W) S.toList (ρw hb) (by rw[<-ag];simpa using bb)
  simpa using this
 have ab:=λ(W:WD) (hb:Blk W g 31 G)=>Pb a2i iId (w:=W) G.toList (ρw hb) (by rw[<-ay];simp[a0a,o.len])
 simp only[show G.toList.toArray=G by simp]at ab;have af:=b6p x N Z aq;rw[ag]at af;have aF:∀W:WD,a7b W N x->(∀j∈N,j<W.heap.size)->Calls prog 184 #[.agg S] W λe w'=>b6q W.heap.size N x e w'/\Below W.heap.size W w':=λW h1 h2=>by rw[<-ag];exact b0G x N W h1 h2
 have⟨rt,aI⟩:=η0 (b3Y x.c x.ex);rw[aI]at af;have⟨ya,a9⟩:=η0 ys.toArray;simp only[a9]at aa al;have FY:Fr (λj=>j=b) w Z:=(Q9 BY).mono (λj hj e=>ρo);have aD:∀(v:Int) (W:WD),c3z m k x.c x.ex=v->v≠0->a0z W kb b N m->b6K kb b N m k x (.returned (.int .i64 v)) W:=λv W hv h0 hW=>⟨by rw[hv],.inl ⟨by rw[hv];exact h0,hW⟩⟩
 have aX:=U Z kx;rw[ay,ag];have⟨bH,bF,bA,bM,bC,bO,aE,ba⟩:=η8 an av ki kx BY aa ab U;have⟨HX,HG,bG,bP,J,be,bp,bU⟩:=η8 hX hg ar FY aD aF aM aq;have⟨bh,bI,bJ,bQ,aA,bV,bB,bD⟩:=η8 aH aI ao y bu a3 o r;have bW:=η1 aj;clear an av ki kx BY aa ab U hX hg ar FY aD aF aM aq aH aI ao y bu a3 o r aj b0 B0 ak b1 B1 h2 fd bn bx BX hY bf aS aT fY hZ a2 aJ h ag aO a9 bb f br a7 ay;go_enter func122,ntmps122;go_upto_region 1 with fail
 rw[bG.o,HG.o];refine a0s [(0,3),(1,3),(2,3),(4,3),(3,0),(5,0),(6,3),(7,0),(8,3),(9,3),(10,3),(11,1),(12,2),(13,3)] (λW=>a0z W kb b N m/\Blk W g 31 G) ρk ρk ρk ρk (ρy HX.o bH.o) ?_;rw[HX.o];refine ε4 ?_
 iterate 2 refine θ2 (λW' hS=>QU hS.1.q0 (aE.o W' hS.2)) ?_
 refine ε1 ?_
 iterate 1 refine θ1 (λW' hS=>bO.o W' hS.1) ?_
 refine ε3 ?_;refine κ1 (bF.o) ?_;refine τ1 ?_;refine ε1 ?_;refine ν ?_;clear ae al
 have az:((k.1 != 0)=true/\(k.1 != 1)=true)\/((k.1 != 0)=true/\(k.1 != 1)=false)\/((k.1 != 0)=false):=by
  cases h0:(k.1 != 0)<;>cases h1:(k.1 != 1)<;>simp
 rcases az with H | H
 focus
  have z:c3z m k x.c x.ex=1:=if_pos ⟨by simpa using H.1,by simpa using H.2⟩;have D:=J.o 1 Z z ρo bp.o;obtain⟨d1,d2⟩:=H;have E:=η1 D;clear D z af ax aX;go_wp2;go_ret;exact⟨E,bP.o⟩
 have z:c3z m k x.c x.ex=(if b3Y x.c x.ex=false then 16 else if(a2E m k).isSome then 24 else if 128<=m.length then 18 else 0):=if_neg (by
  rintro⟨h1,h2⟩
  rcases H with⟨_,d⟩ | d
  ·exact h2 (ρw d)
  exact h1 (ρw d))
 rw[bI.o,bh.o]at z;have bL:(k.1 != 0)=false\/((k.1 != 0)=true/\(k.1 != 1)=false):=H.symm;have aC:=η1 z;clear z H
 rcases bL with d1 | ⟨d1,d2⟩
 all_goals
  go_wp2_with fail;refine μ1 af ?_;rintro e w4 ⟨rfl,O⟩;have B4:=φt bC O;have a0:=bp.below O;have aZ:=bU.below O;have bc:=φf bA O;have bi:=φf bM O;have ad:=aA.o;have F4:Fr (λj=>j=b) w w4:=(Q9 B4).mono (λj hj e=>ρo);have⟨Q,bR,bt,bz,au,a5⟩:=η6 a0 aZ bc bi F4 B4;clear a0 aZ bc bi F4 B4 O ad;clear aX af
  cases rt with
  |
   false=>
   have z:=aC.o;simp only[if_true]at z;have D:=J.o 16 w4 z ρo Q.o;have E:=η1 D;clear D z ax;go_wp2;go_ret;exact⟨E,au.o⟩
  |
   true=>
   have z:=aC.o;simp only[Bool.true_eq_false,if_false]at z
   cases ok with
   |
    true=>
    simp only[if_true]at z;have D:=J.o 24 w4 z ρo Q.o;have E:=η1 D;clear D z ax;go_wp2;go_ret;exact⟨E,au.o⟩
   |
    false=>
    simp only[QI,if_false]at z;have q0:=Q.q0;have hl:=Q.mp.len_ (ty:=3) b0F;have⟨n,hn⟩:=η0 m.length;rw[hn]at hl z
    by_cases ac:128<=n
    ·have aR:(128:Int)<=(n:Int):=ρo
     rw[if_pos ac]at z;have D:=J.o 18 w4 z ρo Q.o;have E:=η1 D;clear D z ax hn;go_wp2;go_ret;exact⟨E,au.o⟩
    have aR:¬(128:Int)<=(n:Int):=ρo;rw[if_neg ac]at z;have aP:=η1 z;clear z hn ac;dsimp only;go_upto_region 10 with fail
    clear hl q0;have F:Fr (λ_=>False) w4 w4.drew:=(Qp _ _).drew;have⟨Z5,aQ⟩:=η0 w4.drew;rw[aQ]at F;have aG:=Q.fr F (λe=>e) (λe=>e) (λ_ e=>e.elim);have a1:=bR.fr F (λ_ e=>e.elim);have aL:=bt.fr F (λe=>e);have aN:=bz.fr F (λe=>e);have bq:=bQ.o;have ah:=a5.size;have bg:=F.size;have aK:=be.o Z5 a1 (λj hj=>by have:=bq j hj;omega);have aV:=au.trans F (λ_ _ e=>e.elim);have a6:Z5.cell? ⟨kb,0,none⟩=some (.map (some b))/\Blk Z5 g 31 G/\Blk Z5 (g+1) 214 S:=⟨aG.q0,aL,aN⟩;have⟨bE,bw,a8,bl,bK,bs⟩:=η6 aG aL aN aV a6 aQ;clear aG aL aN aV a6 aQ a1 F bq ah bg;refine a0s [(0,3),(1,3),(2,3),(4,3),(3,0),(5,0),(6,3),(7,0),(8,1),(9,2)] (λW=>W.cell? ⟨kb,0,none⟩=some (.map (some b))/\Blk W g 31 G/\Blk W (g+1) 214 S) ρk ρk ρk ρk (ρy bs.o bK.o) ?_;rw[bs.o];refine ε4 ?_
    iterate 2 refine θ2 (λW' hS=>QU hS.1 (aE.o W' hS.2.1)) ?_
    refine ε1 ?_
    iterate 1 refine θ1 (λW' hS=>ba.o W' hS.2.2) ?_
    refine κ ?_;intro K hK;refine μ1 aK ?_;rintro e w8 ⟨⟨A',c',rfl,bm,_⟩,ai⟩;have R:=bE.below ai;have aW:=φf bw ai;have bk:=φf a8 ai;have aU:w8.cell? ⟨kb,0,none⟩=some (.map (some b))/\Blk w8 g 31 G/\Blk w8 (g+1) 214 S:=⟨R.q0,aW,bk⟩
    have a4:a2E m k=none:=by
     have:=bh.o
     cases hg0:a2E m k with
     | none=>rfl
     | some v=>rw[hg0]at this;cases this
    obtain⟨w9,bv,bo,f9,bT⟩:=R.mp.put b0F (a:=k) bB.o ⟨x.c,A',c',x.ex⟩ a4;have bj:=R.ne;have V:=bD.o
    have T:a0z w9 kb b N (m++[(k,⟨x.c,A',c',x.ex⟩)]):=⟨R.st.fr f9 (λe=>bj e.symm),bo,λp hp=>by
     rcases Qq.1 hp with h1 | h1
     ·exact(R.bd p h1).fr f9 (λj hj=>by rw[hj];exact V)
     rw[Qn.1 h1];exact bm.fr f9 (λj hj=>by rw[hj];exact V)⟩
    have I:=aP.o;have D:b6K kb b N m k x (.returned (.int .i64 0)) w9:=⟨by rw[I],.inr ⟨I,A',c',T⟩⟩;have ad:=aA.o;have ah:=bl.size;have F9:=(bl.trans (Q9 ai) (λj hj e=>ρo)).trans f9 (λj hj e=>e);have aB:(Instr.mapUpdate 167 (.map (some b)) (.agg kv) (.agg (mkV ⟨x.c,A',c',x.ex⟩).toArray)).run prog w8=.ok () w9:=by rw[<-bJ.o];exact bv
    have⟨yb,aY⟩:=η0 ((mkV ⟨x.c,A',c',x.ex⟩).toArray);simp only[aY]at aB⊢;have⟨E,bN,bS⟩:=η3 D F9 aU;clear D F9 aU R aW bk a4 bv bo f9 bT bj V T I ad ah bm ai aY;with_reducible refine hK _ _ (bS.o) ?_;clear hK K
    refine τ1 ?_;refine ν ?_;clear aB;go_wp2;go_ret;exact⟨E,bN.o⟩
end
section
def a2F(x:Int):VL:=.iface 99 (.agg #[.int .i64 x])
abbrev c3U:=bdOf 99
theorem d1V(x:Int)(w:WD):(BDs 99 #[(0,.int .i64 x)]).run prog w=.ok (.agg #[.int .i64 x]) w:=run_build w _ _ _ ρk
attribute [local go_sem ↓] c3U
theorem a1o(w:WD):Calls prog 142 #[.int .i64 0] w λe w'=>e=.returned (.tuple #[])/\w=w':=by
 go_enter func142,ntmps142;go_wp2_with fail;exact bodyPost_end (results_none rfl _ _ _) rfl ⟨rfl,rfl⟩
theorem a1m(x:Int)(a:x≠0)(w:WD):Calls prog 142 #[.int .i64 x] w λe w'=>e=.panicked [{v:=a2F x,recovered:=false}]/\w=w':=by
 have b:(x != 0)=true:=ρw a;have d:=d1V x w;go_enter func142,ntmps142;go_wp2_with fail;exact⟨rfl,rfl,rfl⟩
theorem a0X(b:Bool)(x:Int)(w:WD):Calls prog 143 #[.bool b,.int .i64 x] w λe w'=>e=.returned (.int .i64 (if b=true then x else 0))/\w=w':=by
 cases b with
 |
  true=>
  go_enter func143,ntmps143;go_wp2;go_ret;exact⟨rfl,rfl⟩
 |
  false=>
  go_enter func143,ntmps143;go_wp2;go_ret;exact⟨rfl,rfl⟩
attribute [local go_sem ↓] a1W a1l a4z a4E a5P
theorem b9v(A:OA)(n c:Nat)(e:a1P)(a:e.Bd)(iss:Int)(h:a0D e=false\/4611686018427387904<iss)(w:WD):
  Calls prog 204 #[.slice A n c,.agg (a0x e).toArray,.int .u64 iss] w λx w'=>x=.returned (.tuple #[.slice none 0 0,.bool false])/\Below w w w':=by
 have o:=Qd w 34 (((a0x e).toArray));have z:=ρb w (.cells (((a0x e).toArray)) 34)
 generalize y:w.alloc (.cells (((a0x e).toArray)) 34)=W at o z
 have⟨K,j⟩:=ηs w;rw[j]at o;have m:=P4 b3q a8Q (a0x e) o (a0u a);have b:=a5H e a W
 generalize v:(a0x e).toArray=xs at y m b⊢
 have⟨r,B⟩:=η0 (a0D e);rw[B]at b
 have f:r=false\/(r=true/\4611686018427387904<iss):=by
  cases r with
  | false=>exact .inl rfl
  | true=>exact .inr ⟨rfl,h.elim (λh=>by rw[B]at h;cases h) id⟩
 have⟨F,D,p⟩:=η3 y j z;clear y j z v o B h
 rcases f with rfl | ⟨rfl,E⟩
 focus
  go_enter func204,ntmps204;go_upto_region 1 with fail
  rw[F.o,D.o];go_wp2_with fail;refine μ1 b ?_;rintro J G ⟨H,rfl,_,d⟩;have g:=η1 d;clear d;go_wp2;go_ret2;exact⟨rfl,p.trans (g.mono p.size)⟩
 have I:decide (4611686018427387904<iss)=true:=ρw E;clear E;go_enter func204,ntmps204;go_upto_region 1 with fail
 rw[F.o,D.o];go_wp2_with fail;refine μ1 b ?_;rintro J G ⟨H,rfl,_,d⟩;have g:=η1 d;clear d;go_wp2;go_ret2;exact⟨rfl,p.trans (g.mono p.size)⟩
theorem c1g(prev:a0Q)(a:prev.Bd)(first:Bool)(sh ep:Int)(w:WD):
  Calls prog 205 #[.agg (a0b prev).toArray,.bool first,.slice none 0 0,.int .i64 sh,.int .i64 ep] w λx w'=>x=.returned (.tuple #[.agg (a0b a1y).toArray,.bool false])/\Below w w w':=by
 have⟨r,m⟩:=ηs w;have J:=Qd w 37 (((a0b prev).toArray));have B:=ρb w (.cells (((a0b prev).toArray)) 37)
 generalize z:w.alloc (.cells (((a0b prev).toArray)) 37)=W at J B
 have f:W.heap.size=r+1:=by rw[<-z,Qi,m]
 have d:=a6H W;have D:=λX=>b2Y X
 have b:=a0f a1A;have j:=a1p a1y
 generalize v:a0b a1y=zs at d b j⊢
 simp only[v]at D;have p:=Qd W 37 zs.toArray;have E:Below w w (W.alloc (.cells zs.toArray 37)):=B.alloc B.size _
 generalize Q:W.alloc (.cells zs.toArray 37)=V at p E d
 rw[f]at p d;have O:=P9 a1h p (ρy Qc b) zs b j;have K:=p.row_ zs.toArray;have H:=Ql (g:=r+1) E ρo zs.toArray
 generalize y:(a0b prev).toArray=pv at z⊢
 have I:(ALs 37).run prog (w.alloc (.cells pv 37))=.ok (.pointer (r+1:Nat)) V:=by rw[z];exact d
 have⟨F,N,G,o⟩:=η4 K H m b;clear K H m b p E B J Q z d j v y f
 cases first with
 |
  true=>
  go_enter func205,ntmps205;go_upto_region 1 with fail
  rw[G.o];go_wp2;exact bodyPost_ret (a0Z rfl _ _ (r+1) 37 zs F a1S (ρy o.o a1h) rfl (.bool false)) rfl ⟨rfl,N.o⟩
 |
  false=>
  go_enter func205,ntmps205;go_upto_region 1 with fail
  rw[G.o];go_wp2;exact bodyPost_ret (a0Z rfl _ _ (r+1) 37 zs F a1S (ρy o.o a1h) rfl (.bool false)) rfl ⟨rfl,N.o⟩
end
section
def a0O(e:Int)(has:Bool)(c:a0y)(A:OA)(cap:Nat):LV:=[.int .i64 e,.bool has]++a0d c A cap
theorem a0A{c:a0y}(h:c.Bd)(e:Int)(has:Bool)(A:OA)(cap:Nat):(a0O e has c A cap).length=139:=by simp[a0O,a0l h]
theorem a0W(e:Int)(has:Bool)(c:a0y)(A:OA)(cap:Nat):∀v∈a0O e has c A cap,v.oneCell'=true:=by
 intro v a
 rcases Qq.1 a with h | h
 ·simp only[Qo,Qt,or_false]at h
  rcases h with rfl | rfl<;>rfl
 exact a2C _ _ _ v h
abbrev a7d:=ldOf 41
abbrev a1M:=stOf 41
abbrev a1G:=alOf 41
abbrev c1Z:=bdOf 41
theorem a7w:(prog.underlying 41).map a1f=some true:=ρk
theorem a4h:(prog.info? 41).map (·.size)=some 139:=ρk
theorem a5k(w:WD):(ALs 41).run prog w=.ok (.pointer w) (w.alloc (.cells (a0O 0 false a0r none 0).toArray 41)):=a0U (.agg (a0O 0 false a0r none 0).toArray) ρk w
theorem d2M:(((prog.info? 41).bind (·.zero)).map (·.cells.toList))=some (a0O 0 false a0r none 0):=ρk
theorem d2R:a3s prog 41=some [(0,1),(1,1),(2,137)]:=ρk
theorem d0h{c:a0y}(h:c.Bd)(A:OA)(cap:Nat)(w:WD):(BDs 41 #[(1,.bool true),(2,.agg (a0d c A cap).toArray)]).run prog w=.ok (.agg (a0O 0 true c A cap).toArray) w:=by
 have b:=a0l h A cap;have a:=a0l a0B none 0;refine a2H d2R d2M _ _ ?_ w;rw[a0v (off:=1) (size:=1) rfl rfl (by simp[a0O]),a0v (off:=2) (size:=137) rfl (by simp[Value.cells,b]) (by simp[a0O,Value.cells,a]),a1Y]
 congr 1
 unfold a0O
 generalize d:a0d a0r none 0=z at a⊢
 simp[Value.cells,a]
theorem c6i(x:Int)(w:WD):(BDs 41 #[(0,.int .i64 x)]).run prog w=.ok (.agg (a0O x false a0r none 0).toArray) w:=run_build w _ _ _ ρk
theorem d0l(w:WD):(BDs 41 #[]).run prog w=.ok (.agg (a0O 0 false a0r none 0).toArray) w:=run_build w _ _ _ ρk
attribute [local go_sem ↓] a1D a7d a1M a1G c1Z
theorem a5d(c:a0y)(h:c.Bd)(A:OA)(cap:Nat)(w:WD):
  Calls prog 146 #[.agg (a0d c A cap).toArray] w λe w'=>e=.returned (.agg (a0O 0 true c A cap).toArray)/\Below w w w':=by
 have⟨g,D⟩:=ηs w;have F:=Qd w 39 (((a0d c A cap).toArray));have G:=ρb w (.cells (((a0d c A cap).toArray)) 39)
 generalize E:w.alloc (.cells (((a0d c A cap).toArray)) 39)=W at F G
 rw[D]at F;have x:W.heap.size=g+1:=by rw[<-E,Qi,D]
 have a:=a5k W;have j:=a0A a0B 0 false none 0;have⟨B,y⟩:=η0 (a0O 0 false a0r none 0);rw[y]at a j;have f:=F.alloc (.cells B.toArray 41);have r:=Qd W 41 B.toArray;have O:Below w w (W.alloc (.cells B.toArray 41)):=G.alloc G.size _
 generalize hV:W.alloc (.cells B.toArray 41)=V at f r O a
 rw[x]at r a;have Q:=P4 a8j a4U (a0d c A cap) f (a0l h A cap);have R:=d0h h A cap V;have b:=a0A h 0 true A cap;have I:=P9 a4h r (ρy Qc j) (a0O 0 true c A cap) b (a0W _ _ _ _ _);have N:=r.row_ (a0O 0 true c A cap).toArray;have K:=Ql (g:=g+1) O ρo (a0O 0 true c A cap).toArray;have⟨X,z⟩:=η0 ((a0d c A cap).toArray);have⟨T,p⟩:=η0 (a0O 0 true c A cap);rw[z]at E Q R⊢;rw[p]at R b I N K⊢;have S:(ALs 41).run prog (w.alloc (.cells X 39))=.ok (.pointer (g+1:Nat)) V:=by rw[E];exact a
 obtain⟨Z,o,d⟩:=Q8.1 a7w;have⟨U,Q6,Y,J,H,m⟩:=η6 N K D b o d;clear N K D b o d r O G F f hV E a j y z p x;go_enter func146,ntmps146;go_upto_region 1 with fail
 rw[Y.o];go_wp2;refine bodyPost_ret (v:=.agg T.toArray) (a0c rfl _ _ (g+1) _ T Z rfl U H m (ρy J.o a4h)) rfl ?_;exact⟨rfl,Q6.o⟩
end
end Go.Proofs.YtpolljfkceanaaaGreatDoor
