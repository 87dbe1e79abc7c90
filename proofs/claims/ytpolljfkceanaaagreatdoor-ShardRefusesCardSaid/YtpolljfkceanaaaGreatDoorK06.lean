/-
  Contracts of functions, plain laws.
-/
import Derived.Test.YtpolljfkceanaaaGreatDoorK05
namespace Go.Proofs.YtpolljfkceanaaaGreatDoor
open Go.RowKit Go.Shelf Go.Maps Go.Proofs.Tryz
set_option maxRecDepth 100000
set_option maxHeartbeats 64000000
variable {am ep k ser x:Int}{d et ht id l ow:LI}{P:LL}{T a c:LV}{B cap cb n off p s:Nat}{A:OA}{C b v:VL}{g w:WD}
set_option linter.all false
section
attribute [local go_sem ↓] a2t a2s a2n a6i
theorem c3W(d:LI)(hd:Dig d)(L:LL)(f:∀x∈L,Dig x)(A:OA)(c:Nat)(y:L.length<=c)(r:L.length<=1000000)(w:WD)(b:RdR 32 w A (L.map bys))(a:a2x w):
  Calls prog 312 #[.agg (bys d).toArray,.int .i64 1,.int .i64 3,.slice A L.length c] w λe w'=>e=.returned (.tuple #[.agg (bys (c13 d L).1).toArray,.bool (c13 d L).2])/\Below w w w':=by
 have aI:(bys d).length=32:=by rw[a0a,hd.1]
 obtain⟨Z,ba,ae,hz⟩:=P8 (t:=31) iId b1N;have b0:=Qd w 31 ((bys d).toArray);have B0:=ρb w (.cells ((bys d).toArray) 31)
 generalize hW:w.alloc (.cells ((bys d).toArray) 31)=W at b0 B0
 have⟨g,hg⟩:=ηs w;rw[hg]at b0;have b1:=Qd W 31 Z;have B1:Below w w (W.alloc (.cells Z 31)):=B0.alloc B0.size _
 generalize hV:W.alloc (.cells Z 31)=V at b1 B1
 have av:W.heap.size=g+1:=by first | exact hg | (rw[<-hW];simp[hg]) | (rw[<-hW];simp;omega)
 rw[av]at b1;have af:=b0.alloc (.cells Z 31);rw[hV]at af
 rcases Zq L.length with h0 | h0
 ·have E:=P9 iId b1 hz (bys (List.replicate 32 0)) (by simp[bys]) (a0h _)
  have b2:=b1.row_ (bys (List.replicate 32 0)).toArray;have B2:=Ql (g:=g+1) B1 ρo (bys (List.replicate 32 0)).toArray;have a0:=λW=>b1S W
  rw[show c13 d L=(List.replicate 32 0,false) by unfold c13;rw[if_pos h0]];rw[h0];have Y:(bys (List.replicate 32 0)).length=32:=by simp[bys]
  generalize ak:bys (List.replicate 32 0)=ys at E a0 b2 B2 Y⊢
  generalize aa:bys d=xs at hW⊢
  have⟨HW,HV,HG,ai,ac,aF⟩:=η6 hW hV hg b2 B2 Y;clear hW hV hg b2 B2 Y b0 B0 b1 B1 af ae hz av aa ak aI hd b a f y r;go_enter func312,ntmps312;go_upto_region 1 with fail
  rw[HW.o,HV.o,HG.o];go_wp2;exact bodyPost_ret (a0Z rfl _ _ (g+1) 31 ys ai a2i (ρy aF.o iId) rfl (.bool false)) rfl ⟨rfl,ac.o⟩
 obtain⟨m,ay⟩:∃m,L.length=m+1:=⟨L.length-1,by omega⟩;obtain⟨gp,op,rfl,a1,ag⟩:=b m (by simp;omega)
 have az:Dig (L.getD m []):=by
  have:L.getD m []∈L:=by simp[List.getD,show m<L.length by omega]
  exact f _ this
 have⟨be,an⟩:=η0 (L.getD m []);rw[an]at az;have S:(bys be).length=32:=by rw[a0a,az.1]
 have aN:∀X,Below w w X->(LDs 31 (.pointer (some ⟨gp,op+m*32,none⟩))).run prog X=.ok (.agg (bys be).toArray) X:=λX N=>
  a2e a2i iId X gp (op+m*32) (bys be) S (λj v hv=>(N.cell (p:=⟨gp,op+m*32+j,none⟩) a1).trans (ag j v (by
   rw[QS,<-hv,<-an];simp[List.getD,show m<L.length by omega])))
 have aD:c13 d L=(a1n (c12 d (L.take m)).1 be,(c12 d (L.take m)).2):=by
  unfold c13;rw[if_neg ρo,ay,Nat.add_sub_cancel,an]
 rw[aD,ay];have cl:=λX (N:Below w w X)=>c5O d hd (L.take m) (λx hx=>f x (QM hx)) (some ⟨gp,op,none⟩) c (by rw[Qx];omega) (by rw[Qx];omega) X (by rw[List.map_take];exact(b.take m).below N) (a.below N)
 rw[Qx,ay,QY ρo]at cl;have aq:=Dig.c12 d (L.take m);obtain⟨⟨ce,R⟩,aQ⟩:∃p,c12 d (L.take m)=p:=⟨_,rfl⟩;rw[aQ]at aq cl⊢;simp only at aq cl⊢;have ad:(bys ce).length=32:=by rw[a0a,aq.1]
 have al:∀v∈bys ce,v.oneCell'=true:=a0h _;have⟨D,hD⟩:=η0 (a1n ce be);have aR:(bys D).length=32:=by rw[a0a,<-hD];exact(Dig.node _ _).1
 rw[hD];have bg:m+1<=c:=ρo;have bh:((m:Int)+1 == 0)=false:=by rw[beq_eq_false_iff_ne];omega
 have a8:(m:Int)<m+1:=ρo;have aA:=B1.drew;have⟨cs,aH⟩:=η0 (bys ce);rw[aH]at cl ad al;have⟨xs,aa⟩:=η0 (bys d);have Y:xs.length=32:=by rw[<-aa,aI]
 rw[aa]at hW b0 af cl⊢;have⟨ys,ak⟩:=η0 (bys be);have aC:(STs 31 (.pointer V) (.agg (bys be).toArray)).run prog (V.alloc (.cells Z 31)).drew=.ok () (V.alloc (.cells (bys be).toArray 31)).drew:=ae V.drew (bys be) S (a0h _);rw[ak]at aN S aC;have a9:(m:Int)+1<=(c:Int):=ρo;have bc:(0:Int)<=(m:Int):=ρo;have bk:(m:Int)<=1000000:=ρo;have⟨HW,HV,HG,a4,F,a7,aF,bb⟩:=η8 hW hV hg b1 B1 af Y aa;have⟨aZ,aX,HP,aW,aG,a2,a6,aS⟩:=η8 ak aN b a aA az hD aR;have⟨aY,a3,aE,ah⟩:=η4 aq aH al ad;clear hW hV hg b1 B1 af Y aa ak aN b a aA az hD aR aq aH al ad aQ b0 B0 av aI f r ay ag aD h0;go_enter func312,ntmps312;go_upto_region 1 with fail
 rw[HW.o,HV.o,HG.o];go_upto_region 6 with fail
 have⟨S0,O⟩:=η0 ((λX=>(LDs 31 (.pointer (some ⟨gp,op+m*32,none⟩))).run prog X=.ok (.agg ys.toArray) X):WD->Prop);have ao:∀X,Below w w X->S0 X:=λX N=>by rw[<-O];exact aX.o X N
 have⟨ax,B⟩:=η2 O ao;clear O ao;with_reducible refine a4F (λi=>i != 7) S0 ρk ?_
 refine a2b (m:=4) (Lf:=#[true,true,true,true,true,false,false,false,false]) [(0,3),(1,3),(2,3),(4,3),(3,0)] true ρk ρk ρk (λ_=>B.o _ aG.o) ?_;refine εc4 ?_
 iterate 1 (with_reducible refine a3M (o:=?_) (v:=?_) (a':=?_) ρu ρu (λW' hS=>?_) ?_ ?_;rotate_left 2;(focus(rw[<-ax.o]at hS;exact ρs));focus(exact ρs))
 with_reducible refine a2m ?_
 refine a3O (i:=5) (j:=6) ρk ?_ ?_
 focus
  with_reducible refine a2k (J:=(λi=>i != 7)) (oi:=?_) ρu ρu (λK H=>?_)
  refine ψ ?_;go_simp;have aj:=b3L V.drew;refine μf aj ?_;clear aj;with_reducible refine H _ _ (B.o _ aG.o) ?_;clear H K
  refine a1c [(6,1),(7,2),(8,3)] true ρk ρk ρk (λ_=>B.o _ aG.o) ?_;refine κ ?_;intro K H;with_reducible refine H _ _ (B.o _ (F.o.alloc F.o.size _).drew) ?_;clear H K
  refine τ1 ?_;refine ε1 ?_;refine ν ?_
 rotate_left
 focus
  with_reducible refine a2k (J:=(λi=>i != 7)) (oi:=?_) ρu ρu (λK H=>?_)
  refine ψ ?_;go_simp;with_reducible refine H _ _ (B.o _ (F.o.alloc F.o.size _).drew) ?_;clear H K
  refine a1c [(5,1),(7,2),(8,3)] true ρk ρk ρk (λ_=>B.o _ (F.alloc F.size _).drew) ?_;refine κ ?_;intro K H;have aj:=b3L (V.alloc (.cells Z 31)).drew;refine μf aj ?_;clear aj;with_reducible refine H _ _ (B.o _ (F.o.alloc F.o.size _).drew) ?_;clear H K
  refine τ1 ?_;refine ε1 ?_;refine ν ?_
 all_goals
  clear aC B ax S0;have b2:=(Qd V 31 ys.toArray).drew;have B2:=(F.alloc F.size (.cells ys.toArray 31)).drew;have ar:=(a7.alloc (.cells ys.toArray 31)).drew;have aL:=(a4.alloc (.cells ys.toArray 31)).drew;have⟨h,hh⟩:=ηs V
  generalize hU:(V.alloc (.cells ys.toArray 31)).drew=U at b2 B2 ar aL⊢
  rw[hh]at b2⊢;have aO:=λX (N:Below U U X)=>P4 a2i iId xs (ar.fr (Q9 N) (ρh ar.lt)) aF.o
  have⟨S0,O⟩:=η0 ((λX=>(LDs 31 (.pointer g)).run prog X=.ok (.agg xs.toArray) X):WD->Prop);have ao:∀X,Below U U X->S0 X:=λX N=>by rw[<-O];exact aO X N
  have bi:(m:Int)<=(c:Int):=ρo;have aK:=cl U.drew B2.drew;have aJ:=cl (U.alloc (.cells Z 31)).drew (B2.alloc B2.size _).drew;have aP:=(Qd U 31 Z).drew;have⟨ai,ac,bl,aM,ax,B,a5⟩:=η7 b2 B2 ar aL O ao aP;clear b2 B2 ar aL O ao aP hh hU aO cl;go_upto_region 8 with fail
  with_reducible refine a4F (λi=>i != 6&&i != 11) S0 ρk ?_
  refine a2b (m:=7) (Lf:=#[true,true,true,true,true,true,false,false,false,false,false,false,false]) [(1,3),(2,3),(3,3),(4,3),(5,3),(0,0)] true ρk ρk ρk (λ_=>B.o _ (Qf _ _).drew) ?_;refine εc4 ?_;refine εc1 ?_
  iterate 1 (with_reducible refine a3M (o:=?_) (v:=?_) (a':=?_) ρu ρu (λW' hS=>?_) ?_ ?_;rotate_left 2;(focus(rw[<-ax.o]at hS;exact ρs));focus(exact ρs))
  with_reducible refine a2m ?_
  refine a3O (i:=6) (j:=10) ρk ?_ ?_
  focus
   with_reducible refine b2d (J:=(λi=>i != 6&&i != 11)) (oi:=?_) ρu ρu ρd (λK H=>?_)
   refine ψ ?_;go_simp;refine μi aK ?_;intro I G;have E:=ae I cs ah aE;have z:Below U U I:=(Qf _ U).drew.trans G;have q1:=Qd I 31 cs.toArray;have q2:=(φf ai z).alloc (.cells cs.toArray 31);have q3:=(φf aM z).alloc (.cells cs.toArray 31);have q4:=(φt ac z).alloc (φt ac z).size (.cells cs.toArray 31);have T:=z.alloc z.size (.cells Z 31);have⟨X,N⟩:=η0 (I.alloc (.cells cs.toArray 31));have⟨hx,ab⟩:=ηs I;rw[N]at q1 q2 q3 q4 E;rw[ab]at q1 E;have⟨Q1,Q2,Q3,Q4,aU,aB⟩:=η6 q1 q2 q3 q4 ab T;clear q1 q2 q3 q4 ab T G z aK aJ N;with_reducible refine H _ _ ?_;clear H K
   refine a1c [(7,3),(8,3),(9,3),(10,1),(11,2),(12,3)] false ρk ρk ρk ρp ?_;refine ε3 ?_;refine κ1 (B.o _ aB.o) ?_;rw[aU.o];refine τ1 ?_;refine ε1 ?_;refine ν ?_;clear E aB aU
  rotate_left
  focus
   with_reducible refine a2k (J:=(λi=>i != 6&&i != 11)) (oi:=?_) ρu ρu (λK H=>?_)
   refine ψ ?_;go_simp;with_reducible refine H _ _ (B.o _ (ρb U _).drew) ?_;clear H K
   refine a1c [(6,2),(7,3),(8,3),(9,3),(11,2),(12,3)] true ρk ρk ρk (λ_=>B.o _ (ρb U _).drew) ?_;refine τ ?_;intro K H;refine μi aJ ?_;intro I G;have z:Below U U I:=(ρb U _).drew.trans (G.mono ρp);have T:=φf a5 G;have E:=P9 iId T hz cs ah aE;have aV:=φt ac z;have aT:w.heap.size<=U.heap.size:=ac.size;have q1:=T.row_ cs.toArray;have q2:=(φf ai z).rowFar (g':=U.heap.size) (ρh ai.o.lt) cs.toArray;have q3:=(φf aM z).rowFar (g':=U.heap.size) (ρh aM.o.lt) cs.toArray;have q4:=Ql (g:=U.heap.size) aV aT cs.toArray;have⟨X,N⟩:=η0 (I.setRow U.heap.size cs.toArray);have⟨hx,ab⟩:=ηs U;rw[N]at q1 q2 q3 q4 E;rw[ab]at q1 E⊢;have⟨Q1,Q2,Q3,Q4⟩:=η4 q1 q2 q3 q4;clear q1 q2 q3 q4 G z aK aJ N ab aV aT T;with_reducible refine H _ _ ?_;clear H K
   refine ε3 ?_;refine τ1 ?_;refine ε1 ?_;refine ν ?_;clear E
  all_goals
   have bj:=P4 a2i iId ys Q2 S;have bf:=P4 a2i iId cs Q1 ah;have Q:=b3b ce be aY a2 X (aW.below Q4);rw[a6.o,a3.o,aZ.o]at Q;go_wp2_with fail;refine μi Q ?_;intro bm au;have q5:=φf Q3 au;have E:=P9 iId q5 hz (bys D) aS.o (a0h _);have q6:=q5.row_ (bys D).toArray;have q7:=Ql (g:=g+1) (φt Q4 au) (ρh HG.o) (bys D).toArray;have⟨Q6,Q7⟩:=η2 q6 q7;clear q6 q7 au q5 Q;go_wp2;exact bodyPost_ret (a0Z rfl _ _ (g+1) 31 (bys D) Q6.o a2i (ρy aS.o iId) rfl (.bool R)) rfl ⟨rfl,Q7.o⟩
def a6t(e:LI)(L:LL):LI×Bool:=if(c13 (a0R e) L).2=true then((c13 (a0R e) L).1,true)else(List.replicate 32 0,false)
theorem Dig.climb(e:LI)(L:LL):Dig (a6t e L).1:=by
 unfold a6t
 split
 ·exact Dig.c13 _ _
 exact ZZ
theorem c9k(d:LI)(L:LL):(c13 d L).2=decide (L.length=2)/\(L.length=2->(c13 d L).1=a1n (a1n (L.getD 0 []) d) (L.getD 1 [])):=by
 match L with
 | []=>exact⟨rfl,λh=>by cases h⟩
 | [a]=>exact⟨by simp[c13,c12],λh=>by cases h⟩
 | [a,b]=>exact⟨by simp[c13,c12],λ_=>by simp[c13,c12]⟩
 | a::b::x::L=>exact⟨by simp[c13,c12],λh=>by simp at h⟩
theorem c2v(e:LI)(L:LL)(root:LI):((a6t e L).2&&decide ((a6t e L).1=root))=(decide (L.length=2)&&decide (a1n (a1n (L.getD 0 []) (a0R e)) (L.getD 1 [])=root)):=by
 obtain⟨a,b⟩:=c9k (a0R e) L
 by_cases h:L.length=2
 ·rw[show a6t e L=((c13 (a0R e) L).1,true) by unfold a6t;rw[if_pos (by rw[a];simpa using h)]]
  simp only[b h,h,decide_true]
 rw[show a6t e L=(List.replicate 32 0,false) by unfold a6t;rw[if_neg (by rw[a];simpa using h)]];simp[h]
theorem c2d(d:OA)(f:Nat)(b:d=none->f=0)(e:LI)(j:e.length<=400000000)(L:LL)(o:∀x∈L,Dig x)(A:OA)(c:Nat)(r:L.length<=c)(y:L.length<=1000000)(w:WD)(z:Byt w d e)(B:RdR 32 w A (L.map bys))(a:a2x w):
  Calls prog 293 #[.slice d e.length f,.int .i64 1,.int .i64 3,.slice A L.length c] w λx w'=>x=.returned (.tuple #[.agg (bys (a6t e L).1).toArray,.bool (a6t e L).2])/\Below w w w':=by
 obtain⟨Z,al,I,hz⟩:=P8 (t:=31) iId b1N;have b0:=Qd w 31 Z;have Q:=ρb w (.cells Z 31)
 generalize hW:w.alloc (.cells Z 31)=W at b0 Q
 have⟨g,hg⟩:=ηs w;rw[hg]at b0;have G:=b7d d f b e W (z.below Q) j (a.below Q);have F:=λX (hX:Below W.heap.size W X)=>c3W (a0R e) (Dig.leaf e) L o A c r y X ((B.below Q).below hX) ((a.below Q).below hX)
 have K:=Dig.c13 (a0R e) L;have T:a6t e L=(if(c13 (a0R e) L).2=true then((c13 (a0R e) L).1,true)else(List.replicate 32 0,false)):=rfl;rw[T];have⟨n,hn⟩:=η0 e.length;have⟨m,aa⟩:=η0 L.length;rw[hn]at G⊢;rw[aa]at F⊢
 generalize af:a0R e=lf at G F K⊢
 obtain⟨⟨D,R⟩,Y⟩:∃p,c13 lf L=p:=⟨_,rfl⟩;rw[Y]at F K⊢;simp only at F K⊢;have S:(bys D).length=32:=by rw[a0a,K.1]
 cases R with
 |
  true=>
  rw[if_pos rfl];have⟨HW,HG,HB,ab,J,ad⟩:=η6 hW hg Q b0 S F;clear hW hg Q b0 S F K T Y af hn aa r y j z B a o b;go_enter func293,ntmps293;go_upto_region 3 with fail
  rw[HW.o,HG.o];go_wp2_with fail;refine μi G ?_;intro w1 H;have F:=ad.o w1 H;have ac:=η1 H;clear H G;go_wp2_with fail;refine μi F ?_;intro w2 O;have E:=φt ac O;have q1:=(Qd w2 31 (bys D).toArray);have q0:=(φf ab E).alloc (.cells (bys D).toArray 31);have q2:=(φt HB E).alloc (φt HB E).size (.cells (bys D).toArray 31);have N:=I w2 (bys D) J.o (a0h _)
  generalize hX:w2.alloc (.cells (bys D).toArray 31)=X at q1 q0 q2 N
  have ak:=P4 a2i iId (bys D) q1 J;have ag:=P9 iId q0 hz (bys D) J.o (a0h _);have q3:=q0.row_ (bys D).toArray;have q4:=Ql (g:=g) q2 (ρh HG.o) (bys D).toArray;have⟨Q3,Q4⟩:=η2 q3 q4;clear q3 q4 O E q1 q0 q2 hX F I;go_wp2;exact bodyPost_ret (a0Z rfl _ _ g 31 (bys D) Q3.o a2i (ρy J.o iId) rfl (.bool true)) rfl ⟨rfl,Q4.o⟩
 |
  false=>
  rw[if_neg ρp];have aj:=λW=>b1S W
  have V:(bys (List.replicate 32 0)).length=32:=by simp[bys]
  have U:∀v∈bys (List.replicate 32 0),v.oneCell'=true:=a0h _
  generalize ai:bys (List.replicate 32 0)=ys at aj V U⊢
  have⟨HW,HG,HB,ab,J,ad,ae,ah⟩:=η8 hW hg Q b0 S F V U;clear hW hg Q b0 S F V U K T Y af hn aa r y j z B a o b ai;go_enter func293,ntmps293;go_upto_region 3 with fail
  rw[HW.o,HG.o];go_wp2_with fail;refine μi G ?_;intro w1 H;have F:=ad.o w1 H;have ac:=η1 H;clear H G;go_wp2_with fail;refine μi F ?_;intro w2 O;have E:=φt ac O;have q0:=(φf ab E).alloc (.cells (bys D).toArray 31);have q2:=(φt HB E).alloc (φt HB E).size (.cells (bys D).toArray 31);have N:=I w2 (bys D) J.o (a0h _)
  generalize hX:w2.alloc (.cells (bys D).toArray 31)=X at q0 q2 N
  have ag:=P9 iId q0 hz ys ae ah;have q3:=q0.row_ ys.toArray;have q4:=Ql (g:=g) q2 (ρh HG.o) ys.toArray;have⟨Q3,Q4⟩:=η2 q3 q4;clear q3 q4 O E q0 q2 hX F I;go_wp2;exact bodyPost_ret (a0Z rfl _ _ g 31 ys Q3 a2i (ρy ae.o iId) rfl (.bool false)) rfl ⟨rfl,Q4.o⟩
end
section
attribute [local go_sem ↓] a1l b8t b2v a2t a2s a2n
theorem b4y(l:LI):∀i,StE (a2l l i).2
 | 0=>trivial
 |
  i+1=>by
  rw[a3N];have h:=b4y l i
  rcases i with _ | _ | _ | _ | i
  ·exact a1L h
  ·exact a1L h
  ·exact a1L h
  ·exact a5W h
  exact a5W h
def a2S(l:LI):St:=
 match(a2l l 5).2 with
 | .error x=>.error x
 | .ok r=>if r=[]/\(a2l l 5).1.ht=0 then .error 3 else .ok r
theorem a5B{i:Nat}(hi:i<=5)(h:(a2l l i).2=.error x):a2S l=.error x:=by
 have:=b4r h (5-i)
 rw[show i+(5-i)=5 by omega]at this;unfold a2S;rw[this]
theorem b8B(l:LI):StE (a2S l):=by
 have h:=b4y l 5;unfold a2S
 revert h
 cases(a2l l 5).2 with
 | error x=>exact id
 |
  ok r=>
  intro _;simp only
  split
  ·simp[StE]
  trivial
theorem c0c{r:LI}(h:a2S l=.ok r):(a2l l 5).2=.ok r/\¬(r=[]/\(a2l l 5).1.ht=0):=by
 unfold a2S at h
 revert h
 cases(a2l l 5).2 with
 | error x=>intro h;cases h
 |
  ok q=>
  intro h;simp only at h
  split at h
  ·cases h
  rename_i hn
  cases h
  exact⟨rfl,hn⟩
theorem c2R(p s:Nat)(l:LI)(b:l.length<=400000000)(w:WD)(h:a0S w p s l)(d:p<w.heap.size)(f:s<w.heap.size):
  Calls prog 124 #[.pointer p] w λe w'=>b5o p s (a2S l) (.agg (a0b (a2l l 5).1).toArray) e w'/\Fr (λk=>k=p) w w':=by
 have⟨g,hg⟩:=ηs w;have U:=a6H w;have v0:=a4N.start (t:=37) (cs:=(a0b a1y).toArray) h d f
 generalize hW:w.alloc (.cells (a0b a1y).toArray 37)=W at v0 U
 rw[hg]at v0 U;have m:p<g:=ρo;have O:s<g:=ρo;have B:=a5w p s l 63 ρo (by have:l.length<=400000000:=b;omega) W v0.eye;obtain⟨y,s1,h1⟩:∃v st,a0o 63 (.ok l)=(v,st):=⟨_,_,rfl⟩;have an:=a0P 63 (.ok l);have ae:=a1b (most:=63) (st:=.ok l) (n:=400000000) b;rw[h1]at B an ae;rw[show((63:Nat):Int)=63 from rfl]at B;simp only at B an ae
 have p1:a2l l 1=(⟨(y:Int),0,0,List.replicate 32 0,List.replicate 32 0⟩,s1):=by
  rw[a3N];simp only[b1E,a2l,a1y,h1]
 have aQ:=a1r an ρo;have⟨HW,T,V0,aO,aJ⟩:=η5 hW hg v0 p1 ae;clear hW hg v0 p1 ae h h1;go_enter func124,ntmps124;go_upto_region 1 with fail
 clear U;go_wp2_with fail;refine μ1 B ?_;rintro e w1 ⟨G,f1⟩
 cases s1 with
 |
  error x=>
  obtain rfl:=G;refine⟨rfl,?_,V0.fr.trans f1 (λ_ _ e=>e)⟩;rw[a5B (i:=1) (x:=x) ρo (by rw[aO.o])]
  rfl
 |
  ok l1=>
  obtain⟨rfl,av⟩:=G;have v1:=V0.step T m f1 av;have D:=a5w p s l1 1099511627776 ρo (by have:l1.length<=400000000:=aJ.o;omega) w1 v1.eye;obtain⟨o,s2,h2⟩:∃v st,a0o 1099511627776 (.ok l1)=(v,st):=⟨_,_,rfl⟩;have Y:=a0P 1099511627776 (.ok l1);have Z:=a1b (most:=1099511627776) (st:=.ok l1) (n:=400000000) aJ.o;rw[h2]at D Y Z;rw[show((1099511627776:Nat):Int)=1099511627776 from rfl]at D;simp only at D Y Z
  have p2:a2l l 2=(⟨(y:Int),(o:Int),0,List.replicate 32 0,List.replicate 32 0⟩,s2):=by
   rw[a3N,aO.o];simp only[b1E,h2]
  have aU:=a1r Y ρo;have⟨V1,ax,aE⟩:=η3 v1 p2 Z;clear v1 p2 Z h2 av f1 B;go_wp2_with fail;refine μ1 D ?_;rintro e w2 ⟨G,f2⟩
  cases s2 with
  |
   error x=>
   obtain rfl:=G;refine⟨rfl,?_,V1.fr.trans f2 (λ_ _ e=>e)⟩;rw[a5B (i:=2) (x:=x) ρo (by rw[ax.o])]
   rfl
  |
   ok l2=>
   obtain⟨rfl,aP⟩:=G;have v2:=V1.step T m f2 aP;have z:=a5w p s l2 1099511627776 ρo (by have:l2.length<=400000000:=aE.o;omega) w2 v2.eye;obtain⟨F,s3,h3⟩:∃v st,a0o 1099511627776 (.ok l2)=(v,st):=⟨_,_,rfl⟩;have al:=a0P 1099511627776 (.ok l2);have aa:=a1b (most:=1099511627776) (st:=.ok l2) (n:=400000000) aE.o;rw[h3]at z al aa;rw[show((1099511627776:Nat):Int)=1099511627776 from rfl]at z;simp only at z al aa
   have p3:a2l l 3=(⟨(y:Int),(o:Int),(F:Int),List.replicate 32 0,List.replicate 32 0⟩,s3):=by
    rw[a3N,ax.o];simp only[b1E,h3]
   have aV:=a1r al ρo;have⟨V2,az,aI⟩:=η3 v2 p3 aa;clear v2 p3 aa h3 aP f2 D;go_wp2_with fail;refine μ1 z ?_;rintro e w3 ⟨G,f3⟩
   cases s3 with
   |
    error x=>
    obtain rfl:=G;refine⟨rfl,?_,V2.fr.trans f3 (λ_ _ e=>e)⟩;rw[a5B (i:=3) (x:=x) ρo (by rw[az.o])]
    rfl
   |
    ok l3=>
    obtain⟨rfl,aC⟩:=G;have v3:=V2.step T m f3 aC;have c0:w3.cell? ⟨g,0,none⟩=some (.int .i64 0):=v3.var.cell 0;have c1:w3.cell? ⟨g,1,none⟩=some (.int .i64 0):=v3.var.cell 1;have c2:w3.cell? ⟨g,2,none⟩=some (.int .i64 0):=v3.var.cell 2;have z0:=v3.var.frozen 0;have z1:=v3.var.frozen 1;have z2:=v3.var.frozen 2;have v4:=((v3.store T m O 0 (.int .i64 y)).store T m O 1 (.int .i64 o)).store T m O 2 (.int .i64 F);rw[b2a,b1Q,b9l]at v4;replace v4:a4N 37 g p s w _ (a0b ⟨(y:Int),(o:Int),(F:Int),List.replicate 32 0,List.replicate 32 0⟩).toArray l3:=v4
    generalize aq:((w3.setCell ⟨g,0,none⟩ (.int .i64 y)).setCell ⟨g,1,none⟩ (.int .i64 o)).setCell ⟨g,2,none⟩ (.int .i64 F)=w4 at v4
    have⟨V4,aS⟩:=η2 v4 aq;clear v4 aq v3 aC f3 z;go_upto_region 2 with fail
    rw[aS.o];clear c0 c1 c2 z0 z1 z2 aQ aU aV;have N:=c4T p s l3 (by have:l3.length<=400000000:=aI.o;omega) w4 V4.eye (ρh V4.o.var.lt) (ρh V4.o.var.lt);obtain⟨Q,s4,h4⟩:∃v st,idT (.ok l3)=(v,st):=⟨_,_,rfl⟩;have H:=a1R (.ok l3);have ad:=a3U (st:=.ok l3) (n:=400000000) aI.o;rw[h4]at N H ad;simp only at N H ad
    have p4:a2l l 4=(⟨(y:Int),(o:Int),(F:Int),Q,List.replicate 32 0⟩,s4):=by
     rw[a3N,az.o];simp only[b1E,h4]
    have⟨aA,aK⟩:=η2 p4 ad;clear p4 ad h4;go_wp2_with fail;refine μ1 N ?_;rintro e w5 ⟨G,f5⟩
    cases s4 with
    |
     error x=>
     obtain rfl:=G;refine⟨rfl,?_,V4.fr.trans f5 (λ_ _ e=>e)⟩;rw[a5B (i:=4) (x:=x) ρo (by rw[aA.o])]
     rfl
    |
     ok l4=>
     obtain⟨rfl,aM⟩:=G;have v5:=V4.step T m f5 aM;have I:=c4T p s l4 (by have:l4.length<=400000000:=aK.o;omega) w5 v5.eye (ρh v5.var.lt) (ρh v5.var.lt);obtain⟨d5,s5,h5⟩:∃v st,idT (.ok l4)=(v,st):=⟨_,_,rfl⟩;have S:=a1R (.ok l4);have ac:=a3U (st:=.ok l4) (n:=400000000) aK.o;rw[h5]at I S ac;simp only at I S ac
     have p5:a2l l 5=(⟨(y:Int),(o:Int),(F:Int),Q,d5⟩,s5):=by
      rw[a3N,aA.o];simp only[b1E,h5]
     generalize af:(bys Q).toArray=tv4
     have⟨V5,ab,a0,aF⟩:=η4 v5 p5 ac af;clear v5 p5 ac af h5 aM f5 N;go_wp2_with fail;refine μ1 I ?_;rintro e w6 ⟨G,f6⟩
     cases s5 with
     |
      error x=>
      obtain rfl:=G;refine⟨rfl,?_,V5.fr.trans f6 (λ_ _ e=>e)⟩;rw[a5B (i:=5) (x:=x) ρo (by rw[ab.o])]
      rfl
     |
      ok l5=>
      obtain⟨rfl,aD⟩:=G;have v6:=V5.step T m f6 aD;have aj:(List.replicate 32 (0:Int)).length=32:=List.length_replicate;have K:=Pa a5m v6.var (off:=3) (bys Q) (ρy a0a H) (by rw[Qc];simp[a0b,a0a]) (a0h _);rw[b3S (h:=⟨(y:Int),(o:Int),(F:Int),List.replicate 32 0,List.replicate 32 0⟩) aj aj H,aF.o]at K;have v7:=v6.row T m O (a0b ⟨(y:Int),(o:Int),(F:Int),Q,List.replicate 32 0⟩).toArray
      generalize aN:w6.setRow g (a0b ⟨(y:Int),(o:Int),(F:Int),Q,List.replicate 32 0⟩).toArray=w7 at v7
      replace K:=K.trans (show _=Result.ok () w7 by rw[<-aN]);have E:=Pa a5m v7.var (off:=35) (bys d5) (ρy a0a S) (by rw[Qc];simp[a0b,a0a,H]) (a0h _);rw[b8T (h:=⟨(y:Int),(o:Int),(F:Int),Q,List.replicate 32 0⟩) H aj S]at E;have v8:=v7.row T m O (a0b ⟨(y:Int),(o:Int),(F:Int),Q,d5⟩).toArray
      generalize aG:w7.setRow g (a0b ⟨(y:Int),(o:Int),(F:Int),Q,d5⟩).toArray=w8 at v8
      replace E:=E.trans (show _=Result.ok () w8 by rw[<-aG]);have au:=λ(G:a0S w8 p s l5)=>G.choose_spec.choose_spec.1
      have j:=b5v p _ _ l5 w8 (au v8.eye);have aZ:w8.cell? ⟨g,1,none⟩=some (.int .i64 o):=v8.var.cell 1;have R:(a0b ⟨(y:Int),(o:Int),(F:Int),Q,d5⟩).length=67:=by simp[a0b,a0a,H,S]
      have aR:=Pb a1S a1h _ v8.var R;have ag:=P7 a1h v8.var (ρy Qc R) (a0b ⟨(y:Int),(o:Int),(F:Int),Q,d5⟩) R (a1p _);have v9:=v8.row T m O (a0b ⟨(y:Int),(o:Int),(F:Int),Q,d5⟩).toArray;have⟨xs,ao⟩:=η0 (a0b ⟨(y:Int),(o:Int),(F:Int),Q,d5⟩);have⟨aX,ah⟩:=η0 ((bys d5).toArray);rw[ao]at aR ag v9 R;rw[ah]at E⊢
      generalize ar:w8.setRow g xs.toArray=w9 at ag v9
      have⟨V8,V9,aB,aT,aW⟩:=η5 v8 v9 R ao ar;clear v8 v9 R ao ar v6 v7 aD f6 I au aN aG ah;go_upto_region 3 with fail
      clear K E
      by_cases hz:l5=[]/\o=0
      ·obtain⟨rfl,rfl⟩:=hz
       replace j:Calls prog 114 #[.pointer p] w8 λe w'=>e=.returned (.int .i64 0)/\w'=w8:=j
       go_wp2_with fail;refine μi j ?_;intro aL X;rw[X];clear X j;go_wp2_with fail;refine(a5J _ 3 rfl w8).mono ?_;rintro e w' ⟨rfl,X⟩;rw[X];refine⟨rfl,?_,V8.fr⟩;unfold a2S;rw[ab.o]
       rfl
      have hk:(l5.length == 0&&o == 0)=false:=by
       cases l5 with
       | nil=>simpa using hz
       | cons a r=>simp
      have ak:a2S l=.ok l5:=by
       unfold a2S;rw[ab.o];exact if_neg (ρw hz)
      have J:b5o p s (a2S l) (.agg (a0b (a2l l 5).1).toArray) (.returned (.agg xs.toArray)) w9:=by
       rw[ak,ab.o];exact⟨by rw[<-aT.o],V9.eye⟩
      obtain⟨dT,ay,aH⟩:=Q8.1 a1S
      by_cases ai:l5=[]
      ·subst ai
       have Y:((o:Int) == 0)=false:=by simp at hk;simpa using hk
       replace j:Calls prog 114 #[.pointer p] w8 λe w'=>e=.returned (.int .i64 0)/\w'=w8:=j
       have V:=η1 J;clear J ak hz hk;go_wp2_with fail;refine μi j ?_;intro aL X;rw[X];clear X j;go_wp2;refine bodyPost_ret (a0c rfl _ _ g 37 xs dT rfl V9.var ay aH (ρy aB.o a1h)) rfl ?_;exact⟨V,V9.fr⟩
      have⟨n,hn⟩:=η0 l5.length
      have aY:((n:Int) == 0)=false:=by
       have:n≠0:=by rw[<-hn];simpa using ai
       simpa using this
      rw[hn]at j;have V:=η1 J;clear J ak hz hk ai hn;go_wp2_with fail;refine μi j ?_;intro aL X;rw[X];clear X j;go_wp2;refine bodyPost_ret (a0c rfl _ _ g 37 xs dT rfl V9.var ay aH (ρy aB.o a1h)) rfl ?_;exact⟨V,V9.fr⟩
theorem b8Z(p s a:Nat)(l:LI)(f:l.length<=400000000)(Z:AV)(g:Z.size=67)(w:WD)(h:a0S w p s l)(j:p<w.heap.size)(m:s<w.heap.size)(d:s≠a)(b:Blk w a 37 Z):
  Calls prog 123 #[.pointer p,.pointer a] w λe w'=>a6D p s (a2S l) e w'/\Fr (λk=>k=a\/k=p) w w'/\∀r,a2S l=.ok r->Blk w' a 37 (a0b (a2l l 5).1).toArray:=by
 have D:=c2R p s l f w h j m;have y:p≠a:=h.far b ρd
 have B:∀r,a2S l=.ok r->(a0b (a2l l 5).1).length=67:=λr W=>by
  obtain⟨A,c,O,_⟩:=h;exact a0f ((a8L O.by_.bd 5).2)
 have⟨st,o⟩:=η0 (a2S l);have⟨N,z⟩:=η0 (a0b (a2l l 5).1);have F:∀v∈N,v.oneCell'=true:=by rw[<-z];exact a1p _
 rw[o,z]at D B⊢;have⟨HT,U⟩:=η2 b F;clear b F o z h;go_enter func123,ntmps123;go_wp2_with fail;refine μ1 D ?_;rintro e Y ⟨O,K⟩;have E:=HT.fr K (λe=>y e.symm)
 cases st with
 |
  error x=>
  obtain rfl:=O;exact⟨rfl,rfl,K.mono (λ_ _ e=>.inr e),λr W=>by cases W⟩
 |
  ok r=>
  obtain⟨rfl,J⟩:=O;have Q:=B r rfl;have V:=P7 a1h E g N Q U;have S:=ρr (a) Y N.toArray;have I:=E.row_ N.toArray;have H:=J.fr S (show¬_=_ from y) (show¬_=_ from d);have X:=(K.mono (G:=λk=>k=a\/k=p) (λ_ _ e=>.inr e)).trans S (λk hk e=>.inl e);have⟨T,R,F2⟩:=η3 I H X;clear I H X E S J K D B;go_wp2;go_end0;exact⟨⟨rfl,R.o⟩,F2.o,λ_ _=>T.o⟩
attribute [local go_sem ↓] a5P
theorem b4m(args:AV)(w:WD):(callFunc 123 args).run prog w=.ok (.enter 123 args) w:=ρk
def a8h(l:LI)(e:Ending):Prop:=
 match b0w l with
 | .error x=>e=.returned (.tuple #[.agg (a0b a1y).toArray,.int .i64 x])/\(x != 0)=true
 | .ok d=>e=.returned (.tuple #[.agg (a0b d).toArray,.int .i64 0])
theorem c1D(h:a8t (a2S l)≠0):b0w l=.error (a8t (a2S l)):=by
 unfold b0w;unfold a2S at h⊢
 cases hs:(a2l l 5).2 with
 | error x=>rfl
 |
  ok r=>
  rw[hs]at h;simp only at h⊢
  by_cases a:r=[]
  ·subst a
   by_cases b:(a2l l 5).1.ht=0
   ·simp[b,a8t]
   simp[b,a8t]at h
  have:0<r.length:=Ym.2 a
  simp[a8t,a,this]
theorem b4J(A:OA)(c:Nat)(a:A=none->c=0)(l:LI)(d:l.length<=400000000)(w:WD)(b:Byt w A l):
  Calls prog 65 #[.slice A l.length c] w λe w'=>a8h l e/\Below w w w':=by
 have aD:∀(fn:Fn) (first cap:AV) (w:WD),(Instr.makeFunc fn first cap).run prog w=.ok (.func fn first cap) w:=λ_ _ _ _=>rfl
 have⟨f,z⟩:=η0 ((a0b a1y).toArray);have H:f.size=67:=by rw[<-z,Qc,a0f a1A]
 have I:=a6H;simp only[z]at I;have az:∀W:WD,(BDs 37 #[]).run prog W=.ok (.agg f) W:=by rw[<-z];exact b2Y
 have⟨g,hg⟩:=ηs w;have b0:=Qd w 37 f;have B0:=ρb w (.cells f 37);have y:=I w;have⟨W,hW⟩:=η0 (w.alloc (.cells f 37));have ag:W.heap.size=g+1:=by rw[<-hW,<-hg];simp
 rw[hW]at b0 B0 y;rw[hg]at b0 y;have b1:=Qd W 37 f;have Q:=b0.alloc (.cells f 37);have B1:=B0.alloc B0.size (.cells f 37);have F:=I W
 generalize hV:W.alloc (.cells f 37)=V at b1 Q B1 F
 rw[ag]at b1 F;have ae:V.heap.size=g+2:=by rw[<-hV];simp;omega
 have T:=a6Q 123 #[.pointer (g+1:Nat)] b4m A c a l d V (b.below B1) (λk=>k=g+1) (λk hk=>ρo) (a2S l)
  (λ_ w3=>∀r,a2S l=.ok r->Blk w3 (g+1) 37 (a0b (a2l l 5).1).toArray)
  (λp s w2 hB hp hs aC ar he=>b8Z p s (g+1) l d f H w2 he ar ρo ρo (b1.fr (Q9 hB) ρo))
 have x:=b0L (b8B l);have U:=c1D (l:=l);have⟨ev,ai⟩:=η0 (a8t (a2S l));rw[ai]at T x U;have⟨aj,au,HG,ab,ak,ay,HZ,HY⟩:=η8 Q B1 hg ae x U H b;have af:=η1 z;clear Q B1 hg ae x U H b z b0 B0 b1 hW ag hV I ai;go_enter func65,ntmps65;go_upto_region 2 with fail
 clear y F;go_wp2_with fail;refine μ1 T ?_;rintro e w1 ⟨rfl,f1,w2,w3,aa,aA,hK,f3⟩;have an:=aj.fr f1 (show¬_=_ by omega);have Z:Below w w w1:=au.trans (f1.below (B:=w.heap.size) (ρi ab.o HG.o) (λk hk e=>by have:=HG.o;omega));obtain⟨dT,Y,ad⟩:=Q8.1 a1S;have⟨HB,al,ax,HK,aB⟩:=η5 an Z f3 hK aa;clear an Z f3 hK aa f1 T
 by_cases m:ev=0
 ·have O:=ak.1 m
  have ac:=(HK.o _ O).fr ax.o (show¬_=_ by have:=ab.o;omega);have J:(a0b (a2l l 5).1).length=67:=a0f ((a8L HY.bd 5).2);have ao:=Pb a1S a1h _ ac J;subst m
  have D:b0w l=.ok (a2l l 5).1:=by
   obtain⟨h1,h2⟩:=c0c O;unfold b0w;rw[h1];exact if_neg (by rintro(h | h);simp at h;exact h2 ⟨rfl,h⟩)
  have E:=P7 a1h HB HZ (a0b (a2l l 5).1) J (a1p _);have⟨xs,K⟩:=η0 ((a0b (a2l l 5).1).toArray);have ah:xs.size=67:=by rw[<-K,Qc,J]
  rw[K]at E ao;have G:=HB.row_ xs;have o:=Ql (g:=g) al.o (ρh HG.o) xs;have⟨R,N,S,av,aq⟩:=η5 D G o ah K;clear D G o ah K ac J O;go_wp2;refine bodyPost_ret (v:=.tuple #[.agg xs,.int .i64 0]) (a0k rfl _ _ g _ _ (0,0) N.o Y ad (ρy av.o a1h) rfl) rfl ?_;refine⟨?_,S.o⟩;unfold a8h;rw[R.o]
  show _=_
  rw[<-aq.o]
 have D:=ay.o m;have j:(ev != 0)=true:=ρw m;have E:=P7 a1h HB.o HZ.o f.toList (ρw HZ.o) (by rw[<-af.o];simpa using a1p a1y);rw[show f.toList.toArray=f by simp]at E;have G:=HB.row_ f;have o:=Ql (g:=g) al.o (ρh HG.o) f;have⟨R,N,S,X⟩:=η4 D G o j;clear D G o j m;have j:=X.o;go_wp2;refine bodyPost_ret (v:=.tuple #[.agg f,.int .i64 ev]) (a0k rfl _ _ g _ _ (0,0) N.o Y ad (ρy HZ.o a1h) rfl) rfl ?_;refine⟨?_,S.o⟩;unfold a8h;rw[R.o];exact⟨by rw[<-af.o],X.o⟩
end
section
def a1Q(k:Int)(T:LV)(C:VL)(ow:LI)(am ser ep:Int)(id:LI):LV:=
 [.int .i64 k]++T++[C]++bys ow++[.int .u64 am,.int .i64 ser,.int .i64 ep]++bys id
theorem a2I(a:T.length=4)(b:ow.length=32)(hi:id.length=32):(a1Q k T C ow am ser ep id).length=73:=by
 simp[a1Q,a0a,a,b,hi]
theorem a6g(a:∀v∈T,v.oneCell'=true)(b:C.oneCell'=true):∀v∈a1Q k T C ow am ser ep id,v.oneCell'=true:=by
 intro v d;simp only[a1Q,Qq,Qo,Qt,or_false]at d
 rcases d with((((rfl | h) | rfl) | h) | rfl | rfl | rfl) | h
 ·rfl
 ·exact a _ h
 ·exact b
 ·exact a0h _ _ h
 ·rfl
 ·rfl
 ·rfl
 exact a0h _ _ h
theorem b8d{x:VL}(d:a.length=off):(a++[b]++c).toArray.setIfInBounds off x=(a++[x]++c).toArray:=by
 subst d
 apply ZM
 simp
theorem b7H(d:a.length=off):(a++[b]++c).toArray[off]? =some b:=by
 subst d
 simp
section
variable {k:Int} {T:LV} {C:VL} {ow id:LI} {am ser ep:Int}
theorem b9n(d:T.length=4)(f:ow.length=32)(x:Int):(a1Q k T C ow am ser ep id).toArray.setIfInBounds 38 (.int .u64 x)=(a1Q k T C ow x ser ep id).toArray:=by
 have:=b8d (a:=[.int .i64 k]++T++[C]++bys ow) (b:=.int .u64 am) (x:=.int .u64 x) (c:=[.int .i64 ser,.int .i64 ep]++bys id) (off:=38) (by simp[a0a,d,f])
 simpa[a1Q]using this
theorem b8S(d:T.length=4)(f:ow.length=32)(x:Int):(a1Q k T C ow am ser ep id).toArray.setIfInBounds 39 (.int .i64 x)=(a1Q k T C ow am x ep id).toArray:=by
 have:=b8d (a:=[.int .i64 k]++T++[C]++bys ow++[.int .u64 am]) (b:=.int .i64 ser) (x:=.int .i64 x) (c:=[.int .i64 ep]++bys id) (off:=39) (by simp[a0a,d,f])
 simpa[a1Q]using this
theorem b9J(d:T.length=4)(f:ow.length=32)(x:Int):(a1Q k T C ow am ser ep id).toArray.setIfInBounds 40 (.int .i64 x)=(a1Q k T C ow am ser x id).toArray:=by
 have:=b8d (a:=[.int .i64 k]++T++[C]++bys ow++[.int .u64 am,.int .i64 ser]) (b:=.int .i64 ep) (x:=.int .i64 x) (c:=bys id) (off:=40) (by simp[a0a,d,f])
 simpa[a1Q]using this
theorem c0r(d:T.length=4)(x:VL):(a1Q k T C ow am ser ep id).toArray.setIfInBounds 5 x=(a1Q k T x ow am ser ep id).toArray:=by
 have:=b8d (a:=[.int .i64 k]++T) (b:=C) (x:=x) (c:=bys ow++[.int .u64 am,.int .i64 ser,.int .i64 ep]++bys id) (off:=5) (by simp[d])
 simpa[a1Q]using this
theorem a8A(d:T.length=4):(a1Q k T C ow am ser ep id).toArray[5]? =some C:=by
 have:=b7H (a:=[.int .i64 k]++T) (b:=C) (c:=bys ow++[.int .u64 am,.int .i64 ser,.int .i64 ep]++bys id) (off:=5) (by simp[d])
 simpa[a1Q]using this
theorem a4a:(a1Q k T C ow am ser ep id).toArray[0]? =some (.int .i64 k):=by simp[a1Q]
theorem a7h(d:T.length=4)(f:ow.length=32):(a1Q k T C ow am ser ep id).toArray[38]? =some (.int .u64 am):=by
 have:=b7H (a:=[.int .i64 k]++T++[C]++bys ow) (b:=.int .u64 am) (c:=[.int .i64 ser,.int .i64 ep]++bys id) (off:=38) (by simp[a0a,d,f])
 simpa[a1Q]using this
theorem a7c(d:T.length=4)(f:ow.length=32):(a1Q k T C ow am ser ep id).toArray[39]? =some (.int .i64 ser):=by
 have:=b7H (a:=[.int .i64 k]++T++[C]++bys ow++[.int .u64 am]) (b:=.int .i64 ser) (c:=[.int .i64 ep]++bys id) (off:=39) (by simp[a0a,d,f])
 simpa[a1Q]using this
theorem a9t(d:T.length=4)(f:ow.length=32):(a1Q k T C ow am ser ep id).toArray[40]? =some (.int .i64 ep):=by
 have:=b7H (a:=[.int .i64 k]++T++[C]++bys ow++[.int .u64 am,.int .i64 ser]) (b:=.int .i64 ep) (c:=bys id) (off:=40) (by simp[a0a,d,f])
 simpa[a1Q]using this
theorem c7k(f:T.length=4)(g:ow.length=32)(hd:d.length=32):a1d (a1Q k T C ow am ser ep id).toArray 6 (bys d)=(a1Q k T C d am ser ep id).toArray:=by
 have:=a4J (a:=[.int .i64 k]++T++[C]) (b:=bys ow) (c:=[.int .u64 am,.int .i64 ser,.int .i64 ep]++bys id) (xs:=bys d) (off:=6) (by simp[f]) (by simp[a0a,g,hd])
 simpa[a1Q]using this
theorem c8P(f:T.length=4)(g:ow.length=32)(hi:id.length=32)(hd:d.length=32):a1d (a1Q k T C ow am ser ep id).toArray 41 (bys d)=(a1Q k T C ow am ser ep d).toArray:=by
 have:=a4J (a:=[.int .i64 k]++T++[C]++bys ow++[.int .u64 am,.int .i64 ser,.int .i64 ep]) (b:=bys id) (c:=[]) (xs:=bys d) (off:=41) (by simp[a0a,f,g]) (by simp[a0a,hi,hd])
 simpa[a1Q]using this
theorem c2z(g:T.length=4){d:LV}(f:d.length=4):a1d (a1Q k T C ow am ser ep id).toArray 1 d=(a1Q k d C ow am ser ep id).toArray:=by
 have:=a4J (a:=[.int .i64 k]) (b:=T) (c:=[C]++bys ow++[.int .u64 am,.int .i64 ser,.int .i64 ep]++bys id) (xs:=d) (off:=1) rfl (by rw[g,f])
 simpa[a1Q]using this
end
def a5c:LV:=[.slice none 0 0,.slice none 0 0,.int .u64 0,.int .i64 0]
def a7G:LV:=a1Q 0 a5c (.slice none 0 0) zId 0 0 0 zId
theorem d3a:prog.underlying 23=some (.slice 22):=ρk
theorem d3n:(prog.info? 22).map (λi=>(i.zero.map (·.cells.size),i.size,i.bytes))=some (some 1,1,24):=ρk
theorem d2V:(prog.info? 22).map (λi=>(i.zero.map (·.cells.size),i.size))=some (some 1,1):=ρk
theorem c4M(xs:AV)(t:TI):Builtin.append_ #[23,23] t xs=APs #[23,23] t xs:=rfl
theorem c4R(n:Nat)(a:Array (Nat×VL)):Instr.buildSlice 23 n a=BSs 23 n a:=rfl
theorem b2N:(prog.underlying 58).map a1f=some true:=ρk
theorem a6X:(prog.info? 58).map (·.size)=some 73:=ρk
abbrev a7s:=ldOf 58
abbrev b3x:=stOf 58
abbrev b2U:=alOf 58
abbrev b8q:=bdOf 58
theorem c6G(w:WD):(ALs 58).run prog w=.ok (.pointer w) (w.alloc (.cells a7G.toArray 58)):=a0U (.agg a7G.toArray) ρk w
theorem d0W(w:WD):(BDs 58 #[]).run prog w=.ok (.agg a7G.toArray) w:=run_build w _ _ _ ρk
end
section
def a4M(w:WD)(g o:Nat)(b:LI):Prop:=g<w.heap.size/\∃A c,w.cell? ⟨g,o,none⟩=some (.slice A b.length c)/\Byt w A b/\(A=none->c=0)
theorem a4M.below{w d:WD}{g o:Nat}{b:LI}(h:a4M w g o b)(a:Below w w d):a4M d g o b:=by
 obtain⟨f,A,c,m,j,r⟩:=h;exact⟨Qh f a.size,A,c,(a.cell (p:=⟨g,o,none⟩) f).trans m,j.below a,r⟩
section
attribute [local go_sem ↓] a2t a2s a2n a6i
theorem b1b(g o c:Nat)(b:LI)(w:WD)(h:a4M w g o b)(d:b.length<=10000000)(a:a2x w):
  Calls prog 246 #[.slice (some ⟨g,o,none⟩) 1 c] w λe w'=>e=.returned (.agg (bys (a0R b)).toArray)/\Below w w w':=by
 obtain⟨Z,X,I,S⟩:=P8 (t:=31) iId b1N;have y:=Qd w 31 (Z);have r:=ρb w (.cells (Z) 31)
 generalize F:w.alloc (.cells (Z) 31)=W at y r
 have⟨H,m⟩:=ηs w;rw[m]at y;obtain⟨h0,A,cb,R,E,J⟩:=h.below r;have f:=b7d A cb J b W E ρo (a.below r);have⟨D,z⟩:=η0 (a0R b);have v:(bys D).length=32:=by rw[a0a,<-z];exact(Dig.leaf b).1
 rw[z]at f⊢;have⟨n,K⟩:=η0 b.length;rw[K]at f R;have⟨T,G,Q,B,x⟩:=η5 F m r y v;clear F m r y v z K d h E J a;go_enter func246,ntmps246;go_upto_region 1 with fail
 rw[T.o,G.o];go_wp2_with fail;refine μi f ?_;intro Y j;have p:=φf B j;have O:=P9 iId p S (bys D) x.o (a0h _);have q1:=p.row_ (bys D).toArray;have N:=Ql (g:=H) (φt Q j) (ρh G.o) (bys D).toArray;have⟨U,V⟩:=η2 q1 N;clear q1 N j p f;go_wp2;exact bodyPost_ret (a0c rfl _ _ H 31 (bys D) _ rfl U a5g rfl (ρy x.o iId)) rfl ⟨rfl,V.o⟩
theorem b2j(n k:Nat)(f:2<=n)(j:n<=9)(m:1<=k)(p:k<n)(g o c:Nat)(r:n<=c)(x y:LI)(b:Dig x)(d:Dig y)(w:WD)(a:a2x w)
  (hh:∀X,Calls prog 268 #[.int .i64 n] X λe w'=>e=.returned (.int .i64 k)/\X=w')
  (c1:∀X,Below w w X->Calls prog 246 #[.slice (some ⟨g,o,none⟩) k c] X λe w'=>e=.returned (.agg (bys x).toArray)/\Below X.heap.size X w')
  (c2:∀X,Below w w X->Calls prog 246 #[.slice (some ⟨g,o+k,none⟩) (n-k) (c-k)] X λe w'=>e=.returned (.agg (bys y).toArray)/\Below X.heap.size X w'):
  Calls prog 246 #[.slice (some ⟨g,o,none⟩) n c] w λe w'=>e=.returned (.agg (bys (a1n x y)).toArray)/\Below w w w':=by
 obtain⟨Z,ah,af,hz⟩:=P8 (t:=31) iId b1N;have b0:=Qd w 31 (Z);have B0:=ρb w (.cells (Z) 31)
 generalize hW:w.alloc (.cells (Z) 31)=W at b0 B0
 have⟨g0,I⟩:=ηs w;rw[I]at b0;have v:=λX (hX:Below w w X)=>b3b x y b d X (a.below hX)
 have⟨D,hD⟩:=η0 (a1n x y);have U:(bys D).length=32:=by rw[a0a,<-hD];exact(Dig.node x y).1
 simp only[hD]at v;rw[hD];have n0:((n:Int) == 0)=false:=by rw[beq_eq_false_iff_ne];omega
 have n1:((n:Int) == 1)=false:=by rw[beq_eq_false_iff_ne];omega
 have kc:(k:Int)<=(c:Int):=ρo;have kn:(k:Int)<=(n:Int):=ρo;have k0:(0:Int)<=(k:Int):=ρo;have ck:¬c=k:=ρo;have S:=hh W;have Q:=c1 W.drew B0.drew;have⟨HW,HG,HB,T,Y,ae,H⟩:=η7 hW I B0 b0 U c2 v;clear hW I B0 b0 U c2 v hD b d hh c1 a;go_enter func246,ntmps246;go_upto_region 1 with fail
 rw[HW.o,HG.o];go_wp2_with fail;refine μf S ?_;clear S;go_upto_region 7 with fail
 refine a0s [(0,3),(1,3),(2,3),(4,3),(5,3),(6,3),(3,2),(7,2),(8,2),(9,2)] (λ_=>True) ρk ρk ρk ρk trivial ?_;refine ε6 ?_;refine τ ?_;intro K F;refine μi Q ?_;intro w3 aa;have B:Below W W w3:=(Qf _ W).drew.trans aa;have E:=φt HB B;have ab:=ae.o w3 E;have ac:=η1 B;clear B E aa Q;with_reducible refine F _ _ ?_;clear F K
 refine τ ?_;intro K F;refine μi ab ?_;intro w7 R;have z:=φt ac R;have V:=H.o w7 (φt HB z);have ad:=η1 z;clear z R ab;with_reducible refine F _ _ ?_;clear F K
 refine τ ?_;intro K F;refine μi V ?_;intro w8 N;have G:=φt ad N;have O:=η1 G;clear G N V;with_reducible refine F _ _ ?_;clear F K
 have J:=T.fr (Q9 O) (ρh T.o.lt);have ag:=P9 iId J hz (bys D) Y.o (a0h _);have q1:=J.row_ (bys D).toArray;have q2:=Ql (g:=g0) (HB.trans (O.mono HB.size)) (ρh HG.o) (bys D).toArray;have⟨Q1,Q2⟩:=η2 q1 q2;clear q1 q2 J;refine τ1 ?_;refine ν ?_;go_wp2;exact bodyPost_ret (a0c rfl _ _ g0 31 (bys D) _ rfl Q1 a5g rfl (ρy Y.o iId)) rfl ⟨rfl,Q2.o⟩
theorem c7M(g o c:Nat)(d:2<=c)(b1 b:LI)(w:WD)(f:a4M w g o b1)(j:a4M w g (o+1) b)(m:b1.length<=10000000)(l2:b.length<=10000000)(a:a2x w):
  Calls prog 246 #[.slice (some ⟨g,o,none⟩) 2 c] w λe w'=>e=.returned (.agg (bys (a1n (a0R b1) (a0R b))).toArray)/\Below w w w':=
 b2j 2 1 ρo ρo ρo ρo g o c d _ _ (Dig.leaf b1) (Dig.leaf b) w a (λX=>b3C X) (λX hX=>b1b g o c b1 X (f.below hX) m (a.below hX)) (λX hX=>b1b g (o+1) (c-1) b X (j.below hX) l2 (a.below hX))
theorem c9l(g o c:Nat)(d:3<=c)(b1 b b3:LI)(w:WD)(f:a4M w g o b1)(j:a4M w g (o+1) b)(m:a4M w g (o+2) b3)(p:b1.length<=10000000)(l2:b.length<=10000000)(r:b3.length<=10000000)(a:a2x w):
  Calls prog 246 #[.slice (some ⟨g,o,none⟩) 3 c] w λe w'=>e=.returned (.agg (bys (a1n (a1n (a0R b1) (a0R b)) (a0R b3))).toArray)/\Below w w w':=
 b2j 3 2 ρo ρo ρo ρo g o c d _ _ (Dig.node _ _) (Dig.leaf b3) w a (λX=>b3L X) (λX hX=>c7M g o c ρo b1 b X (f.below hX) (j.below hX) p l2 (a.below hX)) (λX hX=>b1b g (o+2) (c-2) b3 X (m.below hX) r (a.below hX))
theorem c9i(A:OA)(c:Nat)(w:WD):
  Calls prog 248 #[.slice A 1 c,.int .i64 0] w λe w'=>e=.returned (.slice none 0 0)/\w=w':=by
 go_enter func248,ntmps248;go_wp2;go_ret;exact⟨rfl,rfl⟩
attribute [local go_sem ↓] a9S a9T
theorem c7l(g o c:Nat)(f:2<=c)(b1:LI)(w:WD)(b:a4M w g o b1)(d:b1.length<=10000000)(a:a2x w):
  Calls prog 248 #[.slice (some ⟨g,o,none⟩) 2 c,.int .i64 1] w λe w'=>∃v,e=.returned v/\b6x w w' v [a0R b1]/\Below w w w':=by
 have y:=b3C w;have G:=c9i (some ⟨g,o+1,none⟩) (c-1) w.drew;have E:=b1b g o c b1 w.drew (b.below (Qf _ _).drew) d (a.below (Qf _ _).drew);have Y:(1:Int)<=(c:Int):=ρo;have W:¬c=1:=ρo;have B:Dig (a0R b1):=Dig.leaf b1;have R:IntKind.i64.wrap 0=0:=rfl
 generalize F:a0R b1=D at E B⊢
 have U:=λX=>Pd c5Q c1e ρo ρo X (.agg (bys D).toArray) (by simp[Value.cells,a0a,B.1])
 have S:=η1 B;clear B F b d;go_enter func248,ntmps248;go_wp2_with fail;refine μf y ?_;clear y;go_upto_region 6 with fail
 refine a0s [(0,3),(1,3),(2,3),(3,3),(4,3),(5,3),(7,3),(8,3),(9,3),(6,2),(10,2),(11,2),(12,2),(13,3)] (λ_=>True) ρk ρk ρk ρk trivial ?_;refine ε7 ?_;refine ε2 ?_;refine τ ?_;intro K x;refine μf G ?_;clear G;with_reducible refine x _ _ ?_;clear x K
 refine τ ?_;intro K x;refine μi E ?_;intro z p;have j:Below w w z:=(Qf _ w).drew.trans p;have H:b6x w z (.slice none 0 0) []:=a0T.nil _ _ _ _;obtain⟨V,Q,T,I,N,m,r,_⟩:=d2n (ty:=35) H S.o ρp j.size;obtain rfl:Q=1:=by have:=m.lenN;simpa using this
 have⟨O,J⟩:=η2 m (j.trans r);clear m p j H E r;with_reducible refine x _ _ ?_;clear x K
 refine τ1 ?_;refine τ1 ?_;refine ε1 ?_;refine ν ?_;go_wp2;go_ret;exact⟨_,rfl,O.o,J.o⟩
theorem c7y(g o c:Nat)(m:3<=c)(b1 b3:LI)(w:WD)(b:a4M w g o b1)(d:a4M w g (o+2) b3)(f:b1.length<=10000000)(j:b3.length<=10000000)(a:a2x w):
  Calls prog 248 #[.slice (some ⟨g,o,none⟩) 3 c,.int .i64 1] w λe w'=>∃v,e=.returned v/\b6x w w' v [a0R b1,a0R b3]/\Below w w w':=by
 have I:=b3L w;have V:=c7l g o c ρo b1 w.drew (b.below (Qf _ _).drew) f (a.below (Qf _ _).drew);have Q:=λX (U:Below w w X)=>b1b g (o+2) (c-2) b3 X (d.below U) j (a.below U)
 have kc:(2:Int)<=(c:Int):=ρo;have ck:¬c=2:=ρo;have N:Dig (a0R b3):=Dig.leaf b3;have⟨D,E⟩:=η0 (a0R b3);simp only[E]at Q;rw[E]at N⊢;have bs:=λX=>Pd c5Q c1e ρo ρo X (.agg (bys D).toArray) (by simp[Value.cells,a0a,N.1])
 have⟨HD,HR⟩:=η2 N Q;clear N Q E b f d j;go_enter func248,ntmps248;go_wp2_with fail;refine μf I ?_;clear I;go_upto_region 5 with fail
 refine a0s [(0,3),(1,3),(2,3),(3,3),(5,3),(6,3),(7,3),(4,2),(8,2),(9,2),(10,2),(11,3)] (λ_=>True) ρk ρk ρk ρk trivial ?_;refine ε7 ?_;refine τ ?_;intro K G;refine μ1 V ?_;rintro e T ⟨v4,rfl,B,H⟩;obtain⟨A4,N4,c4,rfl,J⟩:=B.formN;obtain rfl:N4=1:=ρw J;have y:Below w w T:=(Qf _ w).drew.trans H;have F:=HR.o T y;have⟨R,S⟩:=η2 B y;clear B y H V J;with_reducible refine G _ _ ?_;clear G K
 refine τ ?_;intro K G;refine μi F ?_;intro O r;have p:=φt S r;have W:b6x w O (.slice A4 1 c4) [a0R b1]:=a0T.keep R r;obtain⟨A',N',c',Y,aa,x,z,_⟩:=d2n (ty:=35) W HD.o ρp p.size;obtain rfl:N'=2:=by have:=x.lenN;simpa using this
 have⟨HO,Z⟩:=η2 x (p.trans z);clear x r p W F z;with_reducible refine G _ _ ?_;clear G K
 refine τ1 ?_;refine τ1 ?_;refine ε1 ?_;refine ν ?_;go_wp2;go_ret;exact⟨_,rfl,HO.o,Z.o⟩
end
end
section
section
attribute [local go_sem ↓] a2t a2s a2n a6i
theorem b8y(root:LI)(a:Dig root)(j:OA)(o:Nat)(d:j=none->o=0)(e:LI)(r:e.length<=400000000)(L:LL)(v:∀x∈L,Dig x)(A:OA)(c:Nat)(y:L.length<=c)(z:L.length<=1000000)(w:WD)(B:Byt w j e)(E:RdR 32 w A (L.map bys))(f:a2x w):
  Calls prog 271 #[.agg (bys root).toArray,.slice j e.length o,.int .i64 1,.int .i64 3,.slice A L.length c] w λx w'=>x=.returned (.bool (decide (L.length=2)&&decide (a1n (a1n (L.getD 0 []) (a0R e)) (L.getD 1 [])=root)))/\Below w w w':=by
 obtain⟨Z,ah,I,hz⟩:=P8 (t:=31) iId b1N;have T:=Qd w 31 ((bys root).toArray);have S:=ρb w (.cells ((bys root).toArray) 31)
 generalize hW:w.alloc (.cells ((bys root).toArray) 31)=W at T S
 have⟨g,hg⟩:=ηs w;rw[hg]at T;rw[<-c2v];have H:=c2d j o d e r L v A c y z W (B.below S) (E.below S) (f.below S);have J:=Dig.climb e L;obtain⟨⟨D,R⟩,U⟩:∃p,a6t e L=p:=⟨_,rfl⟩;rw[U]at H J⊢;simp only at H J⊢;have⟨n,hn⟩:=η0 e.length;have⟨m,V⟩:=η0 L.length;rw[hn,V]at H⊢;have N:(bys D).length=32:=by rw[a0a,J.1]
 have K:(bys root).length=32:=by rw[a0a,a.1]
 have F:=λX=>a8i D root J a X
 generalize hb:decide (D=root)=b at F⊢
 generalize aa:bys root=xs at hW T F K⊢
 cases R with
 |
  true=>
  rw[Y5];have⟨HW,HG,HB,ac,O,ab,HS⟩:=η7 hW hg S T N K F;clear hW hg S T N K F J U hn V y z r B E f v d aa hb a;go_enter func271,ntmps271;go_upto_region 1 with fail
  rw[HW.o,HG.o];go_wp2_with fail;refine μi H ?_;intro w2 G;have q1:=(Qd w2 31 (bys D).toArray);have q0:=(φf ac G).alloc (.cells (bys D).toArray 31);have Y:=(φt HB G).alloc (φt HB G).size (.cells (bys D).toArray 31);have Q:=I w2 (bys D) O.o (a0h _)
  generalize hX:w2.alloc (.cells (bys D).toArray 31)=X at q1 q0 Y Q
  have ag:=P4 a2i iId (bys D) q1 O;have af:=P4 a2i iId xs q0 ab;have hs:=HS.o X;have Q2:=η1 Y;clear Y G q1 q0 hX H I HS;go_wp2_with fail;refine μi hs ?_;intro w3 ad;have ae:=η1 ad;clear ad hs;go_wp2;go_ret;exact⟨rfl,Q2.trans (ae.mono Q2.size)⟩
 |
  false=>
  rw[Bool.false_and];have⟨HW,HG,HB,ac,O,ab⟩:=η6 hW hg S T N K;clear hW hg S T N K F J U hn V y z r B E f v d aa hb a;go_enter func271,ntmps271;go_upto_region 1 with fail
  rw[HW.o,HG.o];go_wp2_with fail;refine μi H ?_;intro w2 G;have Y:=(φt HB G).alloc (φt HB G).size (.cells (bys D).toArray 31);have Q:=I w2 (bys D) O.o (a0h _);have Q2:=η1 Y;clear Y G H I;go_wp2;go_ret;exact⟨rfl,Q2.o⟩
end
theorem a3Q(c:a0y)(A:OA)(cap:Nat):a0d c A cap=a0x c.e++(.slice A c.path.length cap::(a0b c.h++bys c.tag)):=by
 unfold a0d;simp[QC]
theorem a7E{c:a0y}(h:c.Bd)(A:OA)(cap:Nat):((a0d c A cap).drop 0).take 37=a0x c.e:=by
 have:=a0u h.e
 rw[Zs,a3Q,QJ ρo,Qb ρo]
theorem a7o{c:a0y}(h:c.Bd)(A:OA)(cap k:Nat):(a0d c A cap).drop (38+k)=(a0b c.h++bys c.tag).drop k:=by
 have:=a0u h.e
 rw[a3Q,QR,QQ ρo,QF,this,show 38+k-37=k+1 by omega,ZQ]
theorem a6M{c:a0y}(h:c.Bd)(A:OA)(cap:Nat):((a0d c A cap).drop 38).take 67=a0b c.h:=by
 have:=a0f h.h
 rw[show 38=38+0 from rfl,a7o h,Zs,QJ ρo,Qb ρo]
theorem a6K{c:a0y}(h:c.Bd)(A:OA)(cap:Nat):((a0d c A cap).drop 105).take 32=bys c.tag:=by
 have:=a0f h.h
 have a:(bys c.tag).length=32:=by rw[a0a,h.tag.1]
 rw[show 105=38+67 from rfl,a7o h,QR,QQ ρo,QF,this,Nat.sub_self,Zs,Qb ρo]
theorem b2r{c:a0y}(h:c.Bd)(A:OA)(cap:Nat):((a0d c A cap).drop 73).take 32=bys c.h.root:=by
 have d:=a0f h.h;have a:(bys c.h.prev).length=32:=by rw[a0a,h.h.prev.1]
 have b:(bys c.h.root).length=32:=by rw[a0a,h.h.root.1]
 rw[show 73=38+35 from rfl,a7o h,Zw ρo]
 have e:(a0b c.h).drop 35=bys c.h.root:=by
  unfold a0b;rw[QR,QQ (by simp[a]),QF];simp[a]
 rw[e,QJ ρo,Qb ρo]
theorem c4x{c:a0y}(h:c.Bd)(A:OA)(cap:Nat):((a0d c A cap).drop 2).take 32=bys c.e.tx:=by
 have a:(bys c.e.tx).length=32:=by rw[a0a,h.e.tx.1]
 unfold a0d a0x;simp only[QC,QG,QF,ZQ,Zs];rw[QJ ρo,Qb ρo]
theorem a9l{c:a0y}(h:c.Bd)(A:OA)(cap:Nat):(a0d c A cap).toArray[0]? =some (.int .i64 c.e.kind)/\(a0d c A cap).toArray[1]? =some (.int .i64 c.e.sh)/\(a0d c A cap).toArray[34]? =some (.int .u64 c.e.am)/\
  (a0d c A cap).toArray[36]? =some (.int .i64 c.e.ep)/\(a0d c A cap).toArray[37]? =some (.slice A c.path.length cap)/\(a0d c A cap).toArray[38]? =some (.int .i64 c.h.sh)/\(a0d c A cap).toArray[40]? =some (.int .i64 c.h.ep):=by
 have a:(bys c.e.tx).length=32:=by rw[a0a,h.e.tx.1]
 unfold a0d a0x a0b;refine⟨rfl,rfl,?_,?_,?_,?_,?_⟩<;>simp[List.getElem?_append,a]
end
section
theorem c0T(n:Nat)(x:Int):a2w n (.error x)=([],.error x):=by simpa using a4L (a4x (.error x)) n
theorem b3T{s:St}(h:StE s):∀j,StE (a2w j s).2
 | 0=>by rw[a4x];exact h
 |
  j+1=>by
  have ih:=b3T h j
  cases hj:a2w j s with
  |
   mk L t=>
   rw[hj]at ih
   cases t with
   | error x=>rw[a4L hj 1];exact ih
   | ok l=>rw[a8l hj];exact a5W trivial
theorem a0N.sl(h:a0N B w v l):∃A N c,v=.slice A N c:=by
 obtain⟨A,c,e⟩:=h.form;exact⟨A,_,c,e⟩
def a2y(l:LI):St:=(a3z l).2.2.2.2
theorem a6N{b d f a:St}(g:a0C 100 (.ok l)=(et,b))(j:a0o 32 b=(n,d))(m:a2w n d=(P,f))(o:a0C 100 f=(ht,a)):a3z l=(et,P,ht,(idT a).1,(idT a).2):=
 c3R (by rw[g]) (by rw[g]) j m o
theorem b6B(a:a0C 100 (.ok l)=(et,.error x)):a2y l=.error x:=by
 unfold a2y;rw[a6N a (a3t _ _) (c0T _ _) (a9d _ _),c1M]
theorem b5Q{a:St}(b:a0C 100 (.ok l)=(et,a))(d:a0o 32 a=(n,.error x)):a2y l=.error x:=by
 unfold a2y;rw[a6N b d (c0T _ _) (a9d _ _),c1M]
theorem b6h{a b:St}(d:a0C 100 (.ok l)=(et,a))(f:a0o 32 a=(n,b))(g:a2w n b=(P,.error x)):a2y l=.error x:=by
 unfold a2y;rw[a6N d f g (a9d _ _),c1M]
theorem b6r{a b d:St}(f:a0C 100 (.ok l)=(et,a))(g:a0o 32 a=(n,b))(j:a2w n b=(P,d))(m:a0C 100 d=(ht,.error x)):a2y l=.error x:=by
 unfold a2y;rw[a6N f g j m,c1M]
theorem b8M(l:LI):StE (a2y l):=a5W (a5A (b3T (a1L (a5A (s:=.ok l) trivial)) _))
structure c1J(p s eb cb hb:Nat)(w w':WD)(et ht:LI)(c:a0y)(A:OA)(cap:Nat)(l:LI)(hv:Bool):Prop where
 cert:Blk w' cb 39 (a0d c A cap).toArray
 own:a0T 31 32 w.heap.size w' (.slice A c.path.length cap) (c.path.map bys)
 eye:a0S w' p s l
 et:∃v,Blk w' eb 22 #[v]/\a0N w w' v et
 ht:∃v,Blk w' hb 22 #[v]/\(hv=true->a0N w w' v ht)/\(hv=false->v=.slice none 0 0)
 fr:Fr (λk=>(k=eb\/k=cb\/k=hb)\/k=p) w w'
 bd:c.Bd
theorem c1J.step{d f:Nat}{b:WD}{c:a0y}{j:LI}{m:Bool}(h:c1J p s d cb f w g et ht c A cap l m)(a:Fr (λk=>k=p) g b)(o:a0S b p s j)(r:p<w.heap.size):c1J p s d cb f w b et ht c A cap j m:=by
 obtain⟨v,B,x⟩:=h.et;obtain⟨u,z,D,E⟩:=h.ht
 refine⟨h.cert.fr a (λe=>h.eye.far h.cert ρd e.symm),h.own.fr a (λk y e=>by have:=(h.own.lt y).1;omega),o,⟨v,B.fr a (λe=>h.eye.far B ρd e.symm),x.fr a (λk y e=>by have:=(x.lt y).1;omega)⟩,
  ⟨u,z.fr a (λe=>h.eye.far z ρd e.symm),λe=>(D e).fr a (λk y F=>by have:=((D e).lt y).1;omega),E⟩,h.fr.trans a (λ_ _ e=>.inr e),h.bd⟩
theorem c1J.keep{b d:Nat}{f:WD}{c:a0y}{j:Bool}(h:c1J p s b cb d w f et ht c A cap l j)(a:Fr (λ_=>False) f g):c1J p s b cb d w g et ht c A cap l j:=by
 obtain⟨v,r,m⟩:=h.et;obtain⟨u,o,y,x⟩:=h.ht;exact⟨h.cert.fr a id,h.own.fr a (λ_ _=>id),h.eye.fr a id id,⟨v,r.fr a id,m.fr a (λ_ _=>id)⟩,⟨u,o.fr a id,λe=>(y e).fr a (λ_ _=>id),x⟩,h.fr.trans a (λ_ _ e=>e.elim),h.bd⟩
def d1y(eb cb hb:Nat)(l:LI)(w w':WD):Prop:=
 ∀
  r,a2y l=.ok r->∃A cap ve vh,Blk w' cb 39 (a0d {a0r with path:=(a3z l).2.1,tag:=(a3z l).2.2.2.1} A cap).toArray/\a0T 31 32 w.heap.size w' (.slice A (a3z l).2.1.length cap) ((a3z l).2.1.map bys)/\
  Blk w' eb 22 #[ve]/\a0N w w' ve (a3z l).1/\Blk w' hb 22 #[vh]/\a0N w w' vh (a3z l).2.2.1
theorem a3X{c:a0y}(a:c.Bd)(A:OA)(cap:Nat):(a0d c A cap).toArray[37]? =some (.slice A c.path.length cap):=by
 have b:=a0u a.e;unfold a0d;simp only[QE];rw[QC,QC,QL ρo,b]
 simp
attribute [local go_sem ↓] a1D a3u a3h a2t a2s a2n a9S a9T
theorem b9e(p s a cb b:Nat)(l:LI)(B:l.length<=400000000)(w:WD)(h:a0S w p s l)(m:p<w.heap.size)(D:s<w.heap.size)(y:s≠a)(f:s≠cb)(z:s≠b)(g:a≠b)
  (hce:Blk w a 22 #[.slice none 0 0]) (hcc:Blk w cb 39 (a0d a0r none 0).toArray) (hch:Blk w b 22 #[.slice none 0 0]):
  Calls prog 137 #[.pointer p,.pointer a,.pointer cb,.pointer b] w λe w'=>a6D p s (a2y l) e w'/\Fr (λk=>(k=a\/k=cb\/k=b)\/k=p) w w'/\d1y a cb b l w w':=by
 have aB:p≠a:=h.far hce ρd;have aO:p≠cb:=h.far hcc ρd;have be:p≠b:=h.far hch ρd;have aL:a≠cb:=hce.ne_ hcc ρd;have aT:b≠cb:=hch.ne_ hcc ρd;have bE:=hce.lt;have bF:=hcc.lt;have bA:=hch.lt;have Q:=b1P p s l 100 ρo B w h;obtain⟨et,s1,h1⟩:∃v st,a0C 100 (.ok l)=(v,st):=⟨_,_,rfl⟩;have af:=a3c (most:=100) (st:=.ok l) (n:=400000000) B;have az:=(a4u (most:=100) (s:=.ok l) (by obtain⟨A,c,Y,_⟩:=h;exact Y.by_.bd));rw[h1]at Q af az;rw[show((100:Nat):Int)=100 from rfl]at Q;simp only at af az;have⟨aJ,bs,bn,H1,bb,br⟩:=η6 hce hcc hch h1 af az;clear hce hcc hch h1 af az h;go_enter func137,ntmps137;go_wp2_with fail;refine μ1 Q ?_;rintro e w1 ⟨Y,f1⟩
 have aj:∀(x:Int) (w':WD),a2y l=.error x->Fr (λk=>(k=a\/k=cb\/k=b)\/k=p) w w'->a6D p s (a2y l) (.panicked [{v:=a1T x,recovered:=false}]) w'/\Fr (λk=>(k=a\/k=cb\/k=b)\/k=p) w w'/\d1y a cb b l w w':=λx w' hx hf=>by
  rw[hx];exact⟨rfl,hf,λr hr=>by rw[hx]at hr;cases hr⟩
 cases s1 with
 |
  error x=>
  obtain rfl:=Y;exact⟨rfl,aj x _ (b6B H1.o) (f1.mono (λ_ _ e=>.inr e))⟩
 |
  ok l1=>
  obtain⟨⟨v1,rfl,aA⟩,aZ⟩:=Y;obtain⟨A1,N1,c1,rfl⟩:=aA.sl;have q1:=(aJ.fr f1 (λe=>aB e.symm)).cell 0;have z1:=(aJ.fr f1 (λe=>aB e.symm)).frozen 0;have bl:w1.cell? ⟨a,0,none⟩=some (.slice none 0 0):=q1;have k1:Blk (w1.setCell ⟨a,0,none⟩ (.slice A1 N1 c1)) a 22 #[.slice A1 N1 c1]:=by simpa using(aJ.fr f1 (λe=>aB e.symm)).set_ 0 (.slice A1 N1 c1)
  have E:Fr (λk=>k=a) w1 (w1.setCell ⟨a,0,none⟩ (.slice A1 N1 c1)):=(Qp (λk=>k=a) w1).setCell (p:=⟨a,0,none⟩) (λ_=>rfl) _
  have hC:c1J p s a cb b w (w1.setCell ⟨a,0,none⟩ (.slice A1 N1 c1)) et [] a0r none 0 l1 false:=⟨(bs.fr f1 (λe=>aO e.symm)).fr E (λe=>aL e.symm),a0T.nil _ _ _ _,aZ.fr E (show¬_=_ from aB) (show¬_=_ from y),
   ⟨_,k1,aA.fr E (λk I e=>by have:=(aA.lt I).1;omega)⟩,⟨_,(bn.fr f1 (λe=>be e.symm)).fr E (λe=>g e.symm),by simp,λ_=>rfl⟩,
   (f1.mono (G:=λk=>(k=a\/k=cb\/k=b)\/k=p) (λ_ _ e=>.inr e)).trans E (λk I e=>.inl (.inl e)),a0B⟩
  generalize aX:w1.setCell ⟨a,0,none⟩ (.slice A1 N1 c1)=w2 at hC
  have al:=a5w p s l1 32 ρo (by have:l1.length<=400000000:=bb.o;omega) w2 hC.eye;obtain⟨n,s2,h2⟩:∃v st,a0o 32 (.ok l1)=(v,st):=⟨_,_,rfl⟩;have aE:=a0P 32 (.ok l1);have au:=a1b (most:=32) (st:=.ok l1) (n:=400000000) bb.o;have ax:=a2c (most:=32) br.1;rw[h2]at al aE au ax;rw[show((32:Nat):Int)=32 from rfl]at al;simp only at al aE au ax;have⟨HC,bj,H2,a4,bi,ad⟩:=η6 hC aX h2 au ax aj;clear hC aX h2 au ax aj q1 k1 E aA aZ f1 Q;go_upto_region 1 with fail
  rw[bj.o];clear bl z1;go_wp2_with fail;refine μ1 al ?_;rintro e w3 ⟨Y,f3⟩
  cases s2 with
  |
   error x=>
   obtain rfl:=Y;exact⟨rfl,ad.o x _ (b5Q H1.o H2.o) (HC.fr.trans f3 (λ_ _ e=>.inr e))⟩
  |
   ok l2=>
   obtain⟨rfl,a3⟩:=Y;have bf:=HC.step f3 a3 m;have bp:=η1 bf;clear bf a3 f3 al;go_upto_region 2 with fail
   go_loopg [9] n (λkk c wr=>∃(j:Nat) (P:LL) (A:OA) (cap:Nat) (lj:LI),j+kk=n/\c=.int .u64 j/\a2w j (.ok l2)=(P,.ok lj)/\c1J p s a cb b w wr et [] {a0r with path:=P} A cap lj false);exact⟨0,[],none,0,l2,by omega,rfl,a4x _,bp.o⟩;obtain⟨j,P,A,cap,lj,hj,rfl,F,an⟩:=hrel
   by_cases bm:j<n
   ·have bh:(j:Int)<n:=ρo
    have R:=a8l F;have ao:=b1n (.ok l2) j;have N:=a8V a4 j;rw[F]at ao N;simp only at ao N;obtain⟨X,hX⟩:∃X,X=wr.drew:=⟨_,rfl⟩;have Z:c1J p s a cb b w X et [] {a0r with path:=P} A cap lj false:=by rw[hX];exact an.keep (Qp _ _).drew
    have a2:X.cell? ⟨cb,37,none⟩=some (.slice A P.length cap):=(Z.cert.cell 37).trans (a3X Z.bd _ _);have hid:=c4T p s lj (by have:lj.length<=400000000:=N;omega) X Z.eye (ρh Z.fr.size) (ρh Z.fr.size);obtain⟨d,sj,a5⟩:∃v st,idT (.ok lj)=(v,st):=⟨_,_,rfl⟩;have S:=a1R (.ok lj);rw[a5]at hid S R;simp only at hid S R;have⟨aW,HX,ab,bv,bC,aa,bk,aK⟩:=η8 Z hX R ao N F a2 S;clear Z hX R ao N F a2 S an a5;go_upto_region 3 with fail
    refine a3Y [(0,3),(2,3),(1,0),(3,1),(4,1),(5,2),(6,3),(7,2)] (λW=>W.cell? ⟨cb,37,none⟩=some (.slice A P.length cap)) ρk ρk ρk ρk (ρz HX.o bk.o) ?_;rw[<-HX.o];refine ε2 ?_
    iterate 1 (with_reducible refine a0t (o:=?_) (v:=?_) (a':=?_) ρu ρu (λW' hS=>?_) ?_ ?_;rotate_left 2;(focus(skip;exact ρs));focus(exact ρs))
    refine κ ?_;intro K hK;refine μ1 hid ?_;rintro e w4 ⟨Y,f4⟩
    cases sj with
    |
     error x=>
     obtain rfl:=Y;have aY:=a4L ab (n-(j+1));rw[show j+1+(n-(j+1))=n by omega]at aY;exact λa' bt=>⟨bt,ad.o x _ (b6h H1.o H2.o aY) (aW.fr.trans f4 (λ_ _ e=>.inr e))⟩
    |
     ok a1=>
     obtain⟨rfl,aN⟩:=Y;have H:=aW.step f4 aN m
     have a9:Dig d:=⟨aK.o,by
      have h5:=(a9X (s:=.ok l2) bi.o (j+1)).1;rw[ab.o]at h5;exact(h5 d ρp).2⟩
     have av:a0T 31 32 w.heap.size w4 (.slice A P.length cap) (P.map bys):=H.own;have bc:w.heap.size<=w4.heap.size:=H.fr.size;have aU:=Pd c5Q c1e ρo ρo w4 (.agg (bys d).toArray) (by simp[Value.cells,a0a,aK.o]);simp only[Value.cells]at aU;obtain⟨v6,x6,a8,aC,ac,-⟩:=a5o (P:=prog) (ty:=35) c5Q d2s ρo ρo av (bys d) (ρy a0a aK.o) (a0h _) (by have:=bv.o;rw[Qw];omega) bc;obtain⟨A6,N6,c6,rfl,a7⟩:=aC.formN;have a6:N6=(P++[d]).length:=by rw[a7];simp
     subst a6;have J:=λk I=>(av.lt (k:=k) I).1
     have bz:w4.cell? ⟨cb,37,none⟩=some (.slice A P.length cap):=(H.cert.cell 37).trans (a3X H.bd _ _);have aF:(w4.alloc (.cells (bys d).toArray 31)).cell? ⟨cb,37,none⟩=some (.slice A P.length cap):=((H.cert.alloc _).cell 37).trans (a3X H.bd _ _);have ar:=H.cert.fr ac (λe=>by have:=J _ e;omega);have q6:x6.cell? ⟨cb,37,none⟩=some (.slice A P.length cap):=(ar.cell 37).trans (a3X H.bd _ _);have z6:=ar.frozen 37;have k7:=ar.set_ 37 (.slice A6 (P++[d]).length c6);rw[b2C _ H.bd]at k7;have E:Fr (λk=>k=cb) x6 (x6.setCell ⟨cb,37,none⟩ (.slice A6 (P++[d]).length c6)):=(Qp (λk=>k=cb) x6).setCell (p:=⟨cb,37,none⟩) (λ_=>rfl) _
     have aM:c1J p s a cb b w (x6.setCell ⟨cb,37,none⟩ (.slice A6 (P++[d]).length c6)) et [] {a0r with path:=P++[d]} A6 c6 a1 false:=by
      obtain⟨ve,ah,T⟩:=H.et;obtain⟨u,V,ag,ay⟩:=H.ht;obtain rfl:=ay rfl
      have bo:ve.ownBlock=none\/∀k,ve.ownBlock=some k->¬(Value.slice A P.length cap).ownBlock=some k:=.inr (λk I e=>by
       obtain⟨c1,af,_⟩:=a2B T I;exact a4l av.own af ρd e)
      refine⟨k7,?_,(aN.fr ac (λe=>by have:=J _ e;omega) (λe=>by have:=J _ e;omega)).fr E (show¬_=_ from aO) (show¬_=_ from f),⟨ve,(ah.fr ac (λe=>by have:=J _ e;omega)).fr E (show¬_=_ from aL),?_⟩,
       ⟨_
        ,(V.fr ac (λe=>by have:=J _ e;omega)).fr E (show¬_=_ from aT),by simp,λ_=>rfl⟩,(H.fr.trans ac (λk I e=>by have:=J _ e;omega)).trans E (λk I e=>.inl (.inr (.inl e))),⟨a3T,λx hx=>by
        rcases Qq.1 hx with h5 | h5
        ·exact H.bd.path x h5
        rw[Qn.1 h5];exact a9,a1A,ZZ⟩⟩
      ·rw[QV]
       exact aC.fr E (λk I e=>by have:=(aC.lt I).1;omega)
      refine(T.fr ac (λk I e=>?_)).fr E (λk I e=>by have:=(T.lt I).1;omega)
      rcases bo with h5 | h5
      ·rw[h5]at I;cases I
      exact h5 k I e
     generalize aQ:(bys d).toArray=tv at aU a8 aF⊢
     have⟨N7,aP⟩:=η0 ((P++[d]).length);rw[aP]at a8 aM;have⟨bu,bB,bD⟩:=η3 aM H aP;clear aM H aP av aC ac a7 J ar k7 E aN f4 aQ hid;with_reducible refine hK _ _ (bz) ?_;clear hK K
     refine κ1 (aF) ?_;refine τ1 ?_;refine ε1 ?_;refine τ1 ?_;with_reducible refine a1N ?_
     rw[a0V];go_wp2;go_roundg (n-(j+1));exact⟨j+1,P++[d],A6,c6,a1,by omega,by go_num,ab.o,bu.o⟩;omega
   have bh:¬(j:Int)<n:=ρo;obtain rfl:j=n:=ρo;obtain⟨wo,bx⟩:∃wo,wo=wr:=⟨_,rfl⟩;subst bx;have N:=a8V a4 j;rw[F]at N;simp only at N;have Q:=b1P p s lj 100 ρo N wo an.eye;obtain⟨ht,s4,h4⟩:∃v st,a0C 100 (.ok lj)=(v,st):=⟨_,_,rfl⟩;have aD:=a3c (most:=100) (st:=.ok lj) (n:=400000000) N;rw[h4]at Q aD;rw[show((100:Nat):Int)=100 from rfl]at Q;simp only at aD;have⟨aG,aa,H4,bw⟩:=η4 an F h4 aD;clear an F h4 aD bm;go_wp2_with fail;refine μ1 Q ?_;rintro e w5 ⟨Y,f5⟩
   cases s4 with
   |
    error x=>
    obtain rfl:=Y;exact⟨rfl,ad.o x _ (b6r H1.o H2.o aa.o H4.o) (aG.fr.trans f5 (λ_ _ e=>.inr e))⟩
   |
    ok l4=>
    obtain⟨⟨v5,rfl,aH⟩,aR⟩:=Y;obtain⟨A5,N5,c5,rfl⟩:=aH.sl;have U:=aG.step f5 aR m;obtain⟨u,V,-,ay⟩:=U.ht;obtain rfl:=ay rfl;have q5:w5.cell? ⟨b,0,none⟩=some (.slice none 0 0):=V.cell 0;have z5:=V.frozen 0;have k5:Blk (w5.setCell ⟨b,0,none⟩ (.slice A5 N5 c5)) b 22 #[.slice A5 N5 c5]:=by simpa using V.set_ 0 (.slice A5 N5 c5)
    have E:Fr (λk=>k=b) w5 (w5.setCell ⟨b,0,none⟩ (.slice A5 N5 c5)):=(Qp (λk=>k=b) w5).setCell (p:=⟨b,0,none⟩) (λ_=>rfl) _;have ak:=aH.base (B':=w.heap.size) aG.fr.size
    have ae:c1J p s a cb b w (w5.setCell ⟨b,0,none⟩ (.slice A5 N5 c5)) et ht {a0r with path:=P} A cap l4 true:=by
     obtain⟨ve,ah,T⟩:=U.et
     exact⟨U.cert.fr E (λe=>aT e.symm),U.own.fr E (λk I e=>by have:=(U.own.lt I).1;omega),aR.fr E (show¬_=_ from be) (show¬_=_ from z),⟨ve,ah.fr E g,T.fr E (λk I e=>by have:=(T.lt I).1;omega)⟩,
      ⟨_,k5,λ_=>ak.fr E (λk I e=>by have:=(ak.lt I).1;omega),by simp⟩,U.fr.trans E (λk I e=>.inl (.inr (.inr e))),U.bd⟩
    generalize aV:w5.setCell ⟨b,0,none⟩ (.slice A5 N5 c5)=w6 at ae
    have hid:=c4T p s l4 (by have:l4.length<=400000000:=bw.o;omega) w6 ae.eye (ρh ae.fr.size) (ρh ae.fr.size);obtain⟨d,s5,h5⟩:∃v st,idT (.ok l4)=(v,st):=⟨_,_,rfl⟩;have S:=a1R (.ok l4);rw[h5]at hid S;simp only at hid S;have bg:a3z l=(et,P,ht,d,s5):=by rw[a6N H1.o H2.o aa.o H4.o,h5]
    have⟨a0,bq,aS⟩:=η3 ae aV bg;clear ae aV bg U V ay k5 E aH ak aR f5 Q h5;go_upto_region 6 with fail
    rw[bq.o];clear q5 z5;go_wp2_with fail;refine μ1 hid ?_;rintro e w7 ⟨Y,f7⟩
    cases s5 with
    |
     error x=>
     obtain rfl:=Y;exact⟨rfl,ad.o x _ (by unfold a2y;rw[aS.o]) (a0.fr.trans f7 (λ_ _ e=>.inr e))⟩
    |
     ok l5=>
     obtain⟨rfl,aI⟩:=Y;have O:=a0.step f7 aI m;have aq:=Pa a5m O.cert (off:=105) (bys d) (ρy a0a S) (by rw[Qc,a0l O.bd];omega) (a0h _);rw[b9A _ O.bd _ _ S]at aq;have k8:=O.cert.row_ (a0d {a0r with path:=P,tag:=d} A cap).toArray;have E:=ρr (cb) w7 (a0d {a0r with path:=P,tag:=d} A cap).toArray
     have ai:a6D p s (a2y l) (.returned (.tuple #[])) (w7.setRow cb (a0d {a0r with path:=P,tag:=d} A cap).toArray)/\Fr (λk=>(k=a\/k=cb\/k=b)\/k=p) w (w7.setRow cb (a0d {a0r with path:=P,tag:=d} A cap).toArray)/\d1y a cb b l w (w7.setRow cb (a0d {a0r with path:=P,tag:=d} A cap).toArray):=by
      obtain⟨ve,ah,T⟩:=O.et;obtain⟨u,V,ag,-⟩:=O.ht;have ag:=ag rfl;refine⟨?_,O.fr.trans E (λk I e=>.inl (.inr (.inl e))),λr hr=>?_⟩
      ·unfold a2y
       rw[aS.o];exact⟨rfl,aI.fr E (show¬_=_ from aO) (show¬_=_ from f)⟩
      rw[aS.o];exact⟨A,cap,ve,u,k8,O.own.fr E (λk I e=>by have:=(O.own.lt I).1;omega),ah.fr E aL,T.fr E (λk I e=>by have:=(T.lt I).1;omega),V.fr E aT,ag.fr E (λk I e=>by have:=(ag.lt I).1;omega)⟩
     have⟨X,hX⟩:=η0 (w7.setRow cb (a0d {a0r with path:=P,tag:=d} A cap).toArray);replace aq:=aq.trans (show _=Result.ok () X by rw[<-hX]);rw[hX]at ai
     generalize aQ:(bys d).toArray=tv at aq⊢
     have ba:=η1 ai;clear ai k8 E O aI f7 aQ hX hid;go_wp2;go_end0;exact ba
theorem c3P(a:∀x∈l,0<=x/\x<=255):(∀d∈(a3z l).2.1,Dig d)/\Dig (a3z l).2.2.2.1/\(∀x∈(a3z l).1,0<=x/\x<=255)/\(∀x∈(a3z l).2.2.1,0<=x/\x<=255):=by
 have b1:=a4u (most:=100) (s:=.ok l) a;have j:=a2c (most:=32) b1.1;have f:=a9X j (a0o 32 (a0C 100 (.ok l)).2).1;have b:=a4u (most:=100) f.2;have g:=a7z b.1;exact⟨f.1,⟨a1R _,g.2⟩,b1.2,b.2⟩
theorem c2p(l:LI):(a3z l).1.length<=100/\(a3z l).2.2.1.length<=100:=⟨a3o 100 _,a3o 100 _⟩
theorem c2T(h:a8t (a2y l)≠0):a5s l=.error (a8t (a2y l)):=by
 unfold a5s a2y at*
 generalize a3z l=q at*
 obtain⟨a,b,c,d,s⟩:=q
 cases s with
 | error x=>rfl
 |
  ok r=>
  have f:r≠[]:=λe=>by simp[a8t,e]at h
  have:0<r.length:=Ym.2 f
  simp[a8t,f,this]
theorem c4W(h:a2y l=.ok []):a5s l=match a9f (a3z l).1 with
  | .error x=>.error x
  |
   .ok e=>match b0w (a3z l).2.2.1 with
   | .error x=>.error x
   | .ok h=>.ok ⟨e,(a3z l).2.1,h,(a3z l).2.2.2.1⟩:=by
 unfold a5s a2y at*
 generalize a3z l=q at*
 obtain⟨a,b,c,d,s⟩:=q;simp only at h;subst h;simp only[Qv,Nat.lt_irrefl,if_false]
 cases a9f a with
 | error x=>rfl
 | ok e=>cases b0w c<;>rfl
theorem b4Z(args:AV)(w:WD):(callFunc 137 args).run prog w=.ok (.enter 137 args) w:=ρk
def a6Y(b:Nat)(l:LI)(e:Ending)(w':WD):Prop:=
 match a5s l with
 | .error x=>e=.returned (.tuple #[.agg (a0d a0r none 0).toArray,.int .i64 x])/\(x != 0)=true
 | .ok c=>∃A cap,e=.returned (.tuple #[.agg (a0d c A cap).toArray,.int .i64 0])/\a0T 31 32 b w' (.slice A c.path.length cap) (c.path.map bys)
theorem a8w{c:Nat}(h:a0N B w (.slice A n c) l):A=none->c=0:=by
 rintro rfl;obtain⟨_,⟨e,_⟩ | ⟨d,a,b,e,_⟩⟩:=h
 ·simp only[Value.slice.injEq]at e
  exact e.2.2
 simp at e
theorem b3R:(prog.underlying 39).map a1f=some true:=ρk
theorem a6L:(prog.info? 39).map (·.size)=some 137:=ρk
attribute [local go_sem ↓] a1W b4R a1l b2v b0x
theorem b4U(A:OA)(c:Nat)(f:A=none->c=0)(l:LI)(m:l.length<=400000000)(w:WD)(j:Byt w A l):
  Calls prog 82 #[.slice A l.length c] w λe w'=>a6Y w l e w'/\Below w w w':=by
 have cC:∀(fn:Fn) (first cap:AV) (w:WD),(Instr.makeFunc fn first cap).run prog w=.ok (.func fn first cap) w:=λ_ _ _ _=>rfl
 have⟨r,R⟩:=η0 ((a0d a0r none 0).toArray);have hz:r.size=137:=by rw[<-R,Qc,a0l a0B]
 have bO:∀v∈r.toList,v.oneCell'=true:=by rw[<-R];simpa using a2C a0r none 0
 have aB:=a9u;simp only[R]at aB;have cx:∀W:WD,(BDs 39 #[]).run prog W=.ok (.agg r) W:=by rw[<-R];exact c1X
 have⟨g,hg⟩:=ηs w;have b0:=Qd w 39 r;have B0:=ρb w (.cells r 39);have ar:=aB w;have⟨W,hW⟩:=η0 (w.alloc (.cells r 39));have bJ:W.heap.size=g+1:=by rw[<-hW,<-hg];simp
 rw[hW]at b0 B0 ar;rw[hg]at b0 ar;have b1:=Qd W 39 r;have aV:=b0.alloc (.cells r 39);have B1:=B0.alloc B0.size (.cells r 39);have az:=aB W;have⟨V,hV⟩:=η0 (W.alloc (.cells r 39));have aG:V.heap.size=g+2:=by rw[<-hV];simp;omega
 rw[hV]at b1 aV B1 az;rw[bJ]at b1 az;have be:=(Qd V 22 #[.slice none 0 0]).alloc (.cells #[.slice none 0 0] 22);have bh:=Qd (V.alloc (.cells #[.slice none 0 0] 22)) 22 #[.slice none 0 0];have aZ:=(b1.alloc (.cells #[.slice none 0 0] 22)).alloc (.cells #[.slice none 0 0] 22);have aj:=(aV.alloc (.cells #[.slice none 0 0] 22)).alloc (.cells #[.slice none 0 0] 22);have B2:=(B1.alloc B1.size (.cells #[.slice none 0 0] 22)).alloc (by simp;exact Qk B1.size (Nat.le_succ _)) (.cells #[.slice none 0 0] 22);have⟨U,hU⟩:=η0 ((V.alloc (.cells #[.slice none 0 0] 22)).alloc (.cells #[.slice none 0 0] 22));have bi:U.heap.size=g+4:=by rw[<-hU];simp;omega
 rw[hU]at be bh aZ aj B2;rw[aG]at be;rw[Qi,aG]at bh
 have a5:=a6Q 137 #[.pointer (g+2:Nat),.pointer (g+1:Nat),.pointer (g+2+1:Nat)] b4Z A c f l m U (j.below B2) (λk=>k=g+2\/k=g+1\/k=g+2+1) (λk I=>ρo) (a2y l)
  (d1y (g+2) (g+1) (g+2+1) l)
  (λp s w2 hB hp hs cB cf he=>b9e p s (g+2) (g+1) (g+2+1) l m w2 he cf ρo ρo ρo ρo ρo (be.fr (Q9 hB) ρo) (by rw[R];exact aZ.fr (Q9 hB) ρo) (bh.fr (Q9 hB) ρo))
 have ao:=b0L (b8M l);have bb:=c2T (l:=l);have⟨ev,bM⟩:=η0 (a8t (a2y l));rw[bM]at a5 ao bb;have⟨bN,b8,HG,cc,ac,HU,bU,ct⟩:=η8 aj B2 hg aG bi hU ao bb;have⟨HZ,a8,HY,ck⟩:=η4 hz bO j R;clear aj B2 hg aG bi hU ao bb hz bO j R b0 B0 b1 aZ aV B1 hW bJ hV aB bM be bh;go_enter func82,ntmps82;go_upto_region 2 with fail
 clear ar az;go_upto_region 3 with fail
 rw[cc.o,HU.o];go_wp2_with fail;refine μ1 a5 ?_;rintro e w1 ⟨rfl,f1,w2,w3,bp,bq,hK,f3⟩;have bX:=bN.fr f1 (show¬_ by omega);have bu:Below w w w1:=b8.trans (f1.below (B:=w.heap.size) (ρi ac.o HG.o) (λk I e=>by have:=HG.o;omega));obtain⟨dT,aD,aF⟩:=Q8.1 b3R
 have aO:∀(x:Int) (X:WD),a5s l=.error x->(x != 0)=true->Blk X g 39 r->Below w w X->a6Y w l (.returned (.tuple #[.agg r,.int .i64 x])) X/\Below w w X:=λx X hr hx _ hB=>by
  refine⟨?_,hB⟩;unfold a6Y;rw[hr];exact⟨by rw[ck.o],hx⟩
 have⟨HB,bV,ag,HK,cA,br,aq⟩:=η7 bX bu f3 hK bp bq aO;clear bX bu f3 hK bp bq aO f1 a5
 by_cases aa:ev=0
 ·have aU:=bU.1 aa
  subst aa;obtain⟨A1,c1,ve,vh,kc,ko,ke,oe,kh,oh⟩:=HK.o _ aU;obtain⟨bP,bT,bE,bH⟩:=c3P HY.bd;obtain⟨lE,lH⟩:=c2p l;have G:=c4W aU;obtain⟨et,P,ht,tg,st,bQ⟩:∃a b c d s,a3z l=(a,b,c,d,s):=⟨_,_,_,_,_,rfl⟩;rw[bQ]at kc ko oe oh bP bT bE bH lE lH G;simp only at kc ko oe oh bP bT bE bH lE lH G;have bo:({a0r with path:=P,tag:=tg}:a0y).Bd:=⟨a3T,bP,a1A,bT⟩;have bW:=br.o;have bC:g+4<=w2.heap.size:=by have:=ac.o;omega
  have bf:=kc.fr ag.o (show¬_=_ by have:=ac.o;omega);have bS:=ke.fr ag.o (show¬_=_ by have:=ac.o;omega);have bF:=kh.fr ag.o (show¬_=_ by have:=ac.o;omega);have bY:=ko.fr ag.o (λk I e=>by have:=(ko.lt I).1;omega);have ba:=oe.fr ag.o (λk I e=>by have:=(oe.lt I).1;omega);have a0:=oh.fr ag.o (λk I e=>by have:=(oh.lt I).1;omega);obtain⟨Ae,ce,rfl,ye,_,_⟩:=ba.byt bE;obtain⟨Ah,ch,rfl,yh,bA,_⟩:=a0.byt bH;have aL:Ae=none->ce=0:=a8w ba;have aQ:Ah=none->ch=0:=a8w a0;have q5:w1.cell? ⟨g+2,0,none⟩=some (.slice Ae et.length ce):=bS.cell 0;have a1:=b5R Ae ce aL et ρo w1 ye;have⟨RE,a6⟩:=η0 (a9f et);rw[a6]at G;have⟨ne,bc⟩:=η0 et.length;rw[bc]at q5 a1;have⟨bt,aR,KC,KH,KO,YH,ak,LH⟩:=η8 G a6 bf bF bY yh bo lH;have⟨aE,bB,cg,b9,b6⟩:=η5 bC aQ bE bH bA;clear G a6 bf bF bY yh bo lH bC aQ bE bH bA kc ko ke kh oe oh bS ba a0 ye bP bT lE aL bW aU bQ bc;go_upto_region 5 with fail
  go_wp2_with fail;refine μ1 a1 ?_;rintro e x1 ⟨hE,O⟩;have aJ:=O.size;have bD:=φf KC O;have bv:=φf KH O;have bG:=KO.keep O;have bw:=YH.below O;have bz:=φf HB O;have bK:=φt bV O;have bl:=KC.lt;unfold a6y at hE;rw[aR.o]at hE;have⟨aS,cd,b4,bZ,bL,aI,cv,cz⟩:=η8 bD bv bG bw bz bK aJ bl;clear bD bv bG bw bz bK aJ bl O q5 a1
  cases RE with
  |
   error x=>
   obtain⟨rfl,J⟩:=hE;have cu:(x == 0)=false:=ρw J;have o:=Pa a8Q aS.o (off:=0) (a0x a4i) (a0u a3T) (by rw[Qc,a0l ak.o];omega) (a5h _);have⟨zc,ax⟩:=η0 (a1d (a0d {a0r with path:=P,tag:=tg} A1 c1).toArray 0 (a0x a4i));have⟨ze,z⟩:=η0 ((a0x a4i).toArray);rw[ax,z]at o;have E:Fr (λk=>k=g+1) x1 (x1.setRow (g+1) zc):=(Qp (λk=>k=g+1) x1).setRow (g:=g+1) (λ_=>rfl) _;have T:=bL.fr E (show¬_=_ by omega);have ab:=aI.trans (E.below (B:=w.heap.size) aI.size (λk I e=>by have:=HG.o;omega));have y:=P7 a6L T HZ r.toList (ρw HZ.o) a8.o;rw[show r.toList.toArray=r by simp]at y;have K:=T.row_ r;have D:=Ql (g:=g) ab (ρh HG.o) r;have⟨x6,Q⟩:=η0 (x1.setRow (g+1) zc);replace o:=o.trans (show _=Result.ok () x6 by rw[<-Q]);rw[Q]at y K D;rw[z];have⟨aP,ci,av⟩:=η3 K D J;clear K D J E T ab ax z Q;have J:=av.o;go_wp2
   refine bodyPost_ret (v:=.tuple #[.agg r,.int .i64 x]) (a0k rfl _ _ g _ _ (0,0) aP.o aD aF (ρy HZ.o a6L) rfl) rfl ?_;exact aq.o x _ bt av aP ci
  |
   ok d=>
   obtain rfl:=hE;have aC:d.Bd:=b7M cg aR;have o:=Pa a8Q aS.o (off:=0) (a0x d) (a0u aC) (by rw[Qc,a0l ak.o];omega) (a5h _);rw[c6a _ ak.o _ _ aC]at o;have aK:({a0r with e:=d,path:=P,tag:=tg}:a0y).Bd:=⟨aC,ak.path,a1A,ak.tag⟩;have E:Fr (λk=>k=g+1) x1 (x1.setRow (g+1) (a0d {a0r with e:=d,path:=P,tag:=tg} A1 c1).toArray):=(Qp (λk=>k=g+1) x1).setRow (g:=g+1) (λ_=>rfl) _;have a3:=aS.row_ (a0d {a0r with e:=d,path:=P,tag:=tg} A1 c1).toArray;have T:=bL.fr E (show¬_=_ by omega);have a2:=cd.fr E (show¬_=_ by omega);have a9:=b4.o;have aX:=a9.fr E (λk I e=>by have:=(a9.lt I).1;have:=aE.o;omega);have ab:=aI.trans (E.below (B:=w.heap.size) aI.size (λk I e=>by have:=HG.o;omega));have bm:=bZ.o;have aT:=bm.fr E (λa ha _ e=>by have:=b6.o a ha;have:=aE.o;omega)
   have⟨x6,Q⟩:=η0 (x1.setRow (g+1) (a0d {a0r with e:=d,path:=P,tag:=tg} A1 c1).toArray);replace o:=o.trans (show _=Result.ok () x6 by rw[<-Q]);rw[Q]at a3 T a2 aX ab aT;have q6:x6.cell? ⟨g+2+1,0,none⟩=some (.slice Ah ht.length ch):=a2.cell 0;have Z:=b4J Ah ch bB ht (ρh LH.o) x6 aT;have⟨RH,a4⟩:=η0 (b0w ht);have G:=bt.o;rw[a4]at G;have⟨nh,bx⟩:=η0 ht.length;rw[bx]at q6 Z
   generalize z:(a0x d).toArray=ze at o⊢
   have⟨aM,aN,cq,b7,ca,b2,N⟩:=η7 G a4 a3 T aX ab aK;clear G a4 a3 T aX ab aK E a2 a9 bm aT Q z bx;go_upto_region 7 with fail
   clear o;go_wp2_with fail;refine μ1 Z ?_;rintro e y1 ⟨hH,D⟩;have au:=φf cq D;have K:=φf b7 D;have aH:=ca.keep D;have ae:=φt b2 D;unfold a8h at hH;rw[aN.o]at hH
   cases RH with
   |
    error x=>
    obtain⟨rfl,J⟩:=hH;have o:=Pa a1h au (off:=38) (a0b a1y) (a0f a1A) (by rw[Qc,a0l N.o];omega) (a1p _);have⟨zc,ax⟩:=η0 (a1d (a0d {a0r with e:=d,path:=P,tag:=tg} A1 c1).toArray 38 (a0b a1y));have⟨ze,z⟩:=η0 ((a0b a1y).toArray);rw[ax,z]at o;have E:Fr (λk=>k=g+1) y1 (y1.setRow (g+1) zc):=(Qp (λk=>k=g+1) y1).setRow (g:=g+1) (λ_=>rfl) _;have H:=K.fr E (show¬_=_ by omega);have S:=ae.trans (E.below (B:=w.heap.size) ae.size (λk I e=>by have:=HG.o;omega));have y:=P7 a6L H HZ r.toList (ρw HZ.o) a8.o;rw[show r.toList.toArray=r by simp]at y;have ad:=H.row_ r;have ah:=Ql (g:=g) S (ρh HG.o) r;have⟨x7,ay⟩:=η0 (y1.setRow (g+1) zc);replace o:=o.trans (show _=Result.ok () x7 by rw[<-ay]);rw[ay]at y ad ah;rw[z];have⟨Y,aW,av⟩:=η3 ad ah J;clear ad ah J E H S ax z ay au K aH ae D Z q6;have J:=av.o;go_wp2
    refine bodyPost_ret (v:=.tuple #[.agg r,.int .i64 x]) (a0k rfl _ _ g _ _ (0,0) Y.o aD aF (ρy HZ.o a6L) rfl) rfl ?_;exact aq.o x _ aM av Y aW
   |
    ok hd=>
    obtain rfl:=hH;have aY:hd.Bd:=b7I b9 aN;have o:=Pa a1h au (off:=38) (a0b hd) (a0f aY) (by rw[Qc,a0l N.o];omega) (a1p _);rw[c5e _ N.o _ _ aY]at o;have bk:(⟨d,P,hd,tg⟩:a0y).Bd:=⟨aC,N.path,aY,N.tag⟩;have al:=au.row_ (a0d ⟨d,P,hd,tg⟩ A1 c1).toArray;have E:Fr (λk=>k=g+1) y1 (y1.setRow (g+1) (a0d ⟨d,P,hd,tg⟩ A1 c1).toArray):=(Qp (λk=>k=g+1) y1).setRow (g:=g+1) (λ_=>rfl) _;have H:=K.fr E (show¬_=_ by omega);have an:=aH.fr E (λk I e=>by have:=(aH.lt I).1;have:=aE.o;omega);have S:=ae.trans (E.below (B:=w.heap.size) ae.size (λk I e=>by have:=HG.o;omega));have aA:(a0d ⟨d,P,hd,tg⟩ A1 c1).length=137:=a0l bk _ _;have⟨xs,af⟩:=η0 (a0d ⟨d,P,hd,tg⟩ A1 c1);have cp:∀v∈xs,v.oneCell'=true:=by rw[<-af];exact a2C _ _ _
    replace o:(STs 37 (.pointer (some ⟨g+1,38,none⟩)) (.agg (a0b hd).toArray)).run prog y1=.ok () (y1.setRow (g+1) xs.toArray):=by rw[<-af];exact o
    replace al:Blk (y1.setRow (g+1) xs.toArray) (g+1) 39 xs.toArray:=by rw[<-af];exact al
    have a7:(a0d ⟨d,P,hd,tg⟩ A1 c1).toArray=xs.toArray:=by rw[af]
    rw[a7]at H an S;rw[af]at aA
    generalize ay:y1.setRow (g+1) xs.toArray=x7 at o al H an S
    have cy:=Pb b3R a6L _ al aA;have y:=P7 a6L H HZ xs aA cp;have ad:=H.row_ xs.toArray;have ah:=Ql (g:=g) S (ρh HG.o) xs.toArray;have bg:=an.fr (F:=λk=>k=g) ((Qp (λk=>k=g) x7).setRow (g:=g) (λ_=>rfl) xs.toArray) (λk I e=>by have:=(an.lt I).1;have:=aE.o;omega)
    generalize z:(a0b hd).toArray=ze at o⊢
    have⟨Y,aW,b3,cn,cr⟩:=η5 ad ah bg a7 aA;clear ad ah bg a7 aA E H S an af z ay au K aH ae D Z q6 al;go_wp2;refine bodyPost_ret (v:=.tuple #[.agg xs.toArray,.int .i64 0]) (a0k rfl _ _ g _ _ (0,0) Y.o aD aF (by rw[Qc,cr.o];exact a6L) rfl) rfl ?_;refine⟨?_,aW.o⟩;unfold a6Y;rw[aM.o];exact⟨A1,c1,by rw[cn.o],b3.base (by have:=ac.o;have:=br.o;have:=HG.o;omega)⟩
 have bI:=ct.o aa;have ai:(ev != 0)=true:=ρw aa;have cw:(ev == 0)=false:=ρw aa;have y:=P7 a6L HB HZ r.toList (ρw HZ.o) a8.o;rw[show r.toList.toArray=r by simp]at y;have bR:=HB.row_ r;have bs:=Ql (g:=g) bV.o (ρh HG.o) r;have⟨b5,bj,cj,bn⟩:=η4 bI bR bs ai;clear bI bR bs ai aa;have ai:=bn.o;go_wp2;refine bodyPost_ret (v:=.tuple #[.agg r,.int .i64 ev]) (a0k rfl _ _ g _ _ (0,0) bj.o aD aF (ρy HZ.o a6L) rfl) rfl ?_;exact aq.o ev _ b5 bn bj cj
end
def d2e(w:WD)(g o:Nat)(b:LI):Prop:=g<w.heap.size/\∃A c,w.cell? ⟨g,o,none⟩=some (.slice A b.length c)/\Byt w A b/\(A=none->c=0)
theorem d2e.below{w d:WD}{g o:Nat}{b:LI}(h:d2e w g o b)(a:Below w w d):d2e d g o b:=by
 obtain⟨f,A,c,m,j,r⟩:=h;exact⟨Qh f a.size,A,c,(a.cell (p:=⟨g,o,none⟩) f).trans m,j.below a,r⟩
section
attribute [local go_sem ↓] a1W a1l a2t a2s a2n
theorem a8j:(prog.underlying 39).map a1f=some true:=ρk
theorem a4U:(prog.info? 39).map (·.size)=some 137:=ρk
theorem d1P:(((prog.info? 39).bind (·.zero)).map (·.cells.size))=some 137:=ρk
attribute [local go_sem ↓] a1D a3u a3h
theorem c6d(h:a0N B w v l):∃A N c,v=.slice A N c:=by
 obtain⟨A,c,e⟩:=a0N.form h;exact⟨A,_,c,e⟩
theorem b2M{e:a1P}(h:e.Bd):∀x∈a5V e,0<=x/\x<=255:=by
 unfold a5V;have d:=h.kind;have a:=h.sh;have g:=h.am;have b:=h.why;have f:=h.ep;unfold InI at d a b f;exact a1I (a1I (a1I (a1I (a1I (a0L ρo) (a0L ρo)) h.tx.2) (a0L ρo)) (a0L ρo)) (a0L ρo)
theorem a8g{e:a0Q}(h:e.Bd):∀x∈a2a e,0<=x/\x<=255:=by
 unfold a2a;have a:=h.sh;have d:=h.ht;have b:=h.ep;unfold InI at a d b;exact a1I (a1I (a1I (a1I (a0L ρo) (a0L ρo)) (a0L ρo)) h.prev.2) h.root.2
theorem a8u(p k:Nat)(seed:LI)(A:OA)(cap:Nat)(c:a0y)(w:WD)(a:c.Bd)
  (h:a0D c.e=false\/(a0D c.e=true/\a0w c.h=false)\/(a0D c.e=true/\a0w c.h=true/\c.e.sh≠c.h.sh)\/(a0D c.e=true/\a0w c.h=true/\c.e.sh=c.h.sh/\c.e.ep≠c.h.ep)):
  Calls prog 249 #[.pointer p,.agg (a0d c A cap).toArray] w λe w'=>e=.returned (.bool (isP seed k c))/\Below w w w':=by
 have v:isP seed k c=false:=by
  unfold isP
  rcases h with h | ⟨G,h⟩ | ⟨G,I,h⟩ | ⟨G,I,h3,h⟩<;>simp_all
 rw[v];have j:=Qd w 39 ((a0d c A cap).toArray);have B0:=ρb w (.cells ((a0d c A cap).toArray) 39)
 generalize hW:w.alloc (.cells ((a0d c A cap).toArray) 39)=W at j B0
 have⟨g,Z⟩:=ηs w;rw[Z]at j;have r:=P6 b3q a8Q j (off:=0) (a0x c.e) (a0u a.e) (by simpa using a7E a A cap);have d:=λX (o:Below W W X)=>P6 a1S a1h (j.fr (Q9 o) (ρh j.lt)) (off:=38) (a0b c.h) (a0f a.h) (by simpa using a6M a A cap)
 have m:=a5H c.e a.e W;have f:=λX=>a3A c.h a.h X
 have J:=a9l a A cap;have Y:∀X,Below W W X->X.cell? ⟨g,1,none⟩=some (.int .i64 c.e.sh):=λX o=>((j.fr (Q9 o) (ρh j.lt)).cell 1).trans J.2.1
 have x:∀X,Below W W X->X.cell? ⟨g,36,none⟩=some (.int .i64 c.e.ep):=λX o=>((j.fr (Q9 o) (ρh j.lt)).cell 36).trans J.2.2.2.1
 have D:∀X,Below W W X->X.cell? ⟨g,38,none⟩=some (.int .i64 c.h.sh):=λX o=>((j.fr (Q9 o) (ρh j.lt)).cell 38).trans J.2.2.2.2.2.1
 have B:∀X,Below W W X->X.cell? ⟨g,40,none⟩=some (.int .i64 c.h.ep):=λX o=>((j.fr (Q9 o) (ρh j.lt)).cell 40).trans J.2.2.2.2.2.2
 have F:(a0D c.e=false)\/(a0D c.e=true/\a0w c.h=false)\/(a0D c.e=true/\a0w c.h=true/\(c.e.sh != c.h.sh)=true)\/(a0D c.e=true/\a0w c.h=true/\(c.e.sh != c.h.sh)=false/\(c.e.ep != c.h.ep)=true):=by
  rcases h with h | h | ⟨G,I,h⟩ | ⟨G,I,h3,h⟩
  ·exact .inl h
  ·exact .inr (.inl h)
  ·exact .inr (.inr (.inl ⟨G,I,by simpa using h⟩))
  exact .inr (.inr (.inr ⟨G,I,by simpa using h3,by simpa using h⟩))
 clear h v J;have⟨rE,z⟩:=η0 (a0D c.e);have⟨rH,E⟩:=η0 (a0w c.h);rw[z,E]at F;rw[z]at m;rw[E]at f;have⟨s1,Q⟩:=η0 c.e.sh;have⟨s2,T⟩:=η0 c.h.sh;have⟨t1,R⟩:=η0 c.e.ep;have⟨t2,U⟩:=η0 c.h.ep;rw[Q]at Y F;rw[T]at D F;rw[R]at x F;rw[U]at B F
 generalize aa:(a0d c A cap).toArray=xs at hW⊢
 have⟨ve,H⟩:=η0 ((a0x c.e).toArray);have⟨vh,N⟩:=η0 ((a0b c.h).toArray);rw[H]at r m;rw[N]at d f;have⟨HW,HG,HB,ag,K1,ab,ac,af⟩:=η8 hW Z B0 d Y x D B;have ah:=η1 f;clear hW Z B0 d Y x D B f z E Q T R U aa H N j a
 rcases F with rfl | ⟨rfl,rfl⟩ | ⟨rfl,rfl,hS⟩ | ⟨rfl,rfl,hS,hT⟩
 all_goals
  go_enter func249,ntmps249;go_upto_region 1 with fail
  rw[HW.o,HG.o];go_wp2_with fail;refine μ1 m ?_;rintro e w1 ⟨v1,rfl,K,y⟩;obtain⟨A1,N1,c1,rfl⟩:=c6d K;have d:=ag.o w1 y;have f:=ah.o w1;have ad:=η1 y;clear y K m r;go_wp2_with fail;refine μ1 f ?_;rintro e V ⟨v2,rfl,O,S⟩;obtain⟨A2,N2,c2,rfl⟩:=c6d O;have b:=φt ad S;have q1:=K1.o V b;have q2:=ab.o V b;have q3:=ac.o V b;have q4:=af.o V b;have ae:=η1 b;clear b O S f d;go_wp2;go_ret;exact⟨rfl,HB.trans (ae.mono HB.size)⟩
theorem c8o{seed:LI}{k:Nat}{c:a0y}(b:a0D c.e=true)(a:a0w c.h=true)(d:c.e.sh=c.h.sh)(f:c.e.ep=c.h.ep):
  isP seed k c=((decide (c.path.length=2)&&decide (a1n (a1n (c.path.getD 0 []) (a0R (a5V c.e))) (c.path.getD 1 [])=c.h.root))&&(decide (0<=c.h.sh/\c.h.sh<k)&&decide (c.tag=a7C seed c.h.sh (a2a c.h)))):=by
 have g:=((a3B _).1 a).1.1;unfold isP;rw[b,a,d,f];simp only[decide_true,Y5,g,true_and]
 cases decide (c.path.length=2)<;>cases decide (a1n (a1n (c.path.getD 0 []) (a0R (a5V c.e))) (c.path.getD 1 [])=c.h.root)<;>cases decide (c.h.sh<(k:Int))<;>rfl
theorem a9Y{e:a1P}(h:e.Bd):(a5V e).length<=100:=by
 have d:=h.kind;have a:=h.sh;have m:=h.am;have b:=h.why;have f:=h.ep;unfold InI at d a b f;have g:=a0p (n:=e.kind.toNat) ρo;have o:=a0p (n:=e.sh.toNat) ρo;have p:=a0p (n:=e.am.toNat) ρo;have r:=a0p (n:=e.why.toNat) ρo;have j:=a0p (n:=e.ep.toNat) ρo
 have:=h.tx.1
 unfold a5V;simp only[Qa];omega
theorem a7a{e:a0Q}(h:e.Bd):(a2a e).length<=100:=by
 have b:=h.sh;have a:=h.ht;have d:=h.ep;unfold InI at b a d;have f:=a0p (n:=e.sh.toNat) ρo;have g:=a0p (n:=e.ht.toNat) ρo;have j:=a0p (n:=e.ep.toNat) ρo
 have:=h.prev.1
 have:=h.root.1
 unfold a2a;simp only[Qa];omega
theorem b8K(p k:Nat)(seed:LI)(A:OA)(cap:Nat)(c:a0y)(w:WD)(j:a5n w p seed k)(m:k<=64)(a:c.Bd)(b:c.path.length<=cap)(f:c.path.length<=1000000)(o:RdR 32 w A (c.path.map bys))(d:a2x w)
  (hE:a0D c.e=true) (hH:a0w c.h=true) (hs:c.e.sh=c.h.sh) (hp:c.e.ep=c.h.ep):
  Calls prog 249 #[.pointer p,.agg (a0d c A cap).toArray] w λe w'=>e=.returned (.bool (isP seed k c))/\Below w w w':=by
 rw[c8o hE hH hs hp];have B:=Qd w 39 ((a0d c A cap).toArray);have Z:=ρb w (.cells ((a0d c A cap).toArray) 39)
 generalize hW:w.alloc (.cells ((a0d c A cap).toArray) 39)=W at B Z
 have⟨g,hg⟩:=ηs w;rw[hg]at B;have S:=P6 b3q a8Q B (off:=0) (a0x c.e) (a0u a.e) (by simpa using a7E a A cap);have D:=λX (z:Below W W X)=>P6 a1S a1h (B.fr (Q9 z) (ρh B.lt)) (off:=38) (a0b c.h) (a0f a.h) (by simpa using a6M a A cap)
 have I:=λX (z:Below W W X)=>P6 a2i iId (B.fr (Q9 z) (ρh B.lt)) (off:=73) (bys c.h.root) (by rw[a0a,a.h.root.1]) (by simpa using b2r a A cap)
 have G:=λX (z:Below W W X)=>P6 a2i iId (B.fr (Q9 z) (ρh B.lt)) (off:=105) (bys c.tag) (by rw[a0a,a.tag.1]) (by simpa using a6K a A cap)
 have J:=a5H c.e a.e W;have E:=λX=>a3A c.h a.h X
 rw[hE,if_pos rfl]at J;simp only[hH,if_true]at E;have cc:=a9l a A cap;have k1:∀X,Below W W X->X.cell? ⟨g,1,none⟩=some (.int .i64 c.e.sh):=λX z=>((B.fr (Q9 z) (ρh B.lt)).cell 1).trans cc.2.1
 have aa:∀X,Below W W X->X.cell? ⟨g,36,none⟩=some (.int .i64 c.e.ep):=λX z=>((B.fr (Q9 z) (ρh B.lt)).cell 36).trans cc.2.2.2.1
 have ac:∀X,Below W W X->X.cell? ⟨g,37,none⟩=some (.slice A c.path.length cap):=λX z=>((B.fr (Q9 z) (ρh B.lt)).cell 37).trans cc.2.2.2.2.1
 have Y:∀X,Below W W X->X.cell? ⟨g,38,none⟩=some (.int .i64 c.h.sh):=λX z=>((B.fr (Q9 z) (ρh B.lt)).cell 38).trans cc.2.2.2.2.2.1
 have af:∀X,Below W W X->X.cell? ⟨g,40,none⟩=some (.int .i64 c.h.ep):=λX z=>((B.fr (Q9 z) (ρh B.lt)).cell 40).trans cc.2.2.2.2.2.2
 have v:=λX (z:Below W W X) (Ae:OA) (ce:Nat) (aV:Ae=none->ce=0) (hE:Byt X Ae (a5V c.e))=>b8y c.h.root a.h.root Ae ce aV (a5V c.e) (ρh (a9Y a.e)) c.path a.path A cap b f X hE ((o.below Z).below z) ((d.below Z).below z)
 have x:=λX (z:Below W W X) (Ah:OA) (ch:Nat) (aT:Ah=none->ch=0) (hH:Byt X Ah (a2a c.h))=>b9B p k seed c.h.sh Ah ch (a2a c.h) c.tag X ((j.below Z).below z) m hH aT (ρh (a7a a.h)) a.tag ((d.below Z).below z)
 generalize aF:(decide (c.path.length=2)&&decide (a1n (a1n (c.path.getD 0 []) (a0R (a5V c.e))) (c.path.getD 1 [])=c.h.root))=R1
 simp only[aF]at v
 generalize ar:(decide (0<=c.h.sh/\c.h.sh<k)&&decide (c.tag=a7C seed c.h.sh (a2a c.h)))=R2
 simp only[ar]at x;have F:=b2M a.e;have H:=a8g a.h;have hS:(c.e.sh != c.h.sh)=false:=ρw hs;have hT:(c.e.ep != c.h.ep)=false:=ρw hp;have⟨ef,au⟩:=η0 (a5V c.e);have⟨hf,ai⟩:=η0 (a2a c.h);rw[au]at J v F;simp only[ai]at E x H;have⟨s1,ay⟩:=η0 c.e.sh;have⟨s2,aj⟩:=η0 c.h.sh;have⟨t1,az⟩:=η0 c.e.ep;have⟨t2,aB⟩:=η0 c.h.ep;rw[ay]at k1 hS;rw[aj]at Y hS x;rw[az]at aa hT;rw[aB]at af hT
 generalize aU:(a0d c A cap).toArray=xs at hW⊢
 have⟨ve,al⟩:=η0 ((a0x c.e).toArray);have⟨vh,ah⟩:=η0 ((a0b c.h).toArray);have⟨vr,ao⟩:=η0 ((bys c.h.root).toArray);have⟨vt,aC⟩:=η0 ((bys c.tag).toArray);rw[al]at S J;rw[ah]at D E;rw[ao]at I v;rw[aC]at G x;have⟨pl,U⟩:=η0 c.path.length;rw[U]at ac v;have⟨HW,HG,HB,aS,aO,aI,K1,aP⟩:=η8 hW hg Z D I G k1 aa;have⟨aG,aA,aN,aH,N,K,aL,aW⟩:=η8 ac Y af E v x F H;clear hW hg Z D I G k1 aa ac Y af E v x F H ay aj az aB aU al ah ao aC B a j m b f o d hE hH hs hp cc aF ar au ai U;go_enter func249,ntmps249;go_upto_region 1 with fail
 rw[HW.o,HG.o];go_wp2_with fail;refine μ1 J ?_;rintro e w1 ⟨v1,rfl,ab,V⟩;obtain⟨A1,c1,rfl,R,_,_⟩:=a0N.byt ab aL;have D:=aS.o w1 V;have E:=aH.o w1;have ag:A1=none->c1=0:=λe=>by subst e;exact a0N.nulI ab
 generalize av:ef.length=n1 at N⊢
 have⟨aQ,aD,aK⟩:=η3 V R ag;clear V R ag ab J S av;go_wp2_with fail;refine μ1 E ?_;rintro e w2 ⟨v2,rfl,ae,ad⟩;obtain⟨A2,c2,rfl,T,_,_⟩:=a0N.byt ae aW;have aE:A2=none->c2=0:=λe=>by subst e;exact a0N.nulI ae
 have r:=φt aQ ad;have q1:=K1.o w2 r;have q2:=aP.o w2 r;have q3:=aA.o w2 r;have q4:=aN.o w2 r;have q5:=aG.o w2 r;have q6:=aO.o w2 r;have ht:=N.o w2 r A1 c1 aK (aD.below ad)
 generalize ax:hf.length=n2 at K⊢
 have⟨aM,aq,aJ⟩:=η3 r T aE;clear r T aE ae ad E D ax;go_wp2_with fail;refine μi ht ?_;intro w3 O;have y:=φt aM O
 cases R1 with
 |
  true=>
  have q7:=aA.o w3 y;have q8:=aI.o w3 y;have ak:=K.o w3 y A2 c2 aJ (aq.below O);have Q:=η1 y;clear y O ht q1 q2 q3 q4 q5 q6;go_wp2_with fail;refine μi ak ?_;intro w4 an;have aR:=η1 an;clear an ak;go_wp2;go_ret;exact⟨rfl,HB.trans ((Q.trans (aR.mono Q.size)).mono HB.size)⟩
 |
  false=>
  have Q:=η1 y;clear y O ht q1 q2 q3 q4 q5 q6;go_wp2;go_ret;exact⟨rfl,HB.trans (Q.mono HB.size)⟩
theorem b1O(p k:Nat)(seed:LI)(A:OA)(cap:Nat)(c:a0y)(w:WD)(g:a5n w p seed k)(j:k<=64)(a:c.Bd)(b:c.path.length<=cap)(d:c.path.length<=1000000)(m:RdR 32 w A (c.path.map bys))(f:a2x w):
  Calls prog 249 #[.pointer p,.agg (a0d c A cap).toArray] w λe w'=>e=.returned (.bool (isP seed k c))/\Below w w w':=by
 by_cases o:a0D c.e=true
 ·by_cases r:a0w c.h=true
  ·by_cases v:c.e.sh=c.h.sh
   ·by_cases x:c.e.ep=c.h.ep
    ·exact b8K p k seed A cap c w g j a b d m f o r v x
    exact a8u p k seed A cap c w a (.inr (.inr (.inr ⟨o,r,v,x⟩)))
   exact a8u p k seed A cap c w a (.inr (.inr (.inl ⟨o,r,v⟩)))
  exact a8u p k seed A cap c w a (.inr (.inl ⟨o,by simpa using r⟩))
 exact a8u p k seed A cap c w a (.inl (ρw o))
theorem b2n(p k:Nat)(seed:LI)(A:OA)(cap:Nat)(c:a0y)(a sh:Int)(id:LI)(hid:Dig id)(w:WD)(m:a5n w p seed k)(o:k<=64)(d:c.Bd)(b:c.path.length<=cap)(f:c.path.length<=1000000)(r:RdR 32 w A (c.path.map bys))(j:a2x w):
  Calls prog 216 #[.pointer p,.agg (a0d c A cap).toArray,.int .i64 a,.int .i64 sh,.agg (bys id).toArray] w λe w'=>e=.returned (.bool (isP seed k c&&(decide (c.e.kind=a)&&(decide (c.e.sh=sh)&&decide (c.e.tx=id)))))/\Below w w w':=by
 have b0:=Qd w 39 ((a0d c A cap).toArray);have B0:=ρb w (.cells ((a0d c A cap).toArray) 39)
 generalize S:w.alloc (.cells ((a0d c A cap).toArray) 39)=W at b0 B0
 have⟨g,O⟩:=ηs w;rw[O]at b0;have⟨yi,af⟩:=η0 ((bys id).toArray);have b1:=Qd W 31 yi;have N:Below w w (W.alloc (.cells yi 31)):=B0.alloc B0.size _
 generalize hV:W.alloc (.cells yi 31)=V at b1 N
 have I:W.heap.size=g+1:=by first | exact O | (rw[<-S];simp[O]) | (rw[<-S];simp;omega)
 rw[I]at b1;subst af;have z:=b0.alloc (.cells (bys id).toArray 31);rw[hV]at z;have ab:(bys id).length=32:=by rw[a0a,hid.1]
 have B:=P4 a8j a4U (a0d c A cap) z (a0l d A cap);have F:=λX (J:Below V V X)=>P4 a2i iId (bys id) (b1.fr (Q9 J) (ρh b1.lt)) ab
 have G:=λX (J:Below V V X)=>P6 a2i iId (z.fr (Q9 J) (ρh z.lt)) (off:=2) (bys c.e.tx) (by rw[a0a,d.e.tx.1]) (by simpa using c4x d A cap)
 have cc:=a9l d A cap;have k0:∀X,Below V V X->X.cell? ⟨g,0,none⟩=some (.int .i64 c.e.kind):=λX J=>((z.fr (Q9 J) (ρh z.lt)).cell 0).trans cc.1
 have k1:∀X,Below V V X->X.cell? ⟨g,1,none⟩=some (.int .i64 c.e.sh):=λX J=>((z.fr (Q9 J) (ρh z.lt)).cell 1).trans cc.2.1
 have y:=b1O p k seed A cap c V (m.below N) o d b f (r.below N) (j.below N);have x:=λX=>a8i c.e.tx id d.e.tx hid X
 have⟨R,hR⟩:=η0 (isP seed k c);have⟨T,hT⟩:=η0 (decide (c.e.tx=id));rw[hR]at y;rw[hT]at x;rw[hR,hT];have⟨s1,Z⟩:=η0 c.e.sh;have⟨K,U⟩:=η0 c.e.kind;rw[Z]at k1⊢;rw[U]at k0⊢;have⟨xs,Q⟩:=η0 ((a0d c A cap).toArray);have⟨ys,Y⟩:=η0 ((bys id).toArray);have⟨zs,ac⟩:=η0 ((bys c.e.tx).toArray);rw[Q]at S B y⊢;rw[Y]at hV F x⊢;rw[ac]at G x;have⟨HW,HV,HG,H,K0,K1,ae,ad⟩:=η8 S hV O N k0 k1 F G;have HS:=η1 x;clear S hV O N k0 k1 F G x U Z Q Y ac hR hT b0 z b1 B0 m o d b f r j hid ab I cc
 have hq:R=false\/(R=true/\(K == a)=false)\/(R=true/\(K == a)=true/\(s1 == sh)=false)\/(R=true/\(K == a)=true/\(s1 == sh)=true):=by
  cases R<;>cases(K == a)<;>cases(s1 == sh)<;>simp
 rcases hq with rfl | ⟨rfl,h0⟩ | ⟨rfl,h0,h1⟩ | ⟨rfl,h0,h1⟩
 ·rw[Bool.false_and]
  go_enter func216,ntmps216;go_upto_region 1 with fail
  rw[HW.o,HV.o,HG.o];go_wp2_with fail;refine μi y ?_;intro E v;have D:=η1 v;clear v y B;go_wp2;go_ret;exact⟨rfl,H.trans (D.mono H.size)⟩
 ·rw[show decide (K=a)=false by simpa using h0,Bool.false_and,Bool.and_false]
  go_enter func216,ntmps216;go_upto_region 1 with fail
  rw[HW.o,HV.o,HG.o];go_wp2_with fail;refine μi y ?_;intro E v;have q0:=K0.o E v;have D:=η1 v;clear v y B;go_wp2;go_ret;exact⟨rfl,H.trans (D.mono H.size)⟩
 ·rw[show decide (s1=sh)=false by simpa using h1,Bool.false_and,Bool.and_false,Bool.and_false]
  go_enter func216,ntmps216;go_upto_region 1 with fail
  rw[HW.o,HV.o,HG.o];go_wp2_with fail;refine μi y ?_;intro E v;have q0:=K0.o E v;have q1:=K1.o E v;have D:=η1 v;clear v y B;go_wp2;go_ret;exact⟨rfl,H.trans (D.mono H.size)⟩
 rw[show decide (K=a)=true by simpa using h0,show decide (s1=sh)=true by simpa using h1,Y5,Y5,Y5];go_enter func216,ntmps216;go_upto_region 1 with fail
 rw[HW.o,HV.o,HG.o];go_wp2_with fail;refine μi y ?_;intro E v;have q0:=K0.o E v;have q1:=K1.o E v;have q2:=ae.o E v;have q3:=ad.o E v;have hs:=HS.o E;have D:=η1 v;clear v y B;go_wp2_with fail;refine μi hs ?_;intro w2 aa;have ag:=η1 aa;clear aa hs;go_wp2;go_ret;exact⟨rfl,H.trans ((D.trans (ag.mono D.size)).mono H.size)⟩
end
end Go.Proofs.YtpolljfkceanaaaGreatDoor
