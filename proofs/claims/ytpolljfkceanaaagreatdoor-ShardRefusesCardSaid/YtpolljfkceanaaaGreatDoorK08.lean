/-
  Contracts of functions, plain laws.
-/
import Derived.Test.YtpolljfkceanaaaGreatDoorK07
namespace Go.Proofs.YtpolljfkceanaaaGreatDoor
open Go.RowKit Go.Shelf Go.Maps Go.Proofs.Tryz
set_option maxRecDepth 100000
set_option maxHeartbeats 64000000
variable {zz:AV}{s:Int}{l:LI}{T:LL}{R:LW}{a b cb g k:Nat}{A:OA}{X w:WD}
set_option linter.all false
section
attribute [local go_sem ↓] a2q a1D a3u a3h a2t a2s a2n
def b1j(nil:Bool)(n:Int)(t:TxD)(N:Nat)(many:Int):Int:=
 if nil=true\/n<1\/64<n then 1 else if a1a t≠0 then a1a t else if(N:Int)≠many then 27 else 0
theorem a9D(m:OA)(b:OA)(f:Nat)(d:OA)(j:Nat)(t:TxD)(n a:Int)(A:OA)(N c:Nat)(w:WD)(h:a9H w b d t)(p:t.ins.length<=1000000)(o:t.outs.length<=1000000):
  Calls prog 215 #[.pointer m,.agg (txV b f d j t),.int .i64 n,.int .i64 a,.slice A N c] w λe w'=>e=.returned (.int .i64 (b1j m.isNone n t N a))/\Below w w w':=by
 have H:=Qd w 53 (txV b f d j t);have I:=ρb w (.cells (txV b f d j t) 53)
 generalize O:w.alloc (.cells (txV b f d j t) 53)=W at H I
 have⟨g,K⟩:=ηs w;rw[K]at H;have z:=P4 uTx iTx (txV b f d j t).toList (ρw H) rfl;have v:=a3L b f d j t W (h.below I) p o;have⟨Y,B⟩:=η0 (txV b f d j t);rw[show(txV b f d j t).toList.toArray=txV b f d j t by simp,B]at z;rw[B]at O v⊢;have⟨R,S⟩:=η0 (a1a t);rw[S]at v;have G:b1j m.isNone n t N a=(if m.isNone=true\/n<1\/64<n then 1 else if R≠0 then R else if(N:Int)≠a then 27 else 0):=by unfold b1j;rw[S]
 rw[G];have⟨F,D,y⟩:=η3 O K I;clear O K I B S G H h p o
 cases m with
 |
  none=>
  rw[if_pos (.inl rfl)];go_enter func215,ntmps215;go_upto_region 1 with fail
  rw[F.o,D.o];go_wp2;go_ret;exact⟨rfl,y.o⟩
 |
  some Z=>
  by_cases V:n<1
  ·rw[if_pos (.inr (.inl V))]
   go_enter func215,ntmps215;go_upto_region 1 with fail
   rw[F.o,D.o];go_wp2;go_ret;exact⟨rfl,y.o⟩
  by_cases U:64<n
  ·rw[if_pos (.inr (.inr U))]
   go_enter func215,ntmps215;go_upto_region 1 with fail
   rw[F.o,D.o];go_wp2;go_ret;exact⟨rfl,y.o⟩
  rw[if_neg (by simp;omega)]
  by_cases J:R=0
  ·subst J
   rw[if_neg ρp]
   by_cases E:(N:Int)=a
   ·rw[if_neg (ρw E)]
    have Q:((N:Int) != a)=false:=ρw E;clear E;go_enter func215,ntmps215;go_upto_region 1 with fail
    rw[F.o,D.o];go_wp2_with fail;refine μi v ?_;intro T r;have x:=η1 r;clear r v z;go_wp2;go_ret;exact⟨rfl,y.trans (x.mono y.size)⟩
   rw[if_pos E];have Q:((N:Int) != a)=true:=ρw E;clear E;go_enter func215,ntmps215;go_upto_region 1 with fail
   rw[F.o,D.o];go_wp2_with fail;refine μi v ?_;intro T r;have x:=η1 r;clear r v z;go_wp2;go_ret;exact⟨rfl,y.trans (x.mono y.size)⟩
  rw[if_pos J];have X:(R != 0)=true:=ρw J;clear J;go_enter func215,ntmps215;go_upto_region 1 with fail
  rw[F.o,D.o];go_wp2_with fail;refine μi v ?_;intro T r;have x:=η1 r;clear r v z;go_wp2;go_ret;exact⟨rfl,y.trans (x.mono y.size)⟩
theorem b3W(seed:LI)(t:TxD)(n:Int):∀(S:LI) (L:List a0y),L.length=S.length->(b6w seed t n S L=true↔∀j,j<L.length->b4x seed t n (S.getD j 0) (L.getD j default)=true)
 | [],[],_=>by simp[b6w]
 |
  s::S,c::L,h=>by
  have ih:=b3W seed t n S L (ρw h);rw[b6w,QA,ih]
  constructor
  ·rintro⟨h0,h1⟩ j hj
   cases j with
   | zero=>simpa using h0
   | succ j=>simpa using h1 j (ρw hj)
  intro h;exact⟨by simpa using h 0 ρp,λj hj=>by simpa using h (j+1) (ρw hj)⟩
 | [],c::L,h=>by simp at h
 | s::S,[],h=>by simp at h
theorem c4J{c:a0y}(h:c.Bd)(A:OA)(cap:Nat):(a0d c A cap)[34]? =some (.int .u64 c.e.am):=by
 have a:(bys c.e.tx).length=32:=by rw[a0a,h.e.tx.1]
 unfold a0d a0x a0b;simp[a]
theorem b1W(p k:Nat)(seed:LI)(a:OA)(d:Nat)(b:OA)(f:Nat)(t:TxD)(A:OA)(c:Nat)(l:List a0y)(w:WD)(v:a5n w p seed k)(x:1<=k)(y:k<=64)(h:a9H w a b t)(m:a2x w)(r:t.ins.length<=1000000)(o:t.outs.length<=1000000)
  (hC:a4g w A l) (hpl:∀c∈l,c.path.length<=1000000) (hll:l.length<=1000000):
  Calls prog 158 #[.pointer p,.agg (txV a d b f t),.int .i64 k,.slice A l.length c] w λe w'=>e=.returned (.int .i64 (b6j seed t k l))/\Below w w w':=by
 have b0:=Qd w 53 (txV a d b f t);have B0:=ρb w (.cells (txV a d b f t) 53)
 generalize hW:w.alloc (.cells (txV a d b f t) 53)=W at b0 B0
 have⟨g,hg⟩:=ηs w;rw[hg]at b0;have aF:=λX (E:Below W W X)=>P4 uTx iTx (w:=X) (txV a d b f t).toList (by simpa using b0.fr (Q9 E) (ρh b0.lt)) rfl
 have aT:=aF W (Qf _ _);have ai:=b7x a d b f t (k:Int) ρo W (h.below B0) (m.below B0) r o;have F:=λX (E:Below W W X) bh=>a9D p a d b f t (k:Int) bh A l.length c X ((h.below B0).below E) r o
 have hid:=λX (E:Below W W X)=>a2v a d b f t X ((h.below B0).below E) ((m.below B0).below E) r o
 have ar:=λX (E:Below W W X) s=>b9F a d b f t (k:Int) s ρo X ((h.below B0).below E) ((m.below B0).below E) r o
 have bl:=v.below B0;have bo:=hC.below B0;have bn:=m.below B0;have T:=b4i (a2P t (k:Int));have aJ:=b3W seed t (k:Int) (a2V (a2P t (k:Int))) l
 have ao:∀s c,b4x seed t (k:Int) s c=(isP seed k c&&(decide (c.e.kind=1)&&(decide (c.e.sh=s)&&decide (c.e.tx=idP t)))&&decide (c.e.am=a6B t k s)):=λs c=>by
  unfold b4x;simp only[Bool.and_assoc]
 have aI:Dig (idP t):=⟨a3b t,a5f t⟩
 have aQ:b6j seed t (k:Int) l=if a1a t≠0 then a1a t else if l.length≠(a2V (a2P t (k:Int))).length then 27 else if b6w seed t (k:Int) (a2V (a2P t (k:Int))) l=true then 0 else 16:=by
  unfold b6j;rw[if_neg ρo]
 have aM:∀N:Nat,b1j false (k:Int) t l.length N=if a1a t≠0 then a1a t else if l.length≠N then 27 else 0:=λN=>by
  unfold b1j;rw[if_neg (by simp;omega)]
  by_cases h0:a1a t=0
  ·simp only[h0,ne_eq,not_true_eq_false,if_false]
   by_cases h1:l.length=N
   ·subst h1
    simp
   rw[if_pos ρo,if_pos h1]
  rw[if_pos h0,if_pos h0]
 rw[aQ]
 generalize hS:a2V (a2P t (k:Int))=S at ai T aJ⊢
 have⟨D,hD⟩:=η0 (idP t);simp only[hD]at hid ao aI;have⟨xs,aA⟩:=η0 (txV a d b f t);rw[show(txV a d b f t).toList.toArray=txV a d b f t by simp,aA]at aT;simp only[aA]at aF;rw[aA]at hW ai⊢;simp only[aA]at F hid ar;have⟨N,hN⟩:=η0 l.length;simp only[hN]at F aM;rw[hN]at hll aJ⊢;have⟨R,hR⟩:=η0 (a1a t);simp only[hR]at aM;rw[hR]
 generalize aS:(if R≠0 then R else if N≠S.length then 27 else if b6w seed t (k:Int) S l=true then 0 else 16)=RES
 have aY:(bys D).length=32:=by rw[a0a,aI.1]
 obtain⟨Z,bE,aN,hz⟩:=P8 (t:=31) iId b1N;have a9:=λX=>aN X (bys D) aY (a0h _)
 have⟨HW,HG,HB,aZ,bq,bs,a5,HR⟩:=η8 hW hg B0 aF F hid ar bl;have⟨HC,br,aK,be,bB,bC,HN,bw⟩:=η8 bo bn aJ ao aI aM hN hpl;have⟨bx,bg,bF,B⟩:=η4 aY T b0 aS;clear hW hg B0 aF F hid ar bl bo bn aJ ao aI aM hN hpl aY T b0 aS hR hD hS aA h m v hC aQ aN hz;go_enter func158,ntmps158;go_upto_region 1 with fail
 rw[HW.o,HG.o];go_wp2_with fail;refine μ1 ai ?_;rintro e w1 ⟨As,cs,rfl,bi,aC⟩
 generalize hM:S.length=M at aK bg B⊢
 have aq:=aZ.o w1 aC;have F:=bq.o w1 aC (M:Int);rw[show(some (⟨p,0,none⟩:Addr)).isNone=false from rfl,bC.o M]at F;have⟨bt,ay,HM⟩:=η3 bi aC hM;clear bi aC hM ai aT
 by_cases aL:R=0
 ·subst aL
  simp only[ne_eq,not_true_eq_false,if_false]at F B
  by_cases bb:N=M
  ·subst bb
   simp only[not_true_eq_false,if_false]at F B;go_wp2_with fail;refine μi F ?_;intro w2 U;have aj:=φt ay U;have a6:=aZ.o w2 aj;have aR:=bs.o w2 aj;have aO:=bt.below U;have⟨an,a8⟩:=η2 aj aO;clear aj aO U F aq;go_wp2_with fail;refine μi aR ?_;intro w3 aV;have au:=φt an aV;have a7:=a9 w3;have q1:=Qd w3 31 (bys D).toArray;have q2:=au.alloc au.size (.cells (bys D).toArray 31);have q3:=(a8.below aV).below ((Qf _ w3).alloc (Qg _) (.cells (bys D).toArray 31));have⟨h,hh⟩:=ηs w3
   generalize hY:w3.alloc (.cells (bys D).toArray 31)=Y at q1 q2 q3 a7
   rw[hh]at q1;have aP:=λX (E:Below Y Y X)=>P4 a2i iId (bys D) (q1.fr (Q9 E) (ρh q1.lt)) bx.o
   have⟨bA,ae,bf,bp⟩:=η4 hh q2 q3 aP;clear hh q2 q3 aP aV au q1 hY aR a6 a9;go_upto_region 7 with fail
   rw[bA.o];go_loopg [12,30] N (λkk _ s wr=>∃i:Nat,i+kk=N/\s=.int .i64 i/\(∀j,j<i->b4x seed t (k:Int) (S.getD j 0) (l.getD j default)=true)/\Below Y Y wr);exact⟨0,by omega,rfl,λj hj=>ρo,Qf _ _⟩;obtain⟨i,hi,rfl,aG,ab⟩:=hrel
   by_cases aH:i<N
   ·have bm:(i:Int)<N:=ρo
    have a1:i<l.length:=by rw[HN.o];exact aH
    obtain⟨g1,o1,rfl,bu,s1⟩:=(bf.below ab).at (i:=i) (ρy HM.o aH);obtain⟨g2,o2,B2,d2,rfl,bj,ag⟩:=HC.o i a1;have G:=φt ae ab;have F1:=λX (E:Below wr.heap.size wr X)=>(ag.below bj (G.trans (E.mono G.size))).ld
    have F2:=λX (E:Below wr.heap.size wr X)=>(E.cell (p:=⟨g1,o1+i,none⟩) bu).trans s1
    have F3:=λX (E:Below wr.heap.size wr X)=>bp.o X (ab.trans (E.mono ab.size))
    have F4:=λX (E:Below wr.heap.size wr X)=>(ag.below bj (G.trans (E.mono G.size))).cell 34 _ (c4J ag.bd _ _)
    have F5:=λX (E:Below wr.heap.size wr X)=>aZ.o X (G.trans (E.mono G.size))
    have ax:=λX (E:Below wr.heap.size wr X)=>b2n p k seed B2 d2 l[i] 1 (S.getD i 0) D bB.o X (HR.below (G.trans (E.mono G.size))) y ag.bd ag.room (bw.o _ (Qu a1)) (ag.path.below (G.trans (E.mono G.size))) (br.below (G.trans (E.mono G.size)))
    have aE:=λX (E:Below wr.heap.size wr X)=>a5.o X (G.trans (E.mono G.size)) (S.getD i 0)
    have Q:=be.o (S.getD i 0) l[i];have a3:l.getD i default=l[i]:=by simp[List.getD,a1]
    have⟨PR,a0⟩:=η0 ((isP seed k l[i]&&(decide (l[i].e.kind=1)&&(decide (l[i].e.sh=S.getD i 0)&&decide (l[i].e.tx=D)))));simp only[a0]at ax;rw[a0]at Q;have⟨cv,ba⟩:=η0 ((a0d l[i] B2 d2).toArray);simp only[ba]at F1 ax;have⟨am,aW⟩:=η0 (l[i].e.am);simp only[aW]at F4;rw[aW]at Q;have⟨si,aD⟩:=η0 (S.getD i 0);simp only[aD]at F2 ax aE;rw[aD]at Q;have⟨sm,av⟩:=η0 (a6B t (k:Int) si);simp only[av]at aE;rw[av]at Q
    obtain⟨S0,aX⟩:∃S0:WD->Prop,(λX=>(LDs 39 (.pointer (some ⟨g2,o2+i*137,none⟩))).run prog X=.ok (.agg cv) X/\X.cell? ⟨g1,o1+i,none⟩=some (.int .i64 si)/\
     (LDs 31 (.pointer (some ⟨h,0,none⟩))).run prog X=.ok (.agg (bys D).toArray) X/\X.cell? ⟨g2,o2+i*137+34,none⟩=some (.int .u64 am)/\(LDs 53 (.pointer g)).run prog X=.ok (.agg xs) X)=S0:=⟨_,rfl⟩
    have bk:∀X,Below wr.heap.size wr X->S0 X:=λX E=>by rw[<-aX];exact⟨F1 X E,F2 X E,F3 X E,F4 X E,F5 X E⟩
    have bG:(0:Int)<=(i:Int):=ρo;have ak:=ax wr.drew (Qf _ _).drew;have⟨al,ah,I,a2,aU,bz,ad,a4⟩:=η8 aX bk Q a3 aD aG ab aE;clear aX bk Q a3 aD aG ab aE ag G F1 F2 F3 F4 F5 ax a0 ba aW av s1
    cases PR with
    |
     true=>
     rw[Y5]at I
     by_cases has:am=sm
     ·have bc:(am != sm)=false:=ρw has
      rw[show decide (am=sm)=true by simpa using has]at I;clear has;go_upto_region 9 with fail
      refine a0s [(0,3),(1,3),(2,3),(3,3),(5,3),(6,3),(7,3),(4,0),(8,0),(9,0),(10,1),(11,3),(12,3),(13,3),(14,3),(15,3),(16,3),(17,3),(20,3),(21,3),(22,3),(23,3),(18,0),(19,0),(24,0),(25,1),(26,3),(27,3)] S0 ρk ρk ρk ρk (ah.o _ (Qf _ _).drew) ?_;refine ε7 ?_
      iterate 3 refine θ5 (λ_ h=>by rw[<-al.o]at h;exact h) ?_
      refine κ ?_;intro K hK;refine μi ak ?_;intro af H;have z:Below wr.heap.size wr af:=(Qf _ wr).drew.trans H;have V:=a4.o af z;have J:=η1 z;clear z H ak;with_reducible refine hK _ _ (ah.o _ J.o) ?_;clear hK K
      refine ε7 ?_;refine ε4 ?_
      iterate 3 refine θ5 (λ_ h=>by rw[<-al.o]at h;exact h) ?_
      refine κ ?_;intro K hK;refine μi V ?_;intro bv ac;have O:=φt J ac;have aa:=η1 O;clear O ac V;with_reducible refine hK _ _ (ah.o _ aa.o) ?_;clear hK K
      refine ε2 ?_;refine ν ?_;go_wp2;go_roundg (N-(i+1))
      case measure=>omega
      refine⟨i+1,by omega,by go_num,λj hj=>?_,ad.trans (aa.mono ad.size)⟩
      by_cases e:j=i
      ·subst e;rw[a2.o,aU.o];exact I.o
      exact bz.o j ρo
     have bc:(am != sm)=true:=ρw has;rw[show decide (am=sm)=false by simpa using has]at I
     have az:RES=16:=by
      rw[<-B.o,if_neg];intro e
      have:=(aK.o ρp).1 e i aH
      rw[a2.o,aU.o,I.o]at this
      cases this
     subst az;clear has B;go_upto_region 9 with fail
     refine a0s [(0,3),(1,3),(2,3),(3,3),(5,3),(6,3),(7,3),(4,0),(8,0),(9,0),(10,1),(11,3),(12,3),(13,3),(14,3),(15,3),(16,3),(17,3),(20,3),(21,3),(22,3),(23,3),(18,0),(19,0),(24,0),(25,1),(26,3),(27,3)] S0 ρk ρk ρk ρk (ah.o _ (Qf _ _).drew) ?_;refine ε7 ?_
     iterate 3 refine θ5 (λ_ h=>by rw[<-al.o]at h;exact h) ?_
     refine κ ?_;intro K hK;refine μi ak ?_;intro af H;have z:Below wr.heap.size wr af:=(Qf _ wr).drew.trans H;have V:=a4.o af z;have J:=η1 z;clear z H ak;with_reducible refine hK _ _ (ah.o _ J.o) ?_;clear hK K
     refine ε7 ?_;refine ε4 ?_
     iterate 3 refine θ5 (λ_ h=>by rw[<-al.o]at h;exact h) ?_
     refine κ ?_;intro K hK;refine μi V ?_;intro bv ac;have O:=φt J ac;have aa:=η1 O;clear O ac V;with_reducible refine hK _ _ (ah.o _ aa.o) ?_;clear hK K
     refine ε2 ?_;refine ν ?_;go_wp2;go_ret;exact⟨rfl,HB.trans ((ae.trans ((ad.trans (aa.mono ad.size)).mono ae.size)).mono HB.size)⟩
    |
     false=>
     rw[Bool.false_and]at I
     have az:RES=16:=by
      rw[<-B.o,if_neg];intro e
      have:=(aK.o ρp).1 e i aH
      rw[a2.o,aU.o,I.o]at this
      cases this
     subst az;clear B;go_upto_region 9 with fail
     refine a0s [(0,3),(1,3),(2,3),(3,3),(5,3),(6,3),(7,3),(4,0),(8,0),(9,0),(10,2),(11,3),(12,3),(13,3),(14,3),(15,3),(16,3),(17,3),(18,3),(19,3),(20,3),(21,3),(22,3),(23,3),(24,3),(25,3),(26,3),(27,3)] S0 ρk ρk ρk ρk (ah.o _ (Qf _ _).drew) ?_;refine ε7 ?_
     iterate 3 refine θ5 (λ_ h=>by rw[<-al.o]at h;exact h) ?_
     refine τ ?_;intro K hK;refine μi ak ?_;intro af H;have z:Below wr.heap.size wr af:=(Qf _ wr).drew.trans H;have J:=η1 z;clear z H ak;with_reducible refine hK _ _ ?_;clear hK K
     refine ε2 ?_;refine δ4 ?_;refine δ4 ?_;refine δ4 ?_;refine δ1 ?_;refine δ1 ?_;refine ε1 ?_;refine ν ?_;go_wp2;go_ret;exact⟨rfl,HB.trans ((ae.trans ((ad.trans (J.mono ad.size)).mono ae.size)).mono HB.size)⟩
   obtain rfl:i=N:=ρo;have bm:¬(i:Int)<i:=ρo;have aB:RES=0:=by rw[<-B.o,if_pos ((aK.o ρp).2 aG)]
   subst aB;have ad:=η1 ab;clear ab aG;go_wp2;go_ret;exact⟨rfl,HB.trans ((ae.trans (ad.mono ae.size)).mono HB.size)⟩
  simp only[bb,not_false_eq_true,if_true]at F B;have aB:RES=27:=B.symm;subst aB;go_wp2_with fail;refine μi F ?_;intro w2 U;have an:=η1 U;clear U F aq;go_wp2;go_ret;exact⟨rfl,HB.trans ((ay.trans (an.mono ay.size)).mono HB.size)⟩
 simp only[ne_eq,aL,not_false_eq_true,if_true]at F B;have aB:RES=R:=B.symm;subst aB;have bD:(RES != 0)=true:=ρw aL;clear aL B;go_wp2_with fail;refine μi F ?_;intro w2 U;have an:=η1 U;clear U F aq;go_wp2;go_ret;exact⟨rfl,HB.trans ((ay.trans (an.mono ay.size)).mono HB.size)⟩
end
theorem RdR.fr{m:Nat}{b:WD}{F:Nat->Prop}(h:RdR m w A R)(d:Fr F w b)(f:∀a,A=some a->¬F a.block):RdR m b A R:=λj hj=>by
 obtain⟨g,off,e,hg,hc⟩:=h j hj;exact⟨g,off,e,Qh hg d.size,λk x hx=>(d.cell (p:=⟨g,off+j*m+k,none⟩) hg (f ⟨g,off,none⟩ e)).trans (hc k x hx)⟩
section
def d0x(cmd:LI)(e:a1P)(iss:Nat)(x:Ending)(w':WD):Prop:=∃g,x=.returned (.tuple #[.slice (some ⟨g,0,none⟩) 3 3,.bool true])/\a4M w' g 0 cmd/\a4M w' g 1 (a5V e)/\a4M w' g 2 (a0K iss)
attribute [local go_sem ↓] a1W
theorem b6b(A:OA)(c:Nat)(g:A=none->c=0)(a:LI)(b:a.length<=100000000)(e:a1P)(d:e.Bd)(m:a0D e=true)(iss:Nat)(hi:iss<=4611686018427387904)(w:WD)(j:Byt w A a):
  Calls prog 204 #[.slice A a.length c,.agg (a0x e).toArray,.int .u64 iss] w λx w'=>d0x a e iss x w'/\Below w w w':=by
 have b0:=Qd w 34 (((a0x e).toArray));have B0:=ρb w (.cells (((a0x e).toArray)) 34)
 generalize hW:w.alloc (.cells (((a0x e).toArray)) 34)=W at b0 B0
 have⟨g0,ad⟩:=ηs w;rw[ad]at b0;have aa:=P4 b3q a8Q (a0x e) b0 (a0u d);have o:=a5H e d W;rw[m]at o;simp only[if_true]at o;have hI:¬((4611686018427387904:Int)<(iss:Int)):=ρo;have Y:=a0L (n:=iss) ρo;have J:=a0p (n:=iss) ρo;have O:=b2M d
 generalize aO:(a0x e).toArray=xs at hW aa o⊢
 generalize hn:a.length=n
 have⟨HW,HG,Z,aL,az,HN,ak,HC⟩:=η8 hW ad B0 O Y hn j g;have⟨aM,HI,aR⟩:=η3 J hi b;clear hW ad B0 O Y hn j g J hi b aO b0;go_enter func204,ntmps204;go_upto_region 1 with fail
 rw[HW.o,HG.o];go_wp2_with fail;refine μ1 o ?_;rintro e1 v ⟨v2,rfl,ah,aj⟩;obtain⟨A2,c2,rfl,T,_,_⟩:=a0N.byt ah aL;have aD:A2=none->c2=0:=λe=>by subst e;exact a0N.nulI ah
 generalize V:(a5V e).length=n2
 have K:a3Z v (v.alloc (.cells #[.slice none 0 0] 123)) v.heap.size (.slice none 0 0) []:=⟨Qd v _ _,Qg _,a0N.nil _ _⟩;have H:=ρb v (.cells #[.slice none 0 0] 123);have⟨w2,ab⟩:=η0 (v.alloc (.cells #[.slice none 0 0] 123));have⟨p,hp⟩:=ηs v;rw[ab]at K H;have aF:=HI.o;have E:=a2M v.heap.size v.heap.size (.slice none 0 0) [] iss ρo w2 K ρp H.size;rw[hp]at E;have⟨aG,HP,I,aq,aH,ao,aJ,au⟩:=η8 ab hp aj H K T aD V;clear ab hp aj H K T aD V aa o ah aF;go_upto_region 5 with fail
 rw[aG.o,HP.o];go_wp2_with fail;refine μ1 E ?_;rintro e1 w3 ⟨rfl,⟨v3,ac,ay⟩,af⟩
 have an:Below v w2 w3:=by
  have hp:=HP.o;rw[<-hp]at af;exact a1j aH af aq.size
 have aP:=HP.o;simp only[QF]at ac;have D:Below v v w3:=aq.trans an;have B:Below w w w3:=(Z.trans (I.mono Z.size)).trans (D.mono (Z.trans (I.mono Z.size)).size);have z:=a8r A c HC a w3 (ak.below B) (ρh aR.o);rw[HN.o]at z;have⟨r,aS,F⟩:=η3 D B ac;clear D B ac af ay an aP E;go_wp2_with fail;refine μ1 z ?_;rintro e1 w4 ⟨v4,rfl,ae,G⟩;obtain⟨A4,c4,aN,U,_,_⟩:=a0N.byt ae ak.bd;subst aN;have aB:A4=none->c4=0:=λe=>by subst e;exact a0N.nulI ae
 have al:a3Z p w4 p v3 (a0K iss):=⟨F.st.fr (Q9 G) (ρh F.o.st.lt),Qg _,F.own.fr (Q9 G) (λk hk f=>by have:=(F.own.lt hk).2;omega)⟩;have J:=aM.o;have ai:=a4A p p v3 (a0K iss) az.o w4 al ρo;rw[HN.o];have⟨aA,aE,aK⟩:=η3 G U aB;clear G U aB ae al z J;go_wp2_with fail;refine μ1 ai ?_;rintro e1 w5 ⟨v5,rfl,ag,av⟩;obtain⟨A5,c5,rfl,N,_,_⟩:=a0N.byt ag az;have ar:A5=none->c5=0:=λe=>by subst e;exact a0N.nulI ag
 generalize R:(a0K iss).length=n5
 have⟨aQ,ax,aI,aC⟩:=η4 av N ar R;clear av N ar R ag ai;go_wp2;go_ret2;have BX:=ρb w5 (.cells #[.slice A4 n c4,.slice A2 n2 c2,.slice A5 n5 c5] 22);have y:=Qd w5 22 #[.slice A4 n c4,.slice A2 n2 c2,.slice A5 n5 c5];have Q:=aQ.o;have X:Below v v w5:=(r.trans (aA.mono r.size)).trans (Q.mono (r.trans (aA.mono r.size)).size);have S:Below w w w5:=(Z.trans (I.mono Z.size)).trans (X.mono (Z.trans (I.mono Z.size)).size);exact⟨⟨w5.heap.size,rfl,⟨y.lt,A4,c4,by rw[HN.o];exact y.cell 0,(aE.below Q).below BX,aK.o⟩,⟨y.lt,A2,c2,by rw[au.o];exact y.cell 1,(ao.below X).below BX,aJ.o⟩,⟨y.lt,A5,c5,by rw[aC.o];exact y.cell 2,ax.below BX,aI.o⟩⟩,S.alloc S.size _⟩
end
section
abbrev Pt:=LI×Int
abbrev a4v:=ldOf 206
abbrev a4s:=stOf 206
abbrev a4r:=alOf 206
theorem c3f:(prog.underlying 206).map a1f=some true:=ρk
theorem a9y:(prog.info? 206).map (·.size)=some 33:=ρk
def a3q:a1q:=⟨List.replicate 32 0,0⟩
theorem a2R:a3q.Bd:=⟨by simp[a3q],by intro x hx;have:=Zf hx;omega,by simp[a3q]⟩
theorem b1a(w:WD):(ALs 206).run prog w=.ok (.pointer w) (w.alloc (.cells (a1s a3q).toArray 206)):=a0U (.agg (a1s a3q).toArray) ρk w
theorem d2E(w:WD):(zeroValue 206).run prog w=.ok (.agg (a1s a3q).toArray) w:=ρk
theorem b0v:prog.underlying 161=some (.map 189 206):=ρk
theorem a3a:(prog.underlying 189).map a1f=some true:=ρk
theorem a1H:(prog.info? 189).map (·.size)=some 33:=ρk
theorem a6l.vlen{p:Pt}(h:a6l p):(ptL p.1 p.2).length=33:=a1x h.len p.2
structure a0i(w:WD)(cb mb:Nat)(m:List (Pt×a1q))(s:Int):Prop where
 st:Blk w cb 163 #[.map (some mb),.int .u64 s]
 mp:a4o ptE a1s w mb m
 bd:∀p∈m,p.2.Bd
theorem a0i.fr{w b:WD}{cb a:Nat}{m:List (Pt×a1q)}{s:Int}{F:Nat->Prop}(h:a0i w cb a m s)(d:Fr F w b)(f:¬F cb)(g:¬F a):a0i b cb a m s:=⟨h.st.fr d f,h.mp.fr d g,h.bd⟩
theorem a0i.below{a:WD}{m:List (Pt×a1q)}(h:a0i w cb b m s)(d:Below w w a):a0i a cb b m s:=h.fr (Q9 d) (ρh h.st.lt) (ρh h.mp.lt)
theorem a0i.ne{m:List (Pt×a1q)}(h:a0i w cb a m s):a≠cb:=h.mp.ne_blk h.st
theorem a0i.q0{m:List (Pt×a1q)}(h:a0i w cb a m s):w.cell? ⟨cb,0,none⟩=some (.map (some a)):=h.st.cell 0
theorem a0i.q1{m:List (Pt×a1q)}(h:a0i w cb a m s):w.cell? ⟨cb,1,none⟩=some (.int .u64 s):=h.st.cell 1
def a1v(m:List (Pt×a1q))(p:Pt):a1q:=(a2E m p).getD a3q
theorem a3p{m:List (Pt×a1q)}(h:∀p∈m,p.2.Bd)(p:Pt):(a1v m p).Bd:=by
 unfold a1v
 cases hg:a2E m p with
 | none=>exact a2R
 | some v=>exact h _ (a6T hg)
theorem a0i.look{m:List (Pt×a1q)}(h:a0i w cb b m s){p:Pt}(d:a6l p):
  (Instr.lookup 161 (.map (some b)) (.agg (ptL p.1 p.2).toArray) true).run prog w=.ok (.tuple #[.agg (a1s (a1v m p)).toArray,.bool (a2E m p).isSome]) w:=by
 unfold a1v
 cases hg:a2E m p with
 | none=>exact h.mp.look_out b0v (a:=p) d (d2E w) hg true
 | some v=>exact h.mp.look_in b0v (a:=p) hg true
theorem c0Y(w:WD):Calls prog 28 #[] w λe w'=>e=.returned (.pointer (w.heap.size+1:Nat))/\a0i w' (w.heap.size+1) w.heap.size [] 0/\Below w w w'/\w'.heap.size=w.heap.size+2:=by
 have m:a4o ptE a1s (w.alloc (.map #[] 0)) w.heap.size []:=a4o.new w;have f:=ρb w (.map #[] 0);have o:=f.alloc f.size (.cells #[.map (some w.heap.size),.int .u64 0] 163);have d:=Qd (w.alloc (.map #[] 0)) 163 #[.map (some w.heap.size),.int .u64 0];rw[Qi]at d;have j:=m.fr (Q9 ((Qf _ (w.alloc (.map #[] 0))).alloc (Qg _) (.cells #[.map (some w.heap.size),.int .u64 0] 163))) ρp;have a:a0i ((w.alloc (.map #[] 0)).alloc (.cells #[.map (some w.heap.size),.int .u64 0] 163)) (w.heap.size+1) w.heap.size [] 0:=⟨d,j,by simp⟩;have⟨b,g⟩:=η2 a o;have p:=run_makeMap (P:=prog) (t:=161) w;clear a o d j m f;go_enter func28,ntmps28;go_wp2;go_ret;exact⟨by simp,b.o,g.o,by simp⟩
theorem b4j(cb a:Nat)(m:List (Pt×a1q))(s:Int)(w:WD)(h:a0i w cb a m s):Calls prog 202 #[.pointer cb] w λe w'=>e=.returned (.int .i64 (m.length:Int))/\w=w':=by
 have q0:=h.q0;have b:=h.mp.len_ (ty:=3) b0v
 generalize d:m.length=n at b⊢
 clear h d;go_enter func202,ntmps202;go_wp2;go_ret;exact⟨rfl,rfl⟩
theorem c2f(cb a:Nat)(m:List (Pt×a1q))(s:Int)(w:WD)(h:a0i w cb a m s):Calls prog 35 #[.pointer cb] w λe w'=>e=.returned (.int .u64 s)/\w=w':=by
 have q1:=h.q1;clear h;go_enter func35,ntmps35;go_wp2;go_ret;exact⟨rfl,rfl⟩
attribute [local go_sem ↓] a4v a4s a4r a1F
theorem c0F(cb a:Nat)(m:List (Pt×a1q))(s:Int)(p:Pt)(b:a6l p)(w:WD)(h:a0i w cb a m s):
  Calls prog 253 #[.pointer cb,.agg (ptL p.1 p.2).toArray] w λe w'=>e=.returned (.tuple #[.agg (a1s (a1v m p)).toArray,.bool (a2E m p).isSome])/\Below w w w':=by
 have⟨g,hg⟩:=ηs w;have⟨j,F⟩:=η0 ((ptL p.1 p.2).toArray);have⟨y,ad⟩:=η0 ((a1s a3q).toArray);have z:=b1a;simp only[ad]at z;have V:y.size=33:=by rw[<-ad,Qc];exact a0G a2R
 have au:=h.st.lt;have ax:=h.mp.lt;have b0:=Qd w 189 j;have B0:=ρb w (.cells j 189)
 generalize N:w.alloc (.cells j 189)=W1 at b0 B0
 rw[hg]at b0;have ac:W1.heap.size=g+1:=by rw[<-N,<-hg];simp
 have r:(ALs 206).run prog (w.alloc (.cells j 189))=.ok (.pointer W1) (W1.alloc (.cells y 206)):=by rw[N];exact z W1
 have H:=b0.alloc (.cells y 206);have b1:=Qd W1 206 y;have B1:=B0.alloc B0.size (.cells y 206);have⟨W2,K⟩:=η0 (W1.alloc (.cells y 206));have U:W2.heap.size=g+2:=by rw[<-K];simp;omega
 rw[K]at H b1 B1 r;rw[ac]at b1 r;have h2:=h.below B1;have Q:Fr (λ_=>False) W2 W2.drew:=(Qp _ _).drew;have⟨X,hX⟩:=η0 W2.drew;rw[hX]at Q;have ae:X.heap.size=g+2:=by rw[<-hX];exact U
 have E:a0i X cb a m s/\Blk X g 189 j:=⟨h2.fr Q id id,H.fr Q id⟩;have o:=z X;have R:=Qd X 206 y;have I:=ρb X (.cells y 206)
 generalize hY:X.alloc (.cells y 206)=Y at R I o
 rw[ae]at R o;have ag:a0i Y cb a m s/\Blk Y g 189 j:=⟨E.1.below I,E.2.fr (Q9 I) ρo⟩;have aa:=a3p h.bd p;have f:=a0G aa;have G:=a1O (a1v m p);have d:=λ(W:WD) (hw:a0i W cb a m s)=>hw.look b
 simp only[F]at d
 generalize ab:a1s (a1v m p)=cs at f G⊢
 simp only[ab]at d
 generalize ak:(a2E m p).isSome=ok at d⊢
 have D:=P7 a9y R V cs f G;have fY:Fr (λk=>k=g+2) Y (Y.setRow (g+2) cs.toArray):=(Qp (λk=>k=g+2) Y).setRow (g:=g+2) (λ_=>rfl) _;have kx:=R.row_ cs.toArray;have kr:Blk (Y.setRow (g+2) cs.toArray) (g+1) 206 y:=((b1.fr Q id).fr (Q9 I) ρo).fr fY ρo;have BY:Below w w (Y.setRow (g+2) cs.toArray):=((B1.trans (Q.below ρo (λ_ _=>id))).trans (I.mono ρo)).trans (fY.below (B:=w.heap.size) (ρh I.size) (λk hk e=>ρo));have⟨Z,hZ⟩:=η0 (Y.setRow (g+2) cs.toArray);replace D:=D.trans (show _=Result.ok () Z by rw[<-hZ]);rw[hZ]at kx kr BY;have T:=Pb c3f a9y cs kx f;have ah:=P7 a9y kr V cs f G;have O:=kr.row_ cs.toArray;have BZ:=Ql (g:=g+1) BY ρo cs.toArray;have x:=λ(W:WD) (hb:Blk W g 189 j)=>Pb a3a a1H (w:=W) j.toList (ρw hb) (by rw[<-F];simpa using b.vlen)
 simp only[show j.toList.toArray=j by simp]at x;have⟨xa,J⟩:=η0 cs.toArray;have af:xa.size=33:=by rw[<-J,Qc,f]
 simp only[J]at d D T ah O BZ⊢;rw[F];have⟨aj,ai,al,av,ar,aq,S,HX⟩:=η8 E ag af O BZ d x hX;have HG:=η1 hg;clear E ag af O BZ d x hX hg b0 B0 H b1 B1 h2 Q ae R I hY aa f G ab ak fY kx kr BY hZ U N ac K z h au ax J F;go_enter func253,ntmps253;go_upto_region 1 with fail
 clear r;rw[HG.o];refine a0s [(0,3),(1,3),(2,3),(3,0),(4,0),(5,0),(6,3),(7,3),(8,3),(9,1),(10,2),(11,3)] (λW=>a0i W cb a m s/\Blk W g 189 j) ρk ρk ρk ρk (ρy HX.o aj.o) ?_;rw[HX.o];refine ε3 ?_
 iterate 3 refine θ3 (λW' hS=>QU hS.1.q0 (QU (S.o W' hS.2) (aq.o W' hS.1))) ?_
 refine ε3 ?_;refine κ1 (ai.o) ?_;refine τ1 ?_;refine ε1 ?_;refine ν ?_;clear o D;go_wp2_with fail;obtain⟨dT,an,ao⟩:=Q8.1 c3f;refine bodyPost_ret (v:=.tuple #[.agg xa,.bool ok]) (a0k rfl _ _ (g+1) _ _ (0,0) av.o an ao (ρy al.o a9y) rfl) rfl ?_;exact⟨rfl,ar.o⟩
end
section
attribute [local go_sem ↓] a2q a1D a3u a3h a2t a2s a2n
theorem b2K(A:OA)(c:Nat)(l:LI)(x:Int)(w:WD)(h:RdW .i64 w A l)(a:l.length<=1000000):
  Calls prog 221 #[.slice A l.length c,.int .i64 x] w λe w'=>e=.returned (.bool (l.contains x))/\w'=w:=by
 rcases Zq l.length with b | b
 ·obtain rfl:=Zv.1 b
  exact AnyE.slices_Contains_empty Tryz.laysCI A c (.int .i64 x) w
 obtain⟨g,off,rfl,m,f⟩:=h b
 have:=AnyE.slices_Contains Tryz.laysCI (Value.int .i64) (λx y=>x == y) (EqlAt.int _ _ .i64) g off l.length c l x w (Qg _) ρo (λj d=>f j _ (by simp[getElem!_pos,d]))
 rw[ZF]at this
 have e:(l.any λy=>x == y)=l.contains x:=by
  rw[Bool.eq_iff_iff]
  simp
 rw[e]at this;exact this
theorem b8Y(p k:Nat)(seed:LI)(A:OA)(cap:Nat)(c:a0y)(b:Int)(id:LI)(hid:Dig id)(w:WD)(g:a5n w p seed k)(j:k<=64)(m:c.Bd)(a:c.path.length<=cap)(d:c.path.length<=1000000)(o:RdR 32 w A (c.path.map bys))(f:a2x w):
  Calls prog 216 #[.pointer p,.agg (a0d c A cap).toArray,.int .i64 b,.int .i64 c.e.sh,.agg (bys id).toArray] w λe w'=>e=.returned (.bool (isP seed k c&&(decide (c.e.kind=b)&&decide (c.e.tx=id))))/\Below w w w':=by
 have h:=b2n p k seed A cap c b c.e.sh id hid w g j m a d o f;have e:decide (c.e.sh=c.e.sh)=true:=by simp
 rw[e,Y5]at h;exact h
theorem b8u(p k:Nat)(seed:LI)(a:OA)(d:Nat)(b:OA)(f:Nat)(t:TxD)(A:OA)(c:Nat)(l:List a0y)(w:WD)(r:a5n w p seed k)(v:1<=k)(x:k<=64)(h:a9H w a b t)(j:a2x w)(o:t.ins.length<=1000000)(m:t.outs.length<=1000000)
  (hC:a4g w A l) (hpl:∀c∈l,c.path.length<=1000000):
  Calls prog 163 #[.pointer p,.agg (txV a d b f t),.int .i64 k,.slice A l.length c] w λe w'=>e=.returned (.int .i64 (d1D seed t k l))/\Below w w w':=by
 have b0:=Qd w 53 (txV a d b f t);have B0:=ρb w (.cells (txV a d b f t) 53)
 generalize hW:w.alloc (.cells (txV a d b f t) 53)=W at b0 B0
 have⟨g,hg⟩:=ηs w;rw[hg]at b0;have al:=λX (B:Below W W X)=>P4 uTx iTx (w:=X) (txV a d b f t).toList (by simpa using b0.fr (Q9 B) (ρh b0.lt)) rfl
 have ac:=al W (Qf _ _);have z:=a9D p a d b f t (k:Int) 1 A l.length c W (h.below B0) o m;have ab:=λX (B:Below W W X)=>b7x a d b f t (k:Int) ρo X ((h.below B0).below B) ((j.below B0).below B) o m
 have hid:=λX (B:Below W W X)=>a2v a d b f t X ((h.below B0).below B) ((j.below B0).below B) o m
 have a0:b1j false (k:Int) t l.length 1=if a1a t≠0 then a1a t else if l.length≠1 then 27 else 0:=by
  unfold b1j;rw[if_neg (by simp;omega)]
  by_cases h0:a1a t=0
  ·simp only[h0,ne_eq,not_true_eq_false,if_false]
   by_cases h1:l.length=1
   ·simp[h1]
   rw[if_pos ρo,if_pos h1]
  rw[if_pos h0,if_pos h0]
 rw[show(some (⟨p,0,none⟩:Addr)).isNone=false from rfl,a0]at z
 have av:d1D seed t (k:Int) l=if a1a t≠0 then a1a t else if l.length≠1 then 27 else if b5g seed t k (l.getD 0 default)=true then 0 else 16:=by
  unfold d1D;rw[if_neg ρo]
 have an:∀c,b5g seed t (k:Int) c=((a2V (a2P t (k:Int))).contains c.e.sh&&(isP seed k c&&(decide (c.e.kind=2)&&decide (c.e.tx=idP t)))):=λc=>by
  unfold b5g
  cases isP seed (k:Int) c<;>cases decide (c.e.kind=2)<;>cases decide (c.e.tx=idP t)<;>simp
 have aC:Dig (idP t):=⟨a3b t,a5f t⟩;have H:=b4i (a2P t (k:Int));rw[av];have⟨S,hS⟩:=η0 (a2V (a2P t (k:Int)));simp only[hS]at ab an;rw[hS]at H;have⟨D,hD⟩:=η0 (idP t);simp only[hD]at hid an aC;have aX:=r.below B0;have a1:=hC.below B0;have aY:=j.below B0;have⟨xs,aj⟩:=η0 (txV a d b f t);rw[show(txV a d b f t).toList.toArray=txV a d b f t by simp,aj]at ac;simp only[aj]at al;rw[aj]at hW z⊢;simp only[aj]at ab hid
 generalize hN:l.length=N at z⊢
 generalize hR:a1a t=R at z⊢
 generalize aA:(if R≠0 then R else if N≠1 then 27 else if b5g seed t k (l.getD 0 default)=true then 0 else 16)=RES
 obtain⟨Z,bg,au,hz⟩:=P8 (t:=39) a4U d1P;have⟨HW,HG,HB,a8,aS,a4,HR,HC⟩:=η8 hW hg B0 al ab hid aX a1;have⟨a3,ba,be,HN,a7,aU,bh,y⟩:=η8 aY an aC hN hpl H b0 aA;clear hW hg B0 al ab hid aX a1 aY an aC hN hpl H b0 aA hR hD hS aj h j r hC av a0 hz
 by_cases aq:R=0
 ·subst aq
  simp only[ne_eq,not_true_eq_false,if_false]at z y
  by_cases aR:N=1
  ·subst aR
   simp only[not_true_eq_false,if_false]at z y;have aK:0<l.length:=by rw[HN.o];omega
   obtain⟨g2,o2,B2,d2,rfl,bb,E⟩:=HC.o 0 aK;rw[Nat.zero_mul,ZH]at E;have aM:l.getD 0 default=l[0]:=by simp[List.getD,aK]
   rw[aM,ba.o]at y;have ag:=a7.o _ (Qu aK);have⟨ct,aV⟩:=η0 (l[0]);rw[aV]at E ag y;have ar:=a0l E.bd B2 d2;have aD:=λX=>au X (a0d ct B2 d2) ar (a2C _ _ _)
   have af:=λX (B:Below W W X)=>(E.below bb B).ld
   have⟨cs,ao⟩:=η0 (a0d ct B2 d2);have aJ:=a9l E.bd B2 d2;rw[ao]at ar aJ;simp only[ao]at aD af;have⟨aL,aO,a9,bc,aQ⟩:=η5 E af ao ar ag;clear E af ao ar ag au aM aV;go_enter func163,ntmps163;go_upto_region 1 with fail
   rw[HW.o,HG.o];go_wp2_with fail;refine μi z ?_;intro w1 G;have a5:=aO.o w1 G;have q1:=Qd w1 39 cs.toArray;have q2:=G.alloc G.size (.cells cs.toArray 39);have aP:=aD w1;have⟨h,hh⟩:=ηs w1
   generalize hY:w1.alloc (.cells cs.toArray 39)=Y at q1 q2 aP
   rw[hh]at q1;have F1:=λX (B:Below Y Y X)=>P4 a8j a4U cs (q1.fr (Q9 B) (ρh q1.lt)) bc.o
   have F2:=λX (B:Below Y Y X)=>((q1.fr (Q9 B) (ρh q1.lt)).cell 1).trans aJ.2.1
   have F3:=λX (B:Below Y Y X)=>a8.o X (q2.trans (B.mono q2.size))
   have⟨cv,aF⟩:=η0 cs.toArray;have T:=λX (B:Below Y Y X)=>b8Y p k seed B2 d2 ct 2 D be.o X (HR.below (q2.trans (B.mono q2.size))) x aL.bd aL.room aQ.o (aL.path.below (q2.trans (B.mono q2.size))) (a3.below (q2.trans (B.mono q2.size)))
   simp only[a9.o,aF]at T;simp only[aF]at F1;have F:=λX As cs (B:RdW .i64 X As S)=>b2K As cs S ct.e.sh X B (ρh aU.o)
   have⟨C,hC⟩:=η0 (S.contains ct.e.sh);simp only[hC]at F;rw[hC]at y;have⟨PR,aH⟩:=η0 ((isP seed k ct&&(decide (ct.e.kind=2)&&decide (ct.e.tx=D))));simp only[aH]at T;rw[aH]at y;have⟨sh,aZ⟩:=η0 ct.e.sh;simp only[aZ]at T F F2;have⟨M,hM⟩:=η0 S.length;simp only[hM]at F;have⟨S0,aE⟩:=η0 ((λX=>(LDs 39 (.pointer (some ⟨h,0,none⟩))).run prog X=.ok (.agg cv) X/\X.cell? ⟨h,1,none⟩=some (.int .i64 sh)/\(LDs 53 (.pointer g)).run prog X=.ok (.agg xs) X):WD->Prop);have aW:∀X,Below Y Y X->S0 X:=λX B=>by rw[<-aE];exact⟨F1 X B,F2 X B,F3 X B⟩
   have ak:=aS.o Y.drew q2.drew;rw[hM]at ak;have⟨aT,Q,aB,ad,a2,aN⟩:=η6 hh q2 aE aW T F;clear hh q2 aE aW T F G hY ac z aD aJ aF F1 F2 F3 hC aH aZ hM
   cases C with
   |
    true=>
    rw[Y5]at y;go_upto_region 5 with fail
    rw[aT.o];refine a0s [(1,3),(3,3),(4,3),(0,0),(5,0),(2,1),(6,1),(7,3),(8,3),(9,3),(11,3),(12,3),(10,0),(13,0),(14,0),(15,1),(16,2),(17,3),(18,3)] S0 ρk ρk ρk ρk (ad.o _ (Qf _ _).drew) ?_;refine ε3 ?_
    iterate 2 refine θ3 (λ_ h=>by rw[<-aB.o]at h;exact h) ?_
    refine κ ?_;intro K U;refine μ1 ak ?_;rintro e w2 ⟨As,aI,rfl,ai,ah⟩;have O:Below Y Y w2:=(Qf _ Y).drew.trans ah;have F:=aN.o w2 As aI ai;have aa:=η1 O;clear O ah ai ak;with_reducible refine U _ _ (ad.o _ aa.o) ?_;clear U K
    refine κ ?_;intro K U;refine μi F ?_;intro w6 ae;rw[ae];clear ae F;have hid:=a4.o w2 (Q.trans (aa.mono Q.size));with_reducible refine U _ _ (ad.o _ aa.o) ?_;clear U K
    refine ε5 ?_
    iterate 3 refine θ3 (λ_ h=>by rw[<-aB.o]at h;exact h) ?_
    refine κ ?_;intro K U;refine μi hid ?_;intro a6 az;have V:=φt aa az;have T:=a2.o a6 V;have J:=η1 V;clear V az hid;with_reducible refine U _ _ (ad.o _ J.o) ?_;clear U K
    refine τ ?_;intro K U;refine μi T ?_;intro bi ax;have ay:=η1 ax;clear ax T;with_reducible refine U _ _ ?_;clear U K
    refine ε2 ?_;refine ν ?_
    cases PR with
    |
     true=>
     have I:RES=0:=y.symm;subst I;go_wp2;go_ret;exact⟨rfl,HB.trans ((Q.trans ((J.trans (ay.mono J.size)).mono Q.size)).mono HB.size)⟩
    |
     false=>
     have I:RES=16:=y.symm;subst I;go_wp2;go_ret;exact⟨rfl,HB.trans ((Q.trans ((J.trans (ay.mono J.size)).mono Q.size)).mono HB.size)⟩
   |
    false=>
    have I:RES=16:=y.symm;subst I;clear y;go_upto_region 5 with fail
    rw[aT.o];refine a0s [(1,3),(3,3),(4,3),(0,0),(5,0),(2,1),(6,2),(7,3),(8,3),(9,3),(10,3),(11,3),(12,3),(13,3),(14,3),(15,3),(16,3),(17,3),(18,3)] S0 ρk ρk ρk ρk (ad.o _ (Qf _ _).drew) ?_;refine ε3 ?_
    iterate 2 refine θ3 (λ_ h=>by rw[<-aB.o]at h;exact h) ?_
    refine κ ?_;intro K U;refine μ1 ak ?_;rintro e w2 ⟨As,aI,rfl,ai,ah⟩;have O:Below Y Y w2:=(Qf _ Y).drew.trans ah;have F:=aN.o w2 As aI ai;have aa:=η1 O;clear O ah ai ak;with_reducible refine U _ _ (ad.o _ aa.o) ?_;clear U K
    refine τ ?_;intro K U;refine μi F ?_;intro w6 ae;rw[ae];clear ae F;with_reducible refine U _ _ ?_;clear U K
    refine ε2 ?_;refine δ4 ?_;refine δ4 ?_;refine δ1 ?_;refine ε1 ?_;refine ν ?_;go_wp2;go_ret;exact⟨rfl,HB.trans ((Q.trans (aa.mono Q.size)).mono HB.size)⟩
  simp only[aR,not_false_eq_true,if_true]at z y;have I:RES=27:=y.symm;subst I;go_enter func163,ntmps163;go_upto_region 1 with fail
  rw[HW.o,HG.o];go_wp2_with fail;refine μi z ?_;intro w1 G;have aG:=η1 G;clear G z ac;go_wp2;go_ret;exact⟨rfl,HB.trans (aG.mono HB.size)⟩
 simp only[ne_eq,aq,not_false_eq_true,if_true]at z y;have I:RES=R:=y.symm;subst I;have bf:(RES != 0)=true:=ρw aq;clear aq y;go_enter func163,ntmps163;go_upto_region 1 with fail
 rw[HW.o,HG.o];go_wp2_with fail;refine μi z ?_;intro w1 G;have aG:=η1 G;clear G z ac;go_wp2;go_ret;exact⟨rfl,HB.trans (aG.mono HB.size)⟩
end
section
theorem d0O:prog.underlying 54=some (.slice 39):=ρk
theorem d2c:(prog.info? 39).map (λi=>(i.zero.map (·.cells.size),i.size,i.bytes))=some (some 137,137,216):=ρk
theorem d1p:(prog.info? 39).map (λi=>(i.zero.map (·.cells.size),i.size))=some (some 137,137):=ρk
theorem c1I(xs:AV)(t:TI):Builtin.append_ #[54,54] t xs=APs #[54,54] t xs:=rfl
theorem c0D(n:Nat)(a:Array (Nat×VL)):Instr.buildSlice 54 n a=BSs 54 n a:=rfl
inductive ReS(g b:Nat)(V:WD)(l:LI)(T:LL)(e6:Int):Prop where
 | ok (h0:e6=0) (t:TxD) (A1:OA) (c1:Nat) (A2:OA) (c2:Nat) (hb:Blk V (g+1) 58 (a1Q (kOf l:Int) (txV A1 c1 A2 c2 t).toList (.slice none 0 0) (rOf l).ow (rOf l).am (rOf l).ser (rOf l).ep (rOf l).id).toArray) (ht:a4W b V A1 A2 t) (hr:a2o l=c0w l t (a1Z T))
 | bad (h0:e6≠0) (cs:AV) (hb:Blk V (g+1) 58 cs) (hr:a2o l=.error e6)
theorem b2o:∀{T:LL} {L:List a0y},a1Z T=.ok L->L.length=T.length
 | [],L,h=>by simp only[a1Z,Except.ok.injEq]at h;subst h;rfl
 |
  y::T,L,h=>by
  simp only[a1Z]at h
  cases hy:a5s y with
  | error e'=>rw[hy]at h;cases h
  |
   ok c=>
   rw[hy]at h;simp only at h
   cases hL:a1Z T with
   | error e'=>rw[hL]at h;cases h
   |
    ok C=>
    rw[hL]at h;simp only[Except.ok.injEq]at h;subst h;simp[b2o hL]
theorem b1r.base{b':Nat}{v:VL}{L:List a0y}(h:b1r b w v R L)(d:b'<=b):b1r b' w v R L:=⟨h.len,λj hj=>by
 obtain⟨B,cap,h1,h2,h3,h4,h5,h6⟩:=h.at_ j hj;exact⟨B,cap,h1,h2,h3,h4,h5,λa ha=>⟨Qk d (h6 a ha).1,(h6 a ha).2⟩⟩⟩
theorem c8W(b:Nat)(w:WD):a4W b w none none zTx:=by
 have f:zTx.Bd:=⟨by simp[zTx],by simp[zTx],by simp[zTx],by simp[zTx]⟩;obtain⟨j,o,m,g,a,d,h⟩:=a4W.of (t:=zTx) (a0T.nil 191 35 b w) (a5D.nil b w _) (a0T.nil 56 33 b w) f;simp only[Value.slice.injEq]at a d;obtain⟨rfl,-,-⟩:=a;obtain⟨rfl,-,-⟩:=d;exact h
theorem c7V{s:St}(h:¬(4<=k/\k<=6)):(a3H k s).1.cs=[]:=by
 unfold a3H
 repeat' split
 all_goals first | rfl | contradiction
def d3g(g b:Nat)(X wr:WD)(l:LI)(T:LL)(j:Nat):Prop:=
 ∃t A1 c1 A2 c2 v Rc L,a1Z (T.take j)=.ok L/\Blk wr (g+1) 58 (a1Q (kOf l:Int) (txV A1 c1 A2 c2 t).toList v (rOf l).ow (rOf l).am (rOf l).ser (rOf l).ep (rOf l).id).toArray/\a4W b X A1 A2 t/\a0T 39 137 X.heap.size wr v Rc/\b1r b wr v Rc L/\a2o l=c0w l t (a1Z T)
structure ReL(g b:Nat)(w X wr:WD)(l:LI)(T:LL)(R:LW)(vc:VL)(zz:AV)(j:Nat)(e:Int):Prop where
 res:Blk wr g 58 zz
 lb:∃vt,Blk wr (g+2) 171 #[vt,vc]
 oR:a0T 22 1 b wr vc R
 tR:a5Q b wr R T
 below:Below w w wr
 fx:Fr (λk=>k=g+1) X wr
 st:(e=0/\d3g g b X wr l T j)\/(e≠0/\a2o l=.error e)
theorem ReL.get{wr:WD}{a:VL}{j:Nat}(h:ReL g b w X wr l T R a zz j 0):d3g g b X wr l T j:=by
 rcases h.st with h | h
 ·exact h.2
 exact absurd rfl h.1
theorem ReL.start{d a:VL}{e:Int}(h:ReS g b X l T e)(f:Blk X g 58 zz)(j:Blk X (g+2) 171 #[d,a])(m:a0T 22 1 b X a R)(o:a5Q b X R T)(p:Below w w X):ReL g b w X X l T R a zz 0 e:=by
 refine⟨f,⟨d,j⟩,m,o,p,Qp _ _,?_⟩
 cases h with
 | ok v t z D B y x ht r=>exact .inl ⟨v,t,z,D,B,y,.slice none 0 0,[],[],rfl,x,ht,a0T.nil _ _ _ _,b1r.nil _ _ _,r⟩
 | bad v cs x r=>exact .inr ⟨v,r⟩
attribute [local go_sem ↓] a7s b3x b2U b8q b2G b2W b3i b7r b8h b8b a1D a3u a3h c1I c0D
theorem b5X(A:OA)(c:Nat)(m:A=none->c=0)(l:LI)(z:l.length<=400000000)(w:WD)(f:Byt w A l):
  Calls prog 31 #[.slice A l.length c] w λe w'=>a5x w l e w'/\Below w w w':=by
 have dW:∀(fn:Fn) (first cap:AV) (w:WD),(Instr.makeFunc fn first cap).run prog w=.ok (.func fn first cap) w:=λ_ _ _ _=>rfl
 have⟨zz,ao⟩:=η0 a7G.toArray;have hz:zz.size=73:=by rw[<-ao,Qc];exact a2I a0E a0n a0n
 have bn:∀v∈zz.toList,v.oneCell'=true:=by rw[<-ao];exact a6g a5O rfl
 have a0:=c6G;simp only[ao]at a0;have dU:∀W:WD,(BDs 58 #[]).run prog W=.ok (.agg zz) W:=by rw[<-ao];exact d0W
 have⟨g,hg⟩:=ηs w;have b0:=Qd w 58 zz;have B0:=ρb w (.cells zz 58);have aM:=a0 w;have⟨W,hW⟩:=η0 (w.alloc (.cells zz 58));have cz:W.heap.size=g+1:=by rw[<-hW,<-hg];simp
 rw[hW]at b0 B0 aM;rw[hg]at b0 aM;obtain⟨dC,bN,aU⟩:=Q8.1 b2N
 have bc:∀X:WD,Blk X g 58 zz->(STs 58 (.pointer g) (.agg zz)).run prog X=.ok () (X.setRow g zz):=λX hb=>by
  have:=P7 a6X hb hz zz.toList (ρw hz) bn
  rwa [show zz.toList.toArray=zz by simp]at this
 have aC:∀(x:Int) (X:WD),a2o l=.error x->(x != 0)=true->Below w w X->a5x w l (.returned (.tuple #[.agg zz,.int .i64 x])) X/\Below w w X:=λx X hr hx hB=>by
  refine⟨?_,hB⟩;unfold a5x;rw[hr];exact⟨by rw[ao],hx⟩
 have⟨N,hN⟩:=η0 l.length
 by_cases bO:8192<N
 ·have cw:(8192:Int)<(N:Int):=ρo
  have D:=bc W b0;have cB:=b0.row_ zz;have cI:=Ql (g:=g) B0 ρo zz;have af:a2o l=.error 4:=by unfold a2o;exact if_pos ρo
  have⟨dw,dF,b7,a3,HZ⟩:=η5 cB cI af aC hz;clear cB cI af aC hz b0 B0 hW a0 f bn bc bO;rw[hN];go_enter func31,ntmps31;go_wp2;refine bodyPost_ret (v:=.tuple #[.agg zz,.int .i64 4]) (a0k rfl _ _ g _ _ (0,0) dw.o bN aU (ρy HZ.o a6X) rfl) rfl ?_;exact a3.o 4 _ b7 rfl dF
 have cw:¬(8192:Int)<(N:Int):=ρo;have b1:=Qd W 58 zz;have bU:=b0.alloc (.cells zz 58);have B1:=B0.alloc B0.size (.cells zz 58);have aP:=a0 W;have⟨V,hV⟩:=η0 (W.alloc (.cells zz 58));have cW:V.heap.size=g+2:=by rw[<-hV];simp;omega
 rw[hV]at b1 bU B1 aP;rw[cz]at b1 aP;have aY:=c6k V;have b2:=Qd V 171 #[.slice none 0 0,.slice none 0 0];have bX:=b1.alloc (.cells #[.slice none 0 0,.slice none 0 0] 171);have ch:=bU.alloc (.cells #[.slice none 0 0,.slice none 0 0] 171);have B2:=B1.alloc B1.size (.cells #[.slice none 0 0,.slice none 0 0] 171);have⟨U,hU⟩:=η0 (V.alloc (.cells #[.slice none 0 0,.slice none 0 0] 171));have cG:U.heap.size=g+3:=by rw[<-hU];simp;omega
 rw[hU]at b2 bX ch B2 aY;rw[cW]at b2 aY
 have be:=a6Q 78 #[.pointer (g+1:Nat),.pointer (g+2:Nat)] b1t A c m l z U (f.below B2) (λk=>k=g+1\/k=g+2) (λk F=>ρo) (a5Z l)
  (λw2 w3=>d2w (g+1) (g+2) l w2 w3/\d3i (g+1) (g+2) l w3)
  (λp s w2 hB hp hs d2 ca he=>b5a p s (g+1) (g+2) l z w2 he ca ρo ρo ρo (by rw[ao];exact bX.fr (Q9 hB) ρo) (b2.fr (Q9 hB) ρo))
 have aX:=b0L (b4o l);have cr:=f.bd;have E:=b9k (l:=l) ρo;have⟨ev,cf⟩:=η0 (a8t (a5Z l));rw[cf]at be aX;rw[hN]at be⊢;have⟨cy,dB,HG,b9,dO,c5,HZ,d4⟩:=η8 ch B2 hg cG aX E hz bn;have⟨dK,a3,bS,de,dZ⟩:=η5 bc aC cf cr ao;clear ch B2 hg cG aX E hz bn bc aC cf cr ao b0 B0 b1 bX bU B1 hW cz hV cW hU a0 f b2;go_enter func31,ntmps31;go_upto_region 5 with fail
 clear aM aP aY cw;go_wp2_with fail;refine μ1 be ?_;rintro e w1 ⟨rfl,f1,w2,w3,dn,ad,⟨hK,hE⟩,f3⟩;have bw:=cy.fr f1 (show¬_ by omega);have cK:Below w w w1:=dB.trans (f1.below (B:=w.heap.size) (ρi b9.o HG.o) (λk F e=>by have:=HG.o;omega));have nU:∀k,k<U.heap.size->¬k=U.heap.size:=λk F e=>ρo
 have bA:g+3<=w1.heap.size:=by have:=f1.size;have:=b9.o;omega
 have bC:=c6R (k:=(a0o 9 (.ok l)).1) (s:=(a0o 9 (.ok l)).2) (a2c (s:=.ok l) de.o);have⟨HB,ci,az,HK,HE,dH,d0,a8⟩:=η8 bw cK f3 hK hE ad nU bA;have cC:=η1 bC;clear bw cK f3 hK hE ad nU bA bC f1 be dn
 have ak:(∃vt vc R T,Blk w1 (g+2) 171 #[vt,vc]/\a0T 22 1 (g+3) w1 vc R/\a5Q (g+3) w1 R T/\(T.length<=16/\∀d∈T,d.length<=2048/\∀x∈d,0<=x/\x<=255)/\((ev≠0/\(∃cs,Blk w1 (g+1) 58 cs/\∃kv:Int,cs[0]? =some (.int .i64 kv))/\a2o l=.error ev)\/
   (ev=0/\T=(rOf l).cs/\a0N (g+3) w1 vt (rOf l).t/\a5Z l=.ok []/\Blk w1 (g+1) 58 (a1Q (kOf l:Int) a5c (.slice none 0 0) (rOf l).ow (rOf l).am (rOf l).ser (rOf l).ep (rOf l).id).toArray))):=by
  have hU:=b9.o;have ad:=dH.o;have E:=c5.o
  cases hs:a5Z l with
  |
   error x=>
   obtain⟨k1,k2⟩:=HE.o x hs;have hx:ev=x:=by rw[<-bS.o,hs];rfl
   have dG:ev≠0:=by
    rw[hx]
    have:=b4o l
    rw[hs]at this;exact this
   refine⟨_,_,[],[],k2.fr az.o (show¬_=_ by omega),a0T.nil _ _ _ _,a5Q.nil _ _,by simp,.inl ⟨dG,⟨_,k1.fr az.o (show¬_=_ by omega),0,a4a⟩,?_⟩⟩;rw[E,hs,hx]
  |
   ok r=>
   obtain⟨vt,vc,R,k1,k2,o1,o2,o3⟩:=HK.o r hs;have cn:=k1.fr az.o (show¬_=_ by omega);refine⟨vt,vc,R,(rOf l).cs,k2.fr az.o (show¬_=_ by omega),(o2.fr az.o (λk F e=>by have:=(o2.lt F).1;omega)).base ρo,?_,cC.2,?_⟩
   ·have:=o3.fr az.o (λk cs F _ e=>ρo)
    exact⟨this.len,λj hj=>by
     obtain⟨v,h1,h2⟩:=this.at_ j hj;exact⟨v,h1,h2.base ρo⟩⟩
   by_cases hr:r=[]
   ·subst hr
    exact .inr ⟨by rw[<-bS.o,hs];rfl,rfl,(o1.fr az.o (λk F e=>by have:=(o1.lt F).1;omega)).base ρo,rfl,cn⟩
   have c0:ev=3:=by rw[<-bS.o,hs];simp[a8t,hr]
   refine .inl ⟨by omega,⟨_,cn,_,a4a⟩,?_⟩;rw[E,hs,c0];exact if_pos (Ym.2 hr)
 obtain⟨vt,vc,R,T,kl,oR,tR,hT,ak⟩:=ak
 obtain⟨At,Nt,ct,bv⟩:∃A N c,vt=.slice A N c\/ev≠0:=by
  rcases ak with h | h
  ·exact⟨none,0,0,.inr h.1⟩
  obtain⟨a,b,c,e⟩:=h.2.2.1.sl;exact⟨a,b,c,.inl e⟩
 obtain⟨Ac,Nc,cc,rfl,dm⟩:=oR.formN
 have cQ:Nc=T.length:=by
  have:=tR.len
  omega
 have⟨KL,OR,TR,HT,b3⟩:=η5 kl oR tR hT cQ;clear kl oR tR hT cQ dm;have a4:(a1Q (kOf l:Int) a5c (.slice none 0 0) (rOf l).ow (rOf l).am (rOf l).ser (rOf l).ep (rOf l).id).length=73:=a2I a0E (a8F (a0o 9 (.ok l)).1 (a0o 9 (.ok l)).2).1 (a8F (a0o 9 (.ok l)).1 (a0o 9 (.ok l)).2).2
 rcases ak with⟨au,⟨dq,cp,kv,dA⟩,af⟩ | ⟨au,aN,o8,D,kc⟩
 focus
  have cF:(ev == 0)=false:=ρw au;clear bv;have K:ReS g (g+3) w1 l T ev:=.bad au dq cp af;have O:=KL.o;have I:=OR.o;have J:=TR.o;have Q:=HB.o;have S:=ci.o;have⟨X,hX⟩:=η0 w1;rw[hX]at K O I J Q S;have⟨bq,aJ,bj,bh,bu,bp,cg⟩:=η7 K O I J Q S hX;clear K O I J Q S hX cp dA af au;go_upto_region 8 with fail
  rw[cg.o];clear cF
 rotate_left
 focus
  subst au;have db:vt=.slice At Nt ct:=by rcases bv with h | h;exact h;exact absurd rfl h
  subst db;have E:=c5.o;rw[D]at E;replace E:=E.trans (if_neg ρp);have bV:w1.cell? ⟨g+1,0,none⟩=some (.int .i64 (kOf l:Int)):=(kc.cell 0).trans a4a;have ay:=c1Y (kOf l:Int) w1;have⟨kk,aR⟩:=η0 ((kOf l:Int):Int);rw[aR]at bV ay
  by_cases bZ:2<=kOf l/\kOf l<=6
  focus
   rw[show decide (2<=kk/\kk<=6)=true by rw[<-aR];simp;omega]at ay;replace E:=E.trans (if_pos bZ);have b4:=cC.1;obtain⟨A8,c8,bY,cY,_,_⟩:=o8.byt b4.2;have bI:=a8w (by rw[bY]at o8;exact o8);simp only[Value.slice.injEq]at bY;obtain⟨rfl,rfl,rfl⟩:=bY;have q0:w1.cell? ⟨g+2,0,none⟩=some (.slice At (rOf l).t.length ct):=KL.cell 0;have br:=b8F At ct bI (rOf l).t (by have:=b4.1;simp only[rOf];omega) w1 cY;have⟨N8,da⟩:=η0 ((rOf l).t.length);rw[da]at q0 br;have⟨dg,bH,cT⟩:=η3 kc E aN;clear kc E aN da o8 bv D cY bI b4 aR;go_upto_region 6 with fail
   go_wp2_with fail;refine μi ay ?_;intro di hw;rw[<-hw];clear hw ay bV;go_upto_region 7 with fail
   go_wp2_with fail;refine μ1 br ?_;rintro e w4 ⟨hP,an⟩;have ax:=φf dg an;have bi:=φf KL an;have aF:=OR.keep an;have ba:=TR.fr (Q9 an) (λk cs _ hb=>by have:=hb.lt;omega);have bl:=φf HB an;have aD:=φt ci an;unfold a6Z at hP
   rcases hR:a5N (rOf l).t with x | t
   focus
    rw[hR]at hP;obtain⟨rfl,cu⟩:=hP;have E:=bH.o;rw[hR]at E;have D:=Pa b8N ax (off:=1) a5c rfl (by rw[Qc,a4];omega) a5O;rw[c2z a0E a0E,show a5c.toArray=c5J from rfl]at D;have⟨cs,ae⟩:=η0 ((a1Q (kOf l:Int) a5c (.slice none 0 0) (rOf l).ow (rOf l).am (rOf l).ser (rOf l).ep (rOf l).id).toArray);rw[ae]at D ax;have Z:Fr (λk=>k=g+1) w4 (w4.setRow (g+1) cs):=(Qp (λk=>k=g+1) w4).setRow (g:=g+1) (λ_=>rfl) _;have K:ReS g (g+3) (w4.setRow (g+1) cs) l T x:=.bad (ρw cu) cs (ax.row_ cs) E;have O:=bi.fr Z (show¬_=_ by omega);have I:=aF.fr Z (λk F e=>by have:=(aF.lt F).1;omega);have J:=ba.fr Z (λk cs F _ e=>ρo);have Q:=bl.fr Z (show¬_=_ by omega);have S:=aD.trans (Z.below (B:=w.heap.size) aD.size (λk F e=>by have:=HG.o;omega));have⟨X,hX⟩:=η0 (w4.setRow (g+1) cs);replace D:=D.trans (show _=Result.ok () X by rw[<-hX]);rw[hX]at K O I J Q S
    generalize a6:c5J=zt at D⊢
    have⟨bq,aJ,bj,bh,bu,bp⟩:=η6 K O I J Q S;clear K O I J Q S hX a6 ae ax bi aF ba bl aD an Z E cu hR br q0;go_upto_region 8 with fail
    clear D
   rotate_left
   focus
    rw[hR]at hP;obtain⟨A1,c1,A2,c2,rfl,aa⟩:=hP;have E:=bH.o;rw[hR]at E;have D:=Pa b8N ax (off:=1) (txV A1 c1 A2 c2 t).toList (by simp[txV]) (by rw[Qc,a4];omega) (by simp[txV,Value.oneCell']);rw[c2z a0E (by simp[txV]),show(txV A1 c1 A2 c2 t).toList.toArray=txV A1 c1 A2 c2 t by simp]at D;have Z:Fr (λk=>k=g+1) w4 (w4.setRow (g+1) (a1Q (kOf l:Int) (txV A1 c1 A2 c2 t).toList (.slice none 0 0) (rOf l).ow (rOf l).am (rOf l).ser (rOf l).ep (rOf l).id).toArray):=(Qp (λk=>k=g+1) w4).setRow (g:=g+1) (λ_=>rfl) _;have K:ReS g (g+3) (w4.setRow (g+1) (a1Q (kOf l:Int) (txV A1 c1 A2 c2 t).toList (.slice none 0 0) (rOf l).ow (rOf l).am (rOf l).ser (rOf l).ep (rOf l).id).toArray) l T 0:=.ok rfl t A1 c1 A2 c2 (ax.row_ _) ((aa.fr Z (λk F e=>by have:=a8.o;omega)).base a8.o) (by rw[E,cT.o]);have O:=bi.fr Z (show¬_=_ by omega)
    have I:=aF.fr Z (λk F e=>by have:=(aF.lt F).1;omega);have J:=ba.fr Z (λk cs F _ e=>ρo);have Q:=bl.fr Z (show¬_=_ by omega);have S:=aD.trans (Z.below (B:=w.heap.size) aD.size (λk F e=>by have:=HG.o;omega));have⟨X,hX⟩:=η0 (w4.setRow (g+1) (a1Q (kOf l:Int) (txV A1 c1 A2 c2 t).toList (.slice none 0 0) (rOf l).ow (rOf l).am (rOf l).ser (rOf l).ep (rOf l).id).toArray);replace D:=D.trans (show _=Result.ok () X by rw[<-hX]);rw[hX]at K O I J Q S
    generalize a6:txV A1 c1 A2 c2 t=zt at D⊢
    have⟨bq,aJ,bj,bh,bu,bp⟩:=η6 K O I J Q S;clear K O I J Q S hX a6 ax bi aF ba bl aD an Z E hR br q0 aa;go_upto_region 8 with fail
    clear D
  rotate_left 2
  focus
   rw[show decide (2<=kk/\kk<=6)=false by rw[<-aR];simp;omega]at ay;replace E:=E.trans (if_neg bZ);have cH:(rOf l).cs=[]:=c7V (λh=>bZ ⟨by have:=h.1;simp only[kOf];omega,by have:=h.2;simp only[kOf];omega⟩);have K:ReS g (g+3) w1 l T 0:=.ok rfl zTx none 0 none 0 kc (c8W _ _) (by rw[E,aN,cH];rfl);have O:=KL.o;have I:=OR.o;have J:=TR.o;have Q:=HB.o;have S:=ci.o;have⟨X,hX⟩:=η0 w1;rw[hX]at K O I J Q S;have⟨cT,bq,aJ,bj,bh,bu,bp,cg⟩:=η8 aN K O I J Q S hX;clear aN K O I J Q S hX cH o8 bv D kc aR E;go_upto_region 6 with fail
   go_wp2_with fail;refine μ1 ay ?_;rintro e di ⟨rfl,hw⟩;rw[<-hw];clear hw ay bV;go_upto_region 8 with fail
   rw[cg.o]
 all_goals
  have q1:X.cell? ⟨g+2,1,none⟩=some (.slice Ac Nc cc):=aJ.cell 1;have aI:=ReL.start (g:=g) (b:=g+3) (w:=w) (zz:=zz) bq.o bu aJ bj bh bp;have bP:g+3<=X.heap.size:=by have:=aJ.lt;omega
  have⟨du,c3⟩:=η2 aI bP;clear aI bP;go_upto_region 9 with fail
  clear q1;go_loopg [6,8,9,34] Nc (λkk u6 _ _ dE wr=>∃(j:Nat) (e:Int),j+kk=Nc/\dE=.int .i64 j/\u6=.int .i64 e/\ReL g (g+3) w X wr l T R (.slice Ac Nc cc) zz j e);exact⟨0,_,by omega,rfl,rfl,du.o⟩;obtain⟨j,e,hj,rfl,rfl,H⟩:=hrel;have dT:w.heap.size<=g:=by have:=HG.o;omega
  have dS:g<=w.heap.size:=by have:=HG.o;omega
  have bP:=c3.o;have dP:Nc<=T.length:=by have:=b3.o;omega
  have dM:T.length<=Nc:=by have:=b3.o;omega
  have dN:Nc<=16:=by have:=HT.1;omega
  have cS:g+3<=wr.heap.size:=by obtain⟨d1,hb⟩:=H.lb;have:=H.below.size;have:=a8.o;have h9:=H.oR.own;have:=hb.lt;omega
  have cA:(j<Nc/\e≠0)\/(j=Nc/\e≠0)\/(j<Nc/\e=0)\/(j=Nc/\e=0):=ρo
  rcases cA with⟨ad,he⟩ | ⟨ad,he⟩ | ⟨ad,he⟩ | ⟨ad,he⟩
  focus
   have ah:(j:Int)<Nc:=ρo;have bb:(e != 0)=true:=ρw he;obtain⟨q,o,v,hA,aj,h8⟩:=H.tR.get H.oR (j:=j) ρo;obtain⟨Ax,Nx,cx,rfl⟩:=h8.sl;subst hA;go_upto_region 16 with fail
   clear aj ah
  rotate_left
  focus
   have ah:¬(j:Int)<Nc:=ρo;have bb:(e != 0)=true:=ρw he;go_upto_region 16 with fail
   clear ah
  rotate_left
  focus
   subst he;have ah:(j:Int)<Nc:=ρo;obtain⟨q,o,v,hA,aj,h8⟩:=H.tR.get H.oR (j:=j) ρo;have aS:=HT.2 T[j] (Qu _);have bQ:T.take (j+1)=T.take j++[T[j]]:=Qe ρo;have⟨x,hx⟩:=η0 (T[j]);rw[hx]at h8 aS bQ;obtain⟨Ax,cx,rfl,cL,_,_⟩:=h8.byt aS.2;have bD:=a8w h8;obtain⟨t,A1,c1,A2,c2,v,Rc,L,ag,aE,aa,ar,aH,aG⟩:=H.get;obtain⟨ai,⟨c9,bt⟩,a9,bk,aK,a2,aI⟩:=H;obtain⟨Av,Nv,cv,rfl,bs⟩:=ar.formN;have ae:(a1Z (T++[]))=a1Z T:=by rw[ZC]
   have aA:=a9u wr;have⟨z7,b8⟩:=η0 ((a0d a0r none 0).toArray);have bF:z7.size=137:=by rw[<-b8,Qc,a0l a0B]
   rw[b8]at aA;have bo:=Qd wr 39 z7;have BY:=ρb wr (.cells z7 39);have⟨yb,aV⟩:=ηs wr
   generalize ck:wr.alloc (.cells z7 39)=X1 at aA bo BY
   rw[aV]at aA bo;have bJ:X1.heap.size=yb+1:=by rw[<-ck];simp;omega
   have aZ:=b4U Ax cx bD x (ρh aS.1) X1 (cL.below BY);have⟨Nx,bM⟩:=η0 x.length;rw[bM]at aj aZ;subst hA;have dR:=ad;have⟨bG,cP,c4,c7,dh,aT,cq,cV⟩:=η8 ai bt a9 bk aK ag aE aa;have⟨bf,bL,dd,bB,cX,bz,dJ,a7⟩:=η8 a2 ar aH aG bo BY aV bJ;have⟨dr,cN,d3,dk,dX,cj⟩:=η6 bF bQ bs aS bM cS;clear ai bt a9 bk aK ag aE aa a2 ar aH aG bo BY aV bJ bF bQ bs aS bM cS h8 cL bD aI ae ck b8 hx;go_upto_region 13 with fail
   clear aj ah aA;go_wp2_with fail;refine μ1 aZ ?_;rintro e w5 ⟨hP,b6⟩;have bW:=cX.fr (Q9 b6) (ρh a7.o);have BX:=bz.trans (b6.mono (ρh bz.o.size))
   obtain⟨xs,e',cd,Bp,cap,aL,bR,ds,hE⟩:∃(xs:LV) (e':Int) (cd:a0y) (Bp:OA) (cap:Nat),xs.length=137/\(∀v∈xs,v.oneCell'=true)/\e=.returned (.tuple #[.agg xs.toArray,.int .i64 e'])/\
     ((e'=0/\xs=a0d cd Bp cap/\a5s x=.ok cd/\cd.Bd/\a0T 31 32 X1.heap.size w5 (.slice Bp cd.path.length cap) (cd.path.map bys))\/(e'≠0/\a5s x=.error e')):=by
    unfold a6Y at hP
    cases hR:a5s x with
    |
     error y=>
     rw[hR]at hP;obtain⟨rfl,f⟩:=hP;exact⟨a0d a0r none 0,y,a0r,none,0,a0l a0B _ _,a2C _ _ _,rfl,.inr ⟨by simpa using f,rfl⟩⟩
    |
     ok cd=>
     rw[hR]at hP;obtain⟨Bp,cap,rfl,ho⟩:=hP;have bg:=c4V dk.2 hR;exact⟨a0d cd Bp cap,0,cd,Bp,cap,a0l bg _ _,a2C _ _ _,rfl,.inl ⟨rfl,rfl,rfl,bg,ho⟩⟩
   subst ds;have D:=P7 a4U bW dr xs aL bR;have fy:=ρr (yb) w5 xs.toArray;have kY:=bW.row_ xs.toArray;have aV:=dJ.o;have FY:Fr (λk=>yb<=k) wr (w5.setRow yb xs.toArray):=((Q9 BX).mono (G:=λk=>yb<=k) (λk _ h=>ρo)).trans fy (λk F e=>ρo);have av:Below wr.heap.size wr (w5.setRow yb xs.toArray):=FY.below (Qg _) (λk F e=>ρo);have⟨V5,b5⟩:=η0 (w5.setRow yb xs.toArray);replace D:=D.trans (show _=Result.ok () V5 by rw[<-b5]);rw[b5]at kY FY av fy;have a1:=cq.fr FY (ρh cq.o.lt);have aq:=bL.keep av;have q5:V5.cell? ⟨g+1,5,none⟩=some (.slice Av Nv cv):=(a1.cell 5).trans (a8A (by simp[txV]));have bT:=Pb a8j a4U xs kY aL;have cM:=Pd d0O d1p ρo ρo V5 (.agg xs.toArray) (by simp[Value.cells,aL]);simp only[Value.cells]at cM;have cE:g+3<=V5.heap.size:=by have:=FY.size;have:=cj.o;omega
   have dt:L.length<=16:=by
    have h1:=b2o aT;rw[Qx]at h1
    have:=HT.1
    omega
   obtain⟨v6,x6,dD,bm,ac,bK⟩:=a5o (P:=prog) (ty:=54) d0O d2c ρo ρo aq xs aL bR (ρh dd.o.len) (Qk bf.size FY.size);obtain⟨A6,N6,c6,rfl,df⟩:=bm.formN;have dL:X.heap.size<=V5.heap.size:=Qk bf.size FY.size;have al:=λk F=>(aq.lt (k:=k) F).1
   have aB:=a1.fr ac (λe=>by have:=al _ e;omega);have q6:x6.cell? ⟨g+1,5,none⟩=some (.slice Av Nv cv):=(aB.cell 5).trans (a8A (by simp[txV]));have z6:=aB.frozen 5;have k7:=aB.set_ 5 (.slice A6 N6 c6);rw[c0r (by simp[txV])]at k7;have Z:Fr (λk=>k=g+1) x6 (x6.setCell ⟨g+1,5,none⟩ (.slice A6 N6 c6)):=(Qp (λk=>k=g+1) x6).setCell (p:=⟨g+1,5,none⟩) (λ_=>rfl) _;have bE:∀k cs,Blk V5 k 5 cs->¬(Value.slice Av Nv cv).ownBlock=some k:=λk cs hb e=>a4l aq.own hb ρd e
   have ab:ReL g (g+3) w X (x6.setCell ⟨g+1,5,none⟩ (.slice A6 N6 c6)) l T R (.slice (some ⟨q,o,none⟩) Nc cc) zz (j+1) e':=by
    have aO:=c4.keep av;have cJ:=c7.fr (Q9 av) (λk cs _ hb=>by have:=hb.lt;omega);have dY:=bf.size;have cU:=λk F=>(bL.lt (k:=k) F).1
    refine⟨((bG.fr FY (ρh bG.o.lt)).fr ac (λe=>by have:=al _ e;omega)).fr Z (show¬_=_ by omega),⟨c9,((cP.fr FY (ρh cP.o.lt)).fr ac (λe=>by have:=al _ e;omega)).fr Z (show¬_=_ by omega)⟩,
     (aO.fr ac (λk F e=>by
      obtain⟨c1,bw,_⟩:=a2B aO.own F;exact a4l aq.own bw ρd e)).fr Z (λk F e=>by have:=(aO.lt F).1;omega),(cJ.fr ac (λk cs _ hb=>bE k cs hb)).fr Z (λk cs F _ e=>ρo),
     ((φt dh av).trans (ac.below (B:=w.heap.size) ρo (λk F e=>by have:=al _ e;omega))).trans (Z.below (B:=w.heap.size) (ρh ac.size) (λk F e=>ρo)),((bf.trans FY (λk F e=>ρo)).trans ac (λk F e=>by have:=cU _ e;omega)).trans Z (λk F e=>e),?_⟩
    rcases hE with⟨rfl,rfl,hR,bg,ho⟩ | ⟨dy,hR⟩
    ·refine .inl ⟨rfl,t,A1,c1,A2,c2,_,_,L++[cd],by rw[cN.o,a7O,aT.o,hR],k7,cV.o,bm.fr Z (λk F e=>by have:=(bm.lt F).1;omega),?_,bB.o⟩
     have af:=ho.rd;obtain⟨dV,dQ,e1,dl,ca,dv,cO⟩:=af;simp only[Qw,Value.slice.injEq,true_and]at e1;obtain⟨rfl,rfl⟩:=e1;have dj:RdR 32 V5 Bp (cd.path.map bys):=dl.frY fy (λa ha e=>by have:=(cO a ha).1;have:=a7.o;omega);have dc:b1r (g+3) V5 (.slice Av Nv cv) Rc L:=dd.fr (Q9 av) (λk F ad e=>ρo)
     have dI:=dc.snoc dj (ρw ca) dv bg (λa ha=>by
      have h1:=cO a ha;have h2:=a7.o;have h3:=fy.size;have h4:=cj.o;refine⟨by omega,by omega,λe=>?_⟩
      have:=(bL.lt e).2
      omega)
     exact(dI.grow ac bK).fr Z (λk F _ e=>ρo)
    refine .inr ⟨dy,?_⟩;have h1:a1Z (T.take (j+1))=.error e':=by rw[cN.o,a7O,aT.o,hR]
    have h2:=a9C _ (T.drop (j+1)) _ h1;rw[ZW]at h2;rw[bB.o,h2]
    rfl
   generalize aW:xs.toArray=xa at D bT cM dD⊢
   have a5:=η1 ab;clear ab bW BX hE fy kY FY av b5 a1 aq cE dt bm ac bK df al aB k7 Z bE aL bR hP b6 aZ aV aW;go_upto_region 14 with fail
   clear D;go_wp2;go_roundg (Nc-(j+1));exact⟨j+1,e',by omega,by go_num,rfl,a5.o⟩;omega
  focus
   subst he;subst ad;have ah:¬(j:Int)<j:=ρo;obtain⟨V,hV⟩:∃V,V=wr:=⟨_,rfl⟩;subst hV;obtain⟨t,A1,c1,A2,c2,v,Rc,L,ag,aE,aa,ar,aH,aG⟩:=H.get;obtain⟨ai,⟨c9,bt⟩,a9,bk,aK,a2,aI⟩:=H;obtain⟨Av,Nv,cv,rfl,bs⟩:=ar.formN;have dx:Nv=L.length:=by have:=aH.len;omega
   subst dx;rw[b3.o,ZF]at ag;rw[ag]at aG;have⟨cs,ae⟩:=η0 (a1Q (kOf l:Int) (txV A1 c1 A2 c2 t).toList (.slice Av L.length cv) (rOf l).ow (rOf l).am (rOf l).ser (rOf l).ep (rOf l).id);have bx:cs.length=73:=by rw[<-ae];exact a2I (by simp[txV]) (a8F (a0o 9 (.ok l)).1 (a0o 9 (.ok l)).2).1 (a8F (a0o 9 (.ok l)).1 (a0o 9 (.ok l)).2).2
   have cD:∀v∈cs,v.oneCell'=true:=by rw[<-ae];exact a6g (by simp[txV,Value.oneCell']) rfl
   rw[ae]at aE;have bT:=Pb b2N a6X cs aE bx;have D:=P7 a6X ai HZ cs bx cD;have Z:=ρr (g) V cs.toArray;have kG:=ai.row_ cs.toArray;have aQ:Below w w (V.setRow g cs.toArray):=Ql aK ρo _
   have ab:a5x w l (.returned (.tuple #[.agg cs.toArray,.int .i64 0])) (V.setRow g cs.toArray)/\Below w w (V.setRow g cs.toArray):=by
    refine⟨?_,aQ⟩;unfold a5x;rw[aG];exact⟨A1,c1,A2,c2,Av,cv,Rc,by rw[<-ae],((aa.fr a2 (λk F e=>ρo)).fr Z (λk F e=>ρo)).base ρo,(ar.fr Z (λk F e=>by have:=(ar.lt F).1;omega)).base ρo,(aH.fr Z (λk F _ e=>ρo)).base ρo⟩
   have⟨Y,hY⟩:=η0 (V.setRow g cs.toArray);replace D:=D.trans (show _=Result.ok () Y by rw[<-hY]);rw[hY]at kG ab;have⟨xa,aW⟩:=η0 cs.toArray;have cZ:xa.size=73:=by rw[<-aW,Qc,bx]
   rw[aW]at bT D kG ab;have⟨a5,ce,dz⟩:=η3 ab kG cZ;clear ab kG cZ ai bt a9 bk aK a2 aI ag aE aa ar aH aG bs ae bx cD Z aQ hY aW;go_wp2;refine bodyPost_ret (v:=.tuple #[.agg xa,.int .i64 0]) (a0k rfl _ _ g _ _ (0,0) ce.o bN aU (ρy dz.o a6X) rfl) rfl ?_;exact a5
  all_goals
   obtain⟨V,hV⟩:∃V,V=wr:=⟨_,rfl⟩;subst hV
   have af:a2o l=.error e:=by
    rcases H.st with h | h
    ·exact absurd h.1 he
    exact h.2
   have D:=dK.o V H.res;have kG:=H.res.row_ zz;have aQ:Below w w (V.setRow g zz):=Ql H.below ρo _;have⟨ce,dp,b7,cR⟩:=η4 kG aQ af bb;clear kG aQ af bb H;have bb:=cR.o;go_wp2;refine bodyPost_ret (v:=.tuple #[.agg zz,.int .i64 e]) (a0k rfl _ _ g _ _ (0,0) ce.o bN aU (ρy HZ.o a6X) rfl) rfl ?_;exact a3.o e _ b7 cR dp
end
section
theorem c0z(x y:VL):binOp .eql 31 x y=EQs 31 x y:=rfl
theorem c3h{a b:LI}(d:Dig a)(f:Dig b)(w:WD):(Op.equalIn (9997+3) 31 (.agg (bys a).toArray) (.agg (bys b).toArray)).run prog w=.ok (decide (a=b)) w:=by
 obtain⟨r,j,g⟩:=run_equalIn_deep (P:=prog) 9997 3 31 ρk w 3 3 (.agg (bys a).toArray) (.agg (bys b).toArray) _ _
  (by simp[Value.formed,cId,a0a,d.1]) (by simp[Value.formed,cId,a0a,f.1]) (by simpa[Value.cells]using a6a 1 d.1 d.2) (by simpa[Value.cells]using a6a 1 f.1 f.2)
 rw[j]
 congr 1
 rw[Bool.eq_iff_iff,g,decide_eq_true_eq,List.map_inj_right (λa b h=>by simpa using h)]
theorem c2g{a b:LI}(d:Dig a)(f:Dig b)(w:WD):(EQs 31 (.agg (bys a).toArray) (.agg (bys b).toArray)).run prog w=.ok (.bool (decide (a=b))) w:=by
 unfold EQs;rw[run_eql_struct,show(10000:Nat)=9997+3 from rfl,c3h d f w]
 rfl
attribute [local go_sem ↓] a1W a1l a2t a2s a2n c0z
end
section
theorem c9s:a3s prog 37=some [(0,1),(1,1),(2,1),(3,32),(35,32)]:=ρk
theorem c7S:(((prog.info? 37).bind (·.zero)).map (·.cells.toList))=some (a0b a1y):=ρk
theorem c0k(sh ht ep:Int)(D:LI)(a:D.length=32)(w:WD):(BDs 37 #[(0,.int .i64 sh),(1,.int .i64 ht),(2,.int .i64 ep),(4,.agg (bys D).toArray)]).run prog w=.ok (.agg (a0b ⟨sh,ht,ep,List.replicate 32 0,D⟩).toArray) w:=by
 refine a2H c9s c7S _ _ ?_ w;rw[a0v (off:=0) (size:=1) rfl rfl (by rw[a0f a1A];omega)];have g:(a0b a1y).take 0++(Value.int .i64 sh).cells.toList++(a0b a1y).drop (0+1)=a0b ⟨sh,0,0,List.replicate 32 0,List.replicate 32 0⟩:=rfl;rw[g,a0v (off:=1) (size:=1) rfl rfl (by simp[a0b,bys])];have d:(a0b ⟨sh,0,0,List.replicate 32 0,List.replicate 32 0⟩).take 1++(Value.int .i64 ht).cells.toList++(a0b ⟨sh,0,0,List.replicate 32 0,List.replicate 32 0⟩).drop (1+1)=a0b ⟨sh,ht,0,List.replicate 32 0,List.replicate 32 0⟩:=rfl;rw[d,a0v (off:=2) (size:=1) rfl rfl (by simp[a0b,bys])];have b:(a0b ⟨sh,ht,0,List.replicate 32 0,List.replicate 32 0⟩).take 2++(Value.int .i64 ep).cells.toList++(a0b ⟨sh,ht,0,List.replicate 32 0,List.replicate 32 0⟩).drop (2+1)=a0b ⟨sh,ht,ep,List.replicate 32 0,List.replicate 32 0⟩:=rfl;rw[b,a0v (off:=35) (size:=32) rfl (by simp[Value.cells,a0a,a]) (by simp[a0b,bys]),a1Y]
 have f:(a0b ⟨sh,ht,ep,List.replicate 32 0,List.replicate 32 0⟩).take 35++(Value.agg (bys D).toArray).cells.toList++(a0b ⟨sh,ht,ep,List.replicate 32 0,List.replicate 32 0⟩).drop (35+32)=a0b ⟨sh,ht,ep,List.replicate 32 0,D⟩:=by
  unfold a0b;simp[Value.cells,bys]
 rw[f]
abbrev a4z:=stOf 37
abbrev a4E:=alOf 37
def hdP(prev:a0Q)(first:Bool)(root:LI)(sh ep:Int):a0Q:=
 if first=true then⟨sh,1,ep,List.replicate 32 0,root⟩else⟨prev.sh,prev.ht+1,ep,b4F prev,root⟩
def okH(prev:a0Q)(first:Bool)(root:LI)(sh ep:Int):Bool:=
 (first||(a0w prev&&decide (prev.ep<=ep)))&&a0w (hdP prev first root sh ep)
def b1F(prev:a0Q)(first:Bool)(root:LI)(sh ep:Int):a0Q:=if okH prev first root sh ep=true then hdP prev first root sh ep else a1y
attribute [local go_sem ↓] a1l a4z a4E a5P a2t a2s a2n
theorem a7l{h:a0Q}(a:a0w h=true):h.ht<=1099511627776/\1<=h.ht:=by
 have:=(a3B h).1 a
 exact⟨this.2.1.2,this.2.1.1⟩
theorem c1F(prev:a0Q)(a:prev.Bd)(first:Bool)(g:Nat)(b1 f b3:LI)(sh ep:Int)(b:InI sh)(d:InI ep)(w:WD)(j:a4M w g 0 b1)(m:a4M w g 1 f)(o:a4M w g 2 b3)
  (l1:b1.length<=10000000) (l2:f.length<=10000000) (l3:b3.length<=10000000) (hgl:a2x w) (root:LI) (hroot:root=a1n (a1n (a0R b1) (a0R f)) (a0R b3)):
  Calls prog 205 #[.agg (a0b prev).toArray,.bool first,.slice g 3 3,.int .i64 sh,.int .i64 ep] w λx w'=>x=.returned (.tuple #[.agg (a0b (b1F prev first root sh ep)).toArray,.bool (okH prev first root sh ep)])/\Below w w w':=by
 have⟨H,a9⟩:=ηs w;have b0:=Qd w 37 (((a0b prev).toArray));have B0:=ρb w (.cells (((a0b prev).toArray)) 37)
 generalize hW:w.alloc (.cells (((a0b prev).toArray)) 37)=W at b0 B0
 rw[a9]at b0;have aI:W.heap.size=H+1:=by rw[<-hW,Qi,a9]
 have bb:=a6H W;have bz:=Qd W 37 ((a0b a1y).toArray);have B1:Below w w (W.alloc (.cells ((a0b a1y).toArray) 37)):=B0.alloc B0.size _;have ab:=b0.alloc (.cells ((a0b a1y).toArray) 37)
 generalize hV:W.alloc (.cells ((a0b a1y).toArray) 37)=V at bz B1 ab bb
 rw[aI]at bz bb;have cx:V.heap.size=H+2:=by rw[<-hV,Qi,aI]
 have bt:=λX (hX:Below w w X)=>c9l g 0 3 ρo b1 f b3 X (j.below hX) (m.below hX) (o.below hX) l1 l2 l3 (hgl.below hX)
 rw[<-hroot]at bt;have b6:Dig root:=by rw[hroot];exact Dig.node _ _
 have aR:=a0f a1A;have af:=a2f prev a V;have aG:=λX (hX:Below V V X)=>P4 a1S a1h (a0b prev) (ab.fr (Q9 hX) (ρh ab.lt)) (a0f a)
 have aq:=aG V (Qf _ _);have bW:=λX (hX:Below V V X)=>((ab.fr (Q9 hX) (ρh ab.lt)).cell 2).trans (show(a0b prev).toArray[2]? =some (.int .i64 prev.ep) by simp[a0b])
 have bX:=λX (hX:Below V V X)=>((ab.fr (Q9 hX) (ρh ab.lt)).cell 0).trans (show(a0b prev).toArray[0]? =some (.int .i64 prev.sh) by simp[a0b])
 have ci:=λX (hX:Below V V X)=>((ab.fr (Q9 hX) (ρh ab.lt)).cell 1).trans (show(a0b prev).toArray[1]? =some (.int .i64 prev.ht) by simp[a0b])
 have hid:=λX (hX:Below w w X)=>b1K prev a X (hgl.below hX)
 have⟨pv,br⟩:=η0 ((a0b prev).toArray);simp only[br]at hW af aG aq hid⊢;have bK:okH prev first root sh ep=false->b1F prev first root sh ep=a1y:=λh=>by unfold b1F;rw[h];rfl
 have z:okH prev first root sh ep=true->b1F prev first root sh ep=hdP prev first root sh ep:=λh=>by unfold b1F;rw[h];rfl
 have ag:(STs 37 (.pointer (H+1:Nat)) (.agg (a0b a1y).toArray)).run prog V=.ok () (V.setRow (H+1) (a0b a1y).toArray):=P7 a1h bz (ρy Qc aR) _ aR (a1p _);have a0:=λX=>b2Y X
 have⟨J,aU⟩:=η0 (a0b a1y);rw[aU]at ag aR bz hV;simp only[aU]at a0;have cd:∀v∈J,v.oneCell'=true:=by rw[<-aU];exact a1p _
 have Qz:=bz.row_ J.toArray;have QB:=Ql (g:=H+1) B1 ρo J.toArray;have cH:(ALs 37).run prog (w.alloc (.cells pv 37))=.ok (.pointer (H+1:Nat)) V:=by rw[hW];exact bb
 have⟨HW,HV,HG,an,aL,cI,cK,bc⟩:=η8 hW hV a9 B1 bz Qz QB bK;have⟨bq,bN,av,G,aM,aQ,bP,bB⟩:=η8 z bt b6 aR aU aG bW bX;have⟨bA,cp,cr,bk,bG,aF,bo,a5⟩:=η8 ci hid a cd aI a0 b d;clear hW hV a9 B1 bz Qz QB bK z bt b6 aR aU aG bW bX ci hid a cd aI a0 b d b0 B0 ab cx bb j m o l1 l2 l3 hgl hroot br
 cases first with
 |
  false=>
  have⟨r,hr⟩:=η0 (a0w prev);rw[hr]at af
  cases r with
  |
   false=>
   have E:okH prev false root sh ep=false:=by unfold okH;rw[hr];rfl
   have F:=bc.o E;rw[E,F,aM.o];have bw:=aF.o;have ax:=η1 E;clear E F hr;go_enter func205,ntmps205;go_upto_region 1 with fail
   rw[HG.o];go_wp2_with fail;refine μi af ?_;intro w2 O;have Z:=φf aL O;have cg:=P7 a1h Z (ρy Qc G.o) J G bk;have q5:=Z.row_ J.toArray;have q6:=Ql (g:=H+1) (φt an O) (ρh HG.o) J.toArray;have⟨Q5,Q6⟩:=η2 q5 q6;clear q5 q6 O Z;clear af aq ag;go_wp2;exact bodyPost_ret (a0Z rfl _ _ (H+1) 37 J Q5 a1S (ρy G.o a1h) rfl (.bool false)) rfl ⟨rfl,Q6.o⟩
  |
   true=>
   by_cases bM:ep<prev.ep
   ·have E:okH prev false root sh ep=false:=by
     unfold okH;rw[hr]
     have:decide (prev.ep<=ep)=false:=by simp;omega
     rw[this];rfl
    have F:=bc.o E;rw[E,F,aM.o];have bw:=aF.o;have ax:=η1 E;clear E F hr;go_enter func205,ntmps205;go_upto_region 1 with fail
    rw[HG.o];go_wp2_with fail;refine μi af ?_;intro w2 O;have Z:=φf aL O;have cg:=P7 a1h Z (ρy Qc G.o) J G bk;have q5:=Z.row_ J.toArray;have q6:=Ql (g:=H+1) (φt an O) (ρh HG.o) J.toArray;have qe:=bP.o w2 O;have⟨Q5,Q6⟩:=η2 q5 q6;clear q5 q6 O Z;clear af aq ag;have ca:decide (ep<prev.ep)=true:=ρw bM;go_wp2;exact bodyPost_ret (a0Z rfl _ _ (H+1) 37 J Q5 a1S (ρy G.o a1h) rfl (.bool false)) rfl ⟨rfl,Q6.o⟩
   have E:okH prev false root sh ep=a0w ⟨prev.sh,prev.ht+1,ep,b4F prev,root⟩:=by
    unfold okH hdP;rw[hr]
    have:decide (prev.ep<=ep)=true:=by simp;omega
    rw[this];simp
   have a3:hdP prev false root sh ep=⟨prev.sh,prev.ht+1,ep,b4F prev,root⟩:=by unfold hdP;simp
   have z:=bq.o;rw[a3]at z;have cy:=a7l hr;have b2:=cr.o;have aa:(⟨prev.sh,prev.ht+1,ep,b4F prev,root⟩:a0Q).Bd:=⟨b2.sh,(by show InI (prev.ht+1);unfold InI;omega),a5.o,Dig.hid prev,av.o⟩;have bp:(⟨sh,1,ep,List.replicate 32 0,root⟩:a0Q).Bd:=⟨bo.o,(by simp[InI]),a5.o,ZZ,av.o⟩;have bg:=(Dig.hid prev).1;have⟨D,hD⟩:=η0 (b4F prev);have aZ:=cp.o;simp only[hD]at aZ;rw[hD]at bg z E aa;have bQ:(bys D).length=32:=by rw[a0a,bg]
   have e0:∀v:Int,(a0b ⟨sh,1,ep,List.replicate 32 0,root⟩).toArray.setIfInBounds 0 (.int .i64 v)=(a0b ⟨v,1,ep,List.replicate 32 0,root⟩).toArray:=λv=>b2a _ v
   have e1:∀u v:Int,(a0b ⟨u,1,ep,List.replicate 32 0,root⟩).toArray.setIfInBounds 1 (.int .i64 v)=(a0b ⟨u,v,ep,List.replicate 32 0,root⟩).toArray:=λu v=>b1Q _ v
   have e3:∀u v:Int,a1d (a0b ⟨u,v,ep,List.replicate 32 0,root⟩).toArray 3 (bys D)=(a0b ⟨u,v,ep,D,root⟩).toArray:=λu v=>b3S (h:=⟨u,v,ep,List.replicate 32 0,root⟩) ρp av.1 bg
   have bm:∀u v:Int,(a0b ⟨u,v,ep,List.replicate 32 0,root⟩).toArray.size=67:=λu v=>by have:=av.1;simp[a0b,a0a,this]
   have cJ:IntKind.i64.wrap (prev.ht+1)=prev.ht+1:=by rw[IntKind.wrap_i64];omega
   have⟨hd,ac⟩:=η0 ((⟨prev.sh,prev.ht+1,ep,D,root⟩:a0Q));rw[ac]at z E aa;have bj:=λX=>c0k sh 1 ep root av.1 X
   have aJ:=a0f aa;have a6:=a0f bp;have aK:=a2f hd aa;have ak:=bN.o;have bf:=e3 prev.sh (prev.ht+1);rw[ac]at bf;have⟨hs,S⟩:=η0 (a0b hd);have⟨ys,a1⟩:=η0 (a0b ⟨sh,1,ep,List.replicate 32 0,root⟩);have a2:∀v∈hs,v.oneCell'=true:=by rw[<-S];exact a1p _
   have bT:∀v∈ys,v.oneCell'=true:=by rw[<-a1];exact a1p _
   rw[S]at bf aJ;rw[a1]at a6;simp only[S]at aK;simp only[a1]at bj e0;have bL:ys.toArray[0]? =some (.int .i64 sh):=by rw[<-a1];rfl
   have⟨ax,au,a7,I,cq,bD,a8,cj⟩:=η8 E z aK aJ a6 S a2 bT;have⟨E0,E1,E3,b8,cw,bY,cB,bR⟩:=η8 e0 e1 bf bm bQ aZ bL ak;clear E z aK aJ a6 S a2 bT e0 e1 bf bm bQ aZ bL ak a3 aa bp hr cy b2 bg hD ac a1 e3;have b5:=af;have ca:decide (ep<prev.ep)=false:=ρw bM;clear ag;go_enter func205,ntmps205;go_upto_region 1 with fail
   rw[HG.o];go_wp2_with fail;refine μi b5 ?_;intro w2 O;have qe:=bP.o w2 O;have aW:=φt an O;have bs:=bR.o w2 aW;clear b5 af aq;have⟨cv,cG⟩:=η2 O aW;clear O aW;go_wp2_with fail;refine μ1 bs ?_;rintro e w3 ⟨rfl,ar⟩;clear bs qe;have⟨x,hx⟩:=ηs w3;have U:=a6H w3;rw[aM.o]at U;have ah:Below V V w3:=φt cv ar;have bx:=Qd w3 37 J.toArray;have BX:=(Qf _ w3).alloc (Qg _) (.cells J.toArray 37);have aA:=(φf aL ah).alloc (.cells J.toArray 37)
   generalize bE:w3.alloc (.cells J.toArray 37)=X0 at U bx BX aA
   have bi:V.heap.size<=x:=by rw[<-hx];exact ah.size
   have ba:H+2<=V.heap.size:=by have:=aL.lt;have:=bG.o;have hv:=HV.o;rw[<-hv,Qi];omega
   have aT:Below V V X0:=ah.trans (BX.mono ah.size);rw[hx]at U bx;have ai:=P7 a1h bx (ρy Qc G.o) ys cq cj;have kx:=bx.row_ ys.toArray;have fx:=ρr (x) X0 ys.toArray;have kz:=aA.fr fx (show¬_=_ by omega);have T:Below V V (X0.setRow x ys.toArray):=aT.trans (fx.below (B:=V.heap.size) aT.size (λk hk e=>ρo));have⟨X1,Q⟩:=η0 (X0.setRow x ys.toArray);replace ai:=ai.trans (show _=Result.ok () X1 by rw[<-Q]);rw[Q]at kx kz T;have aB:Below V V X1.drew:=T.drew;have⟨Y0,aN⟩:=η0 X1.drew;have b4:Blk Y0 x 37 ys.toArray:=by rw[<-aN];exact kx.drew
   have bZ:Blk Y0 (H+1) 37 J.toArray:=by rw[<-aN];exact kz.drew
   rw[aN]at aB;have az:=an.o;have bn:=bY.o Y0 (az.trans (aB.mono az.size));have bO:Y0.cell? ⟨H,0,none⟩=some (.int .i64 prev.sh)/\Y0.cell? ⟨H,1,none⟩=some (.int .i64 prev.ht)/\(LDs 37 (.pointer H)).run prog Y0=.ok (.agg pv) Y0:=⟨bB.o _ aB,bA.o _ aB,aQ.o _ aB⟩;have⟨cn,bJ,cA,cE,bS,bH,bU⟩:=η7 bO aN b4 bZ aB bi ba;clear bO aN b4 bZ aB bi ba ar bx BX aA bE Q ah aT T kx kz fx hx az;go_upto_region 5 with fail
   refine a0s [(0,3),(2,3),(1,0),(7,3),(3,0),(4,3),(5,0),(6,1),(8,1),(9,3),(10,2),(11,3),(12,2)] (λW=>W.cell? ⟨H,0,none⟩=some (.int .i64 prev.sh)/\W.cell? ⟨H,1,none⟩=some (.int .i64 prev.ht)/\(LDs 37 (.pointer H)).run prog W=.ok (.agg pv) W) ρk ρk ρk ρk (ρy bJ.o cn.o) ?_;rw[bJ.o];refine ε2 ?_
   iterate 1 refine θ1 (λW' hS=>hS.1) ?_
   refine ε1 ?_
   iterate 1 refine θ1 (λW' hS=>hS.2.1) ?_
   refine ε1 ?_
   iterate 1 refine θ1 (λW' hS=>hS.2.2) ?_
   refine κ ?_;intro K hK;refine μ1 bn ?_;rintro e w6 ⟨rfl,bh⟩;have ao:=φt bS bh;have bV:=φf cA bh;have cf:=φf cE bh;have ce:w6.cell? ⟨H,0,none⟩=some (.int .i64 prev.sh)/\w6.cell? ⟨H,1,none⟩=some (.int .i64 prev.ht)/\(LDs 37 (.pointer H)).run prog w6=.ok (.agg pv) w6:=⟨bB.o _ ao,bA.o _ ao,aQ.o _ ao⟩;have⟨ct,bC,cD,bI⟩:=η4 ce bV cf ao;clear ce bV cf ao bh bn;with_reducible refine hK _ _ (ct.o) ?_;clear hK K
   have z6:=bC.frozen 0;have p6:=(bC.cell 0).trans cB;have be:=bC.set_ 0 (.int .i64 prev.sh);rw[E0.o]at be;have f7:Fr (λk=>k=x) w6 (w6.setCell ⟨x,0,none⟩ (.int .i64 prev.sh)):=(Qp (λk=>k=x) w6).setCell (p:=⟨x,0,none⟩) (λ_=>rfl) _;have aY:=bH.o;have aX:=bU.o;have ad:=bI.trans (f7.below (B:=V.heap.size) bI.size (λk hk e=>ρo));have bv:=cD.fr f7 (show¬_=_ by omega)
   generalize b9:w6.setCell ⟨x,0,none⟩ (.int .i64 prev.sh)=Y7 at be ad bv
   have cc:Y7.cell? ⟨H,0,none⟩=some (.int .i64 prev.sh)/\Y7.cell? ⟨H,1,none⟩=some (.int .i64 prev.ht)/\(LDs 37 (.pointer H)).run prog Y7=.ok (.agg pv) Y7:=⟨bB.o _ ad,bA.o _ ad,aQ.o _ ad⟩;have⟨cF,cC,bu,ck,ch⟩:=η5 cc b9 be bv ad;clear cc b9 be bv ad f7 aY aX;refine κ ?_;intro K hK;rw[cC.o];with_reducible refine hK _ _ (cF.o) ?_;clear hK K;clear z6 p6
   have z7:=bu.frozen 1;have p7:=(bu.cell 1).trans (show(a0b ⟨prev.sh,1,ep,List.replicate 32 0,root⟩).toArray[1]? =some (.int .i64 1) by simp[a0b]);have aO:=bu.set_ 1 (.int .i64 (prev.ht+1));rw[E1.o]at aO;have f8:Fr (λk=>k=x) Y7 (Y7.setCell ⟨x,1,none⟩ (.int .i64 (prev.ht+1))):=(Qp (λk=>k=x) Y7).setCell (p:=⟨x,1,none⟩) (λ_=>rfl) _;have aY:=bH.o;have aX:=bU.o;have aD:=ch.trans (f8.below (B:=V.heap.size) ch.size (λk hk e=>ρo));have bF:=ck.fr f8 (show¬_=_ by omega)
   generalize b7:Y7.setCell ⟨x,1,none⟩ (.int .i64 (prev.ht+1))=Y8 at aO aD bF
   have aE:=Pa (t:=31) iId aO (off:=3) (bys D) cw.o (by rw[b8.o];omega) (a0h _);have kx:=aO.row_ (a1d (a0b ⟨prev.sh,prev.ht+1,ep,List.replicate 32 0,root⟩).toArray 3 (bys D));rw[E3.o]at kx aE;have f9:=ρr (x) Y8 hs.toArray;have bl:=aD.trans (f9.below (B:=V.heap.size) aD.size (λk hk e=>ρo));have kz:=bF.fr f9 (show¬_=_ by omega);have az:=an.o;have T:=az.trans (bl.mono az.size);have⟨X1,Q⟩:=η0 (Y8.setRow x hs.toArray);replace aE:=aE.trans (show _=Result.ok () X1 by rw[<-Q]);rw[Q]at kx kz T;have aj:=P4 a1S a1h hs kx I;have aC:=a7.o X1;have⟨KX,KZ,aP,cu⟩:=η4 kx kz T b7;clear kx kz T b7 f8 aY aX aD bF aO f9 bl az Q;refine ε1 ?_;refine τ ?_;intro K hK;rw[cu.o];with_reducible refine hK _ _ ?_;clear hK K
   refine ε1 ?_;refine τ1 ?_;refine ν ?_;clear z7 p7 aE;go_upto_region 6 with fail
   go_wp2_with fail;refine μi aC ?_;intro w5 Y;have a4:=P4 a1S a1h hs (φf KX Y) I.o;have N:=φf KZ Y;have B5:=φt aP Y;have al:=HG.o
   generalize ae:a0w hd=r5
   cases r5 with
   |
    false=>
    have y:=ax.trans ae;have F:=bc.o y;have aS:=P7 a1h N (ρy Qc G.o) J G bk;have q5:=N.row_ J.toArray;have q6:=Ql (g:=H+1) B5 ρo J.toArray;have bw:=aF.o;have⟨Q5,Q6,R,ay⟩:=η4 q5 q6 y F;clear q5 q6 y F Y N B5 al ae a4;clear aj aC;go_wp2;refine bodyPost_ret (a0Z rfl _ _ (H+1) 37 J Q5 a1S (ρy G.o a1h) rfl (.bool false)) rfl ?_;exact⟨by rw[R.o,ay.o,aM.o],Q6.o⟩
   |
    true=>
    have y:=ax.trans ae;have F:=au.o y;have aS:=P7 a1h N (ρy Qc G.o) hs I a8;have q5:=N.row_ hs.toArray;have q6:=Ql (g:=H+1) B5 ρo hs.toArray;have⟨Q5,Q6,R,ay⟩:=η4 q5 q6 y F;clear q5 q6 y F Y N B5 al ae;clear aj aC;go_wp2;refine bodyPost_ret (a0Z rfl _ _ (H+1) 37 hs Q5 a1S (ρy I.o a1h) rfl (.bool true)) rfl ?_;exact⟨by rw[R.o,ay.o,bD.o],Q6.o⟩
 |
  true=>
  have E:okH prev true root sh ep=a0w ⟨sh,1,ep,List.replicate 32 0,root⟩:=by unfold okH hdP;simp
  have a3:hdP prev true root sh ep=⟨sh,1,ep,List.replicate 32 0,root⟩:=by unfold hdP;simp
  have z:=bq.o;rw[a3]at z;have aa:(⟨sh,1,ep,List.replicate 32 0,root⟩:a0Q).Bd:=⟨bo.o,(by simp[InI]),a5.o,ZZ,av.o⟩;have⟨hd,ac⟩:=η0 ((⟨sh,1,ep,List.replicate 32 0,root⟩:a0Q));have bj:=λX=>c0k sh 1 ep root av.1 X
  rw[ac]at z E aa;simp only[ac]at bj;have aJ:=a0f aa;have aK:=a2f hd aa;have ak:=bN.o V an;have⟨cz,ax,au,a7⟩:=η4 aJ E z aK;clear aJ E z aK a3 aa;clear af aq ag;have⟨hs,S⟩:=η0 (a0b hd);have a2:∀v∈hs,v.oneCell'=true:=by rw[<-S];exact a1p _
  simp only[S]at bj a7;have aV:=cz.o;rw[S]at aV;have⟨bD,I,a8⟩:=η3 S aV a2;clear S aV a2;go_enter func205,ntmps205;go_upto_region 1 with fail
  rw[HG.o];go_wp2_with fail;refine μ1 ak ?_;rintro e w3 ⟨rfl,ar⟩;have⟨x,hx⟩:=ηs w3;have U:=a6H w3;rw[aM.o]at U;have bx:=Qd w3 37 J.toArray;have BX:=(Qf _ w3).alloc (Qg _) (.cells J.toArray 37);have aA:=(φf aL ar).alloc (.cells J.toArray 37)
  generalize bE:w3.alloc (.cells J.toArray 37)=X0 at U bx BX aA
  have aH:=φt an ar;have bi:V.heap.size<=x:=by rw[<-hx];exact ar.size
  have ba:H+2<=V.heap.size:=by have:=aL.lt;have:=bG.o;have hv:=HV.o;rw[<-hv,Qi];omega
  rw[hx]at U bx BX;have ai:=P7 a1h bx (ρy Qc G.o) hs I a8;have kx:=bx.row_ hs.toArray;have fx:=ρr (x) X0 hs.toArray;have kz:=aA.fr fx (show¬_=_ by omega);have T:Below w w (X0.setRow x hs.toArray):=(aH.trans ((hx ▸ BX).mono aH.size)).trans (fx.below (B:=w.heap.size) (ρi aH.size BX.size) (λk hk e=>by have:=an.size;omega));have⟨X1,Q⟩:=η0 (X0.setRow x hs.toArray);replace ai:=ai.trans (show _=Result.ok () X1 by rw[<-Q]);rw[Q]at kx kz T;have aj:=P4 a1S a1h hs kx I;have aC:=a7.o X1;have⟨KX,KZ,aP⟩:=η3 kx kz T;clear kx kz T ar bx BX aA bE Q aH bi ba fx hx;clear ak;go_wp2_with fail;refine μi aC ?_;intro w5 Y;have a4:=P4 a1S a1h hs (φf KX Y) I.o;have N:=φf KZ Y;have B5:=φt aP Y;have al:=HG.o
  generalize ae:a0w hd=r5
  cases r5 with
  |
   false=>
   have y:=ax.trans ae;have F:=bc.o y;have aS:=P7 a1h N (ρy Qc G.o) J G bk;have q5:=N.row_ J.toArray;have q6:=Ql (g:=H+1) B5 ρo J.toArray;have bw:=aF.o;have⟨Q5,Q6,R,ay⟩:=η4 q5 q6 y F;clear q5 q6 y F Y N B5 al ae a4;clear aj aC;go_wp2;refine bodyPost_ret (a0Z rfl _ _ (H+1) 37 J Q5 a1S (ρy G.o a1h) rfl (.bool false)) rfl ?_;exact⟨by rw[R.o,ay.o,aM.o],Q6.o⟩
  |
   true=>
   have y:=ax.trans ae;have F:=au.o y;have aS:=P7 a1h N (ρy Qc G.o) hs I a8;have q5:=N.row_ hs.toArray;have q6:=Ql (g:=H+1) B5 ρo hs.toArray;have⟨Q5,Q6,R,ay⟩:=η4 q5 q6 y F;clear q5 q6 y F Y N B5 al ae;clear aj aC;go_wp2;refine bodyPost_ret (a0Z rfl _ _ (H+1) 37 hs Q5 a1S (ρy I.o a1h) rfl (.bool true)) rfl ?_;exact⟨by rw[R.o,ay.o,bD.o],Q6.o⟩
end
section
attribute [local go_sem ↓] a4v a4s a4r a1F
theorem b1J(cb b:Nat)(m:List (Pt×a1q))(s:Int)(p:Pt)(d:a6l p)(w:WD)(h:a0i w cb b m s):
  Calls prog 210 #[.pointer cb,.agg (ptL p.1 p.2).toArray] w λe w'=>e=.returned (.tuple #[.agg (a1s (a1v m p)).toArray,.bool (a2E m p).isSome])/\a0i w' cb b (b6D m p) (IntKind.u64.wrap (s-(a1v m p).am))/\Fr (λk=>k=cb\/k=b) w w':=by
 have⟨g,hg⟩:=ηs w;have⟨j,D⟩:=η0 ((ptL p.1 p.2).toArray);have⟨I,aI⟩:=η0 ((a1s a3q).toArray);have K:=b1a;simp only[aI]at K;have aB:I.size=33:=by rw[<-aI,Qc];exact a0G a2R
 have a4:=h.st.lt;have a7:=h.mp.lt;have b0:=Qd w 189 j;have B0:=ρb w (.cells j 189)
 generalize al:w.alloc (.cells j 189)=W1 at b0 B0
 rw[hg]at b0;have aH:W1.heap.size=g+1:=by rw[<-al,<-hg];simp
 have F:(ALs 206).run prog (w.alloc (.cells j 189))=.ok (.pointer W1) (W1.alloc (.cells I 206)):=by rw[al];exact K W1
 have af:=b0.alloc (.cells I 206);have b1:=Qd W1 206 I;have B1:=B0.alloc B0.size (.cells I 206);have⟨W2,ak⟩:=η0 (W1.alloc (.cells I 206));have aA:W2.heap.size=g+2:=by rw[<-ak];simp;omega
 rw[ak]at af b1 B1 F;rw[aH]at b1 F;have h2:=h.below B1;have fd:Fr (λ_=>False) W2 W2.drew:=(Qp _ _).drew;have⟨X,hX⟩:=η0 W2.drew;rw[hX]at fd;have aK:X.heap.size=g+2:=by rw[<-hX];exact aA
 have O:a0i X cb b m s/\Blk X g 189 j:=⟨h2.fr fd id id,af.fr fd id⟩;have E:=K X;have bx:=Qd X 206 I;have BX:=ρb X (.cells I 206)
 generalize hY:X.alloc (.cells I 206)=Y at bx BX E
 rw[aK]at bx E;have T:a0i Y cb b m s/\Blk Y g 189 j:=⟨O.1.below BX,O.2.fr (Q9 BX) ρo⟩;have ae:=a3p h.bd p;have z:=a0G ae;have V:=a1O (a1v m p);have y:=λ(W:WD) (hw:a0i W cb b m s)=>hw.look d
 simp only[D]at y
 generalize ah:a1s (a1v m p)=cs at z V⊢
 simp only[ah]at y
 generalize aT:(a2E m p).isSome=ok at y⊢
 have N:=P7 a9y bx aB cs z V;have fY:Fr (λk=>k=g+2) Y (Y.setRow (g+2) cs.toArray):=(Qp (λk=>k=g+2) Y).setRow (g:=g+2) (λ_=>rfl) _;have kx:=bx.row_ cs.toArray;have kr:Blk (Y.setRow (g+2) cs.toArray) (g+1) 206 I:=((b1.fr fd id).fr (Q9 BX) ρo).fr fY ρo;have kp:Blk (Y.setRow (g+2) cs.toArray) g 189 j:=T.2.fr fY ρo;have av:a0i (Y.setRow (g+2) cs.toArray) cb b m s:=T.1.fr fY ρo ρo;have BY:Below w w (Y.setRow (g+2) cs.toArray):=((B1.trans (fd.below ρo (λ_ _=>id))).trans (BX.mono ρo)).trans (fY.below (B:=w.heap.size) (ρh BX.size) (λk hk e=>ρo));have⟨Z,hZ⟩:=η0 (Y.setRow (g+2) cs.toArray);replace N:=N.trans (show _=Result.ok () Z by rw[<-hZ]);rw[hZ]at kx kr BY kp av;have H:=λ(W:WD) (hb:Blk W g 189 j)=>Pb a3a a1H (w:=W) j.toList (ρw hb) (by rw[<-D];simpa using d.vlen)
 simp only[show j.toList.toArray=j by simp]at H;have o:Fr (λ_=>False) Z Z.drew:=(Qp _ _).drew;have⟨Z1,aq⟩:=η0 Z.drew;rw[aq]at o;have R:a0i Z1 cb b m s/\Blk Z1 g 189 j:=⟨av.fr o id id,kp.fr o id⟩;obtain⟨Z2,ab,aL,f,aD⟩:=R.1.mp.del (ty:=0) b0v (a:=p) d;have ao:=h.ne;have ad:Blk Z2 cb 163 #[.map (some b),.int .u64 s]:=R.1.st.fr f (λe=>ao e.symm);have aG:=(kx.fr o id).fr f (show¬_=_ by omega);have aP:=(kr.fr o id).fr f (show¬_=_ by omega);have F2:Fr (λk=>k=cb\/k=b) w Z2:=(((Q9 BY).mono (G:=λk=>k=cb\/k=b) (λk hk e=>ρo)).trans o (λ_ _ e=>e.elim)).trans f (λk hk e=>.inr e);have r:Fr (λ_=>False) Z2 Z2.drew:=(Qp _ _).drew;have⟨J,au⟩:=η0 Z2.drew;rw[au]at r;have x:=ad.fr r id;have ai:=aG.fr r id;have az:=aP.fr r id;have ac:=aL.fr r id;have qs:J.cell? ⟨cb,1,none⟩=some (.int .u64 s):=x.cell 1;have zs:=x.frozen 1
 have qa:J.cell? ⟨g+2,32,none⟩=some (.int .u64 (a1v m p).am):=(ai.cell 32).trans (by rw[<-ah];unfold a1s;simp[a0a,ae.len]);have⟨s',Q⟩:=η0 (IntKind.u64.wrap (s-(a1v m p).am));have k4:Blk (J.setCell ⟨cb,1,none⟩ (.int .u64 s')) cb 163 #[.map (some b),.int .u64 s']:=by simpa using x.set_ 1 (.int .u64 s')
 have f4:Fr (λk=>k=cb) J (J.setCell ⟨cb,1,none⟩ (.int .u64 s')):=(Qp (λk=>k=cb) J).setCell (p:=⟨cb,1,none⟩) (λ_=>rfl) _;have an:=ai.fr f4 (show¬_=_ by omega);have S:=az.fr f4 (show¬_=_ by omega);have ay:a0i (J.setCell ⟨cb,1,none⟩ (.int .u64 s')) cb b (b6D m p) s':=⟨k4,ac.fr f4 ao,λq hq=>h.bd q (ZD.1 hq).1⟩;have F4:=(F2.trans r (λ_ _ e=>e.elim)).trans f4 (λk hk e=>.inl e)
 generalize aJ:J.setCell ⟨cb,1,none⟩ (.int .u64 s')=Z4 at an S ay F4
 have aC:=Pb c3f a9y cs an z;have aM:=P7 a9y S aB cs z V;have ax:=S.row_ cs.toArray;have f5:Fr (λk=>k=g+1) Z4 (Z4.setRow (g+1) cs.toArray):=(Qp (λk=>k=g+1) Z4).setRow (g:=g+1) (λ_=>rfl) _;have ar:=ay.fr f5 ρo ρo;have F5:=F4.trans f5 (λk hk e=>ρo);have⟨xa,ag⟩:=η0 cs.toArray;have aN:xa.size=33:=by rw[<-ag,Qc,z]
 generalize aV:(a1v m p).am=am at qa Q⊢
 rw[Q];simp only[ag]at y N aC aM ax ar F5⊢;have aj:∀ty:TI,(Builtin.delete_ #[161,189] ty #[.map (some b),.agg j]).run prog Z1=.ok (.tuple #[]) Z2:=λty=>by rw[<-D];exact ab
 rw[D];have aE:J.cell? ⟨cb,1,none⟩=some (.int .u64 s)/\J.cell? ⟨g+2,32,none⟩=some (.int .u64 am):=⟨qs,qa⟩;have⟨aS,aR,aX,aU,a5,a1,aa,HX⟩:=η8 O T R aN ax y H hX;have⟨HG,aQ,aO,aY,a2,a3,aF,a6⟩:=η8 hg aq au aJ ar F5 aE Q;clear O T R aN ax y H hX hg aq au aJ ar F5 aE Q b0 B0 af b1 B1 h2 fd aK bx BX hY ae z V ah aT fY kx kr BY hZ aA al aH ak K h a4 a7 ag D kp av o aL f aD ao ad aG aP F2 r x ai az ac k4 f4 an S ay F4 f5 aV ab qs qa;go_enter func210,ntmps210;go_upto_region 1 with fail
 clear F;rw[HG.o];refine a0s [(0,3),(1,3),(2,3),(3,0),(4,0),(5,0),(6,3),(7,3),(8,3),(9,1),(10,2),(11,3)] (λW=>a0i W cb b m s/\Blk W g 189 j) ρk ρk ρk ρk (ρy HX.o aS.o) ?_;rw[HX.o];refine ε3 ?_
 iterate 3 refine θ3 (λW' U=>QU U.1.q0 (QU (aa.o W' U.2) (a1.o W' U.1))) ?_
 refine ε3 ?_;refine κ1 (aR.o) ?_;refine τ1 ?_;refine ε1 ?_;refine ν ?_;clear E N;go_upto_region 2 with fail
 refine a0s [(0,3),(1,3),(2,3),(3,0),(4,0),(5,2)] (λW=>a0i W cb b m s/\Blk W g 189 j) ρk ρk ρk ρk (ρy aQ.o aX.o) ?_;rw[aQ.o];refine ε3 ?_
 iterate 2 refine θ2 (λW' U=>QU U.1.q0 (aa.o W' U.2)) ?_
 refine τ1 ?_;refine ν ?_;clear aj;go_upto_region 3 with fail
 refine a0s [(0,3),(1,3),(2,3),(4,3),(3,0),(5,0),(6,3),(7,3),(8,3),(9,2)] (λW=>W.cell? ⟨cb,1,none⟩=some (.int .u64 s)/\W.cell? ⟨g+2,32,none⟩=some (.int .u64 am)) ρk ρk ρk ρk (ρy aO.o aF.o) ?_;rw[aO.o];have qs:=aF.1;have aZ:=a6.o;refine ε4 ?_
 iterate 2 refine θ2 (λW' U=>QU U.1 U.2) ?_
 refine ε3 ?_;refine τ1 ?_;refine ν ?_;go_upto_region 4 with fail
 rw[aY.o];clear qs zs aZ;go_wp2_with fail;obtain⟨dT,aW,a0⟩:=Q8.1 c3f;refine bodyPost_ret (v:=.tuple #[.agg xa,.bool ok]) (a0k rfl _ _ (g+1) _ _ (0,0) a5.o aW a0 (ρy aU.o a9y) rfl) rfl ?_;exact⟨rfl,a2.o,a3.o⟩
def a7H(m:List (Pt×a1q))(s:Int)(p:Pt)(x:a1q):Int×List (Pt×a1q)×Int:=
 if p.2<0\/16<=p.2\/x.am=0\/4611686018427387904<x.am then(5,m,s)
 else if(a2E m p).isSome then(24,m,s)
 else if 256<=m.length then(18,m,s)
 else if(a5b s x.am).2≠0 then((a5b s x.am).2,m,s)
 else(0,m++[(p,x)],(a5b s x.am).1)
theorem b0Q(cb b:Nat)(m:List (Pt×a1q))(s:Int)(p:Pt)(f:a6l p)(x:a1q)(d:x.Bd)(j:0<=s/\s<=18446744073709551615)(w:WD)(h:a0i w cb b m s):
  Calls prog 119 #[.pointer cb,.agg (ptL p.1 p.2).toArray,.agg (a1s x).toArray] w λe w'=>e=.returned (.int .i64 (a7H m s p x).1)/\a0i w' cb b (a7H m s p x).2.1 (a7H m s p x).2.2/\Fr (λk=>k=cb\/k=b) w w':=by
 have⟨g,N⟩:=ηs w;have⟨r,G⟩:=η0 ((ptL p.1 p.2).toArray);have⟨E,aa⟩:=η0 ((a1s x).toArray);have⟨zc,aM⟩:=η0 ((a1s a3q).toArray);have aH:=b1a;simp only[aM]at aH;have aX:zc.size=33:=by rw[<-aM,Qc];exact a0G a2R
 have bc:=h.st.lt;have bk:=h.mp.lt;have b0:=Qd w 189 r;have B0:=ρb w (.cells r 189);have ag:=b0.alloc (.cells E 206);have b1:=Qd (w.alloc (.cells r 189)) 206 E;have B1:=B0.alloc B0.size (.cells E 206);rw[Qi]at b1;have⟨W2,aj⟩:=η0 ((w.alloc (.cells r 189)).alloc (.cells E 206));have aU:W2.heap.size=g+2:=by rw[<-aj,<-N];simp
 rw[aj]at ag b1 B1;rw[N]at ag b1;have h2:=h.below B1;have fd:Fr (λ_=>False) W2 W2.drew:=(Qp _ _).drew;have⟨X,hX⟩:=η0 W2.drew;rw[hX]at fd;have ba:X.heap.size=g+2:=by rw[<-hX];exact aU
 have ai:a0i X cb b m s/\Blk X g 189 r:=⟨h2.fr fd id id,ag.fr fd id⟩;have S:=aH X;have bx:=Qd X 206 zc;have BX:=ρb X (.cells zc 206)
 generalize hY:X.alloc (.cells zc 206)=Y at bx BX S
 rw[ba]at bx S;have ao:a0i Y cb b m s/\Blk Y g 189 r:=⟨ai.1.below BX,ai.2.fr (Q9 BX) ρo⟩;have aZ:=a3p h.bd p;have aQ:=a0G aZ;have aR:=a1O (a1v m p);have F:=λ(W:WD) (hw:a0i W cb b m s)=>hw.look f
 simp only[G]at F;have⟨cs,aJ⟩:=η0 (a1s (a1v m p));rw[aJ]at aQ aR;simp only[aJ]at F;have⟨ok,aG⟩:=η0 ((a2E m p).isSome);rw[aG]at F;have ah:=P7 a9y bx aX cs aQ aR;have fY:Fr (λk=>k=g+2) Y (Y.setRow (g+2) cs.toArray):=(Qp (λk=>k=g+2) Y).setRow (g:=g+2) (λ_=>rfl) _;have aD:a0i (Y.setRow (g+2) cs.toArray) cb b m s:=ao.1.fr fY ρo ρo;have kp:Blk (Y.setRow (g+2) cs.toArray) g 189 r:=ao.2.fr fY ρo;have kx:Blk (Y.setRow (g+2) cs.toArray) (g+1) 206 E:=((b1.fr fd id).fr (Q9 BX) ρo).fr fY ρo;have BY:Below w w (Y.setRow (g+2) cs.toArray):=((B1.trans (fd.below ρo (λ_ _=>id))).trans (BX.mono ρo)).trans (fY.below (B:=w.heap.size) (ρh BX.size) (λk hk e=>ρo));have⟨Z,hZ⟩:=η0 (Y.setRow (g+2) cs.toArray);replace ah:=ah.trans (show _=Result.ok () Z by rw[<-hZ]);rw[hZ]at aD kp kx BY
 have ac:=λ(W:WD) (hb:Blk W g 189 r)=>Pb a3a a1H (w:=W) r.toList (ρw hb) (by rw[<-G];simpa using f.vlen)
 simp only[show r.toList.toArray=r by simp]at ac;have O:=λ(W:WD) (hb:Blk W (g+1) 206 E)=>Pb c3f a9y (w:=W) E.toList (ρw hb) (by rw[<-aa];simpa using a0G d)
 simp only[show E.toList.toArray=E by simp]at O;have T:E[32]? =some (.int .u64 x.am):=by rw[<-aa];unfold a1s;simp[a0a,d.len]
 have az:r[32]? =some (.int .i64 p.2):=by rw[<-G];unfold ptL;simp[a0a,f.len]
 have I:Fr (λ_=>False) Z Z.drew:=(Qp _ _).drew;have⟨Z1,aN⟩:=η0 Z.drew;rw[aN]at I;have Q:=aD.fr I id id;have aL:=kx.fr I id;have aS:=kp.fr I id;have bg:Z1.cell? ⟨cb,1,none⟩=some (.int .u64 s)/\Z1.cell? ⟨g+1,32,none⟩=some (.int .u64 x.am):=⟨Q.q1,(aL.cell 32).trans T⟩;have ax:=a8G s x.am j d.am Z1;have⟨xa,a4⟩:=η0 cs.toArray;simp only[a4]at F ah;have a3:Below w w Z1:=BY.trans (I.below (ρh BY.size) (λ_ _=>id));rw[G,aa];have⟨br,bp,bF,ar,a0,HX,HG,bm⟩:=η8 ai ao F ac O hX N aN;have⟨bs,bu,bB,bM,bG,bq,bJ,bt⟩:=η8 bg Q aL aS a3 aj d T;have⟨bE,bv,bH,bC,bL,bf,aY⟩:=η7 az G aa aG h.bd bc bk;clear ai ao F ac O hX N aN bg Q aL aS a3 aj d T az G aa aG bc bk b0 B0 ag b1 B1 h2 fd ba bx BX hY aZ aQ aR aJ fY BY hZ aU aH h a4 kp kx I aD aX aM;go_enter func119,ntmps119;go_upto_region 1 with fail
 rw[bq.o,HG.o];refine a0s [(0,3),(1,3),(2,3),(3,0),(4,0),(5,0),(6,3),(7,3),(8,3),(9,1),(10,2),(11,3)] (λW=>a0i W cb b m s/\Blk W g 189 r) ρk ρk ρk ρk (ρy HX.o br.o) ?_;rw[HX.o];refine ε3 ?_
 iterate 3 refine θ3 (λW' hS=>QU hS.1.q0 (QU (ar.o W' hS.2) (bF.o W' hS.1))) ?_
 refine ε3 ?_;refine κ1 (bp.o) ?_;refine τ1 ?_;refine ε1 ?_;refine ν ?_;clear S ah;go_upto_region 2 with fail
 refine a0s [(0,3),(1,3),(2,3),(4,3),(3,0),(5,0),(6,2),(7,3),(8,3),(9,3),(10,3),(11,3)] (λW=>W.cell? ⟨cb,1,none⟩=some (.int .u64 s)/\W.cell? ⟨g+1,32,none⟩=some (.int .u64 x.am)) ρk ρk ρk ρk (ρy bm.o bs.o) ?_;rw[bm.o];refine ε4 ?_
 iterate 2 refine θ2 (λW' hS=>QU hS.1 hS.2) ?_
 refine τ ?_;intro K hK;refine μ1 ax ?_;rintro e w4 ⟨rfl,R⟩;with_reducible refine hK _ _ ?_;clear hK K
 refine ε5 ?_;refine ν ?_;clear ax;have bo:=bu.below R;have al:=φf bB R;have aq:=φf bM R;have af:=φt bG R;have qi:w4.cell? ⟨g,32,none⟩=some (.int .i64 p.2):=(aq.cell 32).trans bE;have qa:w4.cell? ⟨g+1,32,none⟩=some (.int .u64 x.am):=(al.cell 32).trans bt;have F4:Fr (λk=>k=cb\/k=b) w w4:=(Q9 af).mono (λk hk e=>ρo);have aB:g+2<=w4.heap.size:=by have:=al.lt;have:=af.size;have:=aq.lt;omega
 have⟨z,bl,a7,bN,U,bP⟩:=η6 bo al aq af F4 aB;clear bo al aq af F4 aB R;have ak:(p.2<0\/16<=p.2\/x.am=0\/4611686018427387904<x.am)\/¬(p.2<0\/16<=p.2\/x.am=0\/4611686018427387904<x.am):=Classical.em _
 rcases ak with hA | hA
 focus
  have o:a7H m s p x=(5,m,s):=if_pos hA
  have bI:(decide (p.2<0)=true)\/(decide (p.2<0)=false/\decide (16<=p.2)=true)\/(decide (p.2<0)=false/\decide (16<=p.2)=false/\(x.am == 0)=true)\/(decide (p.2<0)=false/\decide (16<=p.2)=false/\(x.am == 0)=false/\decide (4611686018427387904<x.am)=true):=by
   simp only[decide_eq_true_eq,decide_eq_false_iff_not,beq_iff_eq,beq_eq_false_iff_ne,ne_eq];omega
  have D:=η1 o;clear o hA
  rcases bI with d1 | ⟨d1,d2⟩ | ⟨d1,d2,d3⟩ | ⟨d1,d2,d3,d4⟩
  all_goals
   go_wp2;go_ret;rw[D.o];exact⟨rfl,z.o,U.o⟩
 have d1:decide (p.2<0)=false:=by simp;omega
 have d2:decide (16<=p.2)=false:=by simp;omega
 have d3:(x.am == 0)=false:=by simp;omega
 have d4:decide (4611686018427387904<x.am)=false:=by simp;omega
 have o:a7H m s p x=(if(a2E m p).isSome then(24,m,s)else if 256<=m.length then(18,m,s)else if(a5b s x.am).2≠0 then((a5b s x.am).2,m,s)else(0,m++[(p,x)],(a5b s x.am).1)):=if_neg hA;have⟨aC,D⟩:=η2 bC o;clear o hA;go_upto_region 5 with fail
 clear d1 d2 d3 d4 qi qa
 cases N:a2E m p with
 |
  some v=>
  have ab:ok=true:=by rw[<-aC.o,N];rfl
  subst ab;have o:=D.o;rw[N]at o;simp only[Option.isSome_some,if_true]at o;have y:=η1 o;clear o;clear N;go_wp2;go_ret;rw[y.o];exact⟨rfl,z.o,U.o⟩
 |
  none=>
  have ab:ok=false:=by rw[<-aC.o,N];rfl
  subst ab;have o:=D.o;rw[N]at o;simp only[Option.isSome_none,QI,if_false]at o;have q0:=z.q0;have hl:=z.mp.len_ (ty:=3) b0v;have⟨n,hn⟩:=η0 m.length;rw[hn]at hl o;have⟨bK,HN⟩:=η2 N hn;clear N hn
  by_cases au:256<=n
  ·have aI:(256:Int)<=(n:Int):=ρo
   rw[if_pos au]at o;have y:=η1 o;clear o;go_wp2;go_ret;rw[y.o];exact⟨rfl,z.o,U.o⟩
  have aI:¬(256:Int)<=(n:Int):=ρo;rw[if_neg au]at o
  generalize bQ:a5b s x.am=ad at o⊢
  obtain⟨a1,a2⟩:=ad;simp only at o⊢
  by_cases ae:a2=0
  ·rw[if_neg (ρw ae)]at o
   subst ae;have y:=η1 o;clear o;have H:Fr (λ_=>False) w4 w4.drew:=(Qp _ _).drew;have⟨Z5,aO⟩:=η0 w4.drew;rw[aO]at H;have J:=z.fr H (λe=>e) (λe=>e);have aP:=a7.fr H (λe=>e);have aK:=bl.fr H (λe=>e);have aW:Z5.cell? ⟨cb,0,none⟩=some (.map (some b))/\Blk Z5 g 189 r/\Blk Z5 (g+1) 206 E:=⟨J.q0,aP,aK⟩;obtain⟨st,Z6,Z7,aT,a9,bb,V,bn,be,aV⟩:=J.mp.entry b0v (a:=p) f x (d2E Z5) bK.o;have bi:=bf.o;have a6:=aY.o;have bz:=HG.o;have an:=J.ne;have aF:Fr (λk=>k=b) Z5 Z7:=V.trans bn (λ_ _ e=>e);have k7:=J.st.fr aF (λe=>an e.symm);have q7:Z7.cell? ⟨cb,1,none⟩=some (.int .u64 s):=k7.cell 1;have z7:=k7.frozen 1;have k8:Blk (Z7.setCell ⟨cb,1,none⟩ (.int .u64 a1)) cb 163 #[.map (some b),.int .u64 a1]:=by simpa using k7.set_ 1 (.int .u64 a1)
   have aE:Fr (λk=>k=cb) Z7 (Z7.setCell ⟨cb,1,none⟩ (.int .u64 a1)):=(Qp (λk=>k=cb) Z7).setCell (p:=⟨cb,1,none⟩) (λ_=>rfl) _
   have aA:a0i (Z7.setCell ⟨cb,1,none⟩ (.int .u64 a1)) cb b (m++[(p,x)]) a1:=⟨k8,bb.fr aE an,λq hq=>by
    rcases Qq.1 hq with h1 | h1
    ·exact bL.o q h1
    rw[Qn.1 h1];exact bJ.o⟩
   have F8:Fr (λk=>k=cb\/k=b) w (Z7.setCell ⟨cb,1,none⟩ (.int .u64 a1)):=((U.trans H (λ_ _ e=>e.elim)).trans aF (λk hk e=>.inr e)).trans aE (λk hk e=>.inl e);have bj:Z6.cell? ⟨cb,0,none⟩=some (.map (some b))/\Blk Z6 g 189 r/\Blk Z6 (g+1) 206 E:=⟨(J.st.fr V (λe=>an e.symm)).cell 0,aP.fr V (show¬_=_ by omega),aK.fr V (show¬_=_ by omega)⟩;have ay:(Instr.mapEntry 161 (.map (some b)) (.agg r)).run prog Z5=.ok (.tuple #[.agg (a1s a3q).toArray,.int .i64 st]) Z6:=by rw[<-bv.o];exact aT
   have a5:(Instr.entryStore 161 (.map (some b)) (.int .i64 st) (.agg E)).run prog Z6=.ok () Z7:=by rw[<-bH.o];exact a9
   have⟨bR,av⟩:=η0 ((a1s a3q).toArray);rw[av]at ay;have⟨a8,bD,bA,bh,bw⟩:=η5 aA F8 aW aO bj;clear aA F8 aW aO bj J aP aK H aT a9 bb V bn be aV an aF k7 k8 aE av bi a6 bz;go_upto_region 11 with fail
   clear hl q0;refine a0s [(0,3),(1,3),(2,3),(5,3),(7,3),(3,0),(4,0),(6,0),(8,1),(9,3),(10,2),(11,3),(12,3),(13,2)] (λW=>W.cell? ⟨cb,0,none⟩=some (.map (some b))/\Blk W g 189 r/\Blk W (g+1) 206 E) ρk ρk ρk ρk (ρy bh.o bA.o) ?_;rw[bh.o];refine ε5 ?_
   iterate 3 refine θ3 (λW' hS=>QU hS.1 (QU (ar.o W' hS.2.1) (a0.o W' hS.2.2))) ?_
   refine κ1 (bw.o) ?_;refine ε1 ?_;refine τ1 ?_;refine ε2 ?_;refine τ1 ?_;refine ν ?_;clear ay a5 z7 q7;go_wp2;go_ret;rw[y.o];exact⟨rfl,a8.o,bD.o⟩
  have bO:(a2 != 0)=true:=ρw ae;rw[if_pos (ρw ae)]at o;have y:=η1 o;clear o ae;go_wp2;go_ret;rw[y.o];exact⟨rfl,z.o,U.o⟩
end
theorem b9x{c:a0y}(h:a5s l=.ok c):c.path.length<=32:=by
 have a:=b1n (a0o 32 (a0C 100 (.ok l)).2).2 (a0o 32 (a0C 100 (.ok l)).2).1;have b:=a0P 32 (a0C 100 (.ok l)).2;have e:a3z l=((a0C 100 (.ok l)).1,(a2w (a0o 32 (a0C 100 (.ok l)).2).1 (a0o 32 (a0C 100 (.ok l)).2).2).1,(a0C 100 (a2w (a0o 32 (a0C 100 (.ok l)).2).1 (a0o 32 (a0C 100 (.ok l)).2).2).2).1,(idT (a0C 100 (a2w (a0o 32 (a0C 100 (.ok l)).2).1 (a0o 32 (a0C 100 (.ok l)).2).2).2).2).1,(idT (a0C 100 (a2w (a0o 32 (a0C 100 (.ok l)).2).1 (a0o 32 (a0C 100 (.ok l)).2).2).2).2).2):=rfl;unfold a5s at h;rw[e]at h
 revert h
 generalize(idT (a0C 100 (a2w (a0o 32 (a0C 100 (.ok l)).2).1 (a0o 32 (a0C 100 (.ok l)).2).2).2).2).2=s5
 cases s5 with
 | error x=>intro h;cases h
 |
  ok r=>
  intro h;simp only at h
  split at h
  ·cases h
  split at h
  ·cases h
  split at h
  ·cases h
  cases h
  exact Qk a b
theorem b4d:∀{L:LL} {cl:List a0y},a1Z L=.ok cl->(∀d∈cl,d.path.length<=32)/\cl.length=L.length
 | [],cl,h=>by cases h;simp
 |
  x::r,cl,h=>by
  unfold a1Z at h
  cases hc:a5s x with
  | error e=>rw[hc]at h;cases h
  |
   ok c=>
   rw[hc]at h;simp only at h
   cases hr:a1Z r with
   | error e=>rw[hr]at h;cases h
   |
    ok M=>
    rw[hr]at h
    cases h
    have ih:=b4d hr;refine⟨λd hd=>?_,by simp[ih.2]⟩
    rcases Qo.1 hd with e | e
    ·rw[e];exact b9x hc
    exact ih.1 d e
theorem b9X{t:TxD}(h:a5N l=.ok t):t.ins.length<=16/\t.outs.length<=16:=by
 unfold a5N at h
 have e:t=(txT l).1:=by
  revert h
  generalize(txT l).2=s
  cases s with
  | error x=>intro h;cases h
  |
   ok r=>
   intro h;simp only at h
   split at h
   ·cases h
   split at h
   ·cases h;rfl
   cases h
 subst e;exact⟨Qk (a9Z _ _) (a0P 16 _),Qk (a8d _ _) (a0P 16 _)⟩
structure d0d(c:c7Z):Prop where
 ins:c.t.ins.length<=16
 outs:c.t.outs.length<=16
 certs:c.certs.length<=16
 path:∀d∈c.certs,d.path.length<=32
 ow:Dig c.ow
 am:0<=c.am/\c.am<=4611686018427387904
 ser:0<=c.ser/\c.ser<=1099511627776
 ep:0<=c.ep/\c.ep<=1099511627776
 id:Dig c.id
 kind:0<=c.kind/\c.kind<=9
theorem Dig.zIdZ:Dig zId:=⟨by simp[zId],λx hx=>by have:=Zf hx;omega⟩
structure d0n(r:b8k):Prop where
 ow:Dig r.ow
 am:r.am<=4611686018427387904
 ser:r.ser<=1099511627776
 ep:r.ep<=1099511627776
 id:Dig r.id
 cs:r.cs.length<=16
theorem c7U{s:St}(a:a9Q s):d0n (a3H k s).1:=by
 have b:d0n a4D:=⟨Dig.zIdZ,by simp[a4D],by simp[a4D],by simp[a4D],Dig.zIdZ,by simp[a4D]⟩;unfold a3H
 split
 ·have b1:=a2c (most:=1099511627776) a
  exact⟨⟨a1R _,(a7z b1).2⟩,a0P _ _,a0P _ _,by simp,Dig.zIdZ,by simp⟩
 split
 ·exact{b with}
 split
 ·exact{b with cs:=Qk (a7j _ _) (a0P 16 _)}
 split
 ·exact{b with ep:=a0P _ _}
 split
 ·exact{b with id:=⟨a1R _,(a7z a).2⟩}
 exact b
theorem b8G(a:∀x∈l,0<=x/\x<=255){c:c7Z}(h:a2o l=.ok c):d0d c:=by
 unfold a2o at h;have d:=a0P 9 (.ok l);have b:=c7U (k:=(a0o 9 (.ok l)).1) (a2c (most:=9) (s:=.ok l) a)
 revert h b d
 generalize o:(a0o 9 (.ok l)).1=k
 generalize m:(a0o 9 (.ok l)).2=s
 generalize j:a3H k s=rs
 obtain⟨r,st⟩:=rs;intro h d b;simp only at h b
 split at h
 ·cases h
 split at h
 ·cases h
 split at h
 ·cases h
 split at h
 ·cases h
 split at h
 ·split at h
  ·cases h
  rename_i t ht
  split at h
  ·cases h
  rename_i M hM
  cases h
  have g:=b9X ht;have f:=b4d hM;exact⟨g.1,g.2,by show M.length<=16;rw[f.2];exact b.cs,f.1,Dig.zIdZ,by simp,by simp,by simp,Dig.zIdZ,by simp only;omega⟩
 cases h
 refine⟨by simp[zTx],by simp[zTx],by simp,by simp,b.ow,?_,?_,?_,b.id,by simp only;omega⟩
 ·have:=b.am;simp only;omega
 ·have:=b.ser;simp only;omega
 have:=b.ep;simp only;omega
theorem b1r.at'{N c:Nat}{L:List a0y}(h:b1r b w (.slice A N c) R L)(a:a0T 39 137 b w (.slice A N c) R):a4g w A L:=λj hj=>by
 obtain⟨B,cap,h1,h2,h3,h4,h5,h6⟩:=h.at_ j hj;obtain⟨A',c',e,hr,-⟩:=a.rd;simp only[Value.slice.injEq]at e;obtain⟨rfl,-,-⟩:=e;have hjR:j<R.length:=by rw[h.len];exact hj
 obtain⟨g,off,m,d,f⟩:=hr j hjR;refine⟨g,off,B,cap,m,d,⟨λk x o=>f k x ?_,h2,h3,h4,h5⟩⟩
 have:R[j]=a0d L[j] B cap:=by
  rw[QN hjR]at h1;exact Option.some.inj h1
 rw[this];exact o
end Go.Proofs.YtpolljfkceanaaaGreatDoor
