/-
  Contracts of functions, plain laws.
-/
import Derived.Test.YtpolljfkceanaaaGreatDoorC04
namespace Go.Proofs.YtpolljfkceanaaaGreatDoor
open Go.RowKit Go.Shelf Go.Maps Go.Proofs.Tryz
set_option maxRecDepth 100000
set_option maxHeartbeats 64000000
variable {zz:AV}{s x:Int}{et ht l seed:LI}{L P T:LL}{R:LW}{I:List InD}{B a b c cap cb d g j k m n p:Nat}{A:OA}{v:VL}{X w:WD}
set_option linter.all false
section
def a4M(w:WD)(g o:Nat)(b:LI):Prop:=g<w.heap.size/\∃A c,w.cell? ⟨g,o,none⟩=some (.slice A b.length c)/\Byt w A b/\(A=none->c=0)
theorem a4M.below{w d:WD}{g o:Nat}{b:LI}(h:a4M w g o b)(a:Below w w d):a4M d g o b:=by
 obtain⟨f,A,c,m,j,r⟩:=h;exact⟨Qh f a.size,A,c,(a.cell (p:=⟨g,o,none⟩) f).trans m,j.below a,r⟩
section
attribute [local go_sem ↓] a2t a2s a2n a6i
theorem b1b(g o c:Nat)(b:LI)(w:WD)(h:a4M w g o b)(d:b.length<=10000000)(a:a2x w):Calls prog 246 #[.slice (some ⟨g,o,none⟩) 1 c] w λe w'=>e=.returned (.agg (bys (a0R b)).toArray)/\Below w w w':=by
 obtain⟨Z,X,I,S⟩:=P8 (t:=31) iId b1N;have y:=Qd w 31 (Z);have r:=ρb w (.cells (Z) 31)
 generalize F:w.alloc (.cells (Z) 31)=W at y r
 have⟨H,m⟩:=ηs w;rw[m]at y;obtain⟨h0,A,cb,R,E,J⟩:=h.below r;have f:=b7d A cb J b W E ρo (a.below r);have⟨D,z⟩:=η0 (a0R b);have v:(bys D).length=32:=by rw[a0a,<-z];exact(Dig.leaf b).1
 rw[z]at f⊢;have⟨n,K⟩:=η0 b.length;rw[K]at f R;have⟨T,G,Q,B,x⟩:=η5 F m r y v;clear F m r y v z K d h E J a;go_in;go_upto_region 1 with fail
 rw[T.o,G.o];go_wp2_with fail;refine μi f ?_;intro Y j;have p:=φf B j;have O:=P9 iId p S (bys D) x.o (a0h _);have q1:=p.row_ (bys D).toArray;have N:=Ql (g:=H) (φt Q j) (ρh G.o) (bys D).toArray;have⟨U,V⟩:=η2 q1 N;clear q1 N j p f;go_wp2;exact bodyPost_ret (a0c rfl _ _ H 31 (bys D) _ rfl U a5g rfl (ρy x.o iId)) rfl ⟨rfl,V.o⟩
theorem b2j(n k:Nat)(f:2<=n)(j:n<=9)(m:1<=k)(p:k<n)(g o c:Nat)(r:n<=c)(x y:LI)(b:Dig x)(d:Dig y)(w:WD)(a:a2x w) (hh:∀X,Calls prog 268 #[.int .i64 n] X λe w'=>e=.returned (.int .i64 k)/\X=w') (c1:∀X,Below w w X->Calls prog 246 #[.slice (some ⟨g,o,none⟩) k c] X λe w'=>e=.returned (.agg (bys x).toArray)/\Below X.heap.size X w') (c2:∀X,Below w w X->Calls prog 246 #[.slice (some ⟨g,o+k,none⟩) (n-k) (c-k)] X λe w'=>e=.returned (.agg (bys y).toArray)/\Below X.heap.size X w'):Calls prog 246 #[.slice (some ⟨g,o,none⟩) n c] w λe w'=>e=.returned (.agg (bys (a1n x y)).toArray)/\Below w w w':=by
 obtain⟨Z,ah,af,hz⟩:=P8 (t:=31) iId b1N;have b0:=Qd w 31 (Z);have B0:=ρb w (.cells (Z) 31)
 generalize hW:w.alloc (.cells (Z) 31)=W at b0 B0
 have⟨g0,I⟩:=ηs w;rw[I]at b0;have v:=λX (hX:Below w w X)=>b3b x y b d X (a.below hX)
 have⟨D,hD⟩:=η0 (a1n x y);have U:(bys D).length=32:=by rw[a0a,<-hD];exact(Dig.node x y).1
 simp only[hD]at v;rw[hD];have n0:((n:Int) == 0)=false:=by rw[beq_eq_false_iff_ne];omega
 have n1:((n:Int) == 1)=false:=by rw[beq_eq_false_iff_ne];omega
 have kc:(k:Int)<=(c:Int):=ρo;have kn:(k:Int)<=(n:Int):=ρo;have k0:(0:Int)<=(k:Int):=ρo;have ck:¬c=k:=ρo;have S:=hh W;have Q:=c1 W.drew B0.drew;have⟨HW,HG,HB,T,Y,ae,H⟩:=η7 hW I B0 b0 U c2 v;clear hW I B0 b0 U c2 v hD b d hh c1 a;go_in;go_upto_region 1 with fail
 rw[HW.o,HG.o];go_wp2_with fail;refine μf S ?_;clear S;go_upto_region 7 with fail
 refine a0s [(0,3),(1,3),(2,3),(4,3),(5,3),(6,3),(3,2),(7,2),(8,2),(9,2)] (λ_=>True) ρk ρk ρk ρk trivial ?_;refine ε6 ?_;refine τ ?_;intro K F;refine μi Q ?_;intro w3 aa;have B:Below W W w3:=(Qf _ W).drew.trans aa;have E:=φt HB B;have ab:=ae.o w3 E;have ac:=η1 B;clear B E aa Q;with_reducible refine F _ _ ?_;clear F K
 refine τ ?_;intro K F;refine μi ab ?_;intro w7 R;have z:=φt ac R;have V:=H.o w7 (φt HB z);have ad:=η1 z;clear z R ab;with_reducible refine F _ _ ?_;clear F K
 refine τ ?_;intro K F;refine μi V ?_;intro w8 N;have G:=φt ad N;have O:=η1 G;clear G N V;with_reducible refine F _ _ ?_;clear F K
 have J:=T.fr (Q9 O) (ρh T.o.lt);have ag:=P9 iId J hz (bys D) Y.o (a0h _);have q1:=J.row_ (bys D).toArray;have q2:=Ql (g:=g0) (HB.trans (O.mono HB.size)) (ρh HG.o) (bys D).toArray;have⟨Q1,Q2⟩:=η2 q1 q2;clear q1 q2 J;refine τ1 ?_;refine ν ?_;go_wp2;exact bodyPost_ret (a0c rfl _ _ g0 31 (bys D) _ rfl Q1 a5g rfl (ρy Y.o iId)) rfl ⟨rfl,Q2.o⟩
theorem c7M(g o c:Nat)(d:2<=c)(b1 b:LI)(w:WD)(f:a4M w g o b1)(j:a4M w g (o+1) b)(m:b1.length<=10000000)(l2:b.length<=10000000)(a:a2x w):Calls prog 246 #[.slice (some ⟨g,o,none⟩) 2 c] w λe w'=>e=.returned (.agg (bys (a1n (a0R b1) (a0R b))).toArray)/\Below w w w':=
 b2j 2 1 ρo ρo ρo ρo g o c d _ _ (Dig.leaf b1) (Dig.leaf b) w a (λX=>b3C X) (λX hX=>b1b g o c b1 X (f.below hX) m (a.below hX)) (λX hX=>b1b g (o+1) (c-1) b X (j.below hX) l2 (a.below hX))
theorem c9l(g o c:Nat)(d:3<=c)(b1 b b3:LI)(w:WD)(f:a4M w g o b1)(j:a4M w g (o+1) b)(m:a4M w g (o+2) b3)(p:b1.length<=10000000)(l2:b.length<=10000000)(r:b3.length<=10000000)(a:a2x w):Calls prog 246 #[.slice (some ⟨g,o,none⟩) 3 c] w λe w'=>e=.returned (.agg (bys (a1n (a1n (a0R b1) (a0R b)) (a0R b3))).toArray)/\Below w w w':=
 b2j 3 2 ρo ρo ρo ρo g o c d _ _ (Dig.node _ _) (Dig.leaf b3) w a (λX=>b3L X) (λX hX=>c7M g o c ρo b1 b X (f.below hX) (j.below hX) p l2 (a.below hX)) (λX hX=>b1b g (o+2) (c-2) b3 X (m.below hX) r (a.below hX))
theorem c9i(A:OA)(c:Nat)(w:WD):Calls prog 248 #[.slice A 1 c,.int .i64 0] w λe w'=>e=.returned (.slice none 0 0)/\w=w':=by
 go_in;go_wp2;go_ret;exact⟨rfl,rfl⟩
attribute [local go_sem ↓] a9S a9T
theorem c7l(g o c:Nat)(f:2<=c)(b1:LI)(w:WD)(b:a4M w g o b1)(d:b1.length<=10000000)(a:a2x w):Calls prog 248 #[.slice (some ⟨g,o,none⟩) 2 c,.int .i64 1] w λe w'=>∃v,e=.returned v/\b6x w w' v [a0R b1]/\Below w w w':=by
 have y:=b3C w;have G:=c9i (some ⟨g,o+1,none⟩) (c-1) w.drew;have E:=b1b g o c b1 w.drew (b.below (Qf _ _).drew) d (a.below (Qf _ _).drew);have Y:(1:Int)<=(c:Int):=ρo;have W:¬c=1:=ρo;have B:Dig (a0R b1):=Dig.leaf b1;have R:IntKind.i64.wrap 0=0:=rfl
 generalize F:a0R b1=D at E B⊢
 have U:=λX=>Pd c5Q c1e ρo ρo X (.agg (bys D).toArray) (by simp[Value.cells,a0a,B.1])
 have S:=η1 B;clear B F b d;go_in;go_wp2_with fail;refine μf y ?_;clear y;go_upto_region 6 with fail
 refine a0s [(0,3),(1,3),(2,3),(3,3),(4,3),(5,3),(7,3),(8,3),(9,3),(6,2),(10,2),(11,2),(12,2),(13,3)] (λ_=>True) ρk ρk ρk ρk trivial ?_;refine ε7 ?_;refine ε2 ?_;refine τ ?_;intro K x;refine μf G ?_;clear G;with_reducible refine x _ _ ?_;clear x K
 refine τ ?_;intro K x;refine μi E ?_;intro z p;have j:Below w w z:=(Qf _ w).drew.trans p;have H:b6x w z (.slice none 0 0) []:=a0T.nil _ _ _ _;obtain⟨V,Q,T,I,N,m,r,_⟩:=d2n (ty:=35) H S.o ρp j.size;obtain rfl:Q=1:=by have:=m.lenN;simpa using this
 have⟨O,J⟩:=η2 m (j.trans r);clear m p j H E r;with_reducible refine x _ _ ?_;clear x K
 refine τ1 ?_;refine τ1 ?_;refine ε1 ?_;refine ν ?_;go_wp2;go_ret;exact⟨_,rfl,O.o,J.o⟩
theorem c7y(g o c:Nat)(m:3<=c)(b1 b3:LI)(w:WD)(b:a4M w g o b1)(d:a4M w g (o+2) b3)(f:b1.length<=10000000)(j:b3.length<=10000000)(a:a2x w):Calls prog 248 #[.slice (some ⟨g,o,none⟩) 3 c,.int .i64 1] w λe w'=>∃v,e=.returned v/\b6x w w' v [a0R b1,a0R b3]/\Below w w w':=by
 have I:=b3L w;have V:=c7l g o c ρo b1 w.drew (b.below (Qf _ _).drew) f (a.below (Qf _ _).drew);have Q:=λX (U:Below w w X)=>b1b g (o+2) (c-2) b3 X (d.below U) j (a.below U)
 have kc:(2:Int)<=(c:Int):=ρo;have ck:¬c=2:=ρo;have N:Dig (a0R b3):=Dig.leaf b3;have⟨D,E⟩:=η0 (a0R b3);simp only[E]at Q;rw[E]at N⊢;have bs:=λX=>Pd c5Q c1e ρo ρo X (.agg (bys D).toArray) (by simp[Value.cells,a0a,N.1])
 have⟨HD,HR⟩:=η2 N Q;clear N Q E b f d j;go_in;go_wp2_with fail;refine μf I ?_;clear I;go_upto_region 5 with fail
 refine a0s [(0,3),(1,3),(2,3),(3,3),(5,3),(6,3),(7,3),(4,2),(8,2),(9,2),(10,2),(11,3)] (λ_=>True) ρk ρk ρk ρk trivial ?_;refine ε7 ?_;refine τ ?_;intro K G;refine μ1 V ?_;rintro e T ⟨v4,rfl,B,H⟩;obtain⟨A4,N4,c4,rfl,J⟩:=B.formN;obtain rfl:N4=1:=ρw J;have y:Below w w T:=(Qf _ w).drew.trans H;have F:=HR.o T y;have⟨R,S⟩:=η2 B y;clear B y H V J;with_reducible refine G _ _ ?_;clear G K
 refine τ ?_;intro K G;refine μi F ?_;intro O r;have p:=φt S r;have W:b6x w O (.slice A4 1 c4) [a0R b1]:=a0T.keep R r;obtain⟨A',N',c',Y,aa,x,z,_⟩:=d2n (ty:=35) W HD.o ρp p.size;obtain rfl:N'=2:=by have:=x.lenN;simpa using this
 have⟨HO,Z⟩:=η2 x (p.trans z);clear x r p W F z;with_reducible refine G _ _ ?_;clear G K
 refine τ1 ?_;refine τ1 ?_;refine ε1 ?_;refine ν ?_;go_wp2;go_ret;exact⟨_,rfl,HO.o,Z.o⟩
end
end
section
section
attribute [local go_sem ↓] a2t a2s a2n a6i
theorem b8y(root:LI)(a:Dig root)(j:OA)(o:Nat)(d:j=none->o=0)(e:LI)(r:e.length<=400000000)(L:LL)(v:∀x∈L,Dig x)(A:OA)(c:Nat)(y:L.length<=c)(z:L.length<=1000000)(w:WD)(B:Byt w j e)(E:RdR 32 w A (L.map bys))(f:a2x w):Calls prog 271 #[.agg (bys root).toArray,.slice j e.length o,.int .i64 1,.int .i64 3,.slice A L.length c] w λx w'=>x=.returned (.bool (decide (L.length=2)&&decide (a1n (a1n (L.getD 0 []) (a0R e)) (L.getD 1 [])=root)))/\Below w w w':=by
 obtain⟨Z,ah,I,hz⟩:=P8 (t:=31) iId b1N;have T:=Qd w 31 ((bys root).toArray);have S:=ρb w (.cells ((bys root).toArray) 31)
 generalize hW:w.alloc (.cells ((bys root).toArray) 31)=W at T S
 have⟨g,hg⟩:=ηs w;rw[hg]at T;rw[<-c2v];have H:=c2d j o d e r L v A c y z W (B.below S) (E.below S) (f.below S);have J:=Dig.climb e L;obtain⟨⟨D,R⟩,U⟩:∃p,a6t e L=p:=⟨_,rfl⟩;rw[U]at H J⊢;simp only at H J⊢;have⟨n,hn⟩:=η0 e.length;have⟨m,V⟩:=η0 L.length;rw[hn,V]at H⊢;have N:(bys D).length=32:=by rw[a0a,J.1]
 have K:(bys root).length=32:=by rw[a0a,a.1]
 have F:=λX=>a8i D root J a X
 generalize hb:decide (D=root)=b at F⊢
 generalize aa:bys root=xs at hW T F K⊢
 cases R with
 |
  true=>
  rw[Y5];have⟨HW,HG,HB,ac,O,ab,HS⟩:=η7 hW hg S T N K F;clear hW hg S T N K F J U hn V y z r B E f v d aa hb a;go_in;go_upto_region 1 with fail
  rw[HW.o,HG.o];go_wp2_with fail;refine μi H ?_;intro w2 G;have q1:=(Qd w2 31 (bys D).toArray);have q0:=(φf ac G).alloc (.cells (bys D).toArray 31);have Y:=(φt HB G).alloc (φt HB G).size (.cells (bys D).toArray 31);have Q:=I w2 (bys D) O.o (a0h _)
  generalize hX:w2.alloc (.cells (bys D).toArray 31)=X at q1 q0 Y Q
  have ag:=P4 a2i iId (bys D) q1 O;have af:=P4 a2i iId xs q0 ab;have hs:=HS.o X;have Q2:=η1 Y;clear Y G q1 q0 hX H I HS;go_wp2_with fail;refine μi hs ?_;intro w3 ad;have ae:=η1 ad;clear ad hs;go_wp2;go_ret;exact⟨rfl,Q2.trans (ae.mono Q2.size)⟩
 |
  false=>
  rw[Bool.false_and];have⟨HW,HG,HB,ac,O,ab⟩:=η6 hW hg S T N K;clear hW hg S T N K F J U hn V y z r B E f v d aa hb a;go_in;go_upto_region 1 with fail
  rw[HW.o,HG.o];go_wp2_with fail;refine μi H ?_;intro w2 G;have Y:=(φt HB G).alloc (φt HB G).size (.cells (bys D).toArray 31);have Q:=I w2 (bys D) O.o (a0h _);have Q2:=η1 Y;clear Y G H I;go_wp2;go_ret;exact⟨rfl,Q2.o⟩
end
theorem a3Q(c:a0y)(A:OA)(cap:Nat):a0d c A cap=a0x c.e++(.slice A c.path.length cap::(a0b c.h++bys c.tag)):=by
 unfold a0d;simp[QC]
theorem a7E{c:a0y}(h:c.Bd)(A:OA)(cap:Nat):((a0d c A cap).drop 0).take 37=a0x c.e:=by
 have:=a0u h.e
 rw[Zs,a3Q,QJ ρo,Qb ρo]
theorem a7o{c:a0y}(h:c.Bd)(A:OA)(cap k:Nat):(a0d c A cap).drop (38+k)=(a0b c.h++bys c.tag).drop k:=by
 have:=a0u h.e
 rw[a3Q,QR,QQ ρo,QF,this,show 38+k-37=k+1 by omega,ZQ]
theorem a6M{c:a0y}(h:c.Bd)(A:OA)(cap:Nat):((a0d c A cap).drop 38).take 67=a0b c.h:=by
 have:=a0f h.h
 rw[show 38=38+0 from rfl,a7o h,Zs,QJ ρo,Qb ρo]
theorem a6K{c:a0y}(h:c.Bd)(A:OA)(cap:Nat):((a0d c A cap).drop 105).take 32=bys c.tag:=by
 have:=a0f h.h
 have a:(bys c.tag).length=32:=by rw[a0a,h.tag.1]
 rw[show 105=38+67 from rfl,a7o h,QR,QQ ρo,QF,this,Nat.sub_self,Zs,Qb ρo]
theorem b2r{c:a0y}(h:c.Bd)(A:OA)(cap:Nat):((a0d c A cap).drop 73).take 32=bys c.h.root:=by
 have d:=a0f h.h;have a:(bys c.h.prev).length=32:=by rw[a0a,h.h.prev.1]
 have b:(bys c.h.root).length=32:=by rw[a0a,h.h.root.1]
 rw[show 73=38+35 from rfl,a7o h,Zw ρo]
 have e:(a0b c.h).drop 35=bys c.h.root:=by
  unfold a0b;rw[QR,QQ (by simp[a]),QF];simp[a]
 rw[e,QJ ρo,Qb ρo]
theorem c4x{c:a0y}(h:c.Bd)(A:OA)(cap:Nat):((a0d c A cap).drop 2).take 32=bys c.e.tx:=by
 have a:(bys c.e.tx).length=32:=by rw[a0a,h.e.tx.1]
 unfold a0d a0x;simp only[QC,QG,QF,ZQ,Zs];rw[QJ ρo,Qb ρo]
theorem a9l{c:a0y}(h:c.Bd)(A:OA)(cap:Nat):(a0d c A cap).toArray[0]? =some (.int .i64 c.e.kind)/\(a0d c A cap).toArray[1]? =some (.int .i64 c.e.sh)/\(a0d c A cap).toArray[34]? =some (.int .u64 c.e.am)/\(a0d c A cap).toArray[36]? =some (.int .i64 c.e.ep)/\(a0d c A cap).toArray[37]? =some (.slice A c.path.length cap)/\(a0d c A cap).toArray[38]? =some (.int .i64 c.h.sh)/\(a0d c A cap).toArray[40]? =some (.int .i64 c.h.ep):=by
 have a:(bys c.e.tx).length=32:=by rw[a0a,h.e.tx.1]
 unfold a0d a0x a0b;refine⟨rfl,rfl,?_,?_,?_,?_,?_⟩<;>simp[List.getElem?_append,a]
end
section
theorem c0T(n:Nat)(x:Int):a2w n (.error x)=([],.error x):=by simpa using a4L (a4x (.error x)) n
theorem b3T{s:St}(h:StE s):∀j,StE (a2w j s).2
 | 0=>by rw[a4x];exact h
 |
  j+1=>by
  have ih:=b3T h j
  cases hj:a2w j s with
  |
   mk L t=>
   rw[hj]at ih
   cases t with
   | error x=>rw[a4L hj 1];exact ih
   | ok l=>rw[a8l hj];exact a5W trivial
theorem a0N.sl(h:a0N B w v l):∃A N c,v=.slice A N c:=by
 obtain⟨A,c,e⟩:=h.form;exact⟨A,_,c,e⟩
def a2y(l:LI):St:=(a3z l).2.2.2.2
theorem a6N{b d f a:St}(g:a0C 100 (.ok l)=(et,b))(j:a0o 32 b=(n,d))(m:a2w n d=(P,f))(o:a0C 100 f=(ht,a)):a3z l=(et,P,ht,(idT a).1,(idT a).2):=
 c3R (by rw[g]) (by rw[g]) j m o
theorem b6B(a:a0C 100 (.ok l)=(et,.error x)):a2y l=.error x:=by
 unfold a2y;rw[a6N a (a3t _ _) (c0T _ _) (a9d _ _),c1M]
theorem b5Q{a:St}(b:a0C 100 (.ok l)=(et,a))(d:a0o 32 a=(n,.error x)):a2y l=.error x:=by
 unfold a2y;rw[a6N b d (c0T _ _) (a9d _ _),c1M]
theorem b6h{a b:St}(d:a0C 100 (.ok l)=(et,a))(f:a0o 32 a=(n,b))(g:a2w n b=(P,.error x)):a2y l=.error x:=by
 unfold a2y;rw[a6N d f g (a9d _ _),c1M]
theorem b6r{a b d:St}(f:a0C 100 (.ok l)=(et,a))(g:a0o 32 a=(n,b))(j:a2w n b=(P,d))(m:a0C 100 d=(ht,.error x)):a2y l=.error x:=by
 unfold a2y;rw[a6N f g j m,c1M]
theorem b8M(l:LI):StE (a2y l):=a5W (a5A (b3T (a1L (a5A (s:=.ok l) trivial)) _))
structure c1J(p s eb cb hb:Nat)(w w':WD)(et ht:LI)(c:a0y)(A:OA)(cap:Nat)(l:LI)(hv:Bool):Prop where
 cert:Blk w' cb 39 (a0d c A cap).toArray
 own:a0T 31 32 w.heap.size w' (.slice A c.path.length cap) (c.path.map bys)
 eye:a0S w' p s l
 et:∃v,Blk w' eb 22 #[v]/\a0N w w' v et
 ht:∃v,Blk w' hb 22 #[v]/\(hv=true->a0N w w' v ht)/\(hv=false->v=.slice none 0 0)
 fr:Fr (λk=>(k=eb\/k=cb\/k=hb)\/k=p) w w'
 bd:c.Bd
theorem c1J.step{s f:Nat}{g b:WD}{c:a0y}{j:LI}{m:Bool}(h:c1J p s d cb f w g et ht c A cap l m)(a:Fr (λk=>k=p) g b)(o:a0S b p s j)(r:p<w.heap.size):c1J p s d cb f w b et ht c A cap j m:=by
 obtain⟨v,B,x⟩:=h.et;obtain⟨u,z,D,E⟩:=h.ht
 refine⟨h.cert.fr a (λe=>h.eye.far h.cert ρd e.symm),h.own.fr a (λk y e=>by have:=(h.own.lt y).1;omega),o,⟨v,B.fr a (λe=>h.eye.far B ρd e.symm),x.fr a (λk y e=>by have:=(x.lt y).1;omega)⟩,
  ⟨u,z.fr a (λe=>h.eye.far z ρd e.symm),λe=>(D e).fr a (λk y F=>by have:=((D e).lt y).1;omega),E⟩,h.fr.trans a (λ_ _ e=>.inr e),h.bd⟩
theorem c1J.keep{s:Nat}{f g:WD}{c:a0y}{j:Bool}(h:c1J p s b cb d w f et ht c A cap l j)(a:Fr (λ_=>False) f g):c1J p s b cb d w g et ht c A cap l j:=by
 obtain⟨v,r,m⟩:=h.et;obtain⟨u,o,y,x⟩:=h.ht;exact⟨h.cert.fr a id,h.own.fr a (λ_ _=>id),h.eye.fr a id id,⟨v,r.fr a id,m.fr a (λ_ _=>id)⟩,⟨u,o.fr a id,λe=>(y e).fr a (λ_ _=>id),x⟩,h.fr.trans a (λ_ _ e=>e.elim),h.bd⟩
def d1y(eb cb hb:Nat)(l:LI)(w w':WD):Prop:=
 ∀
  r,a2y l=.ok r->∃A cap ve vh,Blk w' cb 39 (a0d {a0r with path:=(a3z l).2.1,tag:=(a3z l).2.2.2.1} A cap).toArray/\a0T 31 32 w.heap.size w' (.slice A (a3z l).2.1.length cap) ((a3z l).2.1.map bys)/\
  Blk w' eb 22 #[ve]/\a0N w w' ve (a3z l).1/\Blk w' hb 22 #[vh]/\a0N w w' vh (a3z l).2.2.1
theorem a3X{c:a0y}(a:c.Bd)(A:OA)(cap:Nat):(a0d c A cap).toArray[37]? =some (.slice A c.path.length cap):=by
 have b:=a0u a.e;unfold a0d;simp only[QE];rw[QC,QC,QL ρo,b]
 simp
attribute [local go_sem ↓] a1D a3u a3h a2t a2s a2n a9S a9T
theorem b9e(p s a cb b:Nat)(l:LI)(B:l.length<=400000000)(w:WD)(h:a0S w p s l)(m:p<w.heap.size)(D:s<w.heap.size)(y:s≠a)(f:s≠cb)(z:s≠b)(g:a≠b) (hce:Blk w a 22 #[.slice none 0 0]) (hcc:Blk w cb 39 (a0d a0r none 0).toArray) (hch:Blk w b 22 #[.slice none 0 0]):Calls prog 137 #[.pointer p,.pointer a,.pointer cb,.pointer b] w λe w'=>a6D p s (a2y l) e w'/\Fr (λk=>(k=a\/k=cb\/k=b)\/k=p) w w'/\d1y a cb b l w w':=by
 have aB:p≠a:=h.far hce ρd;have aO:p≠cb:=h.far hcc ρd;have be:p≠b:=h.far hch ρd;have aL:a≠cb:=hce.ne_ hcc ρd;have aT:b≠cb:=hch.ne_ hcc ρd;have bE:=hce.lt;have bF:=hcc.lt;have bA:=hch.lt;have Q:=b1P p s l 100 ρo B w h;obtain⟨et,s1,h1⟩:∃v st,a0C 100 (.ok l)=(v,st):=⟨_,_,rfl⟩;have af:=a3c (most:=100) (st:=.ok l) (n:=400000000) B;have az:=(a4u (most:=100) (s:=.ok l) (by obtain⟨A,c,Y,_⟩:=h;exact Y.by_.bd));rw[h1]at Q af az;rw[show((100:Nat):Int)=100 from rfl]at Q;simp only at af az;have⟨aJ,bs,bn,H1,bb,br⟩:=η6 hce hcc hch h1 af az;clear hce hcc hch h1 af az h;go_in;go_wp2_with fail;refine μ1 Q ?_;rintro e w1 ⟨Y,f1⟩
 have aj:∀(x:Int) (w':WD),a2y l=.error x->Fr (λk=>(k=a\/k=cb\/k=b)\/k=p) w w'->a6D p s (a2y l) (.panicked [{v:=a1T x,recovered:=false}]) w'/\Fr (λk=>(k=a\/k=cb\/k=b)\/k=p) w w'/\d1y a cb b l w w':=λx w' hx hf=>by
  rw[hx];exact⟨rfl,hf,λr hr=>by rw[hx]at hr;cases hr⟩
 cases s1 with
 |
  error x=>
  obtain rfl:=Y;exact⟨rfl,aj x _ (b6B H1.o) (f1.mono (λ_ _ e=>.inr e))⟩
 |
  ok l1=>
  obtain⟨⟨v1,rfl,aA⟩,aZ⟩:=Y;obtain⟨A1,N1,c1,rfl⟩:=aA.sl;have q1:=(aJ.fr f1 (λe=>aB e.symm)).cell 0;have z1:=(aJ.fr f1 (λe=>aB e.symm)).frozen 0;have bl:w1.cell? ⟨a,0,none⟩=some (.slice none 0 0):=q1;have k1:Blk (w1.setCell ⟨a,0,none⟩ (.slice A1 N1 c1)) a 22 #[.slice A1 N1 c1]:=by simpa using(aJ.fr f1 (λe=>aB e.symm)).set_ 0 (.slice A1 N1 c1)
  have E:Fr (λk=>k=a) w1 (w1.setCell ⟨a,0,none⟩ (.slice A1 N1 c1)):=(Qp (λk=>k=a) w1).setCell (p:=⟨a,0,none⟩) (λ_=>rfl) _
  have hC:c1J p s a cb b w (w1.setCell ⟨a,0,none⟩ (.slice A1 N1 c1)) et [] a0r none 0 l1 false:=⟨(bs.fr f1 (λe=>aO e.symm)).fr E (λe=>aL e.symm),a0T.nil _ _ _ _,aZ.fr E (show¬_=_ from aB) (show¬_=_ from y),
   ⟨_,k1,aA.fr E (λk I e=>by have:=(aA.lt I).1;omega)⟩,⟨_,(bn.fr f1 (λe=>be e.symm)).fr E (λe=>g e.symm),by simp,λ_=>rfl⟩,
   (f1.mono (G:=λk=>(k=a\/k=cb\/k=b)\/k=p) (λ_ _ e=>.inr e)).trans E (λk I e=>.inl (.inl e)),a0B⟩
  generalize aX:w1.setCell ⟨a,0,none⟩ (.slice A1 N1 c1)=w2 at hC
  have al:=a5w p s l1 32 ρo (by have:l1.length<=400000000:=bb.o;omega) w2 hC.eye;obtain⟨n,s2,h2⟩:∃v st,a0o 32 (.ok l1)=(v,st):=⟨_,_,rfl⟩;have aE:=a0P 32 (.ok l1);have au:=a1b (most:=32) (st:=.ok l1) (n:=400000000) bb.o;have ax:=a2c (most:=32) br.1;rw[h2]at al aE au ax;rw[show((32:Nat):Int)=32 from rfl]at al;simp only at al aE au ax;have⟨HC,bj,H2,a4,bi,ad⟩:=η6 hC aX h2 au ax aj;clear hC aX h2 au ax aj q1 k1 E aA aZ f1 Q;go_upto_region 1 with fail
  rw[bj.o];clear bl z1;go_wp2_with fail;refine μ1 al ?_;rintro e w3 ⟨Y,f3⟩
  cases s2 with
  |
   error x=>
   obtain rfl:=Y;exact⟨rfl,ad.o x _ (b5Q H1.o H2.o) (HC.fr.trans f3 (λ_ _ e=>.inr e))⟩
  |
   ok l2=>
   obtain⟨rfl,a3⟩:=Y;have bf:=HC.step f3 a3 m;have bp:=η1 bf;clear bf a3 f3 al;go_upto_region 2 with fail
   go_loopg [9] n (λkk c wr=>∃(j:Nat) (P:LL) (A:OA) (cap:Nat) (lj:LI),j+kk=n/\c=.int .u64 j/\a2w j (.ok l2)=(P,.ok lj)/\c1J p s a cb b w wr et [] {a0r with path:=P} A cap lj false);exact⟨0,[],none,0,l2,by omega,rfl,a4x _,bp.o⟩;obtain⟨j,P,A,cap,lj,hj,rfl,F,an⟩:=hrel
   by_cases bm:j<n
   ·have bh:(j:Int)<n:=ρo
    have R:=a8l F;have ao:=b1n (.ok l2) j;have N:=a8V a4 j;rw[F]at ao N;simp only at ao N;obtain⟨X,hX⟩:∃X,X=wr.drew:=⟨_,rfl⟩;have Z:c1J p s a cb b w X et [] {a0r with path:=P} A cap lj false:=by rw[hX];exact an.keep (Qp _ _).drew
    have a2:X.cell? ⟨cb,37,none⟩=some (.slice A P.length cap):=(Z.cert.cell 37).trans (a3X Z.bd _ _);have hid:=c4T p s lj (by have:lj.length<=400000000:=N;omega) X Z.eye (ρh Z.fr.size) (ρh Z.fr.size);obtain⟨d,sj,a5⟩:∃v st,idT (.ok lj)=(v,st):=⟨_,_,rfl⟩;have S:=a1R (.ok lj);rw[a5]at hid S R;simp only at hid S R;have⟨aW,HX,ab,bv,bC,aa,bk,aK⟩:=η8 Z hX R ao N F a2 S;clear Z hX R ao N F a2 S an a5;go_upto_region 3 with fail
    refine a3Y [(0,3),(2,3),(1,0),(3,1),(4,1),(5,2),(6,3),(7,2)] (λW=>W.cell? ⟨cb,37,none⟩=some (.slice A P.length cap)) ρk ρk ρk ρk (ρz HX.o bk.o) ?_;rw[<-HX.o];refine ε2 ?_
    (with_reducible refine a0t (o:=?_) (v:=?_) (a':=?_) ρu ρu (λW' hS=>?_) ?_ ?_;rotate_left 2;(focus(skip;exact ρs));focus(exact ρs))
    refine κ ?_;intro K hK;refine μ1 hid ?_;rintro e w4 ⟨Y,f4⟩
    cases sj with
    |
     error x=>
     obtain rfl:=Y;have aY:=a4L ab (n-(j+1));rw[show j+1+(n-(j+1))=n by omega]at aY;exact λa' bt=>⟨bt,ad.o x _ (b6h H1.o H2.o aY) (aW.fr.trans f4 (λ_ _ e=>.inr e))⟩
    |
     ok a1=>
     obtain⟨rfl,aN⟩:=Y;have H:=aW.step f4 aN m
     have a9:Dig d:=⟨aK.o,by
      have h5:=(a9X (s:=.ok l2) bi.o (j+1)).1;rw[ab.o]at h5;exact(h5 d ρp).2⟩
     have av:a0T 31 32 w.heap.size w4 (.slice A P.length cap) (P.map bys):=H.own;have bc:w.heap.size<=w4.heap.size:=H.fr.size;have aU:=Pd c5Q c1e ρo ρo w4 (.agg (bys d).toArray) (by simp[Value.cells,a0a,aK.o]);simp only[Value.cells]at aU;obtain⟨v6,x6,a8,aC,ac,-⟩:=a5o (P:=prog) (ty:=35) c5Q d2s ρo ρo av (bys d) (ρy a0a aK.o) (a0h _) (by have:=bv.o;rw[Qw];omega) bc;obtain⟨A6,N6,c6,rfl,a7⟩:=aC.formN;have a6:N6=(P++[d]).length:=by rw[a7];simp
     subst a6;have J:=λk I=>(av.lt (k:=k) I).1
     have bz:w4.cell? ⟨cb,37,none⟩=some (.slice A P.length cap):=(H.cert.cell 37).trans (a3X H.bd _ _);have aF:(w4.alloc (.cells (bys d).toArray 31)).cell? ⟨cb,37,none⟩=some (.slice A P.length cap):=((H.cert.alloc _).cell 37).trans (a3X H.bd _ _);have ar:=H.cert.fr ac (λe=>by have:=J _ e;omega);have q6:x6.cell? ⟨cb,37,none⟩=some (.slice A P.length cap):=(ar.cell 37).trans (a3X H.bd _ _);have z6:=ar.frozen 37;have k7:=ar.set_ 37 (.slice A6 (P++[d]).length c6);rw[b2C _ H.bd]at k7;have E:Fr (λk=>k=cb) x6 (x6.setCell ⟨cb,37,none⟩ (.slice A6 (P++[d]).length c6)):=(Qp (λk=>k=cb) x6).setCell (p:=⟨cb,37,none⟩) (λ_=>rfl) _
     have aM:c1J p s a cb b w (x6.setCell ⟨cb,37,none⟩ (.slice A6 (P++[d]).length c6)) et [] {a0r with path:=P++[d]} A6 c6 a1 false:=by
      obtain⟨ve,ah,T⟩:=H.et;obtain⟨u,V,ag,ay⟩:=H.ht;obtain rfl:=ay rfl
      have bo:ve.ownBlock=none\/∀k,ve.ownBlock=some k->¬(Value.slice A P.length cap).ownBlock=some k:=.inr (λk I e=>by
       obtain⟨c1,af,_⟩:=a2B T I;exact a4l av.own af ρd e)
      refine⟨k7,?_,(aN.fr ac (λe=>by have:=J _ e;omega) (λe=>by have:=J _ e;omega)).fr E (show¬_=_ from aO) (show¬_=_ from f),⟨ve,(ah.fr ac (λe=>by have:=J _ e;omega)).fr E (show¬_=_ from aL),?_⟩,
       ⟨_
        ,(V.fr ac (λe=>by have:=J _ e;omega)).fr E (show¬_=_ from aT),by simp,λ_=>rfl⟩,(H.fr.trans ac (λk I e=>by have:=J _ e;omega)).trans E (λk I e=>.inl (.inr (.inl e))),⟨a3T,λx hx=>by
        rcases Qq.1 hx with h5 | h5
        ·exact H.bd.path x h5
        rw[Qn.1 h5];exact a9,a1A,ZZ⟩⟩
      ·rw[QV]
       exact aC.fr E (λk I e=>by have:=(aC.lt I).1;omega)
      refine(T.fr ac (λk I e=>?_)).fr E (λk I e=>by have:=(T.lt I).1;omega)
      rcases bo with h5 | h5
      ·rw[h5]at I;cases I
      exact h5 k I e
     generalize aQ:(bys d).toArray=tv at aU a8 aF⊢
     have⟨N7,aP⟩:=η0 ((P++[d]).length);rw[aP]at a8 aM;have⟨bu,bB,bD⟩:=η3 aM H aP;clear aM H aP av aC ac a7 J ar k7 E aN f4 aQ hid;with_reducible refine hK _ _ (bz) ?_;clear hK K
     refine κ1 (aF) ?_;refine τ1 ?_;refine ε1 ?_;refine τ1 ?_;with_reducible refine a1N ?_
     rw[a0V];go_wp2;go_roundg (n-(j+1));exact⟨j+1,P++[d],A6,c6,a1,by omega,by go_num,ab.o,bu.o⟩;omega
   have bh:¬(j:Int)<n:=ρo;obtain rfl:j=n:=ρo;obtain⟨wo,bx⟩:∃wo,wo=wr:=⟨_,rfl⟩;subst bx;have N:=a8V a4 j;rw[F]at N;simp only at N;have Q:=b1P p s lj 100 ρo N wo an.eye;obtain⟨ht,s4,h4⟩:∃v st,a0C 100 (.ok lj)=(v,st):=⟨_,_,rfl⟩;have aD:=a3c (most:=100) (st:=.ok lj) (n:=400000000) N;rw[h4]at Q aD;rw[show((100:Nat):Int)=100 from rfl]at Q;simp only at aD;have⟨aG,aa,H4,bw⟩:=η4 an F h4 aD;clear an F h4 aD bm;go_wp2_with fail;refine μ1 Q ?_;rintro e w5 ⟨Y,f5⟩
   cases s4 with
   |
    error x=>
    obtain rfl:=Y;exact⟨rfl,ad.o x _ (b6r H1.o H2.o aa.o H4.o) (aG.fr.trans f5 (λ_ _ e=>.inr e))⟩
   |
    ok l4=>
    obtain⟨⟨v5,rfl,aH⟩,aR⟩:=Y;obtain⟨A5,N5,c5,rfl⟩:=aH.sl;have U:=aG.step f5 aR m;obtain⟨u,V,-,ay⟩:=U.ht;obtain rfl:=ay rfl;have q5:w5.cell? ⟨b,0,none⟩=some (.slice none 0 0):=V.cell 0;have z5:=V.frozen 0;have k5:Blk (w5.setCell ⟨b,0,none⟩ (.slice A5 N5 c5)) b 22 #[.slice A5 N5 c5]:=by simpa using V.set_ 0 (.slice A5 N5 c5)
    have E:Fr (λk=>k=b) w5 (w5.setCell ⟨b,0,none⟩ (.slice A5 N5 c5)):=(Qp (λk=>k=b) w5).setCell (p:=⟨b,0,none⟩) (λ_=>rfl) _;have ak:=aH.base (B':=w.heap.size) aG.fr.size
    have ae:c1J p s a cb b w (w5.setCell ⟨b,0,none⟩ (.slice A5 N5 c5)) et ht {a0r with path:=P} A cap l4 true:=by
     obtain⟨ve,ah,T⟩:=U.et
     exact⟨U.cert.fr E (λe=>aT e.symm),U.own.fr E (λk I e=>by have:=(U.own.lt I).1;omega),aR.fr E (show¬_=_ from be) (show¬_=_ from z),⟨ve,ah.fr E g,T.fr E (λk I e=>by have:=(T.lt I).1;omega)⟩,
      ⟨_,k5,λ_=>ak.fr E (λk I e=>by have:=(ak.lt I).1;omega),by simp⟩,U.fr.trans E (λk I e=>.inl (.inr (.inr e))),U.bd⟩
    generalize aV:w5.setCell ⟨b,0,none⟩ (.slice A5 N5 c5)=w6 at ae
    have hid:=c4T p s l4 (by have:l4.length<=400000000:=bw.o;omega) w6 ae.eye (ρh ae.fr.size) (ρh ae.fr.size);obtain⟨d,s5,h5⟩:∃v st,idT (.ok l4)=(v,st):=⟨_,_,rfl⟩;have S:=a1R (.ok l4);rw[h5]at hid S;simp only at hid S;have bg:a3z l=(et,P,ht,d,s5):=by rw[a6N H1.o H2.o aa.o H4.o,h5]
    have⟨a0,bq,aS⟩:=η3 ae aV bg;clear ae aV bg U V ay k5 E aH ak aR f5 Q h5;go_upto_region 6 with fail
    rw[bq.o];clear q5 z5;go_wp2_with fail;refine μ1 hid ?_;rintro e w7 ⟨Y,f7⟩
    cases s5 with
    |
     error x=>
     obtain rfl:=Y;exact⟨rfl,ad.o x _ (by unfold a2y;rw[aS.o]) (a0.fr.trans f7 (λ_ _ e=>.inr e))⟩
    |
     ok l5=>
     obtain⟨rfl,aI⟩:=Y;have O:=a0.step f7 aI m;have aq:=Pa a5m O.cert (off:=105) (bys d) (ρy a0a S) (by rw[Qc,a0l O.bd];omega) (a0h _);rw[b9A _ O.bd _ _ S]at aq;have k8:=O.cert.row_ (a0d {a0r with path:=P,tag:=d} A cap).toArray;have E:=ρr (cb) w7 (a0d {a0r with path:=P,tag:=d} A cap).toArray
     have ai:a6D p s (a2y l) (.returned (.tuple #[])) (w7.setRow cb (a0d {a0r with path:=P,tag:=d} A cap).toArray)/\Fr (λk=>(k=a\/k=cb\/k=b)\/k=p) w (w7.setRow cb (a0d {a0r with path:=P,tag:=d} A cap).toArray)/\d1y a cb b l w (w7.setRow cb (a0d {a0r with path:=P,tag:=d} A cap).toArray):=by
      obtain⟨ve,ah,T⟩:=O.et;obtain⟨u,V,ag,-⟩:=O.ht;have ag:=ag rfl;refine⟨?_,O.fr.trans E (λk I e=>.inl (.inr (.inl e))),λr hr=>?_⟩
      ·unfold a2y
       rw[aS.o];exact⟨rfl,aI.fr E (show¬_=_ from aO) (show¬_=_ from f)⟩
      rw[aS.o];exact⟨A,cap,ve,u,k8,O.own.fr E (λk I e=>by have:=(O.own.lt I).1;omega),ah.fr E aL,T.fr E (λk I e=>by have:=(T.lt I).1;omega),V.fr E aT,ag.fr E (λk I e=>by have:=(ag.lt I).1;omega)⟩
     have⟨X,hX⟩:=η0 (w7.setRow cb (a0d {a0r with path:=P,tag:=d} A cap).toArray);replace aq:=aq.trans (show _=Result.ok () X by rw[<-hX]);rw[hX]at ai
     generalize aQ:(bys d).toArray=tv at aq⊢
     have ba:=η1 ai;clear ai k8 E O aI f7 aQ hX hid;go_wp2;go_end0;exact ba
theorem c3P(a:∀x∈l,0<=x/\x<=255):(∀d∈(a3z l).2.1,Dig d)/\Dig (a3z l).2.2.2.1/\(∀x∈(a3z l).1,0<=x/\x<=255)/\(∀x∈(a3z l).2.2.1,0<=x/\x<=255):=by
 have b1:=a4u (most:=100) (s:=.ok l) a;have j:=a2c (most:=32) b1.1;have f:=a9X j (a0o 32 (a0C 100 (.ok l)).2).1;have b:=a4u (most:=100) f.2;have g:=a7z b.1;exact⟨f.1,⟨a1R _,g.2⟩,b1.2,b.2⟩
theorem c2p(l:LI):(a3z l).1.length<=100/\(a3z l).2.2.1.length<=100:=⟨a3o 100 _,a3o 100 _⟩
theorem c2T(h:a8t (a2y l)≠0):a5s l=.error (a8t (a2y l)):=by
 unfold a5s a2y at*
 generalize a3z l=q at*
 obtain⟨a,b,c,d,s⟩:=q
 cases s with
 | error x=>rfl
 |
  ok r=>
  have f:r≠[]:=λe=>by simp[a8t,e]at h
  have:0<r.length:=Ym.2 f
  simp[a8t,f,this]
theorem c4W(h:a2y l=.ok []):a5s l=match a9f (a3z l).1 with | .error x=>.error x | .ok e=>match b0w (a3z l).2.2.1 with | .error x=>.error x | .ok h=>.ok ⟨e,(a3z l).2.1,h,(a3z l).2.2.2.1⟩:=by
 unfold a5s a2y at*
 generalize a3z l=q at*
 obtain⟨a,b,c,d,s⟩:=q;simp only at h;subst h;simp only[Qv,Nat.lt_irrefl,if_false]
 cases a9f a with
 | error x=>rfl
 | ok e=>cases b0w c<;>rfl
theorem b4Z(args:AV)(w:WD):(callFunc 137 args).run prog w=.ok (.enter 137 args) w:=ρk
def a6Y(b:Nat)(l:LI)(e:Ending)(w':WD):Prop:=
 match a5s l with
 | .error x=>e=.returned (.tuple #[.agg (a0d a0r none 0).toArray,.int .i64 x])/\(x != 0)=true
 | .ok c=>∃A cap,e=.returned (.tuple #[.agg (a0d c A cap).toArray,.int .i64 0])/\a0T 31 32 b w' (.slice A c.path.length cap) (c.path.map bys)
theorem a8w(h:a0N B w (.slice A n c) l):A=none->c=0:=by
 rintro rfl;obtain⟨_,⟨e,_⟩ | ⟨d,a,b,e,_⟩⟩:=h
 ·simp only[Value.slice.injEq]at e
  exact e.2.2
 simp at e
theorem b3R:(prog.underlying 39).map a1f=some true:=ρk
theorem a6L:(prog.info? 39).map (·.size)=some 137:=ρk
attribute [local go_sem ↓] a1W b4R a1l b2v b0x
theorem b4U(A:OA)(c:Nat)(f:A=none->c=0)(l:LI)(m:l.length<=400000000)(w:WD)(j:Byt w A l):Calls prog 82 #[.slice A l.length c] w λe w'=>a6Y w l e w'/\Below w w w':=by
 have cC:∀(fn:Fn) (first cap:AV) (w:WD),(Instr.makeFunc fn first cap).run prog w=.ok (.func fn first cap) w:=λ_ _ _ _=>rfl
 have⟨r,R⟩:=η0 ((a0d a0r none 0).toArray);have hz:r.size=137:=by rw[<-R,Qc,a0l a0B]
 have bO:∀v∈r.toList,v.oneCell'=true:=by rw[<-R];simpa using a2C a0r none 0
 have aB:=a9u;simp only[R]at aB;have cx:∀W:WD,(BDs 39 #[]).run prog W=.ok (.agg r) W:=by rw[<-R];exact c1X
 have⟨g,hg⟩:=ηs w;have b0:=Qd w 39 r;have B0:=ρb w (.cells r 39);have ar:=aB w;have⟨W,hW⟩:=η0 (w.alloc (.cells r 39));have bJ:W.heap.size=g+1:=by rw[<-hW,<-hg];simp
 rw[hW]at b0 B0 ar;rw[hg]at b0 ar;have b1:=Qd W 39 r;have aV:=b0.alloc (.cells r 39);have B1:=B0.alloc B0.size (.cells r 39);have az:=aB W;have⟨V,hV⟩:=η0 (W.alloc (.cells r 39));have aG:V.heap.size=g+2:=by rw[<-hV];simp;omega
 rw[hV]at b1 aV B1 az;rw[bJ]at b1 az;have be:=(Qd V 22 #[.slice none 0 0]).alloc (.cells #[.slice none 0 0] 22);have bh:=Qd (V.alloc (.cells #[.slice none 0 0] 22)) 22 #[.slice none 0 0];have aZ:=(b1.alloc (.cells #[.slice none 0 0] 22)).alloc (.cells #[.slice none 0 0] 22);have aj:=(aV.alloc (.cells #[.slice none 0 0] 22)).alloc (.cells #[.slice none 0 0] 22);have B2:=(B1.alloc B1.size (.cells #[.slice none 0 0] 22)).alloc (by simp;exact Qk B1.size (Nat.le_succ _)) (.cells #[.slice none 0 0] 22);have⟨U,hU⟩:=η0 ((V.alloc (.cells #[.slice none 0 0] 22)).alloc (.cells #[.slice none 0 0] 22));have bi:U.heap.size=g+4:=by rw[<-hU];simp;omega
 rw[hU]at be bh aZ aj B2;rw[aG]at be;rw[Qi,aG]at bh
 have a5:=a6Q 137 #[.pointer (g+2:Nat),.pointer (g+1:Nat),.pointer (g+2+1:Nat)] b4Z A c f l m U (j.below B2) (λk=>k=g+2\/k=g+1\/k=g+2+1) (λk I=>ρo) (a2y l)
  (d1y (g+2) (g+1) (g+2+1) l)
  (λp s w2 hB hp hs cB cf he=>b9e p s (g+2) (g+1) (g+2+1) l m w2 he cf ρo ρo ρo ρo ρo (be.fr (Q9 hB) ρo) (by rw[R];exact aZ.fr (Q9 hB) ρo) (bh.fr (Q9 hB) ρo))
 have ao:=b0L (b8M l);have bb:=c2T (l:=l);have⟨ev,bM⟩:=η0 (a8t (a2y l));rw[bM]at a5 ao bb;have⟨bN,b8,HG,cc,ac,HU,bU,ct⟩:=η8 aj B2 hg aG bi hU ao bb;have⟨HZ,a8,HY,ck⟩:=η4 hz bO j R;clear aj B2 hg aG bi hU ao bb hz bO j R b0 B0 b1 aZ aV B1 hW bJ hV aB bM be bh;go_in;go_upto_region 2 with fail
 clear ar az;go_upto_region 3 with fail
 rw[cc.o,HU.o];go_wp2_with fail;refine μ1 a5 ?_;rintro e w1 ⟨rfl,f1,w2,w3,bp,bq,hK,f3⟩;have bX:=bN.fr f1 (show¬_ by omega);have bu:Below w w w1:=b8.trans (f1.below (B:=w.heap.size) (ρi ac.o HG.o) (λk I e=>by have:=HG.o;omega));obtain⟨dT,aD,aF⟩:=Q8.1 b3R
 have aO:∀(x:Int) (X:WD),a5s l=.error x->(x != 0)=true->Blk X g 39 r->Below w w X->a6Y w l (.returned (.tuple #[.agg r,.int .i64 x])) X/\Below w w X:=λx X hr hx _ hB=>by
  refine⟨?_,hB⟩;unfold a6Y;rw[hr];exact⟨by rw[ck.o],hx⟩
 have⟨HB,bV,ag,HK,cA,br,aq⟩:=η7 bX bu f3 hK bp bq aO;clear bX bu f3 hK bp bq aO f1 a5
 by_cases aa:ev=0
 ·have aU:=bU.1 aa
  subst aa;obtain⟨A1,c1,ve,vh,kc,ko,ke,oe,kh,oh⟩:=HK.o _ aU;obtain⟨bP,bT,bE,bH⟩:=c3P HY.bd;obtain⟨lE,lH⟩:=c2p l;have G:=c4W aU;obtain⟨et,P,ht,tg,st,bQ⟩:∃a b c d s,a3z l=(a,b,c,d,s):=⟨_,_,_,_,_,rfl⟩;rw[bQ]at kc ko oe oh bP bT bE bH lE lH G;simp only at kc ko oe oh bP bT bE bH lE lH G;have bo:({a0r with path:=P,tag:=tg}:a0y).Bd:=⟨a3T,bP,a1A,bT⟩;have bW:=br.o;have bC:g+4<=w2.heap.size:=by have:=ac.o;omega
  have bf:=kc.fr ag.o (show¬_=_ by have:=ac.o;omega);have bS:=ke.fr ag.o (show¬_=_ by have:=ac.o;omega);have bF:=kh.fr ag.o (show¬_=_ by have:=ac.o;omega);have bY:=ko.fr ag.o (λk I e=>by have:=(ko.lt I).1;omega);have ba:=oe.fr ag.o (λk I e=>by have:=(oe.lt I).1;omega);have a0:=oh.fr ag.o (λk I e=>by have:=(oh.lt I).1;omega);obtain⟨Ae,ce,rfl,ye,_,_⟩:=ba.byt bE;obtain⟨Ah,ch,rfl,yh,bA,_⟩:=a0.byt bH;have aL:Ae=none->ce=0:=a8w ba;have aQ:Ah=none->ch=0:=a8w a0;have q5:w1.cell? ⟨g+2,0,none⟩=some (.slice Ae et.length ce):=bS.cell 0;have a1:=b5R Ae ce aL et ρo w1 ye;have⟨RE,a6⟩:=η0 (a9f et);rw[a6]at G;have⟨ne,bc⟩:=η0 et.length;rw[bc]at q5 a1;have⟨bt,aR,KC,KH,KO,YH,ak,LH⟩:=η8 G a6 bf bF bY yh bo lH;have⟨aE,bB,cg,b9,b6⟩:=η5 bC aQ bE bH bA;clear G a6 bf bF bY yh bo lH bC aQ bE bH bA kc ko ke kh oe oh bS ba a0 ye bP bT lE aL bW aU bQ bc;go_upto_region 5 with fail
  go_wp2_with fail;refine μ1 a1 ?_;rintro e x1 ⟨hE,O⟩;have aJ:=O.size;have bD:=φf KC O;have bv:=φf KH O;have bG:=KO.keep O;have bw:=YH.below O;have bz:=φf HB O;have bK:=φt bV O;have bl:=KC.lt;unfold a6y at hE;rw[aR.o]at hE;have⟨aS,cd,b4,bZ,bL,aI,cv,cz⟩:=η8 bD bv bG bw bz bK aJ bl;clear bD bv bG bw bz bK aJ bl O q5 a1
  cases RE with
  |
   error x=>
   obtain⟨rfl,J⟩:=hE;have cu:(x == 0)=false:=ρw J;have o:=Pa a8Q aS.o (off:=0) (a0x a4i) (a0u a3T) (by rw[Qc,a0l ak.o];omega) (a5h _);have⟨zc,ax⟩:=η0 (a1d (a0d {a0r with path:=P,tag:=tg} A1 c1).toArray 0 (a0x a4i));have⟨ze,z⟩:=η0 ((a0x a4i).toArray);rw[ax,z]at o;have E:Fr (λk=>k=g+1) x1 (x1.setRow (g+1) zc):=(Qp (λk=>k=g+1) x1).setRow (g:=g+1) (λ_=>rfl) _;have T:=bL.fr E (show¬_=_ by omega);have ab:=aI.trans (E.below (B:=w.heap.size) aI.size (λk I e=>by have:=HG.o;omega));have y:=P7 a6L T HZ r.toList (ρw HZ.o) a8.o;rw[show r.toList.toArray=r by simp]at y;have K:=T.row_ r;have D:=Ql (g:=g) ab (ρh HG.o) r;have⟨x6,Q⟩:=η0 (x1.setRow (g+1) zc);replace o:=o.trans (show _=Result.ok () x6 by rw[<-Q]);rw[Q]at y K D;rw[z];have⟨aP,ci,av⟩:=η3 K D J;clear K D J E T ab ax z Q;have J:=av.o;go_wp2
   refine bodyPost_ret (v:=.tuple #[.agg r,.int .i64 x]) (a0k rfl _ _ g _ _ (0,0) aP.o aD aF (ρy HZ.o a6L) rfl) rfl ?_;exact aq.o x _ bt av aP ci
  |
   ok d=>
   obtain rfl:=hE;have aC:d.Bd:=b7M cg aR;have o:=Pa a8Q aS.o (off:=0) (a0x d) (a0u aC) (by rw[Qc,a0l ak.o];omega) (a5h _);rw[c6a _ ak.o _ _ aC]at o;have aK:({a0r with e:=d,path:=P,tag:=tg}:a0y).Bd:=⟨aC,ak.path,a1A,ak.tag⟩;have E:Fr (λk=>k=g+1) x1 (x1.setRow (g+1) (a0d {a0r with e:=d,path:=P,tag:=tg} A1 c1).toArray):=(Qp (λk=>k=g+1) x1).setRow (g:=g+1) (λ_=>rfl) _;have a3:=aS.row_ (a0d {a0r with e:=d,path:=P,tag:=tg} A1 c1).toArray;have T:=bL.fr E (show¬_=_ by omega);have a2:=cd.fr E (show¬_=_ by omega);have a9:=b4.o;have aX:=a9.fr E (λk I e=>by have:=(a9.lt I).1;have:=aE.o;omega);have ab:=aI.trans (E.below (B:=w.heap.size) aI.size (λk I e=>by have:=HG.o;omega));have bm:=bZ.o;have aT:=bm.fr E (λa ha _ e=>by have:=b6.o a ha;have:=aE.o;omega)
   have⟨x6,Q⟩:=η0 (x1.setRow (g+1) (a0d {a0r with e:=d,path:=P,tag:=tg} A1 c1).toArray);replace o:=o.trans (show _=Result.ok () x6 by rw[<-Q]);rw[Q]at a3 T a2 aX ab aT;have q6:x6.cell? ⟨g+2+1,0,none⟩=some (.slice Ah ht.length ch):=a2.cell 0;have Z:=b4J Ah ch bB ht (ρh LH.o) x6 aT;have⟨RH,a4⟩:=η0 (b0w ht);have G:=bt.o;rw[a4]at G;have⟨nh,bx⟩:=η0 ht.length;rw[bx]at q6 Z
   generalize z:(a0x d).toArray=ze at o⊢
   have⟨aM,aN,cq,b7,ca,b2,N⟩:=η7 G a4 a3 T aX ab aK;clear G a4 a3 T aX ab aK E a2 a9 bm aT Q z bx;go_upto_region 7 with fail
   clear o;go_wp2_with fail;refine μ1 Z ?_;rintro e y1 ⟨hH,D⟩;have au:=φf cq D;have K:=φf b7 D;have aH:=ca.keep D;have ae:=φt b2 D;unfold a8h at hH;rw[aN.o]at hH
   cases RH with
   |
    error x=>
    obtain⟨rfl,J⟩:=hH;have o:=Pa a1h au (off:=38) (a0b a1y) (a0f a1A) (by rw[Qc,a0l N.o];omega) (a1p _);have⟨zc,ax⟩:=η0 (a1d (a0d {a0r with e:=d,path:=P,tag:=tg} A1 c1).toArray 38 (a0b a1y));have⟨ze,z⟩:=η0 ((a0b a1y).toArray);rw[ax,z]at o;have E:Fr (λk=>k=g+1) y1 (y1.setRow (g+1) zc):=(Qp (λk=>k=g+1) y1).setRow (g:=g+1) (λ_=>rfl) _;have H:=K.fr E (show¬_=_ by omega);have S:=ae.trans (E.below (B:=w.heap.size) ae.size (λk I e=>by have:=HG.o;omega));have y:=P7 a6L H HZ r.toList (ρw HZ.o) a8.o;rw[show r.toList.toArray=r by simp]at y;have ad:=H.row_ r;have ah:=Ql (g:=g) S (ρh HG.o) r;have⟨x7,ay⟩:=η0 (y1.setRow (g+1) zc);replace o:=o.trans (show _=Result.ok () x7 by rw[<-ay]);rw[ay]at y ad ah;rw[z];have⟨Y,aW,av⟩:=η3 ad ah J;clear ad ah J E H S ax z ay au K aH ae D Z q6;have J:=av.o;go_wp2
    refine bodyPost_ret (v:=.tuple #[.agg r,.int .i64 x]) (a0k rfl _ _ g _ _ (0,0) Y.o aD aF (ρy HZ.o a6L) rfl) rfl ?_;exact aq.o x _ aM av Y aW
   |
    ok hd=>
    obtain rfl:=hH;have aY:hd.Bd:=b7I b9 aN;have o:=Pa a1h au (off:=38) (a0b hd) (a0f aY) (by rw[Qc,a0l N.o];omega) (a1p _);rw[c5e _ N.o _ _ aY]at o;have bk:(⟨d,P,hd,tg⟩:a0y).Bd:=⟨aC,N.path,aY,N.tag⟩;have al:=au.row_ (a0d ⟨d,P,hd,tg⟩ A1 c1).toArray;have E:Fr (λk=>k=g+1) y1 (y1.setRow (g+1) (a0d ⟨d,P,hd,tg⟩ A1 c1).toArray):=(Qp (λk=>k=g+1) y1).setRow (g:=g+1) (λ_=>rfl) _;have H:=K.fr E (show¬_=_ by omega);have an:=aH.fr E (λk I e=>by have:=(aH.lt I).1;have:=aE.o;omega);have S:=ae.trans (E.below (B:=w.heap.size) ae.size (λk I e=>by have:=HG.o;omega));have aA:(a0d ⟨d,P,hd,tg⟩ A1 c1).length=137:=a0l bk _ _;have⟨xs,af⟩:=η0 (a0d ⟨d,P,hd,tg⟩ A1 c1);have cp:∀v∈xs,v.oneCell'=true:=by rw[<-af];exact a2C _ _ _
    replace o:(STs 37 (.pointer (some ⟨g+1,38,none⟩)) (.agg (a0b hd).toArray)).run prog y1=.ok () (y1.setRow (g+1) xs.toArray):=by rw[<-af];exact o
    replace al:Blk (y1.setRow (g+1) xs.toArray) (g+1) 39 xs.toArray:=by rw[<-af];exact al
    have a7:(a0d ⟨d,P,hd,tg⟩ A1 c1).toArray=xs.toArray:=by rw[af]
    rw[a7]at H an S;rw[af]at aA
    generalize ay:y1.setRow (g+1) xs.toArray=x7 at o al H an S
    have cy:=Pb b3R a6L _ al aA;have y:=P7 a6L H HZ xs aA cp;have ad:=H.row_ xs.toArray;have ah:=Ql (g:=g) S (ρh HG.o) xs.toArray;have bg:=an.fr (F:=λk=>k=g) ((Qp (λk=>k=g) x7).setRow (g:=g) (λ_=>rfl) xs.toArray) (λk I e=>by have:=(an.lt I).1;have:=aE.o;omega)
    generalize z:(a0b hd).toArray=ze at o⊢
    have⟨Y,aW,b3,cn,cr⟩:=η5 ad ah bg a7 aA;clear ad ah bg a7 aA E H S an af z ay au K aH ae D Z q6 al;go_wp2;refine bodyPost_ret (v:=.tuple #[.agg xs.toArray,.int .i64 0]) (a0k rfl _ _ g _ _ (0,0) Y.o aD aF (by rw[Qc,cr.o];exact a6L) rfl) rfl ?_;refine⟨?_,aW.o⟩;unfold a6Y;rw[aM.o];exact⟨A1,c1,by rw[cn.o],b3.base (by have:=ac.o;have:=br.o;have:=HG.o;omega)⟩
 have bI:=ct.o aa;have ai:(ev != 0)=true:=ρw aa;have cw:(ev == 0)=false:=ρw aa;have y:=P7 a6L HB HZ r.toList (ρw HZ.o) a8.o;rw[show r.toList.toArray=r by simp]at y;have bR:=HB.row_ r;have bs:=Ql (g:=g) bV.o (ρh HG.o) r;have⟨b5,bj,cj,bn⟩:=η4 bI bR bs ai;clear bI bR bs ai aa;have ai:=bn.o;go_wp2;refine bodyPost_ret (v:=.tuple #[.agg r,.int .i64 ev]) (a0k rfl _ _ g _ _ (0,0) bj.o aD aF (ρy HZ.o a6L) rfl) rfl ?_;exact aq.o ev _ b5 bn bj cj
end
def d2e(w:WD)(g o:Nat)(b:LI):Prop:=g<w.heap.size/\∃A c,w.cell? ⟨g,o,none⟩=some (.slice A b.length c)/\Byt w A b/\(A=none->c=0)
theorem d2e.below{w d:WD}{g o:Nat}{b:LI}(h:d2e w g o b)(a:Below w w d):d2e d g o b:=by
 obtain⟨f,A,c,m,j,r⟩:=h;exact⟨Qh f a.size,A,c,(a.cell (p:=⟨g,o,none⟩) f).trans m,j.below a,r⟩
section
attribute [local go_sem ↓] a1W a1l a2t a2s a2n
theorem a8j:(prog.underlying 39).map a1f=some true:=ρk
theorem a4U:(prog.info? 39).map (·.size)=some 137:=ρk
theorem d1P:(((prog.info? 39).bind (·.zero)).map (·.cells.size))=some 137:=ρk
attribute [local go_sem ↓] a1D a3u a3h
theorem c6d(h:a0N B w v l):∃A N c,v=.slice A N c:=by
 obtain⟨A,c,e⟩:=a0N.form h;exact⟨A,_,c,e⟩
theorem b2M{e:a1P}(h:e.Bd):∀x∈a5V e,0<=x/\x<=255:=by
 unfold a5V;have d:=h.kind;have a:=h.sh;have g:=h.am;have b:=h.why;have f:=h.ep;unfold InI at d a b f;exact a1I (a1I (a1I (a1I (a1I (a0L ρo) (a0L ρo)) h.tx.2) (a0L ρo)) (a0L ρo)) (a0L ρo)
theorem a8g{e:a0Q}(h:e.Bd):∀x∈a2a e,0<=x/\x<=255:=by
 unfold a2a;have a:=h.sh;have d:=h.ht;have b:=h.ep;unfold InI at a d b;exact a1I (a1I (a1I (a1I (a0L ρo) (a0L ρo)) (a0L ρo)) h.prev.2) h.root.2
theorem a8u(p k:Nat)(seed:LI)(A:OA)(cap:Nat)(c:a0y)(w:WD)(a:c.Bd) (h:a0D c.e=false\/(a0D c.e=true/\a0w c.h=false)\/(a0D c.e=true/\a0w c.h=true/\c.e.sh≠c.h.sh)\/(a0D c.e=true/\a0w c.h=true/\c.e.sh=c.h.sh/\c.e.ep≠c.h.ep)):Calls prog 249 #[.pointer p,.agg (a0d c A cap).toArray] w λe w'=>e=.returned (.bool (isP seed k c))/\Below w w w':=by
 have v:isP seed k c=false:=by
  unfold isP
  rcases h with h | ⟨G,h⟩ | ⟨G,I,h⟩ | ⟨G,I,h3,h⟩<;>simp_all
 rw[v];have j:=Qd w 39 ((a0d c A cap).toArray);have B0:=ρb w (.cells ((a0d c A cap).toArray) 39)
 generalize hW:w.alloc (.cells ((a0d c A cap).toArray) 39)=W at j B0
 have⟨g,Z⟩:=ηs w;rw[Z]at j;have r:=P6 b3q a8Q j (off:=0) (a0x c.e) (a0u a.e) (by simpa using a7E a A cap);have d:=λX (o:Below W W X)=>P6 a1S a1h (j.fr (Q9 o) (ρh j.lt)) (off:=38) (a0b c.h) (a0f a.h) (by simpa using a6M a A cap)
 have m:=a5H c.e a.e W;have f:=λX=>a3A c.h a.h X
 have J:=a9l a A cap;have Y:∀X,Below W W X->X.cell? ⟨g,1,none⟩=some (.int .i64 c.e.sh):=λX o=>((j.fr (Q9 o) (ρh j.lt)).cell 1).trans J.2.1
 have x:∀X,Below W W X->X.cell? ⟨g,36,none⟩=some (.int .i64 c.e.ep):=λX o=>((j.fr (Q9 o) (ρh j.lt)).cell 36).trans J.2.2.2.1
 have D:∀X,Below W W X->X.cell? ⟨g,38,none⟩=some (.int .i64 c.h.sh):=λX o=>((j.fr (Q9 o) (ρh j.lt)).cell 38).trans J.2.2.2.2.2.1
 have B:∀X,Below W W X->X.cell? ⟨g,40,none⟩=some (.int .i64 c.h.ep):=λX o=>((j.fr (Q9 o) (ρh j.lt)).cell 40).trans J.2.2.2.2.2.2
 have F:(a0D c.e=false)\/(a0D c.e=true/\a0w c.h=false)\/(a0D c.e=true/\a0w c.h=true/\(c.e.sh != c.h.sh)=true)\/(a0D c.e=true/\a0w c.h=true/\(c.e.sh != c.h.sh)=false/\(c.e.ep != c.h.ep)=true):=by
  rcases h with h | h | ⟨G,I,h⟩ | ⟨G,I,h3,h⟩
  ·exact .inl h
  ·exact .inr (.inl h)
  ·exact .inr (.inr (.inl ⟨G,I,by simpa using h⟩))
  exact .inr (.inr (.inr ⟨G,I,by simpa using h3,by simpa using h⟩))
 clear h v J;have⟨rE,z⟩:=η0 (a0D c.e);have⟨rH,E⟩:=η0 (a0w c.h);rw[z,E]at F;rw[z]at m;rw[E]at f;have⟨s1,Q⟩:=η0 c.e.sh;have⟨s2,T⟩:=η0 c.h.sh;have⟨t1,R⟩:=η0 c.e.ep;have⟨t2,U⟩:=η0 c.h.ep;rw[Q]at Y F;rw[T]at D F;rw[R]at x F;rw[U]at B F
 generalize aa:(a0d c A cap).toArray=xs at hW⊢
 have⟨ve,H⟩:=η0 ((a0x c.e).toArray);have⟨vh,N⟩:=η0 ((a0b c.h).toArray);rw[H]at r m;rw[N]at d f;have⟨HW,HG,HB,ag,K1,ab,ac,af⟩:=η8 hW Z B0 d Y x D B;have ah:=η1 f;clear hW Z B0 d Y x D B f z E Q T R U aa H N j a
 rcases F with rfl | ⟨rfl,rfl⟩ | ⟨rfl,rfl,hS⟩ | ⟨rfl,rfl,hS,hT⟩
 all_goals
  go_in;go_upto_region 1 with fail
  rw[HW.o,HG.o];go_wp2_with fail;refine μ1 m ?_;rintro e w1 ⟨v1,rfl,K,y⟩;obtain⟨A1,N1,c1,rfl⟩:=c6d K;have d:=ag.o w1 y;have f:=ah.o w1;have ad:=η1 y;clear y K m r;go_wp2_with fail;refine μ1 f ?_;rintro e V ⟨v2,rfl,O,S⟩;obtain⟨A2,N2,c2,rfl⟩:=c6d O;have b:=φt ad S;have q1:=K1.o V b;have q2:=ab.o V b;have q3:=ac.o V b;have q4:=af.o V b;have ae:=η1 b;clear b O S f d;go_wp2;go_ret;exact⟨rfl,HB.trans (ae.mono HB.size)⟩
theorem c8o{c:a0y}(b:a0D c.e=true)(a:a0w c.h=true)(d:c.e.sh=c.h.sh)(f:c.e.ep=c.h.ep):isP seed k c=((decide (c.path.length=2)&&decide (a1n (a1n (c.path.getD 0 []) (a0R (a5V c.e))) (c.path.getD 1 [])=c.h.root))&&(decide (0<=c.h.sh/\c.h.sh<k)&&decide (c.tag=a7C seed c.h.sh (a2a c.h)))):=by
 have g:=((a3B _).1 a).1.1;unfold isP;rw[b,a,d,f];simp only[decide_true,Y5,g,true_and]
 cases decide (c.path.length=2)<;>cases decide (a1n (a1n (c.path.getD 0 []) (a0R (a5V c.e))) (c.path.getD 1 [])=c.h.root)<;>cases decide (c.h.sh<(k:Int))<;>rfl
theorem a9Y{e:a1P}(h:e.Bd):(a5V e).length<=100:=by
 have d:=h.kind;have a:=h.sh;have m:=h.am;have b:=h.why;have f:=h.ep;unfold InI at d a b f;have g:=a0p (n:=e.kind.toNat) ρo;have o:=a0p (n:=e.sh.toNat) ρo;have p:=a0p (n:=e.am.toNat) ρo;have r:=a0p (n:=e.why.toNat) ρo;have j:=a0p (n:=e.ep.toNat) ρo
 have:=h.tx.1
 unfold a5V;simp only[Qa];omega
theorem a7a{e:a0Q}(h:e.Bd):(a2a e).length<=100:=by
 have b:=h.sh;have a:=h.ht;have d:=h.ep;unfold InI at b a d;have f:=a0p (n:=e.sh.toNat) ρo;have g:=a0p (n:=e.ht.toNat) ρo;have j:=a0p (n:=e.ep.toNat) ρo
 have:=h.prev.1
 have:=h.root.1
 unfold a2a;simp only[Qa];omega
theorem b8K(p k:Nat)(seed:LI)(A:OA)(cap:Nat)(c:a0y)(w:WD)(j:a5n w p seed k)(m:k<=64)(a:c.Bd)(b:c.path.length<=cap)(f:c.path.length<=1000000)(o:RdR 32 w A (c.path.map bys))(d:a2x w) (hE:a0D c.e=true) (hH:a0w c.h=true) (hs:c.e.sh=c.h.sh) (hp:c.e.ep=c.h.ep):Calls prog 249 #[.pointer p,.agg (a0d c A cap).toArray] w λe w'=>e=.returned (.bool (isP seed k c))/\Below w w w':=by
 rw[c8o hE hH hs hp];have B:=Qd w 39 ((a0d c A cap).toArray);have Z:=ρb w (.cells ((a0d c A cap).toArray) 39)
 generalize hW:w.alloc (.cells ((a0d c A cap).toArray) 39)=W at B Z
 have⟨g,hg⟩:=ηs w;rw[hg]at B;have S:=P6 b3q a8Q B (off:=0) (a0x c.e) (a0u a.e) (by simpa using a7E a A cap);have D:=λX (z:Below W W X)=>P6 a1S a1h (B.fr (Q9 z) (ρh B.lt)) (off:=38) (a0b c.h) (a0f a.h) (by simpa using a6M a A cap)
 have I:=λX (z:Below W W X)=>P6 a2i iId (B.fr (Q9 z) (ρh B.lt)) (off:=73) (bys c.h.root) (by rw[a0a,a.h.root.1]) (by simpa using b2r a A cap)
 have G:=λX (z:Below W W X)=>P6 a2i iId (B.fr (Q9 z) (ρh B.lt)) (off:=105) (bys c.tag) (by rw[a0a,a.tag.1]) (by simpa using a6K a A cap)
 have J:=a5H c.e a.e W;have E:=λX=>a3A c.h a.h X
 rw[hE,if_pos rfl]at J;simp only[hH,if_true]at E;have cc:=a9l a A cap;have k1:∀X,Below W W X->X.cell? ⟨g,1,none⟩=some (.int .i64 c.e.sh):=λX z=>((B.fr (Q9 z) (ρh B.lt)).cell 1).trans cc.2.1
 have aa:∀X,Below W W X->X.cell? ⟨g,36,none⟩=some (.int .i64 c.e.ep):=λX z=>((B.fr (Q9 z) (ρh B.lt)).cell 36).trans cc.2.2.2.1
 have ac:∀X,Below W W X->X.cell? ⟨g,37,none⟩=some (.slice A c.path.length cap):=λX z=>((B.fr (Q9 z) (ρh B.lt)).cell 37).trans cc.2.2.2.2.1
 have Y:∀X,Below W W X->X.cell? ⟨g,38,none⟩=some (.int .i64 c.h.sh):=λX z=>((B.fr (Q9 z) (ρh B.lt)).cell 38).trans cc.2.2.2.2.2.1
 have af:∀X,Below W W X->X.cell? ⟨g,40,none⟩=some (.int .i64 c.h.ep):=λX z=>((B.fr (Q9 z) (ρh B.lt)).cell 40).trans cc.2.2.2.2.2.2
 have v:=λX (z:Below W W X) (Ae:OA) (ce:Nat) (aV:Ae=none->ce=0) (hE:Byt X Ae (a5V c.e))=>b8y c.h.root a.h.root Ae ce aV (a5V c.e) (ρh (a9Y a.e)) c.path a.path A cap b f X hE ((o.below Z).below z) ((d.below Z).below z)
 have x:=λX (z:Below W W X) (Ah:OA) (ch:Nat) (aT:Ah=none->ch=0) (hH:Byt X Ah (a2a c.h))=>b9B p k seed c.h.sh Ah ch (a2a c.h) c.tag X ((j.below Z).below z) m hH aT (ρh (a7a a.h)) a.tag ((d.below Z).below z)
 generalize aF:(decide (c.path.length=2)&&decide (a1n (a1n (c.path.getD 0 []) (a0R (a5V c.e))) (c.path.getD 1 [])=c.h.root))=R1
 simp only[aF]at v
 generalize ar:(decide (0<=c.h.sh/\c.h.sh<k)&&decide (c.tag=a7C seed c.h.sh (a2a c.h)))=R2
 simp only[ar]at x;have F:=b2M a.e;have H:=a8g a.h;have hS:(c.e.sh != c.h.sh)=false:=ρw hs;have hT:(c.e.ep != c.h.ep)=false:=ρw hp;have⟨ef,au⟩:=η0 (a5V c.e);have⟨hf,ai⟩:=η0 (a2a c.h);rw[au]at J v F;simp only[ai]at E x H;have⟨s1,ay⟩:=η0 c.e.sh;have⟨s2,aj⟩:=η0 c.h.sh;have⟨t1,az⟩:=η0 c.e.ep;have⟨t2,aB⟩:=η0 c.h.ep;rw[ay]at k1 hS;rw[aj]at Y hS x;rw[az]at aa hT;rw[aB]at af hT
 generalize aU:(a0d c A cap).toArray=xs at hW⊢
 have⟨ve,al⟩:=η0 ((a0x c.e).toArray);have⟨vh,ah⟩:=η0 ((a0b c.h).toArray);have⟨vr,ao⟩:=η0 ((bys c.h.root).toArray);have⟨vt,aC⟩:=η0 ((bys c.tag).toArray);rw[al]at S J;rw[ah]at D E;rw[ao]at I v;rw[aC]at G x;have⟨pl,U⟩:=η0 c.path.length;rw[U]at ac v;have⟨HW,HG,HB,aS,aO,aI,K1,aP⟩:=η8 hW hg Z D I G k1 aa;have⟨aG,aA,aN,aH,N,K,aL,aW⟩:=η8 ac Y af E v x F H;clear hW hg Z D I G k1 aa ac Y af E v x F H ay aj az aB aU al ah ao aC B a j m b f o d hE hH hs hp cc aF ar au ai U;go_in;go_upto_region 1 with fail
 rw[HW.o,HG.o];go_wp2_with fail;refine μ1 J ?_;rintro e w1 ⟨v1,rfl,ab,V⟩;obtain⟨A1,c1,rfl,R,_,_⟩:=a0N.byt ab aL;have D:=aS.o w1 V;have E:=aH.o w1;have ag:A1=none->c1=0:=λe=>by subst e;exact a0N.nulI ab
 generalize av:ef.length=n1 at N⊢
 have⟨aQ,aD,aK⟩:=η3 V R ag;clear V R ag ab J S av;go_wp2_with fail;refine μ1 E ?_;rintro e w2 ⟨v2,rfl,ae,ad⟩;obtain⟨A2,c2,rfl,T,_,_⟩:=a0N.byt ae aW;have aE:A2=none->c2=0:=λe=>by subst e;exact a0N.nulI ae
 have r:=φt aQ ad;have q1:=K1.o w2 r;have q2:=aP.o w2 r;have q3:=aA.o w2 r;have q4:=aN.o w2 r;have q5:=aG.o w2 r;have q6:=aO.o w2 r;have ht:=N.o w2 r A1 c1 aK (aD.below ad)
 generalize ax:hf.length=n2 at K⊢
 have⟨aM,aq,aJ⟩:=η3 r T aE;clear r T aE ae ad E D ax;go_wp2_with fail;refine μi ht ?_;intro w3 O;have y:=φt aM O
 cases R1 with
 |
  true=>
  have q7:=aA.o w3 y;have q8:=aI.o w3 y;have ak:=K.o w3 y A2 c2 aJ (aq.below O);have Q:=η1 y;clear y O ht q1 q2 q3 q4 q5 q6;go_wp2_with fail;refine μi ak ?_;intro w4 an;have aR:=η1 an;clear an ak;go_wp2;go_ret;exact⟨rfl,HB.trans ((Q.trans (aR.mono Q.size)).mono HB.size)⟩
 |
  false=>
  have Q:=η1 y;clear y O ht q1 q2 q3 q4 q5 q6;go_wp2;go_ret;exact⟨rfl,HB.trans (Q.mono HB.size)⟩
theorem b1O(p k:Nat)(seed:LI)(A:OA)(cap:Nat)(c:a0y)(w:WD)(g:a5n w p seed k)(j:k<=64)(a:c.Bd)(b:c.path.length<=cap)(d:c.path.length<=1000000)(m:RdR 32 w A (c.path.map bys))(f:a2x w):Calls prog 249 #[.pointer p,.agg (a0d c A cap).toArray] w λe w'=>e=.returned (.bool (isP seed k c))/\Below w w w':=by
 by_cases o:a0D c.e=true
 ·by_cases r:a0w c.h=true
  ·by_cases v:c.e.sh=c.h.sh
   ·by_cases x:c.e.ep=c.h.ep
    ·exact b8K p k seed A cap c w g j a b d m f o r v x
    exact a8u p k seed A cap c w a (.inr (.inr (.inr ⟨o,r,v,x⟩)))
   exact a8u p k seed A cap c w a (.inr (.inr (.inl ⟨o,r,v⟩)))
  exact a8u p k seed A cap c w a (.inr (.inl ⟨o,by simpa using r⟩))
 exact a8u p k seed A cap c w a (.inl (ρw o))
theorem b2n(p k:Nat)(seed:LI)(A:OA)(cap:Nat)(c:a0y)(a sh:Int)(id:LI)(hid:Dig id)(w:WD)(m:a5n w p seed k)(o:k<=64)(d:c.Bd)(b:c.path.length<=cap)(f:c.path.length<=1000000)(r:RdR 32 w A (c.path.map bys))(j:a2x w):Calls prog 216 #[.pointer p,.agg (a0d c A cap).toArray,.int .i64 a,.int .i64 sh,.agg (bys id).toArray] w λe w'=>e=.returned (.bool (isP seed k c&&(decide (c.e.kind=a)&&(decide (c.e.sh=sh)&&decide (c.e.tx=id)))))/\Below w w w':=by
 have b0:=Qd w 39 ((a0d c A cap).toArray);have B0:=ρb w (.cells ((a0d c A cap).toArray) 39)
 generalize S:w.alloc (.cells ((a0d c A cap).toArray) 39)=W at b0 B0
 have⟨g,O⟩:=ηs w;rw[O]at b0;have⟨yi,af⟩:=η0 ((bys id).toArray);have b1:=Qd W 31 yi;have N:Below w w (W.alloc (.cells yi 31)):=B0.alloc B0.size _
 generalize hV:W.alloc (.cells yi 31)=V at b1 N
 have I:W.heap.size=g+1:=by first | exact O | (rw[<-S];simp[O]) | (rw[<-S];simp;omega)
 rw[I]at b1;subst af;have z:=b0.alloc (.cells (bys id).toArray 31);rw[hV]at z;have ab:(bys id).length=32:=by rw[a0a,hid.1]
 have B:=P4 a8j a4U (a0d c A cap) z (a0l d A cap);have F:=λX (J:Below V V X)=>P4 a2i iId (bys id) (b1.fr (Q9 J) (ρh b1.lt)) ab
 have G:=λX (J:Below V V X)=>P6 a2i iId (z.fr (Q9 J) (ρh z.lt)) (off:=2) (bys c.e.tx) (by rw[a0a,d.e.tx.1]) (by simpa using c4x d A cap)
 have cc:=a9l d A cap;have k0:∀X,Below V V X->X.cell? ⟨g,0,none⟩=some (.int .i64 c.e.kind):=λX J=>((z.fr (Q9 J) (ρh z.lt)).cell 0).trans cc.1
 have k1:∀X,Below V V X->X.cell? ⟨g,1,none⟩=some (.int .i64 c.e.sh):=λX J=>((z.fr (Q9 J) (ρh z.lt)).cell 1).trans cc.2.1
 have y:=b1O p k seed A cap c V (m.below N) o d b f (r.below N) (j.below N);have x:=λX=>a8i c.e.tx id d.e.tx hid X
 have⟨R,hR⟩:=η0 (isP seed k c);have⟨T,hT⟩:=η0 (decide (c.e.tx=id));rw[hR]at y;rw[hT]at x;rw[hR,hT];have⟨s1,Z⟩:=η0 c.e.sh;have⟨K,U⟩:=η0 c.e.kind;rw[Z]at k1⊢;rw[U]at k0⊢;have⟨xs,Q⟩:=η0 ((a0d c A cap).toArray);have⟨ys,Y⟩:=η0 ((bys id).toArray);have⟨zs,ac⟩:=η0 ((bys c.e.tx).toArray);rw[Q]at S B y⊢;rw[Y]at hV F x⊢;rw[ac]at G x;have⟨HW,HV,HG,H,K0,K1,ae,ad⟩:=η8 S hV O N k0 k1 F G;have HS:=η1 x;clear S hV O N k0 k1 F G x U Z Q Y ac hR hT b0 z b1 B0 m o d b f r j hid ab I cc
 have hq:R=false\/(R=true/\(K == a)=false)\/(R=true/\(K == a)=true/\(s1 == sh)=false)\/(R=true/\(K == a)=true/\(s1 == sh)=true):=by
  cases R<;>cases(K == a)<;>cases(s1 == sh)<;>simp
 rcases hq with rfl | ⟨rfl,h0⟩ | ⟨rfl,h0,h1⟩ | ⟨rfl,h0,h1⟩
 ·rw[Bool.false_and]
  go_in;go_upto_region 1 with fail
  rw[HW.o,HV.o,HG.o];go_wp2_with fail;refine μi y ?_;intro E v;have D:=η1 v;clear v y B;go_wp2;go_ret;exact⟨rfl,H.trans (D.mono H.size)⟩
 ·rw[show decide (K=a)=false by simpa using h0,Bool.false_and,Bool.and_false]
  go_in;go_upto_region 1 with fail
  rw[HW.o,HV.o,HG.o];go_wp2_with fail;refine μi y ?_;intro E v;have q0:=K0.o E v;have D:=η1 v;clear v y B;go_wp2;go_ret;exact⟨rfl,H.trans (D.mono H.size)⟩
 ·rw[show decide (s1=sh)=false by simpa using h1,Bool.false_and,Bool.and_false,Bool.and_false]
  go_in;go_upto_region 1 with fail
  rw[HW.o,HV.o,HG.o];go_wp2_with fail;refine μi y ?_;intro E v;have q0:=K0.o E v;have q1:=K1.o E v;have D:=η1 v;clear v y B;go_wp2;go_ret;exact⟨rfl,H.trans (D.mono H.size)⟩
 rw[show decide (K=a)=true by simpa using h0,show decide (s1=sh)=true by simpa using h1,Y5,Y5,Y5];go_in;go_upto_region 1 with fail
 rw[HW.o,HV.o,HG.o];go_wp2_with fail;refine μi y ?_;intro E v;have q0:=K0.o E v;have q1:=K1.o E v;have q2:=ae.o E v;have q3:=ad.o E v;have hs:=HS.o E;have D:=η1 v;clear v y B;go_wp2_with fail;refine μi hs ?_;intro w2 aa;have ag:=η1 aa;clear aa hs;go_wp2;go_ret;exact⟨rfl,H.trans ((D.trans (ag.mono D.size)).mono H.size)⟩
end
section
theorem d1r(n:Nat)(x:Int):a6d n (.error x)=([],.error x):=by simpa using a6j (a5T (.error x)) n
theorem b5W(n:Nat)(x:Int):a3g n (.error x)=([],.error x):=by simpa using a4G (a4B (.error x)) n
theorem b1T{d sec:LI}{X A:Nat}{t1 t2 t3 t4:St}(a:idT (.ok l)=(d,t1))(b:a0o 15 t1=(X,t2))(f:a0o 18446744073709551615 t2=(A,t3))(g:a0C 64 t3=(sec,t4)):inT (.ok l)=(⟨d,(X:Int),(A:Int),sec⟩,t4):=by
 unfold inT;simp only[a,b,f,g]
theorem b2F{d:LI}{A:Nat}{t1 t2:St}(a:idT (.ok l)=(d,t1))(b:a0o 18446744073709551615 t1=(A,t2)):b0P (.ok l)=(⟨d,(A:Int)⟩,t2):=by
 unfold b0P;simp only[a,b]
theorem b2e{ex:Nat}{O:List a1q}{b s2 d f g j:St}(o:a0o 16 (.ok l)=(n,b))(p:a6d n b=(I,s2))(r:a0o 16 s2=(m,d))(v:a3g m d=(O,f))(w:a0o 18446744073709551615 f=(a,g))(x:a0o 1099511627776 g=(ex,j)):txT l=(⟨I,O,(a:Int),(ex:Int)⟩,j):=by
 unfold txT;simp only[o,p,r,v,w,x]
theorem b7i{s:St}(h:StE s):∀j,StE (a6d j s).2
 | 0=>by rw[a5T];exact h
 |
  j+1=>by
  have ih:=b7i h j
  cases hj:a6d j s with
  |
   mk L t=>
   rw[hj]at ih
   cases t with
   | error x=>rw[a6j hj 1];exact ih
   | ok l=>rw[b0W hj];exact a5A (a1L (a1L (a5W (s:=.ok l) trivial)))
theorem b4u{s:St}(h:StE s):∀j,StE (a3g j s).2
 | 0=>by rw[a4B];exact h
 |
  j+1=>by
  have ih:=b4u h j
  cases hj:a3g j s with
  |
   mk L t=>
   rw[hj]at ih
   cases t with
   | error x=>rw[a4G hj 1];exact ih
   | ok l=>rw[a8H hj];exact a1L (a5W (s:=.ok l) trivial)
theorem c9h(l:LI):StE (txT l).2:=a1L (a1L (b4u (a1L (b7i (a1L (s:=.ok l) trivial) _)) _))
theorem c5w(a:a0o 16 (.ok l)=(n,.error x)):(txT l).2=.error x:=by
 rw[b2e a (d1r _ _) (a3t _ _) (b5W _ _) (a3t _ _) (a3t _ _)]
theorem c4D{a:St}(b:a0o 16 (.ok l)=(n,a))(d:a6d n a=(I,.error x)):(txT l).2=.error x:=by
 rw[b2e b d (a3t _ _) (b5W _ _) (a3t _ _) (a3t _ _)]
theorem c5F{a s2:St}(b:a0o 16 (.ok l)=(n,a))(d:a6d n a=(I,s2))(f:a0o 16 s2=(m,.error x)):(txT l).2=.error x:=by
 rw[b2e b d f (b5W _ _) (a3t _ _) (a3t _ _)]
theorem c4K{O:List a1q}{a s2 b:St}(d:a0o 16 (.ok l)=(n,a))(f:a6d n a=(I,s2))(g:a0o 16 s2=(m,b))(j:a3g m b=(O,.error x)):(txT l).2=.error x:=by
 rw[b2e d f g j (a3t _ _) (a3t _ _)]
def b5j(g p s:Nat)(l:LI)(e:Ending)(w':WD):Prop:=
 match(txT l).2 with
 | .error x=>e=.panicked [{v:=a1T x,recovered:=false}]
 | .ok r=>(∃A1 c1 A2 c2,e=.returned (.agg (txV A1 c1 A2 c2 (txT l).1))/\a4W g w' A1 A2 (txT l).1)/\a0S w' p s r
attribute [local go_sem ↓] a2t a6W a8U a9c a9R b0o b0b c5n c2E c4u c5p c0B c5C c0v b7r b8h b8b
theorem b9z(p s:Nat)(l:LI)(hl:l.length<=400000000)(w:WD)(h:a0S w p s l)(hp:p<w.heap.size)(hs:s<w.heap.size):Calls prog 135 #[.pointer p] w λe w'=>b5j w p s l e w'/\Fr (λk=>k=p) w w':=by
 have hby:∀x∈l,0<=x/\x<=255:=by obtain⟨A,c,he,_⟩:=h;exact he.by_.bd
 have hbdt:=c9V hby;have hal:=d0B;obtain⟨Zi,hali,hsti,_⟩:=Pk (t:=191) iIn zIn;obtain⟨Zo,halo,hsto,_⟩:=Pk (t:=56) c6h d1w;have b0:=Qd w 53 (#[.slice none 0 0,.slice none 0 0,.int .u64 0,.int .i64 0]);have B0:=ρb w (.cells (#[.slice none 0 0,.slice none 0 0,.int .u64 0,.int .i64 0]) 53)
 generalize hW:w.alloc (.cells (#[.slice none 0 0,.slice none 0 0,.int .u64 0,.int .i64 0]) 53)=W at b0 B0
 have⟨g,hg⟩:=ηs w;rw[hg]at b0;have hal0:=hal w;rw[hW,hg]at hal0;have f0:Fr (λk=>k=p) w W:=(Q9 B0).mono (λk hk h=>ρo);have he0:=h.fr (Q9 B0) (show¬_<=_ by omega) (show¬_<=_ by omega);have hpg:=he0.far b0 ρd;have hWs:w.heap.size<=W.heap.size:=B0.size
 have hbad:∀(x:Int) (w':WD),(txT l).2=.error x->Fr (λk=>k=p) w w'->b5j g p s l (.panicked [{v:=a1T x,recovered:=false}]) w'/\Fr (λk=>k=p) w w':=λx w' hx hf=>by
  refine⟨?_,hf⟩;unfold b5j;rw[hx]
 have hen0:=a5w p s l 16 ρo (by have:l.length<=400000000:=hl;omega) W he0;obtain⟨k0,s0,h0⟩:∃v st,a0o 16 (.ok l)=(v,st):=⟨_,_,rfl⟩;have hk0:=a0P 16 (.ok l);have hb0:=a1b (most:=16) (st:=.ok l) (n:=400000000) hl;rw[h0]at hen0 hk0 hb0;rw[show((16:Nat):Int)=16 from rfl]at hen0;simp only at hen0 hk0 hb0;have⟨F0,HW,HG,HBI,HBO,HB0,HPG,HWS⟩:=η8 f0 hW hg hsti hsto b0 hpg hWs;have⟨HBAD,H0,HBB0,HBDT,HBY⟩:=η5 hbad h0 hb0 hbdt hby;clear f0 hW hg hsti hsto b0 hpg hWs hbad h0 hb0 hbdt hby h he0 B0 hal;go_in;rw[HG.o];go_upto_region 1 with fail
 clear hal0;go_wp2_with fail;refine μ1 hen0 ?_;rintro e w1 ⟨he,f1⟩;have⟨n,hn⟩:=η0 k0;rw[hn]at hk0 he H0
 cases s0 with
 |
  error x=>
  obtain rfl:=he;exact⟨rfl,HBAD.o x _ (c5w H0.o) (F0.trans f1 (λ_ _ h=>h))⟩
 |
  ok l0=>
  obtain⟨rfl,he1⟩:=he;have⟨F1,HE1⟩:=η2 ((F0.trans f1 (λ_ _ h=>h))) he1;have hb1:=HB0.fr f1 (λe=>HPG.o e.symm);clear f1 he1 hen0;go_upto_region 2 with fail
  go_loopg [3,7] n (λkk _ c wr=>∃(j:Nat) (v:VL) (R:LW) (L:List InD) (lj:LI),j+kk=n/\c=.int .u64 j/\a6d j (.ok l0)=(L,.ok lj)/\a0T 191 35 (g+1) wr v R/\a5D (g+1) wr v R L/\Blk wr g 53 #[v,.slice none 0 0,.int .u64 0,.int .i64 0]/\a0S wr p s lj/\Fr (λk=>k=p) w wr);exact⟨0,.slice none 0 0,[],[],l0,by omega,rfl,a5T _,a0T.nil _ _ _ _,a5D.nil _ _ _,hb1,HE1.o,F1.o⟩;obtain⟨j,v,R,L,lj,hj,rfl,hIR,hOwn,hRow,hB,hE,hF⟩:=hrel;clear hb1
  by_cases hlt:j<n
  ·have hltI:(j:Int)<n:=ρo
   have hjl:=a9Z (.ok l0) j;have hlj:=b0X (s:=.ok l0) (n:=400000000) HBB0.o j;rw[hIR]at hjl hlj;simp only at hjl hlj;have hgw:=hB.lt;have hWr:w.heap.size<=wr.heap.size:=hF.size;have hen1:=c4T p s lj (by have:lj.length<=400000000:=hlj;omega) wr hE ρo ρo;obtain⟨d1,s1,h1⟩:∃v st,idT (.ok lj)=(v,st):=⟨_,_,rfl⟩;have hk1:=a1R (.ok lj);have hb1:=a3U (st:=.ok lj) (n:=400000000) hlj;rw[h1]at hen1 hk1 hb1;simp only at hen1 hk1 hb1;have hbp:=λW (X:Int)=>d2L hk1 X W
   have⟨tv,htv⟩:=η0 ((bys d1).toArray);rw[htv]at hen1;have hI:=b0W hIR;have⟨HIR,HOWN,HROW,HBB,HF,H1,HBB1,HK1⟩:=η8 hIR hOwn hRow hB hF h1 hb1 hk1;have⟨HTV,HWR,HGW,HI,HJL⟩:=η5 htv hWr hgw hI hjl;clear hIR hOwn hRow hB hF h1 hb1 hk1 htv hWr hgw hI hjl hE hlj;go_wp2_with fail;refine μ1 hen1 ?_;rintro e w2 ⟨he,f2⟩
   have hie:∀(x:Int) (w':WD),(inT (.ok lj)).2=.error x->Fr (λk=>k=p) w w'->b5j g p s l (.panicked [{v:=a1T x,recovered:=false}]) w'/\Fr (λk=>k=p) w w':=λx w' hx hf=>by
    have h5:=HI.o;rw[hx]at h5;have h6:=a6j h5 (n-(j+1));rw[show j+1+(n-(j+1))=n by omega]at h6;exact HBAD.o x w' (c4D H0 h6) hf
   have HIE:=η1 hie;clear hie
   cases s1 with
   |
    error x=>
    obtain rfl:=he;exact⟨rfl,HIE.o x _ (by rw[b1T H1.o (a3t _ _) (a3t _ _) (a9d _ _)]) (HF.trans f2 (λ_ _ h=>h))⟩
   |
    ok l1=>
    obtain⟨rfl,he2⟩:=he;have hen2:=a5w p s l1 15 ρo (by have:l1.length<=400000000:=HBB1.o;omega) w2 he2;obtain⟨k2,s2,h2⟩:∃v st,a0o 15 (.ok l1)=(v,st):=⟨_,_,rfl⟩;have hk2:=a0P 15 (.ok l1);have hb2:=a1b (most:=15) (st:=.ok l1) (n:=400000000) HBB1.o;rw[h2]at hen2 hk2 hb2;rw[show((15:Nat):Int)=15 from rfl]at hen2;simp only at hen2 hk2 hb2;have⟨F2,fr2⟩:=η2 (HF.trans f2 (λ_ _ h=>h)) f2;have hw2k:=a1r hk2 ρo;have⟨H2,HBB2,HK2⟩:=η3 h2 hb2 hk2;clear h2 hb2 hk2 hen1 f2 he2;go_wp2_with fail;refine μ1 hen2 ?_;rintro e w3 ⟨he,f3⟩
    cases s2 with
    |
     error x=>
     obtain rfl:=he;exact⟨rfl,HIE.o x _ (by rw[b1T H1.o H2.o (a3t _ _) (a9d _ _)]) (F2.trans f3 (λ_ _ h=>h))⟩
    |
     ok l2=>
     obtain⟨rfl,he3⟩:=he;have hbin:=λW=>c8p HK1.o (k2:Int) W
     have hbp2:=λW=>hbp W (k2:Int)
     have hinl:(inV ⟨d1,(k2:Int),0,[]⟩ none 0).length=35:=by simp[inV,a1x HK1.o]
     have hin1:=a8W ⟨d1,(k2:Int),0,[]⟩ none 0
     have hc33:(inV ⟨d1,(k2:Int),0,[]⟩ none 0).toArray[33]? =some (.int .u64 0):=by
      unfold inV;simp[ptL,a0a,HK1.o]
     have h33:=λ(A:Int)=>c2s HK1.o (k2:Int) A
     have⟨iv,hiv⟩:=η0 (inV ⟨d1,(k2:Int),0,[]⟩ none 0);simp only[hiv]at hbin hc33 h33;rw[hiv]at hinl hin1;have⟨pv,hpv⟩:=η0 ((ptL d1 (k2:Int)).toArray);simp only[hpv]at hbp2 hbin;simp only[HTV.o]at hbp2;have hal3:=hali w3;have hst3:=HBI.o w3 iv hinl hin1;have hF3:=fr2.trans f3 (λ_ _ h=>h);have b4:=Qd w3 191 (iv.toArray);have B4:=ρb w3 (.cells (iv.toArray) 191)
     generalize hw4:w3.alloc (.cells (iv.toArray) 191)=w4 at b4 B4
     have⟨ib,hib0⟩:=ηs w3;rw[hib0]at b4;have hWR:=HWR.o;have f4:=hF3.trans (Q9 B4) (λk hk h=>by have:=hF3.size;omega);have he4:a0S w4 p s l2:=he3.fr (Q9 B4) (show¬_<=_ by have:=hF3.size;omega) (show¬_<=_ by have:=hF3.size;omega);have hpi:=he4.far b4 ρd;have hib:=b4.lt;have hen3:=a5w p s l2 18446744073709551615 ρo (by have:l2.length<=400000000:=HBB2.o;omega) w4 he4;obtain⟨k3,s3,h3⟩:∃v st,a0o 18446744073709551615 (.ok l2)=(v,st):=⟨_,_,rfl⟩;have hk3:=a0P 18446744073709551615 (.ok l2);have hb3:=a1b (most:=18446744073709551615) (st:=.ok l2) (n:=400000000) HBB2.o;rw[h3]at hen3 hk3 hb3;rw[show((18446744073709551615:Nat):Int)=18446744073709551615 from rfl]at hen3;simp only at hen3 hk3 hb3;have⟨HW4,HB4,HF4,HPI,HIBE,HF3,H3,HBB3⟩:=η8 hw4 b4 f4 hpi hib0 hF3 h3 hb3;have⟨HK3,HC33,H33,HIV⟩:=η4 hk3 hc33 h33 hiv
     clear hw4 b4 f4 hpi hib0 hF3 h3 hb3 hk3 hc33 h33 hiv hen2 he3 B4 he4 f3 hbp hpv hWR;go_upto_region 4 with fail
     rw[HW4.o,HIBE.o];clear hal3 hst3 hbp2 hbin hw2k;go_wp2_with fail;refine μ1 hen3 ?_;rintro e w5 ⟨he,f5⟩
     cases s3 with
     |
      error x=>
      obtain rfl:=he;exact⟨rfl,HIE.o x _ (by rw[b1T H1.o H2.o H3.o (a9d _ _)]) ((HF.trans HF4.o (λ_ _ h=>h)).trans f5 (λ_ _ h=>h))⟩
     |
      ok l3=>
      obtain⟨rfl,he5⟩:=he;have b5:=HB4.fr f5 (λe=>HPI.o e.symm);have q33:w5.cell? ⟨ib,33,none⟩=some (.int .u64 0):=(b5.cell 33).trans HC33;have z33:=b5.frozen 33;have b6:=b5.set_ 33 (.int .u64 k3);rw[H33.o]at b6;have fs:Fr (λk=>k=ib) w5 (w5.setCell ⟨ib,33,none⟩ (.int .u64 k3)):=(Qp (λk=>k=ib) w5).setCell (p:=⟨ib,33,none⟩) (λ_=>rfl) _;have hibr:wr.heap.size<=ib:=by rw[<-HIBE.o];exact HF3.size
      have hWR:=HWR.o;have f6:=(HF4.trans f5 (λ_ _ h=>h)).trans fs (λk hk e=>ρo);have he6:=he5.fr fs (show¬_=_ from HPI.o) (show¬_=_ by omega)
      generalize hw6:w5.setCell ⟨ib,33,none⟩ (.int .u64 k3)=w6 at b6 f6 he6
      have hen4:=b1P p s l3 64 ρo HBB3.o w6 he6;obtain⟨d4,s4,h4⟩:∃v st,a0C 64 (.ok l3)=(v,st):=⟨_,_,rfl⟩;have hk4:=a3o 64 (.ok l3);have hb4:=a3c (most:=64) (st:=.ok l3) (n:=400000000) HBB3.o;rw[h4]at hen4 hk4 hb4;rw[show((64:Nat):Int)=64 from rfl]at hen4;simp only at hk4 hb4;have hbs4:=(a4u (most:=64) (s:=.ok l3) (by obtain⟨A,c,he,_⟩:=he6;exact he.by_.bd)).2;rw[h4]at hbs4
      have hc34:(inV ⟨d1,(k2:Int),(k3:Int),[]⟩ none 0).toArray[34]? =some (.slice none 0 0):=by
       unfold inV;simp[ptL,a0a,HK1.o]
      have h34:=c0j HK1 (k2:Int) (k3:Int) d4;have⟨HW6,HB6,HF6,HIBR,H4,HBB4,HK4,HC34⟩:=η8 hw6 b6 f6 hibr h4 hb4 hk4 hc34;have⟨H34,HBS4⟩:=η2 h34 hbs4;clear hw6 b6 f6 hibr h4 hb4 hk4 hc34 h34 hbs4 he5 f5 b5 fs he6 hen3 hWR;go_upto_region 5 with fail
      rw[HW6.o];clear q33 z33;go_wp2_with fail;refine μ1 hen4 ?_;rintro e w7 ⟨he,f7⟩
      cases s4 with
      |
       error x=>
       obtain rfl:=he;exact⟨rfl,HIE.o x _ (by rw[b1T H1.o H2.o H3.o H4.o]) ((HF.trans HF6.o (λ_ _ h=>h)).trans f7 (λ_ _ h=>h))⟩
      |
       ok l4=>
       obtain⟨⟨u,rfl,ho⟩,he7⟩:=he;obtain⟨i,hi⟩:∃i:InD,i=⟨d1,(k2:Int),(k3:Int),d4⟩:=⟨_,rfl⟩
       have hIB:i.Bd:=by
        have h5:=(b3M (s:=.ok l0) (by have:=a2c (most:=16) (s:=.ok l) HBY.o;rw[H0.o]at this;exact this) (j+1)).1;rw[HI.o,b1T H1.o H2.o H3.o H4.o]at h5;rw[hi];exact h5 _ ρp
       obtain⟨As,cs,hu,hyb,hAs,hcs⟩:=ho.byt HBS4;subst hu;have hls:=λk hk=>ho.lt (k:=k) hk
       have hnil:=a8w ho;have b7:=HB6.fr f7 (λe=>HPI.o e.symm);have q34:w7.cell? ⟨ib,34,none⟩=some (.slice none 0 0):=(b7.cell 34).trans HC34;have z34:=b7.frozen 34;have b8:=b7.set_ 34 (.slice As d4.length cs);rw[H34.o,<-hi]at b8;have fs:Fr (λk=>k=ib) w7 (w7.setCell ⟨ib,34,none⟩ (.slice As d4.length cs)):=(Qp (λk=>k=ib) w7).setCell (p:=⟨ib,34,none⟩) (λ_=>rfl) _;have hib6:=HB6.lt;have hyb8:=hyb.fr fs (λa ha _=>by have:=hAs a ha;omega);have f8:=(HF6.trans f7 (λ_ _ h=>h)).trans fs (λk hk e=>by have:=HIBR.o;omega);have he8:=he7.fr fs (show¬_=_ from HPI.o) (show¬_=_ by have:=HIBR.o;have:=HWR.o;omega)
       have hsz8:∀a,As=some a->w6.heap.size<=a.block/\a.block<w7.heap.size:=λa ha=>⟨hAs a ha,by
        subst ha;exact(hls a.block rfl).2⟩
       have hs78:=fs.size
       generalize hw8:w7.setCell ⟨ib,34,none⟩ (.slice As d4.length cs)=w8 at b8 f8 he8 hyb8 hs78
       have hB8:=HBB.fr f8 (λe=>HPG.o e.symm);have hO8:=HOWN.fr f8 (λk hk e=>by have:=(HOWN.lt hk).1;have:=HG.o;omega);have hR8:=HROW.fr f8 (λk hk _ e=>by have:=HG.o;omega);obtain⟨Av,Nv,cv,rfl,hNv⟩:=hO8.formN;have hq0:w8.cell? ⟨g,0,none⟩=some (.slice Av Nv cv):=hB8.cell 0;have hld:=Pb uIn iIn (inV i As cs) b8 (a3l hIB As cs);have hbs:=Pd d0z d2a ρo ρo w8 (.agg (inV i As cs).toArray) (by simp[Value.cells,a3l hIB]);simp only[Value.cells]at hbs
       have hRl:R.length<=16:=by
        have:=HROW.len
        have:=HJL.o
        omega
       have hg8:=hB8.lt;obtain⟨v',w9,hap,hO9,hf9,hft9⟩:=a5o (P:=prog) (ty:=50) d0z d3q ρo ρo hO8 (inV i As cs) (a3l hIB As cs) (a8W i As cs) ρo ρo;obtain⟨A9,N9,c9,rfl,hN9⟩:=hO9.formN
       have hfar8:∀a,As=some a->g+1<=a.block/\a.block<w8.heap.size/\(Value.slice Av Nv cv).ownBlock≠some a.block:=λa ha=>by
        have h1:=hsz8 a ha;have h2:=HIBR.o;have h3:=HGW.o;refine⟨by omega,by omega,λe=>?_⟩
        have:=(HOWN.lt e).2
        omega
       have hsi:i.sec=d4:=by rw[hi]
       have hR9:=(hR8.snoc (i:=i) (ρy hsi hyb8) (ρy hsi hcs) hnil (ρy hsi HK4.o) hfar8).grow hf9 hft9;have hvg:(Value.slice Av Nv cv).ownBlock≠some g:=a4l hO8.own hB8 ρd;have hvp:(Value.slice Av Nv cv).ownBlock≠some p:=λe=>by have:=(hO8.lt e).1;have:=HG.o;omega
       have hvs:(Value.slice Av Nv cv).ownBlock≠some s:=λe=>by have:=(hO8.lt e).1;have:=HG.o;omega
       have hB9:=hB8.fr hf9 (λe=>hvg e);have he9:=he8.fr hf9 (λe=>hvp e) (λe=>hvs e);have q9:w9.cell? ⟨g,0,none⟩=some (.slice Av Nv cv):=hB9.cell 0;have z9:=hB9.frozen 0;have hB10:Blk (w9.setCell ⟨g,0,none⟩ (.slice A9 N9 c9)) g 53 #[.slice A9 N9 c9,.slice none 0 0,.int .u64 0,.int .i64 0]:=by simpa using hB9.set_ 0 (.slice A9 N9 c9)
       have fs2:Fr (λk=>k=g) w9 (w9.setCell ⟨g,0,none⟩ (.slice A9 N9 c9)):=(Qp (λk=>k=g) w9).setCell (p:=⟨g,0,none⟩) (λ_=>rfl) _;have he10:=he9.fr fs2 (show¬_=_ from HPG.o) (show¬_=_ by have:=HG.o;omega);have hO10:=hO9.fr fs2 (λk hk e=>by have:=(hO9.lt hk).1;omega);have hR10:=hR9.fr fs2 (λk hk _ e=>ρo);have hfin:Fr (λk=>k=p) w (w9.setCell ⟨g,0,none⟩ (.slice A9 N9 c9)):=((HF.trans f8 (λ_ _ h=>h)).trans hf9 (λk hk e=>by have:=(hO8.lt e).1;have:=HG.o;omega)).trans fs2 (λk hk e=>by have:=HG.o;omega);have hI2:a6d (j+1) (.ok l0)=(L++[i],.ok l4):=by rw[HI.o,b1T H1.o H2.o H3.o H4.o,<-hi]
       have⟨xs,hxs⟩:=η0 ((inV i As cs).toArray);rw[hxs]at hld hbs hap;have⟨n4,hn4⟩:=η0 d4.length;rw[hn4]at hw8;rw[hn4];have⟨HO10,HR10,HB10,HE10,HFIN,HW8,HI2⟩:=η7 hO10 hR10 hB10 he10 hfin hw8 hI2;clear hO10 hR10 hB10 he10 hfin hw8 hI2 hen4 ho hyb hAs hcs hls hnil b7 b8 fs hib6 hyb8 f8 he8 hsz8 hB8 hO8 hR8 hNv hRl hg8 hO9 hf9 hft9 hN9 hfar8 hR9 hvg hvp hvs hB9 he9 fs2 hxs f7 he7 hs78 hsi hIB hi hn4;go_upto_region 6 with fail
       rw[HW8.o];clear q34 z34;go_wp2;go_roundg (n-(j+1));exact⟨j+1,.slice A9 N9 c9,_,L++[i],l4,by omega,by go_num,HI2.o,HO10.o,HR10.o,HB10.o,HE10.o,HFIN.o⟩;omega
  obtain rfl:j=n:=ρo;obtain⟨wo,hwo⟩:∃wo,wo=wr:=⟨_,rfl⟩;subst hwo;have hgw:=hB.lt;have hlj:=b0X (s:=.ok l0) (n:=400000000) HBB0.o j;rw[hIR]at hlj;simp only at hlj;have hen5:=a5w p s lj 16 ρo (by have:lj.length<=400000000:=hlj;omega) wo hE;obtain⟨k5,s5,h5⟩:∃v st,a0o 16 (.ok lj)=(v,st):=⟨_,_,rfl⟩;have hk5:=a0P 16 (.ok lj);have hb5:=a1b (most:=16) (st:=.ok lj) (n:=400000000) hlj;rw[h5]at hen5 hk5 hb5;rw[show((16:Nat):Int)=16 from rfl]at hen5;simp only at hen5 hk5 hb5;have⟨HIR,HOWN,HROW,HBB,HF,H5,HBB5,HGW⟩:=η8 hIR hOwn hRow hB hF h5 hb5 hgw;clear hIR hOwn hRow hB hF h5 hb5 hgw hE;go_wp2_with fail;refine μ1 hen5 ?_;rintro e x1 ⟨he,f1⟩;have⟨m,hm⟩:=η0 k5;rw[hm]at hk5 he H5
  cases s5 with
  |
   error x=>
   obtain rfl:=he;exact⟨rfl,HBAD.o x _ (c5F H0.o HIR.o H5.o) (HF.trans f1 (λ_ _ h=>h))⟩
  |
   ok l5=>
   obtain⟨rfl,he1⟩:=he;have hB1:=HBB.fr f1 (λe=>HPG.o e.symm);have f1':=f1.mono (G:=λk=>k=p\/k=g) (λ_ _ h=>.inl h);have hsx:=f1.size;have⟨HE1,F1,HSX⟩:=η3 he1 f1' hsx;clear he1 f1' hsx f1 hen5;go_upto_region 9 with fail
   go_loopg [4,31] m (λkk _ c wr=>∃(q:Nat) (u:VL) (O:List a1q) (lj:LI),q+kk=m/\c=.int .u64 q/\a3g q (.ok l5)=(O,.ok lj)/\a0T 56 33 wo.heap.size wr u (O.map a1s)/\Blk wr g 53 #[v,u,.int .u64 0,.int .i64 0]/\a0S wr p s lj/\Fr (λk=>k=p\/k=g) wo wr);exact⟨0,.slice none 0 0,[],l5,by omega,rfl,a4B _,by simpa using a0T.nil _ _ _ _,hB1,HE1.o,F1.o⟩;obtain⟨q,u,O,lq,hq,rfl,hOR,hOu,hBx,hEx,hFx⟩:=hrel;clear hB1;have hgr:g<wo.heap.size:=HGW.o;have hWr:w.heap.size<=wo.heap.size:=HF.size;have hlq:=b1U (s:=.ok l5) (n:=400000000) HBB5.o q;have hql:=a8d (.ok l5) q;rw[hOR]at hlq hql;simp only at hlq hql;have hxs:wo.heap.size<=wr.heap.size:=hFx.size;have fW:Fr (λk=>k=p) w wr:=HF.trans hFx (λk hk e=>by rcases e with e | e;exact e;have:=HG.o;omega)
   by_cases hltq:q<m
   ·have hltqI:(q:Int)<m:=ρo
    have hen6:=c4T p s lq (by have:lq.length<=400000000:=hlq;omega) wr hEx ρo ρo;obtain⟨d6,s6,h6⟩:∃v st,idT (.ok lq)=(v,st):=⟨_,_,rfl⟩;have hk6:=a1R (.ok lq);have hb6:=a3U (st:=.ok lq) (n:=400000000) hlq;rw[h6]at hen6 hk6 hb6;simp only at hen6 hk6 hb6;have hbin:=λW=>c3I hk6 W
    have hovl:(a1s ⟨d6,0⟩).length=33:=by simp[a1s,a0a,hk6]
    have hov1:=a1O ⟨d6,0⟩;have h32:=λ(A:Int)=>b8A hk6 A
    have hc32:(a1s ⟨d6,0⟩).toArray[32]? =some (.int .u64 0):=by
     unfold a1s;simp[a0a,hk6]
    have⟨ov,hov⟩:=η0 (a1s ⟨d6,0⟩);simp only[hov]at hbin h32 hc32;rw[hov]at hovl hov1;have⟨tv,htv⟩:=η0 ((bys d6).toArray);simp only[htv]at hen6 hbin;have hO:=a8H hOR;have⟨HOU,HBX,HFX,H6,HBB6,H32,HC32,HOV1⟩:=η8 hOu hBx hFx h6 hb6 h32 hc32 hov1;have⟨HOVL,HXS,HO,HK6,HQL,FW⟩:=η6 hovl hxs hO hk6 hql fW;clear hOu hBx hFx h6 hb6 h32 hc32 hov1 hovl hxs hO hk6 hql fW hOR hov htv hEx hlq;go_wp2_with fail;refine μ1 hen6 ?_;rintro e x2 ⟨he,f2⟩
    have hie:∀(x:Int) (w':WD),(b0P (.ok lq)).2=.error x->Fr (λk=>k=p) w w'->b5j g p s l (.panicked [{v:=a1T x,recovered:=false}]) w'/\Fr (λk=>k=p) w w':=λx w' hx hf=>by
     have h5:=HO.o;rw[hx]at h5;have h6:=a4G h5 (m-(q+1));rw[show q+1+(m-(q+1))=m by omega]at h6;exact HBAD.o x w' (c4K H0 HIR H5 h6) hf
    have HIE:=η1 hie;clear hie
    cases s6 with
    |
     error x=>
     obtain rfl:=he;exact⟨rfl,HIE.o x _ (by rw[b2F H6.o (a3t _ _)]) (FW.trans f2 (λ_ _ h=>h))⟩
    |
     ok l6=>
     obtain⟨rfl,he2⟩:=he;have hal3:=halo x2;have hst3:=HBO.o x2 ov HOVL HOV1;have b3:=Qd x2 56 (ov.toArray);have B3:=ρb x2 (.cells (ov.toArray) 56)
     generalize hx3:x2.alloc (.cells (ov.toArray) 56)=x3 at b3 B3
     have⟨ob,hob0⟩:=ηs x2;rw[hob0]at b3;have f3:=f2.trans (Q9 B3) (λk hk h=>by have:=f2.size;omega);have hobx:wr.heap.size<=ob:=by rw[<-hob0];exact f2.size
     have he3:a0S x3 p s l6:=he2.fr (Q9 B3) (show¬_<=_ by have:=HXS.o;omega) (show¬_<=_ by have:=HXS.o;omega);have hpo:=he3.far b3 ρd;have hen7:=a5w p s l6 18446744073709551615 ρo (by have:l6.length<=400000000:=HBB6.o;omega) x3 he3;obtain⟨k7,s7,h7⟩:∃v st,a0o 18446744073709551615 (.ok l6)=(v,st):=⟨_,_,rfl⟩;have hk7:=a0P 18446744073709551615 (.ok l6);have hb7:=a1b (most:=18446744073709551615) (st:=.ok l6) (n:=400000000) HBB6.o;rw[h7]at hen7 hk7 hb7;rw[show((18446744073709551615:Nat):Int)=18446744073709551615 from rfl]at hen7;simp only at hen7 hk7 hb7;have⟨HX3,HB3,HF3,HPO,HOBE,HOBX,H7,HBB7⟩:=η8 hx3 b3 f3 hpo hob0 hobx h7 hb7;clear hx3 b3 f3 hpo hob0 hobx h7 hb7 he2 B3 he3 f2 hen6;go_upto_region 11 with fail
     rw[HX3.o,HOBE.o];clear hal3 hst3 hbin;go_wp2_with fail;refine μ1 hen7 ?_;rintro e x4 ⟨he,f4⟩
     cases s7 with
     |
      error x=>
      obtain rfl:=he;exact⟨rfl,HIE.o x _ (by rw[b2F H6.o H7.o]) ((FW.trans HF3.o (λ_ _ h=>h)).trans f4 (λ_ _ h=>h))⟩
     |
      ok l7=>
      obtain⟨rfl,he4⟩:=he;obtain⟨o,ho⟩:∃o:a1q,o=⟨d6,(k7:Int)⟩:=⟨_,rfl⟩
      have hOB:o.Bd:=by
       have h8:=(b3H (s:=.ok l5) (by
        have h9:=(b3M (s:=.ok l0) (by have:=a2c (most:=16) (s:=.ok l) HBY.o;rw[H0.o]at this;exact this) j).2;rw[HIR.o]at h9
        have:=a2c (most:=16) (s:=.ok lj) h9
        rw[H5.o]at this;exact this) (q+1)).1
       rw[HO.o,b2F H6.o H7.o]at h8;rw[ho];exact h8 _ ρp
      have b4:=HB3.fr f4 (λe=>HPO.o e.symm);have q32:x4.cell? ⟨ob,32,none⟩=some (.int .u64 0):=(b4.cell 32).trans HC32;have z32:=b4.frozen 32;have b5:=b4.set_ 32 (.int .u64 k7);rw[H32.o,<-ho]at b5;have fs:Fr (λk=>k=ob) x4 (x4.setCell ⟨ob,32,none⟩ (.int .u64 k7)):=(Qp (λk=>k=ob) x4).setCell (p:=⟨ob,32,none⟩) (λ_=>rfl) _;have hobx:=HOBX.o;have hxx:=HXS.o;have f5:=(HF3.trans f4 (λ_ _ h=>h)).trans fs (λk hk e=>ρo);have he5:=he4.fr fs (show¬_=_ from HPO.o) (show¬_=_ by omega)
      generalize hx5:x4.setCell ⟨ob,32,none⟩ (.int .u64 k7)=x5 at b5 f5 he5
      have hB5:=HBX.fr f5 (λe=>HPG.o e.symm);have hO5:=HOU.fr f5 (λk hk e=>by have:=(HOU.lt hk).1;omega);obtain⟨Av,Nv,cv,rfl,hNv⟩:=hO5.formN;have hq1:x5.cell? ⟨g,1,none⟩=some (.slice Av Nv cv):=hB5.cell 1;have hld:=Pb d1I c6h (a1s o) b5 (a0G hOB);have hbs:=Pd c6y d1b ρo ρo x5 (.agg (a1s o).toArray) (by simp[Value.cells,a0G hOB]);simp only[Value.cells]at hbs;have hg5:=hB5.lt;have hfs5:=f5.size;obtain⟨u',x6,hap,hO6,hf6,-⟩:=a5o (P:=prog) (ty:=51) c6y d2i ρo ρo hO5 (a1s o) (a0G hOB) (a1O o) (by rw[Qw];have:=HQL.o;omega) ρo;obtain⟨A6,N6,c6,rfl,hN6⟩:=hO6.formN;have hvg:(Value.slice Av Nv cv).ownBlock≠some g:=a4l hO5.own hB5 ρd;have hvp:(Value.slice Av Nv cv).ownBlock≠some p:=λe=>by have:=(hO5.lt e).1;omega
      have hvs:(Value.slice Av Nv cv).ownBlock≠some s:=λe=>by have:=(hO5.lt e).1;omega
      have hB6:=hB5.fr hf6 (λe=>hvg e);have he6:=he5.fr hf6 (λe=>hvp e) (λe=>hvs e);have q6:x6.cell? ⟨g,1,none⟩=some (.slice Av Nv cv):=hB6.cell 1;have z6:=hB6.frozen 1;have hB7:Blk (x6.setCell ⟨g,1,none⟩ (.slice A6 N6 c6)) g 53 #[v,.slice A6 N6 c6,.int .u64 0,.int .i64 0]:=by simpa using hB6.set_ 1 (.slice A6 N6 c6)
      have fs2:Fr (λk=>k=g) x6 (x6.setCell ⟨g,1,none⟩ (.slice A6 N6 c6)):=(Qp (λk=>k=g) x6).setCell (p:=⟨g,1,none⟩) (λ_=>rfl) _;have he7:=he6.fr fs2 (show¬_=_ from HPG.o) (show¬_=_ by have:=HG.o;omega);have hO7:=hO6.fr fs2 (λk hk e=>by have:=(hO6.lt hk).1;have:=HGW.o;omega);rw[show O.map a1s++[a1s o]=(O++[o]).map a1s by rw[QV];rfl]at hO7;have hfin:Fr (λk=>k=p\/k=g) wo (x6.setCell ⟨g,1,none⟩ (.slice A6 N6 c6)):=((HFX.trans (f5.mono (G:=λk=>k=p\/k=g) (λ_ _ h=>.inl h)) (λ_ _ h=>h)).trans hf6 (λk hk e=>by have:=(hO5.lt e).1;omega)).trans fs2 (λk hk e=>.inr e);have hO2:a3g (q+1) (.ok l5)=(O++[o],.ok l7):=by rw[HO.o,b2F H6.o H7.o,<-ho]
      have⟨xs,hxs⟩:=η0 ((a1s o).toArray);rw[hxs]at hld hbs hap;have⟨HO7,HB7,HE7,HFIN,HX5,HO2⟩:=η6 hO7 hB7 he7 hfin hx5 hO2;clear hO7 hB7 he7 hfin hx5 hO2 hen7 b4 b5 fs f5 he5 hB5 hO5 hNv hg5 hfs5 hO6 hf6 hN6 hvg hvp hvs hB6 he6 fs2 hxs f4 he4 hobx hxx hOB ho;go_upto_region 12 with fail
      rw[HX5.o];clear q32 z32;go_wp2;go_roundg (m-(q+1));exact⟨q+1,.slice A6 N6 c6,O++[o],l7,by omega,by go_num,HO2.o,HO7.o,HB7.o,HE7.o,HFIN.o⟩;omega
   obtain rfl:q=m:=ρo;obtain⟨x,hx⟩:∃x,x=wr:=⟨_,rfl⟩;subst hx;have hen8:=a5w p s lq 18446744073709551615 ρo (by have:lq.length<=400000000:=hlq;omega) x hEx;obtain⟨k8,s8,h8⟩:∃v st,a0o 18446744073709551615 (.ok lq)=(v,st):=⟨_,_,rfl⟩;have hk8:=a0P 18446744073709551615 (.ok lq);have hb8:=a1b (most:=18446744073709551615) (st:=.ok lq) (n:=400000000) hlq;rw[h8]at hen8 hk8 hb8;rw[show((18446744073709551615:Nat):Int)=18446744073709551615 from rfl]at hen8;simp only at hen8 hk8 hb8;have⟨HOR,HOU,HBX,HFX,FW,H8,HBB8⟩:=η7 hOR hOu hBx hFx fW h8 hb8;clear hOR hOu hBx hFx fW h8 hb8 hEx;go_wp2_with fail;refine μ1 hen8 ?_;rintro e x3 ⟨he,f3⟩
   cases s8 with
   |
    error x=>
    obtain rfl:=he;exact⟨rfl,HBAD.o x _ (by rw[b2e H0.o HIR.o H5.o HOR.o H8.o (a3t _ _)]) (FW.trans f3 (λ_ _ h=>h))⟩
   |
    ok l8=>
    obtain⟨rfl,he3⟩:=he;have hB3:=HBX.fr f3 (λe=>HPG.o e.symm);have q3:x3.cell? ⟨g,2,none⟩=some (.int .u64 0):=hB3.cell 2;have z3:=hB3.frozen 2;have hB4:Blk (x3.setCell ⟨g,2,none⟩ (.int .u64 k8)) g 53 #[v,u,.int .u64 k8,.int .i64 0]:=by simpa using hB3.set_ 2 (.int .u64 k8)
    have fs:Fr (λk=>k=g) x3 (x3.setCell ⟨g,2,none⟩ (.int .u64 k8)):=(Qp (λk=>k=g) x3).setCell (p:=⟨g,2,none⟩) (λ_=>rfl) _;have he4:=he3.fr fs (show¬_=_ from HPG.o) (show¬_=_ by have:=HG.o;omega);have f4:Fr (λk=>k=p\/k=g) x (x3.setCell ⟨g,2,none⟩ (.int .u64 k8)):=(f3.mono (G:=λk=>k=p\/k=g) (λ_ _ h=>.inl h)).trans fs (λk hk e=>.inr e)
    generalize hx4:x3.setCell ⟨g,2,none⟩ (.int .u64 k8)=x4 at hB4 he4 f4
    have hen9:=a5w p s l8 1099511627776 ρo (by have:l8.length<=400000000:=HBB8.o;omega) x4 he4;obtain⟨k9,s9,h9⟩:∃v st,a0o 1099511627776 (.ok l8)=(v,st):=⟨_,_,rfl⟩;have hk9:=a0P 1099511627776 (.ok l8);have hb9:=a1b (most:=1099511627776) (st:=.ok l8) (n:=400000000) HBB8.o;rw[h9]at hen9 hk9 hb9;rw[show((1099511627776:Nat):Int)=1099511627776 from rfl]at hen9;simp only at hen9 hk9 hb9;have hw9:=a1r hk9 ρo;have⟨HX4,HB4,F4,H9⟩:=η4 hx4 hB4 f4 h9;clear hx4 hB4 f4 h9 hB3 fs he3 he4 f3 hen8;go_upto_region 15 with fail
    rw[HX4.o];clear q3 z3;go_wp2_with fail;refine μ1 hen9 ?_;rintro e x5 ⟨he,f5⟩;have hTx:=b2e H0 HIR H5 HOR H8 H9;have F5:=FW.trans (F4.trans (f5.mono (G:=λk=>k=p\/k=g) (λ_ _ h=>.inl h)) (λ_ _ h=>h)) (λk hk e=>by rcases e with e | e;exact e;have:=HG.o;omega)
    cases s9 with
    |
     error x=>
     obtain rfl:=he;exact⟨rfl,HBAD.o x _ (by rw[hTx]) (F5)⟩
    |
     ok l9=>
     obtain⟨rfl,he5⟩:=he;have hBt:(⟨L,O,(k8:Int),(k9:Int)⟩:TxD).Bd:=by have:=HBDT.o;rw[hTx]at this;exact this
     have hB5:=HB4.fr f5 (λe=>HPG.o e.symm);have q5:x5.cell? ⟨g,3,none⟩=some (.int .i64 0):=hB5.cell 3;have z5:=hB5.frozen 3;have fs:Fr (λk=>k=g) x5 (x5.setCell ⟨g,3,none⟩ (.int .i64 k9)):=(Qp (λk=>k=g) x5).setCell (p:=⟨g,3,none⟩) (λ_=>rfl) _;have f6:Fr (λk=>k=p\/k=g) x (x5.setCell ⟨g,3,none⟩ (.int .i64 k9)):=(F4.trans (f5.mono (G:=λk=>k=p\/k=g) (λ_ _ h=>.inl h)) (λ_ _ h=>h)).trans fs (λk hk e=>.inr e);have hgw2:=HGW.o;have hGG:=HG.o;have hOi:=(HOWN.fr HFX.o (λk hk e=>by have:=(HOWN.lt hk).1;rcases e with e | e<;>omega)).fr f6 (λk hk e=>by have:=(HOWN.lt hk).1;rcases e with e | e<;>omega);have hRi:=(HROW.fr HFX.o (λk hk _ e=>by rcases e with e | e<;>omega)).fr f6 (λk hk _ e=>by rcases e with e | e<;>omega);have hOo:=HOU.fr f6 (λk hk e=>by have:=(HOU.lt hk).1;rcases e with e | e<;>omega)
     obtain⟨A1,c1,A2,c2,rfl,rfl,hfar⟩:=a4W.of hOi hRi (hOo.base (B':=g+1) ρo) hBt;have hB6:Blk (x5.setCell ⟨g,3,none⟩ (.int .i64 k9)) g 53 #[.slice A1 L.length c1,.slice A2 O.length c2,.int .u64 k8,.int .i64 k9]:=by simpa using hB5.set_ 3 (.int .i64 k9)
     have he6:=he5.fr fs (show¬_=_ from HPG.o) (show¬_=_ by omega);have F6:=FW.trans f6 (λk hk e=>by rcases e with e | e;exact e;omega);have⟨xs,hxs⟩:=η0 ([.slice A1 L.length c1,.slice A2 O.length c2,.int .u64 k8,.int .i64 k9]:LV);have hxl:xs.length=4:=by rw[<-hxs];rfl
     have hx1:∀v∈xs,v.oneCell'=true:=by rw[<-hxs];simp[Value.oneCell']
     replace hB6:Blk (x5.setCell ⟨g,3,none⟩ (.int .i64 k9)) g 53 xs.toArray:=by rw[<-hxs];exact hB6
     generalize hx6:x5.setCell ⟨g,3,none⟩ (.int .i64 k9)=x6 at hB6 he6 F6 hfar
     have hld:=Pb d1L b8N xs hB6 hxl;have hst:=P7 b8N hB6 (ρy Qc hxl) xs hxl hx1;have fs4:=ρr (g) x6 xs.toArray;have he7:=he6.fr fs4 (show¬_=_ from HPG.o) (show¬_=_ by omega);have hfar7:=(hfar.fr fs4 (λk hk e=>ρo)).base (b':=g) ρo;have F7:=F6.trans fs4 (λk hk e=>ρo);have hb7:=hB6.row_ xs.toArray
     have hfin:b5j g p s l (.returned (.agg xs.toArray)) (x6.setRow g xs.toArray)/\Fr (λk=>k=p) w (x6.setRow g xs.toArray):=by
      refine⟨?_,F7⟩;unfold b5j;rw[hTx];refine⟨⟨A1,c1,A2,c2,?_,hfar7⟩,he7⟩;rw[<-hxs]
      rfl
     have⟨HX6,HFIN,HB7,HXL⟩:=η4 hx6 hfin hb7 hxl;clear hx6 hfin hb7 hxl hen9 hB5 fs f6 hgw2 hGG hOi hRi hOo hB6 he6 F6 hxs hx1 fs4 he7 hfar7 F7 he5 f5 hfar F5 hTx hBt;go_upto_region 16 with fail
     rw[HX6.o];clear q5 z5;go_wp2_with fail;obtain⟨dT,hdT,hdA⟩:=Q8.1 d1L;refine bodyPost_ret (a0c rfl _ _ g 53 xs dT rfl HB7 hdT hdA (ρy HXL.o b8N)) rfl ?_;exact HFIN
def TxK(tb:Nat)(l:LI)(w w':WD):Prop:=∀r,(txT l).2=.ok r->∃A1 c1 A2 c2,Blk w' tb 53 (txV A1 c1 A2 c2 (txT l).1)/\a4W w w' A1 A2 (txT l).1
theorem b6I(p s a:Nat)(l:LI)(f:l.length<=400000000)(w:WD)(h:a0S w p s l)(g:p<w.heap.size)(j:s<w.heap.size)(d:s≠a)(b:Blk w a 53 c5J):Calls prog 134 #[.pointer p,.pointer a] w λe w'=>a6D p s (txT l).2 e w'/\Fr (λk=>k=a\/k=p) w w'/\TxK a l w w':=by
 have v:=b9z p s l f w h g j;have H:p≠a:=h.far b ρd;have O:=b.lt;have⟨st,o⟩:=η0 ((txT l).2);unfold b5j at v;rw[o]at v⊢;have⟨HT,HL,N⟩:=η3 b O o;clear b O o h;go_in;go_wp2_with fail;refine μ1 v ?_;rintro e X ⟨Z,S⟩;have K:=HT.fr S (λe=>H e.symm)
 cases st with
 |
  error x=>
  obtain rfl:=Z;exact⟨rfl,rfl,S.mono (λ_ _ e=>.inr e),λr Y=>by rw[N.o]at Y;cases Y⟩
 |
  ok r=>
  obtain⟨⟨z,B,F,D,rfl,E⟩,R⟩:=Z;have y:=P7 b8N K (by simp[c5J]) (txV z B F D (txT l).1).toList (by simp[txV]) (by simp[txV,Value.oneCell']);rw[show(txV z B F D (txT l).1).toList.toArray=txV z B F D (txT l).1 by simp]at y;have T:=ρr (a) X (txV z B F D (txT l).1);have Q:=K.row_ (txV z B F D (txT l).1);have m:=E.fr T (λk hk e=>by have:=HL.o;omega);have J:=R.fr T (show¬_=_ from H) (show¬_=_ from d);have W:=(S.mono (G:=λk=>k=a\/k=p) (λ_ _ e=>.inr e)).trans T (λk hk e=>.inl e);have I:TxK a l w (X.setRow a (txV z B F D (txT l).1)):=λ_ _=>⟨z,B,F,D,Q,m⟩
  generalize U:txV z B F D (txT l).1=xs at y J W I⊢
  have⟨V,F2,HK⟩:=η3 J W I;clear J W I K T R S v E m Q U;go_wp2;go_end0;exact⟨⟨rfl,V.o⟩,F2.o,HK.o⟩
theorem b3F(args:AV)(w:WD):(callFunc 134 args).run prog w=.ok (.enter 134 args) w:=ρk
def a6Z(b:Nat)(l:LI)(e:Ending)(w':WD):Prop:=
 match a5N l with
 | .error x=>e=.returned (.tuple #[.agg c5J,.int .i64 x])/\(x != 0)=true
 | .ok t=>∃A1 c1 A2 c2,e=.returned (.tuple #[.agg (txV A1 c1 A2 c2 t),.int .i64 0])/\a4W b w' A1 A2 t
theorem b8C(h:a8t (txT l).2≠0):a5N l=.error (a8t (txT l).2):=by
 unfold a5N
 cases hs:(txT l).2 with
 | error x=>rfl
 |
  ok r=>
  rw[hs]at h;have a:r≠[]:=λe=>by simp[a8t,e]at h
  have:0<r.length:=Ym.2 a
  simp[a8t,a,this]
theorem c2m(h:(txT l).2=.ok []):a5N l=if a1a (txT l).1=0 then .ok (txT l).1 else .error (a1a (txT l).1):=by
 unfold a5N;rw[h];exact if_neg ρp
theorem c7d(l:LI):(txT l).1.ins.length<=16/\(txT l).1.outs.length<=16:=⟨Qk (a9Z _ _) (a0P 16 _),Qk (a8d _ _) (a0P 16 _)⟩
attribute [local go_sem ↓] c4o
theorem c7G:∀v∈c5J.toList,v.oneCell'=true:=by simp[c5J,Value.oneCell']
theorem b8F(A:OA)(c:Nat)(a:A=none->c=0)(l:LI)(b:l.length<=400000000)(w:WD)(d:Byt w A l):Calls prog 81 #[.slice A l.length c] w λe w'=>a6Z w l e w'/\Below w w w':=by
 have a9:∀(fn:Fn) (first cap:AV) (w:WD),(Instr.makeFunc fn first cap).run prog w=.ok (.func fn first cap) w:=λ_ _ _ _=>rfl
 have⟨f,m⟩:=η0 c5J;have hz:f.size=4:=by rw[<-m];rfl
 have aJ:∀v∈f.toList,v.oneCell'=true:=by rw[<-m];exact c7G
 have af:∀W:WD,(ALs 53).run prog W=.ok (.pointer W) (W.alloc (.cells f 53)):=by rw[<-m];exact d0B
 have a7:∀W:WD,(BDs 53 #[]).run prog W=.ok (.agg f) W:=by rw[<-m];exact d1m
 have⟨g,hg⟩:=ηs w;have b0:=Qd w 53 f;have B0:=ρb w (.cells f 53);have K:=af w;have⟨W,hW⟩:=η0 (w.alloc (.cells f 53));have aF:W.heap.size=g+1:=by rw[<-hW,<-hg];simp
 rw[hW]at b0 B0 K;rw[hg]at b0 K;have b1:=Qd W 53 f;have ag:=b0.alloc (.cells f 53);have B1:=B0.alloc B0.size (.cells f 53);have Q:=af W
 generalize hV:W.alloc (.cells f 53)=V at b1 ag B1 Q
 rw[aF]at b1 Q;have aE:V.heap.size=g+2:=by rw[<-hV];simp;omega
 have ao:=a6Q 134 #[.pointer (g+1:Nat)] b3F A c a l b V (d.below B1) (λk=>k=g+1) (λk hk=>ρo) (txT l).2 (TxK (g+1) l)
  (λp s w2 hB hp hs a8 aX he=>b6I p s (g+1) l b w2 he aX ρo ρo (by rw[m];exact b1.fr (Q9 hB) ρo))
 have J:=b0L (c9h l);have ar:=b8C (l:=l);have⟨ev,aH⟩:=η0 (a8t (txT l).2);rw[aH]at ao J ar;have⟨aI,aY,HG,Y,aM,a2,HZ,aO⟩:=η8 ag B1 hg aE J ar hz aJ;have a0:=η1 m;clear ag B1 hg aE J ar hz aJ m b0 B0 b1 hW aF hV af aH d;go_in;go_upto_region 2 with fail
 clear K Q;go_wp2_with fail;refine μ1 ao ?_;rintro e w1 ⟨rfl,f1,w2,w3,aU,T,hK,f3⟩;have aP:=aI.fr f1 (show¬_=_ by omega);have aC:Below w w w1:=aY.trans (f1.below (B:=w.heap.size) (ρi Y.o HG.o) (λk hk e=>by have:=HG.o;omega));obtain⟨dT,ai,al⟩:=Q8.1 d1L
 have ac:∀(x:Int) (X:WD),a5N l=.error x->(x != 0)=true->Below w w X->a6Z w l (.returned (.tuple #[.agg f,.int .i64 x])) X/\Below w w X:=λx X hr hx hB=>by
  refine⟨?_,hB⟩;unfold a6Z;rw[hr];exact⟨by rw[a0.o],hx⟩
 have⟨HB,aN,aL,HK,ah,ab⟩:=η6 aP aC f3 hK T ac;clear aP aC f3 hK T ac f1 ao aU
 by_cases z:ev=0
 ·have ae:=aM.1 z
  subst z;obtain⟨A1,c1,A2,c2,av,aQ⟩:=HK.o _ ae;have T:=ah.o;have aR:=Y.o;have y:=av.fr aL.o (show¬_=_ by omega);have o:=aQ.fr aL.o (λk hk=>ρo);have S:=c2m ae;obtain⟨a1,aT⟩:=c7d l;have⟨t,ht⟩:=η0 ((txT l).1);rw[ht]at y o S a1 aT;have I:=a3L A1 c1 A2 c2 t w1 o.at_ ρo ρo;have H:=λX (hX:Below w1 w1 X)=>Pb d1L b8N (w:=X) (txV A1 c1 A2 c2 t).toList (by simpa using y.fr (Q9 hX) (ρh y.lt)) rfl
  simp only[show(txV A1 c1 A2 c2 t).toList.toArray=txV A1 c1 A2 c2 t by simp]at H;have⟨U,R⟩:=η0 (txV A1 c1 A2 c2 t);have ay:U.size=4:=by rw[<-R];rfl
  have aK:∀v∈U.toList,v.oneCell'=true:=by rw[<-R];simp[txV,Value.oneCell']
  simp only[R]at H I;have a5:=H w1 (Qf _ _);have⟨ck,aa⟩:=η0 (a1a t);rw[aa]at I S;have⟨aW,a3,aS,au,aV,aA⟩:=η6 H o R ay aK S;clear H o R ay aK S av y aQ ae ht aa T aR;go_wp2_with fail;refine μ1 I ?_;rintro e w4 ⟨rfl,D⟩;have E:=φf HB D;have r:=φt aN D
  by_cases Z:ck=0
  ·subst Z
   have a4:=aW.o w4 D;have aj:=P7 b8N E HZ U.toList (ρw au.o) aV.o;rw[show U.toList.toArray=U by simp]at aj;have fs:=ρr (g) w4 U;have ad:=((a3.below D).fr fs (λk hk e=>by have:=ah.o;have:=Y.o;omega)).base (b':=w.heap.size) (by have:=ah.o;have:=Y.o;have:=HG.o;omega);have N:Below w w (w4.setRow g U):=Ql r (ρh HG.o) _;have j:=E.row_ U;have⟨aD,aq,G⟩:=η3 ad N j;clear ad N j fs E r D I;go_wp2;refine bodyPost_ret (v:=.tuple #[.agg U,.int .i64 0]) (a0k rfl _ _ g _ _ (0,0) G.o ai al (ρy au.o b8N) rfl) rfl ?_;refine⟨?_,aq.o⟩;unfold a6Z;rw[aA.o,if_pos trivial];exact⟨A1,c1,A2,c2,by rw[aS.o],aD.o⟩
  have an:(ck != 0)=true:=ρw Z;have aj:=P7 b8N E HZ f.toList (ρw HZ.o) aO.o;rw[show f.toList.toArray=f by simp]at aj;have N:Below w w (w4.setRow g f):=Ql r (ρh HG.o) _;have j:=E.row_ f;have O:a5N l=.error ck:=by rw[aA.o,if_neg Z]
  have⟨aq,G,ak,az⟩:=η4 N j O an;clear N j O an E r D I Z;have an:=az.o;go_wp2;refine bodyPost_ret (v:=.tuple #[.agg f,.int .i64 ck]) (a0k rfl _ _ g _ _ (0,0) G.o ai al (ρy HZ.o b8N) rfl) rfl ?_;exact ab.o ck _ ak az aq
 have O:=a2.o z;have F:(ev != 0)=true:=ρw z;have a6:(ev == 0)=false:=ρw z;have aG:=P7 b8N HB HZ f.toList (ρw HZ.o) aO.o;rw[show f.toList.toArray=f by simp]at aG;have j:=HB.row_ f;have aB:=Ql (g:=g) aN.o (ρh HG.o) f;have⟨ak,G,aZ,ax⟩:=η4 O j aB F;clear O j aB F z;have F:=ax.o;go_wp2;refine bodyPost_ret (v:=.tuple #[.agg f,.int .i64 ev]) (a0k rfl _ _ g _ _ (0,0) G.o ai al (ρy HZ.o b8N) rfl) rfl ?_;exact ab.o ev _ ak ax aZ
end
section
attribute [local go_sem ↓] a2t a2s a2n a6i a3w
def c8B(b:LI):LI:=a3x (9::(a6s b.length++b))
theorem Dig.own(b:LI):Dig (c8B b):=Dig.sha _
theorem c9j(b:LI):c8B b=a3x (9::(a6s b.length++b)):=by
 rfl
theorem c0u(A:OA)(c:Nat)(j:A=none->c=0)(b:LI)(w:WD)(a:Byt w A b)(d:b.length<=400000000)(f:a2x w):Calls prog 254 #[.slice A b.length c] w λe w'=>e=.returned (.agg (bys (c8B b)).toArray)/\Below w w w':=by
 obtain⟨z,O,H⟩:=Q8.1 b9C;have I:=Pc (t:=31) z O w;have⟨Z,hZ⟩:=η0 z.cells;rw[hZ]at I H;have Q:Z.size=32:=by rw[<-QD,H];rfl
 have Y:=Qd w 31 Z;have G:=ρb w (.cells Z 31);have⟨W,T⟩:=η0 (w.alloc (.cells Z 31));have⟨g,x⟩:=ηs w;rw[T]at G I;rw[T,x]at Y;rw[x]at I;have J:=ρb W (.cells #[.slice A b.length c] 22);have v:=Qd W 22 #[.slice A b.length c];have r:=(f.below G).below J;have p:=(a.below G).below J
 generalize E:W.alloc (.cells #[.slice A b.length c] 22)=w2 at v r p J
 have y:=a8z 9 ρo W.heap.size 0 1 A c j b w2 v.lt (v.cell 0) p d r;rw[<-c9j]at y
 generalize ad:b.length=np at E⊢
 have⟨D,U⟩:=η0 (c8B b);have B:(bys D).length=32:=by rw[a0a,<-U];exact(Dig.own b).1
 rw[U]at y⊢;have N:=G.trans (J.mono G.size);have⟨o,HW,HG,K,ac,HZ,aa,ab⟩:=η8 B T x G Y Q E J;clear B U T x G Y Q E J r p v O H hZ N ad d a f;go_in;go_upto_region 1 with fail
 go_wp2_with fail;rw[aa.o];refine μi y ?_;intro w3 S;have m:=φt ab S;have F:=φf ac m;have V:=Pa (t:=31) a5m F (off:=0) (bys D) o.o (by rw[HZ.o];omega) (a0h _);rw[a0q _ _ (by rw[o.o,HZ.o])]at V;have⟨R,X⟩:=η2 m F;clear y S m F;go_wp2;exact bodyPost_ret (a0c rfl _ _ g 31 (bys D) _ rfl (X.row_ _) a5g rfl (ρy o.o a5m)) rfl ⟨rfl,Ql (K.trans (R.mono K.size)) (by rw[HG.o];omega) _⟩
attribute [local go_sem ↓] a1l
def b4F(h:a0Q):LI:=if a0w h=true then a3x (11::(a6s (a2a h).length++a2a h))else List.replicate 32 0
theorem Dig.hid(h:a0Q):Dig (b4F h):=by
 unfold b4F
 split
 ·exact Dig.sha _
 exact ZZ
theorem c5G(h:a0Q)(a:a0w h=true):b4F h=a3x (11::(a6s (a2a h).length++a2a h)):=if_pos a
theorem b1K(t:a0Q)(ht:t.Bd)(w:WD)(a:a2x w):Calls prog 49 #[.agg (a0b t).toArray] w λe w'=>e=.returned (.agg (bys (b4F t)).toArray)/\Below w w w':=by
 obtain⟨z,ag,Q⟩:=Q8.1 b9C;have⟨j,U⟩:=η0 ((a0b t).toArray);have aa:j.size=67:=by rw[<-U,Qc];exact a0f ht
 have E:=Pc (t:=31) z ag (w.alloc (.cells j 37));have⟨Z,hZ⟩:=η0 z.cells;rw[hZ]at E Q;have Y:Z.size=32:=by rw[<-QD,Q];rfl
 have b0:=(Qd w 37 j).alloc (.cells Z 31);have bz:=Qd (w.alloc (.cells j 37)) 31 Z;have B0:Below w w ((w.alloc (.cells j 37)).alloc (.cells Z 31)):=(ρb w _).alloc ρp _;simp only[Qi]at E bz;have⟨W,hW⟩:=η0 ((w.alloc (.cells j 37)).alloc (.cells Z 31));have⟨g,hg⟩:=ηs w;rw[hW]at B0 E;rw[hW,hg]at b0 bz;rw[hg]at E;have az:g<W.heap.size:=b0.lt;have ai:=Pb a1S a1h (w:=W) j.toList (ρw b0) (ρw aa);simp only[show j.toList.toArray=j by simp]at ai;have y:=a3A t ht W;rw[U]at y;have⟨D,hD⟩:=η0 (b4F t);have I:(bys D).length=32:=by rw[a0a,<-hD];exact(Dig.hid t).1
 rw[hD];have⟨HD,b,HW,HG,G,ae,HZ,al⟩:=η8 hD I hW hg B0 bz Y (a.below B0)
 have V:∀x∈(if a0w t=true then a2a t else []),0<=x/\x<=255:=by
  split
  ·exact a8g ht
  simp
 have ay:(a2a t).length<=100:=a7a ht;have⟨N,m⟩:=η2 V y;have⟨R,hR⟩:=η0 (a0w t);rw[hR]at m N;have HR:=η1 hR;clear hD I hW hg B0 bz Y a V y hR b0 ag Q hZ ht aa;rw[U]
 by_cases ah:R=true
 ·subst ah
  simp only[if_true]at m N;have hid:=c5G t HR;rw[HD.o]at hid;have ao:=η1 hid;clear hid;go_in;go_upto_region 1 with fail
  rw[HG.o];go_wp2_with fail;refine μ1 m.o ?_;rintro e w1 ⟨v,rfl,j,d⟩;obtain⟨Af,cf,aj,ad,aq,an⟩:=j.byt N;have X:Af=none->cf=0:=λe=>by subst e;subst aj;exact a0N.nulI j
  subst aj;have B:=Qd w1 22 #[.slice Af (a2a t).length cf];have B2:=ρb w1 (.cells #[.slice Af (a2a t).length cf] 22);have o:=(al.below d).below B2;have r:=ad.below B2;have H:=d.size;have T:=d.trans (B2.mono H)
  generalize J:w1.alloc (.cells #[.slice Af (a2a t).length cf] 22)=w2 at B o r T
  have S:=a8z 11 ρo w1.heap.size 0 1 Af cf X (a2a t) w2 B.lt (B.cell 0) r ρo o;rw[<-ao.o]at S
  generalize av:(a2a t).length=np at J⊢
  have⟨ak,ac⟩:=η2 J T;clear j ad aq an X B B2 o r H T J d av;go_wp2_with fail;rw[ak.o];refine μi S ?_;intro w3 ab;have p:=φt ac ab;have f:=φf ae p;have F:=Pa (t:=31) a5m f (off:=0) (bys D) b.o (by rw[HZ.o];omega) (a0h _);rw[a0q _ _ (by rw[b.o,HZ.o])]at F;have⟨af,K⟩:=η2 p f;clear S ab p f;go_wp2;exact bodyPost_ret (a0c rfl _ _ (g+1) 31 (bys D) _ rfl (K.row_ _) a5g rfl (ρy b.o a5m)) rfl ⟨rfl,Ql (G.trans (af.mono G.size)) (by rw[HG.o];omega) _⟩
 have hid:D=List.replicate 32 0:=by rw[<-HD.o];unfold b4F;rw[HR.o,if_neg ah]
 subst hid;go_in;go_upto_region 1 with fail
 rw[HG.o];go_wp2_with fail;refine μ1 m.o ?_;rintro e w1 ⟨v,rfl,j,d⟩;have f:=φf ae d;have F:=Pa (t:=31) a5m f (off:=0) (bys (List.replicate 32 0)) b.o (by rw[HZ.o];omega) (a0h _);rw[a0q _ _ (by rw[b.o,HZ.o])]at F;have au:=λW=>b1S W
 have⟨ys,O⟩:=η0 (bys (List.replicate 32 0));rw[O]at F au b;have⟨ar,ax,K⟩:=η3 O d f;clear j d f O;go_wp2;exact bodyPost_ret (a0c rfl _ _ (g+1) 31 ys _ rfl (K.row_ _) a5g rfl (ρy b.o a5m)) rfl ⟨by rw[<-ar.o],Ql (G.trans (ax.mono G.size)) (by rw[HG.o];omega) _⟩
end
section
theorem a0E:a5c.length=4:=rfl
theorem a5O:∀v∈a5c,v.oneCell'=true:=by simp[a5c,Value.oneCell']
theorem a0n:zId.length=32:=by simp[zId]
theorem c2l{k:Int}{T:LV}{C:VL}{ow id:LI}{am ser ep:Int}(x:Int):(a1Q k T C ow am ser ep id).toArray.setIfInBounds 0 (.int .i64 x)=(a1Q x T C ow am ser ep id).toArray:=by simp[a1Q]
theorem c7p(h:a0o m (.ok l)=(k,.error x)):k=0:=by
 unfold a0o at h;simp only at h
 cases h2:a4K m l with
 | error y=>rw[h2]at h;simp only[Prod.mk.injEq]at h;exact h.1.symm
 | ok q=>rw[h2]at h;simp at h
theorem b7N(n:Nat)(x:Int):a2u n (.error x)=([],.error x):=by simpa using a3D (a3G (.error x)) n
theorem b1L{s:St}(h:StE s):∀j,StE (a2u j s).2
 | 0=>by rw[a3G];exact h
 |
  j+1=>by
  have ih:=b1L h j
  cases hj:a2u j s with
  |
   mk L t=>
   rw[hj]at ih
   cases t with
   | error x=>rw[a3D hj 1];exact ih
   | ok l=>rw[a6F hj];exact a5A (s:=.ok l) trivial
theorem c4f{s:St}(h:StE s):StE (a3H k s).2:=by
 unfold a3H
 split
 ·exact a1L (a5W (a1L h))
 split
 ·exact a5A h
 split
 ·exact b1L (a1L (a5A h)) _
 split
 ·exact a1L h
 split
 ·exact a5W h
 exact h
theorem d0I(s:St):a3H 1 s=(⟨(a0o 1099511627776 s).1,(idT (a0o 1099511627776 s).2).1,(a0o 4611686018427387904 (idT (a0o 1099511627776 s).2).2).1,[],[],0,zId⟩,(a0o 4611686018427387904 (idT (a0o 1099511627776 s).2).2).2):=if_pos rfl
theorem c0h(h:2<=k/\k<=3)(s:St):a3H k s=({a4D with t:=(a0C 4096 s).1},(a0C 4096 s).2):=by
 unfold a3H;rw[if_neg ρo,if_pos h]
theorem c2N(h:4<=k/\k<=6)(s:St):a3H k s=({a4D with t:=(a0C 4096 s).1,cs:=(a2u (a0o 16 (a0C 4096 s).2).1 (a0o 16 (a0C 4096 s).2).2).1},(a2u (a0o 16 (a0C 4096 s).2).1 (a0o 16 (a0C 4096 s).2).2).2):=by
 unfold a3H;rw[if_neg ρo,if_neg ρo,if_pos h]
theorem d0M(s:St):a3H 7 s=({a4D with ep:=(a0o 1099511627776 s).1},(a0o 1099511627776 s).2):=by
 unfold a3H;rw[if_neg ρo,if_neg ρo,if_neg ρo,if_pos rfl]
theorem c9L(s:St):a3H 8 s=(a4D,s):=by
 unfold a3H;rw[if_neg ρo,if_neg ρo,if_neg ρo,if_neg ρo,if_neg ρo]
theorem d1d(s:St):a3H 9 s=({a4D with id:=(idT s).1},(idT s).2):=by
 unfold a3H;rw[if_neg ρo,if_neg ρo,if_neg ρo,if_neg ρo,if_pos rfl]
def a5Z(l:LI):St:=if okS (a0o 9 (.ok l)).2=true/\(a0o 9 (.ok l)).1=0 then .error 25 else(a3H (a0o 9 (.ok l)).1 (a0o 9 (.ok l)).2).2
theorem b4o(l:LI):StE (a5Z l):=by
 unfold a5Z
 split
 ·simp[StE]
 exact c4f (a1L (s:=.ok l) trivial)
structure a5Q(b:Nat)(w:WD)(R:LW)(L:LL):Prop where
 len:R.length=L.length
 at_:∀j (h:j<L.length),∃v,R[j]? =some [v]/\a0N b w v L[j]
theorem a5Q.nil(b:Nat)(w:WD):a5Q b w [] []:=⟨rfl,λj h=>absurd h ρp⟩
theorem a5Q.fr{b:Nat}{w a:WD}{R:LW}{L:LL}{F:Nat->Prop}(h:a5Q b w R L)(d:Fr F w a)(f:∀k cs,b<=k->Blk w k 5 cs->¬F k):a5Q b a R L:=⟨h.len,λj hj=>by
 obtain⟨v,h1,h2⟩:=h.at_ j hj;refine⟨v,h1,h2.fr d (λk hk=>?_)⟩;obtain⟨cs,hb,_⟩:=a2B h2 hk;exact f k cs (h2.lt hk).1 hb⟩
theorem a5Q.snoc(h:a5Q b w R L){t:LI}(ht:a0N b w v t):a5Q b w (R++[[v]]) (L++[t]):=by
 have d:=h.len;refine⟨by simp[d],λj f=>?_⟩
 by_cases a:j<L.length
 ·obtain⟨u,m,g⟩:=h.at_ j a
  rw[ZK a,QO ρo];exact⟨u,m,g⟩
 obtain rfl:j=L.length:=by simp at f;omega
 refine⟨v,?_,?_⟩
 ·rw[QL ρo];simp[d]
 simpa using ht
theorem a0N.fr8{a:WD}{F:Nat->Prop}(h:a0N B w v l)(b:Fr F w a)(d:∀k cs,B<=k->Blk w k 5 cs->¬F k):a0N B a v l:=h.fr b (λk hk=>by
 obtain⟨cs,hb,_⟩:=a2B h hk;exact d k cs (h.lt hk).1 hb)
structure LkC(g p s:Nat)(w w':WD)(k:Int)(r:b8k)(l:LI):Prop where
 com:Blk w' g 58 (a1Q k a5c (.slice none 0 0) r.ow r.am r.ser r.ep r.id).toArray
 txt:∃vt vc R,Blk w' (g+1) 171 #[vt,vc]/\a0N (g+2) w' vt r.t/\a0T 22 1 (g+2) w' vc R/\a5Q (g+2) w' R r.cs
 eye:a0S w' p s l
 fr:Fr (λk=>k=p) w w'
 ow:r.ow.length=32
 id:r.id.length=32
section
variable {g p s:Nat} {w w1 w2:WD} {k:Int} {r:b8k} {l l':LI}
theorem LkC.step(h:LkC g p s w w1 k r l)(d:w.heap.size=g)(f:p<g)(a:Fr (λk=>k=p) w1 w2)(b:a0S w2 p s l'):LkC g p s w w2 k r l':=by
 obtain⟨x,v,R,z,m,o,y⟩:=h.txt;exact⟨h.com.fr a ρo,⟨x,v,R,z.fr a ρo,m.fr a (λk j e=>by have:=(m.lt j).1;omega),o.fr a (λk j e=>by have:=(o.lt j).1;omega),y.fr a (λk cs j _ e=>ρo)⟩,b,h.fr.trans a (λ_ _ e=>e),h.ow,h.id⟩
theorem LkC.keep(h:LkC g p s w w1 k r l)(a:Fr (λ_=>False) w1 w2):LkC g p s w w2 k r l:=by
 obtain⟨d,b,R,m,f,o,j⟩:=h.txt;exact⟨h.com.fr a (λe=>e),⟨d,b,R,m.fr a (λe=>e),f.fr a (λ_ _ e=>e),o.fr a (λ_ _ e=>e),j.fr a (λ_ _ _ _ e=>e)⟩,h.eye.fr a (λe=>e) (λe=>e),h.fr.trans a (λ_ _ e=>e.elim),h.ow,h.id⟩
theorem LkC.put(h:LkC g p s w w1 k r l)(v:w.heap.size=g)(x:p<g)(y:s<g){a:b8k}{d:Int}(f:Blk w2 g 58 (a1Q d a5c (.slice none 0 0) a.ow a.am a.ser a.ep a.id).toArray)(b:Fr (λj=>j=g) w1 w2)(ht:a.t=r.t)(m:a.cs=r.cs)(o:a.ow.length=32)(hi:a.id.length=32):LkC g p s w w2 d a l:=by
 obtain⟨F,E,R,H,B,D,G⟩:=h.txt;exact⟨f,⟨F,E,R,H.fr b ρo,by rw[ht];exact B.fr b (λk z e=>by have:=(B.lt z).1;omega),D.fr b (λk z e=>by have:=(D.lt z).1;omega),by rw[m];exact G.fr b (λk cs z _ e=>ρo)⟩,h.eye.fr b ρo ρo,h.fr.trans b (λk z e=>ρo),o,hi⟩
end
theorem b0y{P:PG}{fn:Func}{p q:Tmp}{ty a:TI}(h:fn.results=#[.cell p ty,.cell q a])(tmps:AV)(w:WD)(g g':Nat)(t m:TI)(cs b:AV)(fr f:Nat×Nat){d j:TypeDesc} (hg:w.heap[g]? =some (.cells cs t fr)) (hu:P.underlying ty=some d) (hd:a1f d=true) (hi:(P.info? ty).map (·.size)=some cs.size) (hp:tmps.getD p undef=.pointer g) (hg':w.heap[g']? =some (.cells b m f)) (hu':P.underlying a=some j) (hd':a1f j=true) (hi':(P.info? a).map (·.size)=some b.size) (hq:tmps.getD q undef=.pointer g'):(results fn tmps).run P w=.ok (.tuple #[.agg cs,.agg b]) w:=by
 have r:tmps[p]?.getD undef=.pointer g:=ρw hp;have o:tmps[q]?.getD undef=.pointer g':=ρw hq;simp[results,h,r,o,asAddr,run_loadVar_row w g t ty cs fr d hg hu (by cases d<;>simp_all [a1f]) hi,run_loadVar_row w g' m a b f j hg' hu' (by cases j<;>simp_all [a1f]) hi']
def b2w(g p s:Nat)(l:LI)(e:Ending)(w':WD):Prop:=
 match a5Z l with
 | .error x=>e=.panicked [{v:=a1T x,recovered:=false}]
 | .ok q=>(∃vt vc R,e=.returned (.tuple #[.agg (a1Q ((a0o 9 (.ok l)).1:Int) a5c (.slice none 0 0) (a3H (a0o 9 (.ok l)).1 (a0o 9 (.ok l)).2).1.ow (a3H (a0o 9 (.ok l)).1 (a0o 9 (.ok l)).2).1.am (a3H (a0o 9 (.ok l)).1 (a0o 9 (.ok l)).2).1.ser (a3H (a0o 9 (.ok l)).1 (a0o 9 (.ok l)).2).1.ep (a3H (a0o 9 (.ok l)).1 (a0o 9 (.ok l)).2).1.id).toArray,.agg #[vt,vc]])/\
  a0N g w' vt (a3H (a0o 9 (.ok l)).1 (a0o 9 (.ok l)).2).1.t/\a0T 22 1 g w' vc R/\a5Q g w' R (a3H (a0o 9 (.ok l)).1 (a0o 9 (.ok l)).2).1.cs)/\a0S w' p s q
abbrev b2G:=ldOf 171
abbrev b2W:=stOf 171
abbrev b3i:=alOf 171
theorem c6k(w:WD):(ALs 171).run prog w=.ok (.pointer w) (w.alloc (.cells #[.slice none 0 0,.slice none 0 0] 171)):=a0U (.agg #[.slice none 0 0,.slice none 0 0]) ρk w
theorem d1F:(prog.underlying 171).map a1f=some true:=ρk
theorem c7e:(prog.info? 171).map (·.size)=some 2:=ρk
attribute [local go_sem ↓] a7s b3x b2U b2G b2W b3i a2t a2s a2n c4R c4M
theorem b6T(p s:Nat)(l:LI)(a:l.length<=400000000)(w:WD)(h:a0S w p s l)(b:p<w.heap.size)(d:s<w.heap.size):Calls prog 79 #[.pointer p] w λe w'=>b2w w p s l e w'/\Fr (λk=>k=p) w w':=by
 have⟨g,hg⟩:=ηs w;have⟨zc,bu⟩:=η0 a7G.toArray;have aW:=c6G w;have b0:=Qd w 58 zc;have B0:=ρb w (.cells zc 58);rw[bu]at aW;have⟨W1,bF⟩:=η0 (w.alloc (.cells zc 58));have aB:W1.heap.size=g+1:=by rw[<-bF,<-hg];simp
 rw[bF]at b0 B0 aW;rw[hg]at b0 aW;have bb:=c6k W1;have bn:=b0.alloc (.cells #[.slice none 0 0,.slice none 0 0] 171);have b1:=Qd W1 171 #[.slice none 0 0,.slice none 0 0];have B1:=B0.alloc B0.size (.cells #[.slice none 0 0,.slice none 0 0] 171);have⟨W,hW⟩:=η0 (W1.alloc (.cells #[.slice none 0 0,.slice none 0 0] 171));have ax:W.heap.size=g+2:=by rw[<-hW];simp;omega
 rw[hW]at bn b1 B1 bb;rw[aB]at b1 bb;have ah:p<g:=ρo;have a3:s<g:=ρo;have bA:=h.fr (Q9 B1) (show¬_<=_ by omega) (show¬_<=_ by omega);have bN:LkC g p s w W 0 a4D l:=⟨by rw[<-bu]at bn;exact bn,⟨_,_,[],b1,⟨rfl,.inl ⟨rfl,rfl⟩⟩,a0T.nil _ _ _ _,a5Q.nil _ _⟩,bA,(Q9 B1).mono (λk y e=>ρo),a0n,a0n⟩
 have bz:∀(x:Int) (w':WD),a5Z l=.error x->Fr (λk=>k=p) w w'->b2w g p s l (.panicked [{v:=a1T x,recovered:=false}]) w'/\Fr (λk=>k=p) w w':=λx w' hx hf=>by
  refine⟨?_,hf⟩;unfold b2w;rw[hx]
 have aG:=a5w p s l 9 ρo (by have:l.length<=400000000:=a;omega) W bA;obtain⟨Q,s0,h0⟩:∃v st,a0o 9 (.ok l)=(v,st):=⟨_,_,rfl⟩;have bl:=a0P 9 (.ok l);have bo:=a1b (most:=9) (st:=.ok l) (n:=400000000) a;rw[h0]at aG bl bo;rw[show((9:Nat):Int)=9 from rfl]at aG;simp only at aG bl bo;have cf:=a1r bl ρo;have⟨HG,bs,cI,b7,af,H0,ai,cF⟩:=η8 hg aB ax bN bz h0 bo bu;have cB:=η1 bl;clear hg aB ax bN bz h0 bo bu bl h b0 B0 bn b1 B1 bF hW bA;go_in;rw[HG.o];go_upto_region 1 with fail
 clear aW bb;skip;skip;go_wp2_with fail;refine μ1 aG ?_;rintro e w1 ⟨Z,f1⟩
 cases s0 with
 |
  error x=>
  obtain rfl:=Z
  have hc:a5Z l=.error x:=by
   unfold a5Z;have cC:Q=0:=c7p H0;rw[H0.o,cC];exact(if_neg (by simp[okS])).trans rfl
  exact⟨rfl,af.o x _ hc (b7.fr.trans f1 (λ_ _ h=>h))⟩
 |
  ok O=>
  obtain⟨rfl,b5⟩:=Z
  generalize hK:(Q:Int)=kd at cf⊢
  have bm:=b7.step HG ah f1 b5;have q0:w1.cell? ⟨g,0,none⟩=some (.int .i64 0):=(bm.com.cell 0).trans a4a;have z0:=bm.com.frozen 0;have kb:=bm.com.set_ 0 (.int .i64 kd);rw[c2l]at kb;have N:Fr (λj=>j=g) w1 (w1.setCell ⟨g,0,none⟩ (.int .i64 kd)):=(Qp (λj=>j=g) w1).setCell (p:=⟨g,0,none⟩) (λ_=>rfl) _;have bK:LkC g p s w (w1.setCell ⟨g,0,none⟩ (.int .i64 kd)) kd a4D O:=bm.put HG ah a3 kb N rfl rfl a0n a0n
  generalize ca:w1.setCell ⟨g,0,none⟩ (.int .i64 kd)=w2 at bK
  have⟨F,cu,HK⟩:=η3 bK ca hK;clear bK ca hK bm kb N b5 f1 aG;go_upto_region 2 with fail
  rw[cu.o];clear q0 z0 cf;have q0:w2.cell? ⟨g,0,none⟩=some (.int .i64 kd):=(F.com.cell 0).trans a4a;go_upto_region 3 with fail
  clear q0
  have au:1<=Q->a5Z l=(a3H Q (.ok O)).2:=λy=>by
   unfold a5Z;rw[H0.o];exact if_neg (λh=>by have:=h.2;simp only at this;omega)
  have cj:Q=0\/Q=1\/Q=7\/Q=9\/Q=8\/(Q=2\/Q=3)\/Q=4\/Q=5\/Q=6:=by have:=cB.o;omega
  have bv:∀(r:b8k) (q:LI),a3H Q (.ok O)=(r,.ok q)->1<=Q->∀(X:WD) (vt vc:VL) (R:LW),a0N (g+2) X vt r.t->a0T 22 1 (g+2) X vc R->a5Q (g+2) X R r.cs->a0S X p s q->Fr (λk=>k=p) w X->
    ∀KK:Int,(Q:Int)=KK->b2w g p s l (.returned (.tuple #[.agg (a1Q KK a5c (.slice none 0 0) r.ow r.am r.ser r.ep r.id).toArray,.agg #[vt,vc]])) X/\Fr (λk=>k=p) w X:=λr q hr y X vt vc R o1 o2 o3 Z hf KK J=>by
   refine⟨?_,hf⟩;unfold b2w;rw[au y,H0.o,hr]
   exact⟨⟨vt,vc,R,by rw[<-J],o1.base ρo,o2.base ρo,⟨o3.len,λj hj=>by
    obtain⟨v,h1,h2⟩:=o3.at_ j hj;exact⟨v,h1,h2.base ρo⟩⟩⟩,Z⟩
  have⟨aC,bx⟩:=η2 au bv;clear au bv
  rcases cj with y | y | y | y | y | y | y
  focus
   obtain rfl:kd=0:=by have:=HK.o;omega
   go_wp2_with fail;refine(a5J _ 25 rfl w2).mono ?_;rintro e w' ⟨rfl,hw⟩;rw[hw];exact⟨rfl,af.o 25 _ (by unfold a5Z;rw[H0.o,y];exact if_pos ⟨rfl,rfl⟩) F.fr⟩
  focus
   obtain rfl:kd=1:=by have:=HK.o;omega
   have U:=a5w p s O 1099511627776 ρo (by have:O.length<=400000000:=ai.o;omega) w2 F.eye;obtain⟨k1,s1,h1⟩:∃v st,a0o 1099511627776 (.ok O)=(v,st):=⟨_,_,rfl⟩;have aq:=a0P 1099511627776 (.ok O);have aU:=a1b (most:=1099511627776) (st:=.ok O) (n:=400000000) ai.o;rw[h1]at U aq aU;rw[show((1099511627776:Nat):Int)=1099511627776 from rfl]at U;simp only at U aq aU;have bB:=a1r aq ρo;have⟨H1,bw⟩:=η2 h1 aU;clear h1 aU;go_upto_region 6 with fail
   go_wp2_with fail;refine μ1 U ?_;rintro e w3 ⟨Z,f3⟩;have D:=d0I (.ok O);rw[H1.o]at D;simp only at D
   rcases s1 with x | l1
   focus
    obtain rfl:=Z;rw[c1M,a3t]at D;exact⟨rfl,af.o x _ (by rw[aC.o ρo,y,D]) (F.fr.trans f3 (λ_ _ h=>h))⟩
   obtain⟨rfl,bj⟩:=Z;have ar:=F.step HG ah f3 bj;have q3:w3.cell? ⟨g,39,none⟩=some (.int .i64 0):=(ar.com.cell 39).trans (a7c a0E a0n);have z3:=ar.com.frozen 39;have kb:=ar.com.set_ 39 (.int .i64 k1);rw[b8S a0E (show a4D.ow.length=32 from a0n)]at kb;have N:Fr (λj=>j=g) w3 (w3.setCell ⟨g,39,none⟩ (.int .i64 k1)):=(Qp (λj=>j=g) w3).setCell (p:=⟨g,39,none⟩) (λ_=>rfl) _;have a1:LkC g p s w (w3.setCell ⟨g,39,none⟩ (.int .i64 k1)) 1 {a4D with ser:=k1} l1:=ar.put HG ah a3 kb N rfl rfl a0n a0n
   generalize bX:w3.setCell ⟨g,39,none⟩ (.int .i64 k1)=w4 at a1
   have B:=c4T p s l1 (by have:l1.length<=400000000:=bw.o;omega) w4 a1.eye (ρh a1.fr.size) (ρh a1.fr.size);obtain⟨d2,s2,h2⟩:∃v st,idT (.ok l1)=(v,st):=⟨_,_,rfl⟩;have I:=a1R (.ok l1);have aj:=a3U (st:=.ok l1) (n:=400000000) bw.o;rw[h2]at B I aj;simp only at B I aj;have⟨cd,cg,HR,H2,aF⟩:=η5 a1 bX D h2 aj;clear a1 bX D h2 aj ar kb N bj f3 U;go_upto_region 7 with fail
   rw[cg.o];clear q3 z3 bB;go_wp2_with fail;refine μ1 B ?_;rintro e w5 ⟨Z,f5⟩;have D:=HR.o;rw[H2.o]at D;simp only at D
   rcases s2 with x | l2
   focus
    obtain rfl:=Z;rw[a3t]at D;exact⟨rfl,af.o x _ (by rw[aC.o ρo,y,D]) (cd.fr.trans f5 (λ_ _ h=>h))⟩
   obtain⟨rfl,ak⟩:=Z;have E:=cd.step HG ah f5 ak;have an:=Pa a5m E.com (off:=6) (bys d2) (ρy a0a I) (by rw[Qc,a2I a0E (show a4D.ow.length=32 from a0n) (show a4D.id.length=32 from a0n)];omega) (a0h _);rw[c7k a0E (show a4D.ow.length=32 from a0n) I]at an;have kb:=E.com.row_ (a1Q 1 a5c (.slice none 0 0) d2 0 (k1:Int) 0 zId).toArray;have N:=ρr (g) w5 (a1Q 1 a5c (.slice none 0 0) d2 0 (k1:Int) 0 zId).toArray;have aA:LkC g p s w (w5.setRow g (a1Q 1 a5c (.slice none 0 0) d2 0 (k1:Int) 0 zId).toArray) 1 {a4D with ser:=k1,ow:=d2} l2:=E.put HG ah a3 kb N rfl rfl I a0n;have⟨w6,aY⟩:=η0 (w5.setRow g (a1Q 1 a5c (.slice none 0 0) d2 0 (k1:Int) 0 zId).toArray);replace an:=an.trans (show _=Result.ok () w6 by rw[<-aY];rfl);rw[aY]at aA
   generalize bI:(bys d2).toArray=tv at an⊢
   have ac:=a5w p s l2 4611686018427387904 ρo (by have:l2.length<=400000000:=aF.o;omega) w6 aA.eye;obtain⟨k3,s3,h3⟩:∃v st,a0o 4611686018427387904 (.ok l2)=(v,st):=⟨_,_,rfl⟩;have aT:=a0P 4611686018427387904 (.ok l2);have aM:=a1b (most:=4611686018427387904) (st:=.ok l2) (n:=400000000) aF.o;rw[h3]at ac aT aM;rw[show((4611686018427387904:Nat):Int)=4611686018427387904 from rfl]at ac;simp only at ac aT aM;have⟨a6,ch,H3⟩:=η3 aA D h3;clear aA D h3 E kb N ak f5 B aY bI;go_upto_region 8 with fail
   clear an;go_wp2_with fail;refine μ1 ac ?_;rintro e w7 ⟨Z,f7⟩;have D:=ch.o;rw[H3.o]at D;simp only at D
   rcases s3 with x | l3
   focus
    obtain rfl:=Z;exact⟨rfl,af.o x _ (by rw[aC.o ρo,y,D]) (a6.fr.trans f7 (λ_ _ h=>h))⟩
   obtain⟨rfl,a7⟩:=Z;have aI:=a6.step HG ah f7 a7;have q7:w7.cell? ⟨g,38,none⟩=some (.int .u64 0):=(aI.com.cell 38).trans (a7h a0E I);have z7:=aI.com.frozen 38;have kb:=aI.com.set_ 38 (.int .u64 k3);rw[b9n a0E I]at kb;have N:Fr (λj=>j=g) w7 (w7.setCell ⟨g,38,none⟩ (.int .u64 k3)):=(Qp (λj=>j=g) w7).setCell (p:=⟨g,38,none⟩) (λ_=>rfl) _;have m:LkC g p s w (w7.setCell ⟨g,38,none⟩ (.int .u64 k3)) 1 {a4D with ser:=k1,ow:=d2,am:=k3} l3:=aI.put HG ah a3 kb N rfl rfl I a0n;have z:a3H Q (.ok O)=({a4D with ser:=k1,ow:=d2,am:=k3},.ok l3):=by rw[y,D];rfl
   generalize hV:w7.setCell ⟨g,38,none⟩ (.int .u64 k3)=V at m
   have⟨S,ab⟩:=η0 (({a4D with ser:=k1,ow:=d2,am:=k3}:b8k):b8k);rw[ab]at m z;have⟨qq,T⟩:=η0 l3;rw[T]at m z;have⟨KK,J⟩:=η0 ((1:Int):Int);have ag:(Q:Int)=KK:=by have:=HK.o;omega
   rw[J]at m;have H:1<=Q:=ρo;have⟨aH,ad,aN,aO,aQ⟩:=η5 hV m z ag H;clear hV m z ag H aI kb N a7 f7 ac D ab T J aq I aT;go_upto_region 24 with fail
   rw[aH.o];clear q7 z7
  rotate_left
  focus
   obtain rfl:kd=7:=by have:=HK.o;omega
   have U:=a5w p s O 1099511627776 ρo (by have:O.length<=400000000:=ai.o;omega) w2 F.eye;obtain⟨k1,s1,h1⟩:∃v st,a0o 1099511627776 (.ok O)=(v,st):=⟨_,_,rfl⟩;have aq:=a0P 1099511627776 (.ok O);have aU:=a1b (most:=1099511627776) (st:=.ok O) (n:=400000000) ai.o;rw[h1]at U aq aU;rw[show((1099511627776:Nat):Int)=1099511627776 from rfl]at U;simp only at U aq aU;have bB:=a1r aq ρo;have H1:=η1 h1;clear h1;go_upto_region 21 with fail
   go_wp2_with fail;refine μ1 U ?_;rintro e w3 ⟨Z,f3⟩;have D:=d0M (.ok O);rw[H1.o]at D;simp only at D
   rcases s1 with x | l1
   focus
    obtain rfl:=Z;exact⟨rfl,af.o x _ (by rw[aC.o ρo,y,D]) (F.fr.trans f3 (λ_ _ h=>h))⟩
   obtain⟨rfl,bj⟩:=Z;have ar:=F.step HG ah f3 bj;have q3:w3.cell? ⟨g,40,none⟩=some (.int .i64 0):=(ar.com.cell 40).trans (a9t a0E a0n);have z3:=ar.com.frozen 40;have kb:=ar.com.set_ 40 (.int .i64 k1);rw[b9J a0E (show a4D.ow.length=32 from a0n)]at kb;have N:Fr (λj=>j=g) w3 (w3.setCell ⟨g,40,none⟩ (.int .i64 k1)):=(Qp (λj=>j=g) w3).setCell (p:=⟨g,40,none⟩) (λ_=>rfl) _;have m:LkC g p s w (w3.setCell ⟨g,40,none⟩ (.int .i64 k1)) 7 {a4D with ep:=k1} l1:=ar.put HG ah a3 kb N rfl rfl a0n a0n;have z:a3H Q (.ok O)=({a4D with ep:=k1},.ok l1):=by rw[y,D]
   generalize hV:w3.setCell ⟨g,40,none⟩ (.int .i64 k1)=V at m
   have⟨S,ab⟩:=η0 (({a4D with ep:=k1}:b8k):b8k);rw[ab]at m z;have⟨qq,T⟩:=η0 l1;rw[T]at m z;have⟨KK,J⟩:=η0 ((7:Int):Int);have ag:(Q:Int)=KK:=by have:=HK.o;omega
   rw[J]at m;have H:1<=Q:=ρo;have⟨aH,ad,aN,aO,aQ⟩:=η5 hV m z ag H;clear hV m z ag H ar kb N bj f3 U D ab T J;go_upto_region 24 with fail
   rw[aH.o];clear q3 z3 bB
  rotate_left
  focus
   obtain rfl:kd=9:=by have:=HK.o;omega
   have B:=c4T p s O (by have:O.length<=400000000:=ai.o;omega) w2 F.eye (ρh F.o.fr.size) (ρh F.o.fr.size);obtain⟨d2,s2,h2⟩:∃v st,idT (.ok O)=(v,st):=⟨_,_,rfl⟩;have I:=a1R (.ok O);have aj:=a3U (st:=.ok O) (n:=400000000) ai.o;rw[h2]at B I aj;simp only at B I aj;have H2:=η1 h2;clear h2;go_upto_region 23 with fail
   go_wp2_with fail;refine μ1 B ?_;rintro e w5 ⟨Z,f5⟩;have D:=d1d (.ok O);rw[H2.o]at D;simp only at D
   rcases s2 with x | l2
   focus
    obtain rfl:=Z;exact⟨rfl,af.o x _ (by rw[aC.o ρo,y,D]) (F.fr.trans f5 (λ_ _ h=>h))⟩
   obtain⟨rfl,ak⟩:=Z;have E:=F.step HG ah f5 ak;have an:=Pa a5m E.com (off:=41) (bys d2) (ρy a0a I) (by rw[Qc,a2I a0E (show a4D.ow.length=32 from a0n) (show a4D.id.length=32 from a0n)];omega) (a0h _);rw[c8P a0E (show a4D.ow.length=32 from a0n) (show a4D.id.length=32 from a0n) I]at an;have kb:=E.com.row_ (a1Q 9 a5c (.slice none 0 0) zId 0 0 0 d2).toArray;have N:=ρr (g) w5 (a1Q 9 a5c (.slice none 0 0) zId 0 0 0 d2).toArray;have m:LkC g p s w (w5.setRow g (a1Q 9 a5c (.slice none 0 0) zId 0 0 0 d2).toArray) 9 {a4D with id:=d2} l2:=E.put HG ah a3 kb N rfl rfl a0n I;have z:a3H Q (.ok O)=({a4D with id:=d2},.ok l2):=by rw[y,D]
   have⟨V,hV⟩:=η0 (w5.setRow g (a1Q 9 a5c (.slice none 0 0) zId 0 0 0 d2).toArray);replace an:=an.trans (show _=Result.ok () V by rw[<-hV];rfl);rw[hV]at m
   generalize bI:(bys d2).toArray=tv at an⊢
   have⟨S,ab⟩:=η0 (({a4D with id:=d2}:b8k):b8k);rw[ab]at m z;have⟨qq,T⟩:=η0 l2;rw[T]at m z;have⟨KK,J⟩:=η0 ((9:Int):Int);have ag:(Q:Int)=KK:=by have:=HK.o;omega
   rw[J]at m;have H:1<=Q:=ρo;have⟨aH,ad,aN,aO,aQ⟩:=η5 hV m z ag H;clear hV m z ag H E kb N ak f5 B D bI ab T J;go_upto_region 24 with fail
   clear an
  rotate_left
  focus
   obtain rfl:kd=8:=by have:=HK.o;omega
   have z:a3H Q (.ok O)=(a4D,.ok O):=by rw[y,c9L]
   have m:=F.o;have⟨V,hV⟩:=η0 w2;rw[hV]at m;have⟨S,ab⟩:=η0 ((a4D:b8k):b8k);rw[ab]at m z;have⟨qq,T⟩:=η0 O;replace m:LkC g p s w V 8 S qq:=by rw[<-T];exact m
   replace z:a3H Q (.ok O)=(S,.ok qq):=by rw[<-T];exact z
   have⟨KK,J⟩:=η0 ((8:Int):Int);have ag:(Q:Int)=KK:=by have:=HK.o;omega
   rw[J]at m;have H:1<=Q:=ρo;have⟨aH,ad,aN,aO,aQ⟩:=η5 hV m z ag H;clear hV m z ag H ab T J;go_upto_region 24 with fail
   rw[aH.o]
  rotate_left
  focus
   have bU:2<=Q/\Q<=3:=ρo;have t0:(kd == 0)=false:=by have:=HK.o;simp;omega
   have t1:(kd == 1)=false:=by have:=HK.o;simp;omega
   have B:=b1P p s O 4096 ρo ai.o w2 F.eye;obtain⟨d2,s2,h2⟩:∃v st,a0C 4096 (.ok O)=(v,st):=⟨_,_,rfl⟩;have I:=a3o 4096 (.ok O);have aj:=a3c (most:=4096) (st:=.ok O) (n:=400000000) ai.o;rw[h2]at B I aj;rw[show((4096:Nat):Int)=4096 from rfl]at B;simp only at I aj;have⟨H2,cn⟩:=η2 h2 bU;clear h2 bU
   rcases y with y | y
   focus
    have t2:(kd == 2)=true:=by have:=HK.o;simp;omega
    go_upto_region 11 with fail
    clear t2
   rotate_left
   focus
    have t2:(kd == 2)=false:=by have:=HK.o;simp;omega
    have t3:(kd == 3)=true:=by have:=HK.o;simp;omega
    go_upto_region 11 with fail
    clear t2 t3
   all_goals
    clear t0 t1;go_wp2_with fail;refine μ1 B ?_;rintro e w5 ⟨Z,f5⟩;have D:=c0h cn (.ok O);rw[H2.o]at D;simp only at D
    rcases s2 with x | l2
    focus
     obtain rfl:=Z;exact⟨rfl,af.o x _ (by rw[aC.o ρo,D]) (F.fr.trans f5 (λ_ _ h=>h))⟩
    obtain⟨⟨vt,rfl,ho⟩,ak⟩:=Z;obtain⟨Ao,No,co,rfl⟩:=ho.sl;have E:=F.step HG ah f5 ak;obtain⟨bE,a5,R0,x1,x2,x3,x4⟩:=E.txt;have q5:w5.cell? ⟨g+1,0,none⟩=some bE:=x1.cell 0;have z5:=x1.frozen 0;have kt:Blk (w5.setCell ⟨g+1,0,none⟩ (.slice Ao No co)) (g+1) 171 #[.slice Ao No co,a5]:=by simpa using x1.set_ 0 (.slice Ao No co)
    have N:Fr (λj=>j=g+1) w5 (w5.setCell ⟨g+1,0,none⟩ (.slice Ao No co)):=(Qp (λj=>j=g+1) w5).setCell (p:=⟨g+1,0,none⟩) (λ_=>rfl) _;have be:g+2<=w2.heap.size:=by have h1:=F.txt;obtain⟨_,_,_,h2,_⟩:=h1;have:=h2.lt;omega
    have av:=ho.base (B':=g+2) be;have m:LkC g p s w (w5.setCell ⟨g+1,0,none⟩ (.slice Ao No co)) kd {a4D with t:=d2} l2:=⟨E.com.fr N ρo,⟨_,a5,R0,kt,av.fr N (λk y e=>by have:=(av.lt y).1;omega),x3.fr N (λk y e=>by have:=(x3.lt y).1;omega),x4.fr N (λk cs y _ e=>ρo)⟩,ak.fr N ρo ρo,E.fr.trans N (λk y e=>by have:=HG.o;omega),E.ow,E.id⟩
    generalize hV:w5.setCell ⟨g+1,0,none⟩ (.slice Ao No co)=V at m
    have z:a3H Q (.ok O)=({a4D with t:=d2},.ok l2):=D;have⟨S,ab⟩:=η0 (({a4D with t:=d2}:b8k):b8k);rw[ab]at m z;have⟨qq,T⟩:=η0 l2;rw[T]at m z;have⟨KK,J⟩:=η0 kd;have ag:(Q:Int)=KK:=by rw[<-J];exact HK.o
    rw[J]at m;have H:1<=Q:=ρo;have⟨aH,ad,aN,aO,aQ⟩:=η5 hV m z ag H;clear hV m z ag H E x1 x2 x3 x4 kt N ho av ak f5 B D ab T J;go_upto_region 24 with fail
    rw[aH.o];clear q5 z5
  rotate_left 2
  focus
   have bO:4<=Q/\Q<=6:=ρo;have t0:(kd == 0)=false:=by have:=HK.o;simp;omega
   have t1:(kd == 1)=false:=by have:=HK.o;simp;omega
   have t2:(kd == 2)=false:=by have:=HK.o;simp;omega
   have t3:(kd == 3)=false:=by have:=HK.o;simp;omega
   have B:=b1P p s O 4096 ρo ai.o w2 F.eye;obtain⟨d2,s2,h2⟩:∃v st,a0C 4096 (.ok O)=(v,st):=⟨_,_,rfl⟩;have I:=a3o 4096 (.ok O);have aj:=a3c (most:=4096) (st:=.ok O) (n:=400000000) ai.o;rw[h2]at B I aj;rw[show((4096:Nat):Int)=4096 from rfl]at B;simp only at I aj;have⟨H2,cD,aF⟩:=η3 h2 bO aj;clear h2 bO aj
   rcases y with y | y | y
   focus
    have t4:(kd == 4)=true:=by have:=HK.o;simp;omega
    go_upto_region 15 with fail
    clear t4
   rotate_left
   focus
    have t4:(kd == 4)=false:=by have:=HK.o;simp;omega
    have t5:(kd == 5)=true:=by have:=HK.o;simp;omega
    go_upto_region 15 with fail
    clear t4 t5
   rotate_left
   focus
    have t4:(kd == 4)=false:=by have:=HK.o;simp;omega
    have t5:(kd == 5)=false:=by have:=HK.o;simp;omega
    have t6:(kd == 6)=true:=by have:=HK.o;simp;omega
    go_upto_region 15 with fail
    clear t4 t5 t6
   all_goals
    clear t0 t1 t2 t3;go_wp2_with fail;refine μ1 B ?_;rintro e w5 ⟨Z,f5⟩;have D:=c2N cD (.ok O);rw[H2.o]at D;simp only at D
    rcases s2 with x | l2
    focus
     obtain rfl:=Z;rw[a3t,b7N]at D;exact⟨rfl,af.o x _ (by rw[aC.o ρo,D]) (F.fr.trans f5 (λ_ _ h=>h))⟩
    obtain⟨⟨vt,rfl,ho⟩,ak⟩:=Z;obtain⟨Ao,No,co,rfl⟩:=ho.sl;have E:=F.step HG ah f5 ak;obtain⟨bE,a5,R0,x1,x2,x3,x4⟩:=E.txt;have q5:w5.cell? ⟨g+1,0,none⟩=some bE:=x1.cell 0;have z5:=x1.frozen 0;have kt:Blk (w5.setCell ⟨g+1,0,none⟩ (.slice Ao No co)) (g+1) 171 #[.slice Ao No co,a5]:=by simpa using x1.set_ 0 (.slice Ao No co)
    have N:Fr (λj=>j=g+1) w5 (w5.setCell ⟨g+1,0,none⟩ (.slice Ao No co)):=(Qp (λj=>j=g+1) w5).setCell (p:=⟨g+1,0,none⟩) (λ_=>rfl) _;have be:g+2<=w2.heap.size:=by have h1:=F.txt;obtain⟨_,_,_,h2,_⟩:=h1;have:=h2.lt;omega
    have av:=ho.base (B':=g+2) be;have aA:LkC g p s w (w5.setCell ⟨g+1,0,none⟩ (.slice Ao No co)) kd {a4D with t:=d2} l2:=⟨E.com.fr N ρo,⟨_,a5,R0,kt,av.fr N (λk y e=>by have:=(av.lt y).1;omega),x3.fr N (λk y e=>by have:=(x3.lt y).1;omega),x4.fr N (λk cs y _ e=>ρo)⟩,ak.fr N ρo ρo,E.fr.trans N (λk y e=>by have:=HG.o;omega),E.ow,E.id⟩
    generalize aY:w5.setCell ⟨g+1,0,none⟩ (.slice Ao No co)=w6 at aA
    have ac:=a5w p s l2 16 ρo (by have:l2.length<=400000000:=aF.o;omega) w6 aA.eye;obtain⟨k3,s3,h3⟩:∃v st,a0o 16 (.ok l2)=(v,st):=⟨_,_,rfl⟩;have aT:=a0P 16 (.ok l2);have aM:=a1b (most:=16) (st:=.ok l2) (n:=400000000) aF.o;rw[h3]at ac aT aM;rw[show((16:Nat):Int)=16 from rfl]at ac;simp only at ac aT aM;have⟨a6,cA,H3,bZ,HR⟩:=η5 aA aY h3 aM D;clear aA aY h3 aM D E x1 x2 x3 x4 kt N ho av ak f5 B;go_upto_region 16 with fail
    rw[cA.o];clear q5 z5;go_wp2_with fail;refine μ1 ac ?_;rintro e w7 ⟨Z,f7⟩;have⟨n,hn⟩:=η0 k3;rw[hn]at aT H3;have D:=HR.o;rw[H3.o]at D;simp only at D
    rcases s3 with x | l3
    focus
     obtain rfl:=Z;rw[b7N]at D;exact⟨rfl,af.o x _ (by rw[aC.o ρo,D]) (a6.fr.trans f7 (λ_ _ h=>h))⟩
    obtain⟨rfl,a7⟩:=Z;have aI:=a6.step HG ah f7 a7;rw[hn];have⟨cr,bR⟩:=η2 aI D;clear aI D a7 f7 ac;go_upto_region 17 with fail
    go_loopg [43] n (λkk c wr=>∃(j:Nat) (L:LL) (lj:LI),j+kk=n/\c=.int .u64 j/\a2u j (.ok l3)=(L,.ok lj)/\LkC g p s w wr kd {a4D with t:=d2,cs:=L} lj);exact⟨0,[],l3,by omega,rfl,a3G _,cr.o⟩;obtain⟨j,L,lj,hj,rfl,a0,br⟩:=hrel
    by_cases cv:j<n
    ·have bV:(j:Int)<n:=ρo
     have az:=a6F a0;have bt:=a7j (.ok l3) j;have bk:=b0S bZ j;rw[a0]at bt bk;simp only at bt bk;obtain⟨X,hX⟩:∃X,X=wr.drew:=⟨_,rfl⟩;have bp:LkC g p s w X kd {a4D with t:=d2,cs:=L} lj:=by rw[hX];exact br.keep (Qp _ _).drew
     obtain⟨vt,vc,R,x1,x2,x3,x4⟩:=bp.txt;obtain⟨Ac,Nc,cc,rfl,bW⟩:=x3.formN;have ce:X.cell? ⟨g+1,1,none⟩=some (.slice Ac Nc cc):=x1.cell 1;have aX:=b1P p s lj 2048 ρo bk X bp.eye;obtain⟨d4,s4,h4⟩:∃v st,a0C 2048 (.ok lj)=(v,st):=⟨_,_,rfl⟩;have b8:=a3o 2048 (.ok lj);have b9:=a3c (most:=2048) (st:=.ok lj) (n:=400000000) bk;rw[h4]at aX b8 b9;rw[show((2048:Nat):Int)=2048 from rfl]at aX;simp only at b8 b9;have bS:g+2<=X.heap.size:=by have:=x1.lt;omega
     rw[h4]at az;simp only at az;have⟨bY,HX,bg,cx,cG,ck,a9,b3⟩:=η8 bp hX az bt a0 ce x1 x2;have⟨bQ,bT,cE,cw⟩:=η4 x3 x4 bW bS;clear bp hX az bt a0 ce x1 x2 x3 x4 bW bS br h4 bk;go_upto_region 18 with fail
     refine a3Y [(0,3),(2,3),(1,0),(3,1),(4,1),(5,2),(6,3),(7,2)] (λW=>W.cell? ⟨g+1,1,none⟩=some (.slice Ac Nc cc)) ρk ρk ρk ρk (ρz HX.o ck.o) ?_;rw[<-HX.o];refine ε2 ?_
     (with_reducible refine a0t (o:=?_) (v:=?_) (a':=?_) ρu ρu (λW' hS=>?_) ?_ ?_;rotate_left 2;(focus(skip;exact ρs));focus(exact ρs))
     refine κ ?_;intro K hK;refine μ1 aX ?_;rintro e w8 ⟨Z,f8⟩
     rcases s4 with x | l4
     focus
      obtain rfl:=Z;have b4:=a3D bg (n-(j+1));rw[show j+1+(n-(j+1))=n by omega]at b4;exact λa' cz=>⟨cz,af.o x _ (by rw[aC.o ρo,bR.o,b4]) (bY.fr.trans f8 (λ_ _ e=>e))⟩
     obtain⟨⟨v4,rfl,ho⟩,bJ⟩:=Z;obtain⟨a2,a4,aZ,rfl⟩:=ho.sl;have bi:=bY.step HG ah f8 bJ;have y1:=a9.fr f8 (show¬_=_ by omega);have y2:=b3.fr f8 (λk y e=>by have:=(b3.lt y).1;omega);have y3:=bQ.fr f8 (λk y e=>by have:=(bQ.lt y).1;omega);have y4:=bT.fr f8 (λk cs y _ e=>ρo);have av:=ho.base (B':=g+2) cw.o;have b2:g+2<=w8.heap.size:=by have:=y1.lt;omega
     have cq:=Pd d3a d2V ρo ρo w8 (.slice a2 a4 aZ) rfl;have aV:(Value.slice a2 a4 aZ).cells=[Value.slice a2 a4 aZ].toArray:=rfl;rw[aV]at cq;obtain⟨v6,x6,cH,bq,aP,-⟩:=a5o (P:=prog) (ty:=23) d3a d3n ρo ρo y3 [.slice a2 a4 aZ] rfl (by simp[Value.oneCell']) (by have:=cx.o;have:=bT.len;simp only at this;omega) b2;obtain⟨A6,N6,c6,rfl,ci⟩:=bq.formN;have ay:=λk y=>(y3.lt (k:=k) y).1
     have cy:w8.cell? ⟨g+1,1,none⟩=some (.slice Ac Nc cc):=y1.cell 1;have b6:(w8.alloc (.cells [Value.slice a2 a4 aZ].toArray 22)).cell? ⟨g+1,1,none⟩=some (.slice Ac Nc cc):=(y1.alloc _).cell 1;have bf:∀k cs,Blk w8 k 5 cs->¬(Value.slice Ac Nc cc).ownBlock=some k:=λk cs hb e=>a4l y3.own hb ρd e
     have z1:=y1.fr aP (λe=>by have:=ay _ e;omega);have q6:x6.cell? ⟨g+1,1,none⟩=some (.slice Ac Nc cc):=z1.cell 1;have z6:=z1.frozen 1;have k7:Blk (x6.setCell ⟨g+1,1,none⟩ (.slice A6 N6 c6)) (g+1) 171 #[vt,.slice A6 N6 c6]:=by simpa using z1.set_ 1 (.slice A6 N6 c6)
     have N:Fr (λk=>k=g+1) x6 (x6.setCell ⟨g+1,1,none⟩ (.slice A6 N6 c6)):=(Qp (λk=>k=g+1) x6).setCell (p:=⟨g+1,1,none⟩) (λ_=>rfl) _;have bM:a5Q (g+2) w8 (R++[[.slice a2 a4 aZ]]) (L++[d4]):=y4.snoc av
     have bP:LkC g p s w (x6.setCell ⟨g+1,1,none⟩ (.slice A6 N6 c6)) kd {a4D with t:=d2,cs:=L++[d4]} l4:=by
      refine⟨(bi.com.fr aP (λe=>by have:=ay _ e;omega)).fr N (show¬_=_ by omega),⟨vt,_,_,k7,(y2.fr8 aP (λk cs _ hb=>bf k cs hb)).fr N (λk y e=>by have:=(y2.lt y).1;omega),bq.fr N (λk y e=>by have:=(bq.lt y).1;omega),(bM.fr aP (λk cs _ hb=>bf k cs hb)).fr N (λk cs y _ e=>ρo)⟩,
       (bJ.fr aP (λe=>by have:=ay _ e;omega) (λe=>by have:=ay _ e;omega)).fr N (show¬_=_ by omega) (show¬_=_ by omega),(bi.fr.trans aP (λk y e=>by have:=ay _ e;have:=HG.o;omega)).trans N (λk y e=>by have:=HG.o;omega),bi.ow,bi.id⟩
     have cp:=η1 bP;clear bP y1 y2 y3 y4 bM ho av bq aP ci ay z1 k7 N bJ f8 aX bi bf aV;with_reducible refine hK _ _ (cy) ?_;clear hK K
     refine κ1 (b6) ?_;refine τ1 ?_;refine ε1 ?_;refine τ1 ?_;with_reducible refine a1N ?_
     rw[a0V];go_wp2;go_roundg (n-(j+1));exact⟨j+1,L++[d4],l4,by omega,by go_num,bg.o,cp.o⟩;omega
    have bV:¬(j:Int)<n:=ρo;obtain rfl:j=n:=ρo;obtain⟨V,hV⟩:∃V,V=wr:=⟨_,rfl⟩;subst hV;have z:a3H Q (.ok O)=({a4D with t:=d2,cs:=L},.ok lj):=by rw[bR.o,a0]
    have m:=br;have⟨S,ab⟩:=η0 (({a4D with t:=d2,cs:=L}:b8k):b8k);rw[ab]at m z;have⟨qq,T⟩:=η0 lj;rw[T]at m z;have⟨KK,J⟩:=η0 kd;have ag:(Q:Int)=KK:=by rw[<-J];exact HK.o
    rw[J]at m;have aq:1<=Q:=ρo;have⟨ad,aN,aO,aQ⟩:=η4 m z ag aq;clear m z ag aq br a0 ab T J cv;go_upto_region 24 with fail
    obtain⟨vt,vc,R,x1,x2,x3,x4⟩:=ad.txt;obtain⟨At,Nt,ct,rfl⟩:=x2.sl;obtain⟨Ac,Nc,cc,rfl,-⟩:=x3.formN;have ae:(a1Q KK a5c (.slice none 0 0) S.ow S.am S.ser S.ep S.id).length=73:=a2I a0E ad.ow ad.id;have al:∀v∈a1Q KK a5c (.slice none 0 0) S.ow S.am S.ser S.ep S.id,v.oneCell'=true:=a6g a5O rfl;have ao:=λX vt vc R o1 o2 o3 Z hf=>bx.o S qq aN.o aQ.o X vt vc R o1 o2 o3 Z hf KK aO.o
    have aa:=ad.com;have aJ:=ad.eye;have ba:=ad.fr;have⟨cs,au⟩:=η0 (a1Q KK a5c (.slice none 0 0) S.ow S.am S.ser S.ep S.id);rw[au]at ae al aa;simp only[au]at ao;have f1:∀W:WD,Fr (λk=>k=g) W (W.setRow g cs.toArray):=λW=>(Qp (λk=>k=g) W).setRow (g:=g) (λ_=>rfl) _
    have f2:∀W:WD,Fr (λk=>k=g+1) W (W.setRow (g+1) #[.slice At Nt ct,.slice Ac Nc cc]):=λW=>(Qp (λk=>k=g+1) W).setRow (g:=g+1) (λ_=>rfl) _
    have aD:∀W:WD,Blk W g 58 cs.toArray->(STs 58 (.pointer g) (.agg cs.toArray)).run prog W=.ok () (W.setRow g cs.toArray):=λW hb=>P7 a6X hb (ρy Qc ae) cs ae al
    have aE:∀W:WD,Blk W (g+1) 171 #[.slice At Nt ct,.slice Ac Nc cc]->(STs 171 (.pointer (g+1:Nat)) (.agg #[.slice At Nt ct,.slice Ac Nc cc])).run prog W=.ok () (W.setRow (g+1) #[.slice At Nt ct,.slice Ac Nc cc]):=λW hb=>P7 c7e hb rfl [.slice At Nt ct,.slice Ac Nc cc] rfl (by simp[Value.oneCell'])
    have aB:=aD V.drew aa;have kc:=(aa.drew).row_ cs.toArray;have kt:=x1.drew.fr (f1 V.drew) (show¬_=_ by omega);have ax:=aE _ kt;have aS:=kc.fr (f2 _) (show¬_=_ by omega);have aR:=kt.row_ #[.slice At Nt ct,.slice Ac Nc cc];have F2:Fr (λk=>k=g\/k=g+1) V ((V.drew.setRow g cs.toArray).setRow (g+1) #[.slice At Nt ct,.slice Ac Nc cc]):=(((Qp (λk=>k=g\/k=g+1) V).drew).trans ((f1 V.drew).mono (G:=λk=>k=g\/k=g+1) (λ_ _ e=>.inl e)) (λ_ _ e=>e)).trans ((f2 _).mono (G:=λk=>k=g\/k=g+1) (λ_ _ e=>.inr e)) (λ_ _ e=>e);have hF:=ao _ _ _ R (x2.fr F2 (λk y e=>by have:=(x2.lt y).1;omega)) (x3.fr F2 (λk y e=>by have:=(x3.lt y).1;omega)) (x4.fr F2 (λk cs y _ e=>ρo)) (aJ.fr F2 ρo ρo) (ba.trans F2 (λk y e=>by have:=HG.o;omega));have⟨Y,hY⟩:=η0 ((V.drew.setRow g cs.toArray).setRow (g+1) #[.slice At Nt ct,.slice Ac Nc cc])
    replace ax:=ax.trans (show _=Result.ok () Y by rw[<-hY]);rw[hY]at aS aR hF;have⟨Y1,aL⟩:=η0 (V.drew.setRow g cs.toArray);replace aB:=aB.trans (show _=Result.ok () Y1 by rw[<-aL]);rw[aL]at ax kt kc;have bc:Blk Y1 g 58 cs.toArray/\Blk Y1 (g+1) 171 #[.slice At Nt ct,.slice Ac Nc cc]:=⟨kc,kt⟩;have⟨HF,bD,bL,aK,bH,a9,bs⟩:=η7 hF aS aR ae aa x1 bc;clear hF aS aR ae aa x1 bc f1 f2 aD aE F2 hY aL x2 x3 x4 aJ ba ao kc kt au al;refine a0s [(0,0),(1,0),(2,1),(3,2)] (λW=>Blk W g 58 cs.toArray/\Blk W (g+1) 171 #[.slice At Nt ct,.slice Ac Nc cc]) ρk ρk ρk ρk ⟨bH.o,a9.o⟩ ?_
    iterate 2 refine θ2 (λW' hS=>QU (Pb b2N a6X _ hS.1 aK.o) (Pb d1F c7e [.slice At Nt ct,.slice Ac Nc cc] hS.2 rfl)) ?_
    refine κ1 (bs.o) ?_;refine τ1 ?_;refine ν ?_;go_wp2_with fail;obtain⟨dC,bC,bh⟩:=Q8.1 b2N;obtain⟨dX,bG,a8⟩:=Q8.1 d1F;refine bodyPost_ret (b0y rfl _ _ g (g+1) _ _ cs.toArray #[.slice At Nt ct,.slice Ac Nc cc] (0,0) (0,0) bD.o bC bh (by rw[Qc,aK.o];exact a6X) rfl bL.o bG a8 c7e rfl) rfl ?_;exact HF
  all_goals
   obtain⟨vt,vc,R,x1,x2,x3,x4⟩:=ad.txt;obtain⟨At,Nt,ct,rfl⟩:=x2.sl;obtain⟨Ac,Nc,cc,rfl,-⟩:=x3.formN;have ae:(a1Q KK a5c (.slice none 0 0) S.ow S.am S.ser S.ep S.id).length=73:=a2I a0E ad.ow ad.id;have al:∀v∈a1Q KK a5c (.slice none 0 0) S.ow S.am S.ser S.ep S.id,v.oneCell'=true:=a6g a5O rfl;have ao:=λX vt vc R o1 o2 o3 Z hf=>bx.o S qq aN.o aQ.o X vt vc R o1 o2 o3 Z hf KK aO.o
   have aa:=ad.com;have aJ:=ad.eye;have ba:=ad.fr;have⟨cs,au⟩:=η0 (a1Q KK a5c (.slice none 0 0) S.ow S.am S.ser S.ep S.id);rw[au]at ae al aa;simp only[au]at ao;have f1:∀W:WD,Fr (λk=>k=g) W (W.setRow g cs.toArray):=λW=>(Qp (λk=>k=g) W).setRow (g:=g) (λ_=>rfl) _
   have f2:∀W:WD,Fr (λk=>k=g+1) W (W.setRow (g+1) #[.slice At Nt ct,.slice Ac Nc cc]):=λW=>(Qp (λk=>k=g+1) W).setRow (g:=g+1) (λ_=>rfl) _
   have aD:∀W:WD,Blk W g 58 cs.toArray->(STs 58 (.pointer g) (.agg cs.toArray)).run prog W=.ok () (W.setRow g cs.toArray):=λW hb=>P7 a6X hb (ρy Qc ae) cs ae al
   have aE:∀W:WD,Blk W (g+1) 171 #[.slice At Nt ct,.slice Ac Nc cc]->(STs 171 (.pointer (g+1:Nat)) (.agg #[.slice At Nt ct,.slice Ac Nc cc])).run prog W=.ok () (W.setRow (g+1) #[.slice At Nt ct,.slice Ac Nc cc]):=λW hb=>P7 c7e hb rfl [.slice At Nt ct,.slice Ac Nc cc] rfl (by simp[Value.oneCell'])
   have aB:=aD V.drew aa;have kc:=(aa.drew).row_ cs.toArray;have kt:=x1.drew.fr (f1 V.drew) (show¬_=_ by omega);have ax:=aE _ kt;have aS:=kc.fr (f2 _) (show¬_=_ by omega);have aR:=kt.row_ #[.slice At Nt ct,.slice Ac Nc cc];have F2:Fr (λk=>k=g\/k=g+1) V ((V.drew.setRow g cs.toArray).setRow (g+1) #[.slice At Nt ct,.slice Ac Nc cc]):=(((Qp (λk=>k=g\/k=g+1) V).drew).trans ((f1 V.drew).mono (G:=λk=>k=g\/k=g+1) (λ_ _ e=>.inl e)) (λ_ _ e=>e)).trans ((f2 _).mono (G:=λk=>k=g\/k=g+1) (λ_ _ e=>.inr e)) (λ_ _ e=>e);have hF:=ao _ _ _ R (x2.fr F2 (λk y e=>by have:=(x2.lt y).1;omega)) (x3.fr F2 (λk y e=>by have:=(x3.lt y).1;omega)) (x4.fr F2 (λk cs y _ e=>ρo)) (aJ.fr F2 ρo ρo) (ba.trans F2 (λk y e=>by have:=HG.o;omega));have⟨Y,hY⟩:=η0 ((V.drew.setRow g cs.toArray).setRow (g+1) #[.slice At Nt ct,.slice Ac Nc cc])
   replace ax:=ax.trans (show _=Result.ok () Y by rw[<-hY]);rw[hY]at aS aR hF;have⟨Y1,aL⟩:=η0 (V.drew.setRow g cs.toArray);replace aB:=aB.trans (show _=Result.ok () Y1 by rw[<-aL]);rw[aL]at ax kt kc;have bc:Blk Y1 g 58 cs.toArray/\Blk Y1 (g+1) 171 #[.slice At Nt ct,.slice Ac Nc cc]:=⟨kc,kt⟩;have⟨HF,bD,bL,aK,bH,a9,bs⟩:=η7 hF aS aR ae aa x1 bc;clear hF aS aR ae aa x1 bc f1 f2 aD aE F2 hY aL x2 x3 x4 aJ ba ao kc kt au al;refine a0s [(0,0),(1,0),(2,1),(3,2)] (λW=>Blk W g 58 cs.toArray/\Blk W (g+1) 171 #[.slice At Nt ct,.slice Ac Nc cc]) ρk ρk ρk ρk ⟨bH.o,a9.o⟩ ?_
   iterate 2 refine θ2 (λW' hS=>QU (Pb b2N a6X _ hS.1 aK.o) (Pb d1F c7e [.slice At Nt ct,.slice Ac Nc cc] hS.2 rfl)) ?_
   refine κ1 (bs.o) ?_;refine τ1 ?_;refine ν ?_;go_wp2_with fail;obtain⟨dC,bC,bh⟩:=Q8.1 b2N;obtain⟨dX,bG,a8⟩:=Q8.1 d1F;refine bodyPost_ret (b0y rfl _ _ g (g+1) _ _ cs.toArray #[.slice At Nt ct,.slice Ac Nc cc] (0,0) (0,0) bD.o bC bh (by rw[Qc,aK.o];exact a6X) rfl bL.o bG a8 c7e rfl) rfl ?_;exact HF
end
section
theorem uTx:(prog.underlying 53).map a1f=some true:=ρk
theorem iTx:(prog.info? 53).map (·.size)=some 4:=ρk
abbrev a2q:=ldOf 53
attribute [local go_sem ↓] a2q a1D a3u a3h
structure b1Y(w:WD)(g o:Nat)(B:OA)(cap:Nat)(c:a0y):Prop where
 cell:∀j x,(a0d c B cap)[j]? =some x->w.cell? ⟨g,o+j,none⟩=some x
 path:RdR 32 w B (c.path.map bys)
 room:c.path.length<=cap
 nul:B=none->cap=0
 bd:c.Bd
theorem b1Y.below{w a:WD}{g o:Nat}{B:OA}{cap:Nat}{c:a0y}(h:b1Y w g o B cap c)(d:g<w.heap.size)(b:Below w w a):b1Y a g o B cap c:=
 ⟨λj x hx=>(b.cell (p:=⟨g,o+j,none⟩) d).trans (h.cell j x hx),h.path.below b,h.room,h.nul,h.bd⟩
def a4g(w:WD)(A:OA)(l:List a0y):Prop:=∀j (h:j<l.length),∃g off B cap,A=some ⟨g,off,none⟩/\g<w.heap.size/\b1Y w g (off+j*137) B cap l[j]
theorem a4g.below{w a:WD}{A:OA}{l:List a0y}(h:a4g w A l)(b:Below w w a):a4g a A l:=λj hj=>by
 obtain⟨g,off,B,cap,e,hg,hc⟩:=h j hj;exact⟨g,off,B,cap,e,Qh hg b.size,hc.below hg b⟩
theorem b1Y.ld{o:Nat}{B:OA}{c:a0y}(h:b1Y w g o B cap c):(LDs 39 (.pointer (some ⟨g,o,none⟩))).run prog w=.ok (.agg (a0d c B cap).toArray) w:=
 a2e a8j a4U w g o (a0d c B cap) (a0l h.bd B cap) h.cell
theorem b0q(t:TxD)(n:Int):(a2P t n).length<=t.ins.length:=by
 unfold a2P
 split
 ·simp
 simp
def a7L(t:TxD)(L:LI)(i:Nat):Int:=((L.take i).map λk=>(t.ins.getD k.toNat default).am).foldl (λa b=>IntKind.u64.wrap (a+b)) 0
theorem b1Z(t:TxD)(L:LI):a7L t L 0=0:=by simp[a7L]
theorem b2A(t:TxD)(L:LI){i:Nat}(hi:i<L.length):a7L t L (i+1)=IntKind.u64.wrap (a7L t L i+(t.ins.getD (L.getD i 0).toNat default).am):=by
 unfold a7L;rw[Qe hi,QV,List.foldl_append];simp[List.getD,hi]
theorem b1k(t:TxD)(n s:Int){N:Nat}(h:(a0M (a2P t n) s).length=N):a7L t (a0M (a2P t n) s) N=a6B t n s:=by
 subst h;unfold a7L a6B;rw[ZF]
theorem a2h(x:Int):0<=IntKind.u64.wrap x/\IntKind.u64.wrap x<=18446744073709551615:=by
 rw[IntKind.wrap_u64];omega
theorem b2Z(t:TxD)(L:LI)(i:Nat):0<=a7L t L i/\a7L t L i<=18446744073709551615:=by
 rcases Nat.lt_or_ge 0 (L.take i).length with h | h
 ·obtain⟨m,x,e⟩:=List.eq_nil_or_concat (L.take i) |>.resolve_left (λe=>by rw[e]at h;simp at h)
  unfold a7L;rw[e,List.concat_eq_append,QV,List.foldl_append];exact a2h _
 have:L.take i=[]:=Zv.1 ρo
 unfold a7L;rw[this]
 simp
theorem b9F(a:OA)(b:Nat)(d:OA)(f:Nat)(t:TxD)(n s:Int)(p:-9223372036854775808<=n/\n<=9223372036854775807)(w:WD)(h:a9H w a d t)(m:a2x w)(r:t.ins.length<=1000000)(o:t.outs.length<=1000000):Calls prog 217 #[.agg (txV a b d f t),.int .i64 n,.int .i64 s] w λe w'=>e=.returned (.int .u64 (a6B t n s))/\Below w w w':=by
 have R:=Qd w 53 (txV a b d f t);have S:=ρb w (.cells (txV a b d f t) 53)
 generalize hW:w.alloc (.cells (txV a b d f t) 53)=W at R S
 have⟨g,hg⟩:=ηs w;rw[hg]at R;have aa:=P4 uTx iTx (txV a b d f t).toList (ρw R) rfl;have F:=a6O a b d f t n s p W (h.below S) (m.below S) r o;have Y:=h.below S;have k0:∀X,Below W W X->X.cell? ⟨g,0,none⟩=some (.slice a t.ins.length b):=λX hX=>(R.fr (Q9 hX) (ρh R.lt)).cell 0
 have J:=a3I (a2P t n) s;have ad:=a1V (a2P t n) s;have B:=b0q t n;have Z:= @a4q t n;have⟨L,hL⟩:=η0 (a0M (a2P t n) s);have y:=λN=>b1k t n s (N:=N)
 rw[hL]at J ad F y
 have U:∀x∈L,∃i:Nat,x=(i:Int)/\i<t.ins.length:=λx hx=>by
  obtain⟨i,e,hi⟩:=(J x).1 hx;exact⟨i,e,Qh (Qm.1 hi).1 B⟩
 have ah:L.length<=16:=ρo;have⟨xs,Q⟩:=η0 (txV a b d f t);rw[show(txV a b d f t).toList.toArray=txV a b d f t by simp,Q]at aa;rw[Q]at hW F⊢
 generalize ay:a6B t n s=SA at y⊢
 have⟨HW,HG,HB,K0,an,au,ac,aA⟩:=η8 hW hg S k0 Y U y ah;clear hW hg S k0 Y U y ah J ad B Z ay hL Q R h m;go_in;go_upto_region 1 with fail
 rw[HW.o,HG.o];go_wp2_with fail;refine μ1 F ?_;rintro e w1 ⟨v,u,rfl,hv,hu,D⟩;obtain⟨Av,I,cv,rfl⟩:=hv.formN;have hN:=hv.lenN;have ag:=hv.rd;have H:=φt HB D;have k0:=K0.o w1 D;have G:=an.below D;have O:=b1Z t L;have V:=ac.o I hN.symm;have aC:I<=16:=by have:=aA.o;omega
 have⟨HN,aq,ax,ae,ao⟩:=η5 hN ag H G V;clear hN ag H G V hv hu D ac F aa;go_wp2_with fail;rw[<-O];have aD:=η1 O;clear O;go_loopg [9,11,21] I (λkk q _ s wr=>∃i:Nat,i+kk=I/\s=.int .i64 i/\q=.int .u64 (a7L t L i)/\w1=wr);exact⟨0,by omega,rfl,rfl,rfl⟩;obtain⟨i,hi,rfl,rfl,rfl⟩:=hrel
 by_cases al:i<I
 ·have aj:(i:Int)<I:=ρo
  have B:i<L.length:=by rw[<-HN.o];exact al
  obtain⟨g1,o1,rfl,_,s1⟩:=aq.at B;have z:=b2A t L B;obtain⟨j,hj,E⟩:=au.o (L.getD i 0) (by simp[List.getD,B]);obtain⟨g2,o2,B2,d2,rfl,_,ai⟩:=ae.ins j E;have K:=ae.bd.ins _ (Qu E);have aB:=ai.cell 33 _ (c3t K _ _);rw[hj]at s1 z;have T:t.ins.getD (j:Int).toNat default=t.ins[j]:=by simp[List.getD,E]
  rw[T]at z;have az:=K.am;have av:=b2Z t L i;have⟨am,ab⟩:=η0 ((t.ins[j]).am);rw[ab]at z aB az;have⟨ni,af⟩:=η0 t.ins.length;rw[af]at k0 E;have aE:(j:Int)<ni:=ρo;have aF:(0:Int)<=(j:Int):=ρo
  generalize ak:a7L t L i=si at z av⊢
  have ar:=η1 z;clear z ai T ab af ak hj K;go_wp2;go_roundg (I-(i+1));exact⟨i+1,by omega,by go_num,by rw[ar.o],rfl⟩;omega
 obtain rfl:i=I:=ρo;have aj:¬(i:Int)<i:=ρo;rw[ao.o];go_wp2;go_ret;exact⟨rfl,ax.o⟩
end
section
attribute [local go_sem ↓] a2t a2s a2n a6i a3w
theorem c4I(p k:Nat)(seed:LI)(s:Int)(m:OA)(o:Nat)(b:LI)(w:WD)(x:a5n w p seed k)(y:0<=s/\s<(k:Int))(a:Byt w m b)(d:m=none->o=0)(z:b.length<=100000000)(f:a2x w):Calls prog 247 #[.pointer p,.int .i64 s,.slice m b.length o] w λe w'=>e=.returned (.tuple #[.agg (bys (a7C seed s b)).toArray,.bool true])/\Below w w w':=by
 obtain⟨A,c,H,ac⟩:=x;obtain⟨Z,aa,T,hz⟩:=P8 (t:=31) iId b1N;have b0:=Qd w 31 (Z);have I:=ρb w (.cells (Z) 31)
 generalize hW:w.alloc (.cells (Z) 31)=W at b0 I
 have⟨g,hg⟩:=ηs w;rw[hg]at b0;have J:=H.fr (Q9 I) (ρh H.lt);have hh:=c3u p k A c s W J;obtain⟨j,rfl⟩:=a1C y.1;have R:j<k:=ρo;have hd:decide (0<=(j:Int)/\(j:Int)<k)=true:=by simp[y]
 rw[hd]at hh;have B:((List.range k).map λ(i:Nat)=>a4X seed (i:Int)).length=k:=by simp
 have F:RdR 32 w A (((List.range k).map λ(i:Nat)=>a4X seed (i:Int)).map bys):=by rw[List.map_map];exact ac
 obtain⟨gk,ok,rfl,ae,K⟩:=RdR.byt F (λr x=>by obtain⟨i,_,rfl⟩:=Qs.1 x;exact Dig.ring _ _) (j:=j) (ρy B R);rw[show((List.range k).map λ(i:Nat)=>a4X seed (i:Int))[j]'(ρy B R)=a4X seed (j:Int) by simp]at K;have Q:(a4X seed (j:Int)).length=32:=(Dig.ring _ _).1;have E:=b6g (some ⟨gk,ok+j*32,none⟩) 32 (a4X seed (j:Int)) m o b W ρo (K.below I) (a.below I) d z (f.below I);rw[Q]at E;have q0:W.cell? ⟨p,0,none⟩=some (.slice (some ⟨gk,ok,none⟩) k c):=J.cell 0;have sl:=λX=>b0k (P:=prog) b1w i5 X gk (ok+j*32) ρo
 have Y:a7C seed (j:Int) b=b0H (a4X seed (j:Int)) b:=rfl;rw[Y];have⟨D,hD⟩:=η0 (b0H (a4X seed (j:Int)) b);have U:(bys D).length=32:=by rw[a0a,<-hD];exact(Dig.mac _ _).1
 rw[hD]at E⊢
 generalize hn:b.length=n at E⊢
 have ai:(j:Int)<k:=ρo;have aj:(0:Int)<=(j:Int):=ρo;have S:=aa w;have⟨HW,HG,HB,af,ab,HZ⟩:=η6 hW hg I b0 U hz;clear hW hg I b0 U hz a d z hn hD Y Q K F B ac f ae H J hd y T;go_in;go_upto_region 1 with fail
 rw[HW.o,HG.o];go_wp2_with fail;refine μf hh ?_;go_wp2_with fail;refine μi E ?_;intro w3 O;have N:=φf af O;have ah:=P9 iId N HZ (bys D) ab.o (a0h _);have q1:=N.row_ (bys D).toArray;have q2:=Ql (g:=g) (φt HB O) (ρh HG.o) (bys D).toArray;obtain⟨dI,ad,G⟩:=Q8.1 a2i;have⟨Q1,Q2,ag,V⟩:=η4 q1 q2 ad G;clear q1 q2 ad G O N;clear hh E aa S q0 sl;go_wp2;refine bodyPost_ret (v:=.tuple #[.agg (bys D).toArray,.bool true]) (a0k rfl _ _ g _ _ (0,0) Q1.o ag.o V.o (by rw[Qc,ab.o];exact iId) rfl) rfl ?_;exact⟨rfl,Q2.o⟩
end
section
theorem RdR.frY{b:WD}{F:Nat->Prop}(h:RdR m w A R)(d:Fr F w b)(f:∀a,A=some a->¬F a.block):RdR m b A R:=λj hj=>by
 obtain⟨g,off,e,hg,hc⟩:=h j hj;exact⟨g,off,e,Qh hg d.size,λk x hx=>(d.cell (p:=⟨g,off+j*m+k,none⟩) hg (f ⟨g,off,none⟩ e)).trans (hc k x hx)⟩
structure b1r(b:Nat)(w:WD)(v:VL)(R:LW)(L:List a0y):Prop where
 len:R.length=L.length
 at_:∀j (h:j<L.length),∃B cap,R[j]? =some (a0d L[j] B cap)/\RdR 32 w B (L[j].path.map bys)/\L[j].path.length<=cap/\(B=none->cap=0)/\L[j].Bd/\∀a,B=some a->b<=a.block/\a.block<w.heap.size/\v.ownBlock≠some a.block
theorem b1r.nil(b:Nat)(w:WD)(v:VL):b1r b w v [] []:=⟨rfl,λj h=>absurd h ρp⟩
theorem b1r.fr{d:WD}{L:List a0y}{F:Nat->Prop}(h:b1r b w v R L)(f:Fr F w d)(g:∀k,b<=k->k<w.heap.size->¬F k):b1r b d v R L:=⟨h.len,λj hj=>by
 obtain⟨B,cap,h1,h2,h3,h4,h5,h6⟩:=h.at_ j hj;exact⟨B,cap,h1,h2.frY f (λa ha=>g _ (h6 a ha).1 (h6 a ha).2.1),h3,h4,h5,λa ha=>⟨(h6 a ha).1,Qh (h6 a ha).2.1 f.size,(h6 a ha).2.2⟩⟩⟩
theorem b1r.grow{d:WD}{f:VL}{L:List a0y}(h:b1r b w v R L)(g:Fr (λk=>v.ownBlock=some k) w d)(ht:a7W w v f):b1r b d f R L:=⟨h.len,λj hj=>by
 obtain⟨B,cap,h1,h2,h3,h4,h5,h6⟩:=h.at_ j hj;refine⟨B,cap,h1,h2.frY g (λa ha e=>(h6 a ha).2.2 e),h3,h4,h5,λa ha=>⟨(h6 a ha).1,Qh (h6 a ha).2.1 g.size,λe=>?_⟩⟩
 rcases ht _ e with h7 | h7
 ·exact(h6 a ha).2.2 h7
 have:=(h6 a ha).2.1;omega⟩
theorem b1r.snoc{L:List a0y}(h:b1r b w v R L){c:a0y}{B:OA}(g:RdR 32 w B (c.path.map bys))(d:c.path.length<=cap)(m:B=none->cap=0)(o:c.Bd)(f:∀a,B=some a->b<=a.block/\a.block<w.heap.size/\v.ownBlock≠some a.block):b1r b w v (R++[a0d c B cap]) (L++[c]):=by
 have x:=h.len;refine⟨by simp[x],λj z=>?_⟩
 by_cases p:j<L.length
 ·obtain⟨D,r,G,E,I,F,H,y⟩:=h.at_ j p
  rw[ZK p,QO ρo];exact⟨D,r,G,E,I,F,H,y⟩
 obtain rfl:j=L.length:=by simp at z;omega
 refine⟨B,cap,?_,?_,?_,m,?_,f⟩
 ·rw[QL ρo];simp[x]
 ·simpa using g
 ·simpa using d
 simpa using o
theorem b1r.certs{L:List a0y}(h:b1r b w v R L)(a:RdR 137 w A R):a4g w A L:=λj hj=>by
 obtain⟨B,cap,h1,h2,h3,h4,h5,_⟩:=h.at_ j hj;obtain⟨hjr,h1e⟩:=Qm.1 h1;obtain⟨g,off,e,hg,hc⟩:=a j hjr;exact⟨g,off,B,cap,e,hg,⟨λk x hx=>hc k x (ρy h1e hx),h2,h3,h4,h5⟩⟩
abbrev kOf(l:LI):Nat:=(a0o 9 (.ok l)).1
abbrev rOf(l:LI):b8k:=(a3H (a0o 9 (.ok l)).1 (a0o 9 (.ok l)).2).1
def d2w(cb lb:Nat)(l:LI)(w w':WD):Prop:=∀r,a5Z l=.ok r->∃vt vc R,Blk w' cb 58 (a1Q (kOf l:Int) a5c (.slice none 0 0) (rOf l).ow (rOf l).am (rOf l).ser (rOf l).ep (rOf l).id).toArray/\
 Blk w' lb 171 #[vt,vc]/\a0N w w' vt (rOf l).t/\a0T 22 1 w.heap.size w' vc R/\a5Q w w' R (rOf l).cs
def d3i(cb lb:Nat)(l:LI)(w':WD):Prop:=∀x,a5Z l=.error x->Blk w' cb 58 a7G.toArray/\Blk w' lb 171 #[.slice none 0 0,.slice none 0 0]
theorem a8F(k:Nat)(s:St):(a3H k s).1.ow.length=32/\(a3H k s).1.id.length=32:=by
 unfold a3H
 split
 ·exact⟨a1R _,a0n⟩
 split
 ·exact⟨a0n,a0n⟩
 split
 ·exact⟨a0n,a0n⟩
 split
 ·exact⟨a0n,a0n⟩
 split
 ·exact⟨a0n,a1R _⟩
 exact⟨a0n,a0n⟩
attribute [local go_sem ↓] a7s b3x b2U b8q b2G b2W b3i
theorem b5a(p s cb lb:Nat)(l:LI)(g:l.length<=400000000)(w:WD)(h:a0S w p s l)(j:p<w.heap.size)(m:s<w.heap.size)(d:s≠cb)(f:s≠lb)(a:Blk w cb 58 a7G.toArray)(b:Blk w lb 171 #[.slice none 0 0,.slice none 0 0]):Calls prog 78 #[.pointer p,.pointer cb,.pointer lb] w λe w'=>a6D p s (a5Z l) e w'/\Fr (λk=>(k=cb\/k=lb)\/k=p) w w'/\d2w cb lb l w w'/\d3i cb lb l w':=by
 have z:=b6T p s l g w h j m;have V:p≠cb:=h.far a ρd;have T:p≠lb:=h.far b ρd;have Y:cb≠lb:=a.ne_ b ρd;have ac:=a.lt;have ad:=b.lt;have⟨st,v⟩:=η0 (a5Z l);unfold b2w at z;rw[v]at z⊢;have⟨ab,aa,B⟩:=η3 a b v;clear a b v h;go_in;go_wp2_with fail;refine μ1 z ?_;rintro e w1 ⟨he,U⟩;have b1:=ab.fr U (λe=>V e.symm);have b2:=aa.fr U (λe=>T e.symm)
 cases st with
 |
  error x=>
  obtain rfl:=he;exact⟨rfl,rfl,U.mono (λ_ _ e=>.inr e),(λr hr=>by rw[B.o]at hr;cases hr),λ_ _=>⟨b1,b2⟩⟩
 |
  ok r=>
  obtain⟨⟨vt,vc,R,rfl,o1,Z,o3⟩,X⟩:=he;obtain⟨I,K,O,rfl⟩:=o1.sl;obtain⟨N,J,F,rfl,-⟩:=Z.formN;obtain⟨ho,hi⟩:=a8F (a0o 9 (.ok l)).1 (a0o 9 (.ok l)).2;have D:=a2I (k:=(kOf l:Int)) a0E (C:=.slice none 0 0) ho (am:=(rOf l).am) (ser:=(rOf l).ser) (ep:=(rOf l).ep) hi;have E:=a6g (k:=(kOf l:Int)) a5O (C:=.slice none 0 0) rfl (ow:=(rOf l).ow) (am:=(rOf l).am) (ser:=(rOf l).ser) (ep:=(rOf l).ep) (id:=(rOf l).id);have o:=P7 a6X b1 (by rw[Qc];exact a2I a0E a0n a0n) _ D E;have f2:=ρr (cb) w1 (a1Q (kOf l:Int) a5c (.slice none 0 0) (rOf l).ow (rOf l).am (rOf l).ser (rOf l).ep (rOf l).id).toArray;have k1:=b1.row_ (a1Q (kOf l:Int) a5c (.slice none 0 0) (rOf l).ow (rOf l).am (rOf l).ser (rOf l).ep (rOf l).id).toArray;have k2:=b2.fr f2 (λe=>Y e.symm)
  have⟨w2,H⟩:=η0 (w1.setRow cb (a1Q (kOf l:Int) a5c (.slice none 0 0) (rOf l).ow (rOf l).am (rOf l).ser (rOf l).ep (rOf l).id).toArray);replace o:=o.trans (show _=Result.ok () w2 by rw[<-H]);rw[H]at f2 k1 k2;have W:=P7 c7e k2 rfl [.slice I K O,.slice N J F] rfl (by simp[Value.oneCell']);rw[show [Value.slice I K O,Value.slice N J F].toArray=#[.slice I K O,.slice N J F]from rfl]at W;have f3:=ρr (lb) w2 #[.slice I K O,.slice N J F];have k3:=k2.row_ #[.slice I K O,.slice N J F];have k4:=k1.fr f3 Y;have Q:Fr (λk=>k=cb\/k=lb) w1 (w2.setRow lb #[.slice I K O,.slice N J F]):=(f2.mono (G:=λk=>k=cb\/k=lb) (λ_ _ e=>.inl e)).trans f3 (λk S e=>.inr e);have hK:d2w cb lb l w (w2.setRow lb #[.slice I K O,.slice N J F]):=λ_ _=>⟨_,_,R,k4,k3,o1.fr Q (λk S e=>by have:=(o1.lt S).1;omega),Z.fr Q (λk S e=>by have:=(Z.lt S).1;omega),o3.fr Q (λk cs S _ e=>ρo)⟩
  have hE:=X.fr Q (λe=>by rcases e with e | e;exact V e;exact T e) (λe=>by rcases e with e | e;exact d e;exact f e);have hF:=(U.mono (G:=λk=>(k=cb\/k=lb)\/k=p) (λ_ _ e=>.inr e)).trans Q (λk S e=>.inl e);have⟨xs,y⟩:=η0 ((a1Q (kOf l:Int) a5c (.slice none 0 0) (rOf l).ow (rOf l).am (rOf l).ser (rOf l).ep (rOf l).id).toArray);simp only[y]at o;unfold kOf rOf at y;rw[y];have⟨HK,HE,HF⟩:=η3 hK hE hF;clear hK hE hF o1 Z o3 f2 f3 k1 k2 k3 k4 Q X U z b1 b2 D E H y ho hi;go_wp2;go_end0;exact⟨⟨rfl,HE.o⟩,HF.o,HK.o,λx hx=>by rw[B.o]at hx;cases hx⟩
theorem b1t(args:AV)(w:WD):(callFunc 78 args).run prog w=.ok (.enter 78 args) w:=ρk
theorem c1Y(k:Int)(w:WD):Calls prog 80 #[.int .i64 k] w λe w'=>e=.returned (.bool (decide (2<=k/\k<=6)))/\w=w':=by
 by_cases a:2<=k
 ·by_cases b:k<=6
  ·rw[show decide (2<=k/\k<=6)=true by simp[a,b]]
   go_in;go_wp2;go_ret;exact⟨rfl,rfl⟩
  rw[show decide (2<=k/\k<=6)=false by simp[b]];have f:decide (k<=6)=false:=by simp;omega
  clear b;go_in;go_wp2;go_ret;exact⟨rfl,rfl⟩
 rw[show decide (2<=k/\k<=6)=false by simp[a]];have d:decide (2<=k)=false:=by simp;omega
 clear a;go_in;go_wp2;go_ret;exact⟨rfl,rfl⟩
theorem a7O(x:LI):∀L:LL,a1Z (L++[x])=match a1Z L with | .error e=>.error e | .ok C=>match a5s x with | .error e=>.error e | .ok c=>.ok (C++[c])
 |
  []=>by
  simp only[QF,a1Z]
  cases a5s x<;>rfl
 |
  y::L=>by
  simp only[QG,a1Z,a7O x L]
  cases a5s y with
  | error e=>rfl
  |
   ok c=>
   simp only
   cases a1Z L with
   | error e=>rfl
   |
    ok C=>
    simp only
    cases a5s x<;>rfl
theorem a9C:∀(L M:LL) (e:Int),a1Z L=.error e->a1Z (L++M)=.error e
 | [],_,_,h=>by simp[a1Z]at h
 |
  y::L,M,e,h=>by
  simp only[QG,a1Z]at h⊢
  cases hy:a5s y with
  | error e'=>rw[hy]at h;exact h
  |
   ok c=>
   rw[hy]at h;simp only at h⊢
   cases hL:a1Z L with
   |
    error e'=>
    rw[hL]at h;simp only[Except.error.injEq]at h;subst h;rw[a9C L M e' hL]
   | ok C=>rw[hL]at h;cases h
theorem c6R{s:St}(h:a9Q s):((a3H k s).1.t.length<=4096/\∀x∈(a3H k s).1.t,0<=x/\x<=255)/\((a3H k s).1.cs.length<=16/\∀d∈(a3H k s).1.cs,d.length<=2048/\∀x∈d,0<=x/\x<=255):=by
 have z:(([]:LI).length<=4096/\∀x∈([]:LI),0<=x/\x<=255)/\(([]:LL).length<=16/\∀d∈([]:LL),d.length<=2048/\∀x∈d,0<=x/\x<=255):=by simp
 have t:=a4u (most:=4096) h;unfold a3H
 split
 ·exact z
 split
 ·exact⟨⟨a3o _ _,t.2⟩,z.2⟩
 split
 ·exact⟨⟨a3o _ _,t.2⟩,Qk (a7j _ _) (a0P 16 _),(b3V (a2c t.1) _).1⟩
 split
 ·exact z
 split
 ·exact z
 exact z
theorem a5Q.get(h:a5Q b w R L)(a:a0T 22 1 g w (.slice A n c) R)(d:j<L.length):∃q o v,A=some ⟨q,o,none⟩/\w.cell? ⟨q,o+j,none⟩=some v/\a0N b w v L[j]:=by
 obtain⟨v,r,p⟩:=h.at_ j d;obtain⟨D,B,e,x,-⟩:=a.rd;simp only[Value.slice.injEq]at e;obtain⟨rfl,-,-⟩:=e;obtain⟨m,f⟩:=Qm.1 r;obtain⟨q,o,e,z,y⟩:=x j m
 have:=y 0 v (by rw[f];rfl)
 exact⟨q,o,v,e,by simpa using this,p⟩
def c0w(l:LI)(t:TxD)(R:Except Int (List a0y)):Except Int c7Z:=
 match R with
 | .error x=>.error x
 | .ok L=>.ok ⟨(kOf l:Int),t,L,(rOf l).ow,((rOf l).am:Int),((rOf l).ser:Int),((rOf l).ep:Int),(rOf l).id⟩
theorem b9k(a:l.length<=8192):a2o l=match a5Z l with | .error x=>.error x | .ok r=>if 0<r.length then .error 3 else if 2<=kOf l/\kOf l<=6 then (match a5N (rOf l).t with | .error x=>.error x | .ok t=>c0w l t (a1Z (rOf l).cs)) else c0w l zTx (.ok []):=by
 unfold a2o a5Z;rw[if_neg ρo]
 by_cases f:okS (a0o 9 (.ok l)).2=true/\(a0o 9 (.ok l)).1=0
 ·rw[if_pos f,if_pos f]
 rw[if_neg f,if_neg f]
 cases hs:(a3H (a0o 9 (.ok l)).1 (a0o 9 (.ok l)).2).2 with
 | error x=>rfl
 |
  ok r=>
  simp only
  by_cases d:0<r.length
  ·rw[if_pos d,if_pos d]
  rw[if_neg d,if_neg d]
  by_cases b:2<=(a0o 9 (.ok l)).1/\(a0o 9 (.ok l)).1<=6
  ·rw[if_pos b,if_pos b]
   cases a5N (a3H (a0o 9 (.ok l)).1 (a0o 9 (.ok l)).2).1.t with
   | error x=>rfl
   |
    ok t=>
    simp only[c0w]
    cases a1Z (a3H (a0o 9 (.ok l)).1 (a0o 9 (.ok l)).2).1.cs with
    | error x=>rfl
    |
     ok L=>
     simp only
     rcases Nat.lt_or_ge 3 (a0o 9 (.ok l)).1 with g | g
     ·simp only[rOf,c2N (k:=(a0o 9 (.ok l)).1) ⟨by omega,by omega⟩]
      rfl
     simp only[rOf,c0h (k:=(a0o 9 (.ok l)).1) ⟨by omega,by omega⟩]
     rfl
  rw[if_neg b,if_neg b]
  rfl
def a5x(b:Nat)(l:LI)(e:Ending)(w':WD):Prop:=
 match a2o l with
 | .error x=>e=.returned (.tuple #[.agg a7G.toArray,.int .i64 x])/\(x != 0)=true
 | .ok c=>∃A1 c1 A2 c2 A cap R,e=.returned (.tuple #[.agg (a1Q c.kind (txV A1 c1 A2 c2 c.t).toList (.slice A c.certs.length cap) c.ow c.am c.ser c.ep c.id).toArray,.int .i64 0])/\a4W b w' A1 A2 c.t/\
  a0T 39 137 b w' (.slice A c.certs.length cap) R/\b1r b w' (.slice A c.certs.length cap) R c.certs
end
section
attribute [local go_sem ↓] a2q a1D a3u a3h a2t a2s a2n
def b1j(nil:Bool)(n:Int)(t:TxD)(N:Nat)(many:Int):Int:=
 if nil=true\/n<1\/64<n then 1 else if a1a t≠0 then a1a t else if(N:Int)≠many then 27 else 0
theorem a9D(m:OA)(b:OA)(f:Nat)(d:OA)(j:Nat)(t:TxD)(n a:Int)(A:OA)(N c:Nat)(w:WD)(h:a9H w b d t)(p:t.ins.length<=1000000)(o:t.outs.length<=1000000):Calls prog 215 #[.pointer m,.agg (txV b f d j t),.int .i64 n,.int .i64 a,.slice A N c] w λe w'=>e=.returned (.int .i64 (b1j m.isNone n t N a))/\Below w w w':=by
 have H:=Qd w 53 (txV b f d j t);have I:=ρb w (.cells (txV b f d j t) 53)
 generalize O:w.alloc (.cells (txV b f d j t) 53)=W at H I
 have⟨g,K⟩:=ηs w;rw[K]at H;have z:=P4 uTx iTx (txV b f d j t).toList (ρw H) rfl;have v:=a3L b f d j t W (h.below I) p o;have⟨Y,B⟩:=η0 (txV b f d j t);rw[show(txV b f d j t).toList.toArray=txV b f d j t by simp,B]at z;rw[B]at O v⊢;have⟨R,S⟩:=η0 (a1a t);rw[S]at v;have G:b1j m.isNone n t N a=(if m.isNone=true\/n<1\/64<n then 1 else if R≠0 then R else if(N:Int)≠a then 27 else 0):=by unfold b1j;rw[S]
 rw[G];have⟨F,D,y⟩:=η3 O K I;clear O K I B S G H h p o
 cases m with
 |
  none=>
  rw[if_pos (.inl rfl)];go_in;go_upto_region 1 with fail
  rw[F.o,D.o];go_wp2;go_ret;exact⟨rfl,y.o⟩
 |
  some Z=>
  by_cases V:n<1
  ·rw[if_pos (.inr (.inl V))]
   go_in;go_upto_region 1 with fail
   rw[F.o,D.o];go_wp2;go_ret;exact⟨rfl,y.o⟩
  by_cases U:64<n
  ·rw[if_pos (.inr (.inr U))]
   go_in;go_upto_region 1 with fail
   rw[F.o,D.o];go_wp2;go_ret;exact⟨rfl,y.o⟩
  rw[if_neg (by simp;omega)]
  by_cases J:R=0
  ·subst J
   rw[if_neg ρp]
   by_cases E:(N:Int)=a
   ·rw[if_neg (ρw E)]
    have Q:((N:Int) != a)=false:=ρw E;clear E;go_in;go_upto_region 1 with fail
    rw[F.o,D.o];go_wp2_with fail;refine μi v ?_;intro T r;have x:=η1 r;clear r v z;go_wp2;go_ret;exact⟨rfl,y.trans (x.mono y.size)⟩
   rw[if_pos E];have Q:((N:Int) != a)=true:=ρw E;clear E;go_in;go_upto_region 1 with fail
   rw[F.o,D.o];go_wp2_with fail;refine μi v ?_;intro T r;have x:=η1 r;clear r v z;go_wp2;go_ret;exact⟨rfl,y.trans (x.mono y.size)⟩
  rw[if_pos J];have X:(R != 0)=true:=ρw J;clear J;go_in;go_upto_region 1 with fail
  rw[F.o,D.o];go_wp2_with fail;refine μi v ?_;intro T r;have x:=η1 r;clear r v z;go_wp2;go_ret;exact⟨rfl,y.trans (x.mono y.size)⟩
theorem b3W(seed:LI)(t:TxD)(n:Int):∀(S:LI) (L:List a0y),L.length=S.length->(b6w seed t n S L=true↔∀j,j<L.length->b4x seed t n (S.getD j 0) (L.getD j default)=true)
 | [],[],_=>by simp[b6w]
 |
  s::S,c::L,h=>by
  have ih:=b3W seed t n S L (ρw h);rw[b6w,QA,ih]
  constructor
  ·rintro⟨h0,h1⟩ j hj
   cases j with
   | zero=>simpa using h0
   | succ j=>simpa using h1 j (ρw hj)
  intro h;exact⟨by simpa using h 0 ρp,λj hj=>by simpa using h (j+1) (ρw hj)⟩
 | [],c::L,h=>by simp at h
 | s::S,[],h=>by simp at h
theorem c4J{c:a0y}(h:c.Bd)(A:OA)(cap:Nat):(a0d c A cap)[34]? =some (.int .u64 c.e.am):=by
 have a:(bys c.e.tx).length=32:=by rw[a0a,h.e.tx.1]
 unfold a0d a0x a0b;simp[a]
theorem b1W(p k:Nat)(seed:LI)(a:OA)(d:Nat)(b:OA)(f:Nat)(t:TxD)(A:OA)(c:Nat)(l:List a0y)(w:WD)(v:a5n w p seed k)(x:1<=k)(y:k<=64)(h:a9H w a b t)(m:a2x w)(r:t.ins.length<=1000000)(o:t.outs.length<=1000000) (hC:a4g w A l) (hpl:∀c∈l,c.path.length<=1000000) (hll:l.length<=1000000):Calls prog 158 #[.pointer p,.agg (txV a d b f t),.int .i64 k,.slice A l.length c] w λe w'=>e=.returned (.int .i64 (b6j seed t k l))/\Below w w w':=by
 have b0:=Qd w 53 (txV a d b f t);have B0:=ρb w (.cells (txV a d b f t) 53)
 generalize hW:w.alloc (.cells (txV a d b f t) 53)=W at b0 B0
 have⟨g,hg⟩:=ηs w;rw[hg]at b0;have aF:=λX (E:Below W W X)=>P4 uTx iTx (w:=X) (txV a d b f t).toList (by simpa using b0.fr (Q9 E) (ρh b0.lt)) rfl
 have aT:=aF W (Qf _ _);have ai:=b7x a d b f t (k:Int) ρo W (h.below B0) (m.below B0) r o;have F:=λX (E:Below W W X) bh=>a9D p a d b f t (k:Int) bh A l.length c X ((h.below B0).below E) r o
 have hid:=λX (E:Below W W X)=>a2v a d b f t X ((h.below B0).below E) ((m.below B0).below E) r o
 have ar:=λX (E:Below W W X) s=>b9F a d b f t (k:Int) s ρo X ((h.below B0).below E) ((m.below B0).below E) r o
 have bl:=v.below B0;have bo:=hC.below B0;have bn:=m.below B0;have T:=b4i (a2P t (k:Int));have aJ:=b3W seed t (k:Int) (a2V (a2P t (k:Int))) l
 have ao:∀s c,b4x seed t (k:Int) s c=(isP seed k c&&(decide (c.e.kind=1)&&(decide (c.e.sh=s)&&decide (c.e.tx=idP t)))&&decide (c.e.am=a6B t k s)):=λs c=>by
  unfold b4x;simp only[Bool.and_assoc]
 have aI:Dig (idP t):=⟨a3b t,a5f t⟩
 have aQ:b6j seed t (k:Int) l=if a1a t≠0 then a1a t else if l.length≠(a2V (a2P t (k:Int))).length then 27 else if b6w seed t (k:Int) (a2V (a2P t (k:Int))) l=true then 0 else 16:=by
  unfold b6j;rw[if_neg ρo]
 have aM:∀N:Nat,b1j false (k:Int) t l.length N=if a1a t≠0 then a1a t else if l.length≠N then 27 else 0:=λN=>by
  unfold b1j;rw[if_neg (by simp;omega)]
  by_cases h0:a1a t=0
  ·simp only[h0,ne_eq,not_true_eq_false,if_false]
   by_cases h1:l.length=N
   ·subst h1
    simp
   rw[if_pos ρo,if_pos h1]
  rw[if_pos h0,if_pos h0]
 rw[aQ]
 generalize hS:a2V (a2P t (k:Int))=S at ai T aJ⊢
 have⟨D,hD⟩:=η0 (idP t);simp only[hD]at hid ao aI;have⟨xs,aA⟩:=η0 (txV a d b f t);rw[show(txV a d b f t).toList.toArray=txV a d b f t by simp,aA]at aT;simp only[aA]at aF;rw[aA]at hW ai⊢;simp only[aA]at F hid ar;have⟨N,hN⟩:=η0 l.length;simp only[hN]at F aM;rw[hN]at hll aJ⊢;have⟨R,hR⟩:=η0 (a1a t);simp only[hR]at aM;rw[hR]
 generalize aS:(if R≠0 then R else if N≠S.length then 27 else if b6w seed t (k:Int) S l=true then 0 else 16)=RES
 have aY:(bys D).length=32:=by rw[a0a,aI.1]
 obtain⟨Z,bE,aN,hz⟩:=P8 (t:=31) iId b1N;have a9:=λX=>aN X (bys D) aY (a0h _)
 have⟨HW,HG,HB,aZ,bq,bs,a5,HR⟩:=η8 hW hg B0 aF F hid ar bl;have⟨HC,br,aK,be,bB,bC,HN,bw⟩:=η8 bo bn aJ ao aI aM hN hpl;have⟨bx,bg,bF,B⟩:=η4 aY T b0 aS;clear hW hg B0 aF F hid ar bl bo bn aJ ao aI aM hN hpl aY T b0 aS hR hD hS aA h m v hC aQ aN hz;go_in;go_upto_region 1 with fail
 rw[HW.o,HG.o];go_wp2_with fail;refine μ1 ai ?_;rintro e w1 ⟨As,cs,rfl,bi,aC⟩
 generalize hM:S.length=M at aK bg B⊢
 have aq:=aZ.o w1 aC;have F:=bq.o w1 aC (M:Int);rw[show(some (⟨p,0,none⟩:Addr)).isNone=false from rfl,bC.o M]at F;have⟨bt,ay,HM⟩:=η3 bi aC hM;clear bi aC hM ai aT
 by_cases aL:R=0
 ·subst aL
  simp only[ne_eq,not_true_eq_false,if_false]at F B
  by_cases bb:N=M
  ·subst bb
   simp only[not_true_eq_false,if_false]at F B;go_wp2_with fail;refine μi F ?_;intro w2 U;have aj:=φt ay U;have a6:=aZ.o w2 aj;have aR:=bs.o w2 aj;have aO:=bt.below U;have⟨an,a8⟩:=η2 aj aO;clear aj aO U F aq;go_wp2_with fail;refine μi aR ?_;intro w3 aV;have au:=φt an aV;have a7:=a9 w3;have q1:=Qd w3 31 (bys D).toArray;have q2:=au.alloc au.size (.cells (bys D).toArray 31);have q3:=(a8.below aV).below ((Qf _ w3).alloc (Qg _) (.cells (bys D).toArray 31));have⟨h,hh⟩:=ηs w3
   generalize hY:w3.alloc (.cells (bys D).toArray 31)=Y at q1 q2 q3 a7
   rw[hh]at q1;have aP:=λX (E:Below Y Y X)=>P4 a2i iId (bys D) (q1.fr (Q9 E) (ρh q1.lt)) bx.o
   have⟨bA,ae,bf,bp⟩:=η4 hh q2 q3 aP;clear hh q2 q3 aP aV au q1 hY aR a6 a9;go_upto_region 7 with fail
   rw[bA.o];go_loopg [12,30] N (λkk _ s wr=>∃i:Nat,i+kk=N/\s=.int .i64 i/\(∀j,j<i->b4x seed t (k:Int) (S.getD j 0) (l.getD j default)=true)/\Below Y Y wr);exact⟨0,by omega,rfl,λj hj=>ρo,Qf _ _⟩;obtain⟨i,hi,rfl,aG,ab⟩:=hrel
   by_cases aH:i<N
   ·have bm:(i:Int)<N:=ρo
    have a1:i<l.length:=by rw[HN.o];exact aH
    obtain⟨g1,o1,rfl,bu,s1⟩:=(bf.below ab).at (i:=i) (ρy HM.o aH);obtain⟨g2,o2,B2,d2,rfl,bj,ag⟩:=HC.o i a1;have G:=φt ae ab;have F1:=λX (E:Below wr.heap.size wr X)=>(ag.below bj (G.trans (E.mono G.size))).ld
    have F2:=λX (E:Below wr.heap.size wr X)=>(E.cell (p:=⟨g1,o1+i,none⟩) bu).trans s1
    have F3:=λX (E:Below wr.heap.size wr X)=>bp.o X (ab.trans (E.mono ab.size))
    have F4:=λX (E:Below wr.heap.size wr X)=>(ag.below bj (G.trans (E.mono G.size))).cell 34 _ (c4J ag.bd _ _)
    have F5:=λX (E:Below wr.heap.size wr X)=>aZ.o X (G.trans (E.mono G.size))
    have ax:=λX (E:Below wr.heap.size wr X)=>b2n p k seed B2 d2 l[i] 1 (S.getD i 0) D bB.o X (HR.below (G.trans (E.mono G.size))) y ag.bd ag.room (bw.o _ (Qu a1)) (ag.path.below (G.trans (E.mono G.size))) (br.below (G.trans (E.mono G.size)))
    have aE:=λX (E:Below wr.heap.size wr X)=>a5.o X (G.trans (E.mono G.size)) (S.getD i 0)
    have Q:=be.o (S.getD i 0) l[i];have a3:l.getD i default=l[i]:=by simp[List.getD,a1]
    have⟨PR,a0⟩:=η0 ((isP seed k l[i]&&(decide (l[i].e.kind=1)&&(decide (l[i].e.sh=S.getD i 0)&&decide (l[i].e.tx=D)))));simp only[a0]at ax;rw[a0]at Q;have⟨cv,ba⟩:=η0 ((a0d l[i] B2 d2).toArray);simp only[ba]at F1 ax;have⟨am,aW⟩:=η0 (l[i].e.am);simp only[aW]at F4;rw[aW]at Q;have⟨si,aD⟩:=η0 (S.getD i 0);simp only[aD]at F2 ax aE;rw[aD]at Q;have⟨sm,av⟩:=η0 (a6B t (k:Int) si);simp only[av]at aE;rw[av]at Q
    obtain⟨S0,aX⟩:∃S0:WD->Prop,(λX=>(LDs 39 (.pointer (some ⟨g2,o2+i*137,none⟩))).run prog X=.ok (.agg cv) X/\X.cell? ⟨g1,o1+i,none⟩=some (.int .i64 si)/\
     (LDs 31 (.pointer (some ⟨h,0,none⟩))).run prog X=.ok (.agg (bys D).toArray) X/\X.cell? ⟨g2,o2+i*137+34,none⟩=some (.int .u64 am)/\(LDs 53 (.pointer g)).run prog X=.ok (.agg xs) X)=S0:=⟨_,rfl⟩
    have bk:∀X,Below wr.heap.size wr X->S0 X:=λX E=>by rw[<-aX];exact⟨F1 X E,F2 X E,F3 X E,F4 X E,F5 X E⟩
    have bG:(0:Int)<=(i:Int):=ρo;have ak:=ax wr.drew (Qf _ _).drew;have⟨al,ah,I,a2,aU,bz,ad,a4⟩:=η8 aX bk Q a3 aD aG ab aE;clear aX bk Q a3 aD aG ab aE ag G F1 F2 F3 F4 F5 ax a0 ba aW av s1
    cases PR with
    |
     true=>
     rw[Y5]at I
     by_cases has:am=sm
     ·have bc:(am != sm)=false:=ρw has
      rw[show decide (am=sm)=true by simpa using has]at I;clear has;go_upto_region 9 with fail
      refine a0s [(0,3),(1,3),(2,3),(3,3),(5,3),(6,3),(7,3),(4,0),(8,0),(9,0),(10,1),(11,3),(12,3),(13,3),(14,3),(15,3),(16,3),(17,3),(20,3),(21,3),(22,3),(23,3),(18,0),(19,0),(24,0),(25,1),(26,3),(27,3)] S0 ρk ρk ρk ρk (ah.o _ (Qf _ _).drew) ?_;refine ε7 ?_
      iterate 3 refine θ5 (λ_ h=>by rw[<-al.o]at h;exact h) ?_
      refine κ ?_;intro K hK;refine μi ak ?_;intro af H;have z:Below wr.heap.size wr af:=(Qf _ wr).drew.trans H;have V:=a4.o af z;have J:=η1 z;clear z H ak;with_reducible refine hK _ _ (ah.o _ J.o) ?_;clear hK K
      refine ε7 ?_;refine ε4 ?_
      iterate 3 refine θ5 (λ_ h=>by rw[<-al.o]at h;exact h) ?_
      refine κ ?_;intro K hK;refine μi V ?_;intro bv ac;have O:=φt J ac;have aa:=η1 O;clear O ac V;with_reducible refine hK _ _ (ah.o _ aa.o) ?_;clear hK K
      refine ε2 ?_;refine ν ?_;go_wp2;go_roundg (N-(i+1))
      case measure=>omega
      refine⟨i+1,by omega,by go_num,λj hj=>?_,ad.trans (aa.mono ad.size)⟩
      by_cases e:j=i
      ·subst e;rw[a2.o,aU.o];exact I.o
      exact bz.o j ρo
     have bc:(am != sm)=true:=ρw has;rw[show decide (am=sm)=false by simpa using has]at I
     have az:RES=16:=by
      rw[<-B.o,if_neg];intro e
      have:=(aK.o ρp).1 e i aH
      rw[a2.o,aU.o,I.o]at this
      cases this
     subst az;clear has B;go_upto_region 9 with fail
     refine a0s [(0,3),(1,3),(2,3),(3,3),(5,3),(6,3),(7,3),(4,0),(8,0),(9,0),(10,1),(11,3),(12,3),(13,3),(14,3),(15,3),(16,3),(17,3),(20,3),(21,3),(22,3),(23,3),(18,0),(19,0),(24,0),(25,1),(26,3),(27,3)] S0 ρk ρk ρk ρk (ah.o _ (Qf _ _).drew) ?_;refine ε7 ?_
     iterate 3 refine θ5 (λ_ h=>by rw[<-al.o]at h;exact h) ?_
     refine κ ?_;intro K hK;refine μi ak ?_;intro af H;have z:Below wr.heap.size wr af:=(Qf _ wr).drew.trans H;have V:=a4.o af z;have J:=η1 z;clear z H ak;with_reducible refine hK _ _ (ah.o _ J.o) ?_;clear hK K
     refine ε7 ?_;refine ε4 ?_
     iterate 3 refine θ5 (λ_ h=>by rw[<-al.o]at h;exact h) ?_
     refine κ ?_;intro K hK;refine μi V ?_;intro bv ac;have O:=φt J ac;have aa:=η1 O;clear O ac V;with_reducible refine hK _ _ (ah.o _ aa.o) ?_;clear hK K
     refine ε2 ?_;refine ν ?_;go_wp2;go_ret;exact⟨rfl,HB.trans ((ae.trans ((ad.trans (aa.mono ad.size)).mono ae.size)).mono HB.size)⟩
    |
     false=>
     rw[Bool.false_and]at I
     have az:RES=16:=by
      rw[<-B.o,if_neg];intro e
      have:=(aK.o ρp).1 e i aH
      rw[a2.o,aU.o,I.o]at this
      cases this
     subst az;clear B;go_upto_region 9 with fail
     refine a0s [(0,3),(1,3),(2,3),(3,3),(5,3),(6,3),(7,3),(4,0),(8,0),(9,0),(10,2),(11,3),(12,3),(13,3),(14,3),(15,3),(16,3),(17,3),(18,3),(19,3),(20,3),(21,3),(22,3),(23,3),(24,3),(25,3),(26,3),(27,3)] S0 ρk ρk ρk ρk (ah.o _ (Qf _ _).drew) ?_;refine ε7 ?_
     iterate 3 refine θ5 (λ_ h=>by rw[<-al.o]at h;exact h) ?_
     refine τ ?_;intro K hK;refine μi ak ?_;intro af H;have z:Below wr.heap.size wr af:=(Qf _ wr).drew.trans H;have J:=η1 z;clear z H ak;with_reducible refine hK _ _ ?_;clear hK K
     refine ε2 ?_;refine δ4 ?_;refine δ4 ?_;refine δ4 ?_;refine δ1 ?_;refine δ1 ?_;refine ε1 ?_;refine ν ?_;go_wp2;go_ret;exact⟨rfl,HB.trans ((ae.trans ((ad.trans (J.mono ad.size)).mono ae.size)).mono HB.size)⟩
   obtain rfl:i=N:=ρo;have bm:¬(i:Int)<i:=ρo;have aB:RES=0:=by rw[<-B.o,if_pos ((aK.o ρp).2 aG)]
   subst aB;have ad:=η1 ab;clear ab aG;go_wp2;go_ret;exact⟨rfl,HB.trans ((ae.trans (ad.mono ae.size)).mono HB.size)⟩
  simp only[bb,not_false_eq_true,if_true]at F B;have aB:RES=27:=B.symm;subst aB;go_wp2_with fail;refine μi F ?_;intro w2 U;have an:=η1 U;clear U F aq;go_wp2;go_ret;exact⟨rfl,HB.trans ((ay.trans (an.mono ay.size)).mono HB.size)⟩
 simp only[ne_eq,aL,not_false_eq_true,if_true]at F B;have aB:RES=R:=B.symm;subst aB;have bD:(RES != 0)=true:=ρw aL;clear aL B;go_wp2_with fail;refine μi F ?_;intro w2 U;have an:=η1 U;clear U F aq;go_wp2;go_ret;exact⟨rfl,HB.trans ((ay.trans (an.mono ay.size)).mono HB.size)⟩
end
theorem RdR.fr{b:WD}{F:Nat->Prop}(h:RdR m w A R)(d:Fr F w b)(f:∀a,A=some a->¬F a.block):RdR m b A R:=λj hj=>by
 obtain⟨g,off,e,hg,hc⟩:=h j hj;exact⟨g,off,e,Qh hg d.size,λk x hx=>(d.cell (p:=⟨g,off+j*m+k,none⟩) hg (f ⟨g,off,none⟩ e)).trans (hc k x hx)⟩
section
def d0x(cmd:LI)(e:a1P)(iss:Nat)(x:Ending)(w':WD):Prop:=∃g,x=.returned (.tuple #[.slice (some ⟨g,0,none⟩) 3 3,.bool true])/\a4M w' g 0 cmd/\a4M w' g 1 (a5V e)/\a4M w' g 2 (a0K iss)
attribute [local go_sem ↓] a1W
theorem b6b(A:OA)(c:Nat)(g:A=none->c=0)(a:LI)(b:a.length<=100000000)(e:a1P)(d:e.Bd)(m:a0D e=true)(iss:Nat)(hi:iss<=4611686018427387904)(w:WD)(j:Byt w A a):Calls prog 204 #[.slice A a.length c,.agg (a0x e).toArray,.int .u64 iss] w λx w'=>d0x a e iss x w'/\Below w w w':=by
 have b0:=Qd w 34 (((a0x e).toArray));have B0:=ρb w (.cells (((a0x e).toArray)) 34)
 generalize hW:w.alloc (.cells (((a0x e).toArray)) 34)=W at b0 B0
 have⟨g0,ad⟩:=ηs w;rw[ad]at b0;have aa:=P4 b3q a8Q (a0x e) b0 (a0u d);have o:=a5H e d W;rw[m]at o;simp only[if_true]at o;have hI:¬((4611686018427387904:Int)<(iss:Int)):=ρo;have Y:=a0L (n:=iss) ρo;have J:=a0p (n:=iss) ρo;have O:=b2M d
 generalize aO:(a0x e).toArray=xs at hW aa o⊢
 generalize hn:a.length=n
 have⟨HW,HG,Z,aL,az,HN,ak,HC⟩:=η8 hW ad B0 O Y hn j g;have⟨aM,HI,aR⟩:=η3 J hi b;clear hW ad B0 O Y hn j g J hi b aO b0;go_in;go_upto_region 1 with fail
 rw[HW.o,HG.o];go_wp2_with fail;refine μ1 o ?_;rintro e1 v ⟨v2,rfl,ah,aj⟩;obtain⟨A2,c2,rfl,T,_,_⟩:=a0N.byt ah aL;have aD:A2=none->c2=0:=λe=>by subst e;exact a0N.nulI ah
 generalize V:(a5V e).length=n2
 have K:a3Z v (v.alloc (.cells #[.slice none 0 0] 123)) v.heap.size (.slice none 0 0) []:=⟨Qd v _ _,Qg _,a0N.nil _ _⟩;have H:=ρb v (.cells #[.slice none 0 0] 123);have⟨w2,ab⟩:=η0 (v.alloc (.cells #[.slice none 0 0] 123));have⟨p,hp⟩:=ηs v;rw[ab]at K H;have aF:=HI.o;have E:=a2M v.heap.size v.heap.size (.slice none 0 0) [] iss ρo w2 K ρp H.size;rw[hp]at E;have⟨aG,HP,I,aq,aH,ao,aJ,au⟩:=η8 ab hp aj H K T aD V;clear ab hp aj H K T aD V aa o ah aF;go_upto_region 5 with fail
 rw[aG.o,HP.o];go_wp2_with fail;refine μ1 E ?_;rintro e1 w3 ⟨rfl,⟨v3,ac,ay⟩,af⟩
 have an:Below v w2 w3:=by
  have hp:=HP.o;rw[<-hp]at af;exact a1j aH af aq.size
 have aP:=HP.o;simp only[QF]at ac;have D:Below v v w3:=aq.trans an;have B:Below w w w3:=(Z.trans (I.mono Z.size)).trans (D.mono (Z.trans (I.mono Z.size)).size);have z:=a8r A c HC a w3 (ak.below B) (ρh aR.o);rw[HN.o]at z;have⟨r,aS,F⟩:=η3 D B ac;clear D B ac af ay an aP E;go_wp2_with fail;refine μ1 z ?_;rintro e1 w4 ⟨v4,rfl,ae,G⟩;obtain⟨A4,c4,aN,U,_,_⟩:=a0N.byt ae ak.bd;subst aN;have aB:A4=none->c4=0:=λe=>by subst e;exact a0N.nulI ae
 have al:a3Z p w4 p v3 (a0K iss):=⟨F.st.fr (Q9 G) (ρh F.o.st.lt),Qg _,F.own.fr (Q9 G) (λk hk f=>by have:=(F.own.lt hk).2;omega)⟩;have J:=aM.o;have ai:=a4A p p v3 (a0K iss) az.o w4 al ρo;rw[HN.o];have⟨aA,aE,aK⟩:=η3 G U aB;clear G U aB ae al z J;go_wp2_with fail;refine μ1 ai ?_;rintro e1 w5 ⟨v5,rfl,ag,av⟩;obtain⟨A5,c5,rfl,N,_,_⟩:=a0N.byt ag az;have ar:A5=none->c5=0:=λe=>by subst e;exact a0N.nulI ag
 generalize R:(a0K iss).length=n5
 have⟨aQ,ax,aI,aC⟩:=η4 av N ar R;clear av N ar R ag ai;go_wp2;go_ret2;have BX:=ρb w5 (.cells #[.slice A4 n c4,.slice A2 n2 c2,.slice A5 n5 c5] 22);have y:=Qd w5 22 #[.slice A4 n c4,.slice A2 n2 c2,.slice A5 n5 c5];have Q:=aQ.o;have X:Below v v w5:=(r.trans (aA.mono r.size)).trans (Q.mono (r.trans (aA.mono r.size)).size);have S:Below w w w5:=(Z.trans (I.mono Z.size)).trans (X.mono (Z.trans (I.mono Z.size)).size);exact⟨⟨w5.heap.size,rfl,⟨y.lt,A4,c4,by rw[HN.o];exact y.cell 0,(aE.below Q).below BX,aK.o⟩,⟨y.lt,A2,c2,by rw[au.o];exact y.cell 1,(ao.below X).below BX,aJ.o⟩,⟨y.lt,A5,c5,by rw[aC.o];exact y.cell 2,ax.below BX,aI.o⟩⟩,S.alloc S.size _⟩
end
section
abbrev Pt:=LI×Int
abbrev a4v:=ldOf 206
abbrev a4s:=stOf 206
abbrev a4r:=alOf 206
theorem c3f:(prog.underlying 206).map a1f=some true:=ρk
theorem a9y:(prog.info? 206).map (·.size)=some 33:=ρk
def a3q:a1q:=⟨List.replicate 32 0,0⟩
theorem a2R:a3q.Bd:=⟨by simp[a3q],by intro x hx;have:=Zf hx;omega,by simp[a3q]⟩
theorem b1a(w:WD):(ALs 206).run prog w=.ok (.pointer w) (w.alloc (.cells (a1s a3q).toArray 206)):=a0U (.agg (a1s a3q).toArray) ρk w
theorem d2E(w:WD):(zeroValue 206).run prog w=.ok (.agg (a1s a3q).toArray) w:=ρk
theorem b0v:prog.underlying 161=some (.map 189 206):=ρk
theorem a3a:(prog.underlying 189).map a1f=some true:=ρk
theorem a1H:(prog.info? 189).map (·.size)=some 33:=ρk
theorem a6l.vlen{p:Pt}(h:a6l p):(ptL p.1 p.2).length=33:=a1x h.len p.2
structure a0i(w:WD)(cb mb:Nat)(m:List (Pt×a1q))(s:Int):Prop where
 st:Blk w cb 163 #[.map (some mb),.int .u64 s]
 mp:a4o ptE a1s w mb m
 bd:∀p∈m,p.2.Bd
theorem a0i.fr{w b:WD}{cb a:Nat}{m:List (Pt×a1q)}{s:Int}{F:Nat->Prop}(h:a0i w cb a m s)(d:Fr F w b)(f:¬F cb)(g:¬F a):a0i b cb a m s:=⟨h.st.fr d f,h.mp.fr d g,h.bd⟩
theorem a0i.below{a:WD}{m:List (Pt×a1q)}(h:a0i w cb b m s)(d:Below w w a):a0i a cb b m s:=h.fr (Q9 d) (ρh h.st.lt) (ρh h.mp.lt)
theorem a0i.ne{m:List (Pt×a1q)}(h:a0i w cb a m s):a≠cb:=h.mp.ne_blk h.st
theorem a0i.q0{m:List (Pt×a1q)}(h:a0i w cb a m s):w.cell? ⟨cb,0,none⟩=some (.map (some a)):=h.st.cell 0
theorem a0i.q1{m:List (Pt×a1q)}(h:a0i w cb a m s):w.cell? ⟨cb,1,none⟩=some (.int .u64 s):=h.st.cell 1
def a1v(m:List (Pt×a1q))(p:Pt):a1q:=(a2E m p).getD a3q
theorem a3p{m:List (Pt×a1q)}(h:∀p∈m,p.2.Bd)(p:Pt):(a1v m p).Bd:=by
 unfold a1v
 cases hg:a2E m p with
 | none=>exact a2R
 | some v=>exact h _ (a6T hg)
theorem a0i.look{m:List (Pt×a1q)}(h:a0i w cb b m s){p:Pt}(d:a6l p):(Instr.lookup 161 (.map (some b)) (.agg (ptL p.1 p.2).toArray) true).run prog w=.ok (.tuple #[.agg (a1s (a1v m p)).toArray,.bool (a2E m p).isSome]) w:=by
 unfold a1v
 cases hg:a2E m p with
 | none=>exact h.mp.look_out b0v (a:=p) d (d2E w) hg true
 | some v=>exact h.mp.look_in b0v (a:=p) hg true
theorem c0Y(w:WD):Calls prog 28 #[] w λe w'=>e=.returned (.pointer (w.heap.size+1:Nat))/\a0i w' (w.heap.size+1) w.heap.size [] 0/\Below w w w'/\w'.heap.size=w.heap.size+2:=by
 have m:a4o ptE a1s (w.alloc (.map #[] 0)) w.heap.size []:=a4o.new w;have f:=ρb w (.map #[] 0);have o:=f.alloc f.size (.cells #[.map (some w.heap.size),.int .u64 0] 163);have d:=Qd (w.alloc (.map #[] 0)) 163 #[.map (some w.heap.size),.int .u64 0];rw[Qi]at d;have j:=m.fr (Q9 ((Qf _ (w.alloc (.map #[] 0))).alloc (Qg _) (.cells #[.map (some w.heap.size),.int .u64 0] 163))) ρp;have a:a0i ((w.alloc (.map #[] 0)).alloc (.cells #[.map (some w.heap.size),.int .u64 0] 163)) (w.heap.size+1) w.heap.size [] 0:=⟨d,j,by simp⟩;have⟨b,g⟩:=η2 a o;have p:=run_makeMap (P:=prog) (t:=161) w;clear a o d j m f;go_in;go_wp2;go_ret;exact⟨by simp,b.o,g.o,by simp⟩
theorem b4j(cb a:Nat)(m:List (Pt×a1q))(s:Int)(w:WD)(h:a0i w cb a m s):Calls prog 202 #[.pointer cb] w λe w'=>e=.returned (.int .i64 (m.length:Int))/\w=w':=by
 have q0:=h.q0;have b:=h.mp.len_ (ty:=3) b0v
 generalize d:m.length=n at b⊢
 clear h d;go_in;go_wp2;go_ret;exact⟨rfl,rfl⟩
theorem c2f(cb a:Nat)(m:List (Pt×a1q))(s:Int)(w:WD)(h:a0i w cb a m s):Calls prog 35 #[.pointer cb] w λe w'=>e=.returned (.int .u64 s)/\w=w':=by
 have q1:=h.q1;clear h;go_in;go_wp2;go_ret;exact⟨rfl,rfl⟩
attribute [local go_sem ↓] a4v a4s a4r a1F
theorem c0F(cb a:Nat)(m:List (Pt×a1q))(s:Int)(p:Pt)(b:a6l p)(w:WD)(h:a0i w cb a m s):Calls prog 253 #[.pointer cb,.agg (ptL p.1 p.2).toArray] w λe w'=>e=.returned (.tuple #[.agg (a1s (a1v m p)).toArray,.bool (a2E m p).isSome])/\Below w w w':=by
 have⟨g,hg⟩:=ηs w;have⟨j,F⟩:=η0 ((ptL p.1 p.2).toArray);have⟨y,ad⟩:=η0 ((a1s a3q).toArray);have z:=b1a;simp only[ad]at z;have V:y.size=33:=by rw[<-ad,Qc];exact a0G a2R
 have au:=h.st.lt;have ax:=h.mp.lt;have b0:=Qd w 189 j;have B0:=ρb w (.cells j 189)
 generalize N:w.alloc (.cells j 189)=W1 at b0 B0
 rw[hg]at b0;have ac:W1.heap.size=g+1:=by rw[<-N,<-hg];simp
 have r:(ALs 206).run prog (w.alloc (.cells j 189))=.ok (.pointer W1) (W1.alloc (.cells y 206)):=by rw[N];exact z W1
 have H:=b0.alloc (.cells y 206);have b1:=Qd W1 206 y;have B1:=B0.alloc B0.size (.cells y 206);have⟨W2,K⟩:=η0 (W1.alloc (.cells y 206));have U:W2.heap.size=g+2:=by rw[<-K];simp;omega
 rw[K]at H b1 B1 r;rw[ac]at b1 r;have h2:=h.below B1;have Q:Fr (λ_=>False) W2 W2.drew:=(Qp _ _).drew;have⟨X,hX⟩:=η0 W2.drew;rw[hX]at Q;have ae:X.heap.size=g+2:=by rw[<-hX];exact U
 have E:a0i X cb a m s/\Blk X g 189 j:=⟨h2.fr Q id id,H.fr Q id⟩;have o:=z X;have R:=Qd X 206 y;have I:=ρb X (.cells y 206)
 generalize hY:X.alloc (.cells y 206)=Y at R I o
 rw[ae]at R o;have ag:a0i Y cb a m s/\Blk Y g 189 j:=⟨E.1.below I,E.2.fr (Q9 I) ρo⟩;have aa:=a3p h.bd p;have f:=a0G aa;have G:=a1O (a1v m p);have d:=λ(W:WD) (hw:a0i W cb a m s)=>hw.look b
 simp only[F]at d
 generalize ab:a1s (a1v m p)=cs at f G⊢
 simp only[ab]at d
 generalize ak:(a2E m p).isSome=ok at d⊢
 have D:=P7 a9y R V cs f G;have fY:Fr (λk=>k=g+2) Y (Y.setRow (g+2) cs.toArray):=(Qp (λk=>k=g+2) Y).setRow (g:=g+2) (λ_=>rfl) _;have kx:=R.row_ cs.toArray;have kr:Blk (Y.setRow (g+2) cs.toArray) (g+1) 206 y:=((b1.fr Q id).fr (Q9 I) ρo).fr fY ρo;have BY:Below w w (Y.setRow (g+2) cs.toArray):=((B1.trans (Q.below ρo (λ_ _=>id))).trans (I.mono ρo)).trans (fY.below (B:=w.heap.size) (ρh I.size) (λk hk e=>ρo));have⟨Z,hZ⟩:=η0 (Y.setRow (g+2) cs.toArray);replace D:=D.trans (show _=Result.ok () Z by rw[<-hZ]);rw[hZ]at kx kr BY;have T:=Pb c3f a9y cs kx f;have ah:=P7 a9y kr V cs f G;have O:=kr.row_ cs.toArray;have BZ:=Ql (g:=g+1) BY ρo cs.toArray;have x:=λ(W:WD) (hb:Blk W g 189 j)=>Pb a3a a1H (w:=W) j.toList (ρw hb) (by rw[<-F];simpa using b.vlen)
 simp only[show j.toList.toArray=j by simp]at x;have⟨xa,J⟩:=η0 cs.toArray;have af:xa.size=33:=by rw[<-J,Qc,f]
 simp only[J]at d D T ah O BZ⊢;rw[F];have⟨aj,ai,al,av,ar,aq,S,HX⟩:=η8 E ag af O BZ d x hX;have HG:=η1 hg;clear E ag af O BZ d x hX hg b0 B0 H b1 B1 h2 Q ae R I hY aa f G ab ak fY kx kr BY hZ U N ac K z h au ax J F;go_in;go_upto_region 1 with fail
 clear r;rw[HG.o];refine a0s [(0,3),(1,3),(2,3),(3,0),(4,0),(5,0),(6,3),(7,3),(8,3),(9,1),(10,2),(11,3)] (λW=>a0i W cb a m s/\Blk W g 189 j) ρk ρk ρk ρk (ρy HX.o aj.o) ?_;rw[HX.o];refine ε3 ?_
 iterate 3 refine θ3 (λW' hS=>QU hS.1.q0 (QU (S.o W' hS.2) (aq.o W' hS.1))) ?_
 refine ε3 ?_;refine κ1 (ai.o) ?_;refine τ1 ?_;refine ε1 ?_;refine ν ?_;clear o D;go_wp2_with fail;obtain⟨dT,an,ao⟩:=Q8.1 c3f;refine bodyPost_ret (v:=.tuple #[.agg xa,.bool ok]) (a0k rfl _ _ (g+1) _ _ (0,0) av.o an ao (ρy al.o a9y) rfl) rfl ?_;exact⟨rfl,ar.o⟩
end
section
attribute [local go_sem ↓] a2q a1D a3u a3h a2t a2s a2n
theorem b2K(A:OA)(c:Nat)(l:LI)(x:Int)(w:WD)(h:RdW .i64 w A l)(a:l.length<=1000000):Calls prog 221 #[.slice A l.length c,.int .i64 x] w λe w'=>e=.returned (.bool (l.contains x))/\w'=w:=by
 rcases Zq l.length with b | b
 ·obtain rfl:=Zv.1 b
  exact AnyE.slices_Contains_empty Tryz.laysCI A c (.int .i64 x) w
 obtain⟨g,off,rfl,m,f⟩:=h b
 have:=AnyE.slices_Contains Tryz.laysCI (Value.int .i64) (λx y=>x == y) (EqlAt.int _ _ .i64) g off l.length c l x w (Qg _) ρo (λj d=>f j _ (by simp[getElem!_pos,d]))
 rw[ZF]at this
 have e:(l.any λy=>x == y)=l.contains x:=by
  rw[Bool.eq_iff_iff]
  simp
 rw[e]at this;exact this
theorem b8Y(p k:Nat)(seed:LI)(A:OA)(cap:Nat)(c:a0y)(b:Int)(id:LI)(hid:Dig id)(w:WD)(g:a5n w p seed k)(j:k<=64)(m:c.Bd)(a:c.path.length<=cap)(d:c.path.length<=1000000)(o:RdR 32 w A (c.path.map bys))(f:a2x w):Calls prog 216 #[.pointer p,.agg (a0d c A cap).toArray,.int .i64 b,.int .i64 c.e.sh,.agg (bys id).toArray] w λe w'=>e=.returned (.bool (isP seed k c&&(decide (c.e.kind=b)&&decide (c.e.tx=id))))/\Below w w w':=by
 have h:=b2n p k seed A cap c b c.e.sh id hid w g j m a d o f;have e:decide (c.e.sh=c.e.sh)=true:=by simp
 rw[e,Y5]at h;exact h
theorem b8u(p k:Nat)(seed:LI)(a:OA)(d:Nat)(b:OA)(f:Nat)(t:TxD)(A:OA)(c:Nat)(l:List a0y)(w:WD)(r:a5n w p seed k)(v:1<=k)(x:k<=64)(h:a9H w a b t)(j:a2x w)(o:t.ins.length<=1000000)(m:t.outs.length<=1000000) (hC:a4g w A l) (hpl:∀c∈l,c.path.length<=1000000):Calls prog 163 #[.pointer p,.agg (txV a d b f t),.int .i64 k,.slice A l.length c] w λe w'=>e=.returned (.int .i64 (d1D seed t k l))/\Below w w w':=by
 have b0:=Qd w 53 (txV a d b f t);have B0:=ρb w (.cells (txV a d b f t) 53)
 generalize hW:w.alloc (.cells (txV a d b f t) 53)=W at b0 B0
 have⟨g,hg⟩:=ηs w;rw[hg]at b0;have al:=λX (B:Below W W X)=>P4 uTx iTx (w:=X) (txV a d b f t).toList (by simpa using b0.fr (Q9 B) (ρh b0.lt)) rfl
 have ac:=al W (Qf _ _);have z:=a9D p a d b f t (k:Int) 1 A l.length c W (h.below B0) o m;have ab:=λX (B:Below W W X)=>b7x a d b f t (k:Int) ρo X ((h.below B0).below B) ((j.below B0).below B) o m
 have hid:=λX (B:Below W W X)=>a2v a d b f t X ((h.below B0).below B) ((j.below B0).below B) o m
 have a0:b1j false (k:Int) t l.length 1=if a1a t≠0 then a1a t else if l.length≠1 then 27 else 0:=by
  unfold b1j;rw[if_neg (by simp;omega)]
  by_cases h0:a1a t=0
  ·simp only[h0,ne_eq,not_true_eq_false,if_false]
   by_cases h1:l.length=1
   ·simp[h1]
   rw[if_pos ρo,if_pos h1]
  rw[if_pos h0,if_pos h0]
 rw[show(some (⟨p,0,none⟩:Addr)).isNone=false from rfl,a0]at z
 have av:d1D seed t (k:Int) l=if a1a t≠0 then a1a t else if l.length≠1 then 27 else if b5g seed t k (l.getD 0 default)=true then 0 else 16:=by
  unfold d1D;rw[if_neg ρo]
 have an:∀c,b5g seed t (k:Int) c=((a2V (a2P t (k:Int))).contains c.e.sh&&(isP seed k c&&(decide (c.e.kind=2)&&decide (c.e.tx=idP t)))):=λc=>by
  unfold b5g
  cases isP seed (k:Int) c<;>cases decide (c.e.kind=2)<;>cases decide (c.e.tx=idP t)<;>simp
 have aC:Dig (idP t):=⟨a3b t,a5f t⟩;have H:=b4i (a2P t (k:Int));rw[av];have⟨S,hS⟩:=η0 (a2V (a2P t (k:Int)));simp only[hS]at ab an;rw[hS]at H;have⟨D,hD⟩:=η0 (idP t);simp only[hD]at hid an aC;have aX:=r.below B0;have a1:=hC.below B0;have aY:=j.below B0;have⟨xs,aj⟩:=η0 (txV a d b f t);rw[show(txV a d b f t).toList.toArray=txV a d b f t by simp,aj]at ac;simp only[aj]at al;rw[aj]at hW z⊢;simp only[aj]at ab hid
 generalize hN:l.length=N at z⊢
 generalize hR:a1a t=R at z⊢
 generalize aA:(if R≠0 then R else if N≠1 then 27 else if b5g seed t k (l.getD 0 default)=true then 0 else 16)=RES
 obtain⟨Z,bg,au,hz⟩:=P8 (t:=39) a4U d1P;have⟨HW,HG,HB,a8,aS,a4,HR,HC⟩:=η8 hW hg B0 al ab hid aX a1;have⟨a3,ba,be,HN,a7,aU,bh,y⟩:=η8 aY an aC hN hpl H b0 aA;clear hW hg B0 al ab hid aX a1 aY an aC hN hpl H b0 aA hR hD hS aj h j r hC av a0 hz
 by_cases aq:R=0
 ·subst aq
  simp only[ne_eq,not_true_eq_false,if_false]at z y
  by_cases aR:N=1
  ·subst aR
   simp only[not_true_eq_false,if_false]at z y;have aK:0<l.length:=by rw[HN.o];omega
   obtain⟨g2,o2,B2,d2,rfl,bb,E⟩:=HC.o 0 aK;rw[Nat.zero_mul,ZH]at E;have aM:l.getD 0 default=l[0]:=by simp[List.getD,aK]
   rw[aM,ba.o]at y;have ag:=a7.o _ (Qu aK);have⟨ct,aV⟩:=η0 (l[0]);rw[aV]at E ag y;have ar:=a0l E.bd B2 d2;have aD:=λX=>au X (a0d ct B2 d2) ar (a2C _ _ _)
   have af:=λX (B:Below W W X)=>(E.below bb B).ld
   have⟨cs,ao⟩:=η0 (a0d ct B2 d2);have aJ:=a9l E.bd B2 d2;rw[ao]at ar aJ;simp only[ao]at aD af;have⟨aL,aO,a9,bc,aQ⟩:=η5 E af ao ar ag;clear E af ao ar ag au aM aV;go_in;go_upto_region 1 with fail
   rw[HW.o,HG.o];go_wp2_with fail;refine μi z ?_;intro w1 G;have a5:=aO.o w1 G;have q1:=Qd w1 39 cs.toArray;have q2:=G.alloc G.size (.cells cs.toArray 39);have aP:=aD w1;have⟨h,hh⟩:=ηs w1
   generalize hY:w1.alloc (.cells cs.toArray 39)=Y at q1 q2 aP
   rw[hh]at q1;have F1:=λX (B:Below Y Y X)=>P4 a8j a4U cs (q1.fr (Q9 B) (ρh q1.lt)) bc.o
   have F2:=λX (B:Below Y Y X)=>((q1.fr (Q9 B) (ρh q1.lt)).cell 1).trans aJ.2.1
   have F3:=λX (B:Below Y Y X)=>a8.o X (q2.trans (B.mono q2.size))
   have⟨cv,aF⟩:=η0 cs.toArray;have T:=λX (B:Below Y Y X)=>b8Y p k seed B2 d2 ct 2 D be.o X (HR.below (q2.trans (B.mono q2.size))) x aL.bd aL.room aQ.o (aL.path.below (q2.trans (B.mono q2.size))) (a3.below (q2.trans (B.mono q2.size)))
   simp only[a9.o,aF]at T;simp only[aF]at F1;have F:=λX As cs (B:RdW .i64 X As S)=>b2K As cs S ct.e.sh X B (ρh aU.o)
   have⟨C,hC⟩:=η0 (S.contains ct.e.sh);simp only[hC]at F;rw[hC]at y;have⟨PR,aH⟩:=η0 ((isP seed k ct&&(decide (ct.e.kind=2)&&decide (ct.e.tx=D))));simp only[aH]at T;rw[aH]at y;have⟨sh,aZ⟩:=η0 ct.e.sh;simp only[aZ]at T F F2;have⟨M,hM⟩:=η0 S.length;simp only[hM]at F;have⟨S0,aE⟩:=η0 ((λX=>(LDs 39 (.pointer (some ⟨h,0,none⟩))).run prog X=.ok (.agg cv) X/\X.cell? ⟨h,1,none⟩=some (.int .i64 sh)/\(LDs 53 (.pointer g)).run prog X=.ok (.agg xs) X):WD->Prop);have aW:∀X,Below Y Y X->S0 X:=λX B=>by rw[<-aE];exact⟨F1 X B,F2 X B,F3 X B⟩
   have ak:=aS.o Y.drew q2.drew;rw[hM]at ak;have⟨aT,Q,aB,ad,a2,aN⟩:=η6 hh q2 aE aW T F;clear hh q2 aE aW T F G hY ac z aD aJ aF F1 F2 F3 hC aH aZ hM
   cases C with
   |
    true=>
    rw[Y5]at y;go_upto_region 5 with fail
    rw[aT.o];refine a0s [(1,3),(3,3),(4,3),(0,0),(5,0),(2,1),(6,1),(7,3),(8,3),(9,3),(11,3),(12,3),(10,0),(13,0),(14,0),(15,1),(16,2),(17,3),(18,3)] S0 ρk ρk ρk ρk (ad.o _ (Qf _ _).drew) ?_;refine ε3 ?_
    iterate 2 refine θ3 (λ_ h=>by rw[<-aB.o]at h;exact h) ?_
    refine κ ?_;intro K U;refine μ1 ak ?_;rintro e w2 ⟨As,aI,rfl,ai,ah⟩;have O:Below Y Y w2:=(Qf _ Y).drew.trans ah;have F:=aN.o w2 As aI ai;have aa:=η1 O;clear O ah ai ak;with_reducible refine U _ _ (ad.o _ aa.o) ?_;clear U K
    refine κ ?_;intro K U;refine μi F ?_;intro w6 ae;rw[ae];clear ae F;have hid:=a4.o w2 (Q.trans (aa.mono Q.size));with_reducible refine U _ _ (ad.o _ aa.o) ?_;clear U K
    refine ε5 ?_
    iterate 3 refine θ3 (λ_ h=>by rw[<-aB.o]at h;exact h) ?_
    refine κ ?_;intro K U;refine μi hid ?_;intro a6 az;have V:=φt aa az;have T:=a2.o a6 V;have J:=η1 V;clear V az hid;with_reducible refine U _ _ (ad.o _ J.o) ?_;clear U K
    refine τ ?_;intro K U;refine μi T ?_;intro bi ax;have ay:=η1 ax;clear ax T;with_reducible refine U _ _ ?_;clear U K
    refine ε2 ?_;refine ν ?_
    cases PR with
    |
     true=>
     have I:RES=0:=y.symm;subst I;go_wp2;go_ret;exact⟨rfl,HB.trans ((Q.trans ((J.trans (ay.mono J.size)).mono Q.size)).mono HB.size)⟩
    |
     false=>
     have I:RES=16:=y.symm;subst I;go_wp2;go_ret;exact⟨rfl,HB.trans ((Q.trans ((J.trans (ay.mono J.size)).mono Q.size)).mono HB.size)⟩
   |
    false=>
    have I:RES=16:=y.symm;subst I;clear y;go_upto_region 5 with fail
    rw[aT.o];refine a0s [(1,3),(3,3),(4,3),(0,0),(5,0),(2,1),(6,2),(7,3),(8,3),(9,3),(10,3),(11,3),(12,3),(13,3),(14,3),(15,3),(16,3),(17,3),(18,3)] S0 ρk ρk ρk ρk (ad.o _ (Qf _ _).drew) ?_;refine ε3 ?_
    iterate 2 refine θ3 (λ_ h=>by rw[<-aB.o]at h;exact h) ?_
    refine κ ?_;intro K U;refine μ1 ak ?_;rintro e w2 ⟨As,aI,rfl,ai,ah⟩;have O:Below Y Y w2:=(Qf _ Y).drew.trans ah;have F:=aN.o w2 As aI ai;have aa:=η1 O;clear O ah ai ak;with_reducible refine U _ _ (ad.o _ aa.o) ?_;clear U K
    refine τ ?_;intro K U;refine μi F ?_;intro w6 ae;rw[ae];clear ae F;with_reducible refine U _ _ ?_;clear U K
    refine ε2 ?_;refine δ4 ?_;refine δ4 ?_;refine δ1 ?_;refine ε1 ?_;refine ν ?_;go_wp2;go_ret;exact⟨rfl,HB.trans ((Q.trans (aa.mono Q.size)).mono HB.size)⟩
  simp only[aR,not_false_eq_true,if_true]at z y;have I:RES=27:=y.symm;subst I;go_in;go_upto_region 1 with fail
  rw[HW.o,HG.o];go_wp2_with fail;refine μi z ?_;intro w1 G;have aG:=η1 G;clear G z ac;go_wp2;go_ret;exact⟨rfl,HB.trans (aG.mono HB.size)⟩
 simp only[ne_eq,aq,not_false_eq_true,if_true]at z y;have I:RES=R:=y.symm;subst I;have bf:(RES != 0)=true:=ρw aq;clear aq y;go_in;go_upto_region 1 with fail
 rw[HW.o,HG.o];go_wp2_with fail;refine μi z ?_;intro w1 G;have aG:=η1 G;clear G z ac;go_wp2;go_ret;exact⟨rfl,HB.trans (aG.mono HB.size)⟩
end
section
theorem d0O:prog.underlying 54=some (.slice 39):=ρk
theorem d2c:(prog.info? 39).map (λi=>(i.zero.map (·.cells.size),i.size,i.bytes))=some (some 137,137,216):=ρk
theorem d1p:(prog.info? 39).map (λi=>(i.zero.map (·.cells.size),i.size))=some (some 137,137):=ρk
theorem c1I(xs:AV)(t:TI):Builtin.append_ #[54,54] t xs=APs #[54,54] t xs:=rfl
theorem c0D(n:Nat)(a:Array (Nat×VL)):Instr.buildSlice 54 n a=BSs 54 n a:=rfl
inductive ReS(g b:Nat)(V:WD)(l:LI)(T:LL)(e6:Int):Prop where
 | ok (h0:e6=0) (t:TxD) (A1:OA) (c1:Nat) (A2:OA) (c2:Nat) (hb:Blk V (g+1) 58 (a1Q (kOf l:Int) (txV A1 c1 A2 c2 t).toList (.slice none 0 0) (rOf l).ow (rOf l).am (rOf l).ser (rOf l).ep (rOf l).id).toArray) (ht:a4W b V A1 A2 t) (hr:a2o l=c0w l t (a1Z T))
 | bad (h0:e6≠0) (cs:AV) (hb:Blk V (g+1) 58 cs) (hr:a2o l=.error e6)
theorem b2o:∀{T:LL} {L:List a0y},a1Z T=.ok L->L.length=T.length
 | [],L,h=>by simp only[a1Z,Except.ok.injEq]at h;subst h;rfl
 |
  y::T,L,h=>by
  simp only[a1Z]at h
  cases hy:a5s y with
  | error e'=>rw[hy]at h;cases h
  |
   ok c=>
   rw[hy]at h;simp only at h
   cases hL:a1Z T with
   | error e'=>rw[hL]at h;cases h
   |
    ok C=>
    rw[hL]at h;simp only[Except.ok.injEq]at h;subst h;simp[b2o hL]
theorem b1r.base{b':Nat}{L:List a0y}(h:b1r b w v R L)(d:b'<=b):b1r b' w v R L:=⟨h.len,λj hj=>by
 obtain⟨B,cap,h1,h2,h3,h4,h5,h6⟩:=h.at_ j hj;exact⟨B,cap,h1,h2,h3,h4,h5,λa ha=>⟨Qk d (h6 a ha).1,(h6 a ha).2⟩⟩⟩
theorem c8W(b:Nat)(w:WD):a4W b w none none zTx:=by
 have f:zTx.Bd:=⟨by simp[zTx],by simp[zTx],by simp[zTx],by simp[zTx]⟩;obtain⟨j,o,m,g,a,d,h⟩:=a4W.of (t:=zTx) (a0T.nil 191 35 b w) (a5D.nil b w _) (a0T.nil 56 33 b w) f;simp only[Value.slice.injEq]at a d;obtain⟨rfl,-,-⟩:=a;obtain⟨rfl,-,-⟩:=d;exact h
theorem c7V{s:St}(h:¬(4<=k/\k<=6)):(a3H k s).1.cs=[]:=by
 unfold a3H
 repeat' split
 all_goals first | rfl | contradiction
def d3g(g b:Nat)(X wr:WD)(l:LI)(T:LL)(j:Nat):Prop:=
 ∃t A1 c1 A2 c2 v Rc L,a1Z (T.take j)=.ok L/\Blk wr (g+1) 58 (a1Q (kOf l:Int) (txV A1 c1 A2 c2 t).toList v (rOf l).ow (rOf l).am (rOf l).ser (rOf l).ep (rOf l).id).toArray/\a4W b X A1 A2 t/\a0T 39 137 X.heap.size wr v Rc/\b1r b wr v Rc L/\a2o l=c0w l t (a1Z T)
structure ReL(g b:Nat)(w X wr:WD)(l:LI)(T:LL)(R:LW)(vc:VL)(zz:AV)(j:Nat)(e:Int):Prop where
 res:Blk wr g 58 zz
 lb:∃vt,Blk wr (g+2) 171 #[vt,vc]
 oR:a0T 22 1 b wr vc R
 tR:a5Q b wr R T
 below:Below w w wr
 fx:Fr (λk=>k=g+1) X wr
 st:(e=0/\d3g g b X wr l T j)\/(e≠0/\a2o l=.error e)
theorem ReL.get{wr:WD}{a:VL}(h:ReL g b w X wr l T R a zz j 0):d3g g b X wr l T j:=by
 rcases h.st with h | h
 ·exact h.2
 exact absurd rfl h.1
theorem ReL.start{d a:VL}{e:Int}(h:ReS g b X l T e)(f:Blk X g 58 zz)(j:Blk X (g+2) 171 #[d,a])(m:a0T 22 1 b X a R)(o:a5Q b X R T)(p:Below w w X):ReL g b w X X l T R a zz 0 e:=by
 refine⟨f,⟨d,j⟩,m,o,p,Qp _ _,?_⟩
 cases h with
 | ok v t z D B y x ht r=>exact .inl ⟨v,t,z,D,B,y,.slice none 0 0,[],[],rfl,x,ht,a0T.nil _ _ _ _,b1r.nil _ _ _,r⟩
 | bad v cs x r=>exact .inr ⟨v,r⟩
attribute [local go_sem ↓] a7s b3x b2U b8q b2G b2W b3i b7r b8h b8b a1D a3u a3h c1I c0D
theorem b5X(A:OA)(c:Nat)(m:A=none->c=0)(l:LI)(z:l.length<=400000000)(w:WD)(f:Byt w A l):Calls prog 31 #[.slice A l.length c] w λe w'=>a5x w l e w'/\Below w w w':=by
 have dW:∀(fn:Fn) (first cap:AV) (w:WD),(Instr.makeFunc fn first cap).run prog w=.ok (.func fn first cap) w:=λ_ _ _ _=>rfl
 have⟨zz,ao⟩:=η0 a7G.toArray;have hz:zz.size=73:=by rw[<-ao,Qc];exact a2I a0E a0n a0n
 have bn:∀v∈zz.toList,v.oneCell'=true:=by rw[<-ao];exact a6g a5O rfl
 have a0:=c6G;simp only[ao]at a0;have dU:∀W:WD,(BDs 58 #[]).run prog W=.ok (.agg zz) W:=by rw[<-ao];exact d0W
 have⟨g,hg⟩:=ηs w;have b0:=Qd w 58 zz;have B0:=ρb w (.cells zz 58);have aM:=a0 w;have⟨W,hW⟩:=η0 (w.alloc (.cells zz 58));have cz:W.heap.size=g+1:=by rw[<-hW,<-hg];simp
 rw[hW]at b0 B0 aM;rw[hg]at b0 aM;obtain⟨dC,bN,aU⟩:=Q8.1 b2N
 have bc:∀X:WD,Blk X g 58 zz->(STs 58 (.pointer g) (.agg zz)).run prog X=.ok () (X.setRow g zz):=λX hb=>by
  have:=P7 a6X hb hz zz.toList (ρw hz) bn
  rwa [show zz.toList.toArray=zz by simp]at this
 have aC:∀(x:Int) (X:WD),a2o l=.error x->(x != 0)=true->Below w w X->a5x w l (.returned (.tuple #[.agg zz,.int .i64 x])) X/\Below w w X:=λx X hr hx hB=>by
  refine⟨?_,hB⟩;unfold a5x;rw[hr];exact⟨by rw[ao],hx⟩
 have⟨N,hN⟩:=η0 l.length
 by_cases bO:8192<N
 ·have cw:(8192:Int)<(N:Int):=ρo
  have D:=bc W b0;have cB:=b0.row_ zz;have cI:=Ql (g:=g) B0 ρo zz;have af:a2o l=.error 4:=by unfold a2o;exact if_pos ρo
  have⟨dw,dF,b7,a3,HZ⟩:=η5 cB cI af aC hz;clear cB cI af aC hz b0 B0 hW a0 f bn bc bO;rw[hN];go_in;go_wp2;refine bodyPost_ret (v:=.tuple #[.agg zz,.int .i64 4]) (a0k rfl _ _ g _ _ (0,0) dw.o bN aU (ρy HZ.o a6X) rfl) rfl ?_;exact a3.o 4 _ b7 rfl dF
 have cw:¬(8192:Int)<(N:Int):=ρo;have b1:=Qd W 58 zz;have bU:=b0.alloc (.cells zz 58);have B1:=B0.alloc B0.size (.cells zz 58);have aP:=a0 W;have⟨V,hV⟩:=η0 (W.alloc (.cells zz 58));have cW:V.heap.size=g+2:=by rw[<-hV];simp;omega
 rw[hV]at b1 bU B1 aP;rw[cz]at b1 aP;have aY:=c6k V;have b2:=Qd V 171 #[.slice none 0 0,.slice none 0 0];have bX:=b1.alloc (.cells #[.slice none 0 0,.slice none 0 0] 171);have ch:=bU.alloc (.cells #[.slice none 0 0,.slice none 0 0] 171);have B2:=B1.alloc B1.size (.cells #[.slice none 0 0,.slice none 0 0] 171);have⟨U,hU⟩:=η0 (V.alloc (.cells #[.slice none 0 0,.slice none 0 0] 171));have cG:U.heap.size=g+3:=by rw[<-hU];simp;omega
 rw[hU]at b2 bX ch B2 aY;rw[cW]at b2 aY
 have be:=a6Q 78 #[.pointer (g+1:Nat),.pointer (g+2:Nat)] b1t A c m l z U (f.below B2) (λk=>k=g+1\/k=g+2) (λk F=>ρo) (a5Z l)
  (λw2 w3=>d2w (g+1) (g+2) l w2 w3/\d3i (g+1) (g+2) l w3)
  (λp s w2 hB hp hs d2 ca he=>b5a p s (g+1) (g+2) l z w2 he ca ρo ρo ρo (by rw[ao];exact bX.fr (Q9 hB) ρo) (b2.fr (Q9 hB) ρo))
 have aX:=b0L (b4o l);have cr:=f.bd;have E:=b9k (l:=l) ρo;have⟨ev,cf⟩:=η0 (a8t (a5Z l));rw[cf]at be aX;rw[hN]at be⊢;have⟨cy,dB,HG,b9,dO,c5,HZ,d4⟩:=η8 ch B2 hg cG aX E hz bn;have⟨dK,a3,bS,de,dZ⟩:=η5 bc aC cf cr ao;clear ch B2 hg cG aX E hz bn bc aC cf cr ao b0 B0 b1 bX bU B1 hW cz hV cW hU a0 f b2;go_in;go_upto_region 5 with fail
 clear aM aP aY cw;go_wp2_with fail;refine μ1 be ?_;rintro e w1 ⟨rfl,f1,w2,w3,dn,ad,⟨hK,hE⟩,f3⟩;have bw:=cy.fr f1 (show¬_ by omega);have cK:Below w w w1:=dB.trans (f1.below (B:=w.heap.size) (ρi b9.o HG.o) (λk F e=>by have:=HG.o;omega));have nU:∀k,k<U.heap.size->¬k=U.heap.size:=λk F e=>ρo
 have bA:g+3<=w1.heap.size:=by have:=f1.size;have:=b9.o;omega
 have bC:=c6R (k:=(a0o 9 (.ok l)).1) (s:=(a0o 9 (.ok l)).2) (a2c (s:=.ok l) de.o);have⟨HB,ci,az,HK,HE,dH,d0,a8⟩:=η8 bw cK f3 hK hE ad nU bA;have cC:=η1 bC;clear bw cK f3 hK hE ad nU bA bC f1 be dn
 have ak:(∃vt vc R T,Blk w1 (g+2) 171 #[vt,vc]/\a0T 22 1 (g+3) w1 vc R/\a5Q (g+3) w1 R T/\(T.length<=16/\∀d∈T,d.length<=2048/\∀x∈d,0<=x/\x<=255)/\((ev≠0/\(∃cs,Blk w1 (g+1) 58 cs/\∃kv:Int,cs[0]? =some (.int .i64 kv))/\a2o l=.error ev)\/
   (ev=0/\T=(rOf l).cs/\a0N (g+3) w1 vt (rOf l).t/\a5Z l=.ok []/\Blk w1 (g+1) 58 (a1Q (kOf l:Int) a5c (.slice none 0 0) (rOf l).ow (rOf l).am (rOf l).ser (rOf l).ep (rOf l).id).toArray))):=by
  have hU:=b9.o;have ad:=dH.o;have E:=c5.o
  cases hs:a5Z l with
  |
   error x=>
   obtain⟨k1,k2⟩:=HE.o x hs;have hx:ev=x:=by rw[<-bS.o,hs];rfl
   have dG:ev≠0:=by
    rw[hx]
    have:=b4o l
    rw[hs]at this;exact this
   refine⟨_,_,[],[],k2.fr az.o (show¬_=_ by omega),a0T.nil _ _ _ _,a5Q.nil _ _,by simp,.inl ⟨dG,⟨_,k1.fr az.o (show¬_=_ by omega),0,a4a⟩,?_⟩⟩;rw[E,hs,hx]
  |
   ok r=>
   obtain⟨vt,vc,R,k1,k2,o1,o2,o3⟩:=HK.o r hs;have cn:=k1.fr az.o (show¬_=_ by omega);refine⟨vt,vc,R,(rOf l).cs,k2.fr az.o (show¬_=_ by omega),(o2.fr az.o (λk F e=>by have:=(o2.lt F).1;omega)).base ρo,?_,cC.2,?_⟩
   ·have:=o3.fr az.o (λk cs F _ e=>ρo)
    exact⟨this.len,λj hj=>by
     obtain⟨v,h1,h2⟩:=this.at_ j hj;exact⟨v,h1,h2.base ρo⟩⟩
   by_cases hr:r=[]
   ·subst hr
    exact .inr ⟨by rw[<-bS.o,hs];rfl,rfl,(o1.fr az.o (λk F e=>by have:=(o1.lt F).1;omega)).base ρo,rfl,cn⟩
   have c0:ev=3:=by rw[<-bS.o,hs];simp[a8t,hr]
   refine .inl ⟨by omega,⟨_,cn,_,a4a⟩,?_⟩;rw[E,hs,c0];exact if_pos (Ym.2 hr)
 obtain⟨vt,vc,R,T,kl,oR,tR,hT,ak⟩:=ak
 obtain⟨At,Nt,ct,bv⟩:∃A N c,vt=.slice A N c\/ev≠0:=by
  rcases ak with h | h
  ·exact⟨none,0,0,.inr h.1⟩
  obtain⟨a,b,c,e⟩:=h.2.2.1.sl;exact⟨a,b,c,.inl e⟩
 obtain⟨Ac,Nc,cc,rfl,dm⟩:=oR.formN
 have cQ:Nc=T.length:=by
  have:=tR.len
  omega
 have⟨KL,OR,TR,HT,b3⟩:=η5 kl oR tR hT cQ;clear kl oR tR hT cQ dm;have a4:(a1Q (kOf l:Int) a5c (.slice none 0 0) (rOf l).ow (rOf l).am (rOf l).ser (rOf l).ep (rOf l).id).length=73:=a2I a0E (a8F (a0o 9 (.ok l)).1 (a0o 9 (.ok l)).2).1 (a8F (a0o 9 (.ok l)).1 (a0o 9 (.ok l)).2).2
 rcases ak with⟨au,⟨dq,cp,kv,dA⟩,af⟩ | ⟨au,aN,o8,D,kc⟩
 focus
  have cF:(ev == 0)=false:=ρw au;clear bv;have K:ReS g (g+3) w1 l T ev:=.bad au dq cp af;have O:=KL.o;have I:=OR.o;have J:=TR.o;have Q:=HB.o;have S:=ci.o;have⟨X,hX⟩:=η0 w1;rw[hX]at K O I J Q S;have⟨bq,aJ,bj,bh,bu,bp,cg⟩:=η7 K O I J Q S hX;clear K O I J Q S hX cp dA af au;go_upto_region 8 with fail
  rw[cg.o];clear cF
 rotate_left
 focus
  subst au;have db:vt=.slice At Nt ct:=by rcases bv with h | h;exact h;exact absurd rfl h
  subst db;have E:=c5.o;rw[D]at E;replace E:=E.trans (if_neg ρp);have bV:w1.cell? ⟨g+1,0,none⟩=some (.int .i64 (kOf l:Int)):=(kc.cell 0).trans a4a;have ay:=c1Y (kOf l:Int) w1;have⟨kk,aR⟩:=η0 ((kOf l:Int):Int);rw[aR]at bV ay
  by_cases bZ:2<=kOf l/\kOf l<=6
  focus
   rw[show decide (2<=kk/\kk<=6)=true by rw[<-aR];simp;omega]at ay;replace E:=E.trans (if_pos bZ);have b4:=cC.1;obtain⟨A8,c8,bY,cY,_,_⟩:=o8.byt b4.2;have bI:=a8w (by rw[bY]at o8;exact o8);simp only[Value.slice.injEq]at bY;obtain⟨rfl,rfl,rfl⟩:=bY;have q0:w1.cell? ⟨g+2,0,none⟩=some (.slice At (rOf l).t.length ct):=KL.cell 0;have br:=b8F At ct bI (rOf l).t (by have:=b4.1;simp only[rOf];omega) w1 cY;have⟨N8,da⟩:=η0 ((rOf l).t.length);rw[da]at q0 br;have⟨dg,bH,cT⟩:=η3 kc E aN;clear kc E aN da o8 bv D cY bI b4 aR;go_upto_region 6 with fail
   go_wp2_with fail;refine μi ay ?_;intro di hw;rw[<-hw];clear hw ay bV;go_upto_region 7 with fail
   go_wp2_with fail;refine μ1 br ?_;rintro e w4 ⟨hP,an⟩;have ax:=φf dg an;have bi:=φf KL an;have aF:=OR.keep an;have ba:=TR.fr (Q9 an) (λk cs _ hb=>by have:=hb.lt;omega);have bl:=φf HB an;have aD:=φt ci an;unfold a6Z at hP
   rcases hR:a5N (rOf l).t with x | t
   focus
    rw[hR]at hP;obtain⟨rfl,cu⟩:=hP;have E:=bH.o;rw[hR]at E;have D:=Pa b8N ax (off:=1) a5c rfl (by rw[Qc,a4];omega) a5O;rw[c2z a0E a0E,show a5c.toArray=c5J from rfl]at D;have⟨cs,ae⟩:=η0 ((a1Q (kOf l:Int) a5c (.slice none 0 0) (rOf l).ow (rOf l).am (rOf l).ser (rOf l).ep (rOf l).id).toArray);rw[ae]at D ax;have Z:Fr (λk=>k=g+1) w4 (w4.setRow (g+1) cs):=(Qp (λk=>k=g+1) w4).setRow (g:=g+1) (λ_=>rfl) _;have K:ReS g (g+3) (w4.setRow (g+1) cs) l T x:=.bad (ρw cu) cs (ax.row_ cs) E;have O:=bi.fr Z (show¬_=_ by omega);have I:=aF.fr Z (λk F e=>by have:=(aF.lt F).1;omega);have J:=ba.fr Z (λk cs F _ e=>ρo);have Q:=bl.fr Z (show¬_=_ by omega);have S:=aD.trans (Z.below (B:=w.heap.size) aD.size (λk F e=>by have:=HG.o;omega));have⟨X,hX⟩:=η0 (w4.setRow (g+1) cs);replace D:=D.trans (show _=Result.ok () X by rw[<-hX]);rw[hX]at K O I J Q S
    generalize a6:c5J=zt at D⊢
    have⟨bq,aJ,bj,bh,bu,bp⟩:=η6 K O I J Q S;clear K O I J Q S hX a6 ae ax bi aF ba bl aD an Z E cu hR br q0;go_upto_region 8 with fail
    clear D
   rotate_left
   focus
    rw[hR]at hP;obtain⟨A1,c1,A2,c2,rfl,aa⟩:=hP;have E:=bH.o;rw[hR]at E;have D:=Pa b8N ax (off:=1) (txV A1 c1 A2 c2 t).toList (by simp[txV]) (by rw[Qc,a4];omega) (by simp[txV,Value.oneCell']);rw[c2z a0E (by simp[txV]),show(txV A1 c1 A2 c2 t).toList.toArray=txV A1 c1 A2 c2 t by simp]at D;have Z:Fr (λk=>k=g+1) w4 (w4.setRow (g+1) (a1Q (kOf l:Int) (txV A1 c1 A2 c2 t).toList (.slice none 0 0) (rOf l).ow (rOf l).am (rOf l).ser (rOf l).ep (rOf l).id).toArray):=(Qp (λk=>k=g+1) w4).setRow (g:=g+1) (λ_=>rfl) _;have K:ReS g (g+3) (w4.setRow (g+1) (a1Q (kOf l:Int) (txV A1 c1 A2 c2 t).toList (.slice none 0 0) (rOf l).ow (rOf l).am (rOf l).ser (rOf l).ep (rOf l).id).toArray) l T 0:=.ok rfl t A1 c1 A2 c2 (ax.row_ _) ((aa.fr Z (λk F e=>by have:=a8.o;omega)).base a8.o) (by rw[E,cT.o]);have O:=bi.fr Z (show¬_=_ by omega)
    have I:=aF.fr Z (λk F e=>by have:=(aF.lt F).1;omega);have J:=ba.fr Z (λk cs F _ e=>ρo);have Q:=bl.fr Z (show¬_=_ by omega);have S:=aD.trans (Z.below (B:=w.heap.size) aD.size (λk F e=>by have:=HG.o;omega));have⟨X,hX⟩:=η0 (w4.setRow (g+1) (a1Q (kOf l:Int) (txV A1 c1 A2 c2 t).toList (.slice none 0 0) (rOf l).ow (rOf l).am (rOf l).ser (rOf l).ep (rOf l).id).toArray);replace D:=D.trans (show _=Result.ok () X by rw[<-hX]);rw[hX]at K O I J Q S
    generalize a6:txV A1 c1 A2 c2 t=zt at D⊢
    have⟨bq,aJ,bj,bh,bu,bp⟩:=η6 K O I J Q S;clear K O I J Q S hX a6 ax bi aF ba bl aD an Z E hR br q0 aa;go_upto_region 8 with fail
    clear D
  rotate_left 2
  focus
   rw[show decide (2<=kk/\kk<=6)=false by rw[<-aR];simp;omega]at ay;replace E:=E.trans (if_neg bZ);have cH:(rOf l).cs=[]:=c7V (λh=>bZ ⟨by have:=h.1;simp only[kOf];omega,by have:=h.2;simp only[kOf];omega⟩);have K:ReS g (g+3) w1 l T 0:=.ok rfl zTx none 0 none 0 kc (c8W _ _) (by rw[E,aN,cH];rfl);have O:=KL.o;have I:=OR.o;have J:=TR.o;have Q:=HB.o;have S:=ci.o;have⟨X,hX⟩:=η0 w1;rw[hX]at K O I J Q S;have⟨cT,bq,aJ,bj,bh,bu,bp,cg⟩:=η8 aN K O I J Q S hX;clear aN K O I J Q S hX cH o8 bv D kc aR E;go_upto_region 6 with fail
   go_wp2_with fail;refine μ1 ay ?_;rintro e di ⟨rfl,hw⟩;rw[<-hw];clear hw ay bV;go_upto_region 8 with fail
   rw[cg.o]
 all_goals
  have q1:X.cell? ⟨g+2,1,none⟩=some (.slice Ac Nc cc):=aJ.cell 1;have aI:=ReL.start (g:=g) (b:=g+3) (w:=w) (zz:=zz) bq.o bu aJ bj bh bp;have bP:g+3<=X.heap.size:=by have:=aJ.lt;omega
  have⟨du,c3⟩:=η2 aI bP;clear aI bP;go_upto_region 9 with fail
  clear q1;go_loopg [6,8,9,34] Nc (λkk u6 _ _ dE wr=>∃(j:Nat) (e:Int),j+kk=Nc/\dE=.int .i64 j/\u6=.int .i64 e/\ReL g (g+3) w X wr l T R (.slice Ac Nc cc) zz j e);exact⟨0,_,by omega,rfl,rfl,du.o⟩;obtain⟨j,e,hj,rfl,rfl,H⟩:=hrel;have dT:w.heap.size<=g:=by have:=HG.o;omega
  have dS:g<=w.heap.size:=by have:=HG.o;omega
  have bP:=c3.o;have dP:Nc<=T.length:=by have:=b3.o;omega
  have dM:T.length<=Nc:=by have:=b3.o;omega
  have dN:Nc<=16:=by have:=HT.1;omega
  have cS:g+3<=wr.heap.size:=by obtain⟨d1,hb⟩:=H.lb;have:=H.below.size;have:=a8.o;have h9:=H.oR.own;have:=hb.lt;omega
  have cA:(j<Nc/\e≠0)\/(j=Nc/\e≠0)\/(j<Nc/\e=0)\/(j=Nc/\e=0):=ρo
  rcases cA with⟨ad,he⟩ | ⟨ad,he⟩ | ⟨ad,he⟩ | ⟨ad,he⟩
  focus
   have ah:(j:Int)<Nc:=ρo;have bb:(e != 0)=true:=ρw he;obtain⟨q,o,v,hA,aj,h8⟩:=H.tR.get H.oR (j:=j) ρo;obtain⟨Ax,Nx,cx,rfl⟩:=h8.sl;subst hA;go_upto_region 16 with fail
   clear aj ah
  rotate_left
  focus
   have ah:¬(j:Int)<Nc:=ρo;have bb:(e != 0)=true:=ρw he;go_upto_region 16 with fail
   clear ah
  rotate_left
  focus
   subst he;have ah:(j:Int)<Nc:=ρo;obtain⟨q,o,v,hA,aj,h8⟩:=H.tR.get H.oR (j:=j) ρo;have aS:=HT.2 T[j] (Qu _);have bQ:T.take (j+1)=T.take j++[T[j]]:=Qe ρo;have⟨x,hx⟩:=η0 (T[j]);rw[hx]at h8 aS bQ;obtain⟨Ax,cx,rfl,cL,_,_⟩:=h8.byt aS.2;have bD:=a8w h8;obtain⟨t,A1,c1,A2,c2,v,Rc,L,ag,aE,aa,ar,aH,aG⟩:=H.get;obtain⟨ai,⟨c9,bt⟩,a9,bk,aK,a2,aI⟩:=H;obtain⟨Av,Nv,cv,rfl,bs⟩:=ar.formN;have ae:(a1Z (T++[]))=a1Z T:=by rw[ZC]
   have aA:=a9u wr;have⟨z7,b8⟩:=η0 ((a0d a0r none 0).toArray);have bF:z7.size=137:=by rw[<-b8,Qc,a0l a0B]
   rw[b8]at aA;have bo:=Qd wr 39 z7;have BY:=ρb wr (.cells z7 39);have⟨yb,aV⟩:=ηs wr
   generalize ck:wr.alloc (.cells z7 39)=X1 at aA bo BY
   rw[aV]at aA bo;have bJ:X1.heap.size=yb+1:=by rw[<-ck];simp;omega
   have aZ:=b4U Ax cx bD x (ρh aS.1) X1 (cL.below BY);have⟨Nx,bM⟩:=η0 x.length;rw[bM]at aj aZ;subst hA;have dR:=ad;have⟨bG,cP,c4,c7,dh,aT,cq,cV⟩:=η8 ai bt a9 bk aK ag aE aa;have⟨bf,bL,dd,bB,cX,bz,dJ,a7⟩:=η8 a2 ar aH aG bo BY aV bJ;have⟨dr,cN,d3,dk,dX,cj⟩:=η6 bF bQ bs aS bM cS;clear ai bt a9 bk aK ag aE aa a2 ar aH aG bo BY aV bJ bF bQ bs aS bM cS h8 cL bD aI ae ck b8 hx;go_upto_region 13 with fail
   clear aj ah aA;go_wp2_with fail;refine μ1 aZ ?_;rintro e w5 ⟨hP,b6⟩;have bW:=cX.fr (Q9 b6) (ρh a7.o);have BX:=bz.trans (b6.mono (ρh bz.o.size))
   obtain⟨xs,e',cd,Bp,cap,aL,bR,ds,hE⟩:∃(xs:LV) (e':Int) (cd:a0y) (Bp:OA) (cap:Nat),xs.length=137/\(∀v∈xs,v.oneCell'=true)/\e=.returned (.tuple #[.agg xs.toArray,.int .i64 e'])/\
     ((e'=0/\xs=a0d cd Bp cap/\a5s x=.ok cd/\cd.Bd/\a0T 31 32 X1.heap.size w5 (.slice Bp cd.path.length cap) (cd.path.map bys))\/(e'≠0/\a5s x=.error e')):=by
    unfold a6Y at hP
    cases hR:a5s x with
    |
     error y=>
     rw[hR]at hP;obtain⟨rfl,f⟩:=hP;exact⟨a0d a0r none 0,y,a0r,none,0,a0l a0B _ _,a2C _ _ _,rfl,.inr ⟨by simpa using f,rfl⟩⟩
    |
     ok cd=>
     rw[hR]at hP;obtain⟨Bp,cap,rfl,ho⟩:=hP;have bg:=c4V dk.2 hR;exact⟨a0d cd Bp cap,0,cd,Bp,cap,a0l bg _ _,a2C _ _ _,rfl,.inl ⟨rfl,rfl,rfl,bg,ho⟩⟩
   subst ds;have D:=P7 a4U bW dr xs aL bR;have fy:=ρr (yb) w5 xs.toArray;have kY:=bW.row_ xs.toArray;have aV:=dJ.o;have FY:Fr (λk=>yb<=k) wr (w5.setRow yb xs.toArray):=((Q9 BX).mono (G:=λk=>yb<=k) (λk _ h=>ρo)).trans fy (λk F e=>ρo);have av:Below wr.heap.size wr (w5.setRow yb xs.toArray):=FY.below (Qg _) (λk F e=>ρo);have⟨V5,b5⟩:=η0 (w5.setRow yb xs.toArray);replace D:=D.trans (show _=Result.ok () V5 by rw[<-b5]);rw[b5]at kY FY av fy;have a1:=cq.fr FY (ρh cq.o.lt);have aq:=bL.keep av;have q5:V5.cell? ⟨g+1,5,none⟩=some (.slice Av Nv cv):=(a1.cell 5).trans (a8A (by simp[txV]));have bT:=Pb a8j a4U xs kY aL;have cM:=Pd d0O d1p ρo ρo V5 (.agg xs.toArray) (by simp[Value.cells,aL]);simp only[Value.cells]at cM;have cE:g+3<=V5.heap.size:=by have:=FY.size;have:=cj.o;omega
   have dt:L.length<=16:=by
    have h1:=b2o aT;rw[Qx]at h1
    have:=HT.1
    omega
   obtain⟨v6,x6,dD,bm,ac,bK⟩:=a5o (P:=prog) (ty:=54) d0O d2c ρo ρo aq xs aL bR (ρh dd.o.len) (Qk bf.size FY.size);obtain⟨A6,N6,c6,rfl,df⟩:=bm.formN;have dL:X.heap.size<=V5.heap.size:=Qk bf.size FY.size;have al:=λk F=>(aq.lt (k:=k) F).1
   have aB:=a1.fr ac (λe=>by have:=al _ e;omega);have q6:x6.cell? ⟨g+1,5,none⟩=some (.slice Av Nv cv):=(aB.cell 5).trans (a8A (by simp[txV]));have z6:=aB.frozen 5;have k7:=aB.set_ 5 (.slice A6 N6 c6);rw[c0r (by simp[txV])]at k7;have Z:Fr (λk=>k=g+1) x6 (x6.setCell ⟨g+1,5,none⟩ (.slice A6 N6 c6)):=(Qp (λk=>k=g+1) x6).setCell (p:=⟨g+1,5,none⟩) (λ_=>rfl) _;have bE:∀k cs,Blk V5 k 5 cs->¬(Value.slice Av Nv cv).ownBlock=some k:=λk cs hb e=>a4l aq.own hb ρd e
   have ab:ReL g (g+3) w X (x6.setCell ⟨g+1,5,none⟩ (.slice A6 N6 c6)) l T R (.slice (some ⟨q,o,none⟩) Nc cc) zz (j+1) e':=by
    have aO:=c4.keep av;have cJ:=c7.fr (Q9 av) (λk cs _ hb=>by have:=hb.lt;omega);have dY:=bf.size;have cU:=λk F=>(bL.lt (k:=k) F).1
    refine⟨((bG.fr FY (ρh bG.o.lt)).fr ac (λe=>by have:=al _ e;omega)).fr Z (show¬_=_ by omega),⟨c9,((cP.fr FY (ρh cP.o.lt)).fr ac (λe=>by have:=al _ e;omega)).fr Z (show¬_=_ by omega)⟩,
     (aO.fr ac (λk F e=>by
      obtain⟨c1,bw,_⟩:=a2B aO.own F;exact a4l aq.own bw ρd e)).fr Z (λk F e=>by have:=(aO.lt F).1;omega),(cJ.fr ac (λk cs _ hb=>bE k cs hb)).fr Z (λk cs F _ e=>ρo),
     ((φt dh av).trans (ac.below (B:=w.heap.size) ρo (λk F e=>by have:=al _ e;omega))).trans (Z.below (B:=w.heap.size) (ρh ac.size) (λk F e=>ρo)),((bf.trans FY (λk F e=>ρo)).trans ac (λk F e=>by have:=cU _ e;omega)).trans Z (λk F e=>e),?_⟩
    rcases hE with⟨rfl,rfl,hR,bg,ho⟩ | ⟨dy,hR⟩
    ·refine .inl ⟨rfl,t,A1,c1,A2,c2,_,_,L++[cd],by rw[cN.o,a7O,aT.o,hR],k7,cV.o,bm.fr Z (λk F e=>by have:=(bm.lt F).1;omega),?_,bB.o⟩
     have af:=ho.rd;obtain⟨dV,dQ,e1,dl,ca,dv,cO⟩:=af;simp only[Qw,Value.slice.injEq,true_and]at e1;obtain⟨rfl,rfl⟩:=e1;have dj:RdR 32 V5 Bp (cd.path.map bys):=dl.frY fy (λa ha e=>by have:=(cO a ha).1;have:=a7.o;omega);have dc:b1r (g+3) V5 (.slice Av Nv cv) Rc L:=dd.fr (Q9 av) (λk F ad e=>ρo)
     have dI:=dc.snoc dj (ρw ca) dv bg (λa ha=>by
      have h1:=cO a ha;have h2:=a7.o;have h3:=fy.size;have h4:=cj.o;refine⟨by omega,by omega,λe=>?_⟩
      have:=(bL.lt e).2
      omega)
     exact(dI.grow ac bK).fr Z (λk F _ e=>ρo)
    refine .inr ⟨dy,?_⟩;have h1:a1Z (T.take (j+1))=.error e':=by rw[cN.o,a7O,aT.o,hR]
    have h2:=a9C _ (T.drop (j+1)) _ h1;rw[ZW]at h2;rw[bB.o,h2]
    rfl
   generalize aW:xs.toArray=xa at D bT cM dD⊢
   have a5:=η1 ab;clear ab bW BX hE fy kY FY av b5 a1 aq cE dt bm ac bK df al aB k7 Z bE aL bR hP b6 aZ aV aW;go_upto_region 14 with fail
   clear D;go_wp2;go_roundg (Nc-(j+1));exact⟨j+1,e',by omega,by go_num,rfl,a5.o⟩;omega
  focus
   subst he;subst ad;have ah:¬(j:Int)<j:=ρo;obtain⟨V,hV⟩:∃V,V=wr:=⟨_,rfl⟩;subst hV;obtain⟨t,A1,c1,A2,c2,v,Rc,L,ag,aE,aa,ar,aH,aG⟩:=H.get;obtain⟨ai,⟨c9,bt⟩,a9,bk,aK,a2,aI⟩:=H;obtain⟨Av,Nv,cv,rfl,bs⟩:=ar.formN;have dx:Nv=L.length:=by have:=aH.len;omega
   subst dx;rw[b3.o,ZF]at ag;rw[ag]at aG;have⟨cs,ae⟩:=η0 (a1Q (kOf l:Int) (txV A1 c1 A2 c2 t).toList (.slice Av L.length cv) (rOf l).ow (rOf l).am (rOf l).ser (rOf l).ep (rOf l).id);have bx:cs.length=73:=by rw[<-ae];exact a2I (by simp[txV]) (a8F (a0o 9 (.ok l)).1 (a0o 9 (.ok l)).2).1 (a8F (a0o 9 (.ok l)).1 (a0o 9 (.ok l)).2).2
   have cD:∀v∈cs,v.oneCell'=true:=by rw[<-ae];exact a6g (by simp[txV,Value.oneCell']) rfl
   rw[ae]at aE;have bT:=Pb b2N a6X cs aE bx;have D:=P7 a6X ai HZ cs bx cD;have Z:=ρr (g) V cs.toArray;have kG:=ai.row_ cs.toArray;have aQ:Below w w (V.setRow g cs.toArray):=Ql aK ρo _
   have ab:a5x w l (.returned (.tuple #[.agg cs.toArray,.int .i64 0])) (V.setRow g cs.toArray)/\Below w w (V.setRow g cs.toArray):=by
    refine⟨?_,aQ⟩;unfold a5x;rw[aG];exact⟨A1,c1,A2,c2,Av,cv,Rc,by rw[<-ae],((aa.fr a2 (λk F e=>ρo)).fr Z (λk F e=>ρo)).base ρo,(ar.fr Z (λk F e=>by have:=(ar.lt F).1;omega)).base ρo,(aH.fr Z (λk F _ e=>ρo)).base ρo⟩
   have⟨Y,hY⟩:=η0 (V.setRow g cs.toArray);replace D:=D.trans (show _=Result.ok () Y by rw[<-hY]);rw[hY]at kG ab;have⟨xa,aW⟩:=η0 cs.toArray;have cZ:xa.size=73:=by rw[<-aW,Qc,bx]
   rw[aW]at bT D kG ab;have⟨a5,ce,dz⟩:=η3 ab kG cZ;clear ab kG cZ ai bt a9 bk aK a2 aI ag aE aa ar aH aG bs ae bx cD Z aQ hY aW;go_wp2;refine bodyPost_ret (v:=.tuple #[.agg xa,.int .i64 0]) (a0k rfl _ _ g _ _ (0,0) ce.o bN aU (ρy dz.o a6X) rfl) rfl ?_;exact a5
  all_goals
   obtain⟨V,hV⟩:∃V,V=wr:=⟨_,rfl⟩;subst hV
   have af:a2o l=.error e:=by
    rcases H.st with h | h
    ·exact absurd h.1 he
    exact h.2
   have D:=dK.o V H.res;have kG:=H.res.row_ zz;have aQ:Below w w (V.setRow g zz):=Ql H.below ρo _;have⟨ce,dp,b7,cR⟩:=η4 kG aQ af bb;clear kG aQ af bb H;have bb:=cR.o;go_wp2;refine bodyPost_ret (v:=.tuple #[.agg zz,.int .i64 e]) (a0k rfl _ _ g _ _ (0,0) ce.o bN aU (ρy HZ.o a6X) rfl) rfl ?_;exact a3.o e _ b7 cR dp
end
section
theorem c0z(x y:VL):binOp .eql 31 x y=EQs 31 x y:=rfl
theorem c9o(x y:VL):binOp .neq 31 x y=NEs 31 x y:=rfl
theorem c3h{a b:LI}(d:Dig a)(f:Dig b)(w:WD):(Op.equalIn (9997+3) 31 (.agg (bys a).toArray) (.agg (bys b).toArray)).run prog w=.ok (decide (a=b)) w:=by
 obtain⟨r,j,g⟩:=run_equalIn_deep (P:=prog) 9997 3 31 ρk w 3 3 (.agg (bys a).toArray) (.agg (bys b).toArray) _ _
  (by simp[Value.formed,cId,a0a,d.1]) (by simp[Value.formed,cId,a0a,f.1]) (by simpa[Value.cells]using a6a 1 d.1 d.2) (by simpa[Value.cells]using a6a 1 f.1 f.2)
 rw[j]
 congr 1
 rw[Bool.eq_iff_iff,g,decide_eq_true_eq,List.map_inj_right (λa b h=>by simpa using h)]
theorem c2g{a b:LI}(d:Dig a)(f:Dig b)(w:WD):(EQs 31 (.agg (bys a).toArray) (.agg (bys b).toArray)).run prog w=.ok (.bool (decide (a=b))) w:=by
 unfold EQs;rw[run_eql_struct,show(10000:Nat)=9997+3 from rfl,c3h d f w]
 rfl
theorem d0t{a b:LI}(d:Dig a)(f:Dig b)(w:WD):(NEs 31 (.agg (bys a).toArray) (.agg (bys b).toArray)).run prog w=.ok (.bool (!decide (a=b))) w:=by
 unfold NEs;simp only[binOp];rw[show(Op.equal 31 (.agg (bys a).toArray) (.agg (bys b).toArray))=Op.equalIn (9997+3) 31 (.agg (bys a).toArray) (.agg (bys b).toArray)from rfl];simp[c3h d f w]
attribute [local go_sem ↓] a1W a1l a2t a2s a2n c0z
theorem b2m(b:OA)(d cs:Nat)(seed:LI)(n:Int)(A:OA)(cap:Nat)(c:a0y)(w:WD)(a:c.Bd) (h:a0D c.e=false\/(a0D c.e=true/\a0w c.h=false)\/(a0D c.e=true/\a0w c.h=true/\c.e.sh≠c.h.sh)\/(a0D c.e=true/\a0w c.h=true/\c.e.sh=c.h.sh/\c.e.ep≠c.h.ep)\/(a0D c.e=true/\a0w c.h=true/\c.e.sh=c.h.sh/\c.e.ep=c.h.ep/\c.path.length≠2)\/(a0D c.e=true/\a0w c.h=true/\c.e.sh=c.h.sh/\c.e.ep=c.h.ep/\c.path.length=2/\n<=c.h.sh)):Calls prog 18 #[.slice b d cs,.int .i64 n,.agg (a0d c A cap).toArray] w λe w'=>e=.returned (.bool (isP seed n c))/\Below w w w':=by
 have B:isP seed n c=false:=by
  unfold isP
  rcases h with h | ⟨v,h⟩ | ⟨v,x,h⟩ | ⟨v,x,D,h⟩ | ⟨v,x,D,Z,h⟩ | ⟨v,x,D,Z,h5,h⟩
  ·simp[h]
  ·simp[h]
  ·simp[h]
  ·simp[h]
  ·simp[h]
  simp[show¬c.h.sh<n by omega]
 rw[B];have m:=Qd w 39 ((a0d c A cap).toArray);have B0:=ρb w (.cells ((a0d c A cap).toArray) 39)
 generalize hW:w.alloc (.cells ((a0d c A cap).toArray) 39)=W at m B0
 have⟨g,hg⟩:=ηs w;rw[hg]at m;have z:=P6 b3q a8Q m (off:=0) (a0x c.e) (a0u a.e) (by simpa using a7E a A cap);have j:=λX (y:Below W W X)=>P6 a1S a1h (m.fr (Q9 y) (ρh m.lt)) (off:=38) (a0b c.h) (a0f a.h) (by simpa using a6M a A cap)
 have p:=a8e c.e a.e W;have o:=λX=>a7y c.h a.h X
 have T:=a9l a A cap;have k1:∀X,Below W W X->X.cell? ⟨g,1,none⟩=some (.int .i64 c.e.sh):=λX y=>((m.fr (Q9 y) (ρh m.lt)).cell 1).trans T.2.1
 have E:∀X,Below W W X->X.cell? ⟨g,36,none⟩=some (.int .i64 c.e.ep):=λX y=>((m.fr (Q9 y) (ρh m.lt)).cell 36).trans T.2.2.2.1
 have G:∀X,Below W W X->X.cell? ⟨g,37,none⟩=some (.slice A c.path.length cap):=λX y=>((m.fr (Q9 y) (ρh m.lt)).cell 37).trans T.2.2.2.2.1
 have J:∀X,Below W W X->X.cell? ⟨g,38,none⟩=some (.int .i64 c.h.sh):=λX y=>((m.fr (Q9 y) (ρh m.lt)).cell 38).trans T.2.2.2.2.2.1
 have I:∀X,Below W W X->X.cell? ⟨g,40,none⟩=some (.int .i64 c.h.ep):=λX y=>((m.fr (Q9 y) (ρh m.lt)).cell 40).trans T.2.2.2.2.2.2
 have⟨U,H⟩:=η0 (a0D c.e);have⟨rH,S⟩:=η0 (a0w c.h);rw[H]at p;simp only[S]at o;rw[H,S]at h;have⟨s1,K⟩:=η0 c.e.sh;have⟨s2,Q⟩:=η0 c.h.sh;have⟨t1,N⟩:=η0 c.e.ep;have⟨t2,R⟩:=η0 c.h.ep;have⟨pl,F⟩:=η0 c.path.length;rw[K,Q,N,R,F]at h;rw[K]at k1;rw[Q]at J;rw[N]at E;rw[R]at I;rw[F]at G
 have hq:(U=false)\/(U=true/\rH=false)\/(U=true/\rH=true/\(s1 != s2)=true)\/(U=true/\rH=true/\(s1 != s2)=false/\(t1 != t2)=true)\/
   (U=true/\rH=true/\(s1 != s2)=false/\(t1 != t2)=false/\((pl:Int) != 2)=true)\/(U=true/\rH=true/\(s1 != s2)=false/\(t1 != t2)=false/\((pl:Int) != 2)=false/\n<=s2):=by
  rcases h with h | h | ⟨v,x,h⟩ | ⟨v,x,D,h⟩ | ⟨v,x,D,Z,h⟩ | ⟨v,x,D,Z,h5,h⟩
  ·exact .inl h
  ·exact .inr (.inl h)
  ·exact .inr (.inr (.inl ⟨v,x,by simpa using h⟩))
  ·exact .inr (.inr (.inr (.inl ⟨v,x,by simpa using D,by simpa using h⟩)))
  ·exact .inr (.inr (.inr (.inr (.inl ⟨v,x,by simpa using D,by simpa using Z,by simp;omega⟩))))
  exact .inr (.inr (.inr (.inr (.inr ⟨v,x,by simpa using D,by simpa using Z,by simp;omega,h⟩))))
 clear h B T
 generalize ac:(a0d c A cap).toArray=xs at hW⊢
 have⟨ve,V⟩:=η0 ((a0x c.e).toArray);have⟨vh,Y⟩:=η0 ((a0b c.h).toArray);rw[V]at z p;simp only[Y]at j o;have⟨HW,HG,HB,ah,K1,ad,ab,ae⟩:=η8 hW hg B0 j k1 E G J;have⟨ag,ai⟩:=η2 I o;clear hW hg B0 j k1 E G J I o H S K Q N R F ac V Y m a
 rcases hq with rfl | ⟨rfl,rfl⟩ | ⟨rfl,rfl,hS⟩ | ⟨rfl,rfl,hS,hT⟩ | ⟨rfl,rfl,hS,hT,hP⟩ | ⟨rfl,rfl,hS,hT,hP,hN⟩
 ·go_in
  go_upto_region 1 with fail
  rw[HW.o,HG.o];go_wp2_with fail;refine μi p ?_;intro w1 r;have O:=η1 r;clear r p z;go_wp2;go_ret;exact⟨rfl,HB.trans (O.mono HB.size)⟩
 all_goals
  go_in;go_upto_region 1 with fail
  rw[HW.o,HG.o];go_wp2_with fail;refine μi p ?_;intro w1 r;have j:=ah.o w1 r;have o:=ai.o w1;have O:=η1 r;clear r p z;go_wp2_with fail;refine μi o ?_;intro w2 aa;have f:=φt O aa;have q1:=K1.o w2 f;have q2:=ad.o w2 f;have q3:=ae.o w2 f;have q4:=ag.o w2 f;have q5:=ab.o w2 f;have af:=η1 f;clear f aa o j;go_wp2;go_ret;exact⟨rfl,HB.trans (af.mono HB.size)⟩
theorem d1j{n:Int}{c:a0y}(a:a0D c.e=true)(b:a0w c.h=true)(d:c.e.sh=c.h.sh)(f:c.e.ep=c.h.ep)(g:c.path.length=2)(j:c.h.sh<n):isP seed n c=(decide (a1n (a1n (c.path.getD 0 []) (a0R (a5V c.e))) (c.path.getD 1 [])=c.h.root)&&decide (c.tag=a7C seed c.h.sh (a2a c.h))):=by
 unfold isP;rw[a,b,d,f,g];simp[j]
theorem c7q(r:OA)(cs:Nat)(seed:LI)(x:seed.length<=64)(n:Int)(A:OA)(cap:Nat)(c:a0y)(w:WD)(d:c.Bd)(f:Byt w r seed)(y:RdR 32 w A (c.path.map bys)) (hE:a0D c.e=true) (hH:a0w c.h=true) (hs:c.e.sh=c.h.sh) (hp:c.e.ep=c.h.ep) (hl:c.path.length=2) (hn:c.h.sh<n):Calls prog 18 #[.slice r seed.length cs,.int .i64 n,.agg (a0d c A cap).toArray] w λe w'=>e=.returned (.bool (isP seed n c))/\Below w w w':=by
 rw[d1j hE hH hs hp hl hn];obtain⟨Z,bO,bl,hz⟩:=P8 (t:=31) iId b1N;have F:=Qd w 39 ((a0d c A cap).toArray);have B0:=ρb w (.cells ((a0d c A cap).toArray) 39)
 generalize hW:w.alloc (.cells ((a0d c A cap).toArray) 39)=W at F B0
 have⟨g,hg⟩:=ηs w;rw[hg]at F
 obtain⟨p0,p1,ay⟩:∃p0 p1,c.path=[p0,p1]:=by
  match h:c.path,hl with
  | [a,b],_=>exact⟨a,b,rfl⟩
 have d0:Dig p0:=d.path p0 (by rw[ay];simp);have d1:Dig p1:=d.path p1 (by rw[ay];simp);have aq:=y.below B0;rw[ay]at aq⊢;obtain⟨gp,op,rfl,a0,aJ⟩:=aq 0 ρp;obtain⟨cn,ck,e',_,aA⟩:=aq 1 ρp;simp only[Option.some.injEq,Addr.mk.injEq,and_true]at e';obtain⟨rfl,rfl⟩:=e';have G0:=λX (z:Below W W X)=>Pf a2i iId X gp op (bys p0) (by rw[a0a,d0.1]) (λj v hv=>(z.cell (p:=⟨gp,op+j,none⟩) a0).trans (by have:=aJ j v (ρw hv);simpa using this))
 have G1:=λX (z:Below W W X)=>Pf a2i iId X gp (op+32) (bys p1) (by rw[a0a,d1.1]) (λj v hv=>(z.cell (p:=⟨gp,op+32+j,none⟩) a0).trans (by have:=aA j v (ρw hv);simpa using this))
 have aa:=λX (z:Below W W X)=>P6 b3q a8Q (F.fr (Q9 z) (ρh F.lt)) (off:=0) (a0x c.e) (a0u d.e) (by simpa using a7E d (some ⟨gp,op,none⟩) cap)
 have ad:=aa W (Qf _ _);have O:=λX (z:Below W W X)=>P6 a1S a1h (F.fr (Q9 z) (ρh F.lt)) (off:=38) (a0b c.h) (a0f d.h) (by simpa using a6M d (some ⟨gp,op,none⟩) cap)
 have ag:=λX (z:Below W W X)=>P6 a2i iId (F.fr (Q9 z) (ρh F.lt)) (off:=73) (bys c.h.root) (by rw[a0a,d.h.root.1]) (by simpa using b2r d (some ⟨gp,op,none⟩) cap)
 have ae:=λX (z:Below W W X)=>P6 a2i iId (F.fr (Q9 z) (ρh F.lt)) (off:=105) (bys c.tag) (by rw[a0a,d.tag.1]) (by simpa using a6K d (some ⟨gp,op,none⟩) cap)
 have ax:=a8e c.e d.e W;have S:=λX=>a7y c.h d.h X
 rw[hE]at ax;simp only[hH]at S;have cc:=a9l d (some ⟨gp,op,none⟩) cap;have k1:∀X,Below W W X->X.cell? ⟨g,1,none⟩=some (.int .i64 c.e.sh):=λX z=>((F.fr (Q9 z) (ρh F.lt)).cell 1).trans cc.2.1
 have aW:∀X,Below W W X->X.cell? ⟨g,36,none⟩=some (.int .i64 c.e.ep):=λX z=>((F.fr (Q9 z) (ρh F.lt)).cell 36).trans cc.2.2.2.1
 have bn:∀X,Below W W X->X.cell? ⟨g,37,none⟩=some (.slice (some ⟨gp,op,none⟩) 2 cap):=λX z=>((F.fr (Q9 z) (ρh F.lt)).cell 37).trans (by rw[cc.2.2.2.2.1,hl])
 have aR:∀X,Below W W X->X.cell? ⟨g,38,none⟩=some (.int .i64 c.h.sh):=λX z=>((F.fr (Q9 z) (ρh F.lt)).cell 38).trans cc.2.2.2.2.2.1
 have a3:∀X,Below W W X->X.cell? ⟨g,40,none⟩=some (.int .i64 c.h.ep):=λX z=>((F.fr (Q9 z) (ρh F.lt)).cell 40).trans cc.2.2.2.2.2.2
 have ac:=λX=>b5J c.e d.e hE X
 have G:=λX=>b5l c.h d.h hH X
 have bV:=a9Y d.e;have a7:=b2M d.e;have bK:=a7a d.h;have aY:=a8g d.h;have H:=λX Ae ce (cd:Ae=none->ce=0) (hb:Byt X Ae (a5V c.e))=>c3q Ae ce cd (a5V c.e) X hb ρo
 have ab:=λX=>b4w p0 (a0R (a5V c.e)) d0 (Dig.leaf _) X
 have N:=λX=>b4w (a1n p0 (a0R (a5V c.e))) p1 (Dig.node _ _) d1 X
 have aD:=((a3B c.h).1 hH).1;obtain⟨sn,bo⟩:=a1C aD.1;have E:=λX A2 c2 (hn:A2=none->c2=0) (z:Below W W X) (bU:Byt X A2 (a2a c.h))=>c0f r cs seed sn ρo A2 c2 (a2a c.h) X x ((f.below B0).below z) bU hn ρo
 simp only[<-bo]at E;rw[show([p0,p1]:LL).getD 0 []=p0 from rfl,show([p0,p1]:LL).getD 1 []=p1 from rfl];have dD:Dig (a1n (a1n p0 (a0R (a5V c.e))) p1):=Dig.node _ _;have dT:Dig (a7C seed c.h.sh (a2a c.h)):=Dig.mac _ _;have⟨lf,aP⟩:=η0 (a0R (a5V c.e));simp only[aP]at H ab N;rw[aP]at dD⊢;have⟨nd,bc⟩:=η0 (a1n p0 lf);simp only[bc]at ab N;rw[bc]at dD⊢;have⟨D,hD⟩:=η0 (a1n nd p1);simp only[hD]at N;rw[hD]at dD⊢;have⟨T,hT⟩:=η0 (a7C seed c.h.sh (a2a c.h));simp only[hT]at E;rw[hT]at dT⊢;have av:=λX=>c2g dD d.h.root X
 have au:=λX=>c2g d.tag dT X
 have⟨R1,be⟩:=η0 (decide (D=c.h.root));have⟨R2,aZ⟩:=η0 (decide (c.tag=T));simp only[be]at av;simp only[aZ]at au;rw[be,aZ];have bs:(bys D).length=32:=by rw[a0a,dD.1]
 have⟨ef,bw⟩:=η0 (a5V c.e);have⟨hf,bj⟩:=η0 (a2a c.h);simp only[bw]at ac H a7;simp only[bj]at G E aY;have hS:(c.e.sh != c.h.sh)=false:=ρw hs;have b3:(c.e.ep != c.h.ep)=false:=ρw hp;have bP:¬n<=c.h.sh:=ρo;have⟨s1,a4⟩:=η0 c.e.sh;have⟨s2,ar⟩:=η0 c.h.sh;have⟨t1,a5⟩:=η0 c.e.ep;have⟨t2,a6⟩:=η0 c.h.ep;simp only[a4]at k1;simp only[ar]at aR E;simp only[a5]at aW;simp only[a6]at a3;rw[a4,ar]at hS;rw[a5,a6]at b3;rw[ar]at bP
 generalize b9:(a0d c (some ⟨gp,op,none⟩) cap).toArray=xs at hW⊢
 have⟨ve,aV⟩:=η0 ((a0x c.e).toArray);have⟨vh,bg⟩:=η0 ((a0b c.h).toArray);have⟨vr,bq⟩:=η0 ((bys c.h.root).toArray);have⟨vt,bG⟩:=η0 ((bys c.tag).toArray);rw[aV]at ad ax;simp only[aV]at aa ac;simp only[bg]at O S G;simp only[bq]at ag av;simp only[bG]at ae au;have⟨ns,bb⟩:=η0 seed.length;simp only[bb]at E;rw[bb];have⟨HW,HG,HB,ca,bE,bZ,bQ,K1⟩:=η8 hW hg B0 aa O ag ae k1;have⟨b4,bf,bC,bY,bN,bx,a2,aO⟩:=η8 aW bn aR a3 S ac G H;have⟨bp,bi,bI,bL,cg,b6,cf,bv⟩:=η8 ab N E av au a7 aY bs;have⟨b7,ci,cq⟩:=η3 G0 G1 F;clear hW hg B0 aa O ag ae k1 aW bn aR a3 S ac G H ab N E av au a7 aY bs G0 G1 F a4 ar a5 a6 b9 aV bg bq bG bb d f y hE hH hs hp hl hn ay d0 d1 aq a0 aJ aA cc bV bK aD bo dD dT aP bc hD hT be aZ bw bj bl;go_in;go_upto_region 1 with fail
 rw[HW.o,HG.o];go_wp2_with fail;refine μi ax ?_;intro w1 aN;have O:=bE.o w1 aN;have S:=bN.o w1;have b5:=η1 aN;clear aN ax ad;go_wp2_with fail;refine μi S ?_;intro w2 br;have B:=φt b5 br;have q1:=K1.o w2 B;have q2:=b4.o w2 B;have q3:=bC.o w2 B;have q4:=bY.o w2 B;have q5:=bf.o w2 B;have bW:=η1 B;clear B br S O;go_upto_region 3 with fail
 clear q1 q2 q3 q4 q5
 obtain⟨S0,R⟩:∃S0:WD->Prop,(λX=>X.cell? ⟨g,37,none⟩=some (.slice (some ⟨gp,op,none⟩) 2 cap)/\(LDs 31 (.pointer (some ⟨gp,op,none⟩))).run prog X=.ok (.agg (bys p0).toArray) X/\
  (LDs 31 (.pointer (some ⟨gp,op+32,none⟩))).run prog X=.ok (.agg (bys p1).toArray) X/\(LDs 34 (.pointer g)).run prog X=.ok (.agg ve) X)=S0:=⟨_,rfl⟩
 have⟨U,hU⟩:=η0 w2.drew;have az:Below W W U:=by rw[<-hU];exact bW.drew
 have ak:∀X,Below U U X->S0 X:=λX z=>by
  have h:=az.trans (z.mono az.size);rw[<-R];exact⟨bf.o X h,b7.o X h,ci.o X h,ca.o X h⟩
 have⟨J,I,aS,HU⟩:=η4 R ak az hU;clear R ak az hU;with_reducible refine a4F (λi=>i != 13&&i != 15) S0 ρk ?_
 rw[HU.o];refine a2b (m:=6) (Lf:=#[true,true,true,true,true,true,false,false,false,true,true,true,true,false,false,false]) [(0,3),(4,3),(9,3),(1,0),(2,3),(3,0),(5,0),(10,0),(11,3),(12,0)] true ρk ρk ρk (λ_=>I.o _ (Qf _ _)) ?_;refine εc1 ?_;refine εc1 ?_;refine εc1 ?_
 refine θc4 (λ_ h=>by rw[<-J.o]at h;exact h) ?_
 refine εc1 ?_
 iterate 3 refine θc4 (λ_ h=>by rw[<-J.o]at h;exact h) ?_
 refine εc1 ?_
 refine θc4 (λ_ h=>by rw[<-J.o]at h;exact h) ?_
 with_reducible refine a2m ?_
 refine a2A (j:=14) (n:=1) (Lf:=#[true,true,true,true,true,true,true,true,true,true,true,true,true,true,true,false]) (t:=31) (Z:=Z) [(6,2),(7,2),(8,2),(13,2)] ρk ρk ρk ρu rfl (λa X=>by go_simp) I.o ?_;intro X0 bH;have c6:=bx.o X0;have bM:=η1 bH;clear bH;with_reducible refine a4f (o:=?_) ρu ρu (λK Q=>?_)
 refine ψ ?_;go_simp;refine μ1 c6 ?_;rintro e w6 ⟨v6,rfl,aU,a1⟩;obtain⟨A6,bk,rfl,aK,_,_⟩:=a0N.byt aU b6;have bA:A6=none->bk=0:=λe=>by subst e;exact a0N.nulI aU
 have c7:=λX (z:Below w6 w6 X)=>aO.o X A6 bk bA (aK.below z)
 have⟨n6,an⟩:=η0 ef.length;simp only[an]at c7;rw[an];have⟨bS,C7⟩:=η2 (φt bM a1) c7;clear c7 aU aK bA an c6;with_reducible refine Q _ _ a1 (λX6 aT=>?_);clear Q K
 have c7:=C7.o X6 aT;have cj:=η1 (φt bS aT);clear aT;with_reducible refine a4f (o:=?_) ρu ρu (λK Q=>?_)
 refine ψ ?_;go_simp;refine μi c7 ?_;intro w7 ba;have bX:=η1 (φt cj ba);clear c7;with_reducible refine Q _ _ ba (λX7 bB=>?_);clear Q K
 have c8:=bp.o X7;have bJ:=η1 (φt bX bB);clear bB;with_reducible refine a4f (o:=?_) ρu ρu (λK Q=>?_)
 refine ψ ?_;go_simp;refine μi c8 ?_;intro w8 a8;have b8:=η1 (φt bJ a8);clear c8;with_reducible refine Q _ _ a8 (λX8 bF=>?_);clear Q K
 have c13:=bi.o X8;have ch:=η1 (φt b8 bF);clear bF;with_reducible refine a4f (o:=?_) ρu ρu (λK Q=>?_)
 refine ψ ?_;go_simp;refine μi c13 ?_;intro cr ah;have bz:=η1 (φt ch ah);clear c13;with_reducible refine Q _ _ ah (λbu aM=>?_);clear Q K
 have aE:=η1 (φt bz aM);clear aM ah a8 ba a1;with_reducible refine a6e ?_;intro bT ao aB af
 have bR:=P9 iId af hz (bys D) bv.o (a0h _);have r1:=af.row_ (bys D).toArray;have aX:Below W W bu:=aS.trans (aE.mono aS.size);have bm:W.heap.size<=ao:=Qk aS.size aB;have r2:=Ql (g:=ao) aX bm (bys D).toArray;have cu:=η1 aX;clear aX af bT aB;refine a1c [(15,2)] true ρk ρk ρk (λ_=>I.o _ aE.o) ?_;refine τ1 ?_;refine ν ?_
 generalize hY:bu.setRow ao (bys D).toArray=Y at r1 r2⊢
 have⟨b2,BW⟩:=η2 r1 r2;clear r1 r2 bR hY bm bO;have F1:=λX (z:Below Y Y X)=>P4 a2i iId (bys D) (φf b2 z) bv.o
 have F2:=λX (z:Below Y Y X)=>bZ.o X (φt BW z)
 have F3:=λX (z:Below Y Y X)=>bQ.o X (φt BW z)
 have F4:=λX (z:Below Y Y X)=>bC.o X (φt BW z)
 have F5:=λX (z:Below Y Y X)=>bE.o X (φt BW z)
 clear J I S0
 obtain⟨S0,R⟩:∃S0:WD->Prop,(λX=>(LDs 31 (.pointer ao)).run prog X=.ok (.agg (bys D).toArray) X/\(LDs 31 (.pointer (some ⟨g,73,none⟩))).run prog X=.ok (.agg vr) X/\
  (LDs 31 (.pointer (some ⟨g,105,none⟩))).run prog X=.ok (.agg vt) X/\X.cell? ⟨g,38,none⟩=some (.int .i64 s2)/\(LDs 37 (.pointer (some ⟨g,38,none⟩))).run prog X=.ok (.agg vh) X)=S0:=⟨_,rfl⟩
 have ak:∀X,Below Y Y X->S0 X:=λX z=>by rw[<-R];exact⟨F1 X z,F2 X z,F3 X z,F4 X z,F5 X z⟩
 have e1:=bL.o;have⟨J,I⟩:=η2 R ak;clear R ak F1 F2 F3 F4 F5
 cases R1 with
 |
  false=>
  go_upto_region 4 with fail
  refine a0s [(1,3),(2,3),(0,0),(3,0),(4,3),(5,3),(6,3),(7,3),(8,3),(9,3),(10,3),(11,3),(12,3),(13,3),(14,3),(15,3),(16,3),(17,3),(18,3)] S0 ρk ρk ρk ρk (I.o _ (Qf _ _).drew) ?_;refine ε2 ?_
  iterate 2 refine θ5 (λ_ h=>by rw[<-J.o]at h;exact h) ?_
  refine ε2 ?_;refine δ4 ?_;refine δ4 ?_;refine δ1 ?_;refine δ1 ?_;refine δ1 ?_;refine ε2 ?_;refine ν ?_;go_wp2;go_ret;exact⟨rfl,HB.trans (BW.drew.mono HB.size)⟩
 |
  true=>
  have bh:=a2.o Y.drew;have e2:=cg.o;go_upto_region 4 with fail
  refine a0s [(1,3),(2,3),(0,0),(3,0),(4,3),(5,3),(6,3),(8,3),(9,3),(10,3),(12,3),(7,0),(11,0),(13,0),(14,1),(15,1),(16,3),(17,3),(18,3)] S0 ρk ρk ρk ρk (I.o _ (Qf _ _).drew) ?_;refine ε2 ?_
  iterate 2 refine θ5 (λ_ h=>by rw[<-J.o]at h;exact h) ?_
  refine ε7 ?_
  iterate 3 refine θ5 (λ_ h=>by rw[<-J.o]at h;exact h) ?_
  refine κ ?_;intro K Q;refine μ1 bh ?_;rintro e bD ⟨ct,rfl,aj,aF⟩;have V:Below Y Y bD:=(Qf _ Y).drew.trans aF;obtain⟨bt,aH,rfl,ai,_,_⟩:=a0N.byt aj cf;have aI:bt=none->aH=0:=λe=>by subst e;exact a0N.nulI aj
  have a9:=bI.o bD bt aH aI (φt BW V) ai
  generalize aQ:hf.length=n14 at a9⊢
  have aG:=η1 V;clear V aF aj ai aI aQ bh;with_reducible refine Q _ _ (I.o _ aG.o) ?_;clear Q K
  refine κ ?_;intro K Q;refine μi a9 ?_;intro cp aL;have al:=φt aG aL;have aC:=η1 al;clear al aL a9;with_reducible refine Q _ _ (I.o _ aC.o) ?_;clear Q K
  refine ε3 ?_;refine ν ?_;go_wp2;go_ret;exact⟨rfl,HB.trans ((BW.trans (aC.mono BW.size)).mono HB.size)⟩
theorem c7v(a:OA)(cs:Nat)(seed:LI)(d:seed.length<=64)(n:Int)(A:OA)(cap:Nat)(c:a0y)(w:WD)(b:c.Bd)(f:Byt w a seed)(g:RdR 32 w A (c.path.map bys)):Calls prog 18 #[.slice a seed.length cs,.int .i64 n,.agg (a0d c A cap).toArray] w λe w'=>e=.returned (.bool (isP seed n c))/\Below w w w':=by
 by_cases j:a0D c.e=true
 ·by_cases m:a0w c.h=true
  ·by_cases o:c.e.sh=c.h.sh
   ·by_cases p:c.e.ep=c.h.ep
    ·by_cases r:c.path.length=2
     ·by_cases v:c.h.sh<n
      ·exact c7q a cs seed d n A cap c w b f g j m o p r v
      exact b2m a _ cs seed n A cap c w b (.inr (.inr (.inr (.inr (.inr ⟨j,m,o,p,r,by omega⟩)))))
     exact b2m a _ cs seed n A cap c w b (.inr (.inr (.inr (.inr (.inl ⟨j,m,o,p,r⟩)))))
    exact b2m a _ cs seed n A cap c w b (.inr (.inr (.inr (.inl ⟨j,m,o,p⟩))))
   exact b2m a _ cs seed n A cap c w b (.inr (.inr (.inl ⟨j,m,o⟩)))
  exact b2m a _ cs seed n A cap c w b (.inr (.inl ⟨j,by simpa using m⟩))
 exact b2m a _ cs seed n A cap c w b (.inl (ρw j))
end
section
theorem c9s:a3s prog 37=some [(0,1),(1,1),(2,1),(3,32),(35,32)]:=ρk
theorem c7S:(((prog.info? 37).bind (·.zero)).map (·.cells.toList))=some (a0b a1y):=ρk
theorem c0k(sh ht ep:Int)(D:LI)(a:D.length=32)(w:WD):(BDs 37 #[(0,.int .i64 sh),(1,.int .i64 ht),(2,.int .i64 ep),(4,.agg (bys D).toArray)]).run prog w=.ok (.agg (a0b ⟨sh,ht,ep,List.replicate 32 0,D⟩).toArray) w:=by
 refine a2H c9s c7S _ _ ?_ w;rw[a0v (off:=0) (size:=1) rfl rfl (by rw[a0f a1A];omega)];have g:(a0b a1y).take 0++(Value.int .i64 sh).cells.toList++(a0b a1y).drop (0+1)=a0b ⟨sh,0,0,List.replicate 32 0,List.replicate 32 0⟩:=rfl;rw[g,a0v (off:=1) (size:=1) rfl rfl (by simp[a0b,bys])];have d:(a0b ⟨sh,0,0,List.replicate 32 0,List.replicate 32 0⟩).take 1++(Value.int .i64 ht).cells.toList++(a0b ⟨sh,0,0,List.replicate 32 0,List.replicate 32 0⟩).drop (1+1)=a0b ⟨sh,ht,0,List.replicate 32 0,List.replicate 32 0⟩:=rfl;rw[d,a0v (off:=2) (size:=1) rfl rfl (by simp[a0b,bys])];have b:(a0b ⟨sh,ht,0,List.replicate 32 0,List.replicate 32 0⟩).take 2++(Value.int .i64 ep).cells.toList++(a0b ⟨sh,ht,0,List.replicate 32 0,List.replicate 32 0⟩).drop (2+1)=a0b ⟨sh,ht,ep,List.replicate 32 0,List.replicate 32 0⟩:=rfl;rw[b,a0v (off:=35) (size:=32) rfl (by simp[Value.cells,a0a,a]) (by simp[a0b,bys]),a1Y]
 have f:(a0b ⟨sh,ht,ep,List.replicate 32 0,List.replicate 32 0⟩).take 35++(Value.agg (bys D).toArray).cells.toList++(a0b ⟨sh,ht,ep,List.replicate 32 0,List.replicate 32 0⟩).drop (35+32)=a0b ⟨sh,ht,ep,List.replicate 32 0,D⟩:=by
  unfold a0b;simp[Value.cells,bys]
 rw[f]
abbrev a4z:=stOf 37
abbrev a4E:=alOf 37
def hdP(prev:a0Q)(first:Bool)(root:LI)(sh ep:Int):a0Q:=
 if first=true then⟨sh,1,ep,List.replicate 32 0,root⟩else⟨prev.sh,prev.ht+1,ep,b4F prev,root⟩
def okH(prev:a0Q)(first:Bool)(root:LI)(sh ep:Int):Bool:=
 (first||(a0w prev&&decide (prev.ep<=ep)))&&a0w (hdP prev first root sh ep)
def b1F(prev:a0Q)(first:Bool)(root:LI)(sh ep:Int):a0Q:=if okH prev first root sh ep=true then hdP prev first root sh ep else a1y
attribute [local go_sem ↓] a1l a4z a4E a5P a2t a2s a2n
theorem a7l{h:a0Q}(a:a0w h=true):h.ht<=1099511627776/\1<=h.ht:=by
 have:=(a3B h).1 a
 exact⟨this.2.1.2,this.2.1.1⟩
theorem c1F(prev:a0Q)(a:prev.Bd)(first:Bool)(g:Nat)(b1 f b3:LI)(sh ep:Int)(b:InI sh)(d:InI ep)(w:WD)(j:a4M w g 0 b1)(m:a4M w g 1 f)(o:a4M w g 2 b3) (l1:b1.length<=10000000) (l2:f.length<=10000000) (l3:b3.length<=10000000) (hgl:a2x w) (root:LI) (hroot:root=a1n (a1n (a0R b1) (a0R f)) (a0R b3)):Calls prog 205 #[.agg (a0b prev).toArray,.bool first,.slice g 3 3,.int .i64 sh,.int .i64 ep] w λx w'=>x=.returned (.tuple #[.agg (a0b (b1F prev first root sh ep)).toArray,.bool (okH prev first root sh ep)])/\Below w w w':=by
 have⟨H,a9⟩:=ηs w;have b0:=Qd w 37 (((a0b prev).toArray));have B0:=ρb w (.cells (((a0b prev).toArray)) 37)
 generalize hW:w.alloc (.cells (((a0b prev).toArray)) 37)=W at b0 B0
 rw[a9]at b0;have aI:W.heap.size=H+1:=by rw[<-hW,Qi,a9]
 have bb:=a6H W;have bz:=Qd W 37 ((a0b a1y).toArray);have B1:Below w w (W.alloc (.cells ((a0b a1y).toArray) 37)):=B0.alloc B0.size _;have ab:=b0.alloc (.cells ((a0b a1y).toArray) 37)
 generalize hV:W.alloc (.cells ((a0b a1y).toArray) 37)=V at bz B1 ab bb
 rw[aI]at bz bb;have cx:V.heap.size=H+2:=by rw[<-hV,Qi,aI]
 have bt:=λX (hX:Below w w X)=>c9l g 0 3 ρo b1 f b3 X (j.below hX) (m.below hX) (o.below hX) l1 l2 l3 (hgl.below hX)
 rw[<-hroot]at bt;have b6:Dig root:=by rw[hroot];exact Dig.node _ _
 have aR:=a0f a1A;have af:=a2f prev a V;have aG:=λX (hX:Below V V X)=>P4 a1S a1h (a0b prev) (ab.fr (Q9 hX) (ρh ab.lt)) (a0f a)
 have aq:=aG V (Qf _ _);have bW:=λX (hX:Below V V X)=>((ab.fr (Q9 hX) (ρh ab.lt)).cell 2).trans (show(a0b prev).toArray[2]? =some (.int .i64 prev.ep) by simp[a0b])
 have bX:=λX (hX:Below V V X)=>((ab.fr (Q9 hX) (ρh ab.lt)).cell 0).trans (show(a0b prev).toArray[0]? =some (.int .i64 prev.sh) by simp[a0b])
 have ci:=λX (hX:Below V V X)=>((ab.fr (Q9 hX) (ρh ab.lt)).cell 1).trans (show(a0b prev).toArray[1]? =some (.int .i64 prev.ht) by simp[a0b])
 have hid:=λX (hX:Below w w X)=>b1K prev a X (hgl.below hX)
 have⟨pv,br⟩:=η0 ((a0b prev).toArray);simp only[br]at hW af aG aq hid⊢;have bK:okH prev first root sh ep=false->b1F prev first root sh ep=a1y:=λh=>by unfold b1F;rw[h];rfl
 have z:okH prev first root sh ep=true->b1F prev first root sh ep=hdP prev first root sh ep:=λh=>by unfold b1F;rw[h];rfl
 have ag:(STs 37 (.pointer (H+1:Nat)) (.agg (a0b a1y).toArray)).run prog V=.ok () (V.setRow (H+1) (a0b a1y).toArray):=P7 a1h bz (ρy Qc aR) _ aR (a1p _);have a0:=λX=>b2Y X
 have⟨J,aU⟩:=η0 (a0b a1y);rw[aU]at ag aR bz hV;simp only[aU]at a0;have cd:∀v∈J,v.oneCell'=true:=by rw[<-aU];exact a1p _
 have Qz:=bz.row_ J.toArray;have QB:=Ql (g:=H+1) B1 ρo J.toArray;have cH:(ALs 37).run prog (w.alloc (.cells pv 37))=.ok (.pointer (H+1:Nat)) V:=by rw[hW];exact bb
 have⟨HW,HV,HG,an,aL,cI,cK,bc⟩:=η8 hW hV a9 B1 bz Qz QB bK;have⟨bq,bN,av,G,aM,aQ,bP,bB⟩:=η8 z bt b6 aR aU aG bW bX;have⟨bA,cp,cr,bk,bG,aF,bo,a5⟩:=η8 ci hid a cd aI a0 b d;clear hW hV a9 B1 bz Qz QB bK z bt b6 aR aU aG bW bX ci hid a cd aI a0 b d b0 B0 ab cx bb j m o l1 l2 l3 hgl hroot br
 cases first with
 |
  false=>
  have⟨r,hr⟩:=η0 (a0w prev);rw[hr]at af
  cases r with
  |
   false=>
   have E:okH prev false root sh ep=false:=by unfold okH;rw[hr];rfl
   have F:=bc.o E;rw[E,F,aM.o];have bw:=aF.o;have ax:=η1 E;clear E F hr;go_in;go_upto_region 1 with fail
   rw[HG.o];go_wp2_with fail;refine μi af ?_;intro w2 O;have Z:=φf aL O;have cg:=P7 a1h Z (ρy Qc G.o) J G bk;have q5:=Z.row_ J.toArray;have q6:=Ql (g:=H+1) (φt an O) (ρh HG.o) J.toArray;have⟨Q5,Q6⟩:=η2 q5 q6;clear q5 q6 O Z;clear af aq ag;go_wp2;exact bodyPost_ret (a0Z rfl _ _ (H+1) 37 J Q5 a1S (ρy G.o a1h) rfl (.bool false)) rfl ⟨rfl,Q6.o⟩
  |
   true=>
   by_cases bM:ep<prev.ep
   ·have E:okH prev false root sh ep=false:=by
     unfold okH;rw[hr]
     have:decide (prev.ep<=ep)=false:=by simp;omega
     rw[this];rfl
    have F:=bc.o E;rw[E,F,aM.o];have bw:=aF.o;have ax:=η1 E;clear E F hr;go_in;go_upto_region 1 with fail
    rw[HG.o];go_wp2_with fail;refine μi af ?_;intro w2 O;have Z:=φf aL O;have cg:=P7 a1h Z (ρy Qc G.o) J G bk;have q5:=Z.row_ J.toArray;have q6:=Ql (g:=H+1) (φt an O) (ρh HG.o) J.toArray;have qe:=bP.o w2 O;have⟨Q5,Q6⟩:=η2 q5 q6;clear q5 q6 O Z;clear af aq ag;have ca:decide (ep<prev.ep)=true:=ρw bM;go_wp2;exact bodyPost_ret (a0Z rfl _ _ (H+1) 37 J Q5 a1S (ρy G.o a1h) rfl (.bool false)) rfl ⟨rfl,Q6.o⟩
   have E:okH prev false root sh ep=a0w ⟨prev.sh,prev.ht+1,ep,b4F prev,root⟩:=by
    unfold okH hdP;rw[hr]
    have:decide (prev.ep<=ep)=true:=by simp;omega
    rw[this];simp
   have a3:hdP prev false root sh ep=⟨prev.sh,prev.ht+1,ep,b4F prev,root⟩:=by unfold hdP;simp
   have z:=bq.o;rw[a3]at z;have cy:=a7l hr;have b2:=cr.o;have aa:(⟨prev.sh,prev.ht+1,ep,b4F prev,root⟩:a0Q).Bd:=⟨b2.sh,(by show InI (prev.ht+1);unfold InI;omega),a5.o,Dig.hid prev,av.o⟩;have bp:(⟨sh,1,ep,List.replicate 32 0,root⟩:a0Q).Bd:=⟨bo.o,(by simp[InI]),a5.o,ZZ,av.o⟩;have bg:=(Dig.hid prev).1;have⟨D,hD⟩:=η0 (b4F prev);have aZ:=cp.o;simp only[hD]at aZ;rw[hD]at bg z E aa;have bQ:(bys D).length=32:=by rw[a0a,bg]
   have e0:∀v:Int,(a0b ⟨sh,1,ep,List.replicate 32 0,root⟩).toArray.setIfInBounds 0 (.int .i64 v)=(a0b ⟨v,1,ep,List.replicate 32 0,root⟩).toArray:=λv=>b2a _ v
   have e1:∀u v:Int,(a0b ⟨u,1,ep,List.replicate 32 0,root⟩).toArray.setIfInBounds 1 (.int .i64 v)=(a0b ⟨u,v,ep,List.replicate 32 0,root⟩).toArray:=λu v=>b1Q _ v
   have e3:∀u v:Int,a1d (a0b ⟨u,v,ep,List.replicate 32 0,root⟩).toArray 3 (bys D)=(a0b ⟨u,v,ep,D,root⟩).toArray:=λu v=>b3S (h:=⟨u,v,ep,List.replicate 32 0,root⟩) ρp av.1 bg
   have bm:∀u v:Int,(a0b ⟨u,v,ep,List.replicate 32 0,root⟩).toArray.size=67:=λu v=>by have:=av.1;simp[a0b,a0a,this]
   have cJ:IntKind.i64.wrap (prev.ht+1)=prev.ht+1:=by rw[IntKind.wrap_i64];omega
   have⟨hd,ac⟩:=η0 ((⟨prev.sh,prev.ht+1,ep,D,root⟩:a0Q));rw[ac]at z E aa;have bj:=λX=>c0k sh 1 ep root av.1 X
   have aJ:=a0f aa;have a6:=a0f bp;have aK:=a2f hd aa;have ak:=bN.o;have bf:=e3 prev.sh (prev.ht+1);rw[ac]at bf;have⟨hs,S⟩:=η0 (a0b hd);have⟨ys,a1⟩:=η0 (a0b ⟨sh,1,ep,List.replicate 32 0,root⟩);have a2:∀v∈hs,v.oneCell'=true:=by rw[<-S];exact a1p _
   have bT:∀v∈ys,v.oneCell'=true:=by rw[<-a1];exact a1p _
   rw[S]at bf aJ;rw[a1]at a6;simp only[S]at aK;simp only[a1]at bj e0;have bL:ys.toArray[0]? =some (.int .i64 sh):=by rw[<-a1];rfl
   have⟨ax,au,a7,I,cq,bD,a8,cj⟩:=η8 E z aK aJ a6 S a2 bT;have⟨E0,E1,E3,b8,cw,bY,cB,bR⟩:=η8 e0 e1 bf bm bQ aZ bL ak;clear E z aK aJ a6 S a2 bT e0 e1 bf bm bQ aZ bL ak a3 aa bp hr cy b2 bg hD ac a1 e3;have b5:=af;have ca:decide (ep<prev.ep)=false:=ρw bM;clear ag;go_in;go_upto_region 1 with fail
   rw[HG.o];go_wp2_with fail;refine μi b5 ?_;intro w2 O;have qe:=bP.o w2 O;have aW:=φt an O;have bs:=bR.o w2 aW;clear b5 af aq;have⟨cv,cG⟩:=η2 O aW;clear O aW;go_wp2_with fail;refine μ1 bs ?_;rintro e w3 ⟨rfl,ar⟩;clear bs qe;have⟨x,hx⟩:=ηs w3;have U:=a6H w3;rw[aM.o]at U;have ah:Below V V w3:=φt cv ar;have bx:=Qd w3 37 J.toArray;have BX:=(Qf _ w3).alloc (Qg _) (.cells J.toArray 37);have aA:=(φf aL ah).alloc (.cells J.toArray 37)
   generalize bE:w3.alloc (.cells J.toArray 37)=X0 at U bx BX aA
   have bi:V.heap.size<=x:=by rw[<-hx];exact ah.size
   have ba:H+2<=V.heap.size:=by have:=aL.lt;have:=bG.o;have hv:=HV.o;rw[<-hv,Qi];omega
   have aT:Below V V X0:=ah.trans (BX.mono ah.size);rw[hx]at U bx;have ai:=P7 a1h bx (ρy Qc G.o) ys cq cj;have kx:=bx.row_ ys.toArray;have fx:=ρr (x) X0 ys.toArray;have kz:=aA.fr fx (show¬_=_ by omega);have T:Below V V (X0.setRow x ys.toArray):=aT.trans (fx.below (B:=V.heap.size) aT.size (λk hk e=>ρo));have⟨X1,Q⟩:=η0 (X0.setRow x ys.toArray);replace ai:=ai.trans (show _=Result.ok () X1 by rw[<-Q]);rw[Q]at kx kz T;have aB:Below V V X1.drew:=T.drew;have⟨Y0,aN⟩:=η0 X1.drew;have b4:Blk Y0 x 37 ys.toArray:=by rw[<-aN];exact kx.drew
   have bZ:Blk Y0 (H+1) 37 J.toArray:=by rw[<-aN];exact kz.drew
   rw[aN]at aB;have az:=an.o;have bn:=bY.o Y0 (az.trans (aB.mono az.size));have bO:Y0.cell? ⟨H,0,none⟩=some (.int .i64 prev.sh)/\Y0.cell? ⟨H,1,none⟩=some (.int .i64 prev.ht)/\(LDs 37 (.pointer H)).run prog Y0=.ok (.agg pv) Y0:=⟨bB.o _ aB,bA.o _ aB,aQ.o _ aB⟩;have⟨cn,bJ,cA,cE,bS,bH,bU⟩:=η7 bO aN b4 bZ aB bi ba;clear bO aN b4 bZ aB bi ba ar bx BX aA bE Q ah aT T kx kz fx hx az;go_upto_region 5 with fail
   refine a0s [(0,3),(2,3),(1,0),(7,3),(3,0),(4,3),(5,0),(6,1),(8,1),(9,3),(10,2),(11,3),(12,2)] (λW=>W.cell? ⟨H,0,none⟩=some (.int .i64 prev.sh)/\W.cell? ⟨H,1,none⟩=some (.int .i64 prev.ht)/\(LDs 37 (.pointer H)).run prog W=.ok (.agg pv) W) ρk ρk ρk ρk (ρy bJ.o cn.o) ?_;rw[bJ.o];refine ε2 ?_
   refine θ1 (λW' hS=>hS.1) ?_
   refine ε1 ?_
   refine θ1 (λW' hS=>hS.2.1) ?_
   refine ε1 ?_
   refine θ1 (λW' hS=>hS.2.2) ?_
   refine κ ?_;intro K hK;refine μ1 bn ?_;rintro e w6 ⟨rfl,bh⟩;have ao:=φt bS bh;have bV:=φf cA bh;have cf:=φf cE bh;have ce:w6.cell? ⟨H,0,none⟩=some (.int .i64 prev.sh)/\w6.cell? ⟨H,1,none⟩=some (.int .i64 prev.ht)/\(LDs 37 (.pointer H)).run prog w6=.ok (.agg pv) w6:=⟨bB.o _ ao,bA.o _ ao,aQ.o _ ao⟩;have⟨ct,bC,cD,bI⟩:=η4 ce bV cf ao;clear ce bV cf ao bh bn;with_reducible refine hK _ _ (ct.o) ?_;clear hK K
   have z6:=bC.frozen 0;have p6:=(bC.cell 0).trans cB;have be:=bC.set_ 0 (.int .i64 prev.sh);rw[E0.o]at be;have f7:Fr (λk=>k=x) w6 (w6.setCell ⟨x,0,none⟩ (.int .i64 prev.sh)):=(Qp (λk=>k=x) w6).setCell (p:=⟨x,0,none⟩) (λ_=>rfl) _;have aY:=bH.o;have aX:=bU.o;have ad:=bI.trans (f7.below (B:=V.heap.size) bI.size (λk hk e=>ρo));have bv:=cD.fr f7 (show¬_=_ by omega)
   generalize b9:w6.setCell ⟨x,0,none⟩ (.int .i64 prev.sh)=Y7 at be ad bv
   have cc:Y7.cell? ⟨H,0,none⟩=some (.int .i64 prev.sh)/\Y7.cell? ⟨H,1,none⟩=some (.int .i64 prev.ht)/\(LDs 37 (.pointer H)).run prog Y7=.ok (.agg pv) Y7:=⟨bB.o _ ad,bA.o _ ad,aQ.o _ ad⟩;have⟨cF,cC,bu,ck,ch⟩:=η5 cc b9 be bv ad;clear cc b9 be bv ad f7 aY aX;refine κ ?_;intro K hK;rw[cC.o];with_reducible refine hK _ _ (cF.o) ?_;clear hK K;clear z6 p6
   have z7:=bu.frozen 1;have p7:=(bu.cell 1).trans (show(a0b ⟨prev.sh,1,ep,List.replicate 32 0,root⟩).toArray[1]? =some (.int .i64 1) by simp[a0b]);have aO:=bu.set_ 1 (.int .i64 (prev.ht+1));rw[E1.o]at aO;have f8:Fr (λk=>k=x) Y7 (Y7.setCell ⟨x,1,none⟩ (.int .i64 (prev.ht+1))):=(Qp (λk=>k=x) Y7).setCell (p:=⟨x,1,none⟩) (λ_=>rfl) _;have aY:=bH.o;have aX:=bU.o;have aD:=ch.trans (f8.below (B:=V.heap.size) ch.size (λk hk e=>ρo));have bF:=ck.fr f8 (show¬_=_ by omega)
   generalize b7:Y7.setCell ⟨x,1,none⟩ (.int .i64 (prev.ht+1))=Y8 at aO aD bF
   have aE:=Pa (t:=31) iId aO (off:=3) (bys D) cw.o (by rw[b8.o];omega) (a0h _);have kx:=aO.row_ (a1d (a0b ⟨prev.sh,prev.ht+1,ep,List.replicate 32 0,root⟩).toArray 3 (bys D));rw[E3.o]at kx aE;have f9:=ρr (x) Y8 hs.toArray;have bl:=aD.trans (f9.below (B:=V.heap.size) aD.size (λk hk e=>ρo));have kz:=bF.fr f9 (show¬_=_ by omega);have az:=an.o;have T:=az.trans (bl.mono az.size);have⟨X1,Q⟩:=η0 (Y8.setRow x hs.toArray);replace aE:=aE.trans (show _=Result.ok () X1 by rw[<-Q]);rw[Q]at kx kz T;have aj:=P4 a1S a1h hs kx I;have aC:=a7.o X1;have⟨KX,KZ,aP,cu⟩:=η4 kx kz T b7;clear kx kz T b7 f8 aY aX aD bF aO f9 bl az Q;refine ε1 ?_;refine τ ?_;intro K hK;rw[cu.o];with_reducible refine hK _ _ ?_;clear hK K
   refine ε1 ?_;refine τ1 ?_;refine ν ?_;clear z7 p7 aE;go_upto_region 6 with fail
   go_wp2_with fail;refine μi aC ?_;intro w5 Y;have a4:=P4 a1S a1h hs (φf KX Y) I.o;have N:=φf KZ Y;have B5:=φt aP Y;have al:=HG.o
   generalize ae:a0w hd=r5
   cases r5 with
   |
    false=>
    have y:=ax.trans ae;have F:=bc.o y;have aS:=P7 a1h N (ρy Qc G.o) J G bk;have q5:=N.row_ J.toArray;have q6:=Ql (g:=H+1) B5 ρo J.toArray;have bw:=aF.o;have⟨Q5,Q6,R,ay⟩:=η4 q5 q6 y F;clear q5 q6 y F Y N B5 al ae a4;clear aj aC;go_wp2;refine bodyPost_ret (a0Z rfl _ _ (H+1) 37 J Q5 a1S (ρy G.o a1h) rfl (.bool false)) rfl ?_;exact⟨by rw[R.o,ay.o,aM.o],Q6.o⟩
   |
    true=>
    have y:=ax.trans ae;have F:=au.o y;have aS:=P7 a1h N (ρy Qc G.o) hs I a8;have q5:=N.row_ hs.toArray;have q6:=Ql (g:=H+1) B5 ρo hs.toArray;have⟨Q5,Q6,R,ay⟩:=η4 q5 q6 y F;clear q5 q6 y F Y N B5 al ae;clear aj aC;go_wp2;refine bodyPost_ret (a0Z rfl _ _ (H+1) 37 hs Q5 a1S (ρy I.o a1h) rfl (.bool true)) rfl ?_;exact⟨by rw[R.o,ay.o,bD.o],Q6.o⟩
 |
  true=>
  have E:okH prev true root sh ep=a0w ⟨sh,1,ep,List.replicate 32 0,root⟩:=by unfold okH hdP;simp
  have a3:hdP prev true root sh ep=⟨sh,1,ep,List.replicate 32 0,root⟩:=by unfold hdP;simp
  have z:=bq.o;rw[a3]at z;have aa:(⟨sh,1,ep,List.replicate 32 0,root⟩:a0Q).Bd:=⟨bo.o,(by simp[InI]),a5.o,ZZ,av.o⟩;have⟨hd,ac⟩:=η0 ((⟨sh,1,ep,List.replicate 32 0,root⟩:a0Q));have bj:=λX=>c0k sh 1 ep root av.1 X
  rw[ac]at z E aa;simp only[ac]at bj;have aJ:=a0f aa;have aK:=a2f hd aa;have ak:=bN.o V an;have⟨cz,ax,au,a7⟩:=η4 aJ E z aK;clear aJ E z aK a3 aa;clear af aq ag;have⟨hs,S⟩:=η0 (a0b hd);have a2:∀v∈hs,v.oneCell'=true:=by rw[<-S];exact a1p _
  simp only[S]at bj a7;have aV:=cz.o;rw[S]at aV;have⟨bD,I,a8⟩:=η3 S aV a2;clear S aV a2;go_in;go_upto_region 1 with fail
  rw[HG.o];go_wp2_with fail;refine μ1 ak ?_;rintro e w3 ⟨rfl,ar⟩;have⟨x,hx⟩:=ηs w3;have U:=a6H w3;rw[aM.o]at U;have bx:=Qd w3 37 J.toArray;have BX:=(Qf _ w3).alloc (Qg _) (.cells J.toArray 37);have aA:=(φf aL ar).alloc (.cells J.toArray 37)
  generalize bE:w3.alloc (.cells J.toArray 37)=X0 at U bx BX aA
  have aH:=φt an ar;have bi:V.heap.size<=x:=by rw[<-hx];exact ar.size
  have ba:H+2<=V.heap.size:=by have:=aL.lt;have:=bG.o;have hv:=HV.o;rw[<-hv,Qi];omega
  rw[hx]at U bx BX;have ai:=P7 a1h bx (ρy Qc G.o) hs I a8;have kx:=bx.row_ hs.toArray;have fx:=ρr (x) X0 hs.toArray;have kz:=aA.fr fx (show¬_=_ by omega);have T:Below w w (X0.setRow x hs.toArray):=(aH.trans ((hx ▸ BX).mono aH.size)).trans (fx.below (B:=w.heap.size) (ρi aH.size BX.size) (λk hk e=>by have:=an.size;omega));have⟨X1,Q⟩:=η0 (X0.setRow x hs.toArray);replace ai:=ai.trans (show _=Result.ok () X1 by rw[<-Q]);rw[Q]at kx kz T;have aj:=P4 a1S a1h hs kx I;have aC:=a7.o X1;have⟨KX,KZ,aP⟩:=η3 kx kz T;clear kx kz T ar bx BX aA bE Q aH bi ba fx hx;clear ak;go_wp2_with fail;refine μi aC ?_;intro w5 Y;have a4:=P4 a1S a1h hs (φf KX Y) I.o;have N:=φf KZ Y;have B5:=φt aP Y;have al:=HG.o
  generalize ae:a0w hd=r5
  cases r5 with
  |
   false=>
   have y:=ax.trans ae;have F:=bc.o y;have aS:=P7 a1h N (ρy Qc G.o) J G bk;have q5:=N.row_ J.toArray;have q6:=Ql (g:=H+1) B5 ρo J.toArray;have bw:=aF.o;have⟨Q5,Q6,R,ay⟩:=η4 q5 q6 y F;clear q5 q6 y F Y N B5 al ae a4;clear aj aC;go_wp2;refine bodyPost_ret (a0Z rfl _ _ (H+1) 37 J Q5 a1S (ρy G.o a1h) rfl (.bool false)) rfl ?_;exact⟨by rw[R.o,ay.o,aM.o],Q6.o⟩
  |
   true=>
   have y:=ax.trans ae;have F:=au.o y;have aS:=P7 a1h N (ρy Qc G.o) hs I a8;have q5:=N.row_ hs.toArray;have q6:=Ql (g:=H+1) B5 ρo hs.toArray;have⟨Q5,Q6,R,ay⟩:=η4 q5 q6 y F;clear q5 q6 y F Y N B5 al ae;clear aj aC;go_wp2;refine bodyPost_ret (a0Z rfl _ _ (H+1) 37 hs Q5 a1S (ρy I.o a1h) rfl (.bool true)) rfl ?_;exact⟨by rw[R.o,ay.o,bD.o],Q6.o⟩
end
end Go.Proofs.YtpolljfkceanaaaGreatDoor
