/-
  Contracts of functions, plain laws.
-/
import Derived.Lib.SlicesCompact
import Derived.Test.YtpolljfkceanaaaGreatDoorKS1
import Derived.Lib.RowBridge
import Derived.Shelf.Slices.In.SortNone
import Derived.DeepKeys4
import Derived.Maps.OwnSet
import Derived.Maps.Views
import Derived.WideKeyEntry
import Derived.Maps.RangeRun
import Derived.Shelf.SlMaps.Clone
import Derived.Test.YtpolljfkceanaaaGreatDoorK02
namespace Go.Proofs.YtpolljfkceanaaaGreatDoor
open Go.RowKit Go.Shelf Go.Maps Go.Proofs.Tryz
set_option maxRecDepth 100000
set_option maxHeartbeats 64000000
variable {x:Int}{l tx:LI}{L:LL}{xs:LV}{B N b c g i most n n₀:Nat}{A:OA}{e t ty:TI}{v z:VL}{X a w:WD}
set_option linter.all false
section
def a3m(mark:Int)(L:LL):LL:=[mark]::L.flatMap λl=>[a6s l.length,l]
theorem b6f(a:Int)(L:LL)(l:LI):a3m a (L++[l])=a3m a L++[a6s l.length]++[l]:=by simp[a3m]
def a1K(mark:Int)(L:LL):LI:=a3x (a3m mark L).flatten
theorem a5y(a:Int)(L:LL):(a1K a L).length=32:=a5Y _
theorem b0Z(a:Int)(L:LL):∀x∈a1K a L,0<=x/\x<=255:=c2U _
theorem b2f(a:Int):∀L:LL,(a3m a L).length=1+2*L.length
 | []=>rfl
 |
  l::L=>by
  have:=b2f a L
  simp only[a3m,Qy,List.flatMap_cons,Qa,Qv]at this⊢;omega
theorem b0D(a:Int):∀L:LL,(a3m a L).flatten.length=1+4*L.length+L.flatten.length
 | []=>rfl
 |
  l::L=>by
  have:=b0D a L
  simp only[a3m,Zm,Qa,Qy,List.flatMap_cons,QG,QF,a3V]at this⊢;omega
theorem c2L{a:Int}(b:0<=a/\a<=255)(d:∀l∈L,∀x∈l,0<=x/\x<=255):∀x∈(a3m a L).flatten,0<=x/\x<=255:=by
 intro x f;simp only[a3m,Zm,Qq,List.mem_flatten,List.mem_flatMap,Qo,Qt,or_false]at f
 rcases f with rfl | ⟨l,⟨j,g,rfl | rfl⟩,f⟩
 ·exact b
 ·exact a5q _ x f
 exact d _ g x f
structure TxE(n₀:Nat)(w:WD)(xs:LV)(L:LL):Prop where
 len:xs.length=L.length
 txt:∀i (h:i<xs.length) (h':i<L.length),TxV w xs[i] L[i]/\∀k,xs[i].ownBlock=some k->0<L[i].length->k<n₀\/∃cs,Blk w k 5 cs
theorem TxE.snoc{x:VL}(h:TxE n₀ w xs L)(a:TxV w x l)(b:∀k,x.ownBlock=some k->0<l.length->k<n₀\/∃cs,Blk w k 5 cs):TxE n₀ w (xs++[x]) (L++[l]):=by
 refine⟨by simp[h.len],λi hi g=>?_⟩
 by_cases f:i<xs.length
 ·have d:i<L.length:=by rw[<-h.len];exact f
  rw[ZK f,ZK d];exact h.txt i f d
 have e:i=xs.length:=by simp at hi;omega
 subst e;simp only[List.getElem_append_right (Qg _),Nat.sub_self,List.getElem_cons_zero];simp only[h.len,List.getElem_append_right (Qg _),Nat.sub_self,List.getElem_cons_zero];exact⟨a,b⟩
theorem TxE.fr{n₀:Nat}{w d:WD}{xs:LV}{L:LL}{F:Nat->Prop}(h:TxE n₀ w xs L)(f:Fr F w d)(g:∀k,k<n₀->¬F k)(j:∀k cs,F k->¬Blk w k 5 cs):TxE n₀ d xs L:=by
 refine⟨h.len,λi hi r=>?_⟩;obtain⟨a,b⟩:=h.txt i hi r
 have v:∀k,(xs[i]).ownBlock=some k->0<(L[i]).length->¬F k:=λk p m hF=>by
  rcases b k p m with o | ⟨cs,o⟩
  ·exact g k o hF
  exact j k cs hF o
 refine⟨?_,λk p m=>(b k p m).imp id (fun⟨cs,o⟩=>⟨cs,o.fr f (v k p m)⟩)⟩;obtain⟨A,c,e,x,z⟩:=a;exact⟨A,c,e,x.fr f (λB y m=>v _ (by rw[e,y];rfl) m),z⟩
theorem c7t(A:OA)(n c a b:Nat):(Value.slice A n c).ownBlock=(Value.slice A a b).ownBlock:=by cases A<;>rfl
theorem TxE.txs(h:TxE n₀ w xs L)(a:0<xs.length->∃g off,A=some ⟨g,off,none⟩/\g<w.heap.size/\∀j x,xs[j]? =some x->w.cell? ⟨g,off+j,none⟩=some x):b8s w A xs L:=
 ⟨h.len,a,λi h1 h2=>(h.txt i h1 h2).1⟩
section
attribute [local go_sem ↓] a2t a2s a2n c6o a3w
theorem b1c(b:Int)(f:0<=b/\b<=255)(A:OA)(c:Nat)(xs:LV)(L:LL)(w:WD)(j:b8s w A xs L)(o:∀i (h:i<xs.length) (h':i<L.length) k,xs[i].ownBlock=some k->0<L[i].length->k<w.heap.size)(y:L.length<=1000)(d:L.flatten.length<=400000000)(g:∀l∈L,∀x∈l,0<=x/\x<=255)(r:a2x w):
  Calls prog 105 #[.int .u8 b,.slice A L.length c] w λe w'=>e=.returned (.agg (bys (a1K b L)).toArray)/\Below w w w':=by
 obtain⟨z,aJ,aG⟩:=Q8.1 b9C;have au:=Pc (t:=31) z aJ w;have⟨E,O⟩:=η0 z.cells;have ah:E.size=32:=by rw[<-O,<-QD,aG];rfl
 rw[O]at au;clear O aJ aG z;have b0:=((Qd w 31 E).alloc (.cells #[.int .u8 b] 5)).alloc (.cells #[.slice (w.heap.size+1:Nat) 1 1] 22);have b1:=(Qd (w.alloc (.cells E 31)) 5 #[.int .u8 b]).alloc (.cells #[.slice (w.heap.size+1:Nat) 1 1] 22);have b2:=Qd ((w.alloc (.cells E 31)).alloc (.cells #[.int .u8 b] 5)) 22 #[.slice (w.heap.size+1:Nat) 1 1];have B0:Below w w (((w.alloc (.cells E 31)).alloc (.cells #[.int .u8 b] 5)).alloc (.cells #[.slice (w.heap.size+1:Nat) 1 1] 22)):=((ρb w _).alloc ρp _).alloc (by simp;omega) _;simp only[Qi]at b1 b2
 generalize ae:((w.alloc (.cells E 31)).alloc (.cells #[.int .u8 b] 5)).alloc (.cells #[.slice (w.heap.size+1:Nat) 1 1] 22)=W0 at b0 b1 b2 B0
 have Y:W0.heap.size=w.heap.size+3:=by rw[<-ae];simp
 have Q:W0.ownsRow (w.heap.size+1) 22 1 (.slice (w.heap.size+1+1:Nat) 1 1) 1 [.slice (w.heap.size+1:Nat) 1 1]:=
  ⟨rfl,.inr ⟨w.heap.size+1+1,1,_,rfl,by omega,b2,Qg _,by unfold maxLen;omega,rfl,rfl⟩⟩
 have ax:TxE w W0 [.slice (w.heap.size+1:Nat) 1 1] (a3m b (L.take 0)):=⟨rfl,λi h1 h2=>by
  obtain rfl:i=0:=ρw h1
  exact⟨⟨_,1,rfl,Blk.byt (l:=[b]) b1 (ρw f),by simp⟩,λk F _=>by
   simp[Value.ownBlock]at F;subst F;exact .inr ⟨_,b1⟩⟩⟩
 have⟨n,ab⟩:=η0 L.length;have⟨HT,HX,HG,a0,aP,X,a3,a7⟩:=η8 j o r f g d ae Y;have⟨H0,aZ,aM,aO,HN⟩:=η5 b0 B0 Q ax ab;rw[ab]at y⊢;clear j o r f g d ae Y b0 b1 b2 B0 Q ax ab;go_enter func105,ntmps105;go_wp2_with fail;rw[a3.o];clear au;go_loopg [5,7,13] n (λkk v _ t wr=>∃(i:Nat) (A5:OA) (c5:Nat) (ys:LV),i+kk=n/\t=.int .i64 i/\v=.slice A5 (1+2*i) c5/\wr.ownsRow (w.heap.size+1) 22 1 v (1+2*i) ys/\TxE w wr ys (a3m b (L.take i))/\Blk wr w.heap.size 31 E/\Below w w wr);exact⟨0,_,_,_,by omega,rfl,rfl,aM.o,aO.o,H0.o,aZ.o⟩;obtain⟨i,A5,c5,ys,hi,rfl,rfl,I,hE,V,hB⟩:=hrel
 by_cases av:i<n
 ·have aL:(i:Int)<n:=ρo
  have al:i<xs.length:=by rw[HT.len,HN.o];exact av
  have U:i<L.length:=by rw[HN.o];exact av
  obtain⟨ga,oa,rfl,aT,ao⟩:=HT.cell ρo;obtain⟨Ai,ci,aE,Z,aH⟩:=HT.txt i al U;have W:=HX.o i al U;have ad:=ao i xs[i] (by simp[al]);rw[aE]at ad W;have aA:wr.cell? ⟨ga,oa+i,none⟩=some (.slice Ai (L[i]).length ci):=(hB.cell (p:=⟨ga,oa+i,none⟩) aT).trans ad
  have aI:(L[i]).length<=400000000:=by
   have h1:=X.o;have h2:(L[i]).length<=L.flatten.length:=List.Sublist.length_le (List.sublist_flatten_of_mem (Qu U));omega
  have aj:L.take (i+1)=L.take i++[L[i]]:=Qe U;have⟨l,hl⟩:=η0 (L[i]);rw[hl]at aA aI aj Z W;have⟨m,hm⟩:=η0 l.length;rw[hm]at aA aI;have⟨S,HE,T,HB,HY,aK,ai,aq⟩:=η8 I hE V hB Z aH W aj;have HM:=η1 hm;clear I hE V hB Z aH W aj hm hl aE ad ao;have af:=b3I (m:Int) ρo ρo 4 ρo wr;rw[show((4:Nat):Int)=4 from rfl]at af;go_wp2_with fail;refine μ1 af ?_;rintro e W1 ⟨rfl,an,G⟩;have D:=b4T S.o (Q9 G) (λk F h=>by have:=(World.ownsRow.lt S.o k F).2;omega);have aN:=G.size;have aC:=HB.size;have aX:w.heap.size<wr.heap.size:=T.lt;obtain⟨v',w',a1,B,K,_⟩:=d3c (ty:=23) D [.slice (some ⟨wr.heap.size,0,none⟩) 4 4,.slice Ai m ci] (by intro u hu;simp at hu;rcases hu with rfl | rfl<;>rfl) (by simp;omega) ρo;simp only[Qy,Qv,Nat.reduceAdd]at a1 B;obtain⟨A6,c6,rfl⟩:=a8a B
  have hF:∀k cs,(Value.slice A5 (1+2*i) c5).ownBlock=some k->¬Blk W1 k 5 cs:=λk cs F hb=>by
   obtain⟨a6,aV,_⟩:=a2B D F;exact absurd (hb.inj aV).1 ρd
  have N:∀k,k<w.heap.size+1->¬(Value.slice A5 (1+2*i) c5).ownBlock=some k:=λk F e=>by have:=(World.ownsRow.lt D k e).1;omega
  have az:=HE.fr (Q9 G) (λk F h=>ρo) (λk cs h hb=>by have:=hb.lt;omega);have aD:=az.fr K (λk F=>N k ρo) hF;have H:=an.fr K (hF _ _ · an)
  have ay:Byt w' Ai l:=(HY.below HB.o).below G |>.fr K (λa ha h0 e=>by
   have:=ai.o a.block (by rw[ha];rfl) (by rw[HM.o]at h0⊢;exact h0)
   exact N _ ρo e)
  have aa:=(aD.snoc (x:=.slice (some ⟨wr.heap.size,0,none⟩) 4 4) (l:=a6s m) ⟨_,4,rfl,by rw[d2Y]at H;exact H.byt (a5q _),by simp⟩ (λk F _=>by
   simp[Value.ownBlock]at F;subst F;exact .inr ⟨_,H⟩)).snoc (x:=.slice Ai m ci) (l:=l) ⟨Ai,ci,by rw[HM.o],ay,aK.o⟩ (λk F h0=>.inl (ai.o k ((c7t Ai _ _ _ _).trans F) h0))
  have hU:a3m b (L.take (i+1))=a3m b (L.take i)++[a6s m]++[l]:=by rw[aq.o,b6f,HM.o]
  rw[<-hU]at aa;have ar:=(T.fr (Q9 G) ρo).fr K (N _ ρo);have aB:=HB.trans ((G.mono aC).trans (K.below ρo (λk F=>N k ρo)));have⟨a2,aS,aY,aU⟩:=η4 aa B ar aB;clear af an G D K hF N az aD H ay aa hU ar aB B S HE T HY aK ai aq HM aN aC aX;go_wp2;go_roundg (n-(i+1));exact⟨i+1,A6,c6,_,by omega,by go_num,rfl,aS.o,by simpa using a2.o,aY.o,aU.o⟩;omega
 obtain rfl:i=n:=ρo;have aL:¬(i:Int)<i:=ρo;rw[Qb (by rw[HN.o];exact Qg _)]at hE;have ac:=b2f b L;rw[HN.o]at ac
 have aF:=hE.txs (A:=A5) (λh0=>by
  obtain⟨g3,a5,e,_,aR,aW⟩:=b3X I ρo;simp only[Value.slice.injEq]at e;exact⟨g3,0,e.1,aR,aW⟩)
 have R:=b3k A5 c5 ys (a3m b L) wr aF ρo (by rw[b0D,HN.o];have:=X.o;omega) (c2L a0.o aP.o) (HG.below hB);rw[ac]at R;have⟨HB,T⟩:=η2 hB V;clear aF hE I ac hB V;go_wp2_with fail;refine μi R ?_;intro W5 ag;have ak:=φf T ag;have J:(bys (a1K b L)).length=32:=by rw[a0a,a5y]
 have aQ:=Pa (t:=31) a5m ak (off:=0) (bys (a1K b L)) J ρo (a0h _);rw[a0q _ _ (by rw[J,ah])]at aQ;rw[show a3x (a3m b L).flatten=a1K b L from rfl];have⟨H5,a4,HL⟩:=η3 ak ag J;clear ak ag J R;go_wp2;refine bodyPost_ret (a0c rfl _ _ w.heap.size 31 (bys (a1K b L)) _ rfl (H5.row_ _) b1w rfl (ρy HL.o a5m)) rfl ?_;exact⟨rfl,Ql (HB.trans (a4.mono HB.size)) (Qg _) _⟩
end
end
section
section
attribute [local go_sem ↓] b3z
theorem b7A(B p:Nat)(v:VL)(l:LI)(A:OA)(c:Nat)(d:A=none->c=0)(b:LI)(w:WD)(h:a3Z B w p v l)(f:Byt w A b)(g:∀a,A=some a->0<b.length->¬(a.block=p\/v.ownBlock=some a.block))(x:l.length+b.length<=140737488355000)(r:l.length<=400000000)(o:B<=w.heap.size):
  Calls prog 52 #[.pointer p,.slice A b.length c] w λe w'=>e=.returned (.tuple #[])/\(∃v',a3Z B w' p v' (l++(a0K b.length++b))/\a7W w v v')/\Fr (λk=>k=p\/v.ownBlock=some k) w w':=by
 generalize hm:b.length=m
 have ae:m<=140737488355000:=ρo;have⟨H,HB,HM,HA⟩:=η4 h f hm g;clear h f g hm;go_enter func52,ntmps52;go_wp2_with fail;refine(a2M B p v l m ρo w H.o ρo o).mono ?_;rintro e w1 ⟨rfl,⟨v1,J,E⟩,D⟩;have U:=HB.fr D (λa e h0=>HA.o a e (by rw[HM.o]at h0⊢;exact h0))
 have ag:(a0K m).length<=9:=by
  have:=a8J (n:=m) ρo
  rw[b7k];omega
 obtain⟨v2,w2,K,P,N,I⟩:=c3v (ty:=22) (c:=c) J.own U (by rw[Qa];have:=HM.o;omega) (Qk o D.size) d;obtain⟨Q,X,rfl⟩:=J.own.form;obtain⟨T,Y,rfl⟩:=P.form;rw[HM.o]at K;have R:=a2D J.own J.st ρd;have y:=J.st.fr N (λe=>R e);have⟨W,z⟩:=η0 ((l++a0K m).length);have⟨V,O⟩:=η0 ((l++a0K m++b).length);have k1:w1.cell? ⟨p,0,none⟩=some (.slice Q W X):=by rw[<-z];exact J.st.cell 0
 have k2:w2.cell? ⟨p,0,none⟩=some (.slice Q W X):=by rw[<-z];exact y.cell 0
 have f2:=y.frozen 0;have ad:(APs #[22,22] 22 #[.slice Q W X,.slice A m c]).run prog w1=.ok (.slice T V Y) w2:=by rw[<-z,<-O];exact K
 have⟨H1,O2,F1,F2,S,ab,S2,af⟩:=η8 J P D N E I y z;have aa:=η1 O;clear J P D N E I y U K R z O;go_wp2;go_end0;have ac:=a2D O2.o S2.o ρd;refine⟨rfl,⟨.slice T V Y,⟨by simpa using S2.set_ 0 (.slice T V Y),H.b1,?_⟩,?_⟩,?_⟩
 ·have e:=O2.fr (F:=λj=>j=p) ((Qp (λj=>j=p) w2).setCell (p:=⟨p,0,none⟩) (λ_=>rfl) (.slice T V Y)) (λj Z e=>ac (e ▸ Z))
  rw[aa.o,QC]at e;exact e
 ·intro j Z
  rcases ab.o j ((b0K T _ _ _ _).trans Z)with h | h
  ·exact S.o j h
  exact .inr (Qk F1.size h)
 refine(F1.trans (F2.mono (G:=λj=>j=p\/(Value.slice Q W X).ownBlock=some j) (λj _ h=>.inr ((b0K Q _ _ _ _).trans h))) (λj Z h=>?_)).setCell (p:=⟨p,0,none⟩) (λ_=>.inl rfl) _
 rcases h with h | h
 ·exact .inl h
 rcases S.o j ((b0K Q _ _ _ _).trans h)with h | h
 ·exact .inr h
 omega
theorem a4A(B p:Nat)(v:VL)(l:LI)(a:∀x∈l,0<=x/\x<=255)(w:WD)(h:a3Z B w p v l)(b:l.length<=140737488355328):
  Calls prog 56 #[.pointer p] w λe w'=>∃v',e=.returned v'/\a0N w w' v' l/\Below w w w':=by
 obtain⟨y,z,m,j,_,O⟩:=h.own.byt a
 have r:y=none->z=0:=by
  rintro rfl;obtain⟨_,⟨f,_⟩ | ⟨g,cap,J,f,_⟩⟩:=h.own
  ·rw[m]at f
   simp only[Value.slice.injEq]at f;exact f.2.2
  rw[m]at f;simp at f
 have o:=h.st.cell 0;rw[m]at o;have D:w.cell? ⟨p,0,none⟩=some (.slice y l.length z):=o;have⟨n,E⟩:=η0 l.length;have G:=η1 (a8r y z r l w j b);rw[E]at D;have N:=η1 E;clear o m j h E;go_enter func56,ntmps56;go_wp2_with fail;have d:=G.o;rw[N.o]at d;refine d.mono ?_;rintro e w' ⟨v',rfl,H,F⟩;have⟨K,I⟩:=η2 H F;clear H F d G;go_wp2;go_ret;exact⟨v',rfl,K.o,I.o⟩
end
end
abbrev d2O:=ldOf 143
abbrev d2y:=stOf 143
abbrev d2h:=alOf 143
abbrev d2p:=bdOf 143
abbrev d1Y:=bdOf 107
structure d0q(w:WD)(A:OA)(A':OA)(c':Nat)(l:LI):Prop where
 byt:Byt w A' l
 blk:∀a,A'=some a->∃b,A=some b/\a.block=b.block
 cap:l.length<=c'
 nul:A'=none->c'=0
section
def ptL(tx:LI)(ix:Int):LV:=bys tx++[.int .i64 ix]
theorem a1x(h:tx.length=32)(ix:Int):(ptL tx ix).length=33:=by simp[ptL,a0a,h]
def b1x(tx:LI)(ix:Int):LI:=a1K 10 [tx,[ix]]
def okO(ix n:Int):Bool:=decide (1<=n/\n<=64/\0<=ix/\ix<=15)
def ofO(tx:LI)(ix n:Int):Int:=if okO ix n=true then((a9g ((b1x tx ix).take 8):Nat):Int) % n else 0
theorem a4Q{P:PG}{t e:TI}{n:Nat}(a:P.underlying t=some (.array n e))(b:(P.info? e).map (·.size)=some 1)(w:WD)(g:Nat)(d:0<n):
  (SLs t (.pointer g) none none none).run P w=.ok (.slice g n n) w:=by
 obtain⟨i,j,hi⟩:=Q8.1 b;have f:¬n=0:=ρo;simp[SLs,Instr.sliceAt,Instr.sureAddr,Instr.sliceBounds,run_underlying a,sizeOf,typeInfo,j,Addr.add]
abbrev Pi:=@a4Q prog
theorem c2O(_htx:tx.length=32)(b:∀x∈tx,0<=x/\x<=255)(ix:Int)(a:Blk X g t (ptL tx ix).toArray):Byt X g tx:=
 ⟨λ_=>⟨g,0,rfl,a.lt,λj x hx=>by
  have hj:j<tx.length:=(Qm.1 hx).1;rw[QP,a.cell j];simp only[ptL,QE];rw[QO (ρy a0a hj),a3J,hx]
  rfl⟩,b⟩
theorem b0m(tx:LI)(a:tx.length=32)(d:∀x∈tx,0<=x/\x<=255)(ix:Int)(p:0<=ix/\ix<=15){r:Nat}(f:Blk X g t (ptL tx ix).toArray)(m:Blk X b 5 #[.int .u8 ix])(o:Blk X r 22 #[.slice g 32 32,.slice b 1 1])(v:a2x X):
  Calls prog 105 #[.int .u8 10,.slice r 2 2] X λe w'=>e=.returned (.agg (bys (b1x tx ix)).toArray)/\Below X X w':=by
 have F:b8s X r [.slice g 32 32,.slice b 1 1] [tx,[ix]]:=⟨rfl,λ_=>⟨r,0,rfl,o.lt,λj x w=>by rw[QP,o.cell j];simpa using w⟩,λi hi y=>by
  match i,hi with
  | 0,_=>exact⟨_,32,by simp[a],c2O a d ix f,by simp⟩
  | 1,_=>exact⟨_,1,rfl,Blk.byt (l:=[ix]) m (by simp;omega),by simp⟩⟩
 have E:=f.lt;have D:=m.lt
 exact b1c 10 ρo _ 2 _ [tx,[ix]] X F (λi hi y k z _=>by
  match i,hi with
  | 0,_=>simp[Value.ownBlock]at z;omega
  | 1,_=>simp[Value.ownBlock]at z;omega) ρp (by simp[a]) (λl B x w=>by
  simp at B
  rcases B with rfl | rfl
  ·exact d x w
  simp at w;omega) v
def b9Y(w:WD)(tx:LI)(ix:Int)(D:Nat)(w5:WD):Prop:=
 (STs 31 (.pointer D) (.agg (bys (b1x tx ix)).toArray)).run prog w5=.ok () (w5.setRow D (bys (b1x tx ix)).toArray)/\Blk (w5.setRow D (bys (b1x tx ix)).toArray) D 31 (bys (b1x tx ix)).toArray/\Below w w (w5.setRow D (bys (b1x tx ix)).toArray)
theorem b7L{b:WD}(tx:LI)(ix:Int){D:Nat}{a:AV}(g:a.size=32)(f:Blk b D 31 a)(j:Below w w b)(d:w.heap.size<=D):b9Y w tx ix D b:=by
 have o:(bys (b1x tx ix)).length=32:=by rw[a0a];exact a5y _ _
 have m:=Pa (t:=31) a5m f (off:=0) (bys (b1x tx ix)) o ρo (a0h _);rw[a0q _ _ (by rw[o,g])]at m;exact⟨m,f.row_ _,Ql j d _⟩
section
attribute [local go_sem ↓] a2t a2s a2n a3w
theorem b2T(tx:LI)(a:tx.length=32)(b:∀x∈tx,0<=x/\x<=255)(ix n:Int)(f:-9223372036854775808<=ix/\ix<=9223372036854775807)(m:-9223372036854775808<=n/\n<=9223372036854775807)(w:WD)(d:a2x w):
  Calls prog 160 #[.agg (ptL tx ix).toArray,.int .i64 n] w λe w'=>e=.returned (.tuple #[.int .i64 (ofO tx ix n),.bool (okO ix n)])/\Below w w w':=by
 have b0:=Qd w 189 (ptL tx ix).toArray;have B0:=ρb w (.cells (ptL tx ix).toArray 189)
 generalize hW:w.alloc (.cells (ptL tx ix).toArray 189)=W at b0 B0
 have⟨g,av⟩:=ηs w;rw[av]at b0
 have aA:W.cell? ⟨g,32,none⟩=some (.int .i64 ix):=by
  rw[b0.cell 32];simp[ptL,a0a,a]
 have⟨HW,aJ,BB,HG,ao,HB,ag⟩:=η7 hW b0 B0 d a b av;clear hW b0 B0 d a b av
 by_cases U:okO ix n=true
 ·have h4:=of_decide_eq_true U
  obtain⟨h1,h2,h3,h4⟩:=h4;have n1:¬n<1:=ρo;have n2:¬64<n:=ρo;have n3:¬ix<0:=ρo;have n4:¬16<=ix:=ρo;have ak:ofO tx ix n=((a9g ((b1x tx ix).take 8):Nat):Int) % n:=by unfold ofO;rw[if_pos U]
  rw[U,ak];obtain⟨z,aE,aC⟩:=Q8.1 b9C;have ay:=λW=>Pc (t:=31) z aE W
  have⟨E,ah⟩:=η0 z.cells;have al:E.size=32:=by rw[<-ah,<-QD,aC];rfl
  simp only[ah]at ay;have aH:∀W',(SLs 31 (.pointer g) none none none).run prog W'=.ok (.slice g 32 32) W':=λW'=>a4Q b1w ρk W' g ρo
  have HZ:=η1 al;clear ah aE aC z al ak U;go_enter func160,ntmps160;go_upto_region 1 with fail
  rw[HW.o,ag.o];go_wp2_with fail;have⟨r,aj⟩:=η0 W.drew;have B:Below w w r:=by rw[<-aj];exact BB.drew
  have ae:Blk r g 189 (ptL tx ix).toArray:=by rw[<-aj];exact aJ.drew
  have q9:r.cell? ⟨g,32,none⟩=some (.int .i64 ix):=by rw[<-aj];exact aA
  let S0:WD->Prop:=λX=>X.cell? ⟨g,32,none⟩=some (.int .i64 ix)
  have az:=ae.lt;have hS:∀X,Below r r X->S0 X:=λX hX=>(hX.cell (p:=⟨g,32,none⟩) az).trans q9
  have⟨Y,ad⟩:=η2 hS aj;have aQ:IntKind.u8.wrap ix=ix:=by rw[IntKind.wrap_u8'];omega
  have uA:Calls prog 105 #[.int .u8 10,.slice (r.heap.size+1+1:Nat) 2 2] (((r.alloc (.cells E 31)).alloc (.cells #[.int .u8 ix] 5)).alloc (.cells #[.slice g 32 32,.slice (r.heap.size+1:Nat) 1 1] 22)) (λe w'=>e=.returned (.agg (bys (b1x tx ix)).toArray)/\Below ((((r.alloc (.cells E 31)).alloc (.cells #[.int .u8 ix] 5)).alloc (.cells #[.slice g 32 32,.slice (r.heap.size+1:Nat) 1 1] 22))).heap.size (((r.alloc (.cells E 31)).alloc (.cells #[.int .u8 ix] 5)).alloc (.cells #[.slice g 32 32,.slice (r.heap.size+1:Nat) 1 1] 22)) w')/\∀Q,Below ((((r.alloc (.cells E 31)).alloc (.cells #[.int .u8 ix] 5)).alloc (.cells #[.slice g 32 32,.slice (r.heap.size+1:Nat) 1 1] 22))).heap.size (((r.alloc (.cells E 31)).alloc (.cells #[.int .u8 ix] 5)).alloc (.cells #[.slice g 32 32,.slice (r.heap.size+1:Nat) 1 1] 22)) Q->b9Y w tx ix r.heap.size Q:=by
   have R:=((Qd (r.alloc (.cells E 31)) 5 #[.int .u8 ix]).alloc (.cells #[.slice g 32 32,.slice (r.heap.size+1:Nat) 1 1] 22));have S:=(Qd ((r.alloc (.cells E 31)).alloc (.cells #[.int .u8 ix] 5)) 22 #[.slice g 32 32,.slice (r.heap.size+1:Nat) 1 1]);have T:=(((Qd r 31 E).alloc (.cells #[.int .u8 ix] 5)).alloc (.cells #[.slice g 32 32,.slice (r.heap.size+1:Nat) 1 1] 22));simp only[Qi]at R S T
   refine⟨b0m tx ao.o HB.o ix ⟨h3,h4⟩ (((ae.alloc (.cells E 31)).alloc (.cells #[.int .u8 ix] 5)).alloc (.cells #[.slice g 32 32,.slice (r.heap.size+1:Nat) 1 1] 22)) R S (HG.below (((B.alloc (by have:=B.size;simp;omega) (.cells E 31)).alloc (by have:=B.size;simp;omega) (.cells #[.int .u8 ix] 5)).alloc (by have:=B.size;simp;omega) (.cells #[.slice g 32 32,.slice (r.heap.size+1:Nat) 1 1] 22))),λQ I=>?_⟩
   exact b7L tx ix HZ.o (T.fr (Q9 I) (ρh T.lt)) ((((B.alloc (by have:=B.size;simp;omega) (.cells E 31)).alloc (by have:=B.size;simp;omega) (.cells #[.int .u8 ix] 5)).alloc (by have:=B.size;simp;omega) (.cells #[.slice g 32 32,.slice (r.heap.size+1:Nat) 1 1] 22)).trans (I.mono ((((B.alloc (by have:=B.size;simp;omega) (.cells E 31)).alloc (by have:=B.size;simp;omega) (.cells #[.int .u8 ix] 5)).alloc (by have:=B.size;simp;omega) (.cells #[.slice g 32 32,.slice (r.heap.size+1:Nat) 1 1] 22))).size)) (ρh B.size)
  have UA:=η1 uA;clear uA
  have uB:Calls prog 105 #[.int .u8 10,.slice (r.heap.size+1+1:Nat) 2 2] (((r.alloc (.cells #[.int .u8 ix] 5)).alloc (.cells E 31)).alloc (.cells #[.slice g 32 32,.slice r 1 1] 22)) (λe w'=>e=.returned (.agg (bys (b1x tx ix)).toArray)/\Below ((((r.alloc (.cells #[.int .u8 ix] 5)).alloc (.cells E 31)).alloc (.cells #[.slice g 32 32,.slice r 1 1] 22))).heap.size (((r.alloc (.cells #[.int .u8 ix] 5)).alloc (.cells E 31)).alloc (.cells #[.slice g 32 32,.slice r 1 1] 22)) w')/\∀Q,Below ((((r.alloc (.cells #[.int .u8 ix] 5)).alloc (.cells E 31)).alloc (.cells #[.slice g 32 32,.slice r 1 1] 22))).heap.size (((r.alloc (.cells #[.int .u8 ix] 5)).alloc (.cells E 31)).alloc (.cells #[.slice g 32 32,.slice r 1 1] 22)) Q->b9Y w tx ix (r.heap.size+1) Q:=by
   have R:=(((Qd r 5 #[.int .u8 ix]).alloc (.cells E 31)).alloc (.cells #[.slice g 32 32,.slice r 1 1] 22));have S:=(Qd ((r.alloc (.cells #[.int .u8 ix] 5)).alloc (.cells E 31)) 22 #[.slice g 32 32,.slice r 1 1]);have T:=((Qd (r.alloc (.cells #[.int .u8 ix] 5)) 31 E).alloc (.cells #[.slice g 32 32,.slice r 1 1] 22));simp only[Qi]at R S T
   refine⟨b0m tx ao.o HB.o ix ⟨h3,h4⟩ (((ae.alloc (.cells #[.int .u8 ix] 5)).alloc (.cells E 31)).alloc (.cells #[.slice g 32 32,.slice r 1 1] 22)) R S (HG.below (((B.alloc (by have:=B.size;simp;omega) (.cells #[.int .u8 ix] 5)).alloc (by have:=B.size;simp;omega) (.cells E 31)).alloc (by have:=B.size;simp;omega) (.cells #[.slice g 32 32,.slice r 1 1] 22))),λQ I=>?_⟩
   exact b7L tx ix HZ.o (T.fr (Q9 I) (ρh T.lt)) ((((B.alloc (by have:=B.size;simp;omega) (.cells #[.int .u8 ix] 5)).alloc (by have:=B.size;simp;omega) (.cells E 31)).alloc (by have:=B.size;simp;omega) (.cells #[.slice g 32 32,.slice r 1 1] 22)).trans (I.mono ((((B.alloc (by have:=B.size;simp;omega) (.cells #[.int .u8 ix] 5)).alloc (by have:=B.size;simp;omega) (.cells E 31)).alloc (by have:=B.size;simp;omega) (.cells #[.slice g 32 32,.slice r 1 1] 22))).size)) (ρh B.size)
  have UB:=η1 uB;clear uB
  have uC:Calls prog 105 #[.int .u8 10,.slice (r.heap.size+1:Nat) 2 2] (((r.alloc (.cells #[.int .u8 ix] 5)).alloc (.cells #[.slice g 32 32,.slice r 1 1] 22)).alloc (.cells E 31)) (λe w'=>e=.returned (.agg (bys (b1x tx ix)).toArray)/\Below ((((r.alloc (.cells #[.int .u8 ix] 5)).alloc (.cells #[.slice g 32 32,.slice r 1 1] 22)).alloc (.cells E 31))).heap.size (((r.alloc (.cells #[.int .u8 ix] 5)).alloc (.cells #[.slice g 32 32,.slice r 1 1] 22)).alloc (.cells E 31)) w')/\∀Q,Below ((((r.alloc (.cells #[.int .u8 ix] 5)).alloc (.cells #[.slice g 32 32,.slice r 1 1] 22)).alloc (.cells E 31))).heap.size (((r.alloc (.cells #[.int .u8 ix] 5)).alloc (.cells #[.slice g 32 32,.slice r 1 1] 22)).alloc (.cells E 31)) Q->b9Y w tx ix (r.heap.size+1+1) Q:=by
   have R:=(((Qd r 5 #[.int .u8 ix]).alloc (.cells #[.slice g 32 32,.slice r 1 1] 22)).alloc (.cells E 31));have S:=((Qd (r.alloc (.cells #[.int .u8 ix] 5)) 22 #[.slice g 32 32,.slice r 1 1]).alloc (.cells E 31));have T:=(Qd ((r.alloc (.cells #[.int .u8 ix] 5)).alloc (.cells #[.slice g 32 32,.slice r 1 1] 22)) 31 E);simp only[Qi]at R S T
   refine⟨b0m tx ao.o HB.o ix ⟨h3,h4⟩ (((ae.alloc (.cells #[.int .u8 ix] 5)).alloc (.cells #[.slice g 32 32,.slice r 1 1] 22)).alloc (.cells E 31)) R S (HG.below (((B.alloc (by have:=B.size;simp;omega) (.cells #[.int .u8 ix] 5)).alloc (by have:=B.size;simp;omega) (.cells #[.slice g 32 32,.slice r 1 1] 22)).alloc (by have:=B.size;simp;omega) (.cells E 31))),λQ I=>?_⟩
   exact b7L tx ix HZ.o (T.fr (Q9 I) (ρh T.lt)) ((((B.alloc (by have:=B.size;simp;omega) (.cells #[.int .u8 ix] 5)).alloc (by have:=B.size;simp;omega) (.cells #[.slice g 32 32,.slice r 1 1] 22)).alloc (by have:=B.size;simp;omega) (.cells E 31)).trans (I.mono ((((B.alloc (by have:=B.size;simp;omega) (.cells #[.int .u8 ix] 5)).alloc (by have:=B.size;simp;omega) (.cells #[.slice g 32 32,.slice r 1 1] 22)).alloc (by have:=B.size;simp;omega) (.cells E 31))).size)) (ρh B.size)
  have UC:=η1 uC;clear uC
  have uD:Calls prog 105 #[.int .u8 10,.slice (r.heap.size+1:Nat) 2 2] ((r.alloc (.cells #[.int .u8 ix] 5)).alloc (.cells #[.slice g 32 32,.slice r 1 1] 22)) (λe w'=>e=.returned (.agg (bys (b1x tx ix)).toArray)/\Below (((r.alloc (.cells #[.int .u8 ix] 5)).alloc (.cells #[.slice g 32 32,.slice r 1 1] 22))).heap.size ((r.alloc (.cells #[.int .u8 ix] 5)).alloc (.cells #[.slice g 32 32,.slice r 1 1] 22)) w')/\∀Q,Below (((r.alloc (.cells #[.int .u8 ix] 5)).alloc (.cells #[.slice g 32 32,.slice r 1 1] 22))).heap.size ((r.alloc (.cells #[.int .u8 ix] 5)).alloc (.cells #[.slice g 32 32,.slice r 1 1] 22)) Q->b9Y w tx ix Q.heap.size (Q.alloc (.cells E 31)):=by
   have R:=((Qd r 5 #[.int .u8 ix]).alloc (.cells #[.slice g 32 32,.slice r 1 1] 22));have S:=(Qd (r.alloc (.cells #[.int .u8 ix] 5)) 22 #[.slice g 32 32,.slice r 1 1]);simp only[Qi]at R S;refine⟨b0m tx ao.o HB.o ix ⟨h3,h4⟩ ((ae.alloc (.cells #[.int .u8 ix] 5)).alloc (.cells #[.slice g 32 32,.slice r 1 1] 22)) R S (HG.below ((B.alloc (by have:=B.size;simp;omega) (.cells #[.int .u8 ix] 5)).alloc (by have:=B.size;simp;omega) (.cells #[.slice g 32 32,.slice r 1 1] 22))),λQ I=>?_⟩
   exact b7L tx ix HZ.o (Qd Q _ _) ((((B.alloc (by have:=B.size;simp;omega) (.cells #[.int .u8 ix] 5)).alloc (by have:=B.size;simp;omega) (.cells #[.slice g 32 32,.slice r 1 1] 22)).trans (I.mono (((B.alloc (by have:=B.size;simp;omega) (.cells #[.int .u8 ix] 5)).alloc (by have:=B.size;simp;omega) (.cells #[.slice g 32 32,.slice r 1 1] 22))).size)).alloc (Qk (((B.alloc (by have:=B.size;simp;omega) (.cells #[.int .u8 ix] 5)).alloc (by have:=B.size;simp;omega) (.cells #[.slice g 32 32,.slice r 1 1] 22))).size I.size) _) (Qk (((B.alloc (by have:=B.size;simp;omega) (.cells #[.int .u8 ix] 5)).alloc (by have:=B.size;simp;omega) (.cells #[.slice g 32 32,.slice r 1 1] 22))).size I.size)
  have UD:=η1 uD;clear uD;clear hS aj q9 ae B az aA;refine c9Y (λi=>i != 9) [(0,3),(1,3),(2,3),(3,0),(4,3)] 5 #[true,true,true,true,true,false,false,false,false,false] S0 ρk ρk ρk ρk (by rw[ad.o];exact Y.o _ (Qf _ _)) ?_;rw[ad.o];refine εc1 ?_;refine εc1 ?_;refine εc1 ?_
  iterate 1 (with_reducible refine a3M (o:=?_) (v:=?_) (a':=?_) ρu ρu (λW' aL=>?_) ?_ ?_;rotate_left 2;(focus(have j0:W'.cell? _=_:=aL;exact ρs));focus(exact ρs))
  refine εc1 ?_;with_reducible refine a2m ?_
  refine a3O (i:=5) (j:=8) ρk ?_ ?_;rotate_left
  focus
   with_reducible refine a2k (J:=λi=>i != 9) (oi:=?_) ρu ρu (λK G=>?_)
   refine ψ ?_;go_simp;with_reducible refine G _ _ (Y.o _ (ρb r _)) ?_;clear G K
   refine a5X [(5,1),(6,1),(7,1),(9,2)] ρk ρk ρk ?_;refine κ ?_;intro K G;with_reducible refine G _ _ (Y.o _ ((ρb r _).alloc ρp _)) ?_;clear G K
   refine κ ?_;intro K G;with_reducible refine G _ _ (Y.o _ (((ρb r _).alloc ρp _).alloc (by simp;omega) _)) ?_;clear G K
   refine κ ?_;intro K G;refine μi UA.o.1 ?_;intro Q I;obtain⟨Z,F,H⟩:=UA.2 _ I;have O:=(((ρb r _).alloc ρp _).alloc (by simp;omega) _).trans (I.mono ((((ρb r _).alloc ρp _).alloc (by simp;omega) _)).size);with_reducible refine G _ _ (Y.o _ O) ?_;clear G K
   refine τ1 ?_;refine ν ?_
   generalize aa:Q.setRow r.heap.size (bys (b1x tx ix)).toArray=w6 at F H⊢
   generalize ab:r.heap.size=D at F⊢
   have⟨af,an⟩:=η2 F H;clear Z I O aa ab F H UA UB UC UD Y ad;go_upto_region 5 with fail
  rotate_left;with_reducible refine a2k (J:=λi=>i != 9) (oi:=?_) ρu ρu (λK G=>?_)
  refine ψ ?_;go_simp;with_reducible refine G _ _ (Y.o _ (ρb r _)) ?_;clear G K
  refine a3O (i:=6) (j:=8) ρk ?_ ?_;rotate_left
  focus
   with_reducible refine a2k (J:=λi=>i != 9) (oi:=?_) ρu ρu (λK G=>?_)
   refine ψ ?_;go_simp;with_reducible refine G _ _ (Y.o _ ((ρb r _).alloc ρp _)) ?_;clear G K
   refine a5X [(6,1),(7,1),(9,2)] ρk ρk ρk ?_;refine κ ?_;intro K G;with_reducible refine G _ _ (Y.o _ (((ρb r _).alloc ρp _).alloc (by simp;omega) _)) ?_;clear G K
   refine κ ?_;intro K G;refine μi UB.o.1 ?_;intro Q I;obtain⟨Z,F,H⟩:=UB.2 _ I;have O:=(((ρb r _).alloc ρp _).alloc (by simp;omega) _).trans (I.mono ((((ρb r _).alloc ρp _).alloc (by simp;omega) _)).size);with_reducible refine G _ _ (Y.o _ O) ?_;clear G K
   refine τ1 ?_;refine ν ?_
   generalize aa:Q.setRow (r.heap.size+1) (bys (b1x tx ix)).toArray=w6 at F H⊢
   generalize ab:(r.heap.size+1)=D at F⊢
   have⟨af,an⟩:=η2 F H;clear Z I O aa ab F H UA UB UC UD Y ad;go_upto_region 5 with fail
  rotate_left;rotate_left;with_reducible refine a2k (J:=λi=>i != 9) (oi:=?_) ρu ρu (λK G=>?_)
  refine ψ ?_;go_simp;with_reducible refine G _ _ (Y.o _ ((ρb r _).alloc ρp _)) ?_;clear G K
  refine a3O (i:=7) (j:=8) ρk ?_ ?_;rotate_left
  focus
   with_reducible refine a2k (J:=λi=>i != 9) (oi:=?_) ρu ρu (λK G=>?_)
   refine ψ ?_;go_simp;with_reducible refine G _ _ (Y.o _ (((ρb r _).alloc ρp _).alloc (by simp;omega) _)) ?_;clear G K
   refine a5X [(7,1),(9,2)] ρk ρk ρk ?_;refine κ ?_;intro K G;refine μi UC.o.1 ?_;intro Q I;obtain⟨Z,F,H⟩:=UC.2 _ I;have O:=(((ρb r _).alloc ρp _).alloc (by simp;omega) _).trans (I.mono ((((ρb r _).alloc ρp _).alloc (by simp;omega) _)).size);with_reducible refine G _ _ (Y.o _ O) ?_;clear G K
   refine τ1 ?_;refine ν ?_
   generalize aa:Q.setRow (r.heap.size+1+1) (bys (b1x tx ix)).toArray=w6 at F H⊢
   generalize ab:(r.heap.size+1+1)=D at F⊢
   have⟨af,an⟩:=η2 F H;clear Z I O aa ab F H UA UB UC UD Y ad;go_upto_region 5 with fail
  rotate_left;rotate_left;rotate_left
  focus
   with_reducible refine a2k (J:=λi=>i != 9) (oi:=?_) ρu ρu (λK G=>?_)
   refine ψ ?_;go_simp;refine μi UD.o.1 ?_;intro Q I;obtain⟨Z,F,H⟩:=UD.2 _ I;have O:=((ρb r _).alloc ρp _).trans (I.mono (((ρb r _).alloc ρp _)).size);with_reducible refine G _ _ (Y.o _ O) ?_;clear G K
   refine a5X [(8,1),(9,2)] ρk ρk ρk ?_;refine κ ?_;intro K G;with_reducible refine G _ _ (Y.o _ (O.alloc O.size _)) ?_;clear G K
   refine τ1 ?_;have hz:=Z;refine ν ?_
   generalize aa:(Q.alloc (.cells E 31)).setRow Q.heap.size (bys (b1x tx ix)).toArray=w6 at F H⊢
   generalize ab:Q.heap.size=D at F⊢
   have⟨af,an⟩:=η2 F H;clear hz Z I O aa ab F H UA UB UC UD Y ad;go_upto_region 5 with fail
  all_goals
   clear ay aH;have aD:=d1a (P:=prog) b1w ρk w6 D 8 8 rfl ρo ρo;have ar:(b1x tx ix).length=32:=a5y _ _;have aq:∀x∈b1x tx ix,0<=x/\x<=255:=b0Z _ _
   generalize hV:b1x tx ix=V at ar aq af⊢
   have⟨aB,au,HV⟩:=η3 ar aq hV;clear ar aq hV;go_wp2_with fail;clear aD;go_loopg [7,9,36] 8 (λkk v _ t wr=>∃i:Nat,i+kk=8/\t=.int .i64 i/\v=.int .u64 ((a9g (V.take i):Nat):Int)/\wr=w6);exact⟨0,by omega,rfl,rfl,rfl⟩;obtain⟨i,hi,rfl,rfl,rfl⟩:=hrel
   by_cases h8:i<8
   ·have aK:(i:Int)<8:=ρo
    obtain⟨x,hx⟩:∃x,V[i]? =some x:=⟨V[i]'(by rw[aB.o];omega),by simp⟩;have aS:=au.o x (Zy hx);obtain⟨X,rfl⟩:∃X:Nat,x=(X:Int):=⟨x.toNat,by omega⟩
    have aO:wr.cell? ⟨D,i,none⟩=some (.int .u8 X):=by
     rw[af.cell i];simp only[QE];rw[a3J,hx]
     rfl
    have ac:=b2X (V.take i) (λy hy=>au.o y (QM hy));have ai:256 ^ (V.take i).length<=256 ^ 7:=Nat.pow_le_pow_right ρo (by rw[Qx];omega)
    have ax:a9g (V.take (i+1))=a9g (V.take i)*256+X:=by
     have hl:i<V.length:=by rw[aB.o];omega
     rw[Qe hl,a8E];rw[QN hl]at hx;rw[Option.some.inj hx,Zd]
    generalize hv:a9g (V.take i)=v at ac ax⊢
    have aT:v<72057594037927936:=Qh ac (by rw[show(72057594037927936:Nat)=256 ^ 7 from rfl];exact ai)
    have aN:bits .or .u64 ((v:Int)*256) (X:Int)=((v*256+X:Nat):Int):=by
     have e:=c1d v X ρo ρo
     rwa [Int.natCast_mul]at e
    have aF:=η1 ax;clear ac ai ax hv hx;go_wp2;go_roundg (8-(i+1));exact⟨i+1,by omega,by go_num,by rw[aF.o];go_num,rfl⟩;omega
   obtain rfl:i=8:=ρo;have aK:¬(((8:Nat):Int)<8):=ρo;obtain⟨N,rfl⟩:∃N:Nat,n=(N:Int):=⟨n.toNat,by omega⟩;have ac:=b2X (V.take 8) (λy hy=>au.o y (QM hy));have ai:256 ^ (V.take 8).length<=256 ^ 8:=Nat.pow_le_pow_right ρo (by rw[Qx];omega)
   generalize hv:a9g (V.take 8)=v at ac⊢
   have aR:(v:Int)<=18446744073709551615:=by
    have:v<256 ^ 8:=Qh ac ai
    omega
   have aP:((N:Int) == 0)=false:=by simp;omega
   have aM:wrap64 ((v:Int) % (N:Int))=(v:Int) % (N:Int):=by
    have e1:=Int.emod_nonneg (v:Int) (show(N:Int)≠0 by omega);have e2:=Int.emod_lt_of_pos (v:Int) (show(0:Int)<(N:Int) by omega);unfold wrap64;omega
   have aG:=η1 hv;clear ac ai hv;go_wp2;go_ret2;exact⟨by rw[HV.o,aG.o];rfl,an.o⟩
 have ak:ofO tx ix n=0:=by unfold ofO;rw[if_neg U]
 have hk:okO ix n=false:=ρw U;rw[ak,hk]
 have aI:n<1\/64<n\/ix<0\/16<=ix:=by
  unfold okO at U;simp only[decide_eq_true_eq]at U;omega
 clear U ak hk
 by_cases n1:n<1
 ·go_enter func160,ntmps160
  go_upto_region 1 with fail
  rw[HW.o,ag.o];go_wp2;go_ret2;exact⟨rfl,BB.o⟩
 by_cases n2:64<n
 ·go_enter func160,ntmps160
  go_upto_region 1 with fail
  rw[HW.o,ag.o];go_wp2;go_ret2;exact⟨rfl,BB.o⟩
 by_cases n3:ix<0
 ·go_enter func160,ntmps160
  go_upto_region 1 with fail
  rw[HW.o,ag.o];go_wp2;go_ret2;exact⟨rfl,BB.o⟩
 have n4:16<=ix:=ρo;clear aI;go_enter func160,ntmps160;go_upto_region 1 with fail
 rw[HW.o,ag.o];go_wp2;go_ret2;exact⟨rfl,BB.o⟩
end
end
def a4K(most:Nat):LI->Except Int (Nat×LI)
 | []=>.error 2
 | k::tl=>if 8<k.toNat then .error 3 else if tl.length<k.toNat then .error 2 else if 0<k.toNat/\tl.headD 1=0 then .error 3 else if most<a9g (tl.take k.toNat)then .error 5 else .ok (a9g (tl.take k.toNat),tl.drop k.toNat)
def a5L(most:Nat)(l:LI):Except Int (LI×LI):=
 match a4K most l with
 | .error x=>.error x
 | .ok (n,r)=>if r.length<n then .error 2 else .ok (r.take n,r.drop n)
def a8k(l:LI):Except Int (LI×LI):=if l.length<32 then .error 2 else .ok (l.take 32,l.drop 32)
theorem a5l{p:Nat×LI}:a4K most l=.ok p↔a2J most l=some p:=by
 cases l with
 | nil=>simp[a4K,a2J]
 |
  cons k a=>
  simp only[a4K,a2J]
  by_cases f:8<k.toNat
  ·rw[if_pos f,if_pos (.inl f)];simp
  rw[if_neg f]
  by_cases b:a.length<k.toNat
  ·rw[if_pos b,if_pos (.inr (.inl b))];simp
  rw[if_neg b]
  by_cases g:0<k.toNat/\a.headD 1=0
  ·rw[if_pos g,if_pos (.inr (.inr (.inl g)))];simp
  rw[if_neg g]
  by_cases d:most<a9g (a.take k.toNat)
  ·rw[if_pos d,if_pos (.inr (.inr (.inr d)))];simp
  rw[if_neg d,if_neg (by rintro(h | h | h | h)<;>contradiction)];simp
theorem c1u(h:a4K most l=.error x):(x != 0)=true/\(x == 0)=false:=by
 cases l with
 | nil=>simp only[a4K,Except.error.injEq]at h;subst h;exact⟨rfl,rfl⟩
 |
  cons k a=>
  simp only[a4K]at h
  split at h
  ·cases h;exact⟨rfl,rfl⟩
  split at h
  ·cases h;exact⟨rfl,rfl⟩
  split at h
  ·cases h;exact⟨rfl,rfl⟩
  split at h
  ·cases h;exact⟨rfl,rfl⟩
  cases h
structure InD where
 tx:LI
 ix:Int
 am:Int
 sec:LI
structure a1q where
 ow:LI
 am:Int
structure TxD where
 ins:List InD
 outs:List a1q
 fee:Int
 exp:Int
instance:Inhabited InD:=⟨⟨[],0,0,[]⟩⟩
instance:Inhabited a1q:=⟨⟨[],0⟩⟩
structure InD.Bd(i:InD):Prop where
 len:i.tx.length=32
 tx:∀x∈i.tx,0<=x/\x<=255
 ix:-9223372036854775808<=i.ix/\i.ix<=9223372036854775807
 am:0<=i.am/\i.am<=18446744073709551615
 sec:∀x∈i.sec,0<=x/\x<=255
structure a1q.Bd(o:a1q):Prop where
 len:o.ow.length=32
 ow:∀x∈o.ow,0<=x/\x<=255
 am:0<=o.am/\o.am<=18446744073709551615
structure TxD.Bd(t:TxD):Prop where
 ins:∀i∈t.ins,i.Bd
 outs:∀o∈t.outs,o.Bd
 fee:0<=t.fee/\t.fee<=18446744073709551615
 exp:-9223372036854775808<=t.exp/\t.exp<=9223372036854775807
def a7J(i:InD):Bool:=decide (64<i.sec.length)||!decide (0<=i.ix/\i.ix<=15)
def b1z(t:TxD):Bool:=!decide (1<=t.ins.length/\t.ins.length<=16)||(!decide (1<=t.outs.length/\t.outs.length<=16)||(!decide (0<=t.exp/\t.exp<=1099511627776)||t.ins.any a7J))
def b6v(l:List InD):List (LI×Int):=l.map λi=>(i.tx,i.ix)
def a8D(l:List InD):Bool:=!decide (b6v l).Nodup
def c7X(t:TxD):Bool:=(t.ins.map (·.am)).contains 0||(t.outs.map (·.am)).contains 0
def b8L(t:TxD):Int:=
 if(b3O 0 (t.ins.map (·.am))).2≠0 then(b3O 0 (t.ins.map (·.am))).2
 else if(b3O 0 (t.outs.map (·.am)++[t.fee])).2≠0 then(b3O 0 (t.outs.map (·.am)++[t.fee])).2
 else if(b3O 0 (t.ins.map (·.am))).1≠(b3O 0 (t.outs.map (·.am)++[t.fee])).1 then 9 else 0
def a1a(t:TxD):Int:=if b1z t then 4 else if a8D t.ins then 7 else if c7X t then 8 else b8L t
theorem c3B(t:TxD):0<=b8L t/\b8L t<=9:=by
 unfold b8L;have a:=b5c (t.ins.map (·.am)) 0;have b:=b5c (t.outs.map (·.am)++[t.fee]) 0
 split
 ·omega
 split
 ·omega
 split<;>omega
theorem c3e(t:TxD):0<=a1a t/\a1a t<=9:=by
 unfold a1a
 have:=c3B t
 split
 ·omega
 split
 ·omega
 split<;>omega
def inF(i:InD):LI:=i.tx++(a0K i.ix.toNat++(a0K i.am.toNat++(a0K i.sec.length++i.sec)))
def b3j(o:a1q):LI:=o.ow++a0K o.am.toNat
def a9w(t:TxD):LI:=a0K t.ins.length++t.ins.flatMap inF++a0K t.outs.length++t.outs.flatMap b3j++a0K t.fee.toNat++a0K t.exp.toNat
def b3c(t:TxD):LI:=if a1a t=0 then a9w t else []
def idP(t:TxD):LI:=if a1a t=0 then a1K 8 [a9w t]else List.replicate 32 0
theorem a3b(t:TxD):(idP t).length=32:=by
 unfold idP
 split
 ·exact a5y _ _
 simp
theorem a5f(t:TxD):∀x∈idP t,0<=x/\x<=255:=by
 unfold idP
 split
 ·exact b0Z _ _
 intro x a
 have:=Zf a
 omega
theorem a4S{t:TxD}(h:a1a t=0):b1z t=false/\a8D t.ins=false/\c7X t=false/\b8L t=0:=by
 unfold a1a at h
 split at h
 ·simp at h
 split at h
 ·simp at h
 split at h
 ·simp at h
 simp_all
theorem a4R{t:TxD}(h:b1z t=false):(1<=t.ins.length/\t.ins.length<=16)/\(1<=t.outs.length/\t.outs.length<=16)/\(0<=t.exp/\t.exp<=1099511627776)/\∀i∈t.ins,i.sec.length<=64/\0<=i.ix/\i.ix<=15:=by
 unfold b1z at h;simp only[Bool.or_eq_false_iff,Bool.not_eq_false',decide_eq_true_eq,List.any_eq_false]at h;refine⟨h.1,h.2.1,h.2.2.1,λi hi=>?_⟩
 have:=h.2.2.2 i hi
 unfold a7J at this;simp only[Bool.or_eq_true,decide_eq_true_eq,Bool.not_eq_true',not_or,decide_eq_false_iff_not,Classical.not_not]at this;omega
theorem a0p(h:n<18446744073709551616):(a0K n).length<=9:=by
 have:=a8J h
 rw[b7k];omega
theorem b9S{i:InD}(h:i.Bd)(a:i.sec.length<=64)(b:0<=i.ix/\i.ix<=15):(inF i).length<=123:=by
 unfold inF;have d:=a0p (n:=i.ix.toNat) ρo;have f:=a0p (n:=i.am.toNat) (ρh h.am);have g:=a0p (n:=i.sec.length) ρo
 have:=h.len
 simp only[Qa];omega
theorem b7X{o:a1q}(h:o.Bd):(b3j o).length<=41:=by
 unfold b3j;have a:=a0p (n:=o.am.toNat) (ρh h.am)
 have:=h.len
 simp only[Qa];omega
theorem b0V{α:Type}(f:α->LI)(m:Nat):∀(l:List α) (_:∀x∈l,(f x).length<=m),(l.flatMap f).length<=l.length*m
 | [],_=>by simp
 |
  x::l,h=>by
  have h1:=b0V f m l (λy hy=>h y (by simp[hy]));have h2:=h x ρp;simp only[List.flatMap_cons,Qa,Qy,Yb,Nat.one_mul];omega
theorem b2t{t:TxD}(a:t.Bd)(h:b1z t=false):(a9w t).length<=2660:=by
 obtain⟨g,f,x,b⟩:=a4R h;have m:=b0V inF 123 t.ins (λi hi=>b9S (a.ins i hi) (b i hi).1 (b i hi).2);have j:=b0V b3j 41 t.outs (λo d=>b7X (a.outs o d));have v:=a0p (n:=t.ins.length) ρo;have r:=a0p (n:=t.outs.length) ρo;have y:=a0p (n:=t.fee.toNat) (ρh a.fee);have z:=a0p (n:=t.exp.toNat) ρo;have w:t.ins.length*123<=16*123:=Zb _ g.2;have p:t.outs.length*41<=16*41:=Zb _ f.2;unfold a9w;simp only[Qa];omega
theorem a1I{a b:LI}(d:∀x∈a,0<=x/\x<=255)(f:∀x∈b,0<=x/\x<=255):∀x∈a++b,0<=x/\x<=255:=λx hx=>(Qq.1 hx).elim (d x) (f x)
theorem d0r{i:InD}(h:i.Bd)(a:i.sec.length<=64)(b:0<=i.ix/\i.ix<=15):∀x∈inF i,0<=x/\x<=255:=
 a1I h.tx (a1I (a0L ρo) (a1I (a0L (ρh h.am)) (a1I (a0L ρo) h.sec)))
theorem c8u{o:a1q}(h:o.Bd):∀x∈b3j o,0<=x/\x<=255:=a1I h.ow (a0L (ρh h.am))
theorem b4h{t:TxD}(a:t.Bd)(h:b1z t=false):∀x∈a9w t,0<=x/\x<=255:=by
 obtain⟨p,m,r,d⟩:=a4R h
 have j:∀x∈t.ins.flatMap inF,0<=x/\x<=255:=λx b=>by
  obtain⟨i,hi,b⟩:=List.mem_flatMap.1 b;exact d0r (a.ins i hi) (d i hi).1 (d i hi).2 x b
 have f:∀x∈t.outs.flatMap b3j,0<=x/\x<=255:=λx b=>by
  obtain⟨o,g,b⟩:=List.mem_flatMap.1 b;exact c8u (a.outs o g) x b
 exact a1I (a1I (a1I (a1I (a1I (a0L ρo) j) (a0L ρo)) f) (a0L (ρh a.fee))) (a0L ρo)
def okN(n:Int):Bool:=decide (1<=n/\n<=64)
def a2P(t:TxD)(n:Int):LI:=if a1a t=0/\okN n=true then t.ins.map λi=>ofO i.tx i.ix n else []
def a2K(t:TxD)(n:Int):LI:=if a1a t=0/\okN n=true then(List.range t.outs.length).map λk=>ofO (idP t) (k:Nat) n else []
def a2V(l:LI):LI:=((List.range 64).map λ(k:Nat)=>(k:Int)).filter λv=>l.contains v
def a0M(l:LI)(v:Int):LI:=((List.range l.length).filter λi=>l.getD i 0 == v).map λ(k:Nat)=>(k:Int)
theorem c6e(tx:LI)(ix n:Int)(h:okN n=true):0<=ofO tx ix n/\ofO tx ix n<n/\n<=64:=by
 have a:1<=n/\n<=64:=by simpa[okN]using h
 unfold ofO
 split
 ·exact⟨Int.emod_nonneg _ ρo,Int.emod_lt_of_pos _ ρo,a.2⟩
 omega
theorem c0g(t:TxD)(n:Int):∀x∈a2P t n,0<=x/\x<n/\n<=64:=by
 unfold a2P
 split
 ·rename_i h
  intro x a;obtain⟨i,_,rfl⟩:=Qs.1 a;exact c6e _ _ n h.2
 simp
theorem c4v(t:TxD)(n:Int):∀x∈a2K t n,0<=x/\x<n/\n<=64:=by
 unfold a2K
 split
 ·rename_i h
  intro x a;obtain⟨i,_,rfl⟩:=Qs.1 a;exact c6e _ _ n h.2
 simp
section
attribute [local go_sem ↓] a2t a2s a2n a3n b0R
def Wds(w:WD)(A:OA)(l:LI):Prop:=∃g o,A=some ⟨g,o,none⟩/\g<w.heap.size/\∀i,i<l.length->w.cell? ⟨g,o+i,none⟩=some (.int .u32 (l.getD i 0))
theorem Wds.below{b:WD}(h:Wds w A l)(d:Below n₀ w b)(f:∀a,A=some a->a.block<n₀):Wds b A l:=by
 obtain⟨g,o,rfl,m,r⟩:=h;have j:g<n₀:=f ⟨g,o,none⟩ rfl;exact⟨g,o,rfl,Qh m d.size,λi hi=>(d.cell (p:=⟨g,o+i,none⟩) j).trans (r i hi)⟩
end
structure a1P where
 kind:Int
 sh:Int
 tx:LI
 am:Int
 why:Int
 ep:Int
structure a0Q where
 sh:Int
 ht:Int
 ep:Int
 prev:LI
 root:LI
structure a0y where
 e:a1P
 path:LL
 h:a0Q
 tag:LI
instance:Inhabited a1P:=⟨⟨0,0,[],0,0,0⟩⟩
instance:Inhabited a0Q:=⟨⟨0,0,0,[],[]⟩⟩
instance:Inhabited a0y:=⟨⟨default,[],default,[]⟩⟩
def Dig(l:LI):Prop:=l.length=32/\∀x∈l,0<=x/\x<=255
def InI(n:Int):Prop:=-9223372036854775808<=n/\n<=9223372036854775807
structure a1P.Bd(e:a1P):Prop where
 kind:InI e.kind
 sh:InI e.sh
 tx:Dig e.tx
 am:0<=e.am/\e.am<=18446744073709551615
 why:InI e.why
 ep:InI e.ep
structure a0Q.Bd(h:a0Q):Prop where
 sh:InI h.sh
 ht:InI h.ht
 ep:InI h.ep
 prev:Dig h.prev
 root:Dig h.root
structure a0y.Bd(c:a0y):Prop where
 e:c.e.Bd
 path:∀d∈c.path,Dig d
 h:c.h.Bd
 tag:Dig c.tag
def a0D(e:a1P):Bool:=decide (1<=e.kind)&&(decide (e.kind<=3)&&(decide (0<=e.sh)&&(decide (e.sh<=63)&&(decide (e.am<=4611686018427387904)&&(decide (0<=e.why)&&(decide (e.why<=63)&&(decide (0<=e.ep)&&decide (e.ep<=1099511627776))))))))
def a0w(h:a0Q):Bool:=decide (0<=h.sh)&&(decide (h.sh<=63)&&(decide (1<=h.ht)&&(decide (h.ht<=1099511627776)&&(decide (0<=h.ep)&&decide (h.ep<=1099511627776)))))
theorem b2B(e:a1P):a0D e=true↔(1<=e.kind/\e.kind<=3)/\(0<=e.sh/\e.sh<=63)/\e.am<=4611686018427387904/\(0<=e.why/\e.why<=63)/\0<=e.ep/\e.ep<=1099511627776:=by
 unfold a0D;simp only[QA,decide_eq_true_eq]
 constructor
 ·rintro⟨a,b,c,d,e,f,g,h,i⟩;exact⟨⟨a,b⟩,⟨c,d⟩,e,⟨f,g⟩,h,i⟩
 rintro⟨⟨a,b⟩,⟨c,d⟩,e,⟨f,g⟩,h,i⟩;exact⟨a,b,c,d,e,f,g,h,i⟩
theorem a3B(h:a0Q):a0w h=true↔(0<=h.sh/\h.sh<=63)/\(1<=h.ht/\h.ht<=1099511627776)/\0<=h.ep/\h.ep<=1099511627776:=by
 unfold a0w;simp only[QA,decide_eq_true_eq]
 constructor
 ·rintro⟨a,b,c,d,e,f⟩;exact⟨⟨a,b⟩,⟨c,d⟩,e,f⟩
 rintro⟨⟨a,b⟩,⟨c,d⟩,e,f⟩;exact⟨a,b,c,d,e,f⟩
def a5V(e:a1P):LI:=a0K e.kind.toNat++a0K e.sh.toNat++e.tx++a0K e.am.toNat++a0K e.why.toNat++a0K e.ep.toNat
def a2a(h:a0Q):LI:=a0K h.sh.toNat++a0K h.ht.toNat++a0K h.ep.toNat++h.prev++h.root
def a0R(b:LI):LI:=a1K 1 [b]
def a1n(a b:LI):LI:=a1K 2 [a,b]
theorem Dig.under(m:Int)(L:LL):Dig (a1K m L):=⟨a5y m L,b0Z m L⟩
theorem Dig.leaf(b:LI):Dig (a0R b):=Dig.under _ _
theorem Dig.node(a b:LI):Dig (a1n a b):=Dig.under _ _
theorem Dig.sha(b:LI):Dig (a3x b):=⟨a5Y b,c2U b⟩
theorem Dig.zero:Dig (List.replicate 32 0):=⟨by simp,λx hx=>by have:=Zf hx;omega⟩
abbrev ZZ:=@Dig.zero
def d0A(k:LI):LI:=if 64<k.length then a3x k else k
def a7V(k:LI):LI:=d0A k++List.replicate (64-(d0A k).length) 0
def a2L(y:Int)(l:LI):LI:=l.map λx=>bits .xor .u8 x y
def b0H(k b:LI):LI:=a3x (a2L 92 (a7V k)++a3x (a2L 54 (a7V k)++b))
theorem c4b(k:LI):(d0A k).length<=64:=by
 unfold d0A
 split
 ·rw[a5Y];omega
 omega
theorem b0g(k:LI):(a7V k).length=64:=by
 have:=c4b k
 unfold a7V;rw[Qa,List.length_replicate];omega
theorem Dig.mac(k b:LI):Dig (b0H k b):=Dig.sha _
def a7C(seed:LI)(sh:Int)(b:LI):LI:=b0H (b0H seed [sh]) b
def isP(seed:LI)(n:Int)(c:a0y):Bool:=
 a0D c.e&&(a0w c.h&&(decide (c.e.sh=c.h.sh)&&(decide (c.e.ep=c.h.ep)&&(decide (c.path.length=2)&&(decide (c.h.sh<n)&&
  (decide (a1n (a1n (c.path.getD 0 []) (a0R (a5V c.e))) (c.path.getD 1 [])=c.h.root)&&decide (c.tag=a7C seed c.h.sh (a2a c.h))))))))
def a6B(t:TxD)(n s:Int):Int:=((a0M (a2P t n) s).map λk=>(t.ins.getD k.toNat default).am).foldl (λa b=>IntKind.u64.wrap (a+b)) 0
def b4x(seed:LI)(t:TxD)(n:Int)(s:Int)(c:a0y):Bool:=
 isP seed n c&&(decide (c.e.kind=1)&&(decide (c.e.sh=s)&&(decide (c.e.tx=idP t)&&decide (c.e.am=a6B t n s))))
def b6w(seed:LI)(t:TxD)(n:Int):LI->List a0y->Bool
 | s::S,c::L=>b4x seed t n s c&&b6w seed t n S L
 | _,_=>true
def b6j(seed:LI)(t:TxD)(n:Int)(l:List a0y):Int:=
 if¬(1<=n/\n<=64)then 1 else if a1a t≠0 then a1a t else if l.length≠(a2V (a2P t n)).length then 27 else if b6w seed t n (a2V (a2P t n)) l then 0 else 16
def b5g(seed:LI)(t:TxD)(n:Int)(c:a0y):Bool:=
 isP seed n c&&(decide (c.e.kind=2)&&(decide (c.e.tx=idP t)&&(a2V (a2P t n)).contains c.e.sh))
def d1D(seed:LI)(t:TxD)(n:Int)(l:List a0y):Int:=
 if¬(1<=n/\n<=64)then 1 else if a1a t≠0 then a1a t else if l.length≠1 then 27 else if b5g seed t n (l.getD 0 default)then 0 else 16
theorem a9A:∀(a b:LI),a.Pairwise (· < ·)->b.Pairwise (· < ·)->(∀x,x∈a↔x∈b)->a=b
 | [],[],_,_,_=>rfl
 | [],y::b,_,_,h=>absurd ((h y).2 ρp) ρp
 | x::a,[],_,_,h=>absurd ((h x).1 ρp) ρp
 |
  x::a,y::b,ha,hb,h=>by
  obtain⟨ha1,ha2⟩:=List.pairwise_cons.1 ha;obtain⟨hb1,hb2⟩:=List.pairwise_cons.1 hb
  have hxy:x=y:=by
   have j:=(h x).1 ρp;have g:=(h y).2 ρp
   rcases Qo.1 j with e | e
   ·exact e
   rcases Qo.1 g with d | d
   ·exact d.symm
   have:=hb1 x e
   have:=ha1 y d
   omega
  subst hxy
  rw[a9A a b ha2 hb2 (λz=>by
   have f:=h z;simp only[Qo]at f
   constructor
   ·intro m
    rcases f.1 (.inr m)with e | e
    ·subst e;have:=ha1 z m;omega
    exact e
   intro m
   rcases f.2 (.inr m)with e | e
   ·subst e;have:=hb1 z m;omega
   exact e)]
theorem a4I(d:Array Int)(x:Int):∀m,x∈Lib.compactUpTo d m↔∃j,j<m/\d[j]! =x
 | 0=>by simp[Lib.compactUpTo]
 |
  m+1=>by
  rw[Lib.compactUpTo_succ,Qq,a4I d x m]
  constructor
  ·rintro(⟨j,hj,e⟩ | h)
   ·exact⟨j,by omega,e⟩
   split at h
   ·exact⟨m,by omega,(by simpa using h:x=d[m]!).symm⟩
   simp at h
  rintro⟨j,hj,e⟩
  by_cases hm:j<m
  ·exact .inl ⟨j,hm,e⟩
  obtain rfl:j=m:=by omega
  by_cases b:Lib.keeps d j=true
  ·exact .inr (by simp[b,e])
  have a:¬(j=0\/d[j]! ≠d[j-1]!):=by simpa[Lib.keeps]using b
  have g:j≠0:=λe=>a (.inl e)
  have f:d[j]! =d[j-1]! :=by
   by_cases e:d[j]! =d[j-1]!
   ·exact e
   exact absurd (.inr e) a
  exact .inl ⟨j-1,by omega,by rw[<-f,e]⟩
theorem a6r(d:Array Int)(h:∀i j,i<=j->j<d.size->d[i]! <=d[j]!):∀m,m<=d.size->(Lib.compactUpTo d m).Pairwise (· < ·)
 | 0,_=>by simp[Lib.compactUpTo]
 |
  m+1,hm=>by
  rw[Lib.compactUpTo_succ,List.pairwise_append];refine⟨a6r d h m ρo,by split<;>simp,λa ha b hb=>?_⟩
  split at hb
  ·rename_i hk
   obtain rfl:b=d[m]! :=ρw hb;obtain⟨j,hj,rfl⟩:=(a4I d a m).1 ha;have hk':m=0\/d[m]! ≠d[m-1]! :=by simpa[Lib.keeps]using hk
   have f:=h j (m-1) ρo ρo;have g:=h (m-1) m ρo ρo;have o:d[m]! ≠d[m-1]! :=hk'.resolve_left ρo;omega
  simp at hb
theorem b1H(h:l.Pairwise (· <= ·)):(Lib.compact l).Pairwise (· < ·):=by
 refine a6r l.toArray (λi j d b=>?_) l.length ρp;have a:j<l.length:=ρw b
 by_cases e:i=j
 ·subst e;exact Int.le_refl _
 have:=ZV.1 h i j ρo a ρo
 simpa[getElem!_pos,a,show i<l.length by omega]using this
theorem b5L(x:Int):x∈Lib.compact l↔x∈l:=by
 unfold Lib.compact;rw[a4I,List.mem_iff_getElem]
 constructor
 ·rintro⟨j,a,e⟩
  exact⟨j,a,by simpa[getElem!_pos,a]using e⟩
 rintro⟨j,a,e⟩;exact⟨j,a,by simpa[getElem!_pos,a]using e⟩
theorem b8z(l:LI):(a2V l).Pairwise (· < ·):=by
 unfold a2V;refine List.Pairwise.filter _ ?_;rw[Yk];exact List.pairwise_lt_range.imp (fun{a b} h=>ρo)
theorem c3l(l:LI)(x:Int):x∈a2V l↔x∈l/\0<=x/\x<64:=by
 unfold a2V;simp only[ZD,Qs,ZU,List.contains_iff_mem]
 constructor
 ·rintro⟨⟨k,a,rfl⟩,h⟩
  exact⟨h,by omega,by omega⟩
 rintro⟨h,d,b⟩;exact⟨⟨x.toNat,by omega,by omega⟩,h⟩
theorem c7c(h:∀x∈l,0<=x/\x<64):Lib.compact (l.mergeSort λx y=>decide (x<=y))=a2V l:=by
 have f:(l.mergeSort λx y=>decide (x<=y)).Pairwise (· <= ·):=
  (List.pairwise_mergeSort (le:=λ(x y:Int)=>decide (x<=y)) (λa b c j g=>by simp at*;omega) (λa b=>by simp;omega) l).imp (fun{a b} h=>by simpa using h)
 refine a9A _ _ (b1H f) (b8z l) (λx=>?_);rw[b5L,c3l,List.mem_mergeSort]
 constructor
 ·intro d
  exact⟨d,h x d⟩
 intro d;exact d.1
theorem b4i(l:LI):(a2V l).length<=64:=by
 unfold a2V;exact Qk (ZX _ _) ρp
theorem c2X:a2V []=[]:=by
 unfold a2V
 simp
theorem a3I(l:LI)(v x:Int):x∈a0M l v↔∃i:Nat,x=(i:Int)/\l[i]? =some v:=by
 unfold a0M;simp only[Qs,ZD,ZU,beq_iff_eq]
 constructor
 ·rintro⟨i,⟨hi,h⟩,rfl⟩
  exact⟨i,rfl,by rw[<-h];simp[List.getD,hi]⟩
 rintro⟨i,rfl,h⟩;obtain⟨hi,e⟩:=Qm.1 h;exact⟨i,⟨hi,by simp[List.getD,hi,e]⟩,rfl⟩
theorem b5P(v:Int):a0M [] v=[]:=rfl
theorem b5x(l:LI)(x v:Int):a0M (l++[x]) v=a0M l v++(if x=v then [(l.length:Int)]else []):=by
 unfold a0M;rw[Qa,ZB,List.range_succ,List.filter_append,QV]
 congr 1
 ·congr 1
  refine List.filter_congr (λi hi=>?_)
  have:=ZU.1 hi
  simp[List.getD,QO this]
 by_cases h:x=v
 ·subst h;simp
 simp[h]
theorem a1V(l:LI)(v:Int):(a0M l v).length<=l.length:=by
 unfold a0M;rw[Qw];exact Qk (ZX _ _) ρp
section
section
section
theorem Wds.blk(h:Blk w g t (a2d l).toArray):Wds w g l:=by
 refine⟨g,0,rfl,h.lt,λi hi=>?_⟩;rw[QP,h.cell i];simp[a2d,List.getD,hi]
attribute [local go_sem ↓] a2t a2s a2n
attribute [local go_sem ↓] a3n
end
end
section
section
attribute [local go_sem ↓] a3n d0s
theorem b3d{B':Nat}{m:LI}(h:a0N B w v l)(b:a0N B' w (.slice A m.length c) m)(d:∀x∈m,0<=x/\x<=255)(a:l.length+m.length<=1000000000)(f:B<=w.heap.size):
  ∃v' w',(APs #[22,22] ty #[v,.slice A m.length c]).run prog w=.ok v' w'/\a0N B w' v' (l++m)/\Fr (λk=>v.ownBlock=some k) w w'/\a7W w v v':=by
 obtain⟨z,r,e,p,_,y⟩:=b.byt d;simp only[Value.slice.injEq,true_and]at e;obtain⟨rfl,rfl⟩:=e;refine c3v h p (Qk a ρo) f (λe=>?_);subst e;obtain⟨_,⟨j,_⟩ | ⟨g,cap,o,j,_⟩⟩:=b
 ·simp only[Value.slice.injEq]at j
  exact j.2.2
 simp at j
theorem a0N.nul(h:a0N B w (.slice none n c) l):c=0:=by
 obtain⟨_,⟨a,_⟩ | ⟨g,cap,b,a,_⟩⟩:=h
 ·simp only[Value.slice.injEq]at a
  exact a.2.2
 simp at a
end
end
end
def inV(i:InD)(A:OA)(c:Nat):LV:=ptL i.tx i.ix++[.int .u64 i.am,.slice A i.sec.length c]
theorem a3l{i:InD}(h:i.Bd)(A:OA)(c:Nat):(inV i A c).length=35:=by
 simp[inV,a1x h.len]
theorem a2p(tx:LI)(ix:Int):∀v∈ptL tx ix,v.oneCell'=true:=by
 intro v a
 rcases Qq.1 a with h | h
 ·exact a0h _ v h
 simp only[Qn]at h;subst h;rfl
theorem a8W(i:InD)(A:OA)(c:Nat):∀v∈inV i A c,v.oneCell'=true:=by
 intro v a
 rcases Qq.1 a with h | h
 ·exact a2p _ _ v h
 simp only[Qo,Qt,or_false]at h
 rcases h with rfl | rfl<;>rfl
def a1s(o:a1q):LV:=bys o.ow++[.int .u64 o.am]
theorem a0G{o:a1q}(h:o.Bd):(a1s o).length=33:=by simp[a1s,a0a,h.len]
theorem a1O(o:a1q):∀v∈a1s o,v.oneCell'=true:=by
 intro v a
 rcases Qq.1 a with h | h
 ·exact a0h _ v h
 simp only[Qn]at h;subst h;rfl
structure d1B(w:WD)(g o:Nat)(A:OA)(c:Nat)(i:InD):Prop where
 cell:∀j x,(inV i A c)[j]? =some x->w.cell? ⟨g,o+j,none⟩=some x
 sec:Byt w A i.sec
 cap:i.sec.length<=c
 nul:A=none->c=0
 max:i.sec.length<=maxLen
def b4z(w:WD)(A:OA)(l:List InD):Prop:=∀j (h:j<l.length),∃g off B c,A=some ⟨g,off,none⟩/\g<w.heap.size/\d1B w g (off+j*35) B c l[j]
def b4c(w:WD)(A:OA)(l:List a1q):Prop:=∀j (h:j<l.length),∃g off,A=some ⟨g,off,none⟩/\g<w.heap.size/\∀k x,(a1s l[j])[k]? =some x->w.cell? ⟨g,off+j*33+k,none⟩=some x
theorem d1B.below{w a:WD}{g o:Nat}{A:OA}{c:Nat}{i:InD}(h:d1B w g o A c i)(d:g<w.heap.size)(b:Below w w a):d1B a g o A c i:=
 ⟨λj x hx=>(b.cell (p:=⟨g,o+j,none⟩) d).trans (h.cell j x hx),h.sec.below b,h.cap,h.nul,h.max⟩
theorem b4z.below{w a:WD}{A:OA}{l:List InD}(h:b4z w A l)(b:Below w w a):b4z a A l:=λj hj=>by
 obtain⟨g,off,B,c,e,hg,hi⟩:=h j hj;exact⟨g,off,B,c,e,Qh hg b.size,hi.below hg b⟩
theorem b4c.below{l:List a1q}(h:b4c w A l)(b:Below w w a):b4c a A l:=λj hj=>by
 obtain⟨g,off,e,hg,hi⟩:=h j hj;exact⟨g,off,e,Qh hg b.size,λk x hx=>(b.cell (p:=⟨g,off+j*33+k,none⟩) hg).trans (hi k x hx)⟩
def txV(A1:OA)(c1:Nat)(A2:OA)(c2:Nat)(t:TxD):AV:=#[.slice A1 t.ins.length c1,.slice A2 t.outs.length c2,.int .u64 t.fee,.int .i64 t.exp]
structure a9H(w:WD)(A1 A2:OA)(t:TxD):Prop where
 ins:b4z w A1 t.ins
 outs:b4c w A2 t.outs
 bd:t.Bd
theorem a9H.below{w a:WD}{b d:OA}{t:TxD}(h:a9H w b d t)(f:Below w w a):a9H a b d t:=⟨h.ins.below f,h.outs.below f,h.bd⟩
abbrev a6W:=ldOf 191
abbrev a8U:=stOf 191
abbrev a9c:=alOf 191
abbrev a9R:=ldOf 56
abbrev b0o:=stOf 56
abbrev b0b:=alOf 56
abbrev a1F:=ldOf 189
theorem uIn:(prog.underlying 191).map a1f=some true:=ρk
theorem iIn:(prog.info? 191).map (·.size)=some 35:=ρk
theorem zIn:(((prog.info? 191).bind (·.zero)).map (·.cells.size))=some 35:=ρk
theorem d1I:(prog.underlying 56).map a1f=some true:=ρk
theorem c6h:(prog.info? 56).map (·.size)=some 33:=ρk
theorem d1w:(((prog.info? 56).bind (·.zero)).map (·.cells.size))=some 33:=ρk
theorem uPt:(prog.underlying 189).map a1f=some true:=ρk
theorem iPt:(prog.info? 189).map (·.size)=some 33:=ρk
theorem a2e{P:PG}{t:TI}{n:Nat}(a:(P.underlying t).map a1f=some true)(hi:(P.info? t).map (·.size)=some n)(w:WD)(g off:Nat)(xs:LV)(b:xs.length=n)
  (hc:∀j v,xs[j]? =some v->w.cell? ⟨g,off+j,none⟩=some v):(LDs t (.pointer (some ⟨g,off,none⟩))).run P w=.ok (.agg xs.toArray) w:=by
 obtain⟨d,m,f⟩:=Q8.1 a;exact a3R w t d n m f hi g off xs b hc
abbrev Pf:=@a2e prog
theorem a0g{P:PG}{t:TI}{n:Nat}(a:(P.underlying t).map a1f=some true)(hi:(P.info? t).map (·.size)=some n){w:WD}{g off:Nat}{e:TI}{cs:AV}(b:Blk w g e cs)(xs:LV)(f:xs.length=n)
  (hx:(cs.toList.drop off).take n=xs):(LDs t (.pointer (some ⟨g,off,none⟩))).run P w=.ok (.agg xs.toArray) w:=by
 obtain⟨d,m,j⟩:=Q8.1 a;exact a6R m j hi b xs f hx
abbrev P6:=@a0g prog
theorem c6l{P:PG}{t:TI}{n:Nat}(hi:(P.info? t).map (·.size)=some n)(a:(((P.info? t).bind (·.zero)).map (·.cells.size))=some n):
  ∃
   Z:AV,(∀W:WD,(ALs t).run P W=.ok (.pointer (some ⟨W.heap.size,0,none⟩)) (W.alloc (.cells Z t)))/\
   ∀(W:WD) (xs:LV),xs.length=n->(∀v∈xs,v.oneCell'=true)->(STs t (.pointer (some ⟨W.heap.size,0,none⟩)) (.agg xs.toArray)).run P (W.alloc (.cells Z t))=.ok () (W.alloc (.cells xs.toArray t)):=by
 obtain⟨z,b,f⟩:=Q8.1 a;exact⟨z.cells,λW=>a0U z b W,λW xs d b=>a7S hi W _ f xs d b⟩
abbrev Pg:=@c6l prog
theorem a7q(n lo hi:Int)(w:WD):Calls prog 242 #[.int .i64 n,.int .i64 lo,.int .i64 hi] w λe w'=>e=.returned (.bool (decide (lo<=n/\n<=hi)))/\w'=w:=by
 by_cases a:lo<=n
 ·by_cases b:n<=hi
  ·have hd:decide (lo<=n/\n<=hi)=true:=by simp[a,b]
   rw[hd];clear hd;go_enter func242,ntmps242;go_wp2;go_ret;exact⟨rfl,rfl⟩
  have hd:decide (lo<=n/\n<=hi)=false:=by simp[b]
  rw[hd];clear hd;go_enter func242,ntmps242;go_wp2;go_ret;exact⟨rfl,rfl⟩
 have hd:decide (lo<=n/\n<=hi)=false:=by simp[a]
 rw[hd];clear hd;go_enter func242,ntmps242;go_wp2;go_ret;exact⟨rfl,rfl⟩
theorem c0b(i:InD)(a:i.Bd)(A:OA)(c:Nat)(w:WD):
  Calls prog 244 #[.agg (inV i A c).toArray] w λe w'=>e=.returned (.bool (a7J i))/\Below w w w':=by
 have d:=Qd w 191 (inV i A c).toArray;have f:=ρb w (.cells (inV i A c).toArray 191);have⟨W,b⟩:=η0 (w.alloc (.cells (inV i A c).toArray 191));have⟨g,j⟩:=ηs w;rw[b,j]at d;rw[b]at f
 have z:W.cell? ⟨g,32,none⟩=some (.int .i64 i.ix):=by
  rw[d.cell 32];simp[inV,ptL,a0a,a.len]
 have m:W.cell? ⟨g,34,none⟩=some (.slice A i.sec.length c):=by
  rw[d.cell 34];simp[inV,ptL,a0a,a.len]
 have o:=a7q i.ix 0 15 W;have⟨r,p,v⟩:=η3 b j f;unfold a7J;clear b j f d a
 generalize B:i.sec.length=n at m⊢
 clear B
 by_cases h:64<n
 ·have x:(64:Int)<(n:Int):=ρo
  have hd:decide (64<n)=true:=by simp[h]
  rw[hd,Bool.true_or];clear hd;go_enter func244,ntmps244;go_upto_region 1 with fail
  rw[r.o,p.o];go_wp2;go_ret;exact⟨rfl,v.o⟩
 have x:¬(64:Int)<(n:Int):=ρo;have hd:decide (64<n)=false:=by simp[h]
 rw[hd,Bool.false_or]
 generalize y:decide ((0:Int)<=i.ix/\i.ix<=15)=R at o⊢
 clear hd y;go_enter func244,ntmps244;go_upto_region 1 with fail
 rw[r.o,p.o];go_wp2_with fail;refine μf o ?_;go_wp2;go_ret;exact⟨rfl,v.o⟩
structure InW where
 i:InD
 bd:i.Bd
 A:OA
 c:Nat
instance:Inhabited InW:=⟨⟨⟨List.replicate 32 0,0,0,[]⟩,⟨by simp,by intro x hx;have:=Zf hx;omega,by simp,by simp,by simp⟩,none,0⟩⟩
theorem b4z.rows{l:List InD}(h:b4z w A l)(a:∀i∈l,i.Bd)(b:0<l.length):
  ∃g off,A=some ⟨g,off,none⟩/\g<w.heap.size/\∃zs:List InW,zs.map (·.i)=l/\∀j,j<zs.length->∀k v,(inV zs[j]!.i zs[j]!.A zs[j]!.c)[k]? =some v->w.cell? ⟨g,off+j*35+k,none⟩=some v:=by
 obtain⟨g,off,_,_,rfl,D,_⟩:=h 0 b;refine⟨g,off,rfl,D,?_⟩
 have m:∀j:Nat,∃z:InW,∀d:j<l.length,z.i=l[j]/\∀k v,(inV z.i z.A z.c)[k]? =some v->w.cell? ⟨g,off+j*35+k,none⟩=some v:=by
  intro j
  by_cases d:j<l.length
  ·obtain⟨G,r,B,c,e,_,hi⟩:=h j d
   cases e
   exact⟨⟨l[j],a _ (Qu d),B,c⟩,λ_=>⟨rfl,λk v p=>hi.cell k v p⟩⟩
  exact⟨default,λE=>absurd E d⟩
 obtain⟨f,x⟩:=Classical.skolem.1 m;refine⟨(List.range l.length).map f,?_,λj d k v p=>?_⟩
 ·apply ZE
  ·simp
  intro j F y
  simpa using(x j y).1
 have o:j<l.length:=ρw d;have e:((List.range l.length).map f)[j]! =f j:=by simp[getElem!_pos,o]
 rw[e]at p;exact(x j o).2 k v p
theorem aIn(w:WD):(isAgg 191).run prog w=.ok true w:=ρk
theorem sIn(w:WD):(Go.sizeOf 191).run prog w=.ok 35 w:=ρk
theorem d0H(A:OA)(c:Nat)(l:List InD)(a:∀i∈l,i.Bd)(w:WD)(h:b4z w A l)(b:0<l.length)(d:l.length<=1000000000):
  Calls prog 243 #[.slice A l.length c,.func (.func 244) #[] #[]] w λe w'=>e=.returned (.bool (l.any a7J))/\Below w w w':=by
 obtain⟨g,off,rfl,o,f,rfl,p⟩:=h.rows a b;have r:(f.map (·.i)).length=f.length:=by simp
 rw[r]at d⊢
 have:=AnyQ.slices_ContainsFunc Tryz.laysCF 35 aIn sIn (λz:InW=>inV z.i z.A z.c) (λz=>a3l z.bd z.A z.c) (λz=>a7J z.i) 244 #[]
  (enters_of func244 ρk rfl) g off f.length c f w
  (λW x m=>(c0b x.i x.bd x.A x.c W).mono (λe w' j=>⟨j.1,m.trans (j.2.mono m.size)⟩)) (Qg _) ρo o p
 rw[ZF]at this;rw[List.any_map];exact this
theorem b8I(a:OA)(b:Nat)(d:OA)(f:Nat)(t:TxD)(w:WD)(h:a9H w a d t)(j:t.ins.length<=1000000000):
  Calls prog 195 #[.agg (txV a b d f t)] w λe w'=>e=.returned (.bool (b1z t))/\Below w w w':=by
 obtain⟨ins,outs,fee,exp⟩:=t;have D:=Qd w 53 (txV a b d f ⟨ins,outs,fee,exp⟩);have K:=ρb w (.cells (txV a b d f ⟨ins,outs,fee,exp⟩) 53);have o:=λT:0<ins.length=>d0H a b ins h.bd.ins _ (h.ins.below K) T j
 have⟨W,z⟩:=η0 (w.alloc (.cells (txV a b d f ⟨ins,outs,fee,exp⟩) 53));have⟨g,N⟩:=ηs w;rw[z]at o;rw[z,N]at D;rw[z]at K;have q0:W.cell? ⟨g,0,none⟩=some (.slice a ins.length b):=D.cell 0;have q1:W.cell? ⟨g,1,none⟩=some (.slice d outs.length f):=D.cell 1;have X:W.cell? ⟨g,3,none⟩=some (.int .i64 exp):=D.cell 3;have r:=a7q (ins.length:Int) 1 16 W;have y:=a7q (outs.length:Int) 1 16 W;have G:=a7q exp 0 1099511627776 W;unfold txV at z⊢;unfold b1z;simp only at z⊢;have⟨v,H,I⟩:=η3 z N K;clear z N K D h j;have S:decide ((1:Int)<=(ins.length:Int)/\(ins.length:Int)<=16)=decide (1<=ins.length/\ins.length<=16):=by rw[decide_eq_decide];omega
 have Q:decide ((1:Int)<=(outs.length:Int)/\(outs.length:Int)<=16)=decide (1<=outs.length/\outs.length<=16):=by rw[decide_eq_decide];omega
 rw[S]at r;rw[Q]at y;clear S Q
 by_cases J:1<=ins.length/\ins.length<=16
 ·have o:=o ρo
  have m:decide (1<=ins.length/\ins.length<=16)=true:=ρw J;rw[m]at r⊢;clear m J
  generalize U:ins.any a7J=R at o⊢
  clear U
  generalize p:ins.length=V at o q0 r v⊢
  clear p
  by_cases E:1<=outs.length/\outs.length<=16
  ·have m:decide (1<=outs.length/\outs.length<=16)=true:=ρw E
   rw[m]at y⊢;clear m E
   generalize B:outs.length=n2 at q1 y v⊢
   clear B
   by_cases F:0<=exp/\exp<=1099511627776
   ·have m:decide (0<=exp/\exp<=1099511627776)=true:=ρw F
    rw[m]at G⊢;clear m F;rw[show(!true||(!true||(!true||R)))=R from rfl];go_enter func195,ntmps195;go_upto_region 1 with fail
    rw[v.o,H.o];go_wp2_with fail;refine μf r ?_;go_wp2_with fail;refine μf y ?_;go_wp2_with fail;refine μf G ?_;go_wp2_with fail;refine μi o ?_;intro w' P;have O:=η1 (φt I P);clear P;go_wp2;go_ret;exact⟨rfl,O.o⟩
   have m:decide (0<=exp/\exp<=1099511627776)=false:=ρw F;rw[m]at G⊢;clear m F;rw[show(!true||(!true||(!false||R)))=true from rfl];go_enter func195,ntmps195;go_upto_region 1 with fail
   rw[v.o,H.o];go_wp2_with fail;refine μf r ?_;go_wp2_with fail;refine μf y ?_;go_wp2_with fail;refine μf G ?_;go_wp2;go_ret;exact⟨rfl,I.o⟩
  have m:decide (1<=outs.length/\outs.length<=16)=false:=ρw E;rw[m]at y⊢;clear m E
  generalize B:outs.length=n2 at q1 y v⊢
  clear B;rw[show∀x:Bool,(!true||(!false||x))=true from λ_=>rfl];go_enter func195,ntmps195;go_upto_region 1 with fail
  rw[v.o,H.o];go_wp2_with fail;refine μf r ?_;go_wp2_with fail;refine μf y ?_;go_wp2;go_ret;exact⟨rfl,I.o⟩
 have m:decide (1<=ins.length/\ins.length<=16)=false:=ρw J;rw[m]at r⊢;clear m J o;have⟨V,p⟩:=η0 ins.length;rw[p]at q0 r v;rw[p];clear p;rw[show∀x:Bool,(!false||x)=true from λ_=>rfl];go_enter func195,ntmps195;go_upto_region 1 with fail
 rw[v.o,H.o];go_wp2_with fail;refine μf r ?_;go_wp2;go_ret;exact⟨rfl,I.o⟩
section
open Go.RowKit Go.Shelf Go.Sort
def a8x(B:Nat)(w:WD)(v:VL)(l:LI):Prop:=a2X 3 .i64 B w v l
theorem b4q{α:Type}[Inhabited α](enc:α->VL)(w:WD)(blk off:Nat)(d:Array α):Fr (λk=>k=blk) w (putRow enc w blk off d):=
 ⟨rfl,rfl,rfl,by simp[putRow,mapBlock],λk hk hne=>by
  have:blk≠k:=λe=>hne e.symm
  simp[putRow,mapBlock,Array.getElem?_modify,this]⟩
theorem b4Y{F:Nat->Prop}(h:Fr F (Sort.ahead w n) a):Fr F w a:=⟨h.os,h.tape,h.output,h.size,h.block⟩
theorem c8Y{F:Nat->Prop}(h:Fr F w a)(os:Array Obj):Fr F w (grow a os):=
 ⟨h.os,h.tape,h.output,by have:=h.size;simp[grow];omega,λk hk hn=>by
  rw[heap_grow_old a os (Qh hk h.size)];exact h.block k hk hn⟩
theorem b8i(B:Nat)(A:OA)(N c:Nat)(l:LI)(w:WD)(h:a8x B w (.slice A N c) l)(a:∀x∈l,0<=x/\x<64)(b:l.length<=1000000):
  Calls prog 208 #[.slice A N c] w λe w'=>∃A' c',e=.returned (.slice A' (a2V l).length c')/\RdW .i64 w' A' (a2V l)/\Fr (λk=>(Value.slice A N c).ownBlock=some k) w w':=by
 rcases Zq l.length with G | G
 ·obtain rfl:l=[]:=Zv.1 G
  obtain⟨A2,c2,e⟩:=h.form;simp only[Value.slice.injEq,Qv]at e;obtain⟨rfl,rfl,rfl⟩:=e;have z:=Any.slices_Sort_int_none Tryz.laysSo A c w;have s2:=Any.slices_Compact_int_empty Tryz.laysCo A c w;rw[c2X];clear h G a;have T:Calls prog 250 #[.slice A 0 c] w λe w'=>e=.returned (.tuple #[])/\w'=w:=z
  have W:Calls prog 251 #[.slice A 0 c] w λe w'=>e=.returned (.slice A 0 c)/\w'=w:=s2
  clear z s2;go_enter func208,ntmps208;go_wp2_with fail;refine μf T ?_;go_wp2_with fail;refine μ1 W ?_;rintro e w' ⟨rfl,rfl⟩;go_wp2;go_ret;exact⟨_,_,rfl,RdW.nil _ _ _,Qp _ _⟩
 obtain⟨g,cap,e,H,ab,U,d⟩:=h.cells G;simp only[Value.slice.injEq]at e;obtain⟨rfl,rfl,rfl⟩:=e
 have Z:Holds (Value.int .i64) w g 0 l.toArray:=λj hj=>by
  have I:j<l.length:=ρw hj;obtain⟨e1,e2⟩:=d j I;rw[QP];exact⟨by rw[e1];simp[getElem!_pos,I,List.getD],e2⟩
 have z:Calls prog 250 #[.slice g l.length c] w λe w'=>e=.returned (.tuple #[])/\∃n os,w'=grow (putRow (Value.int .i64) (Sort.ahead w n) g 0 (l.mergeSort λx y=>decide (x<=y)).toArray) os:=
  Any.slices_Sort_int Tryz.laysSo g 0 c l w Z U ρo
 have⟨m,hm⟩:=η0 ((l.mergeSort λx y=>decide (x<=y)));have p:m.length=l.length:=by rw[<-hm];exact List.length_mergeSort l
 have r:=c7c a;rw[hm]at z r
 have s2:∀o,Holds (Value.int .i64) o g 0 m.toArray->Calls prog 251 #[.slice g l.length c] o λe w'=>e=.returned (.slice g (a2V l).length c)/\∃q,w'=putRow (Value.int .i64) (Sort.ahead o q) g 0 (a2V l++List.replicate (l.length-(a2V l).length) 0).toArray:=λo f=>by
  have:=Any.slices_Compact_int Tryz.laysCo g 0 c m o f ρo ρo
  rw[r,p]at this;exact this
 have Q:(a2V l).length<=l.length:=by rw[<-r,<-p];exact Lib.compact_length_le m
 have⟨n,hn⟩:=η0 l.length
 generalize hE:a2V l=E at s2 Q⊢
 rw[hn]at z s2 Q;have⟨HH,X,F,HN⟩:=η4 Z s2 p hn;clear Z d h a hm r p hE H s2 hn G b;rw[HN.o];go_enter func208,ntmps208;go_wp2_with fail;refine μ1 z ?_;rintro e o ⟨rfl,k,os,D⟩
 have f:Holds (Value.int .i64) o g 0 m.toArray:=by
  rw[D];refine holds_grow _ _ _ _ _ _ (by simpa[putRow,mapBlock]using U) ?_;exact holds_putRow _ _ _ _ l.toArray m.toArray (holds_ahead _ _ _ _ _ _ HH.o) (by simp[F.o])
 have P:Fr (λj=>j=g) w o:=by
  rw[D];exact c8Y (b4Y (b4q _ _ _ _ _)) os
 have K:=X.o o f;have⟨Y,R⟩:=η2 f P;clear D f P z;go_wp2_with fail;refine μ1 K ?_;rintro e w2 ⟨rfl,q,v⟩
 have O:Fr (λj=>j=g) o w2:=by
  rw[v];exact b4Y (b4q _ _ _ _ _)
 have S:Holds (Value.int .i64) w2 g 0 (E++List.replicate (n-E.length) 0).toArray:=by
  rw[v];exact holds_putRow _ _ _ _ m.toArray _ (holds_ahead _ _ _ _ _ _ Y.o) (by have:=F.o;have:=HN.o;simp;omega)
 have⟨V,J⟩:=η2 S O;clear v O S K;go_wp2;go_ret;refine⟨_,_,rfl,λ_=>⟨g,0,rfl,Qh U (Qk R.size J.size),λj x hx=>?_⟩,?_⟩
 ·obtain⟨hj,hx⟩:=Qm.1 hx
  have:=(V.o j (by simp;omega)).1
  rw[this];have aa:j<(E++List.replicate (n-E.length) 0).length:=by simp;omega
  have e:(E++List.replicate (n-E.length) 0).toArray[j]! =x:=by
   rw[getElem!_pos _ _ (ρw aa)];simp only[List.getElem_toArray];rw[ZK hj,hx]
  rw[e]
 exact(R.trans J.o (λk _ e=>e)).mono (λk _ e=>by subst e;rfl)
end
section
section
attribute [local go_sem ↓] a2t a2s a2n a3n a3w
theorem a3E(tx:LI)(a:tx.length=32)(b:∀x∈tx,0<=x/\x<=255)(w:WD):
  Calls prog 73 #[.agg (bys tx).toArray] w λe w'=>∃v,e=.returned v/\a0N w w' v tx/\Below w w w':=by
 have G:=Qd w 31 (bys tx).toArray;have K:=ρb w (.cells (bys tx).toArray 31)
 generalize R:w.alloc (.cells (bys tx).toArray 31)=W at G K
 have⟨g,r⟩:=ηs w;rw[r]at G;have⟨HW,H,Z,m,V,P⟩:=η6 R G K a b r;clear R G K a b r;go_enter func73,ntmps73;go_upto_region 1 with fail
 rw[HW.o,P.o];go_wp2_with fail;go_loopg [3,4] 32 (λU v t wr=>∃(i:Nat) (A:OA) (c:Nat),i+U=32/\t=.int .i64 i/\v=.slice A i c/\a0N w wr v (tx.take i)/\Below w w wr/\Blk wr g 31 (bys tx).toArray);exact⟨0,none,0,by omega,rfl,rfl,by simpa using a0N.nil _ _,Z.o,H.o⟩;obtain⟨i,A,c,hi,rfl,rfl,p,z,d⟩:=hrel
 by_cases J:i<32
 ·have B:(i:Int)<32:=ρo
  have y:i<tx.length:=by rw[m.o];exact J
  have E:=V.o _ (Qu y);have f:tx.take (i+1)=tx.take i++[tx[i]]:=Qe y
  have I:wr.cell? ⟨g,i,none⟩=some (.int .u8 tx[i]):=by
   rw[d.cell i];simp only[QE];rw[a3J,QN y]
   rfl
  have⟨x,T⟩:=η0 (tx[i]);rw[T]at E f I;obtain⟨v',w',X,j,N,_⟩:=a3P (ty:=22) p E (by rw[Qx];omega) z.size;obtain⟨A2,Y,S⟩:=j.form;rw[<-f,Qx,m.o,QY ρo]at S;subst S;rw[<-f]at j;have D:Below w w w':=z.trans (N.below z.size (λk hk e=>by have:=(p.lt e).1;omega));have F:=d.fr N (λe=>a2D p d ρd e);have⟨O,o,Q⟩:=η3 j D F;clear p z d j N D F f T;go_wp2;go_roundg (32-(i+1));exact⟨i+1,A2,Y,by omega,by go_num,rfl,O.o,o.o,Q.o⟩;omega
 obtain rfl:i=32:=ρo;have B:¬(((32:Nat):Int)<32):=ρo;rw[Qb (by rw[m.o];exact Qg _)]at p;have⟨O,o⟩:=η2 p z;clear p z d;go_wp2;go_ret;exact⟨_,rfl,O.o,o.o⟩
end
end
theorem b7q{α β:Type}(f:α->Option β)(g:α->β):∀l:List α,(∀x∈l,f x=some (g x))->l.mapM f=some (l.map g)
 | [],_=>rfl
 |
  x::l,h=>by
  rw[Zg,h x ρp,b7q f g l (λy hy=>h y (by simp[hy]))]
  rfl
theorem d2g:∃f0 f1:Field,prog.underlying 189=some (.struct #[f0,f1])∧f0.type=31∧f1.type=3∧f0.offset=0∧f1.offset=32∧f0.name≠ "_" ∧f1.name≠ "_" :=
 ⟨_,_,Tryz.underlying189,rfl,rfl,rfl,rfl,by decide,by decide⟩
theorem uId:prog.underlying 31=some (.array 32 5):=ρk
theorem c9F:prog.underlying 3=some (.int .i64):=ρk
theorem cId:prog.cellsOf 31=32:=ρk
theorem cU8:prog.cellsOf 5=1:=ρk
theorem d1H:prog.cellsOf 3=1:=ρk
theorem cPt:prog.cellsOf 189=33:=ρk
theorem d2m(h:0<=x/\x<=255):(Lit.int .u8 x).wf=true:=by
 simp only[Lit.wf];rw[show IntKind.u8.min=0 from rfl,show IntKind.u8.max=255 from rfl];simp[h]
theorem b6L(h:-9223372036854775808<=x/\x<=9223372036854775807):(Lit.int .i64 x).wf=true:=by
 simp only[Lit.wf];rw[show IntKind.i64.min=-9223372036854775808 from rfl,show IntKind.i64.max=9223372036854775807 from rfl];simp[h]
theorem c8a(d:Nat)(h:0<=x/\x<=255):prog.keyLits (d+1) 5 [.int .u8 x]=some [.int .u8 x]:=by
 unfold Program.keyLits;simp[d2m h]
theorem a4t(d:Nat)(h:-9223372036854775808<=x/\x<=9223372036854775807):prog.keyLits (d+1) 3 [.int .i64 x]=some [.int .i64 x]:=by
 unfold Program.keyLits;simp[b6L h]
theorem a6a(d:Nat)(a:tx.length=32)(b:∀x∈tx,0<=x/\x<=255):prog.keyLits (d+2) 31 (bys tx)=some (tx.map (Lit.int .u8)):=by
 have e:(List.range 32).mapM (λi=>prog.keyLits (d+1) 5 (((bys tx).drop (i*1)).take 1))=some ((List.range 32).map λi=>[Lit.int .u8 (tx.getD i 0)]):=by
  refine b7q _ _ _ (λi hi=>?_);have f:i<tx.length:=by have:=ZU.1 hi;omega
  have:((bys tx).drop (i*1)).take 1=[.int .u8 (tx.getD i 0)]:=by
   rw[Nat.mul_one,List.drop_eq_getElem_cons (by simpa[a0a]using f)];simp[bys,List.getD,f]
  rw[this]
  exact c8a d (by
   have:tx.getD i 0=tx[i]:=by simp[List.getD,f]
   rw[this];exact b _ (Qu f))
 unfold Program.keyLits;simp only[uId];rw[if_pos (by rw[cId,a0a,a]),cU8,e];simp only[Option.map_some,Option.some.injEq]
 apply List.ext_getElem?
 intro j
 have m:((List.range 32).map λi=>[Lit.int .u8 (tx.getD i 0)]).flatten=(List.range 32).map λi=>Lit.int .u8 (tx.getD i 0):=by
  rw[<-List.flatMap_def]
  induction (List.range 32)with
  | nil=>rfl
  | cons x l p=>rw[List.flatMap_cons,p];rfl
 rw[m];simp only[ZJ]
 by_cases o:j<32
 ·have g:j<tx.length:=ρo
  rw[List.getElem?_range o];simp[List.getD,g]
 rw[ZL (by simp;omega),ZL ρo]
 rfl
def ptK(tx:LI)(ix:Int):Lit:=.string (keyBytes (tx.map (Lit.int .u8)++[.int .i64 ix]))
theorem b9q:Go.WideMaps.KeyLaw prog 189:=deep_law_laid ρk (m:=4) ρo (of_decide_eq_true ρk) ρk (by obtain⟨f0,f1,h,_⟩:=d2g;rw[h])
theorem d1v{ix:Int}(a:tx.length=32)(b:∀x∈tx,0<=x/\x<=255)(d:-9223372036854775808<=ix/\ix<=9223372036854775807):
  keyOf prog 189 (.agg (ptL tx ix).toArray)=some (ptK tx ix):=by
 obtain⟨B,z,f,t0,t1,p,w,y,r⟩:=d2g;have o:prog.keyType 189=true:=ρk;obtain⟨m,g⟩:∃m,prog.types.size=m+2:=⟨prog.types.size-2,by have:2<=prog.types.size:=of_decide_eq_true ρk;omega⟩;unfold keyOf;simp only[f];rw[if_pos (by rw[o];simp[Value.formed,f,cPt,a1x a]),g];unfold Program.keyLits;simp only[f,Value.cells]
 have j:((ptL tx ix).drop 0).take 32=bys tx:=by
  rw[Zs];unfold ptL;rw[QJ (by rw[a0a];omega),Qb (by rw[a0a];omega)]
 have v:((ptL tx ix).drop 32).take 1=[.int .i64 ix]:=by
  unfold ptL;rw[Zw (by rw[a0a];omega),QQ (by rw[a0a];omega)]
  rfl
 rw[if_pos ⟨by rw[cPt];exact a1x a ix,by simp[y,r]⟩];rw[Zg,Zg,List.mapM_nil,t0,t1,p,w,cId,d1H,j,v,a6a _ a b,a4t _ d];simp[ptK]
theorem c9w:prog.underlying 362=some (.map 189 3):=ρk
theorem d2Z(w:WD):(zeroValue 3).run prog w=.ok (.int .i64 0) w:=ρk
theorem a7B:Keyed prog 189:=Keyed.of_law b9q
structure a6l(p:LI×Int):Prop where
 len:p.1.length=32
 tx:∀x∈p.1,0<=x/\x<=255
 ix:-9223372036854775808<=p.2/\p.2<=9223372036854775807
theorem a6l.key{p:LI×Int}(h:a6l p):keyOf prog 189 (.agg (ptL p.1 p.2).toArray)=some (ptK p.1 p.2):=d1v h.len h.tx h.ix
theorem c2H{p q:LI×Int}(d:a6l p)(f:a6l q)(h:(Value.agg (ptL p.1 p.2).toArray)=.agg (ptL q.1 q.2).toArray):p=q:=by
 have e:ptL p.1 p.2=ptL q.1 q.2:=ρw h;unfold ptL at e;obtain⟨g,o⟩:=List.append_inj e (by rw[a0a,a0a,d.len,f.len])
 have j:p.1=q.1:=by
  unfold bys at g;exact(List.map_inj_right (λa b h=>by simpa using h)).1 g
 have m:p.2=q.2:=ρw o;exact Prod.ext j m
theorem c8r{p q:LI×Int}(a:a6l p)(b:a6l q)(h:ptK p.1 p.2=ptK q.1 q.2):p=q:=
 c2H a b (a7B.inj a.key (h ▸ b.key))
def a3r(w:WD)(b n:Nat)(l:List (LI×Int)):Prop:=
 ∃
  D:DataW Nat,w.ownsMap prog 189 (plainElem prog 3) b n D/\
  ∀p,a6l p->(p∈l->∀z,D.atKey (ptK p.1 p.2) z=.lit (.int .i64 1))/\(p ∉ l->∀z,D.atKey (ptK p.1 p.2) z=z)
theorem a3r.made(w:WD):a3r (w.alloc (.map #[] 0)) w.heap.size 0 []:=
 ⟨_,World.ownsMap_made _ _ _ _,λp _=>⟨λh=>absurd h ρp,λ_ z=>WideAt.atKey_none z ρp⟩⟩
theorem a3r.kept{w d:WD}{b n:Nat}{l:List (LI×Int)}{row:Option Nat}(h:a3r w b n l)(f:w.grownBy d row)(a:some b≠row):a3r d b n l:=by
 obtain⟨D,g,j⟩:=h;exact⟨D,g.kept f a,j⟩
theorem a3r.lt{w:WD}{b n:Nat}{l:List (LI×Int)}(h:a3r w b n l):b<w.heap.size:=by
 obtain⟨D,a,_⟩:=h;exact a.lt
theorem a3r.look{l:List (LI×Int)}(h:a3r w b n l){p:LI×Int}(a:a6l p):
  (Instr.lookup 362 (.map (some b)) (.agg (ptL p.1 p.2).toArray) false).run prog w=.ok (.int .i64 (if p∈l then 1 else 0)) w:=by
 obtain⟨D,m,g⟩:=h;obtain⟨c,j,d,_⟩:=m.lookup_int a7B c9w c9F (d2Z w) a.key;rw[j]
 by_cases f:p∈l
 ·rw[(g p a).1 f]at d
  rw[if_pos f];simp only[DataW.lit.injEq,Lit.int.injEq,true_and]at d;rw[d]
 rw[(g p a).2 f]at d;rw[if_neg f];simp only[DataW.lit.injEq,Lit.int.injEq,true_and]at d;rw[d]
theorem b1y(w:WD)(b:Nat)(o a:Obj):ChangeMaps.setBlock (ChangeMaps.setBlock w b o) b a=ChangeMaps.setBlock w b a:=by
 unfold ChangeMaps.setBlock
 simp
theorem a3r.incr{l:List (LI×Int)}(h:a3r w b n l)(g:n<1000000000){p:LI×Int}(d:a6l p)(f:p ∉ l):
  ∃
   (st:Nat) (w1 w2:WD),(Instr.mapEntry 362 (.map (some b)) (.agg (ptL p.1 p.2).toArray)).run prog w=.ok (.tuple #[.int .i64 0,.int .i64 st]) w1/\
   (Instr.lookup 362 (.map (some b)) (.agg (ptL p.1 p.2).toArray) false).run prog w1=.ok (.int .i64 0) w1/\
   (Instr.entryStore 362 (.map (some b)) (.int .i64 st) (.int .i64 1)).run prog w1=.ok () w2/\
   a3r w2 b (n+1) (l++[p])/\w.grownBy w2 (some b)/\w.grownBy w1 (some b):=by
 obtain⟨D,S,V⟩:=h;obtain⟨w2,E,ac,Y⟩:=S.update (key:=.agg (ptL p.1 p.2).toArray) (val:=.int .i64 1) a7B c9w (by unfold maxLen;omega) d.key (plainElem_int c9F (b6L ρo));obtain⟨w1,r,Z,X⟩:=S.update (key:=.agg (ptL p.1 p.2).toArray) (val:=.int .i64 0) a7B c9w (by unfold maxLen;omega) d.key (plainElem_int c9F (b6L ρo));obtain⟨c,ab,v,_⟩:=Z.lookup_int a7B c9w c9F (d2Z w1) d.key;rw[Maps.atKey_put_same S.isMap (a7B.key d.key)]at v
 obtain rfl:c=0:=by
  simp only[DataW.lit.injEq,Lit.int.injEq,true_and]at v;exact v.symm
 obtain⟨o,m,I,F,hs,hD⟩:=S
 have U:∀x∈o.toList,x.key≠ .agg (ptL p.1 p.2).toArray:=by
  intro x P J;obtain⟨y,hy⟩:=F.reads x P
  obtain⟨z,hz⟩:∃z,plainElem (H:=Nat) prog 3 x.val=some z:=by
   unfold Go.WideElems.rd at hy
   cases N:plainElem (H:=Nat) prog 3 x.val with
   | none=>rw[N]at hy;cases hkk:keyOf prog 189 x.key<;>simp[hkk]at hy
   | some z=>exact⟨z,rfl⟩
  have T:=Go.WideElems.atKey_some b9q F d.key P J hz (.lit (.int .i64 5));have e2:=Go.WideElems.atKey_some b9q F d.key P J hz (.lit (.int .i64 6));rw[<-hD,(V p d).2 f]at T e2;rw[<-e2]at T;simp at T
 have B:(Instr.findKey 189 (.agg (ptL p.1 p.2).toArray) o.toList).run prog w=.ok none w:=by
  rcases b9q.find w d.key o.toList F.keys with⟨K,_⟩ | ⟨j,e0,_,K,W⟩
  ·exact K
  exact absurd W (U e0 (Zy K))
 have R:=b9q.check w false d.key
 have aa:∀val,(Instr.mapUpdate 362 (.map (some b)) (.agg (ptL p.1 p.2).toArray) val).run prog w=.ok () (ChangeMaps.setBlock w b (.map (o.push ⟨.agg (ptL p.1 p.2).toArray,val,m⟩) (m+1))):=by
  intro val;simp[Instr.mapUpdate,run_underlying c9w,Za I,R,B,Zz _ I,Result.andThen,ChangeMaps.setBlock]
 rw[aa]at r E;simp only[Result.ok.injEq,true_and]at r E
 have Q:w1.heap[b]? =some (.map (o.push ⟨.agg (ptL p.1 p.2).toArray,.int .i64 0,m⟩) (m+1)):=by
  rw[<-r];exact ChangeMaps.heap_setBlock_same I _
 obtain⟨s1,s2,_⟩:=F.stamped;refine⟨m,w1,w2,?_,ab,?_,⟨_,ac,λq N=>?_⟩,Y,X⟩
 ·rw[<-r]
  simp[Instr.mapEntry,run_underlying c9w,Za I,R,B,Zz _ I,Result.andThen,ChangeMaps.setBlock,goInt]
 ·have G:(o.push ⟨.agg (ptL p.1 p.2).toArray,.int .i64 0,m⟩).findIdx? (λe=>((e.born:Nat):Int) == ((m:Nat):Int))=some o.size:=by
   rw[Go.WideElems.findIdx_arr]
   have:=Go.WideElems.findIdx_born (l:=(o.push ⟨.agg (ptL p.1 p.2).toArray,.int .i64 0,m⟩).toList) (j:=o.size) (e0:=⟨.agg (ptL p.1 p.2).toArray,.int .i64 0,m⟩) (by
    simp only[ZN,QV,Yl,List.map_nil];refine List.nodup_append.2 ⟨s2,by simp,λa ha c hc T=>?_⟩;simp only[Qn]at hc;obtain⟨x,P,rfl⟩:=Qs.1 ha
    have:=s1 x P
    omega) ρp
   exact this
  have O:(o.push ⟨.agg (ptL p.1 p.2).toArray,.int .i64 0,m⟩).modify o.size (λe=>{e with val:=.int .i64 1})=o.push ⟨.agg (ptL p.1 p.2).toArray,.int .i64 1,m⟩:=by
   apply ZM
   rw[Array.toList_modify,ZN,ZN,<-QD,Go.WideElems.modify_last]
  rw[<-E,<-b1y w b (.map (o.push ⟨.agg (ptL p.1 p.2).toArray,.int .i64 0,m⟩) (m+1)),r];simp[Instr.entryStore,Za Q,asInt,asIntOf,G,O,Zz _ Q,Result.andThen,ChangeMaps.setBlock]
 by_cases e:q=p
 ·subst e
  refine⟨λ_ z=>Maps.atKey_put_same ⟨_,hD⟩ (a7B.key d.key) _ z,λh=>absurd ρp h⟩
 have J:ptK q.1 q.2≠ptK p.1 p.2:=λh=>e (c8r N d h)
 refine⟨λh z=>?_,λh z=>?_⟩
 ·rw[Maps.atKey_put_other J]
  exact(V q N).1 (by simpa[e]using h) z
 rw[Maps.atKey_put_other J];exact(V q N).2 (λK=>h (by simp[K])) z
section
theorem b8X:prog.underlying 202=some (.slice 3):=ρk
theorem d0E:(prog.info? 3).map (λi=>(i.zero.map (·.cells.size),i.size,i.bytes))=some (some 1,1,8):=ρk
theorem c0I(xs:AV)(t:TI):Builtin.append_ #[202,202] t xs=APs #[202,202] t xs:=rfl
attribute [local go_sem ↓] c0I
theorem a8x.formN(h:a8x B w v l):∃A N c,v=.slice A N c:=by
 obtain⟨A,c,e⟩:=a2X.form h;exact⟨A,_,c,e⟩
theorem a8x.lenN(h:a8x B w (.slice A N c) l):N=l.length:=by
 obtain⟨a,b,e⟩:=a2X.form h;simp only[Value.slice.injEq]at e;exact e.2.1
theorem d2o(h:a8x B w (.slice A N c) l)(x:Int)(a:l.length+1<=1000000000)(b:B<=w.heap.size):
  ∃A' N' c' w',(APs #[202,202] ty #[.slice A N c,.slice w 1 1]).run prog (w.alloc (.cells #[.int .i64 x] 3))=.ok (.slice A' N' c') w'/\a8x B w' (.slice A' N' c') (l++[x])/\Below B w w':=by
 obtain⟨j,w',f,d,g,_⟩:=a9V (ty:=ty) b8X d0E ρo h x a b;obtain⟨A',N',c',rfl⟩:=a8x.formN d;exact⟨A',N',c',w',f,d,a2X.step h g b⟩
theorem RdW.at{q:IntKind}(h:RdW q w A l)(hi:i<l.length):∃g off,A=some ⟨g,off,none⟩/\g<w.heap.size/\w.cell? ⟨g,off+i,none⟩=some (.int q (l.getD i 0)):=by
 obtain⟨g,off,e,a,b⟩:=h ρo;exact⟨g,off,e,a,b i _ (by simp[List.getD,hi])⟩
theorem c2D(hi:i<l.length):l.take (i+1)=l.take i++[l.getD i 0]:=by
 rw[Qe hi];simp[List.getD,hi]
theorem b2z(A:OA)(N c:Nat)(l:LI)(x:Int)(w:WD)(h:RdW .i64 w A l)(a:N=l.length)(b:l.length<=1000000):
  Calls prog 212 #[.slice A N c,.int .i64 x] w λe w'=>∃v,e=.returned v/\a8x w w' v (a0M l x)/\Below w w w':=by
 rw[<-a]at b;have⟨H,J⟩:=η2 h a;clear h a;go_enter func212,ntmps212;go_upto_region 2 with fail
 go_loopg [4,5,6,9] N (λK v _ _ s wr=>∃i:Nat,i+K=N/\s=.int .i64 i/\a8x w wr v (a0M (l.take i) x)/\Below w w wr);exact⟨0,by omega,rfl,by rw[List.take_zero,b5P];exact a2X.nil _ _ _ _,Qf _ _⟩;obtain⟨i,hi,rfl,f,j⟩:=hrel;obtain⟨S,R,U,rfl⟩:=f.formN
 by_cases B:i<N
 ·have r:(i:Int)<N:=ρo
  have z:i<l.length:=by rw[<-J.o];exact B
  obtain⟨g,off,rfl,V,Q⟩:=(H.below j).at z;have d:=b5x (l.take i) (l.getD i 0) x;rw[<-c2D z,Qx,QY ρo]at d;have⟨y,F⟩:=η0 (l.getD i 0);rw[F]at Q d;have m:=a1V (l.take i) x;rw[Qx]at m
  by_cases o:y=x
  ·subst o
   rw[if_pos rfl]at d;obtain⟨W,X,T,w',O,E,p⟩:=d2o (ty:=202) f (i:Int) ρo j.size;rw[<-d]at E;have⟨P,G⟩:=η2 E (j.trans p);clear f j d m E p F;go_wp2;go_roundg (N-(i+1));exact⟨i+1,by omega,by go_num,P.o,G.o⟩;omega
  rw[if_neg o,ZC]at d;rw[<-d]at f;have⟨I,D⟩:=η2 f j;clear f j d m F;go_wp2;go_roundg (N-(i+1));exact⟨i+1,by omega,by go_num,I.o,D.o⟩;omega
 obtain rfl:N=i:=ρo;have r:¬(N:Int)<N:=ρo;rw[Qb (by rw[J.o];exact Qg _)]at f;have⟨I,D⟩:=η2 f j;clear f j;go_wp2;go_ret;exact⟨_,rfl,I.o,D.o⟩
end
section
attribute [local go_sem ↓] a6W a8U a9c a1F
theorem d1Z(w:WD):(Instr.makeMap 362 none).run prog w=.ok (.map (some w.heap.size)) (w.alloc (.map #[] 0)):=run_makeMap _ w
theorem c0S(l:List InD)(i:Nat):(b6v l).take i=b6v (l.take i):=by simp[b6v,List.map_take]
theorem InD.Bd.pt{i:InD}(h:i.Bd):a6l (i.tx,i.ix):=⟨h.len,h.tx,h.ix⟩
theorem a3r.drew{w:WD}{b n:Nat}{l:List (LI×Int)}(h:a3r w b n l):a3r w.drew b n l:=by
 obtain⟨D,a,d⟩:=h;exact⟨D,a.drew,d⟩
theorem b5d{i:InD}(h:i.Bd)(A:OA)(c:Nat):((inV i A c).toArray.toList.drop 0).take 33=ptL i.tx i.ix:=by
 simp only[Zs];unfold inV;rw[QJ (by rw[a1x h.len];omega),Qb (by rw[a1x h.len];omega)]
theorem b6t(f:OA)(m:Nat)(p:OA)(r:Nat)(t:TxD)(w:WD)(h:a9H w f p t)(x:t.ins.length<=1000000):
  Calls prog 196 #[.agg (txV f m p r t)] w λe w'=>e=.returned (.bool (a8D t.ins))/\Below w w w':=by
 obtain⟨ins,outs,fee,exp⟩:=t;have b0:=Qd w 53 (txV f m p r ⟨ins,outs,fee,exp⟩);have B0:=ρb w (.cells (txV f m p r ⟨ins,outs,fee,exp⟩) 53);have⟨W,hW⟩:=η0 (w.alloc (.cells (txV f m p r ⟨ins,outs,fee,exp⟩) 53));have⟨g,hg⟩:=ηs w;have s0:=a3r.made W;rw[hW]at B0;rw[hW,hg]at b0;have b1:=b0.alloc (.map #[] 0);have B1:Below w w (W.alloc (.map #[] 0)):=B0.alloc B0.size _;have⟨W1,ae⟩:=η0 (W.alloc (.map #[] 0));have⟨b,U⟩:=ηs W;rw[ae]at B1 s0 b1;rw[U]at s0;have q0:W1.cell? ⟨g,0,none⟩=some (.slice f ins.length m):=b1.cell 0;have⟨n,hn⟩:=η0 ins.length;have ay:Below w w W1:=B1;obtain⟨Z,aR,ao⟩:=Pg (t:=191) iIn zIn;have⟨R,hR⟩:=η0 (a8D ins);unfold txV at hW⊢;simp only at hW x⊢;have hh:=h.ins;have ad:=h.bd.ins;simp only at hh ad;rw[hR];rw[hn]at hW x q0⊢;have ar:w.heap.size<=b:=by rw[<-U];exact B0.size
 have aG:=η1 ar;clear ar;have⟨HW,HG,aI,aN,aO,HN,HH,aE⟩:=η8 hW hg ae U ay hn hh ad;have⟨aB,HR,aP⟩:=η3 s0 hR ao;have aQ:=d1Z;clear hW hg B0 b0 h ae U s0 b1 hn ay B1 hh ad hR ao;go_enter func196,ntmps196;go_upto_region 1 with fail
 rw[HW.o,HG.o];go_upto_region 2 with fail
 rw[aI.o,aN.o];go_upto_region 3 with fail
 go_loopg [5,10] n (λkk _ s wr=>∃i:Nat,i+kk=n/\s=.int .i64 i/\a3r wr b i (b6v (ins.take i))/\(b6v (ins.take i)).Nodup/\Below w w wr);exact⟨0,by omega,rfl,by simpa[b6v]using aB.o,by simp[b6v],aO.o⟩;obtain⟨i,hi,rfl,hs,G,hB⟩:=hrel
 by_cases aC:i<n
 ·have ax:(i:Int)<n:=ρo
  have ai:i<ins.length:=by rw[HN.o];exact aC
  obtain⟨g',off,T,cs,rfl,aS,ag⟩:=HH.below (hB.mono (Qg _)) i ai;have y:=aE.o _ (Qu ai);have aJ:=a2e uIn iIn wr g' (off+i*35) (inV ins[i] T cs) (a3l y _ _) ag.cell;have az:=aP.o wr (inV ins[i] T cs) (a3l y _ _) (a8W _ _ _);have Y:=Qd wr 191 (inV ins[i] T cs).toArray;have O:=a0g uPt iPt Y (off:=0) (ptL ins[i].tx ins[i].ix) (a1x y.len _) (b5d y T cs);have E:=hs.kept (World.grownBy_alloc wr (.cells (inV ins[i] T cs).toArray 191) none) ρp;have B5:=hB.alloc hB.size (.cells (inV ins[i] T cs).toArray 191);have Q:=y.pt
  have K:b6v (ins.take (i+1))=b6v (ins.take i)++[(ins[i].tx,ins[i].ix)]:=by
   unfold b6v;rw[Qe ai,QV];rfl
  have z:=E.look Q;simp only at z O
  generalize J:wr.alloc (.cells (inV ins[i] T cs).toArray 191)=W5 at az Y O E B5 z
  have⟨d,hd⟩:=ηs wr;rw[hd]at O Y;have⟨xs,N⟩:=η0 ((inV ins[i] T cs).toArray);rw[N]at aJ az Y J;have⟨ps,F⟩:=η0 ((ptL ins[i].tx ins[i].ix).toArray);rw[F]at O z
  have S:a8D ins=false->(b6v (ins.take (i+1))).Nodup:=by
   intro hf
   have:(b6v ins).Nodup:=by simpa[a8D]using hf
   exact(c0S ins (i+1)) ▸ this.sublist (List.take_sublist _ _)
  by_cases B:(ins[i].tx,ins[i].ix)∈b6v (ins.take i)
  ·have aL:R=true:=by
    cases hq:R
    ·have:=S (HR.trans hq)
     rw[K,List.nodup_append]at this;exact absurd rfl (this.2.2 _ B _ ρp)
    rfl
   rw[if_pos B]at z;subst aL;have⟨aM,aK,HD⟩:=η3 B5 J hd;clear B hs hB ag y E B5 Q K S G N F J hd Y;go_upto_region 5 with fail
   rw[HD.o];go_wp2;go_ret;exact⟨rfl,aM.o⟩
  rw[if_neg B]at z;obtain⟨st,w1,w2,ab,V,af,ac,au,aq⟩:=a3r.incr (w:=W5.drew) E.drew ρo Q B
  have aA:d≠b:=λe=>by
   have:=hs.lt
   omega
  have b6:=(Y.drew).grown aq (λe=>aA (ρw e.symm));have H:=a0g uPt iPt (Y.drew) (off:=0) (ptL ins[i].tx ins[i].ix) (a1x y.len _) (by rw[<-N];exact b5d y T cs)
  have B6:=B5.drew.grown au B5.size (λj hj=>by
   cases hj
   exact aG.o)
  have D:(Instr.lookup 362 (.map (some b)) (.agg ps) false).run prog W5.drew=.ok (.int .i64 0) W5.drew:=by
   rw[<-F]
   have:=(a3r.look (w:=W5.drew) E.drew Q)
   rw[if_neg B]at this;exact this
  have I:=a0g uPt iPt b6 (off:=0) (ptL ins[i].tx ins[i].ix) (a1x y.len _) (by rw[<-N];exact b5d y T cs);rw[F]at H I;simp only at ab V af;rw[F]at ab V;rw[<-K]at ac
  have aa:(b6v (ins.take (i+1))).Nodup:=by
   rw[K,List.nodup_append];exact⟨G,by simp,λa ha c hc=>by simp only[Qn]at hc;subst hc;exact λe=>B (e ▸ ha)⟩
  have an:(Instr.entryStore 362 (.map (some b)) (.int .i64 st) (.int .i64 (IntKind.i64.wrap 1))).run prog w1=.ok () w2:=af;have⟨aD,aK,HD,aF,ak⟩:=η5 B6 J hd ac aa;clear B hs hB ag y E B5 Q K S G N F J hd Y ac aa B6;go_upto_region 5 with fail
  rw[HD.o];go_upto_region 7 with fail
  let S0:WD->Prop:=λX=>(LDs 189 (.pointer d)).run prog X=.ok (.agg ps) X/\(Instr.lookup 362 (.map (some b)) (.agg ps) false).run prog X=.ok (.int .i64 0) X
  have al:S0 W5.drew:=⟨H,D⟩;have av:S0 w1:=⟨I,V⟩;have aj:=η1 av;refine a0s [(0,3),(1,3),(2,0),(3,0),(4,3),(5,1),(6,3),(7,2)] S0 ρk ρk ρk ρk al ?_;clear al av O z H D I V;refine ε2 ?_
  iterate 2 (with_reducible refine a0t (o:=?_) (v:=?_) (a':=?_) ρu ρu (λW' ah=>?_) ?_ ?_;rotate_left 2;(focus(have j0:=ah.1;have j1:=ah.2;clear ah;exact ρs));focus(exact ρs))
  refine ε1 ?_;refine κ1 aj.o ?_;refine ε1 ?_;refine τ1 ?_;refine ν ?_;clear aj af an ab au aq b6;go_upto_region 8 with fail
  go_wp2;go_roundg (n-(i+1));exact⟨i+1,by omega,by go_num,aF.o,ak.o,aD.o⟩;omega
 obtain rfl:i=n:=ρo;have ax:¬(i:Int)<i:=ρo;rw[Qb (by rw[HN.o];exact Qg _)]at G;have aH:R=false:=by rw[<-HR.o];simp[a8D,G]
 subst aH;have HB:=η1 hB;clear hs G hB;go_wp2;go_ret;exact⟨rfl,HB.o⟩
end
section
open Go.RowKit Go.Shelf Go.Maps Go.ChangeMaps Go.MapKept
def a2g(P:PG)(k:TI)(w:WD)(b:Nat)(L:List (VL×VL)):Prop:=
 ∃(es:Array MapEntry) (clock:Nat),w.heap[b]? =some (.map es clock)/\Stamped es clock/\es.toList.map (λe=>(e.key,e.val))=L/\∀p∈L,∃l,keyOf P k p.1=some l
section
variable {P:PG} {k:TI} {w w':WD} {b:Nat} {L:List (VL×VL)}
theorem a2g.lt(h:a2g P k w b L):b<w.heap.size:=by
 obtain⟨d,c,a,_⟩:=h;exact(QK.1 a).1
theorem a2g.fr{F:Nat->Prop}(h:a2g P k w b L)(a:Fr F w w')(d:¬F b):a2g P k w' b L:=by
 obtain⟨g,c,f,j⟩:=h;exact⟨g,c,(a.block b (QK.1 f).1 d).trans f,j⟩
theorem a2g.ne_blk(h:a2g P k w b L){cs:AV}(a:Blk w g t cs):b≠g:=by
 rintro rfl;obtain⟨f,c,d,_⟩:=h;unfold Blk at a;rw[d]at a
 cases a
theorem a2g.new(w:WD):a2g P k (w.alloc (.map #[] 0)) w.heap.size []:=⟨#[],0,heap_alloc_new w _,stamped_empty 0,rfl,by simp⟩
theorem a2g.nodup(h:a2g P k w b L):L.Pairwise (λp q=>p.1≠q.1):=by
 obtain⟨a,c,_,d,rfl,_⟩:=h;rw[Yk];exact((stamped_iff a c).1 d).2.2
theorem a2g.esKeys{a:Array MapEntry}(b:a.toList.map (λe=>(e.key,e.val))=L)(d:∀p∈L,∃l,keyOf P k p.1=some l):∀e∈a.toList,∃l,keyOf P k e.key=some l:=λe he=>by
 subst b;exact d _ (Qs.2 ⟨e,he,rfl⟩)
theorem a2g.look_in(K:Go.WideMaps.KeyLaw P k)(ht:P.underlying t=some (.map k e))(h:a2g P k w b L){key:VL}(a:(key,v)∈L)(ok:Bool):
  (Instr.lookup t (.map (some b)) key ok).run P w=.ok (if ok then .tuple #[v,.bool true]else v) w:=by
 obtain⟨y,c,S,V,J,I⟩:=h;obtain⟨l,N⟩:=I _ a;have H:=a2g.esKeys J I;have g:=a;rw[<-J]at g;obtain⟨R,m,p⟩:=Qs.1 g;simp only[Prod.mk.injEq]at p
 rcases K.find w N y.toList H with⟨_,B⟩ | ⟨j,Q,U,W,o⟩
 ·exact absurd p.1 (B R m)
 have O:=((stamped_iff y c).1 V).2.2
 have:Q.val=v:=by
  have T:Q∈y.toList:=Zy W
  rcases List.mem_iff_getElem.1 m with⟨x,r,E⟩
  rcases List.mem_iff_getElem.1 T with⟨z,f,d⟩
  have:x=z:=by
   rcases Nat.lt_trichotomy x z with D | F | G
   ·have:=ZV.1 O x z r f D
    rw[E,d,p.1,o]at this;exact absurd rfl this
   ·exact F
   have:=ZV.1 O z x f r G
   rw[E,d,p.1,o]at this;exact absurd rfl this
  subst this;rw[<-d,E];exact p.2
 simp only[Instr.lookup,Ya,run_underlying ht,Result.andThen,Za S]
 cases ok<;>simp[Ya,Result.andThen,K.check w y.isEmpty N,U,this]
theorem a2g.look_out(K:Go.WideMaps.KeyLaw P k)(ht:P.underlying t=some (.map k e))(h:a2g P k w b L){key:VL}{l:Lit}(a:keyOf P k key=some l)(d:(zeroValue e).run P w=.ok z w)(f:∀p∈L,p.1≠key)(ok:Bool):
  (Instr.lookup t (.map (some b)) key ok).run P w=.ok (if ok then .tuple #[z,.bool false]else z) w:=by
 obtain⟨r,c,D,E,v,x⟩:=h;have o:=a2g.esKeys v x
 rcases K.find w a r.toList o with⟨y,_⟩ | ⟨j,g,_,B,m⟩
 ·simp only[Instr.lookup,Ya,run_underlying ht,Result.andThen,Za D]
  cases ok<;>simp[Ya,Result.andThen,K.check w r.isEmpty a,y,d]
 refine absurd m (f (g.key,g.val) ?_);rw[<-v];exact Qs.2 ⟨g,Zy B,rfl⟩
theorem Fr.setBlock{b:Nat}{a:Array MapEntry}{c:Nat}(d:w.heap[b]? =some (.map a c))(o:Obj):Fr (λj=>j=b) w (setBlock w b o):=
 ⟨rfl,rfl,rfl,by simp[Go.ChangeMaps.setBlock],λj _ hn=>heap_setBlock_other d o hn⟩
theorem a2g.put(K:Go.WideMaps.KeyLaw P k)(ht:P.underlying t=some (.map k e))(h:a2g P k w b L){key:VL}(v:VL){l:Lit}(a:keyOf P k key=some l)(d:∀p∈L,p.1≠key):
  ∃w',(Instr.mapUpdate t (.map (some b)) key v).run P w=.ok () w'/\a2g P k w' b (L++[(key,v)])/\Fr (λj=>j=b) w w'/\w'.heap.size=w.heap.size:=by
 obtain⟨z,c,g,F,r,B⟩:=h;have y:=a2g.esKeys r B;have f:∀x∈z.toList,x.key≠key:=λx G=>d (x.key,x.val) (by rw[<-r];exact Qs.2 ⟨x,G,rfl⟩)
 rcases K.find w a z.toList y with⟨E,_⟩ | ⟨j,H,_,I,m⟩
 ·refine⟨setBlock w b (.map (z.push ⟨key,v,c⟩) (c+1)),?_,⟨_,_,heap_setBlock_same g _,stamped_push F f,?_,?_⟩,Fr.setBlock g _,by simp[Go.ChangeMaps.setBlock]⟩
  ·simp[Instr.mapUpdate,run_underlying ht,Za g,K.check w false a,E,Zz _ g,Result.andThen,Go.ChangeMaps.setBlock]
  ·rw[ZN,QV,r];rfl
  intro p D
  rcases Qq.1 D with o | o
  ·exact B p o
  rw[Qn.1 o];exact⟨l,a⟩
 exact absurd m (f H (Zy I))
theorem a2g.entry(K:Go.WideMaps.KeyLaw P k)(ht:P.underlying t=some (.map k e))(h:a2g P k w b L){key:VL}(v:VL){l:Lit}(f:keyOf P k key=some l)(g:(zeroValue e).run P w=.ok z w)(m:∀p∈L,p.1≠key):
  ∃
   (st:Nat) (w1 w2:WD),(Instr.mapEntry t (.map (some b)) key).run P w=.ok (.tuple #[z,.int .i64 st]) w1/\(Instr.entryStore t (.map (some b)) (.int .i64 st) v).run P w1=.ok () w2/\a2g P k w2 b (L++[(key,v)])/\
   Fr (λj=>j=b) w w1/\Fr (λj=>j=b) w1 w2/\w1.heap.size=w.heap.size/\w2.heap.size=w.heap.size:=by
 obtain⟨o,c,F,R,I,Q⟩:=h;have J:=a2g.esKeys I Q;have B:∀x∈o.toList,x.key≠key:=λx O=>m (x.key,x.val) (by rw[<-I];exact Qs.2 ⟨x,O,rfl⟩)
 rcases K.find w f o.toList J with⟨U,_⟩ | ⟨j,S,_,W,G⟩
 ·have y:(setBlock w b (.map (o.push ⟨key,z,c⟩) (c+1))).heap[b]? =some (.map (o.push ⟨key,z,c⟩) (c+1)):=heap_setBlock_same F _
  obtain⟨V,s2,_⟩:=(show Stamped o c from R)
  have D:(o.push ⟨key,z,c⟩).findIdx? (λe=>((e.born:Nat):Int) == ((c:Nat):Int))=some o.size:=by
   rw[Go.WideElems.findIdx_arr]
   exact Go.WideElems.findIdx_born (l:=(o.push ⟨key,z,c⟩).toList) (j:=o.size) (e0:=⟨key,z,c⟩) (by
    simp only[ZN,QV,Yl,List.map_nil];refine List.nodup_append.2 ⟨s2,by simp,λa X d hd S=>?_⟩;simp only[Qn]at hd;obtain⟨x,O,rfl⟩:=Qs.1 X
    have:=V x O
    omega) ρp
  have E:(o.push ⟨key,z,c⟩).modify o.size (λe=>{e with val:=v})=o.push ⟨key,v,c⟩:=by
   apply ZM
   rw[Array.toList_modify,ZN,ZN,<-QD,Go.WideElems.modify_last]
  have N:Stamped (o.push ⟨key,v,c⟩) (c+1):=stamped_push R B;have⟨w1,r⟩:=η0 (setBlock w b (.map (o.push ⟨key,z,c⟩) (c+1)));rw[r]at y;refine⟨c,w1,setBlock w1 b (.map (o.push ⟨key,v,c⟩) (c+1)),?_,?_,⟨_,_,heap_setBlock_same y _,N,?_,?_⟩,by rw[<-r];exact Fr.setBlock F _,Fr.setBlock y _,by rw[<-r];simp[Go.ChangeMaps.setBlock],by rw[<-r];simp[Go.ChangeMaps.setBlock]⟩
  ·rw[<-r]
   simp[Instr.mapEntry,run_underlying ht,Za F,K.check w false f,U,g,Zz _ F,Result.andThen,Go.ChangeMaps.setBlock,goInt]
  ·simp[Instr.entryStore,Za y,asInt,asIntOf,D,E,Zz _ y,Result.andThen,Go.ChangeMaps.setBlock]
  ·rw[ZN,QV,I];rfl
  intro p T
  rcases Qq.1 T with H | H
  ·exact Q p H
  rw[Qn.1 H];exact⟨l,f⟩
 exact absurd G (B S (Zy W))
theorem a8c{α β:Type}(f:α->β)(l:List α)(j:Nat):(l.eraseIdx j).map f=(l.map f).eraseIdx j:=by
 simp[List.eraseIdx_eq_take_drop_succ,List.map_take,List.map_drop]
theorem a6z{α:Type}(q:α->Bool):∀(l:List α) (j:Nat) (x:α),l[j]? =some x->q x=false->(∀i y,l[i]? =some y->i≠j->q y=true)->l.eraseIdx j=l.filter q
 | [],j,x,h,_,_=>by simp at h
 |
  a::l,0,x,h,hx,ha=>by
  simp only[List.getElem?_cons_zero,Option.some.injEq]at h;subst h
  have:∀y∈l,q y=true:=λy hy=>by
   obtain⟨i,hi⟩:=List.mem_iff_getElem?.1 hy;exact ha (i+1) y (ρw hi) ρo
  rw[List.eraseIdx_cons_zero,List.filter_cons,if_neg (by simp[hx])];exact(List.filter_eq_self.2 this).symm
 |
  a::l,j+1,x,h,hx,ha=>by
  have h1:q a=true:=ha 0 a ρp ρo;rw[List.eraseIdx_cons_succ,List.filter_cons,if_pos h1];rw[a6z q l j x (ρw h) hx (λi y hi hn=>ha (i+1) y (ρw hi) ρo)]
theorem a2g.del{α:Type}(K:Go.WideMaps.KeyLaw P k)(ht:P.underlying t=some (.map k e)){m:List α}{f:α->VL×VL}(h:a2g P k w b (m.map f)){key:VL}{l:Lit}(a:keyOf P k key=some l)(q:α->Bool)(d:∀p∈m,q p=true↔(f p).1≠key):
  ∃w',(Builtin.delete_ #[t,k] ty #[.map (some b),key]).run P w=.ok (.tuple #[]) w'/\a2g P k w' b ((m.filter q).map f)/\Fr (λj=>j=b) w w'/\w'.heap.size=w.heap.size:=by
 have F:=h.nodup;obtain⟨r,c,o,hs,E,X⟩:=h;have R:=a2g.esKeys E X;have W:=((stamped_iff r c).1 hs)
 have D:∀p∈(m.filter q).map f,∃l,keyOf P k p.1=some l:=λp I=>by
  obtain⟨x,g,rfl⟩:=Qs.1 I;exact X _ (Qs.2 ⟨x,(ZD.1 g).1,rfl⟩)
 rcases K.find w a r.toList R with⟨S,J⟩ | ⟨j,e1,S,hj,v⟩
 ·have U:m.filter q=m:=List.filter_eq_self.2 (λp I=>(d p I).2 (λQ=>by
   have h3:f p∈r.toList.map (λe=>(e.key,e.val)):=by rw[E];exact Qs.2 ⟨p,I,rfl⟩
   obtain⟨x,g,h4⟩:=Qs.1 h3;exact J x g (by rw[<-Q,<-h4])))
  refine⟨setBlock w b (.map r c),?_,⟨r,c,heap_setBlock_same o _,hs,by rw[U];exact E,D⟩,Fr.setBlock o _,by simp[Go.ChangeMaps.setBlock]⟩;simp[Builtin.delete_,run_underlying ht,Za o,K.check w r.isEmpty a,S,Zz _ o,Result.andThen,Go.ChangeMaps.setBlock]
 have V:(m.map f)[j]? =some (e1.key,e1.val):=by rw[<-E,ZJ,hj];rfl
 obtain⟨x,g,z⟩:=Q8.1 (by rwa [ZJ]at V)
 have T:m.eraseIdx j=m.filter q:=a6z q m j x g (by
  have Z:=d x (Zy g);rw[z]at Z
  cases hqx:q x with
  | false=>rfl
  |
   true=>exact absurd v (Z.1 hqx)) (λi y hi N=>(d y (Zy hi)).2 (λH=>by
   have B:i<(m.map f).length:=by rw[Qw];exact(Qm.1 hi).1
   have G:j<(m.map f).length:=by rw[Qw];exact(Qm.1 g).1
   have gi:(m.map f)[i]=f y:=by rw[QS,(Qm.1 hi).2]
   have Y:(m.map f)[j]=f x:=by rw[QS,(Qm.1 g).2]
   rcases Nat.lt_or_gt_of_ne N with O | O
   ·have:=ZV.1 F i j B G O
    rw[gi,Y,H,z]at this;exact this v.symm
   have:=ZV.1 F j i G B O
   rw[gi,Y,H,z]at this;exact this v))
 refine⟨setBlock w b (.map (r.eraseIdxIfInBounds j) c),?_,⟨_,c,heap_setBlock_same o _,?_,?_,D⟩,Fr.setBlock o _,by simp[Go.ChangeMaps.setBlock]⟩
 ·simp[Builtin.delete_,run_underlying ht,Za o,K.check w r.isEmpty a,S,Zz _ o,Result.andThen,Go.ChangeMaps.setBlock]
 ·refine(stamped_iff _ _).2 ⟨λx g=>?_,?_,?_⟩
  ·rw[ZO]at g;exact W.1 x (List.mem_of_mem_eraseIdx g)
  ·rw[ZO];exact W.2.1.sublist (List.Sublist.map _ (List.eraseIdx_sublist _ _))
  rw[ZO];exact W.2.2.sublist (List.eraseIdx_sublist _ _)
 rw[ZO,<-T,a8c,a8c,E]
theorem a2g.len_{ty t e:TI}(h:a2g P k w b L)(ht:P.underlying t=some (.map k e)):(Builtin.len_ #[t] ty #[.map (some b)]).run P w=.ok (.int .i64 (L.length:Int)) w:=by
 obtain⟨a,c,d,j,f,g⟩:=h
 have:L.length=a.size:=by rw[<-f];simp
 rw[this];simp[Builtin.len_,run_underlying ht,Za d,Result.andThen,goInt]
theorem a2g.clone(h:a2g P k w b L):∃es c,w.heap[b]? =some (.map es c)/\a2g P k (w.alloc (.map es c)) w.heap.size L/\a2g P k (w.alloc (.map es c)) b L:=by
 obtain⟨es,c,a,f,g,d⟩:=h;exact⟨es,c,a,⟨es,c,heap_alloc_new w _,f,g,d⟩,⟨es,c,(Below.heap_alloc w _ b (QK.1 a).1).trans a,f,g,d⟩⟩
end
end
section
theorem c8c:prog.underlying 141=some (.slice 32):=ρk
theorem c7u:(prog.info? 32).map (λi=>(i.zero.map (·.cells.size),i.size,i.bytes))=some (some 1,1,8):=ρk
theorem b6y(xs:AV)(t:TI):Builtin.append_ #[141,141] t xs=APs #[141,141] t xs:=rfl
attribute [local go_sem ↓] a6W a8U a9c a1F a9R b0o b0b b6y
def b4V(B:Nat)(w:WD)(v:VL)(l:LI):Prop:=a2X 32 .u64 B w v l
theorem c6f{i:InD}(h:i.Bd)(A:OA)(c:Nat):(inV i A c).toArray[33]? =some (.int .u64 i.am):=by
 simp[inV,ptL,a0a,h.len]
theorem b6R{o:a1q}(h:o.Bd):(a1s o).toArray[32]? =some (.int .u64 o.am):=by
 simp[a1s,a0a,h.len]
theorem b6S(a:OA)(d:Nat)(b:OA)(f:Nat)(t:TxD)(w:WD)(h:a9H w a b t)(o:t.ins.length<=1000000)(j:t.outs.length<=1000000):
  Calls prog 194 #[.agg (txV a d b f t)] w λe w'=>∃v u,e=.returned (.tuple #[v,u])/\b4V w w' v (t.ins.map (·.am))/\b4V w w' u (t.outs.map (·.am))/\Below w w w':=by
 obtain⟨ins,outs,fee,exp⟩:=t;have b0:=Qd w 53 (txV a d b f ⟨ins,outs,fee,exp⟩);have B0:=ρb w (.cells (txV a d b f ⟨ins,outs,fee,exp⟩) 53);have⟨W,hW⟩:=η0 (w.alloc (.cells (txV a d b f ⟨ins,outs,fee,exp⟩) 53));have⟨g,hg⟩:=ηs w;rw[hW]at B0;rw[hW,hg]at b0;have q0:W.cell? ⟨g,0,none⟩=some (.slice a ins.length d):=b0.cell 0;have q1:W.cell? ⟨g,1,none⟩=some (.slice b outs.length f):=b0.cell 1;have aj:g<W.heap.size:=b0.lt;have⟨n,hn⟩:=η0 ins.length;have⟨m,hm⟩:=η0 outs.length;obtain⟨Z,an,af⟩:=Pg (t:=191) iIn zIn;obtain⟨Y,aB,ai⟩:=Pg (t:=56) c6h d1w;unfold txV at hW⊢;simp only at hW o j⊢;have hh:=h.ins;have U:=h.bd.ins;have ho:=h.outs;have aa:=h.bd.outs;simp only at hh U ho aa;rw[hn,hm]at hW⊢;rw[hn]at q0 o;rw[hm]at q1 j;have⟨HW,HG,HN,HM,HH,ar,HO,au⟩:=η8 hW hg hn hm hh U ho aa;have⟨az,av,S⟩:=η3 af ai B0;clear hW hg B0 b0 h hn hm hh U af ho aa ai
 go_enter func194,ntmps194;go_upto_region 1 with fail
 rw[HW.o,HG.o];go_upto_region 2 with fail
 go_loopg [2,5,11] n (λkk v _ s wr=>∃i:Nat,i+kk=n/\s=.int .i64 i/\b4V W wr v ((ins.map (·.am)).take i)/\Below W W wr);exact⟨0,by omega,rfl,a2X.nil _ _ _ _,Qf _ _⟩;obtain⟨i,hi,rfl,F,E⟩:=hrel;have ag:=φt S E
 by_cases ao:i<n
 ·have N:(i:Int)<n:=ρo
  have B:i<ins.length:=by rw[HN.o];exact ao
  obtain⟨g',off,T,cs,rfl,aq,I⟩:=HH.below ag i B;have r:=ar.o _ (Qu B);have ae:=a2e uIn iIn wr g' (off+i*35) (inV ins[i] T cs) (a3l r _ _) I.cell;have Q:=az.o wr (inV ins[i] T cs) (a3l r _ _) (a8W _ _ _);have X:=Qd wr 191 (inV ins[i] T cs).toArray;have O:=E.alloc E.size (.cells (inV ins[i] T cs).toArray 191);have y:=F.alloc (.cells (inV ins[i] T cs).toArray 191)
  have H:(ins.map (·.am)).take (i+1)=(ins.map (·.am)).take i++[ins[i].am]:=by
   rw[Qe (ρw B)];simp
  have J:((ins.map (·.am)).take i).length=i:=by simp;omega
  generalize ab:wr.alloc (.cells (inV ins[i] T cs).toArray 191)=W5 at Q X O y
  have qa:W5.cell? ⟨wr.heap.size,33,none⟩=some (.int .u64 ins[i].am):=by rw[X.cell 33];exact c6f r T cs
  have⟨xs,K⟩:=η0 ((inV ins[i] T cs).toArray);rw[K]at ae Q;obtain⟨v',w',ac,x,G,_⟩:=a9V (ty:=141) c8c c7u ρo y ins[i].am ρo O.size;obtain⟨A6,c6,z⟩:=F.form;rw[J]at z;subst z;rw[<-H]at x;obtain⟨A7,c7,rfl⟩:=x.form;have R:((ins.map (·.am)).take (i+1)).length=i+1:=by simp;omega
  rw[R]at ac x;have⟨ad,V⟩:=η2 x (O.trans ((y.step G O.size).mono (Qg _)));clear x G y F I r X O H J R K ab E;go_upto_region 4 with fail
  go_wp2;go_roundg (n-(i+1));exact⟨i+1,by omega,by go_num,ad.o,V.o⟩;omega
 obtain rfl:i=n:=ρo;have N:¬(i:Int)<i:=ρo;rw[Qb (by simp[HN.o])]at F;obtain⟨A6,c6,z⟩:=F.form;rw[Qw,HN.o]at z;subst z;have aA:=(E.cell (p:=⟨g,1,none⟩) aj).trans q1;have⟨HV,ay⟩:=η2 F E;obtain⟨w2,al⟩:∃w2,w2=wr:=⟨_,rfl⟩;subst al;clear F E ag;go_upto_region 7 with fail
 have D:=η1 (S.trans (ay.mono S.size));clear q0 q1 aj an;go_loopg [3,7,24] m (λkk v _ s wr=>∃k:Nat,k+kk=m/\s=.int .i64 k/\b4V w2.heap.size wr v ((outs.map (·.am)).take k)/\Below w2.heap.size w2 wr);exact⟨0,by omega,rfl,a2X.nil _ _ _ _,Qf _ _⟩;obtain⟨k,hk,rfl,F,E⟩:=hrel
 by_cases ak:k<m
 ·have N:(k:Int)<m:=ρo
  have B:k<outs.length:=by rw[HM.o];exact ak
  obtain⟨g',off,rfl,aq,I⟩:=HO.below (φt D E) k B;have r:=au.o _ (Qu B);have ae:=a2e d1I c6h wr g' (off+k*33) (a1s outs[k]) (a0G r) I;have Q:=av.o wr (a1s outs[k]) (a0G r) (a1O _);have X:=Qd wr 56 (a1s outs[k]).toArray;have O:=E.alloc E.size (.cells (a1s outs[k]).toArray 56);have y:=F.alloc (.cells (a1s outs[k]).toArray 56)
  have H:(outs.map (·.am)).take (k+1)=(outs.map (·.am)).take k++[outs[k].am]:=by
   rw[Qe (ρw B)];simp
  have J:((outs.map (·.am)).take k).length=k:=by simp;omega
  generalize ab:wr.alloc (.cells (a1s outs[k]).toArray 56)=W5 at Q X O y
  have qa:W5.cell? ⟨wr.heap.size,32,none⟩=some (.int .u64 outs[k].am):=by rw[X.cell 32];exact b6R r
  have⟨xs,K⟩:=η0 ((a1s outs[k]).toArray);rw[K]at ae Q;obtain⟨v',w',ac,x,G,_⟩:=a9V (ty:=141) c8c c7u ρo y outs[k].am ρo O.size;obtain⟨A6,c6,z⟩:=F.form;rw[J]at z;subst z;rw[<-H]at x;obtain⟨A7,c7,rfl⟩:=x.form;have R:((outs.map (·.am)).take (k+1)).length=k+1:=by simp;omega
  rw[R]at ac x;have⟨ad,V⟩:=η2 x (O.trans ((y.step G O.size).mono (Qg _)));clear x G y F I r X O H J R K ab E;go_upto_region 9 with fail
  go_wp2;go_roundg (m-(k+1));exact⟨k+1,by omega,by go_num,ad.o,V.o⟩;omega
 obtain rfl:k=m:=ρo;have N:¬(k:Int)<k:=ρo;rw[Qb (by simp[HM.o])]at F;have⟨ax,ah⟩:=η2 F E;clear F E;go_wp2;go_ret2;exact⟨_,_,rfl,(HV.below ah.o (λ_ hk=>(HV.lt hk).2)).base S.size,ax.base D.size,D.trans (ah.mono D.size)⟩
end
end Go.Proofs.YtpolljfkceanaaaGreatDoor
