/-
  Contracts of functions, plain laws.
-/
import Derived.Test.YtpolljfkceanaaaGreatDoorK09
namespace Go.Proofs.YtpolljfkceanaaaGreatDoor
open Go.RowKit Go.Shelf Go.Maps Go.Proofs.Tryz
set_option maxRecDepth 100000
set_option maxHeartbeats 64000000
variable {first:Bool}{ep me n s sh:Int}{id l root seed:LI}{N:List Nat}{B cap g i k p:Nat}{A b:OA}{t:TxD}{a w:WD}
set_option linter.all false
def c7h(ns:Nat)(l:LL)(e:Ending):Prop:=∃r,e=.returned (.bool r)/\(r=false->l.length<=20/\ns<=60/\∀x∈l,x.length<=3000)
theorem b0C(b:OA)(a cs:Nat)(A:OA)(c:Nat)(l:LL)(d:l.length<=9223372036854775807)(w:WD)(h:Txs w A l):
  Calls prog 9 #[.slice b a cs,.slice A l.length c,.int .i64 20] w λe w'=>c7h a l e/\w=w':=by
 generalize P:l.length=n
 have W:n<=9223372036854775807:=ρo;have⟨J,V⟩:=η2 P h;clear P h d;go_enter func9,ntmps9;go_upto_region 2 with fail
 go_loopg [7] 20 (λS s wr=>∃i:Nat,i+S=20/\s=.int .i64 i/\i<=n/\w=wr/\∀x∈l.take i,x.length<=3000);exact⟨0,by omega,rfl,by omega,rfl,by simp⟩;obtain⟨i,hi,rfl,T,rfl,f⟩:=hrel
 by_cases F:i<n
 ·have N:(i:Int)<n:=ρo
  by_cases H:i<20
  ·have r:(i:Int)<20:=ρo
   have y:i<l.length:=by rw[J.o];exact F
   obtain⟨g,off,rfl,Z,A',Y,X,-,-⟩:=V.o i y;have⟨m,v⟩:=η0 (l[i].length);rw[v]at X;have⟨j,I⟩:=η2 f v;clear f v
   by_cases O:3000<m
   ·have E:(3000:Int)<(m:Int):=ρo
    go_wp2;go_ret;exact⟨⟨true,rfl,λe=>by cases e⟩,rfl⟩
   have E:¬((3000:Int)<(m:Int)):=ρo;go_wp2;go_roundg (20-(i+1))
   case measure=>omega
   case rel=>exact⟨i+1,by omega,by go_num,by omega,rfl,λx D=>by
    rw[Qe y]at D
    rcases Qq.1 D with G | G
    ·exact j.o x G
    rw[Qn.1 G,I.o];omega⟩
  have r:¬((i:Int)<20):=ρo;have o:(20:Int)<(n:Int):=ρo;have B:decide ((i:Int)<20)=false:=ρw r;have j:=η1 f;clear f;go_wp2;go_ret;exact⟨⟨true,rfl,λe=>by cases e⟩,rfl⟩
 have K:¬((i:Int)<n):=ρo;have U:decide ((i:Int)<n)=false:=ρw K;have Q:i=n:=ρo
 by_cases H:20<n
 ·have o:(20:Int)<(n:Int):=ρo
  omega
 have o:¬((20:Int)<(n:Int)):=ρo;have B:decide ((20:Int)<(n:Int))=false:=ρw o
 by_cases R:60<a
 ·have p:(60:Int)<(a:Int):=ρo
  have z:decide ((60:Int)<(a:Int))=true:=ρw p;have j:=η1 f;clear f;go_wp2;go_ret;exact⟨⟨true,rfl,λe=>by cases e⟩,rfl⟩
 have p:¬((60:Int)<(a:Int)):=ρo;have z:decide ((60:Int)<(a:Int))=false:=ρw p;have j:=η1 f;clear f;go_wp2;go_ret;exact⟨⟨false,rfl,λ_=>⟨by rw[J.o];omega,by omega,λx D=>j.o x (by rw[Qb (by rw[J.o];omega)];exact D)⟩⟩,rfl⟩
section
structure ShD where
 me:Int
 n:Int
 ep:Int
 ser:Int
 iss:Int
 fees:Int
 h:a0Q
 C:List (Pt×a1q)
 sC:Int
 L:List (Pt×a1J)
 sL:Int
 M:List (Ke×MkD)
structure ShB where
 rp:Nat
 cb:Nat
 cm:Nat
 lb:Nat
 lm:Nat
 kb:Nat
 km:Nat
def ShB.own(b:ShB):List Nat:=[b.cb,b.cm,b.lb,b.lm,b.kb,b.km]
def shV(x:ShD)(b:ShB):LV:=
 [.int .i64 x.me,.int .i64 x.n,.pointer b.rp,.int .i64 x.ep,.int .i64 x.ser,.int .u64 x.iss,.int .u64 x.fees,.pointer b.cb,.pointer b.lb,.pointer b.kb]++a0b x.h
theorem b3p{x:ShD}(h:x.h.Bd)(b:ShB):(shV x b).length=77:=by simp[shV,a0f h]
theorem c2Z(x:ShD)(b:ShB):∀v∈shV x b,v.oneCell'=true:=by
 intro v a
 rcases Qq.1 a with h | h
 ·simp only[Qo,Qt,or_false]at h
  rcases h with rfl | rfl | rfl | rfl | rfl | rfl | rfl | rfl | rfl | rfl<;>rfl
 exact a1p _ v h
theorem d0G(x:ShD)(b:ShB)(v:Int):(shV x b).toArray.setIfInBounds 3 (.int .i64 v)=(shV {x with ep:=v} b).toArray:=by simp[shV]
theorem c6T(x:ShD)(b:ShB)(v:Int):(shV x b).toArray.setIfInBounds 4 (.int .i64 v)=(shV {x with ser:=v} b).toArray:=by simp[shV]
theorem c7C(x:ShD)(b:ShB)(v:Int):(shV x b).toArray.setIfInBounds 5 (.int .u64 v)=(shV {x with iss:=v} b).toArray:=by simp[shV]
theorem c5E(x:ShD)(b:ShB)(v:Int):(shV x b).toArray.setIfInBounds 6 (.int .u64 v)=(shV {x with fees:=v} b).toArray:=by simp[shV]
theorem c3H{x:ShD}(a:x.h.Bd)(b:ShB){h:a0Q}(d:h.Bd):a1d (shV x b).toArray 10 (a0b h)=(shV {x with h:=h} b).toArray:=by
 have f:=a0f a;have g:=a0f d;unfold shV a1d;simp[QR,f,g]
theorem Blk.apart{g':Nat}{t d:TI}{cs b:AV}(h:Blk w g t cs)(a:Blk w g' d b)(ht:t≠d):g≠g':=by
 rintro rfl;unfold Blk at h a;rw[h]at a;simp only[Option.some.injEq,Obj.cells.injEq]at a;exact ht a.2.1
def a9r(w:WD)(N:List Nat)(p:Nat)(seed:LI)(k:Nat):Prop:=∃A c,Blk w p 159 #[.slice A k c]/\RdR 32 w A ((List.range k).map λ(i:Nat)=>bys (a4X seed (i:Int)))/\p ∉ N/\∀a,A=some a->a.block<w.heap.size/\a.block ∉ N
theorem a9r.at_(h:a9r w N p seed k):a5n w p seed k:=by
 obtain⟨A,c,b,a,_⟩:=h;exact⟨A,c,b,a⟩
theorem a9r.fr{w d:WD}{N:List Nat}{p:Nat}{seed:LI}{k:Nat}{F:Nat->Prop}(h:a9r w N p seed k)(b:Fr F w d)(f:∀j,F j->j∈N):a9r d N p seed k:=by
 obtain⟨A,c,v,r,o,m⟩:=h;exact⟨A,c,v.fr b (λe=>o (f _ e)),r.frY b (λa g e=>(m a g).2 (f _ e)),o,λa g=>⟨Qh (m a g).1 b.size,(m a g).2⟩⟩
theorem a9r.below{w d:WD}{N:List Nat}{p:Nat}{seed:LI}{k:Nat}(h:a9r w N p seed k)(b:Below w w d):a9r d N p seed k:=by
 obtain⟨A,c,j,m,o,g⟩:=h;exact⟨A,c,j.fr (Q9 b) (ρh j.lt),m.below b,o,λa f=>⟨Qh (g a f).1 b.size,(g a f).2⟩⟩
theorem a9r.far_{b:List Nat}(h:a9r w N p seed k)(d:∀j,j<w.heap.size->j∈b->j∈N):a9r w b p seed k:=by
 obtain⟨A,c,o,r,v,m⟩:=h;exact⟨A,c,o,r,λf=>v (d _ o.lt f),λa g=>⟨(m a g).1,λf=>(m a g).2 (d _ (m a g).1 f)⟩⟩
structure b9N(x:ShD):Prop where
 me:0<=x.me/\x.me<x.n
 n:x.n<=16
 ep:0<=x.ep/\x.ep<=1099511627776
 ser:0<=x.ser/\x.ser<=1099511627776
 iss:0<=x.iss/\x.iss<=4611686018427387904
 fees:0<=x.fees/\x.fees<=4611686018427387904
 sC:0<=x.sC/\x.sC<=18446744073709551615
 sL:0<=x.sL/\x.sL<=18446744073709551615
 h:x.h.Bd
 head:x.h=a1y\/(a0w x.h=true/\x.h.sh=x.me)
 lC:x.C.length<=256
 lL:x.L.length<=64
 lM:x.M.length<=128
structure a1e(w:WD)(sb:Nat)(b:ShB)(N:List Nat)(seed:LI)(x:ShD):Prop where
 st:Blk w sb 94 (shV x b).toArray
 co:a0i w b.cb b.cm x.C x.sC
 lo:a0j w b.lb b.lm x.L x.sL
 ma:a0z w b.kb b.km N x.M
 rg:a9r w N b.rp seed x.n.toNat
 sub:∀j∈sb::b.own,j∈N
 lt:∀j∈N,j<w.heap.size
 ok:b9N x
 ap:b.cm≠b.lm/\b.cm≠b.km/\b.lm≠b.km
section
variable {w w':WD} {sb:Nat} {b:ShB} {N:List Nat} {seed:LI} {x:ShD}
theorem a1e.below(h:a1e w sb b N seed x)(a:Below w w w'):a1e w' sb b N seed x:=
 ⟨h.st.fr (Q9 a) (ρh h.st.lt),h.co.below a,h.lo.below a,h.ma.below a,h.rg.below a,h.sub,λj hj=>Qh (h.lt j hj) a.size,h.ok,h.ap⟩
theorem a1e.drew(h:a1e w sb b N seed x):a1e w.drew sb b N seed x:=h.below (Qf _ _).drew
theorem a0i.ne_blk{cb a g:Nat}{t:TI}{cs:AV}{m:List (Pt×a1q)}{s:Int}(h:a0i w cb a m s)(b:Blk w g t cs):a≠g:=h.mp.ne_blk b
theorem a1e.sb_cb(h:a1e w sb b N seed x):sb≠b.cb:=h.st.apart h.co.st ρd
theorem a1e.sb_lb(h:a1e w sb b N seed x):sb≠b.lb:=h.st.apart h.lo.st ρd
theorem a1e.sb_kb(h:a1e w sb b N seed x):sb≠b.kb:=h.st.apart h.ma.st ρd
theorem a1e.sb_cm(h:a1e w sb b N seed x):b.cm≠sb:=h.co.mp.ne_blk h.st
theorem a1e.sb_lm(h:a1e w sb b N seed x):b.lm≠sb:=h.lo.mp.ne_blk h.st
theorem a1e.sb_km(h:a1e w sb b N seed x):b.km≠sb:=h.ma.mp.ne_blk h.st
theorem a1e.upd(h:a1e w sb b N seed x){y:ShD}(a:Fr (λk=>k=sb) w w')(d:Blk w' sb 94 (shV y b).toArray)(f:b9N y)(o:y.C=x.C)(g:y.sC=x.sC)(p:y.L=x.L)(m:y.sL=x.sL)(r:y.M=x.M)(v:y.n=x.n):a1e w' sb b N seed y:=by
 refine⟨d,?_,?_,?_,?_,h.sub,λj z=>Qh (h.lt j z) a.size,f,h.ap⟩
 ·rw[o,g];exact h.co.fr a (λe=>h.sb_cb e.symm) h.sb_cm
 ·rw[p,m];exact h.lo.fr a (λe=>h.sb_lb e.symm) h.sb_lm
 ·rw[r];exact h.ma.fr a (λe=>h.sb_kb e.symm) h.sb_km (λk e=>by rw[e];exact h.sub _ Qr)
 rw[v];exact h.rg.fr a (λk e=>by rw[e];exact h.sub _ Qr)
theorem a1e.c(h:a1e w sb b N seed x):w.cell? ⟨sb,0,none⟩=some (.int .i64 x.me)/\w.cell? ⟨sb,1,none⟩=some (.int .i64 x.n)/\w.cell? ⟨sb,2,none⟩=some (.pointer b.rp)/\w.cell? ⟨sb,3,none⟩=some (.int .i64 x.ep)/\w.cell? ⟨sb,4,none⟩=some (.int .i64 x.ser)/\
  w.cell? ⟨sb,5,none⟩=some (.int .u64 x.iss)/\w.cell? ⟨sb,6,none⟩=some (.int .u64 x.fees)/\w.cell? ⟨sb,7,none⟩=some (.pointer b.cb)/\w.cell? ⟨sb,8,none⟩=some (.pointer b.lb)/\w.cell? ⟨sb,9,none⟩=some (.pointer b.kb)/\w.cell? ⟨sb,11,none⟩=some (.int .i64 x.h.ht):=
 ⟨(h.st.cell 0).trans rfl,(h.st.cell 1).trans rfl,(h.st.cell 2).trans rfl,(h.st.cell 3).trans rfl,(h.st.cell 4).trans rfl,(h.st.cell 5).trans rfl,(h.st.cell 6).trans rfl,(h.st.cell 7).trans rfl,(h.st.cell 8).trans rfl,(h.st.cell 9).trans rfl,(h.st.cell 11).trans rfl⟩
theorem a1e.ldh(h:a1e w sb b N seed x):(LDs 37 (.pointer (some ⟨sb,10,none⟩))).run prog w=.ok (.agg (a0b x.h).toArray) w:=by
 have a:=a0f h.ok.h;exact P6 a1S a1h h.st (off:=10) (a0b x.h) a (by simp[shV,Qb,a])
end
theorem b0A(a:Nat)(b:ShB)(N:List Nat)(seed:LI)(x:ShD)(w:WD)(h:a1e w a b N seed x):Calls prog 151 #[.pointer a] w λe w'=>e=.returned (.bool (decide (128<=x.M.length)))/\w=w':=by
 have g:=h.c.2.2.2.2.2.2.2.2.2.1;have d:=c1b b.kb b.km N x.M w h.ma;have hd:decide (128<=x.M.length)=decide ((128:Int)<=(x.M.length:Int)):=by rw[decide_eq_decide];omega
 rw[hd]
 generalize f:x.M.length=n at d⊢
 clear h f hd;go_enter func151,ntmps151;go_wp2_with fail;refine μf d ?_;go_wp2;go_ret;exact⟨rfl,rfl⟩
end
theorem c8K{a c:Int}(b:0<=a)(d:0<=c)(h:(a5b a c).2=0):(a5b a c).1=a+c/\a+c<=4611686018427387904:=by
 unfold a5b at h⊢
 split
 ·rename_i hc
  rw[if_pos hc]at h;simp at h
 rename_i hc
 exact⟨rfl,by omega⟩
theorem c6u(d:Nat)(b:ShB)(N:List Nat)(seed:LI)(x:ShD)(n:Int)(f:0<=n/\n<=18446744073709551615)(w:WD)(h:a1e w d b N seed x)(a:(a5b x.fees n).2≠0):
  Calls prog 153 #[.pointer d,.int .u64 n] w λe w'=>e=.panicked [{v:=a2F (a5b x.fees n).2,recovered:=false}]/\Below w w w':=by
 have D:=h.c.2.2.2.2.2.2.1;have y:=h.ok.fees;have g:=a8G x.fees n ρo f w
 generalize m:a5b x.fees n=ad at g a⊢
 obtain⟨E,z⟩:=ad;simp only at g a⊢;have r:=λW=>a1m z a W
 clear h y f m;go_enter func153,ntmps153;go_wp2_with fail;refine μi g ?_;intro B j;have p:=r B;have o:=η1 j;clear j r;go_wp2_with fail;refine μf p ?_;exact⟨rfl,rfl,o.o⟩
theorem c6J(a:Nat)(b:ShB)(N:List Nat)(seed:LI)(x:ShD)(n:Int)(d:0<=n/\n<=18446744073709551615)(w:WD)(h:a1e w a b N seed x)(f:(a5b x.fees n).2=0):
  Calls prog 153 #[.pointer a,.int .u64 n] w λe w'=>e=.returned (.tuple #[])/\a1e w' a b N seed {x with fees:=x.fees+n}/\Fr (λk=>k=a) w w':=by
 have q6:=h.c.2.2.2.2.2.2.1;have V:=h.ok.fees;have g:=a8G x.fees n ρo d w;obtain⟨Y,U⟩:=c8K V.1 d.1 f;rw[f,Y]at g;have X:=λW=>a1o W
 have r:b9N {x with fees:=x.fees+n}:={h.ok with fees:=⟨by show 0<=x.fees+n;omega,U⟩};have⟨y,m⟩:=η0 ({x with fees:=x.fees+n});have j:=c5E x b (x.fees+n);rw[m]at j r⊢;have E:=λ(W T:WD) (hW:a1e W a b N seed x) (hF:Fr (λk=>k=a) W T) (hS:Blk T a 94 (shV y b).toArray)=>hW.upd hF hS r (by rw[<-m]) (by rw[<-m]) (by rw[<-m]) (by rw[<-m]) (by rw[<-m]) (by rw[<-m])
 have v:=h.st.lt;have⟨HH,S,F,J⟩:=η4 h E j v;clear h E j v r m Y U f V d;go_enter func153,ntmps153;go_wp2_with fail;refine μ1 g ?_;rintro e I ⟨rfl,o⟩;have O:=X I;have B:=HH.below o;have q2:=B.c.2.2.2.2.2.2.1;have z2:=B.st.frozen 6;have K:=B.st.set_ 6 (.int .u64 (x.fees+n));rw[F.o]at K;have R:Fr (λk=>k=a) I (I.setCell ⟨a,6,none⟩ (.int .u64 (x.fees+n))):=(Qp (λk=>k=a) I).setCell (p:=⟨a,6,none⟩) (λ_=>rfl) _;have z:=S.o _ _ B R K;have H:=J.o;have Z:=((Q9 o).mono (G:=λk=>k=a) (λk hk e=>ρo)).trans R (λk hk e=>e);have⟨P,Q⟩:=η2 z Z;clear z Z B K R X H o q6 g;go_wp2_with fail;refine μf O ?_;go_wp2_with fail;exact bodyPost_end (results_none rfl _ _ _) rfl ⟨rfl,P.o,Q.o⟩
def b1e(x:ShD)(n:Int):Bool:=decide (256<(x.C.length:Int)+(x.L.length:Int)+n)
theorem b5T(a:Nat)(b:ShB)(N:List Nat)(seed:LI)(x:ShD)(n:Int)(f:0<=n/\n<=1000000)(w:WD)(h:a1e w a b N seed x)(d:b1e x n=true):
  Calls prog 145 #[.pointer a,.int .i64 n] w λe w'=>e=.panicked [{v:=a2F 18,recovered:=false}]/\Below w w w':=by
 have g:=h.drew;have m:Below w w w.drew:=(Qf _ _).drew;have y:=h.ok.lC;have z:=h.ok.lL;have⟨X,O⟩:=η0 w.drew;rw[O]at g m;have Q:=g.c.2.2.2.2.2.2.2.1;have R:=g.c.2.2.2.2.2.2.2.2.1;have E:=b4j b.cb b.cm x.C x.sC X g.co;have r:=b1f b.lb b.lm x.L x.sL X g.lo;unfold b1e at d;have⟨G,p⟩:=η0 x.C.length;have⟨H,D⟩:=η0 x.L.length;rw[p]at E d y;rw[D]at r d z;have T:IntKind.i64.wrap ((G:Int)+H)=(G:Int)+H:=by rw[IntKind.wrap_i64];omega
 have V:IntKind.i64.wrap ((G:Int)+H+n)=(G:Int)+H+n:=by rw[IntKind.wrap_i64];omega
 have o:=a0X true 18 X;have P:=a1m 18 ρo X;have F:X.cell? ⟨a,7,none⟩=some (.pointer b.cb)/\X.cell? ⟨a,8,none⟩=some (.pointer b.lb):=⟨Q,R⟩;simp only[if_true]at o;have⟨B,S,I⟩:=η3 F O m;clear F O m h g Q R y z p D f;go_enter func145,ntmps145;refine a3Y [(0,3),(1,3),(2,3),(5,3),(6,3),(7,3),(11,3),(3,0),(8,0),(4,1),(9,2),(10,3),(12,3),(13,3),(14,2),(15,2)] (λW=>W.cell? ⟨a,7,none⟩=some (.pointer b.cb)/\W.cell? ⟨a,8,none⟩=some (.pointer b.lb)) ρk ρk ρk ρk (ρy S.o B.o) ?_;rw[S.o];refine ε7 ?_
 iterate 2 refine θ2 (λY F=>QU F.1 F.2) ?_
 refine κ ?_;intro K j;refine μf E ?_;with_reducible refine j _ _ (B.o) ?_;clear j K
 refine τ ?_;intro K j;refine μf r ?_;with_reducible refine j _ _ ?_;clear j K
 refine ε3 ?_;refine τ ?_;intro K j;refine μf o ?_;with_reducible refine j _ _ ?_;clear j K
 refine τ ?_;intro K j;refine μf P ?_;exact λU J=>⟨J,rfl,I.o⟩
theorem b6o(a:Nat)(b:ShB)(N:List Nat)(seed:LI)(x:ShD)(n:Int)(f:0<=n/\n<=1000000)(w:WD)(h:a1e w a b N seed x)(d:b1e x n=false):
  Calls prog 145 #[.pointer a,.int .i64 n] w λe w'=>e=.returned (.tuple #[])/\Below w w w':=by
 have g:=h.drew;have m:Below w w w.drew:=(Qf _ _).drew;have v:=h.ok.lC;have y:=h.ok.lL;have⟨X,I⟩:=η0 w.drew;rw[I]at g m;have O:=g.c.2.2.2.2.2.2.2.1;have P:=g.c.2.2.2.2.2.2.2.2.1;have D:=b4j b.cb b.cm x.C x.sC X g.co;have r:=b1f b.lb b.lm x.L x.sL X g.lo;unfold b1e at d;have⟨F,p⟩:=η0 x.C.length;have⟨G,B⟩:=η0 x.L.length;rw[p]at D d v;rw[B]at r d y;have R:IntKind.i64.wrap ((F:Int)+G)=(F:Int)+G:=by rw[IntKind.wrap_i64];omega
 have S:IntKind.i64.wrap ((F:Int)+G+n)=(F:Int)+G+n:=by rw[IntKind.wrap_i64];omega
 have o:=a0X false 18 X;have J:=a1o X;have E:X.cell? ⟨a,7,none⟩=some (.pointer b.cb)/\X.cell? ⟨a,8,none⟩=some (.pointer b.lb):=⟨O,P⟩;simp only[QI,if_false]at o;have⟨z,Q,H⟩:=η3 E I m;clear E I m h g O P v y p B f;go_enter func145,ntmps145;refine a3Y [(0,3),(1,3),(2,3),(5,3),(6,3),(7,3),(11,3),(3,0),(8,0),(4,1),(9,2),(10,3),(12,3),(13,3),(14,2),(15,2)] (λW=>W.cell? ⟨a,7,none⟩=some (.pointer b.cb)/\W.cell? ⟨a,8,none⟩=some (.pointer b.lb)) ρk ρk ρk ρk (ρy Q.o z.o) ?_;rw[Q.o];refine ε7 ?_
 iterate 2 refine θ2 (λT E=>QU E.1 E.2) ?_
 refine κ ?_;intro K j;refine μf D ?_;with_reducible refine j _ _ (z.o) ?_;clear j K
 refine τ ?_;intro K j;refine μf r ?_;with_reducible refine j _ _ ?_;clear j K
 refine ε3 ?_;refine τ ?_;intro K j;refine μf o ?_;with_reducible refine j _ _ ?_;clear j K
 refine τ ?_;intro K j;refine μf J ?_;with_reducible refine j _ _ ?_;clear j K
 with_reducible refine a1N ?_
 rw[a0V];go_wp2_with fail;exact bodyPost_end (results_none rfl _ _ _) rfl ⟨rfl,H.o⟩
section
abbrev c0U:=ldOf 94
abbrev c1T:=stOf 94
abbrev c8C:=alOf 94
theorem uSh:(prog.underlying 94).map a1f=some true:=ρk
theorem iSh:(prog.info? 94).map (·.size)=some 77:=ρk
theorem zSh:(((prog.info? 94).bind (·.zero)).map (·.cells.size))=some 77:=ρk
def cpB(rp g:Nat):ShB:=⟨rp,g+2,g+1,g+4,g+3,g+6,g+5⟩
theorem c9I(x:ShD)(b:ShB)(g:Nat):(((shV x b).toArray.setIfInBounds 7 (.pointer (g+2:Nat))).setIfInBounds 8 (.pointer (g+4:Nat))).setIfInBounds 9 (.pointer (g+6:Nat))=(shV x (cpB b.rp g)).toArray:=by simp[shV,cpB]
attribute [local go_sem ↓] c0U c1T c8C
theorem c9d(a:Nat)(b:ShB)(N:List Nat)(seed:LI)(x:ShD)(w:WD)(h:a1e w a b N seed x):
  Calls prog 32 #[.pointer a] w λe w'=>e=.returned (.pointer w)/\a1e w' w.heap.size (cpB b.rp w.heap.size) (a::w.heap.size::((cpB b.rp w.heap.size).own++N)) seed x/\Below w w w'/\w'.heap.size=w.heap.size+7:=by
 generalize hg:w.heap.size=g
 have Q:=h.st.lt;rw[hg]at Q;have ay:=b3p h.ok.h b;obtain⟨Z,aG,af,hz⟩:=P8 (t:=94) iSh zSh;have aE:=P4 uSh iSh (shV x b) h.st ay;have aj:=aG w;have aa:=af w (shV x b) ay (c2Z x b);rw[hg]at aj aa;have bV:=Qd w 94 (shV x b).toArray;rw[hg]at bV;have BV:=ρb w (.cells (shV x b).toArray 94);have⟨V,hV⟩:=η0 (w.alloc (.cells (shV x b).toArray 94));have aM:V.heap.size=g+1:=by rw[<-hV,Qi,hg]
 rw[hV]at bV BV aa;have y:=(h.below BV).drew;have BX:Below w w V.drew:=BV.drew;have bX:Blk V.drew g 94 (shV x b).toArray:=bV.drew;have ac:V.drew.heap.size=g+1:=aM;have⟨X,hX⟩:=η0 V.drew;rw[hX]at y BX bX ac;have aI:X.cell? ⟨a,7,none⟩=some (.pointer b.cb)/\X.cell? ⟨a,8,none⟩=some (.pointer b.lb)/\X.cell? ⟨a,9,none⟩=some (.pointer b.kb):=⟨y.c.2.2.2.2.2.2.2.1,y.c.2.2.2.2.2.2.2.2.1,y.c.2.2.2.2.2.2.2.2.2.1⟩;have c1:=a9h b.cb b.cm x.C x.sC X y.co;have c2:=λW (hW:a1e W a b N seed x)=>b9y b.lb b.lm x.L x.sL W hW.lo
 have c3:=λW (hW:a1e W a b N seed x)=>b9h b.kb b.km N x.M W hW.ma
 rw[ac]at c1;simp only[show g+1+1=g+2 from rfl,show g+1+2=g+3 from rfl]at c1;have⟨sv,G⟩:=η0 ((shV x b).toArray);have ar:sv[7]? =some (.pointer b.cb):=by rw[<-G];rfl
 have aq:∀v,(sv.setIfInBounds 7 v)[8]? =some (.pointer b.lb):=λv=>by rw[<-G];rfl
 have ag:∀u v,((sv.setIfInBounds 7 u).setIfInBounds 8 v)[9]? =some (.pointer b.kb):=λu v=>by rw[<-G];rfl
 have av:=c9I x b g;rw[G]at av aa aE bX;have⟨aS,HX,a0,a4,a1,aH,aX,aU⟩:=η8 aI hX y BX bX ac c2 c3;have⟨HG,a6,H7,H8,H9,aW,HH⟩:=η7 hg Q ar aq ag av h;clear aI hX y BX bX ac c2 c3 hg Q ar aq ag av h G hV aM BV bV ay aG af hz;go_enter func32,ntmps32;go_upto_region 2 with fail
 clear aE aj aa;refine a0s [(0,3),(1,3),(2,3),(5,3),(6,3),(7,3),(10,3),(11,3),(12,3),(3,0),(8,0),(13,0),(4,1),(9,1),(14,2),(15,3),(16,2),(17,3),(18,2),(19,3),(20,2)] (λW=>W.cell? ⟨a,7,none⟩=some (.pointer b.cb)/\W.cell? ⟨a,8,none⟩=some (.pointer b.lb)/\W.cell? ⟨a,9,none⟩=some (.pointer b.kb)) ρk ρk ρk ρk (ρy HX.o aS.o) ?_;rw[HX.o];refine ε7 ?_;refine ε2 ?_
 iterate 3 refine θ3 (λW' hS=>QU hS.1 (QU hS.2.1 hS.2.2)) ?_
 refine κ ?_;intro K m;refine μ1 c1 ?_;rintro e w4 ⟨rfl,H,az,E⟩;have h4:=a0.below (az.mono (Nat.le_of_eq aH));have aQ:w4.cell? ⟨a,7,none⟩=some (.pointer b.cb)/\w4.cell? ⟨a,8,none⟩=some (.pointer b.lb)/\w4.cell? ⟨a,9,none⟩=some (.pointer b.kb):=⟨h4.c.2.2.2.2.2.2.2.1,h4.c.2.2.2.2.2.2.2.2.1,h4.c.2.2.2.2.2.2.2.2.2.1⟩;have c2:=aX.o w4 h4;rw[E]at c2;simp only[show g+3+1=g+4 from rfl,show g+3+2=g+5 from rfl]at c2;have⟨a3,a2,aK,a8,aL⟩:=η5 H az E h4 aQ;clear H az E h4 aQ c1;with_reducible refine m _ _ (aL.o) ?_;clear m K
 refine κ ?_;intro K m;refine μ1 c2 ?_;rintro e w9 ⟨rfl,O,aB,F⟩;have ak:=aK.o;have h9:=a8.below (aB.mono (Nat.le_of_eq ak));have aD:w9.cell? ⟨a,7,none⟩=some (.pointer b.cb)/\w9.cell? ⟨a,8,none⟩=some (.pointer b.lb)/\w9.cell? ⟨a,9,none⟩=some (.pointer b.kb):=⟨h9.c.2.2.2.2.2.2.2.1,h9.c.2.2.2.2.2.2.2.2.1,h9.c.2.2.2.2.2.2.2.2.2.1⟩;have c3:=aU.o w9 h9;rw[F]at c3;simp only[show g+5+1=g+6 from rfl,show g+5+2=g+7 from rfl]at c3;have⟨aY,aT,a7,a9,aN⟩:=η5 O aB F h9 aD;clear O aB F h9 aD c2 ak;with_reducible refine m _ _ (aN.o) ?_;clear m K
 refine τ ?_;intro K m;refine μ1 c3 ?_;rintro e f ⟨rfl,aA,ai,ah⟩;have aP:=HG.o;have Q:=a6.o;have E:=aK.o;have F:=a7.o;have aR:=aH.o;have R:Below w4 w4 w9:=aT.mono (Nat.le_of_eq E);have r:Below w9 w9 f:=ai.mono (Nat.le_of_eq F);have S:Below X X w4:=a2.mono (Nat.le_of_eq aR);have o:Below w4 w4 f:=R.trans (r.mono R.size);have H:=a3.below o;have O:=aY.below r;have z:Below X X f:=S.trans (o.mono S.size);have d:Below w w f:=φt a4 z;have kg:=φf a1 z;have hh:=HH.o
 have I:∀j,j<w.heap.size->j∈a::g::((cpB b.rp g).own++N)->j∈N:=λj hj hm=>by
  simp only[cpB,ShB.own,Qo,Qq,Qt,or_false]at hm
  rcases hm with rfl | hm | hm | hm
  ·exact hh.sub _ Qr
  ·omega
  ·omega
  exact hm
 have U:=(hh.rg.far_ I).below d;have B:a0z f (g+6) (g+5) (a::g::((cpB b.rp g).own++N)) x.M:=⟨aA.st,aA.mp,λp hp=>((hh.ma.bd p hp).far_ I).below d⟩;have aF:=hh.ok;have p1:=(kg.cell 7).trans H7;have z1:=kg.frozen 7;have J:=kg.set_ 7 (.pointer (g+2:Nat));have f1:Fr (λk=>k=g) f (f.setCell ⟨g,7,none⟩ (.pointer (g+2:Nat))):=(Qp (λk=>k=g) f).setCell (p:=⟨g,7,none⟩) (λ_=>rfl) _;have⟨Y1,ab⟩:=η0 (f.setCell ⟨g,7,none⟩ (.pointer (g+2:Nat)));have au:Y1.heap.size=g+7:=by rw[<-ab];simpa using ah
 rw[ab]at J f1;have p2:=(J.cell 8).trans (H8.o _);have z2:=J.frozen 8;have T:=J.set_ 8 (.pointer (g+4:Nat));have f2:Fr (λk=>k=g) Y1 (Y1.setCell ⟨g,8,none⟩ (.pointer (g+4:Nat))):=(Qp (λk=>k=g) Y1).setCell (p:=⟨g,8,none⟩) (λ_=>rfl) _;have⟨Y2,ad⟩:=η0 (Y1.setCell ⟨g,8,none⟩ (.pointer (g+4:Nat)));have an:Y2.heap.size=g+7:=by rw[<-ad];simpa using au
 rw[ad]at T f2;have p3:=(T.cell 9).trans (H9.o _ _);have z3:=T.frozen 9;have Y:=T.set_ 9 (.pointer (g+6:Nat));have f3:Fr (λk=>k=g) Y2 (Y2.setCell ⟨g,9,none⟩ (.pointer (g+6:Nat))):=(Qp (λk=>k=g) Y2).setCell (p:=⟨g,9,none⟩) (λ_=>rfl) _;have⟨Y3,ae⟩:=η0 (Y2.setCell ⟨g,9,none⟩ (.pointer (g+6:Nat)));have ao:Y3.heap.size=g+7:=by rw[<-ae];simpa using an
 rw[ae]at Y f3;rw[aW.o]at Y;have ff:Fr (λk=>k=g) f Y3:=(f1.trans f2 (λk _ e=>e)).trans f3 (λk _ e=>e);have D:Below w w Y3:=d.trans (ff.below d.size (λk hk e=>ρo));have ax:∀k,k=g->k∈a::g::((cpB b.rp g).own++N):=λk e=>by rw[e];simp
 have al:a1e Y3 g (cpB b.rp g) (a::g::((cpB b.rp g).own++N)) seed x:=⟨Y,H.fr ff (by show¬g+2=g;omega) (by show¬g+1=g;omega),O.fr ff (by show¬g+4=g;omega) (by show¬g+3=g;omega),B.fr ff ρo ρo ax,U.fr ff ax,λj hj=>by
  rcases Qo.1 hj with e | e
  ·rw[e];simp
  ·simp[e],λj hj=>by
  simp only[cpB,ShB.own,Qo,Qq,Qt,or_false]at hj
  rcases hj with e | e | e | e
  ·omega
  ·omega
  ·omega
  have:=hh.lt j e;have:=D.size;omega,aF,by simp only[cpB];omega⟩
 rw[aP]at D;have⟨aO,aC,aJ,aZ,a5,aV,P2,Z2⟩:=η8 al D ao ab ad ae p2 z2;have⟨P3,Z3⟩:=η2 p3 z3;clear al D ao ab ad ae p2 z2 p3 z3 aP Q E F aR R r S o H O z d kg hh I U B aF J T Y f1 f2 f3 ff au an ax aA ai ah c3;with_reducible refine m _ _ ?_;clear m K
 refine ε1 ?_;refine τ ?_;intro K m;rw[aZ.o];with_reducible refine m _ _ ?_;clear m K;clear p1 z1
 have p2:=P2.o;have z2:=Z2.o;refine ε1 ?_;refine τ ?_;intro K m;rw[a5.o];with_reducible refine m _ _ ?_;clear m K;clear p2 z2
 have p3:=P3.o;have z3:=Z3.o;refine ε1 ?_;refine τ ?_;intro K m;rw[aV.o];with_reducible refine m _ _ ?_;clear m K;clear p3 z3
 refine ν ?_;go_wp2;go_ret;exact⟨rfl,aO.o,aC.o,aJ.o⟩
end
section
attribute [local go_sem ↓] a1l a4z a4E
theorem b6n(a:Nat)(b:ShB)(N:List Nat)(seed:LI)(x:ShD)(w:WD)(h:a1e w a b N seed x):
  Calls prog 13 #[.pointer a] w λe w'=>e=.returned (.tuple #[.agg (a0b x.h).toArray,.bool (decide (0<x.h.ht))])/\Below w w w':=by
 have⟨g,E⟩:=ηs w;have j:=a6H w;have p:=a0f a1A;have f:=a0f h.ok.h;have o:=a1p x.h;have⟨B,v⟩:=η0 (a0b a1y);rw[v]at j p;rw[E]at j;have F:=Qd w 37 B.toArray;rw[E]at F;have z:=ρb w (.cells B.toArray 37)
 generalize hV:w.alloc (.cells B.toArray 37)=V at F z j
 have d:=(h.below z).drew;have O:Below w w V.drew:=z.drew;have G:Blk V.drew g 37 B.toArray:=F.drew;have⟨X,D⟩:=η0 V.drew;rw[D]at d O G;have m:X.cell? ⟨a,11,none⟩=some (.int .i64 x.h.ht)/\(LDs 37 (.pointer (some ⟨a,10,none⟩))).run prog X=.ok (.agg (a0b x.h).toArray) X:=⟨d.c.2.2.2.2.2.2.2.2.2.2,d.ldh⟩
 generalize y:a0b x.h=hs at f o m⊢
 have H:=P9 a1h G (ρy Qc p) hs f o;have T:=G.row_ hs.toArray;have S:=Ql (g:=g) O ρo hs.toArray;have J:=h.st.lt;have Y:=ρr (g) X hs.toArray
 have r:(X.setRow g hs.toArray).cell? ⟨a,11,none⟩=some (.int .i64 x.h.ht)/\(LDs 37 (.pointer (some ⟨a,10,none⟩))).run prog (X.setRow g hs.toArray)=.ok (.agg hs.toArray) (X.setRow g hs.toArray):=by
  have hB:Below X V.drew X:=by rw[D];exact Qf _ _
  have R:=d.st.fr Y (show¬_=_ by omega);have U:=a0f h.ok.h;refine⟨(R.cell 11).trans rfl,?_⟩
  have:=P6 a1S a1h R (off:=10) (a0b x.h) U (by simp[shV,Qb,U])
  rw[y]at this;exact this
 have⟨Q,I,HX,Q5,Q6,K,HG⟩:=η7 m r D T S f E;clear m r D T S f E h d O G p v hV z F o y J Y;go_enter func13,ntmps13;go_upto_region 1 with fail
 refine a0s [(0,3),(1,3),(2,3),(4,3),(5,3),(6,3),(7,3),(3,0),(8,0),(9,3),(10,1),(11,3)] (λW=>W.cell? ⟨a,11,none⟩=some (.int .i64 x.h.ht)/\(LDs 37 (.pointer (some ⟨a,10,none⟩))).run prog W=.ok (.agg hs.toArray) W) ρk ρk ρk ρk (ρy HX.o Q.o) ?_;rw[HX.o];refine ε7 ?_
 iterate 2 refine θ2 (λW' Z=>QU Z.1 Z.2) ?_
 refine ε1 ?_;refine κ1 (I.o) ?_;refine ε1 ?_;refine ν ?_;clear H j;go_wp2;refine bodyPost_ret (a0Z rfl _ _ g 37 hs Q5 a1S (ρy K.o a1h) rfl (.bool (decide (0<x.h.ht)))) rfl ?_;exact⟨rfl,Q6.o⟩
end
section
abbrev c4Z:=stOf 47
abbrev c3Z:=alOf 47
abbrev c4s:=bdOf 47
theorem d3v:(prog.underlying 47).map a1f=some true:=ρk
theorem d3k:(prog.info? 47).map (·.size)=some 6:=ρk
def c8L(x:ShD):LV:=[.int .u64 x.iss,.int .u64 x.sC,.int .u64 x.sL,.int .u64 0,.int .u64 0,.int .u64 x.fees]
theorem c9D(w:WD):(ALs 47).run prog w=.ok (.pointer w) (w.alloc (.cells #[.int .u64 0,.int .u64 0,.int .u64 0,.int .u64 0,.int .u64 0,.int .u64 0] 47)):=a0U (.agg #[.int .u64 0,.int .u64 0,.int .u64 0,.int .u64 0,.int .u64 0,.int .u64 0]) ρk w
theorem d2u(x:ShD)(w:WD):(BDs 47 #[(0,.int .u64 x.iss),(1,.int .u64 x.sC),(2,.int .u64 x.sL),(5,.int .u64 x.fees)]).run prog w=.ok (.agg (c8L x).toArray) w:=run_build w _ _ _ ρk
attribute [local go_sem ↓] c4Z c3Z c4s
theorem c2b(a:Nat)(b:ShB)(N:List Nat)(seed:LI)(x:ShD)(w:WD)(h:a1e w a b N seed x):
  Calls prog 15 #[.pointer a] w λe w'=>e=.returned (.agg (c8L x).toArray)/\Below w w w':=by
 have⟨g,T⟩:=ηs w;have y:=c9D w;have⟨z,p⟩:=η0 (#[Value.int .u64 0,.int .u64 0,.int .u64 0,.int .u64 0,.int .u64 0,.int .u64 0]:AV);have F:z.size=6:=by rw[<-p];rfl
 rw[p,T]at y;have O:=Qd w 47 z;rw[T]at O;have J:=ρb w (.cells z 47)
 generalize hV:w.alloc (.cells z 47)=V at O J y
 have d:=(h.below J).drew;have Z:Below w w V.drew:=J.drew;have Q:Blk V.drew g 47 z:=O.drew;have⟨X,S⟩:=η0 V.drew;rw[S]at d Z Q;have I:=d.c;have E:X.cell? ⟨a,5,none⟩=some (.int .u64 x.iss)/\X.cell? ⟨a,7,none⟩=some (.pointer b.cb)/\X.cell? ⟨a,8,none⟩=some (.pointer b.lb)/\X.cell? ⟨a,6,none⟩=some (.int .u64 x.fees):=⟨I.2.2.2.2.2.1,I.2.2.2.2.2.2.2.1,I.2.2.2.2.2.2.2.2.1,I.2.2.2.2.2.2.1⟩;have c1:=c2f b.cb b.cm x.C x.sC X d.co;have c2:=b4f b.lb b.lm x.L x.sL X d.lo;have hb:=λW=>d2u x W
 have f:(c8L x).length=6:=rfl
 have m:∀v∈c8L x,v.oneCell'=true:=by
  intro v hv;simp only[c8L,Qo,Qt,or_false]at hv
  rcases hv with rfl | rfl | rfl | rfl | rfl | rfl<;>rfl
 have⟨G,r⟩:=η0 (c8L x);simp only[r]at hb;rw[r]at f m⊢;have U:=P9 d3k Q F G f m;have q5:=Q.row_ G.toArray;have q6:=Ql (g:=g) Z ρo G.toArray;obtain⟨dT,B,j⟩:=Q8.1 d3v;have⟨o,HX,Q5,Q6,Y,aa,H⟩:=η7 E S q5 q6 f B j;clear E S q5 q6 f B j h d Z Q F p hV J O I m r T;go_enter func15,ntmps15;go_upto_region 1 with fail
 refine a0s [(0,3),(1,3),(2,3),(4,3),(5,3),(6,3),(9,3),(10,3),(11,3),(14,3),(15,3),(16,3),(3,0),(7,0),(12,0),(17,0),(8,1),(13,1),(18,3),(19,2)] (λW=>W.cell? ⟨a,5,none⟩=some (.int .u64 x.iss)/\W.cell? ⟨a,7,none⟩=some (.pointer b.cb)/\W.cell? ⟨a,8,none⟩=some (.pointer b.lb)/\W.cell? ⟨a,6,none⟩=some (.int .u64 x.fees)) ρk ρk ρk ρk (ρy HX.o o.o) ?_;rw[HX.o];refine ε7 ?_;refine ε5 ?_
 iterate 4 refine θ4 (λW' R=>QU R.1 (QU R.2.1 (QU R.2.2.1 R.2.2.2))) ?_
 refine κ ?_;intro K D;refine μf c1 ?_;with_reducible refine D _ _ (o.o) ?_;clear D K
 refine κ ?_;intro K D;refine μf c2 ?_;with_reducible refine D _ _ (o.o) ?_;clear D K
 refine ε1 ?_;refine τ1 ?_;refine ν ?_;clear U y hb;go_wp2;refine bodyPost_ret (v:=.agg G.toArray) (a0c rfl _ _ g _ G dT rfl Q5 aa H (ρy Y.o d3k)) rfl ?_;exact⟨rfl,Q6.o⟩
end
abbrev c9r:=bdOf 94
def a1U(me n:Int):ShD:=⟨me,n,0,0,0,0,a1y,[],0,[],0,[]⟩
theorem c5U(h:0<=me/\me<n)(a:n<=16):b9N (a1U me n):=
 ⟨h,a,by simp[a1U],by simp[a1U],by simp[a1U],by simp[a1U],by simp[a1U],by simp[a1U],a1A,.inl rfl,by simp[a1U],by simp[a1U],by simp[a1U]⟩
theorem d3J(me n:Int)(b:ShB)(w:WD):(BDs 94 #[(0,.int .i64 me),(1,.int .i64 n),(2,.pointer b.rp),(7,.pointer b.cb),(8,.pointer b.lb),(9,.pointer b.kb)]).run prog w=.ok (.agg (shV (a1U me n) b).toArray) w:=run_build w _ _ _ ρk
section
attribute [local go_sem ↓] a2q a1G
theorem a7T(d:Nat)(b:ShB)(N:List Nat)(seed:LI)(x:ShD)(a:Int)(f:OA)(j:Nat)(m:OA)(o:Nat)(t:TxD)(w:WD)(h:a1e w d b N seed x)(p:b9d t.exp x.ep=true):
  Calls prog 149 #[.pointer d,.int .i64 a,.agg (txV f j m o t)] w λe w'=>e=.panicked [{v:=a2F 12,recovered:=false}]/\Below w w w':=by
 have⟨g,S⟩:=ηs w;have B:(txV f j m o t)[3]? =some (.int .i64 t.exp):=rfl
 generalize T:txV f j m o t=tv at B⊢
 have I:=Qd w 53 (tv);have J:=ρb w (.cells (tv) 53)
 generalize hW:w.alloc (.cells (tv) 53)=W at I J
 rw[S]at I;have r:=a5k W;have⟨Q,H⟩:=η0 ((a0O 0 false a0r none 0).toArray);rw[H]at r;have z:=I.alloc (.cells Q 41);have O:Below w w (W.alloc (.cells Q 41)):=J.alloc J.size _
 generalize hV:W.alloc (.cells Q 41)=V at z O r
 have ac:(ALs 41).run prog (w.alloc (.cells tv 53))=.ok (.pointer (some ⟨W.heap.size,0,none⟩)) V:=by rw[hW];exact r
 have y:=(h.below O).drew;have U:Below w w V.drew:=O.drew;have Z:Blk V.drew g 53 tv:=z.drew;have⟨X,R⟩:=η0 V.drew;rw[R]at y U Z;have F:X.cell? ⟨g,3,none⟩=some (.int .i64 t.exp)/\X.cell? ⟨d,3,none⟩=some (.int .i64 x.ep):=⟨(Z.cell 3).trans B,y.c.2.2.2.1⟩;have E:=b3K t.exp x.ep X;rw[p]at E;have G:=a0X true 12 X;simp only[if_true]at G;have aa:=a1m 12 ρo X;have⟨Y,HX,ab,HG⟩:=η4 F R U S;clear F R U S h y Z I z J O hV hW r H T p B;go_enter func149,ntmps149;go_upto_region 1 with fail
 rw[HG.o];refine a3Y [(0,3),(2,3),(3,3),(4,3),(1,0),(5,0),(6,2),(7,2),(8,2)] (λW=>W.cell? ⟨g,3,none⟩=some (.int .i64 t.exp)/\W.cell? ⟨d,3,none⟩=some (.int .i64 x.ep)) ρk ρk ρk ρk (ρy HX.o Y.o) ?_;rw[HX.o];refine ε4 ?_
 iterate 2 refine θ2 (λW' hS=>QU hS.1 hS.2) ?_
 refine τ ?_;intro K D;refine μf E ?_;with_reducible refine D _ _ ?_;clear D K
 refine τ ?_;intro K D;refine μf G ?_;with_reducible refine D _ _ ?_;clear D K
 refine τ ?_;intro K D;refine μf aa ?_;exact λa' P=>⟨P,rfl,ab.o⟩
end
section
def b7g(B:Nat)(me n:Int)(seed:LI)(e:Ending)(w':WD):Prop:=∃sb b N,B<=sb/\e=.returned (.pointer (some ⟨sb,0,none⟩))/\a1e w' sb b N seed (a1U me n)
theorem c3c(w:WD):Calls prog 11 #[.int .i64 1,.int .i64 1,.slice none 0 0] w λe w'=>e=.returned (.pointer none)/\w=w':=by
 go_enter func11,ntmps11;go_wp2;go_ret;exact⟨rfl,rfl⟩
attribute [local go_sem ↓] c9r
theorem b5G(me:Int)(k:Nat)(A:OA)(c:Nat)(seed:LI)(w:WD)(f:1<=k/\k<=16)(b:0<=me/\me<(k:Int))(m:seed.length<=64)(o:Byt w A seed)(d:a2x w):
  Calls prog 11 #[.int .i64 me,.int .i64 k,.slice A seed.length c] w λe w'=>b7g w me k seed e w'/\Below w w w':=by
 have v:=c3K A c seed k w f.1 ρo m o d;have d1:decide ((k:Int)<1)=false:=by simp;omega
 have d2:decide ((16:Int)<(k:Int))=false:=by simp;omega
 have d3:decide (me<0)=false:=by simp;omega
 have d4:decide ((k:Int)<=me)=false:=by simp;omega
 have ae:=c5U b (show(k:Int)<=16 by omega);have I:=f.1
 generalize hn:seed.length=n at v⊢
 have⟨aj,al⟩:=η2 ae I;clear ae I f b m o d hn;go_enter func11,ntmps11;go_wp2_with fail;refine μ1 v ?_;rintro e T ⟨p,rfl,R,ai,x⟩;have⟨g,hg⟩:=ηs T;have cn:=c0Y T;rw[hg]at cn;clear v;go_wp2_with fail;refine μ1 cn ?_;rintro e U ⟨rfl,X,ad,Q⟩;have ln:=c0n U;rw[Q]at ln;simp only[show g+2+1=g+3 from rfl,show g+2+2=g+4 from rfl]at ln;clear cn;go_wp2_with fail;refine μ1 ln ?_;rintro e w3 ⟨rfl,af,ag,N⟩;have mn:=c0N ((g+6)::(⟨p,g+1,g,g+3,g+2,g+5,g+4⟩:ShB).own) w3;rw[N]at mn;simp only[show g+4+1=g+5 from rfl,show g+4+2=g+6 from rfl]at mn;clear ln;go_wp2_with fail;refine μ1 mn ?_;rintro e H ⟨rfl,Y,aa,J⟩;clear mn;have z:Below T T U:=ad.mono (Nat.le_of_eq hg);have y:Below U U w3:=ag.mono (Nat.le_of_eq Q);have G:Below w3 w3 H:=aa.mono (Nat.le_of_eq N);have D:Below U U H:=y.trans (G.mono y.size);have r:Below T T H:=z.trans (D.mono z.size)
 have S:=ρb H (.cells (shV (a1U me k) ⟨p,g+1,g,g+3,g+2,g+5,g+4⟩).toArray 94);have b5:=Qd H 94 (shV (a1U me k) ⟨p,g+1,g,g+3,g+2,g+5,g+4⟩).toArray;rw[J]at b5;have ar:=λW=>d3J me k ⟨p,g+1,g,g+3,g+2,g+5,g+4⟩ W
 have ab:(H.alloc (.cells (shV (a1U me k) ⟨p,g+1,g,g+3,g+2,g+5,g+4⟩).toArray 94)).heap.size=g+7:=by rw[Qi,J]
 have I:=al.o;have ah:=R.below r
 have E:a9r H ((g+6)::(⟨p,g+1,g,g+3,g+2,g+5,g+4⟩:ShB).own) p seed k:=by
  obtain⟨A,c,r1,r2⟩:=R;have au:=r1.lt;obtain⟨gk,ok,rfl,av,_⟩:=r2 0 (by simp;omega);refine⟨_,c,r1.fr (Q9 r) ρo,r2.below r,λb=>?_,λa ha=>?_⟩
  ·simp only[ShB.own,Qo,Qt,or_false]at b
   omega
  simp only[Option.some.injEq]at ha;subst ha;refine⟨by show gk<H.heap.size;omega,λb=>?_⟩;simp only[ShB.own,Qo,Qt,or_false]at b;omega
 generalize Z:H.alloc (.cells (shV (a1U me k) ⟨p,g+1,g,g+3,g+2,g+5,g+4⟩).toArray 94)=W5 at S b5 ab
 have K:a1e W5 (g+6) ⟨p,g+1,g,g+3,g+2,g+5,g+4⟩ ((g+6)::(⟨p,g+1,g,g+3,g+2,g+5,g+4⟩:ShB).own) seed (a1U me k):=
  ⟨b5,(X.below D).below S,(af.below G).below S,Y.below S,by simpa[a1U]using E.below S,λj hj=>hj,λj hj=>by
   simp only[ShB.own,Qo,Qt,or_false]at hj;omega,aj.o,by simp only;omega⟩
 have ac:Below w w W5:=(x.trans (r.mono x.size)).trans (S.mono (x.trans (r.mono x.size)).size);have V:w.heap.size<=g+6:=by have:=x.size;omega
 have F:b7g w me k seed (.returned (.pointer (g+6:Nat))) W5:=⟨_,_,_,V,rfl,K⟩;clear V;have⟨O,ao,an,ak⟩:=η4 F ac J Z;clear F ac J Z K E ah I b5 S r D z y G Y af X x ad ag aa Q N R ai hg ab;have⟨ss,P⟩:=η0 (shV (a1U me k) ⟨p,g+1,g,g+3,g+2,g+5,g+4⟩);simp only[P]at ar;have B:=ak.o;rw[P]at B;have aq:=η1 B;clear B P;go_wp2_with fail;rw[aq.o,an.o];go_ret;exact⟨O,ao.o⟩
end
section
theorem b7R{x:MkD}{j:Nat}{v:VL}(a:(a0d x.c x.A x.cap)[j]? =some v):(mkV x)[0+j]? =some v:=by
 have b:j<(a0d x.c x.A x.cap).length:=(Qm.1 a).1;rw[QP];unfold mkV;rw[QO b];exact a
theorem a8I(a:Addr)(n c:Nat):(Value.slice (some a) n c).ownBlock=some a.block:=rfl
def c1C(b:Nat)(N:List Nat)(M:List (Ke×MkD))(k:Ke)(e:Ending)(w':WD):Prop:=∃A' c',e=.returned (.tuple #[.agg (a0O 0 true (a2Q M k).c A' c').toArray,.bool (a2E M k).isSome])/\a7b w' N ⟨(a2Q M k).c,A',c',(a2Q M k).ex⟩/\a0T 31 32 b w' (.slice A' (a2Q M k).c.path.length c') ((a2Q M k).c.path.map bys)
attribute [local go_sem ↓] a2q a1G a1M a1D a7A a7I a7U
theorem a7X(p:Nat)(b:ShB)(N:List Nat)(seed:LI)(x:ShD)(d:Int)(f:-9223372036854775808<=d/\d<=9223372036854775807)(r:OA)(B:Nat)(z:OA)(E:Nat)(t:TxD)(w:WD)(h:a1e w p b N seed x)(I:b9d t.exp x.ep=false)(ht:a9H w r z t)(F:a2x w)(G:t.ins.length<=1000000)(H:t.outs.length<=1000000):
  Calls prog 149 #[.pointer p,.int .i64 d,.agg (txV r B z E t)] w λe w'=>c1C w N x.M (d,idP t) e w'/\Below w w w':=by
 have hid:=λX (hX:Below w w X)=>a2v r B z E t X (ht.below hX) (F.below hX) G H
 have be:b2y (d,idP t):=⟨f,a3b t,a5f t⟩;have ak:=λX (hX:a1e X p b N seed x)=>b5u b.kb b.km N x.M (d,idP t) be X hX.ma hX.lt
 have bO:(txV r B z E t).toList.length=4:=rfl;have⟨g,hg⟩:=ηs w;have bb:(txV r B z E t)[3]? =some (.int .i64 t.exp):=rfl
 generalize a7:txV r B z E t=tv at bb⊢
 have b0:=Qd w 53 (tv);have B0:=ρb w (.cells (tv) 53)
 generalize hW:w.alloc (.cells (tv) 53)=W at b0 B0
 rw[hg]at b0;have bJ:W.heap.size=g+1:=by rw[<-hW,Qi,hg]
 have aA:=a5k W;have⟨zs,aS⟩:=η0 ((a0O 0 false a0r none 0).toArray);rw[aS]at aA;have aV:=b0.alloc (.cells zs 41);have B1:Below w w (W.alloc (.cells zs 41)):=B0.alloc B0.size _
 generalize hV:W.alloc (.cells zs 41)=V at aV B1 aA
 have bn:(ALs 41).run prog (w.alloc (.cells tv 53))=.ok (.pointer (g+1:Nat)) V:=by rw[hW,<-bJ];exact aA
 have aC:=(h.below B1).drew;have BX:Below w w V.drew:=B1.drew;have bX:Blk V.drew g 53 tv:=aV.drew;have⟨X,hX⟩:=η0 V.drew;rw[hX]at aC BX bX;have ar:=λX' (bQ:Below X.heap.size X X')=>P4 uTx iTx (w:=X') tv.toList (by simpa using bX.fr (Q9 bQ) (ρh bX.lt)) (by rw[<-a7];rfl)
 simp only[show tv.toList.toArray=tv by simp]at ar;have bg:zs.size=139:=by rw[<-aS,Qc];exact a0A a0B _ _ _ _
 have bR:Blk X (g+1) 41 zs:=by
  have:=Qd W 41 zs
  rw[hV,<-hW,Qi,hg]at this;rw[<-hX];exact this.drew
 simp only[a7]at hid;have ah:X.cell? ⟨g,3,none⟩=some (.int .i64 t.exp)/\X.cell? ⟨p,3,none⟩=some (.int .i64 x.ep):=⟨(bX.cell 3).trans bb,aC.c.2.2.2.1⟩;have a6:=b3K t.exp x.ep X;rw[I]at a6;have aZ:=a0X false 12 X;simp only[QI,if_false]at aZ;have bv:=a1o X;have⟨D,hD⟩:=η0 (idP t);simp only[hD]at hid ak⊢;have⟨bz,HX,bM,HG,bA,bq,bu,bI⟩:=η8 ah hX BX hg hid ak ar aC;have⟨bl,bB⟩:=η2 bR bg;clear ah hX BX hg hid ak ar aC bR bg h bX b0 aV B0 B1 hV hW aA aS a7 I bb ht F G H be hD bO;go_enter func149,ntmps149;go_upto_region 1 with fail
 rw[HG.o];refine a3Y [(0,3),(2,3),(3,3),(4,3),(1,0),(5,0),(6,2),(7,2),(8,2)] (λW=>W.cell? ⟨g,3,none⟩=some (.int .i64 t.exp)/\W.cell? ⟨p,3,none⟩=some (.int .i64 x.ep)) ρk ρk ρk ρk (ρy HX.o bz.o) ?_;rw[HX.o];refine ε4 ?_
 iterate 2 refine θ2 (λW' hS=>QU hS.1 hS.2) ?_
 refine τ ?_;intro K hK;refine μf a6 ?_;with_reducible refine hK _ _ ?_;clear hK K
 refine τ ?_;intro K hK;refine μf aZ ?_;with_reducible refine hK _ _ ?_;clear hK K
 refine τ ?_;intro K hK;refine μ1 bv ?_;rintro e w8 ⟨rfl,rfl⟩;with_reducible refine hK _ _ ?_;clear hK K
 with_reducible refine a1N ?_
 rw[a0V];clear a6 aZ bv bn;go_upto_region 2 with fail
 have⟨U,hU⟩:=η0 X.drew;have T:Below X.heap.size X U:=by rw[<-hU];exact(Qf _ X).drew
 have aJ:=φt bM T;have a0:=bI.below T;have F1:=λY (hY:Below U U Y)=>bu.o Y (T.trans (hY.mono T.size))
 have F2:=λY (hY:Below U U Y)=>(a0.below hY).c.2.2.2.2.2.2.2.2.2.1
 have⟨S0,ah⟩:=η0 ((λY=>(LDs 53 (.pointer g)).run prog Y=.ok (.agg tv) Y/\Y.cell? ⟨p,9,none⟩=some (.pointer b.kb)):WD->Prop);have bp:∀Y,Below U U Y->S0 Y:=λY hY=>by rw[<-ah];exact⟨F1 Y hY,F2 Y hY⟩
 have aM:=c1K;have⟨zm,aX⟩:=η0 ((mkV a4n).toArray);have aH:zm.size=138:=by rw[<-aX,Qc];exact a3i a0B
 simp only[aX]at aM;have⟨bS,ba,HU,av,aq,bE,bG⟩:=η7 ah bp hU T aJ a0 aH;clear ah bp hU T aJ a0 aH F1 F2 aX;with_reducible refine a4F (λi=>i != 7&&i != 12) S0 ρk ?_
 rw[HU.o];refine a2b (m:=8) (Lf:=#[true,true,true,true,true,true,false,false,false,false,false,false,false,false]) [(0,3),(1,3),(2,3),(4,3),(3,0),(5,0)] true ρk ρk ρk (λ_=>ba.o _ (Qf _ _)) ?_;refine εc4 ?_
 iterate 2 refine θc2 (λ_ h=>by rw[<-bS.o]at h;exact h) ?_
 with_reducible refine a2m ?_
 refine a2A (j:=11) (n:=2) (Lf:=#[true,true,true,true,true,true,true,true,true,true,true,true,false,false]) (t:=214) (Z:=zm) [(6,2),(7,2),(8,3),(9,3),(10,3)] ρk ρk ρk ρu rfl (λa X=>by go_simp) ba.o ?_;intro Y0 aP;have k6:=bA.o Y0 (φt aq aP);have bN:=η1 aP;clear aP aM;with_reducible refine a4f (o:=?_) ρu ρu (λK hK=>?_)
 refine ψ ?_;go_simp;refine μi k6 ?_;intro w6 a2;clear k6;have bU:=η1 (φt bN a2);with_reducible refine hK _ _ a2 (λY6 bi=>?_);clear hK K
 have aY:=η1 (φt bU bi);have k7:=bq.o Y6 (bE.below aY);clear a2 bi;with_reducible refine a4f (o:=?_) ρu ρu (λK hK=>?_)
 refine ψ ?_;go_simp;refine μ1 k7 ?_;rintro e3 w7 ⟨⟨O,S,rfl,bh,bk⟩,a9⟩;clear k7;have aU:=φt aY a9;with_reducible refine hK _ _ a9 (λY7 aD=>?_);clear hK K
 have Q:=bh.below aD;have ac:=a0T.keep bk aD;have bc:=aU.trans (aD.mono aU.size);have⟨bL,bw,aF⟩:=η3 Q ac bc;clear Q ac bc aU aD bh bk a9
 iterate 3 (with_reducible refine a8f (o:=?_) (v:=?_) (a':=?_) ρu ρu (λW'=>?_) ?_ ?_;rotate_left 2;(focus exact ρs);focus(exact ρs))
 with_reducible refine a6e ?_;intro bF ai aI ag
 have⟨y,hy⟩:=η0 (a2Q x.M (d,D));have Q:=bL.o;have ac:=bw.o;rw[hy]at Q ac;have aQ:=a4l ac.own ag ρd;have aR:=Q.bd;have bo:(mkV ⟨y.c,O,S,y.ex⟩).length=138:=a3i aR;have bj:=P9 iMk ag bG (mkV ⟨y.c,O,S,y.ex⟩) bo (a7Q _);have r1:=ag.row_ (mkV ⟨y.c,O,S,y.ex⟩).toArray;have f6:=ρr (ai) Y7 (mkV ⟨y.c,O,S,y.ex⟩).toArray;have r2:=Ql (g:=ai) aF.o aI (mkV ⟨y.c,O,S,y.ex⟩).toArray;have af:=ac.fr f6 (λj hj e=>aQ (by rw[hj,e]));have ae:a7b (Y7.setRow ai (mkV ⟨y.c,O,S,y.ex⟩).toArray) N ⟨y.c,O,S,y.ex⟩:=⟨Q.bd,Q.path.frY f6 (λa ha e=>aQ (by show(Value.slice O _ _).ownBlock=_;rw[show O=some a from ha,a8I,e])),Q.cap,Q.nil,λa ha=>⟨Qh (Q.far a ha).1 f6.size,(Q.far a ha).2⟩,Q.ex,Q.len⟩;have⟨ys,a5⟩:=η0 (mkV ⟨y.c,O,S,y.ex⟩);have aj:∀(j:Nat) (v:VL),(a0d y.c O S)[j]? =some v->ys[0+j]? =some v:=λj v hv=>by rw[<-a5];exact b7R (x:=⟨y.c,O,S,y.ex⟩) hv
 rw[a5]at bj r1 r2 af ae;simp only[hy,a5];have⟨R1,R2,bx,bT,bD,a1,HY⟩:=η7 r1 r2 af ae aj aR hy;clear r1 r2 af ae aj aR hy ag bF aI aQ bo f6 ac Q;refine a1c [(12,2),(13,3)] true ρk ρk ρk (λ_=>ba.o _ aF.o) ?_;refine τ1 ?_;refine ε1 ?_;refine ν ?_;have⟨Y9,a4⟩:=η0 (Y7.setRow ai ys.toArray);have r1:=R1.o;have r2:=R2.o;have af:=bx.o;have ae:=bT.o;rw[a4]at r1 r2 af ae⊢;clear bj;have R:Below Y9 Y9 Y9:=Qf _ Y9;have r3:=r1.fr (Q9 R) (ρh r1.lt);obtain⟨dC,bH,br⟩:=Q8.1 a8j;have bf:(LDs 39 (.pointer ai)).run prog Y9=.ok (.agg (a0d y.c O S).toArray) Y9:=a3R Y9 _ dC 137 bH br a4U ai 0 _ (a0l a1.o O S) (λj v hv=>(r3.cell (0+j)).trans (by rw[QE];exact bD.o j v hv));have ad:=a5d y.c a1 O S Y9;have al:=φt aq r2;have ax:=al.trans (R.mono al.size);have ao:=(φt av r2).trans (R.mono (φt av r2).size)
 have⟨cv,bm⟩:=η0 ((a0d y.c O S).toArray);rw[bm]at bf ad;have aO:=a0T.keep af R;have aN:=ae.below R;have⟨aG,bs,aT,ay,bV⟩:=η5 aO aN ax ao a4;clear aO aN ax ao a4 af ae r1 r2 r3 al R bm;go_upto_region 3 with fail
 go_wp2_with fail;refine μi ad ?_;intro au ab;have an:=φt ay ab;have kR:=φf bl an;have aB:=a0A a1 0 true O S;have bt:=P9 a4h kR bB (a0O 0 true y.c O S) aB (a0W _ _ _ _ _);have q5:=kR.row_ (a0O 0 true y.c O S).toArray;have bK:=HG.o;have bP:=ay.size;have az:Fr (λj=>j=g+1) au (au.setRow (g+1) (a0O 0 true y.c O S).toArray):=(Qp (λj=>j=g+1) au).setRow (g:=g+1) (λ_=>rfl) _;have q6:=Ql (g:=g+1) (φt aT ab) ρo (a0O 0 true y.c O S).toArray;have e1:=bl.lt;have e2:=av.size;have e3:=aY.size;have e4:=aq.size;have aW:∀j,(Value.slice O y.c.path.length S).ownBlock=some j->¬j=g+1:=λj hj e=>by have:=(aG.lt hj).1;omega
 have aK:=((aG.keep ab).fr az aW).base (B':=w.heap.size) ρo;have J:=bs.below ab;have aL:a7b (au.setRow (g+1) (a0O 0 true y.c O S).toArray) N ⟨y.c,O,S,y.ex⟩:=⟨J.bd,J.path.frY az (λa ha e=>aW a.block (by rw[show O=some a from ha];rfl) e),J.cap,J.nil,λa ha=>⟨Qh (J.far a ha).1 az.size,(J.far a ha).2⟩,J.ex,J.len⟩;have aE:=HY.o;have aa:∀e:Ending,e=.returned (.tuple #[.agg (a0O 0 true y.c O S).toArray,.bool (a2E x.M (d,D)).isSome])->c1C w N x.M (d,D) e (au.setRow (g+1) (a0O 0 true y.c O S).toArray):=λe he=>⟨O,S,by rw[aE];exact he,by rw[aE];exact aL,by rw[aE];exact aK⟩
 have⟨rs,a8⟩:=η0 (a0O 0 true y.c O S);rw[a8]at aB bt q5 q6 aa;simp only[a8]at aa⊢;have⟨Q5,Q6,bC,a3⟩:=η4 q5 q6 aB aa;clear q5 q6 aB aa kR an ab bK bP az e1 e2 e3 e4 aW aK J aL aE a8 ad;go_wp2;refine bodyPost_ret (a0Z rfl _ _ (g+1) 41 rs Q5 a7w (ρy bC.o a4h) rfl (.bool (a2E x.M (d,D)).isSome)) rfl ?_;exact⟨a3.o _ rfl,Q6.o⟩
end
section
structure RpD where
 e:Int
 has:Bool
 c:a0y
def a2O(c:a0y):RpD:=⟨0,true,c⟩
def b1A(e:Int):RpD:=⟨e,false,a0r⟩
def a3C(B:Nat)(w:WD)(c:a0y)(A:OA)(cap:Nat):Prop:=c.Bd/\c.path.length<=32/\a0T 31 32 B w (.slice A c.path.length cap) (c.path.map bys)
theorem a3C.below{c:a0y}(h:a3C B w c A cap)(b:Below w w a):a3C B a c A cap:=⟨h.1,h.2.1,h.2.2.keep b⟩
theorem a3C.base{B B':Nat}{w:WD}{c:a0y}{A:OA}{cap:Nat}(h:a3C B w c A cap)(a:B'<=B):a3C B' w c A cap:=⟨h.1,h.2.1,h.2.2.base a⟩
theorem a3C.zero(B:Nat)(w:WD):a3C B w a0r none 0:=⟨a0B,by simp[a0r],a0T.nil _ _ _ _⟩
def b2c(B:Nat)(r:RpD)(e:Ending)(w:WD):Prop:=∃A cap,e=.returned (.agg (a0O r.e r.has r.c A cap).toArray)/\a3C B w r.c A cap
theorem b2c.below{B:Nat}{r:RpD}{e:Ending}{w a:WD}(h:b2c B r e w)(b:Below w w a):b2c B r e a:=by
 obtain⟨A,cap,d,f⟩:=h;exact⟨A,cap,d,f.below b⟩
def b7C(k:Int)(e:Ending):Prop:=k≠0/\e=.panicked [{v:=a2F k,recovered:=false}]
def ShD.er(x:ShD):ShD:={x with M:=x.M.map λp=>(p.1,{p.2 with A:=none,cap:=0})}
def c9y(B sb:Nat)(N:List Nat)(seed:LI)(y:ShD)(w:WD):Prop:=∃b' N' y',a1e w sb b' N' seed y'/\y'.er=y.er/\(∀j∈N,j∈N')/\(∀j∈sb::b'.own,B<=j)
def a6x(B sb:Nat)(N:List Nat)(seed:LI)(q:Except Int (ShD×RpD))(e:Ending)(w':WD):Prop:=
 match q with
 | .error k=>b7C k e
 | .ok (y,r)=>c9y B sb N seed y w'/\b2c B r e w'
def c6j(Bn sb:Nat)(b:ShB)(N:List Nat)(seed:LI)(q:Except Int (ShD×RpD))(e:Ending)(w':WD):Prop:=
 match q with
 | .error k=>b7C k e
 | .ok (y,r)=>(∃y',a1e w' sb b N seed y'/\y'.er=y.er)/\b2c Bn r e w'
theorem c9y.of{a:Nat}{b:ShB}{y:ShD}(h:a1e w a b N seed y)(d:∀j∈a::b.own,B<=j):c9y B a N seed y w:=⟨b,N,y,h,rfl,λ_ h=>h,d⟩
def TxS(B:Nat)(w:WD)(A1 A2:OA)(t:TxD):Prop:=∀w',Below B w w'->a9H w' A1 A2 t
theorem TxS.at_{a:OA}(h:TxS B w a b t):a9H w a b t:=h w (Qf _ _)
theorem TxS.go{d:OA}(h:TxS B w b d t)(f:Below B w a):TxS B a b d t:=λv hv=>h v (f.trans hv)
def b9j(B:Nat)(w:WD)(A:OA)(l:LI):Prop:=∀w',Below B w w'->Byt w' A l
theorem b9j.at_(h:b9j B w A l):Byt w A l:=h w (Qf _ _)
theorem b9j.go(h:b9j B w A l)(b:Below B w a):b9j B a A l:=λv hv=>h v (b.trans hv)
def a8S(B:Nat)(w:WD):Prop:=∀w',Below B w w'->a2x w'
theorem a8S.at_(h:a8S B w):a2x w:=h w (Qf _ _)
theorem a8S.go(h:a8S B w)(b:Below B w a):a8S B a:=λv hv=>h v (b.trans hv)
theorem Fr.below_of{F:Nat->Prop}(h:Fr F w a)(b:B<=w.heap.size)(hF:∀k,F k->B<=k):Below B w a:=h.below b (λk hk e=>by have:=hF k e;omega)
section
variable {w w':WD} {sb:Nat} {b:ShB} {N:List Nat} {seed:LI} {x:ShD}
theorem a1e.cb_lb(h:a1e w sb b N seed x):b.cb≠b.lb:=h.co.st.apart h.lo.st ρd
theorem a1e.cb_kb(h:a1e w sb b N seed x):b.cb≠b.kb:=h.co.st.apart h.ma.st ρd
theorem a1e.lb_kb(h:a1e w sb b N seed x):b.lb≠b.kb:=h.lo.st.apart h.ma.st ρd
theorem a1e.cm_lb(h:a1e w sb b N seed x):b.cm≠b.lb:=h.co.mp.ne_blk h.lo.st
theorem a1e.cm_kb(h:a1e w sb b N seed x):b.cm≠b.kb:=h.co.mp.ne_blk h.ma.st
theorem a1e.lm_cb(h:a1e w sb b N seed x):b.lm≠b.cb:=h.lo.mp.ne_blk h.co.st
theorem a1e.lm_kb(h:a1e w sb b N seed x):b.lm≠b.kb:=h.lo.mp.ne_blk h.ma.st
theorem a1e.km_cb(h:a1e w sb b N seed x):b.km≠b.cb:=h.ma.mp.ne_blk h.co.st
theorem a1e.km_lb(h:a1e w sb b N seed x):b.km≠b.lb:=h.ma.mp.ne_blk h.lo.st
theorem a1e.inN(h:a1e w sb b N seed x):sb∈N/\b.cb∈N/\b.cm∈N/\b.lb∈N/\b.lm∈N/\b.kb∈N/\b.km∈N:=
 ⟨h.sub _ ρp,h.sub _ (by simp[ShB.own]),h.sub _ (by simp[ShB.own]),h.sub _ (by simp[ShB.own]),h.sub _ (by simp[ShB.own]),h.sub _ (by simp[ShB.own]),h.sub _ (by simp[ShB.own])⟩
theorem a1e.setM(h:a1e w sb b N seed x){m:List (Ke×MkD)}(a:Fr (λk=>k=b.km) w w')(d:a0z w' b.kb b.km N m)(f:m.length<=128):a1e w' sb b N seed {x with M:=m}:=by
 have o:=h.inN;exact⟨h.st.fr a (λe=>h.sb_km e.symm),h.co.fr a (λe=>h.km_cb e.symm) h.ap.2.1,h.lo.fr a (λe=>h.km_lb e.symm) h.ap.2.2,d,h.rg.fr a (λk e=>by rw[e];exact o.2.2.2.2.2.2),h.sub,λj g=>Qh (h.lt j g) a.size,{h.ok with lM:=f},h.ap⟩
theorem a1e.setC(h:a1e w sb b N seed x){C:List (Pt×a1q)}(a:Fr (λk=>k=b.cb\/k=b.cm) w w')(d:a0i w' b.cb b.cm C s)(f:0<=s/\s<=18446744073709551615)(g:C.length<=256):a1e w' sb b N seed {x with C:=C,sC:=s}:=by
 have m:=h.inN;exact⟨h.st.fr a (λe=>e.elim (λe=>h.sb_cb e) (λe=>h.sb_cm e.symm)),d,h.lo.fr a (λe=>e.elim (λe=>h.cb_lb e.symm) (λe=>h.cm_lb e.symm)) (λe=>e.elim (λe=>h.lm_cb e) (λe=>h.ap.1 e.symm)),h.ma.fr a (λe=>e.elim (λe=>h.cb_kb e.symm) (λe=>h.cm_kb e.symm)) (λe=>e.elim (λe=>h.km_cb e) (λe=>h.ap.2.1 e.symm)) (λk e=>e.elim (λe=>by rw[e];exact m.2.1) (λe=>by rw[e];exact m.2.2.1)),h.rg.fr a (λk e=>e.elim (λe=>by rw[e];exact m.2.1) (λe=>by rw[e];exact m.2.2.1)),h.sub,λj o=>Qh (h.lt j o) a.size,{h.ok with sC:=f,lC:=g},h.ap⟩
theorem a1e.setL(h:a1e w sb b N seed x){L:List (Pt×a1J)}(a:Fr (λk=>k=b.lb\/k=b.lm) w w')(d:a0j w' b.lb b.lm L s)(f:0<=s/\s<=18446744073709551615)(g:L.length<=64):a1e w' sb b N seed {x with L:=L,sL:=s}:=by
 have m:=h.inN;exact⟨h.st.fr a (λe=>e.elim (λe=>h.sb_lb e) (λe=>h.sb_lm e.symm)),h.co.fr a (λe=>e.elim (λe=>h.cb_lb e) (λe=>h.lm_cb e.symm)) (λe=>e.elim (λe=>h.cm_lb e) (λe=>h.ap.1 e)),d,h.ma.fr a (λe=>e.elim (λe=>h.lb_kb e.symm) (λe=>h.lm_kb e.symm)) (λe=>e.elim (λe=>h.km_lb e) (λe=>h.ap.2.2 e.symm)) (λk e=>e.elim (λe=>by rw[e];exact m.2.2.2.1) (λe=>by rw[e];exact m.2.2.2.2.1)),h.rg.fr a (λk e=>e.elim (λe=>by rw[e];exact m.2.2.2.1) (λe=>by rw[e];exact m.2.2.2.2.1)),h.sub,λj o=>Qh (h.lt j o) a.size,{h.ok with sL:=f,lL:=g},h.ap⟩
theorem a1e.newC(f:a1e a sb b N seed x)(m:Below a a w){C:List (Pt×a1q)}(v:a.heap.size<=g)(d:Fr (λk=>k=b.cb) w w')(o:a0i w' b.cb g C s)(p:0<=s/\s<=18446744073709551615)(r:C.length<=256):a1e w' sb {b with cm:=g} (g::N) seed {x with C:=C,sC:=s}:=by
 have h:=f.below m;have y:=h.inN;have D:g ∉ N:=λe=>by have:=f.lt g e;omega
 have B:∀j,j<a.heap.size->j∈g::N->j∈N:=λj z F=>by
  rcases Qo.1 F with e | e
  ·omega
  exact e
 have E:∀k,k=b.cb->k∈g::N:=λk e=>by rw[e];exact Qj _ y.2.1
 refine⟨h.st.fr d (λe=>h.sb_cb e),o,h.lo.fr d (λe=>h.cb_lb e.symm) (λe=>h.lm_cb e),((f.ma.far_ B).below m).fr d (λe=>h.cb_kb e.symm) (λe=>h.km_cb e) E,((f.rg.far_ B).below m).fr d E,?_,?_,{h.ok with sC:=p,lC:=r},?_⟩
 ·intro j z
  simp only[ShB.own,Qo,Qt,or_false]at z
  rcases z with e | e | e | e | e | e | e
  ·rw[e];exact Qj _ y.1
  ·rw[e];exact Qj _ y.2.1
  ·rw[e];exact Qr
  ·rw[e];exact Qj _ y.2.2.2.1
  ·rw[e];exact Qj _ y.2.2.2.2.1
  ·rw[e];exact Qj _ y.2.2.2.2.2.1
  rw[e];exact Qj _ y.2.2.2.2.2.2
 ·intro j z
  rcases Qo.1 z with e | e
  ·rw[e];exact o.mp.lt
  exact Qh (h.lt j e) d.size
 exact⟨λe=>D (by show g∈N;rw[show g=b.lm from e];exact y.2.2.2.2.1),λe=>D (by show g∈N;rw[show g=b.km from e];exact y.2.2.2.2.2.2),h.ap.2.2⟩
theorem a1e.more(d:a1e a sb b N seed x)(f:Below a a w)(m:a.heap.size<=g/\g<w.heap.size):a1e w sb b (g::N) seed x:=by
 have h:=d.below f
 have o:∀j,j<a.heap.size->j∈g::N->j∈N:=λj p r=>by
  rcases Qo.1 r with e | e
  ·omega
  exact e
 exact⟨h.st,h.co,h.lo,(d.ma.far_ o).below f,(d.rg.far_ o).below f,λj p=>Qj _ (h.sub j p),λj p=>by
  rcases Qo.1 p with e | e
  ·rw[e];exact m.2
  exact h.lt j e,h.ok,h.ap⟩
theorem a1e.away(h:a1e w sb b N seed x)(d:Fr (λk=>k=g) w w')(f:g∈N)(a:g ∉ sb::b.own):a1e w' sb b N seed x:=by
 simp only[ShB.own,Qo,Qt,or_false,not_or]at a;have m:∀k,k=g->k∈N:=λk e=>by rw[e];exact f
 exact⟨h.st.fr d (λe=>a.1 e.symm),h.co.fr d (λe=>a.2.1 e.symm) (λe=>a.2.2.1 e.symm),h.lo.fr d (λe=>a.2.2.2.1 e.symm) (λe=>a.2.2.2.2.1 e.symm),h.ma.fr d (λe=>a.2.2.2.2.2.1 e.symm) (λe=>a.2.2.2.2.2.2 e.symm) m,h.rg.fr d m,h.sub,λj o=>Qh (h.lt j o) d.size,h.ok,h.ap⟩
theorem a1e.less{d:List Nat}(h:a1e w sb b d seed x)(a:∀j∈N,j∈d)(f:∀j∈sb::b.own,j∈N):a1e w sb b N seed x:=
 ⟨h.st,h.co,h.lo,h.ma.far_ (λj _ hj=>a j hj),h.rg.far_ (λj _ hj=>a j hj),f,λj hj=>h.lt j (a j hj),h.ok,h.ap⟩
theorem a3C.mk{c:a0y}(h:a3C B w c A cap)(d:∀j∈N,j<B){ex:Int}(b:-9223372036854775808<=ex/\ex<=9223372036854775807):a7b w N ⟨c,A,cap,ex⟩:=by
 obtain⟨x,v,e,r,g,m,f⟩:=h.2.2.rd;simp only[Value.slice.injEq]at e;obtain⟨rfl,-,rfl⟩:=e;rw[Qw]at g;exact⟨h.1,r,g,m,λa o=>⟨(f a o).2,λp=>by have:=d _ p;have:=(f a o).1;omega⟩,b,h.2.1⟩
theorem a3C.fr{B:Nat}{c:a0y}{A:OA}{cap:Nat}{F:Nat->Prop}(h:a3C B w c A cap)(a:Fr F w w')(hF:∀k,F k->k<B):a3C B w' c A cap:=
 ⟨h.1,h.2.1,h.2.2.fr a (λk hk e=>by have:=hF k e;have:=(h.2.2.lt hk).1;omega)⟩
end
end
section
theorem d2t(b:OA)(m d:Nat)(a:LI)(X:WD)(o:Byt X b a)(f:m=a.length)(g:b=none->d=0)(r:a.length<=400000000)(p:a2x X):
  Calls prog 132 #[.slice X 1 1] (X.alloc (.cells #[.slice b m d] 22)) λe w'=>e=.returned (.agg (bys (a3x a)).toArray)/\Below X X w':=by
 subst f;have z:=Qd X 22 #[.slice b a.length d];have y:=ρb X (.cells #[.slice b a.length d] 22)
 have B:b8s (X.alloc (.cells #[.slice b a.length d] 22)) X [.slice b a.length d] [a]:=⟨rfl,λ_=>⟨X.heap.size,0,rfl,z.lt,λj x v=>by rw[QP,z.cell j];simpa using v⟩,λi h D=>by
  obtain rfl:i=0:=by simp at h;omega
  exact⟨b,d,rfl,o.below y,g⟩⟩
 have:=b3k X 1 _ [a] _ B ρp (by simp;omega) (by
  intro x v;simp only[Zm,List.flatten_nil,ZC]at v;exact o.bd x v) (p.below y)
 refine this.mono ?_;rintro e w' ⟨rfl,w⟩;exact⟨by simp,y.trans (w.mono ρp)⟩
def b4M(x:ShD)(e:a1P):a1P:={e with sh:=x.me,ep:=x.ep}
def c3x(x:ShD)(cmd:LI)(e:a1P):LI:=a1n (a1n (a0R (a3x cmd)) (a0R (a5V (b4M x e)))) (a0R (a0K x.iss.toNat))
def a9K(x:ShD)(cmd:LI)(e:a1P):Bool:=a0D (b4M x e)&&okH x.h (decide (x.h.ht=0)) (c3x x cmd e) x.me x.ep
def a4T(x:ShD)(cmd:LI)(e:a1P):a0Q:=hdP x.h (decide (x.h.ht=0)) (c3x x cmd e) x.me x.ep
def a9F(seed:LI)(x:ShD)(cmd:LI)(e:a1P):a0y:=mkC seed (a3x cmd) (a0K x.iss.toNat) (b4M x e) (a4T x cmd e)
def c6z(sb:Nat)(b:ShB)(N:List Nat)(seed:LI)(x:ShD)(cmd:LI)(e0:a1P)(Bn:Nat)(e:Ending)(w':WD):Prop:=
 (a9K x cmd e0=true/\∃A cap,e=.returned (.agg (a0d (a9F seed x cmd e0) A cap).toArray)/\a3C Bn w' (a9F seed x cmd e0) A cap/\a1e w' sb b N seed {x with h:=a4T x cmd e0})\/(a9K x cmd e0=false/\b7C 17 e)
theorem c9e{x:ShD}(b:b9N x){e:a1P}(a:e.Bd):(b4M x e).Bd:=⟨a.kind,(by have:=b.me;have:=b.n;show InI x.me;unfold InI;omega),a.tx,a.am,a.why,(by have:=b.ep;show InI x.ep;unfold InI;omega)⟩
theorem b9U{x:ShD}(d:b9N x){a:LI}{e:a1P}(b:a9K x a e=true):a0D (b4M x e)=true/\okH x.h (decide (x.h.ht=0)) (c3x x a e) x.me x.ep=true/\a0w (a4T x a e)=true/\(a4T x a e).sh=x.me/\(a4T x a e).ep=x.ep/\(a4T x a e).root=c3x x a e:=by
 unfold a9K at b;rw[QA]at b;refine⟨b.1,b.2,?_⟩;have g:=b.2;unfold okH at g;rw[QA]at g;refine⟨g.2,?_⟩;unfold a4T hdP
 by_cases f:x.h.ht=0
 ·simp[f]
 simp only[f,decide_false,QI,if_false,and_true]
 rcases d.head with m | ⟨_,j⟩
 ·rw[m]at f;exact absurd rfl f
 exact j
def c9a(prev:a0Q)(first:Bool)(D:LI)(e:a1P)(iss:Nat)(sh ep:Int):Bool:=a0D e&&okH prev first (a1n (a1n (a0R D) (a0R (a5V e))) (a0R (a0K iss))) sh ep
def nxH(prev:a0Q)(first:Bool)(D:LI)(e:a1P)(iss:Nat)(sh ep:Int):a0Q:=if a0D e=true then b1F prev first (a1n (a1n (a0R D) (a0R (a5V e))) (a0R (a0K iss))) sh ep else a1y
theorem d0y{prev:a0Q}(a:a0w (hdP prev first root sh ep)=true)(hd:Dig root):(hdP prev first root sh ep).Bd:=by
 have h:=(a3B _).1 a
 have b:Dig (hdP prev first root sh ep).prev:=by
  unfold hdP
  split
  ·exact ZZ
  exact Dig.hid prev
 have d:Dig (hdP prev first root sh ep).root:=by
  unfold hdP
  split<;>exact hd
 exact⟨⟨by omega,by omega⟩,⟨by omega,by omega⟩,⟨by omega,by omega⟩,b,d⟩
theorem c5k{prev:a0Q}(hd:Dig root):(b1F prev first root sh ep).Bd:=by
 unfold b1F
 split
 ·rename_i h
  unfold okH at h;rw[QA]at h;exact d0y h.2 hd
 exact a1A
theorem d1c(prev:a0Q)(first:Bool)(D:LI)(e:a1P)(iss:Nat)(sh ep:Int):(nxH prev first D e iss sh ep).Bd:=by
 unfold nxH
 split
 ·exact c5k (Dig.node _ _)
 exact a1A
def d3r(prev:a0Q)(first:Bool)(D:LI)(e:a1P)(iss:Nat)(sh ep:Int)(r:Ending)(w':WD):Prop:=
 ∃
  gA gn,r=.returned (.tuple #[.slice gA gn gn,.bool (a0D e)])/\
  (∀X,Below w' w' X->Calls prog 205 #[.agg (a0b prev).toArray,.bool first,.slice gA gn gn,.int .i64 sh,.int .i64 ep] X λy w2=>y=.returned (.tuple #[.agg (a0b (nxH prev first D e iss sh ep)).toArray,.bool (c9a prev first D e iss sh ep)])/\Below X.heap.size X w2)/\
  (a0D e=true->∃g3,gA=some ⟨g3,0,none⟩/\gn=3/\a4M w' g3 0 D/\a4M w' g3 1 (a5V e)/\a4M w' g3 2 (a0K iss))
theorem c5Z(d:Nat)(D:LI)(b:Dig D)(e:a1P)(f:e.Bd)(iss:Nat)(hi:iss<=4611686018427387904)(prev:a0Q)(a:prev.Bd)(first:Bool)(sh ep:Int)(g:InI sh)(j:InI ep)(w:WD)(o:Byt w d D)(m:a2x w):
  Calls prog 204 #[.slice d 32 32,.agg (a0x e).toArray,.int .u64 iss] w λr w'=>d3r prev first D e iss sh ep r w'/\Below w w w':=by
 cases hr:a0D e with
 |
  false=>
  refine(b9v d 32 32 e f (iss:Int) (.inl hr) w).mono ?_;rintro r w' ⟨rfl,p⟩;refine⟨⟨none,0,by rw[hr],λX _=>?_,λh=>by rw[hr]at h;cases h⟩,p⟩
  have:=c1g prev a first sh ep X
  have x:nxH prev first D e iss sh ep=a1y:=by unfold nxH;rw[hr];rfl
  have y:c9a prev first D e iss sh ep=false:=by unfold c9a;rw[hr];rfl
  rw[x,y];exact this
 |
  true=>
  have:=b6b d 32 (λh=>by cases h) D (by rw[b.1];omega) e f hr iss hi w o
  rw[b.1]at this;refine this.mono ?_;rintro r w' ⟨⟨z,rfl,B,l2,E⟩,p⟩;refine⟨⟨some ⟨z,0,none⟩,3,by rw[hr],λX v=>?_,λ_=>⟨z,rfl,rfl,B,l2,E⟩⟩,p⟩;have G:=a9Y f;have F:=a0p (n:=iss) ρo
  have:=c1F prev a first z D (a5V e) (a0K iss) sh ep g j X (B.below v) (l2.below v) (E.below v) (by rw[b.1];omega) ρo ρo ((m.below p).below v) _ rfl
  have x:nxH prev first D e iss sh ep=b1F prev first (a1n (a1n (a0R D) (a0R (a5V e))) (a0R (a0K iss))) sh ep:=by unfold nxH;rw[if_pos hr]
  have y:c9a prev first D e iss sh ep=okH prev first (a1n (a1n (a0R D) (a0R (a5V e))) (a0R (a0K iss))) sh ep:=by unfold c9a;rw[hr];rfl
  rw[x,y];exact this
attribute [local go_sem ↓] a1W a1l a4z a4E a1D a3u a3h a2t a2s a2n a3w
theorem a5C(r:Nat)(b:ShB)(N:List Nat)(seed:LI)(x:ShD)(A:OA)(n c:Nat)(f:LI)(F:n=f.length)(H:A=none->c=0)(E:f.length<=100000000)(e0:a1P)(z:e0.Bd)(w:WD)(h:a1e w r b N seed x)(B:Byt w A f)(y:a2x w):
  Calls prog 147 #[.pointer r,.slice A n c,.agg (a0x e0).toArray] w λe w'=>c6z r b N seed x f e0 w.heap.size e w'/\Fr (λk=>k=r) w w':=by
 have⟨g,hg⟩:=ηs w;have aV:=a0u z;have cA:=z.tx.1;have b0:=Qd w 34 (((a0x e0).toArray));have B0:=ρb w (.cells (((a0x e0).toArray)) 34)
 generalize hW:w.alloc (.cells (((a0x e0).toArray)) 34)=W at b0 B0
 rw[hg]at b0;have bN:W.heap.size=g+1:=by rw[<-hW,Qi,hg]
 have bg:=a9u W;have⟨zc,bf⟩:=η0 ((a0d a0r none 0).toArray);rw[bf,bN]at bg;have bS:=b0.alloc (.cells zc 39);have bz:=Qd W 39 zc;have B1:Below w w (W.alloc (.cells zc 39)):=B0.alloc B0.size _
 generalize hV:W.alloc (.cells zc 39)=V at bS bz B1 bg
 rw[bN]at bz;have cu:(ALs 39).run prog (w.alloc (.cells (a0x e0).toArray 34))=.ok (.pointer (g+1:Nat)) V:=by rw[hW];exact bg
 have R:=(h.below B1).drew;have BX:Below w w V.drew:=B1.drew;have bX:Blk V.drew g 34 (a0x e0).toArray:=bS.drew;have bZ:Blk V.drew (g+1) 39 zc:=bz.drew;have⟨X,hX⟩:=η0 V.drew;rw[hX]at R BX bX bZ;have bi:=h.st.lt;have ag:X.cell? ⟨r,0,none⟩=some (.int .i64 x.me)/\X.cell? ⟨r,3,none⟩=some (.int .i64 x.ep):=⟨R.c.1,R.c.2.2.2.1⟩;have p1:X.cell? ⟨g,1,none⟩=some (.int .i64 e0.sh):=(bX.cell 1).trans rfl;have z1:=bX.frozen 1;have k1:=bX.set_ 1 (.int .i64 x.me);rw[b2D]at k1;have f1:Fr (λk=>k=g) X (X.setCell ⟨g,1,none⟩ (.int .i64 x.me)):=(Qp (λk=>k=g) X).setCell (p:=⟨g,1,none⟩) (λ_=>rfl) _
 generalize cq:X.setCell ⟨g,1,none⟩ (.int .i64 x.me)=Y1 at k1 f1
 have dl:r<X.heap.size:=by have:=R.st.lt;omega
 have aM:=R.st.fr f1 (show¬_=_ by omega);have cB:Y1.cell? ⟨r,0,none⟩=some (.int .i64 x.me)/\Y1.cell? ⟨r,3,none⟩=some (.int .i64 x.ep):=⟨(aM.cell 0).trans rfl,(aM.cell 3).trans rfl⟩;have p2:Y1.cell? ⟨g,36,none⟩=some (.int .i64 e0.ep):=(k1.cell 36).trans (by simp[a0x,List.getElem?_append,a0a,cA]);have z2:=k1.frozen 36;have k2:=k1.set_ 36 (.int .i64 x.ep);rw[b1R (by exact cA)]at k2;have f2:Fr (λk=>k=g) Y1 (Y1.setCell ⟨g,36,none⟩ (.int .i64 x.ep)):=(Qp (λk=>k=g) Y1).setCell (p:=⟨g,36,none⟩) (λ_=>rfl) _
 generalize dg:Y1.setCell ⟨g,36,none⟩ (.int .i64 x.ep)=Y2 at k2 f2
 have ff:=f1.trans f2 (λ_ _ e=>e);have B2:Below w w Y2:=BX.trans (ff.below BX.size (λk hk e=>ρo));have cI:a1e Y2 r b N seed x:=h.below B2;have cU:=bZ.fr ff (show¬_=_ by omega);have T:=d2t A n c f Y2 (B.below B2) F H ρo (y.below B2);have a8:Dig (a3x f):=Dig.sha f;have⟨D,hD⟩:=η0 (a3x f);rw[hD]at T a8;have cr:(bys D).length=32:=by rw[a0a,a8.1]
 obtain⟨ZI,bl,bt,dX⟩:=P8 (t:=31) iId b1N
 generalize dP:(a0x e0).toArray=ev at cu⊢
 have cP:zc.size=137:=by rw[<-bf,Qc];exact a0l a0B none 0
 have an:=a9u;simp only[bf]at an;have⟨cO,dv,ds,HX,HG,dA,du,dO⟩:=η8 an h ag hX hg cB cq dg;have⟨K2,aS,dF,db,P2,Z2,cV,dM⟩:=η8 k2 B2 cI cU p2 z2 T cr;have⟨b5,av,da,cH,dJ,ck,bn⟩:=η7 a8 hD bl bt y cP bi;clear an h ag hX hg cB cq dg k2 B2 cI cU p2 z2 T cr a8 hD bl bt y cP bi R bX b0 bS bz bZ B0 B1 BX hV hW bg bN bf dl aM k1 f1 f2 ff dP aV B F H E;go_enter func147,ntmps147;go_upto_region 1 with fail
 rw[HG.o];refine a0s [(0,3),(1,3),(2,3),(4,3),(5,3),(6,3),(3,0),(8,3),(7,0),(9,1),(10,3),(11,2)] (λW=>W.cell? ⟨r,0,none⟩=some (.int .i64 x.me)/\W.cell? ⟨r,3,none⟩=some (.int .i64 x.ep)) ρk ρk ρk ρk (ρy HX.o ds.o) ?_;rw[HX.o];refine ε6 ?_
 iterate 1 refine θ1 (λW' hS=>hS.1) ?_
 refine ε1 ?_
 iterate 1 refine θ1 (λW' hS=>hS.2) ?_
 refine κ ?_;intro K hK;rw[du.o];with_reducible refine hK _ _ (dA.o) ?_;clear hK K;clear p1 z1
 have p2:=P2.o;have z2:=Z2.o;refine ε1 ?_;refine τ ?_;intro K hK;rw[dO.o];with_reducible refine hK _ _ ?_;clear hK K;clear p2 z2
 refine ν ?_;go_upto_region 2 with fail
 have T:=cV.o;go_wp2_with fail;refine μi T ?_;intro w3 cK;clear T;have ca:=da.o w3;have aU:=cH.o w3 (bys D) dM.o (a0h _);have bD:=Qd w3 31 (bys D).toArray;have BD:=(Qf _ w3).alloc (Qg _) (.cells (bys D).toArray 31);have⟨d,hd⟩:=ηs w3;rw[hd]at ca aU bD;have aX:Below Y2 Y2 w3:=cK
 generalize dm:w3.alloc (.cells (bys D).toArray 31)=Y3 at aU bD BD
 have ad:Below Y2 Y2 Y3:=aX.trans (BD.mono aX.size);have k3:=φf K2 ad;have c2:=dF.below ad;have cZ:=dJ.below (φt aS ad);have⟨dw,ab,K3,cY,cQ⟩:=η5 bD ad k3 c2 cZ;clear bD ad k3 c2 cZ BD aX cK dm;have⟨U0,b2⟩:=η0 Y3.drew;have ac:Below Y3 Y3 U0:=by rw[<-b2];exact(Qf _ Y3).drew
 have aC:=cY.ok;have aA:=c9e aC (z);have aV:=a0u aA;have FE:=λX (hX:Below Y3 Y3 X)=>P4 b3q a8Q (a0x (b4M x e0)) (φf K3 hX) aV
 have FS:=λX (hX:Below Y3 Y3 X)=>cY.below hX
 have FD:=λX (hX:Below Y3 Y3 X)=>b3N (φf dw hX) b5.2
 have cC:=aC.iss;obtain⟨i,hi⟩:∃i:Nat,x.iss=(i:Int):=⟨x.iss.toNat,by omega⟩;have dh:x.iss.toNat=i:=ρo;have bu:InI x.me:=aA.sh;have bp:InI x.ep:=aA.ep;have b7:=λX (hX:Below Y3 Y3 X)=>c5Z d D b5.o (b4M x e0) aA i ρo x.h aC.h (decide (x.h.ht=0)) x.me x.ep bu bp X (FD X hX) (cQ.below hX)
 have⟨bR,aY⟩:=η0 ((a0x (b4M x e0)).toArray);simp only[aY]at FE b7;have bi:∀W',(SLs 31 (.pointer d) none none none).run prog W'=.ok (.slice d 32 32) W':=λW'=>a4Q b1w ρk W' d ρo
 have cJ:(LDs 34 (.pointer g)).run prog U0=.ok (.agg bR) U0/\U0.cell? ⟨r,5,none⟩=some (.int .u64 i):=⟨FE U0 ac,by rw[<-hi];exact(FS U0 ac).c.2.2.2.2.2.1⟩;have c6:=b7 U0 ac;have⟨dk,a1,dS,dt,cL,ci,cw,dU⟩:=η8 FE FS FD cJ b2 ac aA aV;have⟨HI,ba,ai,di⟩:=η4 hi dh aC aY;clear FE FS FD cJ b2 ac aA aV hi dh aC aY b7 cC bu bp z;go_upto_region 3 with fail
 refine a0s [(0,3),(2,3),(3,3),(4,3),(1,0),(5,0),(6,2),(7,3),(8,3),(9,3),(10,3),(11,3)] (λX=>(LDs 34 (.pointer g)).run prog X=.ok (.agg bR) X/\X.cell? ⟨r,5,none⟩=some (.int .u64 i)) ρk ρk ρk ρk (ρy cL.o dt.o) ?_;rw[cL.o];refine ε4 ?_
 iterate 2 refine θ2 (λW' hS=>QU hS.1 hS.2) ?_
 refine τ ?_;intro K hK;refine μ1 c6 ?_;rintro e w6 ⟨⟨gA,gn,rfl,b4,bQ⟩,ct⟩;with_reducible refine hK _ _ ?_;clear hK K
 refine ε5 ?_;clear c6;refine ν ?_;have⟨U,hU⟩:=η0 w6.drew;have af:Below w6 w6 U:=by rw[<-hU];exact(Qf _ w6).drew
 have aG:=φt ci ct;have S:=aG.trans (af.mono aG.size);have⟨ak,aI⟩:=η0 (a0D (b4M x e0));have⟨okN,aJ⟩:=η0 (c9a x.h (decide (x.h.ht=0)) D (b4M x e0) i x.me x.ep);have⟨nh,bc⟩:=η0 (nxH x.h (decide (x.h.ht=0)) D (b4M x e0) i x.me x.ep);have a0:nh.Bd:=by rw[<-bc];exact d1c _ _ _ _ _ _ _
 have aN:=a0f a0;have F1:=λY (hY:Below U U Y)=>(a1.o Y (S.trans (hY.mono S.size))).ldh
 have F2:=λY (hY:Below U U Y)=>(a1.o Y (S.trans (hY.mono S.size))).c
 have⟨S0,ag⟩:=η0 ((λY=>(LDs 37 (.pointer (some ⟨r,10,none⟩))).run prog Y=.ok (.agg (a0b x.h).toArray) Y/\Y.cell? ⟨r,11,none⟩=some (.int .i64 x.h.ht)/\Y.cell? ⟨r,0,none⟩=some (.int .i64 x.me)/\Y.cell? ⟨r,3,none⟩=some (.int .i64 x.ep)):WD->Prop);have c5:∀Y,Below U U Y->S0 Y:=λY hY=>by rw[<-ag];exact⟨F1 Y hY,(F2 Y hY).2.2.2.2.2.2.2.2.2.2,(F2 Y hY).1,(F2 Y hY).2.2.2.1⟩
 rw[bc,aJ]at b4;rw[aI]at bQ⊢;have ah:=λX (hX:Below U U X)=>b4 X (af.trans (hX.mono af.size))
 have⟨fb,bk⟩:=η0 (decide (x.h.ht=0));simp only[bk]at ah;have⟨hv,b3⟩:=η0 (a0b x.h);rw[b3]at ag;simp only[b3]at ah;have⟨nv,aB⟩:=η0 (a0b nh);rw[aB]at aN;simp only[aB]at ah;have bB:∀v∈nv,v.oneCell'=true:=by rw[<-aB];exact a1p _
 have bA:=a6H;have⟨zh,bU⟩:=η0 ((a0b a1y).toArray);have bF:zh.size=67:=by rw[<-bU,Qc];exact a0f a1A
 simp only[bU]at bA;have⟨ht,a7⟩:=η0 x.h.ht;rw[a7]at bk;have c8:(ht == 0)=fb:=by rw[<-bk];rfl
 rw[a7]at ag;have⟨cS,cd,HU,cg,br,c1,c0,cX⟩:=η8 ag c5 hU S af bQ ah aI;have⟨de,dL,aq,au,df,bq,dx,dW⟩:=η8 aJ bc a0 aN aB bB bF a7;clear ag c5 hU S af bQ ah aI aJ bc a0 aN aB bB bF a7 F1 F2 bU b3 b4 aG ct bi;go_upto_region 4 with fail
 with_reducible refine a4F (λi=>i != 19&&i != 24) S0 ρk ?_
 rw[HU.o];refine a2b (m:=7) (Lf:=#[true,true,true,true,true,true,true,true,true,true,true,true,true,true,true,true,true,true,true,false,false,false,false,false,false,false]) [(0,3),(1,3),(2,3),(4,3),(5,3),(6,3),(7,3),(10,3),(11,3),(12,3),(13,3),(15,3),(16,3),(17,3),(3,0),(8,0),(9,3),(14,0),(18,0)] true ρk ρk ρk (λ_=>cd.o _ (Qf _ _)) ?_;refine εc4 ?_;refine εc4 ?_;refine εc4 ?_;refine εc1 ?_;refine εc1 ?_
 iterate 2 refine θc4 (λ_ h=>by rw[<-cS.o]at h;exact h) ?_
 refine εc1 ?_
 iterate 2 refine θc4 (λ_ h=>by rw[<-cS.o]at h;exact h) ?_
 with_reducible refine a2m ?_
 refine a2A (j:=23) (n:=2) (Lf:=#[true,true,true,true,true,true,true,true,true,true,true,true,true,true,true,true,true,true,true,true,true,true,true,true,false,false]) (t:=37) (Z:=zh) [(19,2),(20,3),(21,3),(22,3)] ρk ρk ρk ρu rfl (λa X=>by go_simp) cd.o ?_;intro X0 R;have c4:=c0.o X0 R;have dK:=η1 R;clear R bA;with_reducible refine a4f (o:=?_) ρu ρu (λK hK=>?_)
 refine ψ ?_;go_simp;refine μ1 c4 ?_;rintro e dV ⟨rfl,aP⟩;clear c4;have aW:=φt dK aP;with_reducible refine hK _ _ aP (λdq bH=>?_);clear hK K
 have bG:=η1 (aW.trans (bH.mono aW.size));clear aP bH aW
 iterate 3 (with_reducible refine a8f (o:=?_) (v:=?_) (a':=?_) ρu ρu (λW'=>?_) ?_ ?_;rotate_left 2;(focus exact ρs);focus(exact ρs))
 with_reducible refine a6e ?_;intro b8 bO aR ao
 have bb:=P7 a1h ao dx nv au bq;have r1:=ao.row_ nv.toArray;have r2:=Ql (g:=bO) bG.o aR nv.toArray;have⟨R1,R2,dR,dQ⟩:=η4 r1 r2 ao aR;clear r1 r2 ao aR b8;refine a1c [(24,2),(25,3)] true ρk ρk ρk (λ_=>cd.o _ bG.o) ?_;refine τ1 ?_;refine ε1 ?_;clear bb;refine ν ?_;have⟨Y4,bL⟩:=η0 (dq.setRow bO nv.toArray);have r1:=R1.o;have r2:=R2.o;rw[bL]at r1 r2;have bw:=φt cg r2;have⟨R1,bs,dn,dd⟩:=η4 r1 bw bL r2;clear r1 bw bL r2 bk c8
 have al:a9K x f e0=(ak&&okN):=by
  have h1:=cX.o;have h2:=de.o;rw[<-h1,<-h2];unfold a9K c9a
  cases h:a0D (b4M x e0)with
  | false=>rfl
  | true=>simp only[Y5];unfold c3x;rw[ba.o,av.o]
 go_upto_region 5 with fail
 rw[dn.o]
 cases hokb:(ak&&okN)with
 |
  false=>
  rw[hokb]at al;have aj:=a0X true 17 Y4;simp only[if_true]at aj;have hm:=a1m 17 ρo Y4;have az:Fr (λk=>k=r) w Y4:=(Q9 (aS.trans ((ab.trans (bs.mono ab.size)).mono aS.size))).mono (λk hk e=>by have:=bn.o;omega);have⟨a4,bh⟩:=η2 al az;clear al az
  rcases(show ak=false\/(ak=true/\okN=false) by revert hokb;cases ak<;>cases okN<;>simp)with e1 | ⟨e1,e2⟩
  ·subst e1
   clear hokb;go_wp2_with fail;refine μf aj ?_;go_wp2_with fail;refine μf hm ?_;exact⟨rfl,.inr ⟨a4.o,by omega,rfl⟩,bh.o⟩
  subst e1 e2;clear hokb;go_wp2_with fail;refine μf aj ?_;go_wp2_with fail;refine μf hm ?_;exact⟨rfl,.inr ⟨a4.o,by omega,rfl⟩,bh.o⟩
 |
  true=>
  rw[hokb]at al;obtain⟨e1,e2⟩:ak=true/\okN=true:=by revert hokb;cases ak<;>cases okN<;>simp
  subst e1 e2;clear hokb;have aj:=a0X false 17 Y4;simp only[QI,if_false]at aj;have hm:=a1o Y4;obtain⟨f1,f2,f3,f4,f5,f6⟩:=b9U ai al
  have Q:nh=a4T x f e0:=by
   have h1:=dL.o;rw[<-h1];unfold nxH b1F a4T;rw[if_pos f1];have h2:a1n (a1n (a0R D) (a0R (a5V (b4M x e0)))) (a0R (a0K i))=c3x x f e0:=by unfold c3x;rw[ba.o,av.o]
   rw[h2,if_pos f2]
  rw[<-Q]at f3 f4 f5 f6;obtain⟨g3,rfl,rfl,l1,l2,l3⟩:=c1.o rfl;have a2:Below w6 w6 Y4:=br.trans (dd.mono br.size);have⟨U6,bY⟩:=η0 Y4.drew;have ax:Below Y4 Y4 U6:=by rw[<-bY];exact(Qf _ Y4).drew
  have I:=φt bs ax;have O:=a2.trans (ax.mono a2.size);have rb:=φf R1 ax;have G1:=λY (hY:Below U6 U6 Y)=>dk.o Y (I.trans (hY.mono I.size))
  have G2:=λY (hY:Below U6 U6 Y)=>P4 a1S a1h nv (rb.fr (Q9 hY) (ρh rb.lt)) au.o
  have G3:=λY (hY:Below U6 U6 Y)=>(a1.o Y (I.trans (hY.mono I.size))).c.2.2.1
  have⟨S6,bW⟩:=η0 ((λY=>(LDs 34 (.pointer g)).run prog Y=.ok (.agg bR) Y/\(LDs 37 (.pointer bO)).run prog Y=.ok (.agg nv.toArray) Y/\Y.cell? ⟨r,2,none⟩=some (.pointer b.rp)):WD->Prop);have bo:∀Y,Below U6 U6 Y->S6 Y:=λY hY=>by rw[<-bW];exact⟨G1 Y hY,G2 Y hY,G3 Y hY⟩
  have dE:=ai.me;have dz:=ai.n;have a9:mkC seed D (a0K i) (b4M x e0) nh=a9F seed x f e0:=by unfold a9F;rw[Q,ba.o,av.o]
  have aE:nh.root=a1n (a1n (a0R D) (a0R (a5V (b4M x e0)))) (a0R (a0K i)):=by rw[f6];unfold c3x;rw[ba.o,av.o]
  have bP:=ai.iss;have dp:=HI.o;have cz:=a0p (n:=i) ρo;have be:=λX (hX:Below U6 U6 X)=>b5z b.rp x.n.toNat seed ρo g3 D (a0K i) (b4M x e0) nh cw.o aq.o X (a1.o X (I.trans (hX.mono I.size))).rg.at_ (l1.below (O.trans (hX.mono O.size))) (l3.below (O.trans (hX.mono O.size))) (by rw[b5.1];omega) ρo f1 f3 (f4.symm) (f5.symm) (by rw[f4];omega) aE (cQ.below (I.trans (hX.mono I.size)))
  rw[a9]at be;have aH:(a9F seed x f e0).Bd:=by rw[<-a9];exact c6t cw.o aq.o
  have aD:(a9F seed x f e0).path.length=2:=by rw[<-a9];rfl
  have⟨cc,a5⟩:=η0 (a9F seed x f e0);simp only[di.o,df.o,a5]at be;rw[a5]at aH aD;have bx:b9N {x with h:=nh}:={ai.o with h:=aq.o,head:=.inr ⟨f3,f4⟩};have a3:=c3H ai.h b aq;rw[df.o]at a3;have cj:∀X:WD,(ALs 39).run prog X=.ok (.pointer (some ⟨X.heap.size,0,none⟩)) (X.alloc (.cells zc 39)):=cO.o;have⟨c9,aF,dr,aT,dI,bI,cx,dG⟩:=η8 bW bo bY I be aH aD a5;have⟨cE,cD,a4,cy,dB⟩:=η5 bx a3 al Q rb;clear bW bo bY I be aH aD a5 bx a3 al Q rb G1 G2 G3 l1 l2 l3 f1 f2 f3 f4 f5 f6 dE dz a9 aE bP dp cz a2 O ax c1 c0;go_wp2_with fail;refine μf aj ?_;go_wp2_with fail;refine μf hm ?_;clear aj hm;go_upto_region 6 with fail
  with_reducible refine a4F (λi=>i != 7&&i != 12) S6 ρk ?_
  rw[dr.o];refine a2b (m:=7) (Lf:=#[true,true,true,true,true,true,true,false,false,false,false,false,false,false]) [(0,3),(1,3),(2,3),(4,3),(3,0),(5,0),(6,0)] true ρk ρk ρk (λ_=>aF.o _ (Qf _ _)) ?_;refine εc4 ?_
  iterate 3 refine θc3 (λ_ h=>by rw[<-c9.o]at h;exact h) ?_
  with_reducible refine a2m ?_
  refine a2A (j:=11) (n:=2) (Lf:=#[true,true,true,true,true,true,true,true,true,true,true,true,false,false]) (t:=39) (Z:=zc) [(7,2),(8,3),(9,3),(10,3)] ρk ρk ρk ρu rfl (λa X=>by go_simp) aF.o ?_;intro Z0 bT;have c7:=dI.o Z0 bT;have cv:=η1 bT;clear bT cj;with_reducible refine a4f (o:=?_) ρu ρu (λK hK=>?_)
  refine ψ ?_;go_simp;refine μ1 c7 ?_;rintro e7 w7 ⟨⟨A7,J,rfl,dc⟩,b6⟩;clear c7;have ch:=φt cv b6;have bv:=cv.size;have bJ:=dc.base (B':=U6.heap.size) bv;have⟨cM,cG⟩:=η2 bJ ch;clear bJ ch dc bv;with_reducible refine hK _ _ b6 (λZ7 bV=>?_);clear hK K
  have bK:=a0T.keep cM bV;have cf:=η1 (φt cG bV);clear b6 bV cM
  iterate 3 (with_reducible refine a8f (o:=?_) (v:=?_) (a':=?_) ρu ρu (λW'=>?_) ?_ ?_;rotate_left 2;(focus exact ρs);focus(exact ρs))
  with_reducible refine a6e ?_;intro b8 a6 aZ ay
  have cT:=a4l bK.own ay ρd;have ar:=a0l bI A7 J;have bb:=P9 a4U ay ck (a0d cc A7 J) ar (a2C cc A7 J);have r1:=ay.row_ (a0d cc A7 J).toArray;have f6:=ρr (a6) Z7 (a0d cc A7 J).toArray;have r2:=Ql (g:=a6) cf.o aZ (a0d cc A7 J).toArray;have aa:=bK.fr f6 (λj hj e=>cT (by rw[hj,e]));have⟨cs,bj⟩:=η0 (a0d cc A7 J);rw[bj]at bb r1 r2 aa ar;simp only[bj];have⟨Q1,Q2,dD,aL,c3,cW⟩:=η6 r1 r2 aa ar bj aZ;clear r1 r2 aa ar bj aZ ay b8 cT f6 bK;refine a1c [(12,2),(13,3)] true ρk ρk ρk (λ_=>aF.o _ cf.o) ?_;refine τ1 ?_;refine ε1 ?_;clear bb;refine ν ?_;have⟨Y7,dy⟩:=η0 (Z7.setRow a6 cs.toArray);have q1:=Q1.o;have q2:=Q2.o;have aa:=dD.o;rw[dy]at q1 q2 aa;have aQ:=φt aT q2;have b9:=a1.o Y7 aQ;have kh:=φf dB q2;have ldh:=P4 a1S a1h nv kh au;have bC:=Pa a1h b9.st (off:=10) nv au.o (by rw[Qc,b3p ai.h];omega) bq.o
  have k8:=b9.st.row_ (a1d (shV x b).toArray 10 nv);rw[cD.o]at bC k8;have⟨W8,dH⟩:=η0 (Y7.setRow r (shV {x with h:=nh} b).toArray);have f8:=ρr (r) Y7 (shV {x with h:=nh} b).toArray;rw[dH]at bC k8 f8;have cF:=bn.o;have dN:=HG.o;have e1:=aS.size;have e2:=ab.size;have e3:=aT.size;have e4:=cW.o;have e5:=q2.size;have cN:=q1.fr f8 (show¬a6=r by omega);have dY:=P4 a8j a4U cs cN aL;have aK:=φt ab aQ;have ce:=(φf db aK).fr f8 (show¬g+1=r by omega);have cn:=P9 a4U ce ck.o cs aL.o (by rw[<-c3.o];exact a2C cc A7 J);have q5:=ce.row_ cs.toArray;have f9:Fr (λj=>j=g+1) W8 (W8.setRow (g+1) cs.toArray):=(Qp (λj=>j=g+1) W8).setRow (g:=g+1) (λ_=>rfl) _
  generalize dT:W8.setRow (g+1) cs.toArray=W9 at cn q5 f9
  have bE:=φt aS aK;have az:Fr (λk=>k=r) w W9:=(((Q9 bE).mono (G:=λk=>k=r) (λk hk e=>ρo)).trans f8 (λk hk e=>e)).trans f9 (λk hk e=>ρo);have cp:a1e W9 r b N seed {x with h:=nh}:=dv.upd az (k8.fr f9 ρo) cE.o rfl rfl rfl rfl rfl rfl;have bm:=((aa.fr f8 (λj hj e=>by have:=(aa.lt hj).1;omega)).fr f9 (λj hj e=>by have:=(aa.lt hj).1;have:=db.lt;omega)).base (B':=w.heap.size) ρo;have Q:=cy.o;have ae:=dG.o;have aO:∀e:Ending,e=.returned (.agg cs.toArray)->c6z r b N seed x f e0 w.heap.size e W9:=λe z=>.inl ⟨a4.o,A7,J,by rw[ae,c3.o];exact z,⟨by rw[ae];exact bI.o,by rw[ae,cx.o];omega,by rw[ae];exact bm⟩,by rw[<-Q];exact cp⟩
  have⟨Q5,bM,bh⟩:=η3 q5 aO az;clear q5 aO az cp bm Q ae bE f9 ce cN aK e1 e2 e3 e4 e5 cF dN f8 k8 b9 kh aQ q1 q2 aa;go_wp2_with fail;obtain⟨dC,dj,cR⟩:=Q8.1 a8j;refine bodyPost_ret (v:=.agg cs.toArray) (a0c rfl _ _ (g+1) _ cs dC rfl Q5 dj cR (ρy aL.o a4U)) rfl ?_;exact⟨bM.o _ rfl,bh.o⟩
end
section
def b4G(id:LI)(n me:Int):List Nat->Option Nat
 | []=>none
 | i::l=>if ofO id (i:Int) n=me then some i else b4G id n me l
def b9R(id:LI)(n me:Int):Option Nat:=b4G id n me (List.range 16)
theorem b0t(id:LI)(n me:Int):∀(a b:List Nat),(∀i∈a,ofO id (i:Int) n≠me)->b4G id n me (a++b)=b4G id n me b
 | [],_,_=>rfl
 |
  i::a,b,h=>by
  rw[QG,b4G,if_neg (h i Qr)];exact b0t id n me a b (λj hj=>h j (Qj _ hj))
theorem c2M(hi:i<16)(h:∀j:Nat,j<i->ofO id (j:Int) n≠me)(a:ofO id (i:Int) n=me):b9R id n me=some i:=by
 unfold b9R
 have e:List.range 16=List.range i++(i::List.range' (i+1) (16-(i+1))):=by
  rw[show i::List.range' (i+1) (16-(i+1))=List.range' i (16-i) by rw[show 16-i=(16-(i+1))+1 by omega,List.range'_succ],List.range_eq_range',List.range_eq_range']
  have:= @List.range'_append_1 0 i (16-i)
  rw[QP]at this;rw[this]
  congr 1;omega
 rw[e,b0t id n me _ _ (λj b=>h j (ZU.1 b)),b4G,if_pos a]
theorem b9T(h:∀j:Nat,j<16->ofO id (j:Int) n≠me):b9R id n me=none:=by
 unfold b9R
 have:=b0t id n me (List.range 16) [] (λj a=>h j (ZU.1 a))
 rw[ZC]at this;rw[this];rfl
theorem c9q(h:b9R id n me=some i):i<16:=by
 have:∀(l:List Nat),b4G id n me l=some i->i∈l:=by
  intro l
  induction l with
  | nil=>intro h;cases h
  |
   cons j l a=>
   intro h;rw[b4G]at h
   split at h
   ·cases h;exact Qr
   exact Qj _ (a h)
 exact ZU.1 (this _ h)
def c9B(id:LI):Option Nat->LV
 | some i=>ptL id (i:Int)
 | none=>ptL (List.replicate 32 0) 0
abbrev a4Z:=stOf 189
abbrev a5p:=alOf 189
theorem c3w:(((prog.info? 189).bind (·.zero)).map (·.cells.size))=some 33:=ρk
theorem d2B(w:WD):(ALs 189).run prog w=.ok (.pointer w) (w.alloc (.cells (ptL (List.replicate 32 0) 0).toArray 189)):=a0U (.agg (ptL (List.replicate 32 0) 0).toArray) ρk w
theorem d1Q(w:WD):(BDs 189 #[]).run prog w=.ok (.agg (ptL (List.replicate 32 0) 0).toArray) w:=run_build w _ _ _ ρk
attribute [local go_sem ↓] a1B a1F a4Z a5p b6z
theorem c7g(f:Nat)(b:ShB)(N:List Nat)(seed:LI)(x:ShD)(D:LI)(a:Dig D)(w:WD)(h:a1e w f b N seed x)(d:a2x w):
  Calls prog 144 #[.pointer f,.agg (bys D).toArray] w λe w'=>e=.returned (.tuple #[.agg (c9B D (b9R D x.n x.me)).toArray,.bool (b9R D x.n x.me).isSome])/\Below w w w':=by
 have⟨g,hg⟩:=ηs w;have aF:(bys D).length=32:=by rw[a0a,a.1]
 have aI:∀X,(BDs 189 #[]).run prog X=.ok (.agg (ptL (List.replicate 32 0) 0).toArray) X:=d1Q;have aj:(ptL (List.replicate 32 0) 0).length=33:=by decide
 have aq:=a2p (List.replicate 32 0) 0;have b0:=Qd w 31 (((bys D).toArray));have B0:=ρb w (.cells (((bys D).toArray)) 31)
 generalize hW:w.alloc (.cells (((bys D).toArray)) 31)=W at b0 B0
 rw[hg]at b0;have Y:W.heap.size=g+1:=by rw[<-hW,Qi,hg]
 have G:=d2B W;obtain⟨Z,af,ae,be⟩:=P8 (t:=189) a1H c3w;have⟨S,O⟩:=η0 (ptL (List.replicate 32 0) 0);rw[O]at G aj aq;simp only[O]at aI;rw[Y]at G;have al:=b0.alloc (.cells S.toArray 189);have bz:=Qd W 189 S.toArray;have B1:Below w w (W.alloc (.cells S.toArray 189)):=B0.alloc B0.size _
 generalize hV:W.alloc (.cells S.toArray 189)=V at al bz B1 G
 rw[Y]at bz;have aJ:V.heap.size=g+2:=by rw[<-hV,Qi,Y]
 have E:∀o:Option Nat,o=none->c9B D o=S:=λo e=>by rw[e,<-O];rfl
 have⟨dv,aa⟩:=η0 ((bys D).toArray);have a8:(ALs 189).run prog (w.alloc (.cells dv 31))=.ok (.pointer (g+1:Nat)) V:=by rw[<-aa,hW];exact G
 have H:x.n=x.n:=rfl;have bc:=h.ok.n;have bf:=h.ok.me;rw[aa]at hW
 generalize aM:b9R D x.n x.me=oq
 have⟨aS,aO,aU,aL,HG,ao,a1,aN⟩:=η8 af ae aM h hg B1 al bz;have⟨aH,a0,au,Q,a5,a3,aX,HW⟩:=η8 aJ aF aa aj aq E d hW;have HV:=η1 hV;clear af ae aM h hg B1 al bz aJ aF aa aj aq E d hW hV Y b0 B0 G O;rw[au.o];go_enter func144,ntmps144;go_upto_region 2 with fail
 rw[HG.o];go_loopg [6,7,8,9,10] 16 (λkk _ _ _ _ s wr=>∃i:Nat,i+kk=16/\s=.int .i64 i/\(∀j:Nat,j<i->ofO D (j:Int) x.n≠x.me)/\Below V V wr);exact⟨0,by omega,rfl,λj hj=>ρo,Qf _ _⟩;obtain⟨i,hi,rfl,H,r⟩:=hrel
 by_cases aC:i<16
 ·have ag:(i:Int)<16:=ρo
  have aA:=P4 a2i iId (bys D) (φf a1 r) a0.o;have aB:=λX=>d2G a.1 (i:Int) X
  have ad:=aS.o wr;have I:(ptL D (i:Int)).length=33:=a1x a.1 _;have v:=aO.o wr (ptL D (i:Int)) I (a2p _ _);have bp:=Qd wr 189 (ptL D (i:Int)).toArray;have R:=ρb wr (.cells (ptL D (i:Int)).toArray 189);have⟨p,hp⟩:=ηs wr;rw[hp]at ad v bp
  generalize aZ:wr.alloc (.cells (ptL D (i:Int)).toArray 189)=W4 at v bp R
  have⟨U,hU⟩:=η0 W4.drew;have ar:Below W4 W4 U:=by rw[<-hU];exact(Qf _ _).drew
  have ah:=R.trans (ar.mono R.size);have F:=r.trans (ah.mono r.size);have m:=φt ao F;have kp:=bp.fr (Q9 ar) (ρh bp.lt);have ay:=aL.below m;have y:=λX (hX:Below U U X)=>P4 a3a a1H (ptL D (i:Int)) (kp.fr (Q9 hX) (ρh kp.lt)) I
  have an:(LDs 189 (.pointer p)).run prog U=.ok (.agg (ptL D (i:Int)).toArray) U/\U.cell? ⟨f,1,none⟩=some (.int .i64 x.n):=⟨y U (Qf _ _),ay.c.2.1⟩;have ab:=b2T D a.1 a.2 (i:Int) x.n ρo ρo U (aX.below m);have az:=λX (hX:Below U U X)=>(aL.below (m.trans (hX.mono m.size))).c.1
  have⟨k,hk⟩:=η0 (ofO D (i:Int) x.n);have⟨kb,J⟩:=η0 (okO (i:Int) x.n);rw[hk,J]at ab;rw[au.o]at aA;simp only[au.o]at aB;have⟨pv,ac⟩:=η0 (ptL D (i:Int));rw[ac]at v I an;simp only[ac]at aB y ab;have⟨aY,HU,aK,a7,ax,a4,HK,aR⟩:=η8 an hU F m y az hk ac;have⟨aG,aE,HP,a6,aD⟩:=η5 I H hp r aC;clear an hU F m y az hk ac I H hp r aC bp R ar ah kp ay J aZ;go_upto_region 5 with fail
  refine a0s [(1,3),(2,3),(3,3),(0,0),(4,0),(5,2),(6,3),(7,3),(8,3),(9,3),(10,3)] (λX=>(LDs 189 (.pointer p)).run prog X=.ok (.agg pv.toArray) X/\X.cell? ⟨f,1,none⟩=some (.int .i64 x.n)) ρk ρk ρk ρk (ρy HU.o aY.o) ?_;rw[HU.o];refine ε3 ?_
  iterate 2 refine θ2 (λ_ h=>h) ?_
  refine τ ?_;intro K hK;refine μi ab ?_;intro w5 T;with_reducible refine hK _ _ ?_;clear hK K
  refine ε5 ?_;clear ab aA ad v;refine ν ?_;have a9:=a4.o w5 T;have aP:=ax.o w5 T;have z:=φt aK T;have ai:=φf aN z;have ak:=aH.o;have aW:(w5.setRow (g+1) pv.toArray).heap.size=w5.heap.size:=by simp
  have aT:=P9 a1H ai (by rw[Qc,Q.o]) pv aG.o (by rw[<-aR.o];exact a2p _ _);have q5:=ai.row_ pv.toArray;have q6:=Ql (g:=g+1) (φt ao z) (by rw[HG.o];omega) pv.toArray;have⟨av,Q5,Q6⟩:=η3 z q5 q6;clear z q5 q6 T ai aW ak
  by_cases B:k=x.me
  ·have aQ:=c2M aD aE (HK.trans B)
   obtain rfl:oq=some i:=aU.symm.trans aQ;have J:(k == x.me)=true:=ρw B;have a2:decide (k=x.me)=true:=ρw B;clear ag;go_wp2;refine bodyPost_ret (a0Z rfl _ _ (g+1) 189 pv Q5 a3a (ρy aG.o a1H) rfl (.bool true)) rfl ?_;exact⟨by rw[<-aR.o];rfl,Q6.o⟩
  have J:(k == x.me)=false:=ρw B;have a2:decide (k=x.me)=false:=ρw B;clear aT aP;go_wp2;go_roundg (16-(i+1))
  case measure=>omega
  case rel=>exact⟨i+1,by have:=aD.o;omega,by go_num,λj hj=>by
   by_cases e:j=i
   ·subst e;rw[HK.o];exact B
   exact aE.o j ρo,av.o⟩
 obtain rfl:i=16:=ρo;have ag:¬((16:Nat):Int)<16:=ρo;obtain rfl:oq=none:=aU.symm.trans (b9T H);have kz:=φf aN r;have ak:=aH.o;have bb:=P9 a1H kz (by rw[Qc,Q.o]) S Q.o a5.o;have q5:=kz.row_ S.toArray;have q6:=Ql (g:=g+1) (φt ao r) (by rw[HG.o];omega) S.toArray;have ba:=aI wr;have E:=a3.o none rfl;have⟨Q5,Q6,a6,aV⟩:=η4 q5 q6 r E;clear q5 q6 r E H kz ak;go_wp2;refine bodyPost_ret (a0Z rfl _ _ (g+1) 189 S Q5 a3a (ρy Q.o a1H) rfl (.bool false)) rfl ?_;exact⟨by rw[aV.o],Q6.o⟩
end
def inO(t:TxD)(k:Int):InD:=t.ins.getD k.toNat default
def b4C(t:TxD)(k:Int):a1q:=t.outs.getD k.toNat default
def ptI(i:InD):Pt:=(i.tx,i.ix)
def inQ(C:List (Pt×a1q))(L:List (Pt×a1J))(i:InD):Int:=
 if(a2E L (ptI i)).isSome then 14
 else if(a2E C (ptI i)).isSome=false then 13
 else if(a1v C (ptI i)).ow≠c8B i.sec then 10
 else if(a1v C (ptI i)).am≠i.am then 15
 else 0
def b3P(C:List (Pt×a1q))(L:List (Pt×a1J))(t:TxD):LI->Int
 | []=>0
 | k::ks=>if inQ C L (inO t k)≠0 then inQ C L (inO t k)else b3P C L t ks
theorem b3u{C:List (Pt×a1q)}{L:List (Pt×a1J)}{t:TxD}:∀(a b:LI),b3P C L t a=0->b3P C L t (a++b)=b3P C L t b
 | [],b,_=>rfl
 |
  k::ks,b,h=>by
  unfold b3P at h;rw[QG]
  conv=>lhs;unfold b3P
  by_cases hk:inQ C L (inO t k)≠0
  ·rw[if_pos hk]at h;exact absurd h hk
  rw[if_neg hk]at h⊢;exact b3u ks b h
def a1w(n me:Int)(C:List (Pt×a1q))(L:List (Pt×a1J))(t:TxD):Int×Int:=
 if a1a t≠0 then(0,a1a t)
 else if a0M (a2P t n) me=[]then(0,11)
 else if b3P C L t (a0M (a2P t n) me)≠0 then(0,b3P C L t (a0M (a2P t n) me))
 else(a6B t n me,0)
def a6u(t:TxD):LI->List (Pt×a1q)×Int->List (Pt×a1q)×Int
 | [],c=>c
 | k::ks,c=>a6u t ks (b6D c.1 (ptI (inO t k)),IntKind.u64.wrap (c.2-(a1v c.1 (ptI (inO t k))).am))
theorem b1X(t:TxD)(k:Int):∀(l:LI) (c:List (Pt×a1q)×Int),a6u t (l++[k]) c=(b6D (a6u t l c).1 (ptI (inO t k)),IntKind.u64.wrap ((a6u t l c).2-(a1v (a6u t l c).1 (ptI (inO t k))).am))
 | [],_=>rfl
 | _::l,_=>b1X t k l _
def a4H(t:TxD)(id:LI):LI->(List (Pt×a1q)×Int)×(List (Pt×a1J)×Int)->(List (Pt×a1q)×Int)×(List (Pt×a1J)×Int)
 | [],c=>c
 | k::ks,c=>a4H t id ks ((b6D c.1.1 (ptI (inO t k)),IntKind.u64.wrap (c.1.2-(a1v c.1.1 (ptI (inO t k))).am)),(b9M c.2.1 c.2.2 (ptI (inO t k)) (a1v c.1.1 (ptI (inO t k)),id)).2)
theorem b2i(t:TxD)(id:LI)(k:Int):∀(l:LI) (c:(List (Pt×a1q)×Int)×(List (Pt×a1J)×Int)),a4H t id (l++[k]) c=((b6D (a4H t id l c).1.1 (ptI (inO t k)),IntKind.u64.wrap ((a4H t id l c).1.2-(a1v (a4H t id l c).1.1 (ptI (inO t k))).am)),(b9M (a4H t id l c).2.1 (a4H t id l c).2.2 (ptI (inO t k)) (a1v (a4H t id l c).1.1 (ptI (inO t k)),id)).2)
 | [],_=>rfl
 | _::l,_=>b2i t id k l _
def a3f(t:TxD)(id:LI):LI->List (Pt×a1q)×Int->Int×(List (Pt×a1q)×Int)
 | [],c=>(0,c)
 | k::ks,c=>if(a7H c.1 c.2 (id,k) (b4C t k)).1≠0 then((a7H c.1 c.2 (id,k) (b4C t k)).1,c)else a3f t id ks (a7H c.1 c.2 (id,k) (b4C t k)).2
theorem a5M(t:TxD)(id:LI)(k:Int)(a:LI)(c:List (Pt×a1q)×Int):a3f t id (k::a) c=if(a7H c.1 c.2 (id,k) (b4C t k)).1≠0 then((a7H c.1 c.2 (id,k) (b4C t k)).1,c)else a3f t id a (a7H c.1 c.2 (id,k) (b4C t k)).2:=rfl
theorem b0M(t:TxD)(id:LI):∀(a b:LI) (c:List (Pt×a1q)×Int),(a3f t id a c).1=0->a3f t id (a++b) c=a3f t id b (a3f t id a c).2
 | [],_,_,_=>rfl
 |
  j::l,b,c,h=>by
  rw[QG];rw[a5M]at h⊢;rw[a5M]
  by_cases hk:(a7H c.1 c.2 (id,j) (b4C t j)).1≠0
  ·rw[if_pos hk]at h;exact absurd h hk
  rw[if_neg hk]at h⊢;rw[if_neg hk];exact b0M t id l b _ h
theorem b9s(t:TxD)(id:LI)(k:Int)(l:LI)(c:List (Pt×a1q)×Int)(h:(a3f t id l c).1=0):a3f t id (l++[k]) c=if(a7H (a3f t id l c).2.1 (a3f t id l c).2.2 (id,k) (b4C t k)).1≠0 then((a7H (a3f t id l c).2.1 (a3f t id l c).2.2 (id,k) (b4C t k)).1,(a3f t id l c).2)else(0,(a7H (a3f t id l c).2.1 (a3f t id l c).2.2 (id,k) (b4C t k)).2):=by
 rw[b0M t id l [k] c h,a5M]
 rfl
def a5v(t:TxD)(l:LI):Int:=(l.map λk=>(b4C t k).am).foldl (λa b=>IntKind.u64.wrap (a+b)) 0
theorem a9x(t:TxD)(l:LI)(k:Int):a5v t (l++[k])=IntKind.u64.wrap (a5v t l+(b4C t k).am):=by simp[a5v]
theorem b4b(a b:VL):binOp .eql 37 a b=EQs 37 a b:=rfl
theorem b7J{e f:a0Q}(a:e.Bd)(b:f.Bd)(w:WD):
  ∃r:Bool,(EQs 37 (.agg (a0b e).toArray) (.agg (a0b f).toArray)).run prog w=.ok (.bool r) w/\(r=true↔b1C e=b1C f):=by
 unfold EQs;obtain⟨x,p,m,v,o,g,_⟩:=c0G
 obtain⟨r,j,d⟩:=run_equalIn_deep (P:=prog) 9997 3 37 ρk w 3 3 (.agg (a0b e).toArray) (.agg (a0b f).toArray) _ _
  (by simp[Value.formed,g,c0E,a0f a]) (by simp[Value.formed,g,c0E,a0f b]) (by simpa[Value.cells]using a8n 0 a) (by simpa[Value.cells]using a8n 0 b)
 refine⟨r,?_,d⟩;simp only[binOp];rw[show(Op.equal 37 (.agg (a0b e).toArray) (.agg (a0b f).toArray))=Op.equalIn (9997+3) 37 (.agg (a0b e).toArray) (.agg (a0b f).toArray)from rfl];simp[j]
theorem b6A{e:a0Q}(a:e.Bd)(w:WD):(EQs 37 (.agg (a0b e).toArray) (.agg (a0b e).toArray)).run prog w=.ok (.bool true) w:=by
 obtain⟨r,b,hi⟩:=b7J a a w;rw[b,hi.2 rfl]
theorem c6v{c:a0y}(h:c.Bd)(e:Int)(has:Bool)(A:OA)(cap:Nat):((a0O e has c A cap).drop 2).take 137=a0d c A cap:=by
 unfold a0O;simp only[QG,QF,ZQ,Zs];exact Qb (by rw[a0l h];omega)
section
def b9r(seed:LI)(x:ShD)(cmd:LI)(e:a1P):Except Int (ShD×RpD):=if a9K x cmd e=true then .ok ({x with h:=a4T x cmd e},a2O (a9F seed x cmd e))else .error 17
def b5e(seed:LI)(x:ShD)(part:Int)(cmd:LI)(t:TxD)(e:a1P):Except Int (ShD×RpD):=
 if a9K x cmd {e with tx:=idP t}=true then
  (if c3z x.M (part,idP t) (a9F seed x cmd {e with tx:=idP t}) t.exp≠0 then .error (c3z x.M (part,idP t) (a9F seed x cmd {e with tx:=idP t}) t.exp)
  else .ok ({x with h:=a4T x cmd {e with tx:=idP t},M:=x.M++[((part,idP t),⟨a9F seed x cmd {e with tx:=idP t},none,0,t.exp⟩)]},a2O (a9F seed x cmd {e with tx:=idP t})))
 else .error 17
abbrev c5K:=bdOf 214
theorem d2z:a3s prog 214=some [(0,137),(137,1)]:=ρk
theorem d2F:(((prog.info? 214).bind (·.zero)).map (·.cells.toList))=some (mkV a4n):=ρk
theorem d2A{c:a0y}(a:c.Bd)(A:OA)(cap:Nat)(ex:Int)(w:WD):(BDs 214 #[(0,.agg (a0d c A cap).toArray),(1,.int .i64 ex)]).run prog w=.ok (.agg (mkV ⟨c,A,cap,ex⟩).toArray) w:=by
 have b:=a0l a A cap;have d:=a0l a0B none 0;refine a2H d2z d2F _ _ ?_ w;rw[a0v (off:=0) (size:=137) rfl (by simp[Value.cells,b]) (by simp[mkV,a4n,d]),a0v (off:=137) (size:=1) rfl rfl (by simp[mkV,a4n,Value.cells,b,d]),a1Y]
 congr 1
 unfold mkV a4n;have⟨z,g⟩:=η0 (a0d a0r none 0);simp only[g]at d⊢;have⟨y,f⟩:=η0 (a0d c A cap);simp only[f]at b⊢;simp[Value.cells,d,b,QR,QT]
abbrev c4c:=stOf 31
theorem c4L{e:a1P}(h:e.tx.length=32):((a0x e).toArray.toList.drop 2).take 32=bys e.tx:=by
 have:(bys e.tx).length=32:=by rw[a0a,h]
 simp[a0x,QT,this]
theorem c9T:(((prog.info? 39).bind (·.zero)).map (·.cells.size))=some 137:=ρk
attribute [local go_sem ↓] a2q a1W a1D a3u a3h a1B c4c a1G a1M c5K
theorem a5z(f:Nat)(b:ShB)(N:List Nat)(seed:LI)(x:ShD)(a:Int)(E:a=0\/a=1)(A:OA)(n c:Nat)(m:LI)(F:n=m.length)(H:A=none->c=0)(p:m.length<=100000000)(r:OA)(z:Nat)(y:OA)(B:Nat)(t:TxD)(e0:a1P)(o:e0.Bd)(w:WD)
  (h:a1e w f b N seed x) (hby:Byt w A m) (ht:a9H w r y t) (hl1:t.ins.length<=1000000) (hl2:t.outs.length<=1000000) (hgl:a2x w):
  Calls prog 154 #[.pointer f,.int .i64 a,.slice A n c,.agg (txV r z y B t),.agg (a0x e0).toArray] w λe w'=>c6j w f b N seed (b5e seed x a m t e0) e w'/\Fr (λk=>k∈f::b.own) w w':=by
 generalize Z:b5e seed x a m t e0=q
 unfold b5e at Z;have⟨e1,aC⟩:=η0 ({e0 with tx:=idP t});rw[aC]at Z;have R:Dig (idP t):=⟨a3b t,a5f t⟩;have aF:e1.tx=idP t:=by rw[<-aC]
 have aX:e1.Bd:=by rw[<-aC];exact⟨o.kind,o.sh,R,o.am,o.why,o.ep⟩
 have⟨g,hg⟩:=ηs w;have b4:=a0u o;have ch:=o.tx.1;have bD:(txV r z y B t)[3]? =some (.int .i64 t.exp):=rfl;have hid:=λX (hX:Below w w X)=>a2v r z y B t X (ht.below hX) (hgl.below hX) hl1 hl2
 have⟨tv,bB⟩:=η0 (txV r z y B t);have bg:tv.toList.length=4:=by rw[<-bB];rfl
 simp only[bB]at bD hid⊢;have ac:=b8e ch (d:=idP t) R.1;rw[aC]at ac;have b0:=Qd w 53 (tv);have B0:=ρb w (.cells (tv) 53)
 generalize hW:w.alloc (.cells (tv) 53)=W at b0 B0
 rw[hg]at b0;have bt:W.heap.size=g+1:=by rw[<-hW,Qi,hg]
 have bp:=b0.alloc (.cells (a0x e0).toArray 34);have be:=Qd W 34 (a0x e0).toArray;have B1:Below w w (W.alloc (.cells (a0x e0).toArray 34)):=B0.alloc B0.size _
 generalize aG:W.alloc (.cells (a0x e0).toArray 34)=W2 at bp be B1
 rw[bt]at be;have aR:W2.heap.size=g+2:=by rw[<-aG,Qi,bt]
 have aS:=a5k W2;have⟨zs,bn⟩:=η0 ((a0O 0 false a0r none 0).toArray);have a5:zs.size=139:=by rw[<-bn,Qc];exact a0A a0B _ _ _ _
 rw[bn,aR]at aS;have aO:=bp.alloc (.cells zs 41);have aQ:=be.alloc (.cells zs 41);have bz:=Qd W2 41 zs;have B2:Below w w (W2.alloc (.cells zs 41)):=B1.alloc B1.size _
 generalize hV:W2.alloc (.cells zs 41)=V at aO aQ bz B2 aS
 rw[aR]at bz;have bZ:V.heap.size=g+3:=by rw[<-hV,Qi,aR]
 have aj:=λX' (cY:Below V V X')=>P4 uTx iTx (w:=X') tv.toList (by simpa using aO.fr (Q9 cY) (ρh aO.lt)) bg
 simp only[show tv.toList.toArray=tv by simp]at aj;have cy:=aj V (Qf _ _);have aN:=hid V B2;have⟨D,hD⟩:=η0 (idP t);rw[hD]at Z ac aN R aF;have bR:(bys D).length=32:=by rw[a0a,R.1]
 generalize cj:(a0x e0).toArray=ev at aG aQ ac⊢
 have a2:ev.size=37:=by rw[<-cj,Qc,b4]
 have c6:(ALs 41).run prog ((w.alloc (.cells tv 53)).alloc (.cells ev 34))=.ok (.pointer (g+2:Nat)) V:=by rw[hW,aG];exact aS
 have bM:-9223372036854775808<=t.exp/\t.exp<=9223372036854775807:=ht.bd.exp;have cu:=h.more B2 (g:=g+2) ⟨by omega,by omega⟩;have⟨cC,di,HQ,ar,HG,cK,cX,cS⟩:=η8 bM cu Z h hg B2 aO aQ;have⟨cU,cG,bW,c8,bS,cq,bv,bF⟩:=η8 bz a5 bZ aj bR R aX aF;have⟨cx,b9,cz,cA,cO,cW,cM,cZ⟩:=η8 ac a2 hby hgl bD F H p;have⟨HW,db,HV⟩:=η3 hW aG hV;clear bM cu Z h hg B2 aO aQ bz a5 bZ aj bR R aX aF ac a2 hby hgl bD F H p hW aG hV b0 B0 bt bp be B1 aR aS bn bB bg hid ht hl1 hl2 b4 ch aC hD cj o;go_enter func154,ntmps154;go_upto_region 1 with fail
 rw[HG.o];go_wp2_with fail;refine μi aN ?_;intro w3 af;have ke:=φf cS af;have aM:=Pa iId ke (off:=2) (bys D) bS.o (by rw[b9.o];omega) (a0h _);have k4:=ke.row_ (a1d ev 2 (bys D));rw[cx.o]at aM k4;have⟨W4,aD⟩:=η0 (w3.setRow (g+1) (a0x e1).toArray);have f4:Fr (λk=>k=g+1) w3 (w3.setRow (g+1) (a0x e1).toArray):=(Qp (λk=>k=g+1) w3).setRow (g:=g+1) (λ_=>rfl) _;rw[aD]at aM k4 f4;have bo:=bW.o;have aK:=HG.o;have br:=af.size;have aB:=φt cK af;have aa:Below w w W4:=aB.trans (f4.below aB.size (λk hk e=>ρo));have bw:=ar.more aa (g:=g+2) ⟨by omega,by have:=f4.size;omega⟩;have aE:=a5C f b ((g+2)::N) seed x A n c m cW cM cZ e1 bv W4 bw (cz.below aa) (cA.below aa);have ba:=P4 b3q a8Q (a0x e1) k4 (a0u bv);obtain⟨da,aW,a8,df⟩:=P8 (t:=39) a4U c9T;have aZ:=bF.o;have an:=c4L bv.tx.1;rw[aZ]at an
 have bb:=(φf cX af).fr f4 (show¬g=g+1 by omega);have a0:=(φf cU af).fr f4 (show¬g+2=g+1 by omega);have au:=ar.st.lt;have⟨de,a9⟩:=η0 ((a0x e1).toArray);rw[a9]at aD k4 aE ba an;have ak:W4.heap.size=w3.heap.size:=by rw[<-aD];simp
 have⟨cQ,K4,dc,aA,ct,bi,aY,b8⟩:=η8 af k4 aD aa an bb a0 au;have⟨cr,bN,cf,bm⟩:=η4 ak aW a8 bw.lt;clear af k4 aD aa an bb a0 au ak aW a8 f4 ke bw aZ a9 bo aK br aB cy aN;go_upto_region 2 with fail
 go_wp2_with fail;refine μ1 aE ?_;rintro e5 w5 ⟨bE,ad⟩;have aK:=HG.o;have au:=b8.o;have bo:=bW.o;have ak:=cr.o;have br:=cQ.size;have ao:Fr (λk=>k∈f::b.own) w w5:=((Q9 aA.o).mono (G:=λk=>k∈f::b.own) (λk hk e=>ρo)).trans ad (λk _ e=>by rw[e];exact Qr);have Z:=HQ.o
 rcases bE with⟨bK,O,I,rfl,ay,bA⟩ | ⟨cD,hk,rfl⟩
 rotate_left
 ·rw[if_neg (by rw[cD];simp)]at Z
  subst Z;exact⟨rfl,⟨hk,rfl⟩,ao⟩
 rw[if_pos bK]at Z;have⟨J,cn⟩:=η0 (a9F seed x m e1);have⟨bh,cp⟩:=η0 (a4T x m e1);simp only[cn,cp]at Z ay bA⊢;have S:=a0l ay.1 O I;have bq:=bN.o w5;have ag:=cf.o w5 (a0d J O I) S (a2C _ _ _);have⟨d,hd⟩:=ηs w5;rw[hd]at bq ag;have bc:=Qd w5 39 (a0d J O I).toArray;rw[hd]at bc;have b6:=ρb w5 (.cells (a0d J O I).toArray 39)
 generalize c9:w5.alloc (.cells (a0d J O I).toArray 39)=W6 at ag bc b6
 have⟨U,hU⟩:=η0 W6.drew;have bU:Below W6 W6 U:=by rw[<-hU];exact(Qf _ _).drew
 have ah:=b6.trans (bU.mono b6.size);have kc:=bc.fr (Q9 bU) (ρh bc.lt);have ke:=(K4.fr ad (show¬g+1=f by omega)).fr (Q9 ah) (by have:=(K4.fr ad (show¬g+1=f by omega)).lt;omega);have kt:=(bi.fr ad (show¬g=f by omega)).fr (Q9 ah) (by have:=(bi.fr ad (show¬g=f by omega)).lt;omega);have aq:=bA.below ah;have ax:=ay.below ah;have bj:=ao.trans (Q9 ah) (λk hk e=>by have:=ao.size;omega);have ai:=λX (hX:Below U U X)=>P4 a8j a4U (a0d J O I) (kc.fr (Q9 hX) (ρh kc.lt)) S
 have aT:U.cell? ⟨f,9,none⟩=some (.pointer b.kb)/\(LDs 31 (.pointer (some ⟨g+1,2,none⟩))).run prog U=.ok (.agg (bys D).toArray) U/\(LDs 39 (.pointer d)).run prog U=.ok (.agg (a0d J O I).toArray) U/\U.cell? ⟨g,3,none⟩=some (.int .i64 t.exp):=
  ⟨aq.c.2.2.2.2.2.2.2.2.2.1,P6 a2i iId ke (off:=2) (bys D) bS.o ct.o,ai U (Qf _ _),(kt.cell 3).trans cO.o⟩
 have cg:=λX=>d2A ay.1 O I t.exp X
 have bH:b2y (a,D):=⟨by show _<=a/\a<=_;omega,cq.1,cq.2⟩;have hm:a7b U ((g+2)::N) ⟨J,O,I,t.exp⟩:=ax.mk bm cC;have aP:=c2k b.kb b.km ((g+2)::N) x.M (a,D) bH ⟨J,O,I,t.exp⟩ U hm aq.ma aq.lt aq.inN.2.2.2.2.2.2;have⟨pe,bx⟩:=η0 (c3z x.M (a,D) J t.exp);rw[bx]at Z;have⟨cs,aV⟩:=η0 (a0d J O I);rw[aV]at ag kc S aT;simp only[aV]at ai cg⊢;have⟨mv,ck⟩:=η0 ((mkV ⟨J,O,I,t.exp⟩).toArray);simp only[ck]at cg aP;have⟨dv,b5⟩:=η0 ((bys D).toArray);simp only[b5]at aP aT;have dj:=S;have⟨cB,HU,ce,cv,bV,bY,a1,c5⟩:=η8 aT hU bx Z aq ax bj ai;have⟨cP,dg,b3,cT,ca,bL,bf,bX⟩:=η8 kc kt S aV ad ah ay.1 hd;clear aT hU bx Z aq ax bj ai kc kt S aV ad ah hd bU bc b6 ke bA bK cn cp ao br ak bo aK au hm bH ck b5 ba aE aM;go_upto_region 3 with fail
 refine a3Y [(0,3),(1,3),(2,3),(4,3),(5,3),(8,3),(3,0),(6,0),(7,0),(9,0),(10,3),(11,2),(12,2)] (λX=>X.cell? ⟨f,9,none⟩=some (.pointer b.kb)/\(LDs 31 (.pointer (some ⟨g+1,2,none⟩))).run prog X=.ok (.agg dv) X/\(LDs 39 (.pointer d)).run prog X=.ok (.agg cs.toArray) X/\X.cell? ⟨g,3,none⟩=some (.int .i64 t.exp)) ρk ρk ρk ρk (ρy HU.o cB.o) ?_;rw[HU.o];refine ε6 ?_
 iterate 4 refine θ4 (λ_ h=>h) ?_
 refine ε1 ?_;refine τ ?_;intro K hK;refine μ1 aP ?_;rintro dh Y ⟨⟨rfl,av⟩,Q⟩;with_reducible refine hK _ _ ?_;clear hK K
 simp only[ce.o]at av⊢;have c7:=bV.inN.2.2.2.2.2.2;have T:=a1.trans Q (λk _ e=>by rw[e];simp[ShB.own])
 rcases av with⟨bk,av⟩ | ⟨hz,A4,c4,av⟩
 ·have Z:=cv.o
  rw[if_pos bk]at Z;subst Z;have cJ:=a1m pe bk Y;refine τ ?_;intro K hK;refine μf cJ ?_;exact λa' c1=>⟨c1,⟨bk,rfl⟩,T⟩
 have Z:=cv.o;rw[if_neg ρo]at Z;subst Z;rw[hz];have cL:=a1o Y;refine τ ?_;intro K hK;refine μf cL ?_;with_reducible refine hK _ _ ?_;clear hK K
 with_reducible refine a1N ?_
 rw[a0V]
 have bQ:(x.M++[((a,D),(⟨J,A4,c4,t.exp⟩:MkD))]).length<=128:=by
  have h1:=ce.o;rw[hz]at h1;unfold c3z at h1;simp only[Qa,ZB]
  split at h1
  ·omega
  split at h1
  ·omega
  split at h1
  ·omega
  split at h1
  ·omega
  omega
 have a7:=bV.setM Q av bQ;have aK:=HG.o;have au:=b8.o;have aH:=ar.lt;have cF:b.km<g:=by have:=aH b.km ar.inN.2.2.2.2.2.2;omega
 have ci:f<g:=ρo;have cI:=aA.size;have cR:=ca.size;have cN:=bX.o;have a4:=cP.fr Q (show¬d=b.km by omega);have c2:=P4 a8j a4U cs a4 b3;have ae:=a5d J bf O I Y;rw[cT.o]at ae;have aI:=bY.fr Q (λk e=>ρo);have bl:=aY.fr ca.o (show¬g+2=f by omega);have bJ:=bl.fr (Q9 bL) (ρh bl.lt);have ab:=bJ.fr Q (show¬g+2=b.km by omega);have bG:g+2<W4.heap.size:=aY.lt;have bT:g+2 ∉ f::b.own:=λhm=>by have:=aH _ (ar.sub _ hm);omega
 have aU:=a0A bf 0 true O I;have az:=λX (hX:Below Y Y X)=>P9 a4h (ab.fr (Q9 hX) (ρh ab.lt)) cG.o (a0O 0 true J O I) aU (a0W _ _ _ _ _)
 have aL:=λX (hX:Below Y Y X)=>(ab.fr (Q9 hX) (ρh ab.lt)).row_ (a0O 0 true J O I).toArray
 have c0:=a1.size;have bO:=aA.size
 have aJ:∀X,Below Y Y X->∀e:Ending,e=.returned (.agg (a0O 0 true J O I).toArray)->c6j w f b N seed (.ok ({x with h:=bh,M:=x.M++[((a,D),⟨J,none,0,t.exp⟩)]},a2O J)) e (X.setRow (g+2) (a0O 0 true J O I).toArray)/\Fr (λk=>k∈f::b.own) w (X.setRow (g+2) (a0O 0 true J O I).toArray):=λX hX e o=>by
  have bs:Fr (λk=>k=g+2) X (X.setRow (g+2) (a0O 0 true J O I).toArray):=(Qp (λk=>k=g+2) X).setRow (g:=g+2) (λ_=>rfl) _;have dd:=hX.size;have c3:=T.size;refine⟨⟨⟨_,((a7.below hX).away bs Qr bT).less (λj hj=>Qj _ hj) ar.sub,?_⟩,O,I,o,?_⟩,?_⟩
  ·simp[ShD.er]
  ·exact((aI.below hX).fr bs (λk e=>ρo)).base ρo
  exact(T.trans (Q9 hX) (λk hk e=>ρo)).trans bs (λk hk e=>ρo)
 have⟨rs,bC⟩:=η0 (a0O 0 true J O I);simp only[bC]at az aL aJ ae;rw[bC]at aU;have⟨cd,b2,b7,cH⟩:=η4 az aL aJ aU;clear az aL aJ aU a7 aI ab bJ bl bT aH cF ci cI cR cN a4 bQ av Q T c0 bO bC aK au bG hz;go_wp2_with fail;refine μi ae ?_;intro bu al;have cV:=cd.o bu al;have a3:=b2.o bu al;have a6:=b7.o bu al _ rfl;have⟨bP,bI⟩:=η2 a3 a6;clear a3 a6 al;go_wp2_with fail;obtain⟨dR,cE,cw⟩:=Q8.1 a7w;refine bodyPost_ret (v:=.agg rs.toArray) (a0c rfl _ _ (g+2) _ rs dR rfl bP cE cw (ρy cH.o a4h)) rfl ?_;exact bI
end
section
theorem c8g{i:InD}(h:i.Bd)(A:OA)(c:Nat):((inV i A c).toArray.toList.drop 0).take 33=ptL (ptI i).1 (ptI i).2:=b5d h A c
theorem InD.Bd.ptY{i:InD}(h:i.Bd):a6l (ptI i):=⟨h.len,h.tx,h.ix⟩
theorem c6Q{i:InD}(h:i.Bd)(A:OA)(c:Nat):(inV i A c).toArray[33]? =some (.int .u64 i.am):=by simp[inV,ptL,a0a,h.len]
theorem b7D{o:a1q}(h:o.Bd):(a1s o).toArray[32]? =some (.int .u64 o.am):=by simp[a1s,a0a,h.len]
abbrev a5a:=stOf 31
abbrev a5i:=alOf 31
attribute [local go_sem ↓] a6W a1F a1B a5a a5i a4v a4s a4r
theorem c2w(cb cm:Nat)(C:List (Pt×a1q))(sC:Int)(lb lm:Nat)(L:List (Pt×a1J))(sL:Int)(i:InD)(hi:i.Bd)(a:OA)(b:Nat)(d:a=none->b=0)(f:i.sec.length<=400000000)(w:WD)(m:a0i w cb cm C sC)(o:a0j w lb lm L sL)(p:Byt w a i.sec)(j:a2x w):
  Calls prog 213 #[.agg (inV i a b).toArray,.pointer cb,.pointer lb] w λe w'=>e=.returned (.int .i64 (inQ C L i))/\Below w w w':=by
 generalize y:inQ C L i=q
 unfold inQ at y;have af:=hi.ptY;have⟨g,hg⟩:=ηs w;have bm:=a3l hi a b;have b0:=Qd w 191 (((inV i a b).toArray));have B0:=ρb w (.cells (((inV i a b).toArray)) 191)
 generalize hW:w.alloc (.cells (((inV i a b).toArray)) 191)=W at b0 B0
 rw[hg]at b0;have F:=λX (N:Below W W X)=>P6 a3a a1H (b0.fr (Q9 N) (ρh b0.lt)) (off:=0) (ptL (ptI i).1 (ptI i).2) af.vlen (c8g hi a b)
 have a4:=F W (Qf _ _);have D:=b5f lb lm L sL (ptI i) af W (o.below B0);have r:=a3p m.bd (ptI i);have Y:=a2U o.bd (ptI i);have aV:=λX (N:Below W W X)=>((b0.fr (Q9 N) (ρh b0.lt)).cell 34).trans (b7W hi a b)
 have a7:=λX (N:Below W W X)=>((b0.fr (Q9 N) (ρh b0.lt)).cell 33).trans (c6Q hi a b)
 have x:=λX (N:Below w w X)=>c0F cb cm C sC (ptI i) af X (m.below N)
 have a6:=λX (N:Below w w X)=>c0u a b d i.sec X (p.below N) f (j.below N)
 have z:=λX=>a8i (a1v C (ptI i)).ow (c8B i.sec) ⟨r.len,r.ow⟩ (Dig.own _) X
 have aa:=c1o;have V:=b1a;have⟨z1,aH⟩:=η0 ((bys (List.replicate 32 0)).toArray);have⟨z2,aB⟩:=η0 ((a1s a3q).toArray);have ax:z1.size=32:=by rw[<-aH];simp[a0a]
 have au:z2.size=33:=by rw[<-aB,Qc];exact a0G a2R
 simp only[aH]at aa;simp only[aB]at V;have aJ:=a0G r;have aF:=a0G Y.co;have Q:(bys (a0H L (ptI i)).2).length=32:=by rw[a0a,Y.len]
 have T:(bys (a1v C (ptI i)).ow).length=32:=by rw[a0a,r.len]
 generalize bn:(inV i a b).toArray=iv at hW⊢
 have⟨pv,a3⟩:=η0 (ptL (ptI i).1 (ptI i).2);simp only[a3]at F a4 D x;have⟨be,ar⟩:=η0 ((a2E L (ptI i)).isSome);have⟨is,aA⟩:=η0 ((a2E C (ptI i)).isSome);rw[ar]at y D;rw[aA]at y;simp only[aA]at x;have⟨c,aG⟩:=η0 (a1v C (ptI i));rw[aG]at y r aJ T;simp only[aG]at x z;have⟨lk,aO⟩:=η0 (a0H L (ptI i));rw[aO]at D aF Q;have⟨aT,v⟩:=η0 (decide (c.ow=c8B i.sec));simp only[v]at z;have ao:=b7D r;have an:((a1s c).toArray.toList.drop 0).take 32=bys c.ow:=b3l r;have⟨HQ,bf,aK,bb,bk,aC,bh,aE⟩:=η8 y B0 F aV a7 x a6 z;have⟨bo,aQ,bl,bj,aZ,aU,aN,aW⟩:=η8 ax au aJ aF Q T ao an;have⟨a8,HG⟩:=η2 v hg;clear y B0 F aV a7 x a6 z ax au aJ aF Q T ao an v hg b0 bm af m o p j d f hi r Y aH aB ar aA aG aO bn a3;go_enter func213,ntmps213;go_upto_region 1 with fail
 rw[HG.o];have⟨aL,aq⟩:=η2 aa V;clear aa V;go_wp2_with fail;refine μi D ?_;intro w1 ad;have ab:=φt bf ad;have⟨a1,ay⟩:=ηs w1;have k1:=aL.o w1;rw[ay]at k1;have c1:=Qd w1 31 z1;have D1:=ρb w1 (.cells z1 31);have ac:(w1.alloc (.cells z1 31)).heap.size=a1+1:=by rw[Qi,ay]
 generalize aj:w1.alloc (.cells z1 31)=V1 at k1 c1 D1 ac
 have k2:=aq.o V1;rw[ac]at k2;have ak:=c1.alloc (.cells z2 206);have c2:=Qd V1 206 z2;have D2:Below w1 w1 (V1.alloc (.cells z2 206)):=D1.alloc D1.size _
 generalize bi:V1.alloc (.cells z2 206)=V2 at k2 ak c2 D2
 rw[ac]at c2;rw[ay]at ak;have k3:=P9 iId ak bo (bys lk.2) aZ.o (a0h _);have f3:=ρr (a1) V2 (bys lk.2).toArray;have D3:=Ql (g:=a1) D2 ρo (bys lk.2).toArray
 generalize ah:V2.setRow a1 (bys lk.2).toArray=V3 at k3 f3 D3
 have k4:=P9 a9y (c2.fr f3 (show¬a1+1=a1 by omega)) aQ.o (a1s lk.1) bj.o (a1O _);have D4:=Ql (g:=a1+1) D3 ρo (a1s lk.1).toArray
 generalize bg:V3.setRow (a1+1) (a1s lk.1).toArray=V4 at k4 D4
 have S:=ab.trans (D4.mono ab.size);have R:=ad.trans (D4.mono ad.size);have a2:=aC.o V4 S;have aX:=aK.o V4 R;have⟨al,aP⟩:=η2 S R;clear S R D1 D2 D3 f3 c1 ak c2 ad ab bi aj ah bg D4
 cases be with
 |
  true=>
  have y:=HQ.o;simp only[if_true]at y;subst y;clear a2 aX;go_wp2;go_ret;exact⟨rfl,al.o⟩
 |
  false=>
  have y:=HQ.o;simp only[QI,if_false]at y;go_wp2_with fail;refine μi a2 ?_;intro w5 ai;clear aX k1 k2 k3 k4;have J:=φt al ai;have G:=φt aP ai;have k1:=aq.o w5;have⟨a5,aM⟩:=ηs w5;rw[aM]at k1;have c1:=Qd w5 206 z2;rw[aM]at c1;have D1:=ρb w5 (.cells z2 206)
  generalize aj:w5.alloc (.cells z2 206)=V1 at k1 c1 D1
  have k3:=P9 a9y c1 aQ (a1s c) bl.o (a1O _);have kc:=c1.row_ (a1s c).toArray;have D3:=Ql (g:=a5) D1 ρo (a1s c).toArray
  generalize ah:V1.setRow a5 (a1s c).toArray=V3 at k3 D3 kc
  have B:=J.trans (D3.mono J.size);have H:=G.trans (D3.mono G.size)
  cases is with
  |
   false=>
   simp only[if_true]at y;subst y;have aY:=η1 B;clear B H D1 D3 c1 kc aj ah G J ai;go_wp2;go_ret;exact⟨rfl,aY.o⟩
  |
   true=>
   simp only[Bool.true_eq_false,if_false]at y;have⟨U,hU⟩:=η0 V3.drew;have ae:Below V3 V3 U:=by rw[<-hU];exact(Qf _ _).drew
   have Z:=B.trans (ae.mono B.size);have I:=H.trans (ae.mono H.size);have kU:=kc.fr (Q9 ae) (ρh kc.lt);have az:∀X,Below U U X->(LDs 31 (.pointer a5)).run prog X=.ok (.agg (bys c.ow).toArray) X/\X.cell? ⟨g,34,none⟩=some (.slice a i.sec.length b):=λX N=>⟨P6 a2i iId (kU.fr (Q9 N) (ρh kU.lt)) (off:=0) (bys c.ow) aU.o aW.o,bb.o X (I.trans (N.mono I.size))⟩
   have aS:=az U (Qf _ _);have c4:=bh.o U Z;have⟨ba,a9,HU,aR,aI,bc⟩:=η6 aS az hU Z I kU;clear aS az hU Z I kU ae B H D1 D3 c1 kc aj ah G J ai;go_upto_region 7 with fail
   refine a0s [(0,3),(2,3),(1,0),(3,0),(4,1),(5,2),(6,3),(7,3)] (λX=>(LDs 31 (.pointer a5)).run prog X=.ok (.agg (bys c.ow).toArray) X/\X.cell? ⟨g,34,none⟩=some (.slice a i.sec.length b)) ρk ρk ρk ρk (ρy HU.o ba.o) ?_;rw[HU.o];refine ε2 ?_
   iterate 2 refine θ2 (λ_ h=>h) ?_
   refine κ ?_;intro K hK;refine μi c4 ?_;intro w6 ag;with_reducible refine hK _ _ (a9.o w6 ag) ?_;clear hK K
   have c5:=aE.o w6;clear c4;refine τ ?_;intro K hK;refine μi c5 ?_;intro w7 a0;with_reducible refine hK _ _ ?_;clear hK K
   refine ε2 ?_;clear c5 k1 k3;refine ν ?_;have E:=ag.trans (a0.mono ag.size);have av:=φt aR E;have k7:=φf bc E;have p1:=(k7.cell 32).trans aN;have p2:=bk.o w7 (φt aI E);have v:=a8.o;have aD:=η1 av;clear av E k7 ag a0
   cases aT with
   |
    false=>
    simp only[decide_eq_false_iff_not]at v;rw[if_pos v]at y;subst y;clear p1 p2 v;go_wp2;go_ret;exact⟨rfl,aD.o⟩
   |
    true=>
    simp only[decide_eq_true_eq]at v;rw[if_neg (by simp[v])]at y
    by_cases O:c.am=i.am
    ·rw[if_neg (by simp[O])]at y
     subst y;have hb:(c.am != i.am)=false:=ρw O;clear O v;go_wp2;go_ret;exact⟨rfl,aD.o⟩
    rw[if_pos O]at y;subst y;have hb:(c.am != i.am)=true:=ρw O;clear O v;go_wp2;go_ret;exact⟨rfl,aD.o⟩
end
end Go.Proofs.YtpolljfkceanaaaGreatDoor
