/-
  Contracts of functions, plain laws.
-/
import Derived.Test.YtpolljfkceanaaaGreatDoorK11
namespace Go.Proofs.YtpolljfkceanaaaGreatDoor
open Go.RowKit Go.Shelf Go.Maps Go.Proofs.Tryz
set_option maxRecDepth 100000
set_option maxHeartbeats 64000000
variable {me n sC:Int}{a b:LI}{B' N i j m:Nat}{t:TxD}{u:VL}{w:WD}
set_option linter.all false
section
def d3K(p:OkP->Bool)(ss:List OkP)(k:Int):Prop:=(k=-1/\∀x∈ss,p x=false)\/∃i:Nat,k=(i:Int)/\∃h:i<ss.length,p ss[i]=true/\∀x∈ss.take i,p x=false
theorem c6Y(ty:TI)(x:VL):Builtin.clear_ #[204] ty #[x]=CLs 204 ty x:=rfl
attribute [local go_sem ↓] a1F a4Z a5p a3w c6Y
theorem c8y(f:Nat)(lb:AV)(j:∀args w,(callFunc f args).run prog w=.ok (.enter f args) w)(p:OkP->Bool)(a:List OkP)(A:OA)(N c B:Nat)(w:WD)(d:a.length<=1000000)(h:a0T 189 33 B w (.slice A N c) (a.map (λx=>ptE.e x.1)))
  (hp:∀W x,Below w.heap.size w W->Calls prog f (#[.agg (ptE.e x.1).toArray]++lb) W λe w'=>e=.returned (.bool (p x))/\Below W.heap.size W w'):
  Calls prog 274 #[.slice A N c,.func (.func f) #[] lb] w λe w'=>(∃k,e=.returned (.int .i64 k)/\d3K p a k)/\Below w.heap.size w w':=by
 obtain⟨O,R⟩:=h.sp;rw[Qw]at O;have U:N<=1000000:=ρo;have⟨T,Z,HH,HP,aa⟩:=η5 O R h hp d;clear O R h hp d;go_enter func274,ntmps274;go_upto_region 2 with fail
 go_loopg [5,8] N (λY _ s wr=>∃i:Nat,i+Y=N/\s=.int .i64 i/\(∀x∈a.take i,p x=false)/\Below w.heap.size w wr);exact⟨0,by omega,rfl,by simp,Qf _ _⟩;obtain⟨i,hi,rfl,r,m⟩:=hrel
 by_cases H:i<N
 ·have S:(i:Int)<N:=ρo
  have y:i<a.length:=by rw[<-T.o];exact H
  rcases Z.o with⟨-,V⟩ | ⟨g,ab,rfl,-⟩
  ·have:=congrArg List.length V
   simp at this;subst this;simp at y
  have F:=(HH.keep m).ldR (t:=189) a3a a1H (i:=i) (ρw y);simp only[QS]at F;have P:=HP.o wr a[i] m;have⟨pv,z⟩:=η0 (ptE.e a[i].1);rw[z]at F P;have⟨b,I⟩:=η0 (p a[i]);rw[I]at P;have⟨v,o,Q,X⟩:=η4 r m I z;clear r m I z;go_wp2_with fail;refine μi P ?_;intro w1 D;have E:=η1 D;clear D
  cases b with
  |
   true=>
   go_wp2;go_ret;exact⟨⟨_,rfl,.inr ⟨i,rfl,y,Q.o,v.o⟩⟩,o.trans (E.mono o.size)⟩
  |
   false=>
   go_wp2;go_roundg (N-(i+1))
   case measure=>omega
   case rel=>exact⟨i+1,by omega,by go_num,λx G=>by
    rw[Qe y]at G
    rcases Qq.1 G with J | J
    ·exact v.o x J
    rw[Qn.1 J];exact Q.o,o.trans (E.mono o.size)⟩
 have K:i=N:=ρo;subst K;have⟨v,o⟩:=η2 r m;clear r m;go_wp2;go_ret;exact⟨⟨-1,rfl,.inl ⟨rfl,λx G=>v.o x (by rw[T.o,ZF];exact G)⟩⟩,o.o⟩
structure b9P(p:OkP->Bool)(ss:List OkP)(i j:Nat)(R:List OkP):Prop where
 len:R.length=ss.length
 lo:R.take i=(ss.take j).filter (λx=>!p x)
 hi:R.drop j=ss.drop j
 lt:i<j
 le:j<=ss.length
theorem b9P.start{p:OkP->Bool}{a:List OkP}(h:i<a.length)(ht:p a[i]=true)(b:∀x∈a.take i,p x=false):b9P p a i (i+1) a where
 len:=rfl
 lo:=by
  rw[Qe h,List.filter_append,List.filter_cons,if_neg (by simp[ht]),List.filter_nil,ZC];exact(List.filter_eq_self.2 (λx d=>by simp[b x d])).symm
 hi:=rfl
 lt:=ρo
 le:=ρo
theorem b9P.get{p:OkP->Bool}{a R:List OkP}(h:b9P p a i j R)(b:j<a.length):R[j]'(by rw[h.len];exact b)=a[j]:=by
 have d:=congrArg (λl:List OkP=>l[0]?) h.hi;simp only[ZY,ZH]at d;rw[QN (ρy h.len b),QN b]at d;exact Option.some.inj d
theorem b9P.keep{p:OkP->Bool}{a R:List OkP}(h:b9P p a i j R)(b:j<a.length)(d:p a[j]=false):b9P p a (i+1) (j+1) (R.set i a[j]) where
 len:=by rw[List.length_set];exact h.len
 lo:=by
  have hi:i<R.length:=by have:=h.lt;rw[h.len];omega
  rw[Qe (ρw hi),Qe b,List.filter_append,List.filter_cons,if_pos (by simp[d]),List.filter_nil,<-h.lo];simp only[List.take_set,List.getElem_set_self];rw[List.set_eq_of_length_le (by rw[Qx];omega)]
 hi:=by
  have f:=congrArg (List.drop 1) h.hi;simp only[List.drop_drop]at f;rw[List.drop_set_of_lt (ρh h.lt)];exact f
 lt:=by have:=h.lt;omega
 le:=ρo
theorem b9P.skip{p:OkP->Bool}{a R:List OkP}(h:b9P p a i j R)(b:j<a.length)(d:p a[j]=true):b9P p a i (j+1) R where
 len:=h.len
 lo:=by
  rw[Qe b,List.filter_append,List.filter_cons,if_neg (by simp[d]),List.filter_nil,ZC];exact h.lo
 hi:=by
  have f:=congrArg (List.drop 1) h.hi
  simpa only[List.drop_drop]using f
 lt:=by have:=h.lt;omega
 le:=ρo
theorem d3s:∃z:AV,(∀w,(zeroValue 189).run prog w=.ok (.agg z) w)/\z.size=33/\∀u∈z.toList,u.oneCell'=true:=
 ⟨(ptL (List.replicate 32 0) 0).toArray,λw=>by kernel_rfl,by decide,a2p _ _⟩
theorem c5P(f:Nat)(lb:AV)(m:∀args w,(callFunc f args).run prog w=.ok (.enter f args) w)(p:OkP->Bool)(a:List OkP)(A:OA)(N c B:Nat)(w:WD)(d:a.length<=1000000)(h:a0T 189 33 B w (.slice A N c) (a.map (λx=>ptE.e x.1)))
  (hp:∀W x,Fr (λj=>(Value.slice A N c).ownBlock=some j) w W->Calls prog f (#[.agg (ptE.e x.1).toArray]++lb) W λe w'=>e=.returned (.bool (p x))/\Below W.heap.size W w'):
  Calls prog 255 #[.slice A N c,.func (.func f) #[] lb] w λe w'=>∃n,e=.returned (.slice A n c)/\a0T 189 33 B w' (.slice A n c) ((a.filter (λx=>!p x)).map (λx=>ptE.e x.1))/\Fr (λj=>(Value.slice A N c).ownBlock=some j) w w':=by
 obtain⟨hN,hA⟩:=h.sp;rw[Qw]at hN;have aX:N<=1000000:=ρo;have Y:=c8y f lb m p a A N c B w d h (λW x hW=>hp W x ((Q9 hW).mono (λj hj e=>absurd hj ρo)));have⟨HN,HA,HH,HP,a1⟩:=η5 hN hA h hp d;clear hN hA h hp d;go_enter func255,ntmps255;go_wp2_with fail;refine μ1 Y ?_;rintro e1 w1 ⟨⟨k,rfl,hk⟩,r⟩;have U:Fr (λj=>(Value.slice A N c).ownBlock=some j) w w1:=(Q9 r).mono (λj hj e=>absurd hj ρo)
 rcases hk with⟨rfl,G⟩ | ⟨i0,rfl,S,ax,G⟩
 ·have aE:=η1 G
  have⟨av,aa⟩:=η2 r U;clear G r U Y;go_wp2;go_ret;refine⟨N,rfl,?_,aa.o⟩;rw[List.filter_eq_self.2 (λx hx=>by simp[aE.o x hx])];exact HH.keep av
 rcases HA.o with⟨-,e0⟩ | ⟨g,aW,rfl,-,-,aA,-⟩
 ·have:=congrArg List.length e0
  simp at this;subst this;simp at S
 have ao:=b9P.start S ax G;have aV:((i0:Int) == -1)=false:=beq_eq_false_iff_ne.2 ρo;obtain⟨Z,D,V,hz⟩:=P8 (t:=189) a1H c3w;have aq:=HH.keep r;have aT:i0<N:=by rw[HN.o];exact S
 have⟨aP,av,aa,aB,aM,aR,ai⟩:=η7 ao r U aq D V aA;clear ao r U aq D V aA Y G ax S;go_wp2_with fail;go_loopg [5,6,7] (N-(i0+1)) (λkk u v _ wr=>∃(i j:Nat) (R:List OkP),j+kk=N/\u=.int .i64 i/\v=.int .i64 j/\b9P p a i j R/\a0T 189 33 B wr (.slice g N c) (R.map (λx=>ptE.e x.1))/\Fr (λj=>(Value.slice g N c).ownBlock=some j) w wr);exact⟨i0,i0+1,a,by omega,rfl,by go_num,aP.o,aB.o,aa.o⟩;obtain⟨i,j,R,hj,rfl,rfl,J,hO,hF⟩:=hrel
 by_cases aD:j<N
 ·have aU:(j:Int)<N:=ρo
  have T:j<a.length:=by rw[<-HN.o];exact aD
  have aF:=J.lt;have F:=hO.ldR (t:=189) a3a a1H (i:=j) (by rw[Qw,J.len];exact T);simp only[QS]at F;rw[J.get T]at F;have I:(ptE.e a[j].1).length=33:=a1x a[j].2.len _;have af:∀u∈ptE.e a[j].1,u.oneCell'=true:=a2p _ _;have⟨q,hq⟩:=ηs wr;have D:=aM.o wr;have H:=aR.o wr (ptE.e a[j].1) I af;have bq:=Qd wr 189 (ptE.e a[j].1).toArray;have ad:=hO.alloc (.cells (ptE.e a[j].1).toArray 189);have Q:=hF.alloc (.cells (ptE.e a[j].1).toArray 189)
  generalize ar:wr.alloc (.cells (ptE.e a[j].1).toArray 189)=w3 at H bq ad Q
  have hc:=HP.o w3 a[j] Q;rw[hq]at D H bq;have aG:(a[j])=a[j]:=rfl;have⟨b,hb⟩:=η0 (p a[j]);rw[hb]at hc;have⟨pv,ag⟩:=η0 (ptE.e a[j].1);rw[ag]at F H bq I af hc;have X:=P4 a3a a1H pv bq I;have⟨HI,aO,az,HQ,a0,HB,aN,aH⟩:=η8 J ad Q hq ar hb ag bq;clear J ad Q hq ar hb ag bq hO hF aG;go_wp2_with fail;refine μi hc ?_;intro w4 o;have al:=P4 a3a a1H pv (φf aH o) I;have O:=aO.keep o;have K:=az.trans (Q9 o) (λk hk e=>absurd e (ρh az.o.size))
  cases b with
  |
   true=>
   have⟨aL,aJ,ac⟩:=η3 o O K;clear o O K F X al D H hc;go_wp2;go_roundg (N-(j+1));exact⟨i,j+1,R,by omega,rfl,by go_num,HI.skip T HB.o,aJ.o,ac.o⟩;omega
  |
   false=>
   obtain⟨w5,an,y,E,aj⟩:=O.setR (t:=189) a1H (i:=i) (by rw[Qw,HI.len];omega) pv I af;have aZ:(i:Int)<N:=ρo;have⟨aL,ac,ab,ae⟩:=η4 o K y E;clear o K y E F X D H hc O;go_wp2;go_roundg (N-(j+1));exact⟨i+1,j+1,R.set i a[j],by omega,by go_num,by go_num,HI.keep T HB.o,by rw[List.map_set,aN.o];exact ab.o,ac.trans ae.o (λk hk e=>by subst e;rfl)⟩;omega
 have aQ:j=N:=by have:=J.le;have:=HN.o;omega
 have aF:=J.lt;have ah:=J.lo;have aK:=J.len;rw[Qb (l:=a) (by rw[aQ];have:=HN.o;omega)]at ah;obtain⟨z,ay,au,ak⟩:=d3s;obtain⟨w5,an,y,E,aj⟩:=hO.clr (sl:=204) (ty:=0) d0F ay au ρo ak (i:=i) ρo;rw[QP]at an;have aI:c≠i:=by have:=ai.o;omega
 have aC:=λW=>c8f (P:=prog) d0F a1H W g 0 N c i ρo
 have aY:=λW=>c8e (P:=prog) d0F a1H W g 0 N c i (ρh ai.o)
 simp only[if_neg aI]at aC;have aS:¬((j:Int)<N):=ρo;rw[<-List.map_take,ah]at y;have⟨HF,ab,ae⟩:=η3 hF y E;clear hF y E J hO ay au ak ah aK;go_wp2;go_ret;exact⟨i,rfl,by simpa using ab.o,HF.trans ae.o (λk hk e=>by subst e;rfl)⟩
end
section
open Go.RowKit Go.Shelf Go.Maps Go.Sort
theorem b1I{α:Type}{r:α->α->Prop}:∀{a b:List α},a.Perm b->a.Pairwise r->b.Pairwise r->(∀x∈a,∀y∈a,r x y->r y x->x=y)->a=b
 | [],b,hp,_,_,_=>(List.nil_perm.1 hp).symm
 | x::a,[],hp,_,_,_=>absurd hp.length_eq ρp
 |
  x::a,y::b,hp,ha,hb,hr=>by
  rw[List.pairwise_cons]at ha hb
  have hxy:x=y:=by
   have f:x∈y::b:=hp.subset ρp;have d:y∈x::a:=hp.symm.subset ρp
   rcases Qo.1 f with e | f
   ·exact e
   rcases Qo.1 d with e | d
   ·exact e.symm
   exact hr x ρp y (by simp[d]) (ha.1 y d) (hb.1 x f)
  subst hxy;rw[b1I (List.perm_cons x |>.1 hp) ha.2 hb.2 (λu j v g=>hr u (by simp[j]) v (by simp[g]))]
theorem b7E:∀{a b:List UInt8},Lib.compareBytes a b=0->a=b
 | [],[],_=>rfl
 | [],b::m,h=>by simp[Lib.compareBytes]at h
 | a::l,[],h=>by simp[Lib.compareBytes]at h
 |
  a::l,b::m,h=>by
  simp only[Lib.compareBytes]at h
  split at h
  ·omega
  split at h
  ·omega
  rename_i h1 h2
  have e:a=b:=by
   rw[UInt8.lt_iff_toNat_lt]at h1 h2;exact UInt8.toNat_inj.1 ρo
  rw[e,b7E h]
theorem b0Y:∀{a b:LI},(∀x∈a,0<=x/\x<=255)->(∀x∈b,0<=x/\x<=255)->Lib.bytesOf a=Lib.bytesOf b->a=b
 | [],[],_,_,_=>rfl
 | [],b::m,_,_,h=>by simp[Lib.bytesOf]at h
 | a::l,[],_,_,h=>by simp[Lib.bytesOf]at h
 |
  a::l,b::m,ha,hb,h=>by
  have h1:=ha a ρp;have h2:=hb b ρp;simp only[Lib.bytesOf,Yl,List.cons.injEq]at h
  have e:a=b:=by
   have:=congrArg UInt8.toNat h.1
   simp only[UInt8.toNat_ofNat']at this;omega
  have f:l=m:=b0Y (λx d=>ha x (by simp[d])) (λx d=>hb x (by simp[d])) (by simpa[Lib.bytesOf]using h.2);rw[e,f]
theorem c1r(d:∀x∈a,0<=x/\x<=255)(f:∀x∈b,0<=x/\x<=255)(h:c5d a b=0):a=b:=b0Y d f (b7E h)
theorem c2K{a b:Int}(h:b7z a b=0):a=b:=by
 unfold b7z at h
 split at h
 ·omega
 split at h<;>omega
theorem b3r{x y:Pt}(a:a6l x)(b:a6l y)(h:a5t x y=0):x=y:=by
 unfold a5t at h
 split at h
 ·rename_i h1;exact absurd h h1
 rename_i h1
 exact Prod.ext (c1r a.tx b.tx (ρw h1)) (c2K h)
theorem b7S{x y:Ke}(a:b2y x)(b:b2y y)(h:a6w x y=0):x=y:=by
 unfold a6w at h
 split at h
 ·rename_i h1;exact absurd h h1
 rename_i h1
 exact Prod.ext (c2K (ρw h1)) (c1r a.id b.id h)
section
variable {α:Type} {f:α->α->Int}
def a5F(f:α->α->Int)(l:List α):List α:=l.mergeSort (λa b=>decide (f a b<=0))
theorem a4k.tot(h:a4k f)(a b:α):f a b<=0\/f b a<=0:=by
 have:=h.anti b a
 omega
theorem a2G(l:List α):(a5F f l).Perm l:=List.mergeSort_perm _ _
theorem b6U(h:a4k f)(l:List α):(a5F f l).Pairwise (λa b=>f a b<=0):=by
 have:=List.pairwise_mergeSort (le:=λa b=>decide (f a b<=0)) (λa b c g d=>by simp only[decide_eq_true_eq]at g d⊢;exact h.tr a b c g d) (λa b=>by simp only[Bool.or_eq_true,decide_eq_true_eq];exact h.tot a b) l
 exact this.imp (λh=>by simpa using h)
theorem c3k(h:a4k f){l m:List α}(d:l.Perm m)(g:l.Pairwise (λa b=>f a b<=0))(j:∀x∈m,∀y∈m,f x y=0->x=y):l=a5F f m:=by
 refine b1I (d.trans (a2G m).symm) g (b6U h m) (λx p y o v r=>j x (d.subset p) y (d.subset o) ?_)
 have:=h.anti x y
 omega
end
theorem c0a(v:VL)(B:Nat)(a:List OkP)(b:a.length<=1000000)(w:WD)(h:a0T 189 33 B w v (a.map (λx=>ptE.e x.1))):
  Calls prog 227 #[v,.func (.func 118) #[] #[]] w λe w'=>e=.returned (.tuple #[])/\a0T 189 33 B w' v ((a.mergeSort λx y=>!(ltOf (λx y:OkP=>a5t x.1 y.1)) y x).map (λx=>ptE.e x.1))/\Fr (λj=>v.ownBlock=some j) w w':=by
 have G:∀x:OkP,(ptE.e x.1).length=33:=λx=>a1x x.2.len _
 have o:∀x:OkP,∀u∈ptE.e x.1,u.oneCell'=true:=λx=>a2p _ _
 have f:=h.own;obtain⟨X,⟨rfl,P⟩ | ⟨g,cap,p,rfl,Q,R,r,U,T,ht⟩⟩:=f
 ·refine(b4v none 0 _ w).mono ?_
  rintro e w' ⟨rfl,rfl⟩;have O:a=[]:=ρw P;subst O;exact⟨rfl,by simpa using h,Qp _ _⟩
 have F:Blk w g 189 p:=R;rw[Qw]at r ht⊢;have I:p.toList.take (a.toArray.size*33)=(a.toArray.toList.map (λx:OkP=>ptE.e x.1)).flatten:=ρw ht;have S:=a0T.holds (λx:OkP=>ptE.e x.1) 33 G a.toArray F I;have z:=F.lt
 have W:=AnyQ.slices_SortFunc Tryz.laysSP 33 (λw=>by kernel_rfl) (λw=>by kernel_rfl) (λx:OkP=>ptE.e x.1) G o (λx y=>a5t x.1 y.1) (show SWO (ltOf (λx y:OkP=>a5t x.1 y.1))from(a6o.comp (λx:OkP=>x.1)).swo) 118 #[] g 0 cap a.toArray w
  (enters_of func118 ρk rfl) (λm os Y V x y=>(b0U x.1 y.1 x.2 y.2 _).mono (λe w' ⟨o,E⟩=>⟨o,E⟩)) S z (by simp;omega)
 refine W.mono ?_;rintro e w' ⟨rfl,J,n,os,N,H,rfl⟩
 have K:=sorted_unique_holds (lt:=ltOf (λx y:OkP=>a5t x.1 y.1)) (a6o.comp (λx:OkP=>x.1)).swo (λx y o E=>Subtype.ext (b3r x.2 y.2 (by
  have Z:=a6o.anti y.1 x.1;simp only[ltOf,decide_eq_false_iff_not,Int.not_lt]at o E;omega))) a.toArray J N H
 have D:J.size=a.toArray.size:=N.1;have d:=a0T.sorted (λx:OkP=>ptE.e x.1) 33 G (B:=B) (n:=n) a.toArray J os Q F (ρw r) U T D;rw[K]at d;exact⟨rfl,by simpa using d.1,d.2.mono (λj _ e=>by rw[e];rfl)⟩
theorem b1l(gf:Nat)(lb:AV)(f:∀args w,(callFunc gf args).run prog w=.ok (.enter gf args) w){S g:List OkP->Prop}(j:N<=1000000)(d:∀ss,S ss->ss.length<=1000000)(w:WD)
  (hseq:SeqStopsK Fence.wide 7 prog gf lb (λx:OkP=>#[.agg (ptE.e x.1).toArray]) KeepsWalks S g N w):
  Calls prog 173 #[.func (.func gf) #[] lb,.func (.func 118) #[] #[]] w λe w'=>∃v ss,e=.returned v/\S ss/\a0T 189 33 w.heap.size w' v ((a5F (λx y:OkP=>a5t x.1 y.1) ss).map (λx=>ptE.e x.1))/\Below w.heap.size w w':=by
 have K:=b4H gf lb f j w hseq;clear hseq;go_enter func173,ntmps173;go_wp2_with fail;refine μ1 K ?_;rintro Q E ⟨v,ss,rfl,p,o,B⟩;obtain⟨A,n,c,rfl,I⟩:=o.formN;have D:=c0a _ _ ss (d _ p) E o;have⟨G,J,r⟩:=η3 p o B;clear p o B I;go_wp2_with fail;refine μ1 D ?_;rintro P R ⟨rfl,m,z⟩;have⟨H,F⟩:=η2 m z;clear m z D;go_wp2;go_ret;refine⟨_,ss,rfl,G.o,?_,r.trans (F.below r.size (λk O e=>by have:=(J.lt e).1;omega))⟩
 have e:(λx y:OkP=>!(ltOf (λx y:OkP=>a5t x.1 y.1)) y x)=λa b=>decide (a5t a.1 b.1<=0):=by
  funext a b
  have:=a6o.anti b.1 a.1
  simp only[ltOf,Bool.not_eq_eq_eq_not,<-decide_not,decide_eq_decide];omega
 have m:=H.o;rw[e]at m;exact m
theorem c2I(v:VL)(B:Nat)(a:List OkK)(b:a.length<=1000000)(w:WD)(h:a0T 212 33 B w v (a.map (λx=>keE.e x.1))):
  Calls prog 231 #[v,.func (.func 121) #[] #[]] w λe w'=>e=.returned (.tuple #[])/\a0T 212 33 B w' v ((a.mergeSort λx y=>!(ltOf (λx y:OkK=>a6w x.1 y.1)) y x).map (λx=>keE.e x.1))/\Fr (λj=>v.ownBlock=some j) w w':=by
 have G:∀x:OkK,(keE.e x.1).length=33:=λx=>a6m x.2.len _
 have o:∀x:OkK,∀u∈keE.e x.1,u.oneCell'=true:=λx=>a7K _ _
 have f:=h.own;obtain⟨X,⟨rfl,P⟩ | ⟨g,cap,p,rfl,Q,R,r,U,T,ht⟩⟩:=f
 ·refine(b5m none 0 _ w).mono ?_
  rintro e w' ⟨rfl,rfl⟩;have O:a=[]:=ρw P;subst O;exact⟨rfl,by simpa using h,Qp _ _⟩
 have F:Blk w g 212 p:=R;rw[Qw]at r ht⊢;have I:p.toList.take (a.toArray.size*33)=(a.toArray.toList.map (λx:OkK=>keE.e x.1)).flatten:=ρw ht;have S:=a0T.holds (λx:OkK=>keE.e x.1) 33 G a.toArray F I;have z:=F.lt
 have W:=AnyQ.slices_SortFunc Tryz.laysSK 33 (λw=>by kernel_rfl) (λw=>by kernel_rfl) (λx:OkK=>keE.e x.1) G o (λx y=>a6w x.1 y.1) (show SWO (ltOf (λx y:OkK=>a6w x.1 y.1))from(a7f.comp (λx:OkK=>x.1)).swo) 121 #[] g 0 cap a.toArray w
  (enters_of func121 ρk rfl) (λm os Y V x y=>(b0s x.1 y.1 x.2 y.2 _).mono (λe w' ⟨o,E⟩=>⟨o,E⟩)) S z (by simp;omega)
 refine W.mono ?_;rintro e w' ⟨rfl,J,n,os,N,H,rfl⟩
 have K:=sorted_unique_holds (lt:=ltOf (λx y:OkK=>a6w x.1 y.1)) (a7f.comp (λx:OkK=>x.1)).swo (λx y o E=>Subtype.ext (b7S x.2 y.2 (by
  have Z:=a7f.anti y.1 x.1;simp only[ltOf,decide_eq_false_iff_not,Int.not_lt]at o E;omega))) a.toArray J N H
 have D:J.size=a.toArray.size:=N.1;have d:=a0T.sorted (λx:OkK=>keE.e x.1) 33 G (B:=B) (n:=n) a.toArray J os Q F (ρw r) U T D;rw[K]at d;exact⟨rfl,by simpa using d.1,d.2.mono (λj _ e=>by rw[e];rfl)⟩
theorem b6N(gf:Nat)(lb:AV)(f:∀args w,(callFunc gf args).run prog w=.ok (.enter gf args) w){S g:List OkK->Prop}(j:N<=1000000)(d:∀ss,S ss->ss.length<=1000000)(w:WD)
  (hseq:SeqStopsK Fence.wide 7 prog gf lb (λx:OkK=>#[.agg (keE.e x.1).toArray]) KeepsWalks S g N w):
  Calls prog 176 #[.func (.func gf) #[] lb,.func (.func 121) #[] #[]] w λe w'=>∃v ss,e=.returned v/\S ss/\a0T 212 33 w.heap.size w' v ((a5F (λx y:OkK=>a6w x.1 y.1) ss).map (λx=>keE.e x.1))/\Below w.heap.size w w':=by
 have K:=b5i gf lb f j w hseq;clear hseq;go_enter func176,ntmps176;go_wp2_with fail;refine μ1 K ?_;rintro Q E ⟨v,ss,rfl,p,o,B⟩;obtain⟨A,n,c,rfl,I⟩:=o.formN;have D:=c2I _ _ ss (d _ p) E o;have⟨G,J,r⟩:=η3 p o B;clear p o B I;go_wp2_with fail;refine μ1 D ?_;rintro P R ⟨rfl,m,z⟩;have⟨H,F⟩:=η2 m z;clear m z D;go_wp2;go_ret;refine⟨_,ss,rfl,G.o,?_,r.trans (F.below r.size (λk O e=>by have:=(J.lt e).1;omega))⟩
 have e:(λx y:OkK=>!(ltOf (λx y:OkK=>a6w x.1 y.1)) y x)=λa b=>decide (a6w a.1 b.1<=0):=by
  funext a b
  have:=a7f.anti b.1 a.1
  simp only[ltOf,Bool.not_eq_eq_eq_not,<-decide_not,decide_eq_decide];omega
 have m:=H.o;rw[e]at m;exact m
theorem b0T{α:Type}{q:α->Prop}{f:α->α->Int}(h:a4k f)(j:∀{x y:α},q x->q y->f x y=0->x=y){d:List {a // q a}}{L:List α}(g:(d.map Subtype.val).Perm L):(a5F (λx y:{a // q a}=>f x.1 y.1) d).map Subtype.val=a5F f L:=by
 refine c3k h (((a2G d).map _).trans g) ?_ (λx o y m e=>?_)
 ·rw[Yk]
  exact b6U (h.comp Subtype.val) d
 obtain⟨a,-,rfl⟩:=Qs.1 (g.symm.subset o);obtain⟨b,-,rfl⟩:=Qs.1 (g.symm.subset m);exact j a.2 b.2 e
theorem b3Q(lb lm:Nat)(L:List (Pt×a1J))(s:Int)(a:L.length<=1000000)(w:WD)(h:a0j w lb lm L s):
  Calls prog 109 #[.pointer lb] w λe w'=>∃v,e=.returned v/\a0T 189 33 w.heap.size w' v ((a5F a5t (L.map Prod.fst)).map ptE.e)/\Below w w w':=by
 have q0:=h.q0;have f:=b5s lm w;have b:=ρb w (.cells #[.map (some lm)] 164)
 have r:=b1l 229 #[.pointer w] (enters_of func229 ρk rfl)
  (N:=L.length) a (λj e=>by have:=e.length_eq;simp at this;omega) (w.alloc (.cells #[.map (some lm)] 164))
  (a9E Fence.wide 7 trivial rfl ρo w.heap.size lm L (by unfold maxLen;omega) _ ρp ((Qd w _ _).cell 0) (h.below b).mp)
 have d:=η1 b;clear b h;go_enter func109,ntmps109;go_wp2_with fail;refine μf f ?_;go_wp2_with fail;refine μ1 r ?_;rintro B z ⟨v,j,rfl,o,x,m⟩;go_wp2;go_ret;refine⟨v,rfl,?_,φt d m⟩;have p:=x.base (B':=w.heap.size) ρp;rw[<-b0T (q:=ptE.ok) a6o (λy g e=>b3r y g e) o,List.map_map];exact p
theorem b4K(lb lm:Nat)(L:List (Pt×a1q))(s:Int)(a:L.length<=1000000)(w:WD)(h:a0i w lb lm L s):
  Calls prog 108 #[.pointer lb] w λe w'=>∃v,e=.returned v/\a0T 189 33 w.heap.size w' v ((a5F a5t (L.map Prod.fst)).map ptE.e)/\Below w w w':=by
 have q0:=h.q0;have f:=c1f lm w;have b:=ρb w (.cells #[.map (some lm)] 161)
 have r:=b1l 228 #[.pointer w] (enters_of func228 ρk rfl)
  (N:=L.length) a (λj e=>by have:=e.length_eq;simp at this;omega) (w.alloc (.cells #[.map (some lm)] 161))
  (b5p Fence.wide 7 trivial rfl ρo w.heap.size lm L (by unfold maxLen;omega) _ ρp ((Qd w _ _).cell 0) (h.below b).mp)
 have d:=η1 b;clear b h;go_enter func108,ntmps108;go_wp2_with fail;refine μf f ?_;go_wp2_with fail;refine μ1 r ?_;rintro B z ⟨v,j,rfl,o,x,m⟩;go_wp2;go_ret;refine⟨v,rfl,?_,φt d m⟩;have p:=x.base (B':=w.heap.size) ρp;rw[<-b0T (q:=ptE.ok) a6o (λy g e=>b3r y g e) o,List.map_map];exact p
theorem b3v(kb km:Nat)(N:List Nat)(L:List (Ke×MkD))(a:L.length<=1000000)(w:WD)(h:a0z w kb km N L):
  Calls prog 110 #[.pointer kb] w λe w'=>∃v,e=.returned v/\a0T 212 33 w.heap.size w' v ((a5F a6w (L.map Prod.fst)).map keE.e)/\Below w w w':=by
 have q0:=h.q0;have f:=b4p km w;have b:=ρb w (.cells #[.map (some km)] 167)
 have r:=b6N 232 #[.pointer w] (enters_of func232 ρk rfl)
  (N:=L.length) a (λj e=>by have:=e.length_eq;simp at this;omega) (w.alloc (.cells #[.map (some km)] 167))
  (a9z Fence.wide 7 trivial rfl ρo w.heap.size km L (by unfold maxLen;omega) _ ρp ((Qd w _ _).cell 0) (h.below b).mp)
 have d:=η1 b;clear b h;go_enter func110,ntmps110;go_wp2_with fail;refine μf f ?_;go_wp2_with fail;refine μ1 r ?_;rintro B z ⟨v,j,rfl,o,x,m⟩;go_wp2;go_ret;refine⟨v,rfl,?_,φt d m⟩;have p:=x.base (B':=w.heap.size) ρp;rw[<-b0T (q:=keE.ok) a7f (λy g e=>b7S y g e) o,List.map_map];exact p
end
section
theorem b4t:(((prog.info? 41).bind (·.zero)).map (·.cells.size))=some 139:=ρk
theorem b7f(t:TxD):∀(l:LI) (c:List (Pt×a1q)×Int),(0<=c.2/\c.2<=18446744073709551615)->c.1.length<=256->(0<=(a6u t l c).2/\(a6u t l c).2<=18446744073709551615)/\(a6u t l c).1.length<=256
 | [],c,h1,h2=>⟨h1,h2⟩
 | k::l,c,h1,h2=>b7f t l _ (a2h _) (Qk (b6X _ _) h2)
theorem c7R{C:List (Pt×a1q)}{Lk:List (Pt×a1J)}(a:0<=sC/\sC<=18446744073709551615)(b:C.length<=256):(0<=(c2G n me C sC Lk t).2/\(c2G n me C sC Lk t).2<=18446744073709551615)/\(c2G n me C sC Lk t).1.length<=256:=by
 unfold c2G
 split
 ·exact⟨a,b⟩
 exact b7f t _ _ a b
theorem c7z(h:t.Bd)(k:Int)(a:k.toNat<t.outs.length):(b4C t k).Bd:=by
 have:b4C t k=t.outs[k.toNat]:=by simp[b4C,List.getD,a]
 rw[this];exact h.outs _ (Qu a)
theorem b7c(t:TxD)(ht:t.Bd)(id:LI):∀(l:LI) (c:List (Pt×a1q)×Int),(∀k∈l,k.toNat<t.outs.length)->(0<=c.2/\c.2<=18446744073709551615)->c.1.length<=256->(0<=(a3f t id l c).2.2/\(a3f t id l c).2.2<=18446744073709551615)/\(a3f t id l c).2.1.length<=256
 | [],c,_,h1,h2=>⟨h1,h2⟩
 |
  k::l,c,hl,h1,h2=>by
  rw[a5M]
  split
  ·exact⟨h1,h2⟩
  exact b7c t ht id l _ (λj hj=>hl j (Qj _ hj)) (b8a h1 _ (c7z ht k (hl k Qr))) (b7w h2 _ _)
theorem b7G{C:List (Pt×a1q)}(ht:t.Bd)(a:0<=sC/\sC<=18446744073709551615)(b:C.length<=256):(0<=(a9a n me C sC t).2/\(a9a n me C sC t).2<=18446744073709551615)/\(a9a n me C sC t).1.length<=256:=by
 unfold a9a
 split
 ·exact⟨a,b⟩
 refine b7c t ht _ _ _ (λk d=>?_) a b;obtain⟨i,e,hi⟩:=(a3I (a2K t n) me k).1 d
 have:=(Qm.1 hi).1
 have:=b7b t n
 rw[e];simp only[Zd];omega
theorem b8g(n me:Int)(C:List (Pt×a1q))(sC:Int)(t:TxD):0<=(a6S n me C sC t).1/\(a6S n me C sC t).1<=18446744073709551615:=by
 unfold a6S
 split
 ·simp
 split
 ·simp
 split
 ·simp
 exact b2s _ _
def c4t(seed:LI)(x:ShD)(cmd:LI)(t:TxD):Except Int (ShD×RpD):=
 if 128<=x.M.length then .error 18
 else if b1e x t.outs.length=true then .error 18
 else if(a6S x.n x.me x.C x.sC t).2≠0 then .error (a6S x.n x.me x.C x.sC t).2
 else if(a5b x.fees t.fee).2≠0 then .error (a5b x.fees t.fee).2
 else b5e seed {x with C:=(a9a x.n x.me x.C x.sC t).1,sC:=(a9a x.n x.me x.C x.sC t).2,fees:=x.fees+t.fee} 0 cmd t ⟨3,0,a7R,(a6S x.n x.me x.C x.sC t).1,2,0⟩
def c6M(seed:LI)(x:ShD)(cmd:LI)(t:TxD):Except Int (ShD×RpD):=
 if(a7D t x.n).2=false then .error 11
 else if(a7D t x.n).1≠x.me then .error 11
 else if b9d t.exp x.ep=true then .error 12
 else if(a2E x.M (0,idP t)).isSome=true then .ok (x,a2O (a2Q x.M (0,idP t)).c)
 else if t.exp<=x.ep then .error 12
 else if(a1w x.n x.me x.C x.L t).2≠0 then .error (a1w x.n x.me x.C x.L t).2
 else c4t seed {x with C:=(c2G x.n x.me x.C x.sC x.L t).1,sC:=(c2G x.n x.me x.C x.sC x.L t).2} cmd t
attribute [local go_sem ↓] a2q a1G a1M a7d a3j
theorem d0a(B a:Nat)(b:ShB)(N:List Nat)(seed:LI)(x:ShD)(A:OA)(n c:Nat)(m:LI)(z:n=m.length)(D:A=none->c=0)(y:m.length<=100000000)(d:OA)(o:Nat)(f:OA)(p:Nat)(t:TxD)(w:WD)
  (h:a1e w a b N seed x) (hB:∀j∈a::b.own,B<=j) (hby:b9j B w A m) (hgl:a8S B w) (ht:TxS B w d f t) (hl1:t.ins.length<=1000000) (hl2:t.outs.length<=1000000):
  Calls prog 87 #[.pointer a,.slice A n c,.agg (txV d o f p t)] w λe w'=>a6x B a N seed (c6M seed x m t) e w'/\b1q B a seed w w':=by
 generalize E:c6M seed x m t=q
 unfold c6M at E;have⟨g,hg⟩:=ηs w;have b4:=ht.at_.bd;have bP:(txV d o f p t)[1]? =some (.slice f t.outs.length p):=rfl;have bo:(txV d o f p t)[0]? =some (.slice d t.ins.length o):=rfl;have bg:(txV d o f p t)[2]? =some (.int .u64 t.fee):=rfl;have bs:(txV d o f p t)[3]? =some (.int .i64 t.exp):=rfl;have bL:(txV d o f p t).toList.length=4:=rfl
 generalize cH:txV d o f p t=tv at bo bP bg bs bL⊢
 have b0:=Qd w 53 (tv);have B0:=ρb w (.cells (tv) 53)
 generalize hW:w.alloc (.cells (tv) 53)=W at b0 B0
 rw[hg]at b0;have bF:W.heap.size=g+1:=by rw[<-hW,Qi,hg]
 have aW:=a5k W;have⟨zs,bn⟩:=η0 ((a0O 0 false a0r none 0).toArray);have a8:zs.size=139:=by rw[<-bn,Qc];exact a0A a0B _ _ _ _
 rw[bn,bF]at aW;have bt:=b0.alloc (.cells zs 41);have bz:=Qd W 41 zs;have B1:Below w w (W.alloc (.cells zs 41)):=B0.alloc B0.size _
 generalize hV:W.alloc (.cells zs 41)=V at bt bz B1 aW
 rw[bF]at bz;have ct:(ALs 41).run prog (w.alloc (.cells tv 53))=.ok (.pointer (g+1:Nat)) V:=by rw[hW];exact aW
 have hX:=a4m.begin h hB B1 (r:=g+1) ⟨by omega,bz.lt⟩ (K:=[(g,53,tv),(g+1,41,zs)]) (λq E=>by
  simp only[Qo,Qt,or_false]at E
  rcases E with rfl | rfl
  ·exact⟨by simp only;omega,bt⟩
  exact⟨by simp only;omega,bz⟩)
 have a9:∀X y' b' N',a4m B (g+1) w a b' N' seed y' [(g,53,tv),(g+1,41,zs)] X->(LDs 53 (.pointer g)).run prog X=.ok (.agg tv) X:=λX y' b' N' hx=>by
  have:=P4 uTx iTx (w:=X) tv.toList (by simpa using(hx.kp _ Qr).1) bL
  simpa using this
 have a4:∀X y' b' N',a4m B (g+1) w a b' N' seed y' [(g,53,tv),(g+1,41,zs)] X->X.cell? ⟨g,0,none⟩=some (.slice d t.ins.length o)/\X.cell? ⟨g,1,none⟩=some (.slice f t.outs.length p)/\X.cell? ⟨g,2,none⟩=some (.int .u64 t.fee)/\X.cell? ⟨g,3,none⟩=some (.int .i64 t.exp):=λX y' b' N' hx=>
  have hk:=(hx.kp _ Qr).1
  ⟨(hk.cell 0).trans bo,(hk.cell 1).trans bP,(hk.cell 2).trans bg,(hk.cell 3).trans bs⟩
 obtain⟨ZR,ad,a2,c8⟩:=P8 (t:=41) a4h b4t;have ch:-9223372036854775808<=x.n/\x.n<=9223372036854775807:=by have:=h.ok.n;have:=h.ok.me;omega
 have cf:Dig (idP t):=⟨a3b t,a5f t⟩;have⟨c3,c4,b5,cR,aB,aD,db,c0⟩:=η8 hX E a8 hby hgl ht z D;have⟨dg,HG,ah,aH,ci,cD,cC,br⟩:=η8 y hg a9 a4 ad a2 ch b4;have⟨dx,ay,dk⟩:=η3 cf cH h;clear hX E a8 hby hgl ht z D y hg a9 a4 ad a2 ch b4 cf cH h bn b0 B0 bt bz B1 bF aW bo bP bg bs bL hB hW hV c8;go_enter func87,ntmps87;have⟨U1,bw⟩:=η0 V.drew;have aA:=c3.drew;rw[bw]at aA;have cK:(LDs 53 (.pointer g)).run prog U1=.ok (.agg tv) U1/\U1.cell? ⟨a,1,none⟩=some (.int .i64 x.n):=⟨ah.o _ _ _ _ aA,aA.sh.c.2.1⟩;have⟨bC,bY,cS⟩:=η3 aA bw cK;clear aA bw cK;go_upto_region 1 with fail
 rw[HG.o];clear ct;refine a0s [(1,3),(2,3),(3,3),(0,0),(4,0),(5,2),(6,3),(7,3),(8,3),(9,3),(10,3)] (λY=>(LDs 53 (.pointer g)).run prog Y=.ok (.agg tv) Y/\Y.cell? ⟨a,1,none⟩=some (.int .i64 x.n)) ρk ρk ρk ρk (ρy bY.o cS.o) ?_;rw[bY.o];have aS:=b6P d o f p t x.n cC U1 (aD.go bC.fr).at_ (aB.go bC.fr).at_ hl1 hl2;rw[ay.o]at aS;have⟨sp,bI⟩:=η0 (a7D t x.n);rw[bI]at aS;have E:=c4.o;rw[bI]at E;obtain⟨sk,ss⟩:=sp;simp only at aS E;have bX:=η1 E;clear E bI;refine ε3 ?_
 iterate 2 refine θ2 (λ_ h=>h) ?_
 refine τ ?_;intro K hK;refine μi aS ?_;intro w5 cx;with_reducible refine hK _ _ ?_;clear hK K
 refine ε5 ?_;clear aS;refine ν ?_;have cd:=bC.below cx;have H:=η1 cd;clear cd cx;have q0:=H.sh.c.1;have aX:=a0X true 11 w5;simp only[if_true]at aX;have bO:=a1m 11 ρo w5
 cases ss with
 |
  false=>
  have E:=bX.o;rw[if_pos rfl]at E;subst E;go_wp2_with fail;refine μf aX ?_;go_wp2_with fail;refine μf bO ?_;exact⟨rfl,H.ref ρo⟩
 | true=>
 have E:=bX.o;rw[if_neg ρp]at E
 by_cases av:sk=x.me
 rotate_left
 ·rw[if_pos av]at E
  subst E;have hb:(sk != x.me)=true:=ρw av;go_wp2_with fail;refine μf aX ?_;go_wp2_with fail;refine μf bO ?_;exact⟨rfl,H.ref ρo⟩
 rw[if_neg (by simp[av])]at E;have hb:(sk != x.me)=false:=ρw av;have bJ:=a0X false 11 w5;simp only[QI,if_false]at bJ;have cc:=a1o w5;clear aX bO;have⟨cM,dv⟩:=η2 E av;clear E av;go_wp2_with fail;refine μf bJ ?_;go_wp2_with fail;refine μf cc ?_;clear bJ cc hb q0;have cv:=ah.o _ _ _ _ H
 by_cases J:b9d t.exp x.ep=true
 ·have E:=cM.o
  rw[if_pos J]at E;subst E;have Q:=a7T a b ((g+1)::N) seed x 0 d o f p t w5 H.sh J;rw[ay.o]at Q;clear J;go_wp2_with fail;refine μi Q ?_;intro w9 ab;exact⟨rfl,(H.below ab).ref ρo⟩
 have E:=cM.o;rw[if_neg J]at E;have Q:=a7X a b ((g+1)::N) seed x 0 ρo d o f p t w5 H.sh (ρw J) (aD.go H.fr).at_ (aB.go H.fr).at_ hl1 hl2;rw[ay.o]at Q;have⟨ck,dl⟩:=η2 E J;clear E J;go_wp2_with fail;refine μ1 Q ?_;rintro e9 w9 ⟨⟨A9,c9,rfl,aq,ba⟩,ab⟩;clear Q cv;have bf:a3C w5 w9 (a2Q x.M (0,idP t)).c A9 c9:=⟨aq.bd,aq.len,ba⟩;have R:=a0A aq.bd 0 true A9 c9;have ad:=ci.o w9;have aa:=cD.o w9 (a0O 0 true (a2Q x.M (0,idP t)).c A9 c9) R (a0W _ _ _ _ _);have kr:=Qd w9 41 (a0O 0 true (a2Q x.M (0,idP t)).c A9 c9).toArray;have Dr:=ρb w9 (.cells (a0O 0 true (a2Q x.M (0,idP t)).c A9 c9).toArray 41);have⟨r9,cN⟩:=ηs w9;rw[cN]at ad aa kr
 generalize dt:w9.alloc (.cells (a0O 0 true (a2Q x.M (0,idP t)).c A9 c9).toArray 41)=Y9 at aa kr Dr
 have aU:=(H.below ab).below Dr;have bb:=P4 a7w a4h _ kr R;have U:(g+1,41,zs)∈[(g,53,tv),(g+1,41,zs)]:=by simp
 have a7:=aU.sto U b5 (a0O 0 true (a2Q x.M (0,idP t)).c A9 c9) R (a0W _ _ _ _ _);have cJ:g+1<w5.heap.size:=(H.kp _ U).1.lt;have S:=aU.fin U (N0:=N) (λj hj=>Qj _ hj) (y0:=x) rfl (rp:=a2O (a2Q x.M (0,idP t)).c) H.sz cJ (bf.below Dr) rfl
 generalize aC:(a2E x.M (0,idP t)).isSome=is9
 have⟨cA,aI⟩:=η0 (a0O 0 true (a2Q x.M (0,idP t)).c A9 c9);simp only[a2O]at S;rw[aI]at aa bb a7 R S;rw[aI];have E:=ck.o;rw[aC]at E;have⟨aK,bU,cL,dj⟩:=η4 S R aU aC;clear S R aU aC aq ba ab bf kr Dr cN U aI cJ
 cases is9 with
 |
  true=>
  rw[if_pos rfl]at E;subst E;go_wp2_with fail;obtain⟨dR,bu,aO⟩:=Q8.1 a7w;refine bodyPost_ret (v:=.agg cA.toArray) (a0c rfl _ _ (g+1) _ cA dR rfl aK.2.2 bu aO (ρy bU.o a4h)) rfl ?_;exact⟨aK.1,aK.2.1⟩
 | false=>
 rw[if_neg ρp]at E;have bc:=η1 E;clear E;have⟨U3,bp⟩:=η0 Y9.drew;have aR:=cL.drew;rw[bp]at aR;have bW:U3.cell? ⟨a,3,none⟩=some (.int .i64 x.ep)/\U3.cell? ⟨g,3,none⟩=some (.int .i64 t.exp):=⟨aR.sh.c.2.2.2.1,(aH.o _ _ _ _ aR).2.2.2⟩;have⟨cq,cj,cZ⟩:=η3 aR bp bW;clear aR bp bW;go_upto_region 6 with fail
 clear bb a7 aa ad;refine a3Y [(0,3),(1,3),(2,3),(4,3),(3,0),(5,0),(6,3),(7,2),(8,2)] (λY=>Y.cell? ⟨a,3,none⟩=some (.int .i64 x.ep)/\Y.cell? ⟨g,3,none⟩=some (.int .i64 t.exp)) ρk ρk ρk ρk (ρy cj.o cZ.o) ?_;rw[cj.o];refine ε4 ?_
 iterate 2 refine θ2 (λ_ h=>h) ?_
 by_cases az:t.exp<=x.ep
 ·have E:=bc.o
  rw[if_pos az]at E;subst E;have hi:=a0X true 12 U3;simp only[if_true]at hi;have Z:=a1m 12 ρo U3;have hb:decide (t.exp<=x.ep)=true:=ρw az;refine ε1 ?_;refine τ ?_;intro K hK;refine μf hi ?_;with_reducible refine hK _ _ ?_;clear hK K
  refine τ ?_;intro K hK;refine μf Z ?_;exact λa' di=>⟨di,cq.ref ρo⟩
 have E:=bc.o;rw[if_neg az]at E;have hi:=a0X false 12 U3;simp only[QI,if_false]at hi;have Z:=a1o U3;have hb:decide (t.exp<=x.ep)=false:=ρw az;have⟨cU,du⟩:=η2 E az;clear E az;refine ε1 ?_;refine τ ?_;intro K hK;refine μf hi ?_;with_reducible refine hK _ _ ?_;clear hK K
 refine τ ?_;intro K hK;refine μf Z ?_;with_reducible refine hK _ _ ?_;clear hK K
 with_reducible refine a1N ?_
 rw[a0V];clear hi Z hb;have⟨U4,bk⟩:=η0 U3.drew;have ae:=cq.drew;rw[bk]at ae;have cF:(LDs 53 (.pointer g)).run prog U4=.ok (.agg tv) U4/\U4.cell? ⟨a,1,none⟩=some (.int .i64 x.n)/\U4.cell? ⟨a,0,none⟩=some (.int .i64 x.me)/\U4.cell? ⟨a,7,none⟩=some (.pointer b.cb)/\U4.cell? ⟨a,8,none⟩=some (.pointer b.lb):=⟨ah.o _ _ _ _ ae,ae.sh.c.2.1,ae.sh.c.1,ae.sh.c.2.2.2.2.2.2.2.1,ae.sh.c.2.2.2.2.2.2.2.2.1⟩;have⟨O,b9,c1⟩:=η3 ae bk cF;clear ae bk cF;go_upto_region 7 with fail
 refine a0s [(1,3),(2,3),(3,3),(5,3),(6,3),(7,3),(9,3),(10,3),(11,3),(13,3),(14,3),(15,3),(0,0),(4,0),(8,0),(12,0),(16,0),(17,2),(18,3),(19,3),(20,3),(21,3),(22,3)] (λY=>(LDs 53 (.pointer g)).run prog Y=.ok (.agg tv) Y/\Y.cell? ⟨a,1,none⟩=some (.int .i64 x.n)/\Y.cell? ⟨a,0,none⟩=some (.int .i64 x.me)/\Y.cell? ⟨a,7,none⟩=some (.pointer b.cb)/\Y.cell? ⟨a,8,none⟩=some (.pointer b.lb)) ρk ρk ρk ρk (ρy b9.o c1.o) ?_;rw[b9.o];have aE:=c9b B b.cb b.cm x.C x.sC b.lb b.lm x.L x.sL d o f p t x.n x.me cC.o U4 O.sh.co O.sh.lo (aD.go O.fr) ⟨O.pos _ (by simp[ShB.own]),O.pos _ (by simp[ShB.own])⟩ (aB.go O.fr).at_ hl1 hl2;have aP:=c7R (n:=x.n) (me:=x.me) (Lk:=x.L) (t:=t) O.sh.ok.sC O.sh.ok.lC;rw[ay.o]at aE;have⟨iq,cw⟩:=η0 (a1w x.n x.me x.C x.L t);have⟨pc,bG⟩:=η0 (c2G x.n x.me x.C x.sC x.L t);have E:=cU.o;rw[cw,bG]at E aE;rw[bG]at aP
 obtain⟨i1,i2⟩:=iq;simp only at E aE;have⟨da,a1⟩:=η2 E aP;clear E aP cw bG;refine ε7 ?_;refine ε5 ?_
 iterate 5 refine θ5 (λ_ h=>h) ?_
 refine τ ?_;intro K hK;refine μ1 aE ?_;rintro e7 w7 ⟨rfl,cB,bl⟩;with_reducible refine hK _ _ ?_;clear hK K
 refine ε5 ?_;clear aE;refine ν ?_;have bH:=O.step' (O.sh.setC bl cB a1.1 a1.2) (bl.mono (λk _ e=>c7I a b k e));have E:=da.o;have⟨F,bh⟩:=η0 ({x with C:=pc.1,sC:=pc.2});rw[bh]at bH E;have⟨ac,bV,dr⟩:=η3 bH E bh;clear bH E bh cB bl
 by_cases au:i2=0
 rotate_left
 ·have E:=bV.o
  rw[if_pos au]at E;subst E;have Z:=a1m i2 au w7;go_wp2_with fail;refine μf Z ?_;exact⟨rfl,ac.ref au⟩
 subst au;have E:=bV.o;rw[if_neg ρp]at E;have Z:=a1o w7;have b6:=η1 E;clear E;go_wp2_with fail;refine μf Z ?_;clear Z;have E:=b6.o;unfold c4t at E;have cz:=η1 E;clear E;have aG:=b0A a b ((g+1)::N) seed F w7 ac.sh
 by_cases ak:128<=F.M.length
 ·have E:=cz.o
  rw[if_pos ak]at E;subst E;rw[show decide (128<=F.M.length)=true by simpa using ak]at aG;have hi:=a0X true 18 w7;simp only[if_true]at hi;have Z:=a1m 18 ρo w7;clear ak;go_wp2_with fail;refine μf aG ?_;go_wp2_with fail;refine μf hi ?_;go_wp2_with fail;refine μf Z ?_;exact⟨rfl,ac.ref ρo⟩
 have E:=cz.o;rw[if_neg ak]at E;rw[show decide (128<=F.M.length)=false by simpa using ak]at aG;have hi:=a0X false 18 w7;simp only[QI,if_false]at hi;have Z:=a1o w7;have⟨be,ds⟩:=η2 E ak;clear E ak;go_wp2_with fail;refine μf aG ?_;go_wp2_with fail;refine μf hi ?_;go_wp2_with fail;refine μf Z ?_;clear aG hi Z;have c2:=(aH.o _ _ _ _ ac).2.1
 by_cases al:b1e F (t.outs.length:Int)=true
 ·have E:=be.o
  rw[if_pos al]at E;subst E;have hr:=b5T a b ((g+1)::N) seed F (t.outs.length:Int) ρo w7 ac.sh al;clear al;go_wp2_with fail;refine μi hr ?_;intro dm ab;exact⟨rfl,(ac.below ab).ref ρo⟩
 have E:=be.o;rw[if_neg al]at E;have hr:=b6o a b ((g+1)::N) seed F (t.outs.length:Int) ρo w7 ac.sh (ρw al);have⟨cP,dy⟩:=η2 E al;clear E al;go_wp2_with fail;refine μi hr ?_;intro cV ab;have bT:=ac.below ab;have b3:=η1 bT;clear bT ab;clear hr;clear c2;have⟨U8,bj⟩:=η0 cV.drew;have an:=b3.drew;rw[bj]at an;have bS:(LDs 53 (.pointer g)).run prog U8=.ok (.agg tv) U8/\U8.cell? ⟨a,1,none⟩=some (.int .i64 F.n)/\U8.cell? ⟨a,0,none⟩=some (.int .i64 F.me)/\U8.cell? ⟨a,7,none⟩=some (.pointer b.cb):=⟨ah.o _ _ _ _ an,an.sh.c.2.1,an.sh.c.1,an.sh.c.2.2.2.2.2.2.2.1⟩;have⟨I,cG,dd⟩:=η3 an bj bS;clear an bj bS;go_upto_region 11 with fail
 refine a0s [(1,3),(2,3),(3,3),(5,3),(6,3),(7,3),(9,3),(10,3),(11,3),(0,0),(4,0),(8,0),(12,0),(13,2),(14,3),(15,3),(16,3),(17,3),(18,3)] (λY=>(LDs 53 (.pointer g)).run prog Y=.ok (.agg tv) Y/\Y.cell? ⟨a,1,none⟩=some (.int .i64 F.n)/\Y.cell? ⟨a,0,none⟩=some (.int .i64 F.me)/\Y.cell? ⟨a,7,none⟩=some (.pointer b.cb)) ρk ρk ρk ρk (ρy cG.o dd.o) ?_;rw[cG.o];have a3:-9223372036854775808<=F.n/\F.n<=9223372036854775807:=by have:=I.sh.ok.n;have:=I.sh.ok.me;omega
 have aL:=b8j b.cb b.cm F.C F.sC I.sh.ok.sC d o f p t F.n F.me a3 U8 I.sh.co (aD.go I.fr).at_ (aB.go I.fr).at_ hl1 hl2;have ai:=b7G (n:=F.n) (me:=F.me) br.o I.sh.ok.sC I.sh.ok.lC;have ar:=b8g F.n F.me F.C F.sC t;rw[ay.o]at aL;have⟨mq,bx⟩:=η0 (a6S F.n F.me F.C F.sC t);have⟨mc,bE⟩:=η0 (a9a F.n F.me F.C F.sC t);have E:=cP.o;rw[bx,bE]at E aL;rw[bE]at ai;rw[bx]at ar;obtain⟨m1,m2⟩:=mq;simp only at E aL ar;have⟨cO,cy,aJ⟩:=η3 E ar ai;clear E ar ai bx bE a3;refine ε7 ?_;refine ε2 ?_
 iterate 4 refine θ4 (λ_ h=>h) ?_
 refine τ ?_;intro K hK;refine μi aL ?_;intro w5 cT;with_reducible refine hK _ _ ?_;clear hK K
 refine ε5 ?_;clear aL;refine ν ?_;have E:=cO.o
 rcases cT with⟨aT,bZ⟩ | ⟨hz,aV,wz,bD,bv,bN,cE⟩
 ·rw[if_pos aT]at E
  subst E;have Z:=a1m m2 aT w5;have b2:=I.below bZ;have⟨dh,c5⟩:=η2 b2 aT;clear b2 aT bZ;go_wp2_with fail;refine μf Z ?_;exact⟨rfl,dh.ref c5⟩
 subst hz;rw[if_neg ρp]at E;have b8:Fr (λk=>k∈a::b.own) U8 w5:=((Q9 bv).mono (G:=λk=>k∈a::b.own) (λk hk e=>ρo)).trans bN (λk _ e=>by rw[e];simp[ShB.own])
 have bq:=I.step (I.sh.newC bv bD bN cE aJ.1 aJ.2) b8 (λj hj=>Qj _ hj) (λj hj=>by
  simp only[ShB.own,Qo,Qt,or_false]at hj⊢
  rcases hj with e | e | e | e | e | e
  ·exact .inl (.inl e)
  ·exact .inr (ρy e bD)
  ·exact .inl (.inr (.inr (.inl e)))
  ·exact .inl (.inr (.inr (.inr (.inl e))))
  ·exact .inl (.inr (.inr (.inr (.inr (.inl e)))))
  exact .inl (.inr (.inr (.inr (.inr (.inr e))))))
 have⟨b',cg⟩:=η0 ({b with cm:=aV});have⟨y8,bK⟩:=η0 ({F with C:=mc.1,sC:=mc.2});rw[cg,bK]at bq;have Z:=a1o w5;have⟨ag,ce,a5⟩:=η3 bq E bK;clear bq E bK b8 bv bN cE bD cg;go_wp2_with fail;refine μf Z ?_;clear Z;have af:y8.fees=F.fees:=by rw[<-a5.o]
 have c6:=(aH.o _ _ _ _ ag).2.2.1;have E:=ce.o
 by_cases ao:(a5b y8.fees t.fee).2=0
 rotate_left
 ·rw[<-af,if_pos ao]at E
  subst E;have a0:=c6u a b' (aV::(g+1)::N) seed y8 t.fee br.fee w5 ag.sh ao;have cY:=η1 ao;clear ao af;go_wp2_with fail;refine μi a0 ?_;intro w8 dc;exact⟨rfl,(ag.below dc).ref cY⟩
 rw[<-af,if_neg (by simp[ao])]at E;have a0:=c6J a b' (aV::(g+1)::N) seed y8 t.fee br.fee w5 ag.sh ao;have c7:=η1 E;clear E af ao;go_wp2_with fail;refine μ1 a0 ?_;rintro e8 w8 ⟨rfl,cp,b7⟩;clear a0;have bQ:=ag.step' cp (b7.mono (λk _ e=>a8B a b' k e));have E:=c7.o;have⟨yf,af⟩:=η0 ({y8 with fees:=y8.fees+t.fee});rw[af]at bQ;have cn:({F with C:=mc.1,sC:=mc.2,fees:=y8.fees+t.fee}:ShD)=yf:=by rw[<-af,<-a5.o]
 rw[cn]at E;have⟨T,de⟩:=η2 bQ E;clear bQ E cp b7 af cn c6;have ca:=ah.o _ _ _ _ T;have bR:=b4k 3 m1 2;have bB:(⟨3,0,a7R,m1,2,0⟩:a1P).Bd:=b1v ρo Dig.zIdY cy.o ρo;have ax:=a5z a b' (aV::(g+1)::N) seed yf 0 ρo A n c m db.o c0.o dg.o d o f p t ⟨3,0,a7R,m1,2,0⟩ bB w8 T.sh (cR.go T.fr).at_ (aD.go T.fr).at_ hl1 hl2 (aB.go T.fr).at_;rw[ay.o]at ax;have E:=de.o;have⟨e0,bi⟩:=η0 ((⟨3,0,a7R,m1,2,0⟩:a1P):a1P);rw[bi]at ax E bB;simp only[bi]at bR;have⟨ev,aZ⟩:=η0 ((a0x e0).toArray);rw[aZ]at ax;simp only[aZ]at bR;have⟨dq,cQ⟩:=η0 (b5e seed yf 0 m t e0);rw[cQ]at ax E;subst E;have dz:=η1 aZ;clear aZ bB bi cQ;go_wp2_with fail;refine μ1 ax ?_;rintro dp dn ⟨cu,aQ⟩;clear ax bR
 cases dq with
 |
  error k=>
  obtain⟨hk,rfl⟩:=cu;exact⟨rfl,T.refF aQ hk⟩
 |
  ok yr=>
  obtain⟨df,rp⟩:=yr;obtain⟨⟨dw,a6,cr⟩,bm,bA,rfl,aj⟩:=cu;have aF:=T.step' a6 aQ;have U:(g+1,41,zs)∈[(g,53,tv),(g+1,41,zs)]:=by simp
  have aY:=a0A aj.1 rp.e rp.has bm bA;have cW:=aF.sto U b5 (a0O rp.e rp.has rp.c bm bA) aY (a0W _ _ _ _ _);have cI:g+1<w8.heap.size:=(T.kp _ U).1.lt;have aM:=aF.fin U (N0:=N) (λj hj=>Qj _ (Qj _ hj)) (y0:=df) cr (rp:=rp) T.sz cI aj rfl;have⟨rs,bM⟩:=η0 (a0O rp.e rp.has rp.c bm bA);rw[bM]at cW aM aY;rw[bM];have⟨aN,cX⟩:=η2 aM aY;clear aM aY aF a6 aj aQ cr U cI bM;clear ca;go_wp2_with fail;obtain⟨dR,bu,aO⟩:=Q8.1 a7w;refine bodyPost_ret (v:=.agg rs.toArray) (a0c rfl _ _ (g+1) _ rs dR rfl aN.2.2 bu aO (ρy cX.o a4h)) rfl ?_;exact⟨aN.1,aN.2.1⟩
end
section
theorem b7y(x y:VL):binOp .neq 31 x y=NEs 31 x y:=rfl
theorem c7s(d:Dig a)(f:Dig b)(w:WD):(Op.equalIn (9997+3) 31 (.agg (bys a).toArray) (.agg (bys b).toArray)).run prog w=.ok (decide (a=b)) w:=by
 obtain⟨r,j,g⟩:=run_equalIn_deep (P:=prog) 9997 3 31 ρk w 3 3 (.agg (bys a).toArray) (.agg (bys b).toArray) _ _
  (by simp[Value.formed,cId,a0a,d.1]) (by simp[Value.formed,cId,a0a,f.1]) (by simpa[Value.cells]using a6a 1 d.1 d.2) (by simpa[Value.cells]using a6a 1 f.1 f.2)
 rw[j]
 congr 1
 rw[Bool.eq_iff_iff,g,decide_eq_true_eq,List.map_inj_right (λa b h=>by simpa using h)]
theorem c6F(d:Dig a)(f:Dig b)(w:WD):(NEs 31 (.agg (bys a).toArray) (.agg (bys b).toArray)).run prog w=.ok (.bool (!decide (a=b))) w:=by
 unfold NEs;simp only[binOp];rw[show(Op.equal 31 (.agg (bys a).toArray) (.agg (bys b).toArray))=Op.equalIn (9997+3) 31 (.agg (bys a).toArray) (.agg (bys b).toArray)from rfl];simp[c7s d f w]
def FDl(t:TI)(v:VL)(i:Nat):Sem VL:=Instr.field t v i
theorem c4E(v:VL)(i:Nat):Instr.field 208 v i=FDl 208 v i:=rfl
theorem d2d:∃f0 f1:Field,prog.underlying 208=some (.struct #[f0,f1])/\f1.type=31/\f1.offset=33:=
 ⟨_,_,Tryz.underlying208,rfl,rfl⟩
theorem c9m{x:a1J}(h:a6v x)(w:WD):(FDl 208 (.agg (a4V x).toArray) 1).run prog w=.ok (.agg (bys x.2).toArray) w:=by
 obtain⟨y,v,p,t1,r⟩:=d2d;obtain⟨d,b,o⟩:=Q8.1 a2i;obtain⟨i,a,g⟩:=Q8.1 iId
 have e:((a4V x).drop 33).take 32=bys x.2:=by
  apply List.ext_getElem?
  intro j;rw[Zj]
  by_cases f:j<32
  ·rw[if_pos f,ZY]
   have m:j<(bys x.2).length:=by rw[a0a,h.len];exact f
   rw[QN m];exact c2S h (QN m)
  rw[if_neg f,ZL (by rw[a0a,h.len];omega)]
 unfold FDl Instr.field;simp[p,part,t1,r,asAgg,b,a,g,sizeOf,typeInfo];exact e
theorem a0j.look1{cb a:Nat}{m:List (Pt×a1J)}{s:Int}(h:a0j w cb a m s){p:Pt}(b:a6l p):
  (Instr.lookup 164 (.map (some a)) (.agg (ptL p.1 p.2).toArray) false).run prog w=.ok (.agg (a4V (a0H m p)).toArray) w:=by
 unfold a0H
 cases hg:a2E m p with
 | none=>exact h.mp.look_out a8R b (d1K w) hg false
 | some v=>exact h.mp.look_in a8R hg false
attribute [local go_sem ↓] a1F a1B b7y c4E
theorem c9p(d m lb lm:Nat)(L:List (Pt×a1J))(s:Int)(D:LI)(p:Dig D)(x:OkP)(w:WD)(h:a0j w lb lm L s)(f:Blk w d 89 #[.pointer lb])(j:Blk w m 31 (bys D).toArray):
  Calls prog 256 #[.agg (ptE.e x.1).toArray,.pointer d,.pointer m] w λe w'=>e=.returned (.bool (!decide ((a0H L x.1).2=D)))/\Below w w w':=by
 have⟨g,T⟩:=ηs w;have⟨H,E⟩:=η0 (ptE.e x.1);have I:H.length=33:=by rw[<-E];exact a1x x.2.len _
 rw[E];have N:=Qd w 189 (H.toArray);have B:=ρb w (.cells (H.toArray) 189)
 generalize hW:w.alloc (.cells (H.toArray) 189)=W at N B
 rw[T]at N;have G:Fr (λ_=>False) W W.drew:=(Qp _ _).drew;have O:=(h.below B).fr G id id;have y:=(f.fr (Q9 B) (ρh f.lt)).fr G id;have F:=(j.fr (Q9 B) (ρh j.lt)).fr G id;have z:=N.fr G id;have U:=B.trans (G.below B.size (λ_ _=>id));have⟨X,S⟩:=η0 W.drew;rw[S]at O y F z U;have c0:X.cell? ⟨d,0,none⟩=some (.pointer lb):=y.cell 0;have c1:=O.q0;have ae:=P4 a3a a1H H z I;have ac:=P4 a2i iId (bys D) F (by rw[a0a,p.1]);have r:=a2U h.bd x.1;have J:=O.look1 x.2;have ad:=λW=>c9m r W
 have Q:=λW=>c6F (a:=(a0H L x.1).2) (b:=D) ⟨r.len,r.id⟩ p W
 rw[show(ptL x.1.1 x.1.2)=H from E]at J;have⟨lv,ab⟩:=η0 ((a4V (a0H L x.1)).toArray);have⟨iv,Z⟩:=η0 ((bys (a0H L x.1).2).toArray);have⟨dv,V⟩:=η0 ((bys D).toArray);have⟨bv,R⟩:=η0 ((!decide ((a0H L x.1).2=D)));simp only[ab,Z,V,R]at J ad Q ac⊢;have⟨HX,HG,aa,HW⟩:=η4 S T U hW;clear S T U hW N B G O y F z r I h f j;go_enter func256,ntmps256;go_upto_region 1 with fail
 rw[HG.o,HW.o];refine a0s [(0,0),(1,3),(2,3),(3,0),(4,0),(5,0),(6,3),(7,0),(8,3),(9,3)] (λY=>Y=X) ρk ρk ρk ρk (by rw[HX.o]) ?_;rw[HX.o]
 iterate 1 (with_reducible refine a0t (o:=?_) (v:=?_) (a':=?_) ρu ρu (λW' K=>?_) ?_ ?_;rotate_left 2;(focus(subst K;exact ρs));focus(exact ρs))
 refine ε2 ?_
 iterate 3 (with_reducible refine a0t (o:=?_) (v:=?_) (a':=?_) ρu ρu (λW' K=>?_) ?_ ?_;rotate_left 2;(focus(subst K;exact ρs));focus(exact ρs))
 refine ε1 ?_
 iterate 1 (with_reducible refine a0t (o:=?_) (v:=?_) (a':=?_) ρu ρu (λW' K=>?_) ?_ ?_;rotate_left 2;(focus(subst K;exact ρs));focus(exact ρs))
 refine ε2 ?_;refine ν ?_;go_wp2;go_ret;exact⟨rfl,aa.o⟩
structure d3j(L:List (Pt×a1J))(D:LI)(ps:List OkP):Prop where
 mem:∀x∈ps,x.1∈L.map Prod.fst/\(a0H L x.1).2=D
 all:∀p∈L,(a0H L p.1).2=D->p.1∈ps.map Subtype.val
 nd:(ps.map Subtype.val).Nodup
 len:ps.length<=L.length
def d0c(L:List (Pt×a1J))(D:LI)(w:WD)(e:Ending)(w':WD):Prop:=
 ∃A c,∃ps:List OkP,e=.returned (.slice A ps.length c)/\d3j L D ps/\a0T 189 33 w.heap.size w' (.slice A ps.length c) (ps.map (λx=>ptE.e x.1))/\Below w w w'
theorem c2J(lb lm:Nat)(L:List (Pt×a1J))(s:Int)(D:LI)(a:Dig D)(b:L.length<=1000000)(w:WD)(h:a0j w lb lm L s):
  Calls prog 218 #[.pointer lb,.agg (bys D).toArray] w (d0c L D w):=by
 have⟨g,T⟩:=ηs w;have aa:(bys D).length=32:=by rw[a0a,a.1]
 have F:=(Qd w 89 #[.pointer lb]).alloc (.cells (bys D).toArray 31);have b1:=Qd (w.alloc (.cells #[.pointer lb] 89)) 31 (bys D).toArray;have Q:Below w w ((w.alloc (.cells #[.pointer lb] 89)).alloc (.cells (bys D).toArray 31)):=(ρb w _).alloc ρp _;rw[Qi]at b1;rw[T]at F b1
 generalize U:(w.alloc (.cells #[.pointer lb] 89)).alloc (.cells (bys D).toArray 31)=W at F b1 Q
 have Y:=h.below Q;have O:=b3Z lb lm L s b W Y;have c0:W.cell? ⟨g,0,none⟩=some (.pointer lb):=F.cell 0;have⟨dv,r⟩:=η0 ((bys D).toArray);rw[r]at U;have⟨HW,d,K,o,P,HG,HD,ae⟩:=η8 U Q F b1 Y T a r;have HH:=η1 h;clear U Q F b1 Y T a r h aa;rw[ae.o];go_enter func218,ntmps218;go_wp2_with fail;rw[HW.o,HG.o];go_wp2_with fail;refine μ1 O ?_;rintro e1 w1 ⟨v,E,rfl,p,I,f⟩;obtain⟨A,N,c,rfl,hN⟩:=I.formN;have ad:=d.size;have R:g+1<W.heap.size:=o.lt;have B:E.length=L.length:=by have:=p.length_eq;simpa using this
 have m:=c5P 256 #[.pointer g,.pointer (g+1:Nat)] (enters_of func256 ρk rfl) (λx=>!decide ((a0H L x.1).2=D)) E A N c W.heap.size w1 ρo I (λX x S=>by
  have j:∀k,k<W.heap.size->¬(Value.slice A N c).ownBlock=some k:=λk hk e=>by have:=(I.lt e).1;omega
  exact c9p g (g+1) lb lm L s D HD.o x X ((P.below f).fr S (j _ P.st.lt) (j _ P.mp.lt)) ((K.fr (Q9 f) ρo).fr S (j _ K.lt)) ((o.fr (Q9 f) ρo).fr S (j _ o.lt)))
 have⟨y,HO,H,ab⟩:=η4 p I f B;clear p I f B hN ad R;go_wp2_with fail;refine μ1 m ?_;rintro e2 w2 ⟨n,rfl,z,G⟩;obtain⟨hn,-⟩:=z.sp;have⟨V,Z,HN⟩:=η3 z G hn;clear z G hn m;go_wp2;go_ret;have J:=HN.o;rw[Qw]at J;subst J
 have ac:(E.map Subtype.val).Nodup:=by
  refine(y.nodup_iff).2 ?_;exact Yk.2 P.mp.apart
 refine⟨A,c,E.filter (λx=>!!decide ((a0H L x.1).2=D)),rfl,⟨λx hx=>?_,λq hq hd=>?_,?_,?_⟩,?_,?_⟩
 ·have:=ZD.1 hx
  exact⟨y.mem_iff.1 (Qs.2 ⟨x,this.1,rfl⟩),by simpa using this.2⟩
 ·obtain⟨x,hx,e⟩:=Qs.1 (y.mem_iff.2 (Qs.2 ⟨q,hq,rfl⟩))
  exact Qs.2 ⟨x,ZD.2 ⟨hx,by rw[e,hd];simp⟩,e⟩
 ·exact ac.sublist (List.Sublist.map _ List.filter_sublist)
 ·have:=ZX (λx:OkP=>!!decide ((a0H L x.1).2=D)) E
  have:=ab.o
  omega
 ·exact V.base d.size
 exact(d.trans (H.mono d.size)).trans (Z.below (d.trans (H.mono d.size)).size (λk hk e=>by have:=(HO.lt e).1;have:=d.size;omega))
end
section
theorem c7K(b:Int)(m:0<=b/\b<=255)(d:OA)(v f:Nat)(a:LI)(X:WD)(o:Byt X d a)(p:v=a.length)(r:d=none->f=0)(g:a.length<=400000000)(w:a2x X):
  Calls prog 105 #[.int .u8 b,.slice X 1 1] (X.alloc (.cells #[.slice d v f] 22)) λe w'=>e=.returned (.agg (bys (a1K b [a])).toArray)/\Below X X w':=by
 subst p;have G:=Qd X 22 #[.slice d a.length f];have D:=ρb X (.cells #[.slice d a.length f] 22)
 have J:b8s (X.alloc (.cells #[.slice d a.length f] 22)) X [.slice d a.length f] [a]:=⟨rfl,λ_=>⟨X.heap.size,0,rfl,G.lt,λj x z=>by rw[QP,G.cell j];simpa using z⟩,λi h I=>by
  obtain rfl:i=0:=by simp at h;omega
  exact⟨d,f,rfl,o.below D,r⟩⟩
 have:=b1c b m X 1 [.slice d a.length f] [a] _ J (λi h I k y F=>by
  obtain rfl:i=0:=by simp at h;omega
  simp only[List.getElem_cons_zero]at y F
  cases d with
  | none=>cases y
  |
   some O=>
   rw[a8I]at y
   cases y
   obtain⟨N,E,K,H,_⟩:=o.cell F
   cases K
   rw[Qi];simp only;omega) ρp (ρw g) (λl g x z=>by
  simp only[Qn]at g;subst g;exact o.bd x z) (w.below D)
 refine this.mono ?_;rintro e w' ⟨rfl,B⟩;exact⟨rfl,D.trans (B.mono ρp)⟩
def a5I(seed:LI)(x:ShD)(cmd:LI)(ser:Int)(o:a1q):Except Int (ShD×RpD):=
 if ser<=x.ser then .error 24
 else if x.ser+1<ser then .error 5
 else if o.am=0 then .error 8
 else if 4611686018427387904 / x.n<x.iss\/4611686018427387904 / x.n-x.iss<o.am then .error 19
 else match b9R (a1K 12 [cmd]) x.n x.me with
  | none=>.error 11
  |
   some i=>
   if b1e x 1=true then .error 18
   else if(a7H x.C x.sC (a1K 12 [cmd],(i:Int)) o).1≠0 then .error (a7H x.C x.sC (a1K 12 [cmd],(i:Int)) o).1
   else b9r seed {x with C:=(a7H x.C x.sC (a1K 12 [cmd],(i:Int)) o).2.1,sC:=(a7H x.C x.sC (a1K 12 [cmd],(i:Int)) o).2.2,ser:=ser,iss:=x.iss+o.am} cmd ⟨3,0,a1K 12 [cmd],o.am,1,0⟩
attribute [local go_sem ↓] a1G a1M a3j a1B a5a a5i a1F a4Z a5p b5t
theorem c3n(B a:Nat)(b:ShB)(N:List Nat)(seed:LI)(x:ShD)(A:OA)(n c:Nat)(f:LI)(z:n=f.length)(E:A=none->c=0)(y:f.length<=100000000)
  (kd:Int) (T:LV) (hT:T.length=4) (Cv:VL) (o:a1q) (ho:o.Bd) (ser:Int) (hser:-9223372036854775808<=ser/\ser<=1099511627776) (ep:Int) (id:LI) (w:WD)
  (h:a1e w a b N seed x) (hB:∀j∈a::b.own,B<=j) (hby:b9j B w A f) (hgl:a8S B w):
  Calls prog 86 #[.pointer a,.slice A n c,.agg (a1Q kd T Cv o.ow o.am ser ep id).toArray] w λe w'=>a6x B a N seed (a5I seed x f ser o) e w'/\b1q B a seed w w':=by
 generalize F:a5I seed x f ser o=q
 unfold a5I at F;have⟨g,hg⟩:=ηs w;have au:=a7c (k:=kd) (C:=Cv) (am:=o.am) (ser:=ser) (ep:=ep) (id:=id) hT ho.len;have aW:=a7h (k:=kd) (C:=Cv) (am:=o.am) (ser:=ser) (ep:=ep) (id:=id) hT ho.len
 have bH:((a1Q kd T Cv o.ow o.am ser ep id).toArray.toList.drop 6).take 32=bys o.ow:=by
  have:(bys o.ow).length=32:=by rw[a0a,ho.len]
  simp[a1Q,QR,QT,hT,this]
 have bj:(bys o.ow).length=32:=by rw[a0a,ho.len]
 generalize dk:(a1Q kd T Cv o.ow o.am ser ep id).toArray=cv at au aW bH⊢
 have b0:=Qd w 58 (cv);have B0:=ρb w (.cells (cv) 58)
 generalize hW:w.alloc (.cells (cv) 58)=W at b0 B0
 rw[hg]at b0;have bN:W.heap.size=g+1:=by rw[<-hW,Qi,hg]
 have a4:=a5k W;have⟨zs,bB⟩:=η0 ((a0O 0 false a0r none 0).toArray);have bl:zs.size=139:=by rw[<-bB,Qc];exact a0A a0B _ _ _ _
 rw[bB,bN]at a4;have bD:=b0.alloc (.cells zs 41);have bz:=Qd W 41 zs;have B1:Below w w (W.alloc (.cells zs 41)):=B0.alloc B0.size _
 generalize hV:W.alloc (.cells zs 41)=V at bD bz B1 a4
 rw[bN]at bz;have dH:(ALs 41).run prog (w.alloc (.cells cv 58))=.ok (.pointer (g+1:Nat)) V:=by rw[hW];exact a4
 have hX:=a4m.begin h hB B1 (r:=g+1) ⟨by omega,bz.lt⟩ (K:=[(g,58,cv),(g+1,41,zs)]) (λq F=>by
  simp only[Qo,Qt,or_false]at F
  rcases F with rfl | rfl
  ·exact⟨by simp only;omega,bD⟩
  exact⟨by simp only;omega,bz⟩)
 have⟨U1,bF⟩:=η0 V.drew;have aD:=hX.drew;rw[bF]at aD;have a6:=hX.sh.ok.ser;have a8:=hX.sh.ok.n;have bb:=hX.sh.ok.me;have aA:=hX.sh.ok.iss;have c8:IntKind.i64.wrap (x.ser+1)=x.ser+1:=by rw[IntKind.wrap_i64];omega
 have cW:U1.cell? ⟨g,39,none⟩=some (.int .i64 ser)/\U1.cell? ⟨a,4,none⟩=some (.int .i64 x.ser):=⟨((aD.kp _ Qr).1.cell 39).trans au,aD.sh.c.2.2.2.2.1⟩;have⟨cA,ca,c7,HQ,dd,b4,bA,cO⟩:=η8 aD bF cW F bl hby hgl z;have⟨cz,c2,HG,cP,dv,du,dD,cQ⟩:=η8 E y hg hser a6 a8 bb aA;have⟨aL,Y,db,cG,HO,dI⟩:=η6 au aW bH bj ho h;clear aD bF cW F bl hby hgl z E y hg hser a6 a8 bb aA au aW bH bj ho h bB b0 B0 bD bz B1 bN a4 dk hX hB hT hW hV;go_enter func86,ntmps86;go_upto_region 1 with fail
 rw[HG.o];refine a3Y [(0,3),(2,3),(3,3),(4,3),(1,0),(5,0),(6,3),(7,2),(8,2)] (λX=>X.cell? ⟨g,39,none⟩=some (.int .i64 ser)/\X.cell? ⟨a,4,none⟩=some (.int .i64 x.ser)) ρk ρk ρk ρk (ρy ca.o c7.o) ?_;rw[ca.o];refine ε4 ?_
 iterate 2 refine θ2 (λ_ h=>h) ?_
 by_cases h1:ser<=x.ser
 ·have F:=HQ.o
  rw[if_pos h1]at F;subst F;have hi:=a0X true 24 U1;simp only[if_true]at hi;have hm:=a1m 24 ρo U1;have aQ:decide (ser<=x.ser)=true:=ρw h1;refine ε1 ?_;refine τ ?_;intro K G;refine μf hi ?_;with_reducible refine G _ _ ?_;clear G K
  refine τ ?_;intro K G;refine μf hm ?_;exact λa' ad=>⟨ad,cA.ref ρo⟩
 have F:=HQ.o;rw[if_neg h1]at F;have hi:=a0X false 24 U1;simp only[QI,if_false]at hi;have hm:=a1o U1;have aQ:decide (ser<=x.ser)=false:=ρw h1;have⟨cY,H1⟩:=η2 F h1;clear F h1;refine ε1 ?_;refine τ ?_;intro K G;refine μf hi ?_;with_reducible refine G _ _ ?_;clear G K
 refine τ ?_;intro K G;refine μf hm ?_;with_reducible refine G _ _ ?_;clear G K
 with_reducible refine a1N ?_
 rw[a0V];clear hi hm aQ;have⟨U2,bO⟩:=η0 U1.drew;have aJ:=cA.drew;rw[bO]at aJ;have cI:U2.cell? ⟨g,39,none⟩=some (.int .i64 ser)/\U2.cell? ⟨a,4,none⟩=some (.int .i64 x.ser):=⟨((aJ.kp _ Qr).1.cell 39).trans aL,aJ.sh.c.2.2.2.2.1⟩;have⟨aV,cx,dg⟩:=η3 aJ bO cI;clear aJ bO cI;go_upto_region 2 with fail
 refine a3Y [(0,3),(2,3),(3,3),(4,3),(1,0),(5,0),(6,3),(7,3),(8,2),(9,2)] (λX=>X.cell? ⟨g,39,none⟩=some (.int .i64 ser)/\X.cell? ⟨a,4,none⟩=some (.int .i64 x.ser)) ρk ρk ρk ρk (ρy cx.o dg.o) ?_;rw[cx.o];refine ε4 ?_
 iterate 2 refine θ2 (λ_ h=>h) ?_
 by_cases h1:x.ser+1<ser
 ·have F:=cY.o
  rw[if_pos h1]at F;subst F;have hi:=a0X true 5 U2;simp only[if_true]at hi;have hm:=a1m 5 ρo U2;have aQ:decide (x.ser+1<ser)=true:=ρw h1;refine ε2 ?_;refine τ ?_;intro K G;refine μf hi ?_;with_reducible refine G _ _ ?_;clear G K
  refine τ ?_;intro K G;refine μf hm ?_;exact λa' ad=>⟨ad,aV.ref ρo⟩
 have F:=cY.o;rw[if_neg h1]at F;have hi:=a0X false 5 U2;simp only[QI,if_false]at hi;have hm:=a1o U2;have aQ:decide (x.ser+1<ser)=false:=ρw h1;have⟨cC,H2⟩:=η2 F h1;clear F h1;refine ε2 ?_;refine τ ?_;intro K G;refine μf hi ?_;with_reducible refine G _ _ ?_;clear G K
 refine τ ?_;intro K G;refine μf hm ?_;with_reducible refine G _ _ ?_;clear G K
 with_reducible refine a1N ?_
 rw[a0V];clear hi hm aQ c8;have bV:=((aV.kp _ Qr).1.cell 38).trans Y;have c9:=aV.sh.c.2.1
 by_cases h0:o.am=0
 ·have F:=cC.o
  rw[if_pos h0]at F;subst F;have hi:=a0X true 8 U2;simp only[if_true]at hi;have hm:=a1m 8 ρo U2;have c0:(o.am == 0)=true:=ρw h0;go_wp2_with fail;refine μf hi ?_;go_wp2_with fail;refine μf hm ?_;exact⟨rfl,aV.ref ρo⟩
 have F:=cC.o;rw[if_neg h0]at F;have hi:=a0X false 8 U2;simp only[QI,if_false]at hi;have hm:=a1o U2;have c0:(o.am == 0)=false:=ρw h0;have⟨dE,H0⟩:=η2 F h0;clear F h0;go_wp2_with fail;refine μf hi ?_;go_wp2_with fail;refine μf hm ?_;clear hi hm c0 bV;have a8:=du.o;have bb:=dD.o;have aA:=cQ.o;have dG:=HO.am;have⟨mo,ah⟩:=η0 ((4611686018427387904:Int) / x.n);have cX:0<=mo/\mo<=4611686018427387904:=by rw[<-ah];exact⟨Int.ediv_nonneg ρo ρo,Int.ediv_le_self _ ρo⟩
 have de:IntKind.u64.wrap x.n=x.n:=by rw[IntKind.wrap_u64];omega
 have dz:IntKind.u64.wrap (Int.tdiv 4611686018427387904 x.n)=mo:=by rw[Int.tdiv_eq_ediv_of_nonneg ρo,ah,IntKind.wrap_u64];omega
 have dl:¬x.n=0:=ρo;have F:=dE.o;rw[ah]at F;have⟨b2,bG,dK⟩:=η3 cX F ah;clear cX F ah;have⟨U5,bS⟩:=η0 U2.drew;have J:=aV.drew;rw[bS]at J;have b9:U5.cell? ⟨a,5,none⟩=some (.int .u64 x.iss)/\U5.cell? ⟨g,38,none⟩=some (.int .u64 o.am):=⟨J.sh.c.2.2.2.2.2.1,((J.kp _ Qr).1.cell 38).trans Y⟩;have⟨bc,a3,ct⟩:=η3 J bS b9;clear J bS b9;go_upto_region 5 with fail
 clear de dz dl c9 a8 bb;have ae:=a0X true 19 U5;simp only[if_true]at ae;have R:=a0X false 19 U5;simp only[QI,if_false]at R;have af:=a1m 19 ρo U5;have ag:=a1o U5
 by_cases a5:mo<x.iss
 ·have F:=bG.o
  rw[if_pos (.inl a5)]at F;subst F;have hb:decide (mo<x.iss)=true:=ρw a5;clear R ag;refine a3Y [(0,3),(1,3),(2,3),(4,3),(3,0),(5,3),(6,3),(7,3),(8,3),(9,3),(10,3),(11,3),(12,3),(13,3),(14,3),(15,3),(16,3),(17,3),(18,2),(19,2)] (λX=>X.cell? ⟨a,5,none⟩=some (.int .u64 x.iss)/\X.cell? ⟨g,38,none⟩=some (.int .u64 o.am)) ρk ρk ρk ρk (ρy a3.o ct.o) ?_;rw[a3.o];refine ε4 ?_
  iterate 1 refine θ2 (λ_ h=>h) ?_
  refine ε2 ?_;refine δ4 ?_;refine δ4 ?_;refine δ1 ?_;refine δ1 ?_;refine ε1 ?_;refine τ ?_;intro K G;refine μf ae ?_;with_reducible refine G _ _ ?_;clear G K
  refine τ ?_;intro K G;refine μf af ?_;exact λa' ad=>⟨ad,bc.ref ρo⟩
 have hb:decide (mo<x.iss)=false:=ρw a5;have dp:IntKind.u64.wrap (mo-x.iss)=mo-x.iss:=by have:=b2.o;rw[IntKind.wrap_u64];omega
 refine a3Y [(0,3),(1,3),(2,3),(4,3),(3,0),(5,3),(6,3),(7,3),(8,3),(10,3),(11,3),(12,3),(13,3),(9,0),(14,0),(15,3),(16,3),(17,3),(18,2),(19,2)] (λX=>X.cell? ⟨a,5,none⟩=some (.int .u64 x.iss)/\X.cell? ⟨g,38,none⟩=some (.int .u64 o.am)) ρk ρk ρk ρk (ρy a3.o ct.o) ?_;rw[a3.o];refine ε4 ?_
 iterate 1 refine θ2 (λ_ h=>h) ?_
 refine ε7 ?_;refine ε1 ?_
 iterate 2 refine θ2 (λ_ h=>h) ?_
 by_cases az:mo-x.iss<o.am
 ·have F:=bG.o
  rw[if_pos (.inr az)]at F;subst F;have cw:decide (mo-x.iss<o.am)=true:=ρw az;clear R ag;refine ε3 ?_;refine τ ?_;intro K G;refine μf ae ?_;with_reducible refine G _ _ ?_;clear G K
  refine τ ?_;intro K G;refine μf af ?_;exact λa' ad=>⟨ad,bc.ref ρo⟩
 have cw:decide (mo-x.iss<o.am)=false:=ρw az;have F:=bG.o;rw[if_neg ρo]at F;have aN:x.iss+o.am<=4611686018427387904:=by have:=b2.o;omega
 have⟨dj,dy⟩:=η2 F aN;clear F aN;refine ε3 ?_;refine τ ?_;intro K G;refine μf R ?_;with_reducible refine G _ _ ?_;clear G K
 refine τ ?_;intro K G;refine μf ag ?_;with_reducible refine G _ _ ?_;clear G K
 with_reducible refine a1N ?_
 rw[a0V];clear R ae af ag cw dp az hb a5 aA;have J:=bc.o;have bX:=c7K 12 ρo A n c f U5 (b4.go J.fr).at_ cO.o cz.o (ρh c2.o) (bA.go J.fr).at_;have be:Dig (a1K 12 [f]):=Dig.under _ _;have⟨D,hD⟩:=η0 (a1K 12 [f]);have F:=dj.o;rw[hD]at bX be F;have cq:(bys D).length=32:=by rw[a0a,be.1]
 obtain⟨ZI,bh,bu,ds⟩:=P8 (t:=31) iId b1N;obtain⟨ZP,bw,br,dA⟩:=P8 (t:=189) a1H c3w;have⟨cg,b8,c3,cj,aC,bI,di⟩:=η7 bh bu bw br be cq F;clear bh bu bw br be cq F J ds dA hD;go_wp2_with fail;refine μi bX ?_;intro w6 aB;clear bX;have bL:=cg.o w6;have aO:=b8.o w6 (bys D) bI.o (a0h _);have kd:=Qd w6 31 (bys D).toArray;have D6:=ρb w6 (.cells (bys D).toArray 31);have⟨d,hd⟩:=ηs w6;rw[hd]at bL aO kd
 generalize dJ:w6.alloc (.cells (bys D).toArray 31)=Y6 at aO kd D6
 have bq:=bc.below aB;have a2:=bq.add D6 (g:=d) ρo kd;have bC:=P4 a2i iId (bys D) kd bI;have ax:=c7g a b ((g+1)::N) seed x D aC Y6 a2.sh (bA.go a2.fr).at_;have⟨oq,bM⟩:=η0 (b9R D x.n x.me);have F:=di.o;rw[bM]at ax F
 have bK:(c9B D oq).length=33:=by
  cases oq with
  | none=>simp[c9B,ptL,a0a]
  | some i=>exact a1x aC.1 _
 have bR:∀v∈c9B D oq,v.oneCell'=true:=by
  cases oq with
  | none=>exact a2p _ _
  | some i=>exact a2p _ _
 have⟨pv,bW⟩:=η0 (c9B D oq);rw[bW]at ax bK bR;have⟨dn,cp,cr,dC,dw,dF,dN⟩:=η7 a2 F bK bR bW bM kd;clear a2 F bK bR bW bM kd bq D6 aB hd;go_wp2_with fail;refine μi ax ?_;intro w7 cV;clear ax bC;have bQ:=c3.o w7;have aR:=cj.o w7 pv cr dC;have kp:=Qd w7 189 pv.toArray;have D7:=ρb w7 (.cells pv.toArray 189);have⟨p,hp⟩:=ηs w7;rw[hp]at bQ aR kp
 generalize dM:w7.alloc (.cells pv.toArray 189)=Y7 at aR kp D7
 have cE:=(dn.below cV).add D7 (g:=p) ρo kp;have ae:=a0X true 11 Y7;simp only[if_true]at ae;have R:=a0X false 11 Y7;simp only[QI,if_false]at R;have af:=a1m 11 ρo Y7;have ag:=a1o Y7;have aP:=η1 cE;clear cE D7 cV hp kp
 cases oq with
 |
  none=>
  have F:=cp.o;simp only at F;subst F;clear R ag;go_wp2_with fail;refine μf ae ?_;go_wp2_with fail;refine μf af ?_;exact⟨rfl,aP.ref ρo⟩
 |
  some i=>
  have F:=cp.o;simp only at F;clear ae af;have bg:=c9q dF;have⟨cJ,cH⟩:=η2 F bg;clear F bg;go_wp2_with fail;refine μf R ?_;go_wp2_with fail;refine μf ag ?_;clear R ag
  by_cases al:b1e x 1=true
  ·have F:=cJ.o
   rw[if_pos al]at F;subst F;have hr:=b5T a b ((g+1)::N) seed x 1 ρo Y7 aP.sh al;clear al;go_wp2_with fail;refine μi hr ?_;intro w9 bf;exact⟨rfl,(aP.below bf).ref ρo⟩
  have F:=cJ.o;rw[if_neg al]at F;have hr:=b6o a b ((g+1)::N) seed x 1 ρo Y7 aP.sh (ρw al);have⟨c1,dO⟩:=η2 F al;clear F al;go_wp2_with fail;refine μi hr ?_;intro w9 bf;clear hr;have b7:=aP.below bf;have⟨ak,aH⟩:=η0 w9.drew;have I:=b7.drew;rw[aH]at I;have O:=(I.kp (g,58,cv) ρp).1;have cf:=(I.kp (p,189,pv.toArray) ρp).1
  have ay:ak.cell? ⟨a,7,none⟩=some (.pointer b.cb)/\(LDs 189 (.pointer p)).run prog ak=.ok (.agg pv.toArray) ak/\(LDs 31 (.pointer (some ⟨g,6,none⟩))).run prog ak=.ok (.agg (bys o.ow).toArray) ak/\ak.cell? ⟨g,38,none⟩=some (.int .u64 o.am):=
   ⟨I.sh.c.2.2.2.2.2.2.2.1,P4 a3a a1H pv cf cr.o,P6 a2i iId O (off:=6) (bys o.ow) cG.o db.o,(O.cell 38).trans Y.o⟩
  have ao:pv=ptL D (i:Int):=by rw[<-dw.o];rfl
  have cZ:a6l (D,(i:Int)):=⟨aC.1,aC.2,by have:=cH.o;show-9223372036854775808<=(i:Int)/\(i:Int)<=_;omega⟩;have aa:=b0Q b.cb b.cm x.C x.sC (D,(i:Int)) cZ o HO I.sh.ok.sC ak I.sh.co;have av:=b8a (m:=x.C) I.sh.ok.sC (D,(i:Int)) HO.o;have ar:=b7w (s:=x.sC) I.sh.ok.lC (D,(i:Int)) o;have⟨pc,cK⟩:=η0 (a7H x.C x.sC (D,(i:Int)) o);have F:=c1.o;rw[cK]at aa av ar F;rw[show ptL (D,(i:Int)).1 (D,(i:Int)).2=pv from ao.symm]at aa;have aZ:=λX=>c6g HO.len X
  obtain⟨pe,ba⟩:=pc;simp only at aa av ar F;have⟨ov,bE⟩:=η0 ((a1s o).toArray);rw[bE]at aa;simp only[bE]at aZ;have⟨aS,ac⟩:=η0 o.am;rw[ac]at ay;simp only[ac]at aZ;have⟨dr,aX⟩:=η0 ((bys o.ow).toArray);rw[aX]at ay;simp only[aX]at aZ;have⟨aI,bv,b3,bt,ch,cD,aU⟩:=η7 I aH ay F av ar ac;clear I aH ay F av ar ac b7 bf O cf cZ cK bE aX ao;go_upto_region 10 with fail
  refine a3Y [(0,3),(1,3),(2,3),(5,3),(6,3),(8,3),(9,3),(3,0),(4,0),(7,0),(10,0),(11,3),(12,2),(13,2)] (λX=>X.cell? ⟨a,7,none⟩=some (.pointer b.cb)/\(LDs 189 (.pointer p)).run prog X=.ok (.agg pv.toArray) X/\(LDs 31 (.pointer (some ⟨g,6,none⟩))).run prog X=.ok (.agg dr) X/\X.cell? ⟨g,38,none⟩=some (.int .u64 aS)) ρk ρk ρk ρk (ρy bv.o b3.o) ?_;rw[bv.o];refine ε7 ?_
  iterate 4 refine θ4 (λ_ h=>h) ?_
  refine ε1 ?_;refine τ ?_;intro K G;refine μ1 aa ?_;rintro dL bZ ⟨rfl,bo,aT⟩;clear aa aZ;with_reducible refine G _ _ ?_;clear G K
  have aj:=aT.mono (λk _ e=>c7I a b k e)
  by_cases ao:pe=0
  rotate_left
  ·have F:=bt.o
   rw[if_pos ao]at F;subst F;have af:=a1m pe ao bZ;refine τ ?_;intro K G;refine μf af ?_;exact λa' ad=>⟨ad,aI.refF aj ao⟩
  subst ao;have F:=bt.o;rw[if_neg ρp]at F;have ah:=a1o bZ;have bm:=aI.step' (aI.sh.setC aT bo ch cD) aj;have⟨ck,cL⟩:=η2 bm F;clear bm F bo aT aj;refine τ ?_;intro K G;refine μf ah ?_;with_reducible refine G _ _ ?_;clear G K;clear ah
  with_reducible refine a1N ?_
  rw[a0V];have⟨an,aG⟩:=η0 bZ.drew;have H:=ck.drew;rw[aG]at H;have F:=cL.o;have⟨y1,aE⟩:=η0 ({x with C:=ba.1,sC:=ba.2});have aY:y1.ser=x.ser/\y1.iss=x.iss:=by rw[<-aE];exact⟨rfl,rfl⟩
  have⟨y2,Q⟩:=η0 ({y1 with ser:=ser});have⟨y3,S⟩:=η0 ({y2 with iss:=x.iss+o.am});have bi:y3={x with C:=ba.1,sC:=ba.2,ser:=ser,iss:=x.iss+o.am}:=by rw[<-S,<-Q,<-aE]
  rw[<-bi]at F;rw[aE]at H;have O:=(H.kp (g,58,cv) ρp).1;have p4:=H.sh.c.2.2.2.2.1;have z4:=H.sh.st.frozen 4;have k4:=H.sh.st.set_ 4 (.int .i64 ser);rw[c6T,Q]at k4;have f4:Fr (λk=>k=a) an (an.setCell ⟨a,4,none⟩ (.int .i64 ser)):=(Qp (λk=>k=a) an).setCell (p:=⟨a,4,none⟩) (λ_=>rfl) _
  generalize cn:an.setCell ⟨a,4,none⟩ (.int .i64 ser)=Y1 at k4 f4
  have cy:g≠a:=λe=>(H.kp (g,58,cv) ρp).2.1 (by rw[show(g,58,cv).1=g from rfl,e];exact Qr)
  have p5:Y1.cell? ⟨a,5,none⟩=some (.int .u64 x.iss):=(k4.cell 5).trans (by rw[<-Q,<-aE];rfl);have z5:=k4.frozen 5;have k5:=k4.set_ 5 (.int .u64 (x.iss+o.am));rw[c7C,S]at k5;have f5:Fr (λk=>k=a) Y1 (Y1.setCell ⟨a,5,none⟩ (.int .u64 (x.iss+o.am))):=(Qp (λk=>k=a) Y1).setCell (p:=⟨a,5,none⟩) (λ_=>rfl) _
  generalize cU:Y1.setCell ⟨a,5,none⟩ (.int .u64 (x.iss+o.am))=Y2 at k5 f5
  have ff:=f4.trans f5 (λ_ _ e=>e);have hser:=cP.o;have a6:=dv.o;have aA:=cQ.o;have aN:=dy.o;have dt:=HO.am;have h1:=H1.o
  have bp:b9N y3:=by
   rw[<-S,<-Q];exact{H.sh.ok with ser:=⟨by show 0<=ser;omega,by show ser<=_;omega⟩,iss:=⟨by show 0<=x.iss+o.am;omega,aN⟩}
  have U:=H.step' (H.sh.upd ff k5 bp (by rw[<-S,<-Q]) (by rw[<-S,<-Q]) (by rw[<-S,<-Q]) (by rw[<-S,<-Q]) (by rw[<-S,<-Q]) (by rw[<-S,<-Q])) (ff.mono (λk _ e=>a8B a b k e));have bn:an.cell? ⟨g,39,none⟩=some (.int .i64 ser)/\an.cell? ⟨a,5,none⟩=some (.int .u64 x.iss)/\an.cell? ⟨g,38,none⟩=some (.int .u64 aS):=⟨(O.cell 39).trans aL.o,by rw[<-aY.2];exact H.sh.c.2.2.2.2.2.1,by rw[<-aU.o];exact(O.cell 38).trans Y.o⟩;have aM:=O.fr f4 cy;have bs:Y1.cell? ⟨g,39,none⟩=some (.int .i64 ser)/\Y1.cell? ⟨a,5,none⟩=some (.int .u64 x.iss)/\Y1.cell? ⟨g,38,none⟩=some (.int .u64 aS):=⟨(aM.cell 39).trans aL.o,p5,by rw[<-aU.o];exact(aM.cell 38).trans Y.o⟩;have dB:IntKind.u64.wrap (x.iss+aS)=x.iss+o.am:=by rw[<-aU.o,IntKind.wrap_u64];omega
  rw[aY.1]at p4;have⟨dq,bk,cR,cu,ci,dm,dx,P5⟩:=η8 U aG bn bs F cn cU p5;have Z5:=η1 z5;clear U aG bn bs F cn cU p5 z5 H k4 f4 k5 f5 ff bp O aM cy aE Q S bi aY hser a6 aA aN dt h1;go_upto_region 11 with fail
  refine a0s [(0,3),(1,3),(2,3),(4,3),(5,3),(6,3),(8,3),(9,3),(3,0),(7,0),(12,3),(13,3),(10,0),(11,3),(14,1),(15,3),(16,3),(17,2)] (λX=>X.cell? ⟨g,39,none⟩=some (.int .i64 ser)/\X.cell? ⟨a,5,none⟩=some (.int .u64 x.iss)/\X.cell? ⟨g,38,none⟩=some (.int .u64 aS)) ρk ρk ρk ρk (ρy bk.o cR.o) ?_;rw[bk.o];refine ε7 ?_;refine ε1 ?_
  iterate 2 refine θ3 (λ_ h=>h) ?_
  refine ε2 ?_
  iterate 1 refine θ3 (λ_ h=>h) ?_
  refine ε1 ?_;refine κ ?_;intro K G;rw[dm.o];with_reducible refine G _ _ (cu.o) ?_;clear G K;clear p4 z4
  have p5:=P5.o;have z5:=Z5.o;refine ε2 ?_;refine τ ?_;intro K G;rw[dx.o];with_reducible refine G _ _ ?_;clear G K;clear p5 z5 dB
  refine ν ?_;have U:=dq.o;have cF:=(U.kp (d,31,(bys D).toArray) ρp).1;have O:=(U.kp (g,58,cv) ρp).1;have bC:=P4 a2i iId (bys D) cF bI;have bV:=(O.cell 38).trans Y;have c5:=a7g 3 aC.1 o.am 1;have bJ:(⟨3,0,D,o.am,1,0⟩:a1P).Bd:=b1v ρo aC.o HO.am ρo;have aq:=a5C a b ((g+1)::N) seed y3 A n c f cO cz c2 ⟨3,0,D,o.am,1,0⟩ bJ Y2 U.sh (b4.go U.fr).at_ (bA.go U.fr).at_;have F:=ci.o;unfold b9r at F;have⟨e0,bx⟩:=η0 ((⟨3,0,D,o.am,1,0⟩:a1P):a1P);rw[bx]at aq F bJ;simp only[bx]at c5;have⟨ev,bT⟩:=η0 ((a0x e0).toArray);rw[bT]at aq;simp only[bT]at c5;have⟨a1,cd⟩:=η2 U F;clear U F cF O bJ bx bT;go_wp2_with fail;refine μ1 aq ?_;rintro e5 w5 ⟨bY,b5⟩;clear aq;have F:=cd.o;have aK:=b5.mono (λk _ e=>a8B a b k e)
  rcases bY with⟨ce,A5,ai,rfl,aF,cT⟩ | ⟨da,hk,rfl⟩
  rotate_left
  ·rw[if_neg (by rw[da];simp)]at F
   subst F;exact⟨rfl,a1.refF aK hk⟩
  rw[if_pos ce]at F;subst F
  generalize cS:a9F seed y3 f e0=cc at aF⊢
  have J:=a1.step' cT aK;have ab:=a5d cc aF.1 A5 ai w5;have a0:(g+1,41,zs)∈(p,189,pv.toArray)::(d,31,(bys D).toArray)::[(g,58,cv),(g+1,41,zs)]:=by simp
  have b6:g+1<Y2.heap.size:=(a1.kp _ a0).1.lt;have c4:=a1.sz;have a9:=a0A aF.1 0 true A5 ai;have a7:=λX hX=>(J.below (X':=X) hX).sto a0 dd.o (a0O 0 true cc A5 ai) a9 (a0W _ _ _ _ _)
  have Z:=λX hX=>(J.below (X':=X) hX).fin a0 (N0:=N) (λj hj=>Qj _ hj) (y0:={y3 with h:=a4T y3 f e0}) rfl (rp:=a2O cc) c4 b6 (aF.below hX) rfl
  have⟨rs,bU⟩:=η0 (a0O 0 true cc A5 ai);simp only[a2O,bU]at a7 Z ab;rw[bU]at a9
  generalize cB:a0d cc A5 ai=cv5 at ab⊢
  have⟨c6,cM,df,dh⟩:=η4 a7 Z a9 cS;clear a7 Z a9 cS J aF cT b5 aK ce b6 c4 bU cB a0 bC bV;go_wp2_with fail;refine μi ab ?_;intro w6 aB;have a7:=c6.o w6 aB;have Z:=cM.o w6 aB;have bP:=η1 Z;clear Z aB;clear ab;go_wp2_with fail;obtain⟨dR,dc,cN⟩:=Q8.1 a7w;refine bodyPost_ret (v:=.agg rs.toArray) (a0c rfl _ _ (g+1) _ rs dR rfl bP.2.2 dc cN (ρy df.o a4h)) rfl ?_;exact⟨by rw[dh.o];exact bP.1,bP.2.1⟩
end
section
structure a4Y(B p:Nat)(w0 w:WD)(v:VL)(l:LI):Prop where
 pen:a3Z B w p v l
 bel:Below B w0 w
 sz:B<=w0.heap.size
def c9x(p:Nat)(v:VL)(w w':WD):Prop:=Fr (λk=>k=p\/v.ownBlock=some k) w w'
section
variable {B p:Nat} {w0 w w':WD} {v:VL} {l:LI}
theorem a4Y.size(h:a4Y B p w0 w v l):B<=w.heap.size:=Qk h.sz h.bel.size
theorem a4Y.ext(h:a4Y B p w0 w v l)(a:Below w w w'):a4Y B p w0 w' v l:=
 ⟨⟨h.pen.st.fr (Q9 a) (ρh h.pen.st.lt),h.pen.b1,h.pen.own.kept a⟩,h.bel.trans (a.mono h.size),h.sz⟩
theorem a4Y.here(h:a3Z B w p v l)(a:B<=w.heap.size):a4Y B p w w v l:=⟨h,Qf _ _,a⟩
theorem a4Y.blk(h:a4Y B p w0 w v l)(b:c9x p v w w'){g:Nat}{t:TI}{cs:AV}(a:Blk w g t cs)(d:123≠t)(f:5≠t):Blk w' g t cs:=by
 refine a.fr b (λe=>?_)
 rcases e with e | e
 ·exact h.pen.st.apart a d e.symm
 exact a2D h.pen.own a f e
theorem a4Y.row(h:a4Y B p w0 w v l)(b:c9x p v w w'){e:TI}{R:LW}(a:a0T e m B' w u R)(d:123≠e)(j:5≠e):a0T e m B' w' u R:=by
 refine a.fr b (λk x f=>?_);obtain⟨-,⟨rfl,-⟩ | ⟨g,cap,r,rfl,-,z,-⟩⟩:=a.own
 ·cases x
 have o:g=k:=by simpa[Value.ownBlock]using x
 subst o;have y:Blk w g e r:=z
 rcases f with f | f
 ·exact h.pen.st.apart y d f.symm
 exact a2D h.pen.own y j f
theorem a4Y.go(h:a4Y B p w0 w v l){a:VL}(d:a3Z B w' p a b)(f:c9x p v w w'):a4Y B p w0 w' a b:=
 ⟨d,h.bel.trans (a1j h.pen f h.size),h.sz⟩
def c4q(B p:Nat)(w0:WD)(v:VL)(w w':WD)(l':LI):Prop:=∃v',a4Y B p w0 w' v' l'/\c9x p v w w'/\a7W w v v'
theorem a4Y.num(h:a4Y B p w0 w v l)(n:Nat)(a:n<18446744073709551616)(b:l.length<=400000000):
  Calls prog 50 #[.pointer p,.int .u64 n] w λe w'=>e=.returned (.tuple #[])/\c4q B p w0 v w w' (l++a0K n):=
 (a2M B p v l n a w h.pen ρo h.size).mono λ_ _ ⟨h1,⟨v',h2,h4⟩,h3⟩=>⟨h1,v',h.go h2 h3,h3,h4⟩
theorem a4Y.id(h:a4Y B p w0 w v l)(d:LI)(hd:d.length=32)(a:∀x∈d,0<=x/\x<=255)(b:l.length<=400000000):
  Calls prog 107 #[.pointer p,.agg (bys d).toArray] w λe w'=>e=.returned (.tuple #[])/\c4q B p w0 v w w' (l++d):=
 (a5S B p v l d hd a w h.pen ρo h.size).mono λ_ _ ⟨h1,⟨v',h2,h4⟩,h3⟩=>⟨h1,v',h.go h2 h3,h3,h4⟩
theorem a4Y.text(h:a4Y B p w0 w v l)(A:OA)(c:Nat)(d:A=none->c=0)(b:LI)(f:Byt w A b)(g:∀a,A=some a->0<b.length->¬(a.block=p\/v.ownBlock=some a.block))(m:l.length<=400000000)(j:b.length<=400000000):
  Calls prog 52 #[.pointer p,.slice A b.length c] w λe w'=>e=.returned (.tuple #[])/\c4q B p w0 v w w' (l++(a0K b.length++b)):=
 (b7A B p v l A c d b w h.pen f g ρo ρo h.size).mono λ_ _ ⟨h1,⟨v',h2,h4⟩,h3⟩=>⟨h1,v',h.go h2 h3,h3,h4⟩
structure Aw(w:WD)(p:Nat)(v u:VL):Prop where
 aw:∀k,u.ownBlock=some k->k<w.heap.size/\k≠p/\v.ownBlock≠some k
theorem Aw.new(h:a4Y B p w0 w v l)(a:a0N w w' u b):Aw w' p v u:=⟨λk hk=>by
 have h1:=a.lt hk;have h2:=h.pen.st.lt;refine⟨h1.2,by omega,λe=>?_⟩
 have:=(h.pen.own.lt e).2
 omega⟩
theorem Aw.ext(h:Aw w p v u)(a:w.heap.size<=w'.heap.size):Aw w' p v u:=⟨λk hk=>⟨by have:=(h.aw k hk).1;omega,(h.aw k hk).2⟩⟩
theorem Aw.go{a:VL}(h:Aw w p v u)(b:c9x p v w w')(ht:a7W w v a):Aw w' p a u:=⟨λk hk=>by
 have h1:=h.aw k hk;refine⟨Qh h1.1 b.size,h1.2.1,λe=>?_⟩
 rcases ht k e with e | e
 ·exact h1.2.2 e
 omega⟩
theorem Aw.own(h:Aw w p v u)(a:c9x p v w w')(d:a0N B' w u b):a0N B' w' u b:=d.fr a (λk hk e=>by
 have h1:=h.aw k hk
 rcases e with e | e
 ·exact h1.2.1 e
 exact h1.2.2 e)
theorem Aw.not{A:OA}{n c:Nat}(h:Aw w p v (.slice A n c)):∀a,A=some a->0<m->¬(a.block=p\/v.ownBlock=some a.block):=by
 intro a d _ e;subst d;have b:=h.aw a.block (by simp[Value.ownBlock])
 rcases e with e | e
 ·exact b.2.1 e
 exact b.2.2 e
end
theorem c0q(x:Int):∃n:Nat,IntKind.u64.wrap x=(n:Int)/\n<18446744073709551616/\n=(IntKind.u64.wrap x).toNat:=by
 have h:=a2h x;exact⟨(IntKind.u64.wrap x).toNat,by omega,by omega,rfl⟩
def b1s(x:Int):LI:=a0K (IntKind.u64.wrap x).toNat
theorem a4Y.numV{B p:Nat}{a:WD}{v:VL}{l:LI}(h:a4Y B p a w v l)(x:Int)(b:l.length<=400000000):
  Calls prog 50 #[.pointer p,.int .u64 (IntKind.u64.wrap x)] w λe w'=>e=.returned (.tuple #[])/\c4q B p a v w w' (l++b1s x):=by
 obtain⟨n,d,f,g⟩:=c0q x
 have:=h.num n f b
 rw[<-d]at this;unfold b1s;rw[<-g];exact this
theorem a2W(x:Int):(b1s x).length<=9:=by
 have h:=a2h x;unfold b1s;exact a0p ρo
end
section
def mnQ(seed:LI)(x:ShD)(cmd:LI)(t:TxD)(cl:List a0y):Except Int (ShD×RpD):=
 if a0M (a2K t x.n) x.me=[]then .error 11
 else if b9d t.exp x.ep=true then .error 12
 else if(a2E x.M (1,idP t)).isSome=true then .ok (x,a2O (a2Q x.M (1,idP t)).c)
 else if b6j seed t x.n cl≠0 then .error (b6j seed t x.n cl)
 else if 128<=x.M.length then .error 18
 else if b1e x (a0M (a2K t x.n) x.me).length=true then .error 18
 else if(a6S x.n x.me x.C x.sC t).2≠0 then .error (a6S x.n x.me x.C x.sC t).2
 else b5e seed {x with C:=(a9a x.n x.me x.C x.sC t).1,sC:=(a9a x.n x.me x.C x.sC t).2} 1 cmd t ⟨3,0,a7R,(a6S x.n x.me x.C x.sC t).1,4,0⟩
attribute [local go_sem ↓] a2q a1G a1M a7d a3j
theorem c6X(B a:Nat)(b:ShB)(N:List Nat)(seed:LI)(x:ShD)(A:OA)(n c:Nat)(m:LI)(D:n=m.length)(E:A=none->c=0)(y:m.length<=100000000)(d:OA)(o:Nat)(f:OA)(p:Nat)(t:TxD)(z:OA)(F:Nat)(cl:List a0y)(w:WD)
  (h:a1e w a b N seed x) (hB:∀j∈a::b.own,B<=j) (hby:b9j B w A m) (hgl:a8S B w) (ht:TxS B w d f t) (hl1:t.ins.length<=1000000) (hl2:t.outs.length<=1000000) (hcs:∀w',Below B w w'->a4g w' z cl) (hcpl:∀c∈cl,c.path.length<=1000000) (hcll:cl.length<=1000000):
  Calls prog 89 #[.pointer a,.slice A n c,.agg (txV d o f p t),.slice z cl.length F] w λe w'=>a6x B a N seed (mnQ seed x m t cl) e w'/\b1q B a seed w w':=by
 generalize H:mnQ seed x m t cl=q
 unfold mnQ at H;have⟨g,hg⟩:=ηs w;have bM:=ht.at_.bd;have bx:(txV d o f p t)[1]? =some (.slice f t.outs.length p):=rfl;have bc:(txV d o f p t)[0]? =some (.slice d t.ins.length o):=rfl;have a7:(txV d o f p t)[2]? =some (.int .u64 t.fee):=rfl;have bg:(txV d o f p t)[3]? =some (.int .i64 t.exp):=rfl;have bu:(txV d o f p t).toList.length=4:=rfl
 generalize ck:txV d o f p t=tv at bc bx a7 bg bu⊢
 have b0:=Qd w 53 (tv);have B0:=ρb w (.cells (tv) 53)
 generalize hW:w.alloc (.cells (tv) 53)=W at b0 B0
 rw[hg]at b0;have bs:W.heap.size=g+1:=by rw[<-hW,Qi,hg]
 have aO:=a5k W;have⟨zs,bb⟩:=η0 ((a0O 0 false a0r none 0).toArray);have aY:zs.size=139:=by rw[<-bb,Qc];exact a0A a0B _ _ _ _
 rw[bb,bs]at aO;have bh:=b0.alloc (.cells zs 41);have bz:=Qd W 41 zs;have B1:Below w w (W.alloc (.cells zs 41)):=B0.alloc B0.size _
 generalize hV:W.alloc (.cells zs 41)=V at bh bz B1 aO
 rw[bs]at bz;have b5:(ALs 41).run prog (w.alloc (.cells tv 53))=.ok (.pointer (g+1:Nat)) V:=by rw[hW];exact aO
 have hX:=a4m.begin h hB B1 (r:=g+1) ⟨by omega,bz.lt⟩ (K:=[(g,53,tv),(g+1,41,zs)]) (λq H=>by
  simp only[Qo,Qt,or_false]at H
  rcases H with rfl | rfl
  ·exact⟨by simp only;omega,bh⟩
  exact⟨by simp only;omega,bz⟩)
 have aZ:∀X y' b' N',a4m B (g+1) w a b' N' seed y' [(g,53,tv),(g+1,41,zs)] X->(LDs 53 (.pointer g)).run prog X=.ok (.agg tv) X:=λX y' b' N' hx=>by
  have:=P4 uTx iTx (w:=X) tv.toList (by simpa using(hx.kp _ Qr).1) bu
  simpa using this
 have aU:∀X y' b' N',a4m B (g+1) w a b' N' seed y' [(g,53,tv),(g+1,41,zs)] X->X.cell? ⟨g,0,none⟩=some (.slice d t.ins.length o)/\X.cell? ⟨g,1,none⟩=some (.slice f t.outs.length p)/\X.cell? ⟨g,2,none⟩=some (.int .u64 t.fee)/\X.cell? ⟨g,3,none⟩=some (.int .i64 t.exp):=λX y' b' N' hx=>
  have hk:=(hx.kp _ Qr).1
  ⟨(hk.cell 0).trans bc,(hk.cell 1).trans bx,(hk.cell 2).trans a7,(hk.cell 3).trans bg⟩
 obtain⟨ZR,ae,aT,cR⟩:=P8 (t:=41) a4h b4t;have bW:-9223372036854775808<=x.n/\x.n<=9223372036854775807:=by have:=h.ok.n;have:=h.ok.me;omega
 have bU:Dig (idP t):=⟨a3b t,a5f t⟩;have⟨cN,cO,bN,cz,ay,aA,cT,cM⟩:=η8 hX H aY hby hgl ht D E;have⟨cW,HG,ag,c0,bX,ce,cS,cD⟩:=η8 y hg aZ aU ae aT bW bM;have⟨dc,av,c1⟩:=η3 bU ck h;clear hX H aY hby hgl ht D E y hg aZ aU ae aT bW bM bU ck h bb b0 B0 bh bz B1 bs aO bc bx a7 bg bu hB hW hV cR;go_enter func89,ntmps89;have cQ:=η1 hcs;clear hcs;have⟨U1,bk⟩:=η0 V.drew;have ar:=cN.drew;rw[bk]at ar;have cq:(LDs 53 (.pointer g)).run prog U1=.ok (.agg tv) U1/\U1.cell? ⟨a,1,none⟩=some (.int .i64 x.n)/\U1.cell? ⟨a,0,none⟩=some (.int .i64 x.me):=⟨ag.o _ _ _ _ ar,ar.sh.c.2.1,ar.sh.c.1⟩;have⟨bo,bI,cA⟩:=η3 ar bk cq;clear ar bk cq;go_upto_region 1 with fail
 rw[HG.o];clear b5;refine a0s [(1,3),(2,3),(3,3),(5,3),(6,3),(7,3),(0,0),(4,0),(8,0),(9,2),(10,3),(11,3),(12,3),(13,3),(14,3)] (λY=>(LDs 53 (.pointer g)).run prog Y=.ok (.agg tv) Y/\Y.cell? ⟨a,1,none⟩=some (.int .i64 x.n)/\Y.cell? ⟨a,0,none⟩=some (.int .i64 x.me)) ρk ρk ρk ρk (ρy bI.o cA.o) ?_;rw[bI.o];have aS:=a6O d o f p t x.n x.me cS U1 (aA.go bo.fr).at_ (ay.go bo.fr).at_ hl1 hl2;rw[av.o]at aS;have⟨L,hL⟩:=η0 (a0M (a2K t x.n) x.me)
 have ch:L.length<=16:=by
  rw[<-hL]
  have:=a1V (a2K t x.n) x.me
  have:= @a8y t x.n
  omega
 rw[hL]at aS;have H:=cO.o;rw[hL]at H;have⟨bH,dd,cU⟩:=η3 H hL ch;clear H hL ch;refine ε6 ?_
 iterate 3 refine θ3 (λ_ h=>h) ?_
 refine τ ?_;intro K hK;refine μ1 aS ?_;rintro e5 w5 ⟨vi,vo,rfl,cE,bq,b9⟩;with_reducible refine hK _ _ ?_;clear hK K
 refine ε5 ?_;clear aS;refine ν ?_;have bR:=bo.below b9;obtain⟨Av,Nv,cv,rfl⟩:=bq.formN;have bP:=bq.lenN;have c6:Nv<=16:=by have:=cU.o;omega
 have⟨R,bt⟩:=η2 bR bP;clear bR bP b9 cE bq
 by_cases aN:Nv=0
 ·subst aN
  have bS:L=[]:=ZG bt.symm;have H:=bH.o;rw[if_pos bS]at H;subst H;have hi:=a0X true 11 w5;simp only[if_true]at hi;have hm:=a1m 11 ρo w5;clear bS;go_wp2_with fail;refine μf hi ?_;go_wp2_with fail;refine μf hm ?_;exact⟨rfl,R.ref ρo⟩
 have H:=bH.o;rw[if_neg (λe=>aN (by rw[bt.o,e];rfl))]at H;have hi:=a0X false 11 w5;simp only[QI,if_false]at hi;have hm:=a1o w5;have cF:((Nv:Int) == 0)=false:=by simp;omega
 have cG:decide ((Nv:Int)=0)=false:=by simp;omega
 have⟨cu,c4⟩:=η2 H aN;clear H aN;go_wp2_with fail;refine μf hi ?_;go_wp2_with fail;refine μf hm ?_;clear hi hm cF cG;have b8:=ag.o _ _ _ _ R
 by_cases O:b9d t.exp x.ep=true
 ·have H:=cu.o
  rw[if_pos O]at H;subst H;have S:=a7T a b ((g+1)::N) seed x 1 d o f p t w5 R.sh O;rw[av.o]at S;clear O;go_wp2_with fail;refine μi S ?_;intro w9 ad;exact⟨rfl,(R.below ad).ref ρo⟩
 have H:=cu.o;rw[if_neg O]at H;have S:=a7X a b ((g+1)::N) seed x 1 ρo d o f p t w5 R.sh (ρw O) (aA.go R.fr).at_ (ay.go R.fr).at_ hl1 hl2;rw[av.o]at S;have⟨bZ,c2⟩:=η2 H O;clear H O;go_wp2_with fail;refine μ1 S ?_;rintro e9 w9 ⟨⟨A9,c9,rfl,an,a0⟩,ad⟩;clear S b8;have a5:a3C w5 w9 (a2Q x.M (1,idP t)).c A9 c9:=⟨an.bd,an.len,a0⟩;have T:=a0A an.bd 0 true A9 c9;have ae:=bX.o w9;have aa:=ce.o w9 (a0O 0 true (a2Q x.M (1,idP t)).c A9 c9) T (a0W _ _ _ _ _);have kr:=Qd w9 41 (a0O 0 true (a2Q x.M (1,idP t)).c A9 c9).toArray;have Dr:=ρb w9 (.cells (a0O 0 true (a2Q x.M (1,idP t)).c A9 c9).toArray 41);have⟨r9,cx⟩:=ηs w9;rw[cx]at ae aa kr
 generalize da:w9.alloc (.cells (a0O 0 true (a2Q x.M (1,idP t)).c A9 c9).toArray 41)=Y9 at aa kr Dr
 have aM:=(R.below ad).below Dr;have a3:=P4 a7w a4h _ kr T;have Z:(g+1,41,zs)∈[(g,53,tv),(g+1,41,zs)]:=by simp
 have aX:=aM.sto Z bN (a0O 0 true (a2Q x.M (1,idP t)).c A9 c9) T (a0W _ _ _ _ _);have cp:g+1<w5.heap.size:=(R.kp _ Z).1.lt;have U:=aM.fin Z (N0:=N) (λj hj=>Qj _ hj) (y0:=x) rfl (rp:=a2O (a2Q x.M (1,idP t)).c) R.sz cp (a5.below Dr) rfl
 generalize az:(a2E x.M (1,idP t)).isSome=is9
 have⟨cd,aD⟩:=η0 (a0O 0 true (a2Q x.M (1,idP t)).c A9 c9);simp only[a2O]at U;rw[aD]at aa a3 aX T U;rw[aD];have H:=bZ.o;rw[az]at H;have⟨aF,bF,ct,cZ⟩:=η4 U T aM az;clear U T aM az an a0 ad a5 kr Dr cx Z aD cp
 cases is9 with
 |
  true=>
  rw[if_pos rfl]at H;subst H;go_wp2_with fail;obtain⟨dR,bi,aJ⟩:=Q8.1 a7w;refine bodyPost_ret (v:=.agg cd.toArray) (a0c rfl _ _ (g+1) _ cd dR rfl aF.2.2 bi aJ (ρy bF.o a4h)) rfl ?_;exact⟨aF.1,aF.2.1⟩
 | false=>
 rw[if_neg ρp]at H;have b6:=η1 H;clear H;go_upto_region 6 with fail
 have⟨U3,be⟩:=η0 Y9.drew;have ax:=ct.drew;rw[be]at ax;have bG:U3.cell? ⟨a,2,none⟩=some (.pointer b.rp)/\(LDs 53 (.pointer g)).run prog U3=.ok (.agg tv) U3/\U3.cell? ⟨a,1,none⟩=some (.int .i64 x.n):=⟨ax.sh.c.2.2.1,ag.o _ _ _ _ ax,ax.sh.c.2.1⟩;have⟨af,bY,cL⟩:=η3 ax be bG;clear ax be bG;go_upto_region 6 with fail
 clear a3 aX aa ae;refine a3Y [(0,3),(1,3),(2,3),(5,3),(6,3),(7,3),(9,3),(3,0),(4,0),(8,0),(10,2),(11,2)] (λY=>Y.cell? ⟨a,2,none⟩=some (.pointer b.rp)/\(LDs 53 (.pointer g)).run prog Y=.ok (.agg tv) Y/\Y.cell? ⟨a,1,none⟩=some (.int .i64 x.n)) ρk ρk ρk ρk (ρy bY.o cL.o) ?_;rw[bY.o];have a4:((x.n.toNat:Nat):Int)=x.n:=by have:=af.sh.ok.me;omega
 have aQ:=b1W b.rp x.n.toNat seed d o f p t z F cl U3 af.sh.rg.at_ (ρh af.o.sh.ok.me) (ρh af.o.sh.ok.n) (aA.go af.fr).at_ (ay.go af.fr).at_ hl1 hl2 (cQ.o _ af.fr) hcpl hcll;rw[a4,av.o]at aQ;have⟨ac,cg⟩:=η0 (b6j seed t x.n cl);have H:=b6.o;rw[cg]at aQ H;have a1:=η1 H;clear H cg a4;refine ε7 ?_
 iterate 3 refine θ3 (λ_ h=>h) ?_
 refine τ ?_;intro K hK;refine μi aQ ?_;intro ab aW;with_reducible refine hK _ _ ?_;clear hK K;clear aQ
 have cw:=af.below aW;have Q:=η1 cw;clear cw aW
 by_cases ao:ac=0
 rotate_left
 ·have H:=a1.o
  rw[if_pos ao]at H;subst H;have hm:=a1m ac ao ab;refine τ ?_;intro K hK;refine μf hm ?_;exact λa' cY=>⟨cY,Q.ref ao⟩
 subst ao;have H:=a1.o;rw[if_neg ρp]at H;have hm:=a1o ab;have a6:=η1 H;clear H;refine τ ?_;intro K hK;refine μf hm ?_;with_reducible refine hK _ _ ?_;clear hK K
 with_reducible refine a1N ?_
 rw[a0V];clear hm;have aC:=b0A a b ((g+1)::N) seed x ab Q.sh
 by_cases ak:128<=x.M.length
 ·have H:=a6.o
  rw[if_pos ak]at H;subst H;rw[show decide (128<=x.M.length)=true by simpa using ak]at aC;have hi:=a0X true 18 ab;simp only[if_true]at hi;have hm:=a1m 18 ρo ab;clear ak;go_wp2_with fail;refine μf aC ?_;go_wp2_with fail;refine μf hi ?_;go_wp2_with fail;refine μf hm ?_;exact⟨rfl,Q.ref ρo⟩
 have H:=a6.o;rw[if_neg ak]at H;rw[show decide (128<=x.M.length)=false by simpa using ak]at aC;have hi:=a0X false 18 ab;simp only[QI,if_false]at hi;have hm:=a1o ab;have⟨bE,c8⟩:=η2 H ak;clear H ak;go_wp2_with fail;refine μf aC ?_;go_wp2_with fail;refine μf hi ?_;go_wp2_with fail;refine μf hm ?_;clear aC hi hm;have H:=bE.o;rw[<-bt.o]at H;have b3:=η1 H;clear H
 by_cases al:b1e x (Nv:Int)=true
 ·have H:=b3.o
  rw[if_pos al]at H;subst H;have hr:=b5T a b ((g+1)::N) seed x (Nv:Int) ρo ab Q.sh al;clear al;go_wp2_with fail;refine μi hr ?_;intro c3 ad;exact⟨rfl,(Q.below ad).ref ρo⟩
 have H:=b3.o;rw[if_neg al]at H;have hr:=b6o a b ((g+1)::N) seed x (Nv:Int) ρo ab Q.sh (ρw al);have⟨cj,de⟩:=η2 H al;clear H al;go_wp2_with fail;refine μi hr ?_;intro cJ ad;have bD:=Q.below ad;have bT:=η1 bD;clear bD ad;clear hr;have⟨U6,bA⟩:=η0 cJ.drew;have ai:=bT.drew;rw[bA]at ai;have cr:(LDs 53 (.pointer g)).run prog U6=.ok (.agg tv) U6/\U6.cell? ⟨a,1,none⟩=some (.int .i64 x.n)/\U6.cell? ⟨a,0,none⟩=some (.int .i64 x.me)/\U6.cell? ⟨a,7,none⟩=some (.pointer b.cb):=⟨ag.o _ _ _ _ ai,ai.sh.c.2.1,ai.sh.c.1,ai.sh.c.2.2.2.2.2.2.2.1⟩;have⟨J,bC,cK⟩:=η3 ai bA cr;clear ai bA cr;go_upto_region 9 with fail
 refine a0s [(1,3),(2,3),(3,3),(5,3),(6,3),(7,3),(9,3),(10,3),(11,3),(0,0),(4,0),(8,0),(12,0),(13,2),(14,3),(15,3),(16,3),(17,3),(18,3)] (λY=>(LDs 53 (.pointer g)).run prog Y=.ok (.agg tv) Y/\Y.cell? ⟨a,1,none⟩=some (.int .i64 x.n)/\Y.cell? ⟨a,0,none⟩=some (.int .i64 x.me)/\Y.cell? ⟨a,7,none⟩=some (.pointer b.cb)) ρk ρk ρk ρk (ρy bC.o cK.o) ?_;rw[bC.o];have a2:-9223372036854775808<=x.n/\x.n<=9223372036854775807:=by have:=J.sh.ok.n;have:=J.sh.ok.me;omega
 have aG:=b8j b.cb b.cm x.C x.sC J.sh.ok.sC d o f p t x.n x.me a2 U6 J.sh.co (aA.go J.fr).at_ (ay.go J.fr).at_ hl1 hl2;have ah:=b7G (n:=x.n) (me:=x.me) cD.o J.sh.ok.sC J.sh.ok.lC;have aq:=b8g x.n x.me x.C x.sC t;rw[av.o]at aG;have⟨mq,bl⟩:=η0 (a6S x.n x.me x.C x.sC t);have⟨mc,br⟩:=η0 (a9a x.n x.me x.C x.sC t);have H:=cj.o;rw[bl,br]at H aG;rw[br]at ah;rw[bl]at aq;obtain⟨m1,m2⟩:=mq;simp only at H aG aq;have⟨cc,ca,aE⟩:=η3 H aq ah;clear H aq ah bl br a2;refine ε7 ?_;refine ε2 ?_
 iterate 4 refine θ4 (λ_ h=>h) ?_
 refine τ ?_;intro K hK;refine μi aG ?_;intro w5 cB;with_reducible refine hK _ _ ?_;clear hK K
 refine ε5 ?_;clear aG;refine ν ?_;have H:=cc.o
 rcases cB with⟨aL,bJ⟩ | ⟨hz,bK,wz,bp,bj,bw,cf⟩
 ·rw[if_pos aL]at H
  subst H;have hm:=a1m m2 aL w5;have bL:=J.below bJ;have⟨cX,cP⟩:=η2 bL aL;clear bL aL bJ;go_wp2_with fail;refine μf hm ?_;exact⟨rfl,cX.ref cP⟩
 subst hz;rw[if_neg ρp]at H;have bO:Fr (λk=>k∈a::b.own) U6 w5:=((Q9 bj).mono (G:=λk=>k∈a::b.own) (λk hk e=>ρo)).trans bw (λk _ e=>by rw[e];simp[ShB.own])
 have bf:=J.step (J.sh.newC bj bp bw cf aE.1 aE.2) bO (λj hj=>Qj _ hj) (λj hj=>by
  simp only[ShB.own,Qo,Qt,or_false]at hj⊢
  rcases hj with e | e | e | e | e | e
  ·exact .inl (.inl e)
  ·exact .inr (ρy e bp)
  ·exact .inl (.inr (.inr (.inl e)))
  ·exact .inl (.inr (.inr (.inr (.inl e))))
  ·exact .inl (.inr (.inr (.inr (.inr (.inl e)))))
  exact .inl (.inr (.inr (.inr (.inr (.inr e))))))
 have⟨b',bV⟩:=η0 ({b with cm:=bK});have⟨y6,ba⟩:=η0 ({x with C:=mc.1,sC:=mc.2});rw[bV,ba]at bf;have hm:=a1o w5;have⟨I,ci,b2⟩:=η3 bf H ba;clear bf H ba bO bj bw cf bp bV;go_wp2_with fail;refine μf hm ?_;clear hm;have H:=ci.o;rw[b2.o]at H;have cC:=η1 H;clear H;have bQ:=ag.o _ _ _ _ I;have bB:=b4k 3 m1 4;have bn:(⟨3,0,a7R,m1,4,0⟩:a1P).Bd:=b1v ρo Dig.zIdY ca.o ρo;have au:=a5z a b' (bK::(g+1)::N) seed y6 1 ρo A n c m cT.o cM.o cW.o d o f p t ⟨3,0,a7R,m1,4,0⟩ bn w5 I.sh (cz.go I.fr).at_ (aA.go I.fr).at_ hl1 hl2 (ay.go I.fr).at_;rw[av.o]at au;have H:=cC.o;have⟨e0,a8⟩:=η0 ((⟨3,0,a7R,m1,4,0⟩:a1P):a1P);rw[a8]at au H bn;simp only[a8]at bB;have⟨ev,aR⟩:=η0 ((a0x e0).toArray);rw[aR]at au;simp only[aR]at bB;have⟨dq,cy⟩:=η0 (b5e seed y6 1 m t e0);rw[cy]at au H;subst H;have df:=η1 aR;clear aR bn a8 cy;go_wp2_with fail;refine μ1 au ?_;rintro c7 c5 ⟨b7,aK⟩;clear au bB
 cases dq with
 |
  error k=>
  obtain⟨hk,rfl⟩:=b7;exact⟨rfl,I.refF aK hk⟩
 |
  ok yr=>
  obtain⟨cV,rp⟩:=yr;obtain⟨⟨db,aV,b4⟩,a9,bm,rfl,aj⟩:=b7;have aB:=I.step' aV aK;have Z:(g+1,41,zs)∈[(g,53,tv),(g+1,41,zs)]:=by simp
  have aP:=a0A aj.1 rp.e rp.has a9 bm;have cH:=aB.sto Z bN (a0O rp.e rp.has rp.c a9 bm) aP (a0W _ _ _ _ _);have cn:g+1<w5.heap.size:=(I.kp _ Z).1.lt;have aI:=aB.fin Z (N0:=N) (λj hj=>Qj _ (Qj _ hj)) (y0:=cV) b4 (rp:=rp) I.sz cn aj rfl;have⟨rs,bv⟩:=η0 (a0O rp.e rp.has rp.c a9 bm);rw[bv]at cH aI aP;rw[bv];have⟨aH,cI⟩:=η2 aI aP;clear aI aP aB aV aj aK b4 Z cn bv;clear bQ;go_wp2_with fail;obtain⟨dR,bi,aJ⟩:=Q8.1 a7w;refine bodyPost_ret (v:=.agg rs.toArray) (a0c rfl _ _ (g+1) _ rs dR rfl aH.2.2 bi aJ (ρy cI.o a4h)) rfl ?_;exact⟨aH.1,aH.2.1⟩
end
section
def c2B(z:List (Pt×a1J)×Int×Int)(p:Pt):List (Pt×a1J)×Int×Int:=(b6D z.1 p,IntKind.u64.wrap (z.2.1-(a0H z.1 p).1.am),IntKind.u64.wrap (z.2.2+(a0H z.1 p).1.am))
def a4j(ps:List OkP)(z:List (Pt×a1J)×Int×Int):List (Pt×a1J)×Int×Int:=ps.foldl (λz p=>c2B z p.1) z
theorem b8U(a:List OkP)(p:OkP)(z:List (Pt×a1J)×Int×Int):a4j (a++[p]) z=c2B (a4j a z) p.1:=by
 simp[a4j]
theorem b3w(a:List OkP)(z:List (Pt×a1J)×Int×Int)(b:0<=z.2.1/\z.2.1<=18446744073709551615)(d:0<=z.2.2/\z.2.2<=18446744073709551615):
  (0<=(a4j a z).2.1/\(a4j a z).2.1<=18446744073709551615)/\(0<=(a4j a z).2.2/\(a4j a z).2.2<=18446744073709551615)/\(a4j a z).1.length<=z.1.length:=by
 induction a generalizing z with
 | nil=>exact⟨b,d,Qg _⟩
 |
  cons p r f=>
  have:=f (c2B z p.1) (a2h _) (a2h _)
  refine⟨this.1,this.2.1,Qk this.2.2 ?_⟩;exact ZX _ _
theorem d1q:(((prog.info? 206).bind (·.zero)).map (·.cells.size))=some 33:=ρk
def c3X(lb lm:Nat)(L:List (Pt×a1J))(s:Int)(D:LI)(w:WD)(e:Ending)(w':WD):Prop:=
 ∃ps,d3j L D ps/\e=.returned (.int .u64 (a4j ps (L,s,0)).2.2)/\a0j w' lb lm (a4j ps (L,s,0)).1 (a4j ps (L,s,0)).2.1/\Fr (λk=>k=lb\/k=lm) w w'
attribute [local go_sem ↓] a1F a4Z a5p a1B a4v a4s a4r
theorem b2H(lb lm:Nat)(L:List (Pt×a1J))(s:Int)(D:LI)(a:Dig D)(b:L.length<=1000000)(w:WD)(h:a0j w lb lm L s):
  Calls prog 161 #[.agg (bys D).toArray,.pointer lb] w (c3X lb lm L s D w):=by
 have⟨g,hg⟩:=ηs w;have al:(bys D).length=32:=by rw[a0a,a.1]
 have b0:=Qd w 31 (((bys D).toArray));have B0:=ρb w (.cells (((bys D).toArray)) 31)
 generalize hW:w.alloc (.cells (((bys D).toArray)) 31)=W at b0 B0
 rw[hg]at b0;have ab:=c2J lb lm L s D a b W (h.below B0);have ai:=P4 a2i iId (bys D) b0 al;obtain⟨Z,p,K,hz⟩:=P8 (t:=189) a1H c3w;obtain⟨Zc,j,y,a6⟩:=P8 (t:=206) a9y d1q;have hA:=h.below B0;have aI:=h.st.lt;have aq:=h.mp.lt;have⟨dv,aa⟩:=η0 ((bys D).toArray);rw[aa]at hW ab ai;have⟨HW,HG,Y,aT,aX,az,aC,HA⟩:=η8 hW hg B0 p K j y hA;have⟨aW,aL,aV⟩:=η3 aa aI aq;clear hW hg B0 p K j y hA aa aI aq b0 al h;rw[aW.o];go_enter func161,ntmps161;go_upto_region 1 with fail
 rw[HW.o,HG.o];go_wp2_with fail;refine μ1 ab ?_;rintro e1 w1 ⟨A,c,d,rfl,T,hO,R⟩;have⟨n,hn⟩:=η0 d.length;rw[hn]at hO;have ax:=HA.below R;have aD:n<=1000000:=by have:=T.len;omega
 obtain⟨-,aB⟩:=hO.sp;have⟨aP,HO,aR,HN,aJ,aK,aQ⟩:=η7 T hO R hn ax aB aD;clear T hO R hn ax aB aD ab ai;go_upto_region 5 with fail
 try rw[HN.o]
 go_loopg [5,7,8,9,17] n (λkk u _ _ _ t wr=>∃i:Nat,i+kk=n/\t=.int .i64 i/\u=.int .u64 (a4j (d.take i) (L,s,0)).2.2/\a0j wr lb lm (a4j (d.take i) (L,s,0)).1 (a4j (d.take i) (L,s,0)).2.1/\Fr (λk=>k=lb\/k=lm) w1 wr);exact⟨0,by omega,rfl,rfl,aJ.o,Qp _ _⟩;obtain⟨i,hi,rfl,rfl,m,o⟩:=hrel
 by_cases aM:i<n
 ·have aE:(i:Int)<n:=ρo
  have ae:i<d.length:=by rw[HN.o];exact aM
  have a3:=aQ.o
  rcases aK.o with⟨-,e0⟩ | ⟨q,aY,rfl,hq,-⟩
  ·have:=congrArg List.length e0
   simp at this;subst this;simp at ae
  have ak:=HO.fr o (λk hk e=>by have:=(HO.lt hk).1;have:=Y.size;have:=aL.o;have:=aV.o;omega);have x:=ak.ldR (t:=189) a3a a1H (i:=i) (ρw ae);simp only[QS]at x;have⟨O,E⟩:=η0 (ptE.e d[i].1);have av:O.length=33:=by rw[<-E];exact a1x d[i].2.len _
  have aU:∀u∈O,u.oneCell'=true:=by rw[<-E];exact a2p _ _
  rw[E]at x;have p:=aT.o wr;have X:=aX.o wr O av aU;have bp:=Qd wr 189 O.toArray;have H:=ρb wr (.cells O.toArray 189);have⟨r,hr⟩:=ηs wr;rw[hr]at p X bp
  generalize ay:wr.alloc (.cells O.toArray 189)=w3 at X bp H
  have an:=P4 a3a a1H O bp av;have z:=b8V lb lm _ _ d[i].1 d[i].2 w3 (m.below H);rw[show ptL d[i].1.1 d[i].1.2=O from E]at z;have aj:=a2U m.bd d[i].1
  have B:a4j (d.take (i+1)) (L,s,0)=c2B (a4j (d.take i) (L,s,0)) d[i].1:=by
   rw[Qe ae,b8U]
  have⟨lk,F⟩:=η0 ((a0H (a4j (d.take i) (L,s,0)).1 d[i].1).1);have J:lk.Bd:=by rw[<-F];exact aj.co
  have aF:=a0G J;have aH:=a1O lk;have U:(a1s lk).toArray[32]? =some (.int .u64 lk.am):=by simp[a1s,a0a,J.len]
  unfold c2B at B;rw[F]at z B;have⟨vt,f⟩:=η0 ((a4j (d.take i) (L,s,0)).2.2);rw[f]at B;have⟨ov,V⟩:=η0 (a1s lk);rw[V]at z aF aH U;have⟨ah,v,aA,a7,HR,a4,aZ,a5⟩:=η8 B o H bp hr ay V F;have⟨ac,a1⟩:=η2 f J;clear B o H bp hr ay V F f J ak m aj E;rw[ac.o];go_wp2_with fail;refine μ1 z ?_;rintro e4 w4 ⟨rfl,aG,S⟩;have j:=az.o w4;have N:=aC.o w4 ov aF aH;have bo:=Qd w4 206 ov.toArray;have I:=ρb w4 (.cells ov.toArray 206);have⟨r4,ad⟩:=ηs w4;rw[ad]at j N bo
  generalize ar:w4.alloc (.cells ov.toArray 206)=w5 at N bo I
  have ca:w5.cell? ⟨r4,32,none⟩=some (.int .u64 lk.am):=(bo.cell 32).trans U;have ao:=aG.below I;have ag:Fr (λk=>k=lb\/k=lm) w1 w5:=((v.trans (Q9 aA.o) (λk hk e=>absurd e (ρh v.o.size))).trans S (λk _ e=>e)).trans (Q9 I) (λk hk e=>absurd e (by have:=v.size;have:=aA.size;have:=S.size;omega));have af:a0j w5 lb lm (a4j (d.take (i+1)) (L,s,0)).1 (a4j (d.take (i+1)) (L,s,0)).2.1:=by rw[ah.o];exact ao
  have⟨aN,aS,a2,a8,a0⟩:=η5 af ag bo ar ad;clear af ag bo ar ad z x an p X aG S I ao U;go_wp2;go_roundg (n-(i+1));exact⟨i+1,by omega,by go_num,by rw[ah.o],aN.o,aS.o⟩;omega
 obtain rfl:i=n:=ρo;have aE:¬(i:Int)<i:=ρo;rw[Qb (by rw[HN.o];exact Qg _)]at m;have⟨vt,f⟩:=η0 ((a4j (d.take i) (L,s,0)).2.2);have Q:vt=(a4j d (L,s,0)).2.2:=by rw[<-f,Qb (by rw[HN.o];exact Qg _)]
 have⟨aO,v,ac,au⟩:=η4 m o f Q;clear m o f Q;rw[ac.o];go_wp2;go_ret;refine⟨d,aP.o,by rw[au.o];rfl,aO.o,(((Q9 Y.o).trans (Q9 aR.o) (λk hk e=>absurd e (ρh Y.o.size))).mono (G:=λk=>k=lb\/k=lm) (λk hk e=>ρo)).trans v.o (λk _ e=>e)⟩
end
section
theorem c8S(v:VL)(i:Nat):Instr.field 214 v i=FDl 214 v i:=rfl
theorem d3y:∃f0 f1:Field,prog.underlying 214=some (.struct #[f0,f1])/\f1.type=3/\f1.offset=137:=
 ⟨_,_,Tryz.underlying214,rfl,rfl⟩
theorem c7A(w:WD):(isAgg 3).run prog w=.ok false w:=ρk
theorem d0p{x:MkD}(h:x.c.Bd)(w:WD):(FDl 214 (.agg (mkV x).toArray) 1).run prog w=.ok (.int .i64 x.ex) w:=by
 obtain⟨j,g,b,t1,a⟩:=d3y
 have e:(mkV x)[137]? =some (.int .i64 x.ex):=by
  unfold mkV;rw[QL (by rw[a0l h];omega),a0l h]
  rfl
 have d:(mkV x).toArray[137]? =some (.int .i64 x.ex):=ρw e;have f:(Go.sizeOf 3).run prog w=.ok 1 w:=ρk;unfold FDl Instr.field;simp[b,part,t1,a,asAgg,c7A,f,d,e]
theorem a0z.look1{kb b:Nat}{N:List Nat}{m:List (Ke×MkD)}(h:a0z w kb b N m){k:Ke}(d:b2y k):
  (Instr.lookup 167 (.map (some b)) (.agg (keL k.1 k.2).toArray) false).run prog w=.ok (.agg (mkV (a2Q m k)).toArray) w:=by
 unfold a2Q
 cases hg:a2E m k with
 | none=>exact h.mp.look_out b0F (a:=k) d (zMk w) hg false
 | some v=>exact h.mp.look_in b0F (a:=k) hg false
theorem a0z.del{w:WD}{kb b:Nat}{N:List Nat}{m:List (Ke×MkD)}(h:a0z w kb b N m)(d:b∈N){k:Ke}(f:b2y k):
  ∃w',(∀ty,(Builtin.delete_ #[167,212] ty #[.map (some b),.agg (keL k.1 k.2).toArray]).run prog w=.ok (.tuple #[]) w')/\a0z w' kb b N (b6D m k)/\Fr (λj=>j=b) w w'/\w'.heap.size=w.heap.size:=by
 obtain⟨w',x,r,g,v⟩:=h.mp.del (ty:=0) b0F (a:=k) f;exact⟨w',λty=>x,⟨h.st.fr g (λe=>h.ne e.symm),r,λp o=>(h.bd p (ZD.1 o).1).fr g (λj e=>by subst e;exact d)⟩,g,v⟩
def c1N(kb km:Nat)(N:List Nat)(L:List (Ke×MkD))(w:WD)(e:Ending)(w':WD):Prop:=
 ∃(n:Int) (L':List (Ke×MkD)),e=.returned (.int .i64 n)/\a0z w' kb km N L'/\(∀p∈L',p∈L)/\L'.length<=L.length/\Fr (λk=>k=km) w w'
attribute [local go_sem ↓] a9U b0n b0f c8S
theorem c1q(kb km:Nat)(N:List Nat)(L:List (Ke×MkD))(ep:Int)(b:L.length<=1000000)(w:WD)(h:a0z w kb km N L)(d:km∈N):
  Calls prog 93 #[.pointer kb,.int .i64 ep] w (c1N kb km N L w):=by
 have av:=b3D kb km N L b w h;obtain⟨Z,I,ai,hz⟩:=P8 (t:=212) c1B d1x;have aB:=h.st.lt;have aC:=h.mp.lt;have⟨HH,a8,ba,bf,aU,a7,HL⟩:=η7 h I ai aB aC d b;clear h I ai aB aC d b;go_enter func93,ntmps93;go_wp2_with fail;refine μ1 av ?_;rintro e1 w1 ⟨v,ps,rfl,ay,hO,aj⟩;obtain⟨A,n,c,rfl,hn⟩:=hO.formN;rw[Qw]at hn;have U:ps.length=L.length:=by have:=ay.length_eq;simpa using this
 have aL:n<=1000000:=by have:=HL.o;omega
 obtain⟨-,aK⟩:=hO.sp;have aH:=HH.below aj;have⟨HO,a6,HN,aS,a4,aR⟩:=η6 hO aj hn aK aL aH;clear hO aj hn aK aL aH av ay U;go_upto_region 3 with fail
 go_loopg [5,7,11] n (λkk u _ t wr=>∃(i:Nat) (a:Int) (M:List (Ke×MkD)),i+kk=n/\t=.int .i64 i/\u=.int .i64 a/\a0z wr kb km N M/\(∀p∈M,p∈L)/\M.length<=L.length/\Fr (λk=>k=km) w1 wr);exact⟨0,0,L,by omega,rfl,rfl,aR.o,λp hp=>hp,Qg _,Qp _ _⟩;obtain⟨i,a,M,hi,rfl,rfl,ad,E,S,g⟩:=hrel
 by_cases aV:i<n
 ·have aM:(i:Int)<n:=ρo
  have aO:i<ps.length:=by rw[<-HN.o];exact aV
  have bg:=a4.o
  rcases aS.o with⟨-,e0⟩ | ⟨q,be,rfl,hq,-⟩
  ·have:=congrArg List.length e0
   simp at this;subst this;simp at aO
  have aD:=HO.fr g (λk hk e=>by have:=(HO.lt hk).1;have:=aU.o;omega);have aa:=aD.ldR (t:=212) c7f c1B (i:=i) (ρw aO);simp only[QS]at aa;have⟨T,ae⟩:=η0 (ps[i].1);have D:b2y T:=by rw[<-ae];exact ps[i].2
  have aN:keE.e ps[i].1=keL T.1 T.2:=by rw[ae];rfl
  have⟨pv,y⟩:=η0 (keL T.1 T.2);rw[aN,y]at aa;have U:pv.length=33:=by rw[<-y];exact a6m D.len _
  have a9:∀u∈pv,u.oneCell'=true:=by rw[<-y];exact a7K _ _
  have I:=a8.o wr;have al:=ba.o wr pv U a9;have bp:=Qd wr 212 pv.toArray;have O:=ρb wr (.cells pv.toArray 212);have⟨r,hr⟩:=ηs wr;rw[hr]at I al bp
  generalize aI:wr.alloc (.cells pv.toArray 212)=w3 at al bp O
  have fd:Fr (λ_=>False) w3 w3.drew:=(Qp _ _).drew;have m:=(ad.below O).fr fd id id (λ_ e=>e.elim);have af:=bp.fr fd id;have R:=O.trans (fd.below (B:=wr.heap.size) O.size (λ_ _=>id));have⟨X,hX⟩:=η0 w3.drew;rw[hX]at m af R;have q0:=m.q0;have z:=P4 c7f c1B pv af U;have H:=m.look1 D;rw[y]at H;have aF:=a6b (N:=N) m.bd T;have J:=λW=>d0p (x:=a2Q M T) aF.bd W
  have⟨mv,ar⟩:=η0 ((mkV (a2Q M T)).toArray);have⟨ex,aP⟩:=η0 ((a2Q M T).ex);rw[ar]at H;simp only[ar,aP]at J;have ab:=b3K ex ep X;have⟨ob,aE⟩:=η0 (b9d ex ep);rw[aE]at ab;have ah:Fr (λ_=>False) X X.drew:=(Qp _ _).drew;have ag:=m.fr ah id id (λ_ e=>e.elim);have an:=af.fr ah id;have aq:=R.trans (ah.below (B:=wr.heap.size) R.size (λ_ _=>id));have⟨Y,hY⟩:=η0 X.drew;rw[hY]at ag an aq;have q1:=ag.q0;have f:=P4 c7f c1B pv an U;obtain⟨V,j,aQ,aG,-⟩:=ag.del a7 D;rw[y]at j;have ac:(b6D M T).length<=L.length:=Qk (ZX _ _) S;have aA:Fr (λk=>k=km) w1 X:=g.trans (Q9 R) (λk hk e=>absurd e (ρh g.size));have az:Fr (λk=>k=km) w1 V:=(g.trans (Q9 aq) (λk hk e=>absurd e (ρh g.size))).trans aG (λk _ e=>e);have⟨aZ,F,ao,HX,HY,bh,HR,a5⟩:=η8 m E S hX hY aI hr aQ;have⟨aJ,a2,aX,bb,bc,a1,aT,ax⟩:=η8 ac aA az y ae q0 q1 j
  have⟨au,ak,a3,aY⟩:=η4 z f H J;clear m E S hX hY aI hr aQ ac aA az y ae q0 q1 j z f H J aD ad g aN aF bp O fd R ah ag aq aG ar aP aE D af an;go_upto_region 5 with fail
  refine a0s [(0,3),(1,3),(2,3),(7,3),(3,0),(4,0),(5,0),(6,3),(8,2)] (λQ=>Q=X) ρk ρk ρk ρk (by rw[HX.o]) ?_;rw[HX.o];have q0:=a1.o;have z:=au.o;have H:=a3.o;have J:=aY.o;refine ε4 ?_
  iterate 3 (with_reducible refine a0t (o:=?_) (v:=?_) (a':=?_) ρu ρu (λW' hS=>?_) ?_ ?_;rotate_left 2;(focus(subst hS;exact ρs));focus(exact ρs))
  refine ε1 ?_;refine τ ?_;intro K hK;refine μf ab ?_;with_reducible refine hK _ _ ?_;clear hK K;clear ab H J aa al I q0 z
  refine ν ?_
  cases ob with
  |
   true=>
   go_upto_region 6 with fail
   refine a0s [(0,3),(1,3),(2,3),(3,0),(4,0),(5,2)] (λQ=>Q=Y) ρk ρk ρk ρk (by rw[HY.o]) ?_;rw[HY.o];have q1:=aT.o;have f:=ak.o;have j:=ax.o;refine ε3 ?_
   iterate 2 (with_reducible refine a0t (o:=?_) (v:=?_) (a':=?_) ρu ρu (λW' hS=>?_) ?_ ?_;rotate_left 2;(focus(subst hS;exact ρs));focus(exact ρs))
   refine τ1 ?_;clear j f q1;refine ν ?_;go_wp2;go_roundg (n-(i+1));exact⟨i+1,_,b6D M T,by omega,by go_num,rfl,a5.o,λp hp=>F.o p (ZD.1 hp).1,aJ.o,aX.o⟩;omega
  |
   false=>
   go_wp2;go_roundg (n-(i+1));exact⟨i+1,a,M,by omega,by go_num,rfl,aZ.o,F.o,ao.o,a2.o⟩;omega
 obtain rfl:i=n:=ρo;have aM:¬(i:Int)<i:=ρo;have⟨a0,F,ao,aW⟩:=η4 ad E S g;clear ad E S g;go_wp2;go_ret;exact⟨a,M,rfl,a0.o,F.o,ao.o,((Q9 a6.o).mono (G:=λk=>k=km) (λk hk e=>ρo)).trans aW.o (λk _ e=>e)⟩
end
end Go.Proofs.YtpolljfkceanaaaGreatDoor
