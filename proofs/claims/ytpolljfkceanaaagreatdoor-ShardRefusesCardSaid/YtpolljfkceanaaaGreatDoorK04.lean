/-
  Contracts of functions, plain laws.
-/
import Derived.DeepKeys
import Derived.Laws.StructEq
import Derived.Test.YtpolljfkceanaaaGreatDoorK03
namespace Go.Proofs.YtpolljfkceanaaaGreatDoor
open Go.RowKit Go.Shelf Go.Maps Go.Proofs.Tryz
set_option maxRecDepth 100000
set_option maxHeartbeats 64000000
variable {cs:AV}{x:Int}{l ow tx:LI}{R:LW}{L:List InD}{B b c g most n p s:Nat}{A d f:OA}{P:PG}{T:TI}{t:TxD}{v:VL}{a w:WD}
set_option linter.all false
section
open Go.RowKit Go.Shelf Go.Maps Go.ChangeMaps Go.MapKept
def a2E{κ ν:Type}[DecidableEq κ](m:List (κ×ν))(a:κ):Option ν:=(m.find? (λp=>decide (p.1=a))).map (·.2)
def b6D{κ ν:Type}[DecidableEq κ](m:List (κ×ν))(a:κ):List (κ×ν):=m.filter (λp=>decide (p.1≠a))
section
variable {κ ν:Type} [DecidableEq κ]
theorem a6T{m:List (κ×ν)}{a:κ}{v:ν}(h:a2E m a=some v):(a,v)∈m:=by
 unfold a2E at h;obtain⟨p,d,rfl⟩:=Q8.1 h;have f:=List.mem_of_find?_eq_some d;have b:=List.find?_some d;simp only[decide_eq_true_eq]at b;obtain⟨g,j⟩:=p;simp only at b;subst b;exact f
theorem b0r{m:List (κ×ν)}{a:κ}(h:a2E m a=none):∀p∈m,p.1≠a:=by
 unfold a2E at h;rw[Option.map_eq_none_iff,List.find?_eq_none]at h;intro p b e;exact h p b (ρw e)
end
structure Enc(κ:Type) where
 k:TI
 e:κ->LV
 ok:κ->Prop
 law:Go.WideMaps.KeyLaw prog k
 key:∀a,ok a->∃l,keyOf prog k (.agg (e a).toArray)=some l
 inj:∀a b,ok a->ok b->e a=e b->a=b
structure a4o{κ ν:Type}(E:Enc κ)(ev:ν->LV)(w:WD)(b:Nat)(m:List (κ×ν)):Prop where
 is:a2g prog E.k w b (m.map λp=>(.agg (E.e p.1).toArray,.agg (ev p.2).toArray))
 ok:∀p∈m,E.ok p.1
section
variable {κ ν:Type} [DecidableEq κ] {E:Enc κ} {ev:ν->LV} {w w':WD} {b:Nat} {m:List (κ×ν)}
omit [DecidableEq κ]in
theorem a4o.fr{F:Nat->Prop}(h:a4o E ev w b m)(a:Fr F w w')(d:¬F b):a4o E ev w' b m:=⟨h.is.fr a d,h.ok⟩
omit [DecidableEq κ]in
theorem a4o.lt(h:a4o E ev w b m):b<w.heap.size:=h.is.lt
omit [DecidableEq κ]in
theorem a4o.ne_blk(h:a4o E ev w b m){g:Nat}{t:TI}{cs:AV}(a:Blk w g t cs):b≠g:=h.is.ne_blk a
omit [DecidableEq κ]in
theorem a4o.new(w:WD):a4o E ev (w.alloc (.map #[] 0)) w.heap.size []:=⟨a2g.new w,by simp⟩
omit [DecidableEq κ]in
theorem a4o.apart(h:a4o E ev w b m):m.Pairwise (λp q=>p.1≠q.1):=by
 have:=h.is.nodup
 rw[Yk]at this;exact this.imp (λa e=>a (by rw[e]))
omit [DecidableEq κ]in
theorem a4o.other(h:a4o E ev w b m){a:κ}(d:E.ok a)(f:∀p∈m,p.1≠a):∀p∈m.map (λp=>(Value.agg (E.e p.1).toArray,Value.agg (ev p.2).toArray)),p.1≠ .agg (E.e a).toArray:=by
 intro p j e;obtain⟨q,g,rfl⟩:=Qs.1 j;simp only[Value.agg.injEq]at e;exact f q g (E.inj _ _ (h.ok q g) d (by simpa using congrArg Array.toList e))
theorem a4o.look_in{t e:TI}(ht:prog.underlying t=some (.map E.k e))(h:a4o E ev w b m){a:κ}{v:ν}(d:a2E m a=some v)(ok:Bool):
  (Instr.lookup t (.map (some b)) (.agg (E.e a).toArray) ok).run prog w=.ok (if ok then .tuple #[.agg (ev v).toArray,.bool true]else .agg (ev v).toArray) w:=
 h.is.look_in E.law ht (Qs.2 ⟨(a,v),a6T d,rfl⟩) ok
theorem a4o.look_out{t e:TI}(ht:prog.underlying t=some (.map E.k e))(h:a4o E ev w b m){a:κ}(d:E.ok a){z:VL}(f:(zeroValue e).run prog w=.ok z w)(g:a2E m a=none)(ok:Bool):
  (Instr.lookup t (.map (some b)) (.agg (E.e a).toArray) ok).run prog w=.ok (if ok then .tuple #[z,.bool false]else z) w:=by
 obtain⟨l,j⟩:=E.key a d;exact h.is.look_out E.law ht j f (h.other d (b0r g)) ok
theorem a4o.put{t e:TI}(ht:prog.underlying t=some (.map E.k e))(h:a4o E ev w b m){a:κ}(d:E.ok a)(v:ν)(f:a2E m a=none):
  ∃w',(Instr.mapUpdate t (.map (some b)) (.agg (E.e a).toArray) (.agg (ev v).toArray)).run prog w=.ok () w'/\a4o E ev w' b (m++[(a,v)])/\Fr (λj=>j=b) w w'/\w'.heap.size=w.heap.size:=by
 obtain⟨l,r⟩:=E.key a d;obtain⟨w',z,x,B,y⟩:=h.is.put E.law ht (.agg (ev v).toArray) r (h.other d (b0r f));refine⟨w',z,⟨by rw[QV];exact x,λp o=>?_⟩,B,y⟩
 rcases Qq.1 o with g | g
 ·exact h.ok p g
 rw[Qn.1 g];exact d
theorem a4o.entry{t e:TI}(ht:prog.underlying t=some (.map E.k e))(h:a4o E ev w b m){a:κ}(d:E.ok a)(v:ν){z:VL}(f:(zeroValue e).run prog w=.ok z w)(g:a2E m a=none):
  ∃
   (st:Nat) (w1 w2:WD),(Instr.mapEntry t (.map (some b)) (.agg (E.e a).toArray)).run prog w=.ok (.tuple #[z,.int .i64 st]) w1/\(Instr.entryStore t (.map (some b)) (.int .i64 st) (.agg (ev v).toArray)).run prog w1=.ok () w2/\a4o E ev w2 b (m++[(a,v)])/\
   Fr (λj=>j=b) w w1/\Fr (λj=>j=b) w1 w2/\w1.heap.size=w.heap.size/\w2.heap.size=w.heap.size:=by
 obtain⟨l,x⟩:=E.key a d;obtain⟨st,w1,w2,D,y,F,B⟩:=h.is.entry E.law ht (.agg (ev v).toArray) x f (h.other d (b0r g));refine⟨st,w1,w2,D,y,⟨by rw[QV];exact F,λp r=>?_⟩,B⟩
 rcases Qq.1 r with o | o
 ·exact h.ok p o
 rw[Qn.1 o];exact d
theorem a4o.del{t e ty:TI}(ht:prog.underlying t=some (.map E.k e))(h:a4o E ev w b m){a:κ}(d:E.ok a):
  ∃w',(Builtin.delete_ #[t,E.k] ty #[.map (some b),.agg (E.e a).toArray]).run prog w=.ok (.tuple #[]) w'/\a4o E ev w' b (b6D m a)/\Fr (λj=>j=b) w w'/\w'.heap.size=w.heap.size:=by
 obtain⟨l,o⟩:=E.key a d
 obtain⟨w',x,r,y,v⟩:=h.is.del (ty:=ty) E.law ht o (λp=>decide (p.1≠a)) (λp f=>by
  simp only[decide_eq_true_eq];refine⟨λg e=>g ?_,λg e=>g (by rw[e])⟩;simp only[Value.agg.injEq]at e;exact E.inj _ _ (h.ok p f) d (by simpa using congrArg Array.toList e))
 exact⟨w',x,⟨r,λp f=>h.ok p ((ZD.1 f).1)⟩,y,v⟩
omit [DecidableEq κ]in
theorem a4o.len_{ty t e:TI}(h:a4o E ev w b m)(ht:prog.underlying t=some (.map E.k e)):(Builtin.len_ #[t] ty #[.map (some b)]).run prog w=.ok (.int .i64 (m.length:Int)) w:=by
 rw[h.is.len_ ht,Qw]
omit [DecidableEq κ]in
theorem a4o.clone(h:a4o E ev w b m):∃es c,w.heap[b]? =some (.map es c)/\a4o E ev (w.alloc (.map es c)) w.heap.size m/\a4o E ev (w.alloc (.map es c)) b m:=by
 obtain⟨es,c,d,a,f⟩:=h.is.clone;exact⟨es,c,d,⟨a,h.ok⟩,⟨f,h.ok⟩⟩
end
def ptE:Enc (LI×Int) where
 k:=189
 e:=λp=>ptL p.1 p.2
 ok:=a6l
 law:=b9q
 key:=λ_ h=>⟨_,h.key⟩
 inj:=λa b ha hb h=>c2H ha hb (by rw[h])
end
section
attribute [local go_sem ↓] b6y
theorem c6m(A:OA)(c:Nat)(l:LI)(x:Int)(w:WD)(h:RdW .u64 w A l)(a:l.length<=1000000000):
  Calls prog 197 #[.slice A l.length c,.int .u64 x] w λe w'=>e=.returned (.bool (l.contains x))/\w'=w:=by
 rcases Zq l.length with b | b
 ·obtain rfl:l=[]:=Zv.1 b
  exact AnyE.slices_Contains_empty Tryz.laysCU A c (.int .u64 x) w
 obtain⟨g,off,rfl,m,f⟩:=h b
 have:=AnyE.slices_Contains Tryz.laysCU (Value.int .u64) (λx y=>x == y) (EqlAt.int _ _ .u64) g off l.length c l x w (Qg _) ρo (λj d=>f j _ (by simp[getElem!_pos,d]))
 rw[ZF]at this
 have e:(l.any λy=>x == y)=l.contains x:=by
  rw[Bool.eq_iff_iff]
  simp
 rw[e]at this;exact this
theorem U64.of(h:RdW .u64 w A l)(a:∀x∈l,0<=x/\x<=18446744073709551615):U64 w A l:=⟨h,a⟩
theorem a3L(a:OA)(f:Nat)(b:OA)(j:Nat)(t:TxD)(w:WD)(h:a9H w a b t)(m:t.ins.length<=1000000)(d:t.outs.length<=1000000):
  Calls prog 136 #[.agg (txV a f b j t)] w λe w'=>e=.returned (.int .i64 (a1a t))/\Below w w w':=by
 have b0:=Qd w 53 (txV a f b j t);have B0:=ρb w (.cells (txV a f b j t) 53);have⟨W,hW⟩:=η0 (w.alloc (.cells (txV a f b j t) 53));have⟨g,hg⟩:=ηs w;rw[hW]at B0;rw[hW,hg]at b0;have ad:g<W.heap.size:=b0.lt;have hT:=h.below B0
 have Y:∀X,Below W W X->X.cell? ⟨g,0,none⟩=some (.slice a t.ins.length f)/\X.cell? ⟨g,1,none⟩=some (.slice b t.outs.length j)/\X.cell? ⟨g,2,none⟩=some (.int .u64 t.fee)/\X.cell? ⟨g,3,none⟩=some (.int .i64 t.exp):=λX hX=>
  ⟨(hX.cell (p:=⟨g,0,none⟩) ad).trans (b0.cell 0),(hX.cell (p:=⟨g,1,none⟩) ad).trans (b0.cell 1),(hX.cell (p:=⟨g,2,none⟩) ad).trans (b0.cell 2),(hX.cell (p:=⟨g,3,none⟩) ad).trans (b0.cell 3)⟩
 obtain⟨q0,q1,q2,q3⟩:=Y W (Qf _ _);have K:=b6S a f b j t W hT m d
 have aA:∀x∈t.ins.map (·.am),0<=x/\x<=18446744073709551615:=λx hx=>by
  obtain⟨i,hi,rfl⟩:=Qs.1 hx;exact(h.bd.ins i hi).am
 have aE:∀x∈t.outs.map (·.am),0<=x/\x<=18446744073709551615:=λx hx=>by
  obtain⟨i,hi,rfl⟩:=Qs.1 hx;exact(h.bd.outs i hi).am
 have aD:∀x∈t.outs.map (·.am)++[t.fee],0<=x/\x<=18446744073709551615:=λx hx=>by
  rcases Qq.1 hx with h' | h'
  ·exact aE x h'
  simp only[Qn]at h';subst h';exact h.bd.fee
 have af:(t.ins.map (·.am)).length<=1000000:=ρw m;have ae:(t.outs.map (·.am)).length<=1000000:=ρw d
 generalize hR:a1a t=R
 unfold a1a b8L c7X at hR;have⟨ag,ab,HW,HG,r,I,HT,aU⟩:=η8 af ae hW hg B0 Y hT K;have⟨HL,bc,aH,aM,HR⟩:=η5 m d aA aD hR;clear hW hg B0 b0 h Y hT K m d aA aE aD hR af ae;go_enter func136,ntmps136;unfold txV at HW⊢;go_upto_region 1 with fail
 rw[HW.o,HG.o];have K:=aU.o;unfold txV at K;go_wp2_with fail;refine μ1 K ?_;rintro e w1 ⟨v,u,rfl,hv,hu,Z⟩;obtain⟨a6,a4,ba,a9⟩:=I.o w1 Z;have G:=b8I a f b j t w1 (HT.o.below Z) (ρh HL.o);unfold txV at G;have⟨HV,HU,aP⟩:=η3 hv hu Z;clear hv hu Z K
 by_cases h1:b1z t=true
 ·have o:=HR.o
  rw[if_pos h1]at o;subst o;rw[h1]at G;go_wp2_with fail;refine μi G ?_;intro w2 E;have ac:=η1 (φt aP E);clear E G;go_wp2;go_ret;exact⟨rfl,r.o.trans (ac.o.mono r.o.size)⟩
 have a0:b1z t=false:=ρw h1;have o:=HR.o;rw[if_neg h1]at o;rw[a0]at G;go_wp2_with fail;refine μi G ?_;intro w2 E;have H:=φt aP E;obtain⟨a3,bk,a5,a7⟩:=I.o w2 H;have aJ:b4V W w2 v (t.ins.map (·.am)):=HV.o.keep E;have ay:b4V W w2 u (t.outs.map (·.am)):=HU.o.keep E;have F:=b6t a f b j t w2 (HT.o.below H) HL.o;unfold txV at F;have⟨ac,aN,aG⟩:=η3 H aJ ay;clear E H aJ ay G HV HU
 by_cases h2:a8D t.ins=true
 ·rw[if_pos h2]at o
  subst o;rw[h2]at F;go_wp2_with fail;refine μi F ?_;intro w3 D;have P:=η1 (φt ac D);clear D F;go_wp2;go_ret;exact⟨rfl,r.o.trans (P.o.mono r.o.size)⟩
 have aT:a8D t.ins=false:=ρw h2;rw[if_neg h2]at o;rw[aT]at F;have O:=η1 o;clear o HR;go_wp2_with fail;refine μi F ?_;intro w3 D;have S:=φt ac D;obtain⟨bh,be,bf,a8⟩:=I.o w3 S;have aO:b4V W w3 v (t.ins.map (·.am)):=aN.o.keep D;have an:b4V W w3 u (t.outs.map (·.am)):=aG.o.keep D;have⟨P,al⟩:=η2 S an;obtain⟨Av,cv,aZ,ah,_⟩:=aO.rd;obtain⟨Au,cu,aV,aQ,_⟩:=an.rd;subst aZ;subst aV;have B:=c6m Av cv (t.ins.map (·.am)) 0 w3 ah (ρh ag.o);have N:=c6m Au cu (t.outs.map (·.am)) 0 w3 aQ (ρh ab.o);have V:=b7P Av cv (t.ins.map (·.am)) w3 (U64.of ah aH.o) (ρh ag.o);clear D S aO an F aN aG ah aQ;have⟨li,aq⟩:=η0 (t.ins.map (·.am));have⟨lo,aj⟩:=η0 (t.outs.map (·.am));rw[aq]at B V O ag aH;rw[aj]at N O ab aM al;rw[aq,aj];clear aq aj
 by_cases h3:li.contains 0=true
 ·have o:=O.o
  rw[if_pos (by rw[h3];rfl)]at o;subst o;rw[h3]at B;clear h3;go_wp2_with fail;refine μf B ?_;go_wp2;go_ret;exact⟨rfl,r.o.trans (P.o.mono r.o.size)⟩
 have J:li.contains 0=false:=ρw h3
 by_cases h4:lo.contains 0=true
 ·have o:=O.o
  rw[if_pos (by rw[J,h4];rfl)]at o;subst o;rw[J]at B;rw[h4]at N;clear h3 h4 J;go_wp2_with fail;refine μf B ?_;go_wp2_with fail;refine μf N ?_;go_wp2;go_ret;exact⟨rfl,r.o.trans (P.o.mono r.o.size)⟩
 have ao:lo.contains 0=false:=ρw h4;have o:=O.o;rw[if_neg (by rw[J,ao];simp)]at o;rw[J]at B;rw[ao]at N;clear h3 h4 J ao O;go_wp2_with fail;refine μf B ?_;go_wp2_with fail;refine μf N ?_;clear B N;have au:=b5c li 0;have⟨P1,aK⟩:=η0 (b3O 0 li);rw[aK]at V o au;obtain⟨a1,e1⟩:=P1;simp only at V o au;clear aK;have⟨aL,ax⟩:=η2 o V;clear o V
 rcases au with rfl | rfl
 ·have o:=aL.o
  rw[if_neg ρo]at o;have aa:=η1 o;clear o;go_wp2_with fail;refine μi ax.o ?_;intro w5 Q;have y:=φt P Q;obtain⟨bb,bg,bi,bj⟩:=I.o w5 y;have ar:=al.o.keep Q;obtain⟨v',w6,aW,aF,aB,_⟩:=a9V (ty:=141) c8c c7u ρo ar t.fee (ρh ab.o) y.size;have aI:=y.trans ((ar.step aB y.size).mono (Qg _));obtain⟨A7,c7,aX,aC,_⟩:=aF.rd;subst aX;have T:=b7P A7 c7 (lo++[t.fee]) w6 (U64.of aC aM.o) (by have:=ab.o;simp;omega);have⟨k7,az⟩:=η0 ((lo++[t.fee]).length);rw[az]at T aW;have av:=b5c (lo++[t.fee]) 0;have⟨P2,aS⟩:=η0 (b3O 0 (lo++[t.fee]));rw[aS]at T av aa;obtain⟨a2,e2⟩:=P2;simp only at T aa av;have⟨ak,ai⟩:=η2 aI T;clear Q y ar aF aB aI aC T az aS al
  rcases av with rfl | rfl
  ·have o:=aa.o
   rw[if_neg ρo]at o
   by_cases aR:a1=a2
   ·subst aR
    rw[if_neg ρp]at o;subst o;go_wp2_with fail;refine μi ai.o ?_;intro w7 z;have U:=η1 (φt ak z);clear z;go_wp2;go_ret;exact⟨rfl,r.o.trans (U.o.mono r.o.size)⟩
   rw[if_pos aR]at o;subst o;go_wp2_with fail;refine μi ai.o ?_;intro w7 z;have U:=η1 (φt ak z);clear z;go_wp2;go_ret;exact⟨rfl,r.o.trans (U.o.mono r.o.size)⟩
  have o:=aa.o;rw[if_pos ρo]at o;subst o;go_wp2_with fail;refine μi ai.o ?_;intro w7 z;have U:=η1 (φt ak z);clear z;go_wp2;go_ret;exact⟨rfl,r.o.trans (U.o.mono r.o.size)⟩
 have o:=aL.o;rw[if_pos ρo]at o;subst o;go_wp2_with fail;refine μi ax.o ?_;intro w5 Q;have aY:=η1 (φt P Q);clear Q;go_wp2;go_ret;exact⟨rfl,r.o.trans (aY.o.mono r.o.size)⟩
end
section
attribute [local go_sem ↓] b3z a3w
theorem a5S(B p:Nat)(v:VL)(l:LI)(d:LI)(hd:d.length=32)(a:∀x∈d,0<=x/\x<=255)(w:WD)(h:a3Z B w p v l)(f:l.length<=500000000)(b:B<=w.heap.size):
  Calls prog 107 #[.pointer p,.agg (bys d).toArray] w λe w'=>e=.returned (.tuple #[])/\(∃v',a3Z B w' p v' (l++d)/\a7W w v v')/\Fr (λk=>k=p\/v.ownBlock=some k) w w':=by
 have b0:=Qd w 31 (bys d).toArray;have Z:Fr (λk=>k=p\/v.ownBlock=some k) w (w.alloc (.cells (bys d).toArray 31)):=(Qp _ w).alloc _;have R:=h.st.alloc (.cells (bys d).toArray 31);have V:a0N B (w.alloc (.cells (bys d).toArray 31)) v l:=World.ownsRow.alloc h.own _;have⟨W,hW⟩:=η0 (w.alloc (.cells (bys d).toArray 31));have⟨g,hg⟩:=ηs w;rw[hW]at Z R V;rw[hW,hg]at b0;have T:=(b0.drew).byt a;have ae:∀X,(SLs 31 (.pointer g) none none none).run prog X=.ok (.slice g 32 32) X:=λX=>Pi uId ρk X g ρo
 have oD:a0N B W.drew v l:=V;obtain⟨v2,w2,y,o,z,r⟩:=c3v (ty:=22) (c:=32) oD T ρo (Qk b Z.size) ρp;rw[hd]at y;obtain⟨N,S,I⟩:=V.form;obtain⟨A2,c2,rfl⟩:=o.form;have E:=a2D V R ρd;have m:=(R.drew).fr z (λe=>E e);have⟨O,U⟩:=η0 l.length;have⟨N2,Y⟩:=η0 ((l++d).length);rw[U]at I;subst I;rw[Y]at y o;have k1:W.cell? ⟨p,0,none⟩=some (.slice N O S):=R.cell 0;have k2:w2.cell? ⟨p,0,none⟩=some (.slice N O S):=m.cell 0;have f2:=m.frozen 0;have⟨O2,F0,J,ab,S2,H,HW,HG⟩:=η8 o Z z r m h hW hg;clear b0 Z R V oD hW hg T o z r m E U Y h;go_enter func107,ntmps107;go_upto_region 1 with fail
 rw[HW.o,HG.o];have⟨wd,D⟩:=η0 W.drew;refine b4g [3,3,3,3,0,3,2,3,3,2] (λW'=>W'=wd) ρk ρk ρk ρk D ?_;have ad:wd.cell? ⟨p,0,none⟩=some (.slice N O S):=by rw[<-D];exact k1
 rw[D]at y⊢;refine εj2 ?_;refine εj2 ?_
 iterate 1 (with_reducible refine a1g (v:=?_) (a':=?_) ρu (λW' hS=>?_) ?_ ?_;rotate_left 2;(focus(subst hS;exact ρs));focus(exact ρs))
 refine εj1 ?_;with_reducible refine a3d ρu (λK Q=>?_)
 go_simp;with_reducible refine Q _ _ ?_;clear Q K
 refine εj2 ?_;with_reducible refine a3d ρu (λK Q=>?_)
 go_simp;with_reducible refine Q _ _ ?_;clear Q K
 with_reducible refine a6C ?_
 rw[noPan_normal];go_wp2;go_end0;have ac:=a2D O2.o S2.o ρd;have aa:Fr (λk=>(Value.slice N O S).ownBlock=some k) W w2:=⟨J.os,J.tape,J.output,J.size,J.block⟩;refine⟨rfl,⟨.slice A2 N2 c2,⟨by simpa using S2.set_ 0 (.slice A2 N2 c2),H.b1,?_⟩,?_⟩,?_⟩
 ·exact O2.fr (F:=λj=>j=p) ((Qp (λj=>j=p) w2).setCell (p:=⟨p,0,none⟩) (λ_=>rfl) (.slice A2 N2 c2)) (λj hj e=>ac (e ▸ hj))
 ·intro j hj
  rcases ab.o j ((b0K A2 _ _ _ _).trans hj)with h | h
  ·exact .inl h
  exact .inr (Qk F0.size h)
 refine(F0.trans (aa.mono (G:=λj=>j=p\/(Value.slice N O S).ownBlock=some j) (λj _ h=>.inr h)) (λj hj h=>h)).setCell (p:=⟨p,0,none⟩) (λ_=>.inl rfl) _
end
section
def EQs(t:TI)(x y:VL):Sem VL:=binOp .eql t x y
theorem c8z(x y:VL):binOp .eql 189 x y=EQs 189 x y:=rfl
attribute [local go_sem ↓] a1F b6y c8z
theorem c3t{i:InD}(h:i.Bd)(A:OA)(c:Nat):(inV i A c)[33]? =some (.int .u64 i.am):=by
 simp[inV,ptL,a0a,h.len]
end
section
attribute [local go_sem ↓] b6Y
theorem a0k{fn:Func}{p q:Tmp}{ty:TI}(h:fn.results=#[.cell p ty,.tmp q])(tmps:AV)(w:WD)(g:Nat)(t:TI)(cs:AV)(fr:Nat×Nat){d:TypeDesc}
  (hg:w.heap[g]? =some (.cells cs t fr)) (hu:P.underlying ty=some d) (hd:a1f d=true) (hi:(P.info? ty).map (·.size)=some cs.size)
  (hp:tmps.getD p undef=.pointer g) {v:VL} (hq:tmps.getD q undef=v:=by rfl):
  (results fn tmps).run P w=.ok (.tuple #[.agg cs,v]) w:=by
 have b:tmps[p]?.getD undef=.pointer g:=ρw hp;have a:tmps[q]?.getD undef=v:=ρw hq;simp[results,h,b,a,asAddr,run_loadVar_row w g t ty cs fr d hg hu (by cases d<;>simp_all [a1f]) hi]
def a0S(w:WD)(p s:Nat)(l:LI):Prop:=∃A c,b8R w p A c l/\∀a,A=some a->a.block=s
theorem a0S.fr{w b:WD}{p s:Nat}{l:LI}{F:Nat->Prop}(h:a0S w p s l)(d:Fr F w b)(f:¬F p)(g:¬F s):a0S b p s l:=by
 obtain⟨A,c,j,m⟩:=h;exact⟨A,c,⟨j.st.fr d f,j.by_.fr d (λa e _=>by rw[m a e];exact g),j.ne,j.cap⟩,m⟩
theorem a0S.far{t:TI}(h:a0S w p s l)(a:Blk w g t cs)(ht:218≠t):p≠g:=by
 obtain⟨A,c,b,_⟩:=h;exact b.st.ne_ a ht
theorem a7u(p s:Nat)(l:LI)(n:Nat)(d:n<=l.length)(f:l.length<=1000000000)(w:WD)(h:a0S w p s l):
  Calls prog 115 #[.pointer p,.int .i64 n] w λe w'=>
   (∃A',e=.returned (.slice A' n n)/\Byt w' A' (l.take n))/\a0S w' p s (l.drop n)/\Fr (λk=>k=p) w w':=by
 obtain⟨A,c,h,O⟩:=h;have R:w.cell? ⟨p,0,none⟩=some (.slice A l.length c):=h.st.cell 0;have X:=h.st.frozen 0;obtain⟨K,v,m,D,_⟩:=c7j h.by_ c 0 n n none (some (.int .i64 n)) (some (.int .i64 n)) (Zu _) d (Qg _) (Qk d h.cap) (.inl ⟨rfl,rfl⟩) (.inr ⟨_,rfl,rfl⟩) (.inr ⟨⟨_,rfl,rfl⟩,by simp⟩);obtain⟨B,F,r,y,z⟩:=c7j h.by_ c n l.length c (some (.int .i64 n)) none none d (Qg _) h.cap (Qg _) (.inr ⟨_,rfl,rfl⟩) (.inl ⟨rfl,rfl⟩) (.inl ⟨rfl,rfl⟩);simp only[Nat.sub_zero,Zs]at v m;rw[Qb ρp]at r;have⟨N,J⟩:=η0 l.length;rw[J]at R v F;have V:(n:Int)<=(N:Int):=ρo;have⟨H,x,Q,P,T,I,W,U⟩:=η8 h J m r D y z O;clear h J m r D y z O;go_enter func115,ntmps115;go_wp2;go_ret;have hF:Fr (λk=>k=p) w (w.setCell ⟨p,0,none⟩ (.slice B (N-n) (c-n))):=(Qp (λk=>k=p) w).setCell (p:=⟨p,0,none⟩) (λ_=>rfl) _
 have j:∀A':OA,(∀a,A'=some a->∃b,A=some b/\a.block=b.block)->0<N->∀a,A'=some a->a.block≠p:=λA' S o a g=>by
  obtain⟨b,G,E⟩:=S a g;rw[E];exact H.ne b G (ρy x.o o)
 refine⟨⟨K,rfl,Q.fr hF (λa g o=>j K T.o (by have:=x.o;simp at o;omega) a g)⟩,⟨B,c-n,⟨?_,P.fr hF (λa g o=>j B I.o (by have:=x.o;simp at o;omega) a g),λa g o=>j B I.o (by have:=x.o;simp at o;omega) a g,?_⟩,λa g=>?_⟩,hF⟩
 ·have:=H.st.set_ 0 (.slice B (N-n) (c-n))
  rw[Yp,x.o]
  simpa using this
 ·have:=H.cap
  rw[Yp];omega
 obtain⟨b,G,E⟩:=I.o a g;rw[E];exact U.o b G
theorem b2R(p s:Nat)(l:LI)(most val:Nat)(b:LI)(_hm:most<=18446744073709551615)(f:l.length<=1000000000)(w:WD)(h:a0S w p s l)(d:a2J most l=some (val,b)):
  Calls prog 60 #[.pointer p,.int .u64 most] w λe w'=>e=.returned (.int .u64 val)/\a0S w' p s b/\Fr (λk=>k=p) w w':=by
 cases l with
 | nil=>simp[a2J]at d
 |
  cons k g=>
  have E:∀x∈k::g,0<=x/\x<=255:=by
   obtain⟨A,c,he,_⟩:=h;exact he.by_.bd
  have hk:=E k ρp;obtain⟨K,rfl⟩:∃K:Nat,k=K:=⟨k.toNat,by omega⟩;have ag:K<=255:=ρo;simp only[a2J,Zd]at d
  split at d
  ·cases d
  rename_i hno
  simp only[Option.some.injEq,Prod.mk.injEq]at d;obtain⟨j,m⟩:=d;have ah:(K:Int)<=8:=ρo;have U:K<=g.length:=ρo;have ab:g.length<=1000000000:=by simp at f;omega
  have⟨HV,D,J,H,Z⟩:=η5 j m hno h E;clear j m hno h E hk;go_enter func60,ntmps60;go_wp2_with fail;have F:=a7u p s ((K:Int)::g) 1 ρp f w H.o;rw[show((1:Nat):Int)=1 from rfl]at F;refine μ1 F ?_;rintro e w1 ⟨⟨A1,rfl,y1⟩,h2,f1⟩;obtain⟨g1,o1,rfl,_,V⟩:=y1.at_ (i:=0) ρp;have ac:w1.cell? ⟨g1,o1,none⟩=some (.int .u8 K):=ρw V;have P:a0S w1 p s g:=ρw h2;have R:=a7u p s g K U ab w1 P;have F1:=η1 f1;clear f1 y1 h2 V P F;go_wp2_with fail;refine μ1 R ?_;rintro e w2 ⟨⟨A3,rfl,y3⟩,h4,f2⟩;have N:(g.take K).length=K:=by rw[Qx];omega
  have⟨F2,Y3,H4,S⟩:=η4 (F1.trans f2 (λ_ _ h=>h)) y3 h4 N;clear y3 h4 N f2 R;go_wp2_with fail
  go_loopw [6,22] (λv t wr=>∃i:Nat,i<=K/\t=.int .i64 i/\v=.int .u64 (a9g ((g.take K).take i):Nat)/\wr=w2)
   (λ_ t _=>K-(intOf t).toNat)
  exact⟨0,Zu _,rfl,rfl,rfl⟩;obtain⟨i,hi,rfl,rfl,hw⟩:=hrel;subst hw;have G:=b2X ((g.take K).take i) (λx W=>Z.o x (Qj _ (QM (QM W))));rw[Qx,S.o,QY hi]at G;have T:a9g ((g.take K).take i)<256 ^ i:=G;have I:=η1 T;clear T G
  by_cases aa:i<K
  ·have y:i<(g.take K).length:=by rw[S.o];exact aa
   obtain⟨g3,o3,rfl,_,O⟩:=Y3.at_ y;have Q:=Y3.bd (g.take K)[i] (Qu _);have e1:(g.take K).take (i+1)=(g.take K).take i++[(g.take K)[i]]:=Qe y
   have Y:i=0->g.headD 1=(g.take K)[i]:=λe=>by
    subst e
    cases g with
    | nil=>simp at y
    | cons a r=>simp
   have⟨x,W⟩:=η0 ((g.take K)[i]);rw[W]at O Q e1 Y;obtain⟨X,rfl⟩:∃X:Nat,x=X:=⟨x.toNat,by omega⟩
   generalize hv:a9g ((g.take K).take i)=v at I⊢
   have h7:i<=7:=ρo
   have ae:v<72057594037927936:=Qh I.o (by
    have:=Nat.pow_le_pow_right (n:=256) ρo h7
    simpa using this)
   have ak:X<=255:=ρo
   have ad:bits .or .u64 ((v:Int)*256) (X:Int)=((v*256+X:Nat):Int):=by
    have e:=c1d v X ρo ρo
    rwa [Int.natCast_mul]at e
   have j:a9g ((g.take K).take (i+1))=v*256+X:=by rw[e1,a8E,hv,Zd]
   have z:=J.o
   have o:i=0->X≠0:=λe e'=>by
    have e3:=Y e;rw[e']at e3;exact z (.inr (.inr (.inl ⟨by omega,e3⟩)))
   have⟨B,al⟩:=η2 j Y;clear j Y W Q y hv e1 z
   by_cases h0:i=0
   ·subst h0
    have aj:((X:Int) == 0)=false:=by have:=o rfl;simp;omega
    simp only[ZH]at O;clear o;go_wp2;go_roundw
    case rel=>exact⟨1,by omega,by go_num,by rw[B.o];go_num,by first | rfl | trivial⟩
    case measure=>simp[intOf];omega
   have ai:((i:Int) == 0)=false:=by simp;omega
   clear o;go_wp2;go_roundw
   case rel=>exact⟨i+1,by omega,by go_num,by rw[B.o];go_num,by first | rfl | trivial⟩
   case measure=>simp[intOf];omega
  obtain rfl:i=K:=ρo;have ht:(g.take i).take i=g.take i:=by rw[List.take_take,Nat.min_self]
  rw[ht,HV.o]at I;rw[ht,HV.o]
  have af:(val:Int)<=(most:Int):=by
   have:=J.o
   rw[HV.o]at this;omega
  clear ht;go_wp2;go_ret;refine⟨rfl,?_,F2.o⟩;rw[<-D.o];exact H4
theorem c3o(p s:Nat)(l:LI)(most:Nat)(x r:LI)(b:most<=400000000)(d:l.length<=400000000)(w:WD)(h:a0S w p s l)(a:a8o most l=some (x,r)):
  Calls prog 61 #[.pointer p,.int .i64 most] w λe w'=>(∃v,e=.returned v/\a0N w w' v x)/\a0S w' p s r/\Fr (λk=>k=p) w w':=by
 have V:(0:Int)<=(most:Int):=ρo;unfold a8o at a
 cases hN:a2J most l with
 | none=>rw[hN]at a;cases a
 |
  some Z=>
  obtain⟨v,q⟩:=Z;obtain⟨hv,aa⟩:=a3y hN;rw[hN]at a;simp only at a
  split at a
  ·cases a
  rename_i hfew
  simp only[Option.some.injEq,Prod.mk.injEq]at a;obtain⟨rfl,rfl⟩:=a;have j:=b2R p s l most v q ρo ρo w h hN;clear h hN;go_enter func61,ntmps61;go_wp2_with fail;refine μ1 j ?_;rintro e T ⟨rfl,I,N⟩;have ht:=a7u p s q v ρo ρo T I;have Y:=η1 N;clear N I j;go_wp2_with fail;refine μ1 ht ?_;rintro e w2 ⟨⟨S,rfl,E⟩,P,R⟩;have y:(q.take v).length=v:=by rw[Qx];omega
  have z:S=none->v=0:=by
   rintro rfl
   rcases Zq v with J | J
   ·exact J
   obtain⟨g,o,e,_⟩:=E.cell ρo
   cases e
  have f:=a8r S v z (q.take v) w2 E ρo;rw[y]at f;have⟨H,U,B⟩:=η3 f P (Y.trans R (λ_ _ h=>h));clear f P ht E y z R;have m:=B.size;have G:=η1 m;clear m;go_wp2_with fail;refine μ1 H.o ?_;rintro e w3 ⟨u,rfl,Q,K⟩;have⟨X,O⟩:=η2 Q K;clear Q K;go_wp2;go_ret;obtain⟨W,c4,D,F⟩:=U.o;exact⟨⟨u,rfl,X.base G.o⟩,⟨W,c4,D.below O.o,F⟩,B.trans (Q9 O.o) (λk hk h=>by have:=B.size;omega)⟩
theorem c5x{P:PG}{t:TI}{n:Nat}(hi:(P.info? t).map (·.size)=some n)(a:(((P.info? t).bind (·.zero)).map (·.cells.size))=some n):
  ∃
   Z:AV,(∀W:WD,(ALs t).run P W=.ok (.pointer (some ⟨W.heap.size,0,none⟩)) (W.alloc (.cells Z t)))/\
   (∀(W:WD) (xs:LV),xs.length=n->(∀v∈xs,v.oneCell'=true)->(STs t (.pointer (some ⟨W.heap.size,0,none⟩)) (.agg xs.toArray)).run P (W.alloc (.cells Z t))=.ok () (W.alloc (.cells xs.toArray t)))/\Z.size=n:=by
 obtain⟨z,b,d⟩:=Q8.1 a;exact⟨z.cells,λW=>a0U z b W,λW xs f b=>a7S hi W _ d xs f b,d⟩
abbrev Pk:=@c5x prog
theorem d0T:(((prog.info? 31).bind (·.zero)).map (·.cells.size))=some 32:=ρk
theorem d2k:(prog.underlying 31).map a1f=some true:=ρk
attribute [local go_sem ↓] a2t a2s a2n
theorem c9g(p s:Nat)(l:LI)(a:32<=l.length)(b:l.length<=1000000000)(w:WD)(h:a0S w p s l)(d:p<w.heap.size)(f:s<w.heap.size):
  Calls prog 117 #[.pointer p] w λe w'=>e=.returned (.agg (bys (l.take 32)).toArray)/\a0S w' p s (l.drop 32)/\Fr (λk=>k=p) w w':=by
 obtain⟨Z,E,_,hZ⟩:=Pk (t:=31) a5m d0T;have y:=E w;have G:=Qd w 31 Z;have H:=ρb w (.cells Z 31);have⟨W,F⟩:=η0 (w.alloc (.cells Z 31));have⟨g,K⟩:=ηs w;rw[F]at H;rw[F,K]at G y;have J:=h.fr (Q9 H) (show¬_<=_ by omega) (show¬_<=_ by omega);have B:=J.far G ρd;have ht:=a7u p s l 32 a b W J;rw[show((32:Nat):Int)=32 from rfl]at ht;have r:(l.take 32).length=32:=by rw[Qx];omega
 have f0:Fr (λk=>k=p) w W:=(Q9 H).mono (λk hk h=>ρo)
 generalize hT:l.take 32=T at ht r⊢
 have⟨HW,HG,I,D,Q,HZ⟩:=η6 F K G B f0 hZ;clear F K G B f0 hZ hT h J H E;go_enter func117,ntmps117;go_upto_region 1 with fail
 clear y;go_wp2_with fail;refine μ1 ht ?_;rintro e V ⟨⟨A1,rfl,Y⟩,X,O⟩;obtain⟨g1,o,rfl,aa,hc⟩:=Y.cell ρo;have ab:=b5M (P:=prog) (t:=31) b1w (some ⟨g1,o,none⟩) 32 32 (Qg _);have m:(bys T).length=32:=by rw[a0a];exact r
 have ac:=Pf d2k a5m V g1 o (bys T) m (λj v hv=>by
  rw[a3J]at hv;obtain⟨x,hx,rfl⟩:=Q8.1 hv;exact hc j x hx)
 have z:=I.fr O (λe=>D.o e.symm);have N:=Pa (t:=31) a5m z (off:=0) (bys T) m (by rw[HZ.o];omega) (a0h _);rw[a0q _ _ (by rw[m,HZ.o])]at N;have S:=ρr (g) V (bys T).toArray;have h3:=X.fr S (show¬_=_ from D.o) (show¬_=_ by have:=HG.o;omega);have f3:=(Q.trans O (λ_ _ h=>h)).trans S (λk hk e=>by have:=HG.o;omega);have⟨H3,F3,U,R⟩:=η4 h3 f3 z m;clear h3 f3 z m X O Y hc r ht S;go_wp2;refine bodyPost_ret (a0c rfl _ _ g 31 (bys T) _ rfl (U.row_ _) b1w rfl (ρy R.o a5m)) rfl ?_;exact⟨rfl,H3.o,F3.o⟩
end
section
abbrev a1B:=ldOf 31
theorem a2i:(prog.underlying 31).map a1f=some true:=ρk
theorem iId:(prog.info? 31).map (·.size)=some 32:=ρk
attribute [local go_sem ↓] a6W a8U a9c a9R b0o b0b a1B
theorem a8p{d:Nat}{g:WD}{j:VL}{t:TI}(b:d≠p)(a:v.ownBlock≠some d)(m:Blk w d t cs)(f:a7W w v j)(o:Fr (λk=>k=p\/v.ownBlock=some k) w g):
  Blk g d t cs/\j.ownBlock≠some d:=by
 refine⟨m.fr o (λh=>h.elim b a),λe=>?_⟩
 rcases f d e with h | h
 ·exact a h
 have:=m.lt
 omega
theorem a1j(h:a3Z B w p v l)(b:Fr (λk=>k=p\/v.ownBlock=some k) w a)(d:B<=w.heap.size):Below B w a:=
 b.below d (λk hk e=>by
  rcases e with e | e
  ·have:=h.b1;omega
  have:=(h.own.lt e).1;omega)
theorem c9E{i:InD}(h:i.Bd)(A:OA)(c:Nat):((inV i A c).toArray.toList.drop 0).take 32=bys i.tx:=by
 simp only[Zs];unfold inV ptL;rw[QC,QJ (by rw[a0a,h.len];omega),Qb (by rw[a0a,h.len];omega)]
theorem b3l{o:a1q}(h:o.Bd):((a1s o).toArray.toList.drop 0).take 32=bys o.ow:=by
 simp only[Zs];unfold a1s;rw[QJ (by rw[a0a,h.len];omega),Qb (by rw[a0a,h.len];omega)]
theorem c9t{i:InD}(h:i.Bd)(A:OA)(c:Nat):(inV i A c).toArray[32]? =some (.int .i64 i.ix):=by
 simp[inV,ptL,a0a,h.len]
theorem b7W{i:InD}(h:i.Bd)(A:OA)(c:Nat):(inV i A c).toArray[34]? =some (.slice A i.sec.length c):=by
 simp[inV,ptL,a0a,h.len]
theorem a1C(h:0<=x):∃n:Nat,x=(n:Int):=⟨x.toNat,by omega⟩
theorem b9Z(j:OA)(b:Nat)(m:OA)(f:Nat)(t:TxD)(w:WD)(h:a9H w j m t)(r:t.ins.length<=1000000)(o:t.outs.length<=1000000):
  Calls prog 220 #[.agg (txV j b m f t)] w λe w'=>∃v,e=.returned (.tuple #[v,.int .i64 (a1a t)])/\a0N w w' v (b3c t)/\Below w w w':=by
 have b0:=Qd w 53 (txV j b m f t);have B0:=ρb w (.cells (txV j b m f t) 53);have⟨W,hW⟩:=η0 (w.alloc (.cells (txV j b m f t) 53));have⟨g,hg⟩:=ηs w;rw[hW]at B0;rw[hW,hg]at b0;have aY:g<W.heap.size:=b0.lt;have hT:=h.below B0
 have a9:∀X,Below W W X->X.cell? ⟨g,0,none⟩=some (.slice j t.ins.length b)/\X.cell? ⟨g,1,none⟩=some (.slice m t.outs.length f)/\X.cell? ⟨g,2,none⟩=some (.int .u64 t.fee)/\X.cell? ⟨g,3,none⟩=some (.int .i64 t.exp):=λX hX=>
  ⟨(hX.cell (p:=⟨g,0,none⟩) aY).trans (b0.cell 0),(hX.cell (p:=⟨g,1,none⟩) aY).trans (b0.cell 1),(hX.cell (p:=⟨g,2,none⟩) aY).trans (b0.cell 2),(hX.cell (p:=⟨g,3,none⟩) aY).trans (b0.cell 3)⟩
 have bi:=a3L j b m f t W hT r o
 generalize hR:a1a t=R at bi⊢
 have⟨HW,HG,b8,G,HT,aE,HR⟩:=η7 hW hg B0 a9 hT bi hR;clear hW hg B0 b0 a9 hT bi hR r o aY
 by_cases ck:R=0
 ·subst ck
  have ay:b3c t=a9w t:=by unfold b3c;rw[if_pos HR.o]
  rw[ay];obtain⟨aa,_⟩:=a4S HR;obtain⟨⟨bT,bN⟩,⟨cd,b7⟩,⟨bR,cR⟩,V⟩:=a4R aa;obtain⟨aH,aq,ah⟩:=HT.o;obtain⟨ins,outs,fee,exp⟩:=t;simp only at bT bN cd b7 bR cR V aH aq ah;have bs:=b2t ah aa;have bE:=b4h ah aa;have bf:=ah.ins;have bm:=ah.outs;have bU:=ah.fee;simp only at bf bm bU;obtain⟨nf,rfl⟩:=a1C bU.1;obtain⟨ne,rfl⟩:=a1C bR;have⟨N,aB⟩:=η0 ins.length;have⟨O,a0⟩:=η0 outs.length
  have aC:a9w ⟨ins,outs,(nf:Int),(ne:Int)⟩=a0K N++ins.flatMap inF++a0K O++outs.flatMap b3j++a0K nf++a0K ne:=by
   unfold a9w;simp only[aB,a0,Zd]
  rw[aC]at bs bE⊢;rw[aB]at bT bN;rw[a0]at cd b7;have c6:IntKind.u64.wrap (N:Int)=N:=by rw[IntKind.wrap_u64];omega
  have c9:IntKind.u64.wrap (O:Int)=O:=by rw[IntKind.wrap_u64];omega
  have c8:IntKind.u64.wrap (ne:Int)=ne:=by rw[IntKind.wrap_u64];omega
  obtain⟨Z,cy,bX⟩:=Pg (t:=191) iIn zIn;obtain⟨Y,cJ,b4⟩:=Pg (t:=56) c6h d1w;unfold txV at HW aE⊢;simp only[aB,a0]at HW G aE⊢;have⟨bq,bl,HI,HO,bu,bn,cD,bD⟩:=η8 aB a0 aH aq bf bm bs bE;have⟨ax,cS,cE⟩:=η3 V bX b4;clear aB a0 aH aq bf bm bs bE V bX b4 ay aa h ah HT aC;obtain⟨q0,q1,q2,q3⟩:=G.o W (Qf _ _);go_enter func220,ntmps220;go_upto_region 1 with fail
  rw[HW.o,HG.o];go_wp2_with fail;refine μi aE.o ?_;intro w1 aA;have a2:=η1 aA;clear aA q0 q1 q2 q3;have aZ:a3Z w1 (w1.alloc (.cells #[.slice none 0 0] 123)) w1.heap.size (.slice none 0 0) []:=⟨Qd w1 _ _,Qg _,a0N.nil _ _⟩;have aJ:=ρb w1 (.cells #[.slice none 0 0] 123);have⟨w2,bc⟩:=η0 (w1.alloc (.cells #[.slice none 0 0] 123));have⟨p,hp⟩:=ηs w1;rw[bc]at aZ aJ;rw[hp]at aZ aJ;have bw:p<=w2.heap.size:=by rw[<-hp];exact aJ.size
  have bb:W.heap.size<=p:=by rw[<-hp];exact a2.size
  have aG:Below W W w2:=a2.trans (aJ.mono bb);obtain⟨q0,q1,q2,q3⟩:=G.o w2 aG;have ba:=a2M p p (.slice none 0 0) [] N ρo w2 aZ ρp bw;have⟨cv,HP,ce,H,cx⟩:=η5 bc hp aG bb aZ;clear bc hp aZ aJ aG bb;go_upto_region 5 with fail
  rw[cv.o,HP.o];go_wp2_with fail;refine μ1 ba ?_;rintro e w3 ⟨rfl,⟨v3,bg,cf⟩,bV⟩;rw[QF]at bg;have bj:=a1j cx bV bw;have aK:=ce.trans (bj.mono (Qk H (Qg _)));obtain⟨q0,q1,q2,q3⟩:=G.o w3 aK;have bO:p<=w3.heap.size:=Qk bw bj.size;have⟨cA,cL⟩:=η2 bg aK;clear bg cf bV bj aK ba;go_upto_region 7 with fail
  have aL:∀i,i<=N->(a0K N++(ins.take i).flatMap inF).length<=2000:=λi hi=>by
   have h1:=b0V inF 123 (ins.take i) (λx hx=>b9S (bu.o x (QM hx)) (ax.o x (QM hx)).1 (ax.o x (QM hx)).2);have h2:=a0p (n:=N) ρo;have h3:(ins.take i).length*123<=16*123:=Zb _ (by rw[Qx];omega);simp only[Qa];omega
  have an:=η1 aL;clear aL q0 q1 q2 q3;go_loopg [7,23] N (λkk _ s wr=>∃(i:Nat) (v:VL),i+kk=N/\s=.int .i64 i/\a3Z p wr p v (a0K N++(ins.take i).flatMap inF)/\Below W W wr/\p<=wr.heap.size);exact⟨0,v3,by omega,rfl,by simpa using cA.o,cL.o,bO⟩;obtain⟨i,v,hi,rfl,y,hB,bA⟩:=hrel
  by_cases cz:i<N
  ·have aX:(i:Int)<N:=ρo
   have ad:i<ins.length:=by rw[bq.o];exact cz
   obtain⟨g',off,As,cs,rfl,bW,au⟩:=HI.o i ad;have aU:=au.below bW hB;have z:=bu.o _ (Qu ad);obtain⟨ci,bS,cc⟩:=ax.o _ (Qu ad);have bC:=a2e uIn iIn wr g' (off+i*35) (inV ins[i] As cs) (a3l z _ _) aU.cell;have a1:=cS.o wr (inV ins[i] As cs) (a3l z _ _) (a8W _ _ _);have b5:=Qd wr 191 (inV ins[i] As cs).toArray;have B5:=hB.alloc hB.size (.cells (inV ins[i] As cs).toArray 191);have E:a3Z p (wr.alloc (.cells (inV ins[i] As cs).toArray 191)) p v (a0K N++(ins.take i).flatMap inF):=⟨y.st.alloc _,y.b1,World.ownsRow.alloc y.own _⟩;have ai:wr.heap.size≠p:=λe=>by have:=y.st.lt;omega
   have aO:v.ownBlock≠some wr.heap.size:=λe=>by have:=(y.own.lt e).2;omega
   have hid:=a0g a2i iId b5 (off:=0) (bys ins[i].tx) (by rw[a0a,z.len]) (c9E z As cs);have B:p<=(wr.alloc (.cells (inV ins[i] As cs).toArray 191)).heap.size:=by simp;omega
   generalize aM:wr.alloc (.cells (inV ins[i] As cs).toArray 191)=W5 at a1 b5 B5 E hid B
   have⟨d,hd⟩:=ηs wr;rw[hd]at b5 ai aO hid
   have aT:(ins.take (i+1)).flatMap inF=(ins.take i).flatMap inF++inF ins[i]:=by
    rw[Qe ad,List.flatMap_append];simp
   obtain⟨nx,br⟩:=a1C bS;obtain⟨na,aj⟩:=a1C z.am.1;have cZ:IntKind.u64.wrap (nx:Int)=nx:=by rw[IntKind.wrap_u64];omega
   have bL:nx<18446744073709551616:=ρo;have ab:na<18446744073709551616:=by have:=z.am;omega
   have a4:=an.o i ρo
   have hF:inF ins[i]=ins[i].tx++(a0K nx++(a0K na++(a0K ins[i].sec.length++ins[i].sec))):=by
    unfold inF;rw[br,aj,Zd,Zd]
   have⟨l0,ae⟩:=η0 (a0K N++(ins.take i).flatMap inF);rw[ae]at E a4;have F:=z.len;have c0:=a0p (n:=nx) ρo;have ca:=a0p (n:=na) ab
   have D:a0K N++(ins.take (i+1)).flatMap inF=l0++ins[i].tx++a0K nx++a0K na++(a0K ins[i].sec.length++ins[i].sec):=by
    rw[aT,<-QC,ae,hF];simp only[QC]
   have ag:=c9t z As cs;have bI:=c6f z As cs;have bx:=b7W z As cs;rw[br]at ag;rw[aj]at bI;have I:=z.tx;have al:=au.sec;have bH:=au.nul;have⟨tx,aD⟩:=η0 (ins[i].tx);have⟨sec,V⟩:=η0 (ins[i].sec);have⟨xs,aV⟩:=η0 ((inV ins[i] As cs).toArray);rw[aV]at bC a1 b5 ag bI bx;rw[aD]at hid F D I;rw[V]at D bx al ci;have⟨sl,bY⟩:=η0 sec.length;have b:=a5S p p v l0 tx F I W5 E ρo B;have⟨cO,HD,aP,aS,aW,bB,cn,bG⟩:=η8 aM hd D E B5 b5 al bY;clear y hB au aU z bS cc aV aD V br aj hF ae aT aM hd D E B5 b5 al I bY;go_upto_region 9 with fail
   rw[HD.o];go_wp2_with fail;refine μ1 b ?_;rintro e w6 ⟨rfl,⟨v6,S,K⟩,T⟩;obtain⟨k6,a8⟩:=a8p ai aO bB K T;have Q:=a1j aS T B;have J:p<=w6.heap.size:=Qk B Q.size;have c2:w6.cell? ⟨d,32,none⟩=some (.int .i64 nx):=(k6.cell 32).trans ag;have⟨bp,cQ,ak⟩:=η3 S k6 (aW.trans (Q.mono (Qk H (Qg _))));have f:=a2M p p v6 (l0++tx) nx bL w6 S (by simp only[Qa];omega) J;clear S K T k6 Q b;go_upto_region 10 with fail
   go_wp2_with fail;refine μ1 f ?_;rintro e w7 ⟨rfl,⟨v7,ao,av⟩,az⟩;obtain⟨k7,bP⟩:=a8p ai a8 cQ av az;have U:=a1j bp az J;have ac:p<=w7.heap.size:=Qk J U.size;have cT:w7.cell? ⟨d,33,none⟩=some (.int .u64 na):=(k7.cell 33).trans bI;have⟨be,cP,aN⟩:=η3 ao k7 (ak.trans (U.mono (Qk H (Qg _))));have c3:=a2M p p v7 (l0++tx++a0K nx) na ab w7 ao (by simp only[Qa];omega) ac;clear ao av az k7 U f;go_wp2_with fail;refine μ1 c3 ?_;rintro e w8 ⟨rfl,⟨v8,a3,a7⟩,bk⟩;obtain⟨k8,cW⟩:=a8p ai bP cP a7 bk;have bF:=a1j be bk ac;have aI:p<=w8.heap.size:=Qk ac bF.size;have c7:w8.cell? ⟨d,34,none⟩=some (.slice As sl cs):=by rw[<-bG.o];exact(k8.cell 34).trans bx
   have⟨cr,b9⟩:=η2 a3 (aN.trans (bF.mono (Qk H (Qg _))))
   have c4:=b7A p p v8 (l0++tx++a0K nx++a0K na) As cs bH sec w8 a3 (cn.below b9.o) (λa ea h0=>by
    obtain⟨ga,oa,eq,c5,_⟩:=cn.cell h0;rw[ea]at eq
    cases eq
    rintro(e | e)
    ·have e':ga=p:=e
     have:=H.o
     omega
    have e':p<=ga:=(a3.own.lt e).1
    have:=H.o
    omega) (by simp only[Qa];omega) (by simp only[Qa];omega) aI
   rw[bG.o]at c4;clear a3 a7 bk k8 bF c3;go_wp2_with fail;refine μ1 c4 ?_;rintro e w9 ⟨rfl,⟨v9,bv,b6⟩,bM⟩;have bJ:=a1j cr bM aI;have bK:p<=w9.heap.size:=Qk aI bJ.size;have D:=aP.o;rw[bG.o]at D;rw[<-D]at bv;have⟨cq,cB⟩:=η2 bv (b9.trans (bJ.mono (Qk H (Qg _))));clear bv b6 bM bJ c4 D;go_wp2;go_roundg (N-(i+1));exact⟨i+1,v9,by omega,by go_num,cq.o,cB.o,bK⟩;omega
  obtain rfl:N=i:=ρo;have aX:¬(N:Int)<N:=ρo;have a4:=an.o N (Qg _);rw[Qb (by rw[bq.o];exact Qg _)]at y a4;have⟨l0,ae⟩:=η0 (a0K N++ins.flatMap inF);have a5:=cD.o;rw[ae]at y a4 a5 bD;have ct:=η1 ae;obtain⟨q0,q1,q2,q3⟩:=G.o wr hB;obtain⟨wo,cN⟩:∃wo,wo=wr:=⟨_,rfl⟩;subst cN;have b:=a2M p p v l0 O ρo wo y ρo bA;have⟨ch,HB⟩:=η2 y hB;clear y hB ae an bq HI bu ax cy;go_wp2_with fail;refine μ1 b ?_;rintro e w4 ⟨rfl,⟨v4,bQ,cg⟩,b3⟩;have bo:=a1j ch b3 bA;have aQ:=HB.trans (bo.mono H);have cj:p<=w4.heap.size:=Qk bA bo.size;obtain⟨cw,cu,cK,cI⟩:=G.o w4 aQ;have⟨cC,cM⟩:=η2 bQ aQ;clear bQ cg b3 bo aQ b q0 q1 q2 q3;have cV:=a0p (n:=O) ρo
  have aL:∀i,i<=O->(l0++a0K O++(outs.take i).flatMap b3j).length<=3000:=λi hi=>by
   have h1:=b0V b3j 41 (outs.take i) (λx hx=>b7X (bn.o x (QM hx)));have h3:(outs.take i).length*41<=16*41:=Zb _ (by rw[Qx];omega);simp only[Qa];omega
  have an:=η1 aL;clear aL;go_upto_region 16 with fail
  clear cw cu cK cI;go_loopg [9,51] O (λkk _ s wr=>∃(i:Nat) (v:VL),i+kk=O/\s=.int .i64 i/\a3Z p wr p v (l0++a0K O++(outs.take i).flatMap b3j)/\Below W W wr/\p<=wr.heap.size);exact⟨0,v4,by omega,rfl,by simpa using cC.o,cM.o,cj⟩;obtain⟨i,v,hi,rfl,y,hB,aF⟩:=hrel
  by_cases cp:i<O
  ·have aX:(i:Int)<O:=ρo
   have ad:i<outs.length:=by rw[bl.o];exact cp
   obtain⟨g',off,rfl,bW,aU⟩:=HO.below hB i ad;have z:=bn.o _ (Qu ad);have bC:=a2e d1I c6h wr g' (off+i*33) (a1s outs[i]) (a0G z) aU;have a1:=cE.o wr (a1s outs[i]) (a0G z) (a1O _);have b5:=Qd wr 56 (a1s outs[i]).toArray;have B5:=hB.alloc hB.size (.cells (a1s outs[i]).toArray 56);have E:a3Z p (wr.alloc (.cells (a1s outs[i]).toArray 56)) p v (l0++a0K O++(outs.take i).flatMap b3j):=⟨y.st.alloc _,y.b1,World.ownsRow.alloc y.own _⟩;have ai:wr.heap.size≠p:=λe=>by have:=y.st.lt;omega
   have aO:v.ownBlock≠some wr.heap.size:=λe=>by have:=(y.own.lt e).2;omega
   have hid:=a0g a2i iId b5 (off:=0) (bys outs[i].ow) (by rw[a0a,z.len]) (b3l z);have B:p<=(wr.alloc (.cells (a1s outs[i]).toArray 56)).heap.size:=by simp;omega
   generalize aM:wr.alloc (.cells (a1s outs[i]).toArray 56)=W5 at a1 b5 B5 E hid B
   have⟨d,hd⟩:=ηs wr;rw[hd]at b5 ai aO hid
   have aT:(outs.take (i+1)).flatMap b3j=(outs.take i).flatMap b3j++b3j outs[i]:=by
    rw[Qe ad,List.flatMap_append];simp
   obtain⟨na,aj⟩:=a1C z.am.1;have ab:na<18446744073709551616:=by have:=z.am;omega
   have ar:=an.o i ρo
   have hF:b3j outs[i]=outs[i].ow++a0K na:=by
    unfold b3j;rw[aj,Zd]
   have⟨l1,af⟩:=η0 (l0++a0K O++(outs.take i).flatMap b3j);rw[af]at E ar;have F:=z.len;have ca:=a0p (n:=na) ab
   have D:l0++a0K O++(outs.take (i+1)).flatMap b3j=l1++outs[i].ow++a0K na:=by
    rw[aT,<-QC,af,hF];simp only[QC]
   have ag:=b6R z;rw[aj]at ag;have I:=z.ow;have⟨tx,aD⟩:=η0 (outs[i].ow);have⟨xs,aV⟩:=η0 ((a1s outs[i]).toArray);rw[aV]at bC a1 b5 ag;rw[aD]at hid F D I;have b:=a5S p p v l1 tx F I W5 E ρo B;have⟨cO,HD,aP,aS,aW,bB⟩:=η6 aM hd D E B5 b5;clear y hB aU z aV aD aj hF af aT aM hd D E B5 b5 I;go_upto_region 18 with fail
   rw[HD.o];go_wp2_with fail;refine μ1 b ?_;rintro e w6 ⟨rfl,⟨v6,S,K⟩,T⟩;obtain⟨k6,a8⟩:=a8p ai aO bB K T;have Q:=a1j aS T B;have J:p<=w6.heap.size:=Qk B Q.size;have cT:w6.cell? ⟨d,32,none⟩=some (.int .u64 na):=(k6.cell 32).trans ag;have⟨bp,ak⟩:=η2 S (aW.trans (Q.mono H));have f:=a2M p p v6 (l1++tx) na ab w6 S (by simp only[Qa];omega) J;clear S K T k6 Q b;go_wp2_with fail;refine μ1 f ?_;rintro e w7 ⟨rfl,⟨v7,ao,av⟩,az⟩;have U:=a1j bp az J;have ac:p<=w7.heap.size:=Qk J U.size;rw[<-aP.o]at ao;have⟨be,aN⟩:=η2 ao (ak.trans (U.mono H));clear ao av az U f;go_wp2;go_roundg (O-(i+1));exact⟨i+1,v7,by omega,by go_num,be.o,aN.o,ac⟩;omega
  obtain rfl:O=i:=ρo;have aX:¬(O:Int)<O:=ρo;have ar:=an.o O (Qg _);rw[Qb (by rw[bl.o];exact Qg _)]at y ar;have⟨l1,af⟩:=η0 (l0++a0K O++outs.flatMap b3j);rw[af]at y ar a5 bD;have cH:=η1 af;obtain⟨q0,q1,q2,q3⟩:=G.o wr hB;have b:=a2M p p v l1 nf ρo wr y ρo aF;have⟨bh,cF⟩:=η2 y hB;clear y hB af an bl HO bn cJ;go_wp2_with fail;refine μ1 b ?_;rintro e w5 ⟨rfl,⟨v5,E,bZ⟩,b2⟩;have bz:=a1j bh b2 aF;have aR:=cF.trans (bz.mono H);have B:p<=w5.heap.size:=Qk aF bz.size;obtain⟨cX,da,cY,c1⟩:=G.o w5 aR;have cU:=a0p (n:=nf) ρo;have f:=a2M p p v5 (l1++a0K nf) ne ρo w5 E (by simp only[Qa];omega) B;have⟨aS,aW⟩:=η2 E aR;clear E bZ b2 bz aR b q0 q1 q2 q3;go_wp2_with fail;refine μ1 f ?_;rintro e w6 ⟨rfl,⟨v6,S,K⟩,T⟩;have Q:=a1j aS T B;have a6:=aW.trans (Q.mono H);have c3:=a4A p p v6 (l1++a0K nf++a0K ne) bD.o w6 S ρo
  have ak:=η1 (φt b8 a6);clear S K T Q a6 f;go_wp2_with fail;refine μ1 c3 ?_;rintro e w7 ⟨v7,rfl,bt,U⟩;rw[<-cH.o,<-ct.o]at bt;have⟨cG,aN⟩:=η2 bt U;clear bt U c3;go_wp2;go_ret2;exact⟨_,rfl,cG.base ak.size,ak.trans (aN.mono ak.size)⟩
 have ay:b3c t=[]:=by unfold b3c;rw[HR.o,if_neg ck]
 rw[ay];unfold txV at HW aE⊢;obtain⟨q0,q1,q2,q3⟩:=G.o W (Qf _ _);go_enter func220,ntmps220;go_upto_region 1 with fail
 rw[HW.o,HG.o];go_wp2_with fail;refine μi aE.o ?_;intro w1 aA;have a2:=η1 (φt b8 aA);clear aA;go_wp2;go_ret2;exact⟨_,rfl,a0N.nil _ _,a2.o⟩
end
section
def a0x(e:a1P):LV:=[.int .i64 e.kind,.int .i64 e.sh]++bys e.tx++[.int .u64 e.am,.int .i64 e.why,.int .i64 e.ep]
def a0b(h:a0Q):LV:=[.int .i64 h.sh,.int .i64 h.ht,.int .i64 h.ep]++bys h.prev++bys h.root
def a0d(c:a0y)(A:OA)(cap:Nat):LV:=a0x c.e++[.slice A c.path.length cap]++a0b c.h++bys c.tag
theorem a0u{e:a1P}(h:e.Bd):(a0x e).length=37:=by simp[a0x,a0a,h.tx.1]
theorem a0f{h:a0Q}(a:h.Bd):(a0b h).length=67:=by simp[a0b,a0a,a.prev.1,a.root.1]
theorem a0l{c:a0y}(h:c.Bd)(A:OA)(cap:Nat):(a0d c A cap).length=137:=by simp[a0d,a0a,h.tag.1,a0u h.e,a0f h.h]
theorem a5h(e:a1P):∀v∈a0x e,v.oneCell'=true:=by
 intro v a;simp only[a0x,Qq,Qo,Qt,or_false]at a
 rcases a with((rfl | rfl) | h) | rfl | rfl | rfl
 ·rfl
 ·rfl
 ·exact a0h _ _ h
 ·rfl
 ·rfl
 rfl
theorem a1p(h:a0Q):∀v∈a0b h,v.oneCell'=true:=by
 intro v a;simp only[a0b,Qq,Qo,Qt,or_false]at a
 rcases a with((rfl | rfl | rfl) | h) | h
 ·rfl
 ·rfl
 ·rfl
 ·exact a0h _ _ h
 exact a0h _ _ h
theorem a2C(c:a0y)(A:OA)(cap:Nat):∀v∈a0d c A cap,v.oneCell'=true:=by
 intro v a;simp only[a0d,Qq,Qo,Qt,or_false]at a
 rcases a with((h | rfl) | h) | h
 ·exact a5h _ _ h
 ·rfl
 ·exact a1p _ _ h
 exact a0h _ _ h
def a4i:a1P:=⟨0,0,List.replicate 32 0,0,0,0⟩
def a1y:a0Q:=⟨0,0,0,List.replicate 32 0,List.replicate 32 0⟩
theorem a3T:a4i.Bd:=⟨by simp[a4i,InI],by simp[a4i,InI],ZZ,by simp[a4i],by simp[a4i,InI],by simp[a4i,InI]⟩
theorem a1A:a1y.Bd:=⟨by simp[a1y,InI],by simp[a1y,InI],by simp[a1y,InI],ZZ,ZZ⟩
abbrev a1W:=ldOf 34
abbrev a1l:=ldOf 37
abbrev a3j:=bdOf 34
abbrev a5P:=bdOf 37
theorem b0a(x y:VL):binOp .eql 34 x y=EQs 34 x y:=rfl
def NEs(t:TI)(x y:VL):Sem VL:=binOp .neq t x y
theorem a8b(x y:VL):binOp .neq 37 x y=NEs 37 x y:=rfl
theorem b3q:(prog.underlying 34).map a1f=some true:=ρk
theorem a8Q:(prog.info? 34).map (·.size)=some 37:=ρk
theorem a1S:(prog.underlying 37).map a1f=some true:=ρk
theorem a1h:(prog.info? 37).map (·.size)=some 67:=ρk
theorem d1g:(((prog.info? 37).bind (·.zero)).map (·.cells.size))=some 67:=ρk
theorem c6p(w:WD):(BDs 34 #[]).run prog w=.ok (.agg (a0x a4i).toArray) w:=run_build w _ _ _ ρk
theorem b2Y(w:WD):(BDs 37 #[]).run prog w=.ok (.agg (a0b a1y).toArray) w:=run_build w _ _ _ ρk
theorem d0g:∃f0 f1 f2 f3 f4 f5:Field,prog.underlying 34=some (.struct #[f0,f1,f2,f3,f4,f5])/\(f0.type=3/\f1.type=3/\f2.type=31/\f3.type=32/\f4.type=3/\f5.type=3)/\
  (f0.offset=0∧f1.offset=1∧f2.offset=2∧f3.offset=34∧f4.offset=35∧f5.offset=36)∧(f0.name≠ "_" ∧f1.name≠ "_" ∧f2.name≠ "_" ∧f3.name≠ "_" ∧f4.name≠ "_" ∧f5.name≠ "_"):=
 ⟨_,_,_,_,_,_,Tryz.underlying34,⟨rfl,rfl,rfl,rfl,rfl,rfl⟩,⟨rfl,rfl,rfl,rfl,rfl,rfl⟩,by decide⟩
theorem c0G:∃f0 f1 f2 f3 f4:Field,prog.underlying 37=some (.struct #[f0,f1,f2,f3,f4])/\(f0.type=3/\f1.type=3/\f2.type=3/\f3.type=31/\f4.type=31)/\
  (f0.offset=0∧f1.offset=1∧f2.offset=2∧f3.offset=3∧f4.offset=35)∧(f0.name≠ "_" ∧f1.name≠ "_" ∧f2.name≠ "_" ∧f3.name≠ "_" ∧f4.name≠ "_"):=
 ⟨_,_,_,_,_,Tryz.underlying37,⟨rfl,rfl,rfl,rfl,rfl⟩,⟨rfl,rfl,rfl,rfl,rfl⟩,by decide⟩
theorem d1T:prog.cellsOf 34=37:=ρk
theorem c0E:prog.cellsOf 37=67:=ρk
theorem d3P:prog.cellsOf 32=1:=ρk
theorem c5j(d:Nat)(h:0<=x/\x<=18446744073709551615):prog.keyLits (d+1) 32 [.int .u64 x]=some [.int .u64 x]:=by
 unfold Program.keyLits
 have:(Lit.int .u64 x).wf=true:=by
  simp only[Lit.wf];rw[show IntKind.u64.min=0 from rfl,show IntKind.u64.max=18446744073709551615 from rfl];simp[h]
 simp[this]
def c6W(e:a1P):List Lit:=[.int .i64 e.kind,.int .i64 e.sh]++e.tx.map (Lit.int .u8)++[.int .u64 e.am,.int .i64 e.why,.int .i64 e.ep]
def b1C(h:a0Q):List Lit:=[.int .i64 h.sh,.int .i64 h.ht,.int .i64 h.ep]++h.prev.map (Lit.int .u8)++h.root.map (Lit.int .u8)
theorem b7B(d:Nat){e:a1P}(h:e.Bd):prog.keyLits (d+3) 34 (a0x e)=some (c6W e):=by
 obtain⟨J,K,O,Q,P,N,D,⟨t0,t1,t2,t3,t4,t5⟩,⟨G,x,w,z,E,p⟩,v,H,I,m,o,j⟩:=d0g;have y:((a0x e).drop 0).take 1=[.int .i64 e.kind]:=rfl;have r:((a0x e).drop 1).take 1=[.int .i64 e.sh]:=rfl;have b:(bys e.tx).length=32:=by rw[a0a,h.tx.1]
 have a:∀k,(a0x e).drop (k+2)=(bys e.tx++[Value.int .u64 e.am,Value.int .i64 e.why,Value.int .i64 e.ep]).drop k:=λk=>by
  unfold a0x
  simp
 have f:((a0x e).drop 2).take 32=bys e.tx:=by
  rw[a 0,Zs,QJ ρo,Qb ρo]
 have g:((a0x e).drop 34).take 1=[.int .u64 e.am]:=by
  rw[a 32,Zw ρo,QQ ρo];rfl
 have F:((a0x e).drop 35).take 1=[.int .i64 e.why]:=by
  rw[a 33,QR,QQ ρo,b];rfl
 have B:((a0x e).drop 36).take 1=[.int .i64 e.ep]:=by
  rw[a 34,QR,QQ ρo,b];rfl
 unfold Program.keyLits;simp only[D];rw[if_pos ⟨by rw[d1T];exact a0u h,by simp[v,H,I,m,o,j]⟩]
 rw[Zg,Zg,Zg,Zg,Zg,Zg,List.mapM_nil,t0,t1,t2,t3,t4,t5,G,x,w,z,E,p,cId,d1H,d3P,y,r,f,g,F,B,
  a6a _ h.tx.1 h.tx.2,a4t _ h.kind,a4t _ h.sh,c5j _ h.am,a4t _ h.why,a4t _ h.ep]
 simp[c6W]
theorem a8n(d:Nat){h:a0Q}(a:h.Bd):prog.keyLits (d+3) 37 (a0b h)=some (b1C h):=by
 obtain⟨H,I,K,O,N,z,⟨t0,t1,t2,t3,t4⟩,⟨E,w,v,y,B⟩,r,F,G,j,m⟩:=c0G;have x:((a0b h).drop 0).take 1=[.int .i64 h.sh]:=rfl;have p:((a0b h).drop 1).take 1=[.int .i64 h.ht]:=rfl;have f:((a0b h).drop 2).take 1=[.int .i64 h.ep]:=rfl;have J:(bys h.prev).length=32:=by rw[a0a,a.prev.1]
 have o:(bys h.root).length=32:=by rw[a0a,a.root.1]
 have b:∀k,(a0b h).drop (k+3)=(bys h.prev++bys h.root).drop k:=λk=>by
  unfold a0b
  simp
 have g:((a0b h).drop 3).take 32=bys h.prev:=by
  rw[b 0,Zs,QJ ρo,Qb ρo]
 have D:((a0b h).drop 35).take 32=bys h.root:=by
  rw[b 32,Zw ρo,QQ ρo,QF,Qb ρo]
 unfold Program.keyLits;simp only[z];rw[if_pos ⟨by rw[c0E];exact a0f a,by simp[r,F,G,j,m]⟩]
 rw[Zg,Zg,Zg,Zg,Zg,List.mapM_nil,t0,t1,t2,t3,t4,E,w,v,y,B,cId,d1H,x,p,f,g,D,
  a6a _ a.prev.1 a.prev.2,a6a _ a.root.1 a.root.2,a4t _ a.sh,a4t _ a.ht,a4t _ a.ep]
 simp[b1C]
theorem c1i{e f:a1P}(a:e.Bd)(b:f.Bd)(w:WD):
  ∃r:Bool,(EQs 34 (.agg (a0x e).toArray) (.agg (a0x f).toArray)).run prog w=.ok (.bool r) w/\(r=true↔c6W e=c6W f):=by
 unfold EQs;obtain⟨y,p,m,v,o,x,g,_⟩:=d0g
 obtain⟨r,j,d⟩:=run_equalIn_deep (P:=prog) 9997 3 34 ρk w 3 3 (.agg (a0x e).toArray) (.agg (a0x f).toArray) _ _
  (by simp[Value.formed,g,d1T,a0u a]) (by simp[Value.formed,g,d1T,a0u b]) (by simpa[Value.cells]using b7B 0 a) (by simpa[Value.cells]using b7B 0 b)
 refine⟨r,?_,d⟩;rw[run_eql_struct,show(10000:Nat)=9997+3 from rfl,j]
 rfl
theorem b7O{e f:a0Q}(a:e.Bd)(b:f.Bd)(w:WD):
  ∃r:Bool,(NEs 37 (.agg (a0b e).toArray) (.agg (a0b f).toArray)).run prog w=.ok (.bool (!r)) w/\(r=true↔b1C e=b1C f):=by
 unfold NEs;obtain⟨x,p,m,v,o,g,_⟩:=c0G
 obtain⟨r,j,d⟩:=run_equalIn_deep (P:=prog) 9997 3 37 ρk w 3 3 (.agg (a0b e).toArray) (.agg (a0b f).toArray) _ _
  (by simp[Value.formed,g,c0E,a0f a]) (by simp[Value.formed,g,c0E,a0f b]) (by simpa[Value.cells]using a8n 0 a) (by simpa[Value.cells]using a8n 0 b)
 refine⟨r,?_,d⟩;simp only[binOp];rw[show(Op.equal 37 (.agg (a0b e).toArray) (.agg (a0b f).toArray))=Op.equalIn (9997+3) 37 (.agg (a0b e).toArray) (.agg (a0b f).toArray)from rfl];simp[j]
attribute [local go_sem ↓] a1W a1l a3j a5P b0a a8b
theorem a6k(n lo hi:Int)(w:WD):Calls prog 263 #[.int .i64 n,.int .i64 lo,.int .i64 hi] w λe w'=>e=.returned (.bool (decide (lo<=n/\n<=hi)))/\w=w':=by
 by_cases a:lo<=n
 ·by_cases b:n<=hi
  ·have hd:decide (lo<=n/\n<=hi)=true:=by simp[a,b]
   rw[hd];clear hd;go_enter func263,ntmps263;go_wp2;go_ret;exact⟨rfl,rfl⟩
  have hd:decide (lo<=n/\n<=hi)=false:=by simp[b]
  rw[hd];clear hd;go_enter func263,ntmps263;go_wp2;go_ret;exact⟨rfl,rfl⟩
 have hd:decide (lo<=n/\n<=hi)=false:=by simp[a]
 rw[hd];clear hd;go_enter func263,ntmps263;go_wp2;go_ret;exact⟨rfl,rfl⟩
theorem a7P(n lo hi:Int)(w:WD):Calls prog 104 #[.int .i64 n,.int .i64 lo,.int .i64 hi] w λe w'=>e=.returned (.bool (decide (lo<=n/\n<=hi)))/\w=w':=by
 by_cases a:lo<=n
 ·by_cases b:n<=hi
  ·have hd:decide (lo<=n/\n<=hi)=true:=by simp[a,b]
   rw[hd];clear hd;go_enter func104,ntmps104;go_wp2;go_ret;exact⟨rfl,rfl⟩
  have hd:decide (lo<=n/\n<=hi)=false:=by simp[b]
  rw[hd];clear hd;go_enter func104,ntmps104;go_wp2;go_ret;exact⟨rfl,rfl⟩
 have hd:decide (lo<=n/\n<=hi)=false:=by simp[a]
 rw[hd];clear hd;go_enter func104,ntmps104;go_wp2;go_ret;exact⟨rfl,rfl⟩
end
abbrev c5n:=bdOf 191
abbrev c2E:=bdOf 56
theorem c5p(n:Nat)(a:Array (Nat×VL)):Instr.buildSlice 50 n a=BSs 50 n a:=rfl
theorem c0B(n:Nat)(a:Array (Nat×VL)):Instr.buildSlice 51 n a=BSs 51 n a:=rfl
theorem d0z:prog.underlying 50=some (.slice 191):=ρk
theorem c6y:prog.underlying 51=some (.slice 56):=ρk
theorem d2a:(prog.info? 191).map (λi=>(i.zero.map (·.cells.size),i.size))=some (some 35,35):=ρk
theorem d1b:(prog.info? 56).map (λi=>(i.zero.map (·.cells.size),i.size))=some (some 33,33):=ρk
theorem d2v:a3s prog 189=some [(0,32),(32,1)]:=ρk
theorem d2T:(((prog.info? 189).bind (·.zero)).map (·.cells.toList))=some (ptL (List.replicate 32 0) 0):=ρk
abbrev c4u:=bdOf 189
theorem d2L(a:tx.length=32)(ix:Int)(w:WD):(BDs 189 #[(0,.agg (bys tx).toArray),(1,.int .i64 ix)]).run prog w=.ok (.agg (ptL tx ix).toArray) w:=by
 refine a2H d2v d2T _ _ ?_ w;rw[a0v (off:=0) (size:=32) rfl (by simp[Value.cells,a0a,a]) (by simp[ptL,a0a])]
 have b:(ptL (List.replicate 32 0) 0).take 0++(Value.agg (bys tx).toArray).cells.toList++(ptL (List.replicate 32 0) 0).drop (0+32)=ptL tx 0:=by
  unfold ptL;simp[Value.cells,a0a]
 rw[b,a0v (off:=32) (size:=1) rfl rfl (by simp[ptL,a0a,a]),a1Y]
 congr 1
 unfold ptL;simp[Value.cells,a0a,a,QR]
theorem d1X:a3s prog 191=some [(0,33),(33,1),(34,1)]:=ρk
theorem d1S:(((prog.info? 191).bind (·.zero)).map (·.cells.toList))=some (inV ⟨List.replicate 32 0,0,0,[]⟩ none 0):=ρk
theorem d1o:a3s prog 56=some [(0,32),(32,1)]:=ρk
theorem c9H:(((prog.info? 56).bind (·.zero)).map (·.cells.toList))=some (a1s ⟨List.replicate 32 0,0⟩):=ρk
theorem c8p(a:tx.length=32)(ix:Int)(w:WD):(BDs 191 #[(0,.agg (ptL tx ix).toArray)]).run prog w=.ok (.agg (inV ⟨tx,ix,0,[]⟩ none 0).toArray) w:=by
 refine a2H d1X d1S _ _ ?_ w;rw[a0v (off:=0) (size:=33) rfl (by simp[Value.cells,a1x a]) (by simp[inV,ptL,a0a]),a1Y]
 rfl
theorem c3I(a:ow.length=32)(w:WD):(BDs 56 #[(0,.agg (bys ow).toArray)]).run prog w=.ok (.agg (a1s ⟨ow,0⟩).toArray) w:=by
 refine a2H d1o c9H _ _ ?_ w;rw[a0v (off:=0) (size:=32) rfl (by simp[Value.cells,a0a,a]) (by simp[a1s,a0a]),a1Y]
 rfl
theorem c2s(a:tx.length=32)(ix am:Int):(inV ⟨tx,ix,0,[]⟩ none 0).toArray.setIfInBounds 33 (.int .u64 am)=(inV ⟨tx,ix,am,[]⟩ none 0).toArray:=by
 unfold inV
 apply ZM
 simp[ptL,a0a,a]
theorem c0j(a:tx.length=32)(ix am:Int)(sec:LI)(A:OA)(c:Nat):(inV ⟨tx,ix,am,[]⟩ none 0).toArray.setIfInBounds 34 (.slice A sec.length c)=(inV ⟨tx,ix,am,sec⟩ A c).toArray:=by
 unfold inV
 apply ZM
 simp[ptL,a0a,a]
theorem b8A(a:ow.length=32)(am:Int):(a1s ⟨ow,0⟩).toArray.setIfInBounds 32 (.int .u64 am)=(a1s ⟨ow,am⟩).toArray:=by
 unfold a1s
 apply ZM
 simp[a0a,a]
theorem d3q:(prog.info? 191).map (λi=>(i.zero.map (·.cells.size),i.size,i.bytes))=some (some 35,35,72):=ρk
theorem d2i:(prog.info? 56).map (λi=>(i.zero.map (·.cells.size),i.size,i.bytes))=some (some 33,33,40):=ρk
theorem c5C(xs:AV)(t:TI):Builtin.append_ #[50,50] t xs=APs #[50,50] t xs:=rfl
theorem c0v(xs:AV)(t:TI):Builtin.append_ #[51,51] t xs=APs #[51,51] t xs:=rfl
theorem a0J{P:PG}{t:TI}{n:Nat}(b:(P.underlying t).map a1f=some true)(hi:(P.info? t).map (·.size)=some n){w:WD}{g:Nat}{e:TI}(xs:LV)(d:Blk w g e xs.toArray)(a:xs.length=n):
 (LDs t (.pointer g)).run P w=.ok (.agg xs.toArray) w:=a0g b hi d (off:=0) xs a (by simp[Qb,a])
abbrev Pb:=@a0J prog
abbrev b7r:=ldOf 53
theorem d1L:(prog.underlying 53).map a1f=some true:=ρk
theorem b8N:(prog.info? 53).map (·.size)=some 4:=ρk
abbrev b8h:=stOf 53
abbrev b8b:=alOf 53
theorem d0B(w:WD):(ALs 53).run prog w=.ok (.pointer w) (w.alloc (.cells #[.slice none 0 0,.slice none 0 0,.int .u64 0,.int .i64 0] 53)):=a0U (.agg #[.slice none 0 0,.slice none 0 0,.int .u64 0,.int .i64 0]) ρk w
def c5J:AV:=#[.slice none 0 0,.slice none 0 0,.int .u64 0,.int .i64 0]
abbrev c4o:=bdOf 53
theorem d1m(w:WD):(BDs 53 #[]).run prog w=.ok (.agg c5J) w:=run_build w _ _ _ ρk
structure a5D(b:Nat)(w:WD)(v:VL)(R:LW)(L:List InD):Prop where
 len:R.length=L.length
 at_:∀j (h:j<L.length),∃B cap,R[j]? =some (inV L[j] B cap)/\Byt w B L[j].sec/\L[j].sec.length<=cap/\(B=none->cap=0)/\L[j].sec.length<=64/\∀a,B=some a->b<=a.block/\a.block<w.heap.size/\v.ownBlock≠some a.block
theorem a5D.nil(b:Nat)(w:WD)(v:VL):a5D b w v [] []:=⟨rfl,λj h=>absurd h ρp⟩
theorem a5D.fr{b:Nat}{w d:WD}{v:VL}{R:LW}{L:List InD}{F:Nat->Prop}(h:a5D b w v R L)(f:Fr F w d)(g:∀k,b<=k->k<w.heap.size->¬F k):a5D b d v R L:=⟨h.len,λj hj=>by
 obtain⟨B,cap,h1,h2,h3,h4,h5,h6⟩:=h.at_ j hj;exact⟨B,cap,h1,h2.fr f (λa ha _=>g _ (h6 a ha).1 (h6 a ha).2.1),h3,h4,h5,λa ha=>⟨(h6 a ha).1,Qh (h6 a ha).2.1 f.size,(h6 a ha).2.2⟩⟩⟩
theorem a5D.below{b:Nat}{w d:WD}{v:VL}{R:LW}{L:List InD}(h:a5D b w v R L)(f:Below w w d):a5D b d v R L:=⟨h.len,λj hj=>by
 obtain⟨B,cap,h1,h2,h3,h4,h5,h6⟩:=h.at_ j hj;exact⟨B,cap,h1,h2.below f,h3,h4,h5,λa ha=>⟨(h6 a ha).1,Qh (h6 a ha).2.1 f.size,(h6 a ha).2.2⟩⟩⟩
theorem a5D.grow{d:WD}{f:VL}(h:a5D b w v R L)(g:Fr (λk=>v.ownBlock=some k) w d)(ht:a7W w v f):a5D b d f R L:=⟨h.len,λj hj=>by
 obtain⟨B,cap,h1,h2,h3,h4,h5,h6⟩:=h.at_ j hj;refine⟨B,cap,h1,h2.fr g (λa ha _ e=>(h6 a ha).2.2 e),h3,h4,h5,λa ha=>⟨(h6 a ha).1,Qh (h6 a ha).2.1 g.size,λe=>?_⟩⟩
 rcases ht _ e with h7 | h7
 ·exact(h6 a ha).2.2 h7
 have:=(h6 a ha).2.1;omega⟩
theorem a5D.snoc(h:a5D b w v R L){i:InD}{B:OA}{cap:Nat}(g:Byt w B i.sec)(d:i.sec.length<=cap)(m:B=none->cap=0)(o:i.sec.length<=64)(f:∀a,B=some a->b<=a.block/\a.block<w.heap.size/\v.ownBlock≠some a.block):a5D b w v (R++[inV i B cap]) (L++[i]):=by
 have x:=h.len;refine⟨by simp[x],λj z=>?_⟩
 by_cases p:j<L.length
 ·obtain⟨D,r,G,E,I,F,H,y⟩:=h.at_ j p
  rw[ZK p,QO ρo];exact⟨D,r,G,E,I,F,H,y⟩
 obtain rfl:j=L.length:=by simp at z;omega
 refine⟨B,cap,?_,?_,?_,m,?_,f⟩
 ·rw[QL ρo];simp[x]
 ·simpa using g
 ·simpa using d
 simpa using o
theorem a5D.ins(h:a5D b w v R L)(a:RdR 35 w A R):b4z w A L:=λj hj=>by
 obtain⟨B,cap,h1,h2,h3,h4,h5,_⟩:=h.at_ j hj;obtain⟨hjr,h1e⟩:=Qm.1 h1;obtain⟨g,off,e,hg,hc⟩:=a j hjr;exact⟨g,off,B,cap,e,hg,⟨λk x hx=>hc k x (ρy h1e hx),h2,h3,h4,by unfold maxLen;omega⟩⟩
theorem c6Z{L:List a1q}(a:RdR 33 w A (L.map a1s)):b4c w A L:=λj hj=>by
 obtain⟨g,off,e,hg,hc⟩:=a j (ρw hj);exact⟨g,off,e,hg,λk x hx=>hc k x (ρw hx)⟩
def a4W(b:Nat)(w:WD)(A1 A2:OA)(t:TxD):Prop:=∀(F:Nat->Prop) (w':WD),Fr F w w'->(∀k,b<=k->¬F k)->a9H w' A1 A2 t
theorem a4W.at_{a:OA}(h:a4W b w a d t):a9H w a d t:=h (λ_=>False) w (Qp _ _) (λ_ _=>id)
theorem a4W.fr{F:Nat->Prop}(h:a4W b w d f t)(g:Fr F w a)(j:∀k,b<=k->¬F k):a4W b a d f t:=λG w2 hg hG=>
 h (λk=>F k\/G k) w2 ((g.mono (λ_ _ h=>.inl h)).trans (hg.mono (G:=λk=>F k\/G k) (λ_ _ h=>.inr h)) (λ_ _ h=>h)) (λk hk e=>e.elim (j k hk) (hG k hk))
theorem a4W.base{b':Nat}{a:OA}(h:a4W b w a d t)(f:b'<=b):a4W b' w a d t:=λF w' hf hn=>h F w' hf (λk hk=>hn k (Qk f hk))
theorem a4W.below(h:a4W b w d f t)(g:Below w w a):a4W b a d f t:=λF w2 hf hn=>
 h F w2 (((Q9 g).mono (G:=F) (λk hk e=>absurd e ρo)).trans hf (λ_ _ h=>h)) hn
theorem a4W.of{u:VL}(a:a0T 191 35 b w v R)(f:a5D b w v R t.ins)(d:a0T 56 33 b w u (t.outs.map a1s))(g:t.Bd):
  ∃A1 c1 A2 c2,v=.slice A1 t.ins.length c1/\u=.slice A2 t.outs.length c2/\a4W b w A1 A2 t:=by
 obtain⟨A1,c1,D,_⟩:=a.rd;obtain⟨A2,c2,p,_⟩:=d.rd;rw[f.len]at D;rw[Qw]at p;refine⟨A1,c1,A2,c2,D,p,λF I r B=>?_⟩;have y:=a.fr r (λk o=>B k (a.lt o).1);have z:=d.fr r (λk o=>B k (d.lt o).1);have x:=f.fr r (λk o _=>B k o);obtain⟨K,J,m,E,_⟩:=y.rd;obtain⟨N,H,j,G,_⟩:=z.rd;rw[D]at m;rw[p]at j
 injection m with m
 injection j with j
 subst m j;exact⟨x.ins E,c6Z G,g⟩
section
abbrev a6i:=bdOf 31
theorem b1S(w:WD):(BDs 31 #[]).run prog w=.ok (.agg (bys (List.replicate 32 0)).toArray) w:=ρk
attribute [local go_sem ↓] a2t a2s a2n a6i
theorem c7O(t:TxD)(h:a1a t=0):idP t=a3x (8::(a6s (b3c t).length++b3c t)):=by
 unfold idP b3c;rw[if_pos h,if_pos h];unfold a1K a3m
 simp
theorem a5g:prog.underlying 31=some (.array 32 5):=b1w
theorem c9n(h:t.Bd):∀x∈b3c t,0<=x/\x<=255:=by
 unfold b3c
 split
 ·rename_i hc
  exact b4h h (a4S hc).1
 simp
theorem c4B(h:t.Bd):(b3c t).length<=2660:=by
 unfold b3c
 split
 ·rename_i hc
  exact b2t h (a4S hc).1
 simp
theorem a0N.nulI(h:a0N B w (.slice none n c) l):c=0:=by
 obtain⟨_,⟨a,_⟩ | ⟨g,cap,b,a,_⟩⟩:=h
 ·simp only[Value.slice.injEq]at a
  exact a.2.2
 simp at a
theorem a2v(a:OA)(d:Nat)(b:OA)(f:Nat)(t:TxD)(w:WD)(h:a9H w a b t)(j:a2x w)(o:t.ins.length<=1000000)(m:t.outs.length<=1000000):
  Calls prog 162 #[.agg (txV a d b f t)] w λe w'=>e=.returned (.agg (bys (idP t)).toArray)/\Below w w w':=by
 obtain⟨z,aj,X⟩:=Q8.1 b9C;have E:=Pc (t:=31) z aj (w.alloc (.cells (txV a d b f t) 53));have⟨Z,hZ⟩:=η0 z.cells;rw[hZ]at E X;have ad:Z.size=32:=by rw[<-QD,X];rfl
 have T:=(Qd w 53 (txV a d b f t)).alloc (.cells Z 31);have bz:=Qd (w.alloc (.cells (txV a d b f t) 53)) 31 Z;have B0:Below w w ((w.alloc (.cells (txV a d b f t) 53)).alloc (.cells Z 31)):=(ρb w _).alloc ρp _;simp only[Qi]at E bz;have⟨W,hW⟩:=η0 ((w.alloc (.cells (txV a d b f t) 53)).alloc (.cells Z 31));have⟨g,hg⟩:=ηs w;rw[hW]at B0 E;rw[hW,hg]at T bz;rw[hg]at E;have aC:g<W.heap.size:=T.lt;have hT:=h.below B0;have q0:W.cell? ⟨g,0,none⟩=some (.slice a t.ins.length d):=T.cell 0;have q1:W.cell? ⟨g,1,none⟩=some (.slice b t.outs.length f):=T.cell 1;have q2:W.cell? ⟨g,2,none⟩=some (.int .u64 t.fee):=T.cell 2;have q3:W.cell? ⟨g,3,none⟩=some (.int .i64 t.exp):=T.cell 3;have Q:=b9Z a d b f t W hT o m;have⟨D,hD⟩:=η0 (idP t);have O:(bys D).length=32:=by rw[a0a,<-hD];exact a3b t
 rw[hD];have⟨HD,p,HW,HG,K,ah,HZ,ao⟩:=η8 hD O hW hg B0 bz ad (j.below B0);have ab:∀x∈b3c t,0<=x/\x<=255:=c9n h.bd;have aB:(b3c t).length<=2660:=c4B h.bd;have⟨az,B⟩:=η2 ab Q;have⟨R,hR⟩:=η0 (a1a t);rw[hR]at B;have HR:=η1 hR;clear hD O hW hg B0 bz ad j ab Q hR T aj X hZ h o m hT;unfold txV at HW B E⊢
 by_cases ak:R=0
 ·subst ak
  have hid:=c7O t HR;rw[HD.o]at hid;have ar:=η1 hid;clear hid;go_enter func162,ntmps162;go_upto_region 1 with fail
  rw[HG.o];go_wp2_with fail;refine μ1 B.o ?_;rintro e w1 ⟨v,rfl,hv,r⟩;obtain⟨Af,cf,al,ag,au,aq⟩:=hv.byt az;have ac:Af=none->cf=0:=λe=>by subst e;subst al;exact a0N.nulI hv
  subst al;have I:=Qd w1 22 #[.slice Af (b3c t).length cf];have B2:=ρb w1 (.cells #[.slice Af (b3c t).length cf] 22);have F:=(ao.below r).below B2;have H:=ag.below B2;have N:=r.size;have aa:=r.trans (B2.mono N)
  generalize S:w1.alloc (.cells #[.slice Af (b3c t).length cf] 22)=w2 at I F H aa
  have Y:=a8z 8 ρo w1.heap.size 0 1 Af cf ac (b3c t) w2 I.lt (I.cell 0) H ρo F;rw[<-ar.o]at Y
  generalize ay:(b3c t).length=np at S⊢
  have⟨an,af⟩:=η2 S aa;clear hv ag au aq ac I B2 F H N aa S r ay;go_wp2_with fail;rw[an.o];refine μi Y ?_;intro w3 ae;have G:=φt af ae;have y:=φf ah G;have J:=Pa (t:=31) a5m y (off:=0) (bys D) p.o (by rw[HZ.o];omega) (a0h _);rw[a0q _ _ (by rw[p.o,HZ.o])]at J;have⟨ai,U⟩:=η2 G y;clear Y ae G y;go_wp2;exact bodyPost_ret (a0c rfl _ _ (g+1) 31 (bys D) _ rfl (U.row_ _) a5g rfl (ρy p.o a5m)) rfl ⟨rfl,Ql (K.trans (ai.mono K.size)) (by rw[HG.o];omega) _⟩
 have hid:D=List.replicate 32 0:=by rw[<-HD.o];unfold idP;rw[HR.o,if_neg ak]
 subst hid;go_enter func162,ntmps162;go_upto_region 1 with fail
 rw[HG.o];go_wp2_with fail;refine μ1 B.o ?_;rintro e w1 ⟨v,rfl,hv,r⟩;have y:=φf ah r;have J:=Pa (t:=31) a5m y (off:=0) (bys (List.replicate 32 0)) p.o (by rw[HZ.o];omega) (a0h _);rw[a0q _ _ (by rw[p.o,HZ.o])]at J;have ax:=λW=>b1S W
 have⟨ys,V⟩:=η0 (bys (List.replicate 32 0));rw[V]at J ax p;have⟨av,aA,U⟩:=η3 V r y;clear hv r y V;go_wp2;exact bodyPost_ret (a0c rfl _ _ (g+1) 31 ys _ rfl (U.row_ _) a5g rfl (ρy p.o a5m)) rfl ⟨by rw[<-av.o],Ql (K.trans (aA.mono K.size)) (by rw[HG.o];omega) _⟩
end
section
attribute [local go_sem ↓] a1W a1l a3j a5P b0a a8b
theorem a6I{e:a1P}(h:e.Bd):(a0x e).toArray[34]? =some (.int .u64 e.am)/\(a0x e).toArray[35]? =some (.int .i64 e.why)/\(a0x e).toArray[36]? =some (.int .i64 e.ep):=by
 have a:(bys e.tx).length=32:=by rw[a0a,h.tx.1]
 unfold a0x;refine⟨?_,?_,?_⟩<;>simp[a]
theorem c0V{e:a1P}(h:c6W e=c6W a4i):a0D e=false:=by
 have:e.kind=0:=by
  simp only[c6W,QG,List.cons.injEq,Lit.int.injEq]at h;exact h.1.2
 unfold a0D;simp[this]
theorem b8v{h:a0Q}(e:b1C h=b1C a1y):a0w h=false:=by
 have:h.ht=0:=by
  simp only[b1C,QG,List.cons.injEq,Lit.int.injEq]at e;exact e.2.1.2
 unfold a0w;simp[this]
theorem a9B(e:a1P)(b:e.Bd)(w:WD):
  Calls prog 233 #[.agg (a0x e).toArray] w λx w'=>x=.returned (.bool (a0D e))/\Below w w w':=by
 have m:=Qd w 34 (a0x e).toArray;have T:=ρb w (.cells (a0x e).toArray 34);have⟨W,p⟩:=η0 (w.alloc (.cells (a0x e).toArray 34));have⟨g,J⟩:=ηs w;rw[p]at T;rw[p,J]at m;have k0:W.cell? ⟨g,0,none⟩=some (.int .i64 e.kind):=m.cell 0;have k1:W.cell? ⟨g,1,none⟩=some (.int .i64 e.sh):=m.cell 1;have Y:W.cell? ⟨g,34,none⟩=some (.int .u64 e.am):=(m.cell 34).trans (a6I b).1;have K:W.cell? ⟨g,35,none⟩=some (.int .i64 e.why):=(m.cell 35).trans (a6I b).2.1;have I:W.cell? ⟨g,36,none⟩=some (.int .i64 e.ep):=(m.cell 36).trans (a6I b).2.2;have U:=P6 b3q a8Q m (off:=0) (a0x e) (a0u b) (by simp[Qb,a0u b]);have X:=c6p;obtain⟨r,hr,o⟩:=c1i b a3T W;have⟨z,Z⟩:=η0 ((a0x a4i).toArray);have⟨y,hy⟩:=η0 ((a0x e).toArray);have j:=λh=>c0V (o.1 h)
 have⟨b1,O⟩:=η0 (decide (1<=e.kind/\e.kind<=3));have⟨b2,H⟩:=η0 (decide (0<=e.sh/\e.sh<=63));have⟨b4,N⟩:=η0 (decide (0<=e.why/\e.why<=63));have⟨b5,Q⟩:=η0 (decide (0<=e.ep/\e.ep<=1099511627776))
 have V:a0D e=(b1&&(b2&&(decide (e.am<=4611686018427387904)&&(b4&&b5)))):=by
  rw[<-O,<-H,<-N,<-Q];unfold a0D;simp only[Bool.decide_and,Bool.and_assoc]
 have E:=a6k e.kind 1 3 W;have F:=a6k e.sh 0 63 W;have D:=a6k e.why 0 63 W;have G:=a6k e.ep 0 1099511627776 W;rw[O]at E;rw[H]at F;rw[N]at D;rw[Q]at G
 generalize S:a0D e=R at V j⊢
 rw[hy]at p hr U⊢;rw[Z]at hr X;obtain⟨a,s,tx,am,wy,ep⟩:=e;simp only at k0 k1 Y K I E F D G j⊢;have⟨HW,HG,d,B,v⟩:=η5 p J T j V;clear p J T m o Z hy b V O H N Q j S;go_enter func233,ntmps233;go_upto_region 1 with fail
 rw[HW.o,HG.o]
 cases r with
 |
  true=>
  go_wp2;go_ret;exact⟨by rw[show R=false from B.o ρp];rfl,d.o⟩
 |
  false=>
  clear B;go_wp2_with fail;refine μi E ?_;intro w' f;rw[<-f];clear f E
  cases b1 with
  |
   false=>
   go_wp2;go_ret;exact⟨by rw[v.o];simp,d.o⟩
  |
   true=>
   go_wp2_with fail;refine μi F ?_;intro w' f;rw[<-f];clear f F
   cases b2 with
   |
    false=>
    go_wp2;go_ret;exact⟨by rw[v.o];simp,d.o⟩
   |
    true=>
    by_cases h3:am<=4611686018427387904
    ·go_wp2_with fail
     refine μi D ?_;intro w' f;rw[<-f];clear f D
     cases b4 with
     |
      false=>
      go_wp2;go_ret;exact⟨by rw[v.o];simp,d.o⟩
     |
      true=>
      go_wp2_with fail;refine μi G ?_;intro w' f;rw[<-f];clear f G;go_wp2;go_ret;exact⟨by rw[v.o];simp[h3],d.o⟩
    go_wp2;go_ret;exact⟨by rw[v.o];simp[show¬am<=4611686018427387904 by omega],d.o⟩
theorem a2f(h:a0Q)(b:h.Bd)(w:WD):
  Calls prog 47 #[.agg (a0b h).toArray] w λx w'=>x=.returned (.bool (a0w h))/\Below w w w':=by
 have o:=Qd w 37 (a0b h).toArray;have N:=ρb w (.cells (a0b h).toArray 37);have⟨W,p⟩:=η0 (w.alloc (.cells (a0b h).toArray 37));have⟨g,H⟩:=ηs w;rw[p]at N;rw[p,H]at o;have k0:W.cell? ⟨g,0,none⟩=some (.int .i64 h.sh):=o.cell 0;have k1:W.cell? ⟨g,1,none⟩=some (.int .i64 h.ht):=o.cell 1;have k2:W.cell? ⟨g,2,none⟩=some (.int .i64 h.ep):=o.cell 2;have Q:=P6 a1S a1h o (off:=0) (a0b h) (a0f b) (by simp[Qb,a0f b]);have T:=b2Y;obtain⟨r,E,j⟩:=b7O b a1A W;have⟨z,V⟩:=η0 ((a0b a1y).toArray);have⟨y,X⟩:=η0 ((a0b h).toArray);have f:=λe=>b8v (j.1 e)
 have⟨b1,I⟩:=η0 (decide (0<=h.sh/\h.sh<=63));have⟨Y,G⟩:=η0 (decide (1<=h.ht/\h.ht<=1099511627776));have⟨b3,O⟩:=η0 (decide (0<=h.ep/\h.ep<=1099511627776))
 have S:a0w h=(b1&&(Y&&b3)):=by
  rw[<-I,<-G,<-O];unfold a0w;simp only[Bool.decide_and,Bool.and_assoc]
 have B:=a7P h.sh 0 63 W;have F:=a7P h.ht 1 1099511627776 W;have D:=a7P h.ep 0 1099511627776 W;rw[I]at B;rw[G]at F;rw[O]at D
 generalize J:a0w h=R at S f⊢
 rw[X]at p E Q⊢;rw[V]at E T;obtain⟨a,s,ep,prev,root⟩:=h;simp only at k0 k1 k2 B F D f⊢;have⟨Z,U,d,v,K⟩:=η5 p H N f S;clear p H N o j V X b S I G O f J
 cases r with
 |
  true=>
  rw[Bool.not_true]at E;go_enter func47,ntmps47;go_upto_region 1 with fail
  rw[Z.o,U.o];go_wp2;go_ret;exact⟨by rw[show R=false from v.o ρp];rfl,d.o⟩
 |
  false=>
  rw[Bool.not_false]at E;clear v;go_enter func47,ntmps47;go_upto_region 1 with fail
  rw[Z.o,U.o];go_wp2_with fail;refine μi B ?_;intro w' m;rw[<-m];clear m B
  cases b1 with
  |
   false=>
   go_wp2;go_ret;exact⟨by rw[K.o];simp,d.o⟩
  |
   true=>
   go_wp2_with fail;refine μi F ?_;intro w' m;rw[<-m];clear m F
   cases Y with
   |
    false=>
    go_wp2;go_ret;exact⟨by rw[K.o];simp,d.o⟩
   |
    true=>
    go_wp2_with fail;refine μi D ?_;intro w' m;rw[<-m];clear m D;go_wp2;go_ret;exact⟨by rw[K.o];simp,d.o⟩
end
section
attribute [local go_sem ↓] a2t a2s a2n a6i a3w
theorem b7K(b:LI):a0R b=a3x (1::(a6s b.length++b)):=by
 unfold a0R a1K a3m
 simp
theorem b7d(A:OA)(c:Nat)(j:A=none->c=0)(b:LI)(w:WD)(a:Byt w A b)(d:b.length<=400000000)(f:a2x w):
  Calls prog 267 #[.slice A b.length c] w λe w'=>e=.returned (.agg (bys (a0R b)).toArray)/\Below w w w':=by
 obtain⟨z,O,H⟩:=Q8.1 b9C;have I:=Pc (t:=31) z O w;have⟨Z,hZ⟩:=η0 z.cells;rw[hZ]at I H;have Q:Z.size=32:=by rw[<-QD,H];rfl
 have Y:=Qd w 31 Z;have G:=ρb w (.cells Z 31);have⟨W,T⟩:=η0 (w.alloc (.cells Z 31));have⟨g,x⟩:=ηs w;rw[T]at G I;rw[T,x]at Y;rw[x]at I;have J:=ρb W (.cells #[.slice A b.length c] 22);have v:=Qd W 22 #[.slice A b.length c];have r:=(f.below G).below J;have p:=(a.below G).below J
 generalize E:W.alloc (.cells #[.slice A b.length c] 22)=w2 at v r p J
 have y:=a8z 1 ρo W.heap.size 0 1 A c j b w2 v.lt (v.cell 0) p d r;rw[<-b7K]at y
 generalize ad:b.length=np at E⊢
 have⟨D,U⟩:=η0 (a0R b);have B:(bys D).length=32:=by rw[a0a,<-U];exact(Dig.leaf b).1
 rw[U]at y⊢;have N:=G.trans (J.mono G.size);have⟨o,HW,HG,K,ac,HZ,aa,ab⟩:=η8 B T x G Y Q E J;clear B U T x G Y Q E J r p v O H hZ N ad d a f;go_enter func267,ntmps267;go_upto_region 1 with fail
 go_wp2_with fail;rw[aa.o];refine μi y ?_;intro w3 S;have m:=φt ab S;have F:=φf ac m;have V:=Pa (t:=31) a5m F (off:=0) (bys D) o.o (by rw[HZ.o];omega) (a0h _);rw[a0q _ _ (by rw[o.o,HZ.o])]at V;have⟨R,X⟩:=η2 m F;clear y S m F;go_wp2;exact bodyPost_ret (a0c rfl _ _ g 31 (bys D) _ rfl (X.row_ _) a5g rfl (ρy o.o a5m)) rfl ⟨rfl,Ql (K.trans (R.mono K.size)) (by rw[HG.o];omega) _⟩
theorem b3b(a b:LI)(d:Dig a)(f:Dig b)(w:WD)(g:a2x w):
  Calls prog 269 #[.agg (bys a).toArray,.agg (bys b).toArray] w λe w'=>e=.returned (.agg (bys (a1n a b)).toArray)/\Below w w w':=by
 have b1:=Qd w 31 (bys a).toArray;have B1:=ρb w (.cells (bys a).toArray 31)
 generalize B:w.alloc (.cells (bys a).toArray 31)=W1 at b1 B1
 have b2:=Qd W1 31 (bys b).toArray;have B2:Below w w (W1.alloc (.cells (bys b).toArray 31)):=B1.alloc B1.size _;have U:=b1.alloc (.cells (bys b).toArray 31)
 generalize H:W1.alloc (.cells (bys b).toArray 31)=W2 at b2 B2 U
 obtain⟨z,ag,S⟩:=Q8.1 b9C;have F:=Pc (t:=31) z ag W2;have⟨Z,hZ⟩:=η0 z.cells;rw[hZ]at F S;have ab:Z.size=32:=by rw[<-QD,S];rfl
 have bz:=Qd W2 31 Z;have B3:Below w w (W2.alloc (.cells Z 31)):=B2.alloc B2.size _;have ba:=U.alloc (.cells Z 31);have bb:=b2.alloc (.cells Z 31)
 generalize hW:W2.alloc (.cells Z 31)=W at bz B3 ba bb F
 have⟨p,r⟩:=ηs w;have⟨G,J⟩:=ηs W1;have⟨gz,I⟩:=ηs W2;rw[r]at ba;rw[J]at bb;rw[I]at bz F;have al:(bys a).length=32:=by rw[a0a,d.1]
 have ak:(bys b).length=32:=by rw[a0a,f.1]
 have v:(bys (a1n a b)).length=32:=by rw[a0a];exact(Dig.node a b).1
 have⟨D,hD⟩:=η0 (a1n a b)
 have m:∀(X:WD) (g':Nat) (l:LI),Dig l->Blk X g' 31 (bys l).toArray->Byt X (some ⟨g',0,none⟩) l:=λX g' l hl ah=>
  ⟨λ_=>⟨g',0,rfl,ah.lt,λj x hx=>by rw[QP,ah.cell j];simp[bys,hx]⟩,hl.2⟩
 have ai:∀X,Below W W X->Calls prog 105 #[.int .u8 2,.slice (some ⟨X.heap.size,0,none⟩) 2 2] (X.alloc (.cells #[.slice p 32 32,.slice G 32 32] 22)) λe w'=>e=.returned (.agg (bys D).toArray)/\Below X.heap.size X w':=λX hX=>by
  have hk:=Qd X 22 #[.slice p 32 32,.slice G 32 32];have hB:=ρb X (.cells #[.slice p 32 32,.slice G 32 32] 22);have aa:=(ba.fr (Q9 hX) (ρh ba.lt)).alloc (.cells #[.slice p 32 32,.slice G 32 32] 22);have Y:=(bb.fr (Q9 hX) (ρh bb.lt)).alloc (.cells #[.slice p 32 32,.slice G 32 32] 22)
  have hT:b8s (X.alloc (.cells #[.slice p 32 32,.slice G 32 32] 22)) (some ⟨X.heap.size,0,none⟩) [.slice p 32 32,.slice G 32 32] [a,b]:=⟨rfl,λ_=>⟨X.heap.size,0,rfl,hk.lt,λj x hx=>by rw[QP,hk.cell j];simpa using hx⟩,λi h h'=>by
   obtain rfl | rfl:i=0\/i=1:=by simp at h;omega
   ·exact⟨some ⟨p,0,none⟩,32,by simp[d.1],m _ _ _ d aa,by simp⟩
   exact⟨some ⟨G,0,none⟩,32,by simp[f.1],m _ _ _ f Y,by simp⟩⟩
  have:=b1c 2 ρo (some ⟨X.heap.size,0,none⟩) 2 _ [a,b] _ hT (λi h h' k V _=>by
   obtain rfl | rfl:i=0\/i=1:=by simp at h;omega
   ·have:p=k:=by simpa[Value.ownBlock]using V
    have:=aa.lt
    omega
   ·have:G=k:=by simpa[Value.ownBlock]using V
    have:=Y.lt
    omega) ρp (by simp[d.1,f.1]) (by
   intro l hl;simp only[Qo,Qt,or_false]at hl
   rcases hl with rfl | rfl
   ·exact d.2
   exact f.2) (((g.below B3).below hX).below hB)
  refine this.mono ?_;rintro e w' ⟨rfl,ao⟩;exact⟨by rw[<-hD];rfl,hB.trans (ao.mono ρp)⟩
 rw[hD]at v⊢;have T:Below W W W.drew:=(Qf _ W).drew;have⟨ya,O⟩:=η0 ((bys a).toArray);have⟨yb,N⟩:=η0 ((bys b).toArray);rw[O]at B⊢;rw[N]at H⊢;have⟨E,az,av,ac,ax,aB,ae,ar⟩:=η8 v B H r J I B3 bz;have⟨HZ,aj⟩:=η2 ab ai;have aq:p<=gz:=by rw[<-r,<-I];exact B2.size
 have Q:W1.heap.size=w.heap.size+1:=by rw[<-B];simp
 rw[<-H,<-B]at F;rw[J,r]at Q;subst Q;have ay:=λX=>Pi b1w i5 X p ρo
 have aA:=λX=>Pi b1w i5 X (p+1) ρo
 clear B H r J I B3 bz ab ai v hD O N m b1 B1 b2 B2 U ba bb ag S hZ al ak d f g hW;go_enter func269,ntmps269;go_upto_region 1 with fail
 rw[ac.o];refine a0s [(0,3),(1,3),(2,2),(3,2),(4,2)] (λ_=>True) ρk ρk ρk ρk trivial ?_;refine ε2 ?_;refine τ1 ?_;have hu:=aj.o W.drew T;rw[show W.drew.heap.size=W.heap.size from rfl,show∀o,W.drew.alloc o=(W.alloc o).drew from λ_=>rfl]at hu;refine τ ?_;intro K hK;refine μi hu ?_;intro w3 ad;have y:=T.trans (ad.mono T.size);have R:=φf ar y;have an:=Pa (t:=31) a5m R (off:=0) (bys D) E.o (by rw[HZ.o];omega) (a0h _);rw[a0q _ _ (by rw[E.o,HZ.o])]at an;have⟨af,au⟩:=η2 y R;clear hu ad y R;with_reducible refine hK _ _ ?_;clear hK K
 refine τ1 ?_;refine ν ?_;go_wp2;exact bodyPost_ret (a0c rfl _ _ gz 31 (bys D) _ rfl (au.row_ _) a5g rfl (ρy E.o a5m)) rfl ⟨rfl,Ql (ae.trans (af.mono ae.size)) (ρy ac.o aq) _⟩
end
section
theorem b7T{t:TI}{a b:Field}{m:Nat}(d:P.underlying t=some (.struct #[a,b]))
  (hz:((P.info? t).bind (·.zero)).map (·.cells.size)=some (n+m)) (h0:(P.info? a.type).map (·.size)=some n) (h1:(P.info? b.type).map (·.size)=some m) (o0:a.offset=0) (o1:b.offset=n)
  (w:WD) (v0 v1:VL) (hv0:v0.cells.size=n) (hv1:v1.cells.size=m):
  (BDs t #[(0,v0),(1,v1)]).run P w=.ok (.agg (v0.cells++v1.cells)) w:=by
 refine run_build w t _ _ ?_;obtain⟨z,g,f⟩:=Q8.1 hz;obtain⟨i,p,j⟩:=Option.bind_eq_some_iff.1 g;obtain⟨y,q0,v⟩:=Q8.1 h0;obtain⟨B,q1,x⟩:=Q8.1 h1;unfold Program.built;simp only[p,d,j,Zg,List.mapM_nil,q0,q1,v,x,o0,o1,Option.map_some,Option.bind_eq_bind,Option.bind_some,Option.pure_def];rw[a9W _ _ 0 0 n v0 _ ρp hv0 ρo,a9W _ _ 1 n m v1 _ ρp hv1 (by rw[a6n _ _ _ (by simp[hv0];omega)];omega)];simp only[Instr.fill,Option.some.injEq]
 apply ZM
 have o:v0.cells.toList.length=n:=ρw hv0;have r:v1.cells.toList.length=m:=ρw hv1;simp[a1d,o,r,QR,f]
abbrev b6z:=bdOf 189
theorem zPt:(((prog.info? 189).bind (·.zero)).map (·.cells.size))=some (32+1):=ρk
theorem d0b:(prog.info? 3).map (·.size)=some 1:=ρk
theorem d2G(a:tx.length=32)(ix:Int)(w:WD):(BDs 189 #[(0,.agg (bys tx).toArray),(1,.int .i64 ix)]).run prog w=.ok (.agg (ptL tx ix).toArray) w:=by
 obtain⟨j,g,f,t0,t1,b,d,_,_⟩:=d2g
 have:=b7T (P:=prog) f zPt (ρy t0 iId) (ρy t1 d0b) b d w (.agg (bys tx).toArray) (.int .i64 ix) (by simp[Value.cells,a0a,a]) rfl
 rw[this];simp[Value.cells,ptL]
theorem b1N:(((prog.info? 31).bind (·.zero)).map (·.cells.size))=some 32:=ρk
attribute [local go_sem ↓] a6W a8U a9c a1F a2t a2s a2n b6z c0I
def b0N(t:TxD)(n:Int):Bool:=decide (a1a t=0/\okN n=true)
theorem a9q(a:OA)(f:Nat)(b:OA)(j:Nat)(t:TxD)(n:Int)(y:-9223372036854775808<=n/\n<=9223372036854775807)(w:WD)(h:a9H w a b t)(m:a2x w)(r:t.ins.length<=1000000)(o:t.outs.length<=1000000):
  Calls prog 207 #[.agg (txV a f b j t),.int .i64 n] w λe w'=>∃v u,e=.returned (.tuple #[v,u,.bool (b0N t n)])/\a8x w w' v (a2P t n)/\a8x w w' u (a2K t n)/\Below w w w':=by
 have b0:=Qd w 53 (txV a f b j t);have B0:=ρb w (.cells (txV a f b j t) 53);have⟨W,hW⟩:=η0 (w.alloc (.cells (txV a f b j t) 53));have⟨g,hg⟩:=ηs w;rw[hW]at B0;rw[hW,hg]at b0;have al:g<W.heap.size:=b0.lt;have hT:=h.below B0
 have ah:∀X,Below W W X->X.cell? ⟨g,0,none⟩=some (.slice a t.ins.length f)/\X.cell? ⟨g,1,none⟩=some (.slice b t.outs.length j)/\X.cell? ⟨g,2,none⟩=some (.int .u64 t.fee)/\X.cell? ⟨g,3,none⟩=some (.int .i64 t.exp):=λX hX=>
  ⟨(hX.cell (p:=⟨g,0,none⟩) al).trans (b0.cell 0),(hX.cell (p:=⟨g,1,none⟩) al).trans (b0.cell 1),(hX.cell (p:=⟨g,2,none⟩) al).trans (b0.cell 2),(hX.cell (p:=⟨g,3,none⟩) al).trans (b0.cell 3)⟩
 obtain⟨q0,q1,q2,q3⟩:=ah W (Qf _ _);have aM:=a3L a f b j t W hT r o;have hid:=λX (hX:Below W W X)=>a2v a f b j t X (hT.below hX) ((m.below B0).below hX) r o
 have au:=m.below B0;have⟨HW,HG,K,V,HT,an,aL,J⟩:=η8 hW hg B0 ah hT hid au aM;clear hW hg B0 b0 h ah hT aM r o al hid au m;have⟨R,hR⟩:=η0 (a1a t);rw[hR]at J;have HR:=η1 hR;clear hR
 by_cases aa:R=0/\okN n=true
 ·obtain⟨rfl,H⟩:=aa
  have bu:1<=n/\n<=64:=by simpa[okN]using H
  have a7:¬n<1:=ρo;have ba:¬64<n:=ρo;have B:a2P t n=t.ins.map λi=>ofO i.tx i.ix n:=by unfold a2P;rw[if_pos ⟨HR.o,H⟩]
  have z:a2K t n=(List.range t.outs.length).map λk=>ofO (idP t) (k:Nat) n:=by unfold a2K;rw[if_pos ⟨HR.o,H⟩]
  have af:b0N t n=true:=by unfold b0N;rw[decide_eq_true_eq];exact⟨HR.o,H⟩
  rw[B,z,af];clear af;obtain⟨ae,_⟩:=a4S HR;obtain⟨⟨aO,aK⟩,⟨aW,aU⟩,_,aj⟩:=a4R ae;have T:(idP t).length=32:=a3b t;have aG:=a5f t;have⟨D,hD⟩:=η0 (idP t);rw[hD]at T aG an;rw[hD];clear B z hD;obtain⟨B,z,aN⟩:=HT.o;have ax:=aN.ins;obtain⟨ins,outs,fee,exp⟩:=t;simp only at aO aK aW aU aj B z ax;have⟨n1,S⟩:=η0 ins.length;have⟨n2,ac⟩:=η0 outs.length;obtain⟨Z,a8,aP⟩:=Pg (t:=191) iIn zIn;obtain⟨Y,bh,aS⟩:=Pg (t:=31) iId b1N;unfold txV at HW J an⊢;simp only[S,ac]at HW V J an q0 q1 q2 q3⊢;rw[S]at aO aK;rw[ac]at aW aU;have⟨aR,HI,be,bt,bs,bc,bf,bx⟩:=η8 S B ax aj aP aS aG H;clear S ac B z ax aj aP aS ae aN HT aG HR H;go_enter func207,ntmps207;go_upto_region 1 with fail
  rw[HW.o,HG.o];go_wp2_with fail;refine μi J.o ?_;intro w1 F;have O:=η1 F;clear q0 q1 q2 q3;obtain⟨q0,q1,q2,q3⟩:=V.o w1 F;clear F;go_upto_region 4 with fail
  clear q0 q1 q2 q3;go_loopg [4,8,9,10,29] n1 (λkk v _ _ _ s wr=>∃i:Nat,i+kk=n1/\s=.int .i64 i/\a8x W wr v ((ins.map λi=>ofO i.tx i.ix n).take i)/\Below W W wr);exact⟨0,by omega,rfl,by rw[List.take_zero];exact a2X.nil _ _ _ _,O.o⟩;obtain⟨i,hi,rfl,hv,N⟩:=hrel;obtain⟨Av,Nv,cv,rfl⟩:=hv.formN
  by_cases a9:i<n1
  ·have ak:(i:Int)<n1:=ρo
   have aI:i<ins.length:=by rw[aR.o];exact a9
   obtain⟨g',off,As,cs,rfl,bv,aX⟩:=HI.below N i aI;have E:=be.o _ (Qu aI);have bm:=a2e uIn iIn wr g' (off+i*35) (inV ins[i] As cs) (a3l E _ _) aX.cell;have a2:=bs.o wr (inV ins[i] As cs) (a3l E _ _) (a8W _ _ _);have b5:=Qd wr 191 (inV ins[i] As cs).toArray;have aH:=a0g uPt iPt b5 (off:=0) (ptL ins[i].tx ins[i].ix) (a1x E.len _) (b5d E As cs);have B5:=N.alloc N.size (.cells (inV ins[i] As cs).toArray 191);have aA:a8x W (wr.alloc (.cells (inV ins[i] As cs).toArray 191)) (.slice Av Nv cv) ((ins.map λi=>ofO i.tx i.ix n).take i):=a2X.alloc hv _
   have Q:(ins.map λi=>ofO i.tx i.ix n).take (i+1)=(ins.map λi=>ofO i.tx i.ix n).take i++[ofO ins[i].tx ins[i].ix n]:=by
    rw[Qe (ρw aI)];simp
   have ag:((ins.map λi=>ofO i.tx i.ix n).take i).length<=16:=by simp;omega
   generalize bk:wr.alloc (.cells (inV ins[i] As cs).toArray 191)=W5 at a2 b5 aH B5 aA
   have⟨d,hd⟩:=ηs wr;rw[hd]at aH b5;have G:=b2T ins[i].tx E.len E.tx ins[i].ix n E.ix y W5 (aL.below B5);have⟨xs,aY⟩:=η0 ((inV ins[i] As cs).toArray);have⟨ps,ad⟩:=η0 ((ptL ins[i].tx ins[i].ix).toArray);have⟨x,hx⟩:=η0 (ofO ins[i].tx ins[i].ix n);have⟨bb,ab⟩:=η0 (okO ins[i].ix n);rw[aY]at bm a2;rw[ad]at aH G;rw[hx]at G Q;rw[ab]at G;have⟨bo,aZ,HD,av,aF⟩:=η5 aA B5 hd Q ag;clear hv N aX E b5 B5 aA Q ag aY ad hx ab bk hd;go_upto_region 6 with fail
   rw[HD.o];go_wp2_with fail;refine μi G ?_;intro w6 I;obtain⟨A',N',c',w7,bl,ho,ai⟩:=d2o (ty:=202) (a2X.keep bo I) x (ρh aF.o) (Qk aZ.size I.size);rw[<-av.o]at ho;have⟨HO,aE⟩:=η2 ho ((φt aZ I).trans ai);clear ho I ai G;go_wp2;go_roundg (n1-(i+1));exact⟨i+1,by omega,by go_num,HO.o,aE.o⟩;omega
  obtain rfl:n1=i:=ρo;have ak:¬(n1:Int)<n1:=ρo;rw[Qb (by rw[Qw,aR.o];exact Qg _)]at hv;obtain⟨q0,q1,q2,q3⟩:=V.o wr N;have ar:=an.o wr N;obtain⟨wo,bp⟩:∃wo,wo=wr:=⟨_,rfl⟩;subst bp;have⟨HV,HB⟩:=η2 hv N;clear hv N a8;go_wp2_with fail;refine μi ar ?_;intro w2 ay;have az:(bys D).length=32:=by rw[a0a,T]
  have aQ:=bc.o w2 (bys D) az (a0h _);have b3:=Qd w2 31 (bys D).toArray;have aJ:=φt HB ay;have B3:=ρb w2 (.cells (bys D).toArray 31);have aD:a8x W (w2.alloc (.cells (bys D).toArray 31)) (.slice Av Nv cv) (ins.map λi=>ofO i.tx i.ix n):=a2X.keep (a2X.keep HV ay) B3;have ao:=aJ.trans (B3.mono aJ.size)
  generalize bn:w2.alloc (.cells (bys D).toArray 31)=W3 at aQ b3 B3 aD ao
  have⟨dd,aB⟩:=ηs w2;rw[aB]at b3;obtain⟨a6,a4,bi,bg⟩:=V.o W3 ao;have⟨ds,aC⟩:=η0 ((bys D).toArray);rw[aC]at aQ;have⟨aT,bq,bj,U,a3,aV⟩:=η6 aC aB b3 ao aD az;clear b3 aJ B3 aD ao ay ar HV HB bn az aC aB q0 q1 q2 q3;rw[aT.o];go_upto_region 11 with fail
  rw[bq.o];clear a6 a4 bi bg bh;go_loopg [5,12,13,14,50] n2 (λkk u _ _ _ s wr=>∃k:Nat,k+kk=n2/\s=.int .i64 k/\a8x W3 wr u (((List.range n2).map λk=>ofO D (k:Nat) n).take k)/\Below W3 W3 wr);exact⟨0,by omega,rfl,by rw[List.take_zero];exact a2X.nil _ _ _ _,Qf _ _⟩;obtain⟨k,hk,rfl,hu,N⟩:=hrel;obtain⟨Au,Nu,cu,rfl⟩:=hu.formN
  by_cases a1:k<n2
  ·have ak:(k:Int)<n2:=ρo
   have a0:=φf bj N;have a5:=a0g a2i iId a0 (off:=0) (bys D) aV.o (by simp[Qb,aV.o]);have aq:=d2G T (k:Int);have G:=b2T D T bf.o (k:Int) n ρo y wr (aL.below (φt U N));rw[aT.o]at a5 aq
   have Q:((List.range n2).map λk=>ofO D (k:Nat) n).take (k+1)=((List.range n2).map λk=>ofO D (k:Nat) n).take k++[ofO D (k:Nat) n]:=by
    rw[Qe (ρw a1)];simp
   have ag:(((List.range n2).map λk=>ofO D (k:Nat) n).take k).length<=16:=by simp;omega
   have⟨ps,ad⟩:=η0 ((ptL D (k:Int)).toArray);have⟨x,hx⟩:=η0 (ofO D (k:Int) n);have⟨bb,ab⟩:=η0 (okO (k:Int) n);rw[ad]at G aq;rw[hx]at G Q;rw[ab]at G;have⟨HU,HB,av,aF⟩:=η4 hu N Q ag;clear hu N Q ag ad hx ab a0;go_wp2_with fail;refine μi G ?_;intro w6 I;obtain⟨A',N',c',w7,bl,ho,ai⟩:=d2o (ty:=202) (a2X.keep HU I) x (ρh aF.o) (Qk HB.size I.size);rw[<-av.o]at ho;have⟨HO,aE⟩:=η2 ho ((φt HB I).trans ai);clear ho I ai G;go_wp2;go_roundg (n2-(k+1));exact⟨k+1,by omega,by go_num,HO.o,aE.o⟩;omega
  obtain rfl:n2=k:=ρo;have ak:¬(n2:Int)<n2:=ρo;rw[Qb ρp]at hu;have⟨HU,HB⟩:=η2 hu N;clear hu N;go_wp2;go_ret3;exact⟨_,_,rfl,(a2X.keep a3 HB).base K.size,HU.base (Qk K.size U.size),(K.trans (U.mono K.size)).trans (HB.mono (Qk K.size U.size))⟩
 have B:a2P t n=[]:=by unfold a2P;rw[if_neg (ρy HR.o aa)]
 have z:a2K t n=[]:=by unfold a2K;rw[if_neg (ρy HR.o aa)]
 have af:b0N t n=false:=by unfold b0N;rw[decide_eq_false_iff_not,HR.o];exact aa
 rw[B,z,af];unfold txV at HW J⊢;clear B z af
 by_cases br:R=0
 ·subst br
  have bw:n<1\/64<n:=by
   have:¬okN n=true:=λh=>aa ⟨rfl,h⟩
   simp only[okN,decide_eq_true_eq]at this;omega
  clear aa
  by_cases a7:n<1
  ·go_enter func207,ntmps207
   go_upto_region 1 with fail
   rw[HW.o,HG.o];go_wp2_with fail;refine μi J.o ?_;intro w1 F;have O:=η1 (φt K F);clear F;go_wp2;go_ret3;exact⟨_,_,rfl,a2X.nil _ _ _ _,a2X.nil _ _ _ _,O.o⟩
  have ba:64<n:=ρo;go_enter func207,ntmps207;go_upto_region 1 with fail
  rw[HW.o,HG.o];go_wp2_with fail;refine μi J.o ?_;intro w1 F;have O:=η1 (φt K F);clear F;go_wp2;go_ret3;exact⟨_,_,rfl,a2X.nil _ _ _ _,a2X.nil _ _ _ _,O.o⟩
 go_enter func207,ntmps207;go_upto_region 1 with fail
 rw[HW.o,HG.o];go_wp2_with fail;refine μi J.o ?_;intro w1 F;have O:=η1 (φt K F);clear F;go_wp2;go_ret3;exact⟨_,_,rfl,a2X.nil _ _ _ _,a2X.nil _ _ _ _,O.o⟩
end
section
attribute [local go_sem ↓] a1W a1l a3j a5P b0a a8b a1B
theorem c1s{e:a1P}(h:e.Bd):((a0x e).toArray.toList.drop 2).take 32=bys e.tx:=by
 have a:(bys e.tx).length=32:=by rw[a0a,h.tx.1]
 unfold a0x;simp only[QG,QF,ZQ,Zs];rw[QJ ρo,Qb ρo]
theorem a5H(e:a1P)(a:e.Bd)(w:WD):
  Calls prog 178 #[.agg (a0x e).toArray] w λx w'=>∃v,x=.returned (.tuple #[v,.bool (a0D e)])/\a0N w w' v (if a0D e=true then a5V e else [])/\Below w w w':=by
 have b0:=Qd w 34 (a0x e).toArray;have B0:=ρb w (.cells (a0x e).toArray 34);have⟨W,hW⟩:=η0 (w.alloc (.cells (a0x e).toArray 34));have⟨g,hg⟩:=ηs w;rw[hW]at B0;rw[hW,hg]at b0;have Y:∀X,Below W W X->Blk X g 34 (a0x e).toArray:=λX hX=>b0.fr (Q9 hX) (λh=>by have:=b0.lt;omega)
 have ac:=P6 b3q a8Q b0 (off:=0) (a0x e) (a0u a) (by simp[Qb,a0u a]);have D:=a9B e a W;have⟨HW,HG,S⟩:=η3 hW hg B0;have aZ:g<W.heap.size:=b0.lt
 by_cases hr:a0D e=true
 ·obtain⟨⟨r1,r2⟩,⟨r3,r4⟩,r5,⟨r6,r7⟩,r8,r9⟩:=(b2B e).1 hr
  have ah:=a.am.1;rw[if_pos hr];rw[hr]at D⊢;have T:=a6I a;have aj:=c1s a;have z:=a.tx;have d:=a0u a;obtain⟨ka,sa,tx,am,wy,ep⟩:=e;simp only at r1 r2 r3 r4 r5 r6 r7 r8 r9 ah T aj z;obtain⟨F,rfl⟩:=a1C (show 0<=ka by omega);obtain⟨G,rfl⟩:=a1C r3;obtain⟨na,rfl⟩:=a1C ah;obtain⟨J,rfl⟩:=a1C r6;obtain⟨ne,rfl⟩:=a1C r8;have wk:IntKind.u64.wrap (F:Int)=F:=by rw[IntKind.wrap_u64];omega
  have ws:IntKind.u64.wrap (G:Int)=G:=by rw[IntKind.wrap_u64];omega
  have ww:IntKind.u64.wrap (J:Int)=J:=by rw[IntKind.wrap_u64];omega
  have we:IntKind.u64.wrap (ne:Int)=ne:=by rw[IntKind.wrap_u64];omega
  have m1:=a0p (n:=F) ρo;have m2:=a0p (n:=G) ρo;have m3:=a0p (n:=na) ρo;have m4:=a0p (n:=J) ρo;have m5:=a0p (n:=ne) ρo;have m6:=z.1
  have ar:∀X,Below W W X->(X.cell? ⟨g,0,none⟩=some (.int .i64 F)/\X.cell? ⟨g,1,none⟩=some (.int .i64 G)/\(LDs 31 (.pointer (some ⟨g,2,none⟩))).run prog X=.ok (.agg (bys tx).toArray) X/\
    X.cell? ⟨g,34,none⟩=some (.int .u64 na)/\X.cell? ⟨g,35,none⟩=some (.int .i64 J)/\X.cell? ⟨g,36,none⟩=some (.int .i64 ne)):=λX hX=>by
   have hb:=Y X hX;exact⟨hb.cell 0,hb.cell 1,a0g a2i iId hb (off:=2) (bys tx) (by rw[a0a,z.1]) aj,(hb.cell 34).trans T.1,(hb.cell 35).trans T.2.1,(hb.cell 36).trans T.2.2⟩
  have B:=η1 ar;clear ar
  generalize hy:(a0x ⟨(F:Int),(G:Int),tx,(na:Int),(J:Int),(ne:Int)⟩).toArray=y at HW ac D⊢
  have K:a5V ⟨(F:Int),(G:Int),tx,(na:Int),(J:Int),(ne:Int)⟩=[]++a0K F++a0K G++tx++a0K na++a0K J++a0K ne:=by simp[a5V]
  rw[K]
  have aI:∀x∈[]++a0K F++a0K G++tx++a0K na++a0K J++a0K ne,0<=x/\x<=255:=by
   intro x hx;simp only[Qq,Qt,false_or]at hx
   rcases hx with((((h | h) | h) | h) | h) | h
   ·exact a0L ρo x h
   ·exact a0L ρo x h
   ·exact z.2 x h
   ·exact a0L ρo x h
   ·exact a0L ρo x h
   exact a0L ρo x h
  have aV:=η1 aI;clear hW hg B0 b0 Y a hr T aj hy d K aI r1 r3 r6 r8 ah;go_enter func178,ntmps178;go_upto_region 1 with fail
  rw[HW.o,HG.o];go_wp2_with fail;refine μi D ?_;intro w1 H;have aa:a3Z w1 (w1.alloc (.cells #[.slice none 0 0] 123)) w1.heap.size (.slice none 0 0) []:=⟨Qd w1 _ _,Qg _,a0N.nil _ _⟩;have R:=ρb w1 (.cells #[.slice none 0 0] 123);have⟨w2,ag⟩:=η0 (w1.alloc (.cells #[.slice none 0 0] 123));have⟨p,b⟩:=ηs w1;rw[ag]at aa R;rw[b]at aa R;have ab:p<=w2.heap.size:=by rw[<-b];exact R.size
  have af:W.heap.size<=p:=by rw[<-b];exact H.size
  have ad:Below W W w2:=H.trans (R.mono af);have⟨aN,HP,ax,I⟩:=η4 ag b ad af;have⟨v0,aK⟩:=η0 (Value.slice none 0 0);have⟨l0,ae⟩:=η0 ([]:LI);rw[aK,ae]at aa;have⟨al,ak⟩:=η2 aa ae.symm;clear ag b aa H R ad af D ac aK ae;go_upto_region 4 with fail
  rw[aN.o,HP.o];have aP:=B.o w2 ax;obtain⟨q0,q1,V,o,f,m⟩:=aP;have c0:=a2M p p v0 l0 F ρo w2 al.o (by rw[ak.o];simp only[Qv];omega) ab;go_wp2_with fail;refine μ1 c0 ?_;rintro e w3 ⟨rfl,⟨v1,b,r⟩,E⟩;have j:=a1j al E ab;have Q:p<=w3.heap.size:=Qk ab j.size;have aB:=η1 (ax.trans (j.mono I));have⟨l1,d⟩:=η0 (l0++a0K F);rw[d]at b;have⟨aL,ay⟩:=η2 b (show l1=[]++a0K F from by rw[<-d,ak.o]);clear b r E j d c0 q0 q1 V o f m;have aW:=B.o w3 aB;obtain⟨q0,q1,V,o,f,m⟩:=aW;have c1:=a2M p p v1 l1 G ρo w3 aL.o (by rw[ay.o];simp only[Qa,Qv];omega) Q;go_wp2_with fail;refine μ1 c1 ?_;rintro e w4 ⟨rfl,⟨v2,b,r⟩,E⟩;have j:=a1j aL E Q;have U:p<=w4.heap.size:=Qk Q j.size;have aF:=η1 (aB.trans (j.mono I));have⟨l2,d⟩:=η0 (l1++a0K G);rw[d]at b;have⟨an,aA⟩:=η2 b (show l2=[]++a0K F++a0K G from by rw[<-d,ay.o])
  clear b r E j d c1 q0 q1 V o f m;have aO:=B.o w4 aF;obtain⟨q0,q1,V,o,f,m⟩:=aO;have c2:=a5S p p v2 l2 tx z.1 z.2 w4 an.o (by rw[aA.o];simp only[Qa,Qv];omega) U;go_wp2_with fail;refine μ1 c2 ?_;rintro e w5 ⟨rfl,⟨v3,b,r⟩,E⟩;have j:=a1j an E U;have N:p<=w5.heap.size:=Qk U j.size;have aJ:=η1 (aF.trans (j.mono I));have⟨l3,d⟩:=η0 (l2++tx);rw[d]at b;have⟨au,aH⟩:=η2 b (show l3=[]++a0K F++a0K G++tx from by rw[<-d,aA.o]);clear b r E j d c2 q0 q1 V o f m;have aU:=B.o w5 aJ;obtain⟨q0,q1,V,o,f,m⟩:=aU;have c3:=a2M p p v3 l3 na ρo w5 au.o (by rw[aH.o];simp only[Qa,Qv];omega) N;go_wp2_with fail;refine μ1 c3 ?_;rintro e w6 ⟨rfl,⟨v4,b,r⟩,E⟩;have j:=a1j au E N;have Z:p<=w6.heap.size:=Qk N j.size;have aq:=η1 (aJ.trans (j.mono I));have⟨l4,d⟩:=η0 (l3++a0K na);rw[d]at b
  have⟨av,ao⟩:=η2 b (show l4=[]++a0K F++a0K G++tx++a0K na from by rw[<-d,aH.o]);clear b r E j d c3 q0 q1 V o f m;have aX:=B.o w6 aq;obtain⟨q0,q1,V,o,f,m⟩:=aX;have c4:=a2M p p v4 l4 J ρo w6 av.o (by rw[ao.o];simp only[Qa,Qv];omega) Z;go_wp2_with fail;refine μ1 c4 ?_;rintro e w7 ⟨rfl,⟨v5,b,r⟩,E⟩;have j:=a1j av E Z;have O:p<=w7.heap.size:=Qk Z j.size;have aD:=η1 (aq.trans (j.mono I));have⟨l5,d⟩:=η0 (l4++a0K J);rw[d]at b;have⟨aG,aE⟩:=η2 b (show l5=[]++a0K F++a0K G++tx++a0K na++a0K J from by rw[<-d,ao.o]);clear b r E j d c4 q0 q1 V o f m;have aS:=B.o w7 aD;obtain⟨q0,q1,V,o,f,m⟩:=aS;have c5:=a2M p p v5 l5 ne ρo w7 aG.o (by rw[aE.o];simp only[Qa,Qv];omega) O;go_wp2_with fail;refine μ1 c5 ?_;rintro e w8 ⟨rfl,⟨v6,b,r⟩,E⟩;have j:=a1j aG E O;have aY:p<=w8.heap.size:=Qk O j.size
  have az:=η1 (aD.trans (j.mono I));have⟨l6,d⟩:=η0 (l5++a0K ne);rw[d]at b;have⟨aR,ai⟩:=η2 b (show l6=[]++a0K F++a0K G++tx++a0K na++a0K J++a0K ne from by rw[<-d,aE.o]);clear b r E j d c5 q0 q1 V o f m;have c6:=a4A p p v6 l6 (ρy ai.o aV.o) w8 aR.o (by rw[ai.o];simp only[Qa,Qv];omega);go_wp2_with fail;refine μ1 c6 ?_;rintro e w9 ⟨v7,rfl,ho,aM⟩;have⟨HO,aQ⟩:=η2 ho (φt az aM);clear c6 ho aM;go_wp2;go_ret2;refine⟨v7,rfl,?_,S.trans (aQ.mono S.size)⟩;have e6:=ai.o;rw[QF]at e6;rw[<-e6];exact HO.base (Qk S.size az.size)
 rw[if_neg hr];have aC:a0D e=false:=ρw hr;rw[aC]at D⊢
 generalize hy:(a0x e).toArray=y at HW ac D⊢
 clear hW hg B0 b0 Y a hr aC hy;go_enter func178,ntmps178;go_upto_region 1 with fail
 rw[HW.o,HG.o];go_wp2_with fail;refine μi D ?_;intro w1 H;have aT:=η1 H;clear H D ac;go_wp2;go_ret2;exact⟨_,rfl,a0N.nil _ _,S.trans (aT.mono S.size)⟩
theorem b2u{h:a0Q}(a:h.Bd):((a0b h).toArray.toList.drop 3).take 32=bys h.prev:=by
 have b:(bys h.prev).length=32:=by rw[a0a,a.prev.1]
 unfold a0b;simp only[QG,QF,ZQ,Zs];rw[QJ ρo,Qb ρo]
theorem b2l{h:a0Q}(a:h.Bd):((a0b h).toArray.toList.drop 35).take 32=bys h.root:=by
 have d:(bys h.prev).length=32:=by rw[a0a,a.prev.1]
 have b:(bys h.root).length=32:=by rw[a0a,a.root.1]
 unfold a0b;simp only[QG,QF,ZQ];rw[Zw ρo,QQ ρo,QF,Qb ρo]
theorem a3A(h:a0Q)(a:h.Bd)(w:WD):
  Calls prog 51 #[.agg (a0b h).toArray] w λx w'=>∃v,x=.returned (.tuple #[v,.bool (a0w h)])/\a0N w w' v (if a0w h=true then a2a h else [])/\Below w w w':=by
 have b0:=Qd w 37 (a0b h).toArray;have B0:=ρb w (.cells (a0b h).toArray 37);have⟨W,hW⟩:=η0 (w.alloc (.cells (a0b h).toArray 37));have⟨g,hg⟩:=ηs w;rw[hW]at B0;rw[hW,hg]at b0;have S:∀X,Below W W X->Blk X g 37 (a0b h).toArray:=λX hX=>b0.fr (Q9 hX) (λh=>by have:=b0.lt;omega)
 have U:=P6 a1S a1h b0 (off:=0) (a0b h) (a0f a) (by simp[Qb,a0f a]);have m:=a2f h a W;have⟨HW,HG,O⟩:=η3 hW hg B0;have aT:g<W.heap.size:=b0.lt
 by_cases hr:a0w h=true
 ·obtain⟨⟨r1,r2⟩,⟨r3,r4⟩,r5,r6⟩:=(a3B h).1 hr
  rw[if_pos hr];rw[hr]at m⊢;have ai:=b2u a;have ag:=b2l a;have D:=a.prev;have F:=a.root;obtain⟨sa,ta,ep,prev,root⟩:=h;simp only at r1 r2 r3 r4 r5 r6 ai ag D F;obtain⟨f,rfl⟩:=a1C r1;obtain⟨j,rfl⟩:=a1C (show 0<=ta by omega);obtain⟨ne,rfl⟩:=a1C r5;have ws:IntKind.u64.wrap (f:Int)=f:=by rw[IntKind.wrap_u64];omega
  have wt:IntKind.u64.wrap (j:Int)=j:=by rw[IntKind.wrap_u64];omega
  have we:IntKind.u64.wrap (ne:Int)=ne:=by rw[IntKind.wrap_u64];omega
  have m1:=a0p (n:=f) ρo;have m2:=a0p (n:=j) ρo;have m3:=a0p (n:=ne) ρo;have m4:=D.1;have m5:=F.1
  have ar:∀X,Below W W X->(X.cell? ⟨g,0,none⟩=some (.int .i64 f)/\X.cell? ⟨g,1,none⟩=some (.int .i64 j)/\X.cell? ⟨g,2,none⟩=some (.int .i64 ne)/\
    (LDs 31 (.pointer (some ⟨g,3,none⟩))).run prog X=.ok (.agg (bys prev).toArray) X/\(LDs 31 (.pointer (some ⟨g,35,none⟩))).run prog X=.ok (.agg (bys root).toArray) X):=λX hX=>by
   have a:=S X hX;exact⟨a.cell 0,a.cell 1,a.cell 2,a0g a2i iId a (off:=3) (bys prev) (by rw[a0a,D.1]) ai,a0g a2i iId a (off:=35) (bys root) (by rw[a0a,F.1]) ag⟩
  have T:=η1 ar;clear ar;have⟨y,hy⟩:=η0 ((a0b ⟨(f:Int),(j:Int),(ne:Int),prev,root⟩).toArray);rw[hy]at HW U m⊢;have G:a2a ⟨(f:Int),(j:Int),(ne:Int),prev,root⟩=[]++a0K f++a0K j++a0K ne++prev++root:=by simp[a2a]
  rw[G]
  have aC:∀x∈[]++a0K f++a0K j++a0K ne++prev++root,0<=x/\x<=255:=by
   intro x hx;simp only[Qq,Qt,false_or]at hx
   rcases hx with(((h | h) | h) | h) | h
   ·exact a0L ρo x h
   ·exact a0L ρo x h
   ·exact a0L ρo x h
   ·exact D.2 x h
   exact F.2 x h
  have aP:=η1 aC;clear hW hg B0 b0 S a hr ai ag hy G aC r1 r3 r5;go_enter func51,ntmps51;go_upto_region 1 with fail
  rw[HW.o,HG.o];go_wp2_with fail;refine μi m ?_;intro Z z;have Y:a3Z Z (Z.alloc (.cells #[.slice none 0 0] 123)) Z.heap.size (.slice none 0 0) []:=⟨Qd Z _ _,Qg _,a0N.nil _ _⟩;have J:=ρb Z (.cells #[.slice none 0 0] 123);have⟨w2,ac⟩:=η0 (Z.alloc (.cells #[.slice none 0 0] 123));have⟨p,hp⟩:=ηs Z;rw[ac]at Y J;rw[hp]at Y J;have aS:p<=w2.heap.size:=by rw[<-hp];exact J.size
  have ab:W.heap.size<=p:=by rw[<-hp];exact z.size
  have H:Below W W w2:=z.trans (J.mono ab);obtain⟨q0,q1,q2,_,_⟩:=T.o w2 H;have⟨aH,HP,ax,aj,aq⟩:=η5 ac hp H ab Y;clear ac hp Y z J H ab m U;go_upto_region 4 with fail
  rw[aH.o,HP.o];go_upto_region 5 with fail
  have⟨d,hd⟩:=ηs w2;have b3:=Qd w2 3 #[.int .i64 f,.int .i64 j,.int .i64 ne]
  have ae:a3Z p (w2.alloc (.cells #[.int .i64 f,.int .i64 j,.int .i64 ne] 3)) p (.slice none 0 0) []:=by
   have h0:=aq.o;exact⟨h0.st.alloc _,Qg _,a0N.nil _ _⟩
  have af:=ax.alloc ax.size (.cells #[.int .i64 f,.int .i64 j,.int .i64 ne] 3);have aQ:p<d:=by rw[<-hd];have h0:=aq.st.lt;omega
  rw[hd]at b3;have⟨w3,ak⟩:=η0 (w2.alloc (.cells #[.int .i64 f,.int .i64 j,.int .i64 ne] 3));rw[ak]at b3 ae af;rw[hd,ak]
  have aa:∀i,i<3->∃N:Nat,N<9223372036854775808/\(#[Value.int .i64 f,.int .i64 j,.int .i64 ne])[i]? =some (.int .i64 N)/\([f,j,ne].take (i+1)).flatMap a0K=([f,j,ne].take i).flatMap a0K++a0K N/\(([f,j,ne].take i).flatMap a0K).length<=100:=by
   intro i hi;obtain rfl | rfl | rfl:i=0\/i=1\/i=2:=ρo
   ·exact⟨f,by omega,rfl,by simp,by simp⟩
   ·exact⟨j,by omega,rfl,by simp,by simp;omega⟩
   exact⟨ne,by omega,rfl,by simp,by simp;omega⟩
  have⟨az,aF,aK,aM⟩:=η4 aa b3 ae af;clear aa b3 ae af hd ak q0 q1 q2;go_loopg [6,18] 3 (λkk _ s wr=>∃(i:Nat) (v:VL),i+kk=3/\s=.int .i64 i/\a3Z p wr p v (([f,j,ne].take i).flatMap a0K)/\Below W W wr/\Blk wr d 3 #[.int .i64 f,.int .i64 j,.int .i64 ne]/\v.ownBlock≠some d/\p<=wr.heap.size);exact⟨0,_,by omega,rfl,aK.o,aM.o,aF.o,by simp[Value.ownBlock],by have:=aF.lt;omega⟩;obtain⟨i,v,hi,rfl,b,hB,V,al,E⟩:=hrel
  by_cases aI:i<3
  ·have aR:(i:Int)<3:=ρo
   obtain⟨N,hN,I,K,ao⟩:=az.o i aI;have kc:wr.cell? ⟨d,i,none⟩=some (.int .i64 N):=(V.cell i).trans I;have wn:IntKind.u64.wrap (N:Int)=N:=by rw[IntKind.wrap_u64];omega
   have c1:=a2M p p v _ N ρo wr b ρo E;have⟨HN,R,HB,aN,aL⟩:=η5 K b hB V al;clear b hB V al I K ao;go_wp2_with fail;refine μ1 c1 ?_;rintro e w4 ⟨rfl,⟨v',B,aG⟩,hf⟩;have o:=a1j R hf E;have⟨HK,an⟩:=η2 (a8p (p:=p) ρo aL.o aN.o aG hf) (HB.trans (o.mono aj));have r:p<=w4.heap.size:=Qk E o.size;have ah:=η1 B;clear B aG hf o c1 kc;go_wp2;go_roundg (3-(i+1));exact⟨i+1,v',by omega,by go_num,by rw[HN.o];exact ah.o,an.o,HK.1,HK.2,r⟩;omega
  obtain rfl:i=3:=ρo;rw[show((3:Nat):Int)=3 from rfl];rw[show([f,j,ne].take 3).flatMap a0K=[]++a0K f++a0K j++a0K ne by simp]at b;obtain⟨q0,q1,q2,q3,ad⟩:=T.o wr hB;have c1:=a5S p p v _ prev D.1 D.2 wr b (by simp only[Qa,Qv];omega) E;have⟨R,HB⟩:=η2 b hB;clear b hB V al;go_wp2_with fail;refine μ1 c1 ?_;rintro e w4 ⟨rfl,⟨v4,B,_⟩,av⟩;have o:=a1j R av E;have Q:=HB.trans (o.mono aj);have r:p<=w4.heap.size:=Qk E o.size;clear q0 q1 q2 q3 ad;obtain⟨q0,q1,q2,q3,ad⟩:=T.o w4 Q;have c2:=a5S p p v4 _ root F.1 F.2 w4 B (by simp only[Qa,Qv];omega) r;have⟨ah,an⟩:=η2 B Q;clear B av o Q c1;go_wp2_with fail;refine μ1 c2 ?_;rintro e w5 ⟨rfl,⟨v5,aD,_⟩,au⟩;have aB:=a1j ah au r;have c3:=a4A p p v5 _ aP.o w5 aD (by simp only[Qa,Qv];omega);have aE:=η1 (an.trans (aB.mono aj));clear aD au aB c2 q0 q1 q2 q3 ad
  go_wp2_with fail;refine μ1 c3 ?_;rintro e w6 ⟨v6,rfl,ho,ay⟩;have⟨HO,aJ⟩:=η2 ho (φt aE ay);clear c3 ho ay;go_wp2;go_ret2;refine⟨v6,rfl,?_,O.trans (aJ.mono O.size)⟩;have h6:=HO.base (Qk O.size aE.size)
  simpa using h6
 rw[if_neg hr];have aA:a0w h=false:=ρw hr;rw[aA]at m⊢;have⟨y,hy⟩:=η0 ((a0b h).toArray);rw[hy]at HW U m⊢;clear hW hg B0 b0 S a hr aA hy;go_enter func51,ntmps51;go_upto_region 1 with fail
 rw[HW.o,HG.o];go_wp2_with fail;refine μi m ?_;intro Z z;have aO:=η1 z;clear z m U;go_wp2;go_ret2;exact⟨_,rfl,a0N.nil _ _,O.trans (aO.mono O.size)⟩
end
section
abbrev St:=Except Int LI
def a0o(most:Nat):St->Nat×St
 | .error x=>(0,.error x)
 |
  .ok l=>match a4K most l with
  | .error x=>(0,.error x)
  | .ok (v,r)=>(v,.ok r)
def a0C(most:Nat):St->LI×St
 | .error x=>([],.error x)
 |
  .ok l=>match a5L most l with
  | .error x=>([],.error x)
  | .ok (v,r)=>(v,.ok r)
def idT:St->LI×St
 | .error x=>(List.replicate 32 0,.error x)
 |
  .ok l=>match a8k l with
  | .error x=>(List.replicate 32 0,.error x)
  | .ok (v,r)=>(v,.ok r)
def d3f(x:Int):Prop:=(x != 0)=true/\(x == 0)=false
theorem a0P(most:Nat)(st:St):(a0o most st).1<=most:=by
 unfold a0o
 split
 ·simp
 split
 ·simp
 rename_i h
 exact(a3y (a5l.1 h)).1
def b5A(n:Nat):St->Prop
 | .error _=>True
 | .ok l=>l.length<=n
theorem a1b{st:St}(h:b5A n st):b5A n (a0o most st).2:=by
 unfold a0o
 split
 ·trivial
 split
 ·trivial
 rename_i h2
 exact Qk (a3y (a5l.1 h2)).2 h
theorem a3c{st:St}(h:b5A n st):b5A n (a0C most st).2:=by
 unfold a0C a5L
 cases st with
 | error x=>trivial
 |
  ok l=>
  simp only
  cases h2:a4K most l with
  | error x=>trivial
  |
   ok p=>
   obtain⟨v,r⟩:=p;have b:=(a3y (a5l.1 h2)).2;simp only
   by_cases a:r.length<v
   ·rw[if_pos a];trivial
   rw[if_neg a]
   show(r.drop v).length<=n
   rw[Yp];exact Qk (Nat.sub_le _ _) (Qk b h)
theorem a3o(most:Nat)(st:St):(a0C most st).1.length<=most:=by
 unfold a0C a5L
 cases st with
 | error x=>simp
 |
  ok l=>
  simp only
  cases h2:a4K most l with
  | error x=>simp
  |
   ok p=>
   obtain⟨v,r⟩:=p;have b:=(a3y (a5l.1 h2)).1;simp only
   by_cases a:r.length<v
   ·rw[if_pos a];simp
   rw[if_neg a];simp only[Qx];omega
theorem a3U{st:St}(h:b5A n st):b5A n (idT st).2:=by
 unfold idT a8k
 cases st with
 | error x=>trivial
 |
  ok l=>
  simp only
  by_cases a:l.length<32
  ·rw[if_pos a];trivial
  rw[if_neg a]
  show(l.drop 32).length<=n
  rw[Yp];exact Qk (Nat.sub_le _ _) h
theorem a1R(st:St):(idT st).1.length=32:=by
 unfold idT a8k
 cases st with
 | error x=>simp
 |
  ok l=>
  simp only
  by_cases a:l.length<32
  ·rw[if_pos a];simp
  rw[if_neg a];simp only[Qx];omega
def a9Q:St->Prop
 | .error _=>True
 | .ok l=>∀x∈l,0<=x/\x<=255
def d2P(w:WD)(A:OA)(ev:Int)(Al:OA)(nl cl:Nat):St->Prop
 | .error x=>ev=x/\d3f x
 | .ok r=>ev=0/\nl=r.length/\d0q w A Al cl r
def c3T(T:TI)(w:WD)(p s:Nat)(st:St):Prop:=
 match st with
 | .ok l=>∃A c,Blk w p T #[.slice A l.length c,.int .i64 0]/\Byt w A l/\l.length<=c/\(A=none->c=0)/\∀a,A=some a->a.block=s
 | .error x=>d3f x/\∃A n c,Blk w p T #[.slice A n c,.int .i64 x]
theorem c3T.fr{T:TI}{w d:WD}{p s:Nat}{st:St}{F:Nat->Prop}(h:c3T T w p s st)(b:Fr F w d)(f:¬F p)(g:¬F s):c3T T d p s st:=by
 cases st with
 |
  error x=>
  obtain⟨m,A,n,c,j⟩:=h;exact⟨m,A,n,c,j.fr b f⟩
 |
  ok l=>
  obtain⟨A,c,m,j,y,v,o⟩:=h;exact⟨A,c,m.fr b f,j.fr b (λa r _=>by rw[o a r];exact g),y,v,o⟩
theorem c3T.lt{T:TI}{w:WD}{p s:Nat}{st:St}(h:c3T T w p s st):p<w.heap.size:=by
 cases st with
 |
  error x=>
  obtain⟨_,A,n,c,a⟩:=h;exact a.lt
 |
  ok l=>
  obtain⟨A,c,b,_⟩:=h;exact b.lt
theorem c3T.far{b:TI}{st:St}(h:c3T T w p s st)(d:Blk w g b cs)(a:T≠b):p≠g:=by
 cases st with
 |
  error x=>
  obtain⟨_,A,n,c,f⟩:=h;exact f.ne_ d a
 |
  ok l=>
  obtain⟨A,c,j,_⟩:=h;exact j.ne_ d a
theorem c3T.of{f:WD}{m:Int}{cl:Nat}{st:St}(o:Blk f p T #[.slice d g cl,.int .i64 m])(v:d2P w A m d g cl st)(y:Fr (λk=>k=p) w f)(j:s≠p)(z:∀a,A=some a->a.block=s):c3T T f p s st:=by
 cases st with
 |
  error x=>
  obtain⟨rfl,h⟩:=v;exact⟨h,d,g,cl,o⟩
 |
  ok r=>
  obtain⟨rfl,rfl,B⟩:=v
  have E:∀a,d=some a->a.block=s:=λa D=>by
   obtain⟨b,F,G⟩:=B.blk a D;rw[G];exact z b F
  exact⟨d,cl,o,B.byt.fr y (λa D _ e=>j ((E a D).symm.trans e)),B.cap,B.nul,E⟩
attribute [local go_sem ↓] d2O d2y d2h d2p d1Y b6Y a2t a2s a2n
structure d3m(w:WD)(B:OA)(d s:Nat)(t:LI):Prop where
 byt:Byt w B t
 cap:t.length<=d
 nul:B=none->d=0
 blk:∀a,B=some a->a.block=s
theorem d3m.of{g:WD}{B:OA}{d:Nat}{t:LI}(h:d0q w A B d t)(j:Fr (λk=>k=p) w g)(f:s≠p)(m:∀a,A=some a->a.block=s):d3m g B d s t:=by
 have r:∀a,B=some a->a.block=s:=λa o=>by
  obtain⟨b,v,x⟩:=h.blk a o;rw[x];exact m b v
 exact⟨h.byt.fr j (λa o _ e=>f ((r a o).symm.trans e)),h.cap,h.nul,r⟩
end
section
attribute [local go_sem ↓] a6W a8U a9c a1B a3n
theorem a0N.formN(h:a0N B w v l):∃A N c,v=.slice A N c:=by
 obtain⟨A,c,e⟩:=h.form;exact⟨A,_,c,e⟩
theorem a0N.lenN{N:Nat}(h:a0N B w (.slice A N c) l):N=l.length:=by
 obtain⟨a,b,e⟩:=h.form;simp only[Value.slice.injEq]at e;exact e.2.1
theorem a0N.kept(h:a0N B w v l)(b:Below w w a):a0N B a v l:=h.fr (Q9 b) (λk hk f=>by have:=(h.lt hk).2;omega)
end
theorem d0j(a b:Nat)(d:a<256)(f:b<256):bits .xor .u8 (a:Int) (b:Int)=((a ^^^ b:Nat):Int):=by
 have m:a ^^^ b<2 ^ 8:=Nat.xor_lt_two_pow ρo ρo
 have g:(BitVec.ofInt 8 (a:Int)).toNat=a:=by
  rw[Yj,BitVec.toNat_ofNat];exact Nat.mod_eq_of_lt ρo
 have j:(BitVec.ofInt 8 (b:Int)).toNat=b:=by
  rw[Yj,BitVec.toNat_ofNat];exact Nat.mod_eq_of_lt ρo
 show IntKind.u8.wrap ((BitVec.ofInt 8 (a:Int) ^^^ BitVec.ofInt 8 (b:Int)).toNat:Int)=_
 rw[BitVec.toNat_xor,g,j,IntKind.wrap_u8];omega
theorem d1U(a b:Nat)(d:a<256)(f:b<256):bits .or .u8 (a:Int) (b:Int)=((a||| b:Nat):Int):=by
 have m:a||| b<2 ^ 8:=Nat.or_lt_two_pow ρo ρo
 have g:(BitVec.ofInt 8 (a:Int)).toNat=a:=by
  rw[Yj,BitVec.toNat_ofNat];exact Nat.mod_eq_of_lt ρo
 have j:(BitVec.ofInt 8 (b:Int)).toNat=b:=by
  rw[Yj,BitVec.toNat_ofNat];exact Nat.mod_eq_of_lt ρo
 show IntKind.u8.wrap ((BitVec.ofInt 8 (a:Int)||| BitVec.ofInt 8 (b:Int)).toNat:Int)=_
 rw[BitVec.toNat_or,g,j,IntKind.wrap_u8];omega
theorem c6b{a b:Int}(d:0<=a/\a<=255)(f:0<=b/\b<=255):bits .xor .u8 a b=0↔a=b:=by
 obtain⟨n,rfl⟩:=a1C d.1;obtain⟨m,rfl⟩:=a1C f.1;rw[d0j n m ρo ρo]
 have:n ^^^ m=0↔n=m:=by
  constructor
  ·intro h
   have g:n ^^^ (n ^^^ m)=n ^^^ 0:=by rw[h]
   rw[<-Nat.xor_assoc,Nat.xor_self,Nat.zero_xor,Nat.xor_zero]at g;exact g.symm
  rintro rfl;exact Nat.xor_self _
 omega
theorem c7F{a b:Int}(d:0<=a/\a<=255)(f:0<=b/\b<=255):bits .or .u8 a b=0↔a=0/\b=0:=by
 obtain⟨n,rfl⟩:=a1C d.1;obtain⟨m,rfl⟩:=a1C f.1;rw[d1U n m ρo ρo]
 have:n||| m=0↔n=0/\m=0:=Nat.or_eq_zero_iff
 omega
theorem a8i(a b:LI)(f:Dig a)(m:Dig b)(w:WD):
  Calls prog 48 #[.agg (bys a).toArray,.agg (bys b).toArray] w λe w'=>e=.returned (.bool (decide (a=b)))/\Below w w w':=by
 have b1:=Qd w 31 (bys a).toArray;have V:=ρb w (.cells (bys a).toArray 31)
 generalize z:w.alloc (.cells (bys a).toArray 31)=W1 at b1 V
 have P:=Qd W1 31 (bys b).toArray;have B2:Below w w (W1.alloc (.cells (bys b).toArray 31)):=V.alloc V.size _;have y:=b1.alloc (.cells (bys b).toArray 31)
 generalize T:W1.alloc (.cells (bys b).toArray 31)=W at P B2 y
 rw[show W1.heap.size=w.heap.size+1 by rw[<-z];simp]at P;rw[<-z]at T;have⟨g,hg⟩:=ηs w;rw[hg]at y P
 have H:∀j,j<32->W.cell? ⟨g,j,none⟩=some (.int .u8 (a.getD j 0)):=λj p=>by
  rw[y.cell j];simp[bys,List.getD,show j<a.length by rw[f.1];exact p]
 have E:∀j,j<32->W.cell? ⟨g+1,j,none⟩=some (.int .u8 (b.getD j 0)):=λj p=>by
  rw[P.cell j];simp[bys,List.getD,show j<b.length by rw[m.1];exact p]
 have S:∀j,j<32->0<=a.getD j 0/\a.getD j 0<=255:=λj p=>f.2 _ (by simp[List.getD,show j<a.length by rw[f.1];exact p])
 have F:∀j,j<32->0<=b.getD j 0/\b.getD j 0<=255:=λj p=>m.2 _ (by simp[List.getD,show j<b.length by rw[m.1];exact p])
 have⟨R,hR⟩:=η0 (decide (a=b))
 have G:R=true↔∀j,j<32->a.getD j 0=b.getD j 0:=by
  rw[<-hR,decide_eq_true_eq]
  constructor
  ·rintro rfl j _;rfl
  intro h
  apply ZE (by rw[f.1,m.1])
  intro j U X
  have:=h j (ρz f.1 U)
  simpa[List.getD,U,X]using this
 rw[hR];have⟨ya,D⟩:=η0 ((bys a).toArray);have⟨yb,B⟩:=η0 ((bys b).toArray);rw[D,B]at T;rw[D,B];have⟨ad,Z,af,ab,HR,HW,HG,J⟩:=η8 H E S F G T hg B2;clear H E S F G T hg B2 hR D B b1 V P y z f m;go_enter func48,ntmps48;go_upto_region 3 with fail
 rw[HW.o,HG.o];go_loopg [5,6,7] 32 (λkk v _ s wr=>∃(i:Nat) (x:Int),i+kk=32/\s=.int .i64 i/\v=.int .u8 x/\(0<=x/\x<=255)/\(x=0↔∀j,j<i->a.getD j 0=b.getD j 0)/\∃q,wr=W.drewN q);exact⟨0,0,by omega,rfl,rfl,by omega,⟨λ_ j p=>ρo,λ_=>rfl⟩,0,rfl⟩;obtain⟨i,x,hi,rfl,rfl,hx,o,q,rfl⟩:=hrel
 by_cases r:i<32
 ·have ag:(i:Int)<32:=ρo
  have k1:=ad.o i r;have k2:=Z.o i r;have p1:=af.o i r;have Y:=ab.o i r;have⟨c,hc⟩:=η0 (a.getD i 0);have⟨d,hd⟩:=η0 (b.getD i 0);rw[hc]at k1 p1;rw[hd]at k2 Y;have I:=c6b p1 Y;have N:0<=bits .xor .u8 c d/\bits .xor .u8 c d<=255:=⟨bits_lo_u8 _ _ _,bits_hi_u8 _ _ _⟩;have Q:=c7F hx N;have⟨ae,ac,K,HC,HD⟩:=η5 Q I o hc hd;clear I N Q o hc hd p1 Y;go_wp2_with fail;go_quiet (fail)
  all_goals
   go_wp2;go_roundg (32-(i+1))
   case measure=>omega
   refine⟨i+1,bits .or .u8 x (bits .xor .u8 c d),by omega,by go_num,rfl,⟨bits_lo_u8 _ _ _,bits_hi_u8 _ _ _⟩,?_,_,(by first | rfl | exact World.drewN_drewN _ _ _)⟩;rw[ae.o,ac.o,K.o]
   constructor
   ·rintro⟨U,X⟩ j p
    by_cases e:j=i
    ·subst e;rw[HC.o,HD.o];exact X
    exact U j ρo
   intro h;exact⟨λj p=>h j ρo,by rw[<-HC.o,<-HD.o];exact h i ρo⟩
 obtain rfl:i=32:=ρo;rw[show((32:Nat):Int)=32 from rfl]
 have O:R=(x == 0):=by
  rw[Bool.eq_iff_iff,HR.o,beq_iff_eq];exact o.symm
 have aa:=η1 O;clear O o;go_wp2;go_ret;exact⟨by rw[aa.o];first | rfl | simp,⟨J.os,J.tape,J.output,J.size,J.block⟩⟩
abbrev c4Y:=bdOf 31
theorem d2K(w:WD):(BDs 31 #[]).run prog w=.ok (.agg (bys (List.replicate 32 0)).toArray) w:=run_build w _ _ _ ρk
end Go.Proofs.YtpolljfkceanaaaGreatDoor
