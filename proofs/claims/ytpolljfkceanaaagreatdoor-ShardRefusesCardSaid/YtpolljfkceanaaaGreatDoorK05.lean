/-
  Contracts of functions, plain laws.
-/
import Derived.Test.YtpolljfkceanaaaGreatDoorK04
namespace Go.Proofs.YtpolljfkceanaaaGreatDoor
open Go.RowKit Go.Shelf Go.Maps Go.Proofs.Tryz
set_option maxRecDepth 100000
set_option maxHeartbeats 64000000
variable {cs:AV}{x:Int}{d k l:LI}{L:LL}{B N c cap g i j most n p s v:Nat}{A:OA}{P:PG}{t ty:TI}{a b w:WD}
set_option linter.all false
theorem a4q{t:TxD}(n:Int):(a2P t n).length<=16:=by
 unfold a2P
 split
 ·rename_i h
  have:=(a4R (a4S h.1).1).1
  rw[Qw];exact this.2
 simp
theorem a8y{t:TxD}(n:Int):(a2K t n).length<=16:=by
 unfold a2K
 split
 ·rename_i h
  have:=(a4R (a4S h.1).1).2.1
  rw[Qw,List.length_range];exact this.2
 simp
theorem b3B{n:Int}(h:∀x∈l,0<=x/\x<n/\n<=64):∀x∈l,0<=x/\x<64:=λx hx=>by have:=h x hx;omega
theorem a8x.rd{B N c:Nat}{w:WD}{A:OA}{l:LI}(h:a8x B w (.slice A N c) l):RdW .i64 w A l:=by
 obtain⟨d,b,e,a,_⟩:=a2X.rd h;simp only[Value.slice.injEq]at e;rw[e.1];exact a
theorem b7x(a:OA)(d:Nat)(b:OA)(f:Nat)(t:TxD)(n:Int)(r:-9223372036854775808<=n/\n<=9223372036854775807)(w:WD)(h:a9H w a b t)(j:a2x w)(p:t.ins.length<=1000000)(o:t.outs.length<=1000000):
  Calls prog 214 #[.agg (txV a d b f t),.int .i64 n] w λe w'=>∃A c,e=.returned (.slice A (a2V (a2P t n)).length c)/\RdW .i64 w' A (a2V (a2P t n))/\Below w w w':=by
 have y:=Qd w 53 (txV a d b f t);have B:=ρb w (.cells (txV a d b f t) 53);have⟨W,G⟩:=η0 (w.alloc (.cells (txV a d b f t) 53));have⟨g,J⟩:=ηs w;rw[G]at B;rw[G,J]at y;have q0:W.cell? ⟨g,0,none⟩=some (.slice a t.ins.length d):=y.cell 0;have q1:W.cell? ⟨g,1,none⟩=some (.slice b t.outs.length f):=y.cell 1;have q2:W.cell? ⟨g,2,none⟩=some (.int .u64 t.fee):=y.cell 2;have q3:W.cell? ⟨g,3,none⟩=some (.int .i64 t.exp):=y.cell 3;have x:=a9q a d b f t n r W (h.below B) (j.below B) p o;have⟨U,HG,I⟩:=η3 G J B;clear G J B y h j p o;unfold txV at U x⊢;go_enter func214,ntmps214;go_upto_region 1 with fail
 rw[U.o,HG.o];go_wp2_with fail;refine μ1 x ?_;rintro e X ⟨v,u,rfl,H,T,z⟩;obtain⟨Z,Y,cv,rfl⟩:=H.formN;obtain⟨Au,Nu,cu,rfl⟩:=T.formN;have V:=b8i W.heap.size Z Y cv (a2P t n) X H (b3B (c0g t n)) (by have:= @a4q t n;omega);have⟨HV,F⟩:=η2 H z;clear H T z x;go_wp2_with fail;refine μ1 V ?_;rintro e w2 ⟨A',c',rfl,S,R⟩;have D:=F.trans (a2X.step HV R F.size);have⟨Q,N⟩:=η2 S (φt I D);clear S R D V;have⟨E,K⟩:=η0 (a2V (a2P t n));rw[K]at Q;have P:=η1 K;clear K;rw[P.o];have⟨m,O⟩:=η0 E.length;have HM:=η1 O;rw[O];clear O;go_wp2;go_ret;exact⟨A',c',by rw[P.o,HM.o];rfl,by rw[P.o];exact Q.o,N.o⟩
theorem a6O(a:OA)(d:Nat)(b:OA)(f:Nat)(t:TxD)(n s:Int)(p:-9223372036854775808<=n/\n<=9223372036854775807)(w:WD)(h:a9H w a b t)(j:a2x w)(o:t.ins.length<=1000000)(m:t.outs.length<=1000000):
  Calls prog 155 #[.agg (txV a d b f t),.int .i64 n,.int .i64 s] w λe w'=>∃v u,e=.returned (.tuple #[v,u])/\a8x w w' v (a0M (a2P t n) s)/\a8x w w' u (a0M (a2K t n) s)/\Below w w w':=by
 have E:=Qd w 53 (txV a d b f t);have J:=ρb w (.cells (txV a d b f t) 53);have⟨W,P⟩:=η0 (w.alloc (.cells (txV a d b f t) 53));have⟨g,S⟩:=ηs w;rw[P]at J;rw[P,S]at E;have q0:W.cell? ⟨g,0,none⟩=some (.slice a t.ins.length d):=E.cell 0;have q1:W.cell? ⟨g,1,none⟩=some (.slice b t.outs.length f):=E.cell 1;have q2:W.cell? ⟨g,2,none⟩=some (.int .u64 t.fee):=E.cell 2;have q3:W.cell? ⟨g,3,none⟩=some (.int .i64 t.exp):=E.cell 3;have B:=a9q a d b f t n p W (h.below J) (j.below J) o m;have⟨HW,HG,y⟩:=η3 P S J;clear P S J E h j o m;unfold txV at HW B⊢;go_enter func155,ntmps155;go_upto_region 1 with fail
 rw[HW.o,HG.o];go_wp2_with fail;refine μ1 B ?_;rintro e F ⟨v,u,rfl,R,Q,H⟩;obtain⟨Av,Nv,cv,rfl⟩:=R.formN;obtain⟨Au,Nu,cu,rfl⟩:=Q.formN;have G:=b2z Av Nv cv (a2P t n) s F R.rd R.lenN (by have:= @a4q t n;omega);have r:=λX (hX:Below F F X)=>b2z Au Nu cu (a2K t n) s X (Q.rd.below hX) Q.lenN (by have:= @a8y t n;omega)
 have⟨N,Y⟩:=η2 H r;clear R Q H B r;go_wp2_with fail;refine μ1 G ?_;rintro e w2 ⟨v2,rfl,I,z⟩;have r:=Y.o w2 z;have⟨V,O⟩:=η2 I (φt N z);have Z:F.heap.size<=w2.heap.size:=z.size;clear G I z;go_wp2_with fail;refine μ1 r ?_;rintro e w3 ⟨v3,rfl,K,D⟩;have x:a8x F w3 v2 (a0M (a2P t n) s):=a2X.keep V D;have⟨x,T,U⟩:=η3 x K (φt O D);clear K D r;go_wp2;go_ret2;exact⟨_,_,rfl,a2X.base x (Qk y.size N.size),a2X.base T (Qk y.size O.size),y.trans (U.mono y.size)⟩
section
theorem u89:prog.underlying 244=some (.array 64 5):=ρk
attribute [local go_sem ↓] a3w
def b1D(y:Int)(l:LI)(i:Nat):LI:=a2L y (l.take i)++l.drop i
theorem b8O(y:Int)(l:LI):b1D y l 0=l:=by simp[b1D,a2L]
theorem c2r(y:Int)(h:l.length=n):b1D y l n=a2L y l:=by subst h;simp[b1D]
theorem c2n(y:Int)(hi:i<l.length):(b1D y l i)[i]? =some (l.getD i 0):=by
 unfold b1D a2L;rw[QL (by simp[QY (Nat.le_of_lt hi)])];simp[QY (Nat.le_of_lt hi),List.getD,hi]
theorem c1E(y:Int)(hi:i<l.length):(bys (b1D y l i)).toArray.setIfInBounds i (.int .u8 (bits .xor .u8 (l.getD i 0) y))=(bys (b1D y l (i+1))).toArray:=by
 rw[Yd]
 congr 1
 unfold b1D a2L bys;rw[Qe hi,List.drop_eq_getElem_cons hi];simp only[QV,Yl,List.map_nil,QC];rw[List.set_append_right _ _ (by simp[QY (Nat.le_of_lt hi)])];simp[QY (Nat.le_of_lt hi),List.getD,hi]
theorem b1M(l:LI)(a:l.length=64)(y:Int)(w:WD):
  Calls prog 133 #[.agg (bys l).toArray,.int .u8 y] w λe w'=>∃g,e=.returned (.slice (some ⟨g,0,none⟩) 64 64)/\w.heap.size<=g/\Blk w' g 244 (bys (a2L y l)).toArray/\Below w w w':=by
 have r:=Qd w 244 (bys l).toArray;have G:=ρb w (.cells (bys l).toArray 244);have⟨W,j⟩:=η0 (w.alloc (.cells (bys l).toArray 244));have⟨g,D⟩:=ηs w;rw[j]at G;rw[j,D]at r;have sl:=λX=>Pi u89 i5 X g ρo
 have⟨z,H⟩:=η0 ((bys l).toArray);rw[<-b8O y l]at r;rw[H]at j⊢;have⟨N,E,B,d⟩:=η4 j D G r;clear j D G r H;go_enter func133,ntmps133;go_upto_region 2 with fail
 rw[N.o,E.o];go_loopg [5,6] 64 (λK _ s wr=>∃i:Nat,i+K=64/\s=.int .i64 i/\Blk wr g 244 (bys (b1D y l i)).toArray/\Below w w wr);exact⟨0,by omega,rfl,d.o,B.o⟩;obtain⟨i,hi,rfl,b,v⟩:=hrel
 by_cases x:i<64
 ·have I:(i:Int)<64:=ρo
  have o:i<l.length:=by rw[a];exact x
  have O:wr.cell? ⟨g,i,none⟩=some (.int .u8 (l.getD i 0)):=(b.cell i).trans (by simp only[QE,a3J,c2n y o];rfl);have S:=b.frozen i;have f:=c1E y o;have⟨c,J⟩:=η0 (l.getD i 0);rw[J]at O f;have⟨m,d,F⟩:=η3 f b v;clear f b v J;go_wp2;go_roundg (64-(i+1))
  case measure=>omega
  refine⟨i+1,by omega,by go_num,?_,?_⟩
  ·rw[<-m.o];exact d.set_ i _
  exact Fr.below ((Q9 F.o).setCell (p:=⟨g,i,none⟩) (λh=>by have e:=E.o;have R:g<w.heap.size:=h;omega) _) (Qg _) (λk Q e=>ρo)
 obtain rfl:i=64:=ρo;rw[show((64:Nat):Int)=64 from rfl];rw[c2r y a]at b;have⟨d,F⟩:=η2 b v;clear b v;go_wp2;go_ret;exact⟨g,rfl,by rw[E.o];exact Qg _,d.o,F.o⟩
theorem a9o(h:k.length<=64):a7V k=k++List.replicate (64-k.length) 0:=by
 unfold a7V d0A;rw[if_neg ρo]
theorem d2W:(((prog.info? 244).bind (·.zero)).map (·.cells.toList))=some (List.replicate 64 (.int .u8 0)):=ρk
theorem c5H:(prog.info? 244).map (·.size)=some 64:=ρk
theorem d1J:(prog.underlying 244).map a1f=some true:=ρk
abbrev b7U:=ldOf 244
abbrev b7m:=stOf 244
abbrev b7n:=alOf 244
theorem b8w(h:k.length<=64):a1d (List.replicate 64 (Value.int .u8 0)).toArray 0 (bys k)=(bys (a7V k)).toArray:=by
 rw[a9o h];obtain⟨n,a⟩:∃n,n=64:=⟨_,rfl⟩;rw[<-a];unfold a1d;simp[bys,QV,List.drop_replicate]
section
attribute [local go_sem ↓] b7U b7m b7n b7o
theorem c4N(A:OA)(c:Nat)(k:LI)(b:k.length<=64)(f:0<k.length)(w:WD)(d:Byt w A k):
  Calls prog 131 #[.slice A k.length c] w λe w'=>e=.returned (.agg (bys (a7V k)).toArray)/\Below w w w':=by
 obtain⟨z,E,F⟩:=Q8.1 d2W;have B:=Pc (t:=244) z E w;have hZ:z.cells=(List.replicate 64 (Value.int .u8 0)).toArray:=by rw[<-F]
 rw[hZ]at B;have H:=Qd w 244 (List.replicate 64 (Value.int .u8 0)).toArray;have J:=ρb w (.cells (List.replicate 64 (Value.int .u8 0)).toArray 244);have⟨W,Q⟩:=η0 (w.alloc (.cells (List.replicate 64 (Value.int .u8 0)).toArray 244));have⟨g,G⟩:=ηs w;rw[Q]at J B;rw[Q,G]at H;rw[G]at B;obtain⟨I,o,rfl,Z,p⟩:=(d.below J).cell f;have U:=d.bd;have sl:=λX=>Pi u89 i5 X g ρo
 have r:∀j,(⟨I,o,none⟩:Addr).add j=⟨I,o+j,none⟩:=λj=>d1E I o j
 have y:=c0H (P:=prog) (dT:=22) (sT:=22) (ty:=3) Tryz.underlying22 i5 H (o:=0) (dLen:=64) (dCap:=64) (a:=⟨I,o,none⟩) (sLen:=k.length) (sCap:=c) (bys k) (by rw[a0a];exact(QY b).symm)
  (λj v hv=>by
   rw[r,];rw[a3J]at hv;obtain⟨x,hx,rfl⟩:=Q8.1 hv;exact p j x hx) (by simp[a0a];omega) (a0h _)
 rw[b8w b,a0a]at y;have b1:=H.row_ (bys (a7V k)).toArray;have T:Below w w (W.setRow g (bys (a7V k)).toArray):=Ql J ρo _
 generalize K:W.setRow g (bys (a7V k)).toArray=W1 at y b1 T
 have m:(bys (a7V k)).length=64:=by rw[a0a,b0g]
 have Y:=P6 d1J c5H b1 (off:=0) (bys (a7V k)) m (by simp[Qb,m]);have D:=Pa (t:=244) c5H b1 (off:=0) (bys (a7V k)) m (by simp[m]) (a0h _);rw[a0q _ _ ρp]at D
 generalize R:bys (a7V k)=ys at b1 Y D m⊢
 have O:¬((64:Int)<(k.length:Int)):=ρo
 generalize hn:k.length=n at y O b⊢
 have⟨V,HG,S,N⟩:=η4 T G b1 m;clear E F hZ H J Q G Z p d U r R hn m b1 T K f;go_enter func131,ntmps131;go_upto_region 1 with fail
 go_wp2;exact bodyPost_ret (a0c rfl _ _ g 244 ys _ rfl (S.row_ _) u89 rfl (ρy N.o c5H)) rfl ⟨rfl,Ql V.o (by rw[HG.o];exact Qg _) _⟩
theorem c4z(A:OA)(c:Nat)(w:WD):
  Calls prog 131 #[.slice A 0 c] w λe w'=>e=.returned (.agg (bys (a7V [])).toArray)/\Below w w w':=by
 obtain⟨z,j,m⟩:=Q8.1 d2W;have b:=Pc (t:=244) z j w;have E:bys (a7V [])=List.replicate 64 (Value.int .u8 0):=by rw[a9o ρp];simp[bys]
 have F:z.cells=(bys (a7V [])).toArray:=by rw[E,<-m]
 rw[F]at b;have d:=Qd w 244 (bys (a7V [])).toArray;have x:=ρb w (.cells (bys (a7V [])).toArray 244);have⟨W,r⟩:=η0 (w.alloc (.cells (bys (a7V [])).toArray 244));have⟨g,o⟩:=ηs w;rw[r]at x b;rw[r,o]at d;rw[o]at b;have sl:=λX=>Pi u89 i5 X g ρo
 have G:(CPs #[22,22] 3 #[.slice g 64 64,.slice A 0 c]).run prog W=.ok (goInt 0) W:=run_copy_none W _ _ _ _ _ _ _ _ _ _ Tryz.underlying22 i5 ρp;have a:(bys (a7V [])).length=64:=by rw[a0a,b0g]
 have D:=P6 d1J c5H d (off:=0) (bys (a7V [])) a (by simp[Qb,a]);have f:=Pa (t:=244) c5H d (off:=0) (bys (a7V [])) a (by simp[a]) (a0h _);rw[a0q _ _ ρp]at f
 generalize v:bys (a7V [])=ys at d D f a⊢
 have⟨B,H,y,p⟩:=η4 x o d a;clear j m F d x r o v a E;go_enter func131,ntmps131;go_upto_region 1 with fail
 go_wp2;exact bodyPost_ret (a0c rfl _ _ g 244 ys _ rfl (y.row_ _) u89 rfl (ρy p.o c5H)) rfl ⟨rfl,Ql B.o (by rw[H.o];exact Qg _) _⟩
theorem c5R(A:OA)(c:Nat)(k:LI)(a:k.length<=64)(w:WD)(b:Byt w A k):
  Calls prog 131 #[.slice A k.length c] w λe w'=>e=.returned (.agg (bys (a7V k)).toArray)/\Below w w w':=by
 rcases Zq k.length with h | h
 ·obtain rfl:=Zv.1 h
  exact c4z A c w
 exact c4N A c k a h w b
end
end
theorem c8T(w:WD):Calls prog 284 #[.int .u64 1] w λe w'=>e=.returned (.int .i64 1)/\w=w':=by
 have a:Lib.len8 1=1:=by decide
 go_enter func284,ntmps284;go_wp2;go_ret;exact⟨by first | rfl | (show Ending.returned (.int .i64 (wrap64 (wrap64 (Lib.len8 1))))=_;rw[a];rfl),rfl⟩
theorem c6S(w:WD):Calls prog 284 #[.int .u64 2] w λe w'=>e=.returned (.int .i64 2)/\w=w':=by
 have a:Lib.len8 2=2:=by decide
 go_enter func284,ntmps284;go_wp2;go_ret;exact⟨by first | rfl | (show Ending.returned (.int .i64 (wrap64 (wrap64 (Lib.len8 2))))=_;rw[a];rfl),rfl⟩
theorem d2r(w:WD):Calls prog 260 #[.int .u64 1] w λe w'=>e=.returned (.int .i64 1)/\w=w':=by
 have h:=c8T w;go_enter func260,ntmps260;go_wp2_with fail;refine μi h ?_;intro w' a;rw[<-a];clear h a;go_wp2;go_ret;exact⟨rfl,rfl⟩
theorem d2f(w:WD):Calls prog 260 #[.int .u64 2] w λe w'=>e=.returned (.int .i64 2)/\w=w':=by
 have h:=c6S w;go_enter func260,ntmps260;go_wp2_with fail;refine μi h ?_;intro w' a;rw[<-a];clear h a;go_wp2;go_ret;exact⟨rfl,rfl⟩
theorem b3C(w:WD):Calls prog 268 #[.int .i64 2] w λe w'=>e=.returned (.int .i64 1)/\w=w':=by
 have h:=d2r w;go_enter func268,ntmps268;go_wp2_with fail;refine μi h ?_;intro w' a;rw[<-a];clear h a;go_wp2;go_ret;exact⟨rfl,rfl⟩
theorem b3L(w:WD):Calls prog 268 #[.int .i64 3] w λe w'=>e=.returned (.int .i64 2)/\w=w':=by
 have h:=d2f w;go_enter func268,ntmps268;go_wp2_with fail;refine μi h ?_;intro w' a;rw[<-a];clear h a;go_wp2;go_ret;exact⟨rfl,rfl⟩
def inT(s:St):InD×St:=
 (⟨
  (idT s).1,((a0o 15 (idT s).2).1:Int),((a0o 18446744073709551615 (a0o 15 (idT s).2).2).1:Int),(a0C 64 (a0o 18446744073709551615 (a0o 15 (idT s).2).2).2).1⟩,
  (a0C 64 (a0o 18446744073709551615 (a0o 15 (idT s).2).2).2).2)
def b0P(s:St):a1q×St:=(⟨(idT s).1,((a0o 18446744073709551615 (idT s).2).1:Int)⟩,(a0o 18446744073709551615 (idT s).2).2)
def a6d:Nat->St->List InD×St
 | 0,s=>([],s)
 |
  j+1,s=>match a6d j s with
  | (L,.error x)=>(L,.error x)
  | (L,.ok l)=>(L++[(inT (.ok l)).1],(inT (.ok l)).2)
def a3g:Nat->St->List a1q×St
 | 0,s=>([],s)
 |
  j+1,s=>match a3g j s with
  | (L,.error x)=>(L,.error x)
  | (L,.ok l)=>(L++[(b0P (.ok l)).1],(b0P (.ok l)).2)
theorem a5T(s:St):a6d 0 s=([],s):=rfl
theorem a4B(s:St):a3g 0 s=([],s):=rfl
theorem b0W{s:St}{L:List InD}(h:a6d j s=(L,.ok l)):a6d (j+1) s=(L++[(inT (.ok l)).1],(inT (.ok l)).2):=by
 rw[a6d,h]
theorem a8H{s:St}{L:List a1q}(h:a3g j s=(L,.ok l)):a3g (j+1) s=(L++[(b0P (.ok l)).1],(b0P (.ok l)).2):=by
 rw[a3g,h]
theorem a6j{j:Nat}{s:St}{L:List InD}{x:Int}(h:a6d j s=(L,.error x)):∀d,a6d (j+d) s=(L,.error x)
 | 0=>h
 | d+1=>by rw[<-ZT,a6d,a6j h d]
theorem a4G{j:Nat}{s:St}{L:List a1q}{x:Int}(h:a3g j s=(L,.error x)):∀d,a3g (j+d) s=(L,.error x)
 | 0=>h
 | d+1=>by rw[<-ZT,a3g,a4G h d]
attribute [irreducible] a6d a3g
def txT(l:LI):TxD×St:=
 (⟨
  (a6d (a0o 16 (.ok l)).1 (a0o 16 (.ok l)).2).1,
  (a3g (a0o 16 (a6d (a0o 16 (.ok l)).1 (a0o 16 (.ok l)).2).2).1 (a0o 16 (a6d (a0o 16 (.ok l)).1 (a0o 16 (.ok l)).2).2).2).1,
  ((a0o 18446744073709551615 (a3g (a0o 16 (a6d (a0o 16 (.ok l)).1 (a0o 16 (.ok l)).2).2).1 (a0o 16 (a6d (a0o 16 (.ok l)).1 (a0o 16 (.ok l)).2).2).2).2).1:Int),
  ((a0o 1099511627776 (a0o 18446744073709551615 (a3g (a0o 16 (a6d (a0o 16 (.ok l)).1 (a0o 16 (.ok l)).2).2).1 (a0o 16 (a6d (a0o 16 (.ok l)).1 (a0o 16 (.ok l)).2).2).2).2).2).1:Int)⟩,
  (a0o 1099511627776 (a0o 18446744073709551615 (a3g (a0o 16 (a6d (a0o 16 (.ok l)).1 (a0o 16 (.ok l)).2).2).1 (a0o 16 (a6d (a0o 16 (.ok l)).1 (a0o 16 (.ok l)).2).2).2).2).2).2)
def a5N(l:LI):Except Int TxD:=
 match(txT l).2 with
 | .error x=>.error x
 | .ok r=>if 0<r.length then .error 3 else if a1a (txT l).1=0 then .ok (txT l).1 else .error (a1a (txT l).1)
theorem b7Q{r:LI}(h:a4K most l=.ok (v,r))(a:∀x∈l,0<=x/\x<=255):∀x∈r,0<=x/\x<=255:=by
 have b:=a5l.1 h
 cases l with
 | nil=>simp[a2J]at b
 |
  cons k f=>
  simp only[a2J]at b
  split at b
  ·cases b
  simp only[Option.some.injEq,Prod.mk.injEq]at b;obtain⟨_,rfl⟩:=b;intro x d;exact a x (Qj _ (Yi d))
theorem a2c{s:St}(h:a9Q s):a9Q (a0o most s).2:=by
 cases s with
 | error x=>trivial
 |
  ok l=>
  cases h2:a4K most l with
  | error x=>simp only[a0o,h2];trivial
  |
   ok p=>
   obtain⟨v,r⟩:=p;simp only[a0o,h2];exact b7Q h2 h
theorem a4u{s:St}(h:a9Q s):a9Q (a0C most s).2/\∀x∈(a0C most s).1,0<=x/\x<=255:=by
 cases s with
 | error x=>exact⟨trivial,by simp[a0C]⟩
 |
  ok l=>
  cases h2:a4K most l with
  | error x=>simp only[a0C,a5L,h2];exact⟨trivial,by simp⟩
  |
   ok p=>
   obtain⟨v,r⟩:=p;have d:=b7Q h2 h
   by_cases b:r.length<v
   ·simp only[a0C,a5L,h2,b,if_true];exact⟨trivial,by simp⟩
   simp only[a0C,a5L,h2,b,if_false];exact⟨λx a=>d x (Yi a),λx a=>d x (QM a)⟩
theorem a7z{s:St}(h:a9Q s):a9Q (idT s).2/\∀x∈(idT s).1,0<=x/\x<=255:=by
 have d:∀x∈List.replicate 32 (0:Int),0<=x/\x<=255:=λx a=>by
  have:=Zf a
  omega
 cases s with
 | error x=>exact⟨trivial,d⟩
 |
  ok l=>
  by_cases b:l.length<32
  ·simp only[idT,a8k,b,if_true];exact⟨trivial,d⟩
  simp only[idT,a8k,b,if_false];exact⟨λx a=>h x (Yi a),λx a=>h x (QM a)⟩
theorem c9C{s:St}(h:a9Q s):(inT s).1.Bd/\a9Q (inT s).2:=by
 have b:=a7z h;have d:=a2c (most:=15) b.1;have f:=a2c (most:=18446744073709551615) d;have a:=a4u (most:=64) f;have g:=a0P 15 (idT s).2;have l2:=a0P 18446744073709551615 (a0o 15 (idT s).2).2;exact⟨⟨a1R s,b.2,⟨by simp only[inT];omega,by simp only[inT];omega⟩,⟨by simp only[inT];omega,by simp only[inT];omega⟩,a.2⟩,a.1⟩
theorem c8i{s:St}(h:a9Q s):(b0P s).1.Bd/\a9Q (b0P s).2:=by
 have a:=a7z h;have b:=a2c (most:=18446744073709551615) a.1;have l2:=a0P 18446744073709551615 (idT s).2;exact⟨⟨a1R s,a.2,⟨by simp only[b0P];omega,by simp only[b0P];omega⟩⟩,b⟩
theorem b3M{s:St}(h:a9Q s):∀j,(∀i∈(a6d j s).1,i.Bd)/\a9Q (a6d j s).2
 | 0=>by rw[a5T];exact⟨by simp,h⟩
 |
  j+1=>by
  have ih:=b3M h j
  cases hj:a6d j s with
  |
   mk L t=>
   rw[hj]at ih
   cases t with
   | error x=>rw[a6j hj 1];exact⟨ih.1,trivial⟩
   |
    ok l=>
    rw[b0W hj]
    have:=c9C (s:=.ok l) ih.2
    refine⟨λi hi=>?_,this.2⟩
    rcases Qq.1 hi with h1 | h1
    ·exact ih.1 i h1
    rw[Qn.1 h1];exact this.1
theorem b3H{s:St}(h:a9Q s):∀j,(∀i∈(a3g j s).1,i.Bd)/\a9Q (a3g j s).2
 | 0=>by rw[a4B];exact⟨by simp,h⟩
 |
  j+1=>by
  have ih:=b3H h j
  cases hj:a3g j s with
  |
   mk L t=>
   rw[hj]at ih
   cases t with
   | error x=>rw[a4G hj 1];exact⟨ih.1,trivial⟩
   |
    ok l=>
    rw[a8H hj]
    have:=c8i (s:=.ok l) ih.2
    refine⟨λi hi=>?_,this.2⟩
    rcases Qq.1 hi with h1 | h1
    ·exact ih.1 i h1
    rw[Qn.1 h1];exact this.1
theorem c9V(h:∀x∈l,0<=x/\x<=255):(txT l).1.Bd:=by
 have d:a9Q (a0o 16 (.ok l)).2:=a2c (s:=.ok l) h;have a:=b3M d (a0o 16 (.ok l)).1;have b:=a2c (most:=16) a.2;have f:=b3H b (a0o 16 (a6d (a0o 16 (.ok l)).1 (a0o 16 (.ok l)).2).2).1;have g:=a0P 18446744073709551615 (a3g (a0o 16 (a6d (a0o 16 (.ok l)).1 (a0o 16 (.ok l)).2).2).1 (a0o 16 (a6d (a0o 16 (.ok l)).1 (a0o 16 (.ok l)).2).2).2).2;have l2:=a0P 1099511627776 (a0o 18446744073709551615 (a3g (a0o 16 (a6d (a0o 16 (.ok l)).1 (a0o 16 (.ok l)).2).2).1 (a0o 16 (a6d (a0o 16 (.ok l)).1 (a0o 16 (.ok l)).2).2).2).2).2;exact⟨a.1,f.1,⟨by simp only[txT];omega,by simp only[txT];omega⟩,⟨by simp only[txT];omega,by simp only[txT];omega⟩⟩
theorem a9Z(s:St):∀j,(a6d j s).1.length<=j
 | 0=>by rw[a5T];simp
 |
  j+1=>by
  have ih:=a9Z s j
  cases hj:a6d j s with
  |
   mk L t=>
   rw[hj]at ih
   cases t with
   | error x=>rw[a6j hj 1];simp only at ih⊢;omega
   | ok l=>rw[b0W hj];simp only[Qa,ZB]at ih⊢;omega
theorem a8d(s:St):∀j,(a3g j s).1.length<=j
 | 0=>by rw[a4B];simp
 |
  j+1=>by
  have ih:=a8d s j
  cases hj:a3g j s with
  |
   mk L t=>
   rw[hj]at ih
   cases t with
   | error x=>rw[a4G hj 1];simp only at ih⊢;omega
   | ok l=>rw[a8H hj];simp only[Qa,ZB]at ih⊢;omega
theorem c3C{s:St}(h:b5A n s):b5A n (inT s).2:=a3c (a1b (a1b (a3U h)))
theorem b0X{n:Nat}{s:St}(h:b5A n s):∀j,b5A n (a6d j s).2
 | 0=>by rw[a5T];exact h
 |
  j+1=>by
  have ih:=b0X h j
  cases hj:a6d j s with
  |
   mk L t=>
   rw[hj]at ih
   cases t with
   | error x=>rw[a6j hj 1];trivial
   | ok l=>rw[b0W hj];exact c3C ih
theorem b1U{n:Nat}{s:St}(h:b5A n s):∀j,b5A n (a3g j s).2
 | 0=>by rw[a4B];exact h
 |
  j+1=>by
  have ih:=b1U h j
  cases hj:a3g j s with
  |
   mk L t=>
   rw[hj]at ih
   cases t with
   | error x=>rw[a4G hj 1];trivial
   | ok l=>rw[a8H hj];exact a1b (a3U ih)
section
attribute [local go_sem ↓] b6Y
def b5o(p s:Nat)(st:St)(v:VL)(e:Ending)(w':WD):Prop:=
 match st with
 | .error x=>e=.panicked [{v:=a1T x,recovered:=false}]
 | .ok r=>e=.returned v/\a0S w' p s r
theorem a7Z(p s:Nat)(l:LI)(n:Nat)(a:l.length<n)(w:WD)(h:a0S w p s l):
  Calls prog 115 #[.pointer p,.int .i64 n] w λe w'=>e=.panicked [{v:=a1T 2,recovered:=false}]/\w'=w:=by
 obtain⟨A,c,b,_⟩:=h;exact c4r p A c l n a w b
theorem b5h(p s:Nat)(l:LI)(most:Nat)(x:Int)(d:l.length<=1000000000)(w:WD)(h:a0S w p s l)(b:a4K most l=.error x):
  Calls prog 60 #[.pointer p,.int .u64 most] w λe w'=>e=.panicked [{v:=a1T x,recovered:=false}]/\Fr (λk=>k=p) w w':=by
 cases l with
 |
  nil=>
  simp only[a4K,Except.error.injEq]at b;subst b;go_enter func60,ntmps60;go_wp2_with fail;refine(a7Z p s [] 1 ρp w h).mono ?_;rintro e w' ⟨rfl,g⟩;rw[g];exact⟨rfl,rfl,Qp _ _⟩
 |
  cons k f=>
  have E:∀y∈k::f,0<=y/\y<=255:=by
   obtain⟨A,c,he,_⟩:=h;exact he.by_.bd
  have hk:=E k ρp;obtain⟨K,rfl⟩:∃K:Nat,k=K:=⟨k.toNat,by omega⟩;have ai:K<=255:=ρo;simp only[a4K,Zd]at b;have ad:f.length<=1000000000:=by simp at d;omega
  have⟨H,HR,aa⟩:=η3 h b E;clear h b E hk;go_enter func60,ntmps60;go_wp2_with fail;have G:=a7u p s ((K:Int)::f) 1 ρp d w H.o;rw[show((1:Nat):Int)=1 from rfl]at G;refine μ1 G ?_;rintro e U ⟨⟨A1,rfl,y1⟩,Z,f1⟩;obtain⟨g1,o1,rfl,_,Y⟩:=y1.at_ (i:=0) ρp;have ae:U.cell? ⟨g1,o1,none⟩=some (.int .u8 K):=ρw Y;have P:a0S U p s f:=ρw Z;have⟨F1,H2⟩:=η2 f1 P;clear f1 y1 Z Y P G;have b:=HR.o
  by_cases h8:8<K
  ·rw[if_pos h8]at b
   cases b
   have ac:(8:Int)<(K:Int):=ρo;go_wp2_with fail;refine(a5J _ 3 rfl U).mono ?_;rintro e w' ⟨rfl,g⟩;rw[g];exact⟨rfl,rfl,F1.o⟩
  rw[if_neg h8]at b;have ac:(K:Int)<=8:=ρo
  by_cases j:f.length<K
  ·rw[if_pos j]at b
   cases b
   go_wp2_with fail;refine(a7Z p s f K j U H2).mono ?_;rintro e w' ⟨rfl,g⟩;rw[g];exact⟨rfl,rfl,F1.o⟩
  rw[if_neg j]at b;have R:=a7u p s f K ρo ad U H2.o;have N:=η1 b;clear b;go_wp2_with fail;refine μ1 R ?_;rintro e w2 ⟨⟨A3,rfl,y3⟩,h4,f2⟩;have O:(f.take K).length=K:=by rw[Qx];omega
  have⟨F2,Y3,T⟩:=η3 (F1.trans f2 (λ_ _ h=>h)) y3 O;clear y3 h4 O f2 R;go_wp2_with fail
  go_loopw [6,22] (λv t wr=>∃i:Nat,i<=K/\t=.int .i64 i/\v=.int .u64 (a9g ((f.take K).take i):Nat)/\(0<i->f.headD 1≠0)/\wr=w2)
   (λ_ t _=>K-(intOf t).toNat)
  exact⟨0,Zu _,rfl,rfl,λh=>absurd h ρo,rfl⟩;obtain⟨i,hi,rfl,rfl,hh,g⟩:=hrel;subst g;have HH:=η1 hh;have I:=b2X ((f.take K).take i) (λx hx=>aa.o x (Qj _ (QM (QM hx))));rw[Qx,T.o,QY hi]at I;have V:a9g ((f.take K).take i)<256 ^ i:=I;have m:=η1 V;clear V I hh
  by_cases ab:i<K
  ·have o:i<(f.take K).length:=by rw[T.o];exact ab
   obtain⟨g3,o3,rfl,_,F⟩:=Y3.at_ o;have Q:=Y3.bd (f.take K)[i] (Qu _);have e1:(f.take K).take (i+1)=(f.take K).take i++[(f.take K)[i]]:=Qe o
   have e2:i=0->f.headD 1=(f.take K)[i]:=λe=>by
    subst e
    cases f with
    | nil=>simp at o
    | cons a r=>simp
   have⟨y,hy⟩:=η0 ((f.take K)[i]);rw[hy]at F Q e1 e2;obtain⟨X,rfl⟩:∃X:Nat,y=X:=⟨y.toNat,by omega⟩
   generalize hv:a9g ((f.take K).take i)=v at m⊢
   have h7:i<=7:=ρo
   have ag:v<72057594037927936:=Qh m.o (by
    have:=Nat.pow_le_pow_right (n:=256) ρo h7
    simpa using this)
   have al:X<=255:=ρo;have z:a9g ((f.take K).take (i+1))=v*256+X:=by rw[e1,a8E,hv,Zd]
   have⟨B,W⟩:=η2 z e2;clear z e2 hy Q o hv e1
   by_cases hz:i=0/\X=0
   ·obtain⟨rfl,rfl⟩:=hz
    have b:=N.o;rw[if_pos (show 0<K/\f.headD 1=0 from⟨by omega,by rw[W.o rfl];rfl⟩)]at b
    cases b
    simp only[ZH]at F;go_wp2_with fail;refine(a5J _ 3 rfl wr).mono ?_;rintro e w' ⟨rfl,g⟩;rw[g];exact⟨rfl,rfl,F2.o⟩
   have af:bits .or .u64 ((v:Int)*256) (X:Int)=((v*256+X:Nat):Int):=by
    have e:=c1d v X ρo ρo
    rwa [Int.natCast_mul]at e
   have S:f.headD 1≠0:=by
    by_cases h0:i=0
    ·rw[W.o h0]
     omega
    exact HH.o ρo
   have J:=η1 S;clear S
   by_cases h0:i=0
   ·subst h0
    have ak:((X:Int) == 0)=false:=by simp;omega
    simp only[ZH]at F;go_wp2;go_roundw
    case rel=>exact⟨1,by omega,by go_num,by rw[B.o];go_num,λ_=>J.o,by first | rfl | trivial⟩
    case measure=>simp[intOf];omega
   have aj:((i:Int) == 0)=false:=by simp;omega
   clear hz;go_wp2;go_roundw
   case rel=>exact⟨i+1,by omega,by go_num,by rw[B.o];go_num,λ_=>J.o,by first | rfl | trivial⟩
   case measure=>simp[intOf];omega
  obtain rfl:i=K:=ρo;have ht:(f.take i).take i=f.take i:=by rw[List.take_take,Nat.min_self]
  rw[ht]at m⊢;have b:=N.o;rw[if_neg (fun⟨h1,Z⟩=>HH.o h1 Z)]at b
  generalize hv:a9g (f.take i)=v at m b⊢
  by_cases D:most<v
  ·rw[if_pos D]at b
   cases b
   have ah:(most:Int)<v:=ρo;clear hv;go_wp2_with fail;refine(a5J _ 5 rfl wr).mono ?_;rintro e w' ⟨rfl,g⟩;rw[g];exact⟨rfl,rfl,F2.o⟩
  rw[if_neg D]at b
  cases b
theorem a5w(p s:Nat)(l:LI)(most:Nat)(b:most<=18446744073709551615)(a:l.length<=1000000000)(w:WD)(h:a0S w p s l):
  Calls prog 60 #[.pointer p,.int .u64 most] w λe w'=>b5o p s (a0o most (.ok l)).2 (.int .u64 ((a0o most (.ok l)).1:Int)) e w'/\Fr (λk=>k=p) w w':=by
 cases hT:a4K most l with
 |
  error x=>
  have:a0o most (.ok l)=(0,.error x):=by simp only[a0o,hT]
  rw[this];exact b5h p s l most x a w h hT
 |
  ok q=>
  obtain⟨v,r⟩:=q
  have:a0o most (.ok l)=(v,.ok r):=by simp only[a0o,hT]
  rw[this];exact(b2R p s l most v r b a w h (a5l.1 hT)).mono λe w' ⟨f,d,g⟩=>⟨⟨f,d⟩,g⟩
theorem b9K(p s:Nat)(l:LI)(most:Nat)(x:Int)(b:most<=400000000)(d:l.length<=400000000)(w:WD)(h:a0S w p s l)(a:a5L most l=.error x):
  Calls prog 61 #[.pointer p,.int .i64 most] w λe w'=>e=.panicked [{v:=a1T x,recovered:=false}]/\Fr (λk=>k=p) w w':=by
 have z:(0:Int)<=(most:Int):=ρo;unfold a5L at a
 cases hN:a4K most l with
 |
  error y=>
  rw[hN]at a
  cases a
  have g:=b5h p s l most x ρo w h hN;clear h hN;go_enter func61,ntmps61;go_wp2_with fail;refine μi g ?_;intro o m;exact⟨rfl,rfl,m⟩
 |
  ok E=>
  obtain⟨v,q⟩:=E;have j:=a5l.1 hN;obtain⟨G,F⟩:=a3y j;rw[hN]at a;simp only at a
  by_cases f:q.length<v
  ·rw[if_pos f]at a
   cases a
   have g:=b2R p s l most v q ρo ρo w h j;clear h hN j;go_enter func61,ntmps61;go_wp2_with fail;refine μ1 g ?_;rintro e o ⟨rfl,r,m⟩;have ht:=a7Z p s q v f o r;have D:=η1 m;clear m r g;go_wp2_with fail;refine μi ht ?_;intro H B;rw[B];exact⟨rfl,rfl,D.o⟩
  rw[if_neg f]at a
  cases a
def c8h(p s n₀:Nat)(R:LI×St)(e:Ending)(w':WD):Prop:=
 match R.2 with
 | .error x=>e=.panicked [{v:=a1T x,recovered:=false}]
 | .ok r=>(∃v,e=.returned v/\a0N n₀ w' v R.1)/\a0S w' p s r
theorem b1P(p s:Nat)(l:LI)(most:Nat)(a:most<=400000000)(b:l.length<=400000000)(w:WD)(h:a0S w p s l):
  Calls prog 61 #[.pointer p,.int .i64 most] w λe w'=>c8h p s w.heap.size (a0C most (.ok l)) e w'/\Fr (λk=>k=p) w w':=by
 cases hT:a5L most l with
 |
  error x=>
  have:a0C most (.ok l)=([],.error x):=by simp only[a0C,hT]
  rw[this];exact b9K p s l most x a b w h hT
 |
  ok q=>
  obtain⟨v,r⟩:=q
  have:a0C most (.ok l)=(v,.ok r):=by simp only[a0C,hT]
  rw[this]
  have d:a8o most l=some (v,r):=by
   unfold a5L at hT;unfold a8o
   cases hN:a4K most l with
   | error y=>rw[hN]at hT;cases hT
   |
    ok q=>
    obtain⟨n,q⟩:=q;rw[hN]at hT;rw[a5l.1 hN];simp only at hT⊢
    by_cases f:q.length<n
    ·rw[if_pos f]at hT;cases hT
    rw[if_neg f]at hT⊢;cases hT;rfl
  exact(c3o p s l most v r a b w h d).mono λe w' ⟨j,g,m⟩=>⟨⟨j,g⟩,m⟩
attribute [local go_sem ↓] a2t a2s a2n
theorem c4T(p s:Nat)(l:LI)(a:l.length<=1000000000)(w:WD)(h:a0S w p s l)(b:p<w.heap.size)(d:s<w.heap.size):
  Calls prog 117 #[.pointer p] w λe w'=>b5o p s (idT (.ok l)).2 (.agg (bys (idT (.ok l)).1).toArray) e w'/\Fr (λk=>k=p) w w':=by
 by_cases f:l.length<32
 ·have o:idT (.ok l)=(List.replicate 32 0,.error 2):=by simp only[idT,a8k,f,if_true]
  rw[o];obtain⟨Z,j,_,G⟩:=Pk (t:=31) a5m d0T;have g:=j w;have m:=ρb w (.cells Z 31)
  generalize x:w.alloc (.cells Z 31)=W at m g
  have ht:=a7Z p s l 32 f W (h.fr (Q9 m) (show¬_<=_ by omega) (show¬_<=_ by omega));rw[show((32:Nat):Int)=32 from rfl]at ht;have v:Fr (λk=>k=p) w W:=(Q9 m).mono (λk F h=>ρo);have⟨r,H⟩:=η2 v x;clear v x h m j o f;go_enter func117,ntmps117;go_upto_region 1 with fail
  clear g;go_wp2_with fail;refine μ1 ht ?_;rintro e E ⟨rfl,B⟩;rw[B];exact⟨rfl,rfl,r.o⟩
 have o:idT (.ok l)=(l.take 32,.ok (l.drop 32)):=by simp only[idT,a8k,f,if_false]
 rw[o];exact(c9g p s l ρo a w h b d).mono λe w' ⟨z,y,D⟩=>⟨⟨z,y⟩,D⟩
def StE:St->Prop
 | .error x=>x≠0
 | .ok _=>True
theorem b8f(h:a4K most l=.error x):x≠0:=by simpa using(c1u h).1
theorem a1L{s:St}(h:StE s):StE (a0o most s).2:=by
 cases s with
 | error x=>exact h
 |
  ok l=>
  cases h2:a4K most l with
  | error x=>simp only[a0o,h2];exact b8f h2
  | ok p=>simp only[a0o,h2];trivial
theorem a5A{s:St}(h:StE s):StE (a0C most s).2:=by
 cases s with
 | error x=>exact h
 |
  ok l=>
  cases h2:a4K most l with
  | error x=>simp only[a0C,a5L,h2];exact b8f h2
  |
   ok p=>
   obtain⟨v,r⟩:=p
   by_cases a:r.length<v
   ·simp only[a0C,a5L,h2,a,if_true];simp[StE]
   simp only[a0C,a5L,h2,a,if_false];trivial
theorem a5W{s:St}(h:StE s):StE (idT s).2:=by
 cases s with
 | error x=>exact h
 |
  ok l=>
  by_cases a:l.length<32
  ·simp only[idT,a8k,a,if_true];simp[StE]
  simp only[idT,a8k,a,if_false];trivial
def a8t:St->Int
 | .error x=>x
 | .ok r=>if r=[]then 0 else 3
def a6D(p s:Nat)(st:St)(e:Ending)(w':WD):Prop:=
 match st with
 | .error x=>e=.panicked [{v:=a1T x,recovered:=false}]
 | .ok r=>e=.returned (.tuple #[])/\a0S w' p s r
def d0C(F:Nat->Prop)(K:WD->WD->Prop)(w w':WD):Prop:=
 Fr F w w'/\∃w2 w3,Below w w w2/\w.heap.size<w2.heap.size/\K w2 w3/\Fr (λk=>k=w.heap.size) w3 w'
theorem a6Q(d:FuncId)(g:AV)(j:∀args w,(callFunc d args).run prog w=.ok (.enter d args) w)
  (A:OA) (c:Nat) (hcA:A=none->c=0) (l:LI) (hl:l.length<=400000000) (w:WD) (hy:Byt w A l)
  (F:Nat->Prop) (hF:∀k,F k->k<w.heap.size) (st:St) (K:WD->WD->Prop)
  (hclo:∀p s w2,Below w.heap.size w w2->w.heap.size<p->w.heap.size<=s->s<p->p<w2.heap.size->a0S w2 p s l->
   Calls prog d (#[.pointer (some ⟨p,0,none⟩)]++g) w2 λe w3=>a6D p s st e w3/\Fr (λk=>F k\/k=p) w2 w3/\K w2 w3):
  Calls prog 58 #[.slice A l.length c,.func (.func d) #[] g] w λe w'=>
   e=.returned (.int .i64 (a8t st))/\d0C F K w w':=by
 have aA:∀(fn:Fn) (first cap:AV) (w:WD),(Instr.makeFunc fn first cap).run prog w=.ok (.func fn first cap) w:=λ_ _ _ _=>rfl
 have aj:=a8r A c hcA l (w.alloc (.cells #[.int .i64 0] 29)) (hy.below (ρb w _)) ρo;have⟨HY,HF,au,W⟩:=η4 hy hF aj hclo;clear hy aj hclo hF;go_enter_defers func58,ntmps58;go_wp2_with fail;refine μ1 au.o ?_;rintro e B ⟨v,rfl,ho,S⟩;have av:w.heap.size+1<=B.heap.size:=by have:=S.size;simpa using this
 have b0:Below w.heap.size w B:=(ρb w _).trans (S.mono ρp);obtain⟨U,c1,rfl,ac,ag,ak⟩:=ho.byt HY.bd
 obtain⟨s,hs,ao,an⟩:∃s,(∀a,U=some a->a.block=s)/\w.heap.size<=s/\s<B.heap.size:=by
  cases hA:U with
  | none=>exact⟨w.heap.size,by simp,Qg _,by omega⟩
  |
   some a=>
   have h1:=ag a hA;rw[Qi]at h1;refine⟨a.block,λb hb=>by cases hb;rfl,by omega,?_⟩;subst hA;exact(ho.lt (k:=a.block) rfl).2
 have⟨L,hL⟩:=η0 l.length;have ai:Blk B w.heap.size 29 #[.int .i64 0]:=(Qd w 29 #[.int .i64 0]).fr (Q9 S) ρp;have⟨w2,Q⟩:=η0 (B.alloc (.cells #[.slice U l.length c1] 218));have Z:=ai.alloc (.cells #[.slice U l.length c1] 218);have N:=Qd B 218 #[.slice U l.length c1];have Y:=ac.below ((Qf _ B).alloc (Qg _) (.cells #[.slice U l.length c1] 218));have b2:=b0.alloc (ρh b0.size) (.cells #[.slice U l.length c1] 218);rw[Q]at Z N Y b2
 have he:a0S w2 B.heap.size s l:=⟨U,c1,⟨N,Y,λa ha h0=>by
  rw[hs a ha];omega,ak⟩,hs⟩
 have V:w2.heap.size=B.heap.size+1:=by rw[<-Q];simp
 have I:=W.o B.heap.size s w2 b2 ρo ao an ρo he;have az:B.heap.size≠w.heap.size:=ρo;have⟨al,ae,ar,B2,HL,ab⟩:=η6 Q I Z b2 hL V;clear Q I Z b2 ho S b0 ac ag ak ai N Y he hL hs W V;go_wp2_with fail;rw[al.o];have I:=ae.o;clear ae;refine I.mono ?_;rintro e w3 ⟨af,f3,hK⟩
 have E:=ar.fr f3 (λe=>by
  rcases e with e | e
  ·have:=HF.o _ e;omega
  omega)
 have ad:Fr F w w3:=(((Q9 B2.o).mono (G:=λk=>F k\/w.heap.size<=k) (λk _ h=>.inr h)).trans (f3.mono (G:=λk=>F k\/w.heap.size<=k) (λk _ h=>by
  rcases h with h | h
  ·exact .inl h
  exact .inr ρo)) (λ_ _ h=>h)).mono (λk hk h=>by
  rcases h with h | h
  ·exact h
  omega)
 have⟨aq,HK⟩:=η2 ad hK;clear I f3 ad hK
 have z:∀P,Fr (λk=>k=w.heap.size) w3 P->d0C F K w P:=λP O=>
  ⟨aq.trans O (λk hk e=>ρo),w2,w3,B2.o,by have:=ab.o;omega,HK.o,O⟩
 cases st with
 |
  error x=>
  obtain rfl:=af;have ah:=b4W w.heap.size x 0 w3 E;refine leaves_cons (f:=113) (args:=#[.pointer (some ⟨w.heap.size,0,none⟩)]) ρp (by simp[go_sem]) ?_;refine ah.mono ?_;rintro e u' P ⟨rfl,rfl,m,O⟩;have k4:P.cell? ⟨w.heap.size,0,none⟩=some (.int .i64 x):=m.cell 0;have hr:=z P O;clear z ah;simp[Leaves,settle,results,Tryz.results58,go_sem,k4];exact⟨rfl,hr⟩
 |
  ok r=>
  obtain⟨rfl,A5,c5,aa,_⟩:=af;have R:=b5v B.heap.size A5 c5 r w3 aa;have k3:w3.cell? ⟨w.heap.size,0,none⟩=some (.int .i64 0):=E.cell 0;have ay:=E.frozen 0;have⟨T,o⟩:=η2 E z;clear E z
  by_cases hr:r=[]
  ·subst hr
   have X:Calls prog 114 #[.pointer B] w3 λe w'=>e=.returned (.int .i64 0)/\w'=w3:=R
   clear R aa;go_wp2_with fail;refine μi X ?_;intro w5 H;rw[H];clear X H;go_wp2_with fail;have O:Fr (λk=>k=w.heap.size) w3 (w3.setCell ⟨w.heap.size,0,none⟩ (.int .i64 0)):=(Qp (λk=>k=w.heap.size) w3).setCell (p:=⟨w.heap.size,0,none⟩) (λ_=>rfl) _;have J:=o.o _ O;have m:Blk (w3.setCell ⟨w.heap.size,0,none⟩ (.int .i64 0)) w.heap.size 29 #[.int .i64 0]:=by simpa using T.set_ 0 (.int .i64 0)
   refine leaves_cons (f:=113) (args:=#[.pointer (some ⟨w.heap.size,0,none⟩)]) ρp (by simp[go_sem]) ?_;refine(b2g ⟨w.heap.size,0,none⟩ _).mono ?_;rintro e u' P ⟨rfl,rfl,D⟩;rw[<-D]at J m;have k4:P.cell? ⟨w.heap.size,0,none⟩=some (.int .i64 0):=m.cell 0;clear D O o T;simp[Leaves,settle,results,Tryz.results58,go_sem,k4];exact⟨rfl,J⟩
  have ax:(0:Int)<(r.length:Int):=by
   cases r with
   | nil=>exact absurd rfl hr
   | cons y r=>simp
  have HR:=η1 hr;clear hr aa;go_wp2_with fail;refine μi R ?_;intro w5 H;rw[H];clear R H;go_wp2_with fail;have O:Fr (λk=>k=w.heap.size) w3 (w3.setCell ⟨w.heap.size,0,none⟩ (.int .i64 3)):=(Qp (λk=>k=w.heap.size) w3).setCell (p:=⟨w.heap.size,0,none⟩) (λ_=>rfl) _;have J:=o.o _ O;have m:Blk (w3.setCell ⟨w.heap.size,0,none⟩ (.int .i64 3)) w.heap.size 29 #[.int .i64 3]:=by simpa using T.set_ 0 (.int .i64 3)
  refine leaves_cons (f:=113) (args:=#[.pointer (some ⟨w.heap.size,0,none⟩)]) ρp (by simp[go_sem]) ?_;refine(b2g ⟨w.heap.size,0,none⟩ _).mono ?_;rintro e u' P ⟨rfl,rfl,D⟩;rw[<-D]at J m;have k4:P.cell? ⟨w.heap.size,0,none⟩=some (.int .i64 3):=m.cell 0;clear D O o T;simp[Leaves,settle,results,Tryz.results58,go_sem,k4];exact⟨by rw[a8t,if_neg HR.o],J⟩
theorem b0L{st:St}(h:StE st):a8t st=0↔st=.ok []:=by
 cases st with
 | error x=>simp only[a8t];exact⟨λe=>absurd e h,λe=>by cases e⟩
 |
  ok r=>
  by_cases a:r=[]
  ·subst a;simp[a8t]
  simp[a8t,a]
end
section
theorem iI5:(prog.info? 3).map (·.size)=some 1:=ρk
structure d1O(w:WD)(A:OA)(xs:LV)(L:LL):Prop where
 len:xs.length=L.length
 cell:0<xs.length->∃g off,A=some ⟨g,off,none⟩/\g<w.heap.size/\∀j x,xs[j]? =some x->w.cell? ⟨g,off+j,none⟩=some x
 txt:∀i (h:i<xs.length) (h':i<L.length),∃A c,xs[i]=.slice A L[i].length c/\RdW .i64 w A L[i]/\(A=none->c=0)
theorem d2b{v:VL}{m:LI}(h:a8x B w v l)(d:RdW .i64 w A m)(b:l.length+m.length<=1000000000)(f:B<=w.heap.size)(p:A=none->c=0):
  ∃v' w',(APs #[202,202] ty #[v,.slice A m.length c]).run prog w=.ok v' w'/\a8x B w' v' (l++m)/\Fr (λk=>v.ownBlock=some k) w w'/\a7W w v v':=by
 cases A with
 |
  none=>
  have e:m=[]:=by
   cases m with
   | nil=>rfl
   |
    cons x r=>
    obtain⟨g,o,e,_⟩:=d ρp
    cases e
  subst e;obtain rfl:=p rfl;obtain⟨i,hi⟩:=Q8.1 iI5;refine⟨v,w,run_append_owned_none w B 202 ty 3 i 1 b8X hi.1 v l.length (wds .i64 l) h,by simpa using h,Qp _ _,a7W.refl _ _⟩
 |
  some a=>
  refine d3d (ty:=ty) b8X d0E ρo h (λj x D=>?_) b f;have E:j<m.length:=(Qm.1 D).1;obtain⟨g,o,e,_,y⟩:=d ρo
  cases e
  have z:(⟨g,o,none⟩:Addr).add j=⟨g,o+j,none⟩:=by unfold Addr.add;split<;>simp_all
  rw[z];exact y j x D
theorem d3F(x:VL)(lo hi a:Option VL):Instr.sliceAt 202 x lo hi a=SLs 202 x lo hi a:=rfl
theorem c8M(xs:AV)(t:TI):Builtin.append_ #[202,3] t xs=APs #[202,3] t xs:=rfl
attribute [local go_sem ↓] c0I c8M d3F
theorem izI:(prog.info? 3).map (λi=>(i.zero,i.size,i.bytes))=some (some (.int .i64 0),1,8):=ρk
theorem a8x.none_{a:AV}(b:B<=g)(d:Blk w g 3 a)(j:a.size=cap)(f:cap<=maxLen):a8x B w (.slice g 0 cap) []:=
 ⟨rfl,.inr ⟨g,cap,a,rfl,b,d,Zu _,f,by omega,by simp[wds]⟩⟩
theorem c0R(a:0<cap)(h:Int)(e:h=0):(SLs 202 (.slice g n cap) none (some (.int .i64 h)) none).run prog w=.ok (.slice g 0 cap) w:=by
 subst e;obtain⟨i,d,hi⟩:=Q8.1 iI5;have b:¬cap=0:=ρo;simp[SLs,Instr.sliceAt,Instr.slice,Instr.sliceBounds,Instr.sliceBound,asIntOf,run_underlying b8X,sizeOf,typeInfo,d,Addr.add]
theorem c5b(h:Int)(e:h=0):(SLs 202 (.slice none 0 0) none (some (.int .i64 h)) none).run prog w=.ok (.slice none 0 0) w:=by
 subst e;obtain⟨i,a,hi⟩:=Q8.1 iI5;simp[SLs,Instr.sliceAt,Instr.slice,Instr.sliceBounds,Instr.sliceBound,asIntOf,run_underlying b8X,sizeOf,typeInfo,a]
theorem c2o(n:Nat)(a:n<=1000000)(w:WD):
  Calls prog 252 #[.slice none 0 0,.int .i64 n] w λe w'=>∃v,e=.returned v/\a8x w w' v []/\Below w w w':=by
 by_cases E:n=0
 ·subst E
  go_enter func252,ntmps252;go_wp2;go_ret;exact⟨_,rfl,a2X.nil _ _ _ _,Qf _ _⟩
 obtain⟨z,hi,B⟩:=Q8.1 izI;simp only[Prod.mk.injEq]at B;obtain⟨g,p,j⟩:=B;have b:=Lib.run_append_nil_zeros (P:=prog) w 202 3 202 3 z (.int .i64 0) .i64 .i64 b8X c9F hi g n ρo ρo ρo (by rw[j];omega);have d:(APs #[202,3] 202 #[.slice none 0 0,.int .i64 n]).run prog w=_:=b;clear b;have o:=grownCap_ge w n 0 3;have m:=grownCap_le_maxLen w n 0 3 (by unfold maxLen;omega);have⟨cap,f⟩:=η0 (grownCap w n 0 3);rw[f]at d o m;have⟨Z,r⟩:=η0 (Builtin.zeroCells (Value.int .i64 0).cells n++Builtin.zeroCells (Value.int .i64 0).cells (cap-n));rw[r]at d;have x:Z.size=cap:=by rw[<-r];simp[size_zeroCells,Value.cells];omega
 clear f r hi g p j z;have F:∀W:WD,(SLs 202 (.slice w n cap) none (some (.int .i64 0)) none).run prog W=.ok (.slice w 0 cap) W:=λW=>c0R ρo 0 rfl
 have D:∀W:WD,(SLs 202 (.slice none 0 0) none (some (.int .i64 0)) none).run prog W=.ok (.slice none 0 0) W:=λW=>c5b 0 rfl
 have y:(0:Int)<(n:Int):=ρo;go_enter func252,ntmps252;go_wp2
 first
  | (
   go_ret;refine⟨_,rfl,a8x.none_ (Qg _) ((Qd w _ Z).drew) x m,(ρb w _).drew⟩)
theorem b6E(A:OA)(c:Nat)(xs:LV)(L:LL)(w:WD)(h:d1O w A xs L)(b:L.length<=1000)(a:L.flatten.length<=900000):
  Calls prog 209 #[.slice A L.length c] w λe w'=>∃v,e=.returned v/\a8x w w' v L.flatten/\Below w w w':=by
 have⟨H,HL⟩:=η2 h a;clear h a
 have z:∀i,i<L.length->(L.take i).flatten.length+(L.getD i []).length=(L.take (i+1)).flatten.length:=λi hi=>by
  rw[Qe hi,ZA,List.flatten_singleton,Qa];have e:L.getD i []=L[i]:=by simp[List.getD,hi]
  rw[e]
 have Q:∀i,(L.take i).flatten.length<=900000:=λi=>by
  have:=HL.o
  have e:L.flatten=(L.take i).flatten++(L.drop i).flatten:=by rw[<-ZA,ZW]
  rw[e,Qa]at this;omega
 have⟨HP,T⟩:=η2 z Q;clear z Q;go_enter func209,ntmps209;go_wp2
 go_loopw [3,11] (λs t wr=>∃i:Nat,i<=L.length/\s=.int .i64 ((L.take i).flatten.length:Nat)/\t=.int .i64 i/\wr=w)
  (λ_ t _=>L.length-(intOf t).toNat)
 exact⟨0,Zu _,by simp,rfl,rfl⟩;obtain⟨i,hi,rfl,rfl,rfl⟩:=hrel
 by_cases d:i<L.length
 ·obtain⟨g,off,rfl,X,J⟩:=H.cell (by rw[H.len];omega)
  have B:i<xs.length:=by rw[H.len];exact d
  have f:=J i xs[i] (by simp[B]);obtain⟨Ai,ci,o,j,R⟩:=H.txt i B d;rw[o]at f;have y:=HP.o i d;have E:=T.o (i+1);have O:L.getD i []=L[i]:=by simp[List.getD,d]
  rw[O]at y;have⟨s,K⟩:=η0 ((L.take i).flatten.length);have⟨m,F⟩:=η0 (L[i].length);rw[K,F]at y;rw[F]at f;rw[K];have b1:(s:Int)+m<=900000:=ρo;have E1:=η1 y;clear o j R J O K F B y E;go_wp2;go_roundw
  case rel=>exact⟨i+1,by omega,by rw[<-E1.o];go_num,by go_num,by first | rfl | trivial⟩
  case measure=>simp[intOf];omega
 obtain rfl:i=L.length:=ρo;have E:=T.o L.length
 generalize K:(L.take L.length).flatten.length=s at E⊢
 clear K;go_wp2_with fail;refine(c2o s ρo wr).mono ?_;rintro e w1 ⟨v,rfl,r,P⟩;go_wp2_with fail
 go_loopw [6,27] (λv t Y=>∃i:Nat,i<=L.length/\t=.int .i64 i/\a8x wr.heap.size Y v (L.take i).flatten/\Below wr.heap.size wr Y)
  (λ_ t _=>L.length-(intOf t).toNat)
 exact⟨0,Zu _,rfl,by simpa using r,P⟩;clear r P E;obtain⟨i,hi,rfl,r,D⟩:=hrel
 by_cases d:i<L.length
 ·obtain⟨g,off,rfl,X,J⟩:=H.cell (by rw[H.len];omega)
  have B:i<xs.length:=by rw[H.len];exact d
  obtain⟨Ai,ci,o,j,R⟩:=H.txt i B d;have f:=J i xs[i] (by simp[B]);rw[o]at f;have N:=(D.cell (p:=⟨g,off+i,none⟩) X).trans f;have y:=HP.o i d;have E:=T.o (i+1);have O:L.getD i []=L[i]:=by simp[List.getD,d]
  rw[O]at y;have S:(L.take (i+1)).flatten=(L.take i).flatten++L[i]:=by rw[Qe d,ZA,List.flatten_singleton]
  have⟨m,F⟩:=η0 (L[i]);rw[F]at N j y S;have⟨l,Z⟩:=η0 ((L.take i).flatten);rw[Z]at r y S;obtain⟨A2,c2,rfl⟩:=a2X.form r;obtain⟨v',w',U,x,I,_⟩:=d2b (ty:=202) r (j.below D) ρo D.size R;obtain⟨A3,c3,rfl⟩:=a2X.form x;rw[Qa]at x U;have⟨E4,V,HF,G,W⟩:=η5 S x I D r;clear o j R J f O F Z B y E S r x I D;go_wp2;go_roundw
  case rel=>
   refine⟨i+1,by omega,by go_num,by rw[E4.o];exact V.o,G.trans (HF.below G.size (λk hk e=>?_))⟩
   have:=(a2X.lt W e).1
   omega
  case measure=>simp[intOf];omega
 obtain rfl:i=L.length:=ρo;have V:=η1 r;clear r;go_wp2;go_ret;refine⟨_,rfl,?_,D⟩
 have:=V.o
 rw[ZF]at this;exact this
end
section
attribute [local go_sem ↓] b7U b7m b7n a2t a2s a2n a3w
theorem a4O(y:Int)(l:LI):(a2L y l).length=l.length:=by simp[a2L]
theorem b0p(y:Int)(l:LI):∀x∈a2L y l,0<=x/\x<=255:=by
 intro x b;obtain⟨a,_,rfl⟩:=Qs.1 b;exact⟨bits_lo_u8 _ _ _,bits_hi_u8 _ _ _⟩
theorem b3N(h:Blk w g t (bys l).toArray)(a:∀x∈l,0<=x/\x<=255):Byt w g l:=
 ⟨λ_=>⟨g,0,rfl,h.lt,λj x hx=>by rw[QP,h.cell j];simp[bys,hx]⟩,a⟩
theorem c0d(d:OA)(v g:Nat)(f:OA)(w cb:Nat)(a b:LI)(X:WD)(y:Byt X d a)(m:v=a.length)(o:d=none->g=0)(z:Byt X f b)(p:w=b.length)(r:f=none->cb=0)
  (hl:a.length+b.length<=400000000) (hg:a2x X):
  Calls prog 132 #[.slice X 2 2] (X.alloc (.cells #[.slice d v g,.slice f w cb] 22)) λe w'=>e=.returned (.agg (bys (a3x (a++b))).toArray)/\Below X X w':=by
 subst m;subst p;have F:=Qd X 22 #[.slice d a.length g,.slice f b.length cb];have D:=ρb X (.cells #[.slice d a.length g,.slice f b.length cb] 22)
 have G:b8s (X.alloc (.cells #[.slice d a.length g,.slice f b.length cb] 22)) X [.slice d a.length g,.slice f b.length cb] [a,b]:=⟨rfl,λ_=>⟨X.heap.size,0,rfl,F.lt,λj x B=>by rw[QP,F.cell j];simpa using B⟩,λi h H=>by
  obtain rfl | rfl:i=0\/i=1:=by simp at h;omega
  ·exact⟨d,g,rfl,y.below D,o⟩
  exact⟨f,cb,rfl,z.below D,r⟩⟩
 have:=b3k X 2 _ [a,b] _ G ρp (by simp;omega) (by
  intro x B;simp only[Zm,List.flatten_nil,ZC,Qq]at B
  rcases B with B | B
  ·exact y.bd x B
  exact z.bd x B) (hg.below D)
 refine this.mono ?_;rintro e w' ⟨rfl,E⟩;exact⟨by simp,D.trans (E.mono ρp)⟩
theorem a1z{P:PG}{t:TI}{n:Nat}(hi:(P.info? t).map (·.size)=some n)(a:(((P.info? t).bind (·.zero)).map (·.cells.size))=some n):
  ∃
   Z:AV,(∀W:WD,(ALs t).run P W=.ok (.pointer (some ⟨W.heap.size,0,none⟩)) (W.alloc (.cells Z t)))/\
   (∀(W:WD) (xs:LV),xs.length=n->(∀v∈xs,v.oneCell'=true)->(STs t (.pointer (some ⟨W.heap.size,0,none⟩)) (.agg xs.toArray)).run P (W.alloc (.cells Z t))=.ok () (W.alloc (.cells xs.toArray t)))/\Z.size=n:=by
 obtain⟨z,b,d⟩:=Q8.1 a;exact⟨z.cells,λW=>a0U z b W,λW xs f b=>a7S hi W _ d xs f b,d⟩
abbrev P8:=@a1z prog
theorem d2l:(((prog.info? 244).bind (·.zero)).map (·.cells.size))=some 64:=ρk
theorem b6g(o:OA)(v:Nat)(k:LI)(j:OA)(p:Nat)(b:LI)(w:WD)(r:k.length<=64)(a:Byt w o k)(d:Byt w j b)(f:j=none->p=0)(y:b.length<=100000000)(x:a2x w):
  Calls prog 77 #[.slice o k.length v,.slice j b.length p] w λe w'=>e=.returned (.agg (bys (b0H k b)).toArray)/\Below w w w':=by
 obtain⟨Zi,a0,aF,aC⟩:=P8 (t:=31) iId b1N;obtain⟨Zp,aK,aD⟩:=Pg (t:=244) c5H d2l;have b0:=Qd w 31 Zi;have B0:=ρb w (.cells Zi 31);have⟨W,hW⟩:=η0 (w.alloc (.cells Zi 31));have⟨g,ah⟩:=ηs w;rw[hW]at B0;rw[hW,ah]at b0;have B:=c5R o v k r W (a.below B0);have G:=b0g k;have⟨F,ae⟩:=η0 (a7V k);rw[ae]at B G;have af:(bys F).length=64:=by rw[a0a,G]
 have au:=λX=>aD X (bys F) af (a0h _)
 have N:b0H k b=a3x (a2L 92 F++a3x (a2L 54 F++b)):=by rw[<-ae];rfl
 have⟨D,hD⟩:=η0 (a3x (a2L 54 F++b));have ak:Dig D:=by rw[<-hD];exact Dig.sha _
 rw[hD]at N;have ad:(bys D).length=32:=by rw[a0a,ak.1]
 have a1:=λX=>aF X (bys D) ad (a0h _)
 rw[N];have⟨E,hE⟩:=η0 (a3x (a2L 92 F++D));have aG:(bys E).length=32:=by rw[a0a,<-hE];exact(Dig.sha _).1
 rw[hE];have aI:=d.below B0;have aJ:=x.below B0;have⟨n,hn⟩:=η0 b.length
 generalize hm:k.length=m at B r⊢
 rw[hn]at y⊢;have⟨HN,HD,al,HE,ac,HW,HG,aA⟩:=η8 hn hD ak hE aG hW ah B0;have⟨aV,aQ,ay,aP,T,z,a2,HZ⟩:=η8 b0 aI aJ f af G ad aC;clear hn hm hD ak hE aG hW ah B0 b0 aI aJ a d x ae N f af G ad r aC;go_enter func77,ntmps77;go_upto_region 1 with fail
 rw[HW.o,HG.o];go_wp2_with fail;refine μi B ?_;intro w1 R;have b5:=Qd w1 244 (bys F).toArray;have B5:=R.alloc R.size (.cells (bys F).toArray 244);have⟨h5,S⟩:=ηs w1;have a3:W.heap.size<=h5:=by rw[<-S];exact R.size
 generalize aq:w1.alloc (.cells (bys F).toArray 244)=w2 at b5 B5
 rw[S]at b5;have aM:=P6 d1J c5H b5 (off:=0) (bys F) T.o (by simp[Qb,T.o]);have ht:=b1M F z 54 w2;have⟨aY,aH,aL,aX⟩:=η4 B5 b5 aq S;clear R B5 b5 S aq B;go_upto_region 2 with fail
 rw[aL.o,aX.o];clear au aK;go_wp2_with fail;refine μ1 ht ?_;rintro e w3 ⟨gi,rfl,Z,I,Y⟩;have H:=φt aY Y;have hs:=c0d gi 64 64 j n p (a2L 54 F) b w3 (b3N I (b0p _ _)) (by rw[a4O,z.o]) ρp (aQ.below H) HN.symm aP.o (by rw[a4O,z.o,HN.o];omega) (ay.below H);rw[HD.o]at hs;have⟨aT,az⟩:=η2 H (φf aH Y);clear ht Z I Y H aM;go_wp2_with fail;refine μi hs ?_;intro w4 ab;have O:=φt aT ab;have b6:=Qd w4 31 (bys D).toArray;have B6:=O.alloc O.size (.cells (bys D).toArray 31);have ai:=(φf az ab).alloc (.cells (bys D).toArray 31);have⟨h6,aa⟩:=ηs w4
 generalize ao:w4.alloc (.cells (bys D).toArray 31)=w6 at b6 B6 ai
 rw[aa]at b6;have⟨ax,U,ag,aR,aW⟩:=η5 B6 b6 ai ao aa;clear ab O B6 b6 ai aa ao hs;go_upto_region 3 with fail
 rw[aR.o,aW.o];have av:=P6 d1J c5H (ag.drew) (off:=0) (bys F) T.o (by simp[Qb,T.o]);have ar:=b1M F z 92 w6.drew;have aZ:=λX=>Pi b1w i5 X h6 ρo
 refine a0s [(2,3),(0,2),(1,2),(3,2),(4,2),(5,2)] (λ_=>True) ρk ρk ρk ρk trivial ?_;refine ε1 ?_;refine τ1 ?_;refine τ ?_;intro K hK;refine μ1 ar ?_;rintro e w7 ⟨gi,rfl,Z,I,an⟩;with_reducible refine hK _ _ ?_;clear hK K
 have J:Below W W w7:=ax.drew.trans (an.mono ax.size);have aB:=U.drew.fr (Q9 an) (by have:=U.lt;simp;omega);have aj:=c0d gi 64 64 h6 32 32 (a2L 92 F) D w7 (b3N I (b0p _ _)) (by rw[a4O,z.o]) ρp (b3N aB al.2) al.1.symm ρp (by rw[a4O,z.o,al.1];omega) (ay.below J);rw[HE.o]at aj;have aU:=η1 J;clear J an aB I Z ar av aZ;refine τ1 ?_;refine τ ?_;intro K hK;refine μi aj ?_;intro w8 aE;have Q:=φt aU aE;have V:=φf aV Q;have aN:=Pa (t:=31) a5m V (off:=0) (bys E) ac.o (by rw[HZ.o];omega) (a0h _);rw[a0q _ _ (by rw[ac.o,HZ.o])]at aN;have⟨aS,aO⟩:=η2 Q V;clear Q V aE aj;with_reducible refine hK _ _ ?_;clear hK K
 refine τ1 ?_;refine ν ?_;go_wp2;exact bodyPost_ret (a0c rfl _ _ g 31 (bys E) _ rfl (aO.row_ _) a5g rfl (ρy ac.o a5m)) rfl ⟨rfl,Ql (aA.trans (aS.mono aA.size)) (by rw[HG.o];exact Qg _) _⟩
end
def b1E:Nat->a0Q×St->a0Q×St
 | 0,(h,s)=>({h with sh:=((a0o 63 s).1:Int)},(a0o 63 s).2)
 | 1,(h,s)=>({h with ht:=((a0o 1099511627776 s).1:Int)},(a0o 1099511627776 s).2)
 | 2,(h,s)=>({h with ep:=((a0o 1099511627776 s).1:Int)},(a0o 1099511627776 s).2)
 | 3,(h,s)=>({h with prev:=(idT s).1},(idT s).2)
 | _,(h,s)=>({h with root:=(idT s).1},(idT s).2)
def a2l(l:LI):Nat->a0Q×St
 | 0=>(a1y,.ok l)
 | i+1=>b1E i (a2l l i)
def b0w(l:LI):Except Int a0Q:=
 match(a2l l 5).2 with
 | .error x=>.error x
 | .ok r=>if 0<r.length\/(a2l l 5).1.ht=0 then .error 3 else .ok (a2l l 5).1
theorem a3N(l:LI)(i:Nat):a2l l (i+1)=b1E i (a2l l i):=rfl
theorem c0W{h:a0Q}:(b1E i (h,.error x)).2=.error x:=by
 rcases i with _ | _ | _ | _ | i<;>rfl
theorem b4r{l:LI}{x:Int}{i:Nat}(h:(a2l l i).2=.error x):∀d,(a2l l (i+d)).2=.error x
 | 0=>h
 |
  d+1=>by
  have h2:=b4r h d;rw[<-ZT,a3N];rw[show a2l l (i+d)=((a2l l (i+d)).1,.error x) by rw[<-h2]];exact c0W
theorem c4A{p:a0Q×St}(a:a9Q p.2)(h:p.1.Bd):a9Q (b1E i p).2/\(b1E i p).1.Bd:=by
 obtain⟨hd,s⟩:=p;have b:=a0P 63 s;have d:=a0P 1099511627776 s;have hi:=a7z a
 rcases i with _ | _ | _ | _ | i
 ·exact⟨a2c a,⟨⟨by show(-9223372036854775808:Int)<=((a0o 63 s).1:Int);omega,by show((a0o 63 s).1:Int)<=9223372036854775807;omega⟩,h.ht,h.ep,h.prev,h.root⟩⟩
 ·exact⟨a2c a,⟨h.sh,⟨by show(-9223372036854775808:Int)<=((a0o 1099511627776 s).1:Int);omega,by show((a0o 1099511627776 s).1:Int)<=9223372036854775807;omega⟩,h.ep,h.prev,h.root⟩⟩
 ·exact⟨a2c a,⟨h.sh,h.ht,⟨by show(-9223372036854775808:Int)<=((a0o 1099511627776 s).1:Int);omega,by show((a0o 1099511627776 s).1:Int)<=9223372036854775807;omega⟩,h.prev,h.root⟩⟩
 ·exact⟨hi.1,⟨h.sh,h.ht,h.ep,⟨a1R s,hi.2⟩,h.root⟩⟩
 exact⟨hi.1,⟨h.sh,h.ht,h.ep,h.prev,⟨a1R s,hi.2⟩⟩⟩
theorem a8L{l:LI}(h:∀x∈l,0<=x/\x<=255):∀i,a9Q (a2l l i).2/\(a2l l i).1.Bd
 | 0=>⟨h,a1A⟩
 | i+1=>c4A (a8L h i).1 (a8L h i).2
theorem b7I(h:∀x∈l,0<=x/\x<=255){t:a0Q}(ht:b0w l=.ok t):t.Bd:=by
 have:=(a8L h 5).2
 unfold b0w at ht
 split at ht
 ·cases ht
 split at ht
 ·cases ht
 cases ht;exact this
abbrev b8t:=alOf 37
abbrev b2v:=stOf 37
theorem a6H(w:WD):(ALs 37).run prog w=.ok (.pointer w) (w.alloc (.cells (a0b a1y).toArray 37)):=a0U (.agg (a0b a1y).toArray) ρk w
theorem b2a(h:a0Q)(v:Int):(a0b h).toArray.setIfInBounds 0 (.int .i64 v)=(a0b {h with sh:=v}).toArray:=by simp[a0b]
theorem b1Q(h:a0Q)(v:Int):(a0b h).toArray.setIfInBounds 1 (.int .i64 v)=(a0b {h with ht:=v}).toArray:=by simp[a0b]
theorem b9l(h:a0Q)(v:Int):(a0b h).toArray.setIfInBounds 2 (.int .i64 v)=(a0b {h with ep:=v}).toArray:=by simp[a0b]
theorem b3S{h:a0Q}(a:h.prev.length=32)(_hr:h.root.length=32)(hd:d.length=32):a1d (a0b h).toArray 3 (bys d)=(a0b {h with prev:=d}).toArray:=by
 unfold a1d a0b;simp[a0a,a,hd]
theorem b8T{h:a0Q}(a:h.prev.length=32)(b:h.root.length=32)(hd:d.length=32):a1d (a0b h).toArray 35 (bys d)=(a0b {h with root:=d}).toArray:=by
 unfold a1d a0b;simp[a0a,a,b,hd]
def a8s:Nat->Nat
 | 0=>3
 | 1=>63
 | 2=>0
 | 3=>4611686018427387904
 | 4=>63
 | _=>1099511627776
def a8C(i:Nat)(p:LI×LI×St):LI×LI×St:=
 if i=2 then(p.1++[0],(idT p.2.2).1,(idT p.2.2).2)else(p.1++[((a0o (a8s i) p.2.2).1:Int)],p.2.1,(a0o (a8s i) p.2.2).2)
def a4e(l:LI):Nat->LI×LI×St
 | 0=>([],List.replicate 32 0,.ok l)
 | i+1=>a8C i (a4e l i)
theorem a2T(l:LI)(i:Nat):a4e l (i+1)=a8C i (a4e l i):=rfl
def a4c(p:LI×LI×St):a1P:=⟨p.1.getD 0 0,p.1.getD 1 0,p.2.1,p.1.getD 3 0,p.1.getD 4 0,p.1.getD 5 0⟩
def a9f(l:LI):Except Int a1P:=
 match(a4e l 6).2.2 with
 | .error x=>.error x
 | .ok r=>if 0<r.length\/(a4e l 6).1.getD 0 0=0 then .error 3 else .ok (a4c (a4e l 6))
theorem a7i{l:LI}{x:Int}{i:Nat}(h:(a4e l i).2.2=.error x):∀d,(a4e l (i+d)).2.2=.error x
 | 0=>h
 |
  d+1=>by
  have h2:=a7i h d;rw[<-ZT,a2T];unfold a8C;rw[h2]
  split<;>rfl
theorem b3G(l:LI):∀i,(a4e l i).1.length=i
 | 0=>rfl
 |
  i+1=>by
  have ih:=b3G l i;rw[a2T];unfold a8C
  split<;>simp[ih]
theorem b8n{l:LI}(h:∀x∈l,0<=x/\x<=255):∀i,Dig (a4e l i).2.1/\a9Q (a4e l i).2.2
 | 0=>⟨ZZ,h⟩
 |
  i+1=>by
  have ih:=b8n h i;rw[a2T];unfold a8C
  split
  ·exact⟨⟨a1R _,(a7z ih.2).2⟩,(a7z ih.2).1⟩
  exact⟨ih.1,a2c ih.2⟩
theorem c1U(l:LI):∀i k x,(a4e l i).1[k]? =some x->0<=x/\x<=(a8s k:Int)
 | 0,k,x,h=>by simp[a4e]at h
 |
  i+1,k,x,h=>by
  have ih:=c1U l i k x;have hl:=b3G l i
  have hx:∀y:Int,(0<=y/\y<=(a8s i:Int))->((a4e l i).1++[y])[k]? =some x->0<=x/\x<=(a8s k:Int):=λy hy hk=>by
   rw[List.getElem?_append]at hk
   split at hk
   ·exact ih hk
   rename_i hk2
   have hk3:k=i:=by
    have:=(Qm.1 hk).1
    simp at this;omega
   subst hk3;simp[hl]at hk;subst hk;exact hy
  rw[a2T]at h;unfold a8C at h
  split at h
  ·rename_i h2
   subst h2;exact hx 0 (by simp[a8s]) h
  have:=a0P (a8s i) (a4e l i).2.2
  exact hx _ ρo h
theorem b2V(h:∀x∈l,0<=x/\x<=255):(a4c (a4e l 6)).Bd:=by
 have p:=b3G l 6;have b:=c1U l 6;have hd:=(b8n h 6).1;have a:∀k,k<6->0<=(a4e l 6).1.getD k 0/\(a4e l 6).1.getD k 0<=(a8s k:Int):=λk o=>b k _ (by simp[List.getD,show k<(a4e l 6).1.length by omega])
 have j:=a 0 ρo;have f:=a 1 ρo;have m:=a 3 ρo;have d:=a 4 ρo;have g:=a 5 ρo;simp only[a8s]at j f m d g;exact⟨⟨by simp only[a4c];omega,by simp only[a4c];omega⟩,⟨by simp only[a4c];omega,by simp only[a4c];omega⟩,hd,⟨by simp only[a4c];omega,by simp only[a4c];omega⟩,⟨by simp only[a4c];omega,by simp only[a4c];omega⟩,⟨by simp only[a4c];omega,by simp only[a4c];omega⟩⟩
theorem b7M(h:∀x∈l,0<=x/\x<=255){t:a1P}(ht:a9f l=.ok t):t.Bd:=by
 have:=b2V h
 unfold a9f at ht
 split at ht
 ·cases ht
 split at ht
 ·cases ht
 cases ht;exact this
abbrev c0s:=alOf 34
abbrev b4R:=stOf 34
theorem c6C(w:WD):(ALs 34).run prog w=.ok (.pointer w) (w.alloc (.cells (a0x a4i).toArray 34)):=a0U (.agg (a0x a4i).toArray) ρk w
def a2w:Nat->St->LL×St
 | 0,s=>([],s)
 |
  j+1,s=>match a2w j s with
  | (L,.error x)=>(L,.error x)
  | (L,.ok l)=>(L++[(idT (.ok l)).1],(idT (.ok l)).2)
theorem a4x(s:St):a2w 0 s=([],s):=rfl
theorem a8l{s:St}(h:a2w j s=(L,.ok l)):a2w (j+1) s=(L++[(idT (.ok l)).1],(idT (.ok l)).2):=by
 rw[a2w,h]
theorem a4L{j:Nat}{s:St}{L:LL}{x:Int}(h:a2w j s=(L,.error x)):∀d,a2w (j+d) s=(L,.error x)
 | 0=>h
 | d+1=>by rw[<-ZT,a2w,a4L h d]
attribute [irreducible] a2w
theorem b1n(s:St):∀j,(a2w j s).1.length<=j
 | 0=>by rw[a4x];simp
 |
  j+1=>by
  have ih:=b1n s j
  cases hj:a2w j s with
  |
   mk L t=>
   rw[hj]at ih
   cases t with
   | error x=>rw[a4L hj 1];simp only at ih⊢;omega
   | ok l=>rw[a8l hj];simp only[Qa,ZB]at ih⊢;omega
theorem a8V{n:Nat}{s:St}(h:b5A n s):∀j,b5A n (a2w j s).2
 | 0=>by rw[a4x];exact h
 |
  j+1=>by
  have ih:=a8V h j
  cases hj:a2w j s with
  |
   mk L t=>
   rw[hj]at ih
   cases t with
   | error x=>rw[a4L hj 1];trivial
   | ok l=>rw[a8l hj];exact a3U ih
theorem a9X{s:St}(h:a9Q s):∀j,(∀d∈(a2w j s).1,Dig d)/\a9Q (a2w j s).2
 | 0=>by rw[a4x];exact⟨by simp,h⟩
 |
  j+1=>by
  have ih:=a9X h j
  cases hj:a2w j s with
  |
   mk L t=>
   rw[hj]at ih
   cases t with
   | error x=>rw[a4L hj 1];exact⟨ih.1,trivial⟩
   |
    ok l=>
    rw[a8l hj]
    have:=a7z (s:=.ok l) ih.2
    refine⟨λi hi=>?_,this.1⟩
    rcases Qq.1 hi with h1 | h1
    ·exact ih.1 i h1
    rw[Qn.1 h1];exact⟨a1R _,this.2⟩
def a3z(l:LI):LI×LL×LI×LI×St:=
 let t1:=a0C 100 (.ok l)
 let t2:=a0o 32 t1.2
 let t3:=a2w t2.1 t2.2
 let t4:=a0C 100 t3.2
 let t5:=idT t4.2
 (t1.1,t3.1,t4.1,t5.1,t5.2)
def a5s(l:LI):Except Int a0y:=
 match a3z l with
 | (_,_,_,_,.error x)=>.error x
 |
  (et,P,ht,tag,.ok r)=>if 0<r.length then .error 3 else
  match a9f et with
  | .error x=>.error x
  |
   .ok e=>match b0w ht with
   | .error x=>.error x
   | .ok h=>.ok ⟨e,P,h,tag⟩
def a0r:a0y:=⟨a4i,[],a1y,List.replicate 32 0⟩
theorem a0B:a0r.Bd:=⟨a3T,by simp[a0r],a1A,ZZ⟩
theorem a3t(m:Nat)(x:Int):a0o m (.error x)=(0,.error x):=rfl
theorem a9d(m:Nat)(x:Int):a0C m (.error x)=([],.error x):=rfl
theorem c1M(x:Int):idT (.error x)=(List.replicate 32 0,.error x):=rfl
theorem c3R{et ht:LI}{b d f a:St}{P:LL}(g:(a0C 100 (.ok l)).1=et)(j:(a0C 100 (.ok l)).2=b)(m:a0o 32 b=(n,d))(o:a2w n d=(P,f))(p:a0C 100 f=(ht,a)):a3z l=(et,P,ht,(idT a).1,(idT a).2):=by
 unfold a3z;simp only[g,j,m,o,p]
theorem c4V(a:∀x∈l,0<=x/\x<=255){c:a0y}(h:a5s l=.ok c):c.Bd:=by
 have b1:=a4u (most:=100) (s:=.ok l) a;have g:=a2c (most:=32) b1.1;have d:=a9X g (a0o 32 (a0C 100 (.ok l)).2).1;have b:=a4u (most:=100) d.2;have f:=a7z b.1;have j:=a1R (a0C 100 (a2w (a0o 32 (a0C 100 (.ok l)).2).1 (a0o 32 (a0C 100 (.ok l)).2).2).2).2;have e:a3z l=((a0C 100 (.ok l)).1,(a2w (a0o 32 (a0C 100 (.ok l)).2).1 (a0o 32 (a0C 100 (.ok l)).2).2).1,(a0C 100 (a2w (a0o 32 (a0C 100 (.ok l)).2).1 (a0o 32 (a0C 100 (.ok l)).2).2).2).1,(idT (a0C 100 (a2w (a0o 32 (a0C 100 (.ok l)).2).1 (a0o 32 (a0C 100 (.ok l)).2).2).2).2).1,(idT (a0C 100 (a2w (a0o 32 (a0C 100 (.ok l)).2).1 (a0o 32 (a0C 100 (.ok l)).2).2).2).2).2):=rfl;unfold a5s at h;rw[e]at h
 revert h
 generalize(idT (a0C 100 (a2w (a0o 32 (a0C 100 (.ok l)).2).1 (a0o 32 (a0C 100 (.ok l)).2).2).2).2).2=s5
 cases s5 with
 | error x=>intro h;cases h
 |
  ok r=>
  intro h;simp only at h
  split at h
  ·cases h
  split at h
  ·cases h
  rename_i e1 he
  split at h
  ·cases h
  rename_i h1 hh
  cases h
  exact⟨b7M b1.2 he,d.1,b7I b.2 hh,⟨j,f.2⟩⟩
theorem b2C(c:a0y)(d:c.Bd)(A b:OA)(cap a:Nat)(P:LL):(a0d c A cap).toArray.setIfInBounds 37 (.slice b P.length a)=(a0d {c with path:=P} b a).toArray:=by
 have f:=a0u d.e;unfold a0d
 apply ZM
 rw[Zt,QC,QC,List.set_append_right _ _ ρo,f]
 simp
theorem a4J{a b c xs:LV}{off:Nat}(d:a.length=off)(f:b.length=xs.length):a1d (a++b++c).toArray off xs=(a++xs++c).toArray:=by
 subst d;unfold a1d;simp[QT,QR,f]
theorem b9A(c:a0y)(f:c.Bd)(A:OA)(cap:Nat)(hd:d.length=32):a1d (a0d c A cap).toArray 105 (bys d)=(a0d {c with tag:=d} A cap).toArray:=by
 have:=a4J (a:=a0x c.e++[.slice A c.path.length cap]++a0b c.h) (b:=bys c.tag) (c:=[]) (xs:=bys d) (off:=105) (by simp[a0u f.e,a0f f.h]) (by simp[a0a,f.tag.1,hd])
 simpa[a0d]using this
theorem c6a(c:a0y)(d:c.Bd)(A:OA)(cap:Nat){e:a1P}(f:e.Bd):a1d (a0d c A cap).toArray 0 (a0x e)=(a0d {c with e:=e} A cap).toArray:=by
 have:=a4J (a:=[]) (b:=a0x c.e) (c:=[.slice A c.path.length cap]++a0b c.h++bys c.tag) (xs:=a0x e) (off:=0) rfl (by rw[a0u d.e,a0u f])
 simpa[a0d]using this
theorem c5e(c:a0y)(d:c.Bd)(A:OA)(cap:Nat){h:a0Q}(f:h.Bd):a1d (a0d c A cap).toArray 38 (a0b h)=(a0d {c with h:=h} A cap).toArray:=by
 have:=a4J (a:=a0x c.e++[.slice A c.path.length cap]) (b:=a0b c.h) (c:=bys c.tag) (xs:=a0b h) (off:=38) (by simp[a0u d.e]) (by rw[a0f d.h,a0f f])
 simpa[a0d]using this
theorem a9u(w:WD):(ALs 39).run prog w=.ok (.pointer w) (w.alloc (.cells (a0d a0r none 0).toArray 39)):=a0U (.agg (a0d a0r none 0).toArray) ρk w
theorem c1X(w:WD):(BDs 39 #[]).run prog w=.ok (.agg (a0d a0r none 0).toArray) w:=run_build w _ _ _ ρk
abbrev b0x:=bdOf 39
def d2x(t:TxD)(n:Int):LI:=a2V (a2P t n++a2K t n)
def a7D(t:TxD)(n:Int):Int×Bool:=if(d2x t n).length=1 then((d2x t n).getD 0 0,true)else(0,false)
theorem b6P(b:OA)(f:Nat)(d:OA)(o:Nat)(t:TxD)(n:Int)(y:-9223372036854775808<=n/\n<=9223372036854775807)(w:WD)(h:a9H w b d t)(p:a2x w)(r:t.ins.length<=1000000)(a:t.outs.length<=1000000):
  Calls prog 148 #[.agg (txV b f d o t),.int .i64 n] w λe w'=>e=.returned (.tuple #[.int .i64 (a7D t n).1,.bool (a7D t n).2])/\Below w w w':=by
 have S:=Qd w 53 (txV b f d o t);have B0:=ρb w (.cells (txV b f d o t) 53);have⟨W,hW⟩:=η0 (w.alloc (.cells (txV b f d o t) 53));have⟨g,hg⟩:=ηs w;rw[hW]at B0;rw[hW,hg]at S;have q0:W.cell? ⟨g,0,none⟩=some (.slice b t.ins.length f):=S.cell 0;have q1:W.cell? ⟨g,1,none⟩=some (.slice d t.outs.length o):=S.cell 1;have q2:W.cell? ⟨g,2,none⟩=some (.int .u64 t.fee):=S.cell 2;have q3:W.cell? ⟨g,3,none⟩=some (.int .i64 t.exp):=S.cell 3;have Q:=a9q b f d o t n y W (h.below B0) (p.below B0) r a;have⟨HW,HG,av⟩:=η3 hW hg B0;clear hW hg B0 S h p r a;unfold txV at HW Q⊢;go_enter func148,ntmps148;go_upto_region 1 with fail
 rw[HW.o,HG.o];go_wp2_with fail;refine μ1 Q ?_;rintro e w1 ⟨v,u,rfl,hv,hu,K⟩;obtain⟨X,Nv,Y,rfl⟩:=hv.formN;obtain⟨V,Nu,T,rfl⟩:=hu.formN;have au:= @a4q t n;have a:= @a8y t n;have an:=hv.lenN;have ab:=hu.lenN;have Z:=hv.rd;have ag:=hu.rd
 have al:X=none->Y=0:=λe=>by
  subst e;obtain⟨_,⟨e,_⟩ | ⟨g,cap,aq,e,_⟩⟩:=hv
  ·simp only[Value.slice.injEq]at e
   exact e.2.2
  simp at e
 have af:V=none->T=0:=λe=>by
  subst e;obtain⟨_,⟨e,_⟩ | ⟨g,cap,aq,e,_⟩⟩:=hu
  ·simp only[Value.slice.injEq]at e
   exact e.2.2
  simp at e
 have bw:=Qd w1 202 #[.slice X Nv Y,.slice V Nu T];have B2:=ρb w1 (.cells #[.slice X Nv Y,.slice V Nu T] 202);have B:=Z.below B2;have F:=ag.below B2;have R:=K.trans (B2.mono K.size)
 generalize aa:w1.alloc (.cells #[.slice X Nv Y,.slice V Nu T] 202)=w2 at bw B F R
 have N:([a2P t n,a2K t n]:LL).flatten=a2P t n++a2K t n:=by simp
 have I:=b6E w1 2 [.slice X Nv Y,.slice V Nu T] [a2P t n,a2K t n] w2 ⟨rfl,λ_=>⟨w1.heap.size,0,rfl,bw.lt,λj x U=>by rw[QP,bw.cell j];simpa using U⟩,λi hi aA=>by
  match i,hi with
  | 0,_=>exact⟨X,Y,by simp[an],B,al⟩
  | 1,_=>exact⟨V,T,by simp[ab],F,af⟩⟩ ρp (by rw[N,Qa];omega)
 rw[N,show([a2P t n,a2K t n]:LL).length=2 from rfl]at I;have J:∀x∈a2P t n++a2K t n,0<=x/\x<64:=λx U=>(Qq.1 U).elim (b3B (c0g t n) x) (b3B (c4v t n) x)
 have aj:(a2P t n++a2K t n).length<=1000000:=by rw[Qa];omega
 have⟨ar,ae,ac,ak⟩:=η4 aa R J aj;clear hv hu K Q au a an ab Z ag al af bw B2 B F R aa N J aj;have⟨L,hL⟩:=η0 (a2P t n++a2K t n);rw[hL]at I ac ak;have z:a7D t n=if(a2V L).length=1 then((a2V L).getD 0 0,true)else(0,false):=by unfold a7D d2x;rw[hL]
 have G:=η1 z;clear hL z;go_wp2_with fail;rw[ar.o];refine μ1 I ?_;rintro e w3 ⟨v3,rfl,H,O⟩;obtain⟨A3,N3,c3,rfl⟩:=H.formN;have he:=b8i w2.heap.size A3 N3 c3 L w3 H ac ak;have⟨ao,ax⟩:=η2 H (φt ae O);have ai:=O.size;clear H O I;go_wp2_with fail;refine μ1 he ?_;rintro e w4 ⟨A4,c4,rfl,hr,hf⟩;have P:=ax.trans ((a2X.step ao hf ai).mono ae.size);have ah:=η1 (φt av P)
 generalize hE:a2V L=E at hr G⊢
 have⟨m,hm⟩:=η0 E.length;have z:=G.o;rw[hm]at z
 by_cases h1:m=1
 ·subst h1
  obtain⟨g4,o4,rfl,aB,ad⟩:=hr.at (i:=0) ρo;rw[if_pos rfl]at z;rw[ZH]at ad;have⟨x,U⟩:=η0 (E.getD 0 0);rw[U]at ad z;have D:=η1 z;clear hr hf P hE z G U he;have ay:((1:Int) != 1)=false:=rfl;have az:((0:Int)<1):=ρo;rw[hm];clear hm;go_wp2;go_ret2;exact⟨by rw[D.o];rfl,ah.o⟩
 rw[if_neg h1]at z;have D:=η1 z;have ay:((m:Int) != 1)=true:=by simp;omega
 clear hr hf P hE z G he;rw[hm];clear hm;go_wp2;go_ret2;exact⟨by rw[D.o];rfl,ah.o⟩
section
def a4X(seed:LI)(i:Int):LI:=b0H seed [i]
theorem Dig.ring(seed:LI)(i:Int):Dig (a4X seed i):=Dig.mac _ _
def a5n(w:WD)(p:Nat)(seed:LI)(k:Nat):Prop:=∃A c,Blk w p 159 #[.slice A k c]/\RdR 32 w A ((List.range k).map λ(i:Nat)=>bys (a4X seed (i:Int)))
theorem a5n.below{w a:WD}{p:Nat}{seed:LI}{k:Nat}(h:a5n w p seed k)(b:Below w w a):a5n a p seed k:=by
 obtain⟨A,c,d,f⟩:=h;exact⟨A,c,d.fr (Q9 b) (ρh d.lt),f.below b⟩
theorem RdR.byt{R:LL}(h:RdR 32 w A (R.map bys))(b:∀r∈R,Dig r)(a:j<R.length):∃g off,A=some ⟨g,off,none⟩/\g<w.heap.size/\Byt w (some ⟨g,off+j*32,none⟩) R[j]:=by
 obtain⟨g,off,e,d,f⟩:=h j (ρw a);refine⟨g,off,e,d,⟨λ_=>⟨g,off+j*32,rfl,d,λk x m=>f k _ ?_⟩,(b _ (Qu a)).2⟩⟩;rw[QS,a3J,m]
 rfl
theorem c3u(p k:Nat)(A:OA)(c:Nat)(s:Int)(w:WD)(h:Blk w p 159 #[.slice A k c]):
  Calls prog 270 #[.pointer p,.int .i64 s] w λe w'=>e=.returned (.bool (decide (0<=s/\s<k)))/\w=w':=by
 have d:w.cell? ⟨p,0,none⟩=some (.slice A k c):=h.cell 0;clear h
 by_cases b:0<=s
 ·by_cases a:s<(k:Int)
  ·have hd:decide (0<=s/\s<(k:Int))=true:=by simp[b,a]
   rw[hd];clear hd;go_enter func270,ntmps270;go_wp2;go_ret;exact⟨rfl,rfl⟩
  have hd:decide (0<=s/\s<(k:Int))=false:=by simp[a]
  rw[hd];clear hd;go_enter func270,ntmps270;go_wp2;go_ret;exact⟨rfl,rfl⟩
 have hd:decide (0<=s/\s<(k:Int))=false:=by simp[b]
 rw[hd];clear hd;go_enter func270,ntmps270;go_wp2;go_ret;exact⟨rfl,rfl⟩
section
attribute [local go_sem ↓] a2t a2s a2n a3w
theorem c3i(p:OA)(y:Nat)(k:LI)(j:OA)(r:Nat)(b t:LI)(w:WD)(z:k.length<=64)(a:Byt w p k)(d:Byt w j b)(f:j=none->r=0)(B:b.length<=100000000)(ht:Dig t)(x:a2x w):
  Calls prog 294 #[.slice p k.length y,.slice j b.length r,.agg (bys t).toArray] w λe w'=>e=.returned (.bool (decide (b0H k b=t)))/\Below w w w':=by
 have Q:=Qd w 31 ((bys t).toArray);have N:=ρb w (.cells ((bys t).toArray) 31)
 generalize Z:w.alloc (.cells ((bys t).toArray) 31)=W at Q N
 have⟨g,Y⟩:=ηs w;rw[Y]at Q;have H:(bys t).length=32:=by rw[a0a,ht.1]
 have J:=λX (hX:Below W W X)=>P6 a2i iId (Q.fr (Q9 hX) (ρh Q.lt)) (off:=0) (bys t) H (by simp[Qb,H])
 have F:=b6g p y k j r b W.drew z (a.below N.drew) (d.below N.drew) f B (x.below N.drew);have D:=λX=>a8i (b0H k b) t (Dig.mac k b) ht X
 generalize hR:decide (b0H k b=t)=R at D⊢
 have E:=λX=>D X
 generalize hT:(bys t).toArray=T at J E Z⊢
 generalize hn:b.length=n at F⊢
 generalize hm:k.length=m at F⊢
 have⟨HW,HG,O,HB⟩:=η4 Z Y J N;clear Z Y J N D Q z a d f B ht hn hm hT hR H;go_enter func294,ntmps294;go_upto_region 1 with fail
 rw[HW.o,HG.o];refine a0s [(0,3),(1,3),(3,0),(2,1),(4,2),(5,3)] (λW'=>(LDs 31 (.pointer g)).run prog W'=.ok (.agg T) W') ρk ρk ρk ρk (O.o _ (Qf _ _).drew) ?_;refine ε2 ?_
 iterate 1 (with_reducible refine a0t (o:=?_) (v:=?_) (a':=?_) ρu ρu (λW' hS=>?_) ?_ ?_;rotate_left 2;(focus(skip;exact ρs));focus(exact ρs))
 refine κ ?_;intro K S;refine μi F ?_;intro w2 V;have G:Below W W w2:=(Qf _ W).drew.trans V;have hs:=E w2;have I:=η1 G;clear G V;with_reducible refine S _ _ (O.o _ I.o) ?_;clear S K
 refine τ ?_;intro K S;refine μi hs ?_;intro w4 U;have aa:=η1 U;clear U;with_reducible refine S _ _ ?_;clear S K
 refine ε1 ?_;refine ν ?_;go_wp2;go_ret;exact⟨rfl,HB.trans ((I.trans (aa.mono I.size)).mono HB.size)⟩
theorem b0k{e:TI}(a:P.underlying t=some (.array n e))(b:(P.info? e).map (·.size)=some 1)(w:WD)(g o:Nat)(d:0<n):
  (SLs t (.pointer (some ⟨g,o,none⟩)) none none none).run P w=.ok (.slice (some ⟨g,o,none⟩) n n) w:=by
 obtain⟨i,j,hi⟩:=Q8.1 b;have f:¬n=0:=ρo;simp[SLs,Instr.sliceAt,Instr.sureAddr,Instr.sliceBounds,run_underlying a,sizeOf,typeInfo,j,Addr.add]
theorem b9B(p k:Nat)(seed:LI)(s:Int)(m:OA)(o:Nat)(b t:LI)(w:WD)(v:a5n w p seed k)(_hk:k<=64)(a:Byt w m b)(d:m=none->o=0)(x:b.length<=100000000)(ht:Dig t)(f:a2x w):
  Calls prog 272 #[.pointer p,.int .i64 s,.slice m b.length o,.agg (bys t).toArray] w λe w'=>e=.returned (.bool (decide (0<=s/\s<k)&&decide (t=a7C seed s b)))/\Below w w w':=by
 obtain⟨A,c,E,O⟩:=v;have S:=Qd w 31 ((bys t).toArray);have F:=ρb w (.cells ((bys t).toArray) 31)
 generalize Q:w.alloc (.cells ((bys t).toArray) 31)=W at S F
 have⟨g,Z⟩:=ηs w;rw[Z]at S;have D:(bys t).length=32:=by rw[a0a,ht.1]
 have B:=E.fr (Q9 F) (ρh E.lt);have hh:=c3u p k A c s W.drew (B.drew)
 by_cases hs:0<=s/\s<(k:Int)
 ·obtain⟨j,rfl⟩:=a1C hs.1
  have Y:j<k:=ρo;have hd:decide (0<=(j:Int)/\(j:Int)<k)=true:=by simp[hs]
  rw[hd]at hh⊢;rw[Y5];clear hd hs;have z:((List.range k).map λ(i:Nat)=>a4X seed (i:Int)).length=k:=by simp
  have G:RdR 32 w A (((List.range k).map λ(i:Nat)=>a4X seed (i:Int)).map bys):=by rw[List.map_map];exact O
  obtain⟨gk,ok,rfl,ad,J⟩:=RdR.byt G (λr v=>by obtain⟨i,_,rfl⟩:=Qs.1 v;exact Dig.ring _ _) (j:=j) (ρy z Y);rw[show((List.range k).map λ(i:Nat)=>a4X seed (i:Int))[j]'(ρy z Y)=a4X seed (j:Int) by simp]at J;have V:(a4X seed (j:Int)).length=32:=(Dig.ring _ _).1;have y:=c3i (some ⟨gk,ok+j*32,none⟩) 32 (a4X seed (j:Int)) m o b t W.drew ρo (J.below F.drew) (a.below F.drew) d x ht (f.below F.drew);rw[V]at y
  have aa:decide (b0H (a4X seed (j:Int)) b=t)=decide (t=a7C seed (j:Int) b):=by
   rw[decide_eq_decide];exact eq_comm
  rw[aa]at y;have k0:∀X,Below W W X->X.cell? ⟨p,0,none⟩=some (.slice (some ⟨gk,ok,none⟩) k c):=λX hX=>(B.fr (Q9 hX) (ρh B.lt)).cell 0
  have N:=λX (hX:Below W W X)=>P6 a2i iId (S.fr (Q9 hX) (ρh S.lt)) (off:=0) (bys t) D (by simp[Qb,D])
  have sl:=λX=>b0k (P:=prog) b1w i5 X gk (ok+j*32) ρo
  generalize hR:decide (t=a7C seed (j:Int) b)=R at y⊢
  generalize hT:(bys t).toArray=T at N y Q⊢
  generalize hn:b.length=n at y⊢
  have ae:(j:Int)<k:=ρo;have af:(0:Int)<=(j:Int):=ρo;have⟨HW,HG,U,HB,K0⟩:=η5 Q Z N F k0;clear Q Z N F k0 S a d x ht hn hT hR D aa V J G z O f ad E B;go_enter func272,ntmps272;go_upto_region 1 with fail
  rw[HW.o,HG.o];refine a0s [(0,3),(1,3),(2,1),(3,3),(4,3),(5,3),(6,3),(8,3),(11,3),(7,0),(9,3),(10,3),(12,0),(13,2),(14,3),(15,3)] (λW'=>(LDs 31 (.pointer g)).run prog W'=.ok (.agg T) W'/\W'.cell? ⟨p,0,none⟩=some (.slice (some ⟨gk,ok,none⟩) k c)) ρk ρk ρk ρk ⟨U.o _ (Qf _ _).drew,K0.o _ (Qf _ _).drew⟩ ?_;refine ε2 ?_;refine κ ?_;intro K I;refine μf hh ?_;with_reducible refine I _ _ (⟨U.o _ (Qf _ _).drew,K0.o _ (Qf _ _).drew⟩) ?_;clear I K
  refine ε6 ?_
  iterate 1 refine θ2 (λ_ h=>h) ?_
  refine ε2 ?_
  iterate 1 refine θ2 (λ_ h=>h) ?_
  refine τ ?_;intro K I;refine μi y ?_;intro w3 ab;have H:Below W W w3:=(Qf _ W).drew.trans ab;have ac:=η1 H;clear H ab;with_reducible refine I _ _ ?_;clear I K
  refine ε2 ?_;refine ν ?_;go_wp2;go_ret;exact⟨rfl,HB.trans (ac.mono HB.size)⟩
 have hd:decide (0<=s/\s<(k:Int))=false:=ρw hs;rw[hd]at hh⊢;rw[Bool.false_and]
 generalize hT:(bys t).toArray=T at Q⊢
 generalize hn:b.length=n at⊢
 have⟨HW,HG,HB⟩:=η3 Q Z F;clear Q Z F S a d x ht hn hT D O f E B hd hs;go_enter func272,ntmps272;go_upto_region 1 with fail
 rw[HW.o,HG.o];refine a0s [(0,3),(1,3),(2,2),(3,3),(4,3),(5,3),(6,3),(7,3),(8,3),(9,3),(10,3),(11,3),(12,3),(13,3),(14,3),(15,3)] (λ_=>True) ρk ρk ρk ρk trivial ?_;refine ε2 ?_;refine τ ?_;intro K I;refine μf hh ?_;with_reducible refine I _ _ ?_;clear I K
 refine ε1 ?_;refine δ4 ?_;refine δ4 ?_;refine δ1 ?_;refine δ1 ?_;refine ε2 ?_;refine ν ?_;go_wp2;go_ret;exact⟨rfl,HB.drew⟩
end
end
section
theorem a0Z{fn:Func}{p q:Tmp}(h:fn.results=#[.cell p ty,.tmp q])(tmps:AV)(w:WD)(g:Nat)(t:TI)(xs:LV)
  (hg:Blk w g t xs.toArray) (hu:(P.underlying ty).map a1f=some true) (hi:(P.info? ty).map (·.size)=some xs.length) (hp:tmps.getD p undef=.pointer g) (v:VL) (hq:tmps.getD q undef=v:=by rfl):
  (results fn tmps).run P w=.ok (.tuple #[.agg xs.toArray,v]) w:=by
 obtain⟨d,hu,hd⟩:=Q8.1 hu;have a:tmps[p]?.getD undef=.pointer g:=ρw hp;have b:tmps[q]?.getD undef=v:=ρw hq;simp[results,h,a,b,asAddr,run_loadVar_row w g t ty xs.toArray (0,0) d hg hu (by cases d<;>simp_all [a1f]) (ρw hi)]
theorem a0F{P:PG}{w:WD}{t:TI}{n:Nat}(hi:(P.info? t).map (·.size)=some n){g:Nat}{Z:AV}(a:Blk w g t Z)(f:Z.size=n)(xs:LV)(b:xs.length=n)(d:∀v∈xs,v.oneCell'=true):
  (STs t (.pointer g) (.agg xs.toArray)).run P w=.ok () (w.setRow g xs.toArray):=by
 have:=a0I (P:=P) (t:=t) hi a (off:=0) xs b ρo d
 rwa [a0q _ _ ρo]at this
abbrev P9:=@a0F prog
theorem a0e{P:PG}{t:TI}{n:Nat}(b:(P.underlying t).map a1f=some true)(hi:(P.info? t).map (·.size)=some n){w:WD}{g:Nat}{e:TI}(xs:LV)(d:Blk w g e xs.toArray)(a:xs.length=n):
 (LDs t (.pointer g)).run P w=.ok (.agg xs.toArray) w:=a0g b hi d (off:=0) xs a (by simp[Qb,a])
abbrev P4:=@a0e prog
attribute [local go_sem ↓] a2t a2s a2n a6i
theorem b8H(d:LI)(hd:Dig d)(A:OA)(m c:Nat)(w:WD):
  Calls prog 312 #[.agg (bys d).toArray,.int .i64 0,.int .i64 1,.slice A m c] w λe w'=>e=.returned (.tuple #[.agg (bys d).toArray,.bool (decide (m=0))])/\Below w w w':=by
 have a:(bys d).length=32:=by rw[a0a,hd.1]
 obtain⟨Z,T,r,N⟩:=P8 (t:=31) iId b1N;have v:=Qd w 31 ((bys d).toArray);have x:=ρb w (.cells ((bys d).toArray) 31)
 generalize p:w.alloc (.cells ((bys d).toArray) 31)=W at v x
 have⟨g,o⟩:=ηs w;rw[o]at v;have b1:=Qd W 31 Z;have F:Below w w (W.alloc (.cells Z 31)):=x.alloc x.size _
 generalize D:W.alloc (.cells Z 31)=V at b1 F
 have b:W.heap.size=g+1:=by first | exact o | (rw[<-p];simp[o]) | (rw[<-p];simp;omega)
 rw[b]at b1;have j:=v.alloc (.cells Z 31);rw[D]at j;have I:=P4 a2i iId (bys d) j a;have z:=P9 iId b1 N (bys d) a (a0h _);have E:=b1.row_ (bys d).toArray;have K:=Ql (g:=g+1) F ρo (bys d).toArray;have⟨R,J⟩:=η0 (decide (m=0));have O:((m:Int) == 0)=R:=by rw[<-J,Bool.eq_iff_iff];simp
 rw[J];have f:(bys d).length=32:=a
 generalize y:bys d=xs at I z E K p f⊢
 have⟨S,U,Q,H,G,B⟩:=η6 p D o E K f;clear p D o E K f v x b1 F j r N b y a J hd;go_enter func312,ntmps312;go_upto_region 1 with fail
 rw[S.o,U.o,Q.o];go_wp2;exact bodyPost_ret (a0Z rfl _ _ (g+1) 31 xs H a2i (ρy B.o iId) rfl (.bool R)) rfl ⟨rfl,G.o⟩
def c12(d:LI)(L:LL):LI×Bool:=if L.length=0 then(List.replicate 32 0,false)else(a1n (L.getD (L.length-1) []) d,decide (L.length-1=0))
def c13(d:LI)(L:LL):LI×Bool:=if L.length=0 then(List.replicate 32 0,false)else(a1n (c12 d (L.take (L.length-1))).1 (L.getD (L.length-1) []),(c12 d (L.take (L.length-1))).2)
theorem Dig.c12(d:LI)(L:LL):Dig (c12 d L).1:=by
 unfold Proofs.YtpolljfkceanaaaGreatDoor.c12
 split
 ·exact ZZ
 exact Dig.node _ _
theorem Dig.c13(d:LI)(L:LL):Dig (c13 d L).1:=by
 unfold Proofs.YtpolljfkceanaaaGreatDoor.c13
 split
 ·exact ZZ
 exact Dig.node _ _
theorem c5O(d:LI)(hd:Dig d)(L:LL)(f:∀x∈L,Dig x)(A:OA)(c:Nat)(y:L.length<=c)(r:L.length<=1000000)(w:WD)(b:RdR 32 w A (L.map bys))(a:a2x w):
  Calls prog 312 #[.agg (bys d).toArray,.int .i64 1,.int .i64 2,.slice A L.length c] w λe w'=>e=.returned (.tuple #[.agg (bys (c12 d L).1).toArray,.bool (c12 d L).2])/\Below w w w':=by
 have aB:(bys d).length=32:=by rw[a0a,hd.1]
 obtain⟨Z,a5,ae,hz⟩:=P8 (t:=31) iId b1N;have b0:=Qd w 31 ((bys d).toArray);have B0:=ρb w (.cells ((bys d).toArray) 31)
 generalize hW:w.alloc (.cells ((bys d).toArray) 31)=W at b0 B0
 have⟨g,hg⟩:=ηs w;rw[hg]at b0;have b1:=Qd W 31 Z;have B1:Below w w (W.alloc (.cells Z 31)):=B0.alloc B0.size _
 generalize hV:W.alloc (.cells Z 31)=V at b1 B1
 have aq:W.heap.size=g+1:=by first | exact hg | (rw[<-hW];simp[hg]) | (rw[<-hW];simp;omega)
 rw[aq]at b1;have af:=b0.alloc (.cells Z 31);rw[hV]at af
 rcases Zq L.length with h0 | h0
 ·have E:=P9 iId b1 hz (bys (List.replicate 32 0)) (by simp[bys]) (a0h _)
  have b2:=b1.row_ (bys (List.replicate 32 0)).toArray;have B2:=Ql (g:=g+1) B1 ρo (bys (List.replicate 32 0)).toArray;have aV:=λW=>b1S W
  rw[show c12 d L=(List.replicate 32 0,false) by unfold c12;rw[if_pos h0]];rw[h0];have aa:(bys (List.replicate 32 0)).length=32:=by simp[bys]
  generalize aj:bys (List.replicate 32 0)=ys at E aV b2 B2 aa⊢
  generalize ab:bys d=I at hW⊢
  have⟨HW,HV,HG,ah,ad,Y⟩:=η6 hW hV hg b2 B2 aa;clear hW hV hg b2 B2 aa b0 B0 b1 B1 af ae hz aq ab aj aB hd b a f y r;go_enter func312,ntmps312;go_upto_region 1 with fail
  rw[HW.o,HV.o,HG.o];go_wp2;exact bodyPost_ret (a0Z rfl _ _ (g+1) 31 ys ah a2i (ρy Y.o iId) rfl (.bool false)) rfl ⟨rfl,ad.o⟩
 obtain⟨m,aC⟩:∃m,L.length=m+1:=⟨L.length-1,by omega⟩;obtain⟨gp,op,rfl,aW,ag⟩:=b m (by simp;omega)
 have au:Dig (L.getD m []):=by
  have:L.getD m []∈L:=by simp[List.getD,show m<L.length by omega]
  exact f _ this
 have⟨be,ak⟩:=η0 (L.getD m []);rw[ak]at au;have S:(bys be).length=32:=by rw[a0a,au.1]
 have aH:∀X,Below w w X->(LDs 31 (.pointer (some ⟨gp,op+m*32,none⟩))).run prog X=.ok (.agg (bys be).toArray) X:=λX R=>
  a2e a2i iId X gp (op+m*32) (bys be) S (λj v hv=>(R.cell (p:=⟨gp,op+m*32+j,none⟩) aW).trans (ag j v (by
   rw[QS,<-hv,<-ak];simp[List.getD,show m<L.length by omega])))
 have az:c12 d L=(a1n be d,decide (m=0)):=by
  unfold c12;rw[if_neg ρo,aC,Nat.add_sub_cancel,ak]
 rw[az,aC];have⟨D,hD⟩:=η0 (a1n be d);have aL:(bys D).length=32:=by rw[a0a,<-hD];exact(Dig.node _ _).1
 rw[hD];have a8:m+1<=c:=ρo;have a9:((m:Int)+1 == 0)=false:=by rw[beq_eq_false_iff_ne];omega
 have a2:(m:Int)<m+1:=ρo;have av:=B1.drew;have cl:=λX (R:Below w w X)=>b8H d hd (some ⟨gp,op,none⟩) m c X
 have⟨I,ab⟩:=η0 (bys d);have aa:I.length=32:=by rw[<-ab,aB]
 rw[ab]at hW b0 af cl⊢;have⟨ys,aj⟩:=η0 (bys be);have ay:(STs 31 (.pointer V) (.agg (bys be).toArray)).run prog (V.alloc (.cells Z 31)).drew=.ok () (V.alloc (.cells (bys be).toArray 31)).drew:=ae V.drew (bys be) S (a0h _);rw[aj]at aH S ay;have a3:(m:Int)+1<=(c:Int):=ρo;have a6:(0:Int)<=(m:Int):=ρo;have bf:(m:Int)<=1000000:=ρo;have⟨HW,HV,HG,aY,F,a1,Y,aK⟩:=η8 hW hV hg b1 B1 af aa ab;have⟨aU,aT,HP,aS,aA,aX,a0,aM⟩:=η8 aj aH b a av au hD aL;clear hW hV hg b1 B1 af aa ab aj aH b a av au hD aL b0 B0 aq aB f r aC ag az h0;go_enter func312,ntmps312;go_upto_region 1 with fail
 rw[HW.o,HV.o,HG.o];go_upto_region 6 with fail
 have⟨S0,O⟩:=η0 ((λX=>(LDs 31 (.pointer (some ⟨gp,op+m*32,none⟩))).run prog X=.ok (.agg ys.toArray) X):WD->Prop);have al:∀X,Below w w X->S0 X:=λX R=>by rw[<-O];exact aT.o X R
 have⟨ar,B⟩:=η2 O al;clear O al;with_reducible refine a4F (λi=>i != 7) S0 ρk ?_
 refine a2b (m:=4) (Lf:=#[true,true,true,true,true,false,false,false,false]) [(0,3),(1,3),(2,3),(4,3),(3,0)] true ρk ρk ρk (λ_=>B.o _ aA.o) ?_;refine εc4 ?_
 iterate 1 (with_reducible refine a3M (o:=?_) (v:=?_) (a':=?_) ρu ρu (λW' hS=>?_) ?_ ?_;rotate_left 2;(focus(rw[<-ar.o]at hS;exact ρs));focus(exact ρs))
 with_reducible refine a2m ?_
 refine a3O (i:=5) (j:=6) ρk ?_ ?_
 focus
  with_reducible refine a2k (J:=(λi=>i != 7)) (oi:=?_) ρu ρu (λK H=>?_)
  refine ψ ?_;go_simp;have ai:=b3C V.drew;refine μf ai ?_;clear ai;with_reducible refine H _ _ (B.o _ aA.o) ?_;clear H K
  refine a1c [(6,1),(7,2),(8,3)] true ρk ρk ρk (λ_=>B.o _ aA.o) ?_;refine κ ?_;intro K H;with_reducible refine H _ _ (B.o _ (F.o.alloc F.o.size _).drew) ?_;clear H K
  refine τ1 ?_;refine ε1 ?_;refine ν ?_
 rotate_left
 focus
  with_reducible refine a2k (J:=(λi=>i != 7)) (oi:=?_) ρu ρu (λK H=>?_)
  refine ψ ?_;go_simp;with_reducible refine H _ _ (B.o _ (F.o.alloc F.o.size _).drew) ?_;clear H K
  refine a1c [(5,1),(7,2),(8,3)] true ρk ρk ρk (λ_=>B.o _ (F.alloc F.size _).drew) ?_;refine κ ?_;intro K H;have ai:=b3C (V.alloc (.cells Z 31)).drew;refine μf ai ?_;clear ai;with_reducible refine H _ _ (B.o _ (F.o.alloc F.o.size _).drew) ?_;clear H K
  refine τ1 ?_;refine ε1 ?_;refine ν ?_
 all_goals
  clear ay B ar S0;have b2:=(Qd V 31 ys.toArray).drew;have B2:=(F.alloc F.size (.cells ys.toArray 31)).drew;have an:=(a1.alloc (.cells ys.toArray 31)).drew;have aF:=(aY.alloc (.cells ys.toArray 31)).drew;have⟨h,hh⟩:=ηs V
  generalize hU:(V.alloc (.cells ys.toArray 31)).drew=U at b2 B2 an aF⊢
  rw[hh]at b2⊢;have aI:=λX (R:Below U U X)=>P4 a2i iId I (an.fr (Q9 R) (ρh an.lt)) Y.o
  have⟨S0,O⟩:=η0 ((λX=>(LDs 31 (.pointer g)).run prog X=.ok (.agg I.toArray) X):WD->Prop);have al:∀X,Below U U X->S0 X:=λX R=>by rw[<-O];exact aI X R
  have ba:(m:Int)<=(c:Int):=ρo;have bb:IntKind.i64.wrap 0=0:=rfl;have a4:IntKind.i64.wrap 1=1:=rfl;have aQ:∀v∈I,v.oneCell'=true:=by rw[<-aK.o];exact a0h _
  have aE:=cl U.drew B2.drew;have aD:=cl (U.alloc (.cells Z 31)).drew (B2.alloc B2.size _).drew;have aJ:=(Qd U 31 Z).drew;have⟨ah,ad,bg,aG,ar,B,aN,aZ⟩:=η8 b2 B2 an aF O al aQ aJ;clear b2 B2 an aF O al aQ aJ hh hU aI cl;go_upto_region 10 with fail
  with_reducible refine a4F (λi=>i != 10&&i != 15) S0 ρk ?_
  refine a2b (m:=7) (Lf:=#[true,true,true,true,true,true,true,true,true,true,false,false,false,false,false,false,false]) [(1,3),(2,3),(3,3),(4,3),(5,3),(6,3),(7,3),(8,3),(9,3),(0,0)] true ρk ρk ρk (λ_=>B.o _ (Qf _ _).drew) ?_;refine εc4 ?_;refine εc4 ?_;refine εc1 ?_
  iterate 1 (with_reducible refine a3M (o:=?_) (v:=?_) (a':=?_) ρu ρu (λW' hS=>?_) ?_ ?_;rotate_left 2;(focus(rw[<-ar.o]at hS;exact ρs));focus(exact ρs))
  with_reducible refine a2m ?_
  refine a3O (i:=10) (j:=14) ρk ?_ ?_
  focus
   with_reducible refine b2d (J:=(λi=>i != 10&&i != 15)) (oi:=?_) ρu ρu ρd (λK H=>?_)
   refine ψ ?_;go_simp;refine μi aE ?_;intro N G;have E:=ae N I Y aN;have z:Below U U N:=(Qf _ U).drew.trans G;have q1:=Qd N 31 I.toArray;have q2:=(φf ah z).alloc (.cells I.toArray 31);have q3:=(φf aG z).alloc (.cells I.toArray 31);have q4:=(φt ad z).alloc (φt ad z).size (.cells I.toArray 31);have T:=z.alloc z.size (.cells Z 31);have⟨X,R⟩:=η0 (N.alloc (.cells I.toArray 31));have⟨hx,ac⟩:=ηs N;rw[R]at q1 q2 q3 q4 E;rw[ac]at q1 E;have⟨Q1,Q2,Q3,Q4,aP,ax⟩:=η6 q1 q2 q3 q4 ac T;clear q1 q2 q3 q4 ac T G z aE aD R;with_reducible refine H _ _ ?_;clear H K
   refine a1c [(11,3),(12,3),(13,3),(14,1),(15,2),(16,3)] false ρk ρk ρk ρp ?_;refine ε3 ?_;refine κ1 (B.o _ ax.o) ?_;rw[aP.o];refine τ1 ?_;refine ε1 ?_;refine ν ?_;clear E ax aP
  rotate_left
  focus
   with_reducible refine a2k (J:=(λi=>i != 10&&i != 15)) (oi:=?_) ρu ρu (λK H=>?_)
   refine ψ ?_;go_simp;with_reducible refine H _ _ (B.o _ (ρb U _).drew) ?_;clear H K
   refine a1c [(10,2),(11,3),(12,3),(13,3),(15,2),(16,3)] true ρk ρk ρk (λ_=>B.o _ (ρb U _).drew) ?_;refine τ ?_;intro K H;refine μi aD ?_;intro N G;have z:Below U U N:=(ρb U _).drew.trans (G.mono ρp);have T:=φf aZ G;have E:=P9 iId T hz I Y aN;have aR:=φt ad z;have aO:w.heap.size<=U.heap.size:=ad.size;have q1:=T.row_ I.toArray;have q2:=(φf ah z).rowFar (g':=U.heap.size) (ρh ah.o.lt) I.toArray;have q3:=(φf aG z).rowFar (g':=U.heap.size) (ρh aG.o.lt) I.toArray;have q4:=Ql (g:=U.heap.size) aR aO I.toArray;have⟨X,R⟩:=η0 (N.setRow U.heap.size I.toArray);have⟨hx,ac⟩:=ηs U;rw[R]at q1 q2 q3 q4 E;rw[ac]at q1 E⊢;have⟨Q1,Q2,Q3,Q4⟩:=η4 q1 q2 q3 q4;clear q1 q2 q3 q4 G z aE aD R ac aR aO T;with_reducible refine H _ _ ?_;clear H K
   refine ε3 ?_;refine τ1 ?_;refine ε1 ?_;refine ν ?_;clear E
  all_goals
   have bc:=P4 a2i iId ys Q2 S;have a7:=P4 a2i iId I Q1 Y;have Q:=b3b be d aX hd X (aS.below Q4);rw[a0.o,aK.o,aU.o]at Q;go_wp2_with fail;refine μi Q ?_;intro bh ao;have q5:=φf Q3 ao;have E:=P9 iId q5 hz (bys D) aM.o (a0h _);have q6:=q5.row_ (bys D).toArray;have q7:=Ql (g:=g+1) (φt Q4 ao) (ρh HG.o) (bys D).toArray;have⟨Q6,Q7⟩:=η2 q6 q7;clear q6 q7 ao q5 Q;go_wp2;exact bodyPost_ret (a0Z rfl _ _ (g+1) 31 (bys D) Q6.o a2i (ρy aM.o iId) rfl (.bool (decide (m=0)))) rfl ⟨rfl,Q7.o⟩
end
section
theorem a0m{P:PG}{w:WD}{t:TI}{n:Nat}(hi:(P.info? t).map (·.size)=some n){g:Nat}{Z:AV}(a:Blk w g t Z)(f:Z.size=n)(xs:LV)(b:xs.length=n)(d:∀v∈xs,v.oneCell'=true):
  (STs t (.pointer g) (.agg xs.toArray)).run P w=.ok () (w.setRow g xs.toArray):=by
 have:=a0I (P:=P) (t:=t) hi a (off:=0) xs b ρo d
 rwa [a0q _ _ ρo]at this
abbrev P7:=@a0m prog
structure a4N(t:TI)(g p s:Nat)(w w':WD)(cs:AV)(l:LI):Prop where
 var:Blk w' g t cs
 eye:a0S w' p s l
 fr:Fr (λk=>k=p) w w'
theorem a4N.step(h:a4N t g p s w b cs l)(m:w.heap.size=g)(o:p<g)(f:Fr (λk=>k=p) b a)(j:a0S a p s d):a4N t g p s w a cs d:=
 ⟨h.var.fr f ρo,j,h.fr.trans f (λ_ _ e=>e)⟩
theorem a4N.store(h:a4N t g p s w a cs l)(b:w.heap.size=g)(d:p<g)(j:s<g)(i:Nat)(v:VL):a4N t g p s w (a.setCell ⟨g,i,none⟩ v) (cs.setIfInBounds i v) l:=by
 have f:Fr (λk=>k=g) a (a.setCell ⟨g,i,none⟩ v):=(Qp (λk=>k=g) a).setCell (p:=⟨g,i,none⟩) (λ_=>rfl) _;exact⟨h.var.set_ i v,h.eye.fr f ρo ρo,h.fr.trans f (λk m e=>ρo)⟩
theorem a4N.row(h:a4N t g p s w b cs l)(d:w.heap.size=g)(j:p<g)(m:s<g)(a:AV):a4N t g p s w (b.setRow g a) a l:=by
 have f:=ρr (g) b a;exact⟨h.var.row_ a,h.eye.fr f ρo ρo,h.fr.trans f (λk o e=>ρo)⟩
theorem a4N.start(h:a0S w p s l)(a:p<w.heap.size)(b:s<w.heap.size):a4N t w.heap.size p s w (w.alloc (.cells cs t)) cs l:=by
 have B:=ρb w (.cells cs t);exact⟨Qd w t cs,h.fr (Q9 B) ρo ρo,(Q9 B).mono (λk d e=>ρo)⟩
theorem c1h(e:a1P)(v:Int):(a0x e).toArray.setIfInBounds 0 (.int .i64 v)=(a0x {e with kind:=v}).toArray:=by simp[a0x]
theorem b2D(e:a1P)(v:Int):(a0x e).toArray.setIfInBounds 1 (.int .i64 v)=(a0x {e with sh:=v}).toArray:=by simp[a0x]
theorem b9i{e:a1P}(h:e.tx.length=32)(v:Int):(a0x e).toArray.setIfInBounds 34 (.int .u64 v)=(a0x {e with am:=v}).toArray:=by
 simp[a0x,a0a,h,List.set_append]
theorem b9t{e:a1P}(h:e.tx.length=32)(v:Int):(a0x e).toArray.setIfInBounds 35 (.int .i64 v)=(a0x {e with why:=v}).toArray:=by
 simp[a0x,a0a,h,List.set_append]
theorem b1R{e:a1P}(h:e.tx.length=32)(v:Int):(a0x e).toArray.setIfInBounds 36 (.int .i64 v)=(a0x {e with ep:=v}).toArray:=by
 simp[a0x,a0a,h,List.set_append]
theorem b8e{e:a1P}(h:e.tx.length=32)(hd:d.length=32):a1d (a0x e).toArray 2 (bys d)=(a0x {e with tx:=d}).toArray:=by
 unfold a0x;exact a4J (a:=[.int .i64 e.kind,.int .i64 e.sh]) (b:=bys e.tx) rfl (by rw[a0a,a0a,h,hd])
theorem a1r{m:Nat}(h:v<=m)(a:m<=9223372036854775807):IntKind.i64.wrap (v:Int)=v:=by rw[IntKind.wrap_i64];omega
attribute [local go_sem ↓] a1W c0s b4R a2t a2s a2n
theorem c1A(p s:Nat)(l:LI)(a:l.length<=400000000)(w:WD)(h:a0S w p s l)(b:p<w.heap.size)(f:s<w.heap.size):
  Calls prog 200 #[.pointer p] w λe w'=>b5o p s (a4e l 6).2.2 (.agg (a0x (a4c (a4e l 6))).toArray) e w'/\Fr (λk=>k=p) w w':=by
 have⟨g,hg⟩:=ηs w;have J:=c6C w;have e0:a4c (a4e l 0)=a4i:=rfl;have v0:=a4N.start (t:=34) (cs:=(a0x a4i).toArray) h b f
 generalize hW:w.alloc (.cells (a0x a4i).toArray 34)=W at v0 J
 rw[hg]at v0 J;have j:p<g:=ρo;have F:s<g:=ρo;have aP:g<=W.heap.size:=by have:=v0.var.lt;omega
 have K:=a5w p s l 3 ρo ρo W v0.eye;obtain⟨D,s1,h1⟩:∃v st,a0o 3 (.ok l)=(v,st):=⟨_,_,rfl⟩;have R:=a0P 3 (.ok l);have U:=a1b (most:=3) (st:=.ok l) (n:=400000000) a;rw[h1]at K R U;rw[show((3:Nat):Int)=3 from rfl]at K;simp only at K R U
 have p1:a4e l 1=([(D:Int)],List.replicate 32 0,s1):=by
  show a8C 0 _=_
  simp only[a4e,a8C];rw[if_neg ρo,show a8s 0=3 from rfl,h1]
  rfl
 have⟨HW,G,V0,av,aB,an⟩:=η6 hW hg v0 p1 R U;clear hW hg v0 p1 R U h h1 aP e0;go_enter func200,ntmps200;go_upto_region 1 with fail
 clear J;go_wp2_with fail;refine μ1 K ?_;rintro e w1 ⟨y,f1⟩
 cases s1 with
 |
  error x=>
  obtain rfl:=y;refine⟨rfl,?_,V0.fr.trans f1 (λ_ _ e=>e)⟩;rw[a7i (i:=1) (x:=x) (by rw[av.o]) 5]
  rfl
 |
  ok l1=>
  obtain⟨rfl,X⟩:=y;have v1:=V0.step G j f1 X;have B:=a5w p s l1 63 ρo (by have:l1.length<=400000000:=an.o;omega) w1 X;obtain⟨E,s2,h2⟩:∃v st,a0o 63 (.ok l1)=(v,st):=⟨_,_,rfl⟩;have I:=a0P 63 (.ok l1);have N:=a1b (most:=63) (st:=.ok l1) (n:=400000000) an.o;rw[h2]at B I N;rw[show((63:Nat):Int)=63 from rfl]at B;simp only at B I N
  have p2:a4e l 2=([(D:Int),(E:Int)],List.replicate 32 0,s2):=by
   rw[a2T,av.o];simp only[a8C];rw[if_neg ρo,show a8s 1=63 from rfl,h2]
   rfl
  have az:=a1r aB.o ρo;have aK:=a1r I ρo;have⟨V1,ad,aW,ai⟩:=η4 v1 p2 I N;clear v1 p2 I N h2 X f1 K;go_wp2_with fail;refine μ1 B ?_;rintro e w2 ⟨y,f2⟩
  cases s2 with
  |
   error x=>
   obtain rfl:=y;refine⟨rfl,?_,V1.fr.trans f2 (λ_ _ e=>e)⟩;rw[a7i (i:=2) (x:=x) (by rw[ad.o]) 4]
   rfl
  |
   ok l2=>
   obtain⟨rfl,ax⟩:=y;have v2:=V1.step G j f2 ax;have c0:w2.cell? ⟨g,0,none⟩=some (.int .i64 0):=v2.var.cell 0;have c1:w2.cell? ⟨g,1,none⟩=some (.int .i64 0):=v2.var.cell 1;have z0:=v2.var.frozen 0;have z1:=v2.var.frozen 1;have v3:=(v2.store G j F 0 (.int .i64 D)).store G j F 1 (.int .i64 E);rw[c1h,b2D]at v3;replace v3:a4N 34 g p s w _ (a0x ⟨(D:Int),(E:Int),List.replicate 32 0,0,0,0⟩).toArray l2:=v3
   generalize aj:(w2.setCell ⟨g,0,none⟩ (.int .i64 D)).setCell ⟨g,1,none⟩ (.int .i64 E)=w3 at v3
   have⟨V3,aO⟩:=η2 v3 aj;clear v3 aj v2 ax f2 B;go_upto_region 2 with fail
   rw[aO.o];clear c0 c1 z0 z1 az aK;have hid:=c4T p s l2 (by have:l2.length<=400000000:=ai.o;omega) w3 V3.eye (ρh V3.o.var.lt) (ρh V3.o.var.lt);obtain⟨d,s3,h3⟩:∃v st,idT (.ok l2)=(v,st):=⟨_,_,rfl⟩;have hd:=a1R (.ok l2);have O:=a3U (st:=.ok l2) (n:=400000000) ai.o;rw[h3]at hid hd O;simp only at hid hd O
   have p3:a4e l 3=([(D:Int),(E:Int),0],d,s3):=by
    rw[a2T,ad.o];simp only[a8C];rw[if_pos trivial,h3]
    rfl
   have⟨ae,al⟩:=η2 p3 O;clear p3 O h3;go_wp2_with fail;refine μ1 hid ?_;rintro e w4 ⟨y,f4⟩
   cases s3 with
   |
    error x=>
    obtain rfl:=y;refine⟨rfl,?_,V3.fr.trans f4 (λ_ _ e=>e)⟩;rw[a7i (i:=3) (x:=x) (by rw[ae.o]) 3]
    rfl
   |
    ok l3=>
    obtain⟨rfl,ak⟩:=y;have v4:=V3.step G j f4 ak;have aC:(List.replicate 32 (0:Int)).length=32:=List.length_replicate;have z:=Pa a5m v4.var (off:=2) (bys d) (ρy a0a hd) (by rw[Qc];simp[a0x,a0a]) (a0h _);rw[b8e (e:=⟨(D:Int),(E:Int),List.replicate 32 0,0,0,0⟩) aC hd]at z;have v5:=v4.row G j F (a0x ⟨(D:Int),(E:Int),d,0,0,0⟩).toArray
    generalize Z:w4.setRow g (a0x ⟨(D:Int),(E:Int),d,0,0,0⟩).toArray=w5 at v5
    replace z:(STs 31 (.pointer (some ⟨g,2,none⟩)) (.agg (bys d).toArray)).run prog w4=.ok () w5:=z.trans (by rw[<-Z])
    generalize aS:(bys d).toArray=tv at z⊢
    have⟨V5,aX⟩:=η2 v5 Z;clear v5 Z v4 ak f4 hid aS;go_upto_region 3 with fail
    clear z;have r:=a5w p s l3 4611686018427387904 ρo (by have:l3.length<=400000000:=al.o;omega) w5 V5.eye;obtain⟨Q,s4,h4⟩:∃v st,a0o 4611686018427387904 (.ok l3)=(v,st):=⟨_,_,rfl⟩;have T:=a1b (most:=4611686018427387904) (st:=.ok l3) (n:=400000000) al.o;rw[h4]at r T;rw[show((4611686018427387904:Nat):Int)=4611686018427387904 from rfl]at r;simp only at r T
    have p4:a4e l 4=([(D:Int),(E:Int),0,(Q:Int)],d,s4):=by
     rw[a2T,ae.o];simp only[a8C];rw[if_neg ρo,show a8s 3=4611686018427387904 from rfl,h4]
     rfl
    have⟨af,ao⟩:=η2 p4 T;clear p4 T h4;go_wp2_with fail;refine μ1 r ?_;rintro e w6 ⟨y,f6⟩
    cases s4 with
    |
     error x=>
     obtain rfl:=y;refine⟨rfl,?_,V5.fr.trans f6 (λ_ _ e=>e)⟩;rw[a7i (i:=4) (x:=x) (by rw[af.o]) 2]
     rfl
    |
     ok l4=>
     obtain⟨rfl,ah⟩:=y;have v6:=V5.step G j f6 ah;have aR:w6.cell? ⟨g,34,none⟩=some (.int .u64 0):=(v6.var.cell 34).trans (by simp[a0x,a0a,hd]);have aN:=v6.var.frozen 34;have v7:=v6.store G j F 34 (.int .u64 Q);rw[b9i hd]at v7
     generalize ar:w6.setCell ⟨g,34,none⟩ (.int .u64 Q)=w7 at v7
     have⟨V7,aA⟩:=η2 v7 ar;clear v7 ar v6 ah f6 r;go_upto_region 4 with fail
     rw[aA.o];clear aR aN;have m:=a5w p s l4 63 ρo (by have:l4.length<=400000000:=ao.o;omega) w7 V7.eye;obtain⟨V,s5,h5⟩:∃v st,a0o 63 (.ok l4)=(v,st):=⟨_,_,rfl⟩;have aa:=a0P 63 (.ok l4);have S:=a1b (most:=63) (st:=.ok l4) (n:=400000000) ao.o;rw[h5]at m S aa;rw[show((63:Nat):Int)=63 from rfl]at m;simp only at m S aa
     have p5:a4e l 5=([(D:Int),(E:Int),0,(Q:Int),(V:Int)],d,s5):=by
      rw[a2T,af.o];simp only[a8C];rw[if_neg ρo,show a8s 4=63 from rfl,h5]
      rfl
     have aV:=a1r aa ρo;have⟨aq,aT⟩:=η2 p5 S;clear p5 S h5;go_wp2_with fail;refine μ1 m ?_;rintro e w8 ⟨y,f8⟩
     cases s5 with
     |
      error x=>
      obtain rfl:=y;refine⟨rfl,?_,V7.fr.trans f8 (λ_ _ e=>e)⟩;rw[a7i (i:=5) (x:=x) (by rw[aq.o]) 1]
      rfl
     |
      ok l5=>
      obtain⟨rfl,ay⟩:=y;have v8:=V7.step G j f8 ay;have o:=a5w p s l5 1099511627776 ρo (by have:l5.length<=400000000:=aT.o;omega) w8 v8.eye;obtain⟨k6,s6,h6⟩:∃v st,a0o 1099511627776 (.ok l5)=(v,st):=⟨_,_,rfl⟩;have Y:=a0P 1099511627776 (.ok l5);rw[h6]at o Y;rw[show((1099511627776:Nat):Int)=1099511627776 from rfl]at o;simp only at o Y
      have p6:a4e l 6=([(D:Int),(E:Int),0,(Q:Int),(V:Int),(k6:Int)],d,s6):=by
       rw[a2T,aq.o];simp only[a8C];rw[if_neg ρo,show a8s 5=1099511627776 from rfl,h6]
       rfl
      have aY:=a1r Y ρo;have⟨V8,ag⟩:=η2 v8 p6;clear v8 p6 h6 ay f8 m;go_wp2_with fail;refine μ1 o ?_;rintro e w9 ⟨y,f9⟩
      cases s6 with
      |
       error x=>
       obtain rfl:=y;refine⟨rfl,?_,V8.fr.trans f9 (λ_ _ e=>e)⟩;rw[ag.o]
       rfl
      |
       ok l6=>
       obtain⟨rfl,ac⟩:=y;have v9:=V8.step G j f9 ac;have aQ:w9.cell? ⟨g,35,none⟩=some (.int .i64 0):=(v9.var.cell 35).trans (by simp[a0x,a0a,hd]);have aE:w9.cell? ⟨g,36,none⟩=some (.int .i64 0):=(v9.var.cell 36).trans (by simp[a0x,a0a,hd]);have aJ:=v9.var.frozen 35;have aL:=v9.var.frozen 36;have va:=(v9.store G j F 35 (.int .i64 V)).store G j F 36 (.int .i64 k6);rw[b9t hd,b1R hd]at va
       generalize au:(w9.setCell ⟨g,35,none⟩ (.int .i64 V)).setCell ⟨g,36,none⟩ (.int .i64 k6)=wa at va
       have H:(a0x ⟨(D:Int),(E:Int),d,(Q:Int),(V:Int),(k6:Int)⟩).length=37:=by simp[a0x,a0a,hd]
       have aD:=Pb b3q a8Q _ va.var H;have aH:=P7 a8Q va.var (ρy Qc H) (a0x ⟨(D:Int),(E:Int),d,(Q:Int),(V:Int),(k6:Int)⟩) H (a5h _);have vb:=va.row G j F (a0x ⟨(D:Int),(E:Int),d,(Q:Int),(V:Int),(k6:Int)⟩).toArray;have⟨xs,ab⟩:=η0 (a0x ⟨(D:Int),(E:Int),d,(Q:Int),(V:Int),(k6:Int)⟩);rw[ab]at aD aH vb H;have⟨aU,VB,aI,aF⟩:=η4 au vb H ab;clear au vb H ab v9 va ac f9 o;go_upto_region 5 with fail
       rw[aU.o];clear aQ aE aJ aL;go_wp2_with fail;obtain⟨dT,aG,aM⟩:=Q8.1 b3q;refine bodyPost_ret (a0c rfl _ _ g 34 xs dT rfl VB.var aG aM (ρy aI.o a8Q)) rfl ?_;rw[ag.o];exact⟨⟨by rw[<-aF.o];rfl,VB.eye⟩,VB.fr⟩
theorem b9H(p s a:Nat)(l:LI)(f:l.length<=400000000)(Z:AV)(g:Z.size=37)(w:WD)(h:a0S w p s l)(j:p<w.heap.size)(m:s<w.heap.size)(d:s≠a)(b:Blk w a 34 Z):
  Calls prog 199 #[.pointer p,.pointer a] w λe w'=>a6D p s (a4e l 6).2.2 e w'/\Fr (λk=>k=a\/k=p) w w'/\∀r,(a4e l 6).2.2=.ok r->Blk w' a 34 (a0x (a4c (a4e l 6))).toArray:=by
 have D:=c1A p s l f w h j m;have y:p≠a:=h.far b ρd
 have B:∀r,(a4e l 6).2.2=.ok r->(a0x (a4c (a4e l 6))).length=37:=λr W=>by
  obtain⟨A,c,O,_⟩:=h;exact a0u (b2V O.by_.bd)
 have⟨st,o⟩:=η0 ((a4e l 6).2.2);have⟨N,z⟩:=η0 (a0x (a4c (a4e l 6)));have F:∀v∈N,v.oneCell'=true:=by rw[<-z];exact a5h _
 rw[o,z]at D B⊢;have⟨HT,U⟩:=η2 b F;clear b F o z h;go_enter func199,ntmps199;go_wp2_with fail;refine μ1 D ?_;rintro e Y ⟨O,K⟩;have E:=HT.fr K (λe=>y e.symm)
 cases st with
 |
  error x=>
  obtain rfl:=O;exact⟨rfl,rfl,K.mono (λ_ _ e=>.inr e),λr W=>by cases W⟩
 |
  ok r=>
  obtain⟨rfl,J⟩:=O;have Q:=B r rfl;have V:=P7 a8Q E g N Q U;have S:=ρr (a) Y N.toArray;have I:=E.row_ N.toArray;have H:=J.fr S (show¬_=_ from y) (show¬_=_ from d);have X:=(K.mono (G:=λk=>k=a\/k=p) (λ_ _ e=>.inr e)).trans S (λk hk e=>.inl e);have⟨T,R,F2⟩:=η3 I H X;clear I H X E S J K D B;go_wp2;go_end0;exact⟨⟨rfl,R.o⟩,F2.o,λ_ _=>T.o⟩
attribute [local go_sem ↓] a3j
theorem b4n(args:AV)(w:WD):(callFunc 199 args).run prog w=.ok (.enter 199 args) w:=ρk
theorem b2P(l:LI):∀i,StE (a4e l i).2.2
 | 0=>trivial
 |
  i+1=>by
  rw[a2T];unfold a8C
  split
  ·exact a5W (b2P l i)
  exact a1L (b2P l i)
def a6y(l:LI)(e:Ending):Prop:=
 match a9f l with
 | .error x=>e=.returned (.tuple #[.agg (a0x a4i).toArray,.int .i64 x])/\(x != 0)=true
 | .ok d=>e=.returned (.tuple #[.agg (a0x d).toArray,.int .i64 0])
theorem c3s(h:a8t (a4e l 6).2.2≠0):a9f l=.error (a8t (a4e l 6).2.2):=by
 unfold a9f
 cases hs:(a4e l 6).2.2 with
 | error x=>rfl
 |
  ok r=>
  rw[hs]at h;have a:r≠[]:=λe=>by simp[a8t,e]at h
  have:0<r.length:=Ym.2 a
  simp[a8t,a,this]
theorem b5R(A:OA)(c:Nat)(a:A=none->c=0)(l:LI)(d:l.length<=400000000)(w:WD)(b:Byt w A l):
  Calls prog 138 #[.slice A l.length c] w λe w'=>a6y l e/\Below w w w':=by
 have aI:∀(fn:Fn) (first cap:AV) (w:WD),(Instr.makeFunc fn first cap).run prog w=.ok (.func fn first cap) w:=λ_ _ _ _=>rfl
 have⟨f,N⟩:=η0 ((a0x a4i).toArray);have Q:f.size=37:=by rw[<-N,Qc,a0u a3T]
 have R:=c6C;simp only[N]at R;have aE:∀W:WD,(BDs 34 #[]).run prog W=.ok (.agg f) W:=by rw[<-N];exact c6p
 have⟨g,hg⟩:=ηs w;have b0:=Qd w 34 f;have B0:=ρb w (.cells f 34);have J:=R w;have⟨W,hW⟩:=η0 (w.alloc (.cells f 34));have an:W.heap.size=g+1:=by rw[<-hW,<-hg];simp
 rw[hW]at b0 B0 J;rw[hg]at b0 J;have b1:=Qd W 34 f;have Z:=b0.alloc (.cells f 34);have B1:=B0.alloc B0.size (.cells f 34);have O:=R W
 generalize hV:W.alloc (.cells f 34)=V at b1 Z B1 O
 rw[an]at b1 O;have ak:V.heap.size=g+2:=by rw[<-hV];simp;omega
 have ac:=a6Q 199 #[.pointer (g+1:Nat)] b4n A c a l d V (b.below B1) (λk=>k=g+1) (λk hk=>ρo) (a4e l 6).2.2
  (λ_ w3=>∀r,(a4e l 6).2.2=.ok r->Blk w3 (g+1) 34 (a0x (a4c (a4e l 6))).toArray)
  (λp s w2 hB hp hs aH az he=>b9H p s (g+1) l d f Q w2 he az ρo ρo (b1.fr (Q9 hB) ρo))
 have I:=b0L (b2P l 6);have ae:=c3s (l:=l);have⟨ev,aq⟩:=η0 (a8t (a4e l 6).2.2);rw[aq]at ac I ae;have⟨ar,aA,HG,aj,av,aD,Y,HY⟩:=η8 Z B1 hg ak I ae Q b;have T:=η1 N;clear Z B1 hg ak I ae Q b N b0 B0 b1 hW an hV R aq;go_enter func138,ntmps138;go_upto_region 2 with fail
 clear J O;go_wp2_with fail;refine μ1 ac ?_;rintro e w1 ⟨rfl,f1,w2,w3,ai,aF,hK,f3⟩;have ax:=ar.fr f1 (show¬_=_ by omega);have ah:Below w w w1:=aA.trans (f1.below (B:=w.heap.size) (ρi aj.o HG.o) (λk hk e=>by have:=HG.o;omega));obtain⟨dT,aa,ab⟩:=Q8.1 b3q;have⟨HB,ad,aC,HK,aG⟩:=η5 ax ah f3 hK ai;clear ax ah f3 hK ai f1 ac
 by_cases D:ev=0
 ·have F:=av.1 D
  have S:=(HK.o _ F).fr aC.o (show¬_=_ by have:=aj.o;omega);have G:(a0x (a4c (a4e l 6))).length=37:=a0u (b2V HY.bd);have af:=Pb b3q a8Q _ S G;have al:w1.cell? ⟨g+1,0,none⟩=some (.int .i64 (a4c (a4e l 6)).kind):=S.cell 0;subst D
  by_cases y:(a4c (a4e l 6)).kind=0
  ·have m:a9f l=.error 3:=by
    unfold a9f;rw[F];exact if_pos (.inr y)
   rw[y]at al;have o:=P7 a8Q HB.o Y.o f.toList (ρw Y.o) (by rw[<-T.o];simpa using a5h a4i);rw[show f.toList.toArray=f by simp]at o;have x:=HB.row_ f;have j:=Ql (g:=g) ad.o (ρh HG.o) f;have⟨H,E,K⟩:=η3 m x j;clear m x j af S G F y;go_wp2;refine bodyPost_ret (v:=.tuple #[.agg f,.int .i64 3]) (a0k rfl _ _ g _ _ (0,0) E.o aa ab (ρy Y.o a8Q) rfl) rfl ?_;refine⟨?_,K.o⟩;unfold a6y;rw[H.o];exact⟨by rw[<-T.o],rfl⟩
  have m:a9f l=.ok (a4c (a4e l 6)):=by
   unfold a9f;rw[F];exact if_neg (by rintro(h | h);simp at h;exact y h)
  have au:((a4c (a4e l 6)).kind == 0)=false:=ρw y;have⟨kd,X⟩:=η0 ((a4c (a4e l 6)).kind);rw[X]at al au;have o:=P7 a8Q HB Y (a0x (a4c (a4e l 6))) G (a5h _);have⟨xs,U⟩:=η0 ((a0x (a4c (a4e l 6))).toArray);have ao:xs.size=37:=by rw[<-U,Qc,G]
  rw[U]at o af;have x:=HB.row_ xs;have j:=Ql (g:=g) ad.o (ρh HG.o) xs;have⟨H,E,K,aB,ay⟩:=η5 m x j ao U;clear m x j ao U S G F y X;go_wp2;refine bodyPost_ret (v:=.tuple #[.agg xs,.int .i64 0]) (a0k rfl _ _ g _ _ (0,0) E.o aa ab (ρy aB.o a8Q) rfl) rfl ?_;refine⟨?_,K.o⟩;unfold a6y;rw[H.o]
  show _=_
  rw[<-ay.o]
 have m:=aD.o D;have z:(ev != 0)=true:=ρw D;have o:=P7 a8Q HB.o Y.o f.toList (ρw Y.o) (by rw[<-T.o];simpa using a5h a4i);rw[show f.toList.toArray=f by simp]at o;have x:=HB.row_ f;have j:=Ql (g:=g) ad.o (ρh HG.o) f;have⟨H,E,K,ag⟩:=η4 m x j z;clear m x j z D;have z:=ag.o;go_wp2;refine bodyPost_ret (v:=.tuple #[.agg f,.int .i64 ev]) (a0k rfl _ _ g _ _ (0,0) E.o aa ab (ρy Y.o a8Q) rfl) rfl ?_;refine⟨?_,K.o⟩;unfold a6y;rw[H.o];exact⟨by rw[<-T.o],ag.o⟩
end
structure c7Z where
 kind:Int
 t:TxD
 certs:List a0y
 ow:LI
 am:Int
 ser:Int
 ep:Int
 id:LI
structure b8k where
 ser:Nat
 ow:LI
 am:Nat
 t:LI
 cs:LL
 ep:Nat
 id:LI
def zId:LI:=List.replicate 32 0
def a4D:b8k:=⟨0,zId,0,[],[],0,zId⟩
def zTx:TxD:=⟨[],[],0,0⟩
def a2u:Nat->St->LL×St
 | 0,s=>([],s)
 |
  j+1,s=>match a2u j s with
  | (L,.error x)=>(L,.error x)
  | (L,.ok l)=>(L++[(a0C 2048 (.ok l)).1],(a0C 2048 (.ok l)).2)
theorem a3G(s:St):a2u 0 s=([],s):=rfl
theorem a6F{s:St}(h:a2u j s=(L,.ok l)):a2u (j+1) s=(L++[(a0C 2048 (.ok l)).1],(a0C 2048 (.ok l)).2):=by
 rw[a2u,h]
theorem a3D{j:Nat}{s:St}{L:LL}{x:Int}(h:a2u j s=(L,.error x)):∀d,a2u (j+d) s=(L,.error x)
 | 0=>h
 | d+1=>by rw[<-ZT,a2u,a3D h d]
attribute [irreducible] a2u
theorem a7j(s:St):∀j,(a2u j s).1.length<=j
 | 0=>by rw[a3G];simp
 |
  j+1=>by
  have ih:=a7j s j
  cases hj:a2u j s with
  |
   mk L t=>
   rw[hj]at ih
   cases t with
   | error x=>rw[a3D hj 1];simp only at ih⊢;omega
   | ok l=>rw[a6F hj];simp only[Qa,ZB]at ih⊢;omega
theorem b0S{n:Nat}{s:St}(h:b5A n s):∀j,b5A n (a2u j s).2
 | 0=>by rw[a3G];exact h
 |
  j+1=>by
  have ih:=b0S h j
  cases hj:a2u j s with
  |
   mk L t=>
   rw[hj]at ih
   cases t with
   | error x=>rw[a3D hj 1];trivial
   | ok l=>rw[a6F hj];exact a3c ih
theorem b3V{s:St}(h:a9Q s):∀j,(∀d∈(a2u j s).1,d.length<=2048/\∀x∈d,0<=x/\x<=255)/\a9Q (a2u j s).2
 | 0=>by rw[a3G];exact⟨by simp,h⟩
 |
  j+1=>by
  have ih:=b3V h j
  cases hj:a2u j s with
  |
   mk L t=>
   rw[hj]at ih
   cases t with
   | error x=>rw[a3D hj 1];exact⟨ih.1,trivial⟩
   |
    ok l=>
    rw[a6F hj]
    have:=a4u (most:=2048) (s:=.ok l) ih.2
    refine⟨λi hi=>?_,this.1⟩
    rcases Qq.1 hi with h1 | h1
    ·exact ih.1 i h1
    rw[Qn.1 h1];exact⟨a3o 2048 _,this.2⟩
def a3H(k:Nat)(s:St):b8k×St:=
 if k=1 then
  (⟨(a0o 1099511627776 s).1,(idT (a0o 1099511627776 s).2).1,(a0o 4611686018427387904 (idT (a0o 1099511627776 s).2).2).1,[],[],0,zId⟩,(a0o 4611686018427387904 (idT (a0o 1099511627776 s).2).2).2)
 else if 2<=k/\k<=3 then({a4D with t:=(a0C 4096 s).1},(a0C 4096 s).2)
 else if 4<=k/\k<=6 then
  ({a4D with t:=(a0C 4096 s).1,cs:=(a2u (a0o 16 (a0C 4096 s).2).1 (a0o 16 (a0C 4096 s).2).2).1},(a2u (a0o 16 (a0C 4096 s).2).1 (a0o 16 (a0C 4096 s).2).2).2)
 else if k=7 then({a4D with ep:=(a0o 1099511627776 s).1},(a0o 1099511627776 s).2)
 else if k=9 then({a4D with id:=(idT s).1},(idT s).2)
 else(a4D,s)
def a1Z:LL->Except Int (List a0y)
 | []=>.ok []
 |
  x::r=>match a5s x with
  | .error e=>.error e
  |
   .ok c=>match a1Z r with
   | .error e=>.error e
   | .ok L=>.ok (c::L)
def okS:St->Bool
 | .ok _=>true
 | .error _=>false
def a2o(l:LI):Except Int c7Z:=
 if 8192<l.length then .error 4 else
 if okS (a0o 9 (.ok l)).2=true/\(a0o 9 (.ok l)).1=0 then .error 25 else
 match(a3H (a0o 9 (.ok l)).1 (a0o 9 (.ok l)).2).2 with
 | .error x=>.error x
 |
  .ok r=>
  if 0<r.length then .error 3 else
  if 2<=(a0o 9 (.ok l)).1/\(a0o 9 (.ok l)).1<=6 then
   match a5N (a3H (a0o 9 (.ok l)).1 (a0o 9 (.ok l)).2).1.t with
   | .error x=>.error x
   |
    .ok t=>match a1Z (a3H (a0o 9 (.ok l)).1 (a0o 9 (.ok l)).2).1.cs with
    | .error x=>.error x
    | .ok L=>.ok ⟨((a0o 9 (.ok l)).1:Int),t,L,zId,0,0,0,zId⟩
  else .ok ⟨((a0o 9 (.ok l)).1:Int),zTx,[],(a3H (a0o 9 (.ok l)).1 (a0o 9 (.ok l)).2).1.ow,((a3H (a0o 9 (.ok l)).1 (a0o 9 (.ok l)).2).1.am:Int),((a3H (a0o 9 (.ok l)).1 (a0o 9 (.ok l)).2).1.ser:Int),((a3H (a0o 9 (.ok l)).1 (a0o 9 (.ok l)).2).1.ep:Int),(a3H (a0o 9 (.ok l)).1 (a0o 9 (.ok l)).2).1.id⟩
section
def b6x(B:Nat)(w:WD)(v:VL)(L:LL):Prop:=a0T 31 32 B w v (L.map bys)
theorem b6x.formN{B:Nat}{w:WD}{v:VL}{L:LL}(h:b6x B w v L):∃A N c,v=.slice A N c/\N=L.length:=by
 obtain⟨A,N,c,e,a⟩:=a0T.formN h;exact⟨A,N,c,e,by simpa using a⟩
theorem b6x.lenN(h:b6x B w (.slice A N c) L):N=L.length:=by
 obtain⟨d,a,b,e,f⟩:=h.formN;simp only[Value.slice.injEq]at e;omega
theorem b3t{v:VL}(h:b6x B w v L)(a:Blk w g t cs)(ht:31≠t:=by decide):v.ownBlock≠some g:=a4l h.own a ht
theorem d2n(h:b6x B w (.slice A N c) L)(hd:Dig d)(a:L.length+1<=1000000)(b:B<=w.heap.size):
  ∃
   A' N' c' w',(APs #[35,35] ty #[.slice A N c,.slice w 1 1]).run prog (w.alloc (.cells (bys d).toArray 31))=.ok (.slice A' N' c') w'/\b6x B w' (.slice A' N' c') (L++[d])/\Below B w w'/\
   Fr (λk=>(Value.slice A N c).ownBlock=some k) w w':=by
 obtain⟨m,w',j,f,g,_⟩:=a5o (P:=prog) (ty:=ty) c5Q d2s ρo ρo h (bys d) (by rw[a0a,hd.1]) (a0h _) (by simp;omega) b;obtain⟨A',N',c',rfl,_⟩:=a0T.formN f;exact⟨A',N',c',w',j,by unfold b6x;simpa using f,a0T.step h g b,g⟩
section
attribute [local go_sem ↓] a9S a9T
theorem c3K(A:OA)(c:Nat)(seed:LI)(k:Nat)(w:WD)(f:1<=k)(m:k<=64)(b:seed.length<=64)(d:Byt w A seed)(a:a2x w):
  Calls prog 27 #[.slice A seed.length c,.int .i64 k] w λe w'=>∃p,e=.returned (.pointer (some ⟨p,0,none⟩))/\a5n w' p seed k/\w.heap.size<=p/\Below w w w':=by
 have b0:=Qd w 159 (#[.slice none 0 0]);have B0:=ρb w (.cells (#[.slice none 0 0]) 159)
 generalize hW:w.alloc (.cells (#[.slice none 0 0]) 159)=W at b0 B0
 have⟨g,hg⟩:=ηs w;rw[hg]at b0;have aa:g+1=W.heap.size:=by rw[<-hW,<-hg];simp
 have ar:¬((k:Int)<1):=ρo;have an:¬((64:Int)<(k:Int)):=ρo
 generalize hn:seed.length=n at b⊢
 have⟨HW,HG,HB,aj,af,ag,ai,HN⟩:=η8 hW hg B0 b0 d a aa hn;have HS:=η1 b;clear hW hg B0 b0 d a aa hn b;go_enter func27,ntmps27;go_upto_region 5 with fail
 rw[HW.o,HG.o];go_loopg [6,16] k (λkk _ t wr=>∃(i:Nat) (V:OA) (Y:Nat),i+kk=k/\t=.int .i64 i/\Blk wr g 159 #[.slice V i Y]/\b6x W wr (.slice V i Y) ((List.range i).map λ(j:Nat)=>a4X seed (j:Int))/\Below w w wr);exact⟨0,none,0,by omega,rfl,aj.o,a0T.nil _ _ _ _,HB.o⟩;obtain⟨i,V,Y,hi,rfl,y,ho,E⟩:=hrel
 by_cases al:i<k
 ·have ac:(i:Int)<k:=ρo
  have ao:IntKind.u8.wrap (i:Int)=i:=by rw[IntKind.wrap_u8];omega
  have Z:=λX (hX:Below w w X)=>b6g A c seed (some ⟨X.heap.size,0,none⟩) 1 [(i:Int)] (X.alloc (.cells (bys [(i:Int)]).toArray 5)) (ρy HN.o HS.o) ((af.below hX).below (ρb X _)) ((Qd X _ _).byt (by simp;omega)) ρp ρp ((ag.below hX).below (ρb X _))
  rw[HN.o]at Z;have hD:Dig (a4X seed (i:Int)):=Dig.ring _ _;rw[show b0H seed [(i:Int)]=a4X seed (i:Int)from rfl]at Z;have⟨D,R⟩:=η0 (a4X seed (i:Int));rw[R]at Z hD;have U:=Z wr.drew E.drew;rw[show(bys [(i:Int)]).toArray=#[.int .u8 i]from rfl,show∀o,wr.drew.alloc o=(wr.alloc o).drew from λ_=>rfl,show wr.drew.heap.size=wr.heap.size from rfl,show([(i:Int)]).length=1 from rfl]at U;have bs:=λX=>Pd c5Q c1e ρo ρo X (.agg (bys D).toArray) (by simp[Value.cells,a0a,hD.1])
  have k0:∀X,Below wr.heap.size wr X->X.cell? ⟨g,0,none⟩=some (.slice V i Y):=λX hX=>(y.fr (Q9 hX) (ρh y.lt)).cell 0
  have⟨K0,BK,HO,BR,HD,ak⟩:=η6 k0 y ho E hD R;clear k0 y ho E hD R Z;go_upto_region 7 with fail
  refine a0s [(0,3),(1,3),(2,3),(3,3),(5,3),(6,3),(7,3),(4,0),(8,1),(9,1),(10,1),(11,2),(12,3),(13,3),(14,2)] (λW'=>W'.cell? ⟨g,0,none⟩=some (.slice V i Y)) ρk ρk ρk ρk (K0.o _ (Qf _ _).drew) ?_;refine ε7 ?_
  iterate 1 (with_reducible refine a0t (o:=?_) (v:=?_) (a':=?_) ρu ρu (λW' hS=>?_) ?_ ?_;rotate_left 2;(focus(skip;exact ρs));focus(exact ρs))
  refine κ ?_;intro K N;with_reducible refine N _ _ (K0.o _ (ρb _ _).drew) ?_;clear N K
  refine κ ?_;intro K N;refine μ1 U ?_;rintro e w9 ⟨rfl,ad⟩;have r:Below wr.heap.size wr w9:=(ρb wr _).drew.trans (ad.mono ρp);have T:b6x W w9 (.slice V i Y) _:=a0T.keep HO r;obtain⟨A',N',c',ah,aq,z,I,J⟩:=d2n (ty:=35) T HD.o (by simp;omega) (Qk (ρi BK.o.lt ai.o) r.size);have B:=φf BK r;have x:=B.fr J (λe=>b3t T B ρd e);obtain rfl:N'=i+1:=by have:=z.lenN;simpa using this
  have k2:=x.cell 0;have f2:=x.frozen 0;have H:=(φt BR r).trans (I.mono HB.size);have⟨O,Q,G,ab⟩:=η4 z r x H;clear z r x H ad T I J B U;with_reducible refine N _ _ (K0.o _ Q.o) ?_;clear N K
  refine κ ?_;intro K N;with_reducible refine N _ _ (K0.o _ (Q.o.alloc Q.o.size _)) ?_;clear N K
  refine τ1 ?_;refine ε2 ?_;refine τ1 ?_;refine ν ?_;go_wp2;go_roundg (k-(i+1))
  case measure=>omega
  have ae:∀j,(Value.slice A' (i+1) c').ownBlock=some j->¬j=g:=λj hj e=>b3t O.o G.o ρd (e ▸ hj)
  refine⟨i+1,A',c',by omega,by go_num,by simpa using G.set_ 0 (.slice A' (i+1) c'),?_,?_⟩
  ·have h:=a0T.fr O.o (F:=λj=>j=g) ((Qp (λj=>j=g) ah).setCell (p:=⟨g,0,none⟩) (λ_=>rfl) (.slice A' (i+1) c')) ae
   unfold b6x;rw[List.range_succ,QV,List.map_singleton,ak.o];exact h
  exact Fr.below ((Q9 ab.o).setCell (p:=⟨g,0,none⟩) (λh=>by have e:=HG.o;have h':g<w.heap.size:=h;omega) _) (Qg _) (λk hk e=>ρo)
 obtain rfl:i=k:=ρo;have ac:¬(i:Int)<i:=ρo;obtain⟨A',c',e,S,_⟩:=a0T.rd ho;simp only[Value.slice.injEq]at e;obtain⟨rfl,-,rfl⟩:=e;rw[List.map_map]at S;have⟨RD,BK,BR⟩:=η3 S y E;clear S y E ho;go_wp2;go_ret;exact⟨g,rfl,⟨_,_,BK.o,RD.o⟩,by rw[HG.o];exact Qg _,BR.o⟩
end
end
end Go.Proofs.YtpolljfkceanaaaGreatDoor
