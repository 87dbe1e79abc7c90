/-
  Contracts of functions, plain laws.
-/
import Derived.Deep.LoopGhost
import Derived.Deep.RegionHeld3
import Derived.Defers
import Derived.Recover
import Derived.ChangeOld
import Derived.Deep.Fields
import Derived.Deep.Slices
import Derived.LaidMore
import Derived.MakeChecks
import Derived.OpenShut
import Derived.ProofKit
import Derived.ShutString
import Derived.Stop.Joined
import Derived.Test.YtpolljfkceanaaaGreatDoorRows
import Derived.Test.YtpolljfkceanaaaGreatDoorC01
namespace Go.Proofs.YtpolljfkceanaaaGreatDoor
open Go.RowKit Go.Shelf Go.Maps Go.Proofs.Tryz
set_option maxRecDepth 100000
set_option maxHeartbeats 64000000
variable {T Y a k m s:Int}{l tx:LI}{L:LL}{cs xs y:LV}{D S c fuel i most n n₀:Nat}{A:OA}{e t ty:TI}{B E F G H I J K N O P R b c12 c13 d f g j o p r v x z:VL}{W X w:WD}
set_option linter.all false
section
theorem c9G(x:Int)(w:WD):Calls prog 241 #[.int .u32 x,.int .i64 2] w λe w'=>e=.returned (.int .u32 (a8P x 2))/\w'=w:=by
 have a:bits BinOp.and IntKind.u64 (IntKind.u64.wrap (-2)) 31=30:=by decide+kernel
 go_in;go_wp2;go_ret;exact⟨rfl,rfl⟩
theorem c9U(x:Int)(w:WD):Calls prog 241 #[.int .u32 x,.int .i64 6] w λe w'=>e=.returned (.int .u32 (a8P x 6))/\w'=w:=by
 have a:bits BinOp.and IntKind.u64 (IntKind.u64.wrap (-6)) 31=26:=by decide+kernel
 go_in;go_wp2;go_ret;exact⟨rfl,rfl⟩
theorem d0v(x:Int)(w:WD):Calls prog 241 #[.int .u32 x,.int .i64 7] w λe w'=>e=.returned (.int .u32 (a8P x 7))/\w'=w:=by
 have a:bits BinOp.and IntKind.u64 (IntKind.u64.wrap (-7)) 31=25:=by decide+kernel
 go_in;go_wp2;go_ret;exact⟨rfl,rfl⟩
theorem c9f(x:Int)(w:WD):Calls prog 241 #[.int .u32 x,.int .i64 11] w λe w'=>e=.returned (.int .u32 (a8P x 11))/\w'=w:=by
 have a:bits BinOp.and IntKind.u64 (IntKind.u64.wrap (-11)) 31=21:=by decide+kernel
 go_in;go_wp2;go_ret;exact⟨rfl,rfl⟩
theorem c8n(x:Int)(w:WD):Calls prog 241 #[.int .u32 x,.int .i64 13] w λe w'=>e=.returned (.int .u32 (a8P x 13))/\w'=w:=by
 have a:bits BinOp.and IntKind.u64 (IntKind.u64.wrap (-13)) 31=19:=by decide+kernel
 go_in;go_wp2;go_ret;exact⟨rfl,rfl⟩
theorem c7D(x:Int)(w:WD):Calls prog 241 #[.int .u32 x,.int .i64 17] w λe w'=>e=.returned (.int .u32 (a8P x 17))/\w'=w:=by
 have a:bits BinOp.and IntKind.u64 (IntKind.u64.wrap (-17)) 31=15:=by decide+kernel
 go_in;go_wp2;go_ret;exact⟨rfl,rfl⟩
theorem c8w(x:Int)(w:WD):Calls prog 241 #[.int .u32 x,.int .i64 18] w λe w'=>e=.returned (.int .u32 (a8P x 18))/\w'=w:=by
 have a:bits BinOp.and IntKind.u64 (IntKind.u64.wrap (-18)) 31=14:=by decide+kernel
 go_in;go_wp2;go_ret;exact⟨rfl,rfl⟩
theorem c8E(x:Int)(w:WD):Calls prog 241 #[.int .u32 x,.int .i64 19] w λe w'=>e=.returned (.int .u32 (a8P x 19))/\w'=w:=by
 have a:bits BinOp.and IntKind.u64 (IntKind.u64.wrap (-19)) 31=13:=by decide+kernel
 go_in;go_wp2;go_ret;exact⟨rfl,rfl⟩
theorem c7B(x:Int)(w:WD):Calls prog 241 #[.int .u32 x,.int .i64 22] w λe w'=>e=.returned (.int .u32 (a8P x 22))/\w'=w:=by
 have a:bits BinOp.and IntKind.u64 (IntKind.u64.wrap (-22)) 31=10:=by decide+kernel
 go_in;go_wp2;go_ret;exact⟨rfl,rfl⟩
theorem c8l(x:Int)(w:WD):Calls prog 241 #[.int .u32 x,.int .i64 25] w λe w'=>e=.returned (.int .u32 (a8P x 25))/\w'=w:=by
 have a:bits BinOp.and IntKind.u64 (IntKind.u64.wrap (-25)) 31=7:=by decide+kernel
 go_in;go_wp2;go_ret;exact⟨rfl,rfl⟩
theorem c0J(x n:Int)(a:n=2\/n=6\/n=7\/n=11\/n=13\/n=17\/n=18\/n=19\/n=22\/n=25)(w:WD):Calls prog 241 #[.int .u32 x,.int .i64 n] w λe w'=>e=.returned (.int .u32 (a8P x n.toNat))/\w'=w:=by
 rcases a with rfl | rfl | rfl | rfl | rfl | rfl | rfl | rfl | rfl | rfl
 ·exact c9G x w
 ·exact c9U x w
 ·exact d0v x w
 ·exact c9f x w
 ·exact c8n x w
 ·exact c7D x w
 ·exact c8w x w
 ·exact c8E x w
 ·exact c7B x w
 exact c8l x w
theorem c4G(A:OA)(n c:Nat)(l:LI)(d:4<=l.length)(b:n=l.length)(w:WD)(a:Byt w A l):Calls prog 264 #[.slice A n c] w λe w'=>e=.returned (.int .u32 (b6M (l.getD 0 0) (l.getD 1 0) (l.getD 2 0) (l.getD 3 0)))/\∃k,w'=w.drewN k:=by
 subst b;obtain⟨g,o,rfl,_,f⟩:=a.cell ρo;have v:=f 0 (l.getD 0 0) (by simp[List.getD,show 0<l.length by omega]);have z:=f 1 (l.getD 1 0) (by simp[List.getD,show 1<l.length by omega]);have x:=f 2 (l.getD 2 0) (by simp[List.getD,show 2<l.length by omega]);have y:=f 3 (l.getD 3 0) (by simp[List.getD,show 3<l.length by omega]);have⟨B,p⟩:=η0 (l.getD 0 0);have⟨D,m⟩:=η0 (l.getD 1 0);have⟨E,j⟩:=η0 (l.getD 2 0);have⟨F,r⟩:=η0 (l.getD 3 0);rw[p]at v⊢;rw[m]at z⊢;rw[j]at x⊢;rw[r]at y⊢;rw[ZH]at v;clear p m j r f a;go_in;go_wp2;go_region
 all_goals
  go_wp2;go_ret;exact⟨rfl,_,rfl⟩
theorem b6d(v:Int)(h:i<n):(beN v n).getD i 0=IntKind.u8.wrap (v / 2 ^ (8*(n-1-i))):=by simp[beN,List.getD,h]
theorem c0Z(L:LI)(n i:Nat)(a:L.length=n)(h:i<n):(bys (L.take i++List.replicate (n-i) 0)).toArray.setIfInBounds i (.int .u8 (L.getD i 0))=(bys (L.take (i+1)++List.replicate (n-(i+1)) 0)).toArray:=by
 apply ZM
 rw[Zt,a9b,a9b];have e:n-i=(n-(i+1))+1:=ρo;have d:(bys (L.take i)).length=i:=by simp[a0a];omega
 rw[e,List.set_append_right _ _ ρo,d,Nat.sub_self,List.replicate_succ];have f:L.getD i 0=L[i]:=by simp[List.getD,show i<L.length by omega]
 have b:bys (L.take (i+1))=bys (L.take i)++[.int .u8 L[i]]:=by
  rw[Qe ρo,a9b]
  rfl
 rw[b,f];simp[bys]
theorem b3I(v:Int)(_h0:0<=v)(_h1:v<=18446744073709551615)(n:Nat)(a:n<=8)(w:WD):Calls prog 171 #[.int .u64 v,.int .i64 n] w λe w'=>e=.returned (.slice w n n)/\Blk w' w.heap.size 5 (bys (beN v n)).toArray/\Below w w w':=by
 have o:=b9p n ρo w;have f:Blk (w.alloc (.cells (bys (List.replicate n 0)).toArray 5)) w.heap.size 5 (bys (List.replicate n 0)).toArray:=Qd w _ _;have g:=ρb w (.cells (bys (List.replicate n 0)).toArray 5)
 generalize m:w.alloc (.cells (bys (List.replicate n 0)).toArray 5)=W0 at o f g
 clear m;go_in;go_wp2
 go_loopw [11] (λt wr=>∃i:Nat,i<=n/\t=.int .i64 i/\Blk wr w.heap.size 5 (bys ((beN v n).take i++List.replicate (n-i) 0)).toArray/\Below w w wr)
  (λt _=>n-(intOf t).toNat)
 exact⟨0,Zu _,rfl,by simpa using f,g⟩;obtain⟨i,hi,rfl,b,x⟩:=hrel
 by_cases d:i<n
 ·have z:=b.cell i
  have y:(bys ((beN v n).take i++List.replicate (n-i) 0)).toArray[i]? =some (.int .u8 0):=by
   simp only[QE,a3J];rw[QL (by simp[a1E];omega)];simp[a1E,show min i n=i by omega,show 0<n-i by omega]
  rw[y]at z;have B:=b.frozen i;have⟨j,r⟩:=η2 b x;clear b x y;go_wp2;go_roundw
  case rel=>
   refine⟨i+1,by omega,by go_num,?_,r.setCell (p:=⟨w,i,none⟩) (Qg _) _⟩;have e:=c0Z (beN v n) n i (a1E _ _) d;rw[b6d v d,IntKind.wrap_u8']at e;rw[<-e];exact j.set_ i _
  case measure=>simp[intOf];omega
 obtain rfl:i=n:=ρo;have j:=η1 b;clear b;go_wp2;go_ret;refine⟨rfl,?_,x⟩
 have:=j.o
 rw[Nat.sub_self,Qb (by rw[a1E];omega)]at this
 simpa using this
section
theorem d3R:(((prog.info? 358).bind (·.zero)).map (·.cells.toList))=some (List.replicate 64 (.int .u32 0)):=ρk
theorem d2J:(prog.info? 358).map (·.size)=some 64:=ρk
theorem d2D:prog.underlying 358=some (.array 64 312):=ρk
abbrev d1f:=ldOf 358
abbrev d0V:=stOf 358
abbrev c9O:=alOf 358
theorem d3z(x:VL)(lo hi a:Option VL):Instr.sliceAt 22 x lo hi a=SLs 22 x lo hi a:=rfl
attribute [local go_sem ↓] d1f d0V c9O d3z
def a2d(l:LI):LV:=l.map (Value.int .u32)
theorem a1t(l:LI):(a2d l).length=l.length:=by simp[a2d]
theorem a6f(l:LI):∀v∈a2d l,v.oneCell'=true:=by
 intro v a;obtain⟨x,_,rfl⟩:=Qs.1 a
 rfl
theorem b3E(L:LI)(i:Nat)(h:i<L.length):(a2d L).toArray[i]? =some (.int .u32 (L.getD i 0)):=by
 simp[a2d,List.getD,h]
theorem b0l(L:LI)(k i:Nat)(h:i<L.length):(a2d (L++List.replicate k 0)).toArray[i]? =some (.int .u32 (L.getD i 0)):=by
 simp[a2d,List.getD,h,QO]
theorem b5n(L:LI)(k:Nat)(x:Int):(a2d (L++List.replicate (k+1) 0)).toArray.setIfInBounds L.length (.int .u32 x)=(a2d (L++[x]++List.replicate k 0)).toArray:=by
 apply ZM
 rw[Zt];simp[a2d,List.replicate_succ,List.set_append_right]
theorem a6J(L:LI)(a k j:Nat)(h:j<k):((L.drop a).take k).getD j 0=L.getD (a+j) 0:=by
 simp[List.getD,h,ZY]
theorem Below.drewN{n₀:Nat}{w a:WD}(h:Below n₀ w a)(m:Nat):Below n₀ w (a.drewN m):=⟨h.os,h.tape,h.output,h.size,h.block⟩
theorem Below.setRow{n₀ g:Nat}{w a:WD}(h:Below n₀ w a)(b:n₀<=g)(cs:AV):Below n₀ w (a.setRow g cs):=
 ⟨h.os,h.tape,h.output,by simpa using h.size,λk hk=>(setRow_other _ _ _ _ ρo).trans (h.block k hk)⟩
abbrev Ql:=@Below.setRow
theorem c2F(A:OA)(c:Nat)(g:64<=c)(L:LI)(f:L.length=64)(w:WD)(d:Byt w A L):Calls prog 240 #[.slice A 64 c] w λe w'=>e=.returned (.agg (a2d (a0Y L 64)).toArray)/\Below w w w':=by
 obtain⟨z,H,J⟩:=Q8.1 d3R;have G:=Pc (t:=358) z H w
 have K:z.cells=(a2d (a0Y L 0++List.replicate 64 0)).toArray:=by
  apply ZM
  rw[J];simp[a2d,a0Y]
 rw[K]at G;have B:Blk (w.alloc (.cells (a2d (a0Y L 0++List.replicate 64 0)).toArray 358)) w.heap.size 358 (a2d (a0Y L 0++List.replicate 64 0)).toArray:=Qd w _ _;have F:=ρb w (.cells (a2d (a0Y L 0++List.replicate 64 0)).toArray 358)
 generalize Z:w.alloc (.cells (a2d (a0Y L 0++List.replicate 64 0)).toArray 358)=W0 at G B F
 clear Z K H J z;have⟨HY,j⟩:=η2 d f;clear d f;go_in;go_wp2;clear G
 go_loopw [7] (λt wr=>∃i:Nat,i<=16/\t=.int .i64 i/\Blk wr w.heap.size 358 (a2d (a0Y L i++List.replicate (64-i) 0)).toArray/\Below w w wr)
  (λt _=>16-(intOf t).toNat)
 exact⟨0,Zu _,rfl,B,F⟩;obtain⟨i,hi,rfl,d,r⟩:=hrel;clear B F W0
 by_cases R:i<16
 ·obtain⟨A',Y,E,_,_⟩:=c7j (HY.below r) c (4*i) L.length c (some (.int .i64 (4*(i:Int)))) none none (by rw[j.o];omega) (Qg _) (by rw[j.o];omega) (Qg _)
   (.inr ⟨_,rfl,by omega⟩) (.inl ⟨rfl,rfl⟩) (.inl ⟨rfl,rfl⟩)
  rw[j.o]at Y E;have⟨T,x,o⟩:=η3 E d r;clear E d r;go_wp2_with fail;refine(c4G A' (64-4*i) (c-4*i) _ (by simp[j.o];omega) (by simp[j.o]) wr T.o).mono ?_;rintro e w1 ⟨rfl,m,rfl⟩;have hl:=x.cell i
  have e1:(a2d (a0Y L i++List.replicate (64-i) 0)).toArray[i]? =some (.int .u32 0):=by
   simp only[QE,a2d,ZJ];rw[QL (by rw[a1i];omega)];simp[a1i,show 0<64-i by omega]
  rw[e1]at hl;have hf:=x.frozen i;clear e1;go_wp2;go_roundw
  case rel=>
   refine⟨i+1,by omega,by go_num,?_,(Below.drewN o.o m).setCell (p:=⟨w,i,none⟩) (Qg _) _⟩;have e:=b5n (a0Y L i) (64-(i+1)) (b5b L i);rw[a1i,show 64-(i+1)+1=64-i by omega]at e;have e2:a0Y L (i+1)=a0Y L i++[b5b L i]:=by rw[a0Y,if_pos ρo]
   rw[e2,<-e]
   have e3:b6M (((L.drop (4*i)).take (64-4*i)).getD 0 0) (((L.drop (4*i)).take (64-4*i)).getD 1 0) (((L.drop (4*i)).take (64-4*i)).getD 2 0) (((L.drop (4*i)).take (64-4*i)).getD 3 0)=b5b L i:=by
    rw[a6J _ _ _ _ ρo,a6J _ _ _ _ ρo,a6J _ _ _ _ ρo,a6J _ _ _ _ ρo]
    rfl
   rw[<-e3];exact(x.drewN m).set_ i _
  case measure=>simp[intOf];omega
 obtain rfl:i=16:=ρo;obtain⟨V,Q⟩:∃V,V=wr:=⟨_,rfl⟩;subst Q;go_wp2;go_loopg [4] 48 (λk t wr=>∃i:Nat,16<=i/\i<=64/\k=64-i/\t=.int .i64 i/\Blk wr w.heap.size 358 (a2d (a0Y L i++List.replicate (64-i) 0)).toArray/\Below w w wr);exact⟨16,Qg _,by omega,rfl,rfl,d,r⟩;clear d r V;obtain⟨i,ab,hi,hk,rfl,d,r⟩:=hrel
 by_cases R:i<64
 ·have⟨W,N⟩:=η0 (a0Y L i)
  have y:W.length=i:=by rw[<-N,a1i]
  rw[N]at d;have O:=(d.cell (i-15)).trans (b0l W (64-i) (i-15) ρo);have l2:=(d.cell (i-2)).trans (b0l W (64-i) (i-2) ρo);have I:=(d.cell (i-16)).trans (b0l W (64-i) (i-16) ρo);have l7:=(d.cell (i-7)).trans (b0l W (64-i) (i-7) ρo)
  have l0:wr.cell? ⟨w,i,none⟩=some (.int .u32 0):=by
   rw[d.cell i];simp only[QE,a2d,ZJ];rw[QL ρo];simp[y,show 0<64-i by omega]
  have f0:=d.frozen i;have⟨a,ha⟩:=η0 (W.getD (i-15) 0);have⟨b,D⟩:=η0 (W.getD (i-2) 0);have⟨p,hp⟩:=η0 (W.getD (i-16) 0);have⟨q,X⟩:=η0 (W.getD (i-7) 0);rw[ha]at O;rw[D]at l2;rw[hp]at I;rw[X]at l7;have⟨S,HW,HA,aa,HP,HQ,x,o⟩:=η8 y N ha D hp X d r;clear y N ha D hp X d r;go_wp2_with fail;go_region
  all_goals
   go_wp2_with fail;have g1:IntKind.i64.wrap ((i:Int)-16)=((i-16:Nat):Int):=by rw[IntKind.wrap_i64];omega
   have g2:IntKind.i64.wrap ((i:Int)-7)=((i-7:Nat):Int):=by rw[IntKind.wrap_i64];omega
   have q1:((i-16:Nat):Int)<64:=ρo;have q2:((i-7:Nat):Int)<64:=ρo;have q3:i-16<64:=ρo;have q4:i-7<64:=ρo;have q5:(i:Int)<64:=ρo;have n1:¬(i=i-16):=ρo;have n2:¬(i=i-7):=ρo
   go_region_held3 (λw'=>w'.cell? ⟨w,i-16,none⟩=some (.int .u32 p)/\w'.cell? ⟨w,i-7,none⟩=some (.int .u32 q)/\w'.frozen? ⟨w,i,none⟩=false) (first | (go_keep;done) | (refine⟨(World.cell?_setCell_other _ _ _ _ (by simp<;>omega)).trans I,(World.cell?_setCell_other _ _ _ _ (by simp<;>omega)).trans l7,?_⟩;simp[f0]))
    (first
     | (go_at_call 241;refine(c0J _ _ ρo _).mono ?_;rintro e wx ⟨rfl,rfl⟩))
   all_goals
    go_wp2;go_roundg (64-(i+1))
    case measure=>omega
    refine⟨i+1,by omega,by omega,rfl,by go_num,?_,((o.setCell (p:=⟨w,i,none⟩) (Qg _) _).drew).drew⟩;have e:=b5n W (64-(i+1)) (b5I p a q b);rw[S.o,show 64-(i+1)+1=64-i by omega]at e
    have e2:a0Y L (i+1)=W++[b5I p a q b]:=by
     rw[a0Y,if_neg ρo,HW.o,HA.o,aa.o,HP.o,HQ.o]
    rw[e2,<-e];exact x.set_ i _
 obtain rfl:i=64:=ρo;have v:Blk wr w.heap.size 358 (a2d (a0Y L 64)).toArray:=ρw d;have ac:=Ph d2D rfl d2J v (off:=0) (a2d (a0Y L 64)) (by rw[a1t,a1i]) (by simp[a2d,a1i,Qb]);have U:=Pa (t:=358) d2J v (off:=0) (a2d (a0Y L 64)) (by rw[a1t,a1i]) (by simp[a1t,a1i]) (a6f _);rw[a0q _ _ ρp]at U;have⟨x,o⟩:=η2 v r;clear d v r;go_wp2;refine bodyPost_ret (a0c rfl _ _ w.heap.size 358 (a2d (a0Y L 64)) _ rfl (x.row_ _) d2D rfl (by rw[a1t,a1i];exact d2J)) rfl ?_;exact⟨rfl,Ql o (Qg _) _⟩
end
section
theorem c1v:(prog.info? 313).map (·.size)=some 8:=ρk
theorem c7W:prog.underlying 313=some (.array 8 312):=ρk
theorem d3l:(((prog.info? 313).bind (·.zero)).map (·.cells.toList))=some (List.replicate 8 (.int .u32 0)):=ρk
abbrev d0o:=ldOf 313
abbrev c9J:=stOf 313
abbrev d1h:=alOf 313
def IXs(t:TI)(x i:VL):Sem VL:=Instr.index t x i
theorem d1W(x i:VL):Instr.index 358 x i=IXs 358 x i:=rfl
theorem d1t(x i:VL):Instr.index 313 x i=IXs 313 x i:=rfl
theorem p31:prog.underlying 312=some (.int .u32):=ρk
theorem i31:(prog.info? 312).map (·.size)=some 1:=ρk
theorem c1O(a:prog.underlying t=some (.array n 312))(cs:AV)(i:Nat)(hi:i<n)(v:VL)(b:cs[i]? =some v)(w:WD):(IXs t (.agg cs) (.int .i64 i)).run prog w=.ok v w:=by
 obtain⟨j,g,o⟩:=Q8.1 i31
 have m:(isAgg 312).run prog w=.ok false w:=by
  unfold isAgg;rw[Ya,run_underlying p31 w]
  rfl
 have f:(part 312 cs i).run prog w=.ok v w:=by
  unfold part;rw[Ya,m];simp[b]
 have p:(0:Int)<=(i:Int)/\(i:Int)<n:=ρo;have d:(sizeOf 312).run prog w=.ok 1 w:=by simp[sizeOf,typeInfo,g,o]
 unfold IXs Instr.index;simp only[asIntOf,Ya,Sem.run_pure,Result.andThen_ok,run_underlying a,if_pos p,d,Zd,Nat.mul_one,f]
attribute [local go_sem ↓] d1f d0V c9O d0o c9J d1h d1W d1t
structure a2x(w:WD):Prop where
 k:∀i,i<64->w.cell? ⟨1,i,none⟩=some (.int .u32 (K0.getD i 0))
 h:∀i,i<8->w.cell? ⟨0,i,none⟩=some (.int .u32 (H0.getD i 0))
 size:2<=w.heap.size
theorem a2x.below{b:WD}(g:a2x w)(a:Below w w b):a2x b:=
 ⟨λi hi=>(a.cell (p:=⟨1,i,none⟩) (show 1<_ by have:=g.size;omega)).trans (g.k i hi),λi hi=>(a.cell (p:=⟨0,i,none⟩) (show 0<_ by have:=g.size;omega)).trans (g.h i hi),Qk g.size a.size⟩
theorem a2x.fr{F:Nat->Prop}{b:WD}(g:a2x w)(a:Fr F w b)(d:¬F 0)(f:¬F 1):a2x b:=
 ⟨λi hi=>(a.cell (p:=⟨1,i,none⟩) (show 1<_ by have:=g.size;omega) f).trans (g.k i hi),λi hi=>(a.cell (p:=⟨0,i,none⟩) (show 0<_ by have:=g.size;omega) d).trans (g.h i hi),Qk g.size a.size⟩
theorem d0D(h:l.length=8):∃a b c d e f g i,l=[a,b,c,d,e,f,g,i]:=by
 match l,h with
 | [a,b,c,d,e,f,g,i],_=>exact⟨a,b,c,d,e,f,g,i,rfl⟩
theorem b9g(v:LI)(k w:Int):(a8v v k w).length=8:=rfl
theorem a6c(h m:LI)(a:h.length=8):∀k,(a2z h m k).length=8
 | 0=>by rw[a5j];exact a
 | k+1=>by rw[a5e];exact b9g _ _ _
def b1d(h R:LI)(j:Nat):LI:=(List.range 8).map λi=>if i<j then(h.getD i 0+R.getD i 0) % 4294967296 else h.getD i 0
theorem a3v(h R:LI)(j:Nat):(b1d h R j).length=8:=by simp[b1d]
theorem b4O{h R:LI}(a:h.length=8):b1d h R 0=h:=by
 apply ZE
 ·rw[a3v,a]
 intro i d b;simp[b1d,List.getD,b]
theorem b8m(h M:LI):b1d h (a2z h M 64) 8=a8Y h M:=by
 apply ZE
 ·rw[a3v,a5E]
 intro i a b
 have:i<8:=by rw[a3v]at a;exact a
 simp[b1d,a8Y,this]
theorem c3m(h R:LI)(j:Nat)(_hj:j<8):(a2d (b1d h R j)).toArray.setIfInBounds j (.int .u32 ((h.getD j 0+R.getD j 0) % 4294967296))=(a2d (b1d h R (j+1))).toArray:=by
 apply ZM
 rw[Zt]
 apply ZE
 ·simp[a2d,a3v]
 intro i d b;simp only[List.getElem_set,a2d,b1d,QS,Yf]
 by_cases e:j=i
 ·subst e
  simp
 rw[if_neg e]
 by_cases a:i<j
 ·rw[if_pos a,if_pos ρo]
 rw[if_neg a,if_neg ρo]
theorem c5f(A:OA)(c:Nat)(g:64<=c)(M:LI)(a:M.length=64)(V:LI)(b:V.length=8)(w:WD)(d:Byt w A M)(f:a2x w):Calls prog 193 #[.agg (a2d V).toArray,.slice A 64 c] w λe w'=>e=.returned (.agg (a2d (a8Y V M)).toArray)/\Below w w w':=by
 obtain⟨z,ai,ah⟩:=Q8.1 d3l;have S:z.cells.size=8:=by rw[<-QD,ah];rfl
 have ae:=λW=>Pc (t:=313) z ai W
 have⟨Z,hZ⟩:=η0 z.cells;rw[hZ]at S;simp only[hZ]at ae;clear hZ ai ah z;have⟨D,K⟩:=η0 (a2d V);have G:D.length=8:=by rw[<-K,a1t,b]
 have ab:∀v∈D,v.oneCell'=true:=by rw[<-K];exact a6f V
 have X:=Qd w 313 D.toArray;have aj:=Ph c7W rfl c1v ((X.alloc (.cells Z 313))) (off:=0) D G (by simp[Qb,G]);have O:=a7S (P:=prog) (t:=313) c1v ((w.alloc (.cells D.toArray 313)).alloc (.cells Z 313)) Z S D G ab;have r:=(X.alloc (.cells Z 313)).alloc (.cells D.toArray 313);have b1:=(Qd (w.alloc (.cells D.toArray 313)) 313 Z).alloc (.cells D.toArray 313);have o:=Qd ((w.alloc (.cells D.toArray 313)).alloc (.cells Z 313)) 313 D.toArray;have B0:Below w w (((w.alloc (.cells D.toArray 313)).alloc (.cells Z 313)).alloc (.cells D.toArray 313)):=((ρb w _).alloc ρp _).alloc (by simp;omega) _;simp only[Qi]at O b1 o;rw[K];have⟨HG,HH,H8,H1,ad,HB,aq⟩:=η7 f b G ab K d a;clear X f b G ab K d a;go_in;go_wp2_with fail
 generalize av:((w.alloc (.cells D.toArray 313)).alloc (.cells Z 313)).alloc (.cells D.toArray 313)=W3 at r b1 o B0⊢
 clear av O aj ae;refine(c2F A c g M aq W3 (HB.below B0)).mono ?_;rintro e W4 ⟨rfl,J⟩;replace r:=r.fr (Q9 J) (ρh r.lt);replace b1:=b1.fr (Q9 J) (ρh b1.lt);replace o:=o.fr (Q9 J) (ρh o.lt);have F:=B0.trans (J.mono B0.size);clear B0 J W3;have⟨SW,U⟩:=η0 ((a2d (a0Y M 64)).toArray);have aA:=η1 U;rw[U];clear U;go_wp2_with fail;go_loopg [16] 64 (λk t wr=>∃i:Nat,i<=64/\k=64-i/\t=.int .i64 i/\Blk wr w.heap.size 313 D.toArray/\Blk wr (w.heap.size+1) 313 Z/\Blk wr (w.heap.size+1+1) 313 (a2d (a2z V M i)).toArray/\Below w w wr);exact⟨0,Zu _,rfl,rfl,r,b1,by rw[a5j,ad.o];exact o,F⟩;clear r b1 o F W4;obtain⟨i,hi,hk,rfl,r,b1,o,F⟩:=hrel
 by_cases B:i<64
 ·obtain⟨a0,a1,a2,a3,a4,a5,a6,a7,ha⟩:=d0D (a6c V M HH i)
  rw[ha]at o;have c0:wr.cell? ⟨w.heap.size+1+1,0,none⟩=some (.int .u32 a0):=o.cell 0;have c1:wr.cell? ⟨w.heap.size+1+1,1,none⟩=some (.int .u32 a1):=o.cell 1;have c2:wr.cell? ⟨w.heap.size+1+1,2,none⟩=some (.int .u32 a2):=o.cell 2;have c3:wr.cell? ⟨w.heap.size+1+1,3,none⟩=some (.int .u32 a3):=o.cell 3;have c4:wr.cell? ⟨w.heap.size+1+1,4,none⟩=some (.int .u32 a4):=o.cell 4;have c5:wr.cell? ⟨w.heap.size+1+1,5,none⟩=some (.int .u32 a5):=o.cell 5;have c6:wr.cell? ⟨w.heap.size+1+1,6,none⟩=some (.int .u32 a6):=o.cell 6;have c7:wr.cell? ⟨w.heap.size+1+1,7,none⟩=some (.int .u32 a7):=o.cell 7;have gk:wr.cell? ⟨1,i,none⟩=some (.int .u32 (K0.getD i 0)):=((HG.below F).k i B);have⟨kk,Q⟩:=η0 (K0.getD i 0);rw[Q]at gk;have ac:=b3E (a0Y M 64) i (ρy a1i B);rw[aA.o]at ac;have ak:=λW=>c1O (t:=358) d2D SW i B _ ac W
  have⟨ww,T⟩:=η0 ((a0Y M 64).getD i 0);rw[T]at ak;clear ac
  have af:∀(m:Nat) (x0 x1 x2 x3 x4 x5 x6 x7:Int),(STs 313 (.pointer (w.heap.size+1+1:Nat)) (.agg #[.int .u32 x0,.int .u32 x1,.int .u32 x2,.int .u32 x3,.int .u32 x4,.int .u32 x5,.int .u32 x6,.int .u32 x7])).run prog (wr.drewN m)=
    .ok () ((wr.drewN m).setRow (w.heap.size+1+1) #[.int .u32 x0,.int .u32 x1,.int .u32 x2,.int .u32 x3,.int .u32 x4,.int .u32 x5,.int .u32 x6,.int .u32 x7]):=λm x0 x1 x2 x3 x4 x5 x6 x7=>by
   have e:=Pa (t:=313) c1v (o.drewN m) (off:=0) (a2d [x0,x1,x2,x3,x4,x5,x6,x7]) rfl (by simp[a2d]) (a6f _);rw[a0q _ _ (by simp[a2d])]at e;exact e
  have⟨au,al,ao,aa,H,Y,I⟩:=η7 ha Q T r b1 o F;clear ha Q T r b1 o F;go_wp2_with fail;go_region
  all_goals
   go_wp2_with fail;go_quiet ((go_at_call 241;refine(c0J _ _ ?_ _).mono (λ_ _ V=>⟨V.1,_,V.2⟩);omega))
   all_goals
    go_wp2_with fail;go_quiet ((go_at_call 241;refine(c0J _ _ ?_ _).mono (λ_ _ V=>⟨V.1,_,V.2⟩);omega))
    all_goals
     go_wp2;go_roundg (64-(i+1))
     case measure=>omega
     refine⟨i+1,by omega,rfl,by go_num,(aa.drewN _).rowFar ρo _,(H.drewN _).rowFar ρo _,?_,Ql (Below.drewN I.o _) ρo _⟩
     have e:a2z V M (i+1)=[(tP a4 a5 a6 a7 kk ww+uP a0 a1 a2) % 4294967296,a0,a1,a2,(a3+tP a4 a5 a6 a7 kk ww) % 4294967296,a4,a5,a6]:=by
      rw[a5e,au.o,al.o,ao.o]
      rfl
     rw[e];exact(Y.drewN _).row_ _
 obtain rfl:i=64:=ρo;obtain⟨wo,ax⟩:∃wo,wo=wr:=⟨_,rfl⟩;subst ax;have⟨R,hR⟩:=η0 (a2z V M 64);have ag:R.length=8:=by rw[<-hR];exact a6c V M HH.o 64
 rw[hR]at o;have⟨HR,an⟩:=η2 hR ag;clear hR ag;rw[<-ad.o]at r;go_wp2_with fail;go_loopg [97] 8 (λk t wr=>∃j:Nat,j<=8/\k=8-j/\t=.int .i64 j/\Blk wr w.heap.size 313 (a2d (b1d V R j)).toArray/\Blk wr (w.heap.size+1) 313 Z/\Blk wr (w.heap.size+1+1) 313 (a2d R).toArray/\Below w w wr);exact⟨0,Zu _,rfl,rfl,by rw[b4O HH.o];exact r,b1,o,F⟩;clear r b1 o F wo;obtain⟨j,hj,hk,rfl,r,b1,o,F⟩:=hrel
 by_cases B:j<8
 ·have l0:wr.cell? ⟨w,j,none⟩=some (.int .u32 (V.getD j 0)):=by
   rw[r.cell j,b3E _ _ (ρy a3v B)];simp[b1d,List.getD,B]
  have l2:wr.cell? ⟨w.heap.size+1+1,j,none⟩=some (.int .u32 (R.getD j 0)):=by
   rw[o.cell j,b3E _ _ (ρy an.o B)]
  have⟨x,hx⟩:=η0 (V.getD j 0);have⟨y,hy⟩:=η0 (R.getD j 0);rw[hx]at l0;rw[hy]at l2;have f0:=r.frozen j;have⟨HX,ar,aa,H,Y,I⟩:=η6 hx hy r b1 o F;clear hx hy r b1 o F;go_wp2_with fail;go_region
  all_goals
   go_wp2;go_roundg (8-(j+1))
   case measure=>omega
   refine⟨j+1,by omega,rfl,by go_num,?_,H.far (p:=⟨w,j,none⟩) (by simp<;>omega) _,Y.far (p:=⟨w,j,none⟩) (by simp<;>omega) _,(I.setCell (p:=⟨w,j,none⟩) (Qg _) _).drew⟩;rw[<-c3m V R j B,HX.o,ar.o];exact aa.set_ j _
 obtain rfl:j=8:=ρo;have hS:b1d V R 8=a8Y V M:=by rw[<-HR.o];exact b8m V M
 rw[hS]at r;have⟨S8,N⟩:=η0 (a8Y V M);have E:S8.length=8:=by rw[<-N];exact a5E _ _
 rw[N]at r;have ay:=η1 N;have aB:=Ph c7W rfl c1v r (off:=0) (a2d S8) (by rw[a1t,E]) (by simp[Qb,a1t,E]);have af:=Pa (t:=313) c1v b1 (off:=0) (a2d S8) (by rw[a1t,E]) ρo (a6f _);rw[a0q _ _ (by rw[a1t,E,S])]at af;have⟨H,I,az⟩:=η3 b1 F E;clear r b1 o F hS N E;go_wp2;refine bodyPost_ret (a0c rfl _ _ (w.heap.size+1) 313 (a2d S8) _ rfl (H.row_ _) c7W rfl (by rw[a1t,az.o];exact c1v)) rfl ?_;exact⟨by rw[ay.o],Ql I.o ρo _⟩
end
end
section
section
theorem b6Y(x:VL)(lo hi a:Option VL):Instr.sliceAt 22 x lo hi a=SLs 22 x lo hi a:=rfl
attribute [local go_sem ↓] b6Y
def a1T(x:Int):VL:=.iface 216 (.agg #[.int .i64 x])
structure b8R(w:WD)(p:Nat)(A:OA)(c:Nat)(l:LI):Prop where
 st:Blk w p 218 #[.slice A l.length c]
 by_:Byt w A l
 ne:∀a,A=some a->0<l.length->a.block≠p
 cap:l.length<=c
theorem a5J(v:VL)(x:Int)(a:(x != 0)=true)(w:WD):Calls prog 116 #[v,.int .i64 x] w λe w'=>e=.panicked [{v:=a1T x,recovered:=false}]/\w'=w:=by
 go_in;go_wp2
 first
  | exact⟨rfl,rfl,rfl⟩
theorem c4r(p:Nat)(A:OA)(c:Nat)(l:LI)(n:Nat)(a:l.length<n)(w:WD)(h:b8R w p A c l):Calls prog 115 #[.pointer p,.int .i64 n] w λe w'=>e=.panicked [{v:=a1T 2,recovered:=false}]/\w'=w:=by
 have k:=h.st.cell 0;have f:w.cell? ⟨p,0,none⟩=some (.slice A l.length c):=k;have d:(l.length:Int)<(n:Int):=ρo;clear h k;go_in;go_wp2_with fail;refine(a5J _ 2 rfl w).mono ?_;rintro e w' ⟨rfl,b⟩;rw[b]
 first
  | exact⟨rfl,rfl,rfl⟩
theorem c1d(a c:Nat)(d:a*256+255<18446744073709551616)(f:c<256):bits .or .u64 ((a*256:Nat):Int) (c:Int)=((a*256+c:Nat):Int):=by
 rw[u64_or_nat _ _ ρo ρo]
 congr 1
 have e:=Nat.shiftLeft_add_eq_or_of_lt (i:=8) (b:=c) ρo a;rw[Nat.shiftLeft_eq]at e;rw[<-e]
theorem b8p:∀(n:Nat) (l:LI),l.length=n->(∀x∈l,0<=x/\x<=255)->a9g l<256 ^ n
 |
  0,l,hl,_=>by
  have:l=[]:=Zv.1 hl
  subst this;simp[a9g]
 |
  n+1,l,hl,h=>by
  rcases List.eq_nil_or_concat l with rfl | ⟨q,x,rfl⟩
  ·simp at hl
  rw[List.concat_eq_append]at hl h⊢;have h1:=b8p n q (ρw hl) (λy hy=>h y (by simp[hy]));have h2:=h x ρp;rw[a8E,Nat.pow_succ];omega
theorem b2X(l:LI)(h:∀x∈l,0<=x/\x<=255):a9g l<256 ^ l.length:=b8p _ l rfl h
end
theorem a3y{r:LI}{v:Nat}(h:a2J most l=some (v,r)):v<=most/\r.length<=l.length:=by
 cases l with
 | nil=>simp[a2J]at h
 |
  cons k a=>
  simp only[a2J]at h
  split at h
  ·cases h
  rename_i hc
  simp only[Option.some.injEq,Prod.mk.injEq]at h;obtain⟨rfl,rfl⟩:=h;simp only[not_or,Nat.not_lt]at hc;refine⟨hc.2.2.2,?_⟩
  simp
  omega
theorem b8R.below{w a:WD}{p:Nat}{A:OA}{c:Nat}{l:LI}(h:b8R w p A c l)(b:Below w w a):b8R a p A c l:=
 ⟨h.st.fr (Q9 b) (ρh h.st.lt),h.by_.below b,h.ne,h.cap⟩
theorem b5v(p:Nat)(A:OA)(c:Nat)(l:LI)(w:WD)(h:b8R w p A c l):Calls prog 114 #[.pointer p] w λe w'=>e=.returned (.int .i64 (l.length:Int))/\w'=w:=by
 have k:w.cell? ⟨p,0,none⟩=some (.slice A l.length c):=h.st.cell 0
 generalize a:l.length=n at k⊢
 clear h a;go_in;go_wp2;go_ret;exact⟨rfl,rfl⟩
theorem a0N.base{B B':Nat}(h:a0N B w v l)(a:B'<=B):a0N B' w v l:=by
 obtain⟨d,f⟩:=h;exact⟨d,f.imp id (fun⟨g,cap,b,m,j,o⟩=>⟨g,cap,b,m,Qk a j,o⟩)⟩
end
section
attribute [local go_sem] Oper.semAt_some
theorem b3z(xs:AV)(t:TI):Builtin.append_ #[22,22] t xs=APs #[22,22] t xs:=rfl
attribute [local go_sem ↓] b3z
structure a3Z(B:Nat)(w:WD)(p:Nat)(v:VL)(l:LI):Prop where
 st:Blk w p 123 #[v]
 b1:B<=p
 own:a0N B w v l
theorem a2D{B p:Nat}{cs:AV}(h:a0N B w v l)(a:Blk w p t cs)(ht:5≠t):v.ownBlock≠some p:=a4l h a ht
theorem b2S{B:Nat}(x:Int)(h:a0N B w v l)(b:l.length+1<=1000000000)(d:B<=w.heap.size):∃v' w',(APs #[22,22] ty #[v,.slice w 1 1]).run prog (w.alloc (.cells #[.int .u8 x] 5))=.ok v' w'/\a0N B w' v' (l++[x])/\Fr (λk=>v.ownBlock=some k) w w'/\a7W w v v':=by
 have D:Blk (w.alloc (.cells #[.int .u8 x] 5)) w.heap.size 5 #[.int .u8 x]:=Qd w _ _
 obtain⟨v',w',y,p,z,r⟩:=Pj (ty:=ty) u22 ib5 ρo (World.ownsRow.alloc h (.cells #[.int .u8 x] 5)) (a:=⟨w,0,none⟩) (m:=1) (c:=1) [.int .u8 x] rfl
  (λj u g=>by
   have f:(⟨w,0,none⟩:Addr).add j=⟨w,j,none⟩:=by unfold Addr.add;split<;>simp_all
   rw[f,D.cell j]
   simpa using g) (by intro u g;simp at g;subst g;rfl) (by unfold maxLen;omega) ρo (by simp;omega)
 refine⟨v',w',y,?_,((Qp _ w).alloc (.cells #[.int .u8 x] 5)).grown z (λk _ e=>e),?_⟩
 ·unfold a0N
  rw[a9b,Qa];exact p
 intro j o
 rcases r with e | e
 ·exact .inl (e ▸ o)
 right
 rw[e]at o;simp at o;omega
theorem a4P{F:Nat->Prop}{a:WD}(b:Fr F W a)(hF:∀k o,F k->W.heap[k]? =some o->o.isCells=true):KeepsOthers W a:=
 ⟨b.size,λk o hk ho=>(b.block k (QK.1 hk).1 (λh=>by rw[hF k o h hk]at ho;cases ho)).trans hk⟩
theorem c2Y{o:Obj}(a:Obj)(b:w.heap.size<=D)(h:W.heap[D]? =some o)(d:o.isCells=false)(f:o.isWalk=false):Fr (λj=>j=D) W (W.putObj D a):=by
 have g:=belowK_b (n₀:=0) (w:=w) (Zu _) W D o a b h d f;exact⟨g.os,g.tape,g.output,g.size,λk p m=>World.putObj_heap_other m⟩
theorem b0K(A:OA)(n c a b:Nat):(Value.slice A n c).ownBlock=(Value.slice A a b).ownBlock:=by cases A<;>rfl
theorem a8m{Y:WD}{row:Option Nat}(a:X.grownBy Y row):Fr (λj=>row=some j) X Y:=(Qp _ X).grown a (λ_k _ e=>e)
theorem a2M(B p:Nat)(v:VL)(l:LI)(n:Nat)(a:n<18446744073709551616)(w:WD)(h:a3Z B w p v l)(b:l.length<=500000000)(d:B<=w.heap.size):Calls prog 50 #[.pointer p,.int .u64 n] w λe w'=>e=.returned (.tuple #[])/\(∃v',a3Z B w' p v' (l++a0K n)/\a7W w v v')/\Fr (λk=>k=p\/v.ownBlock=some k) w w':=by
 have a6:=h.st.lt;have H:=η1 h;have aZ:=Qd w 129 #[.pointer p];have a8:=ρb w (.cells #[.pointer p] 129);clear h;refine(callsIn_wide (n:=8)).1 ?_;refine callsIn_of_wp_marks func50 rfl trivial ?_ rfl;refine wpIn_wide.2 ?_;simp only[ntmps50,Qc,Qy,Qv,Nat.reduceAdd,Nat.reduceSub,QW,QX,Ze,QZ,QF,QG];go_wp2_with fail
 go_loopw [1,4] (λt u wr=>∃(m:Nat) (done:LI),t=.int .u64 m/\m<=n/\leP n=done++leP m/\a0N (w.heap.size+1) wr u done/\Blk wr w.heap.size 129 #[.pointer p]/\Below w w wr)
  (λt _ _=>(intOf t).toNat)
 exact⟨n,[],rfl,Qg _,rfl,a0N.nil _ _,aZ,a8⟩;clear aZ a8;obtain⟨m,done,rfl,hm,ai,ho,hb,ab⟩:=hrel
 have bj:done.length<=8:=by
  have h1:=a8J a;rw[ai,Qa]at h1;omega
 have bi:w.heap.size+1<=wr.heap.size:=hb.lt
 by_cases h0:0<m
 ·obtain⟨v',w',R,az,aU,_⟩:=b2S (ty:=22) ((m:Int) % 256) ho ρo bi
  obtain⟨A2,c2,rfl⟩:=ho.form;obtain⟨A3,c3,rfl⟩:=az.form;rw[Qa]at R az;have⟨HO,a7,HF,HB,ak,HL⟩:=η6 az ho aU hb ab ai;have bn:(0:Int)<(m:Int):=ρo;clear ho az aU hb ab ai;go_wp2;go_roundw
  case rel=>
   refine⟨m / 256,_,by go_num,by omega,?_,HO.o,HB.fr HF.o (λe=>by have:=(a7.lt e).1;omega),ak.trans (HF.below ak.size (λk hk e=>by have:=(a7.lt e).1;omega))⟩;rw[HL.o,a9p h0]
   simp
  case measure=>simp[intOf];omega
 obtain rfl:m=0:=ρo;rw[a7p,ZC]at ai;obtain⟨A2,c2,rfl⟩:=ho.form;have hp:=H.own.fr (Q9 ab) (λk hk h=>by have:=(H.own.lt hk).2;omega);have ao:=H.st.fr (Q9 ab) ρo;obtain⟨A4,c4,hv⟩:=H.own.form;subst hv;have⟨k,hk⟩:=η0 done.length;have bq:k<=8:=ρo;obtain⟨v5,T,R,an,ay,aD⟩:=b2S (ty:=22) (w:=wr.drew) ((k:Int)) hp ρo (by have:=ab.size;simp;omega);have ae:(APs #[22,22] 22 #[.slice A4 l.length c4,.slice (some ⟨wr.heap.size,0,none⟩) 1 1]).run prog (wr.alloc (.cells #[.int .u8 k] 5)).drew=.ok v5 T:=R;clear R;obtain⟨J,U,rfl⟩:=an.form;rw[Qa]at ae an;have k1:wr.cell? ⟨w,0,none⟩=some (.pointer p):=hb.cell 0;have k2:wr.cell? ⟨p,0,none⟩=some (.slice A4 l.length c4):=ao.cell 0;have aj:(wr.alloc (.cells #[.int .u8 k] 5)).cell? ⟨w,0,none⟩=some (.pointer p):=(hb.alloc _).cell 0
 have ba:(wr.alloc (.cells #[.int .u8 k] 5)).cell? ⟨p,0,none⟩=some (.slice A4 l.length c4):=(ao.alloc _).cell 0;have Z:=a2D hp ao ρd;have V:=a2D hp hb ρd;have aQ:=(hb.drew).fr ay (λe=>V e);have af:=(ao.drew).fr ay (λe=>Z e);have E:T.cell? ⟨w,0,none⟩=some (.pointer p):=aQ.cell 0;have aE:T.cell? ⟨p,0,none⟩=some (.slice A4 l.length c4):=af.cell 0;have f2:=af.frozen 0;rw[hk]at ho⊢;simp only[Qy,Qv,QP]at ae an;have⟨H5,bc,aK,a9,aq,HP,ak,HL⟩:=η8 af aQ an ay aD hp ab ai;have⟨HD,HK⟩:=η2 ho hk;clear af aQ an ay aD hp ao ab ai ho hb hk Z V bj;go_wp2_with fail;go_region
 all_goals
  go_wp2_with fail;have a0:Blk (T.setCell ⟨p,0,none⟩ (.slice J (l.length+1) U)) p 123 #[.slice J (l.length+1) U]:=by simpa using H5.set_ 0 (.slice J (l.length+1) U)
  have aO:p≠w.heap.size:=by have:=a6;omega
  have a1:Blk (T.setCell ⟨p,0,none⟩ (.slice J (l.length+1) U)) w.heap.size 129 #[.pointer p]:=bc.far (p:=⟨p,0,none⟩) (λe=>aO e.symm) _;have aN:=a2D aK.o H5.o ρd;have a2:a0N B (T.setCell ⟨p,0,none⟩ (.slice J (l.length+1) U)) (.slice J (l.length+1) U) (l++[(k:Int)]):=aK.fr (F:=λj=>j=p) ((Qp (λj=>j=p) T).setCell (p:=⟨p,0,none⟩) (λ_=>rfl) _) (λj P e=>aN (e ▸ P))
  have a3:Fr (λj=>j=p\/(Value.slice A4 l.length c4).ownBlock=some j) w (T.setCell ⟨p,0,none⟩ (.slice J (l.length+1) U)):=
   ((Q9 ak.o).mono (λj P h=>absurd P ρo)).trans ((((Qp (λj=>(Value.slice A4 l.length c4).ownBlock=some j) wr).drew.trans a9.o (λ_ _ h=>h)).mono (G:=λj=>j=p\/(Value.slice A4 l.length c4).ownBlock=some j) (λj _ h=>.inr h)).setCell (p:=⟨p,0,none⟩) (λ_=>.inl rfl) _) (λ_ _ h=>h)
  have a4:w.heap.size+1<=T.heap.size:=bc.lt
  have a5:Fr (λj=>j=p\/(Value.slice A4 l.length c4).ownBlock=some j) wr (T.setCell ⟨p,0,none⟩ (.slice J (l.length+1) U)):=
   ((((Qp (λj=>(Value.slice A4 l.length c4).ownBlock=some j) wr).drew.trans a9.o (λ_ _ h=>h)).mono (G:=λj=>j=p\/(Value.slice A4 l.length c4).ownBlock=some j) (λj _ h=>.inr h)).setCell (p:=⟨p,0,none⟩) (λ_=>.inl rfl) _)
  have aF:=(callsIn_wide.1 (c3F Fence.wide 5 trivial rfl A2 k c2 (T.setCell ⟨p,0,none⟩ (.slice J (l.length+1) U))));refine aF.mono ?_;rintro e W7 ⟨rfl,aA⟩;have⟨W6,aG⟩:=η0 (T.setCell ⟨p,0,none⟩ (.slice J (l.length+1) U));have aJ:W6.heap.size=T.heap.size:=by rw[<-aG];simp
  rw[aG]at a0 a1 a2 a3 a5 aA⊢;have q0:=a0.alloc (.cells #[.slice A2 k c2] 22);have q1:=a1.alloc (.cells #[.slice A2 k c2] 22);have q2:a0N B (W6.alloc (.cells #[.slice A2 k c2] 22)) (.slice J (l.length+1) U) (l++[(k:Int)]):=World.ownsRow.alloc a2 _;have q3:=a3.alloc (.cells #[.slice A2 k c2] 22);have q6:=a5.alloc (.cells #[.slice A2 k c2] 22);have q4:=Qd W6 22 #[.slice A2 k c2];have q5:W7.heap.size=T.heap.size+1:=by rw[aA,Qi,aJ]
  rw[<-aA]at q0 q1 q2 q3 q4 q6;clear aA aG a0 a1 a2 a3 a5 aF;rw[aJ]at q4;simp only[aJ];have aY:∀y∈done,0<=y/\y<=255:=λy hy=>c6N n y (ρy HL.o hy)
  have bb:a6h (λj=>j=p\/(Value.slice J (l.length+1) U).ownBlock=some j\/W7.heap.size<=j) W7 A2 done:=λi hi=>by
   obtain⟨A',c',e1,hy,_,_⟩:=HD.byt aY
   cases e1
   obtain⟨g,o,rfl,hg,hc⟩:=hy.cell ρo;have bh:=HD.lt (k:=g) rfl
   have aT:¬(g=p\/(Value.slice A4 l.length c4).ownBlock=some g):=by
    rintro(e | e)
    ·omega
    have:=(H.own.lt e).2;omega
   refine⟨g,o,rfl,Qh hg q6.size,?_,(q6.cell (p:=⟨g,o+i,none⟩) hg aT).trans (hc i _ (by simp[hi]))⟩;rintro(e | e | e)
   ·omega
   ·rcases aq.o g ((b0K J _ _ _ _).trans e)with h | h
    ·exact aT (.inr h)
    have:(wr.drew).heap.size=wr.heap.size:=rfl
    omega
   have:=q6.size;omega
  have⟨bg,Q0,Q1,Q2,Q3,Q4,Q5,ar⟩:=η8 bb q0 q1 q2 q3 q4 q5 a4;have aP:=η1 a6;clear bb aY q0 q1 q2 q3 q4 q5 q6 k1 k2 aj ba E aE f2 ae;go_wp2_with fail;refine(wpIn_wide (n:=8)).1 ?_
  refine wpIn_rangeFunc_ownH rfl ρo (gf:=172) (lb:=#[.pointer T]) rfl trivial (enters_of func172 ρk rfl)
   (b5F Fence.wide 7 trivial rfl ρo T.heap.size c2 (λj=>j=p\/(Value.slice J (l.length+1) U).ownBlock=some j\/W7.heap.size<=j) A2 done (ρh HK.o) W7 ⟨by have:=Q5.o;omega,?b1⟩ (by rw[HK.o];exact Q4.cell 0) bg.o) d0Q (d1k (λj h=>.inr (.inr h))) (Qf _ _) (λ_=>rfl)
   (λag W=>∃v',a3Z B W p v' (l++[(k:Int)]++ag.map (·.2))/\a7W W7 (.slice J (l.length+1) U) v'/\Blk W w.heap.size 129 #[.pointer p]/\Fr (λj=>j=p\/(Value.slice J (l.length+1) U).ownBlock=some j\/W7.heap.size<=j) W7 W)
   (λc ag W=>False)
   (λs X Y row hs hg hr=>?b2)
   (λc s X Y row hs hg hr=>hs)
   ⟨_,⟨Q0.o,H.b1,by simpa using Q2.o⟩,a7W.refl _ _,Q1.o,Qp _ _⟩
   (λx a' W=>a'={tmps:=#[.pointer p,.int .u64 ((0:Nat):Int),.pointer w,undef,.slice A2 k c2,undef,.int .u8 x.2,.int .u64 ((0:Nat):Int),.bool false,u9,u10,u11,u12,u13,u14,u15,.pointer p,.pointer p,.pointer p,.pointer p,.slice A4 l.length c4,.slice A2 k c2,.int .i64 k,.int .u8 k,.slice (some ⟨wr.heap.size,0,none⟩) 1 1,.slice J (l.length+1) U,.pointer p,.pointer p,.slice A2 k c2,.func (.func 172) #[] #[.pointer T],.int .i64 (x.1:Int),.int .u8 x.2,undef,undef,undef,undef,undef,undef,undef,undef,undef,undef],defers:=[]})
   (λx a' s X Y row hs hg hr=>hs)
   ?assign ?body ?done ?stop
  case b1=>
   rintro(e | e | e)
   ·have:=aP.o;have:=ar.o;omega
   ·have:=(aK.lt e).2;omega
   have:=Q5.o;omega
  case b2=>
   obtain⟨v',f,O,I,N⟩:=hs;have aC:=a8m hg
   have aa:∀r cs t,row=some r->Blk X r t cs->False:=λr cs t e hb=>by
    obtain⟨_,ob,ho,hc⟩:=hr r e;rw[show X.heap[r]? =_ from hb]at ho
    cases ho
    cases hc
   refine⟨v',⟨f.st.fr aC (λe=>aa _ _ _ e f.st),f.b1,f.own.fr aC (λj P e=>?_)⟩,O,I.fr aC (λe=>aa _ _ _ e I),N.trans aC (λj P e=>.inr (.inr (hr j e).1))⟩;obtain⟨cs,ax,_⟩:=a2B f.own P;exact aa _ _ _ e ax
  case assign=>
   rintro l' ag x W KK ⟨v',f,O,I,N⟩ z;have bk:=z {tmps:=#[.pointer p,.int .u64 ((0:Nat):Int),.pointer w,undef,.slice A2 k c2,undef,.int .u8 x.2,.int .u64 ((0:Nat):Int),.bool false,u9,u10,u11,u12,u13,u14,u15,.pointer p,.pointer p,.pointer p,.pointer p,.slice A4 l.length c4,.slice A2 k c2,.int .i64 k,.int .u8 k,.slice (some ⟨wr.heap.size,0,none⟩) 1 1,.slice J (l.length+1) U,.pointer p,.pointer p,.slice A2 k c2,.func (.func 172) #[] #[.pointer T],.int .i64 (x.1:Int),.int .u8 x.2,undef,undef,undef,undef,undef,undef,undef,undef,undef,undef],defers:=[]} W (KeepsFrom.refl _ _) (Qp _ _) ⟨v',f,O,I,N⟩ rfl;clear z;simp only[d1G]
   gi_wp2
   exact bk
  case body=>
   rintro l' ag x a' W br ⟨r,hr⟩ ⟨v',f,O,I,N⟩ rfl bh;have⟨q,hq⟩:=η0 (l++[(k:Int)]++ag.map (·.2));rw[hq]at f
   have aI:q.length<=500000010:=by
    have:=HK.o
    rw[<-hq]
    simp
    omega
   have bm:B<=W.heap.size:=by have:=N.size;have:=Q5.o;have:=ar.o;omega
   obtain⟨v9,w9,R,au,al,ad⟩:=b2S (ty:=22) (w:=W.drew) x.2 f.own ρo bm;obtain⟨A8,c8,rfl⟩:=f.own.form;obtain⟨A9,c9,rfl⟩:=au.form;have⟨N8,aB⟩:=η0 q.length;rw[Qa,aB]at R au ad;simp only[Qy,Qv,QP]at R au ad;rw[aB]at f O al;have⟨HQ,bp⟩:=η2 hq aB;clear hq aB aI;have ae:(APs #[22,22] 22 #[.slice A8 N8 c8,.slice (some ⟨W.heap.size,0,none⟩) 1 1]).run prog (W.alloc (.cells #[.int .u8 x.2] 5)).drew=.ok (.slice A9 (N8+1) c9) w9:=R;have k1:W.cell? ⟨w,0,none⟩=some (.pointer p):=I.cell 0;have k2:W.cell? ⟨p,0,none⟩=some (.slice A8 N8 c8):=f.st.cell 0;have aj:(W.alloc (.cells #[.int .u8 x.2] 5)).cell? ⟨w,0,none⟩=some (.pointer p):=(I.alloc _).cell 0;have ba:(W.alloc (.cells #[.int .u8 x.2] 5)).cell? ⟨p,0,none⟩=some (.slice A8 N8 c8):=(f.st.alloc _).cell 0;have Z:=a2D f.own f.st ρd
   have V:=a2D f.own I ρd;have aL:=(I.drew).fr al (λe=>V e);have ac:=(f.st.drew).fr al (λe=>Z e);have E:w9.cell? ⟨w,0,none⟩=some (.pointer p):=aL.cell 0;have aE:w9.cell? ⟨p,0,none⟩=some (.slice A8 N8 c8):=ac.cell 0;have f2:=ac.frozen 0;have⟨P',FT,FR,B9,S9,O9,F9,bl⟩:=η8 f O N aL ac au al ad;clear f O N I aL ac au al ad R Z V
   gi_wp2_with fail
   refine wpIn_mono (Q:=λe a' w'=>e=.normal/\a'.defers=[]/\w'=w9.setCell ⟨p,0,none⟩ (.slice A9 (N8+1) c9)) ?reg ?post
   case reg=>
    refine a9i ρk ρk (by rintro⟨_,_,h,_⟩;cases h) ?_;have ah:W.drew.cell? ⟨w,0,none⟩=some (.pointer p):=k1;refine wpAny_of_held (S:=λw'=>w'.cell? ⟨w,0,none⟩=some (.pointer p)) _ _ _ _ ?_;refine wpAnyH_take (i:=0) (v:=.pointer p) rfl ρk ρk ρk (λ_ _ _ h=>absurd h.1 ρp) (Or.inl ⟨by rfl,λW' hS=>?_⟩) ah ?_
    ·simp only at hS
     go_simp
    refine wpAnyH_take (i:=1) (v:=.pointer p) rfl ρk ρk ρk (λ_ _ _ h=>absurd h.1 ρp) (Or.inl ⟨by rfl,λW' hS=>?_⟩) ah ?_
    ·simp only at hS
     go_simp
    refine wpAnyH_take (i:=2) (v:=.pointer p) rfl ρk ρk ρk (λ_ _ _ h=>absurd h.1 ρp) (Or.inl ⟨by rfl,λW' _=>?_⟩) ah ?_
    ·go_simp
    refine wpAnyH_take (i:=3) (v:=.pointer p) rfl ρk ρk ρk (λ_ _ _ h=>absurd h.1 ρp) (Or.inl ⟨by rfl,λW' _=>?_⟩) ah ?_
    ·go_simp
    refine wpAnyH_take (i:=5) (v:=.int .u8 x.2) rfl ρk ρk ρk (λ_ _ _ h=>absurd h.1 ρp) (Or.inl ⟨by rfl,λW' _=>?_⟩) ah ?_
    ·go_simp
    refine wpAnyH_all (rs:=[4,6]) ρk ρp ?_;intro i hi;simp only[Qo,List.mem_nil_iff,or_false]at hi;have aS:(w9.setCell ⟨p,0,none⟩ (.slice A9 (N8+1) c9)).cell? ⟨w,0,none⟩=some (.pointer p):=(B9.far (p:=⟨p,0,none⟩) (λe=>by have:=aP.o;simp at e;omega) _).cell 0;have bf:=η1 aS;clear aS;have aH:(W.alloc (.cells #[.int .u8 x.2] 5)).drew.cell? ⟨w,0,none⟩=some (.pointer p):=aj
    rcases hi with rfl | rfl
    ·skip
     refine wpOp_step rfl (λK z=>?_);go_simp;refine z _ _ ⟨ah,?_⟩;clear z K;refine wpAnyH_all (rs:=[6]) ρk ρp ?_;intro i hi;simp only[Qn]at hi;subst hi;refine wpOp_step rfl (λK z=>?_);go_simp;refine z _ _ ⟨by first | exact aH | exact aj,?_⟩;clear z K;refine wpAnyH_all (rs:=[7]) ρk ρp ?_;intro i hi;simp only[Qn]at hi;subst hi;refine b4I (o:=⟨some 39,_,_,_,_,_⟩) rfl rfl (λK z=>?_);go_big_op;refine z _ _ ⟨E,?_⟩;clear z K;refine wpAnyH_all (rs:=[8]) ρk ρp ?_;intro i hi;simp only[Qn]at hi;subst hi;refine wpOp_step rfl (λK z=>?_);go_simp;refine z _ _ ⟨E,?_⟩;clear z K;refine wpAnyH_all (rs:=[9]) ρk ρp ?_;intro i hi;simp only[Qn]at hi;subst hi;refine wpOp_step rfl (λK z=>?_);go_simp;refine z _ _ ⟨E,?_⟩;clear z K;refine wpAnyH_all (rs:=[10]) ρk ρp ?_;intro i hi
     simp only[Qn]at hi;subst hi;refine wpOp_step rfl (λK z=>?_);go_simp;refine z _ _ ⟨bf,?_⟩;clear z K;exact wpAnyH_done ρk ⟨rfl,rfl,rfl⟩ _
    skip;refine wpOp_step rfl (λK z=>?_);go_simp;refine z _ _ ⟨by first | exact aH | exact aj,?_⟩;clear z K;refine wpAnyH_all (rs:=[4]) ρk ρp ?_;intro i hi;simp only[Qn]at hi;subst hi;refine wpOp_step rfl (λK z=>?_);go_simp;refine z _ _ ⟨by first | exact aH | exact aj,?_⟩;clear z K;refine wpAnyH_all (rs:=[7]) ρk ρp ?_;intro i hi;simp only[Qn]at hi;subst hi;refine b4I (o:=⟨some 39,_,_,_,_,_⟩) rfl rfl (λK z=>?_);go_big_op;refine z _ _ ⟨E,?_⟩;clear z K;refine wpAnyH_all (rs:=[8]) ρk ρp ?_;intro i hi;simp only[Qn]at hi;subst hi;refine wpOp_step rfl (λK z=>?_);go_simp;refine z _ _ ⟨E,?_⟩;clear z K;refine wpAnyH_all (rs:=[9]) ρk ρp ?_;intro i hi;simp only[Qn]at hi;subst hi;refine wpOp_step rfl (λK z=>?_);go_simp;refine z _ _ ⟨E,?_⟩;clear z K;refine wpAnyH_all (rs:=[10]) ρk ρp ?_
    intro i hi;simp only[Qn]at hi;subst hi;refine wpOp_step rfl (λK z=>?_);go_simp;refine z _ _ ⟨bf,?_⟩;clear z K;exact wpAnyH_done ρk ⟨rfl,rfl,rfl⟩ _
   case post=>
    rintro e a' w' ⟨rfl,bo,rfl⟩
    gi_wp2_with fail
    have hF:∀u,Fr (λj=>j=p\/(Value.slice A8 N8 c8).ownBlock=some j) W (w9.setCell ⟨p,0,none⟩ u):=λu=>
     (((Qp (λj=>(Value.slice A8 N8 c8).ownBlock=some j) W).drew.trans F9.o (λ_ _ h=>h)).mono (G:=λj=>j=p\/(Value.slice A8 N8 c8).ownBlock=some j) (λj _ h=>.inr h)).setCell (p:=⟨p,0,none⟩) (λ_=>.inl rfl) _
    have hG:∀u,Fr (λj=>j=p\/(Value.slice J (l.length+1) U).ownBlock=some j\/W7.heap.size<=j) W (w9.setCell ⟨p,0,none⟩ u):=λu=>(hF u).mono (λj _ h=>by
     rcases h with h | h
     ·exact .inl h
     exact .inr (FT.o j h))
    have aO:p≠w.heap.size:=by have:=aP.o;omega
    have aN:=a2D O9.o S9.o ρd;refine⟨KeepsOthers.from (a4P (hF _) (λj o P ho=>?_)) _,hG _,⟨.slice A9 (N8+1) c9,⟨by simpa using S9.set_ 0 (.slice A9 (N8+1) c9),H.b1,?_⟩,?_,B9.far (p:=⟨p,0,none⟩) (λe=>aO e.symm) _,FR.trans (hG _) (λ_ _ h=>h)⟩⟩
    ·rcases P with rfl | P
     ·rw[show W.heap[j]? =_ from P'.st]at ho
      cases ho
      rfl
     obtain⟨cs,ax,_⟩:=a2B P'.own P;rw[show W.heap[j]? =_ from ax]at ho
     cases ho
     rfl
    ·rw[QV,<-QC,HQ.o]
     exact O9.fr (F:=λj=>j=p) ((Qp (λj=>j=p) w9).setCell (p:=⟨p,0,none⟩) (λ_=>rfl) _) (λj P e=>aN (e ▸ P))
    intro j P
    rcases bl.o j P with h | h
    ·exact FT.o j h
    have e1:(W.drew).heap.size=W.heap.size:=rfl
    have:=FR.size
    exact .inr ρo
  case done=>
   rintro D ys W hD rfl ⟨v',f,O,I,N⟩ z
   have av:l++[(k:Int)]++(a7N done done.length).map (·.2)=l++a0K n:=by
    rw[c1p];unfold a0K beP;rw[HL.o,HK.o]
    simp
   rw[av]at f
   have aW:Fr (λj=>j=p\/(Value.slice A4 l.length c4).ownBlock=some j) w W:=Q3.trans N (λj P h=>by
    rcases h with h | h | h
    ·exact .inl h
    ·rcases aq.o j ((b0K J _ _ _ _).trans h)with h | h
     ·exact .inr h
     have e1:(wr.drew).heap.size=wr.heap.size:=rfl
     have:=ak.size
     omega
    have:=Q5.o;have:=ar.o;omega)
   have aX:∀r cs t,Blk W r t cs->r≠D:=λr cs t hb e=>by
    have h1:=z;rw[<-e,show W.heap[r]? =_ from hb]at h1
    cases h1
   have⟨P',FT,FW,aR,be,aV⟩:=η6 f O aW z hD aX;clear f O I N z hD av aW aX;go_wp2_with fail;refine⟨by simp,.inl ⟨_,_,rfl,run_takeDeferred aR.o,?_⟩⟩;have aM:=c2Y (.deferred none) be.o aR rfl rfl;refine⟨_,results_none rfl _ _ _,rfl,⟨v',⟨P'.st.fr aM (aV.o _ _ _ P'.st),P'.b1,P'.own.fr aM (λj P e=>?_)⟩,?_⟩,FW.trans aM (λj P e=>?_)⟩
   ·obtain⟨cs,ax,_⟩:=a2B P'.own P
    exact aV.o _ _ _ ax e
   ·intro j P
    rcases FT.o j P with h | h
    ·rcases aq.o j ((b0K J _ _ _ _).trans h)with h | h
     ·exact .inl h
     have e1:(wr.drew).heap.size=wr.heap.size:=rfl
     have:=ak.size
     exact .inr ρo
    have:=Q5.o;have:=ar.o
    exact .inr ρo
   have:=Q5.o;have:=ar.o;have:=be.o
   omega
  case stop=>
   rintro D c ag W _ _ hF _;exact hF.elim
end
section
section
attribute [local go_sem] Oper.semAt_some
theorem a5m:(prog.info? 31).map (·.size)=some 32:=ρk
theorem b1w:prog.underlying 31=some (.array 32 5):=ρk
theorem b9C:(((prog.info? 31).bind (·.zero)).map (·.cells.toList))=some (List.replicate 32 (.int .u8 0)):=ρk
abbrev a2t:=ldOf 31
abbrev a2s:=stOf 31
abbrev a2n:=alOf 31
attribute [local go_sem ↓] a2t a2s a2n d0o c9J d1h d1t c2V b7o a3w
theorem a0N.head{B:Nat}(h:a0N B w (.slice A n c) l)(b:0<l.length)(a:∀x∈l,0<=x/\x<=255):∃g,A=some ⟨g,0,none⟩/\B<=g/\g<w.heap.size/\n=l.length/\l.length<=c/\c<=maxLen/\Byt w (some ⟨g,0,none⟩) l:=by
 obtain⟨E,v,e,m,_,_⟩:=h.byt a;obtain⟨y,⟨d,z⟩ | ⟨g,cap,f,d,p,o,r,j,D,ht⟩⟩:=h
 ·omega
 cases d
 cases e
 exact⟨g,rfl,p,(QK.1 o).1,rfl,r,j,m⟩
def b3n(m:LI)(K:Nat)(pre:List Nat):LI:=pre.foldl (λh k=>a8Y h ((m.drop (64*min k (K-1))).take 64)) H0
theorem a8Z(m:LI)(K:Nat)(a:List Nat)(k:Nat):b3n m K (a++[k])=a8Y (b3n m K a) ((m.drop (64*min k (K-1))).take 64):=by simp[b3n]
theorem b1o(m:LI)(K:Nat):∀k,k<=K->b3n m K (List.range k)=a6V m k
 | 0,_=>by rw[a7t];rfl
 | k+1,h=>by rw[List.range_succ,a8Z,b1o m K k ρo,a7r,QY ρo]
theorem a6U(m:LI)(K:Nat)(a:List Nat):(b3n m K a).length=8:=by
 rcases List.eq_nil_or_concat a with rfl | ⟨q,x,rfl⟩
 ·rfl
 rw[List.concat_eq_append,a8Z,a5E]
theorem d1E(g off i:Nat):(⟨g,off,none⟩:Addr).add i=⟨g,off+i,none⟩:=by unfold Addr.add;split<;>simp_all
theorem b6m(cs:AV)(o:Nat)(xs:LV)(h:o<=cs.size):(a1d cs o xs).toList.take (o+xs.length)=cs.toList.take o++xs:=by
 have e:(cs.toList.take o++xs).length=o+xs.length:=by simp;omega
 show((cs.toList.take o++xs)++cs.toList.drop (o+xs.length)).take (o+xs.length)=_
 rw[<-e,List.take_left]
theorem c3O(m:LI):∀k,∀x∈a6V m k,0<=x/\x<=4294967295
 |
  0=>by
  rw[a7t];intro x hx;simp[H0]at hx;omega
 |
  k+1=>by
  rw[a7r];intro x hx;obtain⟨i,_,rfl⟩:=Qs.1 hx;omega
theorem b3k(A:OA)(c:Nat)(xs:LV)(L:LL)(w:WD)(h:b8s w A xs L)(m:L.length<=1000000)(f:L.flatten.length<=500000000)(b:∀x∈L.flatten,0<=x/\x<=255)(d:a2x w):Calls prog 132 #[.slice A L.length c] w λe w'=>e=.returned (.agg (bys (a3x L.flatten)).toArray)/\Below w w w':=by
 obtain⟨z,bq,bj⟩:=Q8.1 b9C;have bC:=λW=>Pc (t:=31) z bq W
 have⟨F,aj⟩:=η0 z.cells;have al:F.size=32:=by rw[<-aj,<-QD,bj];rfl
 simp only[aj]at bC;obtain⟨z8,a6,bc⟩:=Q8.1 d3l;have bk:=λW=>Pc (t:=313) z8 a6 W
 have⟨Z8,aV⟩:=η0 z8.cells;have bv:Z8.size=8:=by rw[<-aV,<-QD,bc];rfl
 simp only[aV]at bk;clear bq bj a6 bc aV z8 aj z;have⟨M,hM⟩:=η0 L.flatten;rw[hM]at b f;have⟨HT,HG,HX,HM,aP⟩:=η5 h d b hM f;clear h d b hM;have O:=ρb w (.cells F 31);have H:=Qd w 31 F;refine(callsIn_wide (n:=8)).1 ?_;refine callsIn_of_wp_marks func132 rfl trivial ?_ rfl;refine wpIn_wide.2 ?_;simp only[ntmps132,Qc,Qy,Qv,Nat.reduceAdd,Nat.reduceSub,QW,QX,Ze,QZ,QF,QG];go_wp2_with fail;have⟨W1,aU⟩:=η0 (w.alloc (.cells F 31));have bW:W1.heap.size=w.heap.size+1:=by rw[<-aU];simp
 rw[aU]at O H⊢;clear aU;refine(b8D A c xs L W1 (HT.below O) m (ρy HM.o aP.o)).mono ?_;rintro e W2 ⟨v,rfl,ho,ay⟩;rw[HM.o]at ho;obtain⟨A1,c1,rfl⟩:=ho.form;replace H:=H.fr (Q9 ay) (ρh H.lt);have a5:=O.trans (ay.mono O.size);obtain⟨v2,W3,ac,aT,aS,be⟩:=a3P (ty:=22) (x:=128) ho ρo ρo ay.size;obtain⟨A0,c0,rfl⟩:=aT.form;have aI:Below w w W3:=a5.trans (aS.below a5.size (λk hk e=>by have:=(ho.lt e).1;have:=O.size;omega));replace H:=H.fr aS (λe=>by have:=(ho.lt e).1;omega);have⟨HO,HB,Z⟩:=η3 aT H aI;clear ho aT aS be H aI a5 O ay;rw[Qa]at ac HO;go_wp2_with fail
 generalize hn:M.length=n at HO⊢
 rw[hn]at aP;have HN:=η1 hn;clear hn ac;have⟨Zn,bb⟩:=η0 ((119-n % 64) % 64);have au:=η1 bb;clear bb;go_loopg [3] Zn (λk v wr=>∃z N A2 c2,z+k=Zn/\N=n+1+z/\v=.slice A2 N c2/\a0N W1 wr v (M++[128]++List.replicate z 0)/\Blk wr w.heap.size 31 F/\Below w w wr);exact⟨0,n+1,_,_,by omega,rfl,rfl,by simpa using HO.o,HB.o,Z.o⟩;clear HO HB Z;obtain⟨z,N,A2,c2,hz,hN,rfl,ho,hb,E⟩:=hrel;have⟨HO,HB,Z,HZ,aD⟩:=η5 ho hb E hz hN;have b0:N<=600000000:=by have:=aP.o;have:=au.o;omega
 have ak:(M++[128]++List.replicate z 0).length=N:=by simp[HN.o];omega
 have bn:W1.heap.size<=wr.heap.size:=by have:=hb.lt;omega
 have bt:=η1 ak;clear hb E hz hN
 by_cases hk:z<Zn
 ·have bi:N % 64≠56:=by have:=aD.o;have:=au.o;omega
  obtain⟨v',w',ac,az,a7,_⟩:=a3P (ty:=22) (x:=0) ho ρo (by rw[ak];omega) bn;obtain⟨A3,c3,rfl⟩:=az.form;rw[Qa,ak]at ac az;have⟨bN,a8⟩:=η2 az a7;clear ho az a7 ak;go_wp2;go_roundg (Zn-(z+1))
  case measure=>have:=HZ.o;omega
  refine⟨z+1,N+1,_,_,by omega,by have:=aD.o;omega,rfl,?_,HB.fr a8.o (λe=>by have:=(HO.lt e).1;omega),Z.trans (a8.below Z.size (λk hk e=>by have:=(HO.lt e).1;omega))⟩;rw[List.replicate_succ',<-QC];exact bN
 have bi:N % 64=56:=by have:=aD.o;have:=au.o;have:=HZ.o;omega
 have bm:z=Zn:=by have:=HZ.o;omega
 have bQ:=η1 bm;clear ho ak bm;go_wp2_with fail;refine(b3I ((n:Int)*8) ρo (ρh aD.o) 8 ρo wr).mono ?_;rintro e w4 ⟨rfl,aq,Q⟩
 have hP:M++[128]++List.replicate z 0++beN ((n:Int)*8) 8=a6A M:=by
  unfold a6A;rw[bQ.o,<-au.o,HN.o,Int.mul_comm]
  simp
 obtain⟨v5,B,ac,ae,aR,_⟩:=c3v (ty:=22) (c:=8) (HO.fr (Q9 Q) (λk hk e=>by have:=(HO.lt hk).2;omega)) (aq.byt (b7F _ _)) (by rw[bt.o,a1E];omega) (Qk bn Q.size) ρp;rw[hP]at ae;obtain⟨K,hK⟩:∃K,(a6A M).length=64*K:=⟨(a6A M).length / 64,by have:=b7a M;omega⟩
 have bY:64*K<=700000000/\1<=K:=by
  have e:(a6A M).length=N+8:=by rw[<-hP,Qa,bt.o,a1E]
  omega
 obtain⟨A5,c5,rfl⟩:=ae.form;rw[hK]at ac ae;rw[a1E]at ac;have bs:=(φf HB Q).fr aR (λe=>by have:=(HO.lt e).1;omega);have aW:=Z.trans ((Q.mono Z.size).trans (aR.below (Qk Z.size Q.size) (λk hk e=>by have:=(HO.lt e).1;omega)));have aO:=HG.below aW
 have U:(LDs 313 (.pointer (0:Nat))).run prog B=.ok (.agg (a2d H0).toArray) B:=
  a3R B _ _ 8 c7W rfl c1v 0 0 (a2d H0) rfl (λj v hv=>by
   have hj:j<8:=by
    have:=(Qm.1 hv).1
    rwa [show(a2d H0).length=8 from rfl]at this
   rw[QP,aO.h j hj];simp only[a2d,ZJ]at hv;obtain⟨x,b,rfl⟩:=Q8.1 hv;simp[List.getD,b])
 have⟨HH,an⟩:=η0 (a2d H0);have bO:HH.length=8:=by rw[<-an];rfl
 have bH:∀v∈HH,v.oneCell'=true:=by rw[<-an];exact a6f _
 rw[an]at U;have ag:=a7S (P:=prog) (t:=313) c1v B Z8 bv HH bO bH
 have bl:∀x∈a6A M,0<=x/\x<=255:=λx b=>by
  simp only[a6A,Qq,Qo]at b
  rcases b with b | rfl | b | b
  ·exact HX.o x b
  ·omega
  ·rw[Zf b];omega
  exact b7F _ _ x b
 obtain⟨I,rfl,b4,aJ,aM,bp,ba,aG⟩:=ae.head (by rw[hK];omega) bl;rw[hK]at bp;have⟨aH,ar,aY⟩:=η3 aG aJ hK;clear bl aG aJ hK aM;have⟨bK,bZ,ad,aK,aN⟩:=η5 an ae bs aW aO;clear aq Q hP ae aR bs aW aO an;go_wp2_with fail;refine(callsIn_wide.1 (c5m 5 _ _ _ _)).mono ?_;rintro e W7 ⟨rfl,bf⟩;have q0:Blk (((B.alloc (.cells HH.toArray 313)).alloc (.cells #[.slice I (64*K) c5] 22)).alloc (.cells #[.int .i64 64] 3)) B.heap.size 313 HH.toArray:=((Qd B _ _).alloc _).alloc _;have q1:=(Qd (B.alloc (.cells HH.toArray 313)) 22 #[.slice I (64*K) c5]).alloc (.cells #[.int .i64 64] 3);have q2:=Qd ((B.alloc (.cells HH.toArray 313)).alloc (.cells #[.slice I (64*K) c5] 22)) 3 #[.int .i64 64]
 have q3:Below B B (((B.alloc (.cells HH.toArray 313)).alloc (.cells #[.slice I (64*K) c5] 22)).alloc (.cells #[.int .i64 64] 3)):=((ρb B _).alloc ρp _).alloc (by simp;omega) _;have q4:(((B.alloc (.cells HH.toArray 313)).alloc (.cells #[.slice I (64*K) c5] 22)).alloc (.cells #[.int .i64 64] 3)).heap.size=B.heap.size+3:=by simp
 simp only[Qi]at q1 q2;rw[<-bf]at q0 q1 q2 q3 q4;clear bf U ag;simp only[Qi];go_wp2_with fail;refine(wpIn_wide (n:=8)).1 ?_
 refine wpIn_rangeFunc_ownH rfl ρo (gf:=239) (lb:=#[.pointer (B.heap.size+1:Nat),.pointer (B.heap.size+1+1:Nat)]) rfl trivial (enters_of func239 ρk rfl)
  (b6a 7 ρo (B.heap.size+1) (B.heap.size+1+1) I 0 c5 K (λk=>k=B.heap.size\/B.heap.size+3<=k) ρo bp ba W7 ⟨by omega,by omega⟩ ⟨by omega,by omega⟩ (q1.cell 0) (q2.cell 0)) d0Q (d1k ρo) (Qf _ _) (λ_=>rfl)
  (λab W=>Blk W B.heap.size 313 (a2d (b3n (a6A M) K ab)).toArray/\Fr (λk=>k=B.heap.size\/B.heap.size+3<=k) W7 W)
  (λc ab W=>False)
  (λs X Y row hs d hr=>⟨hs.1.grown d (λe=>?a1),?a2⟩)
  (λc s X Y row hs d hr=>hs)
  ⟨?a3,Qp _ _⟩
  (λx a' W=>a'={tmps:=#[.slice A L.length c,undef,.pointer w,.slice I (64*K) c5,.int .u64 ((n:Int)*8),.pointer B,.slice (some ⟨I,64*min x (K-1),none⟩) 64 64,undef,undef,undef,.slice A L.length c,.slice A1 n c1,.slice A1 n c1,.int .i64 n,.int .u64 n,.int .u64 ((n:Int)*8),.slice A1 n c1,.slice W2 1 1,.slice A0 (n+1) c0,.slice A2 N c2,.int .i64 N,.int .i64 ((N:Int) % 64),.bool false,u23,u24,u25,.slice A2 N c2,.int .u64 ((n:Int)*8),.slice (some ⟨wr.heap.size,0,none⟩) 8 8,.slice I (64*K) c5,.agg HH.toArray,.slice I (64*K) c5,.func (.func 239) #[] #[.pointer (B.heap.size+1:Nat),.pointer (B.heap.size+1+1:Nat)],.slice (some ⟨I,64*min x (K-1),none⟩) 64 64,undef,undef,undef,undef,undef,undef,undef,undef,undef,undef,undef,undef,undef,undef,undef,undef,undef],defers:=[]})
  (λx a' s X Y row hs d hr=>hs)
  ?assign ?body ?done ?stop
 case a1=>
  obtain⟨h1,_⟩:=hr _ e;omega
 case a2=>exact hs.2.trans ⟨d.os,d.tape,d.output,d.size,λk hk aL=>d.block k hk (λe=>aL (.inr (by have:=(hr k e.symm).1;omega)))⟩ (λ_ _ h=>h)
 case a3=>rw[show b3n (a6A M) K []=H0 from rfl,bK.o];exact q0
 case assign=>
  rintro l ab x W KK ⟨hb,hf⟩ hK
  have bR:=hK {tmps:=#[.slice A L.length c,undef,.pointer w,.slice I (64*K) c5,.int .u64 ((n:Int)*8),.pointer B,.slice (some ⟨I,64*min x (K-1),none⟩) 64 64,undef,undef,undef,.slice A L.length c,.slice A1 n c1,.slice A1 n c1,.int .i64 n,.int .u64 n,.int .u64 ((n:Int)*8),.slice A1 n c1,.slice W2 1 1,.slice A0 (n+1) c0,.slice A2 N c2,.int .i64 N,.int .i64 ((N:Int) % 64),.bool false,u23,u24,u25,.slice A2 N c2,.int .u64 ((n:Int)*8),.slice (some ⟨wr.heap.size,0,none⟩) 8 8,.slice I (64*K) c5,.agg HH.toArray,.slice I (64*K) c5,.func (.func 239) #[] #[.pointer (B.heap.size+1:Nat),.pointer (B.heap.size+1+1:Nat)],.slice (some ⟨I,64*min x (K-1),none⟩) 64 64,undef,undef,undef,undef,undef,undef,undef,undef,undef,undef,undef,undef,undef,undef,undef,undef,undef],defers:=[]} W (KeepsFrom.refl _ _) (Qp _ _) ⟨hb,hf⟩ rfl
  clear hK;simp only[d1A]
  gi_wp2
  exact bR
 case body=>
  rintro l ab x a' W hl ⟨r,hr⟩ ⟨hb,hf⟩ rfl aa;have⟨j,hj⟩:=η0 (min x (K-1));have b2:j<K:=ρo;rw[hj];have U:=Ph c7W rfl c1v hb (off:=0) (a2d (b3n (a6A M) K ab)) (by rw[a1t,a6U]) (by simp[Qb,a1t,a6U]);have bJ:a2x W:=(aN.below q3).fr hf (ρh aN.o.size) (ρh aN.o.size)
  have bF:Byt W (some ⟨I,64*j,none⟩) (((a6A M).drop (64*j)).take 64):=⟨λ_=>⟨I,64*j,rfl,by have:=hf.size;have:=ar.o;omega,λi y hy=>by
   have e1:=(hf.cell (p:=⟨I,64*j+i,none⟩) (show I<_ by have:=ar.o;omega) (show¬(I=B.heap.size\/B.heap.size+3<=I) by have:=ar.o;omega)).trans (q3.cell (p:=⟨I,64*j+i,none⟩) ar.o);rw[e1];obtain⟨g',o',e2,_,hc⟩:=aH.cell (by rw[aY.o];omega)
   cases e2
   rw[Zj]at hy
   split at hy
   ·rw[ZY]at hy
    have:=hc _ y hy
    simpa[ZT]using this
   cases hy⟩,λy hy=>aH.bd y (Yi (QM hy))⟩
  have⟨hv,aE⟩:=η0 (b3n (a6A M) K ab);have bx:hv.length=8:=by rw[<-aE,a6U]
  rw[aE]at U;have⟨HJ,a9,bL,bA⟩:=η4 hj hb hf aE;clear hj hb hf aE
  gi_wp2_with fail
  refine⟨trivial,?_⟩;refine(CallsIn.inRound l (callsIn_wide.2 (c5f (some ⟨I,64*j,none⟩) 64 (Qg _) (((a6A M).drop (64*j)).take 64) (by simp[aY.o];omega) hv bx W bF bJ))).mono ?_;rintro e W1 ⟨rfl,O⟩;have H:=φf a9 O;have ag:=Pa (t:=313) c1v H (off:=0) (a2d (a8Y hv (((a6A M).drop (64*j)).take 64))) (by rw[a1t,a5E]) (by simp[a1t,a6U]) (a6f _);rw[a0q _ _ (by simp[a1t,a6U,a5E])]at ag;have⟨bP,J⟩:=η2 H O;clear H O U
  gi_wp2_with fail
  refine⟨?_,?_,?_,?_⟩
  ·have bV:∀cs,W.grownBy (W1.setRow B.heap.size cs) (some B.heap.size):=λcs=>⟨J.os,J.tape,J.output,by simpa using J.size,λk hk aL=>(setRow_other W1 B.heap.size k cs (λe=>aL (by rw[e]))).trans (J.block k hk)⟩
   refine KeepsOthers.from (KeepsOthers.of_grownBy (bV _) (λj o e ho=>?_)) _
   cases e
   rw[show W.heap[B.heap.size]? =_ from a9.o]at ho
   cases ho
   rfl
  ·exact((Q9 J.o).mono (λk hk h=>absurd hk ρo)).setRow (λ_=>.inl rfl) _
  ·rw[a8Z,bA.o,HJ.o]
   exact bP.row_ _
  exact bL.trans (((Q9 J.o).mono (G:=λk=>k=B.heap.size\/B.heap.size+3<=k) (λk hk h=>absurd hk ρo)).setRow (λ_=>.inl rfl) _) (λ_ _ h=>h)
 case done=>
  rintro D ys W hD rfl ⟨hb,hf⟩ hK;rw[b1o _ _ K (Qg _)]at hb;have ah:Blk W w.heap.size 31 F:=((φf ad q3)).fr hf (ρh ad.o.lt);have a4:Below w w W:=aK.trans ((q3.mono aK.size).trans (hf.below (ρh ad.o.lt) (λk hk h=>by have:=ad.lt;omega)));have⟨R,hR⟩:=η0 (a6V (a6A M) K);have bh:R.length=8:=by rw[<-hR,a8q]
  rw[hR]at hb;have⟨HR,T⟩:=η2 hR bh;have aX:W.heap.size≥B.heap.size+3:=by have:=hf.size;omega
  have⟨bo,bT⟩:=η2 hK hD;clear hR bh hf hK hD;have U:=Ph c7W rfl c1v (hb.alloc (.cells F 31)) (off:=0) (a2d R) (by rw[a1t,T.o]) (by simp[Qb,a1t,T.o]);have o0:=Qd W 31 F;have o1:=ah.alloc (.cells F 31);have o2:=a4.alloc a4.size (.cells F 31);have o3:(W.alloc (.cells F 31)).heap[D]? =some (.deferred (some [])):=(Below.heap_alloc _ _ _ (by have:=(QK.1 bo.o).1;omega)).trans bo.o;have⟨O0,O1,O2,O3,HB⟩:=η5 o0 o1 o2 o3 hb;clear o0 o1 o2 o3 hb ah a4;have br:∀x∈R,0<=x/\x<=4294967295:=by rw[<-HR.o];exact c3O _ _
  have bS:=η1 br;clear br;go_wp2_with fail;clear U
  go_loopg [38] 8 (λk t wx=>∃(i:Nat) (cs:AV),i<=8/\k=8-i/\t=.int .i64 i/\cs.size=32/\cs.toList.take (4*i)=bys ((R.take i).flatMap λy=>beN y 4)/\
   Blk wx W.heap.size 31 cs/\Blk wx w.heap.size 31 F/\Below w w wx/\wx.heap[D]? =some (.deferred (some [])))
  exact⟨0,F,Zu _,rfl,rfl,al,by simp[bys],O0.o,O1.o,O2.o,O3.o⟩;clear O0 O1 O2 O3;obtain⟨i,cs,hi,hk,rfl,aA,ao,av,af,E,hD⟩:=hrel
  by_cases aa:i<8
  ·have bw:=λX=>c1O (t:=313) c7W (a2d R).toArray i aa _ (b3E R i (ρy T.o aa)) X
   have aB:0<=R.getD i 0/\R.getD i 0<=4294967295:=bS.o _ (by simp[List.getD,show i<R.length by rw[T.o];exact aa]);have⟨x,b⟩:=η0 (R.getD i 0);rw[b]at bw aB;have⟨RV,bI⟩:=η0 ((a2d R).toArray)
   have bE:∀X:WD,(SLs 31 (.pointer (some ⟨W.heap.size,0,none⟩)) (some (.int .i64 (4*(i:Int)))) none none).run prog X=.ok (.slice (some ⟨W.heap.size,0+4*i,none⟩) (32-4*i) (32-4*i)) X:=
    λX=>c5W (P:=prog) (t:=31) b1w i5 X W.heap.size 0 (4*i) (4*(i:Int)) ρo ρo ρo
   simp only[QP]at bE;have bB:=aB.1;have b3:=aB.2;have g1:IntKind.i64.wrap (4*(i:Int))=4*(i:Int):=by rw[IntKind.wrap_i64];omega
   have g2:IntKind.u64.wrap x=x:=by rw[IntKind.wrap_u64];omega
   have⟨HX,aC,bz,aQ,aF,ax,V⟩:=η7 b aA ao av af E hD;clear b aA ao av af E hD aB bI RV;go_wp2_with fail
   go_region_held3 (λ_=>True) (trivial)
    (first
     | (go_at_call 171;refine(b3I x bB ρo 4 ρo _).mono ?_;rintro e w1 ⟨rfl,aq,E⟩;have ai:=(aQ.drew).fr (Q9 E) (by have:=aQ.lt;simp;omega);have bX:=c0H (P:=prog) (dT:=22) (sT:=22) (ty:=3) (elem:=5) Go.Proofs.YtpolljfkceanaaaGreatDoor.u22 i5 ai (o:=4*i) (dLen:=32-4*i) (dCap:=32-4*i) (a:=⟨wr.heap.size,0,none⟩) (sLen:=4) (sCap:=4) (bys (beN x 4)) (by rw[a0a,a1E];exact(QY ρo).symm) (λj v hv=>by rw[d1E,QP];exact(Blk.cell (g:=wr.heap.size) aq j).trans (ρw hv)) (by rw[a0a,a1E,aC.o];omega) (a0h _);have bM:=η1 E;have bu:=η1 ai;clear aq ai E))
   all_goals
    go_wp2_with fail;have bD:w.heap.size<W.heap.size:=by have:=ad.lt;have:=aX;omega
    have bG:D<wr.heap.size:=(QK.1 V).1
    have aZ:D≠W.heap.size:=λe=>by
     have h1:=V.o;rw[e,show wr.heap[W.heap.size]? =_ from aQ.o]at h1
     cases h1
    have E:=bM.o;go_roundg (8-(i+1))
    case measure=>omega
    refine⟨i+1,a1d cs (4*i) (bys (beN x 4)),by omega,rfl,by go_num,?_,?_,bu.row_ _,((aF.drew).fr (Q9 E) (by have:=aF.lt;simp;omega)).rowFar ρo _,Ql (ax.drew.trans (E.mono ax.size)) ρo _,?_⟩
    ·rw[a6n _ _ _ (by rw[a0a,a1E,aC.o];omega),aC.o]
    ·have e1:=b6m cs (4*i) (bys (beN x 4)) (by rw[aC.o];omega)
     rw[a0a,a1E]at e1;rw[show 4*(i+1)=4*i+4 by omega,e1,bz.o,Qe (ρy T.o aa),List.flatMap_append,a9b];have e2:R[i]'(ρy T.o aa)=x:=by rw[<-HX.o];simp[List.getD,show i<R.length by rw[T.o];exact aa]
     rw[e2]
     simp
    exact(setRow_other _ _ _ _ aZ).trans ((E.block D bG).trans V)
  obtain rfl:i=8:=ρo
  have hS:(R.take 8).flatMap (λy=>beN y 4)=a3x M:=by
   rw[Qb (ρh T.o),<-HR.o];unfold a3x;rw[aY.o,Nat.mul_div_cancel_left K ρo]
  rw[hS]at ao;have S:(bys (a3x M)).length=32:=by rw[a0a,a5Y]
  have bU:cs=(bys (a3x M)).toArray:=by
   apply ZM
   rw[<-ao,Qb (by simp[aA])]
  subst bU;have U:=Ph b1w rfl a5m av (off:=0) (bys (a3x M)) S (by simp[Qb,S]);have ag:=Pa (t:=31) a5m af (off:=0) (bys (a3x M)) S ρo (a0h _);rw[a0q _ _ (by rw[S,al])]at ag;have bD:w.heap.size<W.heap.size:=by have:=ad.lt;have:=aX;omega
  have aZ:D≠w.heap.size:=λe=>by
   have h1:=hD;rw[e,show wr.heap[w.heap.size]? =_ from af]at h1
   cases h1
  have⟨aF,ax,V,bg⟩:=η4 af E hD S;clear av af E hD hS ao aA S;go_wp2_with fail;have a0:(wr.setRow w.heap.size (bys (a3x M)).toArray).heap[D]? =some (.deferred (some [])):=(setRow_other _ _ _ _ aZ).trans V;refine⟨by simp,.inl ⟨_,_,rfl,run_takeDeferred a0,?_⟩⟩;refine⟨_,a0c rfl _ _ w.heap.size 31 (bys (a3x M)) _ rfl ((aF.row_ _).putObj a0 rfl _) b1w rfl (ρy bg.o a5m),?_,?_⟩
  ·rw[HM.o]
  exact(Ql ax.o (Qg _) _).trans (belowK_b (w:=w) (Qg _) _ D _ _ (by have:=bT.o;have:=aX;have:=ad.lt;omega) a0 rfl rfl)
 case stop=>
  rintro D c ab W _ _ hF _;exact hF.elim
end
section
theorem c6o(xs:AV)(t:TI):Builtin.append_ #[23,23] t xs=APs #[23,23] t xs:=rfl
attribute [local go_sem ↓] a2t a2s a2n c6o a3w
theorem d2Y(n:Nat):beN (n:Int) 4=a6s n:=by
 simp only[beN,a6s,List.range,List.range.loop,List.map];simp only[IntKind.wrap_u8',Nat.reduceSub,Nat.reduceMul,Nat.sub_zero];refine List.cons_eq_cons.2 ⟨?_,List.cons_eq_cons.2 ⟨?_,List.cons_eq_cons.2 ⟨?_,List.cons_eq_cons.2 ⟨?_,rfl⟩⟩⟩⟩
 all_goals omega
theorem b3X{base:Nat}(h:w.ownsRow base e 1 v n xs)(a:0<n):∃g cap,v=.slice (some ⟨g,0,none⟩) n cap/\base<=g/\g<w.heap.size/\∀j x,xs[j]? =some x->w.cell? ⟨g,0+j,none⟩=some x:=by
 have d:=h;obtain⟨z,⟨y,B⟩ | ⟨g,cap,b,rfl,m,f,r,p,D,ht⟩⟩:=h
 ·omega
 refine⟨g,cap,rfl,m,(QK.1 f).1,λj x o=>?_⟩
 have:=World.ownsRow.cells d rfl j x o
 rw[d1E]at this;exact this
theorem a8z(a:Int)(r:0<=a/\a<=255)(g o c:Nat)(d:OA)(j:Nat)(B:d=none->j=0)(f:LI)(w:WD)(D:g<w.heap.size)(b:w.cell? ⟨g,o,none⟩=some (.slice d f.length j))(E:Byt w d f)(y:f.length<=400000000)(F:a2x w):Calls prog 105 #[.int .u8 a,.slice (some ⟨g,o,none⟩) 1 c] w λe w'=>e=.returned (.agg (bys (a3x (a::(a6s f.length++f)))).toArray)/\Below w w w':=by
 obtain⟨z,ag,ae⟩:=Q8.1 b9C;have aa:=Pc (t:=31) z ag w;have⟨H,N⟩:=η0 z.cells;have W:H.size=32:=by rw[<-N,<-QD,ae];rfl
 rw[N]at aa;clear N ag ae z;have b0:=((Qd w 31 H).alloc (.cells #[.int .u8 a] 5)).alloc (.cells #[.slice (w.heap.size+1:Nat) 1 1] 22);have b1:=(Qd (w.alloc (.cells H 31)) 5 #[.int .u8 a]).alloc (.cells #[.slice (w.heap.size+1:Nat) 1 1] 22);have b2:=Qd ((w.alloc (.cells H 31)).alloc (.cells #[.int .u8 a] 5)) 22 #[.slice (w.heap.size+1:Nat) 1 1];have B0:Below w w (((w.alloc (.cells H 31)).alloc (.cells #[.int .u8 a] 5)).alloc (.cells #[.slice (w.heap.size+1:Nat) 1 1] 22)):=((ρb w _).alloc ρp _).alloc (by simp;omega) _;simp only[Qi]at b1 b2
 generalize ad:((w.alloc (.cells H 31)).alloc (.cells #[.int .u8 a] 5)).alloc (.cells #[.slice (w.heap.size+1:Nat) 1 1] 22)=W0 at b0 b1 b2 B0
 have⟨ac,HF,HG,av,an,au,R,af⟩:=η8 r E F b0 b1 b2 B0 ad;clear r E F b0 b1 b2 B0 ad
 generalize hm:f.length=m at b y⊢
 have HM:=η1 hm;have aA:(0:Int)<=(m:Int):=ρo;clear hm;have T:W0.heap.size=w.heap.size+3:=by rw[<-af.o];simp
 have al:W0.cell? ⟨g,o,none⟩=some (.slice d m j):=(R.cell (p:=⟨g,o,none⟩) D).trans b;have Y:=η1 T;clear T;go_in;go_wp2_with fail;rw[af.o];clear aa
 go_loopw [5,13] (λv t wr=>(t=.int .i64 0/\v=.slice (w.heap.size+1+1:Nat) 1 1/\wr=W0)\/
   (t=.int .i64 1/\∃x1,wr.ownsRow (w.heap.size+2) 22 1 v 3 [.slice (w.heap.size+1:Nat) 1 1,x1,.slice d m j]/\TxV wr x1 (a6s m)/\Blk wr w.heap.size 31 H/\Blk wr (w.heap.size+1) 5 #[.int .u8 a]/\Below w w wr))
  (λ_ t _=>1-(intOf t).toNat)
 exact .inl ⟨rfl,rfl,rfl⟩
 rcases hrel with⟨rfl,rfl,rfl⟩ | ⟨rfl,x1,G,ah,K,Q,hB⟩
 ·go_wp2_with fail
  refine(b3I (m:Int) ρo ρo 4 ρo wr).mono ?_;rintro e W1 ⟨rfl,aj,I⟩;have h2:=φf au I
  have U:W1.ownsRow (w.heap.size+2) 22 1 (.slice (w.heap.size+1+1:Nat) 1 1) 1 [.slice (w.heap.size+1:Nat) 1 1]:=
   ⟨rfl,.inr ⟨w.heap.size+2,1,_,rfl,Qg _,h2,Qg _,by unfold maxLen;omega,rfl,rfl⟩⟩
  obtain⟨v',w',ax,G,O,_⟩:=d3c (ty:=23) U [.slice (some ⟨wr.heap.size,0,none⟩) 4 4,.slice d m j] (by intro u hu;simp at hu;rcases hu with rfl | rfl<;>rfl) ρp (ρi I.size Y.o);simp only[Qy,Qv,Nat.reduceAdd,QG,QF]at ax G;have K:=(φf av I).fr O (by simp[Value.ownBlock];omega);have Q:=(φf an I).fr O (by simp[Value.ownBlock]);have S:=aj.fr O (by have:=Y.o;simp[Value.ownBlock];omega);have ak:=R.trans ((I.mono R.size).trans (O.below (Qk R.size I.size) (by intro k hk;simp[Value.ownBlock];omega)));have⟨HO,H0,H1,HX,HB⟩:=η5 G K Q S ak;clear aj I h2 U G O K Q S ak;go_wp2;go_roundw
  case rel=>
   refine .inr ⟨by go_num,_,HO.o,⟨_,4,rfl,?_,by simp⟩,H0.o,H1.o,HB.o⟩;have e:=HX.o;rw[d2Y]at e;exact e.byt (a5q _)
  case measure=>simp[intOf]
 obtain⟨g3,Z,rfl,az,ai,ab⟩:=b3X G ρo
 have hT:b8s wr g3 [.slice (w.heap.size+1:Nat) 1 1,x1,.slice d m j] [[a],a6s m,f]:=⟨rfl,λ_=>⟨g3,0,rfl,ai,ab⟩,λi h1 h2=>by
  match i,h1 with
  | 0,_=>exact⟨_,1,rfl,Blk.byt (l:=[a]) Q (ρw ac.o),by simp⟩
  | 1,_=>exact ah
  | 2,_=>exact⟨d,j,by rw[<-HM.o];rfl,HF.below hB,B⟩⟩
 have⟨HT,ar,HB,ao⟩:=η4 hT K hB (HG.below hB);clear hT K Q hB ah G ab;go_wp2_with fail
 refine(b3k g3 Z _ _ wr HT.o ρp (by simp[a3V,HM.o];omega) (by
  intro x S;simp only[Zm,List.flatten_nil,ZC,Qq,Qn]at S
  rcases S with rfl | S | S
  ·exact ac
  ·exact a5q _ x S
  exact HF.bd x S) ao.o).mono ?_
 rintro e W5 ⟨rfl,V⟩;have X:=φf ar V;have hS:[[a],a6s m,f].flatten=a::(a6s m++f):=by simp
 rw[hS];have J:(bys (a3x (a::(a6s m++f)))).length=32:=by rw[a0a,a5Y]
 have aq:=Pa (t:=31) a5m X (off:=0) (bys (a3x (a::(a6s m++f)))) J ρo (a0h _);rw[a0q _ _ (by rw[J,W])]at aq;have⟨H5,ay,HL⟩:=η3 X V J;clear X V hS J;go_wp2;refine bodyPost_ret (a0c rfl _ _ w.heap.size 31 (bys (a3x (a::(a6s m++f)))) _ rfl (H5.row_ _) b1w rfl (ρy HL.o a5m)) rfl ?_;exact⟨rfl,Ql (HB.trans (ay.mono HB.size)) (Qg _) _⟩
theorem d1a{P:PG}(b:P.underlying t=some (.array n e))(d:(P.info? e).map (·.size)=some 1)(w:WD)(g h:Nat)(a:Int)(f:a=h)(j:h<=n)(m:0<n):(SLs t (.pointer g) none (some (.int .i64 a)) none).run P w=.ok (.slice g h n) w:=by
 subst f;obtain⟨i,p,hi⟩:=Q8.1 d;have o:¬n=0:=ρo;simp[SLs,Instr.sliceAt,Instr.sureAddr,Instr.sliceBounds,Instr.sliceBound,asIntOf,run_underlying b,sizeOf,typeInfo,p,j,Addr.add]
end
end
section
theorem b2g(q:Addr)(w:WD):CallsD prog 113 #[.pointer (some q)] .returning w λe u' w'=>e=.returned (.tuple #[])/\u'=.returning/\w'=w:=by
 have a:∀W:WD,(binOp .eql 20 .nilIface .nilIface).run prog W=.ok (.bool true) W:=λW=>by kernel_rfl
 refine callsD_of_wpS func113 rfl λb cs d=>?_
 apply wpS_seq
 apply wpS_region
 simp[wpOpsS,go_sem,recoverD,d,ntmps113,Exit.thenS]
 apply wpS_seq
 apply wpS_seq
 apply wpS_region
 simp[wpOpsS,go_sem,Exit.thenS,a];refine wpS_cond (t:=true) (by simp[Act.eval,Array.replicate]) ?_;simp only[if_true];refine wpS_of_wp (wp_ret ?_)
 cases b
 simp_all [bodyPostS,results,Tryz.results113,Exit.thenS]
section
def TAs(v:VL)(x t:TI)(ok:Bool):Sem VL:=Instr.typeAssert v x t ok
theorem c6w(v:VL)(x t:TI)(ok:Bool):Instr.typeAssert v x t ok=TAs v x t ok:=rfl
theorem c2y(x:Int)(W:WD):(TAs (a1T x) 20 216 true).run prog W=.ok (.tuple #[.agg #[.int .i64 x],.bool true]) W:=by rfl
attribute [local go_sem ↓] c6w
abbrev c5z:=ldOf 216
abbrev c4e:=stOf 216
abbrev c5i:=alOf 216
attribute [local go_sem ↓] c5z c4e c5i
theorem d3t:(prog.info? 216).map (·.size)=some 1:=ρk
theorem d3L:(prog.info? 216).bind (·.zero)=some (.agg #[.int .i64 0]):=ρk
theorem b4W(q:Nat)(x y:Int)(w:WD)(a:Blk w q 29 #[.int .i64 y]):CallsD prog 113 #[.pointer q] (.panicking [{v:=a1T x,recovered:=false}]) w λe u' w'=>e=.returned (.tuple #[])/\u'=.panicking [{v:=a1T x,recovered:=true}]/\Blk w' q 29 #[.int .i64 x]/\Fr (λk=>k=q) w w':=by
 have m:∀W:WD,(binOp .eql 20 (a1T x) .nilIface).run prog W=.ok (.bool false) W:=λW=>by rfl
 have d:∀W:WD,(eqGuard .eql 20 (Operand.tmp 5) (Operand.const Value.nilIface) (a1T x) .nilIface).run prog W=.ok () W:=λW=>by rfl
 have k:(w.alloc (.cells #[.int .i64 x] 216)).cell? ⟨q,0,none⟩=some (.int .i64 y):=(a.alloc _).cell 0;have f:=(a.alloc (.cells #[.int .i64 x] 216)).frozen 0;have D:=η1 a;clear a;have j:=c2y x;have E:∀W:WD,(ALs 216).run prog W=.ok (.pointer (some ⟨W.heap.size,0,none⟩)) (W.alloc (.cells #[.int .i64 0] 216)):=λW=>a0U _ d3L W
 have z:∀W:WD,(STs 216 (.pointer (some ⟨W.heap.size,0,none⟩)) (.agg #[.int .i64 x])).run prog (W.alloc (.cells #[.int .i64 0] 216))=.ok () (W.alloc (.cells #[.int .i64 x] 216)):=λW=>
  a7S d3t W #[.int .i64 0] rfl [.int .i64 x] rfl (by intro v r;simp at r;subst r;rfl)
 generalize o:a1T x=bv at m d j⊢
 clear o;refine callsD_of_wpS func113 rfl λB cs F=>?_
 apply wpS_seq
 apply wpS_region
 simp[wpOpsS,go_sem,recoverD,F,ntmps113,Exit.thenS]
 apply wpS_seq
 apply wpS_seq
 apply wpS_region
 simp[wpOpsS,go_sem,Exit.thenS,m,d];refine wpS_cond (t:=false) (by simp[Act.eval,Array.replicate]) ?_;simp only[QI,if_false];refine wpS_of_wp (wp_skip ?_);refine wpS_of_wp ?_;simp only[QW,QX,Ze,QZ,QF,QG,Yd,List.set_cons_zero,List.set_cons_succ];clear m d;go_wp2_with fail
 cases B
 have b:Blk ((w.alloc (.cells #[.int .i64 x] 216)).setCell ⟨q,0,none⟩ (.int .i64 x)) q 29 #[.int .i64 x]:=by simpa using(D.alloc (.cells #[.int .i64 x] 216)).set_ 0 (.int .i64 x)
 have g:Fr (λk=>k=q) w ((w.alloc (.cells #[.int .i64 x] 216)).setCell ⟨q,0,none⟩ (.int .i64 x)):=((Qp (λk=>k=q) w).alloc _).setCell (p:=⟨q,0,none⟩) (λ_=>rfl) _
 first
  | exact⟨rfl,_,rfl,_,results_none rfl _ _ _,rfl,rfl,b,g⟩
  | exact⟨trivial,_,rfl,_,results_none rfl _ _ _,rfl,rfl,b,g⟩
end
end
section
theorem c0e(a b:Int):bits .or .u32 a b=bits .or .u32 b a:=by
 simp only[bits,BitVec.or_comm]
theorem d0P{e:Int}(h:0<=e/\e<=4294967295):bits .xor .u32 IntKind.u32.max e=4294967295-e:=by
 obtain⟨n,rfl⟩:=Int.eq_ofNat_of_zero_le h.1;have a:IntKind.u32.max=((4294967295:Nat):Int):=by decide
 have key:((BitVec.ofNat 32 4294967295) ^^^ (BitVec.ofNat 32 n)).toNat=4294967295-n:=by
  have b:BitVec.ofNat 32 4294967295=BitVec.allOnes 32:=by decide
  rw[b,BitVec.allOnes_xor,BitVec.toNat_not,BitVec.toNat_ofNat,Nat.mod_eq_of_lt ρo]
 have d:bits .xor .u32 ((4294967295:Nat):Int) ((n:Nat):Int)=IntKind.u32.wrap (((BitVec.ofNat 32 4294967295) ^^^ (BitVec.ofNat 32 n)).toNat:Int):=by
  simp only[bits,Yj]
  rfl
 rw[a,d,key,IntKind.wrap_u32];omega
def W32(l:LI):Prop:=∀x∈l,0<=x/\x<=4294967295
theorem W32.getD{l:LI}(h:W32 l)(i:Nat):0<=l.getD i 0/\l.getD i 0<=4294967295:=by
 by_cases hi:i<l.length
 ·have e:l.getD i 0=l[i]:=by simp[List.getD,hi]
  rw[e];exact h _ (Qu hi)
 have e:l.getD i 0=0:=by simp[List.getD,hi]
 rw[e];omega
theorem c4P{v:LI}(h:W32 v)(k w:Int):W32 (a8v v k w):=by
 intro x b;have a:=λi=>h.getD i
 simp only[a8v,Qo,List.mem_nil_iff,or_false]at b
 rcases b with rfl | rfl | rfl | rfl | rfl | rfl | rfl | rfl
 ·omega
 ·exact a 0
 ·exact a 1
 ·exact a 2
 ·omega
 ·exact a 4
 ·exact a 5
 exact a 6
theorem b5k{h m:LI}(a:W32 h):∀k,W32 (a2z h m k)
 | 0=>by rw[a5j];exact a
 | k+1=>by rw[a5e];exact c4P (b5k a k) _ _
theorem c8q(h m:LI):W32 (a8Y h m):=by
 intro x a;obtain⟨i,_,rfl⟩:=Qs.1 a;omega
theorem d3A:W32 H0:=by
 intro x a;simp only[H0,Qo,List.mem_nil_iff,or_false]at a
 rcases a with rfl | rfl | rfl | rfl | rfl | rfl | rfl | rfl<;>omega
theorem c2C(m:LI):∀k,W32 (a6V m k)
 | 0=>by rw[a7t];exact d3A
 | k+1=>by rw[a7r];exact c8q _ _
def a5U(x:Int)(n:Nat):Int:=bits .or .u32 (x / 2 ^ n) (IntKind.u32.wrap (x*2 ^ (32-n)))
theorem c1z(x:Int)(n:Nat):a5U x n=a8P x n:=c0e _ _
theorem d0K{b d f o g j w:Int}(p:0<=a/\a<=4294967295):[IntKind.u32.wrap (IntKind.u32.wrap (IntKind.u32.wrap (IntKind.u32.wrap (IntKind.u32.wrap (m+x3P (a5U a 6) (a5U a 11) (a5U a 25))+bits .xor .u32 (bits .and .u32 a g) (bits .and .u32 (IntKind.u32.wrap (4294967295-a)) j))+k)+w)+IntKind.u32.wrap (x3P (a5U b 2) (a5U b 13) (a5U b 22)+x3P (bits .and .u32 b d) (bits .and .u32 b f) (bits .and .u32 d f))),b,d,f,IntKind.u32.wrap (o+IntKind.u32.wrap (IntKind.u32.wrap (IntKind.u32.wrap (IntKind.u32.wrap (m+x3P (a5U a 6) (a5U a 11) (a5U a 25))+bits .xor .u32 (bits .and .u32 a g) (bits .and .u32 (IntKind.u32.wrap (4294967295-a)) j))+k)+w)),a,g,j]=a8v [b,d,f,o,a,g,j,m] k w:=by
 have r:IntKind.u32.wrap (4294967295-a)=bits .xor .u32 IntKind.u32.max a:=by rw[d0P p,IntKind.wrap_u32];omega
 rw[r];unfold a8v tP uP;simp only[c1z,List.getD_cons_zero,List.getD_cons_succ,IntKind.wrap_u32]
 generalize x3P (a8P a 6) (a8P a 11) (a8P a 25)=s
 generalize bits .xor .u32 (bits .and .u32 a g) (bits .and .u32 (bits .xor .u32 IntKind.u32.max a) j)=c
 generalize x3P (a8P b 2) (a8P b 13) (a8P b 22)=t
 generalize x3P (bits .and .u32 b d) (bits .and .u32 b f) (bits .and .u32 d f)=u
 congr 1
 ·omega
 congr 4
 omega
theorem c5r(h R:LI)(j:Nat):(b1d h R j).set j ((h.getD j 0+R.getD j 0) % 4294967296)=b1d h R (j+1):=by
 apply ZE
 ·simp[a3v]
 intro i d b;simp only[List.getElem_set,b1d,QS,Yf]
 by_cases e:j=i
 ·subst e;simp
 rw[if_neg e]
 by_cases a:i<j
 ·rw[if_pos a,if_pos ρo]
 rw[if_neg a,if_neg ρo]
theorem c7L(h R:LI){j:Nat}(a:j<8):(b1d h R j).getD j 0=h.getD j 0:=by
 simp[b1d,List.getD,a]
def b6H(H:LI)(j:Nat):LI:=(List.range 32).map λi=>if i<j then IntKind.u8.wrap (H.getD (i / 4) 0 / 2 ^ (24-8*(i % 4)))else 0
theorem c1L(H:LI):b6H H 0=List.replicate 32 0:=by
 simp only[b6H,Nat.not_lt_zero,if_false]
 rfl
theorem b7e(H:LI)(j:Nat):(b6H H j).length=32:=by simp[b6H]
theorem c5o(H:LI)(j:Nat):(b6H H j).set j (IntKind.u8.wrap (H.getD (j / 4) 0 / 2 ^ (24-8*(j % 4))))=b6H H (j+1):=by
 apply ZE
 ·simp[b7e]
 intro i d b;simp only[List.getElem_set,b6H,QS,Yf]
 by_cases e:j=i
 ·subst e;simp
 rw[if_neg e]
 by_cases a:i<j
 ·rw[if_pos a,if_pos ρo]
 rw[if_neg a,if_neg ρo]
theorem c5s{H:LI}(h:H.length=8):b6H H 32=H.flatMap λw=>beN w 4:=by
 match H,h with
 | [a,b,c,d,e,f,g,i],_=>rfl
theorem c8k(b:LI):a3x b=(a6V (a6A b) ((a6A b).length / 64)).flatMap λw=>beN w 4:=by unfold a3x;rfl
theorem c7b{b d f o g j w:Int}(p:0<=a/\a<=4294967295):[IntKind.u32.wrap ((m+bits .xor .u32 (bits .xor .u32 (a5U a 6) (a5U a 11)) (a5U a 25)+bits .xor .u32 (bits .and .u32 a g) (bits .and .u32 ((4294967295-a) % 4294967296) j)+k+w) % 4294967296+ (bits .xor .u32 (bits .xor .u32 (a5U b 2) (a5U b 13)) (a5U b 22)+bits .xor .u32 (bits .xor .u32 (bits .and .u32 b d) (bits .and .u32 b f)) (bits .and .u32 d f)) % 4294967296),b,d,f,IntKind.u32.wrap (o+(m+bits .xor .u32 (bits .xor .u32 (a5U a 6) (a5U a 11)) (a5U a 25)+bits .xor .u32 (bits .and .u32 a g) (bits .and .u32 ((4294967295-a) % 4294967296) j)+k+w) % 4294967296),a,g,j]=a8v [b,d,f,o,a,g,j,m] k w:=by
 rw[<-d0K p];unfold x3P;simp only[IntKind.wrap_u32]
 generalize bits .xor .u32 (bits .xor .u32 (a5U a 6) (a5U a 11)) (a5U a 25)=s
 generalize bits .xor .u32 (bits .and .u32 a g) (bits .and .u32 ((4294967295-a) % 4294967296) j)=c
 generalize bits .xor .u32 (bits .xor .u32 (a5U b 2) (a5U b 13)) (a5U b 22)=t
 generalize bits .xor .u32 (bits .xor .u32 (bits .and .u32 b d) (bits .and .u32 b f)) (bits .and .u32 d f)=u
 congr 1
 ·omega
 congr 4
 omega
section
theorem b3y(x n:Int)(a:n=2\/n=6\/n=7\/n=11\/n=13\/n=17\/n=18\/n=19\/n=22\/n=25)(w:WD):Calls prog 225 #[.int .u32 x,.int .i64 n] w λe w'=>e=.returned (.int .u32 (a5U x n.toNat))/\∃k,w'=w.drewN k:=by
 rcases a with rfl | rfl | rfl | rfl | rfl | rfl | rfl | rfl | rfl | rfl
 all_goals
  go_in;go_wp2_with fail;go_quiet (fail);go_wp2;go_ret;exact⟨rfl,_,rfl⟩
theorem d3D:prog.underlying 283=some (.slice 312):=ρk
theorem d3w:(prog.info? 312).map (λi=>(i.zero.map (·.cells.size),i.size,i.bytes))=some (some 1,1,4):=ρk
theorem b0R(xs:AV)(t:TI):Builtin.append_ #[283,283] t xs=APs #[283,283] t xs:=rfl
theorem a3n(xs:AV)(t:TI):Builtin.append_ #[22,22] t xs=APs #[22,22] t xs:=rfl
theorem c2e(w:WD)(e:TI)(base:Nat)(a:base<=w.heap.size):(w.alloc (.cells #[] e)).ownsRow base e 1 (.slice w 0 0) 0 []:=
 ⟨by simp,.inr ⟨w.heap.size,0,#[],rfl,a,heap_alloc_new w _,Qg _,by simp,by simp,by simp⟩⟩
def a1X(B:Nat)(w:WD)(v:VL)(l:LI):Prop:=w.ownsRow B 312 1 v l.length (a2d l)
section
variable {B:Nat} {w w':WD} {v:VL} {l:LI}
theorem a1X.nil(B:Nat)(w:WD):a1X B w (.slice none 0 0) []:=World.ownsRow_nil _ _ _ _
theorem a1X.fr{F:Nat->Prop}(h:a1X B w v l)(a:Fr F w w')(b:∀k,v.ownBlock=some k->¬F k):a1X B w' v l:=b4T h a b
theorem a1X.below(h:a1X B w v l)(a:Below n₀ w w')(b:∀k,v.ownBlock=some k->k<n₀):a1X B w' v l:=h.fr (Q9 a) (λk hk f=>by have:=b k hk;omega)
theorem a1X.form(h:a1X B w v l):∃A c,v=.slice A l.length c:=a8a h
theorem a1X.lt(h:a1X B w v l){k:Nat}(a:v.ownBlock=some k):B<=k/\k<w.heap.size:=World.ownsRow.lt h k a
theorem a1X.cells(h:a1X B w v l)(a:0<l.length):∃g cap,v=.slice (some ⟨g,0,none⟩) l.length cap/\B<=g/\g<w.heap.size/\∀i,i<l.length->w.cell? ⟨g,i,none⟩=some (.int .u32 (l.getD i 0))/\w.frozen? ⟨g,i,none⟩=false:=by
 obtain⟨o,⟨_,p⟩ | ⟨g,cap,b,rfl,f,d,m,j,r,ht⟩⟩:=h
 ·omega
 refine⟨g,cap,rfl,f,(QK.1 d).1,λi hi=>⟨?_,frozen_of_row w g i b _ d⟩⟩;rw[cell_of_row w g i b _ (0,0) d];have e:(a2d l)[i]? =some (.int .u32 (l.getD i 0)):=by simp[a2d,List.getD,hi]
 rw[<-ht,Zj,if_pos ρo,Z9]at e;exact e
theorem a1X.put{g cap:Nat}(h:a1X B w (.slice g n cap) l)(i:Nat)(_hi:i<l.length)(x:Int):a1X B (w.setCell ⟨g,i,none⟩ (.int .u32 x)) (.slice g n cap) (l.set i x):=by
 refine⟨by simp[a1t],?_⟩
 rcases h.2 with⟨o,_⟩ | ⟨v,f,a,d,p,m,r,j,b,ht⟩
 ·cases o
 simp only[Value.slice.injEq,Option.some.injEq,Addr.mk.injEq,and_true]at d;obtain⟨rfl,rfl,rfl⟩:=d;refine .inr ⟨g,cap,a.setIfInBounds i (.int .u32 x),by simp,p,heap_setCell_same w g i a _ _ m,by simpa using r,j,by simpa using b,?_⟩;rw[Nat.mul_one]at ht⊢;rw[List.length_set,Zt,List.take_set,ht];simp[a2d,List.map_set]
theorem c9X(h:a1X B w v l){a:Addr}{m:LI}(d:∀j x,m[j]? =some x->w.cell? (a.add j)=some (.int .u32 x))(b:l.length+m.length<=1000000000)(f:B<=w.heap.size):∃v' w',(APs #[283,283] ty #[v,.slice (some a) m.length c]).run prog w=.ok v' w'/\a1X B w' v' (l++m)/\Fr (λk=>v.ownBlock=some k) w w'/\a7W w v v':=by
 obtain⟨v',w',y,p,z,r⟩:=Pj (ty:=ty) d3D d3w ρo h (a:=a) (m:=m.length) (c:=c) (a2d m) (by simp[a1t]) (λj u o=>by
  unfold a2d at o;rw[ZJ]at o;obtain⟨x,D,rfl⟩:=Q8.1 o;exact d j x D) (a6f m) (by unfold maxLen;omega) ρo f
 refine⟨v',w',y,?_,(Qp _ w).grown z (λk _ e=>e),?_⟩
 ·unfold a1X
  rw[show a2d (l++m)=a2d l++a2d m from by simp[a2d],Qa];exact p
 intro j g
 rcases r with e | e
 ·exact .inl (e ▸ g)
 right
 rw[e]at g
 injection g with g
 omega
theorem b2b(h:a1X B w v l)(x:Int)(b:l.length+1<=1000000000)(d:B<=w.heap.size)(k:Nat):∃v' w',(APs #[283,283] ty #[v,.slice w 1 1]).run prog ((w.alloc (.cells #[.int .u32 x] 312)).drewN k)=.ok v' w'/\a1X B w' v' (l++[x])/\Fr (λk=>v.ownBlock=some k) w w'/\a7W w v v':=by
 have F:Blk (w.alloc (.cells #[.int .u32 x] 312)) w.heap.size 312 #[.int .u32 x]:=Qd w _ _;have D:a1X B ((w.alloc (.cells #[.int .u32 x] 312)).drewN k) v l:=World.ownsRow.alloc h _
 obtain⟨v',w',z,p,E,r⟩:=c9X (ty:=ty) (m:=[x]) (c:=1) (a:=⟨w,0,none⟩) D (λj y o=>by
  have f:(⟨w,0,none⟩:Addr).add j=⟨w,j,none⟩:=by unfold Addr.add;split<;>simp_all
  rw[f,(F.drewN k).cell j];have g:j<[x].length:=(Qm.1 o).1;obtain rfl:j=0:=ρw g;simp at o;subst o
  rfl) (ρw b) (by simp[World.drewN];omega)
 refine⟨v',w',z,p,(((Qp _ w).alloc _).drewN k).trans E (λk _ e=>e),?_⟩;intro j g
 rcases r j g with e | e
 ·exact .inl e
 right;simp[World.drewN]at e;omega
theorem c6H(w:WD){a:Addr}{m:LI}(d:∀j x,m[j]? =some x->w.cell? (a.add j)=some (.int .u32 x))(f:0<m.length->a.block<w.heap.size)(b:m.length<=1000000000):∃v' w',(APs #[283,283] ty #[.slice w 0 0,.slice (some a) m.length c]).run prog (w.alloc (.cells #[] 312))=.ok v' w'/\a1X w w' v' m/\Below w w w':=by
 have v:a1X w (w.alloc (.cells #[] 312)) (.slice w 0 0) []:=c2e w _ _ (Qg _)
 obtain⟨v',w',r,p,y,D⟩:=c9X (ty:=ty) (a:=a) (m:=m) (c:=c) v (λj x o=>by
  have B:j<m.length:=(Qm.1 o).1;have g:(a.add j).block=a.block:=by unfold Addr.add;split<;>rfl
  have:=d j x o
  rw[<-this];exact(ρb w _).cell (by rw[g];exact f ρo)) (ρw b) ρp
 refine⟨v',w',r,by simpa using p,?_⟩
 exact(ρb w _).trans (y.below ρp (λk z e=>by
  simp[Value.ownBlock]at e;omega))
theorem c0x(w:WD)(l:LI)(a:B<=w.heap.size)(b:l.length<=1000000000):a1X B (w.alloc (.cells (a2d l).toArray 312)) (.slice w l.length l.length) l:=
 ⟨by simp[a1t],.inr ⟨w.heap.size,l.length,(a2d l).toArray,rfl,a,heap_alloc_new w _,Qg _,by unfold maxLen;omega,by simp[a1t],by simp[a1t,Qb]⟩⟩
end
end
theorem c5B(v:Int)(k:Nat):beN v (k+1)=beN (v / 256) k++[IntKind.u8.wrap v]:=by
 apply ZE
 ·simp[beN]
 intro i a b;simp only[a1E]at a;simp only[beN,QS,Yf,List.getElem_append,Qw,List.length_range]
 by_cases hi:i<k
 ·rw[dif_pos hi]
  congr 1
  rw[Int.ediv_ediv_of_nonneg ρd,show(256:Int)=2 ^ 8 from rfl,<-Int.pow_add]
  congr 2
  omega
 obtain rfl:i=k:=ρo;rw[dif_neg hi]
 simp
theorem c9M(n:Nat):beN (n:Int) (leP n).length=beP n:=by
 induction n using Nat.strongRecOn with
 |
  ind n a=>
  by_cases h:n=0
  ·subst h;simp[beP,a7p,beN]
  have e:beP n=beP (n / 256)++[((n % 256:Nat):Int)]:=by unfold beP;rw[a9p ρo];simp
  rw[e,a9p ρo,Qy,c5B,<-a (n / 256) ρo,IntKind.wrap_u8']
  congr 2
theorem c8x{b:LI}(a:∀x∈b,0<=x/\x<=255):∀x∈a6A b,0<=x/\x<=255:=by
 intro x d;simp only[a6A,Qq,Qo]at d
 rcases d with d | rfl | d | d
 ·exact a x d
 ·omega
 ·rw[Zf d];omega
 exact b7F _ _ x d
section
theorem b0h{B:Nat}(w:WD)(l:LI)(a:B<=w.heap.size)(b:l.length<=1000000000):a0N B (w.alloc (.cells (bys l).toArray 5)) (.slice w l.length l.length) l:=
 ⟨by simp[a0a],.inr ⟨w.heap.size,l.length,(bys l).toArray,rfl,a,heap_alloc_new w _,Qg _,by unfold maxLen;omega,by simp[a0a],by simp[a0a,Qb]⟩⟩
section
attribute [local go_sem ↓] a3n
theorem a3W(n:Nat)(a:n<18446744073709551616)(w:WD):Calls prog 74 #[.int .u64 n] w λe w'=>∃v,e=.returned v/\a0N w w' v (a0K n)/\Below w w w':=by
 have⟨K,I⟩:=η0 ((leP n).length);have X:K<=8:=I ▸ a8J a;have P:=η1 I;clear I;go_in;go_wp2_with fail;go_loop [3,4] (λk v=>∃(m j:Nat),k=.int .i64 j/\v=.int .u64 m/\m<=n/\(leP m).length+j=K) (λ_ v=>(intOf v).toNat);exact⟨n,0,rfl,rfl,Qg _,P.o⟩;obtain⟨m,j,rfl,rfl,hm,y⟩:=hrel
 by_cases Y:0<m
 ·have S:(0:Int)<(m:Int):=ρo
  rw[a9p Y,Qy]at y;have W:=η1 y;have V:j<=8:=ρo;clear y;go_wp2;go_round
  case rel=>exact⟨m / 256,j+1,by go_num,by go_num,by omega,by have:=W.o;omega⟩
  case measure=>simp[intOf];omega
 obtain rfl:m=0:=ρo;have Q:K=j:=by rw[a7p]at y;simpa using y.symm
 subst Q;have R:=b0h (B:=w.heap.size) w [(K:Int)] (Qg _) ρp;have F:=ρb w (.cells (bys [(K:Int)]).toArray 5);have⟨U,D⟩:=η2 R F;clear R F y;go_wp2_with fail;go_loopg [5,6] K (λk v t wr=>∃(i:Nat) (A:OA) (c:Nat),i+k=K/\((i<K/\t=.int .i64 ((K-1-i:Nat):Int))\/(i=K/\t=.int .i64 (-1)))/\v=.slice A (1+i) c/\a0N w wr v ((K:Int)::(beN (n:Int) K).take i)/\Below w w wr)
 ·refine⟨0,_,_,by omega,?_,rfl,U.o,D.o⟩
  rcases Zq K with h | h
  ·exact .inr ⟨h.symm,by go_num⟩
  exact .inl ⟨h,by go_num⟩
 clear U D;obtain⟨i,A,c,hi,ht,rfl,r,d⟩:=hrel;have f:((K:Int)::(beN (n:Int) K).take i).length=1+i:=by rw[Qy,Qx,a1E];omega
 have p:=η1 d
 rcases ht with⟨o,rfl⟩ | ⟨rfl,rfl⟩
 ·have z:(beN (n:Int) K).getD i 0=(n:Int) / 2 ^ (8*(K-1-i)) % 256:=by
   rw[b6d _ o,IntKind.wrap_u8']
  have G:(beN (n:Int) K).take (i+1)=(beN (n:Int) K).take i++[(n:Int) / 2 ^ (8*(K-1-i)) % 256]:=by
   rw[Qe (ρy a1E o),<-z];simp[List.getD,a1E,o]
  obtain⟨v',w',H,b,E,_⟩:=a3P (ty:=22) (x:=(n:Int) / 2 ^ (8*(K-1-i)) % 256) r ρo (by rw[f];omega) d.size;obtain⟨A6,c6,rfl⟩:=b.form;rw[Qa,f]at H b;rw[QG,<-G]at b;have⟨J,O,N⟩:=η3 r b E;clear r b E f d z G;go_wp2;go_roundg (K-(i+1))
  case measure=>omega
  refine⟨i+1,_,_,by omega,?_,rfl,O.o,p.trans (N.below p.size (λk hk e=>by have:=(J.lt e).1;omega))⟩
  by_cases Z:i+1=K
  ·exact .inr ⟨Z,by go_num⟩
  exact .inl ⟨by omega,by go_num⟩
 have g:(i:Int)::beN (n:Int) i=a0K n:=by
  have T:=c9M n;rw[P.o]at T;rw[T,a0K,P.o]
 rw[Qb (by rw[a1E];exact Qg _),g]at r;have HO:=η1 r;clear r f d g;go_wp2;go_ret;exact⟨_,rfl,HO.o,p.o⟩
theorem c2A(m:Nat):(bys (a6s m)).toArray=#[.int .u8 ((m:Int) / 16777216 % 256),.int .u8 ((m:Int) / 65536 % 256),.int .u8 ((m:Int) / 256 % 256),.int .u8 ((m:Int) % 256)]:=by
 simp[a6s,bys]
theorem b0z(A:OA)(c:Nat)(a:A=none->c=0)(b:LI)(w:WD)(d:Byt w A b)(f:b.length<=500000000):Calls prog 100 #[.slice A b.length c] w λe w'=>∃v,e=.returned v/\a0N w w' v (a6s b.length++b)/\Below w w w':=by
 have⟨m,r⟩:=η0 b.length;have y:=b0h (B:=w.heap.size) w (a6s m) (Qg _) (by simp[a3V]);have g:=ρb w (.cells (bys (a6s m)).toArray 5);obtain⟨G,E,x,p,j,_⟩:=c3v (ty:=22) (c:=c) y (d.below g) (by rw[a3V];omega) ρp a;have o:Below w w E:=g.trans (j.below ρp (λk F e=>by have:=(y.lt e).1;omega));rw[r,a3V,c2A]at x;rw[r];have⟨z,D⟩:=η2 p o;clear d r y g p j o;go_in;go_wp2;go_ret;exact⟨_,rfl,z.o,D.o⟩
end
end
end
section
section
open Go.ChangeShapes Go.WideShapes Go.ChangeAt Go.RowKit
theorem own:ownKnob prog.godebug=none:=ρk
theorem d0J:prog.globalNamed "seisin/sha.first" =some 0:=ρk
theorem c8j:prog.globalNamed "seisin/sha.rounds" =some 1:=ρk
theorem d0R:(prog.globals[0]?).map (·.type)=some 313:=ρk
theorem c8I:(prog.globals[1]?).map (·.type)=some 358:=ρk
theorem d0N:prog.underlying 313=some (.array 8 312):=ρk
theorem c7N:prog.underlying 358=some (.array 64 312):=ρk
theorem d3H:prog.underlying 312=some (.int .u32):=ρk
theorem d3p:prog.cellsOf 312=1:=ρk
def b3U:List (String×DataW Unit):=[("seisin/sha.first",Rows.laid_seisin_sha_first),("seisin/sha.rounds",Rows.laid_seisin_sha_rounds)]
def d0u(l:LI):List (DataW Unit):=l.map λx=>.lit (.int .u32 x)
theorem b8W:(Rows.laid_seisin_sha_first:DataW Unit)=.agg (d0u H0):=ρk
theorem b6F:(Rows.laid_seisin_sha_rounds:DataW Unit)=.agg (d0u K0):=ρk
theorem a8K{L:LI}{p:List MemPlace}{a:Bool}{base:Nat}{sp:TI×VL->Unit}{f:Nat->Bool} (ht:prog.underlying t=some (.array n 312)) (h:DataW.trod sp prog W base f a fuel t cs=some (.agg (d0u L),p)):∀i,i<n->cs[i]? =some (.int .u32 (L.getD i 0)):=by
 obtain⟨v,m,rfl,w,r,F,g⟩:=DataW.trod_array ht h;intro i hi;have d:=g i hi;rw[d3p,Nat.mul_one]at d;simp only[Prod.mk.injEq,DataW.agg.injEq]at w;have b:v[i]? =some v[i]:=QN ρo;rw[b]at d;obtain⟨k,D,z,_⟩:=DataW.trod_int d3H d
 have j:(d0u L)[i]? =some (.lit (.int .u32 k)):=by
  rw[w.1,ZJ,b,z]
  rfl
 unfold d0u at j;rw[ZJ]at j;obtain⟨y,B,o⟩:=Q8.1 j
 have E:y=k:=by
  injection o with o
  injection o
 subst E;have x:L.getD i 0=y:=by simp[List.getD,B]
 rw[x]
 have:((cs.drop i).take 1)[0]? =some (.int .u32 y):=by rw[D];rfl
 rw[Zj,if_pos ρo,ZY,ZH]at this;exact this
theorem glob_of_laid(h:laidMetH prog b3U W):a2x W:=by
 rw[MakeChecks.laidMetH_plain _ _ _ ρk]at h;obtain⟨z,⟨D,t0,r,y,G,q0,f,o,j,g,⟨F,t1,v,B,E,q1,a,m,b,d,_,_⟩,_⟩,_,_⟩:=h;obtain rfl:=Option.some.inj (d0J.symm.trans f);obtain rfl:=Option.some.inj (c8j.symm.trans a);obtain rfl:=Option.some.inj (d0R.symm.trans o);obtain rfl:=Option.some.inj (c8I.symm.trans m);rw[b8W]at g;rw[b6F]at d;have x:=a8K d0N g;have p:=a8K c7N d;refine⟨λi hi=>?_,λi hi=>?_,?_⟩
 ·have e:=World.var?_cell a b i
  rw[<-Z9,p i hi]at e;exact e
 ·have e:=World.var?_cell f j i
  rw[<-Z9,x i hi]at e;exact e
 have e:=World.var?_cell a b 0;rw[<-Z9,p 0 ρo]at e
 by_cases w:2<=W.heap.size
 ·exact w
 unfold World.cell? at e;rw[show W.heap[1]? =none from Array.getElem?_eq_none ρo]at e
 cases e
theorem door_met(os:Os)(args:AV):laidMetH prog b3U ((World.doorLaid prog 400 os).forCall (λ_ _=>0) ⟨#[],args,[]⟩).memory:=
 laidMetH_of_parts3 (fuel:=8) (laidMet_of_run' 8 ρk ρk) ρk ρk
end
section
open Go.ChangeShapes Go.WideShapes Go.ChangeAt Go.RowKit Go.Deep
theorem b3e:laidOutB prog=true:=ρk
theorem a7e(g off i:Nat):(⟨g,off,none⟩:Addr).add i=⟨g,off+i,none⟩:=by unfold Addr.add;split<;>simp_all
structure c5y(w:WD)(A:OA)(c:Nat)(l:LI):Prop where
 byt:Byt w A l
 nil_:A=none->c=0
section
variable {H:Type} {enc:TI×VL->H} {w:WD} {base:Nat} {spare:Nat->Bool} {held:Bool}
theorem a9s{x:DataW H×List MemPlace}(h:DataW.trod enc prog w base spare held fuel 22 cs=some x):∃A l c,cs=[.slice A l.length c]/\c5y w A c l/\l.length<=maxLen:=by
 rcases open_ints Tryz.underlying22 Tryz.underlying5 ρk h with⟨rfl,_⟩ | ⟨a,len,cap,o,rfl,_,E,F,y,_,r,z⟩
 ·exact⟨none,[],0,rfl,⟨Byt.nil _ _,λ_=>rfl⟩,by simp⟩
 have v:len<=o.length:=by rw[y];split<;>omega
 have g:(o.take len).length=len:=by simp;omega
 refine⟨some a,o.take len,cap,by rw[g],⟨⟨λD=>?_,λx f=>bounds_u8 (z x (QM f))⟩,λe=>by cases e⟩,by rw[g];omega⟩;have p:=r 0 ρo;obtain⟨b,off,m⟩:=a;have B:m=none:=by simpa[Addr.add]using World.cell?_spot p
 subst B;rw[a7e]at p;refine⟨b,off,rfl,block_lt_of_cell p,λj x f=>?_⟩;rw[Zj]at f
 split at f
 ·have d:j<o.length:=ρo
  have:=r j d
  rw[a7e]at this;rw[this];rw[QN d]at f;simp[List.getD,QN d,Option.some.inj f]
 cases f
def Txs(w:WD)(A:OA)(l:LL):Prop:=∀i,(h:i<l.length)->∃g off,A=some ⟨g,off,none⟩/\g<w.heap.size/\∃A' c',w.cell? ⟨g,off+i,none⟩=some (.slice A' l[i].length c')/\c5y w A' c' l[i]/\l[i].length<=maxLen
theorem b2E{x:DataW H×List MemPlace}(h:DataW.trod enc prog w base spare held fuel 23 cs=some x):∃A l c,cs=[.slice A l.length c]/\Txs w A l/\l.length<=maxLen:=by
 rcases open_slice Tryz.underlying23 h with⟨rfl,_⟩ | ⟨a,len,cap,m,n,D,T,rfl,_,R,S,E,_,hi⟩
 ·exact⟨none,[],0,rfl,λi h=>absurd h ρp,by simp⟩
 have O:len<=m:=by rw[E];split<;>omega
 have I:prog.cellsOf 22=1:=ρk;obtain⟨b,off,d⟩:=a
 have g:0<len->d=none/\b<w.heap.size:=by
  intro F;obtain⟨G,v,ht⟩:=hi 0 ρo;rw[I]at v;obtain⟨_,Q,o⟩:=World.cells?_some v
  have:=o 0 ρo
  rw[QN ρo]at this;have P:d=none:=by simpa[Addr.add]using World.cell?_spot this
  subst P;refine⟨rfl,?_⟩;rw[a7e,a7e]at this;exact block_lt_of_cell this
 have r:∀i,∃l:LI,i<len->∃z y,w.cell? ⟨b,off+i,none⟩=some (.slice z l.length y)/\c5y w z y l/\l.length<=maxLen:=by
  intro i
  by_cases h:i<len
  ·obtain⟨rfl,p⟩:=g ρo
   obtain⟨G,v,ht⟩:=hi i ρo;rw[I,Nat.mul_one]at v;obtain⟨z,l,y,rfl,J,B⟩:=a9s ht;obtain⟨_,_,o⟩:=World.cells?_some v
   have:=o 0 ρo
   rw[a7e,a7e,ZH]at this;exact⟨l,λ_=>⟨z,y,by simpa using this,J,B⟩⟩
  exact⟨[],λK=>absurd K h⟩
 obtain⟨f,N⟩:=Classical.skolem.1 r;have j:((List.range len).map f).length=len:=by simp
 refine⟨some ⟨b,off,d⟩,(List.range len).map f,cap,by rw[j],λi F=>?_,by rw[j];omega⟩;rw[j]at F;obtain⟨rfl,p⟩:=g ρo;refine⟨b,off,rfl,p,?_⟩
 have:=N i F
 simpa using this
end
end
end
section
def a3m(mark:Int)(L:LL):LL:=[mark]::L.flatMap λl=>[a6s l.length,l]
theorem b6f(a:Int)(L:LL)(l:LI):a3m a (L++[l])=a3m a L++[a6s l.length]++[l]:=by simp[a3m]
def a1K(mark:Int)(L:LL):LI:=a3x (a3m mark L).flatten
theorem a5y(a:Int)(L:LL):(a1K a L).length=32:=a5Y _
theorem b0Z(a:Int)(L:LL):∀x∈a1K a L,0<=x/\x<=255:=c2U _
theorem b2f(a:Int):∀L:LL,(a3m a L).length=1+2*L.length
 | []=>rfl
 |
  l::L=>by
  have:=b2f a L
  simp only[a3m,Qy,List.flatMap_cons,Qa,Qv]at this⊢;omega
theorem b0D(a:Int):∀L:LL,(a3m a L).flatten.length=1+4*L.length+L.flatten.length
 | []=>rfl
 |
  l::L=>by
  have:=b0D a L
  simp only[a3m,Zm,Qa,Qy,List.flatMap_cons,QG,QF,a3V]at this⊢;omega
theorem c2L(b:0<=a/\a<=255)(d:∀l∈L,∀x∈l,0<=x/\x<=255):∀x∈(a3m a L).flatten,0<=x/\x<=255:=by
 intro x f;simp only[a3m,Zm,Qq,List.mem_flatten,List.mem_flatMap,Qo,Qt,or_false]at f
 rcases f with rfl | ⟨l,⟨j,g,rfl | rfl⟩,f⟩
 ·exact b
 ·exact a5q _ x f
 exact d _ g x f
structure TxE(n₀:Nat)(w:WD)(xs:LV)(L:LL):Prop where
 len:xs.length=L.length
 txt:∀i (h:i<xs.length) (h':i<L.length),TxV w xs[i] L[i]/\∀k,xs[i].ownBlock=some k->0<L[i].length->k<n₀\/∃cs,Blk w k 5 cs
theorem TxE.snoc(h:TxE n₀ w xs L)(a:TxV w x l)(b:∀k,x.ownBlock=some k->0<l.length->k<n₀\/∃cs,Blk w k 5 cs):TxE n₀ w (xs++[x]) (L++[l]):=by
 refine⟨by simp[h.len],λi hi g=>?_⟩
 by_cases f:i<xs.length
 ·have d:i<L.length:=by rw[<-h.len];exact f
  rw[ZK f,ZK d];exact h.txt i f d
 have e:i=xs.length:=by simp at hi;omega
 subst e;simp only[List.getElem_append_right (Qg _),Nat.sub_self,List.getElem_cons_zero];simp only[h.len,List.getElem_append_right (Qg _),Nat.sub_self,List.getElem_cons_zero];exact⟨a,b⟩
theorem TxE.fr{n₀:Nat}{w d:WD}{xs:LV}{L:LL}{F:Nat->Prop}(h:TxE n₀ w xs L)(f:Fr F w d)(g:∀k,k<n₀->¬F k)(j:∀k cs,F k->¬Blk w k 5 cs):TxE n₀ d xs L:=by
 refine⟨h.len,λi hi r=>?_⟩;obtain⟨a,b⟩:=h.txt i hi r
 have v:∀k,(xs[i]).ownBlock=some k->0<(L[i]).length->¬F k:=λk p m hF=>by
  rcases b k p m with o | ⟨cs,o⟩
  ·exact g k o hF
  exact j k cs hF o
 refine⟨?_,λk p m=>(b k p m).imp id (fun⟨cs,o⟩=>⟨cs,o.fr f (v k p m)⟩)⟩;obtain⟨A,c,e,x,z⟩:=a;exact⟨A,c,e,x.fr f (λB y m=>v _ (by rw[e,y];rfl) m),z⟩
theorem c7t(A:OA)(n c a b:Nat):(Value.slice A n c).ownBlock=(Value.slice A a b).ownBlock:=by cases A<;>rfl
theorem TxE.txs(h:TxE n₀ w xs L)(a:0<xs.length->∃g off,A=some ⟨g,off,none⟩/\g<w.heap.size/\∀j x,xs[j]? =some x->w.cell? ⟨g,off+j,none⟩=some x):b8s w A xs L:=
 ⟨h.len,a,λi h1 h2=>(h.txt i h1 h2).1⟩
section
attribute [local go_sem ↓] a2t a2s a2n c6o a3w
theorem b1c(b:Int)(f:0<=b/\b<=255)(A:OA)(c:Nat)(xs:LV)(L:LL)(w:WD)(j:b8s w A xs L)(o:∀i (h:i<xs.length) (h':i<L.length) k,xs[i].ownBlock=some k->0<L[i].length->k<w.heap.size)(y:L.length<=1000)(d:L.flatten.length<=400000000)(g:∀l∈L,∀x∈l,0<=x/\x<=255)(r:a2x w):Calls prog 105 #[.int .u8 b,.slice A L.length c] w λe w'=>e=.returned (.agg (bys (a1K b L)).toArray)/\Below w w w':=by
 obtain⟨z,aJ,aG⟩:=Q8.1 b9C;have au:=Pc (t:=31) z aJ w;have⟨E,O⟩:=η0 z.cells;have ah:E.size=32:=by rw[<-O,<-QD,aG];rfl
 rw[O]at au;clear O aJ aG z;have b0:=((Qd w 31 E).alloc (.cells #[.int .u8 b] 5)).alloc (.cells #[.slice (w.heap.size+1:Nat) 1 1] 22);have b1:=(Qd (w.alloc (.cells E 31)) 5 #[.int .u8 b]).alloc (.cells #[.slice (w.heap.size+1:Nat) 1 1] 22);have b2:=Qd ((w.alloc (.cells E 31)).alloc (.cells #[.int .u8 b] 5)) 22 #[.slice (w.heap.size+1:Nat) 1 1];have B0:Below w w (((w.alloc (.cells E 31)).alloc (.cells #[.int .u8 b] 5)).alloc (.cells #[.slice (w.heap.size+1:Nat) 1 1] 22)):=((ρb w _).alloc ρp _).alloc (by simp;omega) _;simp only[Qi]at b1 b2
 generalize ae:((w.alloc (.cells E 31)).alloc (.cells #[.int .u8 b] 5)).alloc (.cells #[.slice (w.heap.size+1:Nat) 1 1] 22)=W0 at b0 b1 b2 B0
 have Y:W0.heap.size=w.heap.size+3:=by rw[<-ae];simp
 have Q:W0.ownsRow (w.heap.size+1) 22 1 (.slice (w.heap.size+1+1:Nat) 1 1) 1 [.slice (w.heap.size+1:Nat) 1 1]:=
  ⟨rfl,.inr ⟨w.heap.size+1+1,1,_,rfl,by omega,b2,Qg _,by unfold maxLen;omega,rfl,rfl⟩⟩
 have ax:TxE w W0 [.slice (w.heap.size+1:Nat) 1 1] (a3m b (L.take 0)):=⟨rfl,λi h1 h2=>by
  obtain rfl:i=0:=ρw h1
  exact⟨⟨_,1,rfl,Blk.byt (l:=[b]) b1 (ρw f),by simp⟩,λk F _=>by
   simp[Value.ownBlock]at F;subst F;exact .inr ⟨_,b1⟩⟩⟩
 have⟨n,ab⟩:=η0 L.length;have⟨HT,HX,HG,a0,aP,X,a3,a7⟩:=η8 j o r f g d ae Y;have⟨H0,aZ,aM,aO,HN⟩:=η5 b0 B0 Q ax ab;rw[ab]at y⊢;clear j o r f g d ae Y b0 b1 b2 B0 Q ax ab;go_in;go_wp2_with fail;rw[a3.o];clear au;go_loopg [5,7,13] n (λkk v _ t wr=>∃(i:Nat) (A5:OA) (c5:Nat) (ys:LV),i+kk=n/\t=.int .i64 i/\v=.slice A5 (1+2*i) c5/\wr.ownsRow (w.heap.size+1) 22 1 v (1+2*i) ys/\TxE w wr ys (a3m b (L.take i))/\Blk wr w.heap.size 31 E/\Below w w wr);exact⟨0,_,_,_,by omega,rfl,rfl,aM.o,aO.o,H0.o,aZ.o⟩;obtain⟨i,A5,c5,ys,hi,rfl,rfl,I,hE,V,hB⟩:=hrel
 by_cases av:i<n
 ·have aL:(i:Int)<n:=ρo
  have al:i<xs.length:=by rw[HT.len,HN.o];exact av
  have U:i<L.length:=by rw[HN.o];exact av
  obtain⟨ga,oa,rfl,aT,ao⟩:=HT.cell ρo;obtain⟨Ai,ci,aE,Z,aH⟩:=HT.txt i al U;have W:=HX.o i al U;have ad:=ao i xs[i] (by simp[al]);rw[aE]at ad W;have aA:wr.cell? ⟨ga,oa+i,none⟩=some (.slice Ai (L[i]).length ci):=(hB.cell (p:=⟨ga,oa+i,none⟩) aT).trans ad
  have aI:(L[i]).length<=400000000:=by
   have h1:=X.o;have h2:(L[i]).length<=L.flatten.length:=List.Sublist.length_le (List.sublist_flatten_of_mem (Qu U));omega
  have aj:L.take (i+1)=L.take i++[L[i]]:=Qe U;have⟨l,hl⟩:=η0 (L[i]);rw[hl]at aA aI aj Z W;have⟨m,hm⟩:=η0 l.length;rw[hm]at aA aI;have⟨S,HE,T,HB,HY,aK,ai,aq⟩:=η8 I hE V hB Z aH W aj;have HM:=η1 hm;clear I hE V hB Z aH W aj hm hl aE ad ao;have af:=b3I (m:Int) ρo ρo 4 ρo wr;rw[show((4:Nat):Int)=4 from rfl]at af;go_wp2_with fail;refine μ1 af ?_;rintro e W1 ⟨rfl,an,G⟩;have D:=b4T S.o (Q9 G) (λk F h=>by have:=(World.ownsRow.lt S.o k F).2;omega);have aN:=G.size;have aC:=HB.size;have aX:w.heap.size<wr.heap.size:=T.lt;obtain⟨v',w',a1,B,K,_⟩:=d3c (ty:=23) D [.slice (some ⟨wr.heap.size,0,none⟩) 4 4,.slice Ai m ci] (by intro u hu;simp at hu;rcases hu with rfl | rfl<;>rfl) (by simp;omega) ρo;simp only[Qy,Qv,Nat.reduceAdd]at a1 B;obtain⟨A6,c6,rfl⟩:=a8a B
  have hF:∀k cs,(Value.slice A5 (1+2*i) c5).ownBlock=some k->¬Blk W1 k 5 cs:=λk cs F hb=>by
   obtain⟨a6,aV,_⟩:=a2B D F;exact absurd (hb.inj aV).1 ρd
  have N:∀k,k<w.heap.size+1->¬(Value.slice A5 (1+2*i) c5).ownBlock=some k:=λk F e=>by have:=(World.ownsRow.lt D k e).1;omega
  have az:=HE.fr (Q9 G) (λk F h=>ρo) (λk cs h hb=>by have:=hb.lt;omega);have aD:=az.fr K (λk F=>N k ρo) hF;have H:=an.fr K (hF _ _ · an)
  have ay:Byt w' Ai l:=(HY.below HB.o).below G |>.fr K (λa ha h0 e=>by
   have:=ai.o a.block (by rw[ha];rfl) (by rw[HM.o]at h0⊢;exact h0)
   exact N _ ρo e)
  have aa:=(aD.snoc (x:=.slice (some ⟨wr.heap.size,0,none⟩) 4 4) (l:=a6s m) ⟨_,4,rfl,by rw[d2Y]at H;exact H.byt (a5q _),by simp⟩ (λk F _=>by
   simp[Value.ownBlock]at F;subst F;exact .inr ⟨_,H⟩)).snoc (x:=.slice Ai m ci) (l:=l) ⟨Ai,ci,by rw[HM.o],ay,aK.o⟩ (λk F h0=>.inl (ai.o k ((c7t Ai _ _ _ _).trans F) h0))
  have hU:a3m b (L.take (i+1))=a3m b (L.take i)++[a6s m]++[l]:=by rw[aq.o,b6f,HM.o]
  rw[<-hU]at aa;have ar:=(T.fr (Q9 G) ρo).fr K (N _ ρo);have aB:=HB.trans ((G.mono aC).trans (K.below ρo (λk F=>N k ρo)));have⟨a2,aS,aY,aU⟩:=η4 aa B ar aB;clear af an G D K hF N az aD H ay aa hU ar aB B S HE T HY aK ai aq HM aN aC aX;go_wp2;go_roundg (n-(i+1));exact⟨i+1,A6,c6,_,by omega,by go_num,rfl,aS.o,by simpa using a2.o,aY.o,aU.o⟩;omega
 obtain rfl:i=n:=ρo;have aL:¬(i:Int)<i:=ρo;rw[Qb (by rw[HN.o];exact Qg _)]at hE;have ac:=b2f b L;rw[HN.o]at ac
 have aF:=hE.txs (A:=A5) (λh0=>by
  obtain⟨g3,a5,e,_,aR,aW⟩:=b3X I ρo;simp only[Value.slice.injEq]at e;exact⟨g3,0,e.1,aR,aW⟩)
 have R:=b3k A5 c5 ys (a3m b L) wr aF ρo (by rw[b0D,HN.o];have:=X.o;omega) (c2L a0.o aP.o) (HG.below hB);rw[ac]at R;have⟨HB,T⟩:=η2 hB V;clear aF hE I ac hB V;go_wp2_with fail;refine μi R ?_;intro W5 ag;have ak:=φf T ag;have J:(bys (a1K b L)).length=32:=by rw[a0a,a5y]
 have aQ:=Pa (t:=31) a5m ak (off:=0) (bys (a1K b L)) J ρo (a0h _);rw[a0q _ _ (by rw[J,ah])]at aQ;rw[show a3x (a3m b L).flatten=a1K b L from rfl];have⟨H5,a4,HL⟩:=η3 ak ag J;clear ak ag J R;go_wp2;refine bodyPost_ret (a0c rfl _ _ w.heap.size 31 (bys (a1K b L)) _ rfl (H5.row_ _) b1w rfl (ρy HL.o a5m)) rfl ?_;exact⟨rfl,Ql (HB.trans (a4.mono HB.size)) (Qg _) _⟩
end
end
section
section
attribute [local go_sem ↓] b3z
theorem b7A(B p:Nat)(v:VL)(l:LI)(A:OA)(c:Nat)(d:A=none->c=0)(b:LI)(w:WD)(h:a3Z B w p v l)(f:Byt w A b)(g:∀a,A=some a->0<b.length->¬(a.block=p\/v.ownBlock=some a.block))(x:l.length+b.length<=140737488355000)(r:l.length<=400000000)(o:B<=w.heap.size):Calls prog 52 #[.pointer p,.slice A b.length c] w λe w'=>e=.returned (.tuple #[])/\(∃v',a3Z B w' p v' (l++(a0K b.length++b))/\a7W w v v')/\Fr (λk=>k=p\/v.ownBlock=some k) w w':=by
 generalize hm:b.length=m
 have ae:m<=140737488355000:=ρo;have⟨H,HB,HM,HA⟩:=η4 h f hm g;clear h f g hm;go_in;go_wp2_with fail;refine(a2M B p v l m ρo w H.o ρo o).mono ?_;rintro e w1 ⟨rfl,⟨v1,J,E⟩,D⟩;have U:=HB.fr D (λa e h0=>HA.o a e (by rw[HM.o]at h0⊢;exact h0))
 have ag:(a0K m).length<=9:=by
  have:=a8J (n:=m) ρo
  rw[b7k];omega
 obtain⟨v2,w2,K,P,N,I⟩:=c3v (ty:=22) (c:=c) J.own U (by rw[Qa];have:=HM.o;omega) (Qk o D.size) d;obtain⟨Q,X,rfl⟩:=J.own.form;obtain⟨T,Y,rfl⟩:=P.form;rw[HM.o]at K;have R:=a2D J.own J.st ρd;have y:=J.st.fr N (λe=>R e);have⟨W,z⟩:=η0 ((l++a0K m).length);have⟨V,O⟩:=η0 ((l++a0K m++b).length);have k1:w1.cell? ⟨p,0,none⟩=some (.slice Q W X):=by rw[<-z];exact J.st.cell 0
 have k2:w2.cell? ⟨p,0,none⟩=some (.slice Q W X):=by rw[<-z];exact y.cell 0
 have f2:=y.frozen 0;have ad:(APs #[22,22] 22 #[.slice Q W X,.slice A m c]).run prog w1=.ok (.slice T V Y) w2:=by rw[<-z,<-O];exact K
 have⟨H1,O2,F1,F2,S,ab,S2,af⟩:=η8 J P D N E I y z;have aa:=η1 O;clear J P D N E I y U K R z O;go_wp2;go_end0;have ac:=a2D O2.o S2.o ρd;refine⟨rfl,⟨.slice T V Y,⟨by simpa using S2.set_ 0 (.slice T V Y),H.b1,?_⟩,?_⟩,?_⟩
 ·have e:=O2.fr (F:=λj=>j=p) ((Qp (λj=>j=p) w2).setCell (p:=⟨p,0,none⟩) (λ_=>rfl) (.slice T V Y)) (λj Z e=>ac (e ▸ Z))
  rw[aa.o,QC]at e;exact e
 ·intro j Z
  rcases ab.o j ((b0K T _ _ _ _).trans Z)with h | h
  ·exact S.o j h
  exact .inr (Qk F1.size h)
 refine(F1.trans (F2.mono (G:=λj=>j=p\/(Value.slice Q W X).ownBlock=some j) (λj _ h=>.inr ((b0K Q _ _ _ _).trans h))) (λj Z h=>?_)).setCell (p:=⟨p,0,none⟩) (λ_=>.inl rfl) _
 rcases h with h | h
 ·exact .inl h
 rcases S.o j ((b0K Q _ _ _ _).trans h)with h | h
 ·exact .inr h
 omega
theorem a4A(B p:Nat)(v:VL)(l:LI)(a:∀x∈l,0<=x/\x<=255)(w:WD)(h:a3Z B w p v l)(b:l.length<=140737488355328):Calls prog 56 #[.pointer p] w λe w'=>∃v',e=.returned v'/\a0N w w' v' l/\Below w w w':=by
 obtain⟨y,z,m,j,_,O⟩:=h.own.byt a
 have r:y=none->z=0:=by
  rintro rfl;obtain⟨_,⟨f,_⟩ | ⟨g,cap,J,f,_⟩⟩:=h.own
  ·rw[m]at f
   simp only[Value.slice.injEq]at f;exact f.2.2
  rw[m]at f;simp at f
 have o:=h.st.cell 0;rw[m]at o;have D:w.cell? ⟨p,0,none⟩=some (.slice y l.length z):=o;have⟨n,E⟩:=η0 l.length;have G:=η1 (a8r y z r l w j b);rw[E]at D;have N:=η1 E;clear o m j h E;go_in;go_wp2_with fail;have d:=G.o;rw[N.o]at d;refine d.mono ?_;rintro e w' ⟨v',rfl,H,F⟩;have⟨K,I⟩:=η2 H F;clear H F d G;go_wp2;go_ret;exact⟨v',rfl,K.o,I.o⟩
end
end
abbrev d2O:=ldOf 143
abbrev d2y:=stOf 143
abbrev d2h:=alOf 143
abbrev d2p:=bdOf 143
abbrev d1Y:=bdOf 107
structure d0q(w:WD)(A:OA)(A':OA)(c':Nat)(l:LI):Prop where
 byt:Byt w A' l
 blk:∀a,A'=some a->∃b,A=some b/\a.block=b.block
 cap:l.length<=c'
 nul:A'=none->c'=0
section
attribute [local go_sem ↓] a2t a2s a2n a3n b0R
def a2r(n:Nat):Code->Option Code
 | .region id ops d=>if id=n then some (.region id ops d)else none
 |
  .seq a b=>match a2r n a with
  | some c=>some c
  | none=>a2r n b
 | .block _ c=>a2r n c
 | .loop c=>a2r n c
 | .scope c=>a2r n c
 |
  .cond _ a b=>match a2r n a with
  | some c=>some c
  | none=>a2r n b
 | _=>none
def d3T:Nat->(LV->Prop)->Prop
 | 0,P=>P []
 | n+1,P=>∀c,d3T n λt=>P (c::t)
theorem d3U:∀{n:Nat} {P:LV->Prop},d3T n P->∀t:LV,t.length=n->P t
 | 0,_,h,[],_=>h
 | _+1,_,h,c::t,e=>d3U (h c) t (Nat.succ.inj e)
def d3V(t:LV)(i n:Nat)(m:LV):LV:=t.take i++(m++t.drop (i+n))
theorem c3A{Q:Exit->Act->WD->Prop}{y:VL}{z:LV}{I:Nat}{B:Int}(c:Code)(a:(Tryz.f168.body.bind (a2r 19)).getD .skip=c)(_hi:(i:Int)<64)(T:IntKind.i64.wrap ((i:Int)-15)=(I:Int))(_nI:I<i)(U:(I:Int)<i)(V:w.cell? ⟨D,I,none⟩=some (.int .u32 B)) (ht:z.length=300) (h:d3T 20 λm=>∀(q:Nat),Q .normal ⟨(E::F::G::H::J::K::N::O::P::R::b:: .slice D i S:: .int .i64 i:: .int .u32 (bits .xor .u32 (bits .xor .u32 (a5U B 7) (a5U B 18)) (B / 8))::d::f::g::j::o::p::r::v::x::y::d3V z 88 20 m).toArray,[]⟩ (w.drewN q)):Code.wp prog c Q ⟨(E::F::G::H::J::K::N::O::P::R::b:: .slice D i S:: .int .i64 i::c13::d::f::g::j::o::p::r::v::x::y::z).toArray,[]⟩ w:=by
 subst a
 revert z
 refine @(d3U ?_);dsimp only[d3T,d3V,List.take_succ_cons,List.take_zero,List.drop_succ_cons,List.drop_zero,List.cons_append,List.nil_append];intros
 rename_i h
 conv=>arg 2;whnf
 go_quiet ((go_at_call 225;refine Calls.quiet_of (b3y _ _ ?_ _);omega))
 all_goals
  go_wp2_with fail
  apply h
theorem c4F{Q:Exit->Act->WD->Prop}{I:Nat}{z:Int}(c:Code)(a:(Tryz.f168.body.bind (a2r 20)).getD .skip=c)(_hi:(i:Int)<64)(T:IntKind.i64.wrap ((i:Int)-2)=(I:Int))(_nI:I<i)(U:(I:Int)<i)(V:w.cell? ⟨D,I,none⟩=some (.int .u32 z)) (ht:y.length=300) (h:d3T 20 λm=>∀(q:Nat),Q .normal ⟨(E::F::G::H::J::K::N::O::P::R::b:: .slice D i S:: .int .i64 i::c13:: .int .u32 (bits .xor .u32 (bits .xor .u32 (a5U z 17) (a5U z 19)) (z / 1024))::d::f::g::j::o::p::r::v::x::d3V y 108 20 m).toArray,[]⟩ (w.drewN q)):Code.wp prog c Q ⟨(E::F::G::H::J::K::N::O::P::R::b:: .slice D i S:: .int .i64 i::c13::B::d::f::g::j::o::p::r::v::x::y).toArray,[]⟩ w:=by
 subst a
 revert y
 refine @(d3U ?_);dsimp only[d3T,d3V,List.take_succ_cons,List.take_zero,List.drop_succ_cons,List.drop_zero,List.cons_append,List.nil_append];intros
 rename_i h
 conv=>arg 2;whnf
 go_quiet ((go_at_call 225;refine Calls.quiet_of (b3y _ _ ?_ _);omega))
 all_goals
  go_wp2_with fail
  apply h
theorem c3S{Q:Exit->Act->WD->Prop}{y:VL}{B:LV}{a E T:Nat}{U:OA}{V:WD}{t X:Int}(c:Code)(b:(Tryz.f168.body.bind (a2r 21)).getD .skip=c)(_hi:(i:Int)<64)(Z:IntKind.i64.wrap ((i:Int)-16)=(a:Int))(q7:IntKind.i64.wrap ((i:Int)-7)=(E:Int))(_n16:a<i)(_n7:E<i)(aa:(a:Int)<i)(m7:(E:Int)<i)(ab:w.cell? ⟨D,a,none⟩=some (.int .u32 X))(l7:w.cell? ⟨D,E,none⟩=some (.int .u32 Y))(ac:(APs #[283,283] 283 #[.slice D i S,.slice w 1 1]).run prog (w.alloc (.cells #[.int .u32 (IntKind.u32.wrap (IntKind.u32.wrap (IntKind.u32.wrap (X+s)+Y)+t))] 312)).drew=.ok (.slice U (i+1) T) V) (ht:B.length=300) (h:d3T 18 λm=>Q .normal ⟨(F::G::H::I::J::K::N::O::P::R::d:: .slice U (i+1) T:: .int .i64 i:: .int .u32 s:: .int .u32 t::f::g::j::o::p::r::x::y::z::d3V B 128 18 m).toArray,[]⟩ V):Code.wp prog c Q ⟨(F::G::H::I::J::K::N::O::P::R::d:: .slice D i S:: .int .i64 i:: .int .u32 s:: .int .u32 t::f::g::j::o::p::r::x::y::z::B).toArray,[]⟩ w:=by
 subst b
 revert B
 refine @(d3U ?_);dsimp only[d3T,d3V,List.take_succ_cons,List.take_zero,List.drop_succ_cons,List.drop_zero,List.cons_append,List.nil_append];intros
 rename_i h
 conv=>arg 2;whnf
 refine b4g [3,3,3,3,3,0,3,3,3,3,3,3,0,3,3,3,2,2,3] (λW=>W=w.drew) ρk ρk ρk ρk ?_ ?_
 focus rfl
 refine εj5 ?_
 iterate 1 (with_reducible refine a1g (v:=?_) (a':=?_) ρu (λW' hS=>?_) ?_ ?_;rotate_left 2;(focus(subst hS;exact ρs));focus(exact ρs))
 refine εj5 ?_;refine εj1 ?_
 iterate 1 (with_reducible refine a1g (v:=?_) (a':=?_) ρu (λW' hS=>?_) ?_ ?_;rotate_left 2;(focus(subst hS;exact ρs));focus(exact ρs))
 refine εj2 ?_;refine εj1 ?_;with_reducible refine a3d ρu (λK0 hK=>?_)
 go_simp;with_reducible refine hK _ _ ?_;clear hK K0
 with_reducible refine a3d ρu (λK0 hK=>?_)
 go_simp;with_reducible refine hK _ _ ?_;clear hK K0
 refine εj1 ?_;with_reducible refine a6C ?_
 rw[noPan_normal]
 apply h
theorem c5g{Q:Exit->Act->WD->Prop}{S T U y D:VL}{E:LV}{d f M cm J V X a F G H Y:Nat}{Aw Z:OA}{w':WD}{x0 x1 x2 x3:Int}(c:Code)(b:(Tryz.f168.body.bind (a2r 18)).getD .skip=c)(_hi:(i:Int)<64)(q0:IntKind.i64.wrap (4*(i:Int))=(X:Int))(q1:IntKind.i64.wrap ((J:Int)+X)=(a:Int))(q2:IntKind.i64.wrap ((a:Int)+1)=(F:Int))(q3:IntKind.i64.wrap ((a:Int)+2)=(G:Int))(q4:IntKind.i64.wrap ((a:Int)+3)=(H:Int))(_b0:a<M)(i0:(a:Int)<M)(e0:w.cell? ⟨d,f+a,none⟩=some (.int .u8 x0))(_b1:F<M)(i1:(F:Int)<M)(e1:w.cell? ⟨d,f+F,none⟩=some (.int .u8 x1))(_b2:G<M)(i2:(G:Int)<M)(e2:w.cell? ⟨d,f+G,none⟩=some (.int .u8 x2))(_b3:H<M)(i3:(H:Int)<M)(e3:w.cell? ⟨d,f+H,none⟩=some (.int .u8 x3))(aa:(APs #[283,283] 283 #[.slice Aw i V,.slice w 1 1]).run prog (w.alloc (.cells #[.int .u32 (bits .or .u32 (bits .or .u32 (bits .or .u32 (IntKind.u32.wrap (IntKind.u32.wrap x0*16777216)) (IntKind.u32.wrap (IntKind.u32.wrap x1*65536))) (IntKind.u32.wrap (IntKind.u32.wrap x2*256))) (IntKind.u32.wrap x3))] 312)).drew=.ok (.slice Z (i+1) Y) w') (ht:E.length=300) (h:d3T 44 λm=>Q .normal ⟨(I::K::N::O::P::R::S:: .slice (some ⟨d,f,none⟩) M cm::T::U:: .int .i64 J:: .slice Z (i+1) Y:: .int .i64 i::c13::g::j::o::p::r::x::y::z::B::D::d3V E 44 44 m).toArray,[]⟩ w'):Code.wp prog c Q ⟨(I::K::N::O::P::R::S:: .slice (some ⟨d,f,none⟩) M cm::T::U:: .int .i64 J:: .slice Aw i V:: .int .i64 i::c13::g::j::o::p::r::x::y::z::B::D::E).toArray,[]⟩ w:=by
 subst b
 revert E
 refine @(d3U ?_);dsimp only[d3T,d3V,List.take_succ_cons,List.take_zero,List.drop_succ_cons,List.drop_zero,List.cons_append,List.nil_append];intros
 rename_i h
 conv=>arg 2;whnf
 refine b4g [3,3,3,3,3,3,3,0,3,3,3,3,3,3,3,3,3,0,3,3,3,3,3,3,3,3,3,3,0,3,3,3,3,3,3,3,3,3,3,0,3,3,2,2,3] (λW=>W=w.drew) ρk ρk ρk ρk ?_ ?_
 focus rfl
 refine εj5 ?_;refine εj2 ?_
 iterate 1 (with_reducible refine a1g (v:=?_) (a':=?_) ρu (λW' hS=>?_) ?_ ?_;rotate_left 2;(focus(subst hS;exact ρs));focus(exact ρs))
 refine εj5 ?_;refine εj2 ?_;refine εj2 ?_
 iterate 1 (with_reducible refine a1g (v:=?_) (a':=?_) ρu (λW' hS=>?_) ?_ ?_;rotate_left 2;(focus(subst hS;exact ρs));focus(exact ρs))
 refine εj5 ?_;refine εj5 ?_
 iterate 1 (with_reducible refine a1g (v:=?_) (a':=?_) ρu (λW' hS=>?_) ?_ ?_;rotate_left 2;(focus(subst hS;exact ρs));focus(exact ρs))
 refine εj5 ?_;refine εj5 ?_
 iterate 1 (with_reducible refine a1g (v:=?_) (a':=?_) ρu (λW' hS=>?_) ?_ ?_;rotate_left 2;(focus(subst hS;exact ρs));focus(exact ρs))
 refine εj2 ?_;with_reducible refine a3d ρu (λK0 hK=>?_)
 go_simp;with_reducible refine hK _ _ ?_;clear hK K0
 with_reducible refine a3d ρu (λK0 hK=>?_)
 go_simp;with_reducible refine hK _ _ ?_;clear hK K0
 refine εj1 ?_;with_reducible refine a6C ?_
 rw[noPan_normal]
 apply h
theorem c4y{Q:Exit->Act->WD->Prop}{R:Nat}{z:Int}(c:Code)(a:(Tryz.f168.body.bind (a2r 26)).getD .skip=c)(S:w.cell? ⟨D,4,none⟩=some (.int .u32 z)) (ht:y.length=300) (h:d3T 14 λm=>∀(q:Nat),Q .normal ⟨(E::F::G::H::I::J::K::N::O::P::b::d::c12::c13::f:: .slice D 8 R::g:: .int .u32 (bits .xor .u32 (bits .xor .u32 (a5U z 6) (a5U z 11)) (a5U z 25))::j::o::p::r::v::x::d3V y 153 14 m).toArray,[]⟩ (w.drewN q)):Code.wp prog c Q ⟨(E::F::G::H::I::J::K::N::O::P::b::d::c12::c13::f:: .slice D 8 R::g::B::j::o::p::r::v::x::y).toArray,[]⟩ w:=by
 subst a
 revert y
 refine @(d3U ?_);dsimp only[d3T,d3V,List.take_succ_cons,List.take_zero,List.drop_succ_cons,List.drop_zero,List.cons_append,List.nil_append];intros
 rename_i h
 conv=>arg 2;whnf
 go_quiet ((go_at_call 225;refine Calls.quiet_of (b3y _ _ ?_ _);omega))
 all_goals
  go_wp2_with fail
  apply h
theorem c4S{Q:Exit->Act->WD->Prop}{R:Nat}{z:Int}(c:Code)(a:(Tryz.f168.body.bind (a2r 29)).getD .skip=c)(S:w.cell? ⟨D,0,none⟩=some (.int .u32 z)) (ht:y.length=300) (h:d3T 14 λm=>∀(q:Nat),Q .normal ⟨(E::F::G::H::I::J::K::N::O::P::b::d::c12::c13::f:: .slice D 8 R::g::j::o::p:: .int .u32 (bits .xor .u32 (bits .xor .u32 (a5U z 2) (a5U z 13)) (a5U z 22))::r::v::x::d3V y 200 14 m).toArray,[]⟩ (w.drewN q)):Code.wp prog c Q ⟨(E::F::G::H::I::J::K::N::O::P::b::d::c12::c13::f:: .slice D 8 R::g::j::o::p::B::r::v::x::y).toArray,[]⟩ w:=by
 subst a
 revert y
 refine @(d3U ?_);dsimp only[d3T,d3V,List.take_succ_cons,List.take_zero,List.drop_succ_cons,List.drop_zero,List.cons_append,List.nil_append];intros
 rename_i h
 conv=>arg 2;whnf
 go_quiet ((go_at_call 225;refine Calls.quiet_of (b3y _ _ ?_ _);omega))
 all_goals
  go_wp2_with fail
  apply h
theorem c3N{Q:Exit->Act->WD->Prop}{z:LV}{y R:Nat}{D S:Int}(c:Code)(a:(Tryz.f168.body.bind (a2r 27)).getD .skip=c)(U:w.cell? ⟨y,4,none⟩=some (.int .u32 D))(V:w.cell? ⟨y,5,none⟩=some (.int .u32 S))(W:w.cell? ⟨y,6,none⟩=some (.int .u32 T)) (ht:z.length=300) (h:d3T 16 λm=>∀(q:Nat),Q .normal ⟨(E::F::G::H::I::J::K::N::O::P::b::d::c12::c13::f:: .slice y 8 R::g::j:: .int .u32 (bits .xor .u32 (bits .and .u32 D S) (bits .and .u32 ((4294967295-D) % 4294967296) T))::o::p::r::v::x::d3V z 167 16 m).toArray,[]⟩ (w.drewN q)):Code.wp prog c Q ⟨(E::F::G::H::I::J::K::N::O::P::b::d::c12::c13::f:: .slice y 8 R::g::j::B::o::p::r::v::x::z).toArray,[]⟩ w:=by
 subst a
 revert z
 refine @(d3U ?_);dsimp only[d3T,d3V,List.take_succ_cons,List.take_zero,List.drop_succ_cons,List.drop_zero,List.cons_append,List.nil_append];intros
 rename_i h
 conv=>arg 2;whnf
 go_quiet (fail)
 all_goals
  go_wp2_with fail
  apply h
theorem c5u{Q:Exit->Act->WD->Prop}{D:VL}{p:LV}{v x N y O z P:Nat}{R S u:Int}(c:Code)(a:(Tryz.f168.body.bind (a2r 28)).getD .skip=c)(hi:(i:Int)<64)(U:w.cell? ⟨z,7,none⟩=some (.int .u32 R))(V:w.cell? ⟨v,x+i,none⟩=some (.int .u32 S))(W:w.cell? ⟨y,i,none⟩=some (.int .u32 T)) (ht:p.length=300) (h:d3T 17 λm=>∀(q:Nat),Q .normal ⟨(B::D:: .slice (some ⟨v,x,none⟩) 64 N::E::F::G::H::I::J::K::b:: .slice y 64 O::c12::c13::d:: .slice z 8 P:: .int .i64 i:: .int .u32 s:: .int .u32 u:: .int .u32 ((R+s+u+S+T) % 4294967296)::f::g::j::o::d3V p 183 17 m).toArray,[]⟩ (w.drewN q)):Code.wp prog c Q ⟨(B::D:: .slice (some ⟨v,x,none⟩) 64 N::E::F::G::H::I::J::K::b:: .slice y 64 O::c12::c13::d:: .slice z 8 P:: .int .i64 i:: .int .u32 s:: .int .u32 u::r::f::g::j::o::p).toArray,[]⟩ w:=by
 subst a
 revert p
 refine @(d3U ?_);dsimp only[d3T,d3V,List.take_succ_cons,List.take_zero,List.drop_succ_cons,List.drop_zero,List.cons_append,List.nil_append];intros
 rename_i h
 conv=>arg 2;whnf
 go_quiet (fail)
 all_goals
  go_wp2_with fail;simp only[IntKind.wrap_u32,Int.emod_add_emod]
  apply h
theorem c4a{Q:Exit->Act->WD->Prop}{x:Nat}{B D E:Int}(c:Code)(a:(Tryz.f168.body.bind (a2r 30)).getD .skip=c)(T:w.cell? ⟨x,0,none⟩=some (.int .u32 B))(U:w.cell? ⟨x,1,none⟩=some (.int .u32 D))(V:w.cell? ⟨x,2,none⟩=some (.int .u32 E)) (ht:y.length=300) (h:d3T 25 λm=>∀(q:Nat),Q .normal ⟨(F::G::H::I::J::K::N::O::P::R::b::d::c12::c13::f:: .slice x 8 S::g::j::o::p:: .int .u32 s:: .int .u32 ((s+bits .xor .u32 (bits .xor .u32 (bits .and .u32 B D) (bits .and .u32 B E)) (bits .and .u32 D E)) % 4294967296)::r::v::d3V y 214 25 m).toArray,[]⟩ (w.drewN q)):Code.wp prog c Q ⟨(F::G::H::I::J::K::N::O::P::R::b::d::c12::c13::f:: .slice x 8 S::g::j::o::p:: .int .u32 s::z::r::v::y).toArray,[]⟩ w:=by
 subst a
 revert y
 refine @(d3U ?_);dsimp only[d3T,d3V,List.take_succ_cons,List.take_zero,List.drop_succ_cons,List.drop_zero,List.cons_append,List.nil_append];intros
 rename_i h
 conv=>arg 2;whnf
 go_quiet (fail)
 all_goals
  go_wp2_with fail
  apply h
theorem c5T{Q:Exit->Act->WD->Prop}{D:LV}{a Z:Nat}{R S U V X x y:Int}(c:Code)(b:(Tryz.f168.body.bind (a2r 31)).getD .skip=c)(v0:w.cell? ⟨a,0,none⟩=some (.int .u32 R))(v1:w.cell? ⟨a,1,none⟩=some (.int .u32 S))(v2:w.cell? ⟨a,2,none⟩=some (.int .u32 T))(v3:w.cell? ⟨a,3,none⟩=some (.int .u32 U))(v4:w.cell? ⟨a,4,none⟩=some (.int .u32 V))(v5:w.cell? ⟨a,5,none⟩=some (.int .u32 X))(v6:w.cell? ⟨a,6,none⟩=some (.int .u32 Y)) (ht:D.length=300) (h:d3T 27 λm=>Q .normal ⟨(E::F::G::H::I::J::K::N::O::P::d::f::c12::c13::g:: .slice w 8 8::j::o::p:: .int .u32 x::r:: .int .u32 y::z::B::d3V D 239 27 m).toArray,[]⟩ (w.alloc (.cells #[.int .u32 (IntKind.u32.wrap (x+y)),.int .u32 R,.int .u32 S,.int .u32 T,.int .u32 (IntKind.u32.wrap (U+x)),.int .u32 V,.int .u32 X,.int .u32 Y] 312)).drew):Code.wp prog c Q ⟨(E::F::G::H::I::J::K::N::O::P::d::f::c12::c13::g:: .slice a 8 Z::j::o::p:: .int .u32 x::r:: .int .u32 y::z::B::D).toArray,[]⟩ w:=by
 subst b
 revert D
 refine @(d3U ?_);dsimp only[d3T,d3V,List.take_succ_cons,List.take_zero,List.drop_succ_cons,List.drop_zero,List.cons_append,List.nil_append];intros
 rename_i h
 conv=>arg 2;whnf
 refine b4g [3,3,3,3,3,0,3,3,0,3,3,0,3,3,0,3,3,3,3,0,3,3,0,3,3,0,2,3] (λW=>W=w.drew) ρk ρk ρk ρk ?_ ?_
 focus rfl
 refine εj5 ?_
 iterate 1 (with_reducible refine a1g (v:=?_) (a':=?_) ρu (λW' hS=>?_) ?_ ?_;rotate_left 2;(focus(subst hS;exact ρs));focus(exact ρs))
 refine εj2 ?_
 iterate 1 (with_reducible refine a1g (v:=?_) (a':=?_) ρu (λW' hS=>?_) ?_ ?_;rotate_left 2;(focus(subst hS;exact ρs));focus(exact ρs))
 refine εj2 ?_
 iterate 1 (with_reducible refine a1g (v:=?_) (a':=?_) ρu (λW' hS=>?_) ?_ ?_;rotate_left 2;(focus(subst hS;exact ρs));focus(exact ρs))
 refine εj2 ?_
 iterate 1 (with_reducible refine a1g (v:=?_) (a':=?_) ρu (λW' hS=>?_) ?_ ?_;rotate_left 2;(focus(subst hS;exact ρs));focus(exact ρs))
 refine εj2 ?_;refine εj2 ?_
 iterate 1 (with_reducible refine a1g (v:=?_) (a':=?_) ρu (λW' hS=>?_) ?_ ?_;rotate_left 2;(focus(subst hS;exact ρs));focus(exact ρs))
 refine εj2 ?_
 iterate 1 (with_reducible refine a1g (v:=?_) (a':=?_) ρu (λW' hS=>?_) ?_ ?_;rotate_left 2;(focus(subst hS;exact ρs));focus(exact ρs))
 refine εj2 ?_
 iterate 1 (with_reducible refine a1g (v:=?_) (a':=?_) ρu (λW' hS=>?_) ?_ ?_;rotate_left 2;(focus(subst hS;exact ρs));focus(exact ρs))
 with_reducible refine a3d ρu (λK0 hK=>?_)
 go_simp;with_reducible refine hK _ _ ?_;clear hK K0
 refine εj1 ?_;with_reducible refine a6C ?_
 rw[noPan_normal]
 apply h
theorem c4i{Q:Exit->Act->WD->Prop}{E:LV}{F T:Nat}{x y:Int}(c:Code)(a:(Tryz.f168.body.bind (a2r 35)).getD .skip=c)(hi:(i:Int)<8)(_hi8:i<8)(U:w.cell? ⟨D,i,none⟩=some (.int .u32 x))(V:w.frozen? ⟨D,i,none⟩=false)(l2:w.cell? ⟨F,i,none⟩=some (.int .u32 y)) (ht:E.length=300) (h:d3T 12 λm=>Q .normal ⟨(G:: .slice D 8 S::H::I::J::K::N::O::P::R::b::d::c12::c13::f:: .slice F 8 T::g::j::o::p::r::z:: .int .i64 i::B::d3V E 270 12 m).toArray,[]⟩ (w.setCell ⟨D,i,none⟩ (.int .u32 ((x+y) % 4294967296))).drew):Code.wp prog c Q ⟨(G:: .slice D 8 S::H::I::J::K::N::O::P::R::b::d::c12::c13::f:: .slice F 8 T::g::j::o::p::r::z:: .int .i64 i::B::E).toArray,[]⟩ w:=by
 subst a
 revert E
 refine @(d3U ?_);dsimp only[d3T,d3V,List.take_succ_cons,List.take_zero,List.drop_succ_cons,List.drop_zero,List.cons_append,List.nil_append];intros
 rename_i h
 conv=>arg 2;whnf
 refine b4g [3,3,3,3,3,0,3,3,3,0,3,3,2] (λW=>W=w.drew) ρk ρk ρk ρk ?_ ?_
 focus rfl
 refine εj5 ?_
 iterate 1 (with_reducible refine a1g (v:=?_) (a':=?_) ρu (λZ X=>?_) ?_ ?_;rotate_left 2;(focus(subst X;exact ρs));focus(exact ρs))
 refine εj2 ?_;refine εj1 ?_
 iterate 1 (with_reducible refine a1g (v:=?_) (a':=?_) ρu (λZ X=>?_) ?_ ?_;rotate_left 2;(focus(subst X;exact ρs));focus(exact ρs))
 refine εj2 ?_;with_reducible refine a3d ρu (λK0 Y=>?_)
 go_simp;with_reducible refine Y _ _ ?_;clear Y K0
 with_reducible refine a6C ?_
 rw[noPan_normal]
 apply h
end
section
def ptL(tx:LI)(ix:Int):LV:=bys tx++[.int .i64 ix]
theorem a1x(h:tx.length=32)(ix:Int):(ptL tx ix).length=33:=by simp[ptL,a0a,h]
def b1x(tx:LI)(ix:Int):LI:=a1K 10 [tx,[ix]]
def okO(ix n:Int):Bool:=decide (1<=n/\n<=64/\0<=ix/\ix<=15)
def ofO(tx:LI)(ix n:Int):Int:=if okO ix n=true then((a9g ((b1x tx ix).take 8):Nat):Int) % n else 0
theorem a4Q{P:PG}{t e:TI}{n:Nat}(a:P.underlying t=some (.array n e))(b:(P.info? e).map (·.size)=some 1)(w:WD)(g:Nat)(d:0<n):(SLs t (.pointer g) none none none).run P w=.ok (.slice g n n) w:=by
 obtain⟨i,j,hi⟩:=Q8.1 b;have f:¬n=0:=ρo;simp[SLs,Instr.sliceAt,Instr.sureAddr,Instr.sliceBounds,run_underlying a,sizeOf,typeInfo,j,Addr.add]
abbrev Pi:=@a4Q prog
theorem c2O(_htx:tx.length=32)(b:∀x∈tx,0<=x/\x<=255)(ix:Int){g:Nat}(a:Blk X g t (ptL tx ix).toArray):Byt X g tx:=
 ⟨λ_=>⟨g,0,rfl,a.lt,λj x hx=>by
  have hj:j<tx.length:=(Qm.1 hx).1;rw[QP,a.cell j];simp only[ptL,QE];rw[QO (ρy a0a hj),a3J,hx]
  rfl⟩,b⟩
theorem b0m(tx:LI)(a:tx.length=32)(d:∀x∈tx,0<=x/\x<=255)(ix:Int)(p:0<=ix/\ix<=15){g b r:Nat}(f:Blk X g t (ptL tx ix).toArray)(m:Blk X b 5 #[.int .u8 ix])(o:Blk X r 22 #[.slice g 32 32,.slice b 1 1])(v:a2x X):Calls prog 105 #[.int .u8 10,.slice r 2 2] X λe w'=>e=.returned (.agg (bys (b1x tx ix)).toArray)/\Below X X w':=by
 have F:b8s X r [.slice g 32 32,.slice b 1 1] [tx,[ix]]:=⟨rfl,λ_=>⟨r,0,rfl,o.lt,λj x w=>by rw[QP,o.cell j];simpa using w⟩,λi hi y=>by
  match i,hi with
  | 0,_=>exact⟨_,32,by simp[a],c2O a d ix f,by simp⟩
  | 1,_=>exact⟨_,1,rfl,Blk.byt (l:=[ix]) m (by simp;omega),by simp⟩⟩
 have E:=f.lt;have D:=m.lt
 exact b1c 10 ρo _ 2 _ [tx,[ix]] X F (λi hi y k z _=>by
  match i,hi with
  | 0,_=>simp[Value.ownBlock]at z;omega
  | 1,_=>simp[Value.ownBlock]at z;omega) ρp (by simp[a]) (λl B x w=>by
  simp at B
  rcases B with rfl | rfl
  ·exact d x w
  simp at w;omega) v
def b9Y(w:WD)(tx:LI)(ix:Int)(D:Nat)(w5:WD):Prop:=
 (STs 31 (.pointer D) (.agg (bys (b1x tx ix)).toArray)).run prog w5=.ok () (w5.setRow D (bys (b1x tx ix)).toArray)/\Blk (w5.setRow D (bys (b1x tx ix)).toArray) D 31 (bys (b1x tx ix)).toArray/\Below w w (w5.setRow D (bys (b1x tx ix)).toArray)
theorem b7L{b:WD}(tx:LI)(ix:Int){a:AV}(g:a.size=32)(f:Blk b D 31 a)(j:Below w w b)(d:w.heap.size<=D):b9Y w tx ix D b:=by
 have o:(bys (b1x tx ix)).length=32:=by rw[a0a];exact a5y _ _
 have m:=Pa (t:=31) a5m f (off:=0) (bys (b1x tx ix)) o ρo (a0h _);rw[a0q _ _ (by rw[o,g])]at m;exact⟨m,f.row_ _,Ql j d _⟩
section
attribute [local go_sem ↓] a2t a2s a2n a3w
theorem b2T(tx:LI)(a:tx.length=32)(b:∀x∈tx,0<=x/\x<=255)(ix n:Int)(f:-9223372036854775808<=ix/\ix<=9223372036854775807)(m:-9223372036854775808<=n/\n<=9223372036854775807)(w:WD)(d:a2x w):Calls prog 160 #[.agg (ptL tx ix).toArray,.int .i64 n] w λe w'=>e=.returned (.tuple #[.int .i64 (ofO tx ix n),.bool (okO ix n)])/\Below w w w':=by
 have b0:=Qd w 189 (ptL tx ix).toArray;have B0:=ρb w (.cells (ptL tx ix).toArray 189)
 generalize hW:w.alloc (.cells (ptL tx ix).toArray 189)=W at b0 B0
 have⟨g,av⟩:=ηs w;rw[av]at b0
 have aA:W.cell? ⟨g,32,none⟩=some (.int .i64 ix):=by
  rw[b0.cell 32];simp[ptL,a0a,a]
 have⟨HW,aJ,BB,HG,ao,HB,ag⟩:=η7 hW b0 B0 d a b av;clear hW b0 B0 d a b av
 by_cases U:okO ix n=true
 ·have h4:=of_decide_eq_true U
  obtain⟨h1,h2,h3,h4⟩:=h4;have n1:¬n<1:=ρo;have n2:¬64<n:=ρo;have n3:¬ix<0:=ρo;have n4:¬16<=ix:=ρo;have ak:ofO tx ix n=((a9g ((b1x tx ix).take 8):Nat):Int) % n:=by unfold ofO;rw[if_pos U]
  rw[U,ak];obtain⟨z,aE,aC⟩:=Q8.1 b9C;have ay:=λW=>Pc (t:=31) z aE W
  have⟨E,ah⟩:=η0 z.cells;have al:E.size=32:=by rw[<-ah,<-QD,aC];rfl
  simp only[ah]at ay;have aH:∀W',(SLs 31 (.pointer g) none none none).run prog W'=.ok (.slice g 32 32) W':=λW'=>a4Q b1w ρk W' g ρo
  have HZ:=η1 al;clear ah aE aC z al ak U;go_in;go_upto_region 1 with fail
  rw[HW.o,ag.o];go_wp2_with fail;have⟨r,aj⟩:=η0 W.drew;have B:Below w w r:=by rw[<-aj];exact BB.drew
  have ae:Blk r g 189 (ptL tx ix).toArray:=by rw[<-aj];exact aJ.drew
  have q9:r.cell? ⟨g,32,none⟩=some (.int .i64 ix):=by rw[<-aj];exact aA
  let S0:WD->Prop:=λX=>X.cell? ⟨g,32,none⟩=some (.int .i64 ix)
  have az:=ae.lt;have hS:∀X,Below r r X->S0 X:=λX hX=>(hX.cell (p:=⟨g,32,none⟩) az).trans q9
  have⟨Y,ad⟩:=η2 hS aj;have aQ:IntKind.u8.wrap ix=ix:=by rw[IntKind.wrap_u8'];omega
  have uA:Calls prog 105 #[.int .u8 10,.slice (r.heap.size+1+1:Nat) 2 2] (((r.alloc (.cells E 31)).alloc (.cells #[.int .u8 ix] 5)).alloc (.cells #[.slice g 32 32,.slice (r.heap.size+1:Nat) 1 1] 22)) (λe w'=>e=.returned (.agg (bys (b1x tx ix)).toArray)/\Below ((((r.alloc (.cells E 31)).alloc (.cells #[.int .u8 ix] 5)).alloc (.cells #[.slice g 32 32,.slice (r.heap.size+1:Nat) 1 1] 22))).heap.size (((r.alloc (.cells E 31)).alloc (.cells #[.int .u8 ix] 5)).alloc (.cells #[.slice g 32 32,.slice (r.heap.size+1:Nat) 1 1] 22)) w')/\∀Q,Below ((((r.alloc (.cells E 31)).alloc (.cells #[.int .u8 ix] 5)).alloc (.cells #[.slice g 32 32,.slice (r.heap.size+1:Nat) 1 1] 22))).heap.size (((r.alloc (.cells E 31)).alloc (.cells #[.int .u8 ix] 5)).alloc (.cells #[.slice g 32 32,.slice (r.heap.size+1:Nat) 1 1] 22)) Q->b9Y w tx ix r.heap.size Q:=by
   have R:=((Qd (r.alloc (.cells E 31)) 5 #[.int .u8 ix]).alloc (.cells #[.slice g 32 32,.slice (r.heap.size+1:Nat) 1 1] 22));have S:=(Qd ((r.alloc (.cells E 31)).alloc (.cells #[.int .u8 ix] 5)) 22 #[.slice g 32 32,.slice (r.heap.size+1:Nat) 1 1]);have T:=(((Qd r 31 E).alloc (.cells #[.int .u8 ix] 5)).alloc (.cells #[.slice g 32 32,.slice (r.heap.size+1:Nat) 1 1] 22));simp only[Qi]at R S T
   refine⟨b0m tx ao.o HB.o ix ⟨h3,h4⟩ (((ae.alloc (.cells E 31)).alloc (.cells #[.int .u8 ix] 5)).alloc (.cells #[.slice g 32 32,.slice (r.heap.size+1:Nat) 1 1] 22)) R S (HG.below (((B.alloc (by have:=B.size;simp;omega) (.cells E 31)).alloc (by have:=B.size;simp;omega) (.cells #[.int .u8 ix] 5)).alloc (by have:=B.size;simp;omega) (.cells #[.slice g 32 32,.slice (r.heap.size+1:Nat) 1 1] 22))),λQ I=>?_⟩
   exact b7L tx ix HZ.o (T.fr (Q9 I) (ρh T.lt)) ((((B.alloc (by have:=B.size;simp;omega) (.cells E 31)).alloc (by have:=B.size;simp;omega) (.cells #[.int .u8 ix] 5)).alloc (by have:=B.size;simp;omega) (.cells #[.slice g 32 32,.slice (r.heap.size+1:Nat) 1 1] 22)).trans (I.mono ((((B.alloc (by have:=B.size;simp;omega) (.cells E 31)).alloc (by have:=B.size;simp;omega) (.cells #[.int .u8 ix] 5)).alloc (by have:=B.size;simp;omega) (.cells #[.slice g 32 32,.slice (r.heap.size+1:Nat) 1 1] 22))).size)) (ρh B.size)
  have UA:=η1 uA;clear uA
  have uB:Calls prog 105 #[.int .u8 10,.slice (r.heap.size+1+1:Nat) 2 2] (((r.alloc (.cells #[.int .u8 ix] 5)).alloc (.cells E 31)).alloc (.cells #[.slice g 32 32,.slice r 1 1] 22)) (λe w'=>e=.returned (.agg (bys (b1x tx ix)).toArray)/\Below ((((r.alloc (.cells #[.int .u8 ix] 5)).alloc (.cells E 31)).alloc (.cells #[.slice g 32 32,.slice r 1 1] 22))).heap.size (((r.alloc (.cells #[.int .u8 ix] 5)).alloc (.cells E 31)).alloc (.cells #[.slice g 32 32,.slice r 1 1] 22)) w')/\∀Q,Below ((((r.alloc (.cells #[.int .u8 ix] 5)).alloc (.cells E 31)).alloc (.cells #[.slice g 32 32,.slice r 1 1] 22))).heap.size (((r.alloc (.cells #[.int .u8 ix] 5)).alloc (.cells E 31)).alloc (.cells #[.slice g 32 32,.slice r 1 1] 22)) Q->b9Y w tx ix (r.heap.size+1) Q:=by
   have R:=(((Qd r 5 #[.int .u8 ix]).alloc (.cells E 31)).alloc (.cells #[.slice g 32 32,.slice r 1 1] 22));have S:=(Qd ((r.alloc (.cells #[.int .u8 ix] 5)).alloc (.cells E 31)) 22 #[.slice g 32 32,.slice r 1 1]);have T:=((Qd (r.alloc (.cells #[.int .u8 ix] 5)) 31 E).alloc (.cells #[.slice g 32 32,.slice r 1 1] 22));simp only[Qi]at R S T
   refine⟨b0m tx ao.o HB.o ix ⟨h3,h4⟩ (((ae.alloc (.cells #[.int .u8 ix] 5)).alloc (.cells E 31)).alloc (.cells #[.slice g 32 32,.slice r 1 1] 22)) R S (HG.below (((B.alloc (by have:=B.size;simp;omega) (.cells #[.int .u8 ix] 5)).alloc (by have:=B.size;simp;omega) (.cells E 31)).alloc (by have:=B.size;simp;omega) (.cells #[.slice g 32 32,.slice r 1 1] 22))),λQ I=>?_⟩
   exact b7L tx ix HZ.o (T.fr (Q9 I) (ρh T.lt)) ((((B.alloc (by have:=B.size;simp;omega) (.cells #[.int .u8 ix] 5)).alloc (by have:=B.size;simp;omega) (.cells E 31)).alloc (by have:=B.size;simp;omega) (.cells #[.slice g 32 32,.slice r 1 1] 22)).trans (I.mono ((((B.alloc (by have:=B.size;simp;omega) (.cells #[.int .u8 ix] 5)).alloc (by have:=B.size;simp;omega) (.cells E 31)).alloc (by have:=B.size;simp;omega) (.cells #[.slice g 32 32,.slice r 1 1] 22))).size)) (ρh B.size)
  have UB:=η1 uB;clear uB
  have uC:Calls prog 105 #[.int .u8 10,.slice (r.heap.size+1:Nat) 2 2] (((r.alloc (.cells #[.int .u8 ix] 5)).alloc (.cells #[.slice g 32 32,.slice r 1 1] 22)).alloc (.cells E 31)) (λe w'=>e=.returned (.agg (bys (b1x tx ix)).toArray)/\Below ((((r.alloc (.cells #[.int .u8 ix] 5)).alloc (.cells #[.slice g 32 32,.slice r 1 1] 22)).alloc (.cells E 31))).heap.size (((r.alloc (.cells #[.int .u8 ix] 5)).alloc (.cells #[.slice g 32 32,.slice r 1 1] 22)).alloc (.cells E 31)) w')/\∀Q,Below ((((r.alloc (.cells #[.int .u8 ix] 5)).alloc (.cells #[.slice g 32 32,.slice r 1 1] 22)).alloc (.cells E 31))).heap.size (((r.alloc (.cells #[.int .u8 ix] 5)).alloc (.cells #[.slice g 32 32,.slice r 1 1] 22)).alloc (.cells E 31)) Q->b9Y w tx ix (r.heap.size+1+1) Q:=by
   have R:=(((Qd r 5 #[.int .u8 ix]).alloc (.cells #[.slice g 32 32,.slice r 1 1] 22)).alloc (.cells E 31));have S:=((Qd (r.alloc (.cells #[.int .u8 ix] 5)) 22 #[.slice g 32 32,.slice r 1 1]).alloc (.cells E 31));have T:=(Qd ((r.alloc (.cells #[.int .u8 ix] 5)).alloc (.cells #[.slice g 32 32,.slice r 1 1] 22)) 31 E);simp only[Qi]at R S T
   refine⟨b0m tx ao.o HB.o ix ⟨h3,h4⟩ (((ae.alloc (.cells #[.int .u8 ix] 5)).alloc (.cells #[.slice g 32 32,.slice r 1 1] 22)).alloc (.cells E 31)) R S (HG.below (((B.alloc (by have:=B.size;simp;omega) (.cells #[.int .u8 ix] 5)).alloc (by have:=B.size;simp;omega) (.cells #[.slice g 32 32,.slice r 1 1] 22)).alloc (by have:=B.size;simp;omega) (.cells E 31))),λQ I=>?_⟩
   exact b7L tx ix HZ.o (T.fr (Q9 I) (ρh T.lt)) ((((B.alloc (by have:=B.size;simp;omega) (.cells #[.int .u8 ix] 5)).alloc (by have:=B.size;simp;omega) (.cells #[.slice g 32 32,.slice r 1 1] 22)).alloc (by have:=B.size;simp;omega) (.cells E 31)).trans (I.mono ((((B.alloc (by have:=B.size;simp;omega) (.cells #[.int .u8 ix] 5)).alloc (by have:=B.size;simp;omega) (.cells #[.slice g 32 32,.slice r 1 1] 22)).alloc (by have:=B.size;simp;omega) (.cells E 31))).size)) (ρh B.size)
  have UC:=η1 uC;clear uC
  have uD:Calls prog 105 #[.int .u8 10,.slice (r.heap.size+1:Nat) 2 2] ((r.alloc (.cells #[.int .u8 ix] 5)).alloc (.cells #[.slice g 32 32,.slice r 1 1] 22)) (λe w'=>e=.returned (.agg (bys (b1x tx ix)).toArray)/\Below (((r.alloc (.cells #[.int .u8 ix] 5)).alloc (.cells #[.slice g 32 32,.slice r 1 1] 22))).heap.size ((r.alloc (.cells #[.int .u8 ix] 5)).alloc (.cells #[.slice g 32 32,.slice r 1 1] 22)) w')/\∀Q,Below (((r.alloc (.cells #[.int .u8 ix] 5)).alloc (.cells #[.slice g 32 32,.slice r 1 1] 22))).heap.size ((r.alloc (.cells #[.int .u8 ix] 5)).alloc (.cells #[.slice g 32 32,.slice r 1 1] 22)) Q->b9Y w tx ix Q.heap.size (Q.alloc (.cells E 31)):=by
   have R:=((Qd r 5 #[.int .u8 ix]).alloc (.cells #[.slice g 32 32,.slice r 1 1] 22));have S:=(Qd (r.alloc (.cells #[.int .u8 ix] 5)) 22 #[.slice g 32 32,.slice r 1 1]);simp only[Qi]at R S;refine⟨b0m tx ao.o HB.o ix ⟨h3,h4⟩ ((ae.alloc (.cells #[.int .u8 ix] 5)).alloc (.cells #[.slice g 32 32,.slice r 1 1] 22)) R S (HG.below ((B.alloc (by have:=B.size;simp;omega) (.cells #[.int .u8 ix] 5)).alloc (by have:=B.size;simp;omega) (.cells #[.slice g 32 32,.slice r 1 1] 22))),λQ I=>?_⟩
   exact b7L tx ix HZ.o (Qd Q _ _) ((((B.alloc (by have:=B.size;simp;omega) (.cells #[.int .u8 ix] 5)).alloc (by have:=B.size;simp;omega) (.cells #[.slice g 32 32,.slice r 1 1] 22)).trans (I.mono (((B.alloc (by have:=B.size;simp;omega) (.cells #[.int .u8 ix] 5)).alloc (by have:=B.size;simp;omega) (.cells #[.slice g 32 32,.slice r 1 1] 22))).size)).alloc (Qk (((B.alloc (by have:=B.size;simp;omega) (.cells #[.int .u8 ix] 5)).alloc (by have:=B.size;simp;omega) (.cells #[.slice g 32 32,.slice r 1 1] 22))).size I.size) _) (Qk (((B.alloc (by have:=B.size;simp;omega) (.cells #[.int .u8 ix] 5)).alloc (by have:=B.size;simp;omega) (.cells #[.slice g 32 32,.slice r 1 1] 22))).size I.size)
  have UD:=η1 uD;clear uD;clear hS aj q9 ae B az aA;refine c9Y (λi=>i != 9) [(0,3),(1,3),(2,3),(3,0),(4,3)] 5 #[true,true,true,true,true,false,false,false,false,false] S0 ρk ρk ρk ρk (by rw[ad.o];exact Y.o _ (Qf _ _)) ?_;rw[ad.o];refine εc1 ?_;refine εc1 ?_;refine εc1 ?_
  iterate 1 (with_reducible refine a3M (o:=?_) (v:=?_) (a':=?_) ρu ρu (λW' aL=>?_) ?_ ?_;rotate_left 2;(focus(have j0:W'.cell? _=_:=aL;exact ρs));focus(exact ρs))
  refine εc1 ?_;with_reducible refine a2m ?_
  refine a3O (i:=5) (j:=8) ρk ?_ ?_;rotate_left
  focus
   with_reducible refine a2k (J:=λi=>i != 9) (oi:=?_) ρu ρu (λK G=>?_)
   refine ψ ?_;go_simp;with_reducible refine G _ _ (Y.o _ (ρb r _)) ?_;clear G K
   refine a5X [(5,1),(6,1),(7,1),(9,2)] ρk ρk ρk ?_;refine κ ?_;intro K G;with_reducible refine G _ _ (Y.o _ ((ρb r _).alloc ρp _)) ?_;clear G K
   refine κ ?_;intro K G;with_reducible refine G _ _ (Y.o _ (((ρb r _).alloc ρp _).alloc (by simp;omega) _)) ?_;clear G K
   refine κ ?_;intro K G;refine μi UA.o.1 ?_;intro Q I;obtain⟨Z,F,H⟩:=UA.2 _ I;have O:=(((ρb r _).alloc ρp _).alloc (by simp;omega) _).trans (I.mono ((((ρb r _).alloc ρp _).alloc (by simp;omega) _)).size);with_reducible refine G _ _ (Y.o _ O) ?_;clear G K
   refine τ1 ?_;refine ν ?_
   generalize aa:Q.setRow r.heap.size (bys (b1x tx ix)).toArray=w6 at F H⊢
   generalize ab:r.heap.size=D at F⊢
   have⟨af,an⟩:=η2 F H;clear Z I O aa ab F H UA UB UC UD Y ad;go_upto_region 5 with fail
  rotate_left;with_reducible refine a2k (J:=λi=>i != 9) (oi:=?_) ρu ρu (λK G=>?_)
  refine ψ ?_;go_simp;with_reducible refine G _ _ (Y.o _ (ρb r _)) ?_;clear G K
  refine a3O (i:=6) (j:=8) ρk ?_ ?_;rotate_left
  focus
   with_reducible refine a2k (J:=λi=>i != 9) (oi:=?_) ρu ρu (λK G=>?_)
   refine ψ ?_;go_simp;with_reducible refine G _ _ (Y.o _ ((ρb r _).alloc ρp _)) ?_;clear G K
   refine a5X [(6,1),(7,1),(9,2)] ρk ρk ρk ?_;refine κ ?_;intro K G;with_reducible refine G _ _ (Y.o _ (((ρb r _).alloc ρp _).alloc (by simp;omega) _)) ?_;clear G K
   refine κ ?_;intro K G;refine μi UB.o.1 ?_;intro Q I;obtain⟨Z,F,H⟩:=UB.2 _ I;have O:=(((ρb r _).alloc ρp _).alloc (by simp;omega) _).trans (I.mono ((((ρb r _).alloc ρp _).alloc (by simp;omega) _)).size);with_reducible refine G _ _ (Y.o _ O) ?_;clear G K
   refine τ1 ?_;refine ν ?_
   generalize aa:Q.setRow (r.heap.size+1) (bys (b1x tx ix)).toArray=w6 at F H⊢
   generalize ab:(r.heap.size+1)=D at F⊢
   have⟨af,an⟩:=η2 F H;clear Z I O aa ab F H UA UB UC UD Y ad;go_upto_region 5 with fail
  rotate_left;rotate_left;with_reducible refine a2k (J:=λi=>i != 9) (oi:=?_) ρu ρu (λK G=>?_)
  refine ψ ?_;go_simp;with_reducible refine G _ _ (Y.o _ ((ρb r _).alloc ρp _)) ?_;clear G K
  refine a3O (i:=7) (j:=8) ρk ?_ ?_;rotate_left
  focus
   with_reducible refine a2k (J:=λi=>i != 9) (oi:=?_) ρu ρu (λK G=>?_)
   refine ψ ?_;go_simp;with_reducible refine G _ _ (Y.o _ (((ρb r _).alloc ρp _).alloc (by simp;omega) _)) ?_;clear G K
   refine a5X [(7,1),(9,2)] ρk ρk ρk ?_;refine κ ?_;intro K G;refine μi UC.o.1 ?_;intro Q I;obtain⟨Z,F,H⟩:=UC.2 _ I;have O:=(((ρb r _).alloc ρp _).alloc (by simp;omega) _).trans (I.mono ((((ρb r _).alloc ρp _).alloc (by simp;omega) _)).size);with_reducible refine G _ _ (Y.o _ O) ?_;clear G K
   refine τ1 ?_;refine ν ?_
   generalize aa:Q.setRow (r.heap.size+1+1) (bys (b1x tx ix)).toArray=w6 at F H⊢
   generalize ab:(r.heap.size+1+1)=D at F⊢
   have⟨af,an⟩:=η2 F H;clear Z I O aa ab F H UA UB UC UD Y ad;go_upto_region 5 with fail
  rotate_left;rotate_left;rotate_left
  focus
   with_reducible refine a2k (J:=λi=>i != 9) (oi:=?_) ρu ρu (λK G=>?_)
   refine ψ ?_;go_simp;refine μi UD.o.1 ?_;intro Q I;obtain⟨Z,F,H⟩:=UD.2 _ I;have O:=((ρb r _).alloc ρp _).trans (I.mono (((ρb r _).alloc ρp _)).size);with_reducible refine G _ _ (Y.o _ O) ?_;clear G K
   refine a5X [(8,1),(9,2)] ρk ρk ρk ?_;refine κ ?_;intro K G;with_reducible refine G _ _ (Y.o _ (O.alloc O.size _)) ?_;clear G K
   refine τ1 ?_;have hz:=Z;refine ν ?_
   generalize aa:(Q.alloc (.cells E 31)).setRow Q.heap.size (bys (b1x tx ix)).toArray=w6 at F H⊢
   generalize ab:Q.heap.size=D at F⊢
   have⟨af,an⟩:=η2 F H;clear hz Z I O aa ab F H UA UB UC UD Y ad;go_upto_region 5 with fail
  all_goals
   clear ay aH;have aD:=d1a (P:=prog) b1w ρk w6 D 8 8 rfl ρo ρo;have ar:(b1x tx ix).length=32:=a5y _ _;have aq:∀x∈b1x tx ix,0<=x/\x<=255:=b0Z _ _
   generalize hV:b1x tx ix=V at ar aq af⊢
   have⟨aB,au,HV⟩:=η3 ar aq hV;clear ar aq hV;go_wp2_with fail;clear aD;go_loopg [7,9,36] 8 (λkk v _ t wr=>∃i:Nat,i+kk=8/\t=.int .i64 i/\v=.int .u64 ((a9g (V.take i):Nat):Int)/\wr=w6);exact⟨0,by omega,rfl,rfl,rfl⟩;obtain⟨i,hi,rfl,rfl,rfl⟩:=hrel
   by_cases h8:i<8
   ·have aK:(i:Int)<8:=ρo
    obtain⟨x,hx⟩:∃x,V[i]? =some x:=⟨V[i]'(by rw[aB.o];omega),by simp⟩;have aS:=au.o x (Zy hx);obtain⟨X,rfl⟩:∃X:Nat,x=(X:Int):=⟨x.toNat,by omega⟩
    have aO:wr.cell? ⟨D,i,none⟩=some (.int .u8 X):=by
     rw[af.cell i];simp only[QE];rw[a3J,hx]
     rfl
    have ac:=b2X (V.take i) (λy hy=>au.o y (QM hy));have ai:256 ^ (V.take i).length<=256 ^ 7:=Nat.pow_le_pow_right ρo (by rw[Qx];omega)
    have ax:a9g (V.take (i+1))=a9g (V.take i)*256+X:=by
     have hl:i<V.length:=by rw[aB.o];omega
     rw[Qe hl,a8E];rw[QN hl]at hx;rw[Option.some.inj hx,Zd]
    generalize hv:a9g (V.take i)=v at ac ax⊢
    have aT:v<72057594037927936:=Qh ac (by rw[show(72057594037927936:Nat)=256 ^ 7 from rfl];exact ai)
    have aN:bits .or .u64 ((v:Int)*256) (X:Int)=((v*256+X:Nat):Int):=by
     have e:=c1d v X ρo ρo
     rwa [Int.natCast_mul]at e
    have aF:=η1 ax;clear ac ai ax hv hx;go_wp2;go_roundg (8-(i+1));exact⟨i+1,by omega,by go_num,by rw[aF.o];go_num,rfl⟩;omega
   obtain rfl:i=8:=ρo;have aK:¬(((8:Nat):Int)<8):=ρo;obtain⟨N,rfl⟩:∃N:Nat,n=(N:Int):=⟨n.toNat,by omega⟩;have ac:=b2X (V.take 8) (λy hy=>au.o y (QM hy));have ai:256 ^ (V.take 8).length<=256 ^ 8:=Nat.pow_le_pow_right ρo (by rw[Qx];omega)
   generalize hv:a9g (V.take 8)=v at ac⊢
   have aR:(v:Int)<=18446744073709551615:=by
    have:v<256 ^ 8:=Qh ac ai
    omega
   have aP:((N:Int) == 0)=false:=by simp;omega
   have aM:wrap64 ((v:Int) % (N:Int))=(v:Int) % (N:Int):=by
    have e1:=Int.emod_nonneg (v:Int) (show(N:Int)≠0 by omega);have e2:=Int.emod_lt_of_pos (v:Int) (show(0:Int)<(N:Int) by omega);unfold wrap64;omega
   have aG:=η1 hv;clear ac ai hv;go_wp2;go_ret2;exact⟨by rw[HV.o,aG.o];rfl,an.o⟩
 have ak:ofO tx ix n=0:=by unfold ofO;rw[if_neg U]
 have hk:okO ix n=false:=ρw U;rw[ak,hk]
 have aI:n<1\/64<n\/ix<0\/16<=ix:=by
  unfold okO at U;simp only[decide_eq_true_eq]at U;omega
 clear U ak hk
 by_cases n1:n<1
 ·go_in
  go_upto_region 1 with fail
  rw[HW.o,ag.o];go_wp2;go_ret2;exact⟨rfl,BB.o⟩
 by_cases n2:64<n
 ·go_in
  go_upto_region 1 with fail
  rw[HW.o,ag.o];go_wp2;go_ret2;exact⟨rfl,BB.o⟩
 by_cases n3:ix<0
 ·go_in
  go_upto_region 1 with fail
  rw[HW.o,ag.o];go_wp2;go_ret2;exact⟨rfl,BB.o⟩
 have n4:16<=ix:=ρo;clear aI;go_in;go_upto_region 1 with fail
 rw[HW.o,ag.o];go_wp2;go_ret2;exact⟨rfl,BB.o⟩
end
end
def a4K(most:Nat):LI->Except Int (Nat×LI)
 | []=>.error 2
 | k::tl=>if 8<k.toNat then .error 3 else if tl.length<k.toNat then .error 2 else if 0<k.toNat/\tl.headD 1=0 then .error 3 else if most<a9g (tl.take k.toNat)then .error 5 else .ok (a9g (tl.take k.toNat),tl.drop k.toNat)
def a5L(most:Nat)(l:LI):Except Int (LI×LI):=
 match a4K most l with
 | .error x=>.error x
 | .ok (n,r)=>if r.length<n then .error 2 else .ok (r.take n,r.drop n)
def a8k(l:LI):Except Int (LI×LI):=if l.length<32 then .error 2 else .ok (l.take 32,l.drop 32)
theorem a5l{p:Nat×LI}:a4K most l=.ok p↔a2J most l=some p:=by
 cases l with
 | nil=>simp[a4K,a2J]
 |
  cons k a=>
  simp only[a4K,a2J]
  by_cases f:8<k.toNat
  ·rw[if_pos f,if_pos (.inl f)];simp
  rw[if_neg f]
  by_cases b:a.length<k.toNat
  ·rw[if_pos b,if_pos (.inr (.inl b))];simp
  rw[if_neg b]
  by_cases g:0<k.toNat/\a.headD 1=0
  ·rw[if_pos g,if_pos (.inr (.inr (.inl g)))];simp
  rw[if_neg g]
  by_cases d:most<a9g (a.take k.toNat)
  ·rw[if_pos d,if_pos (.inr (.inr (.inr d)))];simp
  rw[if_neg d,if_neg (by rintro(h | h | h | h)<;>contradiction)];simp
theorem c1u{x:Int}(h:a4K most l=.error x):(x != 0)=true/\(x == 0)=false:=by
 cases l with
 | nil=>simp only[a4K,Except.error.injEq]at h;subst h;exact⟨rfl,rfl⟩
 |
  cons k a=>
  simp only[a4K]at h
  split at h
  ·cases h;exact⟨rfl,rfl⟩
  split at h
  ·cases h;exact⟨rfl,rfl⟩
  split at h
  ·cases h;exact⟨rfl,rfl⟩
  split at h
  ·cases h;exact⟨rfl,rfl⟩
  cases h
end Go.Proofs.YtpolljfkceanaaaGreatDoor
