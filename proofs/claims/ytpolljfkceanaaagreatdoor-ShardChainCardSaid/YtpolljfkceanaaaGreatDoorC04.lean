/-
  Contracts of functions, plain laws.
-/
import Derived.Test.YtpolljfkceanaaaGreatDoorC03
namespace Go.Proofs.YtpolljfkceanaaaGreatDoor
open Go.RowKit Go.Shelf Go.Maps Go.Proofs.Tryz
set_option maxRecDepth 100000
set_option maxHeartbeats 64000000
variable {cs:AV}{am ep ser x:Int}{d id k l m ow r tx:LI}{L:LL}{R:LW}{B N b c cap g i j most n off p s:Nat}{A f:OA}{P:PG}{T t ty:TI}{C v:VL}{a w:WD}
set_option linter.all false
section
def a0x(e:a1P):LV:=[.int .i64 e.kind,.int .i64 e.sh]++bys e.tx++[.int .u64 e.am,.int .i64 e.why,.int .i64 e.ep]
def a0b(h:a0Q):LV:=[.int .i64 h.sh,.int .i64 h.ht,.int .i64 h.ep]++bys h.prev++bys h.root
def a0d(c:a0y)(A:OA)(cap:Nat):LV:=a0x c.e++[.slice A c.path.length cap]++a0b c.h++bys c.tag
theorem a0u{e:a1P}(h:e.Bd):(a0x e).length=37:=by simp[a0x,a0a,h.tx.1]
theorem a0f{h:a0Q}(a:h.Bd):(a0b h).length=67:=by simp[a0b,a0a,a.prev.1,a.root.1]
theorem a0l{c:a0y}(h:c.Bd)(A:OA)(cap:Nat):(a0d c A cap).length=137:=by simp[a0d,a0a,h.tag.1,a0u h.e,a0f h.h]
theorem a5h(e:a1P):∀v∈a0x e,v.oneCell'=true:=by
 intro v a;simp only[a0x,Qq,Qo,Qt,or_false]at a
 rcases a with((rfl | rfl) | h) | rfl | rfl | rfl
 ·rfl
 ·rfl
 ·exact a0h _ _ h
 ·rfl
 ·rfl
 rfl
theorem a1p(h:a0Q):∀v∈a0b h,v.oneCell'=true:=by
 intro v a;simp only[a0b,Qq,Qo,Qt,or_false]at a
 rcases a with((rfl | rfl | rfl) | h) | h
 ·rfl
 ·rfl
 ·rfl
 ·exact a0h _ _ h
 exact a0h _ _ h
theorem a2C(c:a0y)(A:OA)(cap:Nat):∀v∈a0d c A cap,v.oneCell'=true:=by
 intro v a;simp only[a0d,Qq,Qo,Qt,or_false]at a
 rcases a with((h | rfl) | h) | h
 ·exact a5h _ _ h
 ·rfl
 ·exact a1p _ _ h
 exact a0h _ _ h
def a4i:a1P:=⟨0,0,List.replicate 32 0,0,0,0⟩
def a1y:a0Q:=⟨0,0,0,List.replicate 32 0,List.replicate 32 0⟩
theorem a3T:a4i.Bd:=⟨by simp[a4i,InI],by simp[a4i,InI],ZZ,by simp[a4i],by simp[a4i,InI],by simp[a4i,InI]⟩
theorem a1A:a1y.Bd:=⟨by simp[a1y,InI],by simp[a1y,InI],by simp[a1y,InI],ZZ,ZZ⟩
abbrev a1W:=ldOf 34
abbrev a1l:=ldOf 37
abbrev a3j:=bdOf 34
abbrev a5P:=bdOf 37
theorem b0a(x y:VL):binOp .eql 34 x y=EQs 34 x y:=rfl
def NEs(t:TI)(x y:VL):Sem VL:=binOp .neq t x y
theorem a8b(x y:VL):binOp .neq 37 x y=NEs 37 x y:=rfl
theorem b3q:(prog.underlying 34).map a1f=some true:=ρk
theorem a8Q:(prog.info? 34).map (·.size)=some 37:=ρk
theorem a1S:(prog.underlying 37).map a1f=some true:=ρk
theorem a1h:(prog.info? 37).map (·.size)=some 67:=ρk
theorem d1g:(((prog.info? 37).bind (·.zero)).map (·.cells.size))=some 67:=ρk
theorem c6p(w:WD):(BDs 34 #[]).run prog w=.ok (.agg (a0x a4i).toArray) w:=run_build w _ _ _ ρk
theorem b2Y(w:WD):(BDs 37 #[]).run prog w=.ok (.agg (a0b a1y).toArray) w:=run_build w _ _ _ ρk
theorem d0g:∃f0 f1 f2 f3 f4 f5:Field,prog.underlying 34=some (.struct #[f0,f1,f2,f3,f4,f5])/\(f0.type=3/\f1.type=3/\f2.type=31/\f3.type=32/\f4.type=3/\f5.type=3)/\(f0.offset=0∧f1.offset=1∧f2.offset=2∧f3.offset=34∧f4.offset=35∧f5.offset=36)∧(f0.name≠ "_" ∧f1.name≠ "_" ∧f2.name≠ "_" ∧f3.name≠ "_" ∧f4.name≠ "_" ∧f5.name≠ "_"):=
 ⟨_,_,_,_,_,_,Tryz.underlying34,⟨rfl,rfl,rfl,rfl,rfl,rfl⟩,⟨rfl,rfl,rfl,rfl,rfl,rfl⟩,by decide⟩
theorem c0G:∃f0 f1 f2 f3 f4:Field,prog.underlying 37=some (.struct #[f0,f1,f2,f3,f4])/\(f0.type=3/\f1.type=3/\f2.type=3/\f3.type=31/\f4.type=31)/\(f0.offset=0∧f1.offset=1∧f2.offset=2∧f3.offset=3∧f4.offset=35)∧(f0.name≠ "_" ∧f1.name≠ "_" ∧f2.name≠ "_" ∧f3.name≠ "_" ∧f4.name≠ "_"):=
 ⟨_,_,_,_,_,Tryz.underlying37,⟨rfl,rfl,rfl,rfl,rfl⟩,⟨rfl,rfl,rfl,rfl,rfl⟩,by decide⟩
theorem d1T:prog.cellsOf 34=37:=ρk
theorem c0E:prog.cellsOf 37=67:=ρk
theorem d3P:prog.cellsOf 32=1:=ρk
theorem c5j(d:Nat)(h:0<=x/\x<=18446744073709551615):prog.keyLits (d+1) 32 [.int .u64 x]=some [.int .u64 x]:=by
 unfold Program.keyLits
 have:(Lit.int .u64 x).wf=true:=by
  simp only[Lit.wf];rw[show IntKind.u64.min=0 from rfl,show IntKind.u64.max=18446744073709551615 from rfl];simp[h]
 simp[this]
def c6W(e:a1P):List Lit:=[.int .i64 e.kind,.int .i64 e.sh]++e.tx.map (Lit.int .u8)++[.int .u64 e.am,.int .i64 e.why,.int .i64 e.ep]
def b1C(h:a0Q):List Lit:=[.int .i64 h.sh,.int .i64 h.ht,.int .i64 h.ep]++h.prev.map (Lit.int .u8)++h.root.map (Lit.int .u8)
theorem b7B(d:Nat){e:a1P}(h:e.Bd):prog.keyLits (d+3) 34 (a0x e)=some (c6W e):=by
 obtain⟨J,K,O,Q,P,N,D,⟨t0,t1,t2,t3,t4,t5⟩,⟨G,x,w,z,E,p⟩,v,H,I,m,o,j⟩:=d0g;have y:((a0x e).drop 0).take 1=[.int .i64 e.kind]:=rfl;have r:((a0x e).drop 1).take 1=[.int .i64 e.sh]:=rfl;have b:(bys e.tx).length=32:=by rw[a0a,h.tx.1]
 have a:∀k,(a0x e).drop (k+2)=(bys e.tx++[Value.int .u64 e.am,Value.int .i64 e.why,Value.int .i64 e.ep]).drop k:=λk=>by
  unfold a0x
  simp
 have f:((a0x e).drop 2).take 32=bys e.tx:=by
  rw[a 0,Zs,QJ ρo,Qb ρo]
 have g:((a0x e).drop 34).take 1=[.int .u64 e.am]:=by
  rw[a 32,Zw ρo,QQ ρo];rfl
 have F:((a0x e).drop 35).take 1=[.int .i64 e.why]:=by
  rw[a 33,QR,QQ ρo,b];rfl
 have B:((a0x e).drop 36).take 1=[.int .i64 e.ep]:=by
  rw[a 34,QR,QQ ρo,b];rfl
 unfold Program.keyLits;simp only[D];rw[if_pos ⟨by rw[d1T];exact a0u h,by simp[v,H,I,m,o,j]⟩]
 rw[Zg,Zg,Zg,Zg,Zg,Zg,List.mapM_nil,t0,t1,t2,t3,t4,t5,G,x,w,z,E,p,cId,d1H,d3P,y,r,f,g,F,B,
  a6a _ h.tx.1 h.tx.2,a4t _ h.kind,a4t _ h.sh,c5j _ h.am,a4t _ h.why,a4t _ h.ep]
 simp[c6W]
theorem a8n(d:Nat){h:a0Q}(a:h.Bd):prog.keyLits (d+3) 37 (a0b h)=some (b1C h):=by
 obtain⟨H,I,K,O,N,z,⟨t0,t1,t2,t3,t4⟩,⟨E,w,v,y,B⟩,r,F,G,j,m⟩:=c0G;have x:((a0b h).drop 0).take 1=[.int .i64 h.sh]:=rfl;have p:((a0b h).drop 1).take 1=[.int .i64 h.ht]:=rfl;have f:((a0b h).drop 2).take 1=[.int .i64 h.ep]:=rfl;have J:(bys h.prev).length=32:=by rw[a0a,a.prev.1]
 have o:(bys h.root).length=32:=by rw[a0a,a.root.1]
 have b:∀k,(a0b h).drop (k+3)=(bys h.prev++bys h.root).drop k:=λk=>by
  unfold a0b
  simp
 have g:((a0b h).drop 3).take 32=bys h.prev:=by
  rw[b 0,Zs,QJ ρo,Qb ρo]
 have D:((a0b h).drop 35).take 32=bys h.root:=by
  rw[b 32,Zw ρo,QQ ρo,QF,Qb ρo]
 unfold Program.keyLits;simp only[z];rw[if_pos ⟨by rw[c0E];exact a0f a,by simp[r,F,G,j,m]⟩]
 rw[Zg,Zg,Zg,Zg,Zg,List.mapM_nil,t0,t1,t2,t3,t4,E,w,v,y,B,cId,d1H,x,p,f,g,D,
  a6a _ a.prev.1 a.prev.2,a6a _ a.root.1 a.root.2,a4t _ a.sh,a4t _ a.ht,a4t _ a.ep]
 simp[b1C]
theorem c1i{e f:a1P}(a:e.Bd)(b:f.Bd)(w:WD):∃r:Bool,(EQs 34 (.agg (a0x e).toArray) (.agg (a0x f).toArray)).run prog w=.ok (.bool r) w/\(r=true↔c6W e=c6W f):=by
 unfold EQs;obtain⟨y,p,m,v,o,x,g,_⟩:=d0g
 obtain⟨r,j,d⟩:=run_equalIn_deep (P:=prog) 9997 3 34 ρk w 3 3 (.agg (a0x e).toArray) (.agg (a0x f).toArray) _ _
  (by simp[Value.formed,g,d1T,a0u a]) (by simp[Value.formed,g,d1T,a0u b]) (by simpa[Value.cells]using b7B 0 a) (by simpa[Value.cells]using b7B 0 b)
 refine⟨r,?_,d⟩;rw[run_eql_struct,show(10000:Nat)=9997+3 from rfl,j]
 rfl
theorem b7O{e f:a0Q}(a:e.Bd)(b:f.Bd)(w:WD):∃r:Bool,(NEs 37 (.agg (a0b e).toArray) (.agg (a0b f).toArray)).run prog w=.ok (.bool (!r)) w/\(r=true↔b1C e=b1C f):=by
 unfold NEs;obtain⟨x,p,m,v,o,g,_⟩:=c0G
 obtain⟨r,j,d⟩:=run_equalIn_deep (P:=prog) 9997 3 37 ρk w 3 3 (.agg (a0b e).toArray) (.agg (a0b f).toArray) _ _
  (by simp[Value.formed,g,c0E,a0f a]) (by simp[Value.formed,g,c0E,a0f b]) (by simpa[Value.cells]using a8n 0 a) (by simpa[Value.cells]using a8n 0 b)
 refine⟨r,?_,d⟩;simp only[binOp];rw[show(Op.equal 37 (.agg (a0b e).toArray) (.agg (a0b f).toArray))=Op.equalIn (9997+3) 37 (.agg (a0b e).toArray) (.agg (a0b f).toArray)from rfl];simp[j]
attribute [local go_sem ↓] a1W a1l a3j a5P b0a a8b
theorem a6k(n lo hi:Int)(w:WD):Calls prog 263 #[.int .i64 n,.int .i64 lo,.int .i64 hi] w λe w'=>e=.returned (.bool (decide (lo<=n/\n<=hi)))/\w=w':=by
 by_cases a:lo<=n
 ·by_cases b:n<=hi
  ·have hd:decide (lo<=n/\n<=hi)=true:=by simp[a,b]
   rw[hd];clear hd;go_in;go_wp2;go_ret;exact⟨rfl,rfl⟩
  have hd:decide (lo<=n/\n<=hi)=false:=by simp[b]
  rw[hd];clear hd;go_in;go_wp2;go_ret;exact⟨rfl,rfl⟩
 have hd:decide (lo<=n/\n<=hi)=false:=by simp[a]
 rw[hd];clear hd;go_in;go_wp2;go_ret;exact⟨rfl,rfl⟩
theorem a7P(n lo hi:Int)(w:WD):Calls prog 104 #[.int .i64 n,.int .i64 lo,.int .i64 hi] w λe w'=>e=.returned (.bool (decide (lo<=n/\n<=hi)))/\w=w':=by
 by_cases a:lo<=n
 ·by_cases b:n<=hi
  ·have hd:decide (lo<=n/\n<=hi)=true:=by simp[a,b]
   rw[hd];clear hd;go_in;go_wp2;go_ret;exact⟨rfl,rfl⟩
  have hd:decide (lo<=n/\n<=hi)=false:=by simp[b]
  rw[hd];clear hd;go_in;go_wp2;go_ret;exact⟨rfl,rfl⟩
 have hd:decide (lo<=n/\n<=hi)=false:=by simp[a]
 rw[hd];clear hd;go_in;go_wp2;go_ret;exact⟨rfl,rfl⟩
end
abbrev c5n:=bdOf 191
abbrev c2E:=bdOf 56
theorem c5p(n:Nat)(a:Array (Nat×VL)):Instr.buildSlice 50 n a=BSs 50 n a:=rfl
theorem c0B(n:Nat)(a:Array (Nat×VL)):Instr.buildSlice 51 n a=BSs 51 n a:=rfl
theorem d0z:prog.underlying 50=some (.slice 191):=ρk
theorem c6y:prog.underlying 51=some (.slice 56):=ρk
theorem d2a:(prog.info? 191).map (λi=>(i.zero.map (·.cells.size),i.size))=some (some 35,35):=ρk
theorem d1b:(prog.info? 56).map (λi=>(i.zero.map (·.cells.size),i.size))=some (some 33,33):=ρk
theorem d2v:a3s prog 189=some [(0,32),(32,1)]:=ρk
theorem d2T:(((prog.info? 189).bind (·.zero)).map (·.cells.toList))=some (ptL (List.replicate 32 0) 0):=ρk
abbrev c4u:=bdOf 189
theorem d2L(a:tx.length=32)(ix:Int)(w:WD):(BDs 189 #[(0,.agg (bys tx).toArray),(1,.int .i64 ix)]).run prog w=.ok (.agg (ptL tx ix).toArray) w:=by
 refine a2H d2v d2T _ _ ?_ w;rw[a0v (off:=0) (size:=32) rfl (by simp[Value.cells,a0a,a]) (by simp[ptL,a0a])]
 have b:(ptL (List.replicate 32 0) 0).take 0++(Value.agg (bys tx).toArray).cells.toList++(ptL (List.replicate 32 0) 0).drop (0+32)=ptL tx 0:=by
  unfold ptL;simp[Value.cells,a0a]
 rw[b,a0v (off:=32) (size:=1) rfl rfl (by simp[ptL,a0a,a]),a1Y]
 congr 1
 unfold ptL;simp[Value.cells,a0a,a,QR]
theorem d1X:a3s prog 191=some [(0,33),(33,1),(34,1)]:=ρk
theorem d1S:(((prog.info? 191).bind (·.zero)).map (·.cells.toList))=some (inV ⟨List.replicate 32 0,0,0,[]⟩ none 0):=ρk
theorem d1o:a3s prog 56=some [(0,32),(32,1)]:=ρk
theorem c9H:(((prog.info? 56).bind (·.zero)).map (·.cells.toList))=some (a1s ⟨List.replicate 32 0,0⟩):=ρk
theorem c8p(a:tx.length=32)(ix:Int)(w:WD):(BDs 191 #[(0,.agg (ptL tx ix).toArray)]).run prog w=.ok (.agg (inV ⟨tx,ix,0,[]⟩ none 0).toArray) w:=by
 refine a2H d1X d1S _ _ ?_ w;rw[a0v (off:=0) (size:=33) rfl (by simp[Value.cells,a1x a]) (by simp[inV,ptL,a0a]),a1Y]
 rfl
theorem c3I(a:ow.length=32)(w:WD):(BDs 56 #[(0,.agg (bys ow).toArray)]).run prog w=.ok (.agg (a1s ⟨ow,0⟩).toArray) w:=by
 refine a2H d1o c9H _ _ ?_ w;rw[a0v (off:=0) (size:=32) rfl (by simp[Value.cells,a0a,a]) (by simp[a1s,a0a]),a1Y]
 rfl
theorem c2s(a:tx.length=32)(ix am:Int):(inV ⟨tx,ix,0,[]⟩ none 0).toArray.setIfInBounds 33 (.int .u64 am)=(inV ⟨tx,ix,am,[]⟩ none 0).toArray:=by
 unfold inV
 apply ZM
 simp[ptL,a0a,a]
theorem c0j(a:tx.length=32)(ix am:Int)(sec:LI)(A:OA)(c:Nat):(inV ⟨tx,ix,am,[]⟩ none 0).toArray.setIfInBounds 34 (.slice A sec.length c)=(inV ⟨tx,ix,am,sec⟩ A c).toArray:=by
 unfold inV
 apply ZM
 simp[ptL,a0a,a]
theorem b8A(a:ow.length=32)(am:Int):(a1s ⟨ow,0⟩).toArray.setIfInBounds 32 (.int .u64 am)=(a1s ⟨ow,am⟩).toArray:=by
 unfold a1s
 apply ZM
 simp[a0a,a]
theorem d3q:(prog.info? 191).map (λi=>(i.zero.map (·.cells.size),i.size,i.bytes))=some (some 35,35,72):=ρk
theorem d2i:(prog.info? 56).map (λi=>(i.zero.map (·.cells.size),i.size,i.bytes))=some (some 33,33,40):=ρk
theorem c5C(xs:AV)(t:TI):Builtin.append_ #[50,50] t xs=APs #[50,50] t xs:=rfl
theorem c0v(xs:AV)(t:TI):Builtin.append_ #[51,51] t xs=APs #[51,51] t xs:=rfl
theorem a0J{P:PG}{t:TI}{n:Nat}(b:(P.underlying t).map a1f=some true)(hi:(P.info? t).map (·.size)=some n){w:WD}{g:Nat}{e:TI}(xs:LV)(d:Blk w g e xs.toArray)(a:xs.length=n):(LDs t (.pointer g)).run P w=.ok (.agg xs.toArray) w:=a0g b hi d (off:=0) xs a (by simp[Qb,a])
abbrev Pb:=@a0J prog
abbrev b7r:=ldOf 53
theorem d1L:(prog.underlying 53).map a1f=some true:=ρk
theorem b8N:(prog.info? 53).map (·.size)=some 4:=ρk
abbrev b8h:=stOf 53
abbrev b8b:=alOf 53
theorem d0B(w:WD):(ALs 53).run prog w=.ok (.pointer w) (w.alloc (.cells #[.slice none 0 0,.slice none 0 0,.int .u64 0,.int .i64 0] 53)):=a0U (.agg #[.slice none 0 0,.slice none 0 0,.int .u64 0,.int .i64 0]) ρk w
def c5J:AV:=#[.slice none 0 0,.slice none 0 0,.int .u64 0,.int .i64 0]
abbrev c4o:=bdOf 53
theorem d1m(w:WD):(BDs 53 #[]).run prog w=.ok (.agg c5J) w:=run_build w _ _ _ ρk
structure a5D(b:Nat)(w:WD)(v:VL)(R:LW)(L:List InD):Prop where
 len:R.length=L.length
 at_:∀j (h:j<L.length),∃B cap,R[j]? =some (inV L[j] B cap)/\Byt w B L[j].sec/\L[j].sec.length<=cap/\(B=none->cap=0)/\L[j].sec.length<=64/\∀a,B=some a->b<=a.block/\a.block<w.heap.size/\v.ownBlock≠some a.block
theorem a5D.nil(b:Nat)(w:WD)(v:VL):a5D b w v [] []:=⟨rfl,λj h=>absurd h ρp⟩
theorem a5D.fr{b:Nat}{w d:WD}{v:VL}{R:LW}{L:List InD}{F:Nat->Prop}(h:a5D b w v R L)(f:Fr F w d)(g:∀k,b<=k->k<w.heap.size->¬F k):a5D b d v R L:=⟨h.len,λj hj=>by
 obtain⟨B,cap,h1,h2,h3,h4,h5,h6⟩:=h.at_ j hj;exact⟨B,cap,h1,h2.fr f (λa ha _=>g _ (h6 a ha).1 (h6 a ha).2.1),h3,h4,h5,λa ha=>⟨(h6 a ha).1,Qh (h6 a ha).2.1 f.size,(h6 a ha).2.2⟩⟩⟩
theorem a5D.below{b:Nat}{w d:WD}{v:VL}{R:LW}{L:List InD}(h:a5D b w v R L)(f:Below w w d):a5D b d v R L:=⟨h.len,λj hj=>by
 obtain⟨B,cap,h1,h2,h3,h4,h5,h6⟩:=h.at_ j hj;exact⟨B,cap,h1,h2.below f,h3,h4,h5,λa ha=>⟨(h6 a ha).1,Qh (h6 a ha).2.1 f.size,(h6 a ha).2.2⟩⟩⟩
theorem a5D.grow{d:WD}{f:VL}{L:List InD}(h:a5D b w v R L)(g:Fr (λk=>v.ownBlock=some k) w d)(ht:a7W w v f):a5D b d f R L:=⟨h.len,λj hj=>by
 obtain⟨B,cap,h1,h2,h3,h4,h5,h6⟩:=h.at_ j hj;refine⟨B,cap,h1,h2.fr g (λa ha _ e=>(h6 a ha).2.2 e),h3,h4,h5,λa ha=>⟨(h6 a ha).1,Qh (h6 a ha).2.1 g.size,λe=>?_⟩⟩
 rcases ht _ e with h7 | h7
 ·exact(h6 a ha).2.2 h7
 have:=(h6 a ha).2.1;omega⟩
theorem a5D.snoc{L:List InD}(h:a5D b w v R L){i:InD}{B:OA}(g:Byt w B i.sec)(d:i.sec.length<=cap)(m:B=none->cap=0)(o:i.sec.length<=64)(f:∀a,B=some a->b<=a.block/\a.block<w.heap.size/\v.ownBlock≠some a.block):a5D b w v (R++[inV i B cap]) (L++[i]):=by
 have x:=h.len;refine⟨by simp[x],λj z=>?_⟩
 by_cases p:j<L.length
 ·obtain⟨D,r,G,E,I,F,H,y⟩:=h.at_ j p
  rw[ZK p,QO ρo];exact⟨D,r,G,E,I,F,H,y⟩
 obtain rfl:j=L.length:=by simp at z;omega
 refine⟨B,cap,?_,?_,?_,m,?_,f⟩
 ·rw[QL ρo];simp[x]
 ·simpa using g
 ·simpa using d
 simpa using o
theorem a5D.ins{L:List InD}(h:a5D b w v R L)(a:RdR 35 w A R):b4z w A L:=λj hj=>by
 obtain⟨B,cap,h1,h2,h3,h4,h5,_⟩:=h.at_ j hj;obtain⟨hjr,h1e⟩:=Qm.1 h1;obtain⟨g,off,e,hg,hc⟩:=a j hjr;exact⟨g,off,B,cap,e,hg,⟨λk x hx=>hc k x (ρy h1e hx),h2,h3,h4,by unfold maxLen;omega⟩⟩
theorem c6Z{L:List a1q}(a:RdR 33 w A (L.map a1s)):b4c w A L:=λj hj=>by
 obtain⟨g,off,e,hg,hc⟩:=a j (ρw hj);exact⟨g,off,e,hg,λk x hx=>hc k x (ρw hx)⟩
def a4W(b:Nat)(w:WD)(A1 A2:OA)(t:TxD):Prop:=∀(F:Nat->Prop) (w':WD),Fr F w w'->(∀k,b<=k->¬F k)->a9H w' A1 A2 t
theorem a4W.at_{a d:OA}{t:TxD}(h:a4W b w a d t):a9H w a d t:=h (λ_=>False) w (Qp _ _) (λ_ _=>id)
theorem a4W.fr{d:OA}{t:TxD}{F:Nat->Prop}(h:a4W b w d f t)(g:Fr F w a)(j:∀k,b<=k->¬F k):a4W b a d f t:=λG w2 hg hG=>
 h (λk=>F k\/G k) w2 ((g.mono (λ_ _ h=>.inl h)).trans (hg.mono (G:=λk=>F k\/G k) (λ_ _ h=>.inr h)) (λ_ _ h=>h)) (λk hk e=>e.elim (j k hk) (hG k hk))
theorem a4W.base{b':Nat}{a d:OA}{t:TxD}(h:a4W b w a d t)(f:b'<=b):a4W b' w a d t:=λF w' hf hn=>h F w' hf (λk hk=>hn k (Qk f hk))
theorem a4W.below{d:OA}{t:TxD}(h:a4W b w d f t)(g:Below w w a):a4W b a d f t:=λF w2 hf hn=>
 h F w2 (((Q9 g).mono (G:=F) (λk hk e=>absurd e ρo)).trans hf (λ_ _ h=>h)) hn
theorem a4W.of{u:VL}{t:TxD}(a:a0T 191 35 b w v R)(f:a5D b w v R t.ins)(d:a0T 56 33 b w u (t.outs.map a1s))(g:t.Bd):∃A1 c1 A2 c2,v=.slice A1 t.ins.length c1/\u=.slice A2 t.outs.length c2/\a4W b w A1 A2 t:=by
 obtain⟨A1,c1,D,_⟩:=a.rd;obtain⟨A2,c2,p,_⟩:=d.rd;rw[f.len]at D;rw[Qw]at p;refine⟨A1,c1,A2,c2,D,p,λF I r B=>?_⟩;have y:=a.fr r (λk o=>B k (a.lt o).1);have z:=d.fr r (λk o=>B k (d.lt o).1);have x:=f.fr r (λk o _=>B k o);obtain⟨K,J,m,E,_⟩:=y.rd;obtain⟨N,H,j,G,_⟩:=z.rd;rw[D]at m;rw[p]at j
 injection m with m
 injection j with j
 subst m j;exact⟨x.ins E,c6Z G,g⟩
section
abbrev a6i:=bdOf 31
theorem b1S(w:WD):(BDs 31 #[]).run prog w=.ok (.agg (bys (List.replicate 32 0)).toArray) w:=ρk
attribute [local go_sem ↓] a2t a2s a2n a6i
theorem c7O(t:TxD)(h:a1a t=0):idP t=a3x (8::(a6s (b3c t).length++b3c t)):=by
 unfold idP b3c;rw[if_pos h,if_pos h];unfold a1K a3m
 simp
theorem a5g:prog.underlying 31=some (.array 32 5):=b1w
theorem c9n{t:TxD}(h:t.Bd):∀x∈b3c t,0<=x/\x<=255:=by
 unfold b3c
 split
 ·rename_i hc
  exact b4h h (a4S hc).1
 simp
theorem c4B{t:TxD}(h:t.Bd):(b3c t).length<=2660:=by
 unfold b3c
 split
 ·rename_i hc
  exact b2t h (a4S hc).1
 simp
theorem a0N.nulI(h:a0N B w (.slice none n c) l):c=0:=by
 obtain⟨_,⟨a,_⟩ | ⟨g,cap,b,a,_⟩⟩:=h
 ·simp only[Value.slice.injEq]at a
  exact a.2.2
 simp at a
theorem a2v(a:OA)(d:Nat)(b:OA)(f:Nat)(t:TxD)(w:WD)(h:a9H w a b t)(j:a2x w)(o:t.ins.length<=1000000)(m:t.outs.length<=1000000):Calls prog 162 #[.agg (txV a d b f t)] w λe w'=>e=.returned (.agg (bys (idP t)).toArray)/\Below w w w':=by
 obtain⟨z,aj,X⟩:=Q8.1 b9C;have E:=Pc (t:=31) z aj (w.alloc (.cells (txV a d b f t) 53));have⟨Z,hZ⟩:=η0 z.cells;rw[hZ]at E X;have ad:Z.size=32:=by rw[<-QD,X];rfl
 have T:=(Qd w 53 (txV a d b f t)).alloc (.cells Z 31);have bz:=Qd (w.alloc (.cells (txV a d b f t) 53)) 31 Z;have B0:Below w w ((w.alloc (.cells (txV a d b f t) 53)).alloc (.cells Z 31)):=(ρb w _).alloc ρp _;simp only[Qi]at E bz;have⟨W,hW⟩:=η0 ((w.alloc (.cells (txV a d b f t) 53)).alloc (.cells Z 31));have⟨g,hg⟩:=ηs w;rw[hW]at B0 E;rw[hW,hg]at T bz;rw[hg]at E;have aC:g<W.heap.size:=T.lt;have hT:=h.below B0;have q0:W.cell? ⟨g,0,none⟩=some (.slice a t.ins.length d):=T.cell 0;have q1:W.cell? ⟨g,1,none⟩=some (.slice b t.outs.length f):=T.cell 1;have q2:W.cell? ⟨g,2,none⟩=some (.int .u64 t.fee):=T.cell 2;have q3:W.cell? ⟨g,3,none⟩=some (.int .i64 t.exp):=T.cell 3;have Q:=b9Z a d b f t W hT o m;have⟨D,hD⟩:=η0 (idP t);have O:(bys D).length=32:=by rw[a0a,<-hD];exact a3b t
 rw[hD];have⟨HD,p,HW,HG,K,ah,HZ,ao⟩:=η8 hD O hW hg B0 bz ad (j.below B0);have ab:∀x∈b3c t,0<=x/\x<=255:=c9n h.bd;have aB:(b3c t).length<=2660:=c4B h.bd;have⟨az,B⟩:=η2 ab Q;have⟨R,hR⟩:=η0 (a1a t);rw[hR]at B;have HR:=η1 hR;clear hD O hW hg B0 bz ad j ab Q hR T aj X hZ h o m hT;unfold txV at HW B E⊢
 by_cases ak:R=0
 ·subst ak
  have hid:=c7O t HR;rw[HD.o]at hid;have ar:=η1 hid;clear hid;go_in;go_upto_region 1 with fail
  rw[HG.o];go_wp2_with fail;refine μ1 B.o ?_;rintro e w1 ⟨v,rfl,hv,r⟩;obtain⟨Af,cf,al,ag,au,aq⟩:=hv.byt az;have ac:Af=none->cf=0:=λe=>by subst e;subst al;exact a0N.nulI hv
  subst al;have I:=Qd w1 22 #[.slice Af (b3c t).length cf];have B2:=ρb w1 (.cells #[.slice Af (b3c t).length cf] 22);have F:=(ao.below r).below B2;have H:=ag.below B2;have N:=r.size;have aa:=r.trans (B2.mono N)
  generalize S:w1.alloc (.cells #[.slice Af (b3c t).length cf] 22)=w2 at I F H aa
  have Y:=a8z 8 ρo w1.heap.size 0 1 Af cf ac (b3c t) w2 I.lt (I.cell 0) H ρo F;rw[<-ar.o]at Y
  generalize ay:(b3c t).length=np at S⊢
  have⟨an,af⟩:=η2 S aa;clear hv ag au aq ac I B2 F H N aa S r ay;go_wp2_with fail;rw[an.o];refine μi Y ?_;intro w3 ae;have G:=φt af ae;have y:=φf ah G;have J:=Pa (t:=31) a5m y (off:=0) (bys D) p.o (by rw[HZ.o];omega) (a0h _);rw[a0q _ _ (by rw[p.o,HZ.o])]at J;have⟨ai,U⟩:=η2 G y;clear Y ae G y;go_wp2;exact bodyPost_ret (a0c rfl _ _ (g+1) 31 (bys D) _ rfl (U.row_ _) a5g rfl (ρy p.o a5m)) rfl ⟨rfl,Ql (K.trans (ai.mono K.size)) (by rw[HG.o];omega) _⟩
 have hid:D=List.replicate 32 0:=by rw[<-HD.o];unfold idP;rw[HR.o,if_neg ak]
 subst hid;go_in;go_upto_region 1 with fail
 rw[HG.o];go_wp2_with fail;refine μ1 B.o ?_;rintro e w1 ⟨v,rfl,hv,r⟩;have y:=φf ah r;have J:=Pa (t:=31) a5m y (off:=0) (bys (List.replicate 32 0)) p.o (by rw[HZ.o];omega) (a0h _);rw[a0q _ _ (by rw[p.o,HZ.o])]at J;have ax:=λW=>b1S W
 have⟨ys,V⟩:=η0 (bys (List.replicate 32 0));rw[V]at J ax p;have⟨av,aA,U⟩:=η3 V r y;clear hv r y V;go_wp2;exact bodyPost_ret (a0c rfl _ _ (g+1) 31 ys _ rfl (U.row_ _) a5g rfl (ρy p.o a5m)) rfl ⟨by rw[<-av.o],Ql (K.trans (aA.mono K.size)) (by rw[HG.o];omega) _⟩
end
section
attribute [local go_sem ↓] a1W a1l a3j a5P b0a a8b
theorem a6I{e:a1P}(h:e.Bd):(a0x e).toArray[34]? =some (.int .u64 e.am)/\(a0x e).toArray[35]? =some (.int .i64 e.why)/\(a0x e).toArray[36]? =some (.int .i64 e.ep):=by
 have a:(bys e.tx).length=32:=by rw[a0a,h.tx.1]
 unfold a0x;refine⟨?_,?_,?_⟩<;>simp[a]
theorem c0V{e:a1P}(h:c6W e=c6W a4i):a0D e=false:=by
 have:e.kind=0:=by
  simp only[c6W,QG,List.cons.injEq,Lit.int.injEq]at h;exact h.1.2
 unfold a0D;simp[this]
theorem b8v{h:a0Q}(e:b1C h=b1C a1y):a0w h=false:=by
 have:h.ht=0:=by
  simp only[b1C,QG,List.cons.injEq,Lit.int.injEq]at e;exact e.2.1.2
 unfold a0w;simp[this]
theorem a9B(e:a1P)(b:e.Bd)(w:WD):Calls prog 233 #[.agg (a0x e).toArray] w λx w'=>x=.returned (.bool (a0D e))/\Below w w w':=by
 have m:=Qd w 34 (a0x e).toArray;have T:=ρb w (.cells (a0x e).toArray 34);have⟨W,p⟩:=η0 (w.alloc (.cells (a0x e).toArray 34));have⟨g,J⟩:=ηs w;rw[p]at T;rw[p,J]at m;have k0:W.cell? ⟨g,0,none⟩=some (.int .i64 e.kind):=m.cell 0;have k1:W.cell? ⟨g,1,none⟩=some (.int .i64 e.sh):=m.cell 1;have Y:W.cell? ⟨g,34,none⟩=some (.int .u64 e.am):=(m.cell 34).trans (a6I b).1;have K:W.cell? ⟨g,35,none⟩=some (.int .i64 e.why):=(m.cell 35).trans (a6I b).2.1;have I:W.cell? ⟨g,36,none⟩=some (.int .i64 e.ep):=(m.cell 36).trans (a6I b).2.2;have U:=P6 b3q a8Q m (off:=0) (a0x e) (a0u b) (by simp[Qb,a0u b]);have X:=c6p;obtain⟨r,hr,o⟩:=c1i b a3T W;have⟨z,Z⟩:=η0 ((a0x a4i).toArray);have⟨y,hy⟩:=η0 ((a0x e).toArray);have j:=λh=>c0V (o.1 h)
 have⟨b1,O⟩:=η0 (decide (1<=e.kind/\e.kind<=3));have⟨b2,H⟩:=η0 (decide (0<=e.sh/\e.sh<=63));have⟨b4,N⟩:=η0 (decide (0<=e.why/\e.why<=63));have⟨b5,Q⟩:=η0 (decide (0<=e.ep/\e.ep<=1099511627776))
 have V:a0D e=(b1&&(b2&&(decide (e.am<=4611686018427387904)&&(b4&&b5)))):=by
  rw[<-O,<-H,<-N,<-Q];unfold a0D;simp only[Bool.decide_and,Bool.and_assoc]
 have E:=a6k e.kind 1 3 W;have F:=a6k e.sh 0 63 W;have D:=a6k e.why 0 63 W;have G:=a6k e.ep 0 1099511627776 W;rw[O]at E;rw[H]at F;rw[N]at D;rw[Q]at G
 generalize S:a0D e=R at V j⊢
 rw[hy]at p hr U⊢;rw[Z]at hr X;obtain⟨a,s,tx,am,wy,ep⟩:=e;simp only at k0 k1 Y K I E F D G j⊢;have⟨HW,HG,d,B,v⟩:=η5 p J T j V;clear p J T m o Z hy b V O H N Q j S;go_in;go_upto_region 1 with fail
 rw[HW.o,HG.o]
 cases r with
 |
  true=>
  go_wp2;go_ret;exact⟨by rw[show R=false from B.o ρp];rfl,d.o⟩
 |
  false=>
  clear B;go_wp2_with fail;refine μi E ?_;intro w' f;rw[<-f];clear f E
  cases b1 with
  |
   false=>
   go_wp2;go_ret;exact⟨by rw[v.o];simp,d.o⟩
  |
   true=>
   go_wp2_with fail;refine μi F ?_;intro w' f;rw[<-f];clear f F
   cases b2 with
   |
    false=>
    go_wp2;go_ret;exact⟨by rw[v.o];simp,d.o⟩
   |
    true=>
    by_cases h3:am<=4611686018427387904
    ·go_wp2_with fail
     refine μi D ?_;intro w' f;rw[<-f];clear f D
     cases b4 with
     |
      false=>
      go_wp2;go_ret;exact⟨by rw[v.o];simp,d.o⟩
     |
      true=>
      go_wp2_with fail;refine μi G ?_;intro w' f;rw[<-f];clear f G;go_wp2;go_ret;exact⟨by rw[v.o];simp[h3],d.o⟩
    go_wp2;go_ret;exact⟨by rw[v.o];simp[show¬am<=4611686018427387904 by omega],d.o⟩
theorem a2f(h:a0Q)(b:h.Bd)(w:WD):Calls prog 47 #[.agg (a0b h).toArray] w λx w'=>x=.returned (.bool (a0w h))/\Below w w w':=by
 have o:=Qd w 37 (a0b h).toArray;have N:=ρb w (.cells (a0b h).toArray 37);have⟨W,p⟩:=η0 (w.alloc (.cells (a0b h).toArray 37));have⟨g,H⟩:=ηs w;rw[p]at N;rw[p,H]at o;have k0:W.cell? ⟨g,0,none⟩=some (.int .i64 h.sh):=o.cell 0;have k1:W.cell? ⟨g,1,none⟩=some (.int .i64 h.ht):=o.cell 1;have k2:W.cell? ⟨g,2,none⟩=some (.int .i64 h.ep):=o.cell 2;have Q:=P6 a1S a1h o (off:=0) (a0b h) (a0f b) (by simp[Qb,a0f b]);have T:=b2Y;obtain⟨r,E,j⟩:=b7O b a1A W;have⟨z,V⟩:=η0 ((a0b a1y).toArray);have⟨y,X⟩:=η0 ((a0b h).toArray);have f:=λe=>b8v (j.1 e)
 have⟨b1,I⟩:=η0 (decide (0<=h.sh/\h.sh<=63));have⟨Y,G⟩:=η0 (decide (1<=h.ht/\h.ht<=1099511627776));have⟨b3,O⟩:=η0 (decide (0<=h.ep/\h.ep<=1099511627776))
 have S:a0w h=(b1&&(Y&&b3)):=by
  rw[<-I,<-G,<-O];unfold a0w;simp only[Bool.decide_and,Bool.and_assoc]
 have B:=a7P h.sh 0 63 W;have F:=a7P h.ht 1 1099511627776 W;have D:=a7P h.ep 0 1099511627776 W;rw[I]at B;rw[G]at F;rw[O]at D
 generalize J:a0w h=R at S f⊢
 rw[X]at p E Q⊢;rw[V]at E T;obtain⟨a,s,ep,prev,root⟩:=h;simp only at k0 k1 k2 B F D f⊢;have⟨Z,U,d,v,K⟩:=η5 p H N f S;clear p H N o j V X b S I G O f J
 cases r with
 |
  true=>
  rw[Bool.not_true]at E;go_in;go_upto_region 1 with fail
  rw[Z.o,U.o];go_wp2;go_ret;exact⟨by rw[show R=false from v.o ρp];rfl,d.o⟩
 |
  false=>
  rw[Bool.not_false]at E;clear v;go_in;go_upto_region 1 with fail
  rw[Z.o,U.o];go_wp2_with fail;refine μi B ?_;intro w' m;rw[<-m];clear m B
  cases b1 with
  |
   false=>
   go_wp2;go_ret;exact⟨by rw[K.o];simp,d.o⟩
  |
   true=>
   go_wp2_with fail;refine μi F ?_;intro w' m;rw[<-m];clear m F
   cases Y with
   |
    false=>
    go_wp2;go_ret;exact⟨by rw[K.o];simp,d.o⟩
   |
    true=>
    go_wp2_with fail;refine μi D ?_;intro w' m;rw[<-m];clear m D;go_wp2;go_ret;exact⟨by rw[K.o];simp,d.o⟩
end
section
attribute [local go_sem ↓] a2t a2s a2n a6i a3w
theorem b7K(b:LI):a0R b=a3x (1::(a6s b.length++b)):=by
 unfold a0R a1K a3m
 simp
theorem b7d(A:OA)(c:Nat)(j:A=none->c=0)(b:LI)(w:WD)(a:Byt w A b)(d:b.length<=400000000)(f:a2x w):Calls prog 267 #[.slice A b.length c] w λe w'=>e=.returned (.agg (bys (a0R b)).toArray)/\Below w w w':=by
 obtain⟨z,O,H⟩:=Q8.1 b9C;have I:=Pc (t:=31) z O w;have⟨Z,hZ⟩:=η0 z.cells;rw[hZ]at I H;have Q:Z.size=32:=by rw[<-QD,H];rfl
 have Y:=Qd w 31 Z;have G:=ρb w (.cells Z 31);have⟨W,T⟩:=η0 (w.alloc (.cells Z 31));have⟨g,x⟩:=ηs w;rw[T]at G I;rw[T,x]at Y;rw[x]at I;have J:=ρb W (.cells #[.slice A b.length c] 22);have v:=Qd W 22 #[.slice A b.length c];have r:=(f.below G).below J;have p:=(a.below G).below J
 generalize E:W.alloc (.cells #[.slice A b.length c] 22)=w2 at v r p J
 have y:=a8z 1 ρo W.heap.size 0 1 A c j b w2 v.lt (v.cell 0) p d r;rw[<-b7K]at y
 generalize ad:b.length=np at E⊢
 have⟨D,U⟩:=η0 (a0R b);have B:(bys D).length=32:=by rw[a0a,<-U];exact(Dig.leaf b).1
 rw[U]at y⊢;have N:=G.trans (J.mono G.size);have⟨o,HW,HG,K,ac,HZ,aa,ab⟩:=η8 B T x G Y Q E J;clear B U T x G Y Q E J r p v O H hZ N ad d a f;go_in;go_upto_region 1 with fail
 go_wp2_with fail;rw[aa.o];refine μi y ?_;intro w3 S;have m:=φt ab S;have F:=φf ac m;have V:=Pa (t:=31) a5m F (off:=0) (bys D) o.o (by rw[HZ.o];omega) (a0h _);rw[a0q _ _ (by rw[o.o,HZ.o])]at V;have⟨R,X⟩:=η2 m F;clear y S m F;go_wp2;exact bodyPost_ret (a0c rfl _ _ g 31 (bys D) _ rfl (X.row_ _) a5g rfl (ρy o.o a5m)) rfl ⟨rfl,Ql (K.trans (R.mono K.size)) (by rw[HG.o];omega) _⟩
theorem b3b(a b:LI)(d:Dig a)(f:Dig b)(w:WD)(g:a2x w):Calls prog 269 #[.agg (bys a).toArray,.agg (bys b).toArray] w λe w'=>e=.returned (.agg (bys (a1n a b)).toArray)/\Below w w w':=by
 have b1:=Qd w 31 (bys a).toArray;have B1:=ρb w (.cells (bys a).toArray 31)
 generalize B:w.alloc (.cells (bys a).toArray 31)=W1 at b1 B1
 have b2:=Qd W1 31 (bys b).toArray;have B2:Below w w (W1.alloc (.cells (bys b).toArray 31)):=B1.alloc B1.size _;have U:=b1.alloc (.cells (bys b).toArray 31)
 generalize H:W1.alloc (.cells (bys b).toArray 31)=W2 at b2 B2 U
 obtain⟨z,ag,S⟩:=Q8.1 b9C;have F:=Pc (t:=31) z ag W2;have⟨Z,hZ⟩:=η0 z.cells;rw[hZ]at F S;have ab:Z.size=32:=by rw[<-QD,S];rfl
 have bz:=Qd W2 31 Z;have B3:Below w w (W2.alloc (.cells Z 31)):=B2.alloc B2.size _;have ba:=U.alloc (.cells Z 31);have bb:=b2.alloc (.cells Z 31)
 generalize hW:W2.alloc (.cells Z 31)=W at bz B3 ba bb F
 have⟨p,r⟩:=ηs w;have⟨G,J⟩:=ηs W1;have⟨gz,I⟩:=ηs W2;rw[r]at ba;rw[J]at bb;rw[I]at bz F;have al:(bys a).length=32:=by rw[a0a,d.1]
 have ak:(bys b).length=32:=by rw[a0a,f.1]
 have v:(bys (a1n a b)).length=32:=by rw[a0a];exact(Dig.node a b).1
 have⟨D,hD⟩:=η0 (a1n a b)
 have m:∀(X:WD) (g':Nat) (l:LI),Dig l->Blk X g' 31 (bys l).toArray->Byt X (some ⟨g',0,none⟩) l:=λX g' l hl ah=>
  ⟨λ_=>⟨g',0,rfl,ah.lt,λj x hx=>by rw[QP,ah.cell j];simp[bys,hx]⟩,hl.2⟩
 have ai:∀X,Below W W X->Calls prog 105 #[.int .u8 2,.slice (some ⟨X.heap.size,0,none⟩) 2 2] (X.alloc (.cells #[.slice p 32 32,.slice G 32 32] 22)) λe w'=>e=.returned (.agg (bys D).toArray)/\Below X.heap.size X w':=λX hX=>by
  have hk:=Qd X 22 #[.slice p 32 32,.slice G 32 32];have hB:=ρb X (.cells #[.slice p 32 32,.slice G 32 32] 22);have aa:=(ba.fr (Q9 hX) (ρh ba.lt)).alloc (.cells #[.slice p 32 32,.slice G 32 32] 22);have Y:=(bb.fr (Q9 hX) (ρh bb.lt)).alloc (.cells #[.slice p 32 32,.slice G 32 32] 22)
  have hT:b8s (X.alloc (.cells #[.slice p 32 32,.slice G 32 32] 22)) (some ⟨X.heap.size,0,none⟩) [.slice p 32 32,.slice G 32 32] [a,b]:=⟨rfl,λ_=>⟨X.heap.size,0,rfl,hk.lt,λj x hx=>by rw[QP,hk.cell j];simpa using hx⟩,λi h h'=>by
   obtain rfl | rfl:i=0\/i=1:=by simp at h;omega
   ·exact⟨some ⟨p,0,none⟩,32,by simp[d.1],m _ _ _ d aa,by simp⟩
   exact⟨some ⟨G,0,none⟩,32,by simp[f.1],m _ _ _ f Y,by simp⟩⟩
  have:=b1c 2 ρo (some ⟨X.heap.size,0,none⟩) 2 _ [a,b] _ hT (λi h h' k V _=>by
   obtain rfl | rfl:i=0\/i=1:=by simp at h;omega
   ·have:p=k:=by simpa[Value.ownBlock]using V
    have:=aa.lt
    omega
   ·have:G=k:=by simpa[Value.ownBlock]using V
    have:=Y.lt
    omega) ρp (by simp[d.1,f.1]) (by
   intro l hl;simp only[Qo,Qt,or_false]at hl
   rcases hl with rfl | rfl
   ·exact d.2
   exact f.2) (((g.below B3).below hX).below hB)
  refine this.mono ?_;rintro e w' ⟨rfl,ao⟩;exact⟨by rw[<-hD];rfl,hB.trans (ao.mono ρp)⟩
 rw[hD]at v⊢;have T:Below W W W.drew:=(Qf _ W).drew;have⟨ya,O⟩:=η0 ((bys a).toArray);have⟨yb,N⟩:=η0 ((bys b).toArray);rw[O]at B⊢;rw[N]at H⊢;have⟨E,az,av,ac,ax,aB,ae,ar⟩:=η8 v B H r J I B3 bz;have⟨HZ,aj⟩:=η2 ab ai;have aq:p<=gz:=by rw[<-r,<-I];exact B2.size
 have Q:W1.heap.size=w.heap.size+1:=by rw[<-B];simp
 rw[<-H,<-B]at F;rw[J,r]at Q;subst Q;have ay:=λX=>Pi b1w i5 X p ρo
 have aA:=λX=>Pi b1w i5 X (p+1) ρo
 clear B H r J I B3 bz ab ai v hD O N m b1 B1 b2 B2 U ba bb ag S hZ al ak d f g hW;go_in;go_upto_region 1 with fail
 rw[ac.o];refine a0s [(0,3),(1,3),(2,2),(3,2),(4,2)] (λ_=>True) ρk ρk ρk ρk trivial ?_;refine ε2 ?_;refine τ1 ?_;have hu:=aj.o W.drew T;rw[show W.drew.heap.size=W.heap.size from rfl,show∀o,W.drew.alloc o=(W.alloc o).drew from λ_=>rfl]at hu;refine τ ?_;intro K hK;refine μi hu ?_;intro w3 ad;have y:=T.trans (ad.mono T.size);have R:=φf ar y;have an:=Pa (t:=31) a5m R (off:=0) (bys D) E.o (by rw[HZ.o];omega) (a0h _);rw[a0q _ _ (by rw[E.o,HZ.o])]at an;have⟨af,au⟩:=η2 y R;clear hu ad y R;with_reducible refine hK _ _ ?_;clear hK K
 refine τ1 ?_;refine ν ?_;go_wp2;exact bodyPost_ret (a0c rfl _ _ gz 31 (bys D) _ rfl (au.row_ _) a5g rfl (ρy E.o a5m)) rfl ⟨rfl,Ql (ae.trans (af.mono ae.size)) (ρy ac.o aq) _⟩
end
section
theorem b7T{a b:Field}{m:Nat}(d:P.underlying t=some (.struct #[a,b])) (hz:((P.info? t).bind (·.zero)).map (·.cells.size)=some (n+m)) (h0:(P.info? a.type).map (·.size)=some n) (h1:(P.info? b.type).map (·.size)=some m) (o0:a.offset=0) (o1:b.offset=n) (w:WD) (v0 v1:VL) (hv0:v0.cells.size=n) (hv1:v1.cells.size=m):(BDs t #[(0,v0),(1,v1)]).run P w=.ok (.agg (v0.cells++v1.cells)) w:=by
 refine run_build w t _ _ ?_;obtain⟨z,g,f⟩:=Q8.1 hz;obtain⟨i,p,j⟩:=Option.bind_eq_some_iff.1 g;obtain⟨y,q0,v⟩:=Q8.1 h0;obtain⟨B,q1,x⟩:=Q8.1 h1;unfold Program.built;simp only[p,d,j,Zg,List.mapM_nil,q0,q1,v,x,o0,o1,Option.map_some,Option.bind_eq_bind,Option.bind_some,Option.pure_def];rw[a9W _ _ 0 0 n v0 _ ρp hv0 ρo,a9W _ _ 1 n m v1 _ ρp hv1 (by rw[a6n _ _ _ (by simp[hv0];omega)];omega)];simp only[Instr.fill,Option.some.injEq]
 apply ZM
 have o:v0.cells.toList.length=n:=ρw hv0;have r:v1.cells.toList.length=m:=ρw hv1;simp[a1d,o,r,QR,f]
abbrev b6z:=bdOf 189
theorem zPt:(((prog.info? 189).bind (·.zero)).map (·.cells.size))=some (32+1):=ρk
theorem d0b:(prog.info? 3).map (·.size)=some 1:=ρk
theorem d2G(a:tx.length=32)(ix:Int)(w:WD):(BDs 189 #[(0,.agg (bys tx).toArray),(1,.int .i64 ix)]).run prog w=.ok (.agg (ptL tx ix).toArray) w:=by
 obtain⟨j,g,f,t0,t1,b,d,_,_⟩:=d2g
 have:=b7T (P:=prog) f zPt (ρy t0 iId) (ρy t1 d0b) b d w (.agg (bys tx).toArray) (.int .i64 ix) (by simp[Value.cells,a0a,a]) rfl
 rw[this];simp[Value.cells,ptL]
theorem b1N:(((prog.info? 31).bind (·.zero)).map (·.cells.size))=some 32:=ρk
attribute [local go_sem ↓] a6W a8U a9c a1F a2t a2s a2n b6z c0I
def b0N(t:TxD)(n:Int):Bool:=decide (a1a t=0/\okN n=true)
theorem a9q(a:OA)(f:Nat)(b:OA)(j:Nat)(t:TxD)(n:Int)(y:-9223372036854775808<=n/\n<=9223372036854775807)(w:WD)(h:a9H w a b t)(m:a2x w)(r:t.ins.length<=1000000)(o:t.outs.length<=1000000):Calls prog 207 #[.agg (txV a f b j t),.int .i64 n] w λe w'=>∃v u,e=.returned (.tuple #[v,u,.bool (b0N t n)])/\a8x w w' v (a2P t n)/\a8x w w' u (a2K t n)/\Below w w w':=by
 have b0:=Qd w 53 (txV a f b j t);have B0:=ρb w (.cells (txV a f b j t) 53);have⟨W,hW⟩:=η0 (w.alloc (.cells (txV a f b j t) 53));have⟨g,hg⟩:=ηs w;rw[hW]at B0;rw[hW,hg]at b0;have al:g<W.heap.size:=b0.lt;have hT:=h.below B0
 have ah:∀X,Below W W X->X.cell? ⟨g,0,none⟩=some (.slice a t.ins.length f)/\X.cell? ⟨g,1,none⟩=some (.slice b t.outs.length j)/\X.cell? ⟨g,2,none⟩=some (.int .u64 t.fee)/\X.cell? ⟨g,3,none⟩=some (.int .i64 t.exp):=λX hX=>
  ⟨(hX.cell (p:=⟨g,0,none⟩) al).trans (b0.cell 0),(hX.cell (p:=⟨g,1,none⟩) al).trans (b0.cell 1),(hX.cell (p:=⟨g,2,none⟩) al).trans (b0.cell 2),(hX.cell (p:=⟨g,3,none⟩) al).trans (b0.cell 3)⟩
 obtain⟨q0,q1,q2,q3⟩:=ah W (Qf _ _);have aM:=a3L a f b j t W hT r o;have hid:=λX (hX:Below W W X)=>a2v a f b j t X (hT.below hX) ((m.below B0).below hX) r o
 have au:=m.below B0;have⟨HW,HG,K,V,HT,an,aL,J⟩:=η8 hW hg B0 ah hT hid au aM;clear hW hg B0 b0 h ah hT aM r o al hid au m;have⟨R,hR⟩:=η0 (a1a t);rw[hR]at J;have HR:=η1 hR;clear hR
 by_cases aa:R=0/\okN n=true
 ·obtain⟨rfl,H⟩:=aa
  have bu:1<=n/\n<=64:=by simpa[okN]using H
  have a7:¬n<1:=ρo;have ba:¬64<n:=ρo;have B:a2P t n=t.ins.map λi=>ofO i.tx i.ix n:=by unfold a2P;rw[if_pos ⟨HR.o,H⟩]
  have z:a2K t n=(List.range t.outs.length).map λk=>ofO (idP t) (k:Nat) n:=by unfold a2K;rw[if_pos ⟨HR.o,H⟩]
  have af:b0N t n=true:=by unfold b0N;rw[decide_eq_true_eq];exact⟨HR.o,H⟩
  rw[B,z,af];clear af;obtain⟨ae,_⟩:=a4S HR;obtain⟨⟨aO,aK⟩,⟨aW,aU⟩,_,aj⟩:=a4R ae;have T:(idP t).length=32:=a3b t;have aG:=a5f t;have⟨D,hD⟩:=η0 (idP t);rw[hD]at T aG an;rw[hD];clear B z hD;obtain⟨B,z,aN⟩:=HT.o;have ax:=aN.ins;obtain⟨ins,outs,fee,exp⟩:=t;simp only at aO aK aW aU aj B z ax;have⟨n1,S⟩:=η0 ins.length;have⟨n2,ac⟩:=η0 outs.length;obtain⟨Z,a8,aP⟩:=Pg (t:=191) iIn zIn;obtain⟨Y,bh,aS⟩:=Pg (t:=31) iId b1N;unfold txV at HW J an⊢;simp only[S,ac]at HW V J an q0 q1 q2 q3⊢;rw[S]at aO aK;rw[ac]at aW aU;have⟨aR,HI,be,bt,bs,bc,bf,bx⟩:=η8 S B ax aj aP aS aG H;clear S ac B z ax aj aP aS ae aN HT aG HR H;go_in;go_upto_region 1 with fail
  rw[HW.o,HG.o];go_wp2_with fail;refine μi J.o ?_;intro w1 F;have O:=η1 F;clear q0 q1 q2 q3;obtain⟨q0,q1,q2,q3⟩:=V.o w1 F;clear F;go_upto_region 4 with fail
  clear q0 q1 q2 q3;go_loopg [4,8,9,10,29] n1 (λkk v _ _ _ s wr=>∃i:Nat,i+kk=n1/\s=.int .i64 i/\a8x W wr v ((ins.map λi=>ofO i.tx i.ix n).take i)/\Below W W wr);exact⟨0,by omega,rfl,by rw[List.take_zero];exact a2X.nil _ _ _ _,O.o⟩;obtain⟨i,hi,rfl,hv,N⟩:=hrel;obtain⟨Av,Nv,cv,rfl⟩:=hv.formN
  by_cases a9:i<n1
  ·have ak:(i:Int)<n1:=ρo
   have aI:i<ins.length:=by rw[aR.o];exact a9
   obtain⟨g',off,As,cs,rfl,bv,aX⟩:=HI.below N i aI;have E:=be.o _ (Qu aI);have bm:=a2e uIn iIn wr g' (off+i*35) (inV ins[i] As cs) (a3l E _ _) aX.cell;have a2:=bs.o wr (inV ins[i] As cs) (a3l E _ _) (a8W _ _ _);have b5:=Qd wr 191 (inV ins[i] As cs).toArray;have aH:=a0g uPt iPt b5 (off:=0) (ptL ins[i].tx ins[i].ix) (a1x E.len _) (b5d E As cs);have B5:=N.alloc N.size (.cells (inV ins[i] As cs).toArray 191);have aA:a8x W (wr.alloc (.cells (inV ins[i] As cs).toArray 191)) (.slice Av Nv cv) ((ins.map λi=>ofO i.tx i.ix n).take i):=a2X.alloc hv _
   have Q:(ins.map λi=>ofO i.tx i.ix n).take (i+1)=(ins.map λi=>ofO i.tx i.ix n).take i++[ofO ins[i].tx ins[i].ix n]:=by
    rw[Qe (ρw aI)];simp
   have ag:((ins.map λi=>ofO i.tx i.ix n).take i).length<=16:=by simp;omega
   generalize bk:wr.alloc (.cells (inV ins[i] As cs).toArray 191)=W5 at a2 b5 aH B5 aA
   have⟨d,hd⟩:=ηs wr;rw[hd]at aH b5;have G:=b2T ins[i].tx E.len E.tx ins[i].ix n E.ix y W5 (aL.below B5);have⟨xs,aY⟩:=η0 ((inV ins[i] As cs).toArray);have⟨ps,ad⟩:=η0 ((ptL ins[i].tx ins[i].ix).toArray);have⟨x,hx⟩:=η0 (ofO ins[i].tx ins[i].ix n);have⟨bb,ab⟩:=η0 (okO ins[i].ix n);rw[aY]at bm a2;rw[ad]at aH G;rw[hx]at G Q;rw[ab]at G;have⟨bo,aZ,HD,av,aF⟩:=η5 aA B5 hd Q ag;clear hv N aX E b5 B5 aA Q ag aY ad hx ab bk hd;go_upto_region 6 with fail
   rw[HD.o];go_wp2_with fail;refine μi G ?_;intro w6 I;obtain⟨A',N',c',w7,bl,ho,ai⟩:=d2o (ty:=202) (a2X.keep bo I) x (ρh aF.o) (Qk aZ.size I.size);rw[<-av.o]at ho;have⟨HO,aE⟩:=η2 ho ((φt aZ I).trans ai);clear ho I ai G;go_wp2;go_roundg (n1-(i+1));exact⟨i+1,by omega,by go_num,HO.o,aE.o⟩;omega
  obtain rfl:n1=i:=ρo;have ak:¬(n1:Int)<n1:=ρo;rw[Qb (by rw[Qw,aR.o];exact Qg _)]at hv;obtain⟨q0,q1,q2,q3⟩:=V.o wr N;have ar:=an.o wr N;obtain⟨wo,bp⟩:∃wo,wo=wr:=⟨_,rfl⟩;subst bp;have⟨HV,HB⟩:=η2 hv N;clear hv N a8;go_wp2_with fail;refine μi ar ?_;intro w2 ay;have az:(bys D).length=32:=by rw[a0a,T]
  have aQ:=bc.o w2 (bys D) az (a0h _);have b3:=Qd w2 31 (bys D).toArray;have aJ:=φt HB ay;have B3:=ρb w2 (.cells (bys D).toArray 31);have aD:a8x W (w2.alloc (.cells (bys D).toArray 31)) (.slice Av Nv cv) (ins.map λi=>ofO i.tx i.ix n):=a2X.keep (a2X.keep HV ay) B3;have ao:=aJ.trans (B3.mono aJ.size)
  generalize bn:w2.alloc (.cells (bys D).toArray 31)=W3 at aQ b3 B3 aD ao
  have⟨dd,aB⟩:=ηs w2;rw[aB]at b3;obtain⟨a6,a4,bi,bg⟩:=V.o W3 ao;have⟨ds,aC⟩:=η0 ((bys D).toArray);rw[aC]at aQ;have⟨aT,bq,bj,U,a3,aV⟩:=η6 aC aB b3 ao aD az;clear b3 aJ B3 aD ao ay ar HV HB bn az aC aB q0 q1 q2 q3;rw[aT.o];go_upto_region 11 with fail
  rw[bq.o];clear a6 a4 bi bg bh;go_loopg [5,12,13,14,50] n2 (λkk u _ _ _ s wr=>∃k:Nat,k+kk=n2/\s=.int .i64 k/\a8x W3 wr u (((List.range n2).map λk=>ofO D (k:Nat) n).take k)/\Below W3 W3 wr);exact⟨0,by omega,rfl,by rw[List.take_zero];exact a2X.nil _ _ _ _,Qf _ _⟩;obtain⟨k,hk,rfl,hu,N⟩:=hrel;obtain⟨Au,Nu,cu,rfl⟩:=hu.formN
  by_cases a1:k<n2
  ·have ak:(k:Int)<n2:=ρo
   have a0:=φf bj N;have a5:=a0g a2i iId a0 (off:=0) (bys D) aV.o (by simp[Qb,aV.o]);have aq:=d2G T (k:Int);have G:=b2T D T bf.o (k:Int) n ρo y wr (aL.below (φt U N));rw[aT.o]at a5 aq
   have Q:((List.range n2).map λk=>ofO D (k:Nat) n).take (k+1)=((List.range n2).map λk=>ofO D (k:Nat) n).take k++[ofO D (k:Nat) n]:=by
    rw[Qe (ρw a1)];simp
   have ag:(((List.range n2).map λk=>ofO D (k:Nat) n).take k).length<=16:=by simp;omega
   have⟨ps,ad⟩:=η0 ((ptL D (k:Int)).toArray);have⟨x,hx⟩:=η0 (ofO D (k:Int) n);have⟨bb,ab⟩:=η0 (okO (k:Int) n);rw[ad]at G aq;rw[hx]at G Q;rw[ab]at G;have⟨HU,HB,av,aF⟩:=η4 hu N Q ag;clear hu N Q ag ad hx ab a0;go_wp2_with fail;refine μi G ?_;intro w6 I;obtain⟨A',N',c',w7,bl,ho,ai⟩:=d2o (ty:=202) (a2X.keep HU I) x (ρh aF.o) (Qk HB.size I.size);rw[<-av.o]at ho;have⟨HO,aE⟩:=η2 ho ((φt HB I).trans ai);clear ho I ai G;go_wp2;go_roundg (n2-(k+1));exact⟨k+1,by omega,by go_num,HO.o,aE.o⟩;omega
  obtain rfl:n2=k:=ρo;have ak:¬(n2:Int)<n2:=ρo;rw[Qb ρp]at hu;have⟨HU,HB⟩:=η2 hu N;clear hu N;go_wp2;go_ret3;exact⟨_,_,rfl,(a2X.keep a3 HB).base K.size,HU.base (Qk K.size U.size),(K.trans (U.mono K.size)).trans (HB.mono (Qk K.size U.size))⟩
 have B:a2P t n=[]:=by unfold a2P;rw[if_neg (ρy HR.o aa)]
 have z:a2K t n=[]:=by unfold a2K;rw[if_neg (ρy HR.o aa)]
 have af:b0N t n=false:=by unfold b0N;rw[decide_eq_false_iff_not,HR.o];exact aa
 rw[B,z,af];unfold txV at HW J⊢;clear B z af
 by_cases br:R=0
 ·subst br
  have bw:n<1\/64<n:=by
   have:¬okN n=true:=λh=>aa ⟨rfl,h⟩
   simp only[okN,decide_eq_true_eq]at this;omega
  clear aa
  by_cases a7:n<1
  ·go_in
   go_upto_region 1 with fail
   rw[HW.o,HG.o];go_wp2_with fail;refine μi J.o ?_;intro w1 F;have O:=η1 (φt K F);clear F;go_wp2;go_ret3;exact⟨_,_,rfl,a2X.nil _ _ _ _,a2X.nil _ _ _ _,O.o⟩
  have ba:64<n:=ρo;go_in;go_upto_region 1 with fail
  rw[HW.o,HG.o];go_wp2_with fail;refine μi J.o ?_;intro w1 F;have O:=η1 (φt K F);clear F;go_wp2;go_ret3;exact⟨_,_,rfl,a2X.nil _ _ _ _,a2X.nil _ _ _ _,O.o⟩
 go_in;go_upto_region 1 with fail
 rw[HW.o,HG.o];go_wp2_with fail;refine μi J.o ?_;intro w1 F;have O:=η1 (φt K F);clear F;go_wp2;go_ret3;exact⟨_,_,rfl,a2X.nil _ _ _ _,a2X.nil _ _ _ _,O.o⟩
end
section
attribute [local go_sem ↓] a1W a1l a3j a5P b0a a8b a1B
theorem c1s{e:a1P}(h:e.Bd):((a0x e).toArray.toList.drop 2).take 32=bys e.tx:=by
 have a:(bys e.tx).length=32:=by rw[a0a,h.tx.1]
 unfold a0x;simp only[QG,QF,ZQ,Zs];rw[QJ ρo,Qb ρo]
theorem a5H(e:a1P)(a:e.Bd)(w:WD):Calls prog 178 #[.agg (a0x e).toArray] w λx w'=>∃v,x=.returned (.tuple #[v,.bool (a0D e)])/\a0N w w' v (if a0D e=true then a5V e else [])/\Below w w w':=by
 have b0:=Qd w 34 (a0x e).toArray;have B0:=ρb w (.cells (a0x e).toArray 34);have⟨W,hW⟩:=η0 (w.alloc (.cells (a0x e).toArray 34));have⟨g,hg⟩:=ηs w;rw[hW]at B0;rw[hW,hg]at b0;have Y:∀X,Below W W X->Blk X g 34 (a0x e).toArray:=λX hX=>b0.fr (Q9 hX) (λh=>by have:=b0.lt;omega)
 have ac:=P6 b3q a8Q b0 (off:=0) (a0x e) (a0u a) (by simp[Qb,a0u a]);have D:=a9B e a W;have⟨HW,HG,S⟩:=η3 hW hg B0;have aZ:g<W.heap.size:=b0.lt
 by_cases hr:a0D e=true
 ·obtain⟨⟨r1,r2⟩,⟨r3,r4⟩,r5,⟨r6,r7⟩,r8,r9⟩:=(b2B e).1 hr
  have ah:=a.am.1;rw[if_pos hr];rw[hr]at D⊢;have T:=a6I a;have aj:=c1s a;have z:=a.tx;have d:=a0u a;obtain⟨ka,sa,tx,am,wy,ep⟩:=e;simp only at r1 r2 r3 r4 r5 r6 r7 r8 r9 ah T aj z;obtain⟨F,rfl⟩:=a1C (show 0<=ka by omega);obtain⟨G,rfl⟩:=a1C r3;obtain⟨na,rfl⟩:=a1C ah;obtain⟨J,rfl⟩:=a1C r6;obtain⟨ne,rfl⟩:=a1C r8;have wk:IntKind.u64.wrap (F:Int)=F:=by rw[IntKind.wrap_u64];omega
  have ws:IntKind.u64.wrap (G:Int)=G:=by rw[IntKind.wrap_u64];omega
  have ww:IntKind.u64.wrap (J:Int)=J:=by rw[IntKind.wrap_u64];omega
  have we:IntKind.u64.wrap (ne:Int)=ne:=by rw[IntKind.wrap_u64];omega
  have m1:=a0p (n:=F) ρo;have m2:=a0p (n:=G) ρo;have m3:=a0p (n:=na) ρo;have m4:=a0p (n:=J) ρo;have m5:=a0p (n:=ne) ρo;have m6:=z.1
  have ar:∀X,Below W W X->(X.cell? ⟨g,0,none⟩=some (.int .i64 F)/\X.cell? ⟨g,1,none⟩=some (.int .i64 G)/\(LDs 31 (.pointer (some ⟨g,2,none⟩))).run prog X=.ok (.agg (bys tx).toArray) X/\
    X.cell? ⟨g,34,none⟩=some (.int .u64 na)/\X.cell? ⟨g,35,none⟩=some (.int .i64 J)/\X.cell? ⟨g,36,none⟩=some (.int .i64 ne)):=λX hX=>by
   have hb:=Y X hX;exact⟨hb.cell 0,hb.cell 1,a0g a2i iId hb (off:=2) (bys tx) (by rw[a0a,z.1]) aj,(hb.cell 34).trans T.1,(hb.cell 35).trans T.2.1,(hb.cell 36).trans T.2.2⟩
  have B:=η1 ar;clear ar
  generalize hy:(a0x ⟨(F:Int),(G:Int),tx,(na:Int),(J:Int),(ne:Int)⟩).toArray=y at HW ac D⊢
  have K:a5V ⟨(F:Int),(G:Int),tx,(na:Int),(J:Int),(ne:Int)⟩=[]++a0K F++a0K G++tx++a0K na++a0K J++a0K ne:=by simp[a5V]
  rw[K]
  have aI:∀x∈[]++a0K F++a0K G++tx++a0K na++a0K J++a0K ne,0<=x/\x<=255:=by
   intro x hx;simp only[Qq,Qt,false_or]at hx
   rcases hx with((((h | h) | h) | h) | h) | h
   ·exact a0L ρo x h
   ·exact a0L ρo x h
   ·exact z.2 x h
   ·exact a0L ρo x h
   ·exact a0L ρo x h
   exact a0L ρo x h
  have aV:=η1 aI;clear hW hg B0 b0 Y a hr T aj hy d K aI r1 r3 r6 r8 ah;go_in;go_upto_region 1 with fail
  rw[HW.o,HG.o];go_wp2_with fail;refine μi D ?_;intro w1 H;have aa:a3Z w1 (w1.alloc (.cells #[.slice none 0 0] 123)) w1.heap.size (.slice none 0 0) []:=⟨Qd w1 _ _,Qg _,a0N.nil _ _⟩;have R:=ρb w1 (.cells #[.slice none 0 0] 123);have⟨w2,ag⟩:=η0 (w1.alloc (.cells #[.slice none 0 0] 123));have⟨p,b⟩:=ηs w1;rw[ag]at aa R;rw[b]at aa R;have ab:p<=w2.heap.size:=by rw[<-b];exact R.size
  have af:W.heap.size<=p:=by rw[<-b];exact H.size
  have ad:Below W W w2:=H.trans (R.mono af);have⟨aN,HP,ax,I⟩:=η4 ag b ad af;have⟨v0,aK⟩:=η0 (Value.slice none 0 0);have⟨l0,ae⟩:=η0 ([]:LI);rw[aK,ae]at aa;have⟨al,ak⟩:=η2 aa ae.symm;clear ag b aa H R ad af D ac aK ae;go_upto_region 4 with fail
  rw[aN.o,HP.o];have aP:=B.o w2 ax;obtain⟨q0,q1,V,o,f,m⟩:=aP;have c0:=a2M p p v0 l0 F ρo w2 al.o (by rw[ak.o];simp only[Qv];omega) ab;go_wp2_with fail;refine μ1 c0 ?_;rintro e w3 ⟨rfl,⟨v1,b,r⟩,E⟩;have j:=a1j al E ab;have Q:p<=w3.heap.size:=Qk ab j.size;have aB:=η1 (ax.trans (j.mono I));have⟨l1,d⟩:=η0 (l0++a0K F);rw[d]at b;have⟨aL,ay⟩:=η2 b (show l1=[]++a0K F from by rw[<-d,ak.o]);clear b r E j d c0 q0 q1 V o f m;have aW:=B.o w3 aB;obtain⟨q0,q1,V,o,f,m⟩:=aW;have c1:=a2M p p v1 l1 G ρo w3 aL.o (by rw[ay.o];simp only[Qa,Qv];omega) Q;go_wp2_with fail;refine μ1 c1 ?_;rintro e w4 ⟨rfl,⟨v2,b,r⟩,E⟩;have j:=a1j aL E Q;have U:p<=w4.heap.size:=Qk Q j.size;have aF:=η1 (aB.trans (j.mono I));have⟨l2,d⟩:=η0 (l1++a0K G);rw[d]at b;have⟨an,aA⟩:=η2 b (show l2=[]++a0K F++a0K G from by rw[<-d,ay.o])
  clear b r E j d c1 q0 q1 V o f m;have aO:=B.o w4 aF;obtain⟨q0,q1,V,o,f,m⟩:=aO;have c2:=a5S p p v2 l2 tx z.1 z.2 w4 an.o (by rw[aA.o];simp only[Qa,Qv];omega) U;go_wp2_with fail;refine μ1 c2 ?_;rintro e w5 ⟨rfl,⟨v3,b,r⟩,E⟩;have j:=a1j an E U;have N:p<=w5.heap.size:=Qk U j.size;have aJ:=η1 (aF.trans (j.mono I));have⟨l3,d⟩:=η0 (l2++tx);rw[d]at b;have⟨au,aH⟩:=η2 b (show l3=[]++a0K F++a0K G++tx from by rw[<-d,aA.o]);clear b r E j d c2 q0 q1 V o f m;have aU:=B.o w5 aJ;obtain⟨q0,q1,V,o,f,m⟩:=aU;have c3:=a2M p p v3 l3 na ρo w5 au.o (by rw[aH.o];simp only[Qa,Qv];omega) N;go_wp2_with fail;refine μ1 c3 ?_;rintro e w6 ⟨rfl,⟨v4,b,r⟩,E⟩;have j:=a1j au E N;have Z:p<=w6.heap.size:=Qk N j.size;have aq:=η1 (aJ.trans (j.mono I));have⟨l4,d⟩:=η0 (l3++a0K na);rw[d]at b
  have⟨av,ao⟩:=η2 b (show l4=[]++a0K F++a0K G++tx++a0K na from by rw[<-d,aH.o]);clear b r E j d c3 q0 q1 V o f m;have aX:=B.o w6 aq;obtain⟨q0,q1,V,o,f,m⟩:=aX;have c4:=a2M p p v4 l4 J ρo w6 av.o (by rw[ao.o];simp only[Qa,Qv];omega) Z;go_wp2_with fail;refine μ1 c4 ?_;rintro e w7 ⟨rfl,⟨v5,b,r⟩,E⟩;have j:=a1j av E Z;have O:p<=w7.heap.size:=Qk Z j.size;have aD:=η1 (aq.trans (j.mono I));have⟨l5,d⟩:=η0 (l4++a0K J);rw[d]at b;have⟨aG,aE⟩:=η2 b (show l5=[]++a0K F++a0K G++tx++a0K na++a0K J from by rw[<-d,ao.o]);clear b r E j d c4 q0 q1 V o f m;have aS:=B.o w7 aD;obtain⟨q0,q1,V,o,f,m⟩:=aS;have c5:=a2M p p v5 l5 ne ρo w7 aG.o (by rw[aE.o];simp only[Qa,Qv];omega) O;go_wp2_with fail;refine μ1 c5 ?_;rintro e w8 ⟨rfl,⟨v6,b,r⟩,E⟩;have j:=a1j aG E O;have aY:p<=w8.heap.size:=Qk O j.size
  have az:=η1 (aD.trans (j.mono I));have⟨l6,d⟩:=η0 (l5++a0K ne);rw[d]at b;have⟨aR,ai⟩:=η2 b (show l6=[]++a0K F++a0K G++tx++a0K na++a0K J++a0K ne from by rw[<-d,aE.o]);clear b r E j d c5 q0 q1 V o f m;have c6:=a4A p p v6 l6 (ρy ai.o aV.o) w8 aR.o (by rw[ai.o];simp only[Qa,Qv];omega);go_wp2_with fail;refine μ1 c6 ?_;rintro e w9 ⟨v7,rfl,ho,aM⟩;have⟨HO,aQ⟩:=η2 ho (φt az aM);clear c6 ho aM;go_wp2;go_ret2;refine⟨v7,rfl,?_,S.trans (aQ.mono S.size)⟩;have e6:=ai.o;rw[QF]at e6;rw[<-e6];exact HO.base (Qk S.size az.size)
 rw[if_neg hr];have aC:a0D e=false:=ρw hr;rw[aC]at D⊢
 generalize hy:(a0x e).toArray=y at HW ac D⊢
 clear hW hg B0 b0 Y a hr aC hy;go_in;go_upto_region 1 with fail
 rw[HW.o,HG.o];go_wp2_with fail;refine μi D ?_;intro w1 H;have aT:=η1 H;clear H D ac;go_wp2;go_ret2;exact⟨_,rfl,a0N.nil _ _,S.trans (aT.mono S.size)⟩
theorem b2u{h:a0Q}(a:h.Bd):((a0b h).toArray.toList.drop 3).take 32=bys h.prev:=by
 have b:(bys h.prev).length=32:=by rw[a0a,a.prev.1]
 unfold a0b;simp only[QG,QF,ZQ,Zs];rw[QJ ρo,Qb ρo]
theorem b2l{h:a0Q}(a:h.Bd):((a0b h).toArray.toList.drop 35).take 32=bys h.root:=by
 have d:(bys h.prev).length=32:=by rw[a0a,a.prev.1]
 have b:(bys h.root).length=32:=by rw[a0a,a.root.1]
 unfold a0b;simp only[QG,QF,ZQ];rw[Zw ρo,QQ ρo,QF,Qb ρo]
theorem a3A(h:a0Q)(a:h.Bd)(w:WD):Calls prog 51 #[.agg (a0b h).toArray] w λx w'=>∃v,x=.returned (.tuple #[v,.bool (a0w h)])/\a0N w w' v (if a0w h=true then a2a h else [])/\Below w w w':=by
 have b0:=Qd w 37 (a0b h).toArray;have B0:=ρb w (.cells (a0b h).toArray 37);have⟨W,hW⟩:=η0 (w.alloc (.cells (a0b h).toArray 37));have⟨g,hg⟩:=ηs w;rw[hW]at B0;rw[hW,hg]at b0;have S:∀X,Below W W X->Blk X g 37 (a0b h).toArray:=λX hX=>b0.fr (Q9 hX) (λh=>by have:=b0.lt;omega)
 have U:=P6 a1S a1h b0 (off:=0) (a0b h) (a0f a) (by simp[Qb,a0f a]);have m:=a2f h a W;have⟨HW,HG,O⟩:=η3 hW hg B0;have aT:g<W.heap.size:=b0.lt
 by_cases hr:a0w h=true
 ·obtain⟨⟨r1,r2⟩,⟨r3,r4⟩,r5,r6⟩:=(a3B h).1 hr
  rw[if_pos hr];rw[hr]at m⊢;have ai:=b2u a;have ag:=b2l a;have D:=a.prev;have F:=a.root;obtain⟨sa,ta,ep,prev,root⟩:=h;simp only at r1 r2 r3 r4 r5 r6 ai ag D F;obtain⟨f,rfl⟩:=a1C r1;obtain⟨j,rfl⟩:=a1C (show 0<=ta by omega);obtain⟨ne,rfl⟩:=a1C r5;have ws:IntKind.u64.wrap (f:Int)=f:=by rw[IntKind.wrap_u64];omega
  have wt:IntKind.u64.wrap (j:Int)=j:=by rw[IntKind.wrap_u64];omega
  have we:IntKind.u64.wrap (ne:Int)=ne:=by rw[IntKind.wrap_u64];omega
  have m1:=a0p (n:=f) ρo;have m2:=a0p (n:=j) ρo;have m3:=a0p (n:=ne) ρo;have m4:=D.1;have m5:=F.1
  have ar:∀X,Below W W X->(X.cell? ⟨g,0,none⟩=some (.int .i64 f)/\X.cell? ⟨g,1,none⟩=some (.int .i64 j)/\X.cell? ⟨g,2,none⟩=some (.int .i64 ne)/\
    (LDs 31 (.pointer (some ⟨g,3,none⟩))).run prog X=.ok (.agg (bys prev).toArray) X/\(LDs 31 (.pointer (some ⟨g,35,none⟩))).run prog X=.ok (.agg (bys root).toArray) X):=λX hX=>by
   have a:=S X hX;exact⟨a.cell 0,a.cell 1,a.cell 2,a0g a2i iId a (off:=3) (bys prev) (by rw[a0a,D.1]) ai,a0g a2i iId a (off:=35) (bys root) (by rw[a0a,F.1]) ag⟩
  have T:=η1 ar;clear ar;have⟨y,hy⟩:=η0 ((a0b ⟨(f:Int),(j:Int),(ne:Int),prev,root⟩).toArray);rw[hy]at HW U m⊢;have G:a2a ⟨(f:Int),(j:Int),(ne:Int),prev,root⟩=[]++a0K f++a0K j++a0K ne++prev++root:=by simp[a2a]
  rw[G]
  have aC:∀x∈[]++a0K f++a0K j++a0K ne++prev++root,0<=x/\x<=255:=by
   intro x hx;simp only[Qq,Qt,false_or]at hx
   rcases hx with(((h | h) | h) | h) | h
   ·exact a0L ρo x h
   ·exact a0L ρo x h
   ·exact a0L ρo x h
   ·exact D.2 x h
   exact F.2 x h
  have aP:=η1 aC;clear hW hg B0 b0 S a hr ai ag hy G aC r1 r3 r5;go_in;go_upto_region 1 with fail
  rw[HW.o,HG.o];go_wp2_with fail;refine μi m ?_;intro Z z;have Y:a3Z Z (Z.alloc (.cells #[.slice none 0 0] 123)) Z.heap.size (.slice none 0 0) []:=⟨Qd Z _ _,Qg _,a0N.nil _ _⟩;have J:=ρb Z (.cells #[.slice none 0 0] 123);have⟨w2,ac⟩:=η0 (Z.alloc (.cells #[.slice none 0 0] 123));have⟨p,hp⟩:=ηs Z;rw[ac]at Y J;rw[hp]at Y J;have aS:p<=w2.heap.size:=by rw[<-hp];exact J.size
  have ab:W.heap.size<=p:=by rw[<-hp];exact z.size
  have H:Below W W w2:=z.trans (J.mono ab);obtain⟨q0,q1,q2,_,_⟩:=T.o w2 H;have⟨aH,HP,ax,aj,aq⟩:=η5 ac hp H ab Y;clear ac hp Y z J H ab m U;go_upto_region 4 with fail
  rw[aH.o,HP.o];go_upto_region 5 with fail
  have⟨d,hd⟩:=ηs w2;have b3:=Qd w2 3 #[.int .i64 f,.int .i64 j,.int .i64 ne]
  have ae:a3Z p (w2.alloc (.cells #[.int .i64 f,.int .i64 j,.int .i64 ne] 3)) p (.slice none 0 0) []:=by
   have h0:=aq.o;exact⟨h0.st.alloc _,Qg _,a0N.nil _ _⟩
  have af:=ax.alloc ax.size (.cells #[.int .i64 f,.int .i64 j,.int .i64 ne] 3);have aQ:p<d:=by rw[<-hd];have h0:=aq.st.lt;omega
  rw[hd]at b3;have⟨w3,ak⟩:=η0 (w2.alloc (.cells #[.int .i64 f,.int .i64 j,.int .i64 ne] 3));rw[ak]at b3 ae af;rw[hd,ak]
  have aa:∀i,i<3->∃N:Nat,N<9223372036854775808/\(#[Value.int .i64 f,.int .i64 j,.int .i64 ne])[i]? =some (.int .i64 N)/\([f,j,ne].take (i+1)).flatMap a0K=([f,j,ne].take i).flatMap a0K++a0K N/\(([f,j,ne].take i).flatMap a0K).length<=100:=by
   intro i hi;obtain rfl | rfl | rfl:i=0\/i=1\/i=2:=ρo
   ·exact⟨f,by omega,rfl,by simp,by simp⟩
   ·exact⟨j,by omega,rfl,by simp,by simp;omega⟩
   exact⟨ne,by omega,rfl,by simp,by simp;omega⟩
  have⟨az,aF,aK,aM⟩:=η4 aa b3 ae af;clear aa b3 ae af hd ak q0 q1 q2;go_loopg [6,18] 3 (λkk _ s wr=>∃(i:Nat) (v:VL),i+kk=3/\s=.int .i64 i/\a3Z p wr p v (([f,j,ne].take i).flatMap a0K)/\Below W W wr/\Blk wr d 3 #[.int .i64 f,.int .i64 j,.int .i64 ne]/\v.ownBlock≠some d/\p<=wr.heap.size);exact⟨0,_,by omega,rfl,aK.o,aM.o,aF.o,by simp[Value.ownBlock],by have:=aF.lt;omega⟩;obtain⟨i,v,hi,rfl,b,hB,V,al,E⟩:=hrel
  by_cases aI:i<3
  ·have aR:(i:Int)<3:=ρo
   obtain⟨N,hN,I,K,ao⟩:=az.o i aI;have kc:wr.cell? ⟨d,i,none⟩=some (.int .i64 N):=(V.cell i).trans I;have wn:IntKind.u64.wrap (N:Int)=N:=by rw[IntKind.wrap_u64];omega
   have c1:=a2M p p v _ N ρo wr b ρo E;have⟨HN,R,HB,aN,aL⟩:=η5 K b hB V al;clear b hB V al I K ao;go_wp2_with fail;refine μ1 c1 ?_;rintro e w4 ⟨rfl,⟨v',B,aG⟩,hf⟩;have o:=a1j R hf E;have⟨HK,an⟩:=η2 (a8p (p:=p) ρo aL.o aN.o aG hf) (HB.trans (o.mono aj));have r:p<=w4.heap.size:=Qk E o.size;have ah:=η1 B;clear B aG hf o c1 kc;go_wp2;go_roundg (3-(i+1));exact⟨i+1,v',by omega,by go_num,by rw[HN.o];exact ah.o,an.o,HK.1,HK.2,r⟩;omega
  obtain rfl:i=3:=ρo;rw[show((3:Nat):Int)=3 from rfl];rw[show([f,j,ne].take 3).flatMap a0K=[]++a0K f++a0K j++a0K ne by simp]at b;obtain⟨q0,q1,q2,q3,ad⟩:=T.o wr hB;have c1:=a5S p p v _ prev D.1 D.2 wr b (by simp only[Qa,Qv];omega) E;have⟨R,HB⟩:=η2 b hB;clear b hB V al;go_wp2_with fail;refine μ1 c1 ?_;rintro e w4 ⟨rfl,⟨v4,B,_⟩,av⟩;have o:=a1j R av E;have Q:=HB.trans (o.mono aj);have r:p<=w4.heap.size:=Qk E o.size;clear q0 q1 q2 q3 ad;obtain⟨q0,q1,q2,q3,ad⟩:=T.o w4 Q;have c2:=a5S p p v4 _ root F.1 F.2 w4 B (by simp only[Qa,Qv];omega) r;have⟨ah,an⟩:=η2 B Q;clear B av o Q c1;go_wp2_with fail;refine μ1 c2 ?_;rintro e w5 ⟨rfl,⟨v5,aD,_⟩,au⟩;have aB:=a1j ah au r;have c3:=a4A p p v5 _ aP.o w5 aD (by simp only[Qa,Qv];omega);have aE:=η1 (an.trans (aB.mono aj));clear aD au aB c2 q0 q1 q2 q3 ad
  go_wp2_with fail;refine μ1 c3 ?_;rintro e w6 ⟨v6,rfl,ho,ay⟩;have⟨HO,aJ⟩:=η2 ho (φt aE ay);clear c3 ho ay;go_wp2;go_ret2;refine⟨v6,rfl,?_,O.trans (aJ.mono O.size)⟩;have h6:=HO.base (Qk O.size aE.size)
  simpa using h6
 rw[if_neg hr];have aA:a0w h=false:=ρw hr;rw[aA]at m⊢;have⟨y,hy⟩:=η0 ((a0b h).toArray);rw[hy]at HW U m⊢;clear hW hg B0 b0 S a hr aA hy;go_in;go_upto_region 1 with fail
 rw[HW.o,HG.o];go_wp2_with fail;refine μi m ?_;intro Z z;have aO:=η1 z;clear z m U;go_wp2;go_ret2;exact⟨_,rfl,a0N.nil _ _,O.trans (aO.mono O.size)⟩
end
section
abbrev St:=Except Int LI
def a0o(most:Nat):St->Nat×St
 | .error x=>(0,.error x)
 |
  .ok l=>match a4K most l with
  | .error x=>(0,.error x)
  | .ok (v,r)=>(v,.ok r)
def a0C(most:Nat):St->LI×St
 | .error x=>([],.error x)
 |
  .ok l=>match a5L most l with
  | .error x=>([],.error x)
  | .ok (v,r)=>(v,.ok r)
def idT:St->LI×St
 | .error x=>(List.replicate 32 0,.error x)
 |
  .ok l=>match a8k l with
  | .error x=>(List.replicate 32 0,.error x)
  | .ok (v,r)=>(v,.ok r)
def d3f(x:Int):Prop:=(x != 0)=true/\(x == 0)=false
theorem a0P(most:Nat)(st:St):(a0o most st).1<=most:=by
 unfold a0o
 split
 ·simp
 split
 ·simp
 rename_i h
 exact(a3y (a5l.1 h)).1
def b5A(n:Nat):St->Prop
 | .error _=>True
 | .ok l=>l.length<=n
theorem a1b{st:St}(h:b5A n st):b5A n (a0o most st).2:=by
 unfold a0o
 split
 ·trivial
 split
 ·trivial
 rename_i h2
 exact Qk (a3y (a5l.1 h2)).2 h
theorem a3c{st:St}(h:b5A n st):b5A n (a0C most st).2:=by
 unfold a0C a5L
 cases st with
 | error x=>trivial
 |
  ok l=>
  simp only
  cases h2:a4K most l with
  | error x=>trivial
  |
   ok p=>
   obtain⟨v,r⟩:=p;have b:=(a3y (a5l.1 h2)).2;simp only
   by_cases a:r.length<v
   ·rw[if_pos a];trivial
   rw[if_neg a]
   show(r.drop v).length<=n
   rw[Yp];exact Qk (Nat.sub_le _ _) (Qk b h)
theorem a3o(most:Nat)(st:St):(a0C most st).1.length<=most:=by
 unfold a0C a5L
 cases st with
 | error x=>simp
 |
  ok l=>
  simp only
  cases h2:a4K most l with
  | error x=>simp
  |
   ok p=>
   obtain⟨v,r⟩:=p;have b:=(a3y (a5l.1 h2)).1;simp only
   by_cases a:r.length<v
   ·rw[if_pos a];simp
   rw[if_neg a];simp only[Qx];omega
theorem a3U{st:St}(h:b5A n st):b5A n (idT st).2:=by
 unfold idT a8k
 cases st with
 | error x=>trivial
 |
  ok l=>
  simp only
  by_cases a:l.length<32
  ·rw[if_pos a];trivial
  rw[if_neg a]
  show(l.drop 32).length<=n
  rw[Yp];exact Qk (Nat.sub_le _ _) h
theorem a1R(st:St):(idT st).1.length=32:=by
 unfold idT a8k
 cases st with
 | error x=>simp
 |
  ok l=>
  simp only
  by_cases a:l.length<32
  ·rw[if_pos a];simp
  rw[if_neg a];simp only[Qx];omega
def a9Q:St->Prop
 | .error _=>True
 | .ok l=>∀x∈l,0<=x/\x<=255
def d2P(w:WD)(A:OA)(ev:Int)(Al:OA)(nl cl:Nat):St->Prop
 | .error x=>ev=x/\d3f x
 | .ok r=>ev=0/\nl=r.length/\d0q w A Al cl r
def c3T(T:TI)(w:WD)(p s:Nat)(st:St):Prop:=
 match st with
 | .ok l=>∃A c,Blk w p T #[.slice A l.length c,.int .i64 0]/\Byt w A l/\l.length<=c/\(A=none->c=0)/\∀a,A=some a->a.block=s
 | .error x=>d3f x/\∃A n c,Blk w p T #[.slice A n c,.int .i64 x]
theorem c3T.fr{T:TI}{w d:WD}{p s:Nat}{st:St}{F:Nat->Prop}(h:c3T T w p s st)(b:Fr F w d)(f:¬F p)(g:¬F s):c3T T d p s st:=by
 cases st with
 |
  error x=>
  obtain⟨m,A,n,c,j⟩:=h;exact⟨m,A,n,c,j.fr b f⟩
 |
  ok l=>
  obtain⟨A,c,m,j,y,v,o⟩:=h;exact⟨A,c,m.fr b f,j.fr b (λa r _=>by rw[o a r];exact g),y,v,o⟩
theorem c3T.lt{T:TI}{w:WD}{p s:Nat}{st:St}(h:c3T T w p s st):p<w.heap.size:=by
 cases st with
 |
  error x=>
  obtain⟨_,A,n,c,a⟩:=h;exact a.lt
 |
  ok l=>
  obtain⟨A,c,b,_⟩:=h;exact b.lt
theorem c3T.far{b:TI}{st:St}(h:c3T T w p s st)(d:Blk w g b cs)(a:T≠b):p≠g:=by
 cases st with
 |
  error x=>
  obtain⟨_,A,n,c,f⟩:=h;exact f.ne_ d a
 |
  ok l=>
  obtain⟨A,c,j,_⟩:=h;exact j.ne_ d a
theorem c3T.of{f:WD}{d:OA}{m:Int}{cl:Nat}{st:St}(o:Blk f p T #[.slice d g cl,.int .i64 m])(v:d2P w A m d g cl st)(y:Fr (λk=>k=p) w f)(j:s≠p)(z:∀a,A=some a->a.block=s):c3T T f p s st:=by
 cases st with
 |
  error x=>
  obtain⟨rfl,h⟩:=v;exact⟨h,d,g,cl,o⟩
 |
  ok r=>
  obtain⟨rfl,rfl,B⟩:=v
  have E:∀a,d=some a->a.block=s:=λa D=>by
   obtain⟨b,F,G⟩:=B.blk a D;rw[G];exact z b F
  exact⟨d,cl,o,B.byt.fr y (λa D _ e=>j ((E a D).symm.trans e)),B.cap,B.nul,E⟩
attribute [local go_sem ↓] d2O d2y d2h d2p d1Y b6Y a2t a2s a2n
structure d3m(w:WD)(B:OA)(d s:Nat)(t:LI):Prop where
 byt:Byt w B t
 cap:t.length<=d
 nul:B=none->d=0
 blk:∀a,B=some a->a.block=s
theorem d3m.of{g:WD}{B:OA}{d:Nat}{t:LI}(h:d0q w A B d t)(j:Fr (λk=>k=p) w g)(f:s≠p)(m:∀a,A=some a->a.block=s):d3m g B d s t:=by
 have r:∀a,B=some a->a.block=s:=λa o=>by
  obtain⟨b,v,x⟩:=h.blk a o;rw[x];exact m b v
 exact⟨h.byt.fr j (λa o _ e=>f ((r a o).symm.trans e)),h.cap,h.nul,r⟩
end
section
attribute [local go_sem ↓] a6W a8U a9c a1B a3n
theorem a0N.formN(h:a0N B w v l):∃A N c,v=.slice A N c:=by
 obtain⟨A,c,e⟩:=h.form;exact⟨A,_,c,e⟩
theorem a0N.lenN(h:a0N B w (.slice A N c) l):N=l.length:=by
 obtain⟨a,b,e⟩:=h.form;simp only[Value.slice.injEq]at e;exact e.2.1
theorem a0N.kept(h:a0N B w v l)(b:Below w w a):a0N B a v l:=h.fr (Q9 b) (λk hk f=>by have:=(h.lt hk).2;omega)
theorem d0Z{d a:Nat}{b:OA}(h:a0N B w (.slice A N c) l)(g:Byt w b m)(j:m.length=d)(o:b=none->a=0)(f:l.length+m.length<=1000000000)(p:B<=w.heap.size):∃A' N' c' w',(APs #[22,22] ty #[.slice A N c,.slice b d a]).run prog w=.ok (.slice A' N' c') w'/\a0N B w' (.slice A' N' c') (l++m)/\Fr (λk=>(Value.slice A N c).ownBlock=some k) w w'/\a7W w (.slice A N c) (.slice A' N' c'):=by
 subst j;obtain⟨z,w',x,r,y,v⟩:=c3v (ty:=ty) h g (c:=a) ρo p o;obtain⟨A',N',c',rfl⟩:=r.formN;exact⟨A',N',c',w',x,r,y,v⟩
theorem a5R{B' d f:Nat}{g:OA}(h:a0N B w (.slice A N c) l)(b:a0N B' w (.slice g d f) m)(j:∀x∈m,0<=x/\x<=255)(a:l.length+m.length<=1000000000)(o:B<=w.heap.size):∃A' N' c' w',(APs #[22,22] ty #[.slice A N c,.slice g d f]).run prog w=.ok (.slice A' N' c') w'/\a0N B w' (.slice A' N' c') (l++m)/\Fr (λk=>(Value.slice A N c).ownBlock=some k) w w'/\a7W w (.slice A N c) (.slice A' N' c'):=by
 obtain⟨v,y,e,p,_,_⟩:=b.byt j;have r:=b.lenN;simp only[Value.slice.injEq]at e;obtain⟨rfl,_,rfl⟩:=e;exact d0Z h p r.symm (λe=>by subst e;exact a0N.nulI b) a o
end
theorem a8e(e:a1P)(b:e.Bd)(w:WD):Calls prog 40 #[.agg (a0x e).toArray] w λx w'=>x=.returned (.bool (a0D e))/\Below w w w':=by
 have B:=Qd w 34 (a0x e).toArray;have Q:=ρb w (.cells (a0x e).toArray 34);have⟨W,F⟩:=η0 (w.alloc (.cells (a0x e).toArray 34));have⟨g,K⟩:=ηs w;rw[F]at Q;rw[F,K]at B;have X:W.cell? ⟨g,0,none⟩=some (.int .i64 e.kind):=B.cell 0;have V:W.cell? ⟨g,1,none⟩=some (.int .i64 e.sh):=B.cell 1;have S:W.cell? ⟨g,34,none⟩=some (.int .u64 e.am):=(B.cell 34).trans (a6I b).1;have N:W.cell? ⟨g,35,none⟩=some (.int .i64 e.why):=(B.cell 35).trans (a6I b).2.1;have J:W.cell? ⟨g,36,none⟩=some (.int .i64 e.ep):=(B.cell 36).trans (a6I b).2.2;have H:a0D e=a0D e:=rfl
 conv at H=>rhs;unfold a0D
 generalize P:a0D e=R at H⊢
 generalize Y:(a0x e).toArray=y at F⊢
 obtain⟨a,s,tx,am,T,ep⟩:=e;simp only at X V S N J H;have⟨p,o,f,j⟩:=η4 F K Q H;clear F K Q B Y b H P
 by_cases r:1<=a
 rotate_left
 ·have d:R=false:=by rw[j.o];simp[r]
  have m:=η1 d;clear d j;go_in;go_upto_region 1 with fail
  rw[p.o,o.o];go_wp2;go_ret;exact⟨by rw[m.o];rfl,f.o⟩
 by_cases v:a<=3
 rotate_left
 ·have d:R=false:=by rw[j.o];simp[r,v]
  have m:=η1 d;clear d j;go_in;go_upto_region 1 with fail
  rw[p.o,o.o];go_wp2;go_ret;exact⟨by rw[m.o];rfl,f.o⟩
 by_cases z:0<=s
 rotate_left
 ·have d:R=false:=by rw[j.o];simp[r,v,z]
  have m:=η1 d;clear d j;go_in;go_upto_region 1 with fail
  rw[p.o,o.o];go_wp2;go_ret;exact⟨by rw[m.o];rfl,f.o⟩
 by_cases D:s<=63
 rotate_left
 ·have d:R=false:=by rw[j.o];simp[r,v,z,D]
  have m:=η1 d;clear d j;go_in;go_upto_region 1 with fail
  rw[p.o,o.o];go_wp2;go_ret;exact⟨by rw[m.o];rfl,f.o⟩
 by_cases E:am<=4611686018427387904
 rotate_left
 ·have d:R=false:=by rw[j.o];simp[r,v,z,D,E]
  have m:=η1 d;clear d j;go_in;go_upto_region 1 with fail
  rw[p.o,o.o];go_wp2;go_ret;exact⟨by rw[m.o];rfl,f.o⟩
 by_cases G:0<=T
 rotate_left
 ·have d:R=false:=by rw[j.o];simp[r,v,z,D,E,G]
  have m:=η1 d;clear d j;go_in;go_upto_region 1 with fail
  rw[p.o,o.o];go_wp2;go_ret;exact⟨by rw[m.o];rfl,f.o⟩
 by_cases I:T<=63
 rotate_left
 ·have d:R=false:=by rw[j.o];simp[r,v,z,D,E,G,I]
  have m:=η1 d;clear d j;go_in;go_upto_region 1 with fail
  rw[p.o,o.o];go_wp2;go_ret;exact⟨by rw[m.o];rfl,f.o⟩
 by_cases O:0<=ep
 rotate_left
 ·have d:R=false:=by rw[j.o];simp[r,v,z,D,E,G,I,O]
  have m:=η1 d;clear d j;go_in;go_upto_region 1 with fail
  rw[p.o,o.o];go_wp2;go_ret;exact⟨by rw[m.o];rfl,f.o⟩
 by_cases U:ep<=1099511627776
 rotate_left
 ·have d:R=false:=by rw[j.o];simp[r,v,z,D,E,G,I,O,U]
  have m:=η1 d;clear d j;go_in;go_upto_region 1 with fail
  rw[p.o,o.o];go_wp2;go_ret;exact⟨by rw[m.o];rfl,f.o⟩
 have d:R=true:=by rw[j.o];simp[r,v,z,D,E,G,I,O,U]
 have m:=η1 d;clear d j;go_in;go_upto_region 1 with fail
 rw[p.o,o.o];go_wp2;go_ret;exact⟨by rw[m.o];rfl,f.o⟩
theorem a7y(e:a0Q)(a:e.Bd)(w:WD):Calls prog 41 #[.agg (a0b e).toArray] w λx w'=>x=.returned (.bool (a0w e))/\Below w w w':=by
 have z:=Qd w 37 (a0b e).toArray;have H:=ρb w (.cells (a0b e).toArray 37);have⟨W,v⟩:=η0 (w.alloc (.cells (a0b e).toArray 37));have⟨g,F⟩:=ηs w;rw[v]at H;rw[v,F]at z;have N:W.cell? ⟨g,0,none⟩=some (.int .i64 e.sh):=z.cell 0;have K:W.cell? ⟨g,1,none⟩=some (.int .i64 e.ht):=z.cell 1;have P:W.cell? ⟨g,2,none⟩=some (.int .i64 e.ep):=z.cell 2;have D:a0w e=a0w e:=rfl
 conv at D=>rhs;unfold a0w
 generalize G:a0w e=R at D⊢
 generalize O:(a0b e).toArray=y at v⊢
 obtain⟨s,t,ep,prev,root⟩:=e;simp only at N K P D;have⟨o,m,d,f⟩:=η4 v F H D;clear v F H z O a D G
 by_cases p:0<=s
 rotate_left
 ·have b:R=false:=by rw[f.o];simp[p]
  have j:=η1 b;clear b f;go_in;go_upto_region 1 with fail
  rw[o.o,m.o];go_wp2;go_ret;exact⟨by rw[j.o];rfl,d.o⟩
 by_cases r:s<=63
 rotate_left
 ·have b:R=false:=by rw[f.o];simp[p,r]
  have j:=η1 b;clear b f;go_in;go_upto_region 1 with fail
  rw[o.o,m.o];go_wp2;go_ret;exact⟨by rw[j.o];rfl,d.o⟩
 by_cases B:1<=t
 rotate_left
 ·have b:R=false:=by rw[f.o];simp[p,r,B]
  have j:=η1 b;clear b f;go_in;go_upto_region 1 with fail
  rw[o.o,m.o];go_wp2;go_ret;exact⟨by rw[j.o];rfl,d.o⟩
 by_cases E:t<=1099511627776
 rotate_left
 ·have b:R=false:=by rw[f.o];simp[p,r,B,E]
  have j:=η1 b;clear b f;go_in;go_upto_region 1 with fail
  rw[o.o,m.o];go_wp2;go_ret;exact⟨by rw[j.o];rfl,d.o⟩
 by_cases I:0<=ep
 rotate_left
 ·have b:R=false:=by rw[f.o];simp[p,r,B,E,I]
  have j:=η1 b;clear b f;go_in;go_upto_region 1 with fail
  rw[o.o,m.o];go_wp2;go_ret;exact⟨by rw[j.o];rfl,d.o⟩
 by_cases J:ep<=1099511627776
 rotate_left
 ·have b:R=false:=by rw[f.o];simp[p,r,B,E,I,J]
  have j:=η1 b;clear b f;go_in;go_upto_region 1 with fail
  rw[o.o,m.o];go_wp2;go_ret;exact⟨by rw[j.o];rfl,d.o⟩
 have b:R=true:=by rw[f.o];simp[p,r,B,E,I,J]
 have j:=η1 b;clear b f;go_in;go_upto_region 1 with fail
 rw[o.o,m.o];go_wp2;go_ret;exact⟨by rw[j.o];rfl,d.o⟩
theorem d0j(a b:Nat)(d:a<256)(f:b<256):bits .xor .u8 (a:Int) (b:Int)=((a ^^^ b:Nat):Int):=by
 have m:a ^^^ b<2 ^ 8:=Nat.xor_lt_two_pow ρo ρo
 have g:(BitVec.ofInt 8 (a:Int)).toNat=a:=by
  rw[Yj,BitVec.toNat_ofNat];exact Nat.mod_eq_of_lt ρo
 have j:(BitVec.ofInt 8 (b:Int)).toNat=b:=by
  rw[Yj,BitVec.toNat_ofNat];exact Nat.mod_eq_of_lt ρo
 show IntKind.u8.wrap ((BitVec.ofInt 8 (a:Int) ^^^ BitVec.ofInt 8 (b:Int)).toNat:Int)=_
 rw[BitVec.toNat_xor,g,j,IntKind.wrap_u8];omega
theorem d1U(a b:Nat)(d:a<256)(f:b<256):bits .or .u8 (a:Int) (b:Int)=((a||| b:Nat):Int):=by
 have m:a||| b<2 ^ 8:=Nat.or_lt_two_pow ρo ρo
 have g:(BitVec.ofInt 8 (a:Int)).toNat=a:=by
  rw[Yj,BitVec.toNat_ofNat];exact Nat.mod_eq_of_lt ρo
 have j:(BitVec.ofInt 8 (b:Int)).toNat=b:=by
  rw[Yj,BitVec.toNat_ofNat];exact Nat.mod_eq_of_lt ρo
 show IntKind.u8.wrap ((BitVec.ofInt 8 (a:Int)||| BitVec.ofInt 8 (b:Int)).toNat:Int)=_
 rw[BitVec.toNat_or,g,j,IntKind.wrap_u8];omega
theorem c6b{a b:Int}(d:0<=a/\a<=255)(f:0<=b/\b<=255):bits .xor .u8 a b=0↔a=b:=by
 obtain⟨n,rfl⟩:=a1C d.1;obtain⟨m,rfl⟩:=a1C f.1;rw[d0j n m ρo ρo]
 have:n ^^^ m=0↔n=m:=by
  constructor
  ·intro h
   have g:n ^^^ (n ^^^ m)=n ^^^ 0:=by rw[h]
   rw[<-Nat.xor_assoc,Nat.xor_self,Nat.zero_xor,Nat.xor_zero]at g;exact g.symm
  rintro rfl;exact Nat.xor_self _
 omega
theorem c7F{a b:Int}(d:0<=a/\a<=255)(f:0<=b/\b<=255):bits .or .u8 a b=0↔a=0/\b=0:=by
 obtain⟨n,rfl⟩:=a1C d.1;obtain⟨m,rfl⟩:=a1C f.1;rw[d1U n m ρo ρo]
 have:n||| m=0↔n=0/\m=0:=Nat.or_eq_zero_iff
 omega
theorem a8i(a b:LI)(f:Dig a)(m:Dig b)(w:WD):Calls prog 48 #[.agg (bys a).toArray,.agg (bys b).toArray] w λe w'=>e=.returned (.bool (decide (a=b)))/\Below w w w':=by
 have b1:=Qd w 31 (bys a).toArray;have V:=ρb w (.cells (bys a).toArray 31)
 generalize z:w.alloc (.cells (bys a).toArray 31)=W1 at b1 V
 have P:=Qd W1 31 (bys b).toArray;have B2:Below w w (W1.alloc (.cells (bys b).toArray 31)):=V.alloc V.size _;have y:=b1.alloc (.cells (bys b).toArray 31)
 generalize T:W1.alloc (.cells (bys b).toArray 31)=W at P B2 y
 rw[show W1.heap.size=w.heap.size+1 by rw[<-z];simp]at P;rw[<-z]at T;have⟨g,hg⟩:=ηs w;rw[hg]at y P
 have H:∀j,j<32->W.cell? ⟨g,j,none⟩=some (.int .u8 (a.getD j 0)):=λj p=>by
  rw[y.cell j];simp[bys,List.getD,show j<a.length by rw[f.1];exact p]
 have E:∀j,j<32->W.cell? ⟨g+1,j,none⟩=some (.int .u8 (b.getD j 0)):=λj p=>by
  rw[P.cell j];simp[bys,List.getD,show j<b.length by rw[m.1];exact p]
 have S:∀j,j<32->0<=a.getD j 0/\a.getD j 0<=255:=λj p=>f.2 _ (by simp[List.getD,show j<a.length by rw[f.1];exact p])
 have F:∀j,j<32->0<=b.getD j 0/\b.getD j 0<=255:=λj p=>m.2 _ (by simp[List.getD,show j<b.length by rw[m.1];exact p])
 have⟨R,hR⟩:=η0 (decide (a=b))
 have G:R=true↔∀j,j<32->a.getD j 0=b.getD j 0:=by
  rw[<-hR,decide_eq_true_eq]
  constructor
  ·rintro rfl j _;rfl
  intro h
  apply ZE (by rw[f.1,m.1])
  intro j U X
  have:=h j (ρz f.1 U)
  simpa[List.getD,U,X]using this
 rw[hR];have⟨ya,D⟩:=η0 ((bys a).toArray);have⟨yb,B⟩:=η0 ((bys b).toArray);rw[D,B]at T;rw[D,B];have⟨ad,Z,af,ab,HR,HW,HG,J⟩:=η8 H E S F G T hg B2;clear H E S F G T hg B2 hR D B b1 V P y z f m;go_in;go_upto_region 3 with fail
 rw[HW.o,HG.o];go_loopg [5,6,7] 32 (λkk v _ s wr=>∃(i:Nat) (x:Int),i+kk=32/\s=.int .i64 i/\v=.int .u8 x/\(0<=x/\x<=255)/\(x=0↔∀j,j<i->a.getD j 0=b.getD j 0)/\∃q,wr=W.drewN q);exact⟨0,0,by omega,rfl,rfl,by omega,⟨λ_ j p=>ρo,λ_=>rfl⟩,0,rfl⟩;obtain⟨i,x,hi,rfl,rfl,hx,o,q,rfl⟩:=hrel
 by_cases r:i<32
 ·have ag:(i:Int)<32:=ρo
  have k1:=ad.o i r;have k2:=Z.o i r;have p1:=af.o i r;have Y:=ab.o i r;have⟨c,hc⟩:=η0 (a.getD i 0);have⟨d,hd⟩:=η0 (b.getD i 0);rw[hc]at k1 p1;rw[hd]at k2 Y;have I:=c6b p1 Y;have N:0<=bits .xor .u8 c d/\bits .xor .u8 c d<=255:=⟨bits_lo_u8 _ _ _,bits_hi_u8 _ _ _⟩;have Q:=c7F hx N;have⟨ae,ac,K,HC,HD⟩:=η5 Q I o hc hd;clear I N Q o hc hd p1 Y;go_wp2_with fail;go_quiet (fail)
  all_goals
   go_wp2;go_roundg (32-(i+1))
   case measure=>omega
   refine⟨i+1,bits .or .u8 x (bits .xor .u8 c d),by omega,by go_num,rfl,⟨bits_lo_u8 _ _ _,bits_hi_u8 _ _ _⟩,?_,_,(by first | rfl | exact World.drewN_drewN _ _ _)⟩;rw[ae.o,ac.o,K.o]
   constructor
   ·rintro⟨U,X⟩ j p
    by_cases e:j=i
    ·subst e;rw[HC.o,HD.o];exact X
    exact U j ρo
   intro h;exact⟨λj p=>h j ρo,by rw[<-HC.o,<-HD.o];exact h i ρo⟩
 obtain rfl:i=32:=ρo;rw[show((32:Nat):Int)=32 from rfl]
 have O:R=(x == 0):=by
  rw[Bool.eq_iff_iff,HR.o,beq_iff_eq];exact o.symm
 have aa:=η1 O;clear O o;go_wp2;go_ret;exact⟨by rw[aa.o];first | rfl | simp,⟨J.os,J.tape,J.output,J.size,J.block⟩⟩
abbrev c4Y:=bdOf 31
theorem d2K(w:WD):(BDs 31 #[]).run prog w=.ok (.agg (bys (List.replicate 32 0)).toArray) w:=run_build w _ _ _ ρk
theorem a4q{t:TxD}(n:Int):(a2P t n).length<=16:=by
 unfold a2P
 split
 ·rename_i h
  have:=(a4R (a4S h.1).1).1
  rw[Qw];exact this.2
 simp
theorem a8y{t:TxD}(n:Int):(a2K t n).length<=16:=by
 unfold a2K
 split
 ·rename_i h
  have:=(a4R (a4S h.1).1).2.1
  rw[Qw,List.length_range];exact this.2
 simp
theorem b3B{n:Int}(h:∀x∈l,0<=x/\x<n/\n<=64):∀x∈l,0<=x/\x<64:=λx hx=>by have:=h x hx;omega
theorem a8x.rd{B N c:Nat}{w:WD}{A:OA}{l:LI}(h:a8x B w (.slice A N c) l):RdW .i64 w A l:=by
 obtain⟨d,b,e,a,_⟩:=a2X.rd h;simp only[Value.slice.injEq]at e;rw[e.1];exact a
theorem b7x(a:OA)(d:Nat)(b:OA)(f:Nat)(t:TxD)(n:Int)(r:-9223372036854775808<=n/\n<=9223372036854775807)(w:WD)(h:a9H w a b t)(j:a2x w)(p:t.ins.length<=1000000)(o:t.outs.length<=1000000):Calls prog 214 #[.agg (txV a d b f t),.int .i64 n] w λe w'=>∃A c,e=.returned (.slice A (a2V (a2P t n)).length c)/\RdW .i64 w' A (a2V (a2P t n))/\Below w w w':=by
 have y:=Qd w 53 (txV a d b f t);have B:=ρb w (.cells (txV a d b f t) 53);have⟨W,G⟩:=η0 (w.alloc (.cells (txV a d b f t) 53));have⟨g,J⟩:=ηs w;rw[G]at B;rw[G,J]at y;have q0:W.cell? ⟨g,0,none⟩=some (.slice a t.ins.length d):=y.cell 0;have q1:W.cell? ⟨g,1,none⟩=some (.slice b t.outs.length f):=y.cell 1;have q2:W.cell? ⟨g,2,none⟩=some (.int .u64 t.fee):=y.cell 2;have q3:W.cell? ⟨g,3,none⟩=some (.int .i64 t.exp):=y.cell 3;have x:=a9q a d b f t n r W (h.below B) (j.below B) p o;have⟨U,HG,I⟩:=η3 G J B;clear G J B y h j p o;unfold txV at U x⊢;go_in;go_upto_region 1 with fail
 rw[U.o,HG.o];go_wp2_with fail;refine μ1 x ?_;rintro e X ⟨v,u,rfl,H,T,z⟩;obtain⟨Z,Y,cv,rfl⟩:=H.formN;obtain⟨Au,Nu,cu,rfl⟩:=T.formN;have V:=b8i W.heap.size Z Y cv (a2P t n) X H (b3B (c0g t n)) (by have:= @a4q t n;omega);have⟨HV,F⟩:=η2 H z;clear H T z x;go_wp2_with fail;refine μ1 V ?_;rintro e w2 ⟨A',c',rfl,S,R⟩;have D:=F.trans (a2X.step HV R F.size);have⟨Q,N⟩:=η2 S (φt I D);clear S R D V;have⟨E,K⟩:=η0 (a2V (a2P t n));rw[K]at Q;have P:=η1 K;clear K;rw[P.o];have⟨m,O⟩:=η0 E.length;have HM:=η1 O;rw[O];clear O;go_wp2;go_ret;exact⟨A',c',by rw[P.o,HM.o];rfl,by rw[P.o];exact Q.o,N.o⟩
theorem a6O(a:OA)(d:Nat)(b:OA)(f:Nat)(t:TxD)(n s:Int)(p:-9223372036854775808<=n/\n<=9223372036854775807)(w:WD)(h:a9H w a b t)(j:a2x w)(o:t.ins.length<=1000000)(m:t.outs.length<=1000000):Calls prog 155 #[.agg (txV a d b f t),.int .i64 n,.int .i64 s] w λe w'=>∃v u,e=.returned (.tuple #[v,u])/\a8x w w' v (a0M (a2P t n) s)/\a8x w w' u (a0M (a2K t n) s)/\Below w w w':=by
 have E:=Qd w 53 (txV a d b f t);have J:=ρb w (.cells (txV a d b f t) 53);have⟨W,P⟩:=η0 (w.alloc (.cells (txV a d b f t) 53));have⟨g,S⟩:=ηs w;rw[P]at J;rw[P,S]at E;have q0:W.cell? ⟨g,0,none⟩=some (.slice a t.ins.length d):=E.cell 0;have q1:W.cell? ⟨g,1,none⟩=some (.slice b t.outs.length f):=E.cell 1;have q2:W.cell? ⟨g,2,none⟩=some (.int .u64 t.fee):=E.cell 2;have q3:W.cell? ⟨g,3,none⟩=some (.int .i64 t.exp):=E.cell 3;have B:=a9q a d b f t n p W (h.below J) (j.below J) o m;have⟨HW,HG,y⟩:=η3 P S J;clear P S J E h j o m;unfold txV at HW B⊢;go_in;go_upto_region 1 with fail
 rw[HW.o,HG.o];go_wp2_with fail;refine μ1 B ?_;rintro e F ⟨v,u,rfl,R,Q,H⟩;obtain⟨Av,Nv,cv,rfl⟩:=R.formN;obtain⟨Au,Nu,cu,rfl⟩:=Q.formN;have G:=b2z Av Nv cv (a2P t n) s F R.rd R.lenN (by have:= @a4q t n;omega);have r:=λX (hX:Below F F X)=>b2z Au Nu cu (a2K t n) s X (Q.rd.below hX) Q.lenN (by have:= @a8y t n;omega)
 have⟨N,Y⟩:=η2 H r;clear R Q H B r;go_wp2_with fail;refine μ1 G ?_;rintro e w2 ⟨v2,rfl,I,z⟩;have r:=Y.o w2 z;have⟨V,O⟩:=η2 I (φt N z);have Z:F.heap.size<=w2.heap.size:=z.size;clear G I z;go_wp2_with fail;refine μ1 r ?_;rintro e w3 ⟨v3,rfl,K,D⟩;have x:a8x F w3 v2 (a0M (a2P t n) s):=a2X.keep V D;have⟨x,T,U⟩:=η3 x K (φt O D);clear K D r;go_wp2;go_ret2;exact⟨_,_,rfl,a2X.base x (Qk y.size N.size),a2X.base T (Qk y.size O.size),y.trans (U.mono y.size)⟩
section
attribute [local go_sem ↓] a1W a1l a1B b3z
theorem b5J(e:a1P)(a:e.Bd)(b:a0D e=true)(w:WD):Calls prog 44 #[.agg (a0x e).toArray] w λx w'=>∃v,x=.returned v/\a0N w w' v (a5V e)/\Below w w w':=by
 have b0:=Qd w 34 (a0x e).toArray;have B0:=ρb w (.cells (a0x e).toArray 34);have⟨W,hW⟩:=η0 (w.alloc (.cells (a0x e).toArray 34));have⟨g,hg⟩:=ηs w;rw[hW]at B0;rw[hW,hg]at b0;have V:∀X,Below W W X->Blk X g 34 (a0x e).toArray:=λX hX=>b0.fr (Q9 hX) (λh=>by have:=b0.lt;omega)
 have⟨HW,HG,Z⟩:=η3 hW hg B0;obtain⟨⟨r1,r2⟩,⟨r3,r4⟩,r5,⟨r6,r7⟩,r8,r9⟩:=(b2B e).1 b;have Y:=a.am.1;have P:=a6I a;have af:=c1s a;have m:=a.tx;obtain⟨ka,sa,tx,am,wy,ep⟩:=e;simp only at r1 r2 r3 r4 r5 r6 r7 r8 r9 Y P af m;obtain⟨T,rfl⟩:=a1C (show 0<=ka by omega);obtain⟨Q,rfl⟩:=a1C r3;obtain⟨na,rfl⟩:=a1C Y;obtain⟨R,rfl⟩:=a1C r6;obtain⟨ne,rfl⟩:=a1C r8;have wk:IntKind.u64.wrap (T:Int)=T:=by rw[IntKind.wrap_u64];omega
 have ws:IntKind.u64.wrap (Q:Int)=Q:=by rw[IntKind.wrap_u64];omega
 have ww:IntKind.u64.wrap (R:Int)=R:=by rw[IntKind.wrap_u64];omega
 have we:IntKind.u64.wrap (ne:Int)=ne:=by rw[IntKind.wrap_u64];omega
 have mk:=a0p (n:=T) ρo;have ms:=a0p (n:=Q) ρo;have ma:=a0p (n:=na) ρo;have mw:=a0p (n:=R) ρo;have me:=a0p (n:=ne) ρo;have md:=m.1;clear a b r1 r3 r6 r8 Y
 have ad:∀X,Below W W X->(X.cell? ⟨g,0,none⟩=some (.int .i64 T)/\X.cell? ⟨g,1,none⟩=some (.int .i64 Q)/\(LDs 31 (.pointer (some ⟨g,2,none⟩))).run prog X=.ok (.agg (bys tx).toArray) X/\X.cell? ⟨g,34,none⟩=some (.int .u64 na)/\X.cell? ⟨g,35,none⟩=some (.int .i64 R)/\X.cell? ⟨g,36,none⟩=some (.int .i64 ne)):=λX hX=>by
  have O:=V X hX;exact⟨O.cell 0,O.cell 1,a0g a2i iId O (off:=2) (bys tx) (by rw[a0a,m.1]) af,(O.cell 34).trans P.1,(O.cell 35).trans P.2.1,(O.cell 36).trans P.2.2⟩
 have F:=η1 ad
 generalize hy:(a0x ⟨(T:Int),(Q:Int),tx,(na:Int),(R:Int),(ne:Int)⟩).toArray=y at HW⊢
 have N:a5V ⟨(T:Int),(Q:Int),tx,(na:Int),(R:Int),(ne:Int)⟩=a0K T++a0K Q++tx++a0K na++a0K R++a0K ne:=by simp[a5V]
 rw[N];clear ad hW hg B0 b0 V hy N;go_in;go_upto_region 1 with fail
 rw[HW.o,HG.o];refine a0s [(0,3),(4,3),(1,0),(5,0),(2,3),(6,3),(3,1),(7,1),(8,2),(9,3)] (λX=>Below W W X) ρk ρk ρk ρk (Qf _ W).drew ?_;refine ε2 ?_
 iterate 2 (with_reducible refine a0t (o:=?_) (v:=?_) (a':=?_) ρu ρu (λW' ah=>?_) ?_ ?_;rotate_left 2;(focus(obtain⟨q0,q1,U,B,p,z⟩:=F.o W' ah;exact ρs));focus(exact ρs))
 refine ε2 ?_;have r:=a3W T ρo W.drew;refine κ ?_;intro K hK;refine μ1 r ?_;rintro e wa ⟨va,rfl,ha,ae⟩;obtain⟨Aa,Na,ca,rfl⟩:=ha.formN;have S:Below W W wa:=(Qf _ W).drew.trans (ae.mono (Qg _));have⟨HA,ac⟩:=η2 ha S;clear ha ae S r;with_reducible refine hK _ _ ac.o ?_;clear hK K
 have r:=a3W Q ρo wa;refine κ ?_;intro K hK;refine μ1 r ?_;rintro e wb ⟨vb,rfl,O,aa⟩;obtain⟨Ab,Nb,cb,rfl⟩:=O.formN;have D:Below W W wb:=φt ac aa;have ab:=(HA.kept aa).base (B':=W.heap.size) (Qg _);obtain⟨A1,N1,c1,w1,ak,H,I,_⟩:=a5R (ty:=22) ab O (a0L ρo) ρo D.size;have j:=D.trans (I.below D.size (λk hk e=>by have:=(ab.lt e).1;omega));have⟨J,E,ag⟩:=η3 H j D;clear H I j O aa D ab r;with_reducible refine hK _ _ ag.o ?_;clear hK K
 refine τ1 ?_;refine ε1 ?_;refine ν ?_;obtain⟨q0,q1,U,B,p,z⟩:=F.o w1 E;have r:=a3E tx m.1 m.2 w1;go_wp2_with fail;refine μ1 r ?_;rintro e aB ⟨u,rfl,G,d⟩;obtain⟨ao,aq,aE,rfl⟩:=G.formN;have f:=Qk E.size d.size;obtain⟨A2,N2,c2,w2,ai,H,I,_⟩:=a5R (ty:=22) (J.kept d) G m.2 (by simp only[Qa];omega) f;have j:=(φt E d).trans (I.below f (λk hk e=>by have:=(J.lt e).1;omega));have⟨J,E⟩:=η2 H j;clear H I j f G d r q0 q1 U B p z;obtain⟨q0,q1,U,B,p,z⟩:=F.o w2 E;have r:=a3W na ρo w2;go_wp2_with fail;refine μ1 r ?_;rintro e aG ⟨u,rfl,G,d⟩;obtain⟨ay,aH,ax,rfl⟩:=G.formN;have f:=Qk E.size d.size;obtain⟨A3,N3,c3,w3,an,H,I,_⟩:=a5R (ty:=22) (J.kept d) G (a0L ρo) (by simp only[Qa];omega) f;have j:=(φt E d).trans (I.below f (λk hk e=>by have:=(J.lt e).1;omega));have⟨J,E⟩:=η2 H j;clear H I j f G d r q0 q1 U B p z;obtain⟨q0,q1,U,B,p,z⟩:=F.o w3 E
 have r:=a3W R ρo w3;go_wp2_with fail;refine μ1 r ?_;rintro e aC ⟨u,rfl,G,d⟩;obtain⟨aD,aF,ar,rfl⟩:=G.formN;have f:=Qk E.size d.size;obtain⟨A4,N4,c4,w4,aj,H,I,_⟩:=a5R (ty:=22) (J.kept d) G (a0L ρo) (by simp only[Qa];omega) f;have j:=(φt E d).trans (I.below f (λk hk e=>by have:=(J.lt e).1;omega));have⟨J,E⟩:=η2 H j;clear H I j f G d r q0 q1 U B p z;obtain⟨q0,q1,U,B,p,z⟩:=F.o w4 E;have r:=a3W ne ρo w4;go_wp2_with fail;refine μ1 r ?_;rintro e au ⟨u,rfl,G,d⟩;obtain⟨av,az,aA,rfl⟩:=G.formN;have f:=Qk E.size d.size;obtain⟨A5,N5,c5,w5,al,H,I,_⟩:=a5R (ty:=22) (J.kept d) G (a0L ρo) (by simp only[Qa];omega) f;have j:=(φt E d).trans (I.below f (λk hk e=>by have:=(J.lt e).1;omega));have⟨J,E⟩:=η2 H j;clear H I j f G d r q0 q1 U B p z;go_wp2;go_ret;exact⟨_,rfl,J.base Z.size,Z.trans (E.mono Z.size)⟩
theorem b5l(e:a0Q)(a:e.Bd)(b:a0w e=true)(w:WD):Calls prog 46 #[.agg (a0b e).toArray] w λx w'=>∃v,x=.returned v/\a0N w w' v (a2a e)/\Below w w w':=by
 have b0:=Qd w 37 (a0b e).toArray;have B0:=ρb w (.cells (a0b e).toArray 37);have⟨W,hW⟩:=η0 (w.alloc (.cells (a0b e).toArray 37));have⟨g,hg⟩:=ηs w;rw[hW]at B0;rw[hW,hg]at b0;have R:∀X,Below W W X->Blk X g 37 (a0b e).toArray:=λX hX=>b0.fr (Q9 hX) (λh=>by have:=b0.lt;omega)
 have⟨HW,HG,S⟩:=η3 hW hg B0;obtain⟨⟨r1,r2⟩,⟨r3,r4⟩,r5,r6⟩:=(a3B e).1 b;have ac:=b2u a;have ab:=b2l a;have B:=a.prev;have E:=a.root;obtain⟨sa,ta,ep,prev,root⟩:=e;simp only at r1 r2 r3 r4 r5 r6 ac ab B E;obtain⟨O,rfl⟩:=a1C r1;obtain⟨P,rfl⟩:=a1C (show 0<=ta by omega);obtain⟨ne,rfl⟩:=a1C r5;have ws:IntKind.u64.wrap (O:Int)=O:=by rw[IntKind.wrap_u64];omega
 have wt:IntKind.u64.wrap (P:Int)=P:=by rw[IntKind.wrap_u64];omega
 have we:IntKind.u64.wrap (ne:Int)=ne:=by rw[IntKind.wrap_u64];omega
 have ms:=a0p (n:=O) ρo;have mt:=a0p (n:=P) ρo;have me:=a0p (n:=ne) ρo;have ar:=B.1;have ay:=E.1;clear a b r1 r3 r5
 have aa:∀X,Below W W X->(X.cell? ⟨g,0,none⟩=some (.int .i64 O)/\X.cell? ⟨g,1,none⟩=some (.int .i64 P)/\X.cell? ⟨g,2,none⟩=some (.int .i64 ne)/\(LDs 31 (.pointer (some ⟨g,3,none⟩))).run prog X=.ok (.agg (bys prev).toArray) X/\(LDs 31 (.pointer (some ⟨g,35,none⟩))).run prog X=.ok (.agg (bys root).toArray) X):=λX hX=>by
  have N:=R X hX;exact⟨N.cell 0,N.cell 1,N.cell 2,a0g a2i iId N (off:=3) (bys prev) (by rw[a0a,B.1]) ac,a0g a2i iId N (off:=35) (bys root) (by rw[a0a,E.1]) ab⟩
 have r:=η1 aa
 generalize hy:(a0b ⟨(O:Int),(P:Int),(ne:Int),prev,root⟩).toArray=y at HW⊢
 have F:a2a ⟨(O:Int),(P:Int),(ne:Int),prev,root⟩=a0K O++a0K P++a0K ne++prev++root:=by simp[a2a]
 rw[F];clear aa hW hg B0 b0 R hy F;go_in;go_upto_region 1 with fail
 rw[HW.o,HG.o];refine a0s [(0,3),(4,3),(1,0),(5,0),(2,3),(6,3),(3,1),(7,1),(8,2),(9,3)] (λX=>Below W W X) ρk ρk ρk ρk (Qf _ W).drew ?_;refine ε2 ?_
 iterate 2 (with_reducible refine a0t (o:=?_) (v:=?_) (a':=?_) ρu ρu (λW' af=>?_) ?_ ?_;rotate_left 2;(focus(obtain⟨q0,q1,Y,V,z⟩:=r.o W' af;exact ρs));focus(exact ρs))
 refine ε2 ?_;have p:=a3W O ρo W.drew;refine κ ?_;intro K hK;refine μ1 p ?_;rintro e wa ⟨va,rfl,ha,ad⟩;obtain⟨Aa,Na,ca,rfl⟩:=ha.formN;have Q:Below W W wa:=(Qf _ W).drew.trans (ad.mono (Qg _));have⟨HA,Z⟩:=η2 ha Q;clear ha ad Q p;with_reducible refine hK _ _ Z.o ?_;clear hK K
 have p:=a3W P ρo wa;refine κ ?_;intro K hK;refine μ1 p ?_;rintro e wb ⟨vb,rfl,N,T⟩;obtain⟨Ab,Nb,cb,rfl⟩:=N.formN;have m:Below W W wb:=φt Z T;have U:=(HA.kept T).base (B':=W.heap.size) (Qg _);obtain⟨A1,N1,c1,w1,ai,G,H,_⟩:=a5R (ty:=22) U N (a0L ρo) ρo m.size;have f:=m.trans (H.below m.size (λk hk e=>by have:=(U.lt e).1;omega));have⟨J,D,ae⟩:=η3 G f m;clear G H f N T m U p;with_reducible refine hK _ _ ae.o ?_;clear hK K
 refine τ1 ?_;refine ε1 ?_;refine ν ?_;obtain⟨q0,q1,Y,V,z⟩:=r.o w1 D;have p:=a3W ne ρo w1;go_wp2_with fail;refine μ1 p ?_;rintro e au ⟨u,rfl,I,d⟩;obtain⟨ak,al,az,rfl⟩:=I.formN;have j:=Qk D.size d.size;obtain⟨A2,N2,c2,w2,ag,G,H,_⟩:=a5R (ty:=22) (J.kept d) I (a0L ρo) (by simp only[Qa];omega) j;have f:=(φt D d).trans (H.below j (λk hk e=>by have:=(J.lt e).1;omega));have⟨J,D⟩:=η2 G f;clear G H f j I d p q0 q1 Y V z;obtain⟨q0,q1,Y,V,z⟩:=r.o w2 D;have p:=a3E prev B.1 B.2 w2;go_wp2_with fail;refine μ1 p ?_;rintro e aB ⟨u,rfl,I,d⟩;obtain⟨aq,aC,ao,rfl⟩:=I.formN;have j:=Qk D.size d.size;obtain⟨A3,N3,c3,w3,aj,G,H,_⟩:=a5R (ty:=22) (J.kept d) I B.2 (by simp only[Qa];omega) j;have f:=(φt D d).trans (H.below j (λk hk e=>by have:=(J.lt e).1;omega));have⟨J,D⟩:=η2 G f;clear G H f j I d p q0 q1 Y V z;obtain⟨q0,q1,Y,V,z⟩:=r.o w3 D
 have p:=a3E root E.1 E.2 w3;go_wp2_with fail;refine μ1 p ?_;rintro e av ⟨u,rfl,I,d⟩;obtain⟨ax,aA,an,rfl⟩:=I.formN;have j:=Qk D.size d.size;obtain⟨A4,N4,c4,w4,ah,G,H,_⟩:=a5R (ty:=22) (J.kept d) I E.2 (by simp only[Qa];omega) j;have f:=(φt D d).trans (H.below j (λk hk e=>by have:=(J.lt e).1;omega));have⟨J,D⟩:=η2 G f;clear G H f j I d p q0 q1 Y V z;go_wp2;go_ret;exact⟨_,rfl,J.base S.size,S.trans (D.mono S.size)⟩
end
section
theorem u89:prog.underlying 244=some (.array 64 5):=ρk
attribute [local go_sem ↓] a3w
def b1D(y:Int)(l:LI)(i:Nat):LI:=a2L y (l.take i)++l.drop i
theorem b8O(y:Int)(l:LI):b1D y l 0=l:=by simp[b1D,a2L]
theorem c2r(y:Int)(h:l.length=n):b1D y l n=a2L y l:=by subst h;simp[b1D]
theorem c2n(y:Int)(hi:i<l.length):(b1D y l i)[i]? =some (l.getD i 0):=by
 unfold b1D a2L;rw[QL (by simp[QY (Nat.le_of_lt hi)])];simp[QY (Nat.le_of_lt hi),List.getD,hi]
theorem c1E(y:Int)(hi:i<l.length):(bys (b1D y l i)).toArray.setIfInBounds i (.int .u8 (bits .xor .u8 (l.getD i 0) y))=(bys (b1D y l (i+1))).toArray:=by
 rw[Yd]
 congr 1
 unfold b1D a2L bys;rw[Qe hi,List.drop_eq_getElem_cons hi];simp only[QV,Yl,List.map_nil,QC];rw[List.set_append_right _ _ (by simp[QY (Nat.le_of_lt hi)])];simp[QY (Nat.le_of_lt hi),List.getD,hi]
theorem b1M(l:LI)(a:l.length=64)(y:Int)(w:WD):Calls prog 133 #[.agg (bys l).toArray,.int .u8 y] w λe w'=>∃g,e=.returned (.slice (some ⟨g,0,none⟩) 64 64)/\w.heap.size<=g/\Blk w' g 244 (bys (a2L y l)).toArray/\Below w w w':=by
 have r:=Qd w 244 (bys l).toArray;have G:=ρb w (.cells (bys l).toArray 244);have⟨W,j⟩:=η0 (w.alloc (.cells (bys l).toArray 244));have⟨g,D⟩:=ηs w;rw[j]at G;rw[j,D]at r;have sl:=λX=>Pi u89 i5 X g ρo
 have⟨z,H⟩:=η0 ((bys l).toArray);rw[<-b8O y l]at r;rw[H]at j⊢;have⟨N,E,B,d⟩:=η4 j D G r;clear j D G r H;go_in;go_upto_region 2 with fail
 rw[N.o,E.o];go_loopg [5,6] 64 (λK _ s wr=>∃i:Nat,i+K=64/\s=.int .i64 i/\Blk wr g 244 (bys (b1D y l i)).toArray/\Below w w wr);exact⟨0,by omega,rfl,d.o,B.o⟩;obtain⟨i,hi,rfl,b,v⟩:=hrel
 by_cases x:i<64
 ·have I:(i:Int)<64:=ρo
  have o:i<l.length:=by rw[a];exact x
  have O:wr.cell? ⟨g,i,none⟩=some (.int .u8 (l.getD i 0)):=(b.cell i).trans (by simp only[QE,a3J,c2n y o];rfl);have S:=b.frozen i;have f:=c1E y o;have⟨c,J⟩:=η0 (l.getD i 0);rw[J]at O f;have⟨m,d,F⟩:=η3 f b v;clear f b v J;go_wp2;go_roundg (64-(i+1))
  case measure=>omega
  refine⟨i+1,by omega,by go_num,?_,?_⟩
  ·rw[<-m.o];exact d.set_ i _
  exact Fr.below ((Q9 F.o).setCell (p:=⟨g,i,none⟩) (λh=>by have e:=E.o;have R:g<w.heap.size:=h;omega) _) (Qg _) (λk Q e=>ρo)
 obtain rfl:i=64:=ρo;rw[show((64:Nat):Int)=64 from rfl];rw[c2r y a]at b;have⟨d,F⟩:=η2 b v;clear b v;go_wp2;go_ret;exact⟨g,rfl,by rw[E.o];exact Qg _,d.o,F.o⟩
theorem a9o(h:k.length<=64):a7V k=k++List.replicate (64-k.length) 0:=by
 unfold a7V d0A;rw[if_neg ρo]
theorem d2W:(((prog.info? 244).bind (·.zero)).map (·.cells.toList))=some (List.replicate 64 (.int .u8 0)):=ρk
theorem c5H:(prog.info? 244).map (·.size)=some 64:=ρk
theorem d1J:(prog.underlying 244).map a1f=some true:=ρk
abbrev b7U:=ldOf 244
abbrev b7m:=stOf 244
abbrev b7n:=alOf 244
theorem b8w(h:k.length<=64):a1d (List.replicate 64 (Value.int .u8 0)).toArray 0 (bys k)=(bys (a7V k)).toArray:=by
 rw[a9o h];obtain⟨n,a⟩:∃n,n=64:=⟨_,rfl⟩;rw[<-a];unfold a1d;simp[bys,QV,List.drop_replicate]
section
attribute [local go_sem ↓] b7U b7m b7n b7o
theorem c4N(A:OA)(c:Nat)(k:LI)(b:k.length<=64)(f:0<k.length)(w:WD)(d:Byt w A k):Calls prog 131 #[.slice A k.length c] w λe w'=>e=.returned (.agg (bys (a7V k)).toArray)/\Below w w w':=by
 obtain⟨z,E,F⟩:=Q8.1 d2W;have B:=Pc (t:=244) z E w;have hZ:z.cells=(List.replicate 64 (Value.int .u8 0)).toArray:=by rw[<-F]
 rw[hZ]at B;have H:=Qd w 244 (List.replicate 64 (Value.int .u8 0)).toArray;have J:=ρb w (.cells (List.replicate 64 (Value.int .u8 0)).toArray 244);have⟨W,Q⟩:=η0 (w.alloc (.cells (List.replicate 64 (Value.int .u8 0)).toArray 244));have⟨g,G⟩:=ηs w;rw[Q]at J B;rw[Q,G]at H;rw[G]at B;obtain⟨I,o,rfl,Z,p⟩:=(d.below J).cell f;have U:=d.bd;have sl:=λX=>Pi u89 i5 X g ρo
 have r:∀j,(⟨I,o,none⟩:Addr).add j=⟨I,o+j,none⟩:=λj=>d1E I o j
 have y:=c0H (P:=prog) (dT:=22) (sT:=22) (ty:=3) Tryz.underlying22 i5 H (o:=0) (dLen:=64) (dCap:=64) (a:=⟨I,o,none⟩) (sLen:=k.length) (sCap:=c) (bys k) (by rw[a0a];exact(QY b).symm)
  (λj v hv=>by
   rw[r,];rw[a3J]at hv;obtain⟨x,hx,rfl⟩:=Q8.1 hv;exact p j x hx) (by simp[a0a];omega) (a0h _)
 rw[b8w b,a0a]at y;have b1:=H.row_ (bys (a7V k)).toArray;have T:Below w w (W.setRow g (bys (a7V k)).toArray):=Ql J ρo _
 generalize K:W.setRow g (bys (a7V k)).toArray=W1 at y b1 T
 have m:(bys (a7V k)).length=64:=by rw[a0a,b0g]
 have Y:=P6 d1J c5H b1 (off:=0) (bys (a7V k)) m (by simp[Qb,m]);have D:=Pa (t:=244) c5H b1 (off:=0) (bys (a7V k)) m (by simp[m]) (a0h _);rw[a0q _ _ ρp]at D
 generalize R:bys (a7V k)=ys at b1 Y D m⊢
 have O:¬((64:Int)<(k.length:Int)):=ρo
 generalize hn:k.length=n at y O b⊢
 have⟨V,HG,S,N⟩:=η4 T G b1 m;clear E F hZ H J Q G Z p d U r R hn m b1 T K f;go_in;go_upto_region 1 with fail
 go_wp2;exact bodyPost_ret (a0c rfl _ _ g 244 ys _ rfl (S.row_ _) u89 rfl (ρy N.o c5H)) rfl ⟨rfl,Ql V.o (by rw[HG.o];exact Qg _) _⟩
theorem c4z(A:OA)(c:Nat)(w:WD):Calls prog 131 #[.slice A 0 c] w λe w'=>e=.returned (.agg (bys (a7V [])).toArray)/\Below w w w':=by
 obtain⟨z,j,m⟩:=Q8.1 d2W;have b:=Pc (t:=244) z j w;have E:bys (a7V [])=List.replicate 64 (Value.int .u8 0):=by rw[a9o ρp];simp[bys]
 have F:z.cells=(bys (a7V [])).toArray:=by rw[E,<-m]
 rw[F]at b;have d:=Qd w 244 (bys (a7V [])).toArray;have x:=ρb w (.cells (bys (a7V [])).toArray 244);have⟨W,r⟩:=η0 (w.alloc (.cells (bys (a7V [])).toArray 244));have⟨g,o⟩:=ηs w;rw[r]at x b;rw[r,o]at d;rw[o]at b;have sl:=λX=>Pi u89 i5 X g ρo
 have G:(CPs #[22,22] 3 #[.slice g 64 64,.slice A 0 c]).run prog W=.ok (goInt 0) W:=run_copy_none W _ _ _ _ _ _ _ _ _ _ Tryz.underlying22 i5 ρp;have a:(bys (a7V [])).length=64:=by rw[a0a,b0g]
 have D:=P6 d1J c5H d (off:=0) (bys (a7V [])) a (by simp[Qb,a]);have f:=Pa (t:=244) c5H d (off:=0) (bys (a7V [])) a (by simp[a]) (a0h _);rw[a0q _ _ ρp]at f
 generalize v:bys (a7V [])=ys at d D f a⊢
 have⟨B,H,y,p⟩:=η4 x o d a;clear j m F d x r o v a E;go_in;go_upto_region 1 with fail
 go_wp2;exact bodyPost_ret (a0c rfl _ _ g 244 ys _ rfl (y.row_ _) u89 rfl (ρy p.o c5H)) rfl ⟨rfl,Ql B.o (by rw[H.o];exact Qg _) _⟩
theorem c5R(A:OA)(c:Nat)(k:LI)(a:k.length<=64)(w:WD)(b:Byt w A k):Calls prog 131 #[.slice A k.length c] w λe w'=>e=.returned (.agg (bys (a7V k)).toArray)/\Below w w w':=by
 rcases Zq k.length with h | h
 ·obtain rfl:=Zv.1 h
  exact c4z A c w
 exact c4N A c k a h w b
end
end
theorem c8T(w:WD):Calls prog 284 #[.int .u64 1] w λe w'=>e=.returned (.int .i64 1)/\w=w':=by
 have a:Lib.len8 1=1:=by decide
 go_in;go_wp2;go_ret;exact⟨by first | rfl | (show Ending.returned (.int .i64 (wrap64 (wrap64 (Lib.len8 1))))=_;rw[a];rfl),rfl⟩
theorem c6S(w:WD):Calls prog 284 #[.int .u64 2] w λe w'=>e=.returned (.int .i64 2)/\w=w':=by
 have a:Lib.len8 2=2:=by decide
 go_in;go_wp2;go_ret;exact⟨by first | rfl | (show Ending.returned (.int .i64 (wrap64 (wrap64 (Lib.len8 2))))=_;rw[a];rfl),rfl⟩
theorem d2r(w:WD):Calls prog 260 #[.int .u64 1] w λe w'=>e=.returned (.int .i64 1)/\w=w':=by
 have h:=c8T w;go_in;go_wp2_with fail;refine μi h ?_;intro w' a;rw[<-a];clear h a;go_wp2;go_ret;exact⟨rfl,rfl⟩
theorem d2f(w:WD):Calls prog 260 #[.int .u64 2] w λe w'=>e=.returned (.int .i64 2)/\w=w':=by
 have h:=c6S w;go_in;go_wp2_with fail;refine μi h ?_;intro w' a;rw[<-a];clear h a;go_wp2;go_ret;exact⟨rfl,rfl⟩
theorem b3C(w:WD):Calls prog 268 #[.int .i64 2] w λe w'=>e=.returned (.int .i64 1)/\w=w':=by
 have h:=d2r w;go_in;go_wp2_with fail;refine μi h ?_;intro w' a;rw[<-a];clear h a;go_wp2;go_ret;exact⟨rfl,rfl⟩
theorem b3L(w:WD):Calls prog 268 #[.int .i64 3] w λe w'=>e=.returned (.int .i64 2)/\w=w':=by
 have h:=d2f w;go_in;go_wp2_with fail;refine μi h ?_;intro w' a;rw[<-a];clear h a;go_wp2;go_ret;exact⟨rfl,rfl⟩
def inT(s:St):InD×St:=
 (⟨
  (idT s).1,((a0o 15 (idT s).2).1:Int),((a0o 18446744073709551615 (a0o 15 (idT s).2).2).1:Int),(a0C 64 (a0o 18446744073709551615 (a0o 15 (idT s).2).2).2).1⟩,
  (a0C 64 (a0o 18446744073709551615 (a0o 15 (idT s).2).2).2).2)
def b0P(s:St):a1q×St:=(⟨(idT s).1,((a0o 18446744073709551615 (idT s).2).1:Int)⟩,(a0o 18446744073709551615 (idT s).2).2)
def a6d:Nat->St->List InD×St
 | 0,s=>([],s)
 |
  j+1,s=>match a6d j s with
  | (L,.error x)=>(L,.error x)
  | (L,.ok l)=>(L++[(inT (.ok l)).1],(inT (.ok l)).2)
def a3g:Nat->St->List a1q×St
 | 0,s=>([],s)
 |
  j+1,s=>match a3g j s with
  | (L,.error x)=>(L,.error x)
  | (L,.ok l)=>(L++[(b0P (.ok l)).1],(b0P (.ok l)).2)
theorem a5T(s:St):a6d 0 s=([],s):=rfl
theorem a4B(s:St):a3g 0 s=([],s):=rfl
theorem b0W{s:St}{L:List InD}(h:a6d j s=(L,.ok l)):a6d (j+1) s=(L++[(inT (.ok l)).1],(inT (.ok l)).2):=by
 rw[a6d,h]
theorem a8H{s:St}{L:List a1q}(h:a3g j s=(L,.ok l)):a3g (j+1) s=(L++[(b0P (.ok l)).1],(b0P (.ok l)).2):=by
 rw[a3g,h]
theorem a6j{j:Nat}{s:St}{L:List InD}{x:Int}(h:a6d j s=(L,.error x)):∀d,a6d (j+d) s=(L,.error x)
 | 0=>h
 | d+1=>by rw[<-ZT,a6d,a6j h d]
theorem a4G{j:Nat}{s:St}{L:List a1q}{x:Int}(h:a3g j s=(L,.error x)):∀d,a3g (j+d) s=(L,.error x)
 | 0=>h
 | d+1=>by rw[<-ZT,a3g,a4G h d]
attribute [irreducible] a6d a3g
def txT(l:LI):TxD×St:=
 (⟨
  (a6d (a0o 16 (.ok l)).1 (a0o 16 (.ok l)).2).1,
  (a3g (a0o 16 (a6d (a0o 16 (.ok l)).1 (a0o 16 (.ok l)).2).2).1 (a0o 16 (a6d (a0o 16 (.ok l)).1 (a0o 16 (.ok l)).2).2).2).1,
  ((a0o 18446744073709551615 (a3g (a0o 16 (a6d (a0o 16 (.ok l)).1 (a0o 16 (.ok l)).2).2).1 (a0o 16 (a6d (a0o 16 (.ok l)).1 (a0o 16 (.ok l)).2).2).2).2).1:Int),
  ((a0o 1099511627776 (a0o 18446744073709551615 (a3g (a0o 16 (a6d (a0o 16 (.ok l)).1 (a0o 16 (.ok l)).2).2).1 (a0o 16 (a6d (a0o 16 (.ok l)).1 (a0o 16 (.ok l)).2).2).2).2).2).1:Int)⟩,
  (a0o 1099511627776 (a0o 18446744073709551615 (a3g (a0o 16 (a6d (a0o 16 (.ok l)).1 (a0o 16 (.ok l)).2).2).1 (a0o 16 (a6d (a0o 16 (.ok l)).1 (a0o 16 (.ok l)).2).2).2).2).2).2)
def a5N(l:LI):Except Int TxD:=
 match(txT l).2 with
 | .error x=>.error x
 | .ok r=>if 0<r.length then .error 3 else if a1a (txT l).1=0 then .ok (txT l).1 else .error (a1a (txT l).1)
theorem b7Q{v:Nat}(h:a4K most l=.ok (v,r))(a:∀x∈l,0<=x/\x<=255):∀x∈r,0<=x/\x<=255:=by
 have b:=a5l.1 h
 cases l with
 | nil=>simp[a2J]at b
 |
  cons k f=>
  simp only[a2J]at b
  split at b
  ·cases b
  simp only[Option.some.injEq,Prod.mk.injEq]at b;obtain⟨_,rfl⟩:=b;intro x d;exact a x (Qj _ (Yi d))
theorem a2c{s:St}(h:a9Q s):a9Q (a0o most s).2:=by
 cases s with
 | error x=>trivial
 |
  ok l=>
  cases h2:a4K most l with
  | error x=>simp only[a0o,h2];trivial
  |
   ok p=>
   obtain⟨v,r⟩:=p;simp only[a0o,h2];exact b7Q h2 h
theorem a4u{s:St}(h:a9Q s):a9Q (a0C most s).2/\∀x∈(a0C most s).1,0<=x/\x<=255:=by
 cases s with
 | error x=>exact⟨trivial,by simp[a0C]⟩
 |
  ok l=>
  cases h2:a4K most l with
  | error x=>simp only[a0C,a5L,h2];exact⟨trivial,by simp⟩
  |
   ok p=>
   obtain⟨v,r⟩:=p;have d:=b7Q h2 h
   by_cases b:r.length<v
   ·simp only[a0C,a5L,h2,b,if_true];exact⟨trivial,by simp⟩
   simp only[a0C,a5L,h2,b,if_false];exact⟨λx a=>d x (Yi a),λx a=>d x (QM a)⟩
theorem a7z{s:St}(h:a9Q s):a9Q (idT s).2/\∀x∈(idT s).1,0<=x/\x<=255:=by
 have d:∀x∈List.replicate 32 (0:Int),0<=x/\x<=255:=λx a=>by
  have:=Zf a
  omega
 cases s with
 | error x=>exact⟨trivial,d⟩
 |
  ok l=>
  by_cases b:l.length<32
  ·simp only[idT,a8k,b,if_true];exact⟨trivial,d⟩
  simp only[idT,a8k,b,if_false];exact⟨λx a=>h x (Yi a),λx a=>h x (QM a)⟩
theorem c9C{s:St}(h:a9Q s):(inT s).1.Bd/\a9Q (inT s).2:=by
 have b:=a7z h;have d:=a2c (most:=15) b.1;have f:=a2c (most:=18446744073709551615) d;have a:=a4u (most:=64) f;have g:=a0P 15 (idT s).2;have l2:=a0P 18446744073709551615 (a0o 15 (idT s).2).2;exact⟨⟨a1R s,b.2,⟨by simp only[inT];omega,by simp only[inT];omega⟩,⟨by simp only[inT];omega,by simp only[inT];omega⟩,a.2⟩,a.1⟩
theorem c8i{s:St}(h:a9Q s):(b0P s).1.Bd/\a9Q (b0P s).2:=by
 have a:=a7z h;have b:=a2c (most:=18446744073709551615) a.1;have l2:=a0P 18446744073709551615 (idT s).2;exact⟨⟨a1R s,a.2,⟨by simp only[b0P];omega,by simp only[b0P];omega⟩⟩,b⟩
theorem b3M{s:St}(h:a9Q s):∀j,(∀i∈(a6d j s).1,i.Bd)/\a9Q (a6d j s).2
 | 0=>by rw[a5T];exact⟨by simp,h⟩
 |
  j+1=>by
  have ih:=b3M h j
  cases hj:a6d j s with
  |
   mk L t=>
   rw[hj]at ih
   cases t with
   | error x=>rw[a6j hj 1];exact⟨ih.1,trivial⟩
   |
    ok l=>
    rw[b0W hj]
    have:=c9C (s:=.ok l) ih.2
    refine⟨λi hi=>?_,this.2⟩
    rcases Qq.1 hi with h1 | h1
    ·exact ih.1 i h1
    rw[Qn.1 h1];exact this.1
theorem b3H{s:St}(h:a9Q s):∀j,(∀i∈(a3g j s).1,i.Bd)/\a9Q (a3g j s).2
 | 0=>by rw[a4B];exact⟨by simp,h⟩
 |
  j+1=>by
  have ih:=b3H h j
  cases hj:a3g j s with
  |
   mk L t=>
   rw[hj]at ih
   cases t with
   | error x=>rw[a4G hj 1];exact⟨ih.1,trivial⟩
   |
    ok l=>
    rw[a8H hj]
    have:=c8i (s:=.ok l) ih.2
    refine⟨λi hi=>?_,this.2⟩
    rcases Qq.1 hi with h1 | h1
    ·exact ih.1 i h1
    rw[Qn.1 h1];exact this.1
theorem c9V(h:∀x∈l,0<=x/\x<=255):(txT l).1.Bd:=by
 have d:a9Q (a0o 16 (.ok l)).2:=a2c (s:=.ok l) h;have a:=b3M d (a0o 16 (.ok l)).1;have b:=a2c (most:=16) a.2;have f:=b3H b (a0o 16 (a6d (a0o 16 (.ok l)).1 (a0o 16 (.ok l)).2).2).1;have g:=a0P 18446744073709551615 (a3g (a0o 16 (a6d (a0o 16 (.ok l)).1 (a0o 16 (.ok l)).2).2).1 (a0o 16 (a6d (a0o 16 (.ok l)).1 (a0o 16 (.ok l)).2).2).2).2;have l2:=a0P 1099511627776 (a0o 18446744073709551615 (a3g (a0o 16 (a6d (a0o 16 (.ok l)).1 (a0o 16 (.ok l)).2).2).1 (a0o 16 (a6d (a0o 16 (.ok l)).1 (a0o 16 (.ok l)).2).2).2).2).2;exact⟨a.1,f.1,⟨by simp only[txT];omega,by simp only[txT];omega⟩,⟨by simp only[txT];omega,by simp only[txT];omega⟩⟩
theorem a9Z(s:St):∀j,(a6d j s).1.length<=j
 | 0=>by rw[a5T];simp
 |
  j+1=>by
  have ih:=a9Z s j
  cases hj:a6d j s with
  |
   mk L t=>
   rw[hj]at ih
   cases t with
   | error x=>rw[a6j hj 1];simp only at ih⊢;omega
   | ok l=>rw[b0W hj];simp only[Qa,ZB]at ih⊢;omega
theorem a8d(s:St):∀j,(a3g j s).1.length<=j
 | 0=>by rw[a4B];simp
 |
  j+1=>by
  have ih:=a8d s j
  cases hj:a3g j s with
  |
   mk L t=>
   rw[hj]at ih
   cases t with
   | error x=>rw[a4G hj 1];simp only at ih⊢;omega
   | ok l=>rw[a8H hj];simp only[Qa,ZB]at ih⊢;omega
theorem c3C{s:St}(h:b5A n s):b5A n (inT s).2:=a3c (a1b (a1b (a3U h)))
theorem b0X{n:Nat}{s:St}(h:b5A n s):∀j,b5A n (a6d j s).2
 | 0=>by rw[a5T];exact h
 |
  j+1=>by
  have ih:=b0X h j
  cases hj:a6d j s with
  |
   mk L t=>
   rw[hj]at ih
   cases t with
   | error x=>rw[a6j hj 1];trivial
   | ok l=>rw[b0W hj];exact c3C ih
theorem b1U{n:Nat}{s:St}(h:b5A n s):∀j,b5A n (a3g j s).2
 | 0=>by rw[a4B];exact h
 |
  j+1=>by
  have ih:=b1U h j
  cases hj:a3g j s with
  |
   mk L t=>
   rw[hj]at ih
   cases t with
   | error x=>rw[a4G hj 1];trivial
   | ok l=>rw[a8H hj];exact a1b (a3U ih)
section
attribute [local go_sem ↓] b6Y
def b5o(p s:Nat)(st:St)(v:VL)(e:Ending)(w':WD):Prop:=
 match st with
 | .error x=>e=.panicked [{v:=a1T x,recovered:=false}]
 | .ok r=>e=.returned v/\a0S w' p s r
theorem a7Z(p s:Nat)(l:LI)(n:Nat)(a:l.length<n)(w:WD)(h:a0S w p s l):Calls prog 115 #[.pointer p,.int .i64 n] w λe w'=>e=.panicked [{v:=a1T 2,recovered:=false}]/\w'=w:=by
 obtain⟨A,c,b,_⟩:=h;exact c4r p A c l n a w b
theorem b5h(p s:Nat)(l:LI)(most:Nat)(x:Int)(d:l.length<=1000000000)(w:WD)(h:a0S w p s l)(b:a4K most l=.error x):Calls prog 60 #[.pointer p,.int .u64 most] w λe w'=>e=.panicked [{v:=a1T x,recovered:=false}]/\Fr (λk=>k=p) w w':=by
 cases l with
 |
  nil=>
  simp only[a4K,Except.error.injEq]at b;subst b;go_in;go_wp2_with fail;refine(a7Z p s [] 1 ρp w h).mono ?_;rintro e w' ⟨rfl,g⟩;rw[g];exact⟨rfl,rfl,Qp _ _⟩
 |
  cons k f=>
  have E:∀y∈k::f,0<=y/\y<=255:=by
   obtain⟨A,c,he,_⟩:=h;exact he.by_.bd
  have hk:=E k ρp;obtain⟨K,rfl⟩:∃K:Nat,k=K:=⟨k.toNat,by omega⟩;have ai:K<=255:=ρo;simp only[a4K,Zd]at b;have ad:f.length<=1000000000:=by simp at d;omega
  have⟨H,HR,aa⟩:=η3 h b E;clear h b E hk;go_in;go_wp2_with fail;have G:=a7u p s ((K:Int)::f) 1 ρp d w H.o;rw[show((1:Nat):Int)=1 from rfl]at G;refine μ1 G ?_;rintro e U ⟨⟨A1,rfl,y1⟩,Z,f1⟩;obtain⟨g1,o1,rfl,_,Y⟩:=y1.at_ (i:=0) ρp;have ae:U.cell? ⟨g1,o1,none⟩=some (.int .u8 K):=ρw Y;have P:a0S U p s f:=ρw Z;have⟨F1,H2⟩:=η2 f1 P;clear f1 y1 Z Y P G;have b:=HR.o
  by_cases h8:8<K
  ·rw[if_pos h8]at b
   cases b
   have ac:(8:Int)<(K:Int):=ρo;go_wp2_with fail;refine(a5J _ 3 rfl U).mono ?_;rintro e w' ⟨rfl,g⟩;rw[g];exact⟨rfl,rfl,F1.o⟩
  rw[if_neg h8]at b;have ac:(K:Int)<=8:=ρo
  by_cases j:f.length<K
  ·rw[if_pos j]at b
   cases b
   go_wp2_with fail;refine(a7Z p s f K j U H2).mono ?_;rintro e w' ⟨rfl,g⟩;rw[g];exact⟨rfl,rfl,F1.o⟩
  rw[if_neg j]at b;have R:=a7u p s f K ρo ad U H2.o;have N:=η1 b;clear b;go_wp2_with fail;refine μ1 R ?_;rintro e w2 ⟨⟨A3,rfl,y3⟩,h4,f2⟩;have O:(f.take K).length=K:=by rw[Qx];omega
  have⟨F2,Y3,T⟩:=η3 (F1.trans f2 (λ_ _ h=>h)) y3 O;clear y3 h4 O f2 R;go_wp2_with fail
  go_loopw [6,22] (λv t wr=>∃i:Nat,i<=K/\t=.int .i64 i/\v=.int .u64 (a9g ((f.take K).take i):Nat)/\(0<i->f.headD 1≠0)/\wr=w2)
   (λ_ t _=>K-(intOf t).toNat)
  exact⟨0,Zu _,rfl,rfl,λh=>absurd h ρo,rfl⟩;obtain⟨i,hi,rfl,rfl,hh,g⟩:=hrel;subst g;have HH:=η1 hh;have I:=b2X ((f.take K).take i) (λx hx=>aa.o x (Qj _ (QM (QM hx))));rw[Qx,T.o,QY hi]at I;have V:a9g ((f.take K).take i)<256 ^ i:=I;have m:=η1 V;clear V I hh
  by_cases ab:i<K
  ·have o:i<(f.take K).length:=by rw[T.o];exact ab
   obtain⟨g3,o3,rfl,_,F⟩:=Y3.at_ o;have Q:=Y3.bd (f.take K)[i] (Qu _);have e1:(f.take K).take (i+1)=(f.take K).take i++[(f.take K)[i]]:=Qe o
   have e2:i=0->f.headD 1=(f.take K)[i]:=λe=>by
    subst e
    cases f with
    | nil=>simp at o
    | cons a r=>simp
   have⟨y,hy⟩:=η0 ((f.take K)[i]);rw[hy]at F Q e1 e2;obtain⟨X,rfl⟩:∃X:Nat,y=X:=⟨y.toNat,by omega⟩
   generalize hv:a9g ((f.take K).take i)=v at m⊢
   have h7:i<=7:=ρo
   have ag:v<72057594037927936:=Qh m.o (by
    have:=Nat.pow_le_pow_right (n:=256) ρo h7
    simpa using this)
   have al:X<=255:=ρo;have z:a9g ((f.take K).take (i+1))=v*256+X:=by rw[e1,a8E,hv,Zd]
   have⟨B,W⟩:=η2 z e2;clear z e2 hy Q o hv e1
   by_cases hz:i=0/\X=0
   ·obtain⟨rfl,rfl⟩:=hz
    have b:=N.o;rw[if_pos (show 0<K/\f.headD 1=0 from⟨by omega,by rw[W.o rfl];rfl⟩)]at b
    cases b
    simp only[ZH]at F;go_wp2_with fail;refine(a5J _ 3 rfl wr).mono ?_;rintro e w' ⟨rfl,g⟩;rw[g];exact⟨rfl,rfl,F2.o⟩
   have af:bits .or .u64 ((v:Int)*256) (X:Int)=((v*256+X:Nat):Int):=by
    have e:=c1d v X ρo ρo
    rwa [Int.natCast_mul]at e
   have S:f.headD 1≠0:=by
    by_cases h0:i=0
    ·rw[W.o h0]
     omega
    exact HH.o ρo
   have J:=η1 S;clear S
   by_cases h0:i=0
   ·subst h0
    have ak:((X:Int) == 0)=false:=by simp;omega
    simp only[ZH]at F;go_wp2;go_roundw
    case rel=>exact⟨1,by omega,by go_num,by rw[B.o];go_num,λ_=>J.o,by first | rfl | trivial⟩
    case measure=>simp[intOf];omega
   have aj:((i:Int) == 0)=false:=by simp;omega
   clear hz;go_wp2;go_roundw
   case rel=>exact⟨i+1,by omega,by go_num,by rw[B.o];go_num,λ_=>J.o,by first | rfl | trivial⟩
   case measure=>simp[intOf];omega
  obtain rfl:i=K:=ρo;have ht:(f.take i).take i=f.take i:=by rw[List.take_take,Nat.min_self]
  rw[ht]at m⊢;have b:=N.o;rw[if_neg (fun⟨h1,Z⟩=>HH.o h1 Z)]at b
  generalize hv:a9g (f.take i)=v at m b⊢
  by_cases D:most<v
  ·rw[if_pos D]at b
   cases b
   have ah:(most:Int)<v:=ρo;clear hv;go_wp2_with fail;refine(a5J _ 5 rfl wr).mono ?_;rintro e w' ⟨rfl,g⟩;rw[g];exact⟨rfl,rfl,F2.o⟩
  rw[if_neg D]at b
  cases b
theorem a5w(p s:Nat)(l:LI)(most:Nat)(b:most<=18446744073709551615)(a:l.length<=1000000000)(w:WD)(h:a0S w p s l):Calls prog 60 #[.pointer p,.int .u64 most] w λe w'=>b5o p s (a0o most (.ok l)).2 (.int .u64 ((a0o most (.ok l)).1:Int)) e w'/\Fr (λk=>k=p) w w':=by
 cases hT:a4K most l with
 |
  error x=>
  have:a0o most (.ok l)=(0,.error x):=by simp only[a0o,hT]
  rw[this];exact b5h p s l most x a w h hT
 |
  ok q=>
  obtain⟨v,r⟩:=q
  have:a0o most (.ok l)=(v,.ok r):=by simp only[a0o,hT]
  rw[this];exact(b2R p s l most v r b a w h (a5l.1 hT)).mono λe w' ⟨f,d,g⟩=>⟨⟨f,d⟩,g⟩
theorem b9K(p s:Nat)(l:LI)(most:Nat)(x:Int)(b:most<=400000000)(d:l.length<=400000000)(w:WD)(h:a0S w p s l)(a:a5L most l=.error x):Calls prog 61 #[.pointer p,.int .i64 most] w λe w'=>e=.panicked [{v:=a1T x,recovered:=false}]/\Fr (λk=>k=p) w w':=by
 have z:(0:Int)<=(most:Int):=ρo;unfold a5L at a
 cases hN:a4K most l with
 |
  error y=>
  rw[hN]at a
  cases a
  have g:=b5h p s l most x ρo w h hN;clear h hN;go_in;go_wp2_with fail;refine μi g ?_;intro o m;exact⟨rfl,rfl,m⟩
 |
  ok E=>
  obtain⟨v,q⟩:=E;have j:=a5l.1 hN;obtain⟨G,F⟩:=a3y j;rw[hN]at a;simp only at a
  by_cases f:q.length<v
  ·rw[if_pos f]at a
   cases a
   have g:=b2R p s l most v q ρo ρo w h j;clear h hN j;go_in;go_wp2_with fail;refine μ1 g ?_;rintro e o ⟨rfl,r,m⟩;have ht:=a7Z p s q v f o r;have D:=η1 m;clear m r g;go_wp2_with fail;refine μi ht ?_;intro H B;rw[B];exact⟨rfl,rfl,D.o⟩
  rw[if_neg f]at a
  cases a
def c8h(p s n₀:Nat)(R:LI×St)(e:Ending)(w':WD):Prop:=
 match R.2 with
 | .error x=>e=.panicked [{v:=a1T x,recovered:=false}]
 | .ok r=>(∃v,e=.returned v/\a0N n₀ w' v R.1)/\a0S w' p s r
theorem b1P(p s:Nat)(l:LI)(most:Nat)(a:most<=400000000)(b:l.length<=400000000)(w:WD)(h:a0S w p s l):Calls prog 61 #[.pointer p,.int .i64 most] w λe w'=>c8h p s w.heap.size (a0C most (.ok l)) e w'/\Fr (λk=>k=p) w w':=by
 cases hT:a5L most l with
 |
  error x=>
  have:a0C most (.ok l)=([],.error x):=by simp only[a0C,hT]
  rw[this];exact b9K p s l most x a b w h hT
 |
  ok q=>
  obtain⟨v,r⟩:=q
  have:a0C most (.ok l)=(v,.ok r):=by simp only[a0C,hT]
  rw[this]
  have d:a8o most l=some (v,r):=by
   unfold a5L at hT;unfold a8o
   cases hN:a4K most l with
   | error y=>rw[hN]at hT;cases hT
   |
    ok q=>
    obtain⟨n,q⟩:=q;rw[hN]at hT;rw[a5l.1 hN];simp only at hT⊢
    by_cases f:q.length<n
    ·rw[if_pos f]at hT;cases hT
    rw[if_neg f]at hT⊢;cases hT;rfl
  exact(c3o p s l most v r a b w h d).mono λe w' ⟨j,g,m⟩=>⟨⟨j,g⟩,m⟩
attribute [local go_sem ↓] a2t a2s a2n
theorem c4T(p s:Nat)(l:LI)(a:l.length<=1000000000)(w:WD)(h:a0S w p s l)(b:p<w.heap.size)(d:s<w.heap.size):Calls prog 117 #[.pointer p] w λe w'=>b5o p s (idT (.ok l)).2 (.agg (bys (idT (.ok l)).1).toArray) e w'/\Fr (λk=>k=p) w w':=by
 by_cases f:l.length<32
 ·have o:idT (.ok l)=(List.replicate 32 0,.error 2):=by simp only[idT,a8k,f,if_true]
  rw[o];obtain⟨Z,j,_,G⟩:=Pk (t:=31) a5m d0T;have g:=j w;have m:=ρb w (.cells Z 31)
  generalize x:w.alloc (.cells Z 31)=W at m g
  have ht:=a7Z p s l 32 f W (h.fr (Q9 m) (show¬_<=_ by omega) (show¬_<=_ by omega));rw[show((32:Nat):Int)=32 from rfl]at ht;have v:Fr (λk=>k=p) w W:=(Q9 m).mono (λk F h=>ρo);have⟨r,H⟩:=η2 v x;clear v x h m j o f;go_in;go_upto_region 1 with fail
  clear g;go_wp2_with fail;refine μ1 ht ?_;rintro e E ⟨rfl,B⟩;rw[B];exact⟨rfl,rfl,r.o⟩
 have o:idT (.ok l)=(l.take 32,.ok (l.drop 32)):=by simp only[idT,a8k,f,if_false]
 rw[o];exact(c9g p s l ρo a w h b d).mono λe w' ⟨z,y,D⟩=>⟨⟨z,y⟩,D⟩
def StE:St->Prop
 | .error x=>x≠0
 | .ok _=>True
theorem b8f(h:a4K most l=.error x):x≠0:=by simpa using(c1u h).1
theorem a1L{s:St}(h:StE s):StE (a0o most s).2:=by
 cases s with
 | error x=>exact h
 |
  ok l=>
  cases h2:a4K most l with
  | error x=>simp only[a0o,h2];exact b8f h2
  | ok p=>simp only[a0o,h2];trivial
theorem a5A{s:St}(h:StE s):StE (a0C most s).2:=by
 cases s with
 | error x=>exact h
 |
  ok l=>
  cases h2:a4K most l with
  | error x=>simp only[a0C,a5L,h2];exact b8f h2
  |
   ok p=>
   obtain⟨v,r⟩:=p
   by_cases a:r.length<v
   ·simp only[a0C,a5L,h2,a,if_true];simp[StE]
   simp only[a0C,a5L,h2,a,if_false];trivial
theorem a5W{s:St}(h:StE s):StE (idT s).2:=by
 cases s with
 | error x=>exact h
 |
  ok l=>
  by_cases a:l.length<32
  ·simp only[idT,a8k,a,if_true];simp[StE]
  simp only[idT,a8k,a,if_false];trivial
def a8t:St->Int
 | .error x=>x
 | .ok r=>if r=[]then 0 else 3
def a6D(p s:Nat)(st:St)(e:Ending)(w':WD):Prop:=
 match st with
 | .error x=>e=.panicked [{v:=a1T x,recovered:=false}]
 | .ok r=>e=.returned (.tuple #[])/\a0S w' p s r
def d0C(F:Nat->Prop)(K:WD->WD->Prop)(w w':WD):Prop:=
 Fr F w w'/\∃w2 w3,Below w w w2/\w.heap.size<w2.heap.size/\K w2 w3/\Fr (λk=>k=w.heap.size) w3 w'
theorem a6Q(d:FuncId)(g:AV)(j:∀args w,(callFunc d args).run prog w=.ok (.enter d args) w) (A:OA) (c:Nat) (hcA:A=none->c=0) (l:LI) (hl:l.length<=400000000) (w:WD) (hy:Byt w A l) (F:Nat->Prop) (hF:∀k,F k->k<w.heap.size) (st:St) (K:WD->WD->Prop) (hclo:∀p s w2,Below w.heap.size w w2->w.heap.size<p->w.heap.size<=s->s<p->p<w2.heap.size->a0S w2 p s l->Calls prog d (#[.pointer (some ⟨p,0,none⟩)]++g) w2 λe w3=>a6D p s st e w3/\Fr (λk=>F k\/k=p) w2 w3/\K w2 w3):Calls prog 58 #[.slice A l.length c,.func (.func d) #[] g] w λe w'=>e=.returned (.int .i64 (a8t st))/\d0C F K w w':=by
 have aA:∀(fn:Fn) (first cap:AV) (w:WD),(Instr.makeFunc fn first cap).run prog w=.ok (.func fn first cap) w:=λ_ _ _ _=>rfl
 have aj:=a8r A c hcA l (w.alloc (.cells #[.int .i64 0] 29)) (hy.below (ρb w _)) ρo;have⟨HY,HF,au,W⟩:=η4 hy hF aj hclo;clear hy aj hclo hF;go_enter_defers func58,ntmps58;go_wp2_with fail;refine μ1 au.o ?_;rintro e B ⟨v,rfl,ho,S⟩;have av:w.heap.size+1<=B.heap.size:=by have:=S.size;simpa using this
 have b0:Below w.heap.size w B:=(ρb w _).trans (S.mono ρp);obtain⟨U,c1,rfl,ac,ag,ak⟩:=ho.byt HY.bd
 obtain⟨s,hs,ao,an⟩:∃s,(∀a,U=some a->a.block=s)/\w.heap.size<=s/\s<B.heap.size:=by
  cases hA:U with
  | none=>exact⟨w.heap.size,by simp,Qg _,by omega⟩
  |
   some a=>
   have h1:=ag a hA;rw[Qi]at h1;refine⟨a.block,λb hb=>by cases hb;rfl,by omega,?_⟩;subst hA;exact(ho.lt (k:=a.block) rfl).2
 have⟨L,hL⟩:=η0 l.length;have ai:Blk B w.heap.size 29 #[.int .i64 0]:=(Qd w 29 #[.int .i64 0]).fr (Q9 S) ρp;have⟨w2,Q⟩:=η0 (B.alloc (.cells #[.slice U l.length c1] 218));have Z:=ai.alloc (.cells #[.slice U l.length c1] 218);have N:=Qd B 218 #[.slice U l.length c1];have Y:=ac.below ((Qf _ B).alloc (Qg _) (.cells #[.slice U l.length c1] 218));have b2:=b0.alloc (ρh b0.size) (.cells #[.slice U l.length c1] 218);rw[Q]at Z N Y b2
 have he:a0S w2 B.heap.size s l:=⟨U,c1,⟨N,Y,λa ha h0=>by
  rw[hs a ha];omega,ak⟩,hs⟩
 have V:w2.heap.size=B.heap.size+1:=by rw[<-Q];simp
 have I:=W.o B.heap.size s w2 b2 ρo ao an ρo he;have az:B.heap.size≠w.heap.size:=ρo;have⟨al,ae,ar,B2,HL,ab⟩:=η6 Q I Z b2 hL V;clear Q I Z b2 ho S b0 ac ag ak ai N Y he hL hs W V;go_wp2_with fail;rw[al.o];have I:=ae.o;clear ae;refine I.mono ?_;rintro e w3 ⟨af,f3,hK⟩
 have E:=ar.fr f3 (λe=>by
  rcases e with e | e
  ·have:=HF.o _ e;omega
  omega)
 have ad:Fr F w w3:=(((Q9 B2.o).mono (G:=λk=>F k\/w.heap.size<=k) (λk _ h=>.inr h)).trans (f3.mono (G:=λk=>F k\/w.heap.size<=k) (λk _ h=>by
  rcases h with h | h
  ·exact .inl h
  exact .inr ρo)) (λ_ _ h=>h)).mono (λk hk h=>by
  rcases h with h | h
  ·exact h
  omega)
 have⟨aq,HK⟩:=η2 ad hK;clear I f3 ad hK
 have z:∀P,Fr (λk=>k=w.heap.size) w3 P->d0C F K w P:=λP O=>
  ⟨aq.trans O (λk hk e=>ρo),w2,w3,B2.o,by have:=ab.o;omega,HK.o,O⟩
 cases st with
 |
  error x=>
  obtain rfl:=af;have ah:=b4W w.heap.size x 0 w3 E;refine leaves_cons (f:=113) (args:=#[.pointer (some ⟨w.heap.size,0,none⟩)]) ρp (by simp[go_sem]) ?_;refine ah.mono ?_;rintro e u' P ⟨rfl,rfl,m,O⟩;have k4:P.cell? ⟨w.heap.size,0,none⟩=some (.int .i64 x):=m.cell 0;have hr:=z P O;clear z ah;simp[Leaves,settle,results,Tryz.results58,go_sem,k4];exact⟨rfl,hr⟩
 |
  ok r=>
  obtain⟨rfl,A5,c5,aa,_⟩:=af;have R:=b5v B.heap.size A5 c5 r w3 aa;have k3:w3.cell? ⟨w.heap.size,0,none⟩=some (.int .i64 0):=E.cell 0;have ay:=E.frozen 0;have⟨T,o⟩:=η2 E z;clear E z
  by_cases hr:r=[]
  ·subst hr
   have X:Calls prog 114 #[.pointer B] w3 λe w'=>e=.returned (.int .i64 0)/\w'=w3:=R
   clear R aa;go_wp2_with fail;refine μi X ?_;intro w5 H;rw[H];clear X H;go_wp2_with fail;have O:Fr (λk=>k=w.heap.size) w3 (w3.setCell ⟨w.heap.size,0,none⟩ (.int .i64 0)):=(Qp (λk=>k=w.heap.size) w3).setCell (p:=⟨w.heap.size,0,none⟩) (λ_=>rfl) _;have J:=o.o _ O;have m:Blk (w3.setCell ⟨w.heap.size,0,none⟩ (.int .i64 0)) w.heap.size 29 #[.int .i64 0]:=by simpa using T.set_ 0 (.int .i64 0)
   refine leaves_cons (f:=113) (args:=#[.pointer (some ⟨w.heap.size,0,none⟩)]) ρp (by simp[go_sem]) ?_;refine(b2g ⟨w.heap.size,0,none⟩ _).mono ?_;rintro e u' P ⟨rfl,rfl,D⟩;rw[<-D]at J m;have k4:P.cell? ⟨w.heap.size,0,none⟩=some (.int .i64 0):=m.cell 0;clear D O o T;simp[Leaves,settle,results,Tryz.results58,go_sem,k4];exact⟨rfl,J⟩
  have ax:(0:Int)<(r.length:Int):=by
   cases r with
   | nil=>exact absurd rfl hr
   | cons y r=>simp
  have HR:=η1 hr;clear hr aa;go_wp2_with fail;refine μi R ?_;intro w5 H;rw[H];clear R H;go_wp2_with fail;have O:Fr (λk=>k=w.heap.size) w3 (w3.setCell ⟨w.heap.size,0,none⟩ (.int .i64 3)):=(Qp (λk=>k=w.heap.size) w3).setCell (p:=⟨w.heap.size,0,none⟩) (λ_=>rfl) _;have J:=o.o _ O;have m:Blk (w3.setCell ⟨w.heap.size,0,none⟩ (.int .i64 3)) w.heap.size 29 #[.int .i64 3]:=by simpa using T.set_ 0 (.int .i64 3)
  refine leaves_cons (f:=113) (args:=#[.pointer (some ⟨w.heap.size,0,none⟩)]) ρp (by simp[go_sem]) ?_;refine(b2g ⟨w.heap.size,0,none⟩ _).mono ?_;rintro e u' P ⟨rfl,rfl,D⟩;rw[<-D]at J m;have k4:P.cell? ⟨w.heap.size,0,none⟩=some (.int .i64 3):=m.cell 0;clear D O o T;simp[Leaves,settle,results,Tryz.results58,go_sem,k4];exact⟨by rw[a8t,if_neg HR.o],J⟩
theorem b0L{st:St}(h:StE st):a8t st=0↔st=.ok []:=by
 cases st with
 | error x=>simp only[a8t];exact⟨λe=>absurd e h,λe=>by cases e⟩
 |
  ok r=>
  by_cases a:r=[]
  ·subst a;simp[a8t]
  simp[a8t,a]
end
section
theorem iI5:(prog.info? 3).map (·.size)=some 1:=ρk
structure d1O(w:WD)(A:OA)(xs:LV)(L:LL):Prop where
 len:xs.length=L.length
 cell:0<xs.length->∃g off,A=some ⟨g,off,none⟩/\g<w.heap.size/\∀j x,xs[j]? =some x->w.cell? ⟨g,off+j,none⟩=some x
 txt:∀i (h:i<xs.length) (h':i<L.length),∃A c,xs[i]=.slice A L[i].length c/\RdW .i64 w A L[i]/\(A=none->c=0)
theorem d2b(h:a8x B w v l)(d:RdW .i64 w A m)(b:l.length+m.length<=1000000000)(f:B<=w.heap.size)(p:A=none->c=0):∃v' w',(APs #[202,202] ty #[v,.slice A m.length c]).run prog w=.ok v' w'/\a8x B w' v' (l++m)/\Fr (λk=>v.ownBlock=some k) w w'/\a7W w v v':=by
 cases A with
 |
  none=>
  have e:m=[]:=by
   cases m with
   | nil=>rfl
   |
    cons x r=>
    obtain⟨g,o,e,_⟩:=d ρp
    cases e
  subst e;obtain rfl:=p rfl;obtain⟨i,hi⟩:=Q8.1 iI5;refine⟨v,w,run_append_owned_none w B 202 ty 3 i 1 b8X hi.1 v l.length (wds .i64 l) h,by simpa using h,Qp _ _,a7W.refl _ _⟩
 |
  some a=>
  refine d3d (ty:=ty) b8X d0E ρo h (λj x D=>?_) b f;have E:j<m.length:=(Qm.1 D).1;obtain⟨g,o,e,_,y⟩:=d ρo
  cases e
  have z:(⟨g,o,none⟩:Addr).add j=⟨g,o+j,none⟩:=by unfold Addr.add;split<;>simp_all
  rw[z];exact y j x D
theorem d3F(x:VL)(lo hi a:Option VL):Instr.sliceAt 202 x lo hi a=SLs 202 x lo hi a:=rfl
theorem c8M(xs:AV)(t:TI):Builtin.append_ #[202,3] t xs=APs #[202,3] t xs:=rfl
attribute [local go_sem ↓] c0I c8M d3F
theorem izI:(prog.info? 3).map (λi=>(i.zero,i.size,i.bytes))=some (some (.int .i64 0),1,8):=ρk
theorem a8x.none_{a:AV}(b:B<=g)(d:Blk w g 3 a)(j:a.size=cap)(f:cap<=maxLen):a8x B w (.slice g 0 cap) []:=
 ⟨rfl,.inr ⟨g,cap,a,rfl,b,d,Zu _,f,by omega,by simp[wds]⟩⟩
theorem c0R(a:0<cap)(h:Int)(e:h=0):(SLs 202 (.slice g n cap) none (some (.int .i64 h)) none).run prog w=.ok (.slice g 0 cap) w:=by
 subst e;obtain⟨i,d,hi⟩:=Q8.1 iI5;have b:¬cap=0:=ρo;simp[SLs,Instr.sliceAt,Instr.slice,Instr.sliceBounds,Instr.sliceBound,asIntOf,run_underlying b8X,sizeOf,typeInfo,d,Addr.add]
theorem c5b(h:Int)(e:h=0):(SLs 202 (.slice none 0 0) none (some (.int .i64 h)) none).run prog w=.ok (.slice none 0 0) w:=by
 subst e;obtain⟨i,a,hi⟩:=Q8.1 iI5;simp[SLs,Instr.sliceAt,Instr.slice,Instr.sliceBounds,Instr.sliceBound,asIntOf,run_underlying b8X,sizeOf,typeInfo,a]
theorem c2o(n:Nat)(a:n<=1000000)(w:WD):Calls prog 252 #[.slice none 0 0,.int .i64 n] w λe w'=>∃v,e=.returned v/\a8x w w' v []/\Below w w w':=by
 by_cases E:n=0
 ·subst E
  go_in;go_wp2;go_ret;exact⟨_,rfl,a2X.nil _ _ _ _,Qf _ _⟩
 obtain⟨z,hi,B⟩:=Q8.1 izI;simp only[Prod.mk.injEq]at B;obtain⟨g,p,j⟩:=B;have b:=Lib.run_append_nil_zeros (P:=prog) w 202 3 202 3 z (.int .i64 0) .i64 .i64 b8X c9F hi g n ρo ρo ρo (by rw[j];omega);have d:(APs #[202,3] 202 #[.slice none 0 0,.int .i64 n]).run prog w=_:=b;clear b;have o:=grownCap_ge w n 0 3;have m:=grownCap_le_maxLen w n 0 3 (by unfold maxLen;omega);have⟨cap,f⟩:=η0 (grownCap w n 0 3);rw[f]at d o m;have⟨Z,r⟩:=η0 (Builtin.zeroCells (Value.int .i64 0).cells n++Builtin.zeroCells (Value.int .i64 0).cells (cap-n));rw[r]at d;have x:Z.size=cap:=by rw[<-r];simp[size_zeroCells,Value.cells];omega
 clear f r hi g p j z;have F:∀W:WD,(SLs 202 (.slice w n cap) none (some (.int .i64 0)) none).run prog W=.ok (.slice w 0 cap) W:=λW=>c0R ρo 0 rfl
 have D:∀W:WD,(SLs 202 (.slice none 0 0) none (some (.int .i64 0)) none).run prog W=.ok (.slice none 0 0) W:=λW=>c5b 0 rfl
 have y:(0:Int)<(n:Int):=ρo;go_in;go_wp2
 first
  | (
   go_ret;refine⟨_,rfl,a8x.none_ (Qg _) ((Qd w _ Z).drew) x m,(ρb w _).drew⟩)
theorem b6E(A:OA)(c:Nat)(xs:LV)(L:LL)(w:WD)(h:d1O w A xs L)(b:L.length<=1000)(a:L.flatten.length<=900000):Calls prog 209 #[.slice A L.length c] w λe w'=>∃v,e=.returned v/\a8x w w' v L.flatten/\Below w w w':=by
 have⟨H,HL⟩:=η2 h a;clear h a
 have z:∀i,i<L.length->(L.take i).flatten.length+(L.getD i []).length=(L.take (i+1)).flatten.length:=λi hi=>by
  rw[Qe hi,ZA,List.flatten_singleton,Qa];have e:L.getD i []=L[i]:=by simp[List.getD,hi]
  rw[e]
 have Q:∀i,(L.take i).flatten.length<=900000:=λi=>by
  have:=HL.o
  have e:L.flatten=(L.take i).flatten++(L.drop i).flatten:=by rw[<-ZA,ZW]
  rw[e,Qa]at this;omega
 have⟨HP,T⟩:=η2 z Q;clear z Q;go_in;go_wp2
 go_loopw [3,11] (λs t wr=>∃i:Nat,i<=L.length/\s=.int .i64 ((L.take i).flatten.length:Nat)/\t=.int .i64 i/\wr=w)
  (λ_ t _=>L.length-(intOf t).toNat)
 exact⟨0,Zu _,by simp,rfl,rfl⟩;obtain⟨i,hi,rfl,rfl,rfl⟩:=hrel
 by_cases d:i<L.length
 ·obtain⟨g,off,rfl,X,J⟩:=H.cell (by rw[H.len];omega)
  have B:i<xs.length:=by rw[H.len];exact d
  have f:=J i xs[i] (by simp[B]);obtain⟨Ai,ci,o,j,R⟩:=H.txt i B d;rw[o]at f;have y:=HP.o i d;have E:=T.o (i+1);have O:L.getD i []=L[i]:=by simp[List.getD,d]
  rw[O]at y;have⟨s,K⟩:=η0 ((L.take i).flatten.length);have⟨m,F⟩:=η0 (L[i].length);rw[K,F]at y;rw[F]at f;rw[K];have b1:(s:Int)+m<=900000:=ρo;have E1:=η1 y;clear o j R J O K F B y E;go_wp2;go_roundw
  case rel=>exact⟨i+1,by omega,by rw[<-E1.o];go_num,by go_num,by first | rfl | trivial⟩
  case measure=>simp[intOf];omega
 obtain rfl:i=L.length:=ρo;have E:=T.o L.length
 generalize K:(L.take L.length).flatten.length=s at E⊢
 clear K;go_wp2_with fail;refine(c2o s ρo wr).mono ?_;rintro e w1 ⟨v,rfl,r,P⟩;go_wp2_with fail
 go_loopw [6,27] (λv t Y=>∃i:Nat,i<=L.length/\t=.int .i64 i/\a8x wr.heap.size Y v (L.take i).flatten/\Below wr.heap.size wr Y)
  (λ_ t _=>L.length-(intOf t).toNat)
 exact⟨0,Zu _,rfl,by simpa using r,P⟩;clear r P E;obtain⟨i,hi,rfl,r,D⟩:=hrel
 by_cases d:i<L.length
 ·obtain⟨g,off,rfl,X,J⟩:=H.cell (by rw[H.len];omega)
  have B:i<xs.length:=by rw[H.len];exact d
  obtain⟨Ai,ci,o,j,R⟩:=H.txt i B d;have f:=J i xs[i] (by simp[B]);rw[o]at f;have N:=(D.cell (p:=⟨g,off+i,none⟩) X).trans f;have y:=HP.o i d;have E:=T.o (i+1);have O:L.getD i []=L[i]:=by simp[List.getD,d]
  rw[O]at y;have S:(L.take (i+1)).flatten=(L.take i).flatten++L[i]:=by rw[Qe d,ZA,List.flatten_singleton]
  have⟨m,F⟩:=η0 (L[i]);rw[F]at N j y S;have⟨l,Z⟩:=η0 ((L.take i).flatten);rw[Z]at r y S;obtain⟨A2,c2,rfl⟩:=a2X.form r;obtain⟨v',w',U,x,I,_⟩:=d2b (ty:=202) r (j.below D) ρo D.size R;obtain⟨A3,c3,rfl⟩:=a2X.form x;rw[Qa]at x U;have⟨E4,V,HF,G,W⟩:=η5 S x I D r;clear o j R J f O F Z B y E S r x I D;go_wp2;go_roundw
  case rel=>
   refine⟨i+1,by omega,by go_num,by rw[E4.o];exact V.o,G.trans (HF.below G.size (λk hk e=>?_))⟩
   have:=(a2X.lt W e).1
   omega
  case measure=>simp[intOf];omega
 obtain rfl:i=L.length:=ρo;have V:=η1 r;clear r;go_wp2;go_ret;refine⟨_,rfl,?_,D⟩
 have:=V.o
 rw[ZF]at this;exact this
end
section
attribute [local go_sem ↓] a2t a2s a2n a3n a3w
theorem b7V(tx:LI)(a:tx.length=32)(b:∀x∈tx,0<=x/\x<=255)(w:WD):Calls prog 101 #[.agg (bys tx).toArray] w λe w'=>∃v,e=.returned v/\a0N w w' v tx/\Below w w w':=by
 have G:=Qd w 31 (bys tx).toArray;have K:=ρb w (.cells (bys tx).toArray 31)
 generalize R:w.alloc (.cells (bys tx).toArray 31)=W at G K
 have⟨g,r⟩:=ηs w;rw[r]at G;have⟨HW,H,Z,m,V,P⟩:=η6 R G K a b r;clear R G K a b r;go_in;go_upto_region 1 with fail
 rw[HW.o,P.o];go_wp2_with fail;go_loopg [3,4] 32 (λU v t wr=>∃(i:Nat) (A:OA) (c:Nat),i+U=32/\t=.int .i64 i/\v=.slice A i c/\a0N w wr v (tx.take i)/\Below w w wr/\Blk wr g 31 (bys tx).toArray);exact⟨0,none,0,by omega,rfl,rfl,by simpa using a0N.nil _ _,Z.o,H.o⟩;obtain⟨i,A,c,hi,rfl,rfl,p,z,d⟩:=hrel
 by_cases J:i<32
 ·have B:(i:Int)<32:=ρo
  have y:i<tx.length:=by rw[m.o];exact J
  have E:=V.o _ (Qu y);have f:tx.take (i+1)=tx.take i++[tx[i]]:=Qe y
  have I:wr.cell? ⟨g,i,none⟩=some (.int .u8 tx[i]):=by
   rw[d.cell i];simp only[QE];rw[a3J,QN y]
   rfl
  have⟨x,T⟩:=η0 (tx[i]);rw[T]at E f I;obtain⟨v',w',X,j,N,_⟩:=a3P (ty:=22) p E (by rw[Qx];omega) z.size;obtain⟨A2,Y,S⟩:=j.form;rw[<-f,Qx,m.o,QY ρo]at S;subst S;rw[<-f]at j;have D:Below w w w':=z.trans (N.below z.size (λk hk e=>by have:=(p.lt e).1;omega));have F:=d.fr N (λe=>a2D p d ρd e);have⟨O,o,Q⟩:=η3 j D F;clear p z d j N D F f T;go_wp2;go_roundg (32-(i+1));exact⟨i+1,A2,Y,by omega,by go_num,rfl,O.o,o.o,Q.o⟩;omega
 obtain rfl:i=32:=ρo;have B:¬(((32:Nat):Int)<32):=ρo;rw[Qb (by rw[m.o];exact Qg _)]at p;have⟨O,o⟩:=η2 p z;clear p z d;go_wp2;go_ret;exact⟨_,rfl,O.o,o.o⟩
theorem c3q(A:OA)(c:Nat)(d:A=none->c=0)(b:LI)(w:WD)(a:Byt w A b)(f:b.length<=10000000):Calls prog 43 #[.slice A b.length c] w λe w'=>e=.returned (.agg (bys (a0R b)).toArray)/\Below w w w':=by
 obtain⟨z,ah,N⟩:=Q8.1 b9C;have H:=Pc (t:=31) z ah w;have⟨Z,hZ⟩:=η0 z.cells;rw[hZ]at H N;have T:Z.size=32:=by rw[<-QD,N];rfl
 have bz:=Qd w 31 Z;have Q:=ρb w (.cells Z 31);have⟨W,hW⟩:=η0 (w.alloc (.cells Z 31));have⟨g,v⟩:=ηs w;rw[hW]at Q H;rw[hW,v]at bz;rw[v]at H;have hm:=b0h (B:=W.heap.size) W [1] (Qg _) ρp;have S:=ρb W (.cells (bys [1]).toArray 5);have I:=bz.alloc (.cells (bys [1]).toArray 5)
 generalize hX:W.alloc (.cells (bys [1]).toArray 5)=X at hm S I
 rw[show([1]:LI).length=1 from rfl]at hm;rw[show(bys [1]).toArray=#[.int .u8 1]from rfl]at hX;have V:=Q.trans (S.mono Q.size);have J:=b0z A c d b X (a.below V) ρo;have R:=a.bd;have hid:=b7K b;have⟨D,hD⟩:=η0 (a0R b);have E:(bys D).length=32:=by rw[a0a,<-hD];exact(Dig.leaf b).1
 rw[hD]at hid⊢
 generalize ac:b.length=np at J f hid⊢
 have⟨aa,ai,aj,p,HW,HX,HG,aq⟩:=η8 ac R hid E hW hX v S;have⟨ad,au,af,HZ,HM⟩:=η5 Q I bz T hm;have O:W.heap.size<=X.heap.size:=S.size;clear hD E hW hX v Q S V bz I T ah N hZ hid hm a R ac;go_in;go_upto_region 1 with fail
 go_wp2_with fail;rw[HX.o];refine μ1 J ?_;rintro e w2 ⟨v2,rfl,K,r⟩;obtain⟨Al,Nl,cl,rfl⟩:=K.formN;obtain⟨A',N',c',w3,an,ho,hf,ar⟩:=a5R (ty:=22) (HM.kept r) K (a1I (a5q _) ai.o) (by have:=aa.o;simp only[Qa,a3V,Qy,Qv];omega) (Qk O r.size);have j:=aq.trans (r.mono O);have U:Below W W w3:=j.trans (hf.below j.size (λk hk e=>by have:=(HM.lt e).1;omega));have ab:∀x∈[1]++(a6s np++b),0<=x/\x<=255:=a1I ρp (a1I (a5q _) ai.o);obtain⟨Ay,cy,ey,F,_,_⟩:=ho.byt ab;simp only[Value.slice.injEq]at ey;obtain⟨rfl,rfl,rfl⟩:=ey;have y:=b3g A' c' (λe=>by subst e;exact a0N.nulI ho) _ w3 F (by have:=aa.o;simp only[Qa,a3V,Qy,Qv];omega);have m:=aj.o;rw[show(1:Int)::(a6s np++b)=[1]++(a6s np++b)from rfl]at m;rw[<-m]at y;have⟨N',ag⟩:=η0 (([1]++(a6s np++b)).length);rw[ag]at y an;have al:=η1 U
 clear K r ho hf ar j U ab F m ag J;go_wp2_with fail;refine μi y ?_;intro w4 Y;have o:=φt al Y;have G:=φf af o;have ak:=Pa (t:=31) a5m G (off:=0) (bys D) p.o (by rw[HZ.o];omega) (a0h _);rw[a0q _ _ (by rw[p.o,HZ.o])]at ak;have⟨ae,ao⟩:=η2 o G;clear y Y o G;go_wp2;exact bodyPost_ret (a0c rfl _ _ g 31 (bys D) _ rfl (ao.row_ _) a5g rfl (ρy p.o a5m)) rfl ⟨rfl,Ql (ad.trans (ae.mono ad.size)) (by rw[HG.o];omega) _⟩
theorem c4m(a b:LI):a1n a b=a3x (([2]++(a6s a.length++a))++(a6s b.length++b)):=by
 unfold a1n a1K a3m
 simp
theorem b4w(a b:LI)(d:Dig a)(f:Dig b)(w:WD):Calls prog 42 #[.agg (bys a).toArray,.agg (bys b).toArray] w λe w'=>e=.returned (.agg (bys (a1n a b)).toArray)/\Below w w w':=by
 have b1:=Qd w 31 (bys a).toArray;have B1:=ρb w (.cells (bys a).toArray 31)
 generalize o:w.alloc (.cells (bys a).toArray 31)=W1 at b1 B1
 have b2:=Qd W1 31 (bys b).toArray;have B2:Below w w (W1.alloc (.cells (bys b).toArray 31)):=B1.alloc B1.size _;have ao:=b1.alloc (.cells (bys b).toArray 31)
 generalize v:W1.alloc (.cells (bys b).toArray 31)=W2 at b2 B2 ao
 obtain⟨z,aJ,ai⟩:=Q8.1 b9C;have g:=Pc (t:=31) z aJ W2;have⟨Z,hZ⟩:=η0 z.cells;rw[hZ]at g ai;have au:Z.size=32:=by rw[<-QD,ai];rfl
 have bz:=Qd W2 31 Z;have B3:Below w w (W2.alloc (.cells Z 31)):=B2.alloc B2.size _;have ba:=ao.alloc (.cells Z 31);have bb:=b2.alloc (.cells Z 31)
 generalize hW:W2.alloc (.cells Z 31)=W at bz B3 ba bb g
 have hm:=b0h (B:=W.heap.size) W [2] (Qg _) ρp;have BX:=ρb W (.cells (bys [2]).toArray 5)
 generalize hX:W.alloc (.cells (bys [2]).toArray 5)=X at hm BX
 rw[show([2]:LI).length=1 from rfl]at hm;rw[show(bys [2]).toArray=#[.int .u8 2]from rfl]at hX;have K:W1.heap.size=w.heap.size+1:=by rw[<-o];simp
 rw[K]at bb;rw[<-v,<-o]at g;have⟨ga,F⟩:=ηs w;have⟨gz,an⟩:=ηs W2;have aV:ga<=gz:=by rw[<-F,<-an];exact B2.size
 rw[F]at ba bb;rw[o,v]at g;rw[an]at bz g;rw[<-v,<-o]at g;have T:(bys a).length=32:=by rw[a0a,d.1]
 have R:(bys b).length=32:=by rw[a0a,f.1]
 have G:=λY (hY:Below W W Y)=>P6 a2i iId (ba.fr (Q9 hY) (ρh ba.lt)) (off:=0) (bys a) T (by simp[Qb,T])
 have aq:=λY (hY:Below W W Y)=>P6 a2i iId (bb.fr (Q9 hY) (ρh bb.lt)) (off:=0) (bys b) R (by simp[Qb,R])
 have hid:=c4m a b;have⟨D,hD⟩:=η0 (a1n a b);have J:(bys D).length=32:=by rw[a0a,<-hD];exact(Dig.node a b).1
 rw[hD]at hid⊢;have⟨ya,r⟩:=η0 ((bys a).toArray);have⟨yb,p⟩:=η0 ((bys b).toArray);have aH:=d.2;have ar:=f.2;have aO:=d.1;have aW:=f.1;have r1:=b7V a d.1 d.2;have r2:=b7V b f.1 f.2;rw[r]at o G r1⊢;rw[p]at v aq r2⊢;rw[r,p]at g;have⟨aa,E,HX,ax,a0,aC,aE,HZ⟩:=η8 hid J hX F BX B3 bz au;have⟨HM,aY,av,O,al,aQ⟩:=η6 hm G aq aH ar r2;have l1:=G X BX;have aN:W.heap.size<=X.heap.size:=BX.size;have c1:=r1 X;clear hD J hW o v hX F an B3 bz au hid hm G aq aH ar r1 r2 b1 B1 b2 B2 ao ba bb aJ ai hZ T R r p BX d f K;go_in;go_upto_region 1 with fail
 rw[ax.o];rw[<-HX.o]at l1;go_wp2_with fail;rw[HX.o];refine μ1 c1 ?_;rintro e w2 ⟨v2,rfl,ag,ad⟩;obtain⟨A2,c2,rfl,az,_,_⟩:=ag.byt O;have c3:=b0z A2 c2 (λe=>by subst e;exact a0N.nulI ag) a w2 az ρo;have ay:=HM.kept ad;have⟨ak,aT⟩:=η2 ay (a0.trans (ad.mono aN));rw[aO]at c3 aa⊢;clear ag az ay ad c1 l1 aY;go_wp2_with fail;refine μ1 c3 ?_;rintro e w3 ⟨v3,rfl,aj,V⟩;obtain⟨A3,N3,a4,rfl⟩:=aj.formN;have m:=φt aT V;obtain⟨A4,N4,c4,w4,a2,aK,aA,_⟩:=a5R (ty:=22) (ak.kept V) aj (a1I (a5q _) O.o) (by simp only[Qa,a3V,Qy,Qv];omega) m.size;have ab:Below W W w4:=m.trans (aA.below m.size (λk hk e=>by have:=(ak.lt e).1;omega));have l2:=av.o w4 ab;have c5:=aQ.o w4;have⟨aU,aZ⟩:=η2 aK ab;clear aj V m aK aA ab c3 ak;go_wp2_with fail;refine μ1 c5 ?_;rintro e w5 ⟨v5,rfl,ae,ah⟩;obtain⟨A5,aS,rfl,I,_,_⟩:=ae.byt al
 have c6:=b0z A5 aS (λe=>by subst e;exact a0N.nulI ae) b w5 I ρo;have⟨U,a1⟩:=η2 (aU.kept ah) (φt aZ ah);rw[aW]at c6 aa⊢;clear ae I ah c5 l2 av;go_wp2_with fail;refine μ1 c6 ?_;rintro e w6 ⟨v6,rfl,S,af⟩;obtain⟨A6,N6,a3,rfl⟩:=S.formN;have j:=φt a1 af;obtain⟨A7,N7,c7,w7,aB,ac,aD,_⟩:=a5R (ty:=22) (U.kept af) S (a1I (a5q _) al.o) (by simp only[Qa,a3V,Qy,Qv];omega) j.size;have aL:Below W W w7:=j.trans (aD.below j.size (λk hk e=>by have:=(U.lt e).1;omega));have aM:∀x∈([2]++(a6s 32++a))++(a6s 32++b),0<=x/\x<=255:=a1I (a1I ρp (a1I (a5q _) O.o)) (a1I (a5q _) al.o);obtain⟨Ay,cy,ey,N,_,_⟩:=ac.byt aM;simp only[Value.slice.injEq]at ey;obtain⟨rfl,rfl,rfl⟩:=ey;have H:=b3g A7 c7 (λe=>by subst e;exact a0N.nulI ac) _ w7 N (by simp only[Qa,a3V,Qy,Qv];omega);rw[<-aa.o]at H
 have⟨N',aI⟩:=η0 ((([2]++(a6s 32++a))++(a6s 32++b)).length);rw[aI]at H aB;have aX:=η1 aL;clear S af j ac aD aL aM N aI c6 U;go_wp2_with fail;refine μi H ?_;intro w8 aG;have y:=φt aX aG;have Q:=φf aE y;have aP:=Pa (t:=31) a5m Q (off:=0) (bys D) E.o (by rw[HZ.o];omega) (a0h _);rw[a0q _ _ (by rw[E.o,HZ.o])]at aP;have⟨aF,aR⟩:=η2 y Q;clear H aG y Q;go_wp2;exact bodyPost_ret (a0c rfl _ _ gz 31 (bys D) _ rfl (aR.row_ _) a5g rfl (ρy E.o a5m)) rfl ⟨rfl,Ql (aC.trans (aF.mono aC.size)) (ρy ax.o aV) _⟩
end
section
attribute [local go_sem ↓] b7U b7m b7n a2t a2s a2n a3w
theorem a4O(y:Int)(l:LI):(a2L y l).length=l.length:=by simp[a2L]
theorem b0p(y:Int)(l:LI):∀x∈a2L y l,0<=x/\x<=255:=by
 intro x b;obtain⟨a,_,rfl⟩:=Qs.1 b;exact⟨bits_lo_u8 _ _ _,bits_hi_u8 _ _ _⟩
theorem b3N(h:Blk w g t (bys l).toArray)(a:∀x∈l,0<=x/\x<=255):Byt w g l:=
 ⟨λ_=>⟨g,0,rfl,h.lt,λj x hx=>by rw[QP,h.cell j];simp[bys,hx]⟩,a⟩
theorem c0d(d:OA)(v g:Nat)(f:OA)(w cb:Nat)(a b:LI)(X:WD)(y:Byt X d a)(m:v=a.length)(o:d=none->g=0)(z:Byt X f b)(p:w=b.length)(r:f=none->cb=0) (hl:a.length+b.length<=400000000) (hg:a2x X):Calls prog 132 #[.slice X 2 2] (X.alloc (.cells #[.slice d v g,.slice f w cb] 22)) λe w'=>e=.returned (.agg (bys (a3x (a++b))).toArray)/\Below X X w':=by
 subst m;subst p;have F:=Qd X 22 #[.slice d a.length g,.slice f b.length cb];have D:=ρb X (.cells #[.slice d a.length g,.slice f b.length cb] 22)
 have G:b8s (X.alloc (.cells #[.slice d a.length g,.slice f b.length cb] 22)) X [.slice d a.length g,.slice f b.length cb] [a,b]:=⟨rfl,λ_=>⟨X.heap.size,0,rfl,F.lt,λj x B=>by rw[QP,F.cell j];simpa using B⟩,λi h H=>by
  obtain rfl | rfl:i=0\/i=1:=by simp at h;omega
  ·exact⟨d,g,rfl,y.below D,o⟩
  exact⟨f,cb,rfl,z.below D,r⟩⟩
 have:=b3k X 2 _ [a,b] _ G ρp (by simp;omega) (by
  intro x B;simp only[Zm,List.flatten_nil,ZC,Qq]at B
  rcases B with B | B
  ·exact y.bd x B
  exact z.bd x B) (hg.below D)
 refine this.mono ?_;rintro e w' ⟨rfl,E⟩;exact⟨by simp,D.trans (E.mono ρp)⟩
theorem a1z{P:PG}{t:TI}{n:Nat}(hi:(P.info? t).map (·.size)=some n)(a:(((P.info? t).bind (·.zero)).map (·.cells.size))=some n):∃ Z:AV,(∀W:WD,(ALs t).run P W=.ok (.pointer (some ⟨W.heap.size,0,none⟩)) (W.alloc (.cells Z t)))/\(∀(W:WD) (xs:LV),xs.length=n->(∀v∈xs,v.oneCell'=true)->(STs t (.pointer (some ⟨W.heap.size,0,none⟩)) (.agg xs.toArray)).run P (W.alloc (.cells Z t))=.ok () (W.alloc (.cells xs.toArray t)))/\Z.size=n:=by
 obtain⟨z,b,d⟩:=Q8.1 a;exact⟨z.cells,λW=>a0U z b W,λW xs f b=>a7S hi W _ d xs f b,d⟩
abbrev P8:=@a1z prog
theorem d2l:(((prog.info? 244).bind (·.zero)).map (·.cells.size))=some 64:=ρk
theorem b6g(o:OA)(v:Nat)(k:LI)(j:OA)(p:Nat)(b:LI)(w:WD)(r:k.length<=64)(a:Byt w o k)(d:Byt w j b)(f:j=none->p=0)(y:b.length<=100000000)(x:a2x w):Calls prog 77 #[.slice o k.length v,.slice j b.length p] w λe w'=>e=.returned (.agg (bys (b0H k b)).toArray)/\Below w w w':=by
 obtain⟨Zi,a0,aF,aC⟩:=P8 (t:=31) iId b1N;obtain⟨Zp,aK,aD⟩:=Pg (t:=244) c5H d2l;have b0:=Qd w 31 Zi;have B0:=ρb w (.cells Zi 31);have⟨W,hW⟩:=η0 (w.alloc (.cells Zi 31));have⟨g,ah⟩:=ηs w;rw[hW]at B0;rw[hW,ah]at b0;have B:=c5R o v k r W (a.below B0);have G:=b0g k;have⟨F,ae⟩:=η0 (a7V k);rw[ae]at B G;have af:(bys F).length=64:=by rw[a0a,G]
 have au:=λX=>aD X (bys F) af (a0h _)
 have N:b0H k b=a3x (a2L 92 F++a3x (a2L 54 F++b)):=by rw[<-ae];rfl
 have⟨D,hD⟩:=η0 (a3x (a2L 54 F++b));have ak:Dig D:=by rw[<-hD];exact Dig.sha _
 rw[hD]at N;have ad:(bys D).length=32:=by rw[a0a,ak.1]
 have a1:=λX=>aF X (bys D) ad (a0h _)
 rw[N];have⟨E,hE⟩:=η0 (a3x (a2L 92 F++D));have aG:(bys E).length=32:=by rw[a0a,<-hE];exact(Dig.sha _).1
 rw[hE];have aI:=d.below B0;have aJ:=x.below B0;have⟨n,hn⟩:=η0 b.length
 generalize hm:k.length=m at B r⊢
 rw[hn]at y⊢;have⟨HN,HD,al,HE,ac,HW,HG,aA⟩:=η8 hn hD ak hE aG hW ah B0;have⟨aV,aQ,ay,aP,T,z,a2,HZ⟩:=η8 b0 aI aJ f af G ad aC;clear hn hm hD ak hE aG hW ah B0 b0 aI aJ a d x ae N f af G ad r aC;go_in;go_upto_region 1 with fail
 rw[HW.o,HG.o];go_wp2_with fail;refine μi B ?_;intro w1 R;have b5:=Qd w1 244 (bys F).toArray;have B5:=R.alloc R.size (.cells (bys F).toArray 244);have⟨h5,S⟩:=ηs w1;have a3:W.heap.size<=h5:=by rw[<-S];exact R.size
 generalize aq:w1.alloc (.cells (bys F).toArray 244)=w2 at b5 B5
 rw[S]at b5;have aM:=P6 d1J c5H b5 (off:=0) (bys F) T.o (by simp[Qb,T.o]);have ht:=b1M F z 54 w2;have⟨aY,aH,aL,aX⟩:=η4 B5 b5 aq S;clear R B5 b5 S aq B;go_upto_region 2 with fail
 rw[aL.o,aX.o];clear au aK;go_wp2_with fail;refine μ1 ht ?_;rintro e w3 ⟨gi,rfl,Z,I,Y⟩;have H:=φt aY Y;have hs:=c0d gi 64 64 j n p (a2L 54 F) b w3 (b3N I (b0p _ _)) (by rw[a4O,z.o]) ρp (aQ.below H) HN.symm aP.o (by rw[a4O,z.o,HN.o];omega) (ay.below H);rw[HD.o]at hs;have⟨aT,az⟩:=η2 H (φf aH Y);clear ht Z I Y H aM;go_wp2_with fail;refine μi hs ?_;intro w4 ab;have O:=φt aT ab;have b6:=Qd w4 31 (bys D).toArray;have B6:=O.alloc O.size (.cells (bys D).toArray 31);have ai:=(φf az ab).alloc (.cells (bys D).toArray 31);have⟨h6,aa⟩:=ηs w4
 generalize ao:w4.alloc (.cells (bys D).toArray 31)=w6 at b6 B6 ai
 rw[aa]at b6;have⟨ax,U,ag,aR,aW⟩:=η5 B6 b6 ai ao aa;clear ab O B6 b6 ai aa ao hs;go_upto_region 3 with fail
 rw[aR.o,aW.o];have av:=P6 d1J c5H (ag.drew) (off:=0) (bys F) T.o (by simp[Qb,T.o]);have ar:=b1M F z 92 w6.drew;have aZ:=λX=>Pi b1w i5 X h6 ρo
 refine a0s [(2,3),(0,2),(1,2),(3,2),(4,2),(5,2)] (λ_=>True) ρk ρk ρk ρk trivial ?_;refine ε1 ?_;refine τ1 ?_;refine τ ?_;intro K hK;refine μ1 ar ?_;rintro e w7 ⟨gi,rfl,Z,I,an⟩;with_reducible refine hK _ _ ?_;clear hK K
 have J:Below W W w7:=ax.drew.trans (an.mono ax.size);have aB:=U.drew.fr (Q9 an) (by have:=U.lt;simp;omega);have aj:=c0d gi 64 64 h6 32 32 (a2L 92 F) D w7 (b3N I (b0p _ _)) (by rw[a4O,z.o]) ρp (b3N aB al.2) al.1.symm ρp (by rw[a4O,z.o,al.1];omega) (ay.below J);rw[HE.o]at aj;have aU:=η1 J;clear J an aB I Z ar av aZ;refine τ1 ?_;refine τ ?_;intro K hK;refine μi aj ?_;intro w8 aE;have Q:=φt aU aE;have V:=φf aV Q;have aN:=Pa (t:=31) a5m V (off:=0) (bys E) ac.o (by rw[HZ.o];omega) (a0h _);rw[a0q _ _ (by rw[ac.o,HZ.o])]at aN;have⟨aS,aO⟩:=η2 Q V;clear Q V aE aj;with_reducible refine hK _ _ ?_;clear hK K
 refine τ1 ?_;refine ν ?_;go_wp2;exact bodyPost_ret (a0c rfl _ _ g 31 (bys E) _ rfl (aO.row_ _) a5g rfl (ρy ac.o a5m)) rfl ⟨rfl,Ql (aA.trans (aS.mono aA.size)) (by rw[HG.o];exact Qg _) _⟩
end
def b1E:Nat->a0Q×St->a0Q×St
 | 0,(h,s)=>({h with sh:=((a0o 63 s).1:Int)},(a0o 63 s).2)
 | 1,(h,s)=>({h with ht:=((a0o 1099511627776 s).1:Int)},(a0o 1099511627776 s).2)
 | 2,(h,s)=>({h with ep:=((a0o 1099511627776 s).1:Int)},(a0o 1099511627776 s).2)
 | 3,(h,s)=>({h with prev:=(idT s).1},(idT s).2)
 | _,(h,s)=>({h with root:=(idT s).1},(idT s).2)
def a2l(l:LI):Nat->a0Q×St
 | 0=>(a1y,.ok l)
 | i+1=>b1E i (a2l l i)
def b0w(l:LI):Except Int a0Q:=
 match(a2l l 5).2 with
 | .error x=>.error x
 | .ok r=>if 0<r.length\/(a2l l 5).1.ht=0 then .error 3 else .ok (a2l l 5).1
theorem a3N(l:LI)(i:Nat):a2l l (i+1)=b1E i (a2l l i):=rfl
theorem c0W{h:a0Q}:(b1E i (h,.error x)).2=.error x:=by
 rcases i with _ | _ | _ | _ | i<;>rfl
theorem b4r{l:LI}{x:Int}{i:Nat}(h:(a2l l i).2=.error x):∀d,(a2l l (i+d)).2=.error x
 | 0=>h
 |
  d+1=>by
  have h2:=b4r h d;rw[<-ZT,a3N];rw[show a2l l (i+d)=((a2l l (i+d)).1,.error x) by rw[<-h2]];exact c0W
theorem c4A{p:a0Q×St}(a:a9Q p.2)(h:p.1.Bd):a9Q (b1E i p).2/\(b1E i p).1.Bd:=by
 obtain⟨hd,s⟩:=p;have b:=a0P 63 s;have d:=a0P 1099511627776 s;have hi:=a7z a
 rcases i with _ | _ | _ | _ | i
 ·exact⟨a2c a,⟨⟨by show(-9223372036854775808:Int)<=((a0o 63 s).1:Int);omega,by show((a0o 63 s).1:Int)<=9223372036854775807;omega⟩,h.ht,h.ep,h.prev,h.root⟩⟩
 ·exact⟨a2c a,⟨h.sh,⟨by show(-9223372036854775808:Int)<=((a0o 1099511627776 s).1:Int);omega,by show((a0o 1099511627776 s).1:Int)<=9223372036854775807;omega⟩,h.ep,h.prev,h.root⟩⟩
 ·exact⟨a2c a,⟨h.sh,h.ht,⟨by show(-9223372036854775808:Int)<=((a0o 1099511627776 s).1:Int);omega,by show((a0o 1099511627776 s).1:Int)<=9223372036854775807;omega⟩,h.prev,h.root⟩⟩
 ·exact⟨hi.1,⟨h.sh,h.ht,h.ep,⟨a1R s,hi.2⟩,h.root⟩⟩
 exact⟨hi.1,⟨h.sh,h.ht,h.ep,h.prev,⟨a1R s,hi.2⟩⟩⟩
theorem a8L{l:LI}(h:∀x∈l,0<=x/\x<=255):∀i,a9Q (a2l l i).2/\(a2l l i).1.Bd
 | 0=>⟨h,a1A⟩
 | i+1=>c4A (a8L h i).1 (a8L h i).2
theorem b7I(h:∀x∈l,0<=x/\x<=255){t:a0Q}(ht:b0w l=.ok t):t.Bd:=by
 have:=(a8L h 5).2
 unfold b0w at ht
 split at ht
 ·cases ht
 split at ht
 ·cases ht
 cases ht;exact this
abbrev b8t:=alOf 37
abbrev b2v:=stOf 37
theorem a6H(w:WD):(ALs 37).run prog w=.ok (.pointer w) (w.alloc (.cells (a0b a1y).toArray 37)):=a0U (.agg (a0b a1y).toArray) ρk w
theorem b2a(h:a0Q)(v:Int):(a0b h).toArray.setIfInBounds 0 (.int .i64 v)=(a0b {h with sh:=v}).toArray:=by simp[a0b]
theorem b1Q(h:a0Q)(v:Int):(a0b h).toArray.setIfInBounds 1 (.int .i64 v)=(a0b {h with ht:=v}).toArray:=by simp[a0b]
theorem b9l(h:a0Q)(v:Int):(a0b h).toArray.setIfInBounds 2 (.int .i64 v)=(a0b {h with ep:=v}).toArray:=by simp[a0b]
theorem b3S{h:a0Q}(a:h.prev.length=32)(_hr:h.root.length=32)(hd:d.length=32):a1d (a0b h).toArray 3 (bys d)=(a0b {h with prev:=d}).toArray:=by
 unfold a1d a0b;simp[a0a,a,hd]
theorem b8T{h:a0Q}(a:h.prev.length=32)(b:h.root.length=32)(hd:d.length=32):a1d (a0b h).toArray 35 (bys d)=(a0b {h with root:=d}).toArray:=by
 unfold a1d a0b;simp[a0a,a,b,hd]
def a8s:Nat->Nat
 | 0=>3
 | 1=>63
 | 2=>0
 | 3=>4611686018427387904
 | 4=>63
 | _=>1099511627776
def a8C(i:Nat)(p:LI×LI×St):LI×LI×St:=
 if i=2 then(p.1++[0],(idT p.2.2).1,(idT p.2.2).2)else(p.1++[((a0o (a8s i) p.2.2).1:Int)],p.2.1,(a0o (a8s i) p.2.2).2)
def a4e(l:LI):Nat->LI×LI×St
 | 0=>([],List.replicate 32 0,.ok l)
 | i+1=>a8C i (a4e l i)
theorem a2T(l:LI)(i:Nat):a4e l (i+1)=a8C i (a4e l i):=rfl
def a4c(p:LI×LI×St):a1P:=⟨p.1.getD 0 0,p.1.getD 1 0,p.2.1,p.1.getD 3 0,p.1.getD 4 0,p.1.getD 5 0⟩
def a9f(l:LI):Except Int a1P:=
 match(a4e l 6).2.2 with
 | .error x=>.error x
 | .ok r=>if 0<r.length\/(a4e l 6).1.getD 0 0=0 then .error 3 else .ok (a4c (a4e l 6))
theorem a7i{l:LI}{x:Int}{i:Nat}(h:(a4e l i).2.2=.error x):∀d,(a4e l (i+d)).2.2=.error x
 | 0=>h
 |
  d+1=>by
  have h2:=a7i h d;rw[<-ZT,a2T];unfold a8C;rw[h2]
  split<;>rfl
theorem b3G(l:LI):∀i,(a4e l i).1.length=i
 | 0=>rfl
 |
  i+1=>by
  have ih:=b3G l i;rw[a2T];unfold a8C
  split<;>simp[ih]
theorem b8n{l:LI}(h:∀x∈l,0<=x/\x<=255):∀i,Dig (a4e l i).2.1/\a9Q (a4e l i).2.2
 | 0=>⟨ZZ,h⟩
 |
  i+1=>by
  have ih:=b8n h i;rw[a2T];unfold a8C
  split
  ·exact⟨⟨a1R _,(a7z ih.2).2⟩,(a7z ih.2).1⟩
  exact⟨ih.1,a2c ih.2⟩
theorem c1U(l:LI):∀i k x,(a4e l i).1[k]? =some x->0<=x/\x<=(a8s k:Int)
 | 0,k,x,h=>by simp[a4e]at h
 |
  i+1,k,x,h=>by
  have ih:=c1U l i k x;have hl:=b3G l i
  have hx:∀y:Int,(0<=y/\y<=(a8s i:Int))->((a4e l i).1++[y])[k]? =some x->0<=x/\x<=(a8s k:Int):=λy hy hk=>by
   rw[List.getElem?_append]at hk
   split at hk
   ·exact ih hk
   rename_i hk2
   have hk3:k=i:=by
    have:=(Qm.1 hk).1
    simp at this;omega
   subst hk3;simp[hl]at hk;subst hk;exact hy
  rw[a2T]at h;unfold a8C at h
  split at h
  ·rename_i h2
   subst h2;exact hx 0 (by simp[a8s]) h
  have:=a0P (a8s i) (a4e l i).2.2
  exact hx _ ρo h
theorem b2V(h:∀x∈l,0<=x/\x<=255):(a4c (a4e l 6)).Bd:=by
 have p:=b3G l 6;have b:=c1U l 6;have hd:=(b8n h 6).1;have a:∀k,k<6->0<=(a4e l 6).1.getD k 0/\(a4e l 6).1.getD k 0<=(a8s k:Int):=λk o=>b k _ (by simp[List.getD,show k<(a4e l 6).1.length by omega])
 have j:=a 0 ρo;have f:=a 1 ρo;have m:=a 3 ρo;have d:=a 4 ρo;have g:=a 5 ρo;simp only[a8s]at j f m d g;exact⟨⟨by simp only[a4c];omega,by simp only[a4c];omega⟩,⟨by simp only[a4c];omega,by simp only[a4c];omega⟩,hd,⟨by simp only[a4c];omega,by simp only[a4c];omega⟩,⟨by simp only[a4c];omega,by simp only[a4c];omega⟩,⟨by simp only[a4c];omega,by simp only[a4c];omega⟩⟩
theorem b7M(h:∀x∈l,0<=x/\x<=255){t:a1P}(ht:a9f l=.ok t):t.Bd:=by
 have:=b2V h
 unfold a9f at ht
 split at ht
 ·cases ht
 split at ht
 ·cases ht
 cases ht;exact this
abbrev c0s:=alOf 34
abbrev b4R:=stOf 34
theorem c6C(w:WD):(ALs 34).run prog w=.ok (.pointer w) (w.alloc (.cells (a0x a4i).toArray 34)):=a0U (.agg (a0x a4i).toArray) ρk w
def a2w:Nat->St->LL×St
 | 0,s=>([],s)
 |
  j+1,s=>match a2w j s with
  | (L,.error x)=>(L,.error x)
  | (L,.ok l)=>(L++[(idT (.ok l)).1],(idT (.ok l)).2)
theorem a4x(s:St):a2w 0 s=([],s):=rfl
theorem a8l{s:St}(h:a2w j s=(L,.ok l)):a2w (j+1) s=(L++[(idT (.ok l)).1],(idT (.ok l)).2):=by
 rw[a2w,h]
theorem a4L{j:Nat}{s:St}{L:LL}{x:Int}(h:a2w j s=(L,.error x)):∀d,a2w (j+d) s=(L,.error x)
 | 0=>h
 | d+1=>by rw[<-ZT,a2w,a4L h d]
attribute [irreducible] a2w
theorem b1n(s:St):∀j,(a2w j s).1.length<=j
 | 0=>by rw[a4x];simp
 |
  j+1=>by
  have ih:=b1n s j
  cases hj:a2w j s with
  |
   mk L t=>
   rw[hj]at ih
   cases t with
   | error x=>rw[a4L hj 1];simp only at ih⊢;omega
   | ok l=>rw[a8l hj];simp only[Qa,ZB]at ih⊢;omega
theorem a8V{n:Nat}{s:St}(h:b5A n s):∀j,b5A n (a2w j s).2
 | 0=>by rw[a4x];exact h
 |
  j+1=>by
  have ih:=a8V h j
  cases hj:a2w j s with
  |
   mk L t=>
   rw[hj]at ih
   cases t with
   | error x=>rw[a4L hj 1];trivial
   | ok l=>rw[a8l hj];exact a3U ih
theorem a9X{s:St}(h:a9Q s):∀j,(∀d∈(a2w j s).1,Dig d)/\a9Q (a2w j s).2
 | 0=>by rw[a4x];exact⟨by simp,h⟩
 |
  j+1=>by
  have ih:=a9X h j
  cases hj:a2w j s with
  |
   mk L t=>
   rw[hj]at ih
   cases t with
   | error x=>rw[a4L hj 1];exact⟨ih.1,trivial⟩
   |
    ok l=>
    rw[a8l hj]
    have:=a7z (s:=.ok l) ih.2
    refine⟨λi hi=>?_,this.1⟩
    rcases Qq.1 hi with h1 | h1
    ·exact ih.1 i h1
    rw[Qn.1 h1];exact⟨a1R _,this.2⟩
def a3z(l:LI):LI×LL×LI×LI×St:=
 let t1:=a0C 100 (.ok l)
 let t2:=a0o 32 t1.2
 let t3:=a2w t2.1 t2.2
 let t4:=a0C 100 t3.2
 let t5:=idT t4.2
 (t1.1,t3.1,t4.1,t5.1,t5.2)
def a5s(l:LI):Except Int a0y:=
 match a3z l with
 | (_,_,_,_,.error x)=>.error x
 |
  (et,P,ht,tag,.ok r)=>if 0<r.length then .error 3 else
  match a9f et with
  | .error x=>.error x
  |
   .ok e=>match b0w ht with
   | .error x=>.error x
   | .ok h=>.ok ⟨e,P,h,tag⟩
def a0r:a0y:=⟨a4i,[],a1y,List.replicate 32 0⟩
theorem a0B:a0r.Bd:=⟨a3T,by simp[a0r],a1A,ZZ⟩
theorem a3t(m:Nat)(x:Int):a0o m (.error x)=(0,.error x):=rfl
theorem a9d(m:Nat)(x:Int):a0C m (.error x)=([],.error x):=rfl
theorem c1M(x:Int):idT (.error x)=(List.replicate 32 0,.error x):=rfl
theorem c3R{et ht:LI}{b d f a:St}{P:LL}(g:(a0C 100 (.ok l)).1=et)(j:(a0C 100 (.ok l)).2=b)(m:a0o 32 b=(n,d))(o:a2w n d=(P,f))(p:a0C 100 f=(ht,a)):a3z l=(et,P,ht,(idT a).1,(idT a).2):=by
 unfold a3z;simp only[g,j,m,o,p]
theorem c4V(a:∀x∈l,0<=x/\x<=255){c:a0y}(h:a5s l=.ok c):c.Bd:=by
 have b1:=a4u (most:=100) (s:=.ok l) a;have g:=a2c (most:=32) b1.1;have d:=a9X g (a0o 32 (a0C 100 (.ok l)).2).1;have b:=a4u (most:=100) d.2;have f:=a7z b.1;have j:=a1R (a0C 100 (a2w (a0o 32 (a0C 100 (.ok l)).2).1 (a0o 32 (a0C 100 (.ok l)).2).2).2).2;have e:a3z l=((a0C 100 (.ok l)).1,(a2w (a0o 32 (a0C 100 (.ok l)).2).1 (a0o 32 (a0C 100 (.ok l)).2).2).1,(a0C 100 (a2w (a0o 32 (a0C 100 (.ok l)).2).1 (a0o 32 (a0C 100 (.ok l)).2).2).2).1,(idT (a0C 100 (a2w (a0o 32 (a0C 100 (.ok l)).2).1 (a0o 32 (a0C 100 (.ok l)).2).2).2).2).1,(idT (a0C 100 (a2w (a0o 32 (a0C 100 (.ok l)).2).1 (a0o 32 (a0C 100 (.ok l)).2).2).2).2).2):=rfl;unfold a5s at h;rw[e]at h
 revert h
 generalize(idT (a0C 100 (a2w (a0o 32 (a0C 100 (.ok l)).2).1 (a0o 32 (a0C 100 (.ok l)).2).2).2).2).2=s5
 cases s5 with
 | error x=>intro h;cases h
 |
  ok r=>
  intro h;simp only at h
  split at h
  ·cases h
  split at h
  ·cases h
  rename_i e1 he
  split at h
  ·cases h
  rename_i h1 hh
  cases h
  exact⟨b7M b1.2 he,d.1,b7I b.2 hh,⟨j,f.2⟩⟩
theorem b2C(c:a0y)(d:c.Bd)(A b:OA)(cap a:Nat)(P:LL):(a0d c A cap).toArray.setIfInBounds 37 (.slice b P.length a)=(a0d {c with path:=P} b a).toArray:=by
 have f:=a0u d.e;unfold a0d
 apply ZM
 rw[Zt,QC,QC,List.set_append_right _ _ ρo,f]
 simp
theorem a4J{a b c xs:LV}(d:a.length=off)(f:b.length=xs.length):a1d (a++b++c).toArray off xs=(a++xs++c).toArray:=by
 subst d;unfold a1d;simp[QT,QR,f]
theorem b9A(c:a0y)(f:c.Bd)(A:OA)(cap:Nat)(hd:d.length=32):a1d (a0d c A cap).toArray 105 (bys d)=(a0d {c with tag:=d} A cap).toArray:=by
 have:=a4J (a:=a0x c.e++[.slice A c.path.length cap]++a0b c.h) (b:=bys c.tag) (c:=[]) (xs:=bys d) (off:=105) (by simp[a0u f.e,a0f f.h]) (by simp[a0a,f.tag.1,hd])
 simpa[a0d]using this
theorem c6a(c:a0y)(d:c.Bd)(A:OA)(cap:Nat){e:a1P}(f:e.Bd):a1d (a0d c A cap).toArray 0 (a0x e)=(a0d {c with e:=e} A cap).toArray:=by
 have:=a4J (a:=[]) (b:=a0x c.e) (c:=[.slice A c.path.length cap]++a0b c.h++bys c.tag) (xs:=a0x e) (off:=0) rfl (by rw[a0u d.e,a0u f])
 simpa[a0d]using this
theorem c5e(c:a0y)(d:c.Bd)(A:OA)(cap:Nat){h:a0Q}(f:h.Bd):a1d (a0d c A cap).toArray 38 (a0b h)=(a0d {c with h:=h} A cap).toArray:=by
 have:=a4J (a:=a0x c.e++[.slice A c.path.length cap]) (b:=a0b c.h) (c:=bys c.tag) (xs:=a0b h) (off:=38) (by simp[a0u d.e]) (by rw[a0f d.h,a0f f])
 simpa[a0d]using this
theorem a9u(w:WD):(ALs 39).run prog w=.ok (.pointer w) (w.alloc (.cells (a0d a0r none 0).toArray 39)):=a0U (.agg (a0d a0r none 0).toArray) ρk w
theorem c1X(w:WD):(BDs 39 #[]).run prog w=.ok (.agg (a0d a0r none 0).toArray) w:=run_build w _ _ _ ρk
abbrev b0x:=bdOf 39
def d2x(t:TxD)(n:Int):LI:=a2V (a2P t n++a2K t n)
def a7D(t:TxD)(n:Int):Int×Bool:=if(d2x t n).length=1 then((d2x t n).getD 0 0,true)else(0,false)
theorem b6P(b:OA)(f:Nat)(d:OA)(o:Nat)(t:TxD)(n:Int)(y:-9223372036854775808<=n/\n<=9223372036854775807)(w:WD)(h:a9H w b d t)(p:a2x w)(r:t.ins.length<=1000000)(a:t.outs.length<=1000000):Calls prog 148 #[.agg (txV b f d o t),.int .i64 n] w λe w'=>e=.returned (.tuple #[.int .i64 (a7D t n).1,.bool (a7D t n).2])/\Below w w w':=by
 have S:=Qd w 53 (txV b f d o t);have B0:=ρb w (.cells (txV b f d o t) 53);have⟨W,hW⟩:=η0 (w.alloc (.cells (txV b f d o t) 53));have⟨g,hg⟩:=ηs w;rw[hW]at B0;rw[hW,hg]at S;have q0:W.cell? ⟨g,0,none⟩=some (.slice b t.ins.length f):=S.cell 0;have q1:W.cell? ⟨g,1,none⟩=some (.slice d t.outs.length o):=S.cell 1;have q2:W.cell? ⟨g,2,none⟩=some (.int .u64 t.fee):=S.cell 2;have q3:W.cell? ⟨g,3,none⟩=some (.int .i64 t.exp):=S.cell 3;have Q:=a9q b f d o t n y W (h.below B0) (p.below B0) r a;have⟨HW,HG,av⟩:=η3 hW hg B0;clear hW hg B0 S h p r a;unfold txV at HW Q⊢;go_in;go_upto_region 1 with fail
 rw[HW.o,HG.o];go_wp2_with fail;refine μ1 Q ?_;rintro e w1 ⟨v,u,rfl,hv,hu,K⟩;obtain⟨X,Nv,Y,rfl⟩:=hv.formN;obtain⟨V,Nu,T,rfl⟩:=hu.formN;have au:= @a4q t n;have a:= @a8y t n;have an:=hv.lenN;have ab:=hu.lenN;have Z:=hv.rd;have ag:=hu.rd
 have al:X=none->Y=0:=λe=>by
  subst e;obtain⟨_,⟨e,_⟩ | ⟨g,cap,aq,e,_⟩⟩:=hv
  ·simp only[Value.slice.injEq]at e
   exact e.2.2
  simp at e
 have af:V=none->T=0:=λe=>by
  subst e;obtain⟨_,⟨e,_⟩ | ⟨g,cap,aq,e,_⟩⟩:=hu
  ·simp only[Value.slice.injEq]at e
   exact e.2.2
  simp at e
 have bw:=Qd w1 202 #[.slice X Nv Y,.slice V Nu T];have B2:=ρb w1 (.cells #[.slice X Nv Y,.slice V Nu T] 202);have B:=Z.below B2;have F:=ag.below B2;have R:=K.trans (B2.mono K.size)
 generalize aa:w1.alloc (.cells #[.slice X Nv Y,.slice V Nu T] 202)=w2 at bw B F R
 have N:([a2P t n,a2K t n]:LL).flatten=a2P t n++a2K t n:=by simp
 have I:=b6E w1 2 [.slice X Nv Y,.slice V Nu T] [a2P t n,a2K t n] w2 ⟨rfl,λ_=>⟨w1.heap.size,0,rfl,bw.lt,λj x U=>by rw[QP,bw.cell j];simpa using U⟩,λi hi aA=>by
  match i,hi with
  | 0,_=>exact⟨X,Y,by simp[an],B,al⟩
  | 1,_=>exact⟨V,T,by simp[ab],F,af⟩⟩ ρp (by rw[N,Qa];omega)
 rw[N,show([a2P t n,a2K t n]:LL).length=2 from rfl]at I;have J:∀x∈a2P t n++a2K t n,0<=x/\x<64:=λx U=>(Qq.1 U).elim (b3B (c0g t n) x) (b3B (c4v t n) x)
 have aj:(a2P t n++a2K t n).length<=1000000:=by rw[Qa];omega
 have⟨ar,ae,ac,ak⟩:=η4 aa R J aj;clear hv hu K Q au a an ab Z ag al af bw B2 B F R aa N J aj;have⟨L,hL⟩:=η0 (a2P t n++a2K t n);rw[hL]at I ac ak;have z:a7D t n=if(a2V L).length=1 then((a2V L).getD 0 0,true)else(0,false):=by unfold a7D d2x;rw[hL]
 have G:=η1 z;clear hL z;go_wp2_with fail;rw[ar.o];refine μ1 I ?_;rintro e w3 ⟨v3,rfl,H,O⟩;obtain⟨A3,N3,c3,rfl⟩:=H.formN;have he:=b8i w2.heap.size A3 N3 c3 L w3 H ac ak;have⟨ao,ax⟩:=η2 H (φt ae O);have ai:=O.size;clear H O I;go_wp2_with fail;refine μ1 he ?_;rintro e w4 ⟨A4,c4,rfl,hr,hf⟩;have P:=ax.trans ((a2X.step ao hf ai).mono ae.size);have ah:=η1 (φt av P)
 generalize hE:a2V L=E at hr G⊢
 have⟨m,hm⟩:=η0 E.length;have z:=G.o;rw[hm]at z
 by_cases h1:m=1
 ·subst h1
  obtain⟨g4,o4,rfl,aB,ad⟩:=hr.at (i:=0) ρo;rw[if_pos rfl]at z;rw[ZH]at ad;have⟨x,U⟩:=η0 (E.getD 0 0);rw[U]at ad z;have D:=η1 z;clear hr hf P hE z G U he;have ay:((1:Int) != 1)=false:=rfl;have az:((0:Int)<1):=ρo;rw[hm];clear hm;go_wp2;go_ret2;exact⟨by rw[D.o];rfl,ah.o⟩
 rw[if_neg h1]at z;have D:=η1 z;have ay:((m:Int) != 1)=true:=by simp;omega
 clear hr hf P hE z G he;rw[hm];clear hm;go_wp2;go_ret2;exact⟨by rw[D.o];rfl,ah.o⟩
section
def a4X(seed:LI)(i:Int):LI:=b0H seed [i]
theorem Dig.ring(seed:LI)(i:Int):Dig (a4X seed i):=Dig.mac _ _
def a5n(w:WD)(p:Nat)(seed:LI)(k:Nat):Prop:=∃A c,Blk w p 159 #[.slice A k c]/\RdR 32 w A ((List.range k).map λ(i:Nat)=>bys (a4X seed (i:Int)))
theorem a5n.below{w a:WD}{p:Nat}{seed:LI}{k:Nat}(h:a5n w p seed k)(b:Below w w a):a5n a p seed k:=by
 obtain⟨A,c,d,f⟩:=h;exact⟨A,c,d.fr (Q9 b) (ρh d.lt),f.below b⟩
theorem RdR.byt{R:LL}(h:RdR 32 w A (R.map bys))(b:∀r∈R,Dig r)(a:j<R.length):∃g off,A=some ⟨g,off,none⟩/\g<w.heap.size/\Byt w (some ⟨g,off+j*32,none⟩) R[j]:=by
 obtain⟨g,off,e,d,f⟩:=h j (ρw a);refine⟨g,off,e,d,⟨λ_=>⟨g,off+j*32,rfl,d,λk x m=>f k _ ?_⟩,(b _ (Qu a)).2⟩⟩;rw[QS,a3J,m]
 rfl
theorem c3u(p k:Nat)(A:OA)(c:Nat)(s:Int)(w:WD)(h:Blk w p 159 #[.slice A k c]):Calls prog 270 #[.pointer p,.int .i64 s] w λe w'=>e=.returned (.bool (decide (0<=s/\s<k)))/\w=w':=by
 have d:w.cell? ⟨p,0,none⟩=some (.slice A k c):=h.cell 0;clear h
 by_cases b:0<=s
 ·by_cases a:s<(k:Int)
  ·have hd:decide (0<=s/\s<(k:Int))=true:=by simp[b,a]
   rw[hd];clear hd;go_in;go_wp2;go_ret;exact⟨rfl,rfl⟩
  have hd:decide (0<=s/\s<(k:Int))=false:=by simp[a]
  rw[hd];clear hd;go_in;go_wp2;go_ret;exact⟨rfl,rfl⟩
 have hd:decide (0<=s/\s<(k:Int))=false:=by simp[b]
 rw[hd];clear hd;go_in;go_wp2;go_ret;exact⟨rfl,rfl⟩
section
attribute [local go_sem ↓] a2t a2s a2n a3w
theorem c3i(p:OA)(y:Nat)(k:LI)(j:OA)(r:Nat)(b t:LI)(w:WD)(z:k.length<=64)(a:Byt w p k)(d:Byt w j b)(f:j=none->r=0)(B:b.length<=100000000)(ht:Dig t)(x:a2x w):Calls prog 294 #[.slice p k.length y,.slice j b.length r,.agg (bys t).toArray] w λe w'=>e=.returned (.bool (decide (b0H k b=t)))/\Below w w w':=by
 have Q:=Qd w 31 ((bys t).toArray);have N:=ρb w (.cells ((bys t).toArray) 31)
 generalize Z:w.alloc (.cells ((bys t).toArray) 31)=W at Q N
 have⟨g,Y⟩:=ηs w;rw[Y]at Q;have H:(bys t).length=32:=by rw[a0a,ht.1]
 have J:=λX (hX:Below W W X)=>P6 a2i iId (Q.fr (Q9 hX) (ρh Q.lt)) (off:=0) (bys t) H (by simp[Qb,H])
 have F:=b6g p y k j r b W.drew z (a.below N.drew) (d.below N.drew) f B (x.below N.drew);have D:=λX=>a8i (b0H k b) t (Dig.mac k b) ht X
 generalize hR:decide (b0H k b=t)=R at D⊢
 have E:=λX=>D X
 generalize hT:(bys t).toArray=T at J E Z⊢
 generalize hn:b.length=n at F⊢
 generalize hm:k.length=m at F⊢
 have⟨HW,HG,O,HB⟩:=η4 Z Y J N;clear Z Y J N D Q z a d f B ht hn hm hT hR H;go_in;go_upto_region 1 with fail
 rw[HW.o,HG.o];refine a0s [(0,3),(1,3),(3,0),(2,1),(4,2),(5,3)] (λW'=>(LDs 31 (.pointer g)).run prog W'=.ok (.agg T) W') ρk ρk ρk ρk (O.o _ (Qf _ _).drew) ?_;refine ε2 ?_
 (with_reducible refine a0t (o:=?_) (v:=?_) (a':=?_) ρu ρu (λW' hS=>?_) ?_ ?_;rotate_left 2;(focus(skip;exact ρs));focus(exact ρs))
 refine κ ?_;intro K S;refine μi F ?_;intro w2 V;have G:Below W W w2:=(Qf _ W).drew.trans V;have hs:=E w2;have I:=η1 G;clear G V;with_reducible refine S _ _ (O.o _ I.o) ?_;clear S K
 refine τ ?_;intro K S;refine μi hs ?_;intro w4 U;have aa:=η1 U;clear U;with_reducible refine S _ _ ?_;clear S K
 refine ε1 ?_;refine ν ?_;go_wp2;go_ret;exact⟨rfl,HB.trans ((I.trans (aa.mono I.size)).mono HB.size)⟩
theorem b0k{e:TI}(a:P.underlying t=some (.array n e))(b:(P.info? e).map (·.size)=some 1)(w:WD)(g o:Nat)(d:0<n):(SLs t (.pointer (some ⟨g,o,none⟩)) none none none).run P w=.ok (.slice (some ⟨g,o,none⟩) n n) w:=by
 obtain⟨i,j,hi⟩:=Q8.1 b;have f:¬n=0:=ρo;simp[SLs,Instr.sliceAt,Instr.sureAddr,Instr.sliceBounds,run_underlying a,sizeOf,typeInfo,j,Addr.add]
theorem b9B(p k:Nat)(seed:LI)(s:Int)(m:OA)(o:Nat)(b t:LI)(w:WD)(v:a5n w p seed k)(_hk:k<=64)(a:Byt w m b)(d:m=none->o=0)(x:b.length<=100000000)(ht:Dig t)(f:a2x w):Calls prog 272 #[.pointer p,.int .i64 s,.slice m b.length o,.agg (bys t).toArray] w λe w'=>e=.returned (.bool (decide (0<=s/\s<k)&&decide (t=a7C seed s b)))/\Below w w w':=by
 obtain⟨A,c,E,O⟩:=v;have S:=Qd w 31 ((bys t).toArray);have F:=ρb w (.cells ((bys t).toArray) 31)
 generalize Q:w.alloc (.cells ((bys t).toArray) 31)=W at S F
 have⟨g,Z⟩:=ηs w;rw[Z]at S;have D:(bys t).length=32:=by rw[a0a,ht.1]
 have B:=E.fr (Q9 F) (ρh E.lt);have hh:=c3u p k A c s W.drew (B.drew)
 by_cases hs:0<=s/\s<(k:Int)
 ·obtain⟨j,rfl⟩:=a1C hs.1
  have Y:j<k:=ρo;have hd:decide (0<=(j:Int)/\(j:Int)<k)=true:=by simp[hs]
  rw[hd]at hh⊢;rw[Y5];clear hd hs;have z:((List.range k).map λ(i:Nat)=>a4X seed (i:Int)).length=k:=by simp
  have G:RdR 32 w A (((List.range k).map λ(i:Nat)=>a4X seed (i:Int)).map bys):=by rw[List.map_map];exact O
  obtain⟨gk,ok,rfl,ad,J⟩:=RdR.byt G (λr v=>by obtain⟨i,_,rfl⟩:=Qs.1 v;exact Dig.ring _ _) (j:=j) (ρy z Y);rw[show((List.range k).map λ(i:Nat)=>a4X seed (i:Int))[j]'(ρy z Y)=a4X seed (j:Int) by simp]at J;have V:(a4X seed (j:Int)).length=32:=(Dig.ring _ _).1;have y:=c3i (some ⟨gk,ok+j*32,none⟩) 32 (a4X seed (j:Int)) m o b t W.drew ρo (J.below F.drew) (a.below F.drew) d x ht (f.below F.drew);rw[V]at y
  have aa:decide (b0H (a4X seed (j:Int)) b=t)=decide (t=a7C seed (j:Int) b):=by
   rw[decide_eq_decide];exact eq_comm
  rw[aa]at y;have k0:∀X,Below W W X->X.cell? ⟨p,0,none⟩=some (.slice (some ⟨gk,ok,none⟩) k c):=λX hX=>(B.fr (Q9 hX) (ρh B.lt)).cell 0
  have N:=λX (hX:Below W W X)=>P6 a2i iId (S.fr (Q9 hX) (ρh S.lt)) (off:=0) (bys t) D (by simp[Qb,D])
  have sl:=λX=>b0k (P:=prog) b1w i5 X gk (ok+j*32) ρo
  generalize hR:decide (t=a7C seed (j:Int) b)=R at y⊢
  generalize hT:(bys t).toArray=T at N y Q⊢
  generalize hn:b.length=n at y⊢
  have ae:(j:Int)<k:=ρo;have af:(0:Int)<=(j:Int):=ρo;have⟨HW,HG,U,HB,K0⟩:=η5 Q Z N F k0;clear Q Z N F k0 S a d x ht hn hT hR D aa V J G z O f ad E B;go_in;go_upto_region 1 with fail
  rw[HW.o,HG.o];refine a0s [(0,3),(1,3),(2,1),(3,3),(4,3),(5,3),(6,3),(8,3),(11,3),(7,0),(9,3),(10,3),(12,0),(13,2),(14,3),(15,3)] (λW'=>(LDs 31 (.pointer g)).run prog W'=.ok (.agg T) W'/\W'.cell? ⟨p,0,none⟩=some (.slice (some ⟨gk,ok,none⟩) k c)) ρk ρk ρk ρk ⟨U.o _ (Qf _ _).drew,K0.o _ (Qf _ _).drew⟩ ?_;refine ε2 ?_;refine κ ?_;intro K I;refine μf hh ?_;with_reducible refine I _ _ (⟨U.o _ (Qf _ _).drew,K0.o _ (Qf _ _).drew⟩) ?_;clear I K
  refine ε6 ?_
  refine θ2 (λ_ h=>h) ?_
  refine ε2 ?_
  refine θ2 (λ_ h=>h) ?_
  refine τ ?_;intro K I;refine μi y ?_;intro w3 ab;have H:Below W W w3:=(Qf _ W).drew.trans ab;have ac:=η1 H;clear H ab;with_reducible refine I _ _ ?_;clear I K
  refine ε2 ?_;refine ν ?_;go_wp2;go_ret;exact⟨rfl,HB.trans (ac.mono HB.size)⟩
 have hd:decide (0<=s/\s<(k:Int))=false:=ρw hs;rw[hd]at hh⊢;rw[Bool.false_and]
 generalize hT:(bys t).toArray=T at Q⊢
 generalize hn:b.length=n at⊢
 have⟨HW,HG,HB⟩:=η3 Q Z F;clear Q Z F S a d x ht hn hT D O f E B hd hs;go_in;go_upto_region 1 with fail
 rw[HW.o,HG.o];refine a0s [(0,3),(1,3),(2,2),(3,3),(4,3),(5,3),(6,3),(7,3),(8,3),(9,3),(10,3),(11,3),(12,3),(13,3),(14,3),(15,3)] (λ_=>True) ρk ρk ρk ρk trivial ?_;refine ε2 ?_;refine τ ?_;intro K I;refine μf hh ?_;with_reducible refine I _ _ ?_;clear I K
 refine ε1 ?_;refine δ4 ?_;refine δ4 ?_;refine δ1 ?_;refine δ1 ?_;refine ε2 ?_;refine ν ?_;go_wp2;go_ret;exact⟨rfl,HB.drew⟩
end
end
section
theorem a0Z{fn:Func}{p q:Tmp}(h:fn.results=#[.cell p ty,.tmp q])(tmps:AV)(w:WD)(g:Nat)(t:TI)(xs:LV) (hg:Blk w g t xs.toArray) (hu:(P.underlying ty).map a1f=some true) (hi:(P.info? ty).map (·.size)=some xs.length) (hp:tmps.getD p undef=.pointer g) (v:VL) (hq:tmps.getD q undef=v:=by rfl):(results fn tmps).run P w=.ok (.tuple #[.agg xs.toArray,v]) w:=by
 obtain⟨d,hu,hd⟩:=Q8.1 hu;have a:tmps[p]?.getD undef=.pointer g:=ρw hp;have b:tmps[q]?.getD undef=v:=ρw hq;simp[results,h,a,b,asAddr,run_loadVar_row w g t ty xs.toArray (0,0) d hg hu (by cases d<;>simp_all [a1f]) (ρw hi)]
theorem a0F{P:PG}{w:WD}{t:TI}{n:Nat}(hi:(P.info? t).map (·.size)=some n){g:Nat}{Z:AV}(a:Blk w g t Z)(f:Z.size=n)(xs:LV)(b:xs.length=n)(d:∀v∈xs,v.oneCell'=true):(STs t (.pointer g) (.agg xs.toArray)).run P w=.ok () (w.setRow g xs.toArray):=by
 have:=a0I (P:=P) (t:=t) hi a (off:=0) xs b ρo d
 rwa [a0q _ _ ρo]at this
abbrev P9:=@a0F prog
theorem a0e{P:PG}{t:TI}{n:Nat}(b:(P.underlying t).map a1f=some true)(hi:(P.info? t).map (·.size)=some n){w:WD}{g:Nat}{e:TI}(xs:LV)(d:Blk w g e xs.toArray)(a:xs.length=n):(LDs t (.pointer g)).run P w=.ok (.agg xs.toArray) w:=a0g b hi d (off:=0) xs a (by simp[Qb,a])
abbrev P4:=@a0e prog
attribute [local go_sem ↓] a2t a2s a2n a6i
theorem b8H(d:LI)(hd:Dig d)(A:OA)(m c:Nat)(w:WD):Calls prog 312 #[.agg (bys d).toArray,.int .i64 0,.int .i64 1,.slice A m c] w λe w'=>e=.returned (.tuple #[.agg (bys d).toArray,.bool (decide (m=0))])/\Below w w w':=by
 have a:(bys d).length=32:=by rw[a0a,hd.1]
 obtain⟨Z,T,r,N⟩:=P8 (t:=31) iId b1N;have v:=Qd w 31 ((bys d).toArray);have x:=ρb w (.cells ((bys d).toArray) 31)
 generalize p:w.alloc (.cells ((bys d).toArray) 31)=W at v x
 have⟨g,o⟩:=ηs w;rw[o]at v;have b1:=Qd W 31 Z;have F:Below w w (W.alloc (.cells Z 31)):=x.alloc x.size _
 generalize D:W.alloc (.cells Z 31)=V at b1 F
 have b:W.heap.size=g+1:=by first | exact o | (rw[<-p];simp[o]) | (rw[<-p];simp;omega)
 rw[b]at b1;have j:=v.alloc (.cells Z 31);rw[D]at j;have I:=P4 a2i iId (bys d) j a;have z:=P9 iId b1 N (bys d) a (a0h _);have E:=b1.row_ (bys d).toArray;have K:=Ql (g:=g+1) F ρo (bys d).toArray;have⟨R,J⟩:=η0 (decide (m=0));have O:((m:Int) == 0)=R:=by rw[<-J,Bool.eq_iff_iff];simp
 rw[J];have f:(bys d).length=32:=a
 generalize y:bys d=xs at I z E K p f⊢
 have⟨S,U,Q,H,G,B⟩:=η6 p D o E K f;clear p D o E K f v x b1 F j r N b y a J hd;go_in;go_upto_region 1 with fail
 rw[S.o,U.o,Q.o];go_wp2;exact bodyPost_ret (a0Z rfl _ _ (g+1) 31 xs H a2i (ρy B.o iId) rfl (.bool R)) rfl ⟨rfl,G.o⟩
def c12(d:LI)(L:LL):LI×Bool:=if L.length=0 then(List.replicate 32 0,false)else(a1n (L.getD (L.length-1) []) d,decide (L.length-1=0))
def c13(d:LI)(L:LL):LI×Bool:=if L.length=0 then(List.replicate 32 0,false)else(a1n (c12 d (L.take (L.length-1))).1 (L.getD (L.length-1) []),(c12 d (L.take (L.length-1))).2)
theorem Dig.c12(d:LI)(L:LL):Dig (c12 d L).1:=by
 unfold Proofs.YtpolljfkceanaaaGreatDoor.c12
 split
 ·exact ZZ
 exact Dig.node _ _
theorem Dig.c13(d:LI)(L:LL):Dig (c13 d L).1:=by
 unfold Proofs.YtpolljfkceanaaaGreatDoor.c13
 split
 ·exact ZZ
 exact Dig.node _ _
theorem c5O(d:LI)(hd:Dig d)(L:LL)(f:∀x∈L,Dig x)(A:OA)(c:Nat)(y:L.length<=c)(r:L.length<=1000000)(w:WD)(b:RdR 32 w A (L.map bys))(a:a2x w):Calls prog 312 #[.agg (bys d).toArray,.int .i64 1,.int .i64 2,.slice A L.length c] w λe w'=>e=.returned (.tuple #[.agg (bys (c12 d L).1).toArray,.bool (c12 d L).2])/\Below w w w':=by
 have aB:(bys d).length=32:=by rw[a0a,hd.1]
 obtain⟨Z,a5,ae,hz⟩:=P8 (t:=31) iId b1N;have b0:=Qd w 31 ((bys d).toArray);have B0:=ρb w (.cells ((bys d).toArray) 31)
 generalize hW:w.alloc (.cells ((bys d).toArray) 31)=W at b0 B0
 have⟨g,hg⟩:=ηs w;rw[hg]at b0;have b1:=Qd W 31 Z;have B1:Below w w (W.alloc (.cells Z 31)):=B0.alloc B0.size _
 generalize hV:W.alloc (.cells Z 31)=V at b1 B1
 have aq:W.heap.size=g+1:=by first | exact hg | (rw[<-hW];simp[hg]) | (rw[<-hW];simp;omega)
 rw[aq]at b1;have af:=b0.alloc (.cells Z 31);rw[hV]at af
 rcases Zq L.length with h0 | h0
 ·have E:=P9 iId b1 hz (bys (List.replicate 32 0)) (by simp[bys]) (a0h _)
  have b2:=b1.row_ (bys (List.replicate 32 0)).toArray;have B2:=Ql (g:=g+1) B1 ρo (bys (List.replicate 32 0)).toArray;have aV:=λW=>b1S W
  rw[show c12 d L=(List.replicate 32 0,false) by unfold c12;rw[if_pos h0]];rw[h0];have aa:(bys (List.replicate 32 0)).length=32:=by simp[bys]
  generalize aj:bys (List.replicate 32 0)=ys at E aV b2 B2 aa⊢
  generalize ab:bys d=I at hW⊢
  have⟨HW,HV,HG,ah,ad,Y⟩:=η6 hW hV hg b2 B2 aa;clear hW hV hg b2 B2 aa b0 B0 b1 B1 af ae hz aq ab aj aB hd b a f y r;go_in;go_upto_region 1 with fail
  rw[HW.o,HV.o,HG.o];go_wp2;exact bodyPost_ret (a0Z rfl _ _ (g+1) 31 ys ah a2i (ρy Y.o iId) rfl (.bool false)) rfl ⟨rfl,ad.o⟩
 obtain⟨m,aC⟩:∃m,L.length=m+1:=⟨L.length-1,by omega⟩;obtain⟨gp,op,rfl,aW,ag⟩:=b m (by simp;omega)
 have au:Dig (L.getD m []):=by
  have:L.getD m []∈L:=by simp[List.getD,show m<L.length by omega]
  exact f _ this
 have⟨be,ak⟩:=η0 (L.getD m []);rw[ak]at au;have S:(bys be).length=32:=by rw[a0a,au.1]
 have aH:∀X,Below w w X->(LDs 31 (.pointer (some ⟨gp,op+m*32,none⟩))).run prog X=.ok (.agg (bys be).toArray) X:=λX R=>
  a2e a2i iId X gp (op+m*32) (bys be) S (λj v hv=>(R.cell (p:=⟨gp,op+m*32+j,none⟩) aW).trans (ag j v (by
   rw[QS,<-hv,<-ak];simp[List.getD,show m<L.length by omega])))
 have az:c12 d L=(a1n be d,decide (m=0)):=by
  unfold c12;rw[if_neg ρo,aC,Nat.add_sub_cancel,ak]
 rw[az,aC];have⟨D,hD⟩:=η0 (a1n be d);have aL:(bys D).length=32:=by rw[a0a,<-hD];exact(Dig.node _ _).1
 rw[hD];have a8:m+1<=c:=ρo;have a9:((m:Int)+1 == 0)=false:=by rw[beq_eq_false_iff_ne];omega
 have a2:(m:Int)<m+1:=ρo;have av:=B1.drew;have cl:=λX (R:Below w w X)=>b8H d hd (some ⟨gp,op,none⟩) m c X
 have⟨I,ab⟩:=η0 (bys d);have aa:I.length=32:=by rw[<-ab,aB]
 rw[ab]at hW b0 af cl⊢;have⟨ys,aj⟩:=η0 (bys be);have ay:(STs 31 (.pointer V) (.agg (bys be).toArray)).run prog (V.alloc (.cells Z 31)).drew=.ok () (V.alloc (.cells (bys be).toArray 31)).drew:=ae V.drew (bys be) S (a0h _);rw[aj]at aH S ay;have a3:(m:Int)+1<=(c:Int):=ρo;have a6:(0:Int)<=(m:Int):=ρo;have bf:(m:Int)<=1000000:=ρo;have⟨HW,HV,HG,aY,F,a1,Y,aK⟩:=η8 hW hV hg b1 B1 af aa ab;have⟨aU,aT,HP,aS,aA,aX,a0,aM⟩:=η8 aj aH b a av au hD aL;clear hW hV hg b1 B1 af aa ab aj aH b a av au hD aL b0 B0 aq aB f r aC ag az h0;go_in;go_upto_region 1 with fail
 rw[HW.o,HV.o,HG.o];go_upto_region 6 with fail
 have⟨S0,O⟩:=η0 ((λX=>(LDs 31 (.pointer (some ⟨gp,op+m*32,none⟩))).run prog X=.ok (.agg ys.toArray) X):WD->Prop);have al:∀X,Below w w X->S0 X:=λX R=>by rw[<-O];exact aT.o X R
 have⟨ar,B⟩:=η2 O al;clear O al;with_reducible refine a4F (λi=>i != 7) S0 ρk ?_
 refine a2b (m:=4) (Lf:=#[true,true,true,true,true,false,false,false,false]) [(0,3),(1,3),(2,3),(4,3),(3,0)] true ρk ρk ρk (λ_=>B.o _ aA.o) ?_;refine εc4 ?_
 (with_reducible refine a3M (o:=?_) (v:=?_) (a':=?_) ρu ρu (λW' hS=>?_) ?_ ?_;rotate_left 2;(focus(rw[<-ar.o]at hS;exact ρs));focus(exact ρs))
 with_reducible refine a2m ?_
 refine a3O (i:=5) (j:=6) ρk ?_ ?_
 focus
  with_reducible refine a2k (J:=(λi=>i != 7)) (oi:=?_) ρu ρu (λK H=>?_)
  refine ψ ?_;go_simp;have ai:=b3C V.drew;refine μf ai ?_;clear ai;with_reducible refine H _ _ (B.o _ aA.o) ?_;clear H K
  refine a1c [(6,1),(7,2),(8,3)] true ρk ρk ρk (λ_=>B.o _ aA.o) ?_;refine κ ?_;intro K H;with_reducible refine H _ _ (B.o _ (F.o.alloc F.o.size _).drew) ?_;clear H K
  refine τ1 ?_;refine ε1 ?_;refine ν ?_
 rotate_left
 focus
  with_reducible refine a2k (J:=(λi=>i != 7)) (oi:=?_) ρu ρu (λK H=>?_)
  refine ψ ?_;go_simp;with_reducible refine H _ _ (B.o _ (F.o.alloc F.o.size _).drew) ?_;clear H K
  refine a1c [(5,1),(7,2),(8,3)] true ρk ρk ρk (λ_=>B.o _ (F.alloc F.size _).drew) ?_;refine κ ?_;intro K H;have ai:=b3C (V.alloc (.cells Z 31)).drew;refine μf ai ?_;clear ai;with_reducible refine H _ _ (B.o _ (F.o.alloc F.o.size _).drew) ?_;clear H K
  refine τ1 ?_;refine ε1 ?_;refine ν ?_
 all_goals
  clear ay B ar S0;have b2:=(Qd V 31 ys.toArray).drew;have B2:=(F.alloc F.size (.cells ys.toArray 31)).drew;have an:=(a1.alloc (.cells ys.toArray 31)).drew;have aF:=(aY.alloc (.cells ys.toArray 31)).drew;have⟨h,hh⟩:=ηs V
  generalize hU:(V.alloc (.cells ys.toArray 31)).drew=U at b2 B2 an aF⊢
  rw[hh]at b2⊢;have aI:=λX (R:Below U U X)=>P4 a2i iId I (an.fr (Q9 R) (ρh an.lt)) Y.o
  have⟨S0,O⟩:=η0 ((λX=>(LDs 31 (.pointer g)).run prog X=.ok (.agg I.toArray) X):WD->Prop);have al:∀X,Below U U X->S0 X:=λX R=>by rw[<-O];exact aI X R
  have ba:(m:Int)<=(c:Int):=ρo;have bb:IntKind.i64.wrap 0=0:=rfl;have a4:IntKind.i64.wrap 1=1:=rfl;have aQ:∀v∈I,v.oneCell'=true:=by rw[<-aK.o];exact a0h _
  have aE:=cl U.drew B2.drew;have aD:=cl (U.alloc (.cells Z 31)).drew (B2.alloc B2.size _).drew;have aJ:=(Qd U 31 Z).drew;have⟨ah,ad,bg,aG,ar,B,aN,aZ⟩:=η8 b2 B2 an aF O al aQ aJ;clear b2 B2 an aF O al aQ aJ hh hU aI cl;go_upto_region 10 with fail
  with_reducible refine a4F (λi=>i != 10&&i != 15) S0 ρk ?_
  refine a2b (m:=7) (Lf:=#[true,true,true,true,true,true,true,true,true,true,false,false,false,false,false,false,false]) [(1,3),(2,3),(3,3),(4,3),(5,3),(6,3),(7,3),(8,3),(9,3),(0,0)] true ρk ρk ρk (λ_=>B.o _ (Qf _ _).drew) ?_;refine εc4 ?_;refine εc4 ?_;refine εc1 ?_
  (with_reducible refine a3M (o:=?_) (v:=?_) (a':=?_) ρu ρu (λW' hS=>?_) ?_ ?_;rotate_left 2;(focus(rw[<-ar.o]at hS;exact ρs));focus(exact ρs))
  with_reducible refine a2m ?_
  refine a3O (i:=10) (j:=14) ρk ?_ ?_
  focus
   with_reducible refine b2d (J:=(λi=>i != 10&&i != 15)) (oi:=?_) ρu ρu ρd (λK H=>?_)
   refine ψ ?_;go_simp;refine μi aE ?_;intro N G;have E:=ae N I Y aN;have z:Below U U N:=(Qf _ U).drew.trans G;have q1:=Qd N 31 I.toArray;have q2:=(φf ah z).alloc (.cells I.toArray 31);have q3:=(φf aG z).alloc (.cells I.toArray 31);have q4:=(φt ad z).alloc (φt ad z).size (.cells I.toArray 31);have T:=z.alloc z.size (.cells Z 31);have⟨X,R⟩:=η0 (N.alloc (.cells I.toArray 31));have⟨hx,ac⟩:=ηs N;rw[R]at q1 q2 q3 q4 E;rw[ac]at q1 E;have⟨Q1,Q2,Q3,Q4,aP,ax⟩:=η6 q1 q2 q3 q4 ac T;clear q1 q2 q3 q4 ac T G z aE aD R;with_reducible refine H _ _ ?_;clear H K
   refine a1c [(11,3),(12,3),(13,3),(14,1),(15,2),(16,3)] false ρk ρk ρk ρp ?_;refine ε3 ?_;refine κ1 (B.o _ ax.o) ?_;rw[aP.o];refine τ1 ?_;refine ε1 ?_;refine ν ?_;clear E ax aP
  rotate_left
  focus
   with_reducible refine a2k (J:=(λi=>i != 10&&i != 15)) (oi:=?_) ρu ρu (λK H=>?_)
   refine ψ ?_;go_simp;with_reducible refine H _ _ (B.o _ (ρb U _).drew) ?_;clear H K
   refine a1c [(10,2),(11,3),(12,3),(13,3),(15,2),(16,3)] true ρk ρk ρk (λ_=>B.o _ (ρb U _).drew) ?_;refine τ ?_;intro K H;refine μi aD ?_;intro N G;have z:Below U U N:=(ρb U _).drew.trans (G.mono ρp);have T:=φf aZ G;have E:=P9 iId T hz I Y aN;have aR:=φt ad z;have aO:w.heap.size<=U.heap.size:=ad.size;have q1:=T.row_ I.toArray;have q2:=(φf ah z).rowFar (g':=U.heap.size) (ρh ah.o.lt) I.toArray;have q3:=(φf aG z).rowFar (g':=U.heap.size) (ρh aG.o.lt) I.toArray;have q4:=Ql (g:=U.heap.size) aR aO I.toArray;have⟨X,R⟩:=η0 (N.setRow U.heap.size I.toArray);have⟨hx,ac⟩:=ηs U;rw[R]at q1 q2 q3 q4 E;rw[ac]at q1 E⊢;have⟨Q1,Q2,Q3,Q4⟩:=η4 q1 q2 q3 q4;clear q1 q2 q3 q4 G z aE aD R ac aR aO T;with_reducible refine H _ _ ?_;clear H K
   refine ε3 ?_;refine τ1 ?_;refine ε1 ?_;refine ν ?_;clear E
  all_goals
   have bc:=P4 a2i iId ys Q2 S;have a7:=P4 a2i iId I Q1 Y;have Q:=b3b be d aX hd X (aS.below Q4);rw[a0.o,aK.o,aU.o]at Q;go_wp2_with fail;refine μi Q ?_;intro bh ao;have q5:=φf Q3 ao;have E:=P9 iId q5 hz (bys D) aM.o (a0h _);have q6:=q5.row_ (bys D).toArray;have q7:=Ql (g:=g+1) (φt Q4 ao) (ρh HG.o) (bys D).toArray;have⟨Q6,Q7⟩:=η2 q6 q7;clear q6 q7 ao q5 Q;go_wp2;exact bodyPost_ret (a0Z rfl _ _ (g+1) 31 (bys D) Q6.o a2i (ρy aM.o iId) rfl (.bool (decide (m=0)))) rfl ⟨rfl,Q7.o⟩
end
section
theorem a0m{P:PG}{w:WD}{t:TI}{n:Nat}(hi:(P.info? t).map (·.size)=some n){g:Nat}{Z:AV}(a:Blk w g t Z)(f:Z.size=n)(xs:LV)(b:xs.length=n)(d:∀v∈xs,v.oneCell'=true):(STs t (.pointer g) (.agg xs.toArray)).run P w=.ok () (w.setRow g xs.toArray):=by
 have:=a0I (P:=P) (t:=t) hi a (off:=0) xs b ρo d
 rwa [a0q _ _ ρo]at this
abbrev P7:=@a0m prog
structure a4N(t:TI)(g p s:Nat)(w w':WD)(cs:AV)(l:LI):Prop where
 var:Blk w' g t cs
 eye:a0S w' p s l
 fr:Fr (λk=>k=p) w w'
theorem a4N.step{b:WD}(h:a4N t g p s w b cs l)(m:w.heap.size=g)(o:p<g)(f:Fr (λk=>k=p) b a)(j:a0S a p s d):a4N t g p s w a cs d:=
 ⟨h.var.fr f ρo,j,h.fr.trans f (λ_ _ e=>e)⟩
theorem a4N.store(h:a4N t g p s w a cs l)(b:w.heap.size=g)(d:p<g)(j:s<g)(i:Nat)(v:VL):a4N t g p s w (a.setCell ⟨g,i,none⟩ v) (cs.setIfInBounds i v) l:=by
 have f:Fr (λk=>k=g) a (a.setCell ⟨g,i,none⟩ v):=(Qp (λk=>k=g) a).setCell (p:=⟨g,i,none⟩) (λ_=>rfl) _;exact⟨h.var.set_ i v,h.eye.fr f ρo ρo,h.fr.trans f (λk m e=>ρo)⟩
theorem a4N.row{b:WD}(h:a4N t g p s w b cs l)(d:w.heap.size=g)(j:p<g)(m:s<g)(a:AV):a4N t g p s w (b.setRow g a) a l:=by
 have f:=ρr (g) b a;exact⟨h.var.row_ a,h.eye.fr f ρo ρo,h.fr.trans f (λk o e=>ρo)⟩
theorem a4N.start(h:a0S w p s l)(a:p<w.heap.size)(b:s<w.heap.size):a4N t w.heap.size p s w (w.alloc (.cells cs t)) cs l:=by
 have B:=ρb w (.cells cs t);exact⟨Qd w t cs,h.fr (Q9 B) ρo ρo,(Q9 B).mono (λk d e=>ρo)⟩
theorem c1h(e:a1P)(v:Int):(a0x e).toArray.setIfInBounds 0 (.int .i64 v)=(a0x {e with kind:=v}).toArray:=by simp[a0x]
theorem b2D(e:a1P)(v:Int):(a0x e).toArray.setIfInBounds 1 (.int .i64 v)=(a0x {e with sh:=v}).toArray:=by simp[a0x]
theorem b9i{e:a1P}(h:e.tx.length=32)(v:Int):(a0x e).toArray.setIfInBounds 34 (.int .u64 v)=(a0x {e with am:=v}).toArray:=by
 simp[a0x,a0a,h,List.set_append]
theorem b9t{e:a1P}(h:e.tx.length=32)(v:Int):(a0x e).toArray.setIfInBounds 35 (.int .i64 v)=(a0x {e with why:=v}).toArray:=by
 simp[a0x,a0a,h,List.set_append]
theorem b1R{e:a1P}(h:e.tx.length=32)(v:Int):(a0x e).toArray.setIfInBounds 36 (.int .i64 v)=(a0x {e with ep:=v}).toArray:=by
 simp[a0x,a0a,h,List.set_append]
theorem b8e{e:a1P}(h:e.tx.length=32)(hd:d.length=32):a1d (a0x e).toArray 2 (bys d)=(a0x {e with tx:=d}).toArray:=by
 unfold a0x;exact a4J (a:=[.int .i64 e.kind,.int .i64 e.sh]) (b:=bys e.tx) rfl (by rw[a0a,a0a,h,hd])
theorem a1r{v m:Nat}(h:v<=m)(a:m<=9223372036854775807):IntKind.i64.wrap (v:Int)=v:=by rw[IntKind.wrap_i64];omega
attribute [local go_sem ↓] a1W c0s b4R a2t a2s a2n
theorem c1A(p s:Nat)(l:LI)(a:l.length<=400000000)(w:WD)(h:a0S w p s l)(b:p<w.heap.size)(f:s<w.heap.size):Calls prog 200 #[.pointer p] w λe w'=>b5o p s (a4e l 6).2.2 (.agg (a0x (a4c (a4e l 6))).toArray) e w'/\Fr (λk=>k=p) w w':=by
 have⟨g,hg⟩:=ηs w;have J:=c6C w;have e0:a4c (a4e l 0)=a4i:=rfl;have v0:=a4N.start (t:=34) (cs:=(a0x a4i).toArray) h b f
 generalize hW:w.alloc (.cells (a0x a4i).toArray 34)=W at v0 J
 rw[hg]at v0 J;have j:p<g:=ρo;have F:s<g:=ρo;have aP:g<=W.heap.size:=by have:=v0.var.lt;omega
 have K:=a5w p s l 3 ρo ρo W v0.eye;obtain⟨D,s1,h1⟩:∃v st,a0o 3 (.ok l)=(v,st):=⟨_,_,rfl⟩;have R:=a0P 3 (.ok l);have U:=a1b (most:=3) (st:=.ok l) (n:=400000000) a;rw[h1]at K R U;rw[show((3:Nat):Int)=3 from rfl]at K;simp only at K R U
 have p1:a4e l 1=([(D:Int)],List.replicate 32 0,s1):=by
  show a8C 0 _=_
  simp only[a4e,a8C];rw[if_neg ρo,show a8s 0=3 from rfl,h1]
  rfl
 have⟨HW,G,V0,av,aB,an⟩:=η6 hW hg v0 p1 R U;clear hW hg v0 p1 R U h h1 aP e0;go_in;go_upto_region 1 with fail
 clear J;go_wp2_with fail;refine μ1 K ?_;rintro e w1 ⟨y,f1⟩
 cases s1 with
 |
  error x=>
  obtain rfl:=y;refine⟨rfl,?_,V0.fr.trans f1 (λ_ _ e=>e)⟩;rw[a7i (i:=1) (x:=x) (by rw[av.o]) 5]
  rfl
 |
  ok l1=>
  obtain⟨rfl,X⟩:=y;have v1:=V0.step G j f1 X;have B:=a5w p s l1 63 ρo (by have:l1.length<=400000000:=an.o;omega) w1 X;obtain⟨E,s2,h2⟩:∃v st,a0o 63 (.ok l1)=(v,st):=⟨_,_,rfl⟩;have I:=a0P 63 (.ok l1);have N:=a1b (most:=63) (st:=.ok l1) (n:=400000000) an.o;rw[h2]at B I N;rw[show((63:Nat):Int)=63 from rfl]at B;simp only at B I N
  have p2:a4e l 2=([(D:Int),(E:Int)],List.replicate 32 0,s2):=by
   rw[a2T,av.o];simp only[a8C];rw[if_neg ρo,show a8s 1=63 from rfl,h2]
   rfl
  have az:=a1r aB.o ρo;have aK:=a1r I ρo;have⟨V1,ad,aW,ai⟩:=η4 v1 p2 I N;clear v1 p2 I N h2 X f1 K;go_wp2_with fail;refine μ1 B ?_;rintro e w2 ⟨y,f2⟩
  cases s2 with
  |
   error x=>
   obtain rfl:=y;refine⟨rfl,?_,V1.fr.trans f2 (λ_ _ e=>e)⟩;rw[a7i (i:=2) (x:=x) (by rw[ad.o]) 4]
   rfl
  |
   ok l2=>
   obtain⟨rfl,ax⟩:=y;have v2:=V1.step G j f2 ax;have c0:w2.cell? ⟨g,0,none⟩=some (.int .i64 0):=v2.var.cell 0;have c1:w2.cell? ⟨g,1,none⟩=some (.int .i64 0):=v2.var.cell 1;have z0:=v2.var.frozen 0;have z1:=v2.var.frozen 1;have v3:=(v2.store G j F 0 (.int .i64 D)).store G j F 1 (.int .i64 E);rw[c1h,b2D]at v3;replace v3:a4N 34 g p s w _ (a0x ⟨(D:Int),(E:Int),List.replicate 32 0,0,0,0⟩).toArray l2:=v3
   generalize aj:(w2.setCell ⟨g,0,none⟩ (.int .i64 D)).setCell ⟨g,1,none⟩ (.int .i64 E)=w3 at v3
   have⟨V3,aO⟩:=η2 v3 aj;clear v3 aj v2 ax f2 B;go_upto_region 2 with fail
   rw[aO.o];clear c0 c1 z0 z1 az aK;have hid:=c4T p s l2 (by have:l2.length<=400000000:=ai.o;omega) w3 V3.eye (ρh V3.o.var.lt) (ρh V3.o.var.lt);obtain⟨d,s3,h3⟩:∃v st,idT (.ok l2)=(v,st):=⟨_,_,rfl⟩;have hd:=a1R (.ok l2);have O:=a3U (st:=.ok l2) (n:=400000000) ai.o;rw[h3]at hid hd O;simp only at hid hd O
   have p3:a4e l 3=([(D:Int),(E:Int),0],d,s3):=by
    rw[a2T,ad.o];simp only[a8C];rw[if_pos trivial,h3]
    rfl
   have⟨ae,al⟩:=η2 p3 O;clear p3 O h3;go_wp2_with fail;refine μ1 hid ?_;rintro e w4 ⟨y,f4⟩
   cases s3 with
   |
    error x=>
    obtain rfl:=y;refine⟨rfl,?_,V3.fr.trans f4 (λ_ _ e=>e)⟩;rw[a7i (i:=3) (x:=x) (by rw[ae.o]) 3]
    rfl
   |
    ok l3=>
    obtain⟨rfl,ak⟩:=y;have v4:=V3.step G j f4 ak;have aC:(List.replicate 32 (0:Int)).length=32:=List.length_replicate;have z:=Pa a5m v4.var (off:=2) (bys d) (ρy a0a hd) (by rw[Qc];simp[a0x,a0a]) (a0h _);rw[b8e (e:=⟨(D:Int),(E:Int),List.replicate 32 0,0,0,0⟩) aC hd]at z;have v5:=v4.row G j F (a0x ⟨(D:Int),(E:Int),d,0,0,0⟩).toArray
    generalize Z:w4.setRow g (a0x ⟨(D:Int),(E:Int),d,0,0,0⟩).toArray=w5 at v5
    replace z:(STs 31 (.pointer (some ⟨g,2,none⟩)) (.agg (bys d).toArray)).run prog w4=.ok () w5:=z.trans (by rw[<-Z])
    generalize aS:(bys d).toArray=tv at z⊢
    have⟨V5,aX⟩:=η2 v5 Z;clear v5 Z v4 ak f4 hid aS;go_upto_region 3 with fail
    clear z;have r:=a5w p s l3 4611686018427387904 ρo (by have:l3.length<=400000000:=al.o;omega) w5 V5.eye;obtain⟨Q,s4,h4⟩:∃v st,a0o 4611686018427387904 (.ok l3)=(v,st):=⟨_,_,rfl⟩;have T:=a1b (most:=4611686018427387904) (st:=.ok l3) (n:=400000000) al.o;rw[h4]at r T;rw[show((4611686018427387904:Nat):Int)=4611686018427387904 from rfl]at r;simp only at r T
    have p4:a4e l 4=([(D:Int),(E:Int),0,(Q:Int)],d,s4):=by
     rw[a2T,ae.o];simp only[a8C];rw[if_neg ρo,show a8s 3=4611686018427387904 from rfl,h4]
     rfl
    have⟨af,ao⟩:=η2 p4 T;clear p4 T h4;go_wp2_with fail;refine μ1 r ?_;rintro e w6 ⟨y,f6⟩
    cases s4 with
    |
     error x=>
     obtain rfl:=y;refine⟨rfl,?_,V5.fr.trans f6 (λ_ _ e=>e)⟩;rw[a7i (i:=4) (x:=x) (by rw[af.o]) 2]
     rfl
    |
     ok l4=>
     obtain⟨rfl,ah⟩:=y;have v6:=V5.step G j f6 ah;have aR:w6.cell? ⟨g,34,none⟩=some (.int .u64 0):=(v6.var.cell 34).trans (by simp[a0x,a0a,hd]);have aN:=v6.var.frozen 34;have v7:=v6.store G j F 34 (.int .u64 Q);rw[b9i hd]at v7
     generalize ar:w6.setCell ⟨g,34,none⟩ (.int .u64 Q)=w7 at v7
     have⟨V7,aA⟩:=η2 v7 ar;clear v7 ar v6 ah f6 r;go_upto_region 4 with fail
     rw[aA.o];clear aR aN;have m:=a5w p s l4 63 ρo (by have:l4.length<=400000000:=ao.o;omega) w7 V7.eye;obtain⟨V,s5,h5⟩:∃v st,a0o 63 (.ok l4)=(v,st):=⟨_,_,rfl⟩;have aa:=a0P 63 (.ok l4);have S:=a1b (most:=63) (st:=.ok l4) (n:=400000000) ao.o;rw[h5]at m S aa;rw[show((63:Nat):Int)=63 from rfl]at m;simp only at m S aa
     have p5:a4e l 5=([(D:Int),(E:Int),0,(Q:Int),(V:Int)],d,s5):=by
      rw[a2T,af.o];simp only[a8C];rw[if_neg ρo,show a8s 4=63 from rfl,h5]
      rfl
     have aV:=a1r aa ρo;have⟨aq,aT⟩:=η2 p5 S;clear p5 S h5;go_wp2_with fail;refine μ1 m ?_;rintro e w8 ⟨y,f8⟩
     cases s5 with
     |
      error x=>
      obtain rfl:=y;refine⟨rfl,?_,V7.fr.trans f8 (λ_ _ e=>e)⟩;rw[a7i (i:=5) (x:=x) (by rw[aq.o]) 1]
      rfl
     |
      ok l5=>
      obtain⟨rfl,ay⟩:=y;have v8:=V7.step G j f8 ay;have o:=a5w p s l5 1099511627776 ρo (by have:l5.length<=400000000:=aT.o;omega) w8 v8.eye;obtain⟨k6,s6,h6⟩:∃v st,a0o 1099511627776 (.ok l5)=(v,st):=⟨_,_,rfl⟩;have Y:=a0P 1099511627776 (.ok l5);rw[h6]at o Y;rw[show((1099511627776:Nat):Int)=1099511627776 from rfl]at o;simp only at o Y
      have p6:a4e l 6=([(D:Int),(E:Int),0,(Q:Int),(V:Int),(k6:Int)],d,s6):=by
       rw[a2T,aq.o];simp only[a8C];rw[if_neg ρo,show a8s 5=1099511627776 from rfl,h6]
       rfl
      have aY:=a1r Y ρo;have⟨V8,ag⟩:=η2 v8 p6;clear v8 p6 h6 ay f8 m;go_wp2_with fail;refine μ1 o ?_;rintro e w9 ⟨y,f9⟩
      cases s6 with
      |
       error x=>
       obtain rfl:=y;refine⟨rfl,?_,V8.fr.trans f9 (λ_ _ e=>e)⟩;rw[ag.o]
       rfl
      |
       ok l6=>
       obtain⟨rfl,ac⟩:=y;have v9:=V8.step G j f9 ac;have aQ:w9.cell? ⟨g,35,none⟩=some (.int .i64 0):=(v9.var.cell 35).trans (by simp[a0x,a0a,hd]);have aE:w9.cell? ⟨g,36,none⟩=some (.int .i64 0):=(v9.var.cell 36).trans (by simp[a0x,a0a,hd]);have aJ:=v9.var.frozen 35;have aL:=v9.var.frozen 36;have va:=(v9.store G j F 35 (.int .i64 V)).store G j F 36 (.int .i64 k6);rw[b9t hd,b1R hd]at va
       generalize au:(w9.setCell ⟨g,35,none⟩ (.int .i64 V)).setCell ⟨g,36,none⟩ (.int .i64 k6)=wa at va
       have H:(a0x ⟨(D:Int),(E:Int),d,(Q:Int),(V:Int),(k6:Int)⟩).length=37:=by simp[a0x,a0a,hd]
       have aD:=Pb b3q a8Q _ va.var H;have aH:=P7 a8Q va.var (ρy Qc H) (a0x ⟨(D:Int),(E:Int),d,(Q:Int),(V:Int),(k6:Int)⟩) H (a5h _);have vb:=va.row G j F (a0x ⟨(D:Int),(E:Int),d,(Q:Int),(V:Int),(k6:Int)⟩).toArray;have⟨xs,ab⟩:=η0 (a0x ⟨(D:Int),(E:Int),d,(Q:Int),(V:Int),(k6:Int)⟩);rw[ab]at aD aH vb H;have⟨aU,VB,aI,aF⟩:=η4 au vb H ab;clear au vb H ab v9 va ac f9 o;go_upto_region 5 with fail
       rw[aU.o];clear aQ aE aJ aL;go_wp2_with fail;obtain⟨dT,aG,aM⟩:=Q8.1 b3q;refine bodyPost_ret (a0c rfl _ _ g 34 xs dT rfl VB.var aG aM (ρy aI.o a8Q)) rfl ?_;rw[ag.o];exact⟨⟨by rw[<-aF.o];rfl,VB.eye⟩,VB.fr⟩
theorem b9H(p s a:Nat)(l:LI)(f:l.length<=400000000)(Z:AV)(g:Z.size=37)(w:WD)(h:a0S w p s l)(j:p<w.heap.size)(m:s<w.heap.size)(d:s≠a)(b:Blk w a 34 Z):Calls prog 199 #[.pointer p,.pointer a] w λe w'=>a6D p s (a4e l 6).2.2 e w'/\Fr (λk=>k=a\/k=p) w w'/\∀r,(a4e l 6).2.2=.ok r->Blk w' a 34 (a0x (a4c (a4e l 6))).toArray:=by
 have D:=c1A p s l f w h j m;have y:p≠a:=h.far b ρd
 have B:∀r,(a4e l 6).2.2=.ok r->(a0x (a4c (a4e l 6))).length=37:=λr W=>by
  obtain⟨A,c,O,_⟩:=h;exact a0u (b2V O.by_.bd)
 have⟨st,o⟩:=η0 ((a4e l 6).2.2);have⟨N,z⟩:=η0 (a0x (a4c (a4e l 6)));have F:∀v∈N,v.oneCell'=true:=by rw[<-z];exact a5h _
 rw[o,z]at D B⊢;have⟨HT,U⟩:=η2 b F;clear b F o z h;go_in;go_wp2_with fail;refine μ1 D ?_;rintro e Y ⟨O,K⟩;have E:=HT.fr K (λe=>y e.symm)
 cases st with
 |
  error x=>
  obtain rfl:=O;exact⟨rfl,rfl,K.mono (λ_ _ e=>.inr e),λr W=>by cases W⟩
 |
  ok r=>
  obtain⟨rfl,J⟩:=O;have Q:=B r rfl;have V:=P7 a8Q E g N Q U;have S:=ρr (a) Y N.toArray;have I:=E.row_ N.toArray;have H:=J.fr S (show¬_=_ from y) (show¬_=_ from d);have X:=(K.mono (G:=λk=>k=a\/k=p) (λ_ _ e=>.inr e)).trans S (λk hk e=>.inl e);have⟨T,R,F2⟩:=η3 I H X;clear I H X E S J K D B;go_wp2;go_end0;exact⟨⟨rfl,R.o⟩,F2.o,λ_ _=>T.o⟩
attribute [local go_sem ↓] a3j
theorem b4n(args:AV)(w:WD):(callFunc 199 args).run prog w=.ok (.enter 199 args) w:=ρk
theorem b2P(l:LI):∀i,StE (a4e l i).2.2
 | 0=>trivial
 |
  i+1=>by
  rw[a2T];unfold a8C
  split
  ·exact a5W (b2P l i)
  exact a1L (b2P l i)
def a6y(l:LI)(e:Ending):Prop:=
 match a9f l with
 | .error x=>e=.returned (.tuple #[.agg (a0x a4i).toArray,.int .i64 x])/\(x != 0)=true
 | .ok d=>e=.returned (.tuple #[.agg (a0x d).toArray,.int .i64 0])
theorem c3s(h:a8t (a4e l 6).2.2≠0):a9f l=.error (a8t (a4e l 6).2.2):=by
 unfold a9f
 cases hs:(a4e l 6).2.2 with
 | error x=>rfl
 |
  ok r=>
  rw[hs]at h;have a:r≠[]:=λe=>by simp[a8t,e]at h
  have:0<r.length:=Ym.2 a
  simp[a8t,a,this]
theorem b5R(A:OA)(c:Nat)(a:A=none->c=0)(l:LI)(d:l.length<=400000000)(w:WD)(b:Byt w A l):Calls prog 138 #[.slice A l.length c] w λe w'=>a6y l e/\Below w w w':=by
 have aI:∀(fn:Fn) (first cap:AV) (w:WD),(Instr.makeFunc fn first cap).run prog w=.ok (.func fn first cap) w:=λ_ _ _ _=>rfl
 have⟨f,N⟩:=η0 ((a0x a4i).toArray);have Q:f.size=37:=by rw[<-N,Qc,a0u a3T]
 have R:=c6C;simp only[N]at R;have aE:∀W:WD,(BDs 34 #[]).run prog W=.ok (.agg f) W:=by rw[<-N];exact c6p
 have⟨g,hg⟩:=ηs w;have b0:=Qd w 34 f;have B0:=ρb w (.cells f 34);have J:=R w;have⟨W,hW⟩:=η0 (w.alloc (.cells f 34));have an:W.heap.size=g+1:=by rw[<-hW,<-hg];simp
 rw[hW]at b0 B0 J;rw[hg]at b0 J;have b1:=Qd W 34 f;have Z:=b0.alloc (.cells f 34);have B1:=B0.alloc B0.size (.cells f 34);have O:=R W
 generalize hV:W.alloc (.cells f 34)=V at b1 Z B1 O
 rw[an]at b1 O;have ak:V.heap.size=g+2:=by rw[<-hV];simp;omega
 have ac:=a6Q 199 #[.pointer (g+1:Nat)] b4n A c a l d V (b.below B1) (λk=>k=g+1) (λk hk=>ρo) (a4e l 6).2.2
  (λ_ w3=>∀r,(a4e l 6).2.2=.ok r->Blk w3 (g+1) 34 (a0x (a4c (a4e l 6))).toArray)
  (λp s w2 hB hp hs aH az he=>b9H p s (g+1) l d f Q w2 he az ρo ρo (b1.fr (Q9 hB) ρo))
 have I:=b0L (b2P l 6);have ae:=c3s (l:=l);have⟨ev,aq⟩:=η0 (a8t (a4e l 6).2.2);rw[aq]at ac I ae;have⟨ar,aA,HG,aj,av,aD,Y,HY⟩:=η8 Z B1 hg ak I ae Q b;have T:=η1 N;clear Z B1 hg ak I ae Q b N b0 B0 b1 hW an hV R aq;go_in;go_upto_region 2 with fail
 clear J O;go_wp2_with fail;refine μ1 ac ?_;rintro e w1 ⟨rfl,f1,w2,w3,ai,aF,hK,f3⟩;have ax:=ar.fr f1 (show¬_=_ by omega);have ah:Below w w w1:=aA.trans (f1.below (B:=w.heap.size) (ρi aj.o HG.o) (λk hk e=>by have:=HG.o;omega));obtain⟨dT,aa,ab⟩:=Q8.1 b3q;have⟨HB,ad,aC,HK,aG⟩:=η5 ax ah f3 hK ai;clear ax ah f3 hK ai f1 ac
 by_cases D:ev=0
 ·have F:=av.1 D
  have S:=(HK.o _ F).fr aC.o (show¬_=_ by have:=aj.o;omega);have G:(a0x (a4c (a4e l 6))).length=37:=a0u (b2V HY.bd);have af:=Pb b3q a8Q _ S G;have al:w1.cell? ⟨g+1,0,none⟩=some (.int .i64 (a4c (a4e l 6)).kind):=S.cell 0;subst D
  by_cases y:(a4c (a4e l 6)).kind=0
  ·have m:a9f l=.error 3:=by
    unfold a9f;rw[F];exact if_pos (.inr y)
   rw[y]at al;have o:=P7 a8Q HB.o Y.o f.toList (ρw Y.o) (by rw[<-T.o];simpa using a5h a4i);rw[show f.toList.toArray=f by simp]at o;have x:=HB.row_ f;have j:=Ql (g:=g) ad.o (ρh HG.o) f;have⟨H,E,K⟩:=η3 m x j;clear m x j af S G F y;go_wp2;refine bodyPost_ret (v:=.tuple #[.agg f,.int .i64 3]) (a0k rfl _ _ g _ _ (0,0) E.o aa ab (ρy Y.o a8Q) rfl) rfl ?_;refine⟨?_,K.o⟩;unfold a6y;rw[H.o];exact⟨by rw[<-T.o],rfl⟩
  have m:a9f l=.ok (a4c (a4e l 6)):=by
   unfold a9f;rw[F];exact if_neg (by rintro(h | h);simp at h;exact y h)
  have au:((a4c (a4e l 6)).kind == 0)=false:=ρw y;have⟨kd,X⟩:=η0 ((a4c (a4e l 6)).kind);rw[X]at al au;have o:=P7 a8Q HB Y (a0x (a4c (a4e l 6))) G (a5h _);have⟨xs,U⟩:=η0 ((a0x (a4c (a4e l 6))).toArray);have ao:xs.size=37:=by rw[<-U,Qc,G]
  rw[U]at o af;have x:=HB.row_ xs;have j:=Ql (g:=g) ad.o (ρh HG.o) xs;have⟨H,E,K,aB,ay⟩:=η5 m x j ao U;clear m x j ao U S G F y X;go_wp2;refine bodyPost_ret (v:=.tuple #[.agg xs,.int .i64 0]) (a0k rfl _ _ g _ _ (0,0) E.o aa ab (ρy aB.o a8Q) rfl) rfl ?_;refine⟨?_,K.o⟩;unfold a6y;rw[H.o]
  show _=_
  rw[<-ay.o]
 have m:=aD.o D;have z:(ev != 0)=true:=ρw D;have o:=P7 a8Q HB.o Y.o f.toList (ρw Y.o) (by rw[<-T.o];simpa using a5h a4i);rw[show f.toList.toArray=f by simp]at o;have x:=HB.row_ f;have j:=Ql (g:=g) ad.o (ρh HG.o) f;have⟨H,E,K,ag⟩:=η4 m x j z;clear m x j z D;have z:=ag.o;go_wp2;refine bodyPost_ret (v:=.tuple #[.agg f,.int .i64 ev]) (a0k rfl _ _ g _ _ (0,0) E.o aa ab (ρy Y.o a8Q) rfl) rfl ?_;refine⟨?_,K.o⟩;unfold a6y;rw[H.o];exact⟨by rw[<-T.o],ag.o⟩
end
structure c7Z where
 kind:Int
 t:TxD
 certs:List a0y
 ow:LI
 am:Int
 ser:Int
 ep:Int
 id:LI
structure b8k where
 ser:Nat
 ow:LI
 am:Nat
 t:LI
 cs:LL
 ep:Nat
 id:LI
def zId:LI:=List.replicate 32 0
def a4D:b8k:=⟨0,zId,0,[],[],0,zId⟩
def zTx:TxD:=⟨[],[],0,0⟩
def a2u:Nat->St->LL×St
 | 0,s=>([],s)
 |
  j+1,s=>match a2u j s with
  | (L,.error x)=>(L,.error x)
  | (L,.ok l)=>(L++[(a0C 2048 (.ok l)).1],(a0C 2048 (.ok l)).2)
theorem a3G(s:St):a2u 0 s=([],s):=rfl
theorem a6F{s:St}(h:a2u j s=(L,.ok l)):a2u (j+1) s=(L++[(a0C 2048 (.ok l)).1],(a0C 2048 (.ok l)).2):=by
 rw[a2u,h]
theorem a3D{j:Nat}{s:St}{L:LL}{x:Int}(h:a2u j s=(L,.error x)):∀d,a2u (j+d) s=(L,.error x)
 | 0=>h
 | d+1=>by rw[<-ZT,a2u,a3D h d]
attribute [irreducible] a2u
theorem a7j(s:St):∀j,(a2u j s).1.length<=j
 | 0=>by rw[a3G];simp
 |
  j+1=>by
  have ih:=a7j s j
  cases hj:a2u j s with
  |
   mk L t=>
   rw[hj]at ih
   cases t with
   | error x=>rw[a3D hj 1];simp only at ih⊢;omega
   | ok l=>rw[a6F hj];simp only[Qa,ZB]at ih⊢;omega
theorem b0S{n:Nat}{s:St}(h:b5A n s):∀j,b5A n (a2u j s).2
 | 0=>by rw[a3G];exact h
 |
  j+1=>by
  have ih:=b0S h j
  cases hj:a2u j s with
  |
   mk L t=>
   rw[hj]at ih
   cases t with
   | error x=>rw[a3D hj 1];trivial
   | ok l=>rw[a6F hj];exact a3c ih
theorem b3V{s:St}(h:a9Q s):∀j,(∀d∈(a2u j s).1,d.length<=2048/\∀x∈d,0<=x/\x<=255)/\a9Q (a2u j s).2
 | 0=>by rw[a3G];exact⟨by simp,h⟩
 |
  j+1=>by
  have ih:=b3V h j
  cases hj:a2u j s with
  |
   mk L t=>
   rw[hj]at ih
   cases t with
   | error x=>rw[a3D hj 1];exact⟨ih.1,trivial⟩
   |
    ok l=>
    rw[a6F hj]
    have:=a4u (most:=2048) (s:=.ok l) ih.2
    refine⟨λi hi=>?_,this.1⟩
    rcases Qq.1 hi with h1 | h1
    ·exact ih.1 i h1
    rw[Qn.1 h1];exact⟨a3o 2048 _,this.2⟩
def a3H(k:Nat)(s:St):b8k×St:=
 if k=1 then
  (⟨(a0o 1099511627776 s).1,(idT (a0o 1099511627776 s).2).1,(a0o 4611686018427387904 (idT (a0o 1099511627776 s).2).2).1,[],[],0,zId⟩,(a0o 4611686018427387904 (idT (a0o 1099511627776 s).2).2).2)
 else if 2<=k/\k<=3 then({a4D with t:=(a0C 4096 s).1},(a0C 4096 s).2)
 else if 4<=k/\k<=6 then
  ({a4D with t:=(a0C 4096 s).1,cs:=(a2u (a0o 16 (a0C 4096 s).2).1 (a0o 16 (a0C 4096 s).2).2).1},(a2u (a0o 16 (a0C 4096 s).2).1 (a0o 16 (a0C 4096 s).2).2).2)
 else if k=7 then({a4D with ep:=(a0o 1099511627776 s).1},(a0o 1099511627776 s).2)
 else if k=9 then({a4D with id:=(idT s).1},(idT s).2)
 else(a4D,s)
def a1Z:LL->Except Int (List a0y)
 | []=>.ok []
 |
  x::r=>match a5s x with
  | .error e=>.error e
  |
   .ok c=>match a1Z r with
   | .error e=>.error e
   | .ok L=>.ok (c::L)
def okS:St->Bool
 | .ok _=>true
 | .error _=>false
def a2o(l:LI):Except Int c7Z:=
 if 8192<l.length then .error 4 else
 if okS (a0o 9 (.ok l)).2=true/\(a0o 9 (.ok l)).1=0 then .error 25 else
 match(a3H (a0o 9 (.ok l)).1 (a0o 9 (.ok l)).2).2 with
 | .error x=>.error x
 |
  .ok r=>
  if 0<r.length then .error 3 else
  if 2<=(a0o 9 (.ok l)).1/\(a0o 9 (.ok l)).1<=6 then
   match a5N (a3H (a0o 9 (.ok l)).1 (a0o 9 (.ok l)).2).1.t with
   | .error x=>.error x
   |
    .ok t=>match a1Z (a3H (a0o 9 (.ok l)).1 (a0o 9 (.ok l)).2).1.cs with
    | .error x=>.error x
    | .ok L=>.ok ⟨((a0o 9 (.ok l)).1:Int),t,L,zId,0,0,0,zId⟩
  else .ok ⟨((a0o 9 (.ok l)).1:Int),zTx,[],(a3H (a0o 9 (.ok l)).1 (a0o 9 (.ok l)).2).1.ow,((a3H (a0o 9 (.ok l)).1 (a0o 9 (.ok l)).2).1.am:Int),((a3H (a0o 9 (.ok l)).1 (a0o 9 (.ok l)).2).1.ser:Int),((a3H (a0o 9 (.ok l)).1 (a0o 9 (.ok l)).2).1.ep:Int),(a3H (a0o 9 (.ok l)).1 (a0o 9 (.ok l)).2).1.id⟩
section
def b6x(B:Nat)(w:WD)(v:VL)(L:LL):Prop:=a0T 31 32 B w v (L.map bys)
theorem b6x.formN{B:Nat}{w:WD}{v:VL}{L:LL}(h:b6x B w v L):∃A N c,v=.slice A N c/\N=L.length:=by
 obtain⟨A,N,c,e,a⟩:=a0T.formN h;exact⟨A,N,c,e,by simpa using a⟩
theorem b6x.lenN(h:b6x B w (.slice A N c) L):N=L.length:=by
 obtain⟨d,a,b,e,f⟩:=h.formN;simp only[Value.slice.injEq]at e;omega
theorem b3t(h:b6x B w v L)(a:Blk w g t cs)(ht:31≠t:=by decide):v.ownBlock≠some g:=a4l h.own a ht
theorem d2n(h:b6x B w (.slice A N c) L)(hd:Dig d)(a:L.length+1<=1000000)(b:B<=w.heap.size):∃ A' N' c' w',(APs #[35,35] ty #[.slice A N c,.slice w 1 1]).run prog (w.alloc (.cells (bys d).toArray 31))=.ok (.slice A' N' c') w'/\b6x B w' (.slice A' N' c') (L++[d])/\Below B w w'/\Fr (λk=>(Value.slice A N c).ownBlock=some k) w w':=by
 obtain⟨m,w',j,f,g,_⟩:=a5o (P:=prog) (ty:=ty) c5Q d2s ρo ρo h (bys d) (by rw[a0a,hd.1]) (a0h _) (by simp;omega) b;obtain⟨A',N',c',rfl,_⟩:=a0T.formN f;exact⟨A',N',c',w',j,by unfold b6x;simpa using f,a0T.step h g b,g⟩
section
attribute [local go_sem ↓] a9S a9T
theorem c3K(A:OA)(c:Nat)(seed:LI)(k:Nat)(w:WD)(f:1<=k)(m:k<=64)(b:seed.length<=64)(d:Byt w A seed)(a:a2x w):Calls prog 27 #[.slice A seed.length c,.int .i64 k] w λe w'=>∃p,e=.returned (.pointer (some ⟨p,0,none⟩))/\a5n w' p seed k/\w.heap.size<=p/\Below w w w':=by
 have b0:=Qd w 159 (#[.slice none 0 0]);have B0:=ρb w (.cells (#[.slice none 0 0]) 159)
 generalize hW:w.alloc (.cells (#[.slice none 0 0]) 159)=W at b0 B0
 have⟨g,hg⟩:=ηs w;rw[hg]at b0;have aa:g+1=W.heap.size:=by rw[<-hW,<-hg];simp
 have ar:¬((k:Int)<1):=ρo;have an:¬((64:Int)<(k:Int)):=ρo
 generalize hn:seed.length=n at b⊢
 have⟨HW,HG,HB,aj,af,ag,ai,HN⟩:=η8 hW hg B0 b0 d a aa hn;have HS:=η1 b;clear hW hg B0 b0 d a aa hn b;go_in;go_upto_region 5 with fail
 rw[HW.o,HG.o];go_loopg [6,16] k (λkk _ t wr=>∃(i:Nat) (V:OA) (Y:Nat),i+kk=k/\t=.int .i64 i/\Blk wr g 159 #[.slice V i Y]/\b6x W wr (.slice V i Y) ((List.range i).map λ(j:Nat)=>a4X seed (j:Int))/\Below w w wr);exact⟨0,none,0,by omega,rfl,aj.o,a0T.nil _ _ _ _,HB.o⟩;obtain⟨i,V,Y,hi,rfl,y,ho,E⟩:=hrel
 by_cases al:i<k
 ·have ac:(i:Int)<k:=ρo
  have ao:IntKind.u8.wrap (i:Int)=i:=by rw[IntKind.wrap_u8];omega
  have Z:=λX (hX:Below w w X)=>b6g A c seed (some ⟨X.heap.size,0,none⟩) 1 [(i:Int)] (X.alloc (.cells (bys [(i:Int)]).toArray 5)) (ρy HN.o HS.o) ((af.below hX).below (ρb X _)) ((Qd X _ _).byt (by simp;omega)) ρp ρp ((ag.below hX).below (ρb X _))
  rw[HN.o]at Z;have hD:Dig (a4X seed (i:Int)):=Dig.ring _ _;rw[show b0H seed [(i:Int)]=a4X seed (i:Int)from rfl]at Z;have⟨D,R⟩:=η0 (a4X seed (i:Int));rw[R]at Z hD;have U:=Z wr.drew E.drew;rw[show(bys [(i:Int)]).toArray=#[.int .u8 i]from rfl,show∀o,wr.drew.alloc o=(wr.alloc o).drew from λ_=>rfl,show wr.drew.heap.size=wr.heap.size from rfl,show([(i:Int)]).length=1 from rfl]at U;have bs:=λX=>Pd c5Q c1e ρo ρo X (.agg (bys D).toArray) (by simp[Value.cells,a0a,hD.1])
  have k0:∀X,Below wr.heap.size wr X->X.cell? ⟨g,0,none⟩=some (.slice V i Y):=λX hX=>(y.fr (Q9 hX) (ρh y.lt)).cell 0
  have⟨K0,BK,HO,BR,HD,ak⟩:=η6 k0 y ho E hD R;clear k0 y ho E hD R Z;go_upto_region 7 with fail
  refine a0s [(0,3),(1,3),(2,3),(3,3),(5,3),(6,3),(7,3),(4,0),(8,1),(9,1),(10,1),(11,2),(12,3),(13,3),(14,2)] (λW'=>W'.cell? ⟨g,0,none⟩=some (.slice V i Y)) ρk ρk ρk ρk (K0.o _ (Qf _ _).drew) ?_;refine ε7 ?_
  (with_reducible refine a0t (o:=?_) (v:=?_) (a':=?_) ρu ρu (λW' hS=>?_) ?_ ?_;rotate_left 2;(focus(skip;exact ρs));focus(exact ρs))
  refine κ ?_;intro K N;with_reducible refine N _ _ (K0.o _ (ρb _ _).drew) ?_;clear N K
  refine κ ?_;intro K N;refine μ1 U ?_;rintro e w9 ⟨rfl,ad⟩;have r:Below wr.heap.size wr w9:=(ρb wr _).drew.trans (ad.mono ρp);have T:b6x W w9 (.slice V i Y) _:=a0T.keep HO r;obtain⟨A',N',c',ah,aq,z,I,J⟩:=d2n (ty:=35) T HD.o (by simp;omega) (Qk (ρi BK.o.lt ai.o) r.size);have B:=φf BK r;have x:=B.fr J (λe=>b3t T B ρd e);obtain rfl:N'=i+1:=by have:=z.lenN;simpa using this
  have k2:=x.cell 0;have f2:=x.frozen 0;have H:=(φt BR r).trans (I.mono HB.size);have⟨O,Q,G,ab⟩:=η4 z r x H;clear z r x H ad T I J B U;with_reducible refine N _ _ (K0.o _ Q.o) ?_;clear N K
  refine κ ?_;intro K N;with_reducible refine N _ _ (K0.o _ (Q.o.alloc Q.o.size _)) ?_;clear N K
  refine τ1 ?_;refine ε2 ?_;refine τ1 ?_;refine ν ?_;go_wp2;go_roundg (k-(i+1))
  case measure=>omega
  have ae:∀j,(Value.slice A' (i+1) c').ownBlock=some j->¬j=g:=λj hj e=>b3t O.o G.o ρd (e ▸ hj)
  refine⟨i+1,A',c',by omega,by go_num,by simpa using G.set_ 0 (.slice A' (i+1) c'),?_,?_⟩
  ·have h:=a0T.fr O.o (F:=λj=>j=g) ((Qp (λj=>j=g) ah).setCell (p:=⟨g,0,none⟩) (λ_=>rfl) (.slice A' (i+1) c')) ae
   unfold b6x;rw[List.range_succ,QV,List.map_singleton,ak.o];exact h
  exact Fr.below ((Q9 ab.o).setCell (p:=⟨g,0,none⟩) (λh=>by have e:=HG.o;have h':g<w.heap.size:=h;omega) _) (Qg _) (λk hk e=>ρo)
 obtain rfl:i=k:=ρo;have ac:¬(i:Int)<i:=ρo;obtain⟨A',c',e,S,_⟩:=a0T.rd ho;simp only[Value.slice.injEq]at e;obtain⟨rfl,-,rfl⟩:=e;rw[List.map_map]at S;have⟨RD,BK,BR⟩:=η3 S y E;clear S y E ho;go_wp2;go_ret;exact⟨g,rfl,⟨_,_,BK.o,RD.o⟩,by rw[HG.o];exact Qg _,BR.o⟩
end
end
section
attribute [local go_sem ↓] a2t a2s a2n a6i
theorem c3W(d:LI)(hd:Dig d)(L:LL)(f:∀x∈L,Dig x)(A:OA)(c:Nat)(y:L.length<=c)(r:L.length<=1000000)(w:WD)(b:RdR 32 w A (L.map bys))(a:a2x w):Calls prog 312 #[.agg (bys d).toArray,.int .i64 1,.int .i64 3,.slice A L.length c] w λe w'=>e=.returned (.tuple #[.agg (bys (c13 d L).1).toArray,.bool (c13 d L).2])/\Below w w w':=by
 have aI:(bys d).length=32:=by rw[a0a,hd.1]
 obtain⟨Z,ba,ae,hz⟩:=P8 (t:=31) iId b1N;have b0:=Qd w 31 ((bys d).toArray);have B0:=ρb w (.cells ((bys d).toArray) 31)
 generalize hW:w.alloc (.cells ((bys d).toArray) 31)=W at b0 B0
 have⟨g,hg⟩:=ηs w;rw[hg]at b0;have b1:=Qd W 31 Z;have B1:Below w w (W.alloc (.cells Z 31)):=B0.alloc B0.size _
 generalize hV:W.alloc (.cells Z 31)=V at b1 B1
 have av:W.heap.size=g+1:=by first | exact hg | (rw[<-hW];simp[hg]) | (rw[<-hW];simp;omega)
 rw[av]at b1;have af:=b0.alloc (.cells Z 31);rw[hV]at af
 rcases Zq L.length with h0 | h0
 ·have E:=P9 iId b1 hz (bys (List.replicate 32 0)) (by simp[bys]) (a0h _)
  have b2:=b1.row_ (bys (List.replicate 32 0)).toArray;have B2:=Ql (g:=g+1) B1 ρo (bys (List.replicate 32 0)).toArray;have a0:=λW=>b1S W
  rw[show c13 d L=(List.replicate 32 0,false) by unfold c13;rw[if_pos h0]];rw[h0];have Y:(bys (List.replicate 32 0)).length=32:=by simp[bys]
  generalize ak:bys (List.replicate 32 0)=ys at E a0 b2 B2 Y⊢
  generalize aa:bys d=xs at hW⊢
  have⟨HW,HV,HG,ai,ac,aF⟩:=η6 hW hV hg b2 B2 Y;clear hW hV hg b2 B2 Y b0 B0 b1 B1 af ae hz av aa ak aI hd b a f y r;go_in;go_upto_region 1 with fail
  rw[HW.o,HV.o,HG.o];go_wp2;exact bodyPost_ret (a0Z rfl _ _ (g+1) 31 ys ai a2i (ρy aF.o iId) rfl (.bool false)) rfl ⟨rfl,ac.o⟩
 obtain⟨m,ay⟩:∃m,L.length=m+1:=⟨L.length-1,by omega⟩;obtain⟨gp,op,rfl,a1,ag⟩:=b m (by simp;omega)
 have az:Dig (L.getD m []):=by
  have:L.getD m []∈L:=by simp[List.getD,show m<L.length by omega]
  exact f _ this
 have⟨be,an⟩:=η0 (L.getD m []);rw[an]at az;have S:(bys be).length=32:=by rw[a0a,az.1]
 have aN:∀X,Below w w X->(LDs 31 (.pointer (some ⟨gp,op+m*32,none⟩))).run prog X=.ok (.agg (bys be).toArray) X:=λX N=>
  a2e a2i iId X gp (op+m*32) (bys be) S (λj v hv=>(N.cell (p:=⟨gp,op+m*32+j,none⟩) a1).trans (ag j v (by
   rw[QS,<-hv,<-an];simp[List.getD,show m<L.length by omega])))
 have aD:c13 d L=(a1n (c12 d (L.take m)).1 be,(c12 d (L.take m)).2):=by
  unfold c13;rw[if_neg ρo,ay,Nat.add_sub_cancel,an]
 rw[aD,ay];have cl:=λX (N:Below w w X)=>c5O d hd (L.take m) (λx hx=>f x (QM hx)) (some ⟨gp,op,none⟩) c (by rw[Qx];omega) (by rw[Qx];omega) X (by rw[List.map_take];exact(b.take m).below N) (a.below N)
 rw[Qx,ay,QY ρo]at cl;have aq:=Dig.c12 d (L.take m);obtain⟨⟨ce,R⟩,aQ⟩:∃p,c12 d (L.take m)=p:=⟨_,rfl⟩;rw[aQ]at aq cl⊢;simp only at aq cl⊢;have ad:(bys ce).length=32:=by rw[a0a,aq.1]
 have al:∀v∈bys ce,v.oneCell'=true:=a0h _;have⟨D,hD⟩:=η0 (a1n ce be);have aR:(bys D).length=32:=by rw[a0a,<-hD];exact(Dig.node _ _).1
 rw[hD];have bg:m+1<=c:=ρo;have bh:((m:Int)+1 == 0)=false:=by rw[beq_eq_false_iff_ne];omega
 have a8:(m:Int)<m+1:=ρo;have aA:=B1.drew;have⟨cs,aH⟩:=η0 (bys ce);rw[aH]at cl ad al;have⟨xs,aa⟩:=η0 (bys d);have Y:xs.length=32:=by rw[<-aa,aI]
 rw[aa]at hW b0 af cl⊢;have⟨ys,ak⟩:=η0 (bys be);have aC:(STs 31 (.pointer V) (.agg (bys be).toArray)).run prog (V.alloc (.cells Z 31)).drew=.ok () (V.alloc (.cells (bys be).toArray 31)).drew:=ae V.drew (bys be) S (a0h _);rw[ak]at aN S aC;have a9:(m:Int)+1<=(c:Int):=ρo;have bc:(0:Int)<=(m:Int):=ρo;have bk:(m:Int)<=1000000:=ρo;have⟨HW,HV,HG,a4,F,a7,aF,bb⟩:=η8 hW hV hg b1 B1 af Y aa;have⟨aZ,aX,HP,aW,aG,a2,a6,aS⟩:=η8 ak aN b a aA az hD aR;have⟨aY,a3,aE,ah⟩:=η4 aq aH al ad;clear hW hV hg b1 B1 af Y aa ak aN b a aA az hD aR aq aH al ad aQ b0 B0 av aI f r ay ag aD h0;go_in;go_upto_region 1 with fail
 rw[HW.o,HV.o,HG.o];go_upto_region 6 with fail
 have⟨S0,O⟩:=η0 ((λX=>(LDs 31 (.pointer (some ⟨gp,op+m*32,none⟩))).run prog X=.ok (.agg ys.toArray) X):WD->Prop);have ao:∀X,Below w w X->S0 X:=λX N=>by rw[<-O];exact aX.o X N
 have⟨ax,B⟩:=η2 O ao;clear O ao;with_reducible refine a4F (λi=>i != 7) S0 ρk ?_
 refine a2b (m:=4) (Lf:=#[true,true,true,true,true,false,false,false,false]) [(0,3),(1,3),(2,3),(4,3),(3,0)] true ρk ρk ρk (λ_=>B.o _ aG.o) ?_;refine εc4 ?_
 (with_reducible refine a3M (o:=?_) (v:=?_) (a':=?_) ρu ρu (λW' hS=>?_) ?_ ?_;rotate_left 2;(focus(rw[<-ax.o]at hS;exact ρs));focus(exact ρs))
 with_reducible refine a2m ?_
 refine a3O (i:=5) (j:=6) ρk ?_ ?_
 focus
  with_reducible refine a2k (J:=(λi=>i != 7)) (oi:=?_) ρu ρu (λK H=>?_)
  refine ψ ?_;go_simp;have aj:=b3L V.drew;refine μf aj ?_;clear aj;with_reducible refine H _ _ (B.o _ aG.o) ?_;clear H K
  refine a1c [(6,1),(7,2),(8,3)] true ρk ρk ρk (λ_=>B.o _ aG.o) ?_;refine κ ?_;intro K H;with_reducible refine H _ _ (B.o _ (F.o.alloc F.o.size _).drew) ?_;clear H K
  refine τ1 ?_;refine ε1 ?_;refine ν ?_
 rotate_left
 focus
  with_reducible refine a2k (J:=(λi=>i != 7)) (oi:=?_) ρu ρu (λK H=>?_)
  refine ψ ?_;go_simp;with_reducible refine H _ _ (B.o _ (F.o.alloc F.o.size _).drew) ?_;clear H K
  refine a1c [(5,1),(7,2),(8,3)] true ρk ρk ρk (λ_=>B.o _ (F.alloc F.size _).drew) ?_;refine κ ?_;intro K H;have aj:=b3L (V.alloc (.cells Z 31)).drew;refine μf aj ?_;clear aj;with_reducible refine H _ _ (B.o _ (F.o.alloc F.o.size _).drew) ?_;clear H K
  refine τ1 ?_;refine ε1 ?_;refine ν ?_
 all_goals
  clear aC B ax S0;have b2:=(Qd V 31 ys.toArray).drew;have B2:=(F.alloc F.size (.cells ys.toArray 31)).drew;have ar:=(a7.alloc (.cells ys.toArray 31)).drew;have aL:=(a4.alloc (.cells ys.toArray 31)).drew;have⟨h,hh⟩:=ηs V
  generalize hU:(V.alloc (.cells ys.toArray 31)).drew=U at b2 B2 ar aL⊢
  rw[hh]at b2⊢;have aO:=λX (N:Below U U X)=>P4 a2i iId xs (ar.fr (Q9 N) (ρh ar.lt)) aF.o
  have⟨S0,O⟩:=η0 ((λX=>(LDs 31 (.pointer g)).run prog X=.ok (.agg xs.toArray) X):WD->Prop);have ao:∀X,Below U U X->S0 X:=λX N=>by rw[<-O];exact aO X N
  have bi:(m:Int)<=(c:Int):=ρo;have aK:=cl U.drew B2.drew;have aJ:=cl (U.alloc (.cells Z 31)).drew (B2.alloc B2.size _).drew;have aP:=(Qd U 31 Z).drew;have⟨ai,ac,bl,aM,ax,B,a5⟩:=η7 b2 B2 ar aL O ao aP;clear b2 B2 ar aL O ao aP hh hU aO cl;go_upto_region 8 with fail
  with_reducible refine a4F (λi=>i != 6&&i != 11) S0 ρk ?_
  refine a2b (m:=7) (Lf:=#[true,true,true,true,true,true,false,false,false,false,false,false,false]) [(1,3),(2,3),(3,3),(4,3),(5,3),(0,0)] true ρk ρk ρk (λ_=>B.o _ (Qf _ _).drew) ?_;refine εc4 ?_;refine εc1 ?_
  (with_reducible refine a3M (o:=?_) (v:=?_) (a':=?_) ρu ρu (λW' hS=>?_) ?_ ?_;rotate_left 2;(focus(rw[<-ax.o]at hS;exact ρs));focus(exact ρs))
  with_reducible refine a2m ?_
  refine a3O (i:=6) (j:=10) ρk ?_ ?_
  focus
   with_reducible refine b2d (J:=(λi=>i != 6&&i != 11)) (oi:=?_) ρu ρu ρd (λK H=>?_)
   refine ψ ?_;go_simp;refine μi aK ?_;intro I G;have E:=ae I cs ah aE;have z:Below U U I:=(Qf _ U).drew.trans G;have q1:=Qd I 31 cs.toArray;have q2:=(φf ai z).alloc (.cells cs.toArray 31);have q3:=(φf aM z).alloc (.cells cs.toArray 31);have q4:=(φt ac z).alloc (φt ac z).size (.cells cs.toArray 31);have T:=z.alloc z.size (.cells Z 31);have⟨X,N⟩:=η0 (I.alloc (.cells cs.toArray 31));have⟨hx,ab⟩:=ηs I;rw[N]at q1 q2 q3 q4 E;rw[ab]at q1 E;have⟨Q1,Q2,Q3,Q4,aU,aB⟩:=η6 q1 q2 q3 q4 ab T;clear q1 q2 q3 q4 ab T G z aK aJ N;with_reducible refine H _ _ ?_;clear H K
   refine a1c [(7,3),(8,3),(9,3),(10,1),(11,2),(12,3)] false ρk ρk ρk ρp ?_;refine ε3 ?_;refine κ1 (B.o _ aB.o) ?_;rw[aU.o];refine τ1 ?_;refine ε1 ?_;refine ν ?_;clear E aB aU
  rotate_left
  focus
   with_reducible refine a2k (J:=(λi=>i != 6&&i != 11)) (oi:=?_) ρu ρu (λK H=>?_)
   refine ψ ?_;go_simp;with_reducible refine H _ _ (B.o _ (ρb U _).drew) ?_;clear H K
   refine a1c [(6,2),(7,3),(8,3),(9,3),(11,2),(12,3)] true ρk ρk ρk (λ_=>B.o _ (ρb U _).drew) ?_;refine τ ?_;intro K H;refine μi aJ ?_;intro I G;have z:Below U U I:=(ρb U _).drew.trans (G.mono ρp);have T:=φf a5 G;have E:=P9 iId T hz cs ah aE;have aV:=φt ac z;have aT:w.heap.size<=U.heap.size:=ac.size;have q1:=T.row_ cs.toArray;have q2:=(φf ai z).rowFar (g':=U.heap.size) (ρh ai.o.lt) cs.toArray;have q3:=(φf aM z).rowFar (g':=U.heap.size) (ρh aM.o.lt) cs.toArray;have q4:=Ql (g:=U.heap.size) aV aT cs.toArray;have⟨X,N⟩:=η0 (I.setRow U.heap.size cs.toArray);have⟨hx,ab⟩:=ηs U;rw[N]at q1 q2 q3 q4 E;rw[ab]at q1 E⊢;have⟨Q1,Q2,Q3,Q4⟩:=η4 q1 q2 q3 q4;clear q1 q2 q3 q4 G z aK aJ N ab aV aT T;with_reducible refine H _ _ ?_;clear H K
   refine ε3 ?_;refine τ1 ?_;refine ε1 ?_;refine ν ?_;clear E
  all_goals
   have bj:=P4 a2i iId ys Q2 S;have bf:=P4 a2i iId cs Q1 ah;have Q:=b3b ce be aY a2 X (aW.below Q4);rw[a6.o,a3.o,aZ.o]at Q;go_wp2_with fail;refine μi Q ?_;intro bm au;have q5:=φf Q3 au;have E:=P9 iId q5 hz (bys D) aS.o (a0h _);have q6:=q5.row_ (bys D).toArray;have q7:=Ql (g:=g+1) (φt Q4 au) (ρh HG.o) (bys D).toArray;have⟨Q6,Q7⟩:=η2 q6 q7;clear q6 q7 au q5 Q;go_wp2;exact bodyPost_ret (a0Z rfl _ _ (g+1) 31 (bys D) Q6.o a2i (ρy aS.o iId) rfl (.bool R)) rfl ⟨rfl,Q7.o⟩
def a6t(e:LI)(L:LL):LI×Bool:=if(c13 (a0R e) L).2=true then((c13 (a0R e) L).1,true)else(List.replicate 32 0,false)
theorem Dig.climb(e:LI)(L:LL):Dig (a6t e L).1:=by
 unfold a6t
 split
 ·exact Dig.c13 _ _
 exact ZZ
theorem c9k(d:LI)(L:LL):(c13 d L).2=decide (L.length=2)/\(L.length=2->(c13 d L).1=a1n (a1n (L.getD 0 []) d) (L.getD 1 [])):=by
 match L with
 | []=>exact⟨rfl,λh=>by cases h⟩
 | [a]=>exact⟨by simp[c13,c12],λh=>by cases h⟩
 | [a,b]=>exact⟨by simp[c13,c12],λ_=>by simp[c13,c12]⟩
 | a::b::x::L=>exact⟨by simp[c13,c12],λh=>by simp at h⟩
theorem c2v(e:LI)(L:LL)(root:LI):((a6t e L).2&&decide ((a6t e L).1=root))=(decide (L.length=2)&&decide (a1n (a1n (L.getD 0 []) (a0R e)) (L.getD 1 [])=root)):=by
 obtain⟨a,b⟩:=c9k (a0R e) L
 by_cases h:L.length=2
 ·rw[show a6t e L=((c13 (a0R e) L).1,true) by unfold a6t;rw[if_pos (by rw[a];simpa using h)]]
  simp only[b h,h,decide_true]
 rw[show a6t e L=(List.replicate 32 0,false) by unfold a6t;rw[if_neg (by rw[a];simpa using h)]];simp[h]
theorem c2d(d:OA)(f:Nat)(b:d=none->f=0)(e:LI)(j:e.length<=400000000)(L:LL)(o:∀x∈L,Dig x)(A:OA)(c:Nat)(r:L.length<=c)(y:L.length<=1000000)(w:WD)(z:Byt w d e)(B:RdR 32 w A (L.map bys))(a:a2x w):Calls prog 293 #[.slice d e.length f,.int .i64 1,.int .i64 3,.slice A L.length c] w λx w'=>x=.returned (.tuple #[.agg (bys (a6t e L).1).toArray,.bool (a6t e L).2])/\Below w w w':=by
 obtain⟨Z,al,I,hz⟩:=P8 (t:=31) iId b1N;have b0:=Qd w 31 Z;have Q:=ρb w (.cells Z 31)
 generalize hW:w.alloc (.cells Z 31)=W at b0 Q
 have⟨g,hg⟩:=ηs w;rw[hg]at b0;have G:=b7d d f b e W (z.below Q) j (a.below Q);have F:=λX (hX:Below W.heap.size W X)=>c3W (a0R e) (Dig.leaf e) L o A c r y X ((B.below Q).below hX) ((a.below Q).below hX)
 have K:=Dig.c13 (a0R e) L;have T:a6t e L=(if(c13 (a0R e) L).2=true then((c13 (a0R e) L).1,true)else(List.replicate 32 0,false)):=rfl;rw[T];have⟨n,hn⟩:=η0 e.length;have⟨m,aa⟩:=η0 L.length;rw[hn]at G⊢;rw[aa]at F⊢
 generalize af:a0R e=lf at G F K⊢
 obtain⟨⟨D,R⟩,Y⟩:∃p,c13 lf L=p:=⟨_,rfl⟩;rw[Y]at F K⊢;simp only at F K⊢;have S:(bys D).length=32:=by rw[a0a,K.1]
 cases R with
 |
  true=>
  rw[if_pos rfl];have⟨HW,HG,HB,ab,J,ad⟩:=η6 hW hg Q b0 S F;clear hW hg Q b0 S F K T Y af hn aa r y j z B a o b;go_in;go_upto_region 3 with fail
  rw[HW.o,HG.o];go_wp2_with fail;refine μi G ?_;intro w1 H;have F:=ad.o w1 H;have ac:=η1 H;clear H G;go_wp2_with fail;refine μi F ?_;intro w2 O;have E:=φt ac O;have q1:=(Qd w2 31 (bys D).toArray);have q0:=(φf ab E).alloc (.cells (bys D).toArray 31);have q2:=(φt HB E).alloc (φt HB E).size (.cells (bys D).toArray 31);have N:=I w2 (bys D) J.o (a0h _)
  generalize hX:w2.alloc (.cells (bys D).toArray 31)=X at q1 q0 q2 N
  have ak:=P4 a2i iId (bys D) q1 J;have ag:=P9 iId q0 hz (bys D) J.o (a0h _);have q3:=q0.row_ (bys D).toArray;have q4:=Ql (g:=g) q2 (ρh HG.o) (bys D).toArray;have⟨Q3,Q4⟩:=η2 q3 q4;clear q3 q4 O E q1 q0 q2 hX F I;go_wp2;exact bodyPost_ret (a0Z rfl _ _ g 31 (bys D) Q3.o a2i (ρy J.o iId) rfl (.bool true)) rfl ⟨rfl,Q4.o⟩
 |
  false=>
  rw[if_neg ρp];have aj:=λW=>b1S W
  have V:(bys (List.replicate 32 0)).length=32:=by simp[bys]
  have U:∀v∈bys (List.replicate 32 0),v.oneCell'=true:=a0h _
  generalize ai:bys (List.replicate 32 0)=ys at aj V U⊢
  have⟨HW,HG,HB,ab,J,ad,ae,ah⟩:=η8 hW hg Q b0 S F V U;clear hW hg Q b0 S F V U K T Y af hn aa r y j z B a o b ai;go_in;go_upto_region 3 with fail
  rw[HW.o,HG.o];go_wp2_with fail;refine μi G ?_;intro w1 H;have F:=ad.o w1 H;have ac:=η1 H;clear H G;go_wp2_with fail;refine μi F ?_;intro w2 O;have E:=φt ac O;have q0:=(φf ab E).alloc (.cells (bys D).toArray 31);have q2:=(φt HB E).alloc (φt HB E).size (.cells (bys D).toArray 31);have N:=I w2 (bys D) J.o (a0h _)
  generalize hX:w2.alloc (.cells (bys D).toArray 31)=X at q0 q2 N
  have ag:=P9 iId q0 hz ys ae ah;have q3:=q0.row_ ys.toArray;have q4:=Ql (g:=g) q2 (ρh HG.o) ys.toArray;have⟨Q3,Q4⟩:=η2 q3 q4;clear q3 q4 O E q0 q2 hX F I;go_wp2;exact bodyPost_ret (a0Z rfl _ _ g 31 ys Q3 a2i (ρy ae.o iId) rfl (.bool false)) rfl ⟨rfl,Q4.o⟩
end
section
attribute [local go_sem ↓] a1l b8t b2v a2t a2s a2n
theorem b4y(l:LI):∀i,StE (a2l l i).2
 | 0=>trivial
 |
  i+1=>by
  rw[a3N];have h:=b4y l i
  rcases i with _ | _ | _ | _ | i
  ·exact a1L h
  ·exact a1L h
  ·exact a1L h
  ·exact a5W h
  exact a5W h
def a2S(l:LI):St:=
 match(a2l l 5).2 with
 | .error x=>.error x
 | .ok r=>if r=[]/\(a2l l 5).1.ht=0 then .error 3 else .ok r
theorem a5B(hi:i<=5)(h:(a2l l i).2=.error x):a2S l=.error x:=by
 have:=b4r h (5-i)
 rw[show i+(5-i)=5 by omega]at this;unfold a2S;rw[this]
theorem b8B(l:LI):StE (a2S l):=by
 have h:=b4y l 5;unfold a2S
 revert h
 cases(a2l l 5).2 with
 | error x=>exact id
 |
  ok r=>
  intro _;simp only
  split
  ·simp[StE]
  trivial
theorem c0c(h:a2S l=.ok r):(a2l l 5).2=.ok r/\¬(r=[]/\(a2l l 5).1.ht=0):=by
 unfold a2S at h
 revert h
 cases(a2l l 5).2 with
 | error x=>intro h;cases h
 |
  ok q=>
  intro h;simp only at h
  split at h
  ·cases h
  rename_i hn
  cases h
  exact⟨rfl,hn⟩
theorem c2R(p s:Nat)(l:LI)(b:l.length<=400000000)(w:WD)(h:a0S w p s l)(d:p<w.heap.size)(f:s<w.heap.size):Calls prog 124 #[.pointer p] w λe w'=>b5o p s (a2S l) (.agg (a0b (a2l l 5).1).toArray) e w'/\Fr (λk=>k=p) w w':=by
 have⟨g,hg⟩:=ηs w;have U:=a6H w;have v0:=a4N.start (t:=37) (cs:=(a0b a1y).toArray) h d f
 generalize hW:w.alloc (.cells (a0b a1y).toArray 37)=W at v0 U
 rw[hg]at v0 U;have m:p<g:=ρo;have O:s<g:=ρo;have B:=a5w p s l 63 ρo (by have:l.length<=400000000:=b;omega) W v0.eye;obtain⟨y,s1,h1⟩:∃v st,a0o 63 (.ok l)=(v,st):=⟨_,_,rfl⟩;have an:=a0P 63 (.ok l);have ae:=a1b (most:=63) (st:=.ok l) (n:=400000000) b;rw[h1]at B an ae;rw[show((63:Nat):Int)=63 from rfl]at B;simp only at B an ae
 have p1:a2l l 1=(⟨(y:Int),0,0,List.replicate 32 0,List.replicate 32 0⟩,s1):=by
  rw[a3N];simp only[b1E,a2l,a1y,h1]
 have aQ:=a1r an ρo;have⟨HW,T,V0,aO,aJ⟩:=η5 hW hg v0 p1 ae;clear hW hg v0 p1 ae h h1;go_in;go_upto_region 1 with fail
 clear U;go_wp2_with fail;refine μ1 B ?_;rintro e w1 ⟨G,f1⟩
 cases s1 with
 |
  error x=>
  obtain rfl:=G;refine⟨rfl,?_,V0.fr.trans f1 (λ_ _ e=>e)⟩;rw[a5B (i:=1) (x:=x) ρo (by rw[aO.o])]
  rfl
 |
  ok l1=>
  obtain⟨rfl,av⟩:=G;have v1:=V0.step T m f1 av;have D:=a5w p s l1 1099511627776 ρo (by have:l1.length<=400000000:=aJ.o;omega) w1 v1.eye;obtain⟨o,s2,h2⟩:∃v st,a0o 1099511627776 (.ok l1)=(v,st):=⟨_,_,rfl⟩;have Y:=a0P 1099511627776 (.ok l1);have Z:=a1b (most:=1099511627776) (st:=.ok l1) (n:=400000000) aJ.o;rw[h2]at D Y Z;rw[show((1099511627776:Nat):Int)=1099511627776 from rfl]at D;simp only at D Y Z
  have p2:a2l l 2=(⟨(y:Int),(o:Int),0,List.replicate 32 0,List.replicate 32 0⟩,s2):=by
   rw[a3N,aO.o];simp only[b1E,h2]
  have aU:=a1r Y ρo;have⟨V1,ax,aE⟩:=η3 v1 p2 Z;clear v1 p2 Z h2 av f1 B;go_wp2_with fail;refine μ1 D ?_;rintro e w2 ⟨G,f2⟩
  cases s2 with
  |
   error x=>
   obtain rfl:=G;refine⟨rfl,?_,V1.fr.trans f2 (λ_ _ e=>e)⟩;rw[a5B (i:=2) (x:=x) ρo (by rw[ax.o])]
   rfl
  |
   ok l2=>
   obtain⟨rfl,aP⟩:=G;have v2:=V1.step T m f2 aP;have z:=a5w p s l2 1099511627776 ρo (by have:l2.length<=400000000:=aE.o;omega) w2 v2.eye;obtain⟨F,s3,h3⟩:∃v st,a0o 1099511627776 (.ok l2)=(v,st):=⟨_,_,rfl⟩;have al:=a0P 1099511627776 (.ok l2);have aa:=a1b (most:=1099511627776) (st:=.ok l2) (n:=400000000) aE.o;rw[h3]at z al aa;rw[show((1099511627776:Nat):Int)=1099511627776 from rfl]at z;simp only at z al aa
   have p3:a2l l 3=(⟨(y:Int),(o:Int),(F:Int),List.replicate 32 0,List.replicate 32 0⟩,s3):=by
    rw[a3N,ax.o];simp only[b1E,h3]
   have aV:=a1r al ρo;have⟨V2,az,aI⟩:=η3 v2 p3 aa;clear v2 p3 aa h3 aP f2 D;go_wp2_with fail;refine μ1 z ?_;rintro e w3 ⟨G,f3⟩
   cases s3 with
   |
    error x=>
    obtain rfl:=G;refine⟨rfl,?_,V2.fr.trans f3 (λ_ _ e=>e)⟩;rw[a5B (i:=3) (x:=x) ρo (by rw[az.o])]
    rfl
   |
    ok l3=>
    obtain⟨rfl,aC⟩:=G;have v3:=V2.step T m f3 aC;have c0:w3.cell? ⟨g,0,none⟩=some (.int .i64 0):=v3.var.cell 0;have c1:w3.cell? ⟨g,1,none⟩=some (.int .i64 0):=v3.var.cell 1;have c2:w3.cell? ⟨g,2,none⟩=some (.int .i64 0):=v3.var.cell 2;have z0:=v3.var.frozen 0;have z1:=v3.var.frozen 1;have z2:=v3.var.frozen 2;have v4:=((v3.store T m O 0 (.int .i64 y)).store T m O 1 (.int .i64 o)).store T m O 2 (.int .i64 F);rw[b2a,b1Q,b9l]at v4;replace v4:a4N 37 g p s w _ (a0b ⟨(y:Int),(o:Int),(F:Int),List.replicate 32 0,List.replicate 32 0⟩).toArray l3:=v4
    generalize aq:((w3.setCell ⟨g,0,none⟩ (.int .i64 y)).setCell ⟨g,1,none⟩ (.int .i64 o)).setCell ⟨g,2,none⟩ (.int .i64 F)=w4 at v4
    have⟨V4,aS⟩:=η2 v4 aq;clear v4 aq v3 aC f3 z;go_upto_region 2 with fail
    rw[aS.o];clear c0 c1 c2 z0 z1 z2 aQ aU aV;have N:=c4T p s l3 (by have:l3.length<=400000000:=aI.o;omega) w4 V4.eye (ρh V4.o.var.lt) (ρh V4.o.var.lt);obtain⟨Q,s4,h4⟩:∃v st,idT (.ok l3)=(v,st):=⟨_,_,rfl⟩;have H:=a1R (.ok l3);have ad:=a3U (st:=.ok l3) (n:=400000000) aI.o;rw[h4]at N H ad;simp only at N H ad
    have p4:a2l l 4=(⟨(y:Int),(o:Int),(F:Int),Q,List.replicate 32 0⟩,s4):=by
     rw[a3N,az.o];simp only[b1E,h4]
    have⟨aA,aK⟩:=η2 p4 ad;clear p4 ad h4;go_wp2_with fail;refine μ1 N ?_;rintro e w5 ⟨G,f5⟩
    cases s4 with
    |
     error x=>
     obtain rfl:=G;refine⟨rfl,?_,V4.fr.trans f5 (λ_ _ e=>e)⟩;rw[a5B (i:=4) (x:=x) ρo (by rw[aA.o])]
     rfl
    |
     ok l4=>
     obtain⟨rfl,aM⟩:=G;have v5:=V4.step T m f5 aM;have I:=c4T p s l4 (by have:l4.length<=400000000:=aK.o;omega) w5 v5.eye (ρh v5.var.lt) (ρh v5.var.lt);obtain⟨d5,s5,h5⟩:∃v st,idT (.ok l4)=(v,st):=⟨_,_,rfl⟩;have S:=a1R (.ok l4);have ac:=a3U (st:=.ok l4) (n:=400000000) aK.o;rw[h5]at I S ac;simp only at I S ac
     have p5:a2l l 5=(⟨(y:Int),(o:Int),(F:Int),Q,d5⟩,s5):=by
      rw[a3N,aA.o];simp only[b1E,h5]
     generalize af:(bys Q).toArray=tv4
     have⟨V5,ab,a0,aF⟩:=η4 v5 p5 ac af;clear v5 p5 ac af h5 aM f5 N;go_wp2_with fail;refine μ1 I ?_;rintro e w6 ⟨G,f6⟩
     cases s5 with
     |
      error x=>
      obtain rfl:=G;refine⟨rfl,?_,V5.fr.trans f6 (λ_ _ e=>e)⟩;rw[a5B (i:=5) (x:=x) ρo (by rw[ab.o])]
      rfl
     |
      ok l5=>
      obtain⟨rfl,aD⟩:=G;have v6:=V5.step T m f6 aD;have aj:(List.replicate 32 (0:Int)).length=32:=List.length_replicate;have K:=Pa a5m v6.var (off:=3) (bys Q) (ρy a0a H) (by rw[Qc];simp[a0b,a0a]) (a0h _);rw[b3S (h:=⟨(y:Int),(o:Int),(F:Int),List.replicate 32 0,List.replicate 32 0⟩) aj aj H,aF.o]at K;have v7:=v6.row T m O (a0b ⟨(y:Int),(o:Int),(F:Int),Q,List.replicate 32 0⟩).toArray
      generalize aN:w6.setRow g (a0b ⟨(y:Int),(o:Int),(F:Int),Q,List.replicate 32 0⟩).toArray=w7 at v7
      replace K:=K.trans (show _=Result.ok () w7 by rw[<-aN]);have E:=Pa a5m v7.var (off:=35) (bys d5) (ρy a0a S) (by rw[Qc];simp[a0b,a0a,H]) (a0h _);rw[b8T (h:=⟨(y:Int),(o:Int),(F:Int),Q,List.replicate 32 0⟩) H aj S]at E;have v8:=v7.row T m O (a0b ⟨(y:Int),(o:Int),(F:Int),Q,d5⟩).toArray
      generalize aG:w7.setRow g (a0b ⟨(y:Int),(o:Int),(F:Int),Q,d5⟩).toArray=w8 at v8
      replace E:=E.trans (show _=Result.ok () w8 by rw[<-aG]);have au:=λ(G:a0S w8 p s l5)=>G.choose_spec.choose_spec.1
      have j:=b5v p _ _ l5 w8 (au v8.eye);have aZ:w8.cell? ⟨g,1,none⟩=some (.int .i64 o):=v8.var.cell 1;have R:(a0b ⟨(y:Int),(o:Int),(F:Int),Q,d5⟩).length=67:=by simp[a0b,a0a,H,S]
      have aR:=Pb a1S a1h _ v8.var R;have ag:=P7 a1h v8.var (ρy Qc R) (a0b ⟨(y:Int),(o:Int),(F:Int),Q,d5⟩) R (a1p _);have v9:=v8.row T m O (a0b ⟨(y:Int),(o:Int),(F:Int),Q,d5⟩).toArray;have⟨xs,ao⟩:=η0 (a0b ⟨(y:Int),(o:Int),(F:Int),Q,d5⟩);have⟨aX,ah⟩:=η0 ((bys d5).toArray);rw[ao]at aR ag v9 R;rw[ah]at E⊢
      generalize ar:w8.setRow g xs.toArray=w9 at ag v9
      have⟨V8,V9,aB,aT,aW⟩:=η5 v8 v9 R ao ar;clear v8 v9 R ao ar v6 v7 aD f6 I au aN aG ah;go_upto_region 3 with fail
      clear K E
      by_cases hz:l5=[]/\o=0
      ·obtain⟨rfl,rfl⟩:=hz
       replace j:Calls prog 114 #[.pointer p] w8 λe w'=>e=.returned (.int .i64 0)/\w'=w8:=j
       go_wp2_with fail;refine μi j ?_;intro aL X;rw[X];clear X j;go_wp2_with fail;refine(a5J _ 3 rfl w8).mono ?_;rintro e w' ⟨rfl,X⟩;rw[X];refine⟨rfl,?_,V8.fr⟩;unfold a2S;rw[ab.o]
       rfl
      have hk:(l5.length == 0&&o == 0)=false:=by
       cases l5 with
       | nil=>simpa using hz
       | cons a r=>simp
      have ak:a2S l=.ok l5:=by
       unfold a2S;rw[ab.o];exact if_neg (ρw hz)
      have J:b5o p s (a2S l) (.agg (a0b (a2l l 5).1).toArray) (.returned (.agg xs.toArray)) w9:=by
       rw[ak,ab.o];exact⟨by rw[<-aT.o],V9.eye⟩
      obtain⟨dT,ay,aH⟩:=Q8.1 a1S
      by_cases ai:l5=[]
      ·subst ai
       have Y:((o:Int) == 0)=false:=by simp at hk;simpa using hk
       replace j:Calls prog 114 #[.pointer p] w8 λe w'=>e=.returned (.int .i64 0)/\w'=w8:=j
       have V:=η1 J;clear J ak hz hk;go_wp2_with fail;refine μi j ?_;intro aL X;rw[X];clear X j;go_wp2;refine bodyPost_ret (a0c rfl _ _ g 37 xs dT rfl V9.var ay aH (ρy aB.o a1h)) rfl ?_;exact⟨V,V9.fr⟩
      have⟨n,hn⟩:=η0 l5.length
      have aY:((n:Int) == 0)=false:=by
       have:n≠0:=by rw[<-hn];simpa using ai
       simpa using this
      rw[hn]at j;have V:=η1 J;clear J ak hz hk ai hn;go_wp2_with fail;refine μi j ?_;intro aL X;rw[X];clear X j;go_wp2;refine bodyPost_ret (a0c rfl _ _ g 37 xs dT rfl V9.var ay aH (ρy aB.o a1h)) rfl ?_;exact⟨V,V9.fr⟩
theorem b8Z(p s a:Nat)(l:LI)(f:l.length<=400000000)(Z:AV)(g:Z.size=67)(w:WD)(h:a0S w p s l)(j:p<w.heap.size)(m:s<w.heap.size)(d:s≠a)(b:Blk w a 37 Z):Calls prog 123 #[.pointer p,.pointer a] w λe w'=>a6D p s (a2S l) e w'/\Fr (λk=>k=a\/k=p) w w'/\∀r,a2S l=.ok r->Blk w' a 37 (a0b (a2l l 5).1).toArray:=by
 have D:=c2R p s l f w h j m;have y:p≠a:=h.far b ρd
 have B:∀r,a2S l=.ok r->(a0b (a2l l 5).1).length=67:=λr W=>by
  obtain⟨A,c,O,_⟩:=h;exact a0f ((a8L O.by_.bd 5).2)
 have⟨st,o⟩:=η0 (a2S l);have⟨N,z⟩:=η0 (a0b (a2l l 5).1);have F:∀v∈N,v.oneCell'=true:=by rw[<-z];exact a1p _
 rw[o,z]at D B⊢;have⟨HT,U⟩:=η2 b F;clear b F o z h;go_in;go_wp2_with fail;refine μ1 D ?_;rintro e Y ⟨O,K⟩;have E:=HT.fr K (λe=>y e.symm)
 cases st with
 |
  error x=>
  obtain rfl:=O;exact⟨rfl,rfl,K.mono (λ_ _ e=>.inr e),λr W=>by cases W⟩
 |
  ok r=>
  obtain⟨rfl,J⟩:=O;have Q:=B r rfl;have V:=P7 a1h E g N Q U;have S:=ρr (a) Y N.toArray;have I:=E.row_ N.toArray;have H:=J.fr S (show¬_=_ from y) (show¬_=_ from d);have X:=(K.mono (G:=λk=>k=a\/k=p) (λ_ _ e=>.inr e)).trans S (λk hk e=>.inl e);have⟨T,R,F2⟩:=η3 I H X;clear I H X E S J K D B;go_wp2;go_end0;exact⟨⟨rfl,R.o⟩,F2.o,λ_ _=>T.o⟩
attribute [local go_sem ↓] a5P
theorem b4m(args:AV)(w:WD):(callFunc 123 args).run prog w=.ok (.enter 123 args) w:=ρk
def a8h(l:LI)(e:Ending):Prop:=
 match b0w l with
 | .error x=>e=.returned (.tuple #[.agg (a0b a1y).toArray,.int .i64 x])/\(x != 0)=true
 | .ok d=>e=.returned (.tuple #[.agg (a0b d).toArray,.int .i64 0])
theorem c1D(h:a8t (a2S l)≠0):b0w l=.error (a8t (a2S l)):=by
 unfold b0w;unfold a2S at h⊢
 cases hs:(a2l l 5).2 with
 | error x=>rfl
 |
  ok r=>
  rw[hs]at h;simp only at h⊢
  by_cases a:r=[]
  ·subst a
   by_cases b:(a2l l 5).1.ht=0
   ·simp[b,a8t]
   simp[b,a8t]at h
  have:0<r.length:=Ym.2 a
  simp[a8t,a,this]
theorem b4J(A:OA)(c:Nat)(a:A=none->c=0)(l:LI)(d:l.length<=400000000)(w:WD)(b:Byt w A l):Calls prog 65 #[.slice A l.length c] w λe w'=>a8h l e/\Below w w w':=by
 have aD:∀(fn:Fn) (first cap:AV) (w:WD),(Instr.makeFunc fn first cap).run prog w=.ok (.func fn first cap) w:=λ_ _ _ _=>rfl
 have⟨f,z⟩:=η0 ((a0b a1y).toArray);have H:f.size=67:=by rw[<-z,Qc,a0f a1A]
 have I:=a6H;simp only[z]at I;have az:∀W:WD,(BDs 37 #[]).run prog W=.ok (.agg f) W:=by rw[<-z];exact b2Y
 have⟨g,hg⟩:=ηs w;have b0:=Qd w 37 f;have B0:=ρb w (.cells f 37);have y:=I w;have⟨W,hW⟩:=η0 (w.alloc (.cells f 37));have ag:W.heap.size=g+1:=by rw[<-hW,<-hg];simp
 rw[hW]at b0 B0 y;rw[hg]at b0 y;have b1:=Qd W 37 f;have Q:=b0.alloc (.cells f 37);have B1:=B0.alloc B0.size (.cells f 37);have F:=I W
 generalize hV:W.alloc (.cells f 37)=V at b1 Q B1 F
 rw[ag]at b1 F;have ae:V.heap.size=g+2:=by rw[<-hV];simp;omega
 have T:=a6Q 123 #[.pointer (g+1:Nat)] b4m A c a l d V (b.below B1) (λk=>k=g+1) (λk hk=>ρo) (a2S l)
  (λ_ w3=>∀r,a2S l=.ok r->Blk w3 (g+1) 37 (a0b (a2l l 5).1).toArray)
  (λp s w2 hB hp hs aC ar he=>b8Z p s (g+1) l d f H w2 he ar ρo ρo (b1.fr (Q9 hB) ρo))
 have x:=b0L (b8B l);have U:=c1D (l:=l);have⟨ev,ai⟩:=η0 (a8t (a2S l));rw[ai]at T x U;have⟨aj,au,HG,ab,ak,ay,HZ,HY⟩:=η8 Q B1 hg ae x U H b;have af:=η1 z;clear Q B1 hg ae x U H b z b0 B0 b1 hW ag hV I ai;go_in;go_upto_region 2 with fail
 clear y F;go_wp2_with fail;refine μ1 T ?_;rintro e w1 ⟨rfl,f1,w2,w3,aa,aA,hK,f3⟩;have an:=aj.fr f1 (show¬_=_ by omega);have Z:Below w w w1:=au.trans (f1.below (B:=w.heap.size) (ρi ab.o HG.o) (λk hk e=>by have:=HG.o;omega));obtain⟨dT,Y,ad⟩:=Q8.1 a1S;have⟨HB,al,ax,HK,aB⟩:=η5 an Z f3 hK aa;clear an Z f3 hK aa f1 T
 by_cases m:ev=0
 ·have O:=ak.1 m
  have ac:=(HK.o _ O).fr ax.o (show¬_=_ by have:=ab.o;omega);have J:(a0b (a2l l 5).1).length=67:=a0f ((a8L HY.bd 5).2);have ao:=Pb a1S a1h _ ac J;subst m
  have D:b0w l=.ok (a2l l 5).1:=by
   obtain⟨h1,h2⟩:=c0c O;unfold b0w;rw[h1];exact if_neg (by rintro(h | h);simp at h;exact h2 ⟨rfl,h⟩)
  have E:=P7 a1h HB HZ (a0b (a2l l 5).1) J (a1p _);have⟨xs,K⟩:=η0 ((a0b (a2l l 5).1).toArray);have ah:xs.size=67:=by rw[<-K,Qc,J]
  rw[K]at E ao;have G:=HB.row_ xs;have o:=Ql (g:=g) al.o (ρh HG.o) xs;have⟨R,N,S,av,aq⟩:=η5 D G o ah K;clear D G o ah K ac J O;go_wp2;refine bodyPost_ret (v:=.tuple #[.agg xs,.int .i64 0]) (a0k rfl _ _ g _ _ (0,0) N.o Y ad (ρy av.o a1h) rfl) rfl ?_;refine⟨?_,S.o⟩;unfold a8h;rw[R.o]
  show _=_
  rw[<-aq.o]
 have D:=ay.o m;have j:(ev != 0)=true:=ρw m;have E:=P7 a1h HB.o HZ.o f.toList (ρw HZ.o) (by rw[<-af.o];simpa using a1p a1y);rw[show f.toList.toArray=f by simp]at E;have G:=HB.row_ f;have o:=Ql (g:=g) al.o (ρh HG.o) f;have⟨R,N,S,X⟩:=η4 D G o j;clear D G o j m;have j:=X.o;go_wp2;refine bodyPost_ret (v:=.tuple #[.agg f,.int .i64 ev]) (a0k rfl _ _ g _ _ (0,0) N.o Y ad (ρy HZ.o a1h) rfl) rfl ?_;refine⟨?_,S.o⟩;unfold a8h;rw[R.o];exact⟨by rw[<-af.o],X.o⟩
end
section
def a1Q(k:Int)(T:LV)(C:VL)(ow:LI)(am ser ep:Int)(id:LI):LV:=
 [.int .i64 k]++T++[C]++bys ow++[.int .u64 am,.int .i64 ser,.int .i64 ep]++bys id
theorem a2I{k:Int}{T:LV}(a:T.length=4)(b:ow.length=32)(hi:id.length=32):(a1Q k T C ow am ser ep id).length=73:=by
 simp[a1Q,a0a,a,b,hi]
theorem a6g{k:Int}{T:LV}(a:∀v∈T,v.oneCell'=true)(b:C.oneCell'=true):∀v∈a1Q k T C ow am ser ep id,v.oneCell'=true:=by
 intro v d;simp only[a1Q,Qq,Qo,Qt,or_false]at d
 rcases d with((((rfl | h) | rfl) | h) | rfl | rfl | rfl) | h
 ·rfl
 ·exact a _ h
 ·exact b
 ·exact a0h _ _ h
 ·rfl
 ·rfl
 ·rfl
 exact a0h _ _ h
theorem b8d{a c:LV}{b x:VL}(d:a.length=off):(a++[b]++c).toArray.setIfInBounds off x=(a++[x]++c).toArray:=by
 subst d
 apply ZM
 simp
theorem b7H{a c:LV}{b:VL}(d:a.length=off):(a++[b]++c).toArray[off]? =some b:=by
 subst d
 simp
section
variable {k:Int} {T:LV} {C:VL} {ow id:LI} {am ser ep:Int}
theorem b9n(d:T.length=4)(f:ow.length=32)(x:Int):(a1Q k T C ow am ser ep id).toArray.setIfInBounds 38 (.int .u64 x)=(a1Q k T C ow x ser ep id).toArray:=by
 have:=b8d (a:=[.int .i64 k]++T++[C]++bys ow) (b:=.int .u64 am) (x:=.int .u64 x) (c:=[.int .i64 ser,.int .i64 ep]++bys id) (off:=38) (by simp[a0a,d,f])
 simpa[a1Q]using this
theorem b8S(d:T.length=4)(f:ow.length=32)(x:Int):(a1Q k T C ow am ser ep id).toArray.setIfInBounds 39 (.int .i64 x)=(a1Q k T C ow am x ep id).toArray:=by
 have:=b8d (a:=[.int .i64 k]++T++[C]++bys ow++[.int .u64 am]) (b:=.int .i64 ser) (x:=.int .i64 x) (c:=[.int .i64 ep]++bys id) (off:=39) (by simp[a0a,d,f])
 simpa[a1Q]using this
theorem b9J(d:T.length=4)(f:ow.length=32)(x:Int):(a1Q k T C ow am ser ep id).toArray.setIfInBounds 40 (.int .i64 x)=(a1Q k T C ow am ser x id).toArray:=by
 have:=b8d (a:=[.int .i64 k]++T++[C]++bys ow++[.int .u64 am,.int .i64 ser]) (b:=.int .i64 ep) (x:=.int .i64 x) (c:=bys id) (off:=40) (by simp[a0a,d,f])
 simpa[a1Q]using this
theorem c0r(d:T.length=4)(x:VL):(a1Q k T C ow am ser ep id).toArray.setIfInBounds 5 x=(a1Q k T x ow am ser ep id).toArray:=by
 have:=b8d (a:=[.int .i64 k]++T) (b:=C) (x:=x) (c:=bys ow++[.int .u64 am,.int .i64 ser,.int .i64 ep]++bys id) (off:=5) (by simp[d])
 simpa[a1Q]using this
theorem a8A(d:T.length=4):(a1Q k T C ow am ser ep id).toArray[5]? =some C:=by
 have:=b7H (a:=[.int .i64 k]++T) (b:=C) (c:=bys ow++[.int .u64 am,.int .i64 ser,.int .i64 ep]++bys id) (off:=5) (by simp[d])
 simpa[a1Q]using this
theorem a4a:(a1Q k T C ow am ser ep id).toArray[0]? =some (.int .i64 k):=by simp[a1Q]
theorem a7h(d:T.length=4)(f:ow.length=32):(a1Q k T C ow am ser ep id).toArray[38]? =some (.int .u64 am):=by
 have:=b7H (a:=[.int .i64 k]++T++[C]++bys ow) (b:=.int .u64 am) (c:=[.int .i64 ser,.int .i64 ep]++bys id) (off:=38) (by simp[a0a,d,f])
 simpa[a1Q]using this
theorem a7c(d:T.length=4)(f:ow.length=32):(a1Q k T C ow am ser ep id).toArray[39]? =some (.int .i64 ser):=by
 have:=b7H (a:=[.int .i64 k]++T++[C]++bys ow++[.int .u64 am]) (b:=.int .i64 ser) (c:=[.int .i64 ep]++bys id) (off:=39) (by simp[a0a,d,f])
 simpa[a1Q]using this
theorem a9t(d:T.length=4)(f:ow.length=32):(a1Q k T C ow am ser ep id).toArray[40]? =some (.int .i64 ep):=by
 have:=b7H (a:=[.int .i64 k]++T++[C]++bys ow++[.int .u64 am,.int .i64 ser]) (b:=.int .i64 ep) (c:=bys id) (off:=40) (by simp[a0a,d,f])
 simpa[a1Q]using this
theorem c7k(f:T.length=4)(g:ow.length=32)(hd:d.length=32):a1d (a1Q k T C ow am ser ep id).toArray 6 (bys d)=(a1Q k T C d am ser ep id).toArray:=by
 have:=a4J (a:=[.int .i64 k]++T++[C]) (b:=bys ow) (c:=[.int .u64 am,.int .i64 ser,.int .i64 ep]++bys id) (xs:=bys d) (off:=6) (by simp[f]) (by simp[a0a,g,hd])
 simpa[a1Q]using this
theorem c8P(f:T.length=4)(g:ow.length=32)(hi:id.length=32)(hd:d.length=32):a1d (a1Q k T C ow am ser ep id).toArray 41 (bys d)=(a1Q k T C ow am ser ep d).toArray:=by
 have:=a4J (a:=[.int .i64 k]++T++[C]++bys ow++[.int .u64 am,.int .i64 ser,.int .i64 ep]) (b:=bys id) (c:=[]) (xs:=bys d) (off:=41) (by simp[a0a,f,g]) (by simp[a0a,hi,hd])
 simpa[a1Q]using this
theorem c2z(g:T.length=4){d:LV}(f:d.length=4):a1d (a1Q k T C ow am ser ep id).toArray 1 d=(a1Q k d C ow am ser ep id).toArray:=by
 have:=a4J (a:=[.int .i64 k]) (b:=T) (c:=[C]++bys ow++[.int .u64 am,.int .i64 ser,.int .i64 ep]++bys id) (xs:=d) (off:=1) rfl (by rw[g,f])
 simpa[a1Q]using this
end
def a5c:LV:=[.slice none 0 0,.slice none 0 0,.int .u64 0,.int .i64 0]
def a7G:LV:=a1Q 0 a5c (.slice none 0 0) zId 0 0 0 zId
theorem d3a:prog.underlying 23=some (.slice 22):=ρk
theorem d3n:(prog.info? 22).map (λi=>(i.zero.map (·.cells.size),i.size,i.bytes))=some (some 1,1,24):=ρk
theorem d2V:(prog.info? 22).map (λi=>(i.zero.map (·.cells.size),i.size))=some (some 1,1):=ρk
theorem c4M(xs:AV)(t:TI):Builtin.append_ #[23,23] t xs=APs #[23,23] t xs:=rfl
theorem c4R(n:Nat)(a:Array (Nat×VL)):Instr.buildSlice 23 n a=BSs 23 n a:=rfl
theorem b2N:(prog.underlying 58).map a1f=some true:=ρk
theorem a6X:(prog.info? 58).map (·.size)=some 73:=ρk
abbrev a7s:=ldOf 58
abbrev b3x:=stOf 58
abbrev b2U:=alOf 58
abbrev b8q:=bdOf 58
theorem c6G(w:WD):(ALs 58).run prog w=.ok (.pointer w) (w.alloc (.cells a7G.toArray 58)):=a0U (.agg a7G.toArray) ρk w
theorem d0W(w:WD):(BDs 58 #[]).run prog w=.ok (.agg a7G.toArray) w:=run_build w _ _ _ ρk
end
section
theorem c7r(h:a0N B w v l):∃A N c,v=.slice A N c:=by
 obtain⟨A,c,e⟩:=a0N.form h;exact⟨A,_,c,e⟩
theorem c4O(h:k.length<=64)(i:Nat):(a7V k).getD i 0=k.getD i 0:=by
 rw[a9o h];simp only[List.getD]
 by_cases hi:i<k.length
 ·rw[QO hi]
 rw[QL ρo,ZL (l:=k) ρo,List.getElem?_replicate]
 split<;>rfl
theorem b2q(y:Int)(hi:i<l.length):a2L y (l.take (i+1))=a2L y (l.take i)++[bits .xor .u8 (l.getD i 0) y]:=by
 unfold a2L;rw[Qe hi,QV];simp[List.getD,hi]
theorem a7k(y:Int)(hi:i<=l.length):(a2L y (l.take i)).length=i:=by
 rw[a4O,Qx,QY hi]
attribute [local go_sem ↓] a2t a2s a2n a3n a3w
theorem b7h(p:OA)(z:Nat)(k:LI)(o:OA)(r:Nat)(b:LI)(w:WD)(y:k.length<=64)(a:Byt w p k)(d:Byt w o b)(f:o=none->r=0)(B:b.length<=10000000):Calls prog 103 #[.slice p k.length z,.slice o b.length r] w λe w'=>e=.returned (.agg (bys (b0H k b)).toArray)/\Below w w w':=by
 obtain⟨Z,bj,bh,hz⟩:=P8 (t:=31) iId b1N;have b0:=Qd w 31 (Z);have B0:=ρb w (.cells (Z) 31)
 generalize hW:w.alloc (.cells (Z) 31)=W at b0 B0
 have⟨g0,aB⟩:=ηs w;rw[aB]at b0;have aa:=b0g k;have aF:=c4O y;have ax:b0H k b=a3x (a2L 92 (a7V k)++a3x (a2L 54 (a7V k)++b)):=rfl;rw[ax]
 generalize aW:a7V k=pd at aa⊢
 simp only[aW]at aF
 generalize hD:a3x (a2L 54 pd++b)=D
 have a3:Dig D:=by rw[<-hD];exact Dig.sha _
 generalize hE:a3x (a2L 92 pd++D)=E
 have a2:(bys E).length=32:=by rw[a0a,<-hE];exact(Dig.sha _).1
 have a4:=d.below B0;have a8:=a.below B0;have⟨n,hn⟩:=η0 b.length
 generalize hm:k.length=m at y⊢
 rw[hn]at B⊢;have bm:¬((64:Int)<(m:Int)):=ρo;have⟨HW,HG,HB,bc,aT,HE,Y,HD⟩:=η8 hW aB B0 b0 a2 hE a3 hD;have⟨bg,ae,aK,a9,HN,HM,bb⟩:=η7 aF aa a4 a8 hn hm f;clear hW aB B0 b0 a2 hE a3 hD aF aa a4 a8 hn hm f ax aW a d;go_in;go_upto_region 1 with fail
 rw[HW.o,HG.o];go_upto_region 5 with fail
 go_loopg [5,6,7,8] 64 (λkk v u s _ wr=>∃(i:Nat) (Av:OA) (cv:Nat) (Au:OA) (cu:Nat),i+kk=64/\s=.int .i64 i/\v=.slice Av i cv/\u=.slice Au i cu/\a0N W wr v (a2L 54 (pd.take i))/\a0N W wr u (a2L 92 (pd.take i))/\(∀j,v.ownBlock=some j->u.ownBlock=some j->False)/\Below W W wr);exact⟨0,none,0,none,0,by omega,rfl,rfl,rfl,by simpa[a2L]using a0N.nil _ _,by simpa[a2L]using a0N.nil _ _,(λj h=>by cases h),Qf _ _⟩;obtain⟨i,Av,cv,Au,cu,hi,rfl,rfl,rfl,hv,hu,G,F⟩:=hrel
 by_cases ba:i<64
 ·have a6:(i:Int)<64:=ρo
  have a7:i<pd.length:=by rw[ae.o];exact ba
  have t1:=b2q 54 a7;have t2:=b2q 92 a7;have a1:=a7k 54 (l:=pd) (i:=i) ρo;have aX:=a7k 92 (l:=pd) (i:=i) ρo;rw[bg.o i]at t1 t2;have⟨x,hx⟩:=η0 (k.getD i 0);rw[hx]at t1 t2;have⟨x1,aJ⟩:=η0 (bits .xor .u8 x 54);have⟨x2,az⟩:=η0 (bits .xor .u8 x 92);have a:0<=x1/\x1<=255:=by rw[<-aJ];exact⟨bits_lo_u8 _ _ _,bits_hi_u8 _ _ _⟩
  have d:0<=x2/\x2<=255:=by rw[<-az];exact⟨bits_lo_u8 _ _ _,bits_hi_u8 _ _ _⟩
  rw[aJ]at t1;rw[az]at t2;obtain⟨v',w1,av,N,O,K⟩:=a3P (ty:=22) hv a ρo F.size;have I:=F.trans (O.below F.size (λj H e=>by have:=(hv.lt e).1;omega));have Q:=hu.fr O (λj H e=>G j e H);obtain⟨u',w2,ao,U,af,ab⟩:=a3P (ty:=22) Q d ρo I.size;have J:=I.trans (af.below I.size (λj H e=>by have:=(Q.lt e).1;omega))
  have ah:∀j,v'.ownBlock=some j->(Value.slice Au i cu).ownBlock=some j->False:=λj H aj=>by
   rcases K j H with e | e
   ·exact G j e aj
   have:=(hu.lt aj).2;omega
  have V:=N.fr af (λj H e=>ah j H e)
  have ag:∀j,v'.ownBlock=some j->u'.ownBlock=some j->False:=λj H aj=>by
   rcases ab j aj with e | e
   ·exact ah j H e
   have:=(N.lt H).2;omega
  rw[<-t1]at V;rw[<-t2]at U;obtain⟨A3,c3,e3⟩:=V.form;obtain⟨A4,c4,e4⟩:=U.form;rw[a7k 54 (l:=pd) (i:=i+1) ρo]at e3;rw[a7k 92 (l:=pd) (i:=i+1) ρo]at e4;subst e3 e4
  by_cases a5:i<m
  ·have aR:(i:Int)<m:=ρo
   obtain⟨gk,ok,rfl,_,aQ⟩:=(a9.below F).cell (by rw[HM.o];omega);have kx:wr.cell? ⟨gk,ok+i,none⟩=some (.int .u8 x):=aQ i x (by rw[<-hx];simp[List.getD,show i<k.length by rw[HM.o];exact a5]);have⟨HV,HU,aA,ac⟩:=η4 V U ag J;clear V U ag J hv hu G F t1 t2 a1 aX hx O K Q af ab ah I N aQ;go_wp2;go_roundg (64-(i+1));exact⟨i+1,A3,c3,A4,c4,by omega,by go_num,rfl,rfl,HV.o,HU.o,aA.o,ac.o⟩;omega
  have aR:¬(i:Int)<m:=ρo;have aP:x=0:=by rw[<-hx];simp[List.getD,show¬i<k.length by rw[HM.o];exact a5]
  rw[aP]at aJ az;have⟨HV,HU,aA,ac⟩:=η4 V U ag J;clear V U ag J hv hu G F t1 t2 a1 aX hx O K Q af ab ah I N aP;go_wp2;go_roundg (64-(i+1));exact⟨i+1,A3,c3,A4,c4,by omega,by go_num,rfl,rfl,HV.o,HU.o,aA.o,ac.o⟩;omega
 obtain rfl:i=64:=ρo;have a6:¬(((64:Nat):Int)<64):=ρo;rw[Qb (by rw[ae.o];exact Qg _)]at hv hu;have ai:=a4O 54 pd;have aG:=a4O 92 pd;rw[ae.o]at ai aG;obtain⟨A3,N3,c3,w1,av,N,O,K⟩:=d0Z (ty:=22) hv (aK.below F) HN.o bb.o (by rw[ai,HN.o];omega) F.size;have I:=F.trans (O.below F.size (λj H e=>by have:=(hv.lt e).1;omega));have Q:=hu.fr O (λj H e=>G j e H);have ay:∀x∈a2L 54 pd++b,0<=x/\x<=255:=a1I (b0p _ _) aK.bd;obtain⟨bn,bo,e3,ak,_,_⟩:=N.byt ay;simp only[Value.slice.injEq]at e3;obtain⟨rfl,rfl,rfl⟩:=e3;have S:=b3g A3 c3 (λe=>by subst e;exact a0N.nulI N) _ w1 ak (by rw[Qa,ai,HN.o];omega);rw[HD.o]at S;have al:=λX=>a3E D Y.1 Y.2 X
 have⟨N3,aN⟩:=η0 ((a2L 54 pd++b).length);rw[aN]at av S;have⟨be,aO,aM,aY⟩:=η4 I Q al aG;clear I Q al aG hv hu G F O K N ak ay aN ai;go_wp2_with fail;refine μ1 S ?_;rintro e w2 ⟨rfl,J⟩;have an:=φt be J;have aL:=aO.fr (Q9 J) (λj H e=>by have:=(aO.lt H).2;omega);have ar:=aM.o w2;have⟨ac,aV⟩:=η2 an aL;clear an aL J S;go_wp2_with fail;refine μ1 ar ?_;rintro e w3 ⟨v3,rfl,aE,aC⟩;have R:=φt ac aC;have aD:=aV.fr (Q9 aC) (λj H e=>by have:=(aV.lt H).2;omega);obtain⟨A5,N5,c5,rfl⟩:=c7r aE;obtain⟨A6,N6,c6,w4,ao,aH,aU,_⟩:=a5R (ty:=22) aD aE Y.2 (by rw[aY.o,Y.1];omega) R.size;have aS:=R.trans (aU.below R.size (λj H e=>by have:=(aD.lt e).1;omega));have aq:∀x∈a2L 92 pd++D,0<=x/\x<=255:=a1I (b0p _ _) Y.2;obtain⟨bl,bi,e6,au,_,_⟩:=aH.byt aq;simp only[Value.slice.injEq]at e6;obtain⟨rfl,rfl,rfl⟩:=e6
 have T:=b3g A6 c6 (λe=>by subst e;exact a0N.nulI aH) _ w4 au (by rw[Qa,aY.o,Y.1];omega);rw[HE.o]at T;have⟨N6,aZ⟩:=η0 ((a2L 92 pd++D).length);rw[aZ]at ao T;have bf:=η1 aS;clear aS aE aC R aD aH aU aq au aZ ar;go_wp2_with fail;refine μi T ?_;intro w5 a0;have ad:=φt bf a0;have aI:=φf bc ad;have bk:=P9 iId aI hz (bys E) aT.o (a0h _);have q1:=aI.row_ (bys E).toArray;have q2:=Ql (g:=g0) (φt HB ad) (ρh HG.o) (bys E).toArray;have⟨Q1,Q2⟩:=η2 q1 q2;clear q1 q2 a0 ad aI T;go_wp2;exact bodyPost_ret (a0c rfl _ _ g0 31 (bys E) _ rfl Q1 a5g rfl (ρy aT.o iId)) rfl ⟨rfl,Q2.o⟩
theorem c0f(o:OA)(r:Nat)(seed:LI)(s:Nat)(y:s<=63)(a:OA)(p:Nat)(b:LI)(w:WD)(v:seed.length<=64)(d:Byt w o seed)(f:Byt w a b)(j:a=none->p=0)(x:b.length<=10000000):Calls prog 45 #[.slice o seed.length r,.int .i64 s,.slice a b.length p] w λe w'=>e=.returned (.agg (bys (a7C seed (s:Int) b)).toArray)/\Below w w w':=by
 obtain⟨Z,av,aq,hz⟩:=P8 (t:=31) iId b1N;have b0:=Qd w 31 (Z);have Y:=ρb w (.cells (Z) 31)
 generalize hW:w.alloc (.cells (Z) 31)=W at b0 Y
 have⟨g0,O⟩:=ηs w;rw[O]at b0;have au:IntKind.u8.wrap (s:Int)=s:=by rw[IntKind.wrap_u8];omega
 have hb:Blk (W.alloc (.cells (bys [(s:Int)]).toArray 5)) W.heap.size 5 (bys [(s:Int)]).toArray:=Qd W _ _;have BX:=ρb W (.cells (bys [(s:Int)]).toArray 5);have F:=b7h o r seed W 1 [(s:Int)] (W.alloc (.cells (bys [(s:Int)]).toArray 5)) v ((d.below Y).below BX) (hb.byt (by simp;omega)) ρp ρp;rw[show(bys [(s:Int)]).toArray=#[.int .u8 s]from rfl,show([(s:Int)]).length=1 from rfl]at F;rw[show(bys [(s:Int)]).toArray=#[.int .u8 s]from rfl]at BX;have R:Dig (b0H seed [(s:Int)]):=Dig.mac _ _
 have G:=λX A c N (hX:Byt X A (b0H seed [(s:Int)])) (hN:N=(b0H seed [(s:Int)]).length) (ah:Byt X a b)=>by
  have:=b7h A c (b0H seed [(s:Int)]) a p b X (by rw[R.1];omega) hX ah j x
  rw[<-hN]at this;exact this
 rw[show a7C seed (s:Int) b=b0H (b0H seed [(s:Int)]) b from rfl]
 generalize ad:b0H seed [(s:Int)]=D at F R⊢
 simp only[ad]at G;have⟨E,hE⟩:=η0 (b0H D b);have T:(bys E).length=32:=by rw[a0a,<-hE];exact(Dig.mac _ _).1
 simp only[hE]at G;rw[hE];have aa:=λX=>a3E D R.1 R.2 X
 have V:=f.below Y;have⟨n,hn⟩:=η0 b.length
 generalize hm:seed.length=m at F⊢
 simp only[hn]at G;rw[hn];have⟨HW,HG,HB,aj,ab,HD,af,ag⟩:=η8 hW O Y b0 T R G aa;have⟨ak,ao⟩:=η2 V BX;clear hW O Y b0 T R G aa V BX hb d f ad hE hn hm x v j;go_in;go_upto_region 1 with fail
 rw[HW.o,HG.o];go_wp2_with fail;refine μi F ?_;intro w1 S;have I:=φt ao S;have H:=ag.o w1;have al:=η1 I;clear I S F;go_wp2_with fail;refine μ1 H ?_;rintro e w2 ⟨v2,rfl,U,ac⟩;have B:=φt al ac;obtain⟨A3,c3,rfl,J,_,_⟩:=a0N.byt U HD.2;have K:=af.o w2 A3 c3 D.length J rfl (ak.below B)
 generalize ai:D.length=N3 at K⊢
 have an:=η1 B;clear B ac U J ai H;go_wp2_with fail;refine μi K ?_;intro w3 ae;have z:=φt an ae;have Q:=φf aj z;have ar:=P9 iId Q hz (bys E) ab.o (a0h _);have q1:=Q.row_ (bys E).toArray;have q2:=Ql (g:=g0) (φt HB z) (ρh HG.o) (bys E).toArray;have⟨Q1,Q2⟩:=η2 q1 q2;clear q1 q2 ae z Q K;go_wp2;exact bodyPost_ret (a0c rfl _ _ g0 31 (bys E) _ rfl Q1 a5g rfl (ρy ab.o iId)) rfl ⟨rfl,Q2.o⟩
end
end Go.Proofs.YtpolljfkceanaaaGreatDoor
