/-
  Contracts of functions, plain laws.
-/
import Derived.Sort.MapsRangeIn
import Derived.Test.YtpolljfkceanaaaGreatDoorC06
namespace Go.Proofs.YtpolljfkceanaaaGreatDoor
open Go.RowKit Go.Shelf Go.Maps Go.Proofs.Tryz
set_option maxRecDepth 100000
set_option maxHeartbeats 64000000
variable {cs z:AV}{k me n s sC:Int}{b seed tx:LI}{N0:List Nat}{B N c cap g i j r:Nat}{A:OA}{P:PG}{e:TI}{t:TxD}{u v:VL}{a w:WD}
set_option linter.all false
section
open Go.RowKit Go.Shelf Go.Maps Go.ChangeMaps Go.MapKept
open Go.WideElems (Fit rd rg rd_mk rg_of)
def RT:VL->Option (DataW Unit×List MemPlace):=λ_=>some (.lit (.bool true),[])
theorem a4o.owns{κ ν:Type}{E:Enc κ}{d:ν->LV}{b:Nat}{m:List (κ×ν)}(h:a4o E d w b m)(f:m.length<=maxLen):∃D:DataW Unit,w.ownsMap prog E.k RT b m.length D/\Maps.size D=m.length/\∀kl,Maps.has D kl=true↔∃a∈m.map Prod.fst,keyOf prog E.k (.agg (E.e a).toArray)=some kl:=by
 have K:=Keyed.of_law E.law;obtain⟨z,c,O,R,F,P⟩:=h.is;have G:=a2g.esKeys F P
 have J:z.size=m.length:=by
  have:=congrArg List.length F
  simpa using this
 have j:∀x∈z.toList,∃l,keyOf prog E.k x.key=some l/\rd prog E.k RT x=some (l,.lit (.bool true)):=λx g=>by
  obtain⟨l,y⟩:=G x g;exact⟨l,y,by obtain⟨V,T,U⟩:=x;exact rd_mk (H:=Unit) (val:=T) (yv:=(.lit (.bool true),[])) y rfl⟩
 refine⟨.map ((z.toList.map (rg prog E.k RT)).foldr DataW.insert []),⟨z,c,O,⟨by omega,R,λx g=>by obtain⟨l,_,r⟩:=j x g;exact⟨_,r⟩⟩,by omega,rfl⟩,?_,λkl=>?_⟩
 ·rw[Maps.size_eq,DataW.length_sorted]
  simpa using J
 rw[Maps.has_eq,List.any_eq_true]
 constructor
 ·rintro⟨p,Q,o⟩
  obtain⟨x,g,rfl⟩:=Qs.1 ((Go.WideShapes.sorted_perm _).mem_iff.1 Q);obtain⟨l,B,r⟩:=j x g;rw[rg_of r]at o;have e:=WideAt.sameKey_eq o;simp only at e;subst e;have N:(x.key,x.val)∈m.map (λp=>(Value.agg (E.e p.1).toArray,Value.agg (d p.2).toArray)):=by rw[<-F];exact Qs.2 ⟨x,g,rfl⟩
  obtain⟨q,I,e⟩:=Qs.1 N;simp only[Prod.mk.injEq]at e;exact⟨q.1,Qs.2 ⟨q,I,rfl⟩,by rw[e.1];exact B⟩
 rintro⟨a,S,v⟩;obtain⟨q,I,rfl⟩:=Qs.1 S;have N:(Value.agg (E.e q.1).toArray,Value.agg (d q.2).toArray)∈z.toList.map (λe=>(e.key,e.val)):=by rw[F];exact Qs.2 ⟨q,I,rfl⟩
 obtain⟨x,g,e⟩:=Qs.1 N;simp only[Prod.mk.injEq]at e;obtain⟨l,B,r⟩:=j x g;rw[e.1,v]at B
 cases B
 exact⟨_,(Go.WideShapes.sorted_perm _).mem_iff.2 (Qs.2 ⟨x,g,rfl⟩),by rw[rg_of r];exact WideAt.sameKey_self (K.key v)⟩
def a9n{κ ν:Type}(E:Enc κ)(m:List (κ×ν))(left:Lit->Bool)(ss:List κ):Prop:=
 ss.Nodup/\(∀a∈ss,a∈m.map Prod.fst)/\∀a∈m.map Prod.fst,∀kl,keyOf prog E.k (.agg (E.e a).toArray)=some kl->(a∈ss↔left kl=false)
section
variable {κ ν:Type} {E:Enc κ} {ev:ν->LV} {w:WD} {b:Nat} {m:List (κ×ν)} {D:DataW Unit} {left:Lit->Bool}
theorem a9n.start(b:∀kl,Maps.has D kl=true↔∃a∈m.map Prod.fst,keyOf prog E.k (.agg (E.e a).toArray)=some kl):a9n E m (Maps.has D) []:=
 ⟨List.nodup_nil,by simp,λa ha kl hk=>by
  have:=(b kl).2 ⟨a,ha,hk⟩
  simp[this]⟩
theorem a9n.step{b:List {a // E.ok a}}(d:∀p∈m,E.ok p.1)(h:a9n E m left (b.map Subtype.val))(f:∀kl,Maps.has D kl=true↔∃a∈m.map Prod.fst,keyOf prog E.k (.agg (E.e a).toArray)=some kl)  {kl:Lit} {y:DataW Unit} (hk:keyOf prog E.k v=some kl) (hl:left kl=true) (hat:∀zd,D.atKey kl zd=y):∃x:{a // E.ok a},v=.agg (E.e x.1).toArray/\a9n E m (λz=>left z&&!z.sameKey kl) ((b++[x]).map Subtype.val):=by
 have K:=Keyed.of_law E.law;obtain⟨a,w,g⟩:=(f kl).1 (Maps.has_true_of_atKey hat)
 have j:∀a∈m.map Prod.fst,E.ok a:=λa w=>by
  obtain⟨p,O,rfl⟩:=Qs.1 w;exact d p O
 refine⟨⟨a,j a w⟩,K.inj hk g,?_⟩
 have F:a ∉ b.map Subtype.val:=λG=>by
  have:=(h.2.2 a w kl g).1 G
  rw[hl]at this
  cases this
 rw[QV,Yl,List.map_nil];refine⟨List.nodup_append.2 ⟨h.1,by simp,λx G y I=>by simp at I;subst I;exact λe=>F (e ▸ G)⟩,λx G=>?_,λc N H o=>?_⟩
 ·rcases Qq.1 G with r | r
  ·exact h.2.1 x r
  rw[Qn.1 r];exact w
 rw[Qq,Qn,h.2.2 c N H o];have J:=WideAt.sameKey_iff (a:=H) (K.key hk)
 by_cases e:H=kl
 ·have B:c=a:=by
   have r:=K.inj o (e ▸ g);simp only[Value.agg.injEq]at r;exact E.inj _ _ (j c N) (j a w) (by simpa using congrArg Array.toList r)
  simp[B,J.2 e]
 have B:c≠a:=λB=>by
  subst B;rw[o]at g;exact e (Option.some.inj g)
 have P:H.sameKey kl=false:=by
  cases h5:H.sameKey kl with
  | false=>rfl
  | true=>exact absurd (J.1 h5) e
 simp[B,P]
theorem a9n.done{d:List κ}(ht:a4o E ev w b m)(h:a9n E m left d)(f:∀kl,left kl=false):d.Perm (m.map Prod.fst):=by
 refine(List.perm_ext_iff_of_nodup h.1 ?_).2 λa=>⟨h.2.1 a,λg=>?_⟩
 ·have:=ht.apart
  exact Yk.2 this
 obtain⟨p,j,rfl⟩:=Qs.1 g;obtain⟨kl,o⟩:=E.key _ (ht.ok p j);exact(h.2.2 _ g kl o).2 (f kl)
end
abbrev b0n:=stOf 212
abbrev a9U:=ldOf 212
theorem c7f:(prog.underlying 212).map a1f=some true:=ρk
theorem c1B:(prog.info? 212).map (·.size)=some 33:=ρk
theorem d1x:(((prog.info? 212).bind (·.zero)).map (·.cells.size))=some 33:=ρk
abbrev b0f:=alOf 212
attribute [local go_sem ↓] a1F a4Z a5p a9U b0n b0f
theorem c2h(F:Fence)(n:Nat)(j:F.fn 229)(d:F.round=none)(w:1<=n)(l f b:Nat)(m:List ((LI×Int)×a1J))(o:m.length<=maxLen)(J g:List {a // ptE.ok a}->WD->Prop) (hY:∀pre x W,J pre W->pre.length<m.length->YieldAt F (n-1) prog l #[.agg (ptE.e x.1).toArray] W λe W'=>(e=.returned (.bool true)/\J (pre++[x]) W'/\KeepsWalks W W')\/(e=.returned (.bool false)/\g (pre++[x]) W')) (W:WD) (hJ:AbidesFrom W.heap.size J) (hm:W.cell? ⟨f,0,none⟩=some (.map (some b))) (ht:a4o ptE a4V W b m) (h0:J [] W):CallsIn F n prog 229 #[.func (.yield l) #[] #[],.pointer f] W λe W'=>(∃v,e=.returned v)/\((∃ss:List {a // ptE.ok a},(ss.map Subtype.val).Perm (m.map Prod.fst)/\J ss W')\/(∃pre:List {a // ptE.ok a},True/\g pre W')):=by
 obtain⟨D0,R,aa,hD⟩:=ht.owns o;have ac:=ht.ok;have K:Keyed prog 189:=Keyed.of_law ptE.law;have D:W.ownsMap prog 189 RT b m.length D0:=R;have⟨HT,aj,aA,HO,aC⟩:=η5 ht hD ac D aa;clear ht hD ac R aa;obtain⟨Z,G,O,hz⟩:=P8 (t:=189) a1H c3w;refine callsIn_of_wp func229 rfl j ?_ d;simp only[ntmps229,Qc,Qy,Qv,Nat.reduceAdd,Nat.reduceSub,QW,QX,Ze,QZ,QF,QG];have⟨aD,aH⟩:=η2 G O;clear G O
 gi_wp2_with (first
  | (gi_at_range;refine wpListIn_range_own _ rfl _ 164 rfl 189 208 K Tryz.underlying164 _ b m.length _ rfl D ?_;intro w0 ao av aN)
  | gi_in)
 go_frame
 gi_loopw [3] (λ_ wr=>∃(left:Lit->Bool) (U:Nat) (ss:List {a // ptE.ok a}),wr.ranges prog 189 RT b W.heap.size m.length D0 left U/\ss.length+U<=m.length/\a9n ptE m left (ss.map Subtype.val)/\J ss wr)
  (λ_ wr=>wr.rangeLeft b W.heap.size)
 ·exact⟨_,_,[],ao,by rw[aC.o];simp,a9n.start aj.o,hJ [] W w0 none h0 av (λr e=>by cases e)⟩
 obtain⟨left,U,ss,N,aO,hC,H⟩:=hrel
 gi_wp2_with (first
  | (gi_at_next;refine wpListIn_next_ranges (α:=VL) (β:=VL) _ rfl _ rfl 189 K RT id id (λkey kl hk=>⟨key,rfl⟩) (λv _ _=>⟨v,rfl⟩) b W.heap.size m.length _ _ _ rfl N ?_ ?_)
  | gi_in)
 ·intro aP ar
  gi_wp2
  go_end0;exact⟨⟨_,rfl⟩,.inl ⟨ss,hC.done HT ar,H⟩⟩
 intro x c kl yd yp E ah B ab hv V z ay X au al;obtain⟨x',ex,ae⟩:=hC.step aA aj B ab V
 try simp only[id]at ex al
 subst ex;have af:J ss E:=hJ ss wr E (some W.heap.size) H X (λr e=>by cases e;exact⟨Qg _,N.iter_walk⟩);have⟨Y,y⟩:=η0 (ptE.e x'.1);have ai:Y.length=33:=by rw[<-y];exact a1x x'.2.len _
 have aF:∀u∈Y,u.oneCell'=true:=by rw[<-y];exact a2p _ _
 have⟨p,hp⟩:=ηs E;have G:=aD.o E;have ad:=aH.o E Y ai aF;have bp:=Qd E 189 Y.toArray;have⟨w3,I⟩:=η0 (E.alloc (.cells Y.toArray 189));have T:E.grownBy w3 none:=by rw[<-I];exact World.grownBy_alloc E _ none
 rw[I]at ad bp;have an:J ss w3:=hJ ss E w3 none af T (λr e=>by cases e);have S:=z.kept T ρp ρp;have ax:=P4 a3a a1H Y bp ai;obtain⟨fn,aJ,aq,aI,hy,hR⟩:=hY ss x' w3 an ρo;rw[y]at hy;clear au
 try simp only[id]
 try simp only[y]
 rw[hp]at G ad ax;rw[y]at al;have⟨aE,aR,aK,ak,aT,HC,az,aQ⟩:=η8 N X z S H hC ae I;have⟨aU,aS,aL,aM⟩:=η4 y bp B V;clear N X z S H hC ae I y bp B V ab af an T hv
 gi_wp2
 refine hR.mono ?_;rintro e W3 (⟨rfl,aB,aG⟩ | ⟨rfl,ag⟩)
 ·gi_wp2
  have Q:=ak.of_walks aG;go_roundw
  case rel=>exact⟨_,ah,ss++[x'],Q,by simp;omega,az.o,aB⟩
  case measure=>rw[Q.left_eq,aE.left_eq];exact ay
 gi_wp2
 refine bodyPost_ret (results_none rfl _ _ _) rfl ?_;exact⟨⟨_,rfl⟩,.inr ⟨ss++[x'],trivial,ag⟩⟩
theorem a9E(F:Fence)(n:Nat)(j:F.fn 229)(f:F.round=none)(o:1<=n)(d b:Nat)(m:List ((LI×Int)×a1J))(r:m.length<=maxLen)(w:WD)(g:d<w.heap.size)(v:w.cell? ⟨d,0,none⟩=some (.map (some b)))(ht:a4o ptE a4V w b m):SeqStopsK F n prog 229 #[.pointer d] (λx:{a // ptE.ok a}=>#[.agg (ptE.e x.1).toArray]) KeepsWalks (λss=>(ss.map Subtype.val).Perm (m.map Prod.fst)) (λ_=>True) m.length w:=λl J Jx W hW hJ _ hY h0=>
 c2h F n j f o l d b m r J Jx hY W hJ ((hW.cell (p:=⟨d,0,none⟩) g).trans v) (ht.fr (Q9 hW) (ρh ht.lt)) h0
theorem b5s(b:Nat)(w:WD):Calls prog 175 #[.map (some b)] w λe w'=>e=.returned (.func (.func 229) #[] #[.pointer w])/\w'=w.alloc (.cells #[.map (some b)] 164):=by
 go_in;go_wp2;go_ret;exact⟨rfl,rfl⟩
theorem c3d(F:Fence)(n:Nat)(j:F.fn 232)(d:F.round=none)(w:1<=n)(l f b:Nat)(m:List (Ke×MkD))(o:m.length<=maxLen)(J g:List {a // keE.ok a}->WD->Prop) (hY:∀pre x W,J pre W->pre.length<m.length->YieldAt F (n-1) prog l #[.agg (keE.e x.1).toArray] W λe W'=>(e=.returned (.bool true)/\J (pre++[x]) W'/\KeepsWalks W W')\/(e=.returned (.bool false)/\g (pre++[x]) W')) (W:WD) (hJ:AbidesFrom W.heap.size J) (hm:W.cell? ⟨f,0,none⟩=some (.map (some b))) (ht:a4o keE mkV W b m) (h0:J [] W):CallsIn F n prog 232 #[.func (.yield l) #[] #[],.pointer f] W λe W'=>(∃v,e=.returned v)/\((∃ss:List {a // keE.ok a},(ss.map Subtype.val).Perm (m.map Prod.fst)/\J ss W')\/(∃pre:List {a // keE.ok a},True/\g pre W')):=by
 obtain⟨D0,R,aa,hD⟩:=ht.owns o;have ac:=ht.ok;have K:Keyed prog 212:=Keyed.of_law keE.law;have D:W.ownsMap prog 212 RT b m.length D0:=R;have⟨HT,aj,aA,HO,aC⟩:=η5 ht hD ac D aa;clear ht hD ac R aa;obtain⟨Z,G,O,hz⟩:=P8 (t:=212) c1B d1x;refine callsIn_of_wp func232 rfl j ?_ d;simp only[ntmps232,Qc,Qy,Qv,Nat.reduceAdd,Nat.reduceSub,QW,QX,Ze,QZ,QF,QG];have⟨aD,aH⟩:=η2 G O;clear G O
 gi_wp2_with (first
  | (gi_at_range;refine wpListIn_range_own _ rfl _ 167 rfl 212 214 K Tryz.underlying167 _ b m.length _ rfl D ?_;intro w0 ao av aN)
  | gi_in)
 go_frame
 gi_loopw [3] (λ_ wr=>∃(left:Lit->Bool) (U:Nat) (ss:List {a // keE.ok a}),wr.ranges prog 212 RT b W.heap.size m.length D0 left U/\ss.length+U<=m.length/\a9n keE m left (ss.map Subtype.val)/\J ss wr)
  (λ_ wr=>wr.rangeLeft b W.heap.size)
 ·exact⟨_,_,[],ao,by rw[aC.o];simp,a9n.start aj.o,hJ [] W w0 none h0 av (λr e=>by cases e)⟩
 obtain⟨left,U,ss,N,aO,hC,H⟩:=hrel
 gi_wp2_with (first
  | (gi_at_next;refine wpListIn_next_ranges (α:=VL) (β:=VL) _ rfl _ rfl 212 K RT id id (λkey kl hk=>⟨key,rfl⟩) (λv _ _=>⟨v,rfl⟩) b W.heap.size m.length _ _ _ rfl N ?_ ?_)
  | gi_in)
 ·intro aP ar
  gi_wp2
  go_end0;exact⟨⟨_,rfl⟩,.inl ⟨ss,hC.done HT ar,H⟩⟩
 intro x c kl yd yp E ah B ab hv V z ay X au al;obtain⟨x',ex,ae⟩:=hC.step aA aj B ab V
 try simp only[id]at ex al
 subst ex;have af:J ss E:=hJ ss wr E (some W.heap.size) H X (λr e=>by cases e;exact⟨Qg _,N.iter_walk⟩);have⟨Y,y⟩:=η0 (keE.e x'.1);have ai:Y.length=33:=by rw[<-y];exact a6m x'.2.len _
 have aF:∀u∈Y,u.oneCell'=true:=by rw[<-y];exact a7K _ _
 have⟨p,hp⟩:=ηs E;have G:=aD.o E;have ad:=aH.o E Y ai aF;have bp:=Qd E 212 Y.toArray;have⟨w3,I⟩:=η0 (E.alloc (.cells Y.toArray 212));have T:E.grownBy w3 none:=by rw[<-I];exact World.grownBy_alloc E _ none
 rw[I]at ad bp;have an:J ss w3:=hJ ss E w3 none af T (λr e=>by cases e);have S:=z.kept T ρp ρp;have ax:=P4 c7f c1B Y bp ai;obtain⟨fn,aJ,aq,aI,hy,hR⟩:=hY ss x' w3 an ρo;rw[y]at hy;clear au
 try simp only[id]
 try simp only[y]
 rw[hp]at G ad ax;rw[y]at al;have⟨aE,aR,aK,ak,aT,HC,az,aQ⟩:=η8 N X z S H hC ae I;have⟨aU,aS,aL,aM⟩:=η4 y bp B V;clear N X z S H hC ae I y bp B V ab af an T hv
 gi_wp2
 refine hR.mono ?_;rintro e W3 (⟨rfl,aB,aG⟩ | ⟨rfl,ag⟩)
 ·gi_wp2
  have Q:=ak.of_walks aG;go_roundw
  case rel=>exact⟨_,ah,ss++[x'],Q,by simp;omega,az.o,aB⟩
  case measure=>rw[Q.left_eq,aE.left_eq];exact ay
 gi_wp2
 refine bodyPost_ret (results_none rfl _ _ _) rfl ?_;exact⟨⟨_,rfl⟩,.inr ⟨ss++[x'],trivial,ag⟩⟩
theorem a9z(F:Fence)(n:Nat)(j:F.fn 232)(f:F.round=none)(o:1<=n)(d b:Nat)(m:List (Ke×MkD))(r:m.length<=maxLen)(w:WD)(g:d<w.heap.size)(v:w.cell? ⟨d,0,none⟩=some (.map (some b)))(ht:a4o keE mkV w b m):SeqStopsK F n prog 232 #[.pointer d] (λx:{a // keE.ok a}=>#[.agg (keE.e x.1).toArray]) KeepsWalks (λss=>(ss.map Subtype.val).Perm (m.map Prod.fst)) (λ_=>True) m.length w:=λl J Jx W hW hJ _ hY h0=>
 c3d F n j f o l d b m r J Jx hY W hJ ((hW.cell (p:=⟨d,0,none⟩) g).trans v) (ht.fr (Q9 hW) (ρh ht.lt)) h0
theorem b4p(b:Nat)(w:WD):Calls prog 177 #[.map (some b)] w λe w'=>e=.returned (.func (.func 232) #[] #[.pointer w])/\w'=w.alloc (.cells #[.map (some b)] 167):=by
 go_in;go_wp2;go_ret;exact⟨rfl,rfl⟩
end
section
theorem Fr.of_below_F{F:Nat->Prop}{w a:WD}(h:Below w w a):Fr F w a:=(Q9 h).mono (λk hk e=>absurd e ρo)
abbrev Yn:=@Fr.of_below_F
abbrev Kpt:=Nat×TI×AV
def b1q(B sb:Nat)(seed:LI)(w w':WD):Prop:=Below B w w'/\∃b0 N0 y0,a1e w sb b0 N0 seed y0/\Fr (λk=>k∈sb::b0.own) w w'
structure a4m(B r:Nat)(w:WD)(sb:Nat)(b:ShB)(N:List Nat)(seed:LI)(y:ShD)(K:List Kpt)(X:WD):Prop where
 sh:a1e X sb b N seed y
 pos:∀j∈sb::b.own,B<=j
 kp:∀q∈K,Blk X q.1 q.2.1 q.2.2/\q.1 ∉ sb::b.own/\B<=q.1
 rN:r∈N
 fr:Below B w X
 rz:w.heap.size<=r
 fo:∃b0 N0 y0,a1e w sb b0 N0 seed y0/\Fr (λk=>k∈sb::b0.own) w X/\∀j∈b.own,j∈b0.own\/w.heap.size<=j
section
variable {B r:Nat} {w X X':WD} {sb:Nat} {b:ShB} {N:List Nat} {seed:LI} {y:ShD} {K:List Kpt}
theorem a4m.sz(h:a4m B r w sb b N seed y K X):B<=X.heap.size:=by have:=h.pos sb Qr;have:=h.sh.st.lt;omega
theorem a4m.below(h:a4m B r w sb b N seed y K X)(a:Below X X X'):a4m B r w sb b N seed y K X':=
 ⟨h.sh.below a,h.pos,λq hq=>⟨(h.kp q hq).1.fr (Q9 a) (by have:=(h.kp q hq).1.lt;omega),(h.kp q hq).2⟩,h.rN,h.fr.trans (a.mono h.sz),h.rz,by
  obtain⟨b0,N0,y0,h0,hf,ho⟩:=h.fo;exact⟨b0,N0,y0,h0,hf.trans (Q9 a) (λk hk e=>by have:=hf.size;omega),ho⟩⟩
theorem a4m.drew(h:a4m B r w sb b N seed y K X):a4m B r w sb b N seed y K X.drew:=h.below (Qf _ _).drew
theorem a4m.step(h:a4m B r w sb b N seed y K X){b':ShB}{a:List Nat}{f:ShD}(g:a1e X' sb b' a seed f)(hF:Fr (λk=>k∈sb::b.own) X X')(m:∀j∈N,j∈a)(d:∀j∈b'.own,j∈b.own\/X.heap.size<=j):a4m B r w sb b' a seed f K X':=by
 have H:=h.sz;refine⟨g,λj p=>?_,λq o=>⟨(h.kp q o).1.fr hF (h.kp q o).2.1,λD=>?_,(h.kp q o).2.2⟩,m _ h.rN,h.fr.trans (hF.below_of H h.pos),h.rz,?_⟩;rotate_left 2
 ·obtain⟨E,F,z,G,v,x⟩:=h.fo
  refine⟨E,F,z,G,v.trans hF (λk I e=>?_),λj p=>?_⟩
  ·rcases Qo.1 e with e | e
   ·rw[e];exact Qr
   rcases x k e with e | e
   ·exact Qj _ e
   omega
  rcases d j p with e | e
  ·exact x j e
  exact .inr (ρh v.size)
 ·rcases Qo.1 p with e | e
  ·rw[e];exact h.pos _ Qr
  rcases d j e with e | e
  ·exact h.pos _ (Qj _ e)
  omega
 have J:=(h.kp q o).1.lt
 rcases Qo.1 D with e | e
 ·exact(h.kp q o).2.1 (ρy e Qr)
 rcases d _ e with e | e
 ·exact(h.kp q o).2.1 (Qj _ e)
 omega
theorem a4m.step'(h:a4m B r w sb b N seed y K X){a:ShD}(d:a1e X' sb b N seed a)(hF:Fr (λk=>k∈sb::b.own) X X'):a4m B r w sb b N seed a K X':=h.step d hF (λ_ h=>h) (λ_ h=>.inl h)
theorem a4m.add(h:a4m B r w sb b N seed y K X){t:TI}(a:Below X X X')(f:X.heap.size<=g)(d:Blk X' g t cs):a4m B r w sb b N seed y ((g,t,cs)::K) X':=by
 have j:=h.below a;have p:=h.sz
 exact⟨j.sh,j.pos,λq o=>by
  rcases Qo.1 o with e | e
  ·rw[e]
   exact⟨d,λm=>by have:=h.sh.lt _ (h.sh.sub _ m);simp only at this;omega,by show B<=g;omega⟩
  exact j.kp q e,j.rN,j.fr,j.rz,j.fo⟩
theorem a4m.begin(d:a1e a sb b N seed y)(m:∀j∈sb::b.own,B<=j)(f:Below a a X)(o:a.heap.size<=r/\r<X.heap.size)(g:∀q∈K,a.heap.size<=q.1/\Blk X q.1 q.2.1 q.2.2):a4m B r a sb b (r::N) seed y K X:=by
 have x:B<=a.heap.size:=by have:=m sb Qr;have:=d.st.lt;omega
 exact⟨d.more f o,m,λq p=>⟨(g q p).2,λv=>by have:=d.lt _ (d.sub _ v);have:=(g q p).1;omega,by have:=(g q p).1;omega⟩,Qr,f.mono x,o.1,⟨b,N,y,d,Yn f,λj w=>.inl w⟩⟩
theorem a4m.fin(h:a4m B r w sb b N seed y K X){f:AV}(g:(r,41,f)∈K)(m:∀j∈N0,j∈N){y0:ShD}(o:y.er=y0.er){rp:RpD}{a:Nat}(p:B<=a)(v:r<a)(x:a3C a X rp.c A cap){rs:AV}(d:rs=(a0O rp.e rp.has rp.c A cap).toArray):a6x B sb N0 seed (.ok (y0,rp)) (.returned (.agg rs)) (X.setRow r rs)/\b1q B sb seed w (X.setRow r rs)/\Blk (X.setRow r rs) r 41 rs:=by
 subst d;have z:=h.kp _ g;have D:=ρr (r) X (a0O rp.e rp.has rp.c A cap).toArray;have H:=h.sz
 refine⟨⟨⟨b,N,y,h.sh.away D h.rN z.2.1,o,m,h.pos⟩,A,cap,rfl,(x.fr D (λk e=>ρo)).base p⟩,⟨h.fr.trans (D.below_of H (λk e=>by have:=z.2.2;simp only at this;omega)),by
  obtain⟨F,N0,y0,G,E,I⟩:=h.fo;exact⟨F,N0,y0,G,E.trans D (λk z e=>by have:=h.rz;omega)⟩⟩,z.1.row_ _⟩
theorem a4m.sb_(h:a4m B r w sb b N seed y K X):b1q B sb seed w X:=⟨h.fr,by
 obtain⟨b0,N0,y0,h0,hf,-⟩:=h.fo;exact⟨b0,N0,y0,h0,hf⟩⟩
theorem a4m.frF(h:a4m B r w sb b N seed y K X)(hF:Fr (λk=>k∈sb::b.own) X X'):b1q B sb seed w X':=⟨h.fr.trans (hF.below_of h.sz h.pos),by
 obtain⟨b0,N0,y0,h0,hf,ho⟩:=h.fo
 exact⟨b0,N0,y0,h0,hf.trans hF (λk hk e=>by
  rcases Qo.1 e with e | e
  ·rw[e];exact Qr
  rcases ho k e with e | e
  ·exact Qj _ e
  omega)⟩⟩
theorem a4m.refF(h:a4m B r w sb b N seed y K X)(hF:Fr (λk=>k∈sb::b.own) X X')(a:k≠0):a6x B sb N0 seed (.error k) (.panicked [{v:=a2F k,recovered:=false}]) X'/\b1q B sb seed w X':=⟨⟨a,rfl⟩,h.frF hF⟩
theorem a4m.sto(h:a4m B r w sb b N seed y K X){a:AV}(d:(r,41,a)∈K)(f:a.size=139)(rs:LV)(g:rs.length=139)(j:∀v∈rs,v.oneCell'=true):(STs 41 (.pointer r) (.agg rs.toArray)).run prog X=.ok () (X.setRow r rs.toArray):=P9 a4h (h.kp _ d).1 f rs g j
end
theorem a4m.ref{X:WD}{a:Nat}{b:ShB}{N:List Nat}{y:ShD}{K:List Kpt}(h:a4m B r w a b N seed y K X)(d:k≠0):a6x B a N0 seed (.error k) (.panicked [{v:=a2F k,recovered:=false}]) X/\b1q B a seed w X:=⟨⟨d,rfl⟩,h.sb_⟩
theorem a8B(a:Nat)(b:ShB):∀k,k=a->k∈a::b.own:=λ_ e=>by rw[e];exact Qr
theorem c7I(a:Nat)(b:ShB):∀k,(k=b.cb\/k=b.cm)->k∈a::b.own:=λ_ e=>by rcases e with e | e<;>rw[e]<;>simp[ShB.own]
theorem c8Z(a:Nat)(b:ShB):∀k,(k=b.lb\/k=b.lm)->k∈a::b.own:=λ_ e=>by rcases e with e | e<;>rw[e]<;>simp[ShB.own]
theorem c8s(a:Nat)(b:ShB):∀k,k=b.km->k∈a::b.own:=λ_ e=>by rw[e];simp[ShB.own]
end
section
theorem b3s(a:k=(j:Int))(b:j<t.ins.length):inO t k=t.ins[j]:=by
 subst a;simp[inO,List.getD,b]
attribute [local go_sem ↓] a2q a6W
theorem a9m(cb cm:Nat)(C:List (Pt×a1q))(sC:Int)(lb lm:Nat)(Lk:List (Pt×a1J))(sL:Int)(a:OA)(b:Nat)(d:OA)(f:Nat)(t:TxD)(n me:Int)(B:-9223372036854775808<=n/\n<=9223372036854775807)(w:WD)(y:a0i w cb cm C sC)(o:a0j w lb lm Lk sL)(h:a9H w a d t)(m:a2x w)(z:t.ins.length<=1000000)(r:t.outs.length<=1000000):Calls prog 156 #[.agg (txV a b d f t),.int .i64 n,.int .i64 me,.pointer cb,.pointer lb] w λe w'=>e=.returned (.tuple #[.int .u64 (a1w n me C Lk t).1,.int .i64 (a1w n me C Lk t).2])/\Below w w w':=by
 generalize K:a1w n me C Lk t=q
 unfold a1w at K;have b0:=Qd w 53 (txV a b d f t);have B0:=ρb w (.cells (txV a b d f t) 53)
 generalize hW:w.alloc (.cells (txV a b d f t) 53)=W at b0 B0
 have⟨g,hg⟩:=ηs w;rw[hg]at b0;have ah:=λX (J:Below W W X)=>P4 uTx iTx (w:=X) (txV a b d f t).toList (by simpa using b0.fr (Q9 J) (ρh b0.lt)) rfl
 have ax:=ah W (Qf _ _);have aj:=λX (J:Below w w X)=>a6O a b d f t n me B X (h.below J) (m.below J) z r
 have aA:=a3L a b d f t W (h.below B0) z r;have aL:=λX (J:Below w w X)=>h.below J
 have k0:∀X,Below W W X->X.cell? ⟨g,0,none⟩=some (.slice a t.ins.length b):=λX J=>(b0.fr (Q9 J) (ρh b0.lt)).cell 0
 have ay:=a3I (a2P t n) me;have aT:=a1V (a2P t n) me;have I:=b0q t n;have aM:= @a4q t n;have O:=λh0=>(a4R (a4S h0).1 (t:=t)).2.2.2
 have⟨L,hL⟩:=η0 (a0M (a2P t n) me);have D:=λN=>b1k t n me (N:=N)
 rw[hL]at ay aT D K;simp only[hL]at aj
 have aJ:∀x∈L,∃i:Nat,x=(i:Int)/\i<t.ins.length:=λx hx=>by
  obtain⟨i,e,hi⟩:=(ay x).1 hx;exact⟨i,e,Qh (Qm.1 hi).1 I⟩
 have aX:L.length<=16:=ρo;have⟨xs,ak⟩:=η0 (txV a b d f t);simp only[show(txV a b d f t).toList.toArray=txV a b d f t by simp,ak]at ah ax;rw[ak]at hW aA⊢;simp only[ak]at aj;have⟨SA,aW⟩:=η0 (a6B t n me);rw[aW]at D K;have⟨ck,Q⟩:=η0 (a1a t);rw[Q]at aA K;simp only[Q]at O;have al:=λX (J:Below w w X) (i:InD) (hi:i.Bd) (Ai:OA) (ci:Nat) (bk:Ai=none->ci=0) (bg:i.sec.length<=400000000) (hs:Byt X Ai i.sec)=>c2w cb cm C sC lb lm Lk sL i hi Ai ci bk bg X (y.below J) (o.below J) hs (m.below J)
 have⟨HG,HB,K0,bb,bq,bl,bv,bn⟩:=η8 hg B0 k0 aL aJ D aX ah;have⟨bc,aG,a5,HQ,bB⟩:=η5 aj O al K Q;clear hg B0 k0 aL aJ D aX ah aj O al K Q ay aT I aM aW hL ak b0 h m y o;go_in;go_upto_region 3 with fail
 rw[HG.o];go_wp2_with fail;refine μi aA ?_;intro w1 ag;have ad:=φt HB ag;have ao:=bn.o w1 ag;have an:=bc.o w1 ad;have⟨aU,aY⟩:=η2 ad ag;clear ad ag ax
 by_cases ai:ck=0
 ·subst ai
  have K:=HQ.o;simp only[ne_eq,not_true_eq_false,if_false]at K;go_wp2_with fail;refine μ1 an ?_;rintro e2 w2 ⟨v,u,rfl,hv,hu,aC⟩;obtain⟨Av,Nv,cv,rfl⟩:=hv.formN;have hN:=hv.lenN;have aV:=hv.rd;have av:=φt aU aC;have ar:=φt aY aC;have bA:Nv<=16:=by have:=bv.o;omega
  have⟨HN,bi,aR,a6⟩:=η4 hN aV av ar;clear hN aV av ar hv hu aC ao
  by_cases aN:Nv=0
  ·subst aN
   have aa:L=[]:=ZG HN.symm;rw[if_pos aa]at K;subst K;clear aa;go_wp2;go_ret2;exact⟨rfl,aR.o⟩
  have aa:L≠[]:=λe=>aN (by rw[HN.o,e];rfl)
  rw[if_neg aa]at K;have aP:=b1Z t L;have aK:=bl.o Nv HN.symm;have be:((Nv:Int) == 0)=false:=by simp;omega
  have bf:decide ((Nv:Int)=0)=false:=by simp;omega
  have⟨a1,bh⟩:=η2 K aK;clear K aK aa;go_upto_region 11 with fail
  have a9:=η1 aP;clear aP be bf;go_loopg [15,17,18,42] Nv (λkk q _ _ s wr=>∃i:Nat,i+kk=Nv/\s=.int .i64 i/\q=.int .u64 (a7L t L i)/\b3P C Lk t (L.take i)=0/\Below w2 w2 wr);exact⟨0,by omega,rfl,by rw[a9.o],rfl,Qf _ _⟩;obtain⟨i,hi,rfl,rfl,H,T⟩:=hrel;have S:=φt aR T;have F:=φt a6 T
  by_cases ba:i<Nv
  ·have a0:(i:Int)<Nv:=ρo
   have I:i<L.length:=by rw[<-HN.o];exact ba
   have Z:=bb.o wr S;obtain⟨g1,o1,rfl,aQ,s1⟩:=bi.at I;have ab:=b2A t L I;obtain⟨j,hj,R⟩:=bq.o (L.getD i 0) (by simp[List.getD,I]);obtain⟨g2,o2,B2,d2,bo,aZ,ae⟩:=Z.ins j R;have V:=Z.bd.ins _ (Qu R);have aD:L[i]=(j:Int):=by rw[<-hj];simp[List.getD,I]
   have bm:=(T.cell (p:=⟨g1,o1+i,none⟩) aQ).trans s1;have aq:=Pf uIn iIn wr g2 (o2+j*35) (inV t.ins[j] B2 d2) (a3l V _ _) ae.cell;have E:=a5.o wr S t.ins[j] V B2 d2 ae.nul (by have:=aG.o trivial _ (Qu R);omega) ae.sec;have aI:t.ins.getD (L.getD i 0).toNat default=t.ins[j]:=by rw[hj];simp[List.getD,R]
   have az:b3P C Lk t (L.take (i+1))=inQ C Lk t.ins[j]:=by
    rw[Qe I,b3u _ _ H,b3P,b3s aD R,b3P]
    split<;>simp_all
   have D:inQ C Lk t.ins[j]≠0->b3P C Lk t L=inQ C Lk t.ins[j]:=λa7=>by
    have e:L=L.take i++(L[i]::L.drop (i+1)):=by rw[List.getElem_cons_drop,ZW]
    rw[e,b3u _ _ H,b3P,b3s aD R,if_pos a7]
   rw[aI]at ab;rw[hj]at bm;have U:=λX (J:Below wr.heap.size wr X)=>(J.cell (p:=⟨g2,o2+j*35+33,none⟩) aZ).trans (ae.cell 33 _ (c3t V _ _))
   have bu:=V.am;have br:=b2Z t L i;have⟨am,aB⟩:=η0 ((t.ins[j]).am);simp only[aB]at U;rw[aB]at ab bu;have k0:=K0.o wr F;have aH:=λX (J:Below wr.heap.size wr X)=>K0.o X (F.trans (J.mono F.size))
   have⟨ni,aE⟩:=η0 t.ins.length;rw[aE]at k0;simp only[aE]at aH;have bC:(j:Int)<ni:=ρo;have bD:(0:Int)<=(j:Int):=ρo
   generalize a8:a7L t L i=si at ab br⊢
   have⟨iv,a3⟩:=η0 (inV t.ins[j] B2 d2);rw[a3]at aq E;have⟨qe,G⟩:=η0 (inQ C Lk t.ins[j]);rw[G]at E az D;subst bo;have⟨bj,bw,aF,bz,a2,bt,af⟩:=η7 ab az D T U aH S;clear ab az D T U aH S ae aI aB aE a8 hj V s1 Z F G a3 aD aQ aZ;go_wp2_with fail;refine μi E ?_;intro w3 Y;have bx:=a2.o w3 Y;have bs:=bt.o w3 Y;clear E aq;have aS:=φt af Y;have au:=φt bz Y;have⟨bp,a4⟩:=η2 aS au;clear aS au Y
   by_cases G:qe=0
   ·subst G
    go_wp2;go_roundg (Nv-(i+1));exact⟨i+1,by omega,by go_num,by rw[bj.o],bw.o,a4.o⟩;omega
   have bE:(qe != 0)=true:=ρw G;have ac:=a1.o;have aO:=aF.o G;rw[aO,if_pos G]at ac;subst ac;clear aO G bx bs;go_wp2;go_ret2;exact⟨rfl,bp.o⟩
  obtain rfl:i=Nv:=ρo;have a0:¬(i:Int)<i:=ρo;rw[bh.o];have ac:=a1.o;rw[Qb (by rw[HN.o];exact Qg _)]at H;rw[H,if_neg ρp]at ac;subst ac;have af:=η1 S;clear S T F H;go_wp2;go_ret2;exact⟨rfl,af.o⟩
 have K:=HQ.o;rw[if_pos ai]at K;subst K;have bF:(ck != 0)=true:=ρw ai;clear ai an ao;go_wp2;go_ret2;exact⟨rfl,aU.o⟩
end
section
theorem d0F:prog.underlying 204=some (.slice 189):=ρk
theorem d3x:(prog.info? 189).map (λi=>(i.zero.map (·.cells.size),i.size,i.bytes))=some (some 33,33,40):=ρk
theorem d2j:(prog.info? 189).map (λi=>(i.zero.map (·.cells.size),i.size))=some (some 33,33):=ρk
theorem d3h:prog.underlying 209=some (.slice 212):=ρk
theorem d3I:(prog.info? 212).map (λi=>(i.zero.map (·.cells.size),i.size,i.bytes))=some (some 33,33,40):=ρk
theorem d2U:(prog.info? 212).map (λi=>(i.zero.map (·.cells.size),i.size))=some (some 33,33):=ρk
theorem c4Q(xs:AV)(t:TI):Builtin.append_ #[204,204] t xs=APs #[204,204] t xs:=rfl
theorem c4k(n:Nat)(a:Array (Nat×VL)):Instr.buildSlice 204 n a=BSs 204 n a:=rfl
theorem c5S(xs:AV)(t:TI):Builtin.append_ #[209,209] t xs=APs #[209,209] t xs:=rfl
theorem c4p(n:Nat)(a:Array (Nat×VL)):Instr.buildSlice 209 n a=BSs 209 n a:=rfl
attribute [local go_sem] Oper.semAt_some
attribute [local go_sem ↓] a1F a4Z a5p a9U b0n b0f c4Q c4k c5S c4p
theorem b9E(gf:Nat)(lb:AV)(b:∀args w,(callFunc gf args).run prog w=.ok (.enter gf args) w){S d:List {a // ptE.ok a}->Prop}(f:N<=1000000)(w:WD) (hseq:SeqStopsK Fence.wide 7 prog gf lb (λx:{a // ptE.ok a}=>#[.agg (ptE.e x.1).toArray]) KeepsWalks S d N w):Calls prog 258 #[.slice none 0 0,.func (.func gf) #[] lb] w λe w'=>∃v ss,e=.returned v/\S ss/\a0T 189 33 w.heap.size w' v (ss.map (λx=>ptE.e x.1))/\Below w.heap.size w w':=by
 have⟨g,hg⟩:=ηs w;have b0:=Qd w 204 #[.slice none 0 0];have T:=ρb w (.cells #[.slice none 0 0] 204);obtain⟨Z,ad,aa,hz⟩:=P8 (t:=189) a1H c3w;have⟨W0,R⟩:=η0 (w.alloc (.cells #[.slice none 0 0] 204));have ak:W0.heap.size=g+1:=by rw[<-R,Qi,hg]
 rw[R]at b0 T;rw[hg]at b0 T;have⟨aB,aG,HG,aD,aq,ai,aA⟩:=η7 ad aa hg R T ak b0;clear ad aa R T ak b0;refine(callsIn_wide (n:=8)).1 ?_;refine callsIn_of_wp_marks func258 rfl trivial ?_ rfl;refine wpIn_wide.2 ?_;simp only[ntmps258,Qc,Qy,Qv,Nat.reduceAdd,Nat.reduceSub,QW,QX,Ze,QZ,QF,QG];go_wp2_with fail;rw[aD.o]
 try rw[HG.o]
 refine(wpIn_wide (n:=8)).1 ?_
 refine wpIn_rangeFunc_ownH rfl ρo (gf:=gf) (lb:=lb) rfl trivial b hseq walksK_t (walksK_b) (ρy HG.o aq.o) (λ_=>rfl)
  (λJ W=>∃v,Blk W g 204 #[v]/\a0T 189 33 g W v (J.map (λx=>ptE.e x.1))/\Below g w W)
  (λc J W=>False)
  (λs X Y row hs V hr=>?b2)
  (λc s X Y row hs V hr=>hs)
  ⟨_,aA.o,a0T.nil _ _ _ _,aq.o⟩
  (λx a' W=>∃p,g<p/\Blk W p 189 (ptE.e x.1).toArray/\a'={tmps:=#[.slice none 0 0,.func (.func gf) #[] lb,.pointer g,undef,.slice none 0 0,.pointer (some ⟨p,0,none⟩),.func (.func gf) #[] lb,.agg (ptE.e x.1).toArray,undef,undef,undef,undef,undef],defers:=[]})
  (λx a' s X Y row hs V hr=>?b3)
  ?assign ?body ?done ?stop
 case b2=>
  obtain⟨v,y,z,I⟩:=hs;have ag:=a8m V
  have K:∀r cs t,row=some r->Blk X r t cs->False:=λr cs t e hb=>by
   obtain⟨_,ob,B,hc⟩:=hr r e;rw[show X.heap[r]? =_ from hb]at B
   cases B
   cases hc
  refine⟨v,y.fr ag (λe=>K _ _ _ e y),z.fr ag (λj H e=>?_),?_⟩
  ·obtain⟨cs,E,_⟩:=a2B z.own H
   exact K _ _ _ e E
  exact I.trans (ag.below (ρh I.size) (λk hk e=>by have:=(hr k e).1;rw[ai.o]at this;omega))
 case b3=>
  obtain⟨p,k0,y,z⟩:=hs;refine⟨p,k0,y.fr (a8m V) (λe=>?_),z⟩;obtain⟨_,ob,B,hc⟩:=hr p e;rw[show X.heap[p]? =_ from y]at B
  cases B
  cases hc
 case assign=>
  rintro l' J x W KK ⟨v,y,z,I⟩ hK;have⟨Q,m⟩:=η0 (ptE.e x.1);have O:Q.length=33:=by rw[<-m];exact a1x x.2.len _
  have af:∀u∈Q,u.oneCell'=true:=by rw[<-m];exact a2p _ _
  have ad:=aB.o W;have aL:=aG.o W Q O af;have aO:=y.lt
  have ar:=hK {tmps:=#[.slice none 0 0,.func (.func gf) #[] lb,.pointer g,undef,.slice none 0 0,.pointer (some ⟨W.heap.size,0,none⟩),.func (.func gf) #[] lb,.agg (ptE.e x.1).toArray,undef,undef,undef,undef,undef],defers:=[]} (W.alloc (.cells Q.toArray 189))
   ((KeepsOthers.alloc _ _).from _) (KeepsWalks.alloc _ _) ⟨v,y.alloc _,z.alloc _,I.alloc (ρh I.size) _⟩ ⟨W.heap.size,y.lt,by rw[m];exact Qd W _ _,rfl⟩
  clear hK y z I;simp only[m]at ar⊢
  gi_wp2
  exact ar
 case body=>
  rintro l' J x a' W aF ⟨r,hr⟩ ⟨v,y,z,I⟩ ⟨p,k0,kp,rfl⟩ aK;have⟨Q,m⟩:=η0 (ptE.e x.1);have O:Q.length=33:=by rw[<-m];exact a1x x.2.len _
  have af:∀u∈Q,u.oneCell'=true:=by rw[<-m];exact a2p _ _
  rw[m]at kp;rw[m];have aJ:=P4 a3a a1H Q kp O;have ax:=Pd d0F d2j ρo ρo W (.agg Q.toArray) (by simp only[Value.cells,Qc];exact O);obtain⟨v9,w9,aM,ae,ac,an⟩:=a5o (P:=prog) (ty:=204) d0F d3x ρo ρo z Q O af (by simp;omega) (ρh I.size);obtain⟨A,nn,c,rfl,av⟩:=z.formN;obtain⟨A9,n9,c9,rfl,aH⟩:=ae.formN;have c0:W.cell? ⟨g,0,none⟩=some (.slice A nn c):=y.cell 0;have ab:=a4l z.own y ρd;have U:=y.fr ac (λe=>ab e);have aI:w9.cell? ⟨g,0,none⟩=some (.slice A nn c):=U.cell 0;have f9:=U.frozen 0;have⟨K1,K2,K3,KP,al,O9,F9,aC⟩:=η8 y z I kp U ae ac m;have aN:=η1 av;clear y z I kp U ae ac an ab m aF hr av aH;simp only[Value.cells]at ax
  gi_wp2
  have hF:Fr (λj=>j=g\/(Value.slice A nn c).ownBlock=some j) W (w9.setCell ⟨g,0,none⟩ (.slice A9 n9 c9)):=((F9.o).mono (G:=λj=>j=g\/(Value.slice A nn c).ownBlock=some j) (λj _ h=>.inr h)).setCell (p:=⟨g,0,none⟩) (λ_=>.inl rfl) _;refine⟨KeepsOthers.from (a4P hF (λj o H B=>?_)) _,(a4P hF (λj o H B=>?_)).walks,⟨.slice A9 n9 c9,by simpa using al.set_ 0 (.slice A9 n9 c9),?_,?_⟩⟩
  ·rcases H with rfl | H
   ·rw[show W.heap[j]? =_ from K1.o]at B
    cases B
    rfl
   obtain⟨cs,E,_⟩:=a2B K2.own H;rw[show W.heap[j]? =_ from E]at B
   cases B
   rfl
  ·rcases H with rfl | H
   ·rw[show W.heap[j]? =_ from K1.o]at B
    cases B
    rfl
   obtain⟨cs,E,_⟩:=a2B K2.own H;rw[show W.heap[j]? =_ from E]at B
   cases B
   rfl
  ·rw[QV,Yl,List.map_nil,aC.o]
   have az:=a4l O9.own al.o ρd;exact O9.fr (F:=λj=>j=g) ((Qp (λj=>j=g) w9).setCell (p:=⟨g,0,none⟩) (λ_=>rfl) _) (λj H e=>az (e ▸ H))
  exact K3.trans (hF.below (ρh K3.o.size) (λk hk e=>by
   rcases e with rfl | e
   ·omega
   have:=(K2.lt e).1;omega))
 case done=>
  rintro D ys W hD hS ⟨v,y,z,I⟩ hK;have c0:W.cell? ⟨g,0,none⟩=some v:=y.cell 0
  have aj:∀r cs t,Blk W r t cs->r≠D:=λr cs t hb e=>by
   have h1:=hK;rw[<-e,show W.heap[r]? =_ from hb]at h1
   cases h1
  have⟨K1,K2,K3,ah,au,ay,aE⟩:=η7 y z I hK hD aj hS;clear y z I hK hD aj hS;go_wp2_with fail;refine⟨by simp,.inl ⟨_,_,rfl,run_takeDeferred ah.o,?_⟩⟩;have ao:=c2Y (.deferred none) au.o ah rfl rfl
  refine⟨_,results_tmp rfl _ _ _,v,ys,rfl,aE.o,(show a0T 189 33 w.heap.size _ v _ by rw[HG.o];exact K2.fr ao (λj H e=>by
   obtain⟨cs,E,_⟩:=a2B K2.own H;exact ay.o _ _ _ E e)),(show Below w.heap.size w _ by rw[HG.o];exact K3.trans (ao.below (ρi K3.o.size HG.o) (λk hk e=>by have:=au.o;have:=ai.o;omega)))⟩
 case stop=>
  rintro D c J W _ _ hF _;exact hF.elim
theorem b4H(gf:Nat)(lb:AV)(b:∀args w,(callFunc gf args).run prog w=.ok (.enter gf args) w){S d:List {a // ptE.ok a}->Prop}(f:N<=1000000)(w:WD) (hseq:SeqStopsK Fence.wide 7 prog gf lb (λx:{a // ptE.ok a}=>#[.agg (ptE.e x.1).toArray]) KeepsWalks S d N w):Calls prog 226 #[.func (.func gf) #[] lb] w λe w'=>∃v ss,e=.returned v/\S ss/\a0T 189 33 w.heap.size w' v (ss.map (λx=>ptE.e x.1))/\Below w.heap.size w w':=by
 have o:=b9E gf lb b f w hseq;clear hseq;go_in;go_wp2_with fail;refine μ1 o ?_;rintro r p ⟨v,ss,rfl,j,g,m⟩;go_wp2;go_ret;exact⟨v,ss,rfl,j,g,m⟩
theorem b8E(gf:Nat)(lb:AV)(b:∀args w,(callFunc gf args).run prog w=.ok (.enter gf args) w){S d:List {a // keE.ok a}->Prop}(f:N<=1000000)(w:WD) (hseq:SeqStopsK Fence.wide 7 prog gf lb (λx:{a // keE.ok a}=>#[.agg (keE.e x.1).toArray]) KeepsWalks S d N w):Calls prog 261 #[.slice none 0 0,.func (.func gf) #[] lb] w λe w'=>∃v ss,e=.returned v/\S ss/\a0T 212 33 w.heap.size w' v (ss.map (λx=>keE.e x.1))/\Below w.heap.size w w':=by
 have⟨g,hg⟩:=ηs w;have b0:=Qd w 209 #[.slice none 0 0];have T:=ρb w (.cells #[.slice none 0 0] 209);obtain⟨Z,ad,aa,hz⟩:=P8 (t:=212) c1B d1x;have⟨W0,R⟩:=η0 (w.alloc (.cells #[.slice none 0 0] 209));have ak:W0.heap.size=g+1:=by rw[<-R,Qi,hg]
 rw[R]at b0 T;rw[hg]at b0 T;have⟨aB,aG,HG,aD,aq,ai,aA⟩:=η7 ad aa hg R T ak b0;clear ad aa R T ak b0;refine(callsIn_wide (n:=8)).1 ?_;refine callsIn_of_wp_marks func261 rfl trivial ?_ rfl;refine wpIn_wide.2 ?_;simp only[ntmps261,Qc,Qy,Qv,Nat.reduceAdd,Nat.reduceSub,QW,QX,Ze,QZ,QF,QG];go_wp2_with fail;rw[aD.o]
 try rw[HG.o]
 refine(wpIn_wide (n:=8)).1 ?_
 refine wpIn_rangeFunc_ownH rfl ρo (gf:=gf) (lb:=lb) rfl trivial b hseq walksK_t (walksK_b) (ρy HG.o aq.o) (λ_=>rfl)
  (λJ W=>∃v,Blk W g 209 #[v]/\a0T 212 33 g W v (J.map (λx=>keE.e x.1))/\Below g w W)
  (λc J W=>False)
  (λs X Y row hs V hr=>?b2)
  (λc s X Y row hs V hr=>hs)
  ⟨_,aA.o,a0T.nil _ _ _ _,aq.o⟩
  (λx a' W=>∃p,g<p/\Blk W p 212 (keE.e x.1).toArray/\a'={tmps:=#[.slice none 0 0,.func (.func gf) #[] lb,.pointer g,undef,.slice none 0 0,.pointer (some ⟨p,0,none⟩),.func (.func gf) #[] lb,.agg (keE.e x.1).toArray,undef,undef,undef,undef,undef],defers:=[]})
  (λx a' s X Y row hs V hr=>?b3)
  ?assign ?body ?done ?stop
 case b2=>
  obtain⟨v,y,z,I⟩:=hs;have ag:=a8m V
  have K:∀r cs t,row=some r->Blk X r t cs->False:=λr cs t e hb=>by
   obtain⟨_,ob,B,hc⟩:=hr r e;rw[show X.heap[r]? =_ from hb]at B
   cases B
   cases hc
  refine⟨v,y.fr ag (λe=>K _ _ _ e y),z.fr ag (λj H e=>?_),?_⟩
  ·obtain⟨cs,E,_⟩:=a2B z.own H
   exact K _ _ _ e E
  exact I.trans (ag.below (ρh I.size) (λk hk e=>by have:=(hr k e).1;rw[ai.o]at this;omega))
 case b3=>
  obtain⟨p,k0,y,z⟩:=hs;refine⟨p,k0,y.fr (a8m V) (λe=>?_),z⟩;obtain⟨_,ob,B,hc⟩:=hr p e;rw[show X.heap[p]? =_ from y]at B
  cases B
  cases hc
 case assign=>
  rintro l' J x W KK ⟨v,y,z,I⟩ hK;have⟨Q,m⟩:=η0 (keE.e x.1);have O:Q.length=33:=by rw[<-m];exact a6m x.2.len _
  have af:∀u∈Q,u.oneCell'=true:=by rw[<-m];exact a7K _ _
  have ad:=aB.o W;have aL:=aG.o W Q O af;have aO:=y.lt
  have ar:=hK {tmps:=#[.slice none 0 0,.func (.func gf) #[] lb,.pointer g,undef,.slice none 0 0,.pointer (some ⟨W.heap.size,0,none⟩),.func (.func gf) #[] lb,.agg (keE.e x.1).toArray,undef,undef,undef,undef,undef],defers:=[]} (W.alloc (.cells Q.toArray 212))
   ((KeepsOthers.alloc _ _).from _) (KeepsWalks.alloc _ _) ⟨v,y.alloc _,z.alloc _,I.alloc (ρh I.size) _⟩ ⟨W.heap.size,y.lt,by rw[m];exact Qd W _ _,rfl⟩
  clear hK y z I;simp only[m]at ar⊢
  gi_wp2
  exact ar
 case body=>
  rintro l' J x a' W aF ⟨r,hr⟩ ⟨v,y,z,I⟩ ⟨p,k0,kp,rfl⟩ aK;have⟨Q,m⟩:=η0 (keE.e x.1);have O:Q.length=33:=by rw[<-m];exact a6m x.2.len _
  have af:∀u∈Q,u.oneCell'=true:=by rw[<-m];exact a7K _ _
  rw[m]at kp;rw[m];have aJ:=P4 c7f c1B Q kp O;have ax:=Pd d3h d2U ρo ρo W (.agg Q.toArray) (by simp only[Value.cells,Qc];exact O);obtain⟨v9,w9,aM,ae,ac,an⟩:=a5o (P:=prog) (ty:=209) d3h d3I ρo ρo z Q O af (by simp;omega) (ρh I.size);obtain⟨A,nn,c,rfl,av⟩:=z.formN;obtain⟨A9,n9,c9,rfl,aH⟩:=ae.formN;have c0:W.cell? ⟨g,0,none⟩=some (.slice A nn c):=y.cell 0;have ab:=a4l z.own y ρd;have U:=y.fr ac (λe=>ab e);have aI:w9.cell? ⟨g,0,none⟩=some (.slice A nn c):=U.cell 0;have f9:=U.frozen 0;have⟨K1,K2,K3,KP,al,O9,F9,aC⟩:=η8 y z I kp U ae ac m;have aN:=η1 av;clear y z I kp U ae ac an ab m aF hr av aH;simp only[Value.cells]at ax
  gi_wp2
  have hF:Fr (λj=>j=g\/(Value.slice A nn c).ownBlock=some j) W (w9.setCell ⟨g,0,none⟩ (.slice A9 n9 c9)):=((F9.o).mono (G:=λj=>j=g\/(Value.slice A nn c).ownBlock=some j) (λj _ h=>.inr h)).setCell (p:=⟨g,0,none⟩) (λ_=>.inl rfl) _;refine⟨KeepsOthers.from (a4P hF (λj o H B=>?_)) _,(a4P hF (λj o H B=>?_)).walks,⟨.slice A9 n9 c9,by simpa using al.set_ 0 (.slice A9 n9 c9),?_,?_⟩⟩
  ·rcases H with rfl | H
   ·rw[show W.heap[j]? =_ from K1.o]at B
    cases B
    rfl
   obtain⟨cs,E,_⟩:=a2B K2.own H;rw[show W.heap[j]? =_ from E]at B
   cases B
   rfl
  ·rcases H with rfl | H
   ·rw[show W.heap[j]? =_ from K1.o]at B
    cases B
    rfl
   obtain⟨cs,E,_⟩:=a2B K2.own H;rw[show W.heap[j]? =_ from E]at B
   cases B
   rfl
  ·rw[QV,Yl,List.map_nil,aC.o]
   have az:=a4l O9.own al.o ρd;exact O9.fr (F:=λj=>j=g) ((Qp (λj=>j=g) w9).setCell (p:=⟨g,0,none⟩) (λ_=>rfl) _) (λj H e=>az (e ▸ H))
  exact K3.trans (hF.below (ρh K3.o.size) (λk hk e=>by
   rcases e with rfl | e
   ·omega
   have:=(K2.lt e).1;omega))
 case done=>
  rintro D ys W hD hS ⟨v,y,z,I⟩ hK;have c0:W.cell? ⟨g,0,none⟩=some v:=y.cell 0
  have aj:∀r cs t,Blk W r t cs->r≠D:=λr cs t hb e=>by
   have h1:=hK;rw[<-e,show W.heap[r]? =_ from hb]at h1
   cases h1
  have⟨K1,K2,K3,ah,au,ay,aE⟩:=η7 y z I hK hD aj hS;clear y z I hK hD aj hS;go_wp2_with fail;refine⟨by simp,.inl ⟨_,_,rfl,run_takeDeferred ah.o,?_⟩⟩;have ao:=c2Y (.deferred none) au.o ah rfl rfl
  refine⟨_,results_tmp rfl _ _ _,v,ys,rfl,aE.o,(show a0T 212 33 w.heap.size _ v _ by rw[HG.o];exact K2.fr ao (λj H e=>by
   obtain⟨cs,E,_⟩:=a2B K2.own H;exact ay.o _ _ _ E e)),(show Below w.heap.size w _ by rw[HG.o];exact K3.trans (ao.below (ρi K3.o.size HG.o) (λk hk e=>by have:=au.o;have:=ai.o;omega)))⟩
 case stop=>
  rintro D c J W _ _ hF _;exact hF.elim
theorem b5i(gf:Nat)(lb:AV)(b:∀args w,(callFunc gf args).run prog w=.ok (.enter gf args) w){S d:List {a // keE.ok a}->Prop}(f:N<=1000000)(w:WD) (hseq:SeqStopsK Fence.wide 7 prog gf lb (λx:{a // keE.ok a}=>#[.agg (keE.e x.1).toArray]) KeepsWalks S d N w):Calls prog 230 #[.func (.func gf) #[] lb] w λe w'=>∃v ss,e=.returned v/\S ss/\a0T 212 33 w.heap.size w' v (ss.map (λx=>keE.e x.1))/\Below w.heap.size w w':=by
 have o:=b8E gf lb b f w hseq;clear hseq;go_in;go_wp2_with fail;refine μ1 o ?_;rintro r p ⟨v,ss,rfl,j,g,m⟩;go_wp2;go_ret;exact⟨v,ss,rfl,j,g,m⟩
end
section
theorem b7j:a3s prog 34=some [(0,1),(1,1),(2,32),(34,1),(35,1),(36,1)]:=ρk
theorem b6W:(((prog.info? 34).bind (·.zero)).map (·.cells.toList))=some (a0x a4i):=ρk
def a7R:LI:=List.replicate 32 0
theorem a7x:a7R.length=32:=by simp[a7R]
theorem Dig.zIdY:Dig a7R:=ZZ
theorem c0K(h:tx.length=32)(am a v:Int):(a0x ⟨k,0,tx,am,a,0⟩).take 35++(Value.int .i64 v).cells.toList++(a0x ⟨k,0,tx,am,a,0⟩).drop (35+1)=a0x ⟨k,0,tx,am,v,0⟩:=by
 have d:(bys tx).length=32:=by rw[a0a,h]
 have t1:List.take 33 (bys tx)=bys tx:=Qb ρo;have b:List.drop 34 (bys tx)=[]:=Yc ρo;simp[a0x,Value.cells,QT,QR,d,t1,b]
theorem c2j(h:tx.length=32)(am a v:Int):(a0x ⟨k,0,tx,am,a,0⟩).take 34++(Value.int .u64 v).cells.toList++(a0x ⟨k,0,tx,am,a,0⟩).drop (34+1)=a0x ⟨k,0,tx,v,a,0⟩:=by
 have d:(bys tx).length=32:=by rw[a0a,h]
 have t1:List.take 32 (bys tx)=bys tx:=Qb ρo;have b:List.drop 33 (bys tx)=[]:=Yc ρo;simp[a0x,Value.cells,QT,QR,d,t1,b]
theorem d1i{a:LI}(h:tx.length=32)(d:a.length=32)(am b:Int):(a0x ⟨k,0,tx,am,b,0⟩).take 2++(Value.agg (bys a).toArray).cells.toList++(a0x ⟨k,0,tx,am,b,0⟩).drop (2+32)=a0x ⟨k,0,a,am,b,0⟩:=by
 have g:(bys tx).length=32:=by rw[a0a,h]
 have f:(bys a).length=32:=by rw[a0a,d]
 have j:List.drop 32 (bys tx)=[]:=Yc ρo;simp[a0x,Value.cells,QT,QR,g,j]
theorem b7Y(k:Int):(a0x a4i).take 0++(Value.int .i64 k).cells.toList++(a0x a4i).drop (0+1)=a0x ⟨k,0,a7R,0,0,0⟩:=rfl
theorem a7F(h:tx.length=32)(am a:Int):(a0x ⟨k,0,tx,am,a,0⟩).length=37:=by simp[a0x,a0a,h]
theorem b2Q(k a:Int)(w:WD):(BDs 34 #[(0,.int .i64 k),(4,.int .i64 a)]).run prog w=.ok (.agg (a0x ⟨k,0,a7R,0,a,0⟩).toArray) w:=by
 refine a2H b7j b6W _ _ ?_ w;rw[a0v (off:=0) (size:=1) rfl rfl (by rw[a0u a3T];omega),b7Y,a0v (off:=35) (size:=1) rfl rfl (by rw[a7F a7x];omega),c0K a7x,a1Y]
theorem c4C(k am:Int)(w:WD):(BDs 34 #[(0,.int .i64 k),(3,.int .u64 am)]).run prog w=.ok (.agg (a0x ⟨k,0,a7R,am,0,0⟩).toArray) w:=by
 refine a2H b7j b6W _ _ ?_ w;rw[a0v (off:=0) (size:=1) rfl rfl (by rw[a0u a3T];omega),b7Y,a0v (off:=34) (size:=1) rfl rfl (by rw[a7F a7x];omega),c2j a7x,a1Y]
theorem b4k(k am a:Int)(w:WD):(BDs 34 #[(0,.int .i64 k),(3,.int .u64 am),(4,.int .i64 a)]).run prog w=.ok (.agg (a0x ⟨k,0,a7R,am,a,0⟩).toArray) w:=by
 refine a2H b7j b6W _ _ ?_ w;rw[a0v (off:=0) (size:=1) rfl rfl (by rw[a0u a3T];omega),b7Y,a0v (off:=34) (size:=1) rfl rfl (by rw[a7F a7x];omega),c2j a7x,a0v (off:=35) (size:=1) rfl rfl (by rw[a7F a7x];omega),c0K a7x,a1Y]
theorem a7g(k:Int)(h:tx.length=32)(am a:Int)(w:WD):(BDs 34 #[(0,.int .i64 k),(2,.agg (bys tx).toArray),(3,.int .u64 am),(4,.int .i64 a)]).run prog w=.ok (.agg (a0x ⟨k,0,tx,am,a,0⟩).toArray) w:=by
 have b:(bys tx).length=32:=by rw[a0a,h]
 refine a2H b7j b6W _ _ ?_ w;rw[a0v (off:=0) (size:=1) rfl rfl (by rw[a0u a3T];omega),b7Y,a0v (off:=2) (size:=32) rfl (by simp[Value.cells,b]) (by rw[a7F a7x];omega),d1i a7x h,a0v (off:=34) (size:=1) rfl rfl (by rw[a7F h];omega),c2j h,a0v (off:=35) (size:=1) rfl rfl (by rw[a7F h];omega),c0K h,a1Y]
theorem b1v{am a:Int}(d:0<=k/\k<=63)(ht:Dig tx)(b:0<=am/\am<=18446744073709551615)(f:0<=a/\a<=63):(⟨k,0,tx,am,a,0⟩:a1P).Bd:=
 ⟨by show InI k;unfold InI;omega,by simp[InI],ht,b,by show InI a;unfold InI;omega,by simp[InI]⟩
def b5q(seed:LI)(x:ShD)(cmd:LI)(ep:Int):Except Int (ShD×RpD):=
 if ep<=x.ep then .error 24 else if x.ep+1<ep then .error 5 else b9r seed {x with ep:=ep} cmd ⟨3,0,a7R,0,7,0⟩
attribute [local go_sem ↓] a1G a1M a3j
theorem c5V(B d:Nat)(b:ShB)(N:List Nat)(seed:LI)(x:ShD)(A:OA)(n c:Nat)(a:LI)(o:n=a.length)(z:A=none->c=0)(m:a.length<=100000000)(ep:Int)(f:-9223372036854775808<=ep/\ep<=1099511627776)(w:WD) (h:a1e w d b N seed x) (hB:∀j∈d::b.own,B<=j) (hby:b9j B w A a) (hgl:a8S B w):Calls prog 92 #[.pointer d,.slice A n c,.int .i64 ep] w λe w'=>a6x B d N seed (b5q seed x a ep) e w'/\b1q B d seed w w':=by
 generalize D:b5q seed x a ep=q
 unfold b5q at D;have⟨g,hg⟩:=ηs w;have ar:=a5k w;have⟨zs,ae⟩:=η0 ((a0O 0 false a0r none 0).toArray);have aa:zs.size=139:=by rw[<-ae,Qc];exact a0A a0B _ _ _ _
 rw[ae,hg]at ar;have bz:=Qd w 41 zs;have B0:=ρb w (.cells zs 41)
 generalize hV:w.alloc (.cells zs 41)=V at ar bz B0
 have G:=a4m.begin h hB B0 (r:=w.heap.size) ⟨Qg _,bz.lt⟩ (K:=[(w.heap.size,41,zs)]) (λq D=>by simp only[Qn]at D;subst D;exact⟨Qg _,bz⟩);rw[hg]at G;have I:=λb=>a0X b 24 V
 have aA:=λb=>a0X b 5 V
 have Q:=a1o V;have ab:=a1m 24 ρo V;have ad:=a1m 5 ρo V;have q3:=G.sh.c.2.2.2.1;have T:=G.sh.ok.ep;have aq:IntKind.i64.wrap (x.ep+1)=x.ep+1:=by rw[IntKind.wrap_i64];omega
 have⟨HX,HQ,aK,aF,aH,aQ,aO,aS⟩:=η8 G D aa hby hgl o z m;have⟨HG,aB,aG,aP⟩:=η4 hg aA f T;clear G D aa hby hgl o z m hg aA f T ae bz B0 h hB;go_in
 by_cases h1:ep<=x.ep
 ·have D:=HQ.o
  rw[if_pos h1]at D;subst D;have hi:=I true;simp only[if_true]at hi;have ax:decide (ep<=x.ep)=true:=ρw h1;clear I Q ad aq;go_wp2_with fail;refine μf hi ?_;go_wp2_with fail;refine μf ab ?_;exact⟨rfl,HX.ref ρo⟩
 have hi:=I false;simp only[QI,if_false]at hi;have ax:decide (ep<=x.ep)=false:=ρw h1;go_wp2_with fail;refine μf hi ?_;go_wp2_with fail;refine μf Q ?_;clear hi I ab ax;have D:=HQ.o;rw[if_neg ρo]at D
 by_cases h2:x.ep+1<ep
 ·rw[if_pos h2]at D
  subst D;have hi:=aB.o true;simp only[if_true]at hi;have au:decide (x.ep+1<ep)=true:=ρw h2;clear Q;go_wp2_with fail;refine μf hi ?_;go_wp2_with fail;refine μf ad ?_;exact⟨rfl,HX.ref ρo⟩
 rw[if_neg h2]at D;have hi:=aB.o false;simp only[QI,if_false]at hi;have au:decide (x.ep+1<ep)=false:=ρw h2;go_wp2_with fail;refine μf hi ?_;go_wp2_with fail;refine μf Q ?_;clear hi ad Q au;have G:=HX.o;have z3:=G.sh.st.frozen 3;have k3:=G.sh.st.set_ 3 (.int .i64 ep);rw[d0G]at k3;have f3:Fr (λk=>k=d) V (V.setCell ⟨d,3,none⟩ (.int .i64 ep)):=(Qp (λk=>k=d) V).setCell (p:=⟨d,3,none⟩) (λ_=>rfl) _
 generalize hY:V.setCell ⟨d,3,none⟩ (.int .i64 ep)=Y at k3 f3
 have f:=aG.o;have T:=aP.o;have O:b9N {x with ep:=ep}:={G.sh.ok with ep:=⟨by show 0<=ep;omega,by show ep<=_;omega⟩};have⟨y,hy⟩:=η0 ({x with ep:=ep});rw[hy]at k3 O D;have R:=G.step' (G.sh.upd f3 k3 O (by rw[<-hy]) (by rw[<-hy]) (by rw[<-hy]) (by rw[<-hy]) (by rw[<-hy]) (by rw[<-hy])) (f3.mono (λk _ e=>a8B d b k e));have aE:=b2Q 3 7;have af:(⟨3,0,a7R,0,7,0⟩:a1P).Bd:=b1v ρo Dig.zIdY ρo ρo;have J:=a5C d b (g::N) seed y A n c a aQ aO aS ⟨3,0,a7R,0,7,0⟩ af Y R.sh (aF.go R.fr).at_ (aH.go R.fr).at_;have⟨e0,ac⟩:=η0 ((⟨3,0,a7R,0,7,0⟩:a1P):a1P);rw[ac]at J D af;simp only[ac]at aE;have⟨ev,aj⟩:=η0 ((a0x e0).toArray);rw[aj]at J;simp only[aj]at aE;unfold b9r at D;have⟨Z,aR,HY⟩:=η3 R D hY;clear R D hY G k3 f3 f T O hy af ac aj aq h2;go_wp2_with fail;rw[HY.o];refine μ1 J ?_;rintro e5 w5 ⟨al,an⟩;clear J;have D:=aR.o;have S:=an.mono (λk _ e=>a8B d b k e)
 rcases al with⟨O,A5,H,rfl,P,ay⟩ | ⟨aI,hk,rfl⟩
 rotate_left
 ·rw[if_neg (by rw[aI];simp)]at D
  subst D;exact⟨rfl,Z.refF S hk⟩
 rw[if_pos O]at D;subst D
 generalize az:a9F seed y a e0=cc at P⊢
 have ah:=Z.step' ay S;have F:=a5d cc P.1 A5 H w5;have ao:g<Y.heap.size:=(Z.kp _ Qr).1.lt;have aD:=Z.sz;have W:=a0A P.1 0 true A5 H;have U:=λX G=>(ah.below (X':=X) G).sto Qr aK.o (a0O 0 true cc A5 H) W (a0W _ _ _ _ _)
 have E:=λX G=>(ah.below (X':=X) G).fin Qr (N0:=N) (λj hj=>Qj _ hj) (y0:={y with h:=a4T y a e0}) rfl (rp:=a2O cc) aD ao (P.below G) rfl
 have⟨rs,ak⟩:=η0 (a0O 0 true cc A5 H);simp only[a2O,ak]at U E F;rw[ak]at W
 generalize aN:a0d cc A5 H=cv at F⊢
 have⟨aT,av,aL,aM⟩:=η4 U E W az;clear U E W az ah P ay an S O ao aD ak aN;go_wp2_with fail;refine μi F ?_;intro w6 ag;have U:=aT.o w6 ag;have E:=av.o w6 ag;have ai:=η1 E;clear E ag;clear F;go_wp2_with fail;obtain⟨dR,aJ,aC⟩:=Q8.1 a7w;refine bodyPost_ret (v:=.agg rs.toArray) (a0c rfl _ _ g _ rs dR rfl ai.2.2 aJ aC (ρy aL.o a4h)) rfl ?_;exact⟨by rw[aM.o];exact ai.1,ai.2.1⟩
end
section
theorem b5E{i:InD}{k:Nat}(h:(ptL (ptI i).1 (ptI i).2)[k]? =some v):(inV i A c)[k]? =some v:=by
 have a:k<(ptL i.tx i.ix).length:=(Qm.1 h).1;unfold inV;rw[QO (by exact a)];exact h
def c2G(n me:Int)(C:List (Pt×a1q))(sC:Int)(Lk:List (Pt×a1J))(t:TxD):List (Pt×a1q)×Int:=if(a1w n me C Lk t).2≠0 then(C,sC)else a6u t (a0M (a2P t n) me) (C,sC)
theorem b6G{C:List (Pt×a1q)}{Lk:List (Pt×a1J)}:(a1w n me C Lk t).2≠0->(a1w n me C Lk t).1=0:=by
 unfold a1w;intro h
 split
 ·rfl
 rename_i h1
 rw[if_neg h1]at h
 split
 ·rfl
 rename_i h2
 rw[if_neg h2]at h
 split
 ·rfl
 rename_i h3
 rw[if_neg h3]at h;exact absurd rfl h
attribute [local go_sem ↓] a2q a1F
theorem c9b(B cb cm:Nat)(C:List (Pt×a1q))(sC:Int)(lb lm:Nat)(Lk:List (Pt×a1J))(sL:Int)(b:OA)(d:Nat)(f:OA)(m:Nat)(t:TxD)(n me:Int)(D:-9223372036854775808<=n/\n<=9223372036854775807)(w:WD)(r:a0i w cb cm C sC)(y:a0j w lb lm Lk sL)(h:TxS B w b f t)(E:B<=cb/\B<=cm)(o:a2x w)(F:t.ins.length<=1000000)(z:t.outs.length<=1000000):Calls prog 150 #[.agg (txV b d f m t),.int .i64 n,.int .i64 me,.pointer cb,.pointer lb] w λe w'=>e=.returned (.tuple #[.int .u64 (a1w n me C Lk t).1,.int .i64 (a1w n me C Lk t).2])/\a0i w' cb cm (c2G n me C sC Lk t).1 (c2G n me C sC Lk t).2/\Fr (λk=>k=cb\/k=cm) w w':=by
 have⟨q,hq⟩:=η0 (a1w n me C Lk t);have⟨pc,H⟩:=η0 (c2G n me C sC Lk t);have O:=b6G (n:=n) (me:=me) (C:=C) (Lk:=Lk) (t:=t);rw[hq,H];unfold c2G at H;rw[hq]at H O;have Q:=r.st.lt;have T:=r.mp.lt;have b0:=Qd w 53 (txV b d f m t);have B0:=ρb w (.cells (txV b d f m t) 53)
 generalize hW:w.alloc (.cells (txV b d f m t) 53)=W at b0 B0
 have⟨g,hg⟩:=ηs w;rw[hg]at b0;have ab:=λX (hX:Below W W X)=>P4 uTx iTx (w:=X) (txV b d f m t).toList (by simpa using b0.fr (Q9 hX) (ρh b0.lt)) rfl
 have ak:=ab W (Qf _ _);have ad:=λX (hX:Below w w X)=>a6O b d f m t n me D X (h.at_.below hX) (o.below hX) F z
 have N:=a9m cb cm C sC lb lm Lk sL b d f m t n me D W (r.below B0) (y.below B0) (h.at_.below B0) (o.below B0) F z;rw[hq]at N;have an:Blk W g 53 (txV b d f m t):=b0;have ao:=a3I (a2P t n) me;have K:=b0q t n;have aE:=a1V (a2P t n) me;have ay:= @a4q t n;have⟨L,hL⟩:=η0 (a0M (a2P t n) me);rw[hL]at ao H aE;have aL:L.length<=16:=ρo;simp only[hL]at ad
 have ax:∀x∈L,∃i:Nat,x=(i:Int)/\i<t.ins.length:=λx hx=>by
  obtain⟨i,e,hi⟩:=(ao x).1 hx;exact⟨i,e,Qh (Qm.1 hi).1 K⟩
 have⟨xs,V⟩:=η0 (txV b d f m t);have aA:xs[0]? =some (.slice b t.ins.length d):=by rw[<-V];rfl
 simp only[show(txV b d f m t).toList.toArray=txV b d f m t by simp,V]at ab ak;rw[V]at hW N an⊢;simp only[V]at ad;obtain⟨q1,q2⟩:=q;simp only at N H O⊢;have⟨bf,HG,a6,aX,ba,a7,aZ,aG⟩:=η8 aL hg B0 h ax ab ad H;have⟨be,a9,HC,aY,bh,av,bb⟩:=η7 an aA r Q T E O;clear aL hg B0 h ax ab ad H an aA r Q T E O ao K aE ay hL V b0 o y hq;go_in;go_upto_region 1 with fail
 rw[HG.o];go_wp2_with fail;refine μi N ?_;intro w1 aa;have Y:=φt a6 aa;have ag:=a7.o w1 aa;have af:=aZ.o w1 Y;have⟨ac,aN⟩:=η2 Y aa;clear Y aa ak
 by_cases S:q2=0
 ·subst S
  have H:=aG.o;simp only[ne_eq,not_true_eq_false,if_false]at H;go_wp2_with fail;refine μ1 af ?_;rintro e2 w2 ⟨v,u,rfl,hv,hu,aq⟩;obtain⟨Av,Nv,cv,rfl⟩:=hv.formN;have hN:=hv.lenN;have aK:=hv.rd;have bl:Nv<=16:=by have:=bf.o;omega
  have aI:∀a,Av=some a->w1.heap.size<=a.block:=λa ha=>by subst ha;exact(hv.lt (k:=a.block) rfl).1
  have Z:=φt ac aq;have ai:=φt aN aq;have kt:=φf be ai;have aC:=HC.below Z;have⟨az,HN,a2,ar,bc,a4,bi⟩:=η7 H hN aK Z kt aC aI;clear H hN aK Z kt aC aI hv hu aq ag ai;go_upto_region 6 with fail
  go_loopg [17,39] Nv (λkk _ s wr=>∃i:Nat,i+kk=Nv/\s=.int .i64 i/\a0i wr cb cm (a6u t (L.take i) (C,sC)).1 (a6u t (L.take i) (C,sC)).2/\Fr (λk=>k=cb\/k=cm) w2 wr);exact⟨0,by omega,rfl,a4.o,Qp _ _⟩;obtain⟨i,hi,rfl,U,J⟩:=hrel;have Q:=aY.o;have T:=bh.o;have aj:=ar.size
  by_cases aW:i<Nv
  ·have aQ:(i:Int)<Nv:=ρo
   have K:i<L.length:=by rw[<-HN.o];exact aW
   have aV:Below B w wr:=(ar.mono (ρh av.o)).trans (J.below_of (ρh av.o) (λk e=>by have:=av.o;omega));have R:=(aX.go aV).at_;obtain⟨g1,o1,rfl,aD,s1⟩:=a2.at K;have ae:=bi.o _ rfl;simp only at ae;obtain⟨j,hj,al⟩:=ba.o (L.getD i 0) (by simp[List.getD,K]);obtain⟨g2,o2,B2,d2,a8,bg,aP⟩:=R.ins j al;have aB:=R.bd.ins _ (Qu al);have aF:L[i]=(j:Int):=by rw[<-hj];simp[List.getD,K]
   have a5:=(J.cell (p:=⟨g1,o1+i,none⟩) aD (show¬(g1=cb\/g1=cm) by have:=ac.size;omega)).trans s1;have au:=aB.ptY;have ah:=Pf a3a a1H wr g2 (o2+j*35) (ptL (ptI t.ins[j]).1 (ptI t.ins[j]).2) au.vlen (λk v hv=>aP.cell k v (b5E hv));have I:=b1J cb cm _ _ (ptI t.ins[j]) au wr U
   have aM:a6u t (L.take (i+1)) (C,sC)=(b6D (a6u t (L.take i) (C,sC)).1 (ptI t.ins[j]),IntKind.u64.wrap ((a6u t (L.take i) (C,sC)).2-(a1v (a6u t (L.take i) (C,sC)).1 (ptI t.ins[j])).am)):=by
    rw[Qe K,b1X,b3s aF al]
   rw[hj]at a5;have k0:=((bc.fr J (show¬(g=cb\/g=cm) by have:=HG.o;omega)).cell 0).trans a9.o;have⟨ni,aJ⟩:=η0 t.ins.length;rw[aJ]at k0;have bm:(j:Int)<ni:=ρo;have bn:(0:Int)<=(j:Int):=ρo;have⟨pv,bj⟩:=η0 (ptL (ptI t.ins[j]).1 (ptI t.ins[j]).2);rw[bj]at ah I;have⟨co,aU⟩:=η0 (a1s (a1v (a6u t (L.take i) (C,sC)).1 (ptI t.ins[j])));rw[aU]at I;subst a8;have⟨aT,a1⟩:=η2 aM J;clear aM J aP aJ hj aB s1 R aF aD bg U au ae Q T aj;go_wp2_with fail;refine μ1 I ?_;rintro e3 w3 ⟨rfl,aO,aH⟩;have aR:a0i w3 cb cm (a6u t (L.take (i+1)) (C,sC)).1 (a6u t (L.take (i+1)) (C,sC)).2:=by rw[aT.o];exact aO
   have hF:=a1.trans aH (λk _ e=>e);clear I ah aH;have⟨a3,HF⟩:=η2 aR hF;clear aR hF k0 aO;go_wp2;go_roundg (Nv-(i+1));exact⟨i+1,by omega,by go_num,a3.o,HF.o⟩;omega
  obtain rfl:i=Nv:=ρo;have aQ:¬(i:Int)<i:=ρo;rw[Qb (by rw[HN.o];exact Qg _),az.o]at U;have hF:=((Q9 ar.o).mono (G:=λk=>k=cb\/k=cm) (λk hk e=>ρo)).trans J (λk _ e=>e);have⟨bk,HF⟩:=η2 U hF;clear U hF J aj Q T;go_wp2;go_ret2;exact⟨rfl,bk.o,HF.o⟩
 have H:=aG.o;rw[if_pos S]at H;subst H;have O:=bb.o S;subst O;have Q:(q2 != 0)=true:=ρw S;have aS:=HC.below ac;have hF:=(Q9 ac.o).mono (G:=λk=>k=cb\/k=cm) (λk hk e=>ρo);have⟨a0,HF⟩:=η2 aS hF;clear aS hF S af ag;go_wp2;go_ret2;exact⟨rfl,a0.o,HF.o⟩
end
section
open Go.RowKit Go.Shelf Go.Maps Go.Sort
section
variable {α:Type} [Inhabited α]
theorem a9v(enc:α->LV)(k:Nat)(a:∀x,(enc x).length=k)(d:Array α):(flatK enc k d).toList=(d.toList.map enc).flatten:=by
 have o:∀s∈d.toList.map enc,s.length=k:=λs v=>by
  obtain⟨x,_,rfl⟩:=Qs.1 v;exact a x
 have b:(d.toList.map enc).flatten.length=d.size*k:=by
  rw[a7m k _ o,Qw,QD]
 apply List.ext_getElem?
 intro t
 by_cases ht:t<d.size*k
 ·have g:0<k:=by
   rcases Zq k with h | h
   ·subst h;simp at ht
   exact h
  have p:t=t / k*k+t % k:=by have:=Nat.div_add_mod t k;rw[Nat.mul_comm]at this;exact this.symm
  have f:t / k<d.size:=Nat.div_lt_of_lt_mul (by rwa [Nat.mul_comm]at ht);have m:=b0d k (d.toList.map enc) o (t / k) (t % k) (ρw f) (Nat.mod_lt _ g);rw[<-p]at m;rw[m,Z9,Yh (ρy size_flatK ht)];have j:=get_flatK enc k d t ht;rw[getElem!_pos (flatK enc k d) t (ρy size_flatK ht),getElem!_pos d (t / k) f]at j;rw[j]
  have r:(d.toList.map enc).getD (t / k) []=enc d[t / k]:=by
   simp[List.getD,f]
  rw[r,QN (by rw[a];exact Nat.mod_lt _ g),getElem!_pos (enc d[t / k]) (t % k) (by rw[a];exact Nat.mod_lt _ g)]
 rw[ZL (by rw[QD,size_flatK];omega),ZL (by rw[b];omega)]
theorem a0T.holds(enc:α->LV)(k:Nat)(f:∀x,(enc x).length=k){a:AV}(d:Array α)(b:Blk w g e a)(m:a.toList.take (d.size*k)=(d.toList.map enc).flatten):HoldsK enc k w g 0 d:=by
 intro j o;rw[size_flatK]at o;refine⟨?_,b.frozen _⟩;rw[b.cell,QP]
 have p:(flatK enc k d).toList[j]? =a.toList[j]? :=by
  rw[a9v enc k f,<-m,Zj,if_pos o]
 rw[Z9,Z9]at p;rw[<-p,Yh (ρy size_flatK o),getElem!_pos (flatK enc k d) j (ρy size_flatK o)]
 rfl
theorem a0T.sorted(enc:α->LV)(k:Nat)(p:∀x,(enc x).length=k){n:Nat}{b:AV}(d a:Array α)(os:Array Obj)(y:B<=g)(v:Blk w g e b)(f:d.size<=cap)(z:cap<=maxLen)(m:b.size=cap*k)(o:a.size=d.size):a0T e k B (sortWorldK enc k w g 0 n a os) (.slice g d.size cap) (a.toList.map enc)/\Fr (λj=>j=g) w (sortWorldK enc k w g 0 n a os):=by
 have D:=v.lt;have I:a.size*k<=b.size:=by rw[m,o];exact Zb k f
 have F:(sortWorldK enc k w g 0 n a os).heap[g]? =some (.cells (putCells id 0 (flatK enc k a) b) e (0,0)):=by
  show((w.heap.modify g (onCells (putCells id 0 (flatK enc k a))))++os)[g]? =_
  rw[Array.getElem?_append_left (ρw D),Array.getElem?_modify,if_pos rfl,show w.heap[g]? =_ from v]
  rfl
 refine⟨⟨⟨?_,.inr ⟨g,cap,_,?_,y,F,?_,z,?_,?_⟩⟩,?_⟩,⟨rfl,rfl,rfl,?_,λj E H=>?_⟩⟩
 ·rw[a7m k _ (λs o=>by obtain⟨x,_,rfl⟩:=Qs.1 o;exact p x)]
 ·simp[o]
 ·simpa[o]using f
 ·simpa[putCells]using m
 ·rw[<-a9v enc k p]
  simp only[Qw,QD]
  apply List.ext_getElem?
  intro t;rw[Zj]
  by_cases ht:t<a.size*k
  ·rw[if_pos ht,Z9,Z9]
   unfold putCells;rw[Array.getElem?_mapIdx,Yh ρo,Option.map_some,if_pos ⟨Zu _,by rw[size_flatK];omega⟩,Yh (ρy size_flatK ht),getElem!_pos _ _ (by rw[size_flatK];omega)]
   rfl
  rw[if_neg ht,ZL (by rw[QD,size_flatK];omega)]
 ·intro r G
  obtain⟨x,_,rfl⟩:=Qs.1 G;exact p x
 ·show w.heap.size<=((w.heap.modify g (onCells (putCells id 0 (flatK enc k a))))++os).size
  simp
 show((w.heap.modify g (onCells (putCells id 0 (flatK enc k a))))++os)[j]? =_
 rw[Array.getElem?_append_left (ρw E),Array.getElem?_modify,if_neg (λe=>H e.symm)]
theorem b7l(W:WD):Calls prog 260 #[.int .u64 0] W λe w'=>e=.returned (.int .i64 (Lib.bitLen 0:Nat))/\w'=W:=
 Any.bits_Len (SlLaysF0.n15.bits (P:=prog) (ρ:=Tryz.laysSP_ren) {Tryz.laysSP with}) 0 W ρo ρo
end
theorem c1P(p:OA)(cap:Nat)(a:VL)(w:WD):Calls prog 275 #[.slice p 0 cap,.int .i64 0,.int .i64 0,a] w λe w'=>e=.returned (.tuple #[])/\w'=w:=by
 go_in;go_wp2_with fail;refine wp_loop_rounds 1 ?_;rw[rounds_succ];go_wp2;go_end0;exact⟨rfl,rfl⟩
theorem c0L(p:OA)(cap:Nat)(a:Int)(b:VL)(w:WD):Calls prog 259 #[.slice p 0 cap,.int .i64 0,.int .i64 0,.int .i64 a,b] w λe w'=>e=.returned (.tuple #[])/\w'=w:=by
 have hi:=λW=>c1P p cap b W
 go_in;go_wp2_with fail;refine wp_loop_rounds 1 ?_;rw[rounds_succ];go_wp2_with fail;refine(hi _).mono ?_;rintro e w' ⟨rfl,rfl⟩;go_wp2_with fail
 (try simp only[Exit.inBlock,Exit.then]);refine bodyPost_ret (results_none rfl _ _ _) rfl ?_
 exact⟨rfl,rfl⟩
theorem b4v(p:OA)(cap:Nat)(a:VL)(w:WD):Calls prog 227 #[.slice p 0 cap,a] w λe w'=>e=.returned (.tuple #[])/\w'=w:=by
 have d:=λb W=>c0L p cap b a W
 have f:=b7l;go_in;go_wp2_with fail;refine(f _).mono ?_;rintro e w' ⟨rfl,rfl⟩;go_wp2_with fail;refine(d _ _).mono ?_;rintro e w' ⟨rfl,rfl⟩;go_wp2;go_end0;exact⟨rfl,rfl⟩
abbrev OkP:={a // ptE.ok a}
instance:Inhabited OkP:=⟨⟨((List.replicate 32 0),0),⟨by simp,by simp,by decide⟩⟩⟩
theorem c2P(v:VL)(B:Nat)(a:List OkP)(b:a.length<=1000000)(w:WD)(h:a0T 189 33 B w v (a.map (λx=>ptE.e x.1))):Calls prog 227 #[v,.func (.func 118) #[] #[]] w λe w'=>e=.returned (.tuple #[])/\∃ss':List OkP,ss'.Perm a/\a0T 189 33 B w' v (ss'.map (λx=>ptE.e x.1))/\Fr (λj=>v.ownBlock=some j) w w':=by
 have G:∀x:OkP,(ptE.e x.1).length=33:=λx=>a1x x.2.len _
 have H:∀x:OkP,∀u∈ptE.e x.1,u.oneCell'=true:=λx=>a2p _ _
 have d:=h.own;obtain⟨W,⟨rfl,V⟩ | ⟨g,cap,r,rfl,K,O,z,R,Q,ht⟩⟩:=d
 ·refine(b4v none 0 _ w).mono ?_
  rintro e w' ⟨rfl,rfl⟩;exact⟨rfl,a,List.Perm.refl _,h,Qp _ _⟩
 have F:Blk w g 189 r:=O;rw[Qw]at z ht⊢;have I:r.toList.take (a.toArray.size*33)=(a.toArray.toList.map (λx:OkP=>ptE.e x.1)).flatten:=ρw ht;have P:=a0T.holds (λx:OkP=>ptE.e x.1) 33 G a.toArray F I;have E:=F.lt
 have U:=AnyQ.slices_SortFunc Tryz.laysSP 33 (λw=>by kernel_rfl) (λw=>by kernel_rfl) (λx:OkP=>ptE.e x.1) G H (λx y=>a5t x.1 y.1) (show SWO (ltOf (λx y:OkP=>a5t x.1 y.1))from(a6o.comp (λx:OkP=>x.1)).swo) 118 #[] g 0 cap a.toArray w
  (enters_of func118 ρk rfl) (λm os X T x y=>(b0U x.1 y.1 x.2 y.2 _).mono (λe w' ⟨H,J⟩=>⟨H,J⟩)) P E (by simp;omega)
 refine U.mono ?_;rintro e w' ⟨rfl,D,n,os,⟨f,_,p⟩,_,rfl⟩;have o:=a0T.sorted (λx:OkP=>ptE.e x.1) 33 G (B:=B) (n:=n) a.toArray D os K F (ρw z) R Q f;refine⟨rfl,D.toList,?_,by simpa using o.1,o.2.mono (λj _ e=>by rw[e];rfl)⟩;have S:(a.toArray).extract 0 a.toArray.size=a.toArray:=by simp
 have N:D.extract 0 a.toArray.size=D:=by rw[<-f];simp
 rw[S,N]at p
 simpa using p
theorem b6u(gf:Nat)(lb:AV)(b:∀args w,(callFunc gf args).run prog w=.ok (.enter gf args) w){S d:List OkP->Prop}(f:N<=1000000)(a:∀ss,S ss->ss.length<=1000000)(w:WD) (hseq:SeqStopsK Fence.wide 7 prog gf lb (λx:OkP=>#[.agg (ptE.e x.1).toArray]) KeepsWalks S d N w):Calls prog 173 #[.func (.func gf) #[] lb,.func (.func 118) #[] #[]] w λe w'=>∃v ss ss',e=.returned v/\S ss/\List.Perm ss' ss/\a0T 189 33 w.heap.size w' v (ss'.map (λx=>ptE.e x.1))/\Below w.heap.size w w':=by
 have I:=b4H gf lb b f w hseq;clear hseq;go_in;go_wp2_with fail;refine μ1 I ?_;rintro P B ⟨v,ss,rfl,j,g,y⟩;obtain⟨A,n,c,rfl,G⟩:=g.formN;have z:=c2P _ _ ss (a _ j) B g;have⟨E,H,m⟩:=η3 j g y;clear j g y G;go_wp2_with fail;refine μ1 z ?_;rintro O Q ⟨rfl,ss',o,r,p⟩;have⟨J,F,D⟩:=η3 o r p;clear o r p z;go_wp2;go_ret;exact⟨_,ss,ss',rfl,E.o,J.o,F.o,m.trans (D.below m.size (λk K e=>by have:=(H.lt e).1;omega))⟩
theorem c1l(p:OA)(cap:Nat)(a:VL)(w:WD):Calls prog 285 #[.slice p 0 cap,.int .i64 0,.int .i64 0,a] w λe w'=>e=.returned (.tuple #[])/\w'=w:=by
 go_in;go_wp2_with fail;refine wp_loop_rounds 1 ?_;rw[rounds_succ];go_wp2;go_end0;exact⟨rfl,rfl⟩
theorem c0m(p:OA)(cap:Nat)(a:Int)(b:VL)(w:WD):Calls prog 262 #[.slice p 0 cap,.int .i64 0,.int .i64 0,.int .i64 a,b] w λe w'=>e=.returned (.tuple #[])/\w'=w:=by
 have hi:=λW=>c1l p cap b W
 go_in;go_wp2_with fail;refine wp_loop_rounds 1 ?_;rw[rounds_succ];go_wp2_with fail;refine(hi _).mono ?_;rintro e w' ⟨rfl,rfl⟩;go_wp2_with fail
 (try simp only[Exit.inBlock,Exit.then]);refine bodyPost_ret (results_none rfl _ _ _) rfl ?_
 exact⟨rfl,rfl⟩
theorem b5m(p:OA)(cap:Nat)(a:VL)(w:WD):Calls prog 231 #[.slice p 0 cap,a] w λe w'=>e=.returned (.tuple #[])/\w'=w:=by
 have d:=λb W=>c0m p cap b a W
 have f:=b7l;go_in;go_wp2_with fail;refine(f _).mono ?_;rintro e w' ⟨rfl,rfl⟩;go_wp2_with fail;refine(d _ _).mono ?_;rintro e w' ⟨rfl,rfl⟩;go_wp2;go_end0;exact⟨rfl,rfl⟩
abbrev OkK:={a // keE.ok a}
instance:Inhabited OkK:=⟨⟨(0,(List.replicate 32 0)),⟨by decide,by simp,by simp⟩⟩⟩
theorem c0Q(v:VL)(B:Nat)(a:List OkK)(b:a.length<=1000000)(w:WD)(h:a0T 212 33 B w v (a.map (λx=>keE.e x.1))):Calls prog 231 #[v,.func (.func 121) #[] #[]] w λe w'=>e=.returned (.tuple #[])/\∃ss':List OkK,ss'.Perm a/\a0T 212 33 B w' v (ss'.map (λx=>keE.e x.1))/\Fr (λj=>v.ownBlock=some j) w w':=by
 have G:∀x:OkK,(keE.e x.1).length=33:=λx=>a6m x.2.len _
 have H:∀x:OkK,∀u∈keE.e x.1,u.oneCell'=true:=λx=>a7K _ _
 have d:=h.own;obtain⟨W,⟨rfl,V⟩ | ⟨g,cap,r,rfl,K,O,z,R,Q,ht⟩⟩:=d
 ·refine(b5m none 0 _ w).mono ?_
  rintro e w' ⟨rfl,rfl⟩;exact⟨rfl,a,List.Perm.refl _,h,Qp _ _⟩
 have F:Blk w g 212 r:=O;rw[Qw]at z ht⊢;have I:r.toList.take (a.toArray.size*33)=(a.toArray.toList.map (λx:OkK=>keE.e x.1)).flatten:=ρw ht;have P:=a0T.holds (λx:OkK=>keE.e x.1) 33 G a.toArray F I;have E:=F.lt
 have U:=AnyQ.slices_SortFunc Tryz.laysSK 33 (λw=>by kernel_rfl) (λw=>by kernel_rfl) (λx:OkK=>keE.e x.1) G H (λx y=>a6w x.1 y.1) (show SWO (ltOf (λx y:OkK=>a6w x.1 y.1))from(a7f.comp (λx:OkK=>x.1)).swo) 121 #[] g 0 cap a.toArray w
  (enters_of func121 ρk rfl) (λm os X T x y=>(b0s x.1 y.1 x.2 y.2 _).mono (λe w' ⟨H,J⟩=>⟨H,J⟩)) P E (by simp;omega)
 refine U.mono ?_;rintro e w' ⟨rfl,D,n,os,⟨f,_,p⟩,_,rfl⟩;have o:=a0T.sorted (λx:OkK=>keE.e x.1) 33 G (B:=B) (n:=n) a.toArray D os K F (ρw z) R Q f;refine⟨rfl,D.toList,?_,by simpa using o.1,o.2.mono (λj _ e=>by rw[e];rfl)⟩;have S:(a.toArray).extract 0 a.toArray.size=a.toArray:=by simp
 have N:D.extract 0 a.toArray.size=D:=by rw[<-f];simp
 rw[S,N]at p
 simpa using p
theorem b5N(gf:Nat)(lb:AV)(b:∀args w,(callFunc gf args).run prog w=.ok (.enter gf args) w){S d:List OkK->Prop}(f:N<=1000000)(a:∀ss,S ss->ss.length<=1000000)(w:WD) (hseq:SeqStopsK Fence.wide 7 prog gf lb (λx:OkK=>#[.agg (keE.e x.1).toArray]) KeepsWalks S d N w):Calls prog 176 #[.func (.func gf) #[] lb,.func (.func 121) #[] #[]] w λe w'=>∃v ss ss',e=.returned v/\S ss/\List.Perm ss' ss/\a0T 212 33 w.heap.size w' v (ss'.map (λx=>keE.e x.1))/\Below w.heap.size w w':=by
 have I:=b5i gf lb b f w hseq;clear hseq;go_in;go_wp2_with fail;refine μ1 I ?_;rintro P B ⟨v,ss,rfl,j,g,y⟩;obtain⟨A,n,c,rfl,G⟩:=g.formN;have z:=c0Q _ _ ss (a _ j) B g;have⟨E,H,m⟩:=η3 j g y;clear j g y G;go_wp2_with fail;refine μ1 z ?_;rintro O Q ⟨rfl,ss',o,r,p⟩;have⟨J,F,D⟩:=η3 o r p;clear o r p z;go_wp2;go_ret;exact⟨_,ss,ss',rfl,E.o,J.o,F.o,m.trans (D.below m.size (λk K e=>by have:=(H.lt e).1;omega))⟩
end
section
theorem TxS.ptE{b d:OA}(h:TxS B w b d t)(a:j<t.ins.length):t.ins[j].Bd/\∃g2 o2,b=some ⟨g2,o2,none⟩/\∀X,Below B w X->(LDs 189 (.pointer (some ⟨g2,o2+j*35,none⟩))).run prog X=.ok (.agg (ptL (ptI t.ins[j]).1 (ptI t.ins[j]).2).toArray) X:=by
 obtain⟨g2,o2,H,D,g,x,y⟩:=h.at_.ins j a;have o:=h.at_.bd.ins _ (Qu a);refine⟨o,g2,o2,g,λX p=>?_⟩;obtain⟨I,F,G,E,f,r,m⟩:=(h X p).ins j a;rw[g]at f;simp only[Option.some.injEq,Addr.mk.injEq]at f;obtain⟨rfl,rfl,-⟩:=f;exact Pf a3a a1H X g2 (o2+j*35) (ptL (ptI t.ins[j]).1 (ptI t.ins[j]).2) o.ptY.vlen (λk v z=>m.cell k v (b5E z))
def a9P(n me:Int)(C:List (Pt×a1q))(Lk:List (Pt×a1J))(sL:Int)(t:TxD):Int×Int:=
 if(a1w n me C Lk t).2≠0 then(0,(a1w n me C Lk t).2)
 else if 64<Lk.length+(a0M (a2P t n) me).length then(0,18)
 else if IntKind.u64.wrap (4611686018427387904-sL)<(a1w n me C Lk t).1 then(0,6)
 else((a1w n me C Lk t).1,0)
def a8T(n me:Int)(C:List (Pt×a1q))(sC:Int)(Lk:List (Pt×a1J))(sL:Int)(t:TxD):(List (Pt×a1q)×Int)×(List (Pt×a1J)×Int):=
 if(a9P n me C Lk sL t).2≠0 then((C,sC),(Lk,sL))else a4H t (idP t) (a0M (a2P t n) me) ((C,sC),(Lk,sL))
theorem c6I{m:List (Pt×a1J)}(h:0<=s/\s<=18446744073709551615)(p:Pt){x:a1J}(a:a6v x):0<=(b9M m s p x).2.2/\(b9M m s p x).2.2<=18446744073709551615:=by
 have:=b6Q s x.1.am h.1 a.co.am.1
 unfold b9M
 split
 ·exact h
 split
 ·exact h
 split
 ·exact h
 split
 ·exact h
 simp only;omega
theorem c3L{m:List (Pt×a1J)}(h:m.length<=64)(p:Pt)(x:a1J):(b9M m s p x).2.1.length<=64:=by
 unfold b9M
 split
 ·exact h
 split
 ·exact h
 split
 ·exact h
 split
 ·exact h
 simp only[Qa,ZB];omega
theorem b6X{κ ν:Type}[DecidableEq κ](m:List (κ×ν))(a:κ):(b6D m a).length<=m.length:=ZX _ _
attribute [local go_sem ↓] a2q a1F a1B a5a a5i a4v a4s a4r
theorem c4H(B cb cm:Nat)(C:List (Pt×a1q))(sC:Int)(lb lm:Nat)(Lk:List (Pt×a1J))(sL:Int)(y:0<=sL/\sL<=18446744073709551615)(z:Lk.length<=64)(f:OA)(b:Nat)(o:OA)(r:Nat)(t:TxD)(n me:Int)(E:-9223372036854775808<=n/\n<=9223372036854775807)(w:WD) (hC:a0i w cb cm C sC) (hLk:a0j w lb lm Lk sL) (hap:cb≠lb/\cb≠lm/\cm≠lb/\cm≠lm) (h:TxS B w f o t) (hB:(B<=cb/\B<=cm)/\B<=lb/\B<=lm) (hgl:a2x w) (hl:t.ins.length<=1000000) (hl2:t.outs.length<=1000000):Calls prog 157 #[.agg (txV f b o r t),.int .i64 n,.int .i64 me,.pointer cb,.pointer lb] w λe w'=>e=.returned (.tuple #[.int .u64 (a9P n me C Lk sL t).1,.int .i64 (a9P n me C Lk sL t).2])/\(a0i w' cb cm (a8T n me C sC Lk sL t).1.1 (a8T n me C sC Lk sL t).1.2/\a0j w' lb lm (a8T n me C sC Lk sL t).2.1 (a8T n me C sC Lk sL t).2.2)/\Fr (λk=>(k=cb\/k=cm)\/k=lb\/k=lm) w w':=by
 have⟨q,hq⟩:=η0 (a1w n me C Lk t);have⟨le,F⟩:=η0 (a9P n me C Lk sL t);have⟨pc,H⟩:=η0 (a8T n me C sC Lk sL t);rw[F,H];unfold a8T at H;rw[F]at H;unfold a9P at F;rw[hq]at F;have aA:=hC.st.lt;have aL:=hC.mp.lt;have aQ:=hLk.st.lt;have aI:=hLk.mp.lt;have b0:=Qd w 53 (txV f b o r t);have B0:=ρb w (.cells (txV f b o r t) 53)
 generalize hW:w.alloc (.cells (txV f b o r t) 53)=W at b0 B0
 have⟨g,hg⟩:=ηs w;rw[hg]at b0;have aF:=λX (T:Below W W X)=>P4 uTx iTx (w:=X) (txV f b o r t).toList (by simpa using b0.fr (Q9 T) (ρh b0.lt)) rfl
 have be:=aF W (Qf _ _);have aN:=λX (T:Below w w X)=>a6O f b o r t n me E X (h.at_.below T) (hgl.below T) hl hl2
 have hid:=λX (T:Below w w X)=>a2v f b o r t X (h.at_.below T) (hgl.below T) hl hl2
 have ae:=a9m cb cm C sC lb lm Lk sL f b o r t n me E W (hC.below B0) (hLk.below B0) (h.at_.below B0) (hgl.below B0) hl hl2;rw[hq]at ae;have an:=λX (T:Below w w X)=>b1f lb lm Lk sL X (hLk.below T)
 have a3:=λX (T:Below w w X)=>b4f lb lm Lk sL X (hLk.below T)
 have bj:Blk W g 53 (txV f b o r t):=b0;have bk:=a3I (a2P t n) me;have ac:=b0q t n;have bZ:=a1V (a2P t n) me;have bF:= @a4q t n;have⟨L,hL⟩:=η0 (a0M (a2P t n) me);rw[hL]at bk H bZ F;have cc:L.length<=16:=ρo;simp only[hL]at aN
 have bx:∀x∈L,∃i:Nat,x=(i:Int)/\i<t.ins.length:=λx hx=>by
  obtain⟨i,e,hi⟩:=(bk x).1 hx;exact⟨i,e,Qh (Qm.1 hi).1 ac⟩
 have aJ:Dig (idP t):=⟨a3b t,a5f t⟩;have⟨D,hD⟩:=η0 (idP t);rw[hD]at H aJ;simp only[hD]at hid;have bU:(bys D).length=32:=by rw[a0a,aJ.1]
 obtain⟨ZI,aT,a7,da⟩:=P8 (t:=31) iId b1N;have ay:=b1a;have⟨z2,br⟩:=η0 ((a1s a3q).toArray);have aX:z2.size=33:=by rw[<-br,Qc];exact a0G a2R
 simp only[br]at ay;have⟨xs,aC⟩:=η0 (txV f b o r t);have ai:xs[0]? =some (.slice f t.ins.length b):=by rw[<-aC];rfl
 simp only[show(txV f b o r t).toList.toArray=txV f b o r t by simp,aC]at aF be;rw[aC]at hW ae bj⊢;simp only[aC]at aN hid;obtain⟨q1,q2⟩:=q;simp only at ae F⊢;have⟨nl,aP⟩:=η0 Lk.length;rw[aP]at F;simp only[aP]at an;have cJ:nl<=64:=ρo;have⟨rm,cB⟩:=η0 (IntKind.u64.wrap (4611686018427387904-sL));rw[cB]at F;have⟨cV,HG,cN,cE,cP,bY,cG,b6⟩:=η8 cc hg B0 h bx aF aN hid;have⟨aM,cf,cS,b4,HC,b5,cF,c1⟩:=η8 H F bj ai hC hLk aA aL;have⟨cz,c0,cZ,b3,bE,aO,bV,bN⟩:=η8 aQ aI hB an a3 aJ bU aT;have⟨bH,bJ,cI,cX,c9,cU,cy⟩:=η7 a7 ay aX y aP hap z;clear cc hg B0 h bx aF aN hid H F bj ai hC hLk aA aL aQ aI hB an a3 aJ bU aT a7 ay aX y aP hap z bk ac bZ bF hL aC b0 hgl hq hD br;go_in;go_upto_region 1 with fail
 rw[HG.o];go_wp2_with fail;refine μi ae ?_;intro w1 aE;have aD:=φt cN aE;have aZ:=bY.o w1 aE;have aU:=cG.o w1 aD;have⟨bu,cd⟩:=η2 aD aE;clear aD aE be
 have a0:∀X,Below w w X->pc=((C,sC),(Lk,sL))->(a0i X cb cm pc.1.1 pc.1.2/\a0j X lb lm pc.2.1 pc.2.2)/\Fr (λk=>(k=cb\/k=cm)\/k=lb\/k=lm) w X:=λX T e=>by
  rw[e];exact⟨⟨HC.below T,b5.below T⟩,(Q9 T).mono (λk hk e=>ρo)⟩
 have bm:=η1 a0;clear a0
 by_cases av:q2=0
 ·subst av
  have F:=cf.o;simp only[ne_eq,not_true_eq_false,if_false]at F;go_wp2_with fail;refine μ1 aU ?_;rintro e2 w2 ⟨v,u,rfl,hv,hu,bo⟩;obtain⟨Av,Nv,cv,rfl⟩:=hv.formN;have hN:=hv.lenN;have ca:=hv.rd;have c6:Nv<=16:=by have:=cV.o;omega
  have b7:∀a,Av=some a->w1.heap.size<=a.block:=λa ha=>by subst ha;exact(hv.lt (k:=a.block) rfl).1
  have V:=φt bu bo;have az:=φt cd bo;have aa:=b3.o w2 V;have Y:=bE.o w2 V;have ao:=bY.o w2 az;have af:=b6.o w2 V;have⟨HN,cK,aj,ct,c2,aS⟩:=η6 hN ca V az b7 F;clear hN ca V az b7 F hv hu bo aZ;have cx:IntKind.i64.wrap ((nl:Int)+Nv)=(nl:Int)+Nv:=by rw[IntKind.wrap_i64];omega
  by_cases aK:64<nl+Nv
  ·have F:=aS.o
   rw[if_pos (ρz HN.o aK)]at F;subst F;have H:=aM.o;simp only[ne_eq,Int.reduceEq,not_false_eq_true,if_true]at H;have ba:(64:Int)<(nl:Int)+Nv:=ρo;have J:=η1 H;clear H aK Y ao af;go_wp2_with fail;refine μf aa ?_;go_wp2;go_ret2;exact⟨rfl,bm.o _ aj J.symm⟩
  have F:=aS.o;rw[if_neg (ρz HN.o aK)]at F;have ba:¬(64:Int)<(nl:Int)+Nv:=ρo;have bK:=η1 F;clear F aK;go_wp2_with fail;refine μf aa ?_;go_wp2_with fail;refine μf Y ?_;clear aa Y ba cx;have F:=bK.o
  by_cases bv:rm<q1
  ·rw[if_pos bv]at F
   subst F;have H:=aM.o;simp only[ne_eq,Int.reduceEq,not_false_eq_true,if_true]at H;have J:=η1 H;clear H ao af;go_wp2;go_ret2;exact⟨rfl,bm.o _ aj J.symm⟩
  rw[if_neg bv]at F;subst F;have H:=aM.o;simp only[ne_eq,not_true_eq_false,if_false]at H;go_wp2_with fail;refine μi af ?_;intro w4 aH;clear af ao;have bt:=bN.o w4;have au:=bH.o w4 (bys D) bV.o (a0h _);have kd:=Qd w4 31 (bys D).toArray;have D4:=ρb w4 (.cells (bys D).toArray 31);have⟨d,hd⟩:=ηs w4;rw[hd]at bt au kd
  generalize db:w4.alloc (.cells (bys D).toArray 31)=V4 at au kd D4
  have ah:=aH.trans (D4.mono aH.size);have ad:=φt aj ah;have aW:=φt ct ah;have kt:=φf cS aW;have cr:=HC.below ad;have bA:=b5.below ad;have bW:w2.heap.size<=d:=by rw[<-hd];exact aH.size
  have⟨J,al,bc,cY,cR,cC,cA,bh⟩:=η8 H ad ah kd kt cr bA bW;clear H ad ah kd kt cr bA bW aH D4 hd bv aW;go_upto_region 11 with fail
  go_loopg [18,19,20,55] Nv (λkk _ _ _ s wr=>∃i:Nat,i+kk=Nv/\s=.int .i64 i/\a0i wr cb cm (a4H t D (L.take i) ((C,sC),(Lk,sL))).1.1 (a4H t D (L.take i) ((C,sC),(Lk,sL))).1.2/\a0j wr lb lm (a4H t D (L.take i) ((C,sC),(Lk,sL))).2.1 (a4H t D (L.take i) ((C,sC),(Lk,sL))).2.2/\(0<=(a4H t D (L.take i) ((C,sC),(Lk,sL))).2.2/\(a4H t D (L.take i) ((C,sC),(Lk,sL))).2.2<=18446744073709551615)/\Fr (λk=>(k=cb\/k=cm)\/k=lb\/k=lm) V4 wr);exact⟨0,by omega,rfl,cC.o,cA.o,cX.o,Qp _ _⟩;obtain⟨i,hi,rfl,ab,ak,ar,R⟩:=hrel;have aA:=cF.o;have aL:=c1.o;have aQ:=cz.o;have aI:=c0.o;have hap:=cU.o;have c3:=cZ.o;have ch:=al.size
  by_cases cD:i<Nv
  ·have ck:(i:Int)<Nv:=ρo
   have ac:i<L.length:=by rw[<-HN.o];exact cD
   have bl:Below B w wr:=(al.mono ρo).trans (R.below_of ρo (λk e=>ρo));obtain⟨g1,o1,rfl,bn,s1⟩:=cK.at ac;have aR:=c2.o _ rfl;simp only at aR;have bB:=bu.size;obtain⟨j,hj,bC⟩:=cP.o (L.getD i 0) (by simp[List.getD,ac]);obtain⟨bM,g2,o2,cO,ag⟩:=cE.ptE bC;have b2:L[i]=(j:Int):=by rw[<-hj];simp[List.getD,ac]
   have cM:=(R.cell (p:=⟨g1,o1+i,none⟩) (Qh bn bc.size) (show¬((g1=cb\/g1=cm)\/g1=lb\/g1=lm) by omega)).trans ((bc.cell (p:=⟨g1,o1+i,none⟩) bn).trans s1);have bp:=bM.ptY;have a6:=ag wr bl;have I:=b1J cb cm _ _ (ptI t.ins[j]) bp wr ab;have aB:=b2i t D (L[i]) (L.take i) ((C,sC),(Lk,sL));rw[<-Qe ac,b3s b2 bC]at aB;have⟨S,hS⟩:=η0 (a4H t D (L.take i) ((C,sC),(Lk,sL)));rw[hS]at aB ab ak ar;rw[hS]at I;rw[hj]at cM;have bg:=cR.fr R (show¬((g=cb\/g=cm)\/g=lb\/g=lm) by have:=HG.o;omega);have ce:=cY.fr R (show¬((d=cb\/d=cm)\/d=lb\/d=lm) by have:=bh.o;have:=aj.size;omega);have k0:=(bg.cell 0).trans b4;have⟨ni,b8⟩:=η0 t.ins.length;have ai:=b4.o;rw[b8]at k0 ai;have c7:(j:Int)<ni:=ρo;have c8:(0:Int)<=(j:Int):=ρo;have O:=a3p ab.bd (ptI t.ins[j]);have⟨co,bD⟩:=η0 (a1v S.1.1 (ptI t.ins[j]));rw[bD]at I aB O;have ax:=a0G O
   have N:=λX T=>b9V lb lm S.2.1 S.2.2 (ptI t.ins[j]) bp (co,D) ⟨O,aO.1,aO.2⟩ ar X T
   have a4:=c6I (m:=S.2.1) ar (ptI t.ins[j]) (x:=(co,D)) ⟨O,aO.1,aO.2⟩;have⟨pv,cn⟩:=η0 (ptL (ptI t.ins[j]).1 (ptI t.ins[j]).2);rw[cn]at a6 I;simp only[cn]at ag N;have⟨ov,aG⟩:=η0 (a1s co);have bb:∀v∈ov,v.oneCell'=true:=by rw[<-aG];exact a1O _
   rw[aG]at I ax;simp only[aG]at N;subst cO;have⟨bi,bO,bI,bX,bq,cT,cQ,a1⟩:=η8 aB R ag N ak a4 bl bg;have⟨aY,cW,a8,cp⟩:=η4 ce ai ax bb;clear aB R ag N ak a4 bl bg ce ai ax bb b8 hj s1 b2 bn ab aR ar bB bD aG bM bp O;go_wp2_with fail;refine μ1 I ?_;rintro e5 w5 ⟨rfl,b9,Q⟩;clear I a6;have aq:=bJ.o w5;have ka:=Qd w5 206 z2;have D5:=ρb w5 (.cells z2 206);have⟨a5,bG⟩:=ηs w5;rw[bG]at aq ka
   generalize cH:w5.alloc (.cells z2 206)=V5 at aq ka D5
   have bf:=P9 a9y ka cI ov a8 cp;have kb:=ka.row_ ov.toArray;have D6:=Ql (g:=a5) D5 ρo ov.toArray
   generalize dc:V5.setRow a5 ov.toArray=V6 at bf kb D6
   have⟨U,hU⟩:=η0 V6.drew;have D7:Below V6 V6 U:=by rw[<-hU];exact(Qf _ _).drew
   have Z:=D6.trans (D7.mono D6.size);have kU:=kb.fr (Q9 D7) (ρh kb.lt);have ci:=b9.below Z;have bL:=(bq.fr Q (show¬(lb=cb\/lb=cm) by omega) (show¬(lm=cb\/lm=cm) by omega)).below Z;have bT:=(a1.fr Q (show¬(g=cb\/g=cm) by have:=HG.o;omega)).fr (Q9 Z) (by have:=(a1.fr Q (show¬(g=cb\/g=cm) by have:=HG.o;omega)).lt;omega);have bw:=(aY.fr Q (show¬(d=cb\/d=cm) by have:=bh.o;have:=aj.size;omega)).fr (Q9 Z) (by have:=(aY.fr Q (show¬(d=cb\/d=cm) by have:=bh.o;have:=aj.size;omega)).lt;omega);have cL:=bO.size;have cj:=(bO.trans Q (λk _ e=>.inl e)).trans (Q9 Z) (λk hk e=>by have:=Q.size;omega);have cq:=cQ.trans ((Q.below_of ρo (λk e=>ρo)).trans (Z.mono (ρh Q.size)))
   have bR:U.cell? ⟨g,0,none⟩=some (.slice (some ⟨g2,o2,none⟩) ni b)/\(LDs 189 (.pointer (some ⟨g2,o2+j*35,none⟩))).run prog U=.ok (.agg pv.toArray) U/\(LDs 31 (.pointer d)).run prog U=.ok (.agg (bys D).toArray) U/\(LDs 206 (.pointer a5)).run prog U=.ok (.agg ov.toArray) U:=
    ⟨(bT.cell 0).trans cW.o,bI.o U cq,P4 a2i iId (bys D) bw bV.o,P4 c3f a9y ov kU a8.o⟩
   have N:=bX.o U bL;have⟨cw,HU,c5,cu⟩:=η4 bR hU cj ci;clear bR hU cj ci bL cq bT bw kU Z D7 D6 D5 kb ka b9 Q cL bG cH k0;go_upto_region 14 with fail
   refine a0s [(0,3),(1,3),(3,3),(2,0),(4,3),(5,3),(6,0),(7,0),(8,0),(9,2)] (λX=>X.cell? ⟨g,0,none⟩=some (.slice (some ⟨g2,o2,none⟩) ni b)/\(LDs 189 (.pointer (some ⟨g2,o2+j*35,none⟩))).run prog X=.ok (.agg pv.toArray) X/\(LDs 31 (.pointer d)).run prog X=.ok (.agg (bys D).toArray) X/\(LDs 206 (.pointer a5)).run prog X=.ok (.agg ov.toArray) X) ρk ρk ρk ρk (ρy HU.o cw.o) ?_;rw[HU.o];refine ε3 ?_
   refine θ4 (λ_ h=>h) ?_
   refine ε2 ?_
   iterate 3 refine θ4 (λ_ h=>h) ?_
   refine τ ?_;intro K hK;refine μ1 N ?_;rintro e9 w9 ⟨rfl,bQ,bs⟩;with_reducible refine hK _ _ ?_;clear hK K;clear N
   refine ν ?_;have bS:=cu.fr bs (show¬(cb=lb\/cb=lm) by omega) (show¬(cm=lb\/cm=lm) by omega);have hF:=c5.trans bs (λk _ e=>.inr e);have a2:a0i w9 cb cm (a4H t D (L.take (i+1)) ((C,sC),(Lk,sL))).1.1 (a4H t D (L.take (i+1)) ((C,sC),(Lk,sL))).1.2:=by rw[bi.o];exact bS
   have a9:a0j w9 lb lm (a4H t D (L.take (i+1)) ((C,sC),(Lk,sL))).2.1 (a4H t D (L.take (i+1)) ((C,sC),(Lk,sL))).2.2:=by rw[bi.o];exact bQ
   have aV:0<=(a4H t D (L.take (i+1)) ((C,sC),(Lk,sL))).2.2/\(a4H t D (L.take (i+1)) ((C,sC),(Lk,sL))).2.2<=18446744073709551615:=by rw[bi.o];exact cT.o
   have⟨bP,cg,bz,HF⟩:=η4 a2 a9 aV hF;clear a2 a9 aV hF bS bQ bs aq bf;go_wp2;go_roundg (Nv-(i+1));exact⟨i+1,by omega,by go_num,bP.o,cg.o,bz.o,HF.o⟩;omega
  obtain rfl:i=Nv:=ρo;have ck:¬(i:Int)<i:=ρo;rw[Qb (by rw[HN.o];exact Qg _),J.o]at ab ak;have hF:=((Q9 al.o).mono (G:=λk=>(k=cb\/k=cm)\/k=lb\/k=lm) (λk hk e=>ρo)).trans R (λk _ e=>e);have⟨c4,bq,HF⟩:=η3 ab ak hF;clear ab ak hF R aA aL aQ aI hap c3 ch ar;go_wp2;go_ret2;exact⟨rfl,⟨c4,bq.o⟩,HF.o⟩
 have F:=cf.o;rw[if_pos av]at F;subst F;have H:=aM.o;simp only at H;rw[if_pos av]at H;have aA:(q2 != 0)=true:=ρw av;have J:=η1 H;clear H av aU aZ;go_wp2;go_ret2;exact⟨rfl,bm.o _ bu J.symm⟩
end
section
theorem b3Z(lb lm:Nat)(L:List (Pt×a1J))(s:Int)(a:L.length<=1000000)(w:WD)(h:a0j w lb lm L s):Calls prog 109 #[.pointer lb] w λe w'=>∃v,∃ps:List OkP,e=.returned v/\(ps.map Subtype.val).Perm (L.map Prod.fst)/\a0T 189 33 w.heap.size w' v (ps.map (λx=>ptE.e x.1))/\Below w w w':=by
 have q0:=h.q0;have g:=b5s lm w;have b:=ρb w (.cells #[.map (some lm)] 164)
 have r:=b6u 229 #[.pointer w] (enters_of func229 ρk rfl)
  (N:=L.length) a (λm e=>by have:=e.length_eq;simp at this;omega) (w.alloc (.cells #[.map (some lm)] 164))
  (a9E Fence.wide 7 trivial rfl ρo w.heap.size lm L (by unfold maxLen;omega) _ ρp ((Qd w _ _).cell 0) (h.below b).mp)
 have f:=η1 b;clear b h;go_in;go_wp2_with fail;refine μf g ?_;go_wp2_with fail;refine μ1 r ?_;rintro B z ⟨v,m,d,rfl,p,j,y,o⟩;go_wp2;go_ret;exact⟨v,d,rfl,(j.map _).trans p,y.base ρp,φt f o⟩
theorem b3D(kb km:Nat)(N:List Nat)(L:List (Ke×MkD))(a:L.length<=1000000)(w:WD)(h:a0z w kb km N L):Calls prog 110 #[.pointer kb] w λe w'=>∃v,∃ps:List OkK,e=.returned v/\(ps.map Subtype.val).Perm (L.map Prod.fst)/\a0T 212 33 w.heap.size w' v (ps.map (λx=>keE.e x.1))/\Below w w w':=by
 have q0:=h.q0;have g:=b4p km w;have b:=ρb w (.cells #[.map (some km)] 167)
 have r:=b5N 232 #[.pointer w] (enters_of func232 ρk rfl)
  (N:=L.length) a (λm e=>by have:=e.length_eq;simp at this;omega) (w.alloc (.cells #[.map (some km)] 167))
  (a9z Fence.wide 7 trivial rfl ρo w.heap.size km L (by unfold maxLen;omega) _ ρp ((Qd w _ _).cell 0) (h.below b).mp)
 have f:=η1 b;clear b h;go_in;go_wp2_with fail;refine μf g ?_;go_wp2_with fail;refine μ1 r ?_;rintro B z ⟨v,m,d,rfl,p,j,y,o⟩;go_wp2;go_ret;exact⟨v,d,rfl,(j.map _).trans p,y.base ρp,φt f o⟩
theorem b4E(g o k:Nat):(⟨g,o,none⟩:Addr).add k=⟨g,o+k,none⟩:=by unfold Addr.add;split<;>simp_all
theorem c8e{t:TI}{n:Nat}(a:P.underlying t=some (.slice e))(b:(P.info? e).map (·.size)=some n)(w:WD)(g o N c i:Nat)(hi:i<=c):(SLs t (.slice (some ⟨g,o,none⟩) N c) none (some (.int .i64 i)) none).run P w=.ok (.slice (some ⟨g,o,none⟩) i c) w:=by
 obtain⟨q,d,f⟩:=Q8.1 b;have j:¬((i:Int)<0\/(c:Int)<i):=ρo;simp[SLs,Instr.sliceAt,Instr.slice,Instr.sliceBounds,Instr.sliceBound,asIntOf,run_underlying a,sizeOf,typeInfo,d,b4E,hi]
theorem c8f{t:TI}{n:Nat}(a:P.underlying t=some (.slice e))(b:(P.info? e).map (·.size)=some n)(w:WD)(g o N c i:Nat)(hi:i<=N):(SLs t (.slice (some ⟨g,o,none⟩) N c) (some (.int .i64 i)) none none).run P w=.ok (.slice (if c=i then some ⟨g,o,none⟩else some ⟨g,o+i*n,none⟩) (N-i) (c-i)) w:=by
 obtain⟨q,f,d⟩:=Q8.1 b;simp[SLs,Instr.sliceAt,Instr.slice,Instr.sliceBounds,Instr.sliceBound,asIntOf,run_underlying a,sizeOf,typeInfo,f,d,b4E,hi]
section
variable {P:PG} {e t:TI} {m B:Nat} {w w':WD} {R:LW}
theorem a0T.sp(h:a0T e m B w (.slice A N c) R):N=R.length/\((A=none/\R=[])\/∃g cur,A=some ⟨g,0,none⟩/\B<=g/\Blk w g e cur/\N<=c/\c<=maxLen/\cur.size=c*m/\cur.toList.take (N*m)=R.flatten):=by
 obtain⟨r,⟨a,b⟩ | ⟨g,cap,cur,a,p,j,f,d,o,ht⟩⟩:=h.own
 ·cases a
  exact⟨b.symm,.inl ⟨rfl,Zv.1 b⟩⟩
 simp only[Value.slice.injEq]at a;obtain⟨rfl,rfl,rfl⟩:=a;exact⟨rfl,.inr ⟨g,cur,rfl,p,j,f,d,o,ht⟩⟩
theorem a0T.mk'{a:AV}(d:B<=g)(f:Blk w g e a)(j:R.length<=c)(o:c<=maxLen)(p:a.size=c*m)(ht:a.toList.take (R.length*m)=R.flatten)(b:∀r∈R,r.length=m):a0T e m B w (.slice g R.length c) R:=
 ⟨⟨a7m m R b,.inr ⟨g,c,a,rfl,d,f,j,o,p,ht⟩⟩,b⟩
theorem a0T.ldR(b:(P.underlying t).map a1f=some true)(hi:(P.info? t).map (·.size)=some m)(h:a0T e m B w (.slice g N c) R)(a:i<R.length):(LDs t (.pointer (some ⟨g,i*m,none⟩))).run P w=.ok (.agg R[i].toArray) w:=by
 obtain⟨A,x,d,p,-⟩:=h.rd;simp only[Value.slice.injEq]at d;obtain⟨rfl,-,-⟩:=d;obtain⟨y,off,f,-,r⟩:=p i a;simp only[Option.some.injEq,Addr.mk.injEq,and_true]at f;obtain⟨rfl,rfl⟩:=f;refine a2e b hi w g (i*m) R[i] (h.len _ (Qu _)) (λj v o=>?_)
 have:=r j v o
 rwa [QP]at this
theorem b6c(cs:AV)(xs F:LV)(off M:Nat)(hF:cs.toList.take M=F)(h:off+xs.length<=M)(a:M<=cs.size):(a1d cs off xs).toList.take M=F.take off++xs++F.drop (off+xs.length):=by
 subst hF;have b:cs.toList.length=cs.size:=QD;unfold a1d;simp only[QT,Qa,Qx,b,List.take_take,List.drop_take];rw[QY (by omega:off<=cs.size),Nat.min_eq_right (by omega:off<=M),QY (by omega:off<=M),Qb (by omega:xs.length<=M-off)]
theorem a0T.setR(hi:(P.info? t).map (·.size)=some m)(h:a0T e m B w (.slice g N c) R)(a:i<R.length)(r:LV)(b:r.length=m)(d:∀u∈r,u.oneCell'=true):∃w',(STs t (.pointer (some ⟨g,i*m,none⟩)) (.agg r.toArray)).run P w=.ok () w'/\a0T e m B w' (.slice g N c) (R.set i r)/\Fr (λj=>j=g) w w'/\w'.heap.size=w.heap.size:=by
 obtain⟨rfl,⟨p,-⟩ | ⟨I,f,p,F,z,o,H,D,ht⟩⟩:=h.sp
 ·cases p
 simp only[Option.some.injEq,Addr.mk.injEq,and_true]at p;subst p;have E:R.length*m<=f.size:=by rw[D];exact Zb m o
 have G:i*m+m<=R.length*m:=by
  have:=Zb m (show i+1<=R.length from a)
  rwa [Yb,Nat.one_mul]at this
 refine⟨_,a0I hi z r b ρo d,?_,(Qp (λj=>j=g) w).setRow (λ_=>rfl) _,by simp⟩
 have y:=a0T.mk' (R:=R.set i r) F (z.row_ (a1d f (i*m) r)) (ρw o) H (by rw[a6n _ _ _ ρo];exact D) (by
  rw[List.length_set,b6c f r R.flatten (i*m) (R.length*m) ht ρo E,b]
  exact b1g m R h.len i a r b) (λs v=>by
   rcases List.mem_or_eq_of_mem_set v with x | x
   ·exact h.len s x
   rw[x];exact b)
 rwa [List.length_set]at y
theorem b4S{α:Type}(m:Nat):∀(L:List (List α)) (_:∀s∈L,s.length=m) (k:Nat),(L.take k).flatten=L.flatten.take (k*m)
 | [],_,k=>by simp
 | s::L,h,0=>by simp
 |
  s::L,h,k+1=>by
  have hs:s.length=m:=h s ρp;rw[List.take_succ_cons,Zm,Zm,b4S m L (λx hx=>h x (by simp[hx])) k,QT,hs,Qb (l:=s) (by rw[hs,Yb];omega),show(k+1)*m-m=k*m by rw[Yb];omega]
theorem b9c(a:z.size=m)(n:Nat)(d:0<m)(b:∀u∈z.toList,u.oneCell'=true):(Builtin.zeroCells z n).size=n*m/\∀u∈(Builtin.zeroCells z n).toList,u.oneCell'=true:=by
 refine⟨by simp[Builtin.zeroCells,a],λu f=>?_⟩;simp only[Builtin.zeroCells,Array.toList_map,Qs]at f;obtain⟨i,-,rfl⟩:=f;have hi:i % z.size<z.size:=Nat.mod_lt _ ρo;rw[getElem!_pos z (i % z.size) hi];exact b _ ρp
def CLs(t:TI)(ty:TI)(x:VL):Sem VL:=Builtin.clear_ #[t] ty #[x]
theorem a0T.clr{sl ty:TI}(a:P.underlying sl=some (.slice e))(b:∀w,(zeroValue e).run P w=.ok (.agg z) w)(d:z.size=m)(f:0<m)(o:∀u∈z.toList,u.oneCell'=true)(h:a0T e m B w (.slice g N c) R)(p:i<N):∃w',(CLs sl ty (.slice (some ⟨g,0+i*m,none⟩) (N-i) (c-i))).run P w=.ok (.tuple #[]) w'/\a0T e m B w' (.slice g i c) (R.take i)/\Fr (λj=>j=g) w w'/\w'.heap.size=w.heap.size:=by
 obtain⟨rfl,⟨D,-⟩ | ⟨U,r,D,K,I,H,S,J,ht⟩⟩:=h.sp
 ·cases D
 simp only[Option.some.injEq,Addr.mk.injEq,and_true]at D;subst D;have T:R.length*m<=r.size:=by rw[J];exact Zb m H
 obtain⟨y,F⟩:=b9c d (R.length-i) f o;have Q:i*m+(R.length-i)*m=R.length*m:=by rw[<-Yb];congr 1;omega
 have x:=run_storeCells_at P g (i*m) e (Builtin.zeroCells z (R.length-i)).toList 0 r w I (by rw[QD,y];omega) F;simp only[ZH]at x;obtain⟨q,O⟩:∃q,R.length-i=q+1:=⟨R.length-i-1,by omega⟩;refine⟨_,?_,?_,(Qp (λj=>j=g) w).setRow (λ_=>rfl) (a1d r (i*m) (Builtin.zeroCells z (R.length-i)).toList),by simp⟩
 ·unfold CLs
  rw[QP];rw[O]at x⊢;simp[Builtin.clear_,run_underlying a,b,Value.cells,x,a1d]
 have v:(R.take i).length=i:=by rw[Qx];omega
 have G:=a0T.mk' (R:=R.take i) (c:=c) K (I.row_ (a1d r (i*m) (Builtin.zeroCells z (R.length-i)).toList)) ρo S (by rw[a6n _ _ _ (by rw[QD,y];omega)];exact J) (by
  rw[v,b4S m R h.len i,<-ht,List.take_take,QY ρo];unfold a1d;simp only[QC];rw[QT,Qx,QD,QY ρo,Nat.sub_self,List.take_zero,ZC,List.take_take,Nat.min_self]) (λs E=>h.len s (QM E))
 rwa [v]at G
end
end
section
abbrev b8r:=ldOf 163
abbrev b7p:=stOf 163
theorem d3b:(prog.underlying 163).map a1f=some true:=ρk
theorem d1C:(prog.info? 163).map (·.size)=some 2:=ρk
abbrev b5t:=bdOf 206
theorem c9Z:a3s prog 206=some [(0,32),(32,1)]:=ρk
theorem d0m:(((prog.info? 206).bind (·.zero)).map (·.cells.toList))=some (a1s a3q):=ρk
theorem c6g{o:a1q}(h:o.ow.length=32)(w:WD):(BDs 206 #[(0,.agg (bys o.ow).toArray),(1,.int .u64 o.am)]).run prog w=.ok (.agg (a1s o).toArray) w:=by
 have a:(bys o.ow).length=32:=by rw[a0a,h]
 have b:=a0G a2R;refine a2H c9Z d0m _ _ ?_ w;rw[a0v (off:=0) (size:=32) rfl (by simp[Value.cells,a]) ρo,a0v (off:=32) (size:=1) rfl rfl (by simp[Value.cells,a,b]),a1Y]
 congr 1
 generalize d:a1s a3q=z at b⊢
 unfold a1s;simp[Value.cells,a,b,QT,QR]
theorem b7b(t:TxD)(n:Int):(a2K t n).length<=t.outs.length:=by
 unfold a2K
 split
 ·simp
 simp
def a6S(n me:Int)(C:List (Pt×a1q))(sC:Int)(t:TxD):Int×Int:=
 if a1a t≠0 then(0,a1a t)
 else if a0M (a2K t n) me=[]then(0,11)
 else if(a3f t (idP t) (a0M (a2K t n) me) (C,sC)).1≠0 then(0,(a3f t (idP t) (a0M (a2K t n) me) (C,sC)).1)
 else(a5v t (a0M (a2K t n) me),0)
def a9a(n me:Int)(C:List (Pt×a1q))(sC:Int)(t:TxD):List (Pt×a1q)×Int:=
 if(a6S n me C sC t).2≠0 then(C,sC)else(a3f t (idP t) (a0M (a2K t n) me) (C,sC)).2
theorem b8a{m:List (Pt×a1q)}(h:0<=s/\s<=18446744073709551615)(p:Pt){x:a1q}(a:x.Bd):0<=(a7H m s p x).2.2/\(a7H m s p x).2.2<=18446744073709551615:=by
 have:=b6Q s x.am h.1 a.am.1
 unfold a7H
 split
 ·exact h
 split
 ·exact h
 split
 ·exact h
 split
 ·exact h
 simp only;omega
theorem b7w{m:List (Pt×a1q)}(h:m.length<=256)(p:Pt)(x:a1q):(a7H m s p x).2.1.length<=256:=by
 unfold a7H
 split
 ·exact h
 split
 ·exact h
 split
 ·exact h
 split
 ·exact h
 simp only[Qa,ZB];omega
theorem b2s(t:TxD)(l:LI):0<=a5v t l/\a5v t l<=18446744073709551615:=by
 rcases List.eq_nil_or_concat l with rfl | ⟨a,k,rfl⟩
 ·simp[a5v]
 rw[List.concat_eq_append,a9x];exact a2h _
def c3j(w:WD)(cb:Nat)(e2:Int)(pc:List (Pt×a1q)×Int)(w':WD):Prop:=
 (e2≠0/\Below w w w')\/(e2=0/\∃cm' w1,w.heap.size<=cm'/\Below w w w1/\Fr (λk=>k=cb) w1 w'/\a0i w' cb cm' pc.1 pc.2)
attribute [local go_sem ↓] a2q a1B a5a a5i a9R b0o b0b b6z b5t b8r b7p
theorem b8j(cb cm:Nat)(C:List (Pt×a1q))(sC:Int)(y:0<=sC/\sC<=18446744073709551615)(d:OA)(r:Nat)(b:OA)(f:Nat)(t:TxD)(n me:Int)(z:-9223372036854775808<=n/\n<=9223372036854775807)(w:WD) (hC:a0i w cb cm C sC) (h:a9H w d b t) (hgl:a2x w) (hl:t.ins.length<=1000000) (hl2:t.outs.length<=1000000):Calls prog 152 #[.agg (txV d r b f t),.int .i64 n,.int .i64 me,.pointer cb] w λe w'=>e=.returned (.tuple #[.int .u64 (a6S n me C sC t).1,.int .i64 (a6S n me C sC t).2])/\c3j w cb (a6S n me C sC t).2 (a9a n me C sC t) w':=by
 have⟨le,B⟩:=η0 (a6S n me C sC t);have⟨pc,H⟩:=η0 (a9a n me C sC t);rw[B,H];unfold a9a at H;rw[B]at H;unfold a6S at B;have bl:=hC.st.lt;have cj:=hC.mp.lt;have b0:=Qd w 53 (txV d r b f t);have B0:=ρb w (.cells (txV d r b f t) 53)
 generalize hW:w.alloc (.cells (txV d r b f t) 53)=W at b0 B0
 have⟨g,hg⟩:=ηs w;rw[hg]at b0;have aI:=λX (hX:Below W W X)=>P4 uTx iTx (w:=X) (txV d r b f t).toList (by simpa using b0.fr (Q9 hX) (ρh b0.lt)) rfl
 have a6:=aI W (Qf _ _);have br:=a3L d r b f t W (h.below B0) hl hl2;have aM:=λX (hX:Below w w X)=>a6O d r b f t n me z X (h.below hX) (hgl.below hX) hl hl2
 have hid:=λX (hX:Below w w X)=>a2v d r b f t X (h.below hX) (hgl.below hX) hl hl2
 have cF:=λX (hX:Below w w X)=>a9h cb cm C sC X (hC.below hX)
 have bg:Blk W g 53 (txV d r b f t):=b0;have bq:=a3I (a2K t n) me;have ab:=b7b t n;have bO:=a1V (a2K t n) me;have cG:= @a8y t n;have⟨L,hL⟩:=η0 (a0M (a2K t n) me);rw[hL]at bq H bO B;have b9:L.length<=16:=ρo;simp only[hL]at aM
 have bF:∀x∈L,∃i:Nat,x=(i:Int)/\i<t.outs.length/\i<16:=λx hx=>by
  obtain⟨i,e,hi⟩:=(bq x).1 hx
  have:=(Qm.1 hi).1
  exact⟨i,e,by omega,by omega⟩
 have aG:Dig (idP t):=⟨a3b t,a5f t⟩;have⟨D,hD⟩:=η0 (idP t);rw[hD]at H aG B;simp only[hD]at hid;have bM:(bys D).length=32:=by rw[a0a,aG.1]
 have Q:=c1o;have⟨z1,bm⟩:=η0 ((bys (List.replicate 32 0)).toArray);have aQ:z1.size=32:=by rw[<-bm];simp[a0a]
 simp only[bm]at Q;obtain⟨z2,aY,aR,dt⟩:=P8 (t:=56) c6h d1w;have⟨xs,az⟩:=η0 (txV d r b f t);have bV:xs[1]? =some (.slice b t.outs.length f):=by rw[<-az];rfl
 simp only[show(txV d r b f t).toList.toArray=txV d r b f t by simp,az]at aI a6;rw[az]at hW br bg⊢;simp only[az]at aM hid;have⟨ck,a3⟩:=η0 (a1a t);rw[a3]at br B;have⟨df,HG,dB,b4,cZ,cM,dn,cN⟩:=η8 b9 hg B0 h bF aI aM hid;have⟨dc,cS,bT,cX,HC,bL,dT,dA⟩:=η8 H B bg bV hC bl cj cF;have⟨bA,cL,ce,dF,bY,cu,di⟩:=η7 aG bM Q aQ aY aR y;clear b9 hg B0 h bF aI aM hid H B bg bV hC bl cj cF aG bM Q aQ aY aR y bq ab bO cG hL az b0 hgl hD bm a3 dt;go_in;go_upto_region 3 with fail
 rw[HG.o];go_wp2_with fail;refine μi br ?_;intro w1 aL;have aA:=φt dB aL;have aU:=cM.o w1 aL;have aW:=dn.o w1 aA;have⟨b8,cR⟩:=η2 aA aL;clear aA aL a6
 by_cases I:ck=0
 rotate_left
 ·have B:=cS.o
  rw[if_pos I]at B;subst B;have bl:(ck != 0)=true:=ρw I;have dl:=η1 I;clear I aW aU;go_wp2;go_ret2;exact⟨rfl,.inl ⟨dl,b8.o⟩⟩
 subst I;have B:=cS.o;simp only[ne_eq,not_true_eq_false,if_false]at B;go_wp2_with fail;refine μ1 aW ?_;rintro e2 w2 ⟨v,u,rfl,hu,hv,bv⟩;obtain⟨Av,Nv,cv,rfl⟩:=hv.formN;have hN:=hv.lenN;have cQ:=hv.rd;have dK:Nv<=16:=by have:=df.o;omega
 have bQ:∀a,Av=some a->w1.heap.size<=a.block:=λa ha=>by subst ha;exact(hv.lt (k:=a.block) rfl).1
 have a4:=φt b8 bv;have aP:=φt cR bv;have⟨HN,dy,ch,cd,dQ⟩:=η5 hN cQ a4 aP bQ;clear hN cQ a4 aP bQ hv hu bv aU
 by_cases bX:Nv=0
 ·subst bX
  have aq:L=[]:=ZG HN.symm;rw[if_pos aq]at B;subst B;clear aq;go_wp2;go_ret2;exact⟨rfl,.inl ⟨by simp,ch.o⟩⟩
 have aq:L≠[]:=λe=>bX (by rw[HN.o,e];rfl)
 rw[if_neg aq]at B;have c8:((Nv:Int) == 0)=false:=by simp;omega
 have c9:decide ((Nv:Int)=0)=false:=by simp;omega
 have aV:=η1 B;clear B aq;go_upto_region 9 with fail
 clear c8 c9;have⟨U,hU⟩:=η0 w2.drew;have aF:Below w2 w2 U:=by rw[<-hU];exact(Qf _ _).drew
 have a2:=φt ch aF;have ae:=φt cd aF;have⟨S0,bC⟩:=η0 ((λY=>(LDs 53 (.pointer g)).run prog Y=.ok (.agg xs) Y):WD->Prop);have cy:∀Y,Below U U Y->S0 Y:=λY hY=>by rw[<-bC];exact cM.o Y (ae.trans (hY.mono ae.size))
 have⟨dj,bD,HU,N,av,b2⟩:=η6 bC cy hU a2 ae aF;clear bC cy hU a2 ae aF;with_reducible refine a4F (λi=>i != 3&&i != 6) S0 ρk ?_
 rw[HU.o];refine a2b (m:=6) (Lf:=#[true,false,true,false,false,false,false,false]) [(0,3),(2,0)] true ρk ρk ρk (λ_=>bD.o _ (Qf _ _)) ?_;refine εc1 ?_
 (with_reducible refine a3M (o:=?_) (v:=?_) (a':=?_) ρu ρu (λW' hS=>?_) ?_ ?_;rotate_left 2;(focus(rw[<-dj.o]at hS;exact ρs));focus(exact ρs))
 with_reducible refine a2m ?_
 have Q:=ce.o;refine a2A (j:=4) (n:=3) (Lf:=#[true,true,true,true,true,false,false,false]) (t:=31) (Z:=z1) [(1,2),(3,2)] ρk ρk ρk ρu rfl (λa X=>by go_simp) bD.o ?_;intro X0 bc;have cw:=dA.o X0 (φt N bc);have cH:=η1 bc;clear bc Q;with_reducible refine a4f (o:=?_) ρu ρu (λK hK=>?_)
 refine ψ ?_;go_simp;refine μ1 cw ?_;rintro e3 w3 ⟨rfl,bB,bh,a9⟩;clear cw;have⟨E,I⟩:=ηs X0;rw[I]at bB a9;rw[I];have au:U.heap.size<=E:=by rw[<-I];exact cH.size
 have b3:=φt cH bh;have⟨dr,dP,bZ,cq⟩:=η4 bB a9 au b3;clear bB a9 au b3 I;with_reducible refine hK _ _ bh (λX3 bf=>?_);clear hK K
 have bo:=dr.below bf;have b5:=η1 (φt cq bf);have cD:=cN.o X3 (N.trans (b5.mono N.size));have a0:E+1<X3.heap.size:=bo.st.lt;have⟨dx,dJ⟩:=η2 bo a0;clear bo a0 bh bf;with_reducible refine a4f (o:=?_) ρu ρu (λK hK=>?_)
 refine ψ ?_;go_simp;refine μi cD ?_;intro w4 aJ;clear cD;have cc:=φt b5 aJ;have ad:=dx.below aJ;have⟨cO,ds⟩:=η2 cc ad;clear cc ad;with_reducible refine hK _ _ aJ (λX5 bj=>?_);clear hK K
 have ai:=ds.below bj;have cK:=η1 (φt cO bj);have aS:=ai.st.lt;have⟨ak,dH⟩:=η2 ai aS;clear ai aS aJ bj;with_reducible refine a6e ?_;intro dz h4 bx aB
 have dq:=P7 iId aB dF (bys D) cL.o (a0h _);have r1:=aB.row_ (bys D).toArray;have r2:=Ql (g:=h4) cK.o bx (bys D).toArray;have aK:=ak.st.apart aB ρd;have bK:=ak.ne_blk aB;have f4:=ρr (h4) X5 (bys D).toArray;have cp:=ak.fr f4 aK bK;have⟨R1,R2,dk,dN⟩:=η4 r1 r2 cp bx;clear r1 r2 cp bx dz aB aK bK f4;refine a1c [(5,3),(6,2),(7,3)] true ρk ρk ρk (λ_=>bD.o _ cK.o) ?_;refine ε1 ?_;refine τ1 ?_;refine ε1 ?_;clear dq;refine ν ?_;have⟨Y4,ba⟩:=η0 (X5.setRow h4 (bys D).toArray);have kd:=R1.o;have aD:=R2.o;have ax:=dk.o;rw[ba]at kd aD ax;have a1:=φt N aD;have aZ:=φt av aD;have cJ:=φt b2 aD;have kt:=φf bT aZ;have bS:E+1≠h4:=ax.st.apart kd ρd;have bJ:E≠h4:=ax.ne_blk kd;have⟨dg,c2,ag,cP,dC,cU,cY,c4⟩:=η8 kd ax a1 cJ kt bS bJ ba;clear kd ax a1 cJ kt bS bJ ba aD aZ;go_upto_region 11 with fail
 rw[c4.o];have ci:a5v t []=0:=rfl;have db:=η1 ci;clear ci;go_loopg [15,17,18,19,43] Nv (λkk q _ _ _ s wr=>∃i:Nat,i+kk=Nv/\s=.int .i64 i/\q=.int .u64 (a5v t (L.take i))/\(a3f t D (L.take i) (C,sC)).1=0/\a0i wr (E+1) E (a3f t D (L.take i) (C,sC)).2.1 (a3f t D (L.take i) (C,sC)).2.2/\(0<=(a3f t D (L.take i) (C,sC)).2.2/\(a3f t D (L.take i) (C,sC)).2.2<=18446744073709551615)/\Fr (λk=>k=E+1\/k=E) Y4 wr);exact⟨0,by omega,rfl,by rw[List.take_zero,db.o],rfl,c2.o,di.o,Qp _ _⟩;obtain⟨i,hi,rfl,rfl,aa,G,V,R⟩:=hrel;have au:=bZ.o;have bN:=N.size;have bI:=ag.size;have aj:Below w w wr:=ag.trans (R.below_of ρo (λk e=>ρo))
 by_cases dm:i<Nv
 ·have bW:(i:Int)<Nv:=ρo
  have ab:i<L.length:=by rw[<-HN.o];exact dm
  obtain⟨g1,o1,rfl,bu,s1⟩:=dy.at ab;obtain⟨j,hj,bp,dI⟩:=cZ.o (L.getD i 0) (by simp[List.getD,ab]);have aH:L[i]=(j:Int):=by rw[<-hj];simp[List.getD,ab]
  obtain⟨g2,o2,c5,dh,cz⟩:=(b4.below aj).outs j bp;have J:=b4.bd.outs _ (Qu bp);have aT:=(cP.cell (p:=⟨g1,o1+i,none⟩) bu).trans s1;have da:=(R.cell (p:=⟨g1,o1+i,none⟩) (Qh bu cP.size) (show¬(g1=E+1\/g1=E) by have:=b2.size;omega)).trans aT;rw[hj]at da;have aN:b4C t L[i]=t.outs[j]:=by rw[aH];simp[b4C,List.getD,bp]
  have F:=b9s t D L[i] (L.take i) (C,sC) aa;rw[<-Qe ab,aN,aH]at F;have al:=a9x t (L.take i) L[i];rw[<-Qe ab,aN]at al
  have aO:∀e:Int,e≠0->(a3f t D (L.take (i+1)) (C,sC)).1=e->(a3f t D L (C,sC)).1=e:=λe he h1=>by
   have e1:L=L.take i++(L[i]::L.drop (i+1)):=by rw[List.getElem_cons_drop,ZW]
   rw[e1,b0M t D _ _ _ aa,a5M,aN,aH];rw[F]at h1
   split at h1
   ·rename_i aK
    rw[if_pos aK];exact h1
   exact absurd h1.symm he
  have⟨S,hS⟩:=η0 (a3f t D (L.take i) (C,sC));rw[hS]at F G V aa;have cA:a6l (D,(j:Int)):=⟨bA.1,bA.2,by show-9223372036854775808<=(j:Int)/\(j:Int)<=_;omega⟩;have O:=λX hX=>b0Q (E+1) E S.2.1 S.2.2 (D,(j:Int)) cA t.outs[j] J V X hX
  have ah:=b8a (m:=S.2.1) V (D,(j:Int)) J;have cx:=Pf d1I c6h wr g2 (o2+j*33) (a1s t.outs[j]) (a0G J) cz;have cr:=λX=>d2G bA.1 (j:Int) X
  have a8:=λX=>c6g (o:=t.outs[j]) J.len X
  have aE:=a0G J;have ar:=a1O t.outs[j];have an:(bys t.outs[j].ow).length=32:=by rw[a0a,J.len]
  have af:=b3l J;have T:=b7D J;have cg:=b2s t (L.take i);have dE:=J.am;have⟨am,bs⟩:=η0 (t.outs[j].am);simp only[bs]at a8;rw[bs]at T dE al;have⟨pt,bw⟩:=η0 (a7H S.2.1 S.2.2 (D,(j:Int)) t.outs[j]);rw[bw]at F ah;simp only[bw]at O;obtain⟨pe,p2⟩:=pt;simp only at F O ah;have⟨ow,bE⟩:=η0 (bys t.outs[j].ow);rw[bE]at af an;simp only[bE]at a8;have⟨ov,bt⟩:=η0 (a1s t.outs[j]);rw[bt]at cx aE af T;simp only[bt]at a8 O ar;have⟨pv,cC⟩:=η0 (ptL D (j:Int));simp only[cC]at cr O;have⟨dv,bz⟩:=η0 (bys D);simp only[bz]at cr;have cE:=dC.fr R (show¬(g=E+1\/g=E) by have:=bT.lt;have:=av.size;omega);have bb:=dg.o;have bi:=cL.o;rw[bz]at bb bi;have be:=bb.fr R (show¬(h4=E+1\/h4=E) by have:=cU.o;have:=cY.o;omega);have k0:=(cE.cell 1).trans cX;have⟨ni,bR⟩:=η0 t.outs.length;rw[bR]at k0;have dU:(j:Int)<ni:=ρo;have dR:(0:Int)<=(j:Int):=ρo
  generalize cT:a5v t (L.take i)=si at al cg⊢
  have cB:=bY.o wr;have a7:=cu.o wr ov aE ar;have ka:=Qd wr 56 ov.toArray;have D5:=ρb wr (.cells ov.toArray 56);have⟨a5,bH⟩:=ηs wr;rw[bH]at cB a7 ka
  generalize dp:wr.alloc (.cells ov.toArray 56)=V5 at a7 ka D5
  have ad:=G.below D5;have ay:=O V5 ad;have b6:=be.fr (Q9 D5) (ρh be.lt);have dM:=P4 a2i iId dv b6 bi;have dO:=P6 a2i iId ka (off:=0) ow an af;have cV:=(ka.cell 32).trans T;have bG:=R.trans (Q9 D5) (λk hk e=>by have:=R.size;omega);have du:=ad.st.lt;have c7:=ad.mp.lt;have bU:E+1<a5/\E<a5:=by have:=G.st.lt;have:=G.mp.lt;omega
  subst c5;have⟨dd,b7,bP,de,c1,c6,dS,cW⟩:=η8 F al aO ah bG ka aj bU;have cn:=η1 T;clear F al aO ah bG ka aj bU T hS aH hj aN cz J V G cE be b6 bb bi cA O R du c7 ad D5 bH dp aT s1 bu dh bs bE bt cC bz bR cT aE ar an af aa bN bI au bw;go_wp2_with fail;refine μ1 ay ?_;rintro e6 w6 ⟨rfl,ai,bk⟩;clear ay;have ct:=c6.fr bk (show¬(a5=E+1\/a5=E) by have:=cW.o;omega);have q6:=(ct.cell 32).trans cn;have bn:=c1.trans bk (λk _ e=>e);have cf:Below w w w6:=ag.trans (bn.below_of (ρh ag.o.size) (λk e=>by have:=bZ.o;have:=N.size;omega));have F:=dd.o;have⟨ak,c3,dD⟩:=η3 ai bn cf;clear ai bn cf bk ct cV
  by_cases ac:pe=0
  ·subst ac
   rw[if_neg ρp]at F;have aC:=η1 F;clear F;go_wp2;go_roundg (Nv-(i+1));exact⟨i+1,by omega,by go_num,by rw[b7.o],by rw[aC.o],by rw[aC.o];exact ak.o,by rw[aC.o];exact de.o,c3.o⟩;omega
  have dV:(pe != 0)=true:=ρw ac;rw[if_pos ac]at F;have B:=aV.o;have hx:=bP.o pe ac (by rw[F]);rw[hx,if_pos ac]at B;subst B;have dw:=η1 ac;clear ac hx F q6;go_wp2;go_ret2;exact⟨rfl,.inl ⟨dw,dD.o⟩⟩
 obtain rfl:i=Nv:=ρo;have bW:¬(i:Int)<i:=ρo;rw[Qb (by rw[HN.o];exact Qg _)]at aa G V⊢;have B:=aV.o;rw[aa,if_neg ρp]at B;subst B;have H:=dc.o;simp only[ne_eq,not_true_eq_false,if_false]at H;rw[H]at G V;have dG:=P4 d3b d1C [.map (some E),.int .u64 pc.2] G.st rfl;have ao:=HC.st.fr (Q9 aj) (ρh bL.o)
 have dL:=P9 d1C ao rfl [.map (some E),.int .u64 pc.2] rfl (by
  intro v hv;simp only[Qo,Qt,or_false]at hv
  rcases hv with rfl | rfl<;>rfl)
 have kz:=ao.row_ #[.map (some E),.int .u64 pc.2];have fz:=ρr (cb) wr #[.map (some E),.int .u64 pc.2];have cI:a0i (wr.setRow cb #[.map (some E),.int .u64 pc.2]) cb E pc.1 pc.2:=⟨kz,G.mp.fr fz (show¬E=cb by have:=bL.o;omega),G.bd⟩;have aX:c3j w cb 0 pc (wr.setRow cb #[.map (some E),.int .u64 pc.2]):=.inr ⟨rfl,E,wr,by omega,aj,fz,cI⟩;have ca:=η1 aX;clear aX cI fz kz ao G V R aa H au bN bI aj;go_wp2;go_ret2;exact⟨rfl,ca.o⟩
end
section
def d3K(p:OkP->Bool)(ss:List OkP)(k:Int):Prop:=(k=-1/\∀x∈ss,p x=false)\/∃i:Nat,k=(i:Int)/\∃h:i<ss.length,p ss[i]=true/\∀x∈ss.take i,p x=false
theorem c6Y(ty:TI)(x:VL):Builtin.clear_ #[204] ty #[x]=CLs 204 ty x:=rfl
attribute [local go_sem ↓] a1F a4Z a5p a3w c6Y
theorem c8y(f:Nat)(lb:AV)(j:∀args w,(callFunc f args).run prog w=.ok (.enter f args) w)(p:OkP->Bool)(a:List OkP)(A:OA)(N c B:Nat)(w:WD)(d:a.length<=1000000)(h:a0T 189 33 B w (.slice A N c) (a.map (λx=>ptE.e x.1))) (hp:∀W x,Below w.heap.size w W->Calls prog f (#[.agg (ptE.e x.1).toArray]++lb) W λe w'=>e=.returned (.bool (p x))/\Below W.heap.size W w'):Calls prog 274 #[.slice A N c,.func (.func f) #[] lb] w λe w'=>(∃k,e=.returned (.int .i64 k)/\d3K p a k)/\Below w.heap.size w w':=by
 obtain⟨O,R⟩:=h.sp;rw[Qw]at O;have U:N<=1000000:=ρo;have⟨T,Z,HH,HP,aa⟩:=η5 O R h hp d;clear O R h hp d;go_in;go_upto_region 2 with fail
 go_loopg [5,8] N (λY _ s wr=>∃i:Nat,i+Y=N/\s=.int .i64 i/\(∀x∈a.take i,p x=false)/\Below w.heap.size w wr);exact⟨0,by omega,rfl,by simp,Qf _ _⟩;obtain⟨i,hi,rfl,r,m⟩:=hrel
 by_cases H:i<N
 ·have S:(i:Int)<N:=ρo
  have y:i<a.length:=by rw[<-T.o];exact H
  rcases Z.o with⟨-,V⟩ | ⟨g,ab,rfl,-⟩
  ·have:=congrArg List.length V
   simp at this;subst this;simp at y
  have F:=(HH.keep m).ldR (t:=189) a3a a1H (i:=i) (ρw y);simp only[QS]at F;have P:=HP.o wr a[i] m;have⟨pv,z⟩:=η0 (ptE.e a[i].1);rw[z]at F P;have⟨b,I⟩:=η0 (p a[i]);rw[I]at P;have⟨v,o,Q,X⟩:=η4 r m I z;clear r m I z;go_wp2_with fail;refine μi P ?_;intro w1 D;have E:=η1 D;clear D
  cases b with
  |
   true=>
   go_wp2;go_ret;exact⟨⟨_,rfl,.inr ⟨i,rfl,y,Q.o,v.o⟩⟩,o.trans (E.mono o.size)⟩
  |
   false=>
   go_wp2;go_roundg (N-(i+1))
   case measure=>omega
   case rel=>exact⟨i+1,by omega,by go_num,λx G=>by
    rw[Qe y]at G
    rcases Qq.1 G with J | J
    ·exact v.o x J
    rw[Qn.1 J];exact Q.o,o.trans (E.mono o.size)⟩
 have K:i=N:=ρo;subst K;have⟨v,o⟩:=η2 r m;clear r m;go_wp2;go_ret;exact⟨⟨-1,rfl,.inl ⟨rfl,λx G=>v.o x (by rw[T.o,ZF];exact G)⟩⟩,o.o⟩
structure b9P(p:OkP->Bool)(ss:List OkP)(i j:Nat)(R:List OkP):Prop where
 len:R.length=ss.length
 lo:R.take i=(ss.take j).filter (λx=>!p x)
 hi:R.drop j=ss.drop j
 lt:i<j
 le:j<=ss.length
theorem b9P.start{p:OkP->Bool}{a:List OkP}(h:i<a.length)(ht:p a[i]=true)(b:∀x∈a.take i,p x=false):b9P p a i (i+1) a where
 len:=rfl
 lo:=by
  rw[Qe h,List.filter_append,List.filter_cons,if_neg (by simp[ht]),List.filter_nil,ZC];exact(List.filter_eq_self.2 (λx d=>by simp[b x d])).symm
 hi:=rfl
 lt:=ρo
 le:=ρo
theorem b9P.get{p:OkP->Bool}{a R:List OkP}(h:b9P p a i j R)(b:j<a.length):R[j]'(by rw[h.len];exact b)=a[j]:=by
 have d:=congrArg (λl:List OkP=>l[0]?) h.hi;simp only[ZY,ZH]at d;rw[QN (ρy h.len b),QN b]at d;exact Option.some.inj d
theorem b9P.keep{p:OkP->Bool}{a R:List OkP}(h:b9P p a i j R)(b:j<a.length)(d:p a[j]=false):b9P p a (i+1) (j+1) (R.set i a[j]) where
 len:=by rw[List.length_set];exact h.len
 lo:=by
  have hi:i<R.length:=by have:=h.lt;rw[h.len];omega
  rw[Qe (ρw hi),Qe b,List.filter_append,List.filter_cons,if_pos (by simp[d]),List.filter_nil,<-h.lo];simp only[List.take_set,List.getElem_set_self];rw[List.set_eq_of_length_le (by rw[Qx];omega)]
 hi:=by
  have f:=congrArg (List.drop 1) h.hi;simp only[List.drop_drop]at f;rw[List.drop_set_of_lt (ρh h.lt)];exact f
 lt:=by have:=h.lt;omega
 le:=ρo
theorem b9P.skip{p:OkP->Bool}{a R:List OkP}(h:b9P p a i j R)(b:j<a.length)(d:p a[j]=true):b9P p a i (j+1) R where
 len:=h.len
 lo:=by
  rw[Qe b,List.filter_append,List.filter_cons,if_neg (by simp[d]),List.filter_nil,ZC];exact h.lo
 hi:=by
  have f:=congrArg (List.drop 1) h.hi
  simpa only[List.drop_drop]using f
 lt:=by have:=h.lt;omega
 le:=ρo
theorem d3s:∃z:AV,(∀w,(zeroValue 189).run prog w=.ok (.agg z) w)/\z.size=33/\∀u∈z.toList,u.oneCell'=true:=
 ⟨(ptL (List.replicate 32 0) 0).toArray,λw=>by kernel_rfl,by decide,a2p _ _⟩
theorem c5P(f:Nat)(lb:AV)(m:∀args w,(callFunc f args).run prog w=.ok (.enter f args) w)(p:OkP->Bool)(a:List OkP)(A:OA)(N c B:Nat)(w:WD)(d:a.length<=1000000)(h:a0T 189 33 B w (.slice A N c) (a.map (λx=>ptE.e x.1))) (hp:∀W x,Fr (λj=>(Value.slice A N c).ownBlock=some j) w W->Calls prog f (#[.agg (ptE.e x.1).toArray]++lb) W λe w'=>e=.returned (.bool (p x))/\Below W.heap.size W w'):Calls prog 255 #[.slice A N c,.func (.func f) #[] lb] w λe w'=>∃n,e=.returned (.slice A n c)/\a0T 189 33 B w' (.slice A n c) ((a.filter (λx=>!p x)).map (λx=>ptE.e x.1))/\Fr (λj=>(Value.slice A N c).ownBlock=some j) w w':=by
 obtain⟨hN,hA⟩:=h.sp;rw[Qw]at hN;have aX:N<=1000000:=ρo;have Y:=c8y f lb m p a A N c B w d h (λW x hW=>hp W x ((Q9 hW).mono (λj hj e=>absurd hj ρo)));have⟨HN,HA,HH,HP,a1⟩:=η5 hN hA h hp d;clear hN hA h hp d;go_in;go_wp2_with fail;refine μ1 Y ?_;rintro e1 w1 ⟨⟨k,rfl,hk⟩,r⟩;have U:Fr (λj=>(Value.slice A N c).ownBlock=some j) w w1:=(Q9 r).mono (λj hj e=>absurd hj ρo)
 rcases hk with⟨rfl,G⟩ | ⟨i0,rfl,S,ax,G⟩
 ·have aE:=η1 G
  have⟨av,aa⟩:=η2 r U;clear G r U Y;go_wp2;go_ret;refine⟨N,rfl,?_,aa.o⟩;rw[List.filter_eq_self.2 (λx hx=>by simp[aE.o x hx])];exact HH.keep av
 rcases HA.o with⟨-,e0⟩ | ⟨g,aW,rfl,-,-,aA,-⟩
 ·have:=congrArg List.length e0
  simp at this;subst this;simp at S
 have ao:=b9P.start S ax G;have aV:((i0:Int) == -1)=false:=beq_eq_false_iff_ne.2 ρo;obtain⟨Z,D,V,hz⟩:=P8 (t:=189) a1H c3w;have aq:=HH.keep r;have aT:i0<N:=by rw[HN.o];exact S
 have⟨aP,av,aa,aB,aM,aR,ai⟩:=η7 ao r U aq D V aA;clear ao r U aq D V aA Y G ax S;go_wp2_with fail;go_loopg [5,6,7] (N-(i0+1)) (λkk u v _ wr=>∃(i j:Nat) (R:List OkP),j+kk=N/\u=.int .i64 i/\v=.int .i64 j/\b9P p a i j R/\a0T 189 33 B wr (.slice g N c) (R.map (λx=>ptE.e x.1))/\Fr (λj=>(Value.slice g N c).ownBlock=some j) w wr);exact⟨i0,i0+1,a,by omega,rfl,by go_num,aP.o,aB.o,aa.o⟩;obtain⟨i,j,R,hj,rfl,rfl,J,hO,hF⟩:=hrel
 by_cases aD:j<N
 ·have aU:(j:Int)<N:=ρo
  have T:j<a.length:=by rw[<-HN.o];exact aD
  have aF:=J.lt;have F:=hO.ldR (t:=189) a3a a1H (i:=j) (by rw[Qw,J.len];exact T);simp only[QS]at F;rw[J.get T]at F;have I:(ptE.e a[j].1).length=33:=a1x a[j].2.len _;have af:∀u∈ptE.e a[j].1,u.oneCell'=true:=a2p _ _;have⟨q,hq⟩:=ηs wr;have D:=aM.o wr;have H:=aR.o wr (ptE.e a[j].1) I af;have bq:=Qd wr 189 (ptE.e a[j].1).toArray;have ad:=hO.alloc (.cells (ptE.e a[j].1).toArray 189);have Q:=hF.alloc (.cells (ptE.e a[j].1).toArray 189)
  generalize ar:wr.alloc (.cells (ptE.e a[j].1).toArray 189)=w3 at H bq ad Q
  have hc:=HP.o w3 a[j] Q;rw[hq]at D H bq;have aG:(a[j])=a[j]:=rfl;have⟨b,hb⟩:=η0 (p a[j]);rw[hb]at hc;have⟨pv,ag⟩:=η0 (ptE.e a[j].1);rw[ag]at F H bq I af hc;have X:=P4 a3a a1H pv bq I;have⟨HI,aO,az,HQ,a0,HB,aN,aH⟩:=η8 J ad Q hq ar hb ag bq;clear J ad Q hq ar hb ag bq hO hF aG;go_wp2_with fail;refine μi hc ?_;intro w4 o;have al:=P4 a3a a1H pv (φf aH o) I;have O:=aO.keep o;have K:=az.trans (Q9 o) (λk hk e=>absurd e (ρh az.o.size))
  cases b with
  |
   true=>
   have⟨aL,aJ,ac⟩:=η3 o O K;clear o O K F X al D H hc;go_wp2;go_roundg (N-(j+1));exact⟨i,j+1,R,by omega,rfl,by go_num,HI.skip T HB.o,aJ.o,ac.o⟩;omega
  |
   false=>
   obtain⟨w5,an,y,E,aj⟩:=O.setR (t:=189) a1H (i:=i) (by rw[Qw,HI.len];omega) pv I af;have aZ:(i:Int)<N:=ρo;have⟨aL,ac,ab,ae⟩:=η4 o K y E;clear o K y E F X D H hc O;go_wp2;go_roundg (N-(j+1));exact⟨i+1,j+1,R.set i a[j],by omega,by go_num,by go_num,HI.keep T HB.o,by rw[List.map_set,aN.o];exact ab.o,ac.trans ae.o (λk hk e=>by subst e;rfl)⟩;omega
 have aQ:j=N:=by have:=J.le;have:=HN.o;omega
 have aF:=J.lt;have ah:=J.lo;have aK:=J.len;rw[Qb (l:=a) (by rw[aQ];have:=HN.o;omega)]at ah;obtain⟨z,ay,au,ak⟩:=d3s;obtain⟨w5,an,y,E,aj⟩:=hO.clr (sl:=204) (ty:=0) d0F ay au ρo ak (i:=i) ρo;rw[QP]at an;have aI:c≠i:=by have:=ai.o;omega
 have aC:=λW=>c8f (P:=prog) d0F a1H W g 0 N c i ρo
 have aY:=λW=>c8e (P:=prog) d0F a1H W g 0 N c i (ρh ai.o)
 simp only[if_neg aI]at aC;have aS:¬((j:Int)<N):=ρo;rw[<-List.map_take,ah]at y;have⟨HF,ab,ae⟩:=η3 hF y E;clear hF y E J hO ay au ak ah aK;go_wp2;go_ret;exact⟨i,rfl,by simpa using ab.o,HF.trans ae.o (λk hk e=>by subst e;rfl)⟩
end
section
theorem b4t:(((prog.info? 41).bind (·.zero)).map (·.cells.size))=some 139:=ρk
theorem b7f(t:TxD):∀(l:LI) (c:List (Pt×a1q)×Int),(0<=c.2/\c.2<=18446744073709551615)->c.1.length<=256->(0<=(a6u t l c).2/\(a6u t l c).2<=18446744073709551615)/\(a6u t l c).1.length<=256
 | [],c,h1,h2=>⟨h1,h2⟩
 | k::l,c,h1,h2=>b7f t l _ (a2h _) (Qk (b6X _ _) h2)
theorem c7R{C:List (Pt×a1q)}{Lk:List (Pt×a1J)}(a:0<=sC/\sC<=18446744073709551615)(b:C.length<=256):(0<=(c2G n me C sC Lk t).2/\(c2G n me C sC Lk t).2<=18446744073709551615)/\(c2G n me C sC Lk t).1.length<=256:=by
 unfold c2G
 split
 ·exact⟨a,b⟩
 exact b7f t _ _ a b
theorem c7z(h:t.Bd)(k:Int)(a:k.toNat<t.outs.length):(b4C t k).Bd:=by
 have:b4C t k=t.outs[k.toNat]:=by simp[b4C,List.getD,a]
 rw[this];exact h.outs _ (Qu a)
theorem b7c(t:TxD)(ht:t.Bd)(id:LI):∀(l:LI) (c:List (Pt×a1q)×Int),(∀k∈l,k.toNat<t.outs.length)->(0<=c.2/\c.2<=18446744073709551615)->c.1.length<=256->(0<=(a3f t id l c).2.2/\(a3f t id l c).2.2<=18446744073709551615)/\(a3f t id l c).2.1.length<=256
 | [],c,_,h1,h2=>⟨h1,h2⟩
 |
  k::l,c,hl,h1,h2=>by
  rw[a5M]
  split
  ·exact⟨h1,h2⟩
  exact b7c t ht id l _ (λj hj=>hl j (Qj _ hj)) (b8a h1 _ (c7z ht k (hl k Qr))) (b7w h2 _ _)
theorem b7G{C:List (Pt×a1q)}(ht:t.Bd)(a:0<=sC/\sC<=18446744073709551615)(b:C.length<=256):(0<=(a9a n me C sC t).2/\(a9a n me C sC t).2<=18446744073709551615)/\(a9a n me C sC t).1.length<=256:=by
 unfold a9a
 split
 ·exact⟨a,b⟩
 refine b7c t ht _ _ _ (λk d=>?_) a b;obtain⟨i,e,hi⟩:=(a3I (a2K t n) me k).1 d
 have:=(Qm.1 hi).1
 have:=b7b t n
 rw[e];simp only[Zd];omega
theorem b8g(n me:Int)(C:List (Pt×a1q))(sC:Int)(t:TxD):0<=(a6S n me C sC t).1/\(a6S n me C sC t).1<=18446744073709551615:=by
 unfold a6S
 split
 ·simp
 split
 ·simp
 split
 ·simp
 exact b2s _ _
def c4t(seed:LI)(x:ShD)(cmd:LI)(t:TxD):Except Int (ShD×RpD):=
 if 128<=x.M.length then .error 18
 else if b1e x t.outs.length=true then .error 18
 else if(a6S x.n x.me x.C x.sC t).2≠0 then .error (a6S x.n x.me x.C x.sC t).2
 else if(a5b x.fees t.fee).2≠0 then .error (a5b x.fees t.fee).2
 else b5e seed {x with C:=(a9a x.n x.me x.C x.sC t).1,sC:=(a9a x.n x.me x.C x.sC t).2,fees:=x.fees+t.fee} 0 cmd t ⟨3,0,a7R,(a6S x.n x.me x.C x.sC t).1,2,0⟩
def c6M(seed:LI)(x:ShD)(cmd:LI)(t:TxD):Except Int (ShD×RpD):=
 if(a7D t x.n).2=false then .error 11
 else if(a7D t x.n).1≠x.me then .error 11
 else if b9d t.exp x.ep=true then .error 12
 else if(a2E x.M (0,idP t)).isSome=true then .ok (x,a2O (a2Q x.M (0,idP t)).c)
 else if t.exp<=x.ep then .error 12
 else if(a1w x.n x.me x.C x.L t).2≠0 then .error (a1w x.n x.me x.C x.L t).2
 else c4t seed {x with C:=(c2G x.n x.me x.C x.sC x.L t).1,sC:=(c2G x.n x.me x.C x.sC x.L t).2} cmd t
attribute [local go_sem ↓] a2q a1G a1M a7d a3j
theorem d0a(B a:Nat)(b:ShB)(N:List Nat)(seed:LI)(x:ShD)(A:OA)(n c:Nat)(m:LI)(z:n=m.length)(D:A=none->c=0)(y:m.length<=100000000)(d:OA)(o:Nat)(f:OA)(p:Nat)(t:TxD)(w:WD) (h:a1e w a b N seed x) (hB:∀j∈a::b.own,B<=j) (hby:b9j B w A m) (hgl:a8S B w) (ht:TxS B w d f t) (hl1:t.ins.length<=1000000) (hl2:t.outs.length<=1000000):Calls prog 87 #[.pointer a,.slice A n c,.agg (txV d o f p t)] w λe w'=>a6x B a N seed (c6M seed x m t) e w'/\b1q B a seed w w':=by
 generalize E:c6M seed x m t=q
 unfold c6M at E;have⟨g,hg⟩:=ηs w;have b4:=ht.at_.bd;have bP:(txV d o f p t)[1]? =some (.slice f t.outs.length p):=rfl;have bo:(txV d o f p t)[0]? =some (.slice d t.ins.length o):=rfl;have bg:(txV d o f p t)[2]? =some (.int .u64 t.fee):=rfl;have bs:(txV d o f p t)[3]? =some (.int .i64 t.exp):=rfl;have bL:(txV d o f p t).toList.length=4:=rfl
 generalize cH:txV d o f p t=tv at bo bP bg bs bL⊢
 have b0:=Qd w 53 (tv);have B0:=ρb w (.cells (tv) 53)
 generalize hW:w.alloc (.cells (tv) 53)=W at b0 B0
 rw[hg]at b0;have bF:W.heap.size=g+1:=by rw[<-hW,Qi,hg]
 have aW:=a5k W;have⟨zs,bn⟩:=η0 ((a0O 0 false a0r none 0).toArray);have a8:zs.size=139:=by rw[<-bn,Qc];exact a0A a0B _ _ _ _
 rw[bn,bF]at aW;have bt:=b0.alloc (.cells zs 41);have bz:=Qd W 41 zs;have B1:Below w w (W.alloc (.cells zs 41)):=B0.alloc B0.size _
 generalize hV:W.alloc (.cells zs 41)=V at bt bz B1 aW
 rw[bF]at bz;have ct:(ALs 41).run prog (w.alloc (.cells tv 53))=.ok (.pointer (g+1:Nat)) V:=by rw[hW];exact aW
 have hX:=a4m.begin h hB B1 (r:=g+1) ⟨by omega,bz.lt⟩ (K:=[(g,53,tv),(g+1,41,zs)]) (λq E=>by
  simp only[Qo,Qt,or_false]at E
  rcases E with rfl | rfl
  ·exact⟨by simp only;omega,bt⟩
  exact⟨by simp only;omega,bz⟩)
 have a9:∀X y' b' N',a4m B (g+1) w a b' N' seed y' [(g,53,tv),(g+1,41,zs)] X->(LDs 53 (.pointer g)).run prog X=.ok (.agg tv) X:=λX y' b' N' hx=>by
  have:=P4 uTx iTx (w:=X) tv.toList (by simpa using(hx.kp _ Qr).1) bL
  simpa using this
 have a4:∀X y' b' N',a4m B (g+1) w a b' N' seed y' [(g,53,tv),(g+1,41,zs)] X->X.cell? ⟨g,0,none⟩=some (.slice d t.ins.length o)/\X.cell? ⟨g,1,none⟩=some (.slice f t.outs.length p)/\X.cell? ⟨g,2,none⟩=some (.int .u64 t.fee)/\X.cell? ⟨g,3,none⟩=some (.int .i64 t.exp):=λX y' b' N' hx=>
  have hk:=(hx.kp _ Qr).1
  ⟨(hk.cell 0).trans bo,(hk.cell 1).trans bP,(hk.cell 2).trans bg,(hk.cell 3).trans bs⟩
 obtain⟨ZR,ad,a2,c8⟩:=P8 (t:=41) a4h b4t;have ch:-9223372036854775808<=x.n/\x.n<=9223372036854775807:=by have:=h.ok.n;have:=h.ok.me;omega
 have cf:Dig (idP t):=⟨a3b t,a5f t⟩;have⟨c3,c4,b5,cR,aB,aD,db,c0⟩:=η8 hX E a8 hby hgl ht z D;have⟨dg,HG,ah,aH,ci,cD,cC,br⟩:=η8 y hg a9 a4 ad a2 ch b4;have⟨dx,ay,dk⟩:=η3 cf cH h;clear hX E a8 hby hgl ht z D y hg a9 a4 ad a2 ch b4 cf cH h bn b0 B0 bt bz B1 bF aW bo bP bg bs bL hB hW hV c8;go_in;have⟨U1,bw⟩:=η0 V.drew;have aA:=c3.drew;rw[bw]at aA;have cK:(LDs 53 (.pointer g)).run prog U1=.ok (.agg tv) U1/\U1.cell? ⟨a,1,none⟩=some (.int .i64 x.n):=⟨ah.o _ _ _ _ aA,aA.sh.c.2.1⟩;have⟨bC,bY,cS⟩:=η3 aA bw cK;clear aA bw cK;go_upto_region 1 with fail
 rw[HG.o];clear ct;refine a0s [(1,3),(2,3),(3,3),(0,0),(4,0),(5,2),(6,3),(7,3),(8,3),(9,3),(10,3)] (λY=>(LDs 53 (.pointer g)).run prog Y=.ok (.agg tv) Y/\Y.cell? ⟨a,1,none⟩=some (.int .i64 x.n)) ρk ρk ρk ρk (ρy bY.o cS.o) ?_;rw[bY.o];have aS:=b6P d o f p t x.n cC U1 (aD.go bC.fr).at_ (aB.go bC.fr).at_ hl1 hl2;rw[ay.o]at aS;have⟨sp,bI⟩:=η0 (a7D t x.n);rw[bI]at aS;have E:=c4.o;rw[bI]at E;obtain⟨sk,ss⟩:=sp;simp only at aS E;have bX:=η1 E;clear E bI;refine ε3 ?_
 iterate 2 refine θ2 (λ_ h=>h) ?_
 refine τ ?_;intro K hK;refine μi aS ?_;intro w5 cx;with_reducible refine hK _ _ ?_;clear hK K
 refine ε5 ?_;clear aS;refine ν ?_;have cd:=bC.below cx;have H:=η1 cd;clear cd cx;have q0:=H.sh.c.1;have aX:=a0X true 11 w5;simp only[if_true]at aX;have bO:=a1m 11 ρo w5
 cases ss with
 |
  false=>
  have E:=bX.o;rw[if_pos rfl]at E;subst E;go_wp2_with fail;refine μf aX ?_;go_wp2_with fail;refine μf bO ?_;exact⟨rfl,H.ref ρo⟩
 | true=>
 have E:=bX.o;rw[if_neg ρp]at E
 by_cases av:sk=x.me
 rotate_left
 ·rw[if_pos av]at E
  subst E;have hb:(sk != x.me)=true:=ρw av;go_wp2_with fail;refine μf aX ?_;go_wp2_with fail;refine μf bO ?_;exact⟨rfl,H.ref ρo⟩
 rw[if_neg (by simp[av])]at E;have hb:(sk != x.me)=false:=ρw av;have bJ:=a0X false 11 w5;simp only[QI,if_false]at bJ;have cc:=a1o w5;clear aX bO;have⟨cM,dv⟩:=η2 E av;clear E av;go_wp2_with fail;refine μf bJ ?_;go_wp2_with fail;refine μf cc ?_;clear bJ cc hb q0;have cv:=ah.o _ _ _ _ H
 by_cases J:b9d t.exp x.ep=true
 ·have E:=cM.o
  rw[if_pos J]at E;subst E;have Q:=a7T a b ((g+1)::N) seed x 0 d o f p t w5 H.sh J;rw[ay.o]at Q;clear J;go_wp2_with fail;refine μi Q ?_;intro w9 ab;exact⟨rfl,(H.below ab).ref ρo⟩
 have E:=cM.o;rw[if_neg J]at E;have Q:=a7X a b ((g+1)::N) seed x 0 ρo d o f p t w5 H.sh (ρw J) (aD.go H.fr).at_ (aB.go H.fr).at_ hl1 hl2;rw[ay.o]at Q;have⟨ck,dl⟩:=η2 E J;clear E J;go_wp2_with fail;refine μ1 Q ?_;rintro e9 w9 ⟨⟨A9,c9,rfl,aq,ba⟩,ab⟩;clear Q cv;have bf:a3C w5 w9 (a2Q x.M (0,idP t)).c A9 c9:=⟨aq.bd,aq.len,ba⟩;have R:=a0A aq.bd 0 true A9 c9;have ad:=ci.o w9;have aa:=cD.o w9 (a0O 0 true (a2Q x.M (0,idP t)).c A9 c9) R (a0W _ _ _ _ _);have kr:=Qd w9 41 (a0O 0 true (a2Q x.M (0,idP t)).c A9 c9).toArray;have Dr:=ρb w9 (.cells (a0O 0 true (a2Q x.M (0,idP t)).c A9 c9).toArray 41);have⟨r9,cN⟩:=ηs w9;rw[cN]at ad aa kr
 generalize dt:w9.alloc (.cells (a0O 0 true (a2Q x.M (0,idP t)).c A9 c9).toArray 41)=Y9 at aa kr Dr
 have aU:=(H.below ab).below Dr;have bb:=P4 a7w a4h _ kr R;have U:(g+1,41,zs)∈[(g,53,tv),(g+1,41,zs)]:=by simp
 have a7:=aU.sto U b5 (a0O 0 true (a2Q x.M (0,idP t)).c A9 c9) R (a0W _ _ _ _ _);have cJ:g+1<w5.heap.size:=(H.kp _ U).1.lt;have S:=aU.fin U (N0:=N) (λj hj=>Qj _ hj) (y0:=x) rfl (rp:=a2O (a2Q x.M (0,idP t)).c) H.sz cJ (bf.below Dr) rfl
 generalize aC:(a2E x.M (0,idP t)).isSome=is9
 have⟨cA,aI⟩:=η0 (a0O 0 true (a2Q x.M (0,idP t)).c A9 c9);simp only[a2O]at S;rw[aI]at aa bb a7 R S;rw[aI];have E:=ck.o;rw[aC]at E;have⟨aK,bU,cL,dj⟩:=η4 S R aU aC;clear S R aU aC aq ba ab bf kr Dr cN U aI cJ
 cases is9 with
 |
  true=>
  rw[if_pos rfl]at E;subst E;go_wp2_with fail;obtain⟨dR,bu,aO⟩:=Q8.1 a7w;refine bodyPost_ret (v:=.agg cA.toArray) (a0c rfl _ _ (g+1) _ cA dR rfl aK.2.2 bu aO (ρy bU.o a4h)) rfl ?_;exact⟨aK.1,aK.2.1⟩
 | false=>
 rw[if_neg ρp]at E;have bc:=η1 E;clear E;have⟨U3,bp⟩:=η0 Y9.drew;have aR:=cL.drew;rw[bp]at aR;have bW:U3.cell? ⟨a,3,none⟩=some (.int .i64 x.ep)/\U3.cell? ⟨g,3,none⟩=some (.int .i64 t.exp):=⟨aR.sh.c.2.2.2.1,(aH.o _ _ _ _ aR).2.2.2⟩;have⟨cq,cj,cZ⟩:=η3 aR bp bW;clear aR bp bW;go_upto_region 6 with fail
 clear bb a7 aa ad;refine a3Y [(0,3),(1,3),(2,3),(4,3),(3,0),(5,0),(6,3),(7,2),(8,2)] (λY=>Y.cell? ⟨a,3,none⟩=some (.int .i64 x.ep)/\Y.cell? ⟨g,3,none⟩=some (.int .i64 t.exp)) ρk ρk ρk ρk (ρy cj.o cZ.o) ?_;rw[cj.o];refine ε4 ?_
 iterate 2 refine θ2 (λ_ h=>h) ?_
 by_cases az:t.exp<=x.ep
 ·have E:=bc.o
  rw[if_pos az]at E;subst E;have hi:=a0X true 12 U3;simp only[if_true]at hi;have Z:=a1m 12 ρo U3;have hb:decide (t.exp<=x.ep)=true:=ρw az;refine ε1 ?_;refine τ ?_;intro K hK;refine μf hi ?_;with_reducible refine hK _ _ ?_;clear hK K
  refine τ ?_;intro K hK;refine μf Z ?_;exact λa' di=>⟨di,cq.ref ρo⟩
 have E:=bc.o;rw[if_neg az]at E;have hi:=a0X false 12 U3;simp only[QI,if_false]at hi;have Z:=a1o U3;have hb:decide (t.exp<=x.ep)=false:=ρw az;have⟨cU,du⟩:=η2 E az;clear E az;refine ε1 ?_;refine τ ?_;intro K hK;refine μf hi ?_;with_reducible refine hK _ _ ?_;clear hK K
 refine τ ?_;intro K hK;refine μf Z ?_;with_reducible refine hK _ _ ?_;clear hK K
 with_reducible refine a1N ?_
 rw[a0V];clear hi Z hb;have⟨U4,bk⟩:=η0 U3.drew;have ae:=cq.drew;rw[bk]at ae;have cF:(LDs 53 (.pointer g)).run prog U4=.ok (.agg tv) U4/\U4.cell? ⟨a,1,none⟩=some (.int .i64 x.n)/\U4.cell? ⟨a,0,none⟩=some (.int .i64 x.me)/\U4.cell? ⟨a,7,none⟩=some (.pointer b.cb)/\U4.cell? ⟨a,8,none⟩=some (.pointer b.lb):=⟨ah.o _ _ _ _ ae,ae.sh.c.2.1,ae.sh.c.1,ae.sh.c.2.2.2.2.2.2.2.1,ae.sh.c.2.2.2.2.2.2.2.2.1⟩;have⟨O,b9,c1⟩:=η3 ae bk cF;clear ae bk cF;go_upto_region 7 with fail
 refine a0s [(1,3),(2,3),(3,3),(5,3),(6,3),(7,3),(9,3),(10,3),(11,3),(13,3),(14,3),(15,3),(0,0),(4,0),(8,0),(12,0),(16,0),(17,2),(18,3),(19,3),(20,3),(21,3),(22,3)] (λY=>(LDs 53 (.pointer g)).run prog Y=.ok (.agg tv) Y/\Y.cell? ⟨a,1,none⟩=some (.int .i64 x.n)/\Y.cell? ⟨a,0,none⟩=some (.int .i64 x.me)/\Y.cell? ⟨a,7,none⟩=some (.pointer b.cb)/\Y.cell? ⟨a,8,none⟩=some (.pointer b.lb)) ρk ρk ρk ρk (ρy b9.o c1.o) ?_;rw[b9.o];have aE:=c9b B b.cb b.cm x.C x.sC b.lb b.lm x.L x.sL d o f p t x.n x.me cC.o U4 O.sh.co O.sh.lo (aD.go O.fr) ⟨O.pos _ (by simp[ShB.own]),O.pos _ (by simp[ShB.own])⟩ (aB.go O.fr).at_ hl1 hl2;have aP:=c7R (n:=x.n) (me:=x.me) (Lk:=x.L) (t:=t) O.sh.ok.sC O.sh.ok.lC;rw[ay.o]at aE;have⟨iq,cw⟩:=η0 (a1w x.n x.me x.C x.L t);have⟨pc,bG⟩:=η0 (c2G x.n x.me x.C x.sC x.L t);have E:=cU.o;rw[cw,bG]at E aE;rw[bG]at aP
 obtain⟨i1,i2⟩:=iq;simp only at E aE;have⟨da,a1⟩:=η2 E aP;clear E aP cw bG;refine ε7 ?_;refine ε5 ?_
 iterate 5 refine θ5 (λ_ h=>h) ?_
 refine τ ?_;intro K hK;refine μ1 aE ?_;rintro e7 w7 ⟨rfl,cB,bl⟩;with_reducible refine hK _ _ ?_;clear hK K
 refine ε5 ?_;clear aE;refine ν ?_;have bH:=O.step' (O.sh.setC bl cB a1.1 a1.2) (bl.mono (λk _ e=>c7I a b k e));have E:=da.o;have⟨F,bh⟩:=η0 ({x with C:=pc.1,sC:=pc.2});rw[bh]at bH E;have⟨ac,bV,dr⟩:=η3 bH E bh;clear bH E bh cB bl
 by_cases au:i2=0
 rotate_left
 ·have E:=bV.o
  rw[if_pos au]at E;subst E;have Z:=a1m i2 au w7;go_wp2_with fail;refine μf Z ?_;exact⟨rfl,ac.ref au⟩
 subst au;have E:=bV.o;rw[if_neg ρp]at E;have Z:=a1o w7;have b6:=η1 E;clear E;go_wp2_with fail;refine μf Z ?_;clear Z;have E:=b6.o;unfold c4t at E;have cz:=η1 E;clear E;have aG:=b0A a b ((g+1)::N) seed F w7 ac.sh
 by_cases ak:128<=F.M.length
 ·have E:=cz.o
  rw[if_pos ak]at E;subst E;rw[show decide (128<=F.M.length)=true by simpa using ak]at aG;have hi:=a0X true 18 w7;simp only[if_true]at hi;have Z:=a1m 18 ρo w7;clear ak;go_wp2_with fail;refine μf aG ?_;go_wp2_with fail;refine μf hi ?_;go_wp2_with fail;refine μf Z ?_;exact⟨rfl,ac.ref ρo⟩
 have E:=cz.o;rw[if_neg ak]at E;rw[show decide (128<=F.M.length)=false by simpa using ak]at aG;have hi:=a0X false 18 w7;simp only[QI,if_false]at hi;have Z:=a1o w7;have⟨be,ds⟩:=η2 E ak;clear E ak;go_wp2_with fail;refine μf aG ?_;go_wp2_with fail;refine μf hi ?_;go_wp2_with fail;refine μf Z ?_;clear aG hi Z;have c2:=(aH.o _ _ _ _ ac).2.1
 by_cases al:b1e F (t.outs.length:Int)=true
 ·have E:=be.o
  rw[if_pos al]at E;subst E;have hr:=b5T a b ((g+1)::N) seed F (t.outs.length:Int) ρo w7 ac.sh al;clear al;go_wp2_with fail;refine μi hr ?_;intro dm ab;exact⟨rfl,(ac.below ab).ref ρo⟩
 have E:=be.o;rw[if_neg al]at E;have hr:=b6o a b ((g+1)::N) seed F (t.outs.length:Int) ρo w7 ac.sh (ρw al);have⟨cP,dy⟩:=η2 E al;clear E al;go_wp2_with fail;refine μi hr ?_;intro cV ab;have bT:=ac.below ab;have b3:=η1 bT;clear bT ab;clear hr;clear c2;have⟨U8,bj⟩:=η0 cV.drew;have an:=b3.drew;rw[bj]at an;have bS:(LDs 53 (.pointer g)).run prog U8=.ok (.agg tv) U8/\U8.cell? ⟨a,1,none⟩=some (.int .i64 F.n)/\U8.cell? ⟨a,0,none⟩=some (.int .i64 F.me)/\U8.cell? ⟨a,7,none⟩=some (.pointer b.cb):=⟨ah.o _ _ _ _ an,an.sh.c.2.1,an.sh.c.1,an.sh.c.2.2.2.2.2.2.2.1⟩;have⟨I,cG,dd⟩:=η3 an bj bS;clear an bj bS;go_upto_region 11 with fail
 refine a0s [(1,3),(2,3),(3,3),(5,3),(6,3),(7,3),(9,3),(10,3),(11,3),(0,0),(4,0),(8,0),(12,0),(13,2),(14,3),(15,3),(16,3),(17,3),(18,3)] (λY=>(LDs 53 (.pointer g)).run prog Y=.ok (.agg tv) Y/\Y.cell? ⟨a,1,none⟩=some (.int .i64 F.n)/\Y.cell? ⟨a,0,none⟩=some (.int .i64 F.me)/\Y.cell? ⟨a,7,none⟩=some (.pointer b.cb)) ρk ρk ρk ρk (ρy cG.o dd.o) ?_;rw[cG.o];have a3:-9223372036854775808<=F.n/\F.n<=9223372036854775807:=by have:=I.sh.ok.n;have:=I.sh.ok.me;omega
 have aL:=b8j b.cb b.cm F.C F.sC I.sh.ok.sC d o f p t F.n F.me a3 U8 I.sh.co (aD.go I.fr).at_ (aB.go I.fr).at_ hl1 hl2;have ai:=b7G (n:=F.n) (me:=F.me) br.o I.sh.ok.sC I.sh.ok.lC;have ar:=b8g F.n F.me F.C F.sC t;rw[ay.o]at aL;have⟨mq,bx⟩:=η0 (a6S F.n F.me F.C F.sC t);have⟨mc,bE⟩:=η0 (a9a F.n F.me F.C F.sC t);have E:=cP.o;rw[bx,bE]at E aL;rw[bE]at ai;rw[bx]at ar;obtain⟨m1,m2⟩:=mq;simp only at E aL ar;have⟨cO,cy,aJ⟩:=η3 E ar ai;clear E ar ai bx bE a3;refine ε7 ?_;refine ε2 ?_
 iterate 4 refine θ4 (λ_ h=>h) ?_
 refine τ ?_;intro K hK;refine μi aL ?_;intro w5 cT;with_reducible refine hK _ _ ?_;clear hK K
 refine ε5 ?_;clear aL;refine ν ?_;have E:=cO.o
 rcases cT with⟨aT,bZ⟩ | ⟨hz,aV,wz,bD,bv,bN,cE⟩
 ·rw[if_pos aT]at E
  subst E;have Z:=a1m m2 aT w5;have b2:=I.below bZ;have⟨dh,c5⟩:=η2 b2 aT;clear b2 aT bZ;go_wp2_with fail;refine μf Z ?_;exact⟨rfl,dh.ref c5⟩
 subst hz;rw[if_neg ρp]at E;have b8:Fr (λk=>k∈a::b.own) U8 w5:=((Q9 bv).mono (G:=λk=>k∈a::b.own) (λk hk e=>ρo)).trans bN (λk _ e=>by rw[e];simp[ShB.own])
 have bq:=I.step (I.sh.newC bv bD bN cE aJ.1 aJ.2) b8 (λj hj=>Qj _ hj) (λj hj=>by
  simp only[ShB.own,Qo,Qt,or_false]at hj⊢
  rcases hj with e | e | e | e | e | e
  ·exact .inl (.inl e)
  ·exact .inr (ρy e bD)
  ·exact .inl (.inr (.inr (.inl e)))
  ·exact .inl (.inr (.inr (.inr (.inl e))))
  ·exact .inl (.inr (.inr (.inr (.inr (.inl e)))))
  exact .inl (.inr (.inr (.inr (.inr (.inr e))))))
 have⟨b',cg⟩:=η0 ({b with cm:=aV});have⟨y8,bK⟩:=η0 ({F with C:=mc.1,sC:=mc.2});rw[cg,bK]at bq;have Z:=a1o w5;have⟨ag,ce,a5⟩:=η3 bq E bK;clear bq E bK b8 bv bN cE bD cg;go_wp2_with fail;refine μf Z ?_;clear Z;have af:y8.fees=F.fees:=by rw[<-a5.o]
 have c6:=(aH.o _ _ _ _ ag).2.2.1;have E:=ce.o
 by_cases ao:(a5b y8.fees t.fee).2=0
 rotate_left
 ·rw[<-af,if_pos ao]at E
  subst E;have a0:=c6u a b' (aV::(g+1)::N) seed y8 t.fee br.fee w5 ag.sh ao;have cY:=η1 ao;clear ao af;go_wp2_with fail;refine μi a0 ?_;intro w8 dc;exact⟨rfl,(ag.below dc).ref cY⟩
 rw[<-af,if_neg (by simp[ao])]at E;have a0:=c6J a b' (aV::(g+1)::N) seed y8 t.fee br.fee w5 ag.sh ao;have c7:=η1 E;clear E af ao;go_wp2_with fail;refine μ1 a0 ?_;rintro e8 w8 ⟨rfl,cp,b7⟩;clear a0;have bQ:=ag.step' cp (b7.mono (λk _ e=>a8B a b' k e));have E:=c7.o;have⟨yf,af⟩:=η0 ({y8 with fees:=y8.fees+t.fee});rw[af]at bQ;have cn:({F with C:=mc.1,sC:=mc.2,fees:=y8.fees+t.fee}:ShD)=yf:=by rw[<-af,<-a5.o]
 rw[cn]at E;have⟨T,de⟩:=η2 bQ E;clear bQ E cp b7 af cn c6;have ca:=ah.o _ _ _ _ T;have bR:=b4k 3 m1 2;have bB:(⟨3,0,a7R,m1,2,0⟩:a1P).Bd:=b1v ρo Dig.zIdY cy.o ρo;have ax:=a5z a b' (aV::(g+1)::N) seed yf 0 ρo A n c m db.o c0.o dg.o d o f p t ⟨3,0,a7R,m1,2,0⟩ bB w8 T.sh (cR.go T.fr).at_ (aD.go T.fr).at_ hl1 hl2 (aB.go T.fr).at_;rw[ay.o]at ax;have E:=de.o;have⟨e0,bi⟩:=η0 ((⟨3,0,a7R,m1,2,0⟩:a1P):a1P);rw[bi]at ax E bB;simp only[bi]at bR;have⟨ev,aZ⟩:=η0 ((a0x e0).toArray);rw[aZ]at ax;simp only[aZ]at bR;have⟨dq,cQ⟩:=η0 (b5e seed yf 0 m t e0);rw[cQ]at ax E;subst E;have dz:=η1 aZ;clear aZ bB bi cQ;go_wp2_with fail;refine μ1 ax ?_;rintro dp dn ⟨cu,aQ⟩;clear ax bR
 cases dq with
 |
  error k=>
  obtain⟨hk,rfl⟩:=cu;exact⟨rfl,T.refF aQ hk⟩
 |
  ok yr=>
  obtain⟨df,rp⟩:=yr;obtain⟨⟨dw,a6,cr⟩,bm,bA,rfl,aj⟩:=cu;have aF:=T.step' a6 aQ;have U:(g+1,41,zs)∈[(g,53,tv),(g+1,41,zs)]:=by simp
  have aY:=a0A aj.1 rp.e rp.has bm bA;have cW:=aF.sto U b5 (a0O rp.e rp.has rp.c bm bA) aY (a0W _ _ _ _ _);have cI:g+1<w8.heap.size:=(T.kp _ U).1.lt;have aM:=aF.fin U (N0:=N) (λj hj=>Qj _ (Qj _ hj)) (y0:=df) cr (rp:=rp) T.sz cI aj rfl;have⟨rs,bM⟩:=η0 (a0O rp.e rp.has rp.c bm bA);rw[bM]at cW aM aY;rw[bM];have⟨aN,cX⟩:=η2 aM aY;clear aM aY aF a6 aj aQ cr U cI bM;clear ca;go_wp2_with fail;obtain⟨dR,bu,aO⟩:=Q8.1 a7w;refine bodyPost_ret (v:=.agg rs.toArray) (a0c rfl _ _ (g+1) _ rs dR rfl aN.2.2 bu aO (ρy cX.o a4h)) rfl ?_;exact⟨aN.1,aN.2.1⟩
end
section
theorem b7y(x y:VL):binOp .neq 31 x y=NEs 31 x y:=rfl
theorem c7s{a:LI}(d:Dig a)(f:Dig b)(w:WD):(Op.equalIn (9997+3) 31 (.agg (bys a).toArray) (.agg (bys b).toArray)).run prog w=.ok (decide (a=b)) w:=by
 obtain⟨r,j,g⟩:=run_equalIn_deep (P:=prog) 9997 3 31 ρk w 3 3 (.agg (bys a).toArray) (.agg (bys b).toArray) _ _
  (by simp[Value.formed,cId,a0a,d.1]) (by simp[Value.formed,cId,a0a,f.1]) (by simpa[Value.cells]using a6a 1 d.1 d.2) (by simpa[Value.cells]using a6a 1 f.1 f.2)
 rw[j]
 congr 1
 rw[Bool.eq_iff_iff,g,decide_eq_true_eq,List.map_inj_right (λa b h=>by simpa using h)]
theorem c6F{a:LI}(d:Dig a)(f:Dig b)(w:WD):(NEs 31 (.agg (bys a).toArray) (.agg (bys b).toArray)).run prog w=.ok (.bool (!decide (a=b))) w:=by
 unfold NEs;simp only[binOp];rw[show(Op.equal 31 (.agg (bys a).toArray) (.agg (bys b).toArray))=Op.equalIn (9997+3) 31 (.agg (bys a).toArray) (.agg (bys b).toArray)from rfl];simp[c7s d f w]
def FDl(t:TI)(v:VL)(i:Nat):Sem VL:=Instr.field t v i
theorem c4E(v:VL)(i:Nat):Instr.field 208 v i=FDl 208 v i:=rfl
theorem d2d:∃f0 f1:Field,prog.underlying 208=some (.struct #[f0,f1])/\f1.type=31/\f1.offset=33:=
 ⟨_,_,Tryz.underlying208,rfl,rfl⟩
theorem c9m{x:a1J}(h:a6v x)(w:WD):(FDl 208 (.agg (a4V x).toArray) 1).run prog w=.ok (.agg (bys x.2).toArray) w:=by
 obtain⟨y,v,p,t1,r⟩:=d2d;obtain⟨d,b,o⟩:=Q8.1 a2i;obtain⟨i,a,g⟩:=Q8.1 iId
 have e:((a4V x).drop 33).take 32=bys x.2:=by
  apply List.ext_getElem?
  intro j;rw[Zj]
  by_cases f:j<32
  ·rw[if_pos f,ZY]
   have m:j<(bys x.2).length:=by rw[a0a,h.len];exact f
   rw[QN m];exact c2S h (QN m)
  rw[if_neg f,ZL (by rw[a0a,h.len];omega)]
 unfold FDl Instr.field;simp[p,part,t1,r,asAgg,b,a,g,sizeOf,typeInfo];exact e
theorem a0j.look1{cb a:Nat}{m:List (Pt×a1J)}(h:a0j w cb a m s){p:Pt}(b:a6l p):(Instr.lookup 164 (.map (some a)) (.agg (ptL p.1 p.2).toArray) false).run prog w=.ok (.agg (a4V (a0H m p)).toArray) w:=by
 unfold a0H
 cases hg:a2E m p with
 | none=>exact h.mp.look_out a8R b (d1K w) hg false
 | some v=>exact h.mp.look_in a8R hg false
attribute [local go_sem ↓] a1F a1B b7y c4E
theorem c9p(d m lb lm:Nat)(L:List (Pt×a1J))(s:Int)(D:LI)(p:Dig D)(x:OkP)(w:WD)(h:a0j w lb lm L s)(f:Blk w d 89 #[.pointer lb])(j:Blk w m 31 (bys D).toArray):Calls prog 256 #[.agg (ptE.e x.1).toArray,.pointer d,.pointer m] w λe w'=>e=.returned (.bool (!decide ((a0H L x.1).2=D)))/\Below w w w':=by
 have⟨g,T⟩:=ηs w;have⟨H,E⟩:=η0 (ptE.e x.1);have I:H.length=33:=by rw[<-E];exact a1x x.2.len _
 rw[E];have N:=Qd w 189 (H.toArray);have B:=ρb w (.cells (H.toArray) 189)
 generalize hW:w.alloc (.cells (H.toArray) 189)=W at N B
 rw[T]at N;have G:Fr (λ_=>False) W W.drew:=(Qp _ _).drew;have O:=(h.below B).fr G id id;have y:=(f.fr (Q9 B) (ρh f.lt)).fr G id;have F:=(j.fr (Q9 B) (ρh j.lt)).fr G id;have z:=N.fr G id;have U:=B.trans (G.below B.size (λ_ _=>id));have⟨X,S⟩:=η0 W.drew;rw[S]at O y F z U;have c0:X.cell? ⟨d,0,none⟩=some (.pointer lb):=y.cell 0;have c1:=O.q0;have ae:=P4 a3a a1H H z I;have ac:=P4 a2i iId (bys D) F (by rw[a0a,p.1]);have r:=a2U h.bd x.1;have J:=O.look1 x.2;have ad:=λW=>c9m r W
 have Q:=λW=>c6F (a:=(a0H L x.1).2) (b:=D) ⟨r.len,r.id⟩ p W
 rw[show(ptL x.1.1 x.1.2)=H from E]at J;have⟨lv,ab⟩:=η0 ((a4V (a0H L x.1)).toArray);have⟨iv,Z⟩:=η0 ((bys (a0H L x.1).2).toArray);have⟨dv,V⟩:=η0 ((bys D).toArray);have⟨bv,R⟩:=η0 ((!decide ((a0H L x.1).2=D)));simp only[ab,Z,V,R]at J ad Q ac⊢;have⟨HX,HG,aa,HW⟩:=η4 S T U hW;clear S T U hW N B G O y F z r I h f j;go_in;go_upto_region 1 with fail
 rw[HG.o,HW.o];refine a0s [(0,0),(1,3),(2,3),(3,0),(4,0),(5,0),(6,3),(7,0),(8,3),(9,3)] (λY=>Y=X) ρk ρk ρk ρk (by rw[HX.o]) ?_;rw[HX.o]
 (with_reducible refine a0t (o:=?_) (v:=?_) (a':=?_) ρu ρu (λW' K=>?_) ?_ ?_;rotate_left 2;(focus(subst K;exact ρs));focus(exact ρs))
 refine ε2 ?_
 iterate 3 (with_reducible refine a0t (o:=?_) (v:=?_) (a':=?_) ρu ρu (λW' K=>?_) ?_ ?_;rotate_left 2;(focus(subst K;exact ρs));focus(exact ρs))
 refine ε1 ?_
 (with_reducible refine a0t (o:=?_) (v:=?_) (a':=?_) ρu ρu (λW' K=>?_) ?_ ?_;rotate_left 2;(focus(subst K;exact ρs));focus(exact ρs))
 refine ε2 ?_;refine ν ?_;go_wp2;go_ret;exact⟨rfl,aa.o⟩
structure d3j(L:List (Pt×a1J))(D:LI)(ps:List OkP):Prop where
 mem:∀x∈ps,x.1∈L.map Prod.fst/\(a0H L x.1).2=D
 all:∀p∈L,(a0H L p.1).2=D->p.1∈ps.map Subtype.val
 nd:(ps.map Subtype.val).Nodup
 len:ps.length<=L.length
def d0c(L:List (Pt×a1J))(D:LI)(w:WD)(e:Ending)(w':WD):Prop:=
 ∃A c,∃ps:List OkP,e=.returned (.slice A ps.length c)/\d3j L D ps/\a0T 189 33 w.heap.size w' (.slice A ps.length c) (ps.map (λx=>ptE.e x.1))/\Below w w w'
theorem c2J(lb lm:Nat)(L:List (Pt×a1J))(s:Int)(D:LI)(a:Dig D)(b:L.length<=1000000)(w:WD)(h:a0j w lb lm L s):Calls prog 218 #[.pointer lb,.agg (bys D).toArray] w (d0c L D w):=by
 have⟨g,T⟩:=ηs w;have aa:(bys D).length=32:=by rw[a0a,a.1]
 have F:=(Qd w 89 #[.pointer lb]).alloc (.cells (bys D).toArray 31);have b1:=Qd (w.alloc (.cells #[.pointer lb] 89)) 31 (bys D).toArray;have Q:Below w w ((w.alloc (.cells #[.pointer lb] 89)).alloc (.cells (bys D).toArray 31)):=(ρb w _).alloc ρp _;rw[Qi]at b1;rw[T]at F b1
 generalize U:(w.alloc (.cells #[.pointer lb] 89)).alloc (.cells (bys D).toArray 31)=W at F b1 Q
 have Y:=h.below Q;have O:=b3Z lb lm L s b W Y;have c0:W.cell? ⟨g,0,none⟩=some (.pointer lb):=F.cell 0;have⟨dv,r⟩:=η0 ((bys D).toArray);rw[r]at U;have⟨HW,d,K,o,P,HG,HD,ae⟩:=η8 U Q F b1 Y T a r;have HH:=η1 h;clear U Q F b1 Y T a r h aa;rw[ae.o];go_in;go_wp2_with fail;rw[HW.o,HG.o];go_wp2_with fail;refine μ1 O ?_;rintro e1 w1 ⟨v,E,rfl,p,I,f⟩;obtain⟨A,N,c,rfl,hN⟩:=I.formN;have ad:=d.size;have R:g+1<W.heap.size:=o.lt;have B:E.length=L.length:=by have:=p.length_eq;simpa using this
 have m:=c5P 256 #[.pointer g,.pointer (g+1:Nat)] (enters_of func256 ρk rfl) (λx=>!decide ((a0H L x.1).2=D)) E A N c W.heap.size w1 ρo I (λX x S=>by
  have j:∀k,k<W.heap.size->¬(Value.slice A N c).ownBlock=some k:=λk hk e=>by have:=(I.lt e).1;omega
  exact c9p g (g+1) lb lm L s D HD.o x X ((P.below f).fr S (j _ P.st.lt) (j _ P.mp.lt)) ((K.fr (Q9 f) ρo).fr S (j _ K.lt)) ((o.fr (Q9 f) ρo).fr S (j _ o.lt)))
 have⟨y,HO,H,ab⟩:=η4 p I f B;clear p I f B hN ad R;go_wp2_with fail;refine μ1 m ?_;rintro e2 w2 ⟨n,rfl,z,G⟩;obtain⟨hn,-⟩:=z.sp;have⟨V,Z,HN⟩:=η3 z G hn;clear z G hn m;go_wp2;go_ret;have J:=HN.o;rw[Qw]at J;subst J
 have ac:(E.map Subtype.val).Nodup:=by
  refine(y.nodup_iff).2 ?_;exact Yk.2 P.mp.apart
 refine⟨A,c,E.filter (λx=>!!decide ((a0H L x.1).2=D)),rfl,⟨λx hx=>?_,λq hq hd=>?_,?_,?_⟩,?_,?_⟩
 ·have:=ZD.1 hx
  exact⟨y.mem_iff.1 (Qs.2 ⟨x,this.1,rfl⟩),by simpa using this.2⟩
 ·obtain⟨x,hx,e⟩:=Qs.1 (y.mem_iff.2 (Qs.2 ⟨q,hq,rfl⟩))
  exact Qs.2 ⟨x,ZD.2 ⟨hx,by rw[e,hd];simp⟩,e⟩
 ·exact ac.sublist (List.Sublist.map _ List.filter_sublist)
 ·have:=ZX (λx:OkP=>!!decide ((a0H L x.1).2=D)) E
  have:=ab.o
  omega
 ·exact V.base d.size
 exact(d.trans (H.mono d.size)).trans (Z.below (d.trans (H.mono d.size)).size (λk hk e=>by have:=(HO.lt e).1;have:=d.size;omega))
end
section
theorem c7K(b:Int)(m:0<=b/\b<=255)(d:OA)(v f:Nat)(a:LI)(X:WD)(o:Byt X d a)(p:v=a.length)(r:d=none->f=0)(g:a.length<=400000000)(w:a2x X):Calls prog 105 #[.int .u8 b,.slice X 1 1] (X.alloc (.cells #[.slice d v f] 22)) λe w'=>e=.returned (.agg (bys (a1K b [a])).toArray)/\Below X X w':=by
 subst p;have G:=Qd X 22 #[.slice d a.length f];have D:=ρb X (.cells #[.slice d a.length f] 22)
 have J:b8s (X.alloc (.cells #[.slice d a.length f] 22)) X [.slice d a.length f] [a]:=⟨rfl,λ_=>⟨X.heap.size,0,rfl,G.lt,λj x z=>by rw[QP,G.cell j];simpa using z⟩,λi h I=>by
  obtain rfl:i=0:=by simp at h;omega
  exact⟨d,f,rfl,o.below D,r⟩⟩
 have:=b1c b m X 1 [.slice d a.length f] [a] _ J (λi h I k y F=>by
  obtain rfl:i=0:=by simp at h;omega
  simp only[List.getElem_cons_zero]at y F
  cases d with
  | none=>cases y
  |
   some O=>
   rw[a8I]at y
   cases y
   obtain⟨N,E,K,H,_⟩:=o.cell F
   cases K
   rw[Qi];simp only;omega) ρp (ρw g) (λl g x z=>by
  simp only[Qn]at g;subst g;exact o.bd x z) (w.below D)
 refine this.mono ?_;rintro e w' ⟨rfl,B⟩;exact⟨rfl,D.trans (B.mono ρp)⟩
def a5I(seed:LI)(x:ShD)(cmd:LI)(ser:Int)(o:a1q):Except Int (ShD×RpD):=
 if ser<=x.ser then .error 24
 else if x.ser+1<ser then .error 5
 else if o.am=0 then .error 8
 else if 4611686018427387904 / x.n<x.iss\/4611686018427387904 / x.n-x.iss<o.am then .error 19
 else match b9R (a1K 12 [cmd]) x.n x.me with
  | none=>.error 11
  |
   some i=>
   if b1e x 1=true then .error 18
   else if(a7H x.C x.sC (a1K 12 [cmd],(i:Int)) o).1≠0 then .error (a7H x.C x.sC (a1K 12 [cmd],(i:Int)) o).1
   else b9r seed {x with C:=(a7H x.C x.sC (a1K 12 [cmd],(i:Int)) o).2.1,sC:=(a7H x.C x.sC (a1K 12 [cmd],(i:Int)) o).2.2,ser:=ser,iss:=x.iss+o.am} cmd ⟨3,0,a1K 12 [cmd],o.am,1,0⟩
attribute [local go_sem ↓] a1G a1M a3j a1B a5a a5i a1F a4Z a5p b5t
theorem c3n(B a:Nat)(b:ShB)(N:List Nat)(seed:LI)(x:ShD)(A:OA)(n c:Nat)(f:LI)(z:n=f.length)(E:A=none->c=0)(y:f.length<=100000000) (kd:Int) (T:LV) (hT:T.length=4) (Cv:VL) (o:a1q) (ho:o.Bd) (ser:Int) (hser:-9223372036854775808<=ser/\ser<=1099511627776) (ep:Int) (id:LI) (w:WD) (h:a1e w a b N seed x) (hB:∀j∈a::b.own,B<=j) (hby:b9j B w A f) (hgl:a8S B w):Calls prog 86 #[.pointer a,.slice A n c,.agg (a1Q kd T Cv o.ow o.am ser ep id).toArray] w λe w'=>a6x B a N seed (a5I seed x f ser o) e w'/\b1q B a seed w w':=by
 generalize F:a5I seed x f ser o=q
 unfold a5I at F;have⟨g,hg⟩:=ηs w;have au:=a7c (k:=kd) (C:=Cv) (am:=o.am) (ser:=ser) (ep:=ep) (id:=id) hT ho.len;have aW:=a7h (k:=kd) (C:=Cv) (am:=o.am) (ser:=ser) (ep:=ep) (id:=id) hT ho.len
 have bH:((a1Q kd T Cv o.ow o.am ser ep id).toArray.toList.drop 6).take 32=bys o.ow:=by
  have:(bys o.ow).length=32:=by rw[a0a,ho.len]
  simp[a1Q,QR,QT,hT,this]
 have bj:(bys o.ow).length=32:=by rw[a0a,ho.len]
 generalize dk:(a1Q kd T Cv o.ow o.am ser ep id).toArray=cv at au aW bH⊢
 have b0:=Qd w 58 (cv);have B0:=ρb w (.cells (cv) 58)
 generalize hW:w.alloc (.cells (cv) 58)=W at b0 B0
 rw[hg]at b0;have bN:W.heap.size=g+1:=by rw[<-hW,Qi,hg]
 have a4:=a5k W;have⟨zs,bB⟩:=η0 ((a0O 0 false a0r none 0).toArray);have bl:zs.size=139:=by rw[<-bB,Qc];exact a0A a0B _ _ _ _
 rw[bB,bN]at a4;have bD:=b0.alloc (.cells zs 41);have bz:=Qd W 41 zs;have B1:Below w w (W.alloc (.cells zs 41)):=B0.alloc B0.size _
 generalize hV:W.alloc (.cells zs 41)=V at bD bz B1 a4
 rw[bN]at bz;have dH:(ALs 41).run prog (w.alloc (.cells cv 58))=.ok (.pointer (g+1:Nat)) V:=by rw[hW];exact a4
 have hX:=a4m.begin h hB B1 (r:=g+1) ⟨by omega,bz.lt⟩ (K:=[(g,58,cv),(g+1,41,zs)]) (λq F=>by
  simp only[Qo,Qt,or_false]at F
  rcases F with rfl | rfl
  ·exact⟨by simp only;omega,bD⟩
  exact⟨by simp only;omega,bz⟩)
 have⟨U1,bF⟩:=η0 V.drew;have aD:=hX.drew;rw[bF]at aD;have a6:=hX.sh.ok.ser;have a8:=hX.sh.ok.n;have bb:=hX.sh.ok.me;have aA:=hX.sh.ok.iss;have c8:IntKind.i64.wrap (x.ser+1)=x.ser+1:=by rw[IntKind.wrap_i64];omega
 have cW:U1.cell? ⟨g,39,none⟩=some (.int .i64 ser)/\U1.cell? ⟨a,4,none⟩=some (.int .i64 x.ser):=⟨((aD.kp _ Qr).1.cell 39).trans au,aD.sh.c.2.2.2.2.1⟩;have⟨cA,ca,c7,HQ,dd,b4,bA,cO⟩:=η8 aD bF cW F bl hby hgl z;have⟨cz,c2,HG,cP,dv,du,dD,cQ⟩:=η8 E y hg hser a6 a8 bb aA;have⟨aL,Y,db,cG,HO,dI⟩:=η6 au aW bH bj ho h;clear aD bF cW F bl hby hgl z E y hg hser a6 a8 bb aA au aW bH bj ho h bB b0 B0 bD bz B1 bN a4 dk hX hB hT hW hV;go_in;go_upto_region 1 with fail
 rw[HG.o];refine a3Y [(0,3),(2,3),(3,3),(4,3),(1,0),(5,0),(6,3),(7,2),(8,2)] (λX=>X.cell? ⟨g,39,none⟩=some (.int .i64 ser)/\X.cell? ⟨a,4,none⟩=some (.int .i64 x.ser)) ρk ρk ρk ρk (ρy ca.o c7.o) ?_;rw[ca.o];refine ε4 ?_
 iterate 2 refine θ2 (λ_ h=>h) ?_
 by_cases h1:ser<=x.ser
 ·have F:=HQ.o
  rw[if_pos h1]at F;subst F;have hi:=a0X true 24 U1;simp only[if_true]at hi;have hm:=a1m 24 ρo U1;have aQ:decide (ser<=x.ser)=true:=ρw h1;refine ε1 ?_;refine τ ?_;intro K G;refine μf hi ?_;with_reducible refine G _ _ ?_;clear G K
  refine τ ?_;intro K G;refine μf hm ?_;exact λa' ad=>⟨ad,cA.ref ρo⟩
 have F:=HQ.o;rw[if_neg h1]at F;have hi:=a0X false 24 U1;simp only[QI,if_false]at hi;have hm:=a1o U1;have aQ:decide (ser<=x.ser)=false:=ρw h1;have⟨cY,H1⟩:=η2 F h1;clear F h1;refine ε1 ?_;refine τ ?_;intro K G;refine μf hi ?_;with_reducible refine G _ _ ?_;clear G K
 refine τ ?_;intro K G;refine μf hm ?_;with_reducible refine G _ _ ?_;clear G K
 with_reducible refine a1N ?_
 rw[a0V];clear hi hm aQ;have⟨U2,bO⟩:=η0 U1.drew;have aJ:=cA.drew;rw[bO]at aJ;have cI:U2.cell? ⟨g,39,none⟩=some (.int .i64 ser)/\U2.cell? ⟨a,4,none⟩=some (.int .i64 x.ser):=⟨((aJ.kp _ Qr).1.cell 39).trans aL,aJ.sh.c.2.2.2.2.1⟩;have⟨aV,cx,dg⟩:=η3 aJ bO cI;clear aJ bO cI;go_upto_region 2 with fail
 refine a3Y [(0,3),(2,3),(3,3),(4,3),(1,0),(5,0),(6,3),(7,3),(8,2),(9,2)] (λX=>X.cell? ⟨g,39,none⟩=some (.int .i64 ser)/\X.cell? ⟨a,4,none⟩=some (.int .i64 x.ser)) ρk ρk ρk ρk (ρy cx.o dg.o) ?_;rw[cx.o];refine ε4 ?_
 iterate 2 refine θ2 (λ_ h=>h) ?_
 by_cases h1:x.ser+1<ser
 ·have F:=cY.o
  rw[if_pos h1]at F;subst F;have hi:=a0X true 5 U2;simp only[if_true]at hi;have hm:=a1m 5 ρo U2;have aQ:decide (x.ser+1<ser)=true:=ρw h1;refine ε2 ?_;refine τ ?_;intro K G;refine μf hi ?_;with_reducible refine G _ _ ?_;clear G K
  refine τ ?_;intro K G;refine μf hm ?_;exact λa' ad=>⟨ad,aV.ref ρo⟩
 have F:=cY.o;rw[if_neg h1]at F;have hi:=a0X false 5 U2;simp only[QI,if_false]at hi;have hm:=a1o U2;have aQ:decide (x.ser+1<ser)=false:=ρw h1;have⟨cC,H2⟩:=η2 F h1;clear F h1;refine ε2 ?_;refine τ ?_;intro K G;refine μf hi ?_;with_reducible refine G _ _ ?_;clear G K
 refine τ ?_;intro K G;refine μf hm ?_;with_reducible refine G _ _ ?_;clear G K
 with_reducible refine a1N ?_
 rw[a0V];clear hi hm aQ c8;have bV:=((aV.kp _ Qr).1.cell 38).trans Y;have c9:=aV.sh.c.2.1
 by_cases h0:o.am=0
 ·have F:=cC.o
  rw[if_pos h0]at F;subst F;have hi:=a0X true 8 U2;simp only[if_true]at hi;have hm:=a1m 8 ρo U2;have c0:(o.am == 0)=true:=ρw h0;go_wp2_with fail;refine μf hi ?_;go_wp2_with fail;refine μf hm ?_;exact⟨rfl,aV.ref ρo⟩
 have F:=cC.o;rw[if_neg h0]at F;have hi:=a0X false 8 U2;simp only[QI,if_false]at hi;have hm:=a1o U2;have c0:(o.am == 0)=false:=ρw h0;have⟨dE,H0⟩:=η2 F h0;clear F h0;go_wp2_with fail;refine μf hi ?_;go_wp2_with fail;refine μf hm ?_;clear hi hm c0 bV;have a8:=du.o;have bb:=dD.o;have aA:=cQ.o;have dG:=HO.am;have⟨mo,ah⟩:=η0 ((4611686018427387904:Int) / x.n);have cX:0<=mo/\mo<=4611686018427387904:=by rw[<-ah];exact⟨Int.ediv_nonneg ρo ρo,Int.ediv_le_self _ ρo⟩
 have de:IntKind.u64.wrap x.n=x.n:=by rw[IntKind.wrap_u64];omega
 have dz:IntKind.u64.wrap (Int.tdiv 4611686018427387904 x.n)=mo:=by rw[Int.tdiv_eq_ediv_of_nonneg ρo,ah,IntKind.wrap_u64];omega
 have dl:¬x.n=0:=ρo;have F:=dE.o;rw[ah]at F;have⟨b2,bG,dK⟩:=η3 cX F ah;clear cX F ah;have⟨U5,bS⟩:=η0 U2.drew;have J:=aV.drew;rw[bS]at J;have b9:U5.cell? ⟨a,5,none⟩=some (.int .u64 x.iss)/\U5.cell? ⟨g,38,none⟩=some (.int .u64 o.am):=⟨J.sh.c.2.2.2.2.2.1,((J.kp _ Qr).1.cell 38).trans Y⟩;have⟨bc,a3,ct⟩:=η3 J bS b9;clear J bS b9;go_upto_region 5 with fail
 clear de dz dl c9 a8 bb;have ae:=a0X true 19 U5;simp only[if_true]at ae;have R:=a0X false 19 U5;simp only[QI,if_false]at R;have af:=a1m 19 ρo U5;have ag:=a1o U5
 by_cases a5:mo<x.iss
 ·have F:=bG.o
  rw[if_pos (.inl a5)]at F;subst F;have hb:decide (mo<x.iss)=true:=ρw a5;clear R ag;refine a3Y [(0,3),(1,3),(2,3),(4,3),(3,0),(5,3),(6,3),(7,3),(8,3),(9,3),(10,3),(11,3),(12,3),(13,3),(14,3),(15,3),(16,3),(17,3),(18,2),(19,2)] (λX=>X.cell? ⟨a,5,none⟩=some (.int .u64 x.iss)/\X.cell? ⟨g,38,none⟩=some (.int .u64 o.am)) ρk ρk ρk ρk (ρy a3.o ct.o) ?_;rw[a3.o];refine ε4 ?_
  refine θ2 (λ_ h=>h) ?_
  refine ε2 ?_;refine δ4 ?_;refine δ4 ?_;refine δ1 ?_;refine δ1 ?_;refine ε1 ?_;refine τ ?_;intro K G;refine μf ae ?_;with_reducible refine G _ _ ?_;clear G K
  refine τ ?_;intro K G;refine μf af ?_;exact λa' ad=>⟨ad,bc.ref ρo⟩
 have hb:decide (mo<x.iss)=false:=ρw a5;have dp:IntKind.u64.wrap (mo-x.iss)=mo-x.iss:=by have:=b2.o;rw[IntKind.wrap_u64];omega
 refine a3Y [(0,3),(1,3),(2,3),(4,3),(3,0),(5,3),(6,3),(7,3),(8,3),(10,3),(11,3),(12,3),(13,3),(9,0),(14,0),(15,3),(16,3),(17,3),(18,2),(19,2)] (λX=>X.cell? ⟨a,5,none⟩=some (.int .u64 x.iss)/\X.cell? ⟨g,38,none⟩=some (.int .u64 o.am)) ρk ρk ρk ρk (ρy a3.o ct.o) ?_;rw[a3.o];refine ε4 ?_
 refine θ2 (λ_ h=>h) ?_
 refine ε7 ?_;refine ε1 ?_
 iterate 2 refine θ2 (λ_ h=>h) ?_
 by_cases az:mo-x.iss<o.am
 ·have F:=bG.o
  rw[if_pos (.inr az)]at F;subst F;have cw:decide (mo-x.iss<o.am)=true:=ρw az;clear R ag;refine ε3 ?_;refine τ ?_;intro K G;refine μf ae ?_;with_reducible refine G _ _ ?_;clear G K
  refine τ ?_;intro K G;refine μf af ?_;exact λa' ad=>⟨ad,bc.ref ρo⟩
 have cw:decide (mo-x.iss<o.am)=false:=ρw az;have F:=bG.o;rw[if_neg ρo]at F;have aN:x.iss+o.am<=4611686018427387904:=by have:=b2.o;omega
 have⟨dj,dy⟩:=η2 F aN;clear F aN;refine ε3 ?_;refine τ ?_;intro K G;refine μf R ?_;with_reducible refine G _ _ ?_;clear G K
 refine τ ?_;intro K G;refine μf ag ?_;with_reducible refine G _ _ ?_;clear G K
 with_reducible refine a1N ?_
 rw[a0V];clear R ae af ag cw dp az hb a5 aA;have J:=bc.o;have bX:=c7K 12 ρo A n c f U5 (b4.go J.fr).at_ cO.o cz.o (ρh c2.o) (bA.go J.fr).at_;have be:Dig (a1K 12 [f]):=Dig.under _ _;have⟨D,hD⟩:=η0 (a1K 12 [f]);have F:=dj.o;rw[hD]at bX be F;have cq:(bys D).length=32:=by rw[a0a,be.1]
 obtain⟨ZI,bh,bu,ds⟩:=P8 (t:=31) iId b1N;obtain⟨ZP,bw,br,dA⟩:=P8 (t:=189) a1H c3w;have⟨cg,b8,c3,cj,aC,bI,di⟩:=η7 bh bu bw br be cq F;clear bh bu bw br be cq F J ds dA hD;go_wp2_with fail;refine μi bX ?_;intro w6 aB;clear bX;have bL:=cg.o w6;have aO:=b8.o w6 (bys D) bI.o (a0h _);have kd:=Qd w6 31 (bys D).toArray;have D6:=ρb w6 (.cells (bys D).toArray 31);have⟨d,hd⟩:=ηs w6;rw[hd]at bL aO kd
 generalize dJ:w6.alloc (.cells (bys D).toArray 31)=Y6 at aO kd D6
 have bq:=bc.below aB;have a2:=bq.add D6 (g:=d) ρo kd;have bC:=P4 a2i iId (bys D) kd bI;have ax:=c7g a b ((g+1)::N) seed x D aC Y6 a2.sh (bA.go a2.fr).at_;have⟨oq,bM⟩:=η0 (b9R D x.n x.me);have F:=di.o;rw[bM]at ax F
 have bK:(c9B D oq).length=33:=by
  cases oq with
  | none=>simp[c9B,ptL,a0a]
  | some i=>exact a1x aC.1 _
 have bR:∀v∈c9B D oq,v.oneCell'=true:=by
  cases oq with
  | none=>exact a2p _ _
  | some i=>exact a2p _ _
 have⟨pv,bW⟩:=η0 (c9B D oq);rw[bW]at ax bK bR;have⟨dn,cp,cr,dC,dw,dF,dN⟩:=η7 a2 F bK bR bW bM kd;clear a2 F bK bR bW bM kd bq D6 aB hd;go_wp2_with fail;refine μi ax ?_;intro w7 cV;clear ax bC;have bQ:=c3.o w7;have aR:=cj.o w7 pv cr dC;have kp:=Qd w7 189 pv.toArray;have D7:=ρb w7 (.cells pv.toArray 189);have⟨p,hp⟩:=ηs w7;rw[hp]at bQ aR kp
 generalize dM:w7.alloc (.cells pv.toArray 189)=Y7 at aR kp D7
 have cE:=(dn.below cV).add D7 (g:=p) ρo kp;have ae:=a0X true 11 Y7;simp only[if_true]at ae;have R:=a0X false 11 Y7;simp only[QI,if_false]at R;have af:=a1m 11 ρo Y7;have ag:=a1o Y7;have aP:=η1 cE;clear cE D7 cV hp kp
 cases oq with
 |
  none=>
  have F:=cp.o;simp only at F;subst F;clear R ag;go_wp2_with fail;refine μf ae ?_;go_wp2_with fail;refine μf af ?_;exact⟨rfl,aP.ref ρo⟩
 |
  some i=>
  have F:=cp.o;simp only at F;clear ae af;have bg:=c9q dF;have⟨cJ,cH⟩:=η2 F bg;clear F bg;go_wp2_with fail;refine μf R ?_;go_wp2_with fail;refine μf ag ?_;clear R ag
  by_cases al:b1e x 1=true
  ·have F:=cJ.o
   rw[if_pos al]at F;subst F;have hr:=b5T a b ((g+1)::N) seed x 1 ρo Y7 aP.sh al;clear al;go_wp2_with fail;refine μi hr ?_;intro w9 bf;exact⟨rfl,(aP.below bf).ref ρo⟩
  have F:=cJ.o;rw[if_neg al]at F;have hr:=b6o a b ((g+1)::N) seed x 1 ρo Y7 aP.sh (ρw al);have⟨c1,dO⟩:=η2 F al;clear F al;go_wp2_with fail;refine μi hr ?_;intro w9 bf;clear hr;have b7:=aP.below bf;have⟨ak,aH⟩:=η0 w9.drew;have I:=b7.drew;rw[aH]at I;have O:=(I.kp (g,58,cv) ρp).1;have cf:=(I.kp (p,189,pv.toArray) ρp).1
  have ay:ak.cell? ⟨a,7,none⟩=some (.pointer b.cb)/\(LDs 189 (.pointer p)).run prog ak=.ok (.agg pv.toArray) ak/\(LDs 31 (.pointer (some ⟨g,6,none⟩))).run prog ak=.ok (.agg (bys o.ow).toArray) ak/\ak.cell? ⟨g,38,none⟩=some (.int .u64 o.am):=
   ⟨I.sh.c.2.2.2.2.2.2.2.1,P4 a3a a1H pv cf cr.o,P6 a2i iId O (off:=6) (bys o.ow) cG.o db.o,(O.cell 38).trans Y.o⟩
  have ao:pv=ptL D (i:Int):=by rw[<-dw.o];rfl
  have cZ:a6l (D,(i:Int)):=⟨aC.1,aC.2,by have:=cH.o;show-9223372036854775808<=(i:Int)/\(i:Int)<=_;omega⟩;have aa:=b0Q b.cb b.cm x.C x.sC (D,(i:Int)) cZ o HO I.sh.ok.sC ak I.sh.co;have av:=b8a (m:=x.C) I.sh.ok.sC (D,(i:Int)) HO.o;have ar:=b7w (s:=x.sC) I.sh.ok.lC (D,(i:Int)) o;have⟨pc,cK⟩:=η0 (a7H x.C x.sC (D,(i:Int)) o);have F:=c1.o;rw[cK]at aa av ar F;rw[show ptL (D,(i:Int)).1 (D,(i:Int)).2=pv from ao.symm]at aa;have aZ:=λX=>c6g HO.len X
  obtain⟨pe,ba⟩:=pc;simp only at aa av ar F;have⟨ov,bE⟩:=η0 ((a1s o).toArray);rw[bE]at aa;simp only[bE]at aZ;have⟨aS,ac⟩:=η0 o.am;rw[ac]at ay;simp only[ac]at aZ;have⟨dr,aX⟩:=η0 ((bys o.ow).toArray);rw[aX]at ay;simp only[aX]at aZ;have⟨aI,bv,b3,bt,ch,cD,aU⟩:=η7 I aH ay F av ar ac;clear I aH ay F av ar ac b7 bf O cf cZ cK bE aX ao;go_upto_region 10 with fail
  refine a3Y [(0,3),(1,3),(2,3),(5,3),(6,3),(8,3),(9,3),(3,0),(4,0),(7,0),(10,0),(11,3),(12,2),(13,2)] (λX=>X.cell? ⟨a,7,none⟩=some (.pointer b.cb)/\(LDs 189 (.pointer p)).run prog X=.ok (.agg pv.toArray) X/\(LDs 31 (.pointer (some ⟨g,6,none⟩))).run prog X=.ok (.agg dr) X/\X.cell? ⟨g,38,none⟩=some (.int .u64 aS)) ρk ρk ρk ρk (ρy bv.o b3.o) ?_;rw[bv.o];refine ε7 ?_
  iterate 4 refine θ4 (λ_ h=>h) ?_
  refine ε1 ?_;refine τ ?_;intro K G;refine μ1 aa ?_;rintro dL bZ ⟨rfl,bo,aT⟩;clear aa aZ;with_reducible refine G _ _ ?_;clear G K
  have aj:=aT.mono (λk _ e=>c7I a b k e)
  by_cases ao:pe=0
  rotate_left
  ·have F:=bt.o
   rw[if_pos ao]at F;subst F;have af:=a1m pe ao bZ;refine τ ?_;intro K G;refine μf af ?_;exact λa' ad=>⟨ad,aI.refF aj ao⟩
  subst ao;have F:=bt.o;rw[if_neg ρp]at F;have ah:=a1o bZ;have bm:=aI.step' (aI.sh.setC aT bo ch cD) aj;have⟨ck,cL⟩:=η2 bm F;clear bm F bo aT aj;refine τ ?_;intro K G;refine μf ah ?_;with_reducible refine G _ _ ?_;clear G K;clear ah
  with_reducible refine a1N ?_
  rw[a0V];have⟨an,aG⟩:=η0 bZ.drew;have H:=ck.drew;rw[aG]at H;have F:=cL.o;have⟨y1,aE⟩:=η0 ({x with C:=ba.1,sC:=ba.2});have aY:y1.ser=x.ser/\y1.iss=x.iss:=by rw[<-aE];exact⟨rfl,rfl⟩
  have⟨y2,Q⟩:=η0 ({y1 with ser:=ser});have⟨y3,S⟩:=η0 ({y2 with iss:=x.iss+o.am});have bi:y3={x with C:=ba.1,sC:=ba.2,ser:=ser,iss:=x.iss+o.am}:=by rw[<-S,<-Q,<-aE]
  rw[<-bi]at F;rw[aE]at H;have O:=(H.kp (g,58,cv) ρp).1;have p4:=H.sh.c.2.2.2.2.1;have z4:=H.sh.st.frozen 4;have k4:=H.sh.st.set_ 4 (.int .i64 ser);rw[c6T,Q]at k4;have f4:Fr (λk=>k=a) an (an.setCell ⟨a,4,none⟩ (.int .i64 ser)):=(Qp (λk=>k=a) an).setCell (p:=⟨a,4,none⟩) (λ_=>rfl) _
  generalize cn:an.setCell ⟨a,4,none⟩ (.int .i64 ser)=Y1 at k4 f4
  have cy:g≠a:=λe=>(H.kp (g,58,cv) ρp).2.1 (by rw[show(g,58,cv).1=g from rfl,e];exact Qr)
  have p5:Y1.cell? ⟨a,5,none⟩=some (.int .u64 x.iss):=(k4.cell 5).trans (by rw[<-Q,<-aE];rfl);have z5:=k4.frozen 5;have k5:=k4.set_ 5 (.int .u64 (x.iss+o.am));rw[c7C,S]at k5;have f5:Fr (λk=>k=a) Y1 (Y1.setCell ⟨a,5,none⟩ (.int .u64 (x.iss+o.am))):=(Qp (λk=>k=a) Y1).setCell (p:=⟨a,5,none⟩) (λ_=>rfl) _
  generalize cU:Y1.setCell ⟨a,5,none⟩ (.int .u64 (x.iss+o.am))=Y2 at k5 f5
  have ff:=f4.trans f5 (λ_ _ e=>e);have hser:=cP.o;have a6:=dv.o;have aA:=cQ.o;have aN:=dy.o;have dt:=HO.am;have h1:=H1.o
  have bp:b9N y3:=by
   rw[<-S,<-Q];exact{H.sh.ok with ser:=⟨by show 0<=ser;omega,by show ser<=_;omega⟩,iss:=⟨by show 0<=x.iss+o.am;omega,aN⟩}
  have U:=H.step' (H.sh.upd ff k5 bp (by rw[<-S,<-Q]) (by rw[<-S,<-Q]) (by rw[<-S,<-Q]) (by rw[<-S,<-Q]) (by rw[<-S,<-Q]) (by rw[<-S,<-Q])) (ff.mono (λk _ e=>a8B a b k e));have bn:an.cell? ⟨g,39,none⟩=some (.int .i64 ser)/\an.cell? ⟨a,5,none⟩=some (.int .u64 x.iss)/\an.cell? ⟨g,38,none⟩=some (.int .u64 aS):=⟨(O.cell 39).trans aL.o,by rw[<-aY.2];exact H.sh.c.2.2.2.2.2.1,by rw[<-aU.o];exact(O.cell 38).trans Y.o⟩;have aM:=O.fr f4 cy;have bs:Y1.cell? ⟨g,39,none⟩=some (.int .i64 ser)/\Y1.cell? ⟨a,5,none⟩=some (.int .u64 x.iss)/\Y1.cell? ⟨g,38,none⟩=some (.int .u64 aS):=⟨(aM.cell 39).trans aL.o,p5,by rw[<-aU.o];exact(aM.cell 38).trans Y.o⟩;have dB:IntKind.u64.wrap (x.iss+aS)=x.iss+o.am:=by rw[<-aU.o,IntKind.wrap_u64];omega
  rw[aY.1]at p4;have⟨dq,bk,cR,cu,ci,dm,dx,P5⟩:=η8 U aG bn bs F cn cU p5;have Z5:=η1 z5;clear U aG bn bs F cn cU p5 z5 H k4 f4 k5 f5 ff bp O aM cy aE Q S bi aY hser a6 aA aN dt h1;go_upto_region 11 with fail
  refine a0s [(0,3),(1,3),(2,3),(4,3),(5,3),(6,3),(8,3),(9,3),(3,0),(7,0),(12,3),(13,3),(10,0),(11,3),(14,1),(15,3),(16,3),(17,2)] (λX=>X.cell? ⟨g,39,none⟩=some (.int .i64 ser)/\X.cell? ⟨a,5,none⟩=some (.int .u64 x.iss)/\X.cell? ⟨g,38,none⟩=some (.int .u64 aS)) ρk ρk ρk ρk (ρy bk.o cR.o) ?_;rw[bk.o];refine ε7 ?_;refine ε1 ?_
  iterate 2 refine θ3 (λ_ h=>h) ?_
  refine ε2 ?_
  refine θ3 (λ_ h=>h) ?_
  refine ε1 ?_;refine κ ?_;intro K G;rw[dm.o];with_reducible refine G _ _ (cu.o) ?_;clear G K;clear p4 z4
  have p5:=P5.o;have z5:=Z5.o;refine ε2 ?_;refine τ ?_;intro K G;rw[dx.o];with_reducible refine G _ _ ?_;clear G K;clear p5 z5 dB
  refine ν ?_;have U:=dq.o;have cF:=(U.kp (d,31,(bys D).toArray) ρp).1;have O:=(U.kp (g,58,cv) ρp).1;have bC:=P4 a2i iId (bys D) cF bI;have bV:=(O.cell 38).trans Y;have c5:=a7g 3 aC.1 o.am 1;have bJ:(⟨3,0,D,o.am,1,0⟩:a1P).Bd:=b1v ρo aC.o HO.am ρo;have aq:=a5C a b ((g+1)::N) seed y3 A n c f cO cz c2 ⟨3,0,D,o.am,1,0⟩ bJ Y2 U.sh (b4.go U.fr).at_ (bA.go U.fr).at_;have F:=ci.o;unfold b9r at F;have⟨e0,bx⟩:=η0 ((⟨3,0,D,o.am,1,0⟩:a1P):a1P);rw[bx]at aq F bJ;simp only[bx]at c5;have⟨ev,bT⟩:=η0 ((a0x e0).toArray);rw[bT]at aq;simp only[bT]at c5;have⟨a1,cd⟩:=η2 U F;clear U F cF O bJ bx bT;go_wp2_with fail;refine μ1 aq ?_;rintro e5 w5 ⟨bY,b5⟩;clear aq;have F:=cd.o;have aK:=b5.mono (λk _ e=>a8B a b k e)
  rcases bY with⟨ce,A5,ai,rfl,aF,cT⟩ | ⟨da,hk,rfl⟩
  rotate_left
  ·rw[if_neg (by rw[da];simp)]at F
   subst F;exact⟨rfl,a1.refF aK hk⟩
  rw[if_pos ce]at F;subst F
  generalize cS:a9F seed y3 f e0=cc at aF⊢
  have J:=a1.step' cT aK;have ab:=a5d cc aF.1 A5 ai w5;have a0:(g+1,41,zs)∈(p,189,pv.toArray)::(d,31,(bys D).toArray)::[(g,58,cv),(g+1,41,zs)]:=by simp
  have b6:g+1<Y2.heap.size:=(a1.kp _ a0).1.lt;have c4:=a1.sz;have a9:=a0A aF.1 0 true A5 ai;have a7:=λX hX=>(J.below (X':=X) hX).sto a0 dd.o (a0O 0 true cc A5 ai) a9 (a0W _ _ _ _ _)
  have Z:=λX hX=>(J.below (X':=X) hX).fin a0 (N0:=N) (λj hj=>Qj _ hj) (y0:={y3 with h:=a4T y3 f e0}) rfl (rp:=a2O cc) c4 b6 (aF.below hX) rfl
  have⟨rs,bU⟩:=η0 (a0O 0 true cc A5 ai);simp only[a2O,bU]at a7 Z ab;rw[bU]at a9
  generalize cB:a0d cc A5 ai=cv5 at ab⊢
  have⟨c6,cM,df,dh⟩:=η4 a7 Z a9 cS;clear a7 Z a9 cS J aF cT b5 aK ce b6 c4 bU cB a0 bC bV;go_wp2_with fail;refine μi ab ?_;intro w6 aB;have a7:=c6.o w6 aB;have Z:=cM.o w6 aB;have bP:=η1 Z;clear Z aB;clear ab;go_wp2_with fail;obtain⟨dR,dc,cN⟩:=Q8.1 a7w;refine bodyPost_ret (v:=.agg rs.toArray) (a0c rfl _ _ (g+1) _ rs dR rfl bP.2.2 dc cN (ρy df.o a4h)) rfl ?_;exact⟨by rw[dh.o];exact bP.1,bP.2.1⟩
end
section
structure a4Y(B p:Nat)(w0 w:WD)(v:VL)(l:LI):Prop where
 pen:a3Z B w p v l
 bel:Below B w0 w
 sz:B<=w0.heap.size
def c9x(p:Nat)(v:VL)(w w':WD):Prop:=Fr (λk=>k=p\/v.ownBlock=some k) w w'
section
variable {B p:Nat} {w0 w w':WD} {v:VL} {l:LI}
theorem a4Y.size(h:a4Y B p w0 w v l):B<=w.heap.size:=Qk h.sz h.bel.size
theorem a4Y.blk(h:a4Y B p w0 w v l)(b:c9x p v w w'){t:TI}(a:Blk w g t cs)(d:123≠t)(f:5≠t):Blk w' g t cs:=by
 refine a.fr b (λe=>?_)
 rcases e with e | e
 ·exact h.pen.st.apart a d e.symm
 exact a2D h.pen.own a f e
theorem a4Y.go(h:a4Y B p w0 w v l){a:VL}(d:a3Z B w' p a b)(f:c9x p v w w'):a4Y B p w0 w' a b:=
 ⟨d,h.bel.trans (a1j h.pen f h.size),h.sz⟩
def c4q(B p:Nat)(w0:WD)(v:VL)(w w':WD)(l':LI):Prop:=∃v',a4Y B p w0 w' v' l'/\c9x p v w w'/\a7W w v v'
theorem a4Y.id(h:a4Y B p w0 w v l)(d:LI)(hd:d.length=32)(a:∀x∈d,0<=x/\x<=255)(b:l.length<=400000000):Calls prog 107 #[.pointer p,.agg (bys d).toArray] w λe w'=>e=.returned (.tuple #[])/\c4q B p w0 v w w' (l++d):=
 (a5S B p v l d hd a w h.pen ρo h.size).mono λ_ _ ⟨h1,⟨v',h2,h4⟩,h3⟩=>⟨h1,v',h.go h2 h3,h3,h4⟩
structure Aw(w:WD)(p:Nat)(v u:VL):Prop where
 aw:∀k,u.ownBlock=some k->k<w.heap.size/\k≠p/\v.ownBlock≠some k
theorem Aw.new(h:a4Y B p w0 w v l)(a:a0N w w' u b):Aw w' p v u:=⟨λk hk=>by
 have h1:=a.lt hk;have h2:=h.pen.st.lt;refine⟨h1.2,by omega,λe=>?_⟩
 have:=(h.pen.own.lt e).2
 omega⟩
theorem Aw.go{a:VL}(h:Aw w p v u)(b:c9x p v w w')(ht:a7W w v a):Aw w' p a u:=⟨λk hk=>by
 have h1:=h.aw k hk;refine⟨Qh h1.1 b.size,h1.2.1,λe=>?_⟩
 rcases ht k e with e | e
 ·exact h1.2.2 e
 omega⟩
theorem Aw.own{B':Nat}(h:Aw w p v u)(a:c9x p v w w')(d:a0N B' w u b):a0N B' w' u b:=d.fr a (λk hk e=>by
 have h1:=h.aw k hk
 rcases e with e | e
 ·exact h1.2.1 e
 exact h1.2.2 e)
end
end
section
def mnQ(seed:LI)(x:ShD)(cmd:LI)(t:TxD)(cl:List a0y):Except Int (ShD×RpD):=
 if a0M (a2K t x.n) x.me=[]then .error 11
 else if b9d t.exp x.ep=true then .error 12
 else if(a2E x.M (1,idP t)).isSome=true then .ok (x,a2O (a2Q x.M (1,idP t)).c)
 else if b6j seed t x.n cl≠0 then .error (b6j seed t x.n cl)
 else if 128<=x.M.length then .error 18
 else if b1e x (a0M (a2K t x.n) x.me).length=true then .error 18
 else if(a6S x.n x.me x.C x.sC t).2≠0 then .error (a6S x.n x.me x.C x.sC t).2
 else b5e seed {x with C:=(a9a x.n x.me x.C x.sC t).1,sC:=(a9a x.n x.me x.C x.sC t).2} 1 cmd t ⟨3,0,a7R,(a6S x.n x.me x.C x.sC t).1,4,0⟩
attribute [local go_sem ↓] a2q a1G a1M a7d a3j
theorem c6X(B a:Nat)(b:ShB)(N:List Nat)(seed:LI)(x:ShD)(A:OA)(n c:Nat)(m:LI)(D:n=m.length)(E:A=none->c=0)(y:m.length<=100000000)(d:OA)(o:Nat)(f:OA)(p:Nat)(t:TxD)(z:OA)(F:Nat)(cl:List a0y)(w:WD) (h:a1e w a b N seed x) (hB:∀j∈a::b.own,B<=j) (hby:b9j B w A m) (hgl:a8S B w) (ht:TxS B w d f t) (hl1:t.ins.length<=1000000) (hl2:t.outs.length<=1000000) (hcs:∀w',Below B w w'->a4g w' z cl) (hcpl:∀c∈cl,c.path.length<=1000000) (hcll:cl.length<=1000000):Calls prog 89 #[.pointer a,.slice A n c,.agg (txV d o f p t),.slice z cl.length F] w λe w'=>a6x B a N seed (mnQ seed x m t cl) e w'/\b1q B a seed w w':=by
 generalize H:mnQ seed x m t cl=q
 unfold mnQ at H;have⟨g,hg⟩:=ηs w;have bM:=ht.at_.bd;have bx:(txV d o f p t)[1]? =some (.slice f t.outs.length p):=rfl;have bc:(txV d o f p t)[0]? =some (.slice d t.ins.length o):=rfl;have a7:(txV d o f p t)[2]? =some (.int .u64 t.fee):=rfl;have bg:(txV d o f p t)[3]? =some (.int .i64 t.exp):=rfl;have bu:(txV d o f p t).toList.length=4:=rfl
 generalize ck:txV d o f p t=tv at bc bx a7 bg bu⊢
 have b0:=Qd w 53 (tv);have B0:=ρb w (.cells (tv) 53)
 generalize hW:w.alloc (.cells (tv) 53)=W at b0 B0
 rw[hg]at b0;have bs:W.heap.size=g+1:=by rw[<-hW,Qi,hg]
 have aO:=a5k W;have⟨zs,bb⟩:=η0 ((a0O 0 false a0r none 0).toArray);have aY:zs.size=139:=by rw[<-bb,Qc];exact a0A a0B _ _ _ _
 rw[bb,bs]at aO;have bh:=b0.alloc (.cells zs 41);have bz:=Qd W 41 zs;have B1:Below w w (W.alloc (.cells zs 41)):=B0.alloc B0.size _
 generalize hV:W.alloc (.cells zs 41)=V at bh bz B1 aO
 rw[bs]at bz;have b5:(ALs 41).run prog (w.alloc (.cells tv 53))=.ok (.pointer (g+1:Nat)) V:=by rw[hW];exact aO
 have hX:=a4m.begin h hB B1 (r:=g+1) ⟨by omega,bz.lt⟩ (K:=[(g,53,tv),(g+1,41,zs)]) (λq H=>by
  simp only[Qo,Qt,or_false]at H
  rcases H with rfl | rfl
  ·exact⟨by simp only;omega,bh⟩
  exact⟨by simp only;omega,bz⟩)
 have aZ:∀X y' b' N',a4m B (g+1) w a b' N' seed y' [(g,53,tv),(g+1,41,zs)] X->(LDs 53 (.pointer g)).run prog X=.ok (.agg tv) X:=λX y' b' N' hx=>by
  have:=P4 uTx iTx (w:=X) tv.toList (by simpa using(hx.kp _ Qr).1) bu
  simpa using this
 have aU:∀X y' b' N',a4m B (g+1) w a b' N' seed y' [(g,53,tv),(g+1,41,zs)] X->X.cell? ⟨g,0,none⟩=some (.slice d t.ins.length o)/\X.cell? ⟨g,1,none⟩=some (.slice f t.outs.length p)/\X.cell? ⟨g,2,none⟩=some (.int .u64 t.fee)/\X.cell? ⟨g,3,none⟩=some (.int .i64 t.exp):=λX y' b' N' hx=>
  have hk:=(hx.kp _ Qr).1
  ⟨(hk.cell 0).trans bc,(hk.cell 1).trans bx,(hk.cell 2).trans a7,(hk.cell 3).trans bg⟩
 obtain⟨ZR,ae,aT,cR⟩:=P8 (t:=41) a4h b4t;have bW:-9223372036854775808<=x.n/\x.n<=9223372036854775807:=by have:=h.ok.n;have:=h.ok.me;omega
 have bU:Dig (idP t):=⟨a3b t,a5f t⟩;have⟨cN,cO,bN,cz,ay,aA,cT,cM⟩:=η8 hX H aY hby hgl ht D E;have⟨cW,HG,ag,c0,bX,ce,cS,cD⟩:=η8 y hg aZ aU ae aT bW bM;have⟨dc,av,c1⟩:=η3 bU ck h;clear hX H aY hby hgl ht D E y hg aZ aU ae aT bW bM bU ck h bb b0 B0 bh bz B1 bs aO bc bx a7 bg bu hB hW hV cR;go_in;have cQ:=η1 hcs;clear hcs;have⟨U1,bk⟩:=η0 V.drew;have ar:=cN.drew;rw[bk]at ar;have cq:(LDs 53 (.pointer g)).run prog U1=.ok (.agg tv) U1/\U1.cell? ⟨a,1,none⟩=some (.int .i64 x.n)/\U1.cell? ⟨a,0,none⟩=some (.int .i64 x.me):=⟨ag.o _ _ _ _ ar,ar.sh.c.2.1,ar.sh.c.1⟩;have⟨bo,bI,cA⟩:=η3 ar bk cq;clear ar bk cq;go_upto_region 1 with fail
 rw[HG.o];clear b5;refine a0s [(1,3),(2,3),(3,3),(5,3),(6,3),(7,3),(0,0),(4,0),(8,0),(9,2),(10,3),(11,3),(12,3),(13,3),(14,3)] (λY=>(LDs 53 (.pointer g)).run prog Y=.ok (.agg tv) Y/\Y.cell? ⟨a,1,none⟩=some (.int .i64 x.n)/\Y.cell? ⟨a,0,none⟩=some (.int .i64 x.me)) ρk ρk ρk ρk (ρy bI.o cA.o) ?_;rw[bI.o];have aS:=a6O d o f p t x.n x.me cS U1 (aA.go bo.fr).at_ (ay.go bo.fr).at_ hl1 hl2;rw[av.o]at aS;have⟨L,hL⟩:=η0 (a0M (a2K t x.n) x.me)
 have ch:L.length<=16:=by
  rw[<-hL]
  have:=a1V (a2K t x.n) x.me
  have:= @a8y t x.n
  omega
 rw[hL]at aS;have H:=cO.o;rw[hL]at H;have⟨bH,dd,cU⟩:=η3 H hL ch;clear H hL ch;refine ε6 ?_
 iterate 3 refine θ3 (λ_ h=>h) ?_
 refine τ ?_;intro K hK;refine μ1 aS ?_;rintro e5 w5 ⟨vi,vo,rfl,cE,bq,b9⟩;with_reducible refine hK _ _ ?_;clear hK K
 refine ε5 ?_;clear aS;refine ν ?_;have bR:=bo.below b9;obtain⟨Av,Nv,cv,rfl⟩:=bq.formN;have bP:=bq.lenN;have c6:Nv<=16:=by have:=cU.o;omega
 have⟨R,bt⟩:=η2 bR bP;clear bR bP b9 cE bq
 by_cases aN:Nv=0
 ·subst aN
  have bS:L=[]:=ZG bt.symm;have H:=bH.o;rw[if_pos bS]at H;subst H;have hi:=a0X true 11 w5;simp only[if_true]at hi;have hm:=a1m 11 ρo w5;clear bS;go_wp2_with fail;refine μf hi ?_;go_wp2_with fail;refine μf hm ?_;exact⟨rfl,R.ref ρo⟩
 have H:=bH.o;rw[if_neg (λe=>aN (by rw[bt.o,e];rfl))]at H;have hi:=a0X false 11 w5;simp only[QI,if_false]at hi;have hm:=a1o w5;have cF:((Nv:Int) == 0)=false:=by simp;omega
 have cG:decide ((Nv:Int)=0)=false:=by simp;omega
 have⟨cu,c4⟩:=η2 H aN;clear H aN;go_wp2_with fail;refine μf hi ?_;go_wp2_with fail;refine μf hm ?_;clear hi hm cF cG;have b8:=ag.o _ _ _ _ R
 by_cases O:b9d t.exp x.ep=true
 ·have H:=cu.o
  rw[if_pos O]at H;subst H;have S:=a7T a b ((g+1)::N) seed x 1 d o f p t w5 R.sh O;rw[av.o]at S;clear O;go_wp2_with fail;refine μi S ?_;intro w9 ad;exact⟨rfl,(R.below ad).ref ρo⟩
 have H:=cu.o;rw[if_neg O]at H;have S:=a7X a b ((g+1)::N) seed x 1 ρo d o f p t w5 R.sh (ρw O) (aA.go R.fr).at_ (ay.go R.fr).at_ hl1 hl2;rw[av.o]at S;have⟨bZ,c2⟩:=η2 H O;clear H O;go_wp2_with fail;refine μ1 S ?_;rintro e9 w9 ⟨⟨A9,c9,rfl,an,a0⟩,ad⟩;clear S b8;have a5:a3C w5 w9 (a2Q x.M (1,idP t)).c A9 c9:=⟨an.bd,an.len,a0⟩;have T:=a0A an.bd 0 true A9 c9;have ae:=bX.o w9;have aa:=ce.o w9 (a0O 0 true (a2Q x.M (1,idP t)).c A9 c9) T (a0W _ _ _ _ _);have kr:=Qd w9 41 (a0O 0 true (a2Q x.M (1,idP t)).c A9 c9).toArray;have Dr:=ρb w9 (.cells (a0O 0 true (a2Q x.M (1,idP t)).c A9 c9).toArray 41);have⟨r9,cx⟩:=ηs w9;rw[cx]at ae aa kr
 generalize da:w9.alloc (.cells (a0O 0 true (a2Q x.M (1,idP t)).c A9 c9).toArray 41)=Y9 at aa kr Dr
 have aM:=(R.below ad).below Dr;have a3:=P4 a7w a4h _ kr T;have Z:(g+1,41,zs)∈[(g,53,tv),(g+1,41,zs)]:=by simp
 have aX:=aM.sto Z bN (a0O 0 true (a2Q x.M (1,idP t)).c A9 c9) T (a0W _ _ _ _ _);have cp:g+1<w5.heap.size:=(R.kp _ Z).1.lt;have U:=aM.fin Z (N0:=N) (λj hj=>Qj _ hj) (y0:=x) rfl (rp:=a2O (a2Q x.M (1,idP t)).c) R.sz cp (a5.below Dr) rfl
 generalize az:(a2E x.M (1,idP t)).isSome=is9
 have⟨cd,aD⟩:=η0 (a0O 0 true (a2Q x.M (1,idP t)).c A9 c9);simp only[a2O]at U;rw[aD]at aa a3 aX T U;rw[aD];have H:=bZ.o;rw[az]at H;have⟨aF,bF,ct,cZ⟩:=η4 U T aM az;clear U T aM az an a0 ad a5 kr Dr cx Z aD cp
 cases is9 with
 |
  true=>
  rw[if_pos rfl]at H;subst H;go_wp2_with fail;obtain⟨dR,bi,aJ⟩:=Q8.1 a7w;refine bodyPost_ret (v:=.agg cd.toArray) (a0c rfl _ _ (g+1) _ cd dR rfl aF.2.2 bi aJ (ρy bF.o a4h)) rfl ?_;exact⟨aF.1,aF.2.1⟩
 | false=>
 rw[if_neg ρp]at H;have b6:=η1 H;clear H;go_upto_region 6 with fail
 have⟨U3,be⟩:=η0 Y9.drew;have ax:=ct.drew;rw[be]at ax;have bG:U3.cell? ⟨a,2,none⟩=some (.pointer b.rp)/\(LDs 53 (.pointer g)).run prog U3=.ok (.agg tv) U3/\U3.cell? ⟨a,1,none⟩=some (.int .i64 x.n):=⟨ax.sh.c.2.2.1,ag.o _ _ _ _ ax,ax.sh.c.2.1⟩;have⟨af,bY,cL⟩:=η3 ax be bG;clear ax be bG;go_upto_region 6 with fail
 clear a3 aX aa ae;refine a3Y [(0,3),(1,3),(2,3),(5,3),(6,3),(7,3),(9,3),(3,0),(4,0),(8,0),(10,2),(11,2)] (λY=>Y.cell? ⟨a,2,none⟩=some (.pointer b.rp)/\(LDs 53 (.pointer g)).run prog Y=.ok (.agg tv) Y/\Y.cell? ⟨a,1,none⟩=some (.int .i64 x.n)) ρk ρk ρk ρk (ρy bY.o cL.o) ?_;rw[bY.o];have a4:((x.n.toNat:Nat):Int)=x.n:=by have:=af.sh.ok.me;omega
 have aQ:=b1W b.rp x.n.toNat seed d o f p t z F cl U3 af.sh.rg.at_ (ρh af.o.sh.ok.me) (ρh af.o.sh.ok.n) (aA.go af.fr).at_ (ay.go af.fr).at_ hl1 hl2 (cQ.o _ af.fr) hcpl hcll;rw[a4,av.o]at aQ;have⟨ac,cg⟩:=η0 (b6j seed t x.n cl);have H:=b6.o;rw[cg]at aQ H;have a1:=η1 H;clear H cg a4;refine ε7 ?_
 iterate 3 refine θ3 (λ_ h=>h) ?_
 refine τ ?_;intro K hK;refine μi aQ ?_;intro ab aW;with_reducible refine hK _ _ ?_;clear hK K;clear aQ
 have cw:=af.below aW;have Q:=η1 cw;clear cw aW
 by_cases ao:ac=0
 rotate_left
 ·have H:=a1.o
  rw[if_pos ao]at H;subst H;have hm:=a1m ac ao ab;refine τ ?_;intro K hK;refine μf hm ?_;exact λa' cY=>⟨cY,Q.ref ao⟩
 subst ao;have H:=a1.o;rw[if_neg ρp]at H;have hm:=a1o ab;have a6:=η1 H;clear H;refine τ ?_;intro K hK;refine μf hm ?_;with_reducible refine hK _ _ ?_;clear hK K
 with_reducible refine a1N ?_
 rw[a0V];clear hm;have aC:=b0A a b ((g+1)::N) seed x ab Q.sh
 by_cases ak:128<=x.M.length
 ·have H:=a6.o
  rw[if_pos ak]at H;subst H;rw[show decide (128<=x.M.length)=true by simpa using ak]at aC;have hi:=a0X true 18 ab;simp only[if_true]at hi;have hm:=a1m 18 ρo ab;clear ak;go_wp2_with fail;refine μf aC ?_;go_wp2_with fail;refine μf hi ?_;go_wp2_with fail;refine μf hm ?_;exact⟨rfl,Q.ref ρo⟩
 have H:=a6.o;rw[if_neg ak]at H;rw[show decide (128<=x.M.length)=false by simpa using ak]at aC;have hi:=a0X false 18 ab;simp only[QI,if_false]at hi;have hm:=a1o ab;have⟨bE,c8⟩:=η2 H ak;clear H ak;go_wp2_with fail;refine μf aC ?_;go_wp2_with fail;refine μf hi ?_;go_wp2_with fail;refine μf hm ?_;clear aC hi hm;have H:=bE.o;rw[<-bt.o]at H;have b3:=η1 H;clear H
 by_cases al:b1e x (Nv:Int)=true
 ·have H:=b3.o
  rw[if_pos al]at H;subst H;have hr:=b5T a b ((g+1)::N) seed x (Nv:Int) ρo ab Q.sh al;clear al;go_wp2_with fail;refine μi hr ?_;intro c3 ad;exact⟨rfl,(Q.below ad).ref ρo⟩
 have H:=b3.o;rw[if_neg al]at H;have hr:=b6o a b ((g+1)::N) seed x (Nv:Int) ρo ab Q.sh (ρw al);have⟨cj,de⟩:=η2 H al;clear H al;go_wp2_with fail;refine μi hr ?_;intro cJ ad;have bD:=Q.below ad;have bT:=η1 bD;clear bD ad;clear hr;have⟨U6,bA⟩:=η0 cJ.drew;have ai:=bT.drew;rw[bA]at ai;have cr:(LDs 53 (.pointer g)).run prog U6=.ok (.agg tv) U6/\U6.cell? ⟨a,1,none⟩=some (.int .i64 x.n)/\U6.cell? ⟨a,0,none⟩=some (.int .i64 x.me)/\U6.cell? ⟨a,7,none⟩=some (.pointer b.cb):=⟨ag.o _ _ _ _ ai,ai.sh.c.2.1,ai.sh.c.1,ai.sh.c.2.2.2.2.2.2.2.1⟩;have⟨J,bC,cK⟩:=η3 ai bA cr;clear ai bA cr;go_upto_region 9 with fail
 refine a0s [(1,3),(2,3),(3,3),(5,3),(6,3),(7,3),(9,3),(10,3),(11,3),(0,0),(4,0),(8,0),(12,0),(13,2),(14,3),(15,3),(16,3),(17,3),(18,3)] (λY=>(LDs 53 (.pointer g)).run prog Y=.ok (.agg tv) Y/\Y.cell? ⟨a,1,none⟩=some (.int .i64 x.n)/\Y.cell? ⟨a,0,none⟩=some (.int .i64 x.me)/\Y.cell? ⟨a,7,none⟩=some (.pointer b.cb)) ρk ρk ρk ρk (ρy bC.o cK.o) ?_;rw[bC.o];have a2:-9223372036854775808<=x.n/\x.n<=9223372036854775807:=by have:=J.sh.ok.n;have:=J.sh.ok.me;omega
 have aG:=b8j b.cb b.cm x.C x.sC J.sh.ok.sC d o f p t x.n x.me a2 U6 J.sh.co (aA.go J.fr).at_ (ay.go J.fr).at_ hl1 hl2;have ah:=b7G (n:=x.n) (me:=x.me) cD.o J.sh.ok.sC J.sh.ok.lC;have aq:=b8g x.n x.me x.C x.sC t;rw[av.o]at aG;have⟨mq,bl⟩:=η0 (a6S x.n x.me x.C x.sC t);have⟨mc,br⟩:=η0 (a9a x.n x.me x.C x.sC t);have H:=cj.o;rw[bl,br]at H aG;rw[br]at ah;rw[bl]at aq;obtain⟨m1,m2⟩:=mq;simp only at H aG aq;have⟨cc,ca,aE⟩:=η3 H aq ah;clear H aq ah bl br a2;refine ε7 ?_;refine ε2 ?_
 iterate 4 refine θ4 (λ_ h=>h) ?_
 refine τ ?_;intro K hK;refine μi aG ?_;intro w5 cB;with_reducible refine hK _ _ ?_;clear hK K
 refine ε5 ?_;clear aG;refine ν ?_;have H:=cc.o
 rcases cB with⟨aL,bJ⟩ | ⟨hz,bK,wz,bp,bj,bw,cf⟩
 ·rw[if_pos aL]at H
  subst H;have hm:=a1m m2 aL w5;have bL:=J.below bJ;have⟨cX,cP⟩:=η2 bL aL;clear bL aL bJ;go_wp2_with fail;refine μf hm ?_;exact⟨rfl,cX.ref cP⟩
 subst hz;rw[if_neg ρp]at H;have bO:Fr (λk=>k∈a::b.own) U6 w5:=((Q9 bj).mono (G:=λk=>k∈a::b.own) (λk hk e=>ρo)).trans bw (λk _ e=>by rw[e];simp[ShB.own])
 have bf:=J.step (J.sh.newC bj bp bw cf aE.1 aE.2) bO (λj hj=>Qj _ hj) (λj hj=>by
  simp only[ShB.own,Qo,Qt,or_false]at hj⊢
  rcases hj with e | e | e | e | e | e
  ·exact .inl (.inl e)
  ·exact .inr (ρy e bp)
  ·exact .inl (.inr (.inr (.inl e)))
  ·exact .inl (.inr (.inr (.inr (.inl e))))
  ·exact .inl (.inr (.inr (.inr (.inr (.inl e)))))
  exact .inl (.inr (.inr (.inr (.inr (.inr e))))))
 have⟨b',bV⟩:=η0 ({b with cm:=bK});have⟨y6,ba⟩:=η0 ({x with C:=mc.1,sC:=mc.2});rw[bV,ba]at bf;have hm:=a1o w5;have⟨I,ci,b2⟩:=η3 bf H ba;clear bf H ba bO bj bw cf bp bV;go_wp2_with fail;refine μf hm ?_;clear hm;have H:=ci.o;rw[b2.o]at H;have cC:=η1 H;clear H;have bQ:=ag.o _ _ _ _ I;have bB:=b4k 3 m1 4;have bn:(⟨3,0,a7R,m1,4,0⟩:a1P).Bd:=b1v ρo Dig.zIdY ca.o ρo;have au:=a5z a b' (bK::(g+1)::N) seed y6 1 ρo A n c m cT.o cM.o cW.o d o f p t ⟨3,0,a7R,m1,4,0⟩ bn w5 I.sh (cz.go I.fr).at_ (aA.go I.fr).at_ hl1 hl2 (ay.go I.fr).at_;rw[av.o]at au;have H:=cC.o;have⟨e0,a8⟩:=η0 ((⟨3,0,a7R,m1,4,0⟩:a1P):a1P);rw[a8]at au H bn;simp only[a8]at bB;have⟨ev,aR⟩:=η0 ((a0x e0).toArray);rw[aR]at au;simp only[aR]at bB;have⟨dq,cy⟩:=η0 (b5e seed y6 1 m t e0);rw[cy]at au H;subst H;have df:=η1 aR;clear aR bn a8 cy;go_wp2_with fail;refine μ1 au ?_;rintro c7 c5 ⟨b7,aK⟩;clear au bB
 cases dq with
 |
  error k=>
  obtain⟨hk,rfl⟩:=b7;exact⟨rfl,I.refF aK hk⟩
 |
  ok yr=>
  obtain⟨cV,rp⟩:=yr;obtain⟨⟨db,aV,b4⟩,a9,bm,rfl,aj⟩:=b7;have aB:=I.step' aV aK;have Z:(g+1,41,zs)∈[(g,53,tv),(g+1,41,zs)]:=by simp
  have aP:=a0A aj.1 rp.e rp.has a9 bm;have cH:=aB.sto Z bN (a0O rp.e rp.has rp.c a9 bm) aP (a0W _ _ _ _ _);have cn:g+1<w5.heap.size:=(I.kp _ Z).1.lt;have aI:=aB.fin Z (N0:=N) (λj hj=>Qj _ (Qj _ hj)) (y0:=cV) b4 (rp:=rp) I.sz cn aj rfl;have⟨rs,bv⟩:=η0 (a0O rp.e rp.has rp.c a9 bm);rw[bv]at cH aI aP;rw[bv];have⟨aH,cI⟩:=η2 aI aP;clear aI aP aB aV aj aK b4 Z cn bv;clear bQ;go_wp2_with fail;obtain⟨dR,bi,aJ⟩:=Q8.1 a7w;refine bodyPost_ret (v:=.agg rs.toArray) (a0c rfl _ _ (g+1) _ rs dR rfl aH.2.2 bi aJ (ρy cI.o a4h)) rfl ?_;exact⟨aH.1,aH.2.1⟩
end
section
def c2B(z:List (Pt×a1J)×Int×Int)(p:Pt):List (Pt×a1J)×Int×Int:=(b6D z.1 p,IntKind.u64.wrap (z.2.1-(a0H z.1 p).1.am),IntKind.u64.wrap (z.2.2+(a0H z.1 p).1.am))
def a4j(ps:List OkP)(z:List (Pt×a1J)×Int×Int):List (Pt×a1J)×Int×Int:=ps.foldl (λz p=>c2B z p.1) z
theorem b8U(a:List OkP)(p:OkP)(z:List (Pt×a1J)×Int×Int):a4j (a++[p]) z=c2B (a4j a z) p.1:=by
 simp[a4j]
theorem b3w(a:List OkP)(z:List (Pt×a1J)×Int×Int)(b:0<=z.2.1/\z.2.1<=18446744073709551615)(d:0<=z.2.2/\z.2.2<=18446744073709551615):(0<=(a4j a z).2.1/\(a4j a z).2.1<=18446744073709551615)/\(0<=(a4j a z).2.2/\(a4j a z).2.2<=18446744073709551615)/\(a4j a z).1.length<=z.1.length:=by
 induction a generalizing z with
 | nil=>exact⟨b,d,Qg _⟩
 |
  cons p r f=>
  have:=f (c2B z p.1) (a2h _) (a2h _)
  refine⟨this.1,this.2.1,Qk this.2.2 ?_⟩;exact ZX _ _
theorem d1q:(((prog.info? 206).bind (·.zero)).map (·.cells.size))=some 33:=ρk
def c3X(lb lm:Nat)(L:List (Pt×a1J))(s:Int)(D:LI)(w:WD)(e:Ending)(w':WD):Prop:=
 ∃ps,d3j L D ps/\e=.returned (.int .u64 (a4j ps (L,s,0)).2.2)/\a0j w' lb lm (a4j ps (L,s,0)).1 (a4j ps (L,s,0)).2.1/\Fr (λk=>k=lb\/k=lm) w w'
attribute [local go_sem ↓] a1F a4Z a5p a1B a4v a4s a4r
theorem b2H(lb lm:Nat)(L:List (Pt×a1J))(s:Int)(D:LI)(a:Dig D)(b:L.length<=1000000)(w:WD)(h:a0j w lb lm L s):Calls prog 161 #[.agg (bys D).toArray,.pointer lb] w (c3X lb lm L s D w):=by
 have⟨g,hg⟩:=ηs w;have al:(bys D).length=32:=by rw[a0a,a.1]
 have b0:=Qd w 31 (((bys D).toArray));have B0:=ρb w (.cells (((bys D).toArray)) 31)
 generalize hW:w.alloc (.cells (((bys D).toArray)) 31)=W at b0 B0
 rw[hg]at b0;have ab:=c2J lb lm L s D a b W (h.below B0);have ai:=P4 a2i iId (bys D) b0 al;obtain⟨Z,p,K,hz⟩:=P8 (t:=189) a1H c3w;obtain⟨Zc,j,y,a6⟩:=P8 (t:=206) a9y d1q;have hA:=h.below B0;have aI:=h.st.lt;have aq:=h.mp.lt;have⟨dv,aa⟩:=η0 ((bys D).toArray);rw[aa]at hW ab ai;have⟨HW,HG,Y,aT,aX,az,aC,HA⟩:=η8 hW hg B0 p K j y hA;have⟨aW,aL,aV⟩:=η3 aa aI aq;clear hW hg B0 p K j y hA aa aI aq b0 al h;rw[aW.o];go_in;go_upto_region 1 with fail
 rw[HW.o,HG.o];go_wp2_with fail;refine μ1 ab ?_;rintro e1 w1 ⟨A,c,d,rfl,T,hO,R⟩;have⟨n,hn⟩:=η0 d.length;rw[hn]at hO;have ax:=HA.below R;have aD:n<=1000000:=by have:=T.len;omega
 obtain⟨-,aB⟩:=hO.sp;have⟨aP,HO,aR,HN,aJ,aK,aQ⟩:=η7 T hO R hn ax aB aD;clear T hO R hn ax aB aD ab ai;go_upto_region 5 with fail
 try rw[HN.o]
 go_loopg [5,7,8,9,17] n (λkk u _ _ _ t wr=>∃i:Nat,i+kk=n/\t=.int .i64 i/\u=.int .u64 (a4j (d.take i) (L,s,0)).2.2/\a0j wr lb lm (a4j (d.take i) (L,s,0)).1 (a4j (d.take i) (L,s,0)).2.1/\Fr (λk=>k=lb\/k=lm) w1 wr);exact⟨0,by omega,rfl,rfl,aJ.o,Qp _ _⟩;obtain⟨i,hi,rfl,rfl,m,o⟩:=hrel
 by_cases aM:i<n
 ·have aE:(i:Int)<n:=ρo
  have ae:i<d.length:=by rw[HN.o];exact aM
  have a3:=aQ.o
  rcases aK.o with⟨-,e0⟩ | ⟨q,aY,rfl,hq,-⟩
  ·have:=congrArg List.length e0
   simp at this;subst this;simp at ae
  have ak:=HO.fr o (λk hk e=>by have:=(HO.lt hk).1;have:=Y.size;have:=aL.o;have:=aV.o;omega);have x:=ak.ldR (t:=189) a3a a1H (i:=i) (ρw ae);simp only[QS]at x;have⟨O,E⟩:=η0 (ptE.e d[i].1);have av:O.length=33:=by rw[<-E];exact a1x d[i].2.len _
  have aU:∀u∈O,u.oneCell'=true:=by rw[<-E];exact a2p _ _
  rw[E]at x;have p:=aT.o wr;have X:=aX.o wr O av aU;have bp:=Qd wr 189 O.toArray;have H:=ρb wr (.cells O.toArray 189);have⟨r,hr⟩:=ηs wr;rw[hr]at p X bp
  generalize ay:wr.alloc (.cells O.toArray 189)=w3 at X bp H
  have an:=P4 a3a a1H O bp av;have z:=b8V lb lm _ _ d[i].1 d[i].2 w3 (m.below H);rw[show ptL d[i].1.1 d[i].1.2=O from E]at z;have aj:=a2U m.bd d[i].1
  have B:a4j (d.take (i+1)) (L,s,0)=c2B (a4j (d.take i) (L,s,0)) d[i].1:=by
   rw[Qe ae,b8U]
  have⟨lk,F⟩:=η0 ((a0H (a4j (d.take i) (L,s,0)).1 d[i].1).1);have J:lk.Bd:=by rw[<-F];exact aj.co
  have aF:=a0G J;have aH:=a1O lk;have U:(a1s lk).toArray[32]? =some (.int .u64 lk.am):=by simp[a1s,a0a,J.len]
  unfold c2B at B;rw[F]at z B;have⟨vt,f⟩:=η0 ((a4j (d.take i) (L,s,0)).2.2);rw[f]at B;have⟨ov,V⟩:=η0 (a1s lk);rw[V]at z aF aH U;have⟨ah,v,aA,a7,HR,a4,aZ,a5⟩:=η8 B o H bp hr ay V F;have⟨ac,a1⟩:=η2 f J;clear B o H bp hr ay V F f J ak m aj E;rw[ac.o];go_wp2_with fail;refine μ1 z ?_;rintro e4 w4 ⟨rfl,aG,S⟩;have j:=az.o w4;have N:=aC.o w4 ov aF aH;have bo:=Qd w4 206 ov.toArray;have I:=ρb w4 (.cells ov.toArray 206);have⟨r4,ad⟩:=ηs w4;rw[ad]at j N bo
  generalize ar:w4.alloc (.cells ov.toArray 206)=w5 at N bo I
  have ca:w5.cell? ⟨r4,32,none⟩=some (.int .u64 lk.am):=(bo.cell 32).trans U;have ao:=aG.below I;have ag:Fr (λk=>k=lb\/k=lm) w1 w5:=((v.trans (Q9 aA.o) (λk hk e=>absurd e (ρh v.o.size))).trans S (λk _ e=>e)).trans (Q9 I) (λk hk e=>absurd e (by have:=v.size;have:=aA.size;have:=S.size;omega));have af:a0j w5 lb lm (a4j (d.take (i+1)) (L,s,0)).1 (a4j (d.take (i+1)) (L,s,0)).2.1:=by rw[ah.o];exact ao
  have⟨aN,aS,a2,a8,a0⟩:=η5 af ag bo ar ad;clear af ag bo ar ad z x an p X aG S I ao U;go_wp2;go_roundg (n-(i+1));exact⟨i+1,by omega,by go_num,by rw[ah.o],aN.o,aS.o⟩;omega
 obtain rfl:i=n:=ρo;have aE:¬(i:Int)<i:=ρo;rw[Qb (by rw[HN.o];exact Qg _)]at m;have⟨vt,f⟩:=η0 ((a4j (d.take i) (L,s,0)).2.2);have Q:vt=(a4j d (L,s,0)).2.2:=by rw[<-f,Qb (by rw[HN.o];exact Qg _)]
 have⟨aO,v,ac,au⟩:=η4 m o f Q;clear m o f Q;rw[ac.o];go_wp2;go_ret;refine⟨d,aP.o,by rw[au.o];rfl,aO.o,(((Q9 Y.o).trans (Q9 aR.o) (λk hk e=>absurd e (ρh Y.o.size))).mono (G:=λk=>k=lb\/k=lm) (λk hk e=>ρo)).trans v.o (λk _ e=>e)⟩
end
section
theorem c8S(v:VL)(i:Nat):Instr.field 214 v i=FDl 214 v i:=rfl
theorem d3y:∃f0 f1:Field,prog.underlying 214=some (.struct #[f0,f1])/\f1.type=3/\f1.offset=137:=
 ⟨_,_,Tryz.underlying214,rfl,rfl⟩
theorem c7A(w:WD):(isAgg 3).run prog w=.ok false w:=ρk
theorem d0p{x:MkD}(h:x.c.Bd)(w:WD):(FDl 214 (.agg (mkV x).toArray) 1).run prog w=.ok (.int .i64 x.ex) w:=by
 obtain⟨j,g,b,t1,a⟩:=d3y
 have e:(mkV x)[137]? =some (.int .i64 x.ex):=by
  unfold mkV;rw[QL (by rw[a0l h];omega),a0l h]
  rfl
 have d:(mkV x).toArray[137]? =some (.int .i64 x.ex):=ρw e;have f:(Go.sizeOf 3).run prog w=.ok 1 w:=ρk;unfold FDl Instr.field;simp[b,part,t1,a,asAgg,c7A,f,d,e]
theorem a0z.look1{kb b:Nat}{N:List Nat}{m:List (Ke×MkD)}(h:a0z w kb b N m){k:Ke}(d:b2y k):(Instr.lookup 167 (.map (some b)) (.agg (keL k.1 k.2).toArray) false).run prog w=.ok (.agg (mkV (a2Q m k)).toArray) w:=by
 unfold a2Q
 cases hg:a2E m k with
 | none=>exact h.mp.look_out b0F (a:=k) d (zMk w) hg false
 | some v=>exact h.mp.look_in b0F (a:=k) hg false
theorem a0z.del{w:WD}{kb b:Nat}{N:List Nat}{m:List (Ke×MkD)}(h:a0z w kb b N m)(d:b∈N){k:Ke}(f:b2y k):∃w',(∀ty,(Builtin.delete_ #[167,212] ty #[.map (some b),.agg (keL k.1 k.2).toArray]).run prog w=.ok (.tuple #[]) w')/\a0z w' kb b N (b6D m k)/\Fr (λj=>j=b) w w'/\w'.heap.size=w.heap.size:=by
 obtain⟨w',x,r,g,v⟩:=h.mp.del (ty:=0) b0F (a:=k) f;exact⟨w',λty=>x,⟨h.st.fr g (λe=>h.ne e.symm),r,λp o=>(h.bd p (ZD.1 o).1).fr g (λj e=>by subst e;exact d)⟩,g,v⟩
def c1N(kb km:Nat)(N:List Nat)(L:List (Ke×MkD))(w:WD)(e:Ending)(w':WD):Prop:=
 ∃(n:Int) (L':List (Ke×MkD)),e=.returned (.int .i64 n)/\a0z w' kb km N L'/\(∀p∈L',p∈L)/\L'.length<=L.length/\Fr (λk=>k=km) w w'
attribute [local go_sem ↓] a9U b0n b0f c8S
theorem c1q(kb km:Nat)(N:List Nat)(L:List (Ke×MkD))(ep:Int)(b:L.length<=1000000)(w:WD)(h:a0z w kb km N L)(d:km∈N):Calls prog 93 #[.pointer kb,.int .i64 ep] w (c1N kb km N L w):=by
 have av:=b3D kb km N L b w h;obtain⟨Z,I,ai,hz⟩:=P8 (t:=212) c1B d1x;have aB:=h.st.lt;have aC:=h.mp.lt;have⟨HH,a8,ba,bf,aU,a7,HL⟩:=η7 h I ai aB aC d b;clear h I ai aB aC d b;go_in;go_wp2_with fail;refine μ1 av ?_;rintro e1 w1 ⟨v,ps,rfl,ay,hO,aj⟩;obtain⟨A,n,c,rfl,hn⟩:=hO.formN;rw[Qw]at hn;have U:ps.length=L.length:=by have:=ay.length_eq;simpa using this
 have aL:n<=1000000:=by have:=HL.o;omega
 obtain⟨-,aK⟩:=hO.sp;have aH:=HH.below aj;have⟨HO,a6,HN,aS,a4,aR⟩:=η6 hO aj hn aK aL aH;clear hO aj hn aK aL aH av ay U;go_upto_region 3 with fail
 go_loopg [5,7,11] n (λkk u _ t wr=>∃(i:Nat) (a:Int) (M:List (Ke×MkD)),i+kk=n/\t=.int .i64 i/\u=.int .i64 a/\a0z wr kb km N M/\(∀p∈M,p∈L)/\M.length<=L.length/\Fr (λk=>k=km) w1 wr);exact⟨0,0,L,by omega,rfl,rfl,aR.o,λp hp=>hp,Qg _,Qp _ _⟩;obtain⟨i,a,M,hi,rfl,rfl,ad,E,S,g⟩:=hrel
 by_cases aV:i<n
 ·have aM:(i:Int)<n:=ρo
  have aO:i<ps.length:=by rw[<-HN.o];exact aV
  have bg:=a4.o
  rcases aS.o with⟨-,e0⟩ | ⟨q,be,rfl,hq,-⟩
  ·have:=congrArg List.length e0
   simp at this;subst this;simp at aO
  have aD:=HO.fr g (λk hk e=>by have:=(HO.lt hk).1;have:=aU.o;omega);have aa:=aD.ldR (t:=212) c7f c1B (i:=i) (ρw aO);simp only[QS]at aa;have⟨T,ae⟩:=η0 (ps[i].1);have D:b2y T:=by rw[<-ae];exact ps[i].2
  have aN:keE.e ps[i].1=keL T.1 T.2:=by rw[ae];rfl
  have⟨pv,y⟩:=η0 (keL T.1 T.2);rw[aN,y]at aa;have U:pv.length=33:=by rw[<-y];exact a6m D.len _
  have a9:∀u∈pv,u.oneCell'=true:=by rw[<-y];exact a7K _ _
  have I:=a8.o wr;have al:=ba.o wr pv U a9;have bp:=Qd wr 212 pv.toArray;have O:=ρb wr (.cells pv.toArray 212);have⟨r,hr⟩:=ηs wr;rw[hr]at I al bp
  generalize aI:wr.alloc (.cells pv.toArray 212)=w3 at al bp O
  have fd:Fr (λ_=>False) w3 w3.drew:=(Qp _ _).drew;have m:=(ad.below O).fr fd id id (λ_ e=>e.elim);have af:=bp.fr fd id;have R:=O.trans (fd.below (B:=wr.heap.size) O.size (λ_ _=>id));have⟨X,hX⟩:=η0 w3.drew;rw[hX]at m af R;have q0:=m.q0;have z:=P4 c7f c1B pv af U;have H:=m.look1 D;rw[y]at H;have aF:=a6b (N:=N) m.bd T;have J:=λW=>d0p (x:=a2Q M T) aF.bd W
  have⟨mv,ar⟩:=η0 ((mkV (a2Q M T)).toArray);have⟨ex,aP⟩:=η0 ((a2Q M T).ex);rw[ar]at H;simp only[ar,aP]at J;have ab:=b3K ex ep X;have⟨ob,aE⟩:=η0 (b9d ex ep);rw[aE]at ab;have ah:Fr (λ_=>False) X X.drew:=(Qp _ _).drew;have ag:=m.fr ah id id (λ_ e=>e.elim);have an:=af.fr ah id;have aq:=R.trans (ah.below (B:=wr.heap.size) R.size (λ_ _=>id));have⟨Y,hY⟩:=η0 X.drew;rw[hY]at ag an aq;have q1:=ag.q0;have f:=P4 c7f c1B pv an U;obtain⟨V,j,aQ,aG,-⟩:=ag.del a7 D;rw[y]at j;have ac:(b6D M T).length<=L.length:=Qk (ZX _ _) S;have aA:Fr (λk=>k=km) w1 X:=g.trans (Q9 R) (λk hk e=>absurd e (ρh g.size));have az:Fr (λk=>k=km) w1 V:=(g.trans (Q9 aq) (λk hk e=>absurd e (ρh g.size))).trans aG (λk _ e=>e);have⟨aZ,F,ao,HX,HY,bh,HR,a5⟩:=η8 m E S hX hY aI hr aQ;have⟨aJ,a2,aX,bb,bc,a1,aT,ax⟩:=η8 ac aA az y ae q0 q1 j
  have⟨au,ak,a3,aY⟩:=η4 z f H J;clear m E S hX hY aI hr aQ ac aA az y ae q0 q1 j z f H J aD ad g aN aF bp O fd R ah ag aq aG ar aP aE D af an;go_upto_region 5 with fail
  refine a0s [(0,3),(1,3),(2,3),(7,3),(3,0),(4,0),(5,0),(6,3),(8,2)] (λQ=>Q=X) ρk ρk ρk ρk (by rw[HX.o]) ?_;rw[HX.o];have q0:=a1.o;have z:=au.o;have H:=a3.o;have J:=aY.o;refine ε4 ?_
  iterate 3 (with_reducible refine a0t (o:=?_) (v:=?_) (a':=?_) ρu ρu (λW' hS=>?_) ?_ ?_;rotate_left 2;(focus(subst hS;exact ρs));focus(exact ρs))
  refine ε1 ?_;refine τ ?_;intro K hK;refine μf ab ?_;with_reducible refine hK _ _ ?_;clear hK K;clear ab H J aa al I q0 z
  refine ν ?_
  cases ob with
  |
   true=>
   go_upto_region 6 with fail
   refine a0s [(0,3),(1,3),(2,3),(3,0),(4,0),(5,2)] (λQ=>Q=Y) ρk ρk ρk ρk (by rw[HY.o]) ?_;rw[HY.o];have q1:=aT.o;have f:=ak.o;have j:=ax.o;refine ε3 ?_
   iterate 2 (with_reducible refine a0t (o:=?_) (v:=?_) (a':=?_) ρu ρu (λW' hS=>?_) ?_ ?_;rotate_left 2;(focus(subst hS;exact ρs));focus(exact ρs))
   refine τ1 ?_;clear j f q1;refine ν ?_;go_wp2;go_roundg (n-(i+1));exact⟨i+1,_,b6D M T,by omega,by go_num,rfl,a5.o,λp hp=>F.o p (ZD.1 hp).1,aJ.o,aX.o⟩;omega
  |
   false=>
   go_wp2;go_roundg (n-(i+1));exact⟨i+1,a,M,by omega,by go_num,rfl,aZ.o,F.o,ao.o,a2.o⟩;omega
 obtain rfl:i=n:=ρo;have aM:¬(i:Int)<i:=ρo;have⟨a0,F,ao,aW⟩:=η4 ad E S g;clear ad E S g;go_wp2;go_ret;exact⟨a,M,rfl,a0.o,F.o,ao.o,((Q9 a6.o).mono (G:=λk=>k=km) (λk hk e=>ρo)).trans aW.o (λk _ e=>e)⟩
end
section
theorem d0i(C:List (Pt×a1q))(L:List (Pt×a1J))(i:InD):0<=inQ C L i/\inQ C L i<=63:=by
 unfold inQ
 split
 ·omega
 split
 ·omega
 split
 ·omega
 split<;>omega
theorem c0M(C:List (Pt×a1q))(L:List (Pt×a1J))(t:TxD):∀l,0<=b3P C L t l/\b3P C L t l<=63
 | []=>by simp[b3P]
 |
  k::l=>by
  unfold b3P
  split
  ·exact d0i _ _ _
  exact c0M C L t l
theorem c1t(t:TxD)(n me:Int):0<=a6B t n me/\a6B t n me<=18446744073709551615:=by
 rw[<-b1k t n me rfl];exact b2Z _ _ _
theorem b2h(n me:Int)(C:List (Pt×a1q))(L:List (Pt×a1J))(t:TxD):(0<=(a1w n me C L t).1/\(a1w n me C L t).1<=18446744073709551615)/\0<=(a1w n me C L t).2/\(a1w n me C L t).2<=63:=by
 have:=c3e t
 have:=c0M C L t (a0M (a2P t n) me)
 have:=c1t t n me
 unfold a1w
 split
 ·simp only;omega
 split
 ·simp only;omega
 split
 ·simp only;omega
 simp only;omega
theorem c5a(n me:Int)(C:List (Pt×a1q))(L:List (Pt×a1J))(sL:Int)(t:TxD):0<=(a9P n me C L sL t).1/\(a9P n me C L sL t).1<=18446744073709551615:=by
 have:=b2h n me C L t
 unfold a9P
 split
 ·simp
 split
 ·simp
 split
 ·simp
 exact this.1
structure c9v(c:(List (Pt×a1q)×Int)×(List (Pt×a1J)×Int)):Prop where
 s:0<=c.1.2/\c.1.2<=18446744073709551615
 l:c.1.1.length<=256
 s2:0<=c.2.2/\c.2.2<=18446744073709551615
 l2:c.2.1.length<=64
 bd:∀p∈c.1.1,p.2.Bd
theorem b7s(t:TxD)(id:LI)(hid:Dig id):∀(l:LI) (c:(List (Pt×a1q)×Int)×(List (Pt×a1J)×Int)),c9v c->c9v (a4H t id l c)
 | [],c,h=>h
 | k::l,c,h=>b7s t id hid l _ ⟨a2h _,Qk (b6X _ _) h.l,c6I h.s2 _ ⟨a3p h.bd _,hid.1,hid.2⟩,c3L h.l2 _ _,λp hp=>h.bd p (ZD.1 hp).1⟩
theorem c3D{C:List (Pt×a1q)}{L:List (Pt×a1J)}{sL:Int}(h:c9v ((C,sC),(L,sL))):c9v (a8T n me C sC L sL t):=by
 unfold a8T
 split
 ·exact h
 exact b7s t _ ⟨a3b t,a5f t⟩ _ _ h
theorem a1e.setCL{b:ShB}{N:List Nat}{x:ShD}(h:a1e w g b N seed x){c:(List (Pt×a1q)×Int)×(List (Pt×a1J)×Int)}(d:Fr (λk=>(k=b.cb\/k=b.cm)\/k=b.lb\/k=b.lm) w a)(m:a0i a b.cb b.cm c.1.1 c.1.2)(o:a0j a b.lb b.lm c.2.1 c.2.2)(f:c9v c):a1e a g b N seed {x with C:=c.1.1,sC:=c.1.2,L:=c.2.1,sL:=c.2.2}:=by
 have p:=h.inN
 have r:∀k,((k=b.cb\/k=b.cm)\/k=b.lb\/k=b.lm)->k∈N:=λk e=>by
  rcases e with(e | e) | e | e<;>rw[e]
  ·exact p.2.1
  ·exact p.2.2.1
  ·exact p.2.2.2.1
  exact p.2.2.2.2.1
 refine⟨h.st.fr d (λe=>?_),m,o,h.ma.fr d (λe=>?_) (λe=>?_) r,h.rg.fr d r,h.sub,λj v=>Qh (h.lt j v) d.size,{h.ok with sC:=f.s,lC:=f.l,sL:=f.s2,lL:=f.l2},h.ap⟩
 ·rcases e with(e | e) | e | e
  ·exact h.sb_cb e
  ·exact h.sb_cm e.symm
  ·exact h.sb_lb e
  exact h.sb_lm e.symm
 ·rcases e with(e | e) | e | e
  ·exact h.cb_kb e.symm
  ·exact h.cm_kb e.symm
  ·exact h.lb_kb e.symm
  exact h.lm_kb e.symm
 rcases e with(e | e) | e | e
 ·exact h.km_cb e
 ·exact h.ap.2.1 e.symm
 ·exact h.km_lb e
 exact h.ap.2.2 e.symm
def lkQ(seed:LI)(x:ShD)(cmd:LI)(t:TxD):Except Int (ShD×RpD):=
 if a0M (a2P t x.n) x.me=[]then .error 11
 else if b9d t.exp x.ep=true then .error 12
 else if(a2E x.M (0,idP t)).isSome=true then .ok (x,a2O (a2Q x.M (0,idP t)).c)
 else if 128<=x.M.length then .error 18
 else if t.exp<=x.ep then b5e seed x 0 cmd t ⟨2,0,a7R,0,12,0⟩
 else if(a1w x.n x.me x.C x.L t).2≠0 then b5e seed x 0 cmd t ⟨2,0,a7R,0,(a1w x.n x.me x.C x.L t).2,0⟩
 else if(a9P x.n x.me x.C x.L x.sL t).2≠0 then .error (a9P x.n x.me x.C x.L x.sL t).2
 else b5e seed {x with C:=(a8T x.n x.me x.C x.sC x.L x.sL t).1.1,sC:=(a8T x.n x.me x.C x.sC x.L x.sL t).1.2,L:=(a8T x.n x.me x.C x.sC x.L x.sL t).2.1,sL:=(a8T x.n x.me x.C x.sC x.L x.sL t).2.2} 0 cmd t ⟨1,0,a7R,(a9P x.n x.me x.C x.L x.sL t).1,0,0⟩
attribute [local go_sem ↓] a2q a1G a1M a7d a3j
theorem c8N(B a:Nat)(b:ShB)(N:List Nat)(seed:LI)(x:ShD)(A:OA)(n c:Nat)(d:LI)(z:n=d.length)(D:A=none->c=0)(y:d.length<=100000000)(f:OA)(o:Nat)(m:OA)(p:Nat)(t:TxD)(w:WD) (h:a1e w a b N seed x) (hB:∀j∈a::b.own,B<=j) (hby:b9j B w A d) (hgl:a8S B w) (ht:TxS B w f m t) (hl1:t.ins.length<=1000000) (hl2:t.outs.length<=1000000):Calls prog 88 #[.pointer a,.slice A n c,.agg (txV f o m p t)] w λe w'=>a6x B a N seed (lkQ seed x d t) e w'/\b1q B a seed w w':=by
 generalize E:lkQ seed x d t=q
 unfold lkQ at E;have⟨g,hg⟩:=ηs w;have bV:=ht.at_.bd;have bG:(txV f o m p t)[1]? =some (.slice m t.outs.length p):=rfl;have bq:(txV f o m p t)[0]? =some (.slice f t.ins.length o):=rfl;have bk:(txV f o m p t)[2]? =some (.int .u64 t.fee):=rfl;have br:(txV f o m p t)[3]? =some (.int .i64 t.exp):=rfl;have bE:(txV f o m p t).toList.length=4:=rfl
 generalize cp:txV f o m p t=tv at bq bG bk br bE⊢
 have b0:=Qd w 53 (tv);have B0:=ρb w (.cells (tv) 53)
 generalize hW:w.alloc (.cells (tv) 53)=W at b0 B0
 rw[hg]at b0;have bA:W.heap.size=g+1:=by rw[<-hW,Qi,hg]
 have a5:=a5k W;have⟨zs,bp⟩:=η0 ((a0O 0 false a0r none 0).toArray);have bc:zs.size=139:=by rw[<-bp,Qc];exact a0A a0B _ _ _ _
 rw[bp,bA]at a5;have bs:=b0.alloc (.cells zs 41);have bz:=Qd W 41 zs;have B1:Below w w (W.alloc (.cells zs 41)):=B0.alloc B0.size _
 generalize hV:W.alloc (.cells zs 41)=V at bs bz B1 a5
 rw[bA]at bz;have b8:(ALs 41).run prog (w.alloc (.cells tv 53))=.ok (.pointer (g+1:Nat)) V:=by rw[hW];exact a5
 have hX:=a4m.begin h hB B1 (r:=g+1) ⟨by omega,bz.lt⟩ (K:=[(g,53,tv),(g+1,41,zs)]) (λq E=>by
  simp only[Qo,Qt,or_false]at E
  rcases E with rfl | rfl
  ·exact⟨by simp only;omega,bs⟩
  exact⟨by simp only;omega,bz⟩)
 have be:∀X y' b' N',a4m B (g+1) w a b' N' seed y' [(g,53,tv),(g+1,41,zs)] X->(LDs 53 (.pointer g)).run prog X=.ok (.agg tv) X:=λX y' b' N' hx=>by
  have:=P4 uTx iTx (w:=X) tv.toList (by simpa using(hx.kp _ Qr).1) bE
  simpa using this
 have ba:∀X y' b' N',a4m B (g+1) w a b' N' seed y' [(g,53,tv),(g+1,41,zs)] X->X.cell? ⟨g,0,none⟩=some (.slice f t.ins.length o)/\X.cell? ⟨g,1,none⟩=some (.slice m t.outs.length p)/\X.cell? ⟨g,2,none⟩=some (.int .u64 t.fee)/\X.cell? ⟨g,3,none⟩=some (.int .i64 t.exp):=λX y' b' N' hx=>
  have hk:=(hx.kp _ Qr).1
  ⟨(hk.cell 0).trans bq,(hk.cell 1).trans bG,(hk.cell 2).trans bk,(hk.cell 3).trans br⟩
 obtain⟨ZR,ax,a9,cP⟩:=P8 (t:=41) a4h b4t;have b5:-9223372036854775808<=x.n/\x.n<=9223372036854775807:=by have:=h.ok.n;have:=h.ok.me;omega
 have b4:Dig (idP t):=⟨a3b t,a5f t⟩;have⟨cK,cL,a6,bm,aF,aI,bD,bw⟩:=η8 hX E bc hby hgl ht z D;have⟨bH,HG,ah,b2,b6,ch,bC,cX⟩:=η8 y hg be ba ax a9 b5 bV;have⟨c3,av,cT⟩:=η3 b4 cp h;clear hX E bc hby hgl ht z D y hg be ba ax a9 b5 bV b4 cp h bp b0 B0 bs bz B1 bA a5 bq bG bk br bE hB hW hV cP;go_in;have⟨U1,bv⟩:=η0 V.drew;have aN:=cK.drew;rw[bv]at aN;have cu:(LDs 53 (.pointer g)).run prog U1=.ok (.agg tv) U1/\U1.cell? ⟨a,1,none⟩=some (.int .i64 x.n)/\U1.cell? ⟨a,0,none⟩=some (.int .i64 x.me):=⟨ah.o _ _ _ _ aN,aN.sh.c.2.1,aN.sh.c.1⟩;have⟨bx,bS,cB⟩:=η3 aN bv cu;clear aN bv cu;go_upto_region 1 with fail
 rw[HG.o];clear b8;refine a0s [(1,3),(2,3),(3,3),(5,3),(6,3),(7,3),(0,0),(4,0),(8,0),(9,2),(10,3),(11,3),(12,3),(13,3),(14,3)] (λY=>(LDs 53 (.pointer g)).run prog Y=.ok (.agg tv) Y/\Y.cell? ⟨a,1,none⟩=some (.int .i64 x.n)/\Y.cell? ⟨a,0,none⟩=some (.int .i64 x.me)) ρk ρk ρk ρk (ρy bS.o cB.o) ?_;rw[bS.o];have a8:=a6O f o m p t x.n x.me bC U1 (aI.go bx.fr).at_ (aF.go bx.fr).at_ hl1 hl2;rw[av.o]at a8;have⟨L,hL⟩:=η0 (a0M (a2P t x.n) x.me)
 have cn:L.length<=16:=by
  rw[<-hL]
  have:=a1V (a2P t x.n) x.me
  have:= @a4q t x.n
  omega
 rw[hL]at a8;have E:=cL.o;rw[hL]at E;have⟨bP,c4,cR⟩:=η3 E hL cn;clear E hL cn;refine ε6 ?_
 iterate 3 refine θ3 (λ_ h=>h) ?_
 refine τ ?_;intro K hK;refine μ1 a8 ?_;rintro e5 w5 ⟨vi,vo,rfl,bt,cN,cd⟩;with_reducible refine hK _ _ ?_;clear hK K
 refine ε5 ?_;clear a8;refine ν ?_;have bZ:=bx.below cd;obtain⟨Av,Nv,cv,rfl⟩:=bt.formN;have bY:=bt.lenN;have cW:Nv<=16:=by have:=cR.o;omega
 have⟨ak,cj⟩:=η2 bZ bY;clear bZ bY cd bt cN
 by_cases a3:Nv=0
 ·subst a3
  have b3:L=[]:=ZG cj.symm;have E:=bP.o;rw[if_pos b3]at E;subst E;have hi:=a0X true 11 w5;simp only[if_true]at hi;have hm:=a1m 11 ρo w5;clear b3;go_wp2_with fail;refine μf hi ?_;go_wp2_with fail;refine μf hm ?_;exact⟨rfl,ak.ref ρo⟩
 have E:=bP.o;rw[if_neg (λe=>a3 (by rw[cj.o,e];rfl))]at E;have hi:=a0X false 11 w5;simp only[QI,if_false]at hi;have hm:=a1o w5;have cD:((Nv:Int) == 0)=false:=by simp;omega
 have cE:decide ((Nv:Int)=0)=false:=by simp;omega
 have⟨cx,cV⟩:=η2 E a3;clear E a3;go_wp2_with fail;refine μf hi ?_;go_wp2_with fail;refine μf hm ?_;clear hi hm cD cE;have b9:=ah.o _ _ _ _ ak
 by_cases af:b9d t.exp x.ep=true
 ·have E:=cx.o
  rw[if_pos af]at E;subst E;have al:=a7T a b ((g+1)::N) seed x 0 f o m p t w5 ak.sh af;rw[av.o]at al;clear af;go_wp2_with fail;refine μi al ?_;intro w9 a7;exact⟨rfl,(ak.below a7).ref ρo⟩
 have E:=cx.o;rw[if_neg af]at E;have al:=a7X a b ((g+1)::N) seed x 0 ρo f o m p t w5 ak.sh (ρw af) (aI.go ak.fr).at_ (aF.go ak.fr).at_ hl1 hl2;rw[av.o]at al;have⟨b7,cU⟩:=η2 E af;clear E af;go_wp2_with fail;refine μ1 al ?_;rintro e9 w9 ⟨⟨A9,c9,rfl,aK,bf⟩,a7⟩;clear al b9;have bi:a3C w5 w9 (a2Q x.M (0,idP t)).c A9 c9:=⟨aK.bd,aK.len,bf⟩;have an:=a0A aK.bd 0 true A9 c9;have ax:=b6.o w9;have ar:=ch.o w9 (a0O 0 true (a2Q x.M (0,idP t)).c A9 c9) an (a0W _ _ _ _ _);have kr:=Qd w9 41 (a0O 0 true (a2Q x.M (0,idP t)).c A9 c9).toArray;have Dr:=ρb w9 (.cells (a0O 0 true (a2Q x.M (0,idP t)).c A9 c9).toArray 41);have⟨r9,cA⟩:=ηs w9;rw[cA]at ax ar kr
 generalize c2:w9.alloc (.cells (a0O 0 true (a2Q x.M (0,idP t)).c A9 c9).toArray 41)=Y9 at ar kr Dr
 have a2:=(ak.below a7).below Dr;have bg:=P4 a7w a4h _ kr an;have H:(g+1,41,zs)∈[(g,53,tv),(g+1,41,zs)]:=by simp
 have bb:=a2.sto H a6 (a0O 0 true (a2Q x.M (0,idP t)).c A9 c9) an (a0W _ _ _ _ _);have ct:g+1<w5.heap.size:=(ak.kp _ H).1.lt;have ao:=a2.fin H (N0:=N) (λj hj=>Qj _ hj) (y0:=x) rfl (rp:=a2O (a2Q x.M (0,idP t)).c) ak.sz ct (bi.below Dr) rfl
 generalize aQ:(a2E x.M (0,idP t)).isSome=is9
 have⟨cg,aV⟩:=η0 (a0O 0 true (a2Q x.M (0,idP t)).c A9 c9);simp only[a2O]at ao;rw[aV]at ar bg bb an ao;rw[aV];have E:=b7.o;rw[aQ]at E;have⟨aX,bN,a0,cS⟩:=η4 ao an a2 aQ;clear ao an a2 aQ aK bf a7 bi kr Dr cA H aV ct
 cases is9 with
 |
  true=>
  rw[if_pos rfl]at E;subst E;go_wp2_with fail;obtain⟨dR,aH,ag⟩:=Q8.1 a7w;refine bodyPost_ret (v:=.agg cg.toArray) (a0c rfl _ _ (g+1) _ cg dR rfl aX.2.2 aH ag (ρy bN.o a4h)) rfl ?_;exact⟨aX.1,aX.2.1⟩
 | false=>
 rw[if_neg ρp]at E;have bh:=η1 E;clear E;go_upto_region 6 with fail
 clear bg bb ar ax;have aU:=b0A a b ((g+1)::N) seed x Y9 a0.sh
 by_cases aG:128<=x.M.length
 ·have E:=bh.o
  rw[if_pos aG]at E;subst E;rw[show decide (128<=x.M.length)=true by simpa using aG]at aU;have hi:=a0X true 18 Y9;simp only[if_true]at hi;have hm:=a1m 18 ρo Y9;clear aG;go_wp2_with fail;refine μf aU ?_;go_wp2_with fail;refine μf hi ?_;go_wp2_with fail;refine μf hm ?_;exact⟨rfl,a0.ref ρo⟩
 have E:=bh.o;rw[if_neg aG]at E;rw[show decide (128<=x.M.length)=false by simpa using aG]at aU;have hi:=a0X false 18 Y9;simp only[QI,if_false]at hi;have hm:=a1o Y9;have⟨ca,c1⟩:=η2 E aG;clear E aG;go_wp2_with fail;refine μf aU ?_;go_wp2_with fail;refine μf hi ?_;go_wp2_with fail;refine μf hm ?_;clear aU hi hm;have⟨U4,bo⟩:=η0 Y9.drew;have az:=a0.drew;rw[bo]at az;have ck:(LDs 53 (.pointer g)).run prog U4=.ok (.agg tv) U4/\U4.cell? ⟨a,1,none⟩=some (.int .i64 x.n)/\U4.cell? ⟨a,0,none⟩=some (.int .i64 x.me)/\U4.cell? ⟨a,7,none⟩=some (.pointer b.cb)/\U4.cell? ⟨a,8,none⟩=some (.pointer b.lb):=⟨ah.o _ _ _ _ az,az.sh.c.2.1,az.sh.c.1,az.sh.c.2.2.2.2.2.2.2.1,az.sh.c.2.2.2.2.2.2.2.2.1⟩;have⟨aY,bX,cI⟩:=η3 az bo ck;clear az bo ck;go_upto_region 7 with fail
 refine a0s [(1,3),(2,3),(3,3),(5,3),(6,3),(7,3),(9,3),(10,3),(11,3),(13,3),(14,3),(15,3),(0,0),(4,0),(8,0),(12,0),(16,0),(17,2),(18,3),(19,3),(20,3),(21,3),(22,3)] (λY=>(LDs 53 (.pointer g)).run prog Y=.ok (.agg tv) Y/\Y.cell? ⟨a,1,none⟩=some (.int .i64 x.n)/\Y.cell? ⟨a,0,none⟩=some (.int .i64 x.me)/\Y.cell? ⟨a,7,none⟩=some (.pointer b.cb)/\Y.cell? ⟨a,8,none⟩=some (.pointer b.lb)) ρk ρk ρk ρk (ρy bX.o cI.o) ?_;rw[bX.o];have aO:=a9m b.cb b.cm x.C x.sC b.lb b.lm x.L x.sL f o m p t x.n x.me bC U4 aY.sh.co aY.sh.lo (aI.go aY.fr).at_ (aF.go aY.fr).at_ hl1 hl2;have aL:=b2h x.n x.me x.C x.L t;rw[av.o]at aO;have⟨iq,cc⟩:=η0 (a1w x.n x.me x.C x.L t);have E:=ca.o;rw[cc]at E aO aL;obtain⟨i1,i2⟩:=iq;simp only at E aO aL;have⟨ce,bL⟩:=η2 E aL;clear E aL cc;refine ε7 ?_;refine ε5 ?_
 iterate 5 refine θ5 (λ_ h=>h) ?_
 refine τ ?_;intro K hK;refine μi aO ?_;intro w7 cr;with_reducible refine hK _ _ ?_;clear hK K
 refine ε5 ?_;clear aO;refine ν ?_;have cf:=aY.below cr;have cF:=η1 cf;clear cf cr;have⟨U5,bF⟩:=η0 w7.drew;have aW:=cF.drew;rw[bF]at aW;have bQ:U5.cell? ⟨a,3,none⟩=some (.int .i64 x.ep)/\U5.cell? ⟨g,3,none⟩=some (.int .i64 t.exp):=⟨aW.sh.c.2.2.2.1,(b2.o _ _ _ _ aW).2.2.2⟩;have⟨I,bT,cH⟩:=η3 aW bF bQ;clear aW bF bQ;go_upto_region 8 with fail
 refine a0s [(0,3),(1,3),(2,3),(4,3),(3,0),(5,0),(6,3)] (λY=>Y.cell? ⟨a,3,none⟩=some (.int .i64 x.ep)/\Y.cell? ⟨g,3,none⟩=some (.int .i64 t.exp)) ρk ρk ρk ρk (ρy bT.o cH.o) ?_;rw[bT.o];refine ε4 ?_
 iterate 2 refine θ2 (λ_ h=>h) ?_
 by_cases aD:t.exp<=x.ep
 ·have E:=ce.o
  rw[if_pos aD]at E;have hb:decide (t.exp<=x.ep)=true:=ρw aD;have⟨a4,cO⟩:=η2 E aD;clear E aD;refine ε1 ?_;refine ν ?_;have ay:=ah.o _ _ _ _ I;have ai:=b2Q 2 12;have ad:(⟨2,0,a7R,0,12,0⟩:a1P).Bd:=b1v ρo Dig.zIdY ρo ρo;have G:=a5z a b ((g+1)::N) seed x 0 ρo A n c d bD.o bw.o bH.o f o m p t ⟨2,0,a7R,0,12,0⟩ ad U5 I.sh (bm.go I.fr).at_ (aI.go I.fr).at_ hl1 hl2 (aF.go I.fr).at_;rw[av.o]at G;have E:=a4.o;have⟨e0,aa⟩:=η0 ((⟨2,0,a7R,0,12,0⟩:a1P):a1P);rw[aa]at G E ad;simp only[aa]at ai;have⟨ev,T⟩:=η0 ((a0x e0).toArray);rw[T]at G;simp only[T]at ai;have⟨dq,aE⟩:=η0 (b5e seed x 0 d t e0);rw[aE]at G E;subst E;have cz:=η1 T;clear T ad aa aE;go_wp2_with fail;refine μ1 G ?_;rintro bU bM ⟨aB,R⟩;clear G ai
  cases dq with
  |
   error k=>
   obtain⟨hk,rfl⟩:=aB;exact⟨rfl,I.refF R hk⟩
  |
   ok yr=>
   obtain⟨aZ,rp⟩:=yr;obtain⟨⟨cq,Z,aA⟩,ab,ac,rfl,F⟩:=aB;have J:=I.step' Z R;have H:(g+1,41,zs)∈[(g,53,tv),(g+1,41,zs)]:=by simp
   have S:=a0A F.1 rp.e rp.has ab ac;have aS:=J.sto H a6 (a0O rp.e rp.has rp.c ab ac) S (a0W _ _ _ _ _);have aC:g+1<U5.heap.size:=(I.kp _ H).1.lt;have Q:=J.fin H (N0:=N) (λj hj=>Qj _ hj) (y0:=aZ) aA (rp:=rp) I.sz aC F rfl;have⟨rs,ae⟩:=η0 (a0O rp.e rp.has rp.c ab ac);rw[ae]at aS Q S;rw[ae];have⟨O,aT⟩:=η2 Q S;clear Q S J Z F R aA H aC ae;clear ay;go_wp2_with fail;obtain⟨dR,aH,ag⟩:=Q8.1 a7w;refine bodyPost_ret (v:=.agg rs.toArray) (a0c rfl _ _ (g+1) _ rs dR rfl O.2.2 aH ag (ρy aT.o a4h)) rfl ?_;exact⟨O.1,O.2.1⟩
 have E:=ce.o;rw[if_neg aD]at E;have hb:decide (t.exp<=x.ep)=false:=ρw aD;have⟨a4,cO⟩:=η2 E aD;clear E aD;refine ε1 ?_;refine ν ?_
 by_cases aP:i2=0
 rotate_left
 ·have E:=a4.o
  rw[if_pos aP]at E;have cM:=bL.o;have cY:(i2 != 0)=true:=ρw aP;have⟨cQ,c0⟩:=η2 E aP;clear E aP;have ay:=ah.o _ _ _ _ I;have ai:=b2Q 2 i2;have ad:(⟨2,0,a7R,0,i2,0⟩:a1P).Bd:=b1v ρo Dig.zIdY ρo cM.2;have G:=a5z a b ((g+1)::N) seed x 0 ρo A n c d bD.o bw.o bH.o f o m p t ⟨2,0,a7R,0,i2,0⟩ ad U5 I.sh (bm.go I.fr).at_ (aI.go I.fr).at_ hl1 hl2 (aF.go I.fr).at_;rw[av.o]at G;have E:=cQ.o;have⟨e0,aa⟩:=η0 ((⟨2,0,a7R,0,i2,0⟩:a1P):a1P);rw[aa]at G E ad;simp only[aa]at ai;have⟨ev,T⟩:=η0 ((a0x e0).toArray);rw[T]at G;simp only[T]at ai;have⟨dq,aE⟩:=η0 (b5e seed x 0 d t e0);rw[aE]at G E;subst E;have cz:=η1 T;clear T ad aa aE;go_wp2_with fail;refine μ1 G ?_;rintro bU bM ⟨aB,R⟩;clear G ai
  cases dq with
  |
   error k=>
   obtain⟨hk,rfl⟩:=aB;exact⟨rfl,I.refF R hk⟩
  |
   ok yr=>
   obtain⟨aZ,rp⟩:=yr;obtain⟨⟨cq,Z,aA⟩,ab,ac,rfl,F⟩:=aB;have J:=I.step' Z R;have H:(g+1,41,zs)∈[(g,53,tv),(g+1,41,zs)]:=by simp
   have S:=a0A F.1 rp.e rp.has ab ac;have aS:=J.sto H a6 (a0O rp.e rp.has rp.c ab ac) S (a0W _ _ _ _ _);have aC:g+1<U5.heap.size:=(I.kp _ H).1.lt;have Q:=J.fin H (N0:=N) (λj hj=>Qj _ hj) (y0:=aZ) aA (rp:=rp) I.sz aC F rfl;have⟨rs,ae⟩:=η0 (a0O rp.e rp.has rp.c ab ac);rw[ae]at aS Q S;rw[ae];have⟨O,aT⟩:=η2 Q S;clear Q S J Z F R aA H aC ae;clear ay;go_wp2_with fail;obtain⟨dR,aH,ag⟩:=Q8.1 a7w;refine bodyPost_ret (v:=.agg rs.toArray) (a0c rfl _ _ (g+1) _ rs dR rfl O.2.2 aH ag (ρy aT.o a4h)) rfl ?_;exact⟨O.1,O.2.1⟩
 subst aP;have E:=a4.o;rw[if_neg ρp]at E;have cC:=η1 E;clear E;have⟨U6,bI⟩:=η0 U5.drew;have au:=I.drew;rw[bI]at au;have cw:(LDs 53 (.pointer g)).run prog U6=.ok (.agg tv) U6/\U6.cell? ⟨a,1,none⟩=some (.int .i64 x.n)/\U6.cell? ⟨a,0,none⟩=some (.int .i64 x.me)/\U6.cell? ⟨a,7,none⟩=some (.pointer b.cb)/\U6.cell? ⟨a,8,none⟩=some (.pointer b.lb):=⟨ah.o _ _ _ _ au,au.sh.c.2.1,au.sh.c.1,au.sh.c.2.2.2.2.2.2.2.1,au.sh.c.2.2.2.2.2.2.2.2.1⟩;have⟨aq,bJ,cG⟩:=η3 au bI cw;clear au bI cw;go_upto_region 12 with fail
 clear hb;refine a0s [(1,3),(2,3),(3,3),(5,3),(6,3),(7,3),(9,3),(10,3),(11,3),(13,3),(14,3),(15,3),(0,0),(4,0),(8,0),(12,0),(16,0),(17,2),(18,3),(19,3),(20,3),(21,3),(22,3)] (λY=>(LDs 53 (.pointer g)).run prog Y=.ok (.agg tv) Y/\Y.cell? ⟨a,1,none⟩=some (.int .i64 x.n)/\Y.cell? ⟨a,0,none⟩=some (.int .i64 x.me)/\Y.cell? ⟨a,7,none⟩=some (.pointer b.cb)/\Y.cell? ⟨a,8,none⟩=some (.pointer b.lb)) ρk ρk ρk ρk (ρy bJ.o cG.o) ?_;rw[bJ.o];have U:=aq.sh;have aR:=c4H B b.cb b.cm x.C x.sC b.lb b.lm x.L x.sL U.ok.sL U.ok.lL f o m p t x.n x.me bC.o U6 U.co U.lo ⟨U.cb_lb,U.lm_cb.symm,U.cm_lb,U.ap.1⟩ (aI.go aq.fr) ⟨⟨aq.pos _ (by simp[ShB.own]),aq.pos _ (by simp[ShB.own])⟩,aq.pos _ (by simp[ShB.own]),aq.pos _ (by simp[ShB.own])⟩ (aF.go aq.fr).at_ hl1 hl2
 have a1:=c3D (n:=x.n) (me:=x.me) (t:=t) (⟨U.ok.sC,U.ok.lC,U.ok.sL,U.ok.lL,U.co.bd⟩:c9v ((x.C,x.sC),(x.L,x.sL)));have aM:=c5a x.n x.me x.C x.L x.sL t;rw[av.o]at aR;have⟨lq,bj⟩:=η0 (a9P x.n x.me x.C x.L x.sL t);have⟨pc,bB⟩:=η0 (a8T x.n x.me x.C x.sC x.L x.sL t);have E:=cC.o;rw[bj,bB]at E aR;rw[bB]at a1;rw[bj]at aM;obtain⟨l1,l2⟩:=lq;simp only at E aR aM;have⟨cJ,bK,bW⟩:=η3 E a1 aM;clear E a1 aM bj bB U;refine ε7 ?_;refine ε5 ?_
 iterate 5 refine θ5 (λ_ h=>h) ?_
 refine τ ?_;intro K hK;refine μ1 aR ?_;rintro e8 w8 ⟨rfl,⟨bR,ci⟩,bu⟩;with_reducible refine hK _ _ ?_;clear hK K
 refine ε5 ?_;clear aR;refine ν ?_;have bl:=aq.step' (aq.sh.setCL bu bR ci bK.o) (bu.mono (λk _ e=>e.elim (c7I a b k) (c8Z a b k)));have E:=cJ.o;have⟨y1,bn⟩:=η0 ({x with C:=pc.1.1,sC:=pc.1.2,L:=pc.2.1,sL:=pc.2.2});rw[bn]at bl E;have⟨aj,cy,cZ⟩:=η3 bl E bn;clear bl E bn bR ci bu
 by_cases aJ:l2=0
 rotate_left
 ·have E:=cy.o
  rw[if_pos aJ]at E;subst E;have hm:=a1m l2 aJ w8;go_wp2_with fail;refine μf hm ?_;exact⟨rfl,aj.ref aJ⟩
 subst aJ;have E:=cy.o;rw[if_neg ρp]at E;have hm:=a1o w8;have bO:=η1 E;clear E;go_wp2_with fail;refine μf hm ?_;clear hm;have ay:=ah.o _ _ _ _ aj;have ai:=c4C 1 l1;have ad:(⟨1,0,a7R,l1,0,0⟩:a1P).Bd:=b1v ρo Dig.zIdY bW.o ρo;have G:=a5z a b ((g+1)::N) seed y1 0 ρo A n c d bD.o bw.o bH.o f o m p t ⟨1,0,a7R,l1,0,0⟩ ad w8 aj.sh (bm.go aj.fr).at_ (aI.go aj.fr).at_ hl1 hl2 (aF.go aj.fr).at_;rw[av.o]at G;have E:=bO.o;have⟨e0,aa⟩:=η0 ((⟨1,0,a7R,l1,0,0⟩:a1P):a1P);rw[aa]at G E ad;simp only[aa]at ai;have⟨ev,T⟩:=η0 ((a0x e0).toArray);rw[T]at G;simp only[T]at ai;have⟨dq,aE⟩:=η0 (b5e seed y1 0 d t e0);rw[aE]at G E;subst E;have cz:=η1 T;clear T ad aa aE;go_wp2_with fail;refine μ1 G ?_;rintro bU bM ⟨aB,R⟩;clear G ai
 cases dq with
 |
  error k=>
  obtain⟨hk,rfl⟩:=aB;exact⟨rfl,aj.refF R hk⟩
 |
  ok yr=>
  obtain⟨aZ,rp⟩:=yr;obtain⟨⟨cq,Z,aA⟩,ab,ac,rfl,F⟩:=aB;have J:=aj.step' Z R;have H:(g+1,41,zs)∈[(g,53,tv),(g+1,41,zs)]:=by simp
  have S:=a0A F.1 rp.e rp.has ab ac;have aS:=J.sto H a6 (a0O rp.e rp.has rp.c ab ac) S (a0W _ _ _ _ _);have aC:g+1<w8.heap.size:=(aj.kp _ H).1.lt;have Q:=J.fin H (N0:=N) (λj hj=>Qj _ hj) (y0:=aZ) aA (rp:=rp) aj.sz aC F rfl;have⟨rs,ae⟩:=η0 (a0O rp.e rp.has rp.c ab ac);rw[ae]at aS Q S;rw[ae];have⟨O,aT⟩:=η2 Q S;clear Q S J Z F R aA H aC ae;clear ay;go_wp2_with fail;obtain⟨dR,aH,ag⟩:=Q8.1 a7w;refine bodyPost_ret (v:=.agg rs.toArray) (a0c rfl _ _ (g+1) _ rs dR rfl O.2.2 aH ag (ρy aT.o a4h)) rfl ?_;exact⟨O.1,O.2.1⟩
end
section
theorem c1n{m:List (Pt×a1q)}(h:m.length<=256)(s:Int)(p:Pt)(x:a1q):(a7H m s p x).2.1.length<=256:=by
 unfold a7H
 split
 ·exact h
 split
 ·exact h
 split
 ·exact h
 split
 ·exact h
 simp;omega
structure d0k(cb lb lm:Nat)(L:List (Pt×a1J))(w w':WD)(c0:Nat)(m:List (Pt×a1q))(s:Int)(L':List (Pt×a1J))(s':Int)(wr:WD):Prop where
 new:w.heap.size<=c0
 bel:Below w w wr
 fr:Fr (λk=>k=cb\/k=lb\/k=lm) wr w'
 co:a0i w' cb c0 m s
 cs:0<=s/\s<=18446744073709551615
 cl:m.length<=256
 lo:a0j w' lb lm L' s'
 ls:0<=s'/\s'<=18446744073709551615
 ll:L'.length<=L.length
def c4n(cb lb lm:Nat)(L:List (Pt×a1J))(w:WD)(e:Ending)(w':WD):Prop:=
 ∃v er:Int,e=.returned (.tuple #[.int .u64 v,.int .i64 er])/\(0<=v/\v<=18446744073709551615)/\((er≠0/\Below w w w')\/(er=0/\∃c0 m s L' s' wr,d0k cb lb lm L w w' c0 m s L' s' wr))
attribute [local go_sem ↓] a1F a4Z a5p a1B a5a a5i a4v a4s a4r b8r b7p
theorem c4h(cb cm:Nat)(C:List (Pt×a1q))(sC:Int)(lb lm:Nat)(L:List (Pt×a1J))(s:Int)(D:LI)(f:Dig D)(a:C.length<=256)(o:L.length<=1000000)(b:0<=sC/\sC<=18446744073709551615)(d:0<=s/\s<=18446744073709551615)(w:WD)(j:a0i w cb cm C sC)(h:a0j w lb lm L s) (hne:cb≠lb/\cb≠lm):Calls prog 164 #[.agg (bys D).toArray,.pointer cb,.pointer lb] w (c4n cb lb lm L w):=by
 have⟨g,hg⟩:=ηs w;have aW:(bys D).length=32:=by rw[a0a,f.1]
 have b0:=Qd w 31 (((bys D).toArray));have B0:=ρb w (.cells (((bys D).toArray)) 31)
 generalize hW:w.alloc (.cells (((bys D).toArray)) 31)=W at b0 B0
 rw[hg]at b0;have a7:=c2J lb lm L s D f o W (h.below B0);have bn:=P4 a2i iId (bys D) b0 aW;obtain⟨Z,U,ax,hz⟩:=P8 (t:=189) a1H c3w;obtain⟨Zc,x,af,bP⟩:=P8 (t:=206) a9y d1q;obtain⟨Zi,p,Y,bM⟩:=P8 (t:=31) iId b1N;have hA:=h.below B0;have bB:=j.below B0;have b8:=h.st.lt;have bz:=h.mp.lt;have bU:=j.st.lt;have bG:=j.mp.lt;have⟨dv,a5⟩:=η0 ((bys D).toArray);rw[a5]at hW a7 bn;have⟨HW,HG,cr,cz,cG,bK,cK,bs⟩:=η8 hW hg B0 U ax x af p;have⟨cI,cu,ce,HA,ck,b6,br,bV⟩:=η8 Y bP bM hA bB a5 b8 bz;have⟨aP,cX,a8,cq,a4,cF,cD,cC⟩:=η8 bU bG b0 aW hne a b d;have⟨HL,HD⟩:=η2 o f;clear hW hg B0 U ax x af p Y bP bM hA bB a5 b8 bz bU bG b0 aW hne a b d o f h j;rw[b6.o];go_in;go_upto_region 3 with fail
 rw[HW.o,HG.o];go_wp2_with fail;refine μ1 a7 ?_;rintro e1 w1 ⟨A,c,E,rfl,aM,hO,S⟩;have⟨n,hn⟩:=η0 E.length;rw[hn]at hO;have bI:=HA.below S;have bq:=ck.below S;have aD:=φt cr S;have bW:n<=1000000:=by have:=aM.len;have:=HL.o;omega
 obtain⟨-,bR⟩:=hO.sp;have⟨cR,HO,a6,HN,ca,bu,cd,ct⟩:=η8 aM hO S hn bI bq bR bW;have J:=η1 aD;clear aM hO S hn bI bq bR bW aD a7 bn
 try rw[HN.o]
 by_cases bC:n=0
 ·subst bC
  go_wp2;go_ret2;exact⟨0,13,rfl,by omega,.inl ⟨by omega,J.o⟩⟩
 have bD:((n:Int) == 0)=false:=by simp;omega
 have cE:decide ((n:Int)=0)=false:=by simp;omega
 have T:=a9h cb cm C sC w1 bu;go_wp2_with fail;refine μ1 T ?_;rintro e2 w2 ⟨rfl,aT,ao,aL⟩
 generalize bF:w1.heap.size=c0 at aT aL⊢
 have bm:=ca.below ao;have aG:=φt J ao;have⟨cn,ci,bo,cp,aY,aj⟩:=η6 aT aL bF bm ao aG;clear aT aL bF bm ao aG T bD cE bC;go_upto_region 8 with fail
 try rw[HN.o]
 go_loopg [11,12,13,14,15,32] n (λkk _ _ _ _ _ t wr=>∃(i:Nat) (m:List (Pt×a1q)) (H:Int),i+kk=n/\t=.int .i64 i/\a0i wr (c0+1) c0 m H/\(0<=H/\H<=18446744073709551615)/\m.length<=256/\Fr (λk=>k=c0+1\/k=c0) w2 wr);exact⟨0,C,sC,by omega,rfl,cn.o,cD.o,cF.o,Qp _ _⟩;obtain⟨i,m,H,hi,rfl,O,aa,aq,F⟩:=hrel;have aI:=J.size;have aA:=bo.o;have aB:=ci.o;have Q:a0j wr lb lm L s:=cp.fr F (ρh br.o) (ρh bV.o);have au:Below w w wr:=aj.trans (F.below ρo (λk hk e=>ρo))
 by_cases ch:i<n
 ·have bX:(i:Int)<n:=ρo
  have bZ:i<E.length:=by rw[HN.o];exact ch
  have bD:=ct.o
  rcases cd.o with⟨-,e0⟩ | ⟨q,cM,rfl,hq,-⟩
  ·have:=congrArg List.length e0
   simp at this;subst this;simp at bZ
  have bv:=(HO.keep aY.o).fr F (λk hk e=>by have:=(HO.lt hk).2;omega);have ac:=bv.ldR (t:=189) a3a a1H (i:=i) (ρw bZ);simp only[QS]at ac;have⟨pv,R⟩:=η0 (ptE.e E[i].1);have a2:pv.length=33:=by rw[<-R];exact a1x E[i].2.len _
  have cB:∀u∈pv,u.oneCell'=true:=by rw[<-R];exact a2p _ _
  rw[R]at ac;have U:=cz.o wr;have aS:=cG.o wr pv a2 cB;have bp:=Qd wr 189 pv.toArray;have ab:=ρb wr (.cells pv.toArray 189);have⟨r,hr⟩:=ηs wr;rw[hr]at U aS bp
  generalize bJ:wr.alloc (.cells pv.toArray 189)=w3 at aS bp ab
  have bx:=P4 a3a a1H pv bp a2;have ad:=b5f lb lm L s E[i].1 E[i].2 w3 (Q.below ab);rw[show ptL E[i].1.1 E[i].1.2=pv from R]at ad;have aN:=a2U Q.bd E[i].1;have⟨lk,an⟩:=η0 ((a0H L E[i].1).1);have⟨iv,ai⟩:=η0 (bys (a0H L E[i].1).2);have bt:iv.length=32:=by rw[<-ai,a0a,aN.len]
  have b2:∀u∈iv,u.oneCell'=true:=by rw[<-ai];exact a0h _
  have ag:lk.Bd:=by rw[<-an];exact aN.co
  have bh:=a0G ag;have b7:=a1O lk;have y:=λX hX=>b0Q (c0+1) c0 m H E[i].1 E[i].2 lk ag aa X hX
  rw[show ptL E[i].1.1 E[i].1.2=pv from R]at y;have I:=b8a (m:=m) aa E[i].1 ag;have N:=c1n aq H E[i].1 lk;rw[an,ai]at ad;have⟨ov,aR⟩:=η0 (a1s lk);simp only[aR]at ad bh b7 y;have⟨pt,aZ⟩:=η0 (a7H m H E[i].1 lk);rw[aZ]at I N;simp only[aZ]at y;obtain⟨pe,p2⟩:=pt;simp only at y I N;have az:=O.below ab;have⟨aU,bN,cy,HR,cT,cN,cU,cS⟩:=η8 F ab bp hr bJ aR an ai;have⟨bc,a1,bE,bY,b5,cP⟩:=η6 I N y az au Q;clear F ab bp hr bJ aR an ai I N y az au Q bv O aN R aa aq aZ aI aA aB;go_wp2_with fail;refine μi ad ?_;intro w4 aV;have p:=bs.o w4;have bi:=Qd w4 31 Zi;have⟨r4,ba⟩:=ηs w4;have ar:=ρb w4 (.cells Zi 31);rw[ba]at p bi;have aQ:(w4.alloc (.cells Zi 31)).heap.size=r4+1:=by rw[Qi,ba]
  generalize bL:w4.alloc (.cells Zi 31)=W5 at p bi aQ ar
  have x:=bK.o W5;have bf:=bi.alloc (.cells Zc 206);have ak:=Qd W5 206 Zc;have a0:=ar.alloc ar.size (.cells Zc 206);rw[aQ]at x ak
  generalize bj:W5.alloc (.cells Zc 206)=W6 at x bf ak a0
  have aH:=P9 iId bf ce iv bt b2;have bg:=Ql (g:=r4) a0 ρo iv.toArray;have al:=ak.rowFar (g':=r4) ρo iv.toArray
  generalize bA:W6.setRow r4 iv.toArray=W7 at aH al bg
  have aE:=P9 a9y al cu ov bh b7;have bb:=Ql (g:=r4+1) bg ρo ov.toArray;have be:=al.row_ ov.toArray
  generalize bQ:W7.setRow (r4+1) ov.toArray=W8 at aE be bb
  have bl:=P4 c3f a9y ov be bh;have K:=aV.trans (bb.mono aV.size);have a9:=P4 a3a a1H pv (φf cy K) a2;have ae:=bE.o W8 (bY.below K);have⟨bT,cW,cQ,cL,cO⟩:=η5 K bL bj bA bQ;clear K bL bj bA bQ ad bx ac U aS aV ar bi bf ak al be aQ a0 bg bb ba;go_wp2_with fail;refine μ1 ae ?_;rintro e9 w9 ⟨rfl,bw,bO⟩;have a3:Fr (λk=>k=c0+1\/k=c0) w2 w9:=((aU.trans (Q9 bN.o) (λk hk e=>absurd e (ρh aU.o.size))).trans (Q9 bT.o) (λk hk e=>absurd e (ρi aU.o.size bN.o.size))).trans bO (λk _ e=>e);have b3:Below w w w9:=aj.trans (a3.below aj.size (λk hk e=>by have:=bo.o;have:=J.size;omega));have⟨b9,cf,cj⟩:=η3 bw a3 b3;clear bw a3 b3 ae p x aH aE bl a9 bO
  by_cases av:pe=0
  ·subst av
   go_wp2;go_roundg (n-(i+1));exact⟨i+1,_,_,by omega,by go_num,b9.o,bc.o,a1.o,cf.o⟩;omega
  have cV:(pe != 0)=true:=ρw av;have cA:=η1 av;clear av;go_wp2;go_ret2;exact⟨0,pe,rfl,by omega,.inl ⟨cA.o,cj.o⟩⟩
 obtain rfl:i=n:=ρo;have bX:¬(i:Int)<i:=ρo;have cH:=P4 d3b d1C [.map (some c0),.int .u64 H] O.st rfl;have ah:=(bu.below aY).st.fr F (ρh aP.o)
 have ay:=P9 d1C ah rfl [.map (some c0),.int .u64 H] rfl (by
  intro v hv;simp only[Qo,Qt,or_false]at hv
  rcases hv with rfl | rfl<;>rfl)
 have kz:=ah.row_ #[.map (some c0),.int .u64 H];have fz:=ρr (cb) wr #[.map (some c0),.int .u64 H];have aO:a0i (wr.setRow cb #[.map (some c0),.int .u64 H]) cb c0 m H:=⟨kz,O.mp.fr fz (show¬c0=cb by have:=aP.o;omega),O.bd⟩;have b4:=Q.fr fz (λe=>a4.1 e.symm) (λe=>a4.2 e.symm);have bk:Blk (wr.setRow cb #[.map (some c0),.int .u64 H]) g 31 (bys D).toArray:=((a8.fr (Q9 (a6.trans (aY.mono a6.size))) (ρh a8.o.lt)).fr F (ρi a8.o.lt a6.o.size)).fr fz (ρi HG.o aP.o);have aC:=P4 a2i iId (bys D) bk cq;have B:=b2H lb lm L s D HD HL _ b4;rw[b6.o]at aC B
 generalize hV:wr.setRow cb #[.map (some c0),.int .u64 H]=V at fz aO aC B
 replace ay:=ay.trans (show _=Result.ok () V by rw[<-hV]);have aJ:w.heap.size<=c0:=ρo;have⟨cc,cg,b5,bc,a1,aF,HV⟩:=η7 fz aO au aa aq aJ hV;clear fz aO au aa aq aJ hV kz ah O F b4 bk Q aI aA aB;go_wp2_with fail;refine μ1 B ?_;rintro e5 w5 ⟨qs,cJ,rfl,aX,aK⟩;have hq:=b3w qs (L,s,0) cC.o ρp
 generalize hz:a4j qs (L,s,0)=z at aX hq⊢
 have bS:=cg.fr aK (ρh a4.o) (by have:=aF.o;have:=br.o;have:=bV.o;omega);have bH:Fr (λk=>k=cb\/k=lb\/k=lm) wr w5:=(cc.mono (G:=λk=>k=cb\/k=lb\/k=lm) (λk _ e=>.inl e)).trans aK (λk _ e=>.inr e);have⟨HQ,cv,cw,cx⟩:=η4 hq bS aX bH;clear hq bS aX bH B aK hz;go_wp2;go_ret2;exact⟨_,0,rfl,HQ.2.1,.inr ⟨rfl,c0,m,H,_,_,wr,aF.o,b5.o,cx.o,cv.o,bc.o,a1.o,cw.o,HQ.1,HQ.2.2⟩⟩
end
section
def c7Q(x:ShD)(t:TxD)(e:Ending):Prop:=(e=.returned (.tuple #[])/\a0M (a2P t x.n) x.me≠[])\/∃k,b7C k e
attribute [local go_sem ↓] a2q
theorem b6Z(a:Nat)(b:ShB)(N:List Nat)(seed:LI)(x:ShD)(d:OA)(j:Nat)(f:OA)(m:Nat)(t:TxD)(w:WD) (h:a1e w a b N seed x) (hgl:a2x w) (ht:a9H w d f t) (hl1:t.ins.length<=1000000) (hl2:t.outs.length<=1000000):Calls prog 159 #[.pointer a,.agg (txV d j f m t)] w λe w'=>c7Q x t e/\Below w w w':=by
 have⟨g,hg⟩:=ηs w;have ae:(txV d j f m t).toList.length=4:=rfl;have aK:-9223372036854775808<=x.n/\x.n<=9223372036854775807:=by have:=h.ok.n;have:=h.ok.me;omega
 have ao:Dig (idP t):=⟨a3b t,a5f t⟩
 generalize af:txV d j f m t=tv at ae⊢
 have b0:=Qd w 53 (tv);have D:=ρb w (.cells (tv) 53)
 generalize hW:w.alloc (.cells (tv) 53)=W at b0 D
 rw[hg]at b0;have E:=λX (R:Below W W X)=>P4 uTx iTx (w:=X) tv.toList (by simpa using b0.fr (Q9 R) (ρh b0.lt)) ae
 have H:=λX (R:Below W W X)=>h.below (D.trans (R.mono D.size))
 have S:=λX (R:Below W W X)=>ht.below (D.trans (R.mono D.size))
 have T:=λX (R:Below W W X)=>hgl.below (D.trans (R.mono D.size))
 simp only[show tv.toList.toArray=tv by simp]at E;have⟨U,hU⟩:=η0 W.drew;have r:Below W W U:=by rw[<-hU];exact(Qf _ _).drew
 have aA:(LDs 53 (.pointer g)).run prog U=.ok (.agg tv) U/\U.cell? ⟨a,1,none⟩=some (.int .i64 x.n)/\U.cell? ⟨a,0,none⟩=some (.int .i64 x.me):=⟨E U r,(H U r).c.2.1,(H U r).c.1⟩;have G:=a6O d j f m t x.n x.me aK U (S U r) (T U r) hl1 hl2;rw[af]at G;have⟨L,hL⟩:=η0 (a0M (a2P t x.n) x.me);rw[hL]at G
 have av:L.length<=16:=by
  rw[<-hL]
  have:=a1V (a2P t x.n) x.me
  have:= @a4q t x.n
  omega
 have⟨HG,HW,F,aM,aq,aG,aJ,HU⟩:=η8 hg hW D E H S T hU;have⟨aE,aD,HL,aR,aS,aI⟩:=η6 r aA hL av ao af;clear hg hW D E H S T hU r aA hL av ao af b0 h ht hgl ae;go_in;go_upto_region 1 with fail
 rw[HW.o,HG.o];refine a0s [(1,3),(2,3),(3,3),(5,3),(6,3),(7,3),(0,0),(4,0),(8,0),(9,2),(10,3),(11,3),(12,3),(13,3),(14,3)] (λY=>(LDs 53 (.pointer g)).run prog Y=.ok (.agg tv) Y/\Y.cell? ⟨a,1,none⟩=some (.int .i64 x.n)/\Y.cell? ⟨a,0,none⟩=some (.int .i64 x.me)) ρk ρk ρk ρk (ρy HU.o aD.o) ?_;rw[HU.o];refine ε6 ?_
 iterate 3 refine θ3 (λ_ h=>h) ?_
 refine τ ?_;intro K p;refine μ1 G ?_;rintro e5 w5 ⟨vi,vo,rfl,aa,aO,ar⟩;with_reducible refine p _ _ ?_;clear p K
 refine ε5 ?_;clear G;refine ν ?_;obtain⟨Av,Nv,cv,rfl⟩:=aa.formN;have al:=aa.lenN;have aW:Nv<=16:=by have:=aR.o;omega
 have B:=φt aE ar;have J:=φt F B;have⟨aQ,aC,ax⟩:=η3 al B J;clear al B J ar aa aO;have v:=a1o w5
 by_cases Z:Nv=0
 ·subst Z
  have hi:=a0X true 11 w5;simp only[if_true]at hi;have hm:=a1m 11 ρo w5;clear v;go_wp2_with fail;refine μf hi ?_;go_wp2_with fail;refine μf hm ?_;exact⟨rfl,.inr ⟨11,by omega,rfl⟩,ax.o⟩
 have ai:((Nv:Int) == 0)=false:=by simp;omega
 have aj:decide ((Nv:Int)=0)=false:=by simp;omega
 have hi:=a0X false 11 w5;simp only[QI,if_false]at hi;have an:L≠[]:=λe=>Z (by rw[aQ.o,e];rfl)
 have aN:=η1 an;clear an;go_wp2_with fail;refine μf hi ?_;go_wp2_with fail;refine μf v ?_;clear hi v ai aj Z;have⟨V,hV⟩:=η0 w5.drew;have ay:Below w5 w5 V:=by rw[<-hV];exact(Qf _ _).drew
 have o:=φt aC ay;have O:=φt F o;have au:=λY (hY:Below V V Y)=>(show(LDs 53 (.pointer g)).run prog Y=.ok (.agg tv) Y/\Y.cell? ⟨a,8,none⟩=some (.pointer b.lb)from⟨aM.o Y (o.trans (hY.mono o.size)),(aq.o Y (o.trans (hY.mono o.size))).c.2.2.2.2.2.2.2.2.1⟩)
 have hid:=a2v d j f m t V (aG.o V o) (aJ.o V o) hl1 hl2;rw[aI.o]at hid;have⟨dv,ac⟩:=η0 ((bys (idP t)).toArray);rw[ac]at hid;have⟨HV,ah,aV,ak,aT⟩:=η5 hV o O au ac;clear hV o O au ac ay;go_upto_region 3 with fail
 refine a3Y [(0,3),(1,3),(2,3),(3,0),(4,0),(5,1),(6,2),(7,3),(8,3),(9,2),(10,2)] (λY=>(LDs 53 (.pointer g)).run prog Y=.ok (.agg tv) Y/\Y.cell? ⟨a,8,none⟩=some (.pointer b.lb)) ρk ρk ρk ρk (by rw[HV.o];exact ak.o _ (Qf _ _)) ?_;rw[HV.o];refine ε3 ?_
 iterate 2 refine θ2 (λ_ h=>h) ?_
 refine κ ?_;intro K p;refine μi hid ?_;intro w6 ab;with_reducible refine p _ _ (ak.o _ ab) ?_;clear p K
 have y:=φt ah ab;have z:=aq.o _ y;have ad:=c2J b.lb b.lm x.L x.sL (idP t) aS.o (ρh z.ok.lL) w6 z.lo;rw[aT.o]at ad;have ag:=η1 y;clear y z ab hid;refine τ ?_;intro K p;refine μ1 ad ?_;rintro e7 w7 ⟨A7,c7,ps,rfl,aF,aH,az⟩;with_reducible refine p _ _ ?_;clear p K
 have Q:=F.trans ((φt ag az).mono F.size);have⟨n7,aB⟩:=η0 ps.length;have⟨I,aL⟩:=η2 Q aB;clear Q aB az ad aF aH
 try rw[aL.o]
 have v:=a1o w7
 by_cases aP:n7=0
 ·subst aP
  have hi:=a0X true 13 w7;simp only[if_true]at hi;have hm:=a1m 13 ρo w7;clear v;refine ε2 ?_;refine τ ?_;intro K p;refine μf hi ?_;with_reducible refine p _ _ ?_;clear p K
  refine τ ?_;intro K p;refine μf hm ?_;exact λa' aU=>⟨aU,.inr ⟨13,by omega,rfl⟩,I.o⟩
 have ai:((n7:Int) == 0)=false:=by simp;omega
 have aj:decide ((n7:Int)=0)=false:=by simp;omega
 have hi:=a0X false 13 w7;simp only[QI,if_false]at hi;refine ε2 ?_;refine τ ?_;intro K p;refine μf hi ?_;with_reducible refine p _ _ ?_;clear p K
 refine τ ?_;intro K p;refine μf v ?_;with_reducible refine p _ _ ?_;clear p K
 with_reducible refine a1N ?_
 rw[a0V];go_wp2_with fail;refine bodyPost_end (results_none rfl _ _ _) rfl ?_;exact⟨.inl ⟨rfl,by rw[HL.o];exact aN.o⟩,I.o⟩
end
section
def GoQ(seed:LI)(x:ShD)(cmd:LI)(q:Except Int (ShD×RpD)):Prop:=
 (∃k,q=.error k)\/∃(y:ShD) (e:a1P),(y.me=x.me/\y.n=x.n/\y.ep=x.ep/\y.ser=x.ser/\y.iss=x.iss/\y.h=x.h/\y.M=x.M)/\q=b9r seed y cmd e
theorem a1e.newCL{d:WD}{v:Nat}{b:ShB}{N:List Nat}{x:ShD}(f:a1e a v b N seed x)(o:Below a a w){C:List (Pt×a1q)}{L:List (Pt×a1J)}{sl:Int}(E:a.heap.size<=g)(m:Fr (λk=>k=b.cb\/k=b.lb\/k=b.lm) w d)(y:a0i d b.cb g C s)(z:0<=s/\s<=18446744073709551615)(B:C.length<=256)(D:a0j d b.lb b.lm L sl)(p:0<=sl/\sl<=18446744073709551615)(r:L.length<=64):a1e d v {b with cm:=g} (g::N) seed {x with C:=C,sC:=s,L:=L,sL:=sl}:=by
 have h:=f.below o;have F:=h.inN;have I:g ∉ N:=λe=>by have:=f.lt g e;omega
 have H:∀j,j<a.heap.size->j∈g::N->j∈N:=λj G K=>by
  rcases Qo.1 K with e | e
  ·omega
  exact e
 have J:∀k,(k=b.cb\/k=b.lb\/k=b.lm)->k∈g::N:=λk e=>by
  rcases e with e | e | e<;>rw[e]
  ·exact Qj _ F.2.1
  ·exact Qj _ F.2.2.2.1
  exact Qj _ F.2.2.2.2.1
 refine⟨h.st.fr m (λe=>?_),y,D,((f.ma.far_ H).below o).fr m (λe=>?_) (λe=>?_) J,((f.rg.far_ H).below o).fr m J,?_,?_,{h.ok with sC:=z,lC:=B,sL:=p,lL:=r},?_⟩
 ·rcases e with e | e | e
  ·exact h.sb_cb e
  ·exact h.sb_lb e
  exact h.sb_lm e.symm
 ·rcases e with e | e | e
  ·exact h.cb_kb e.symm
  ·exact h.lb_kb e.symm
  exact h.lm_kb e.symm
 ·rcases e with e | e | e
  ·exact h.km_cb e
  ·exact h.km_lb e
  exact h.ap.2.2 e.symm
 ·intro j G
  simp only[ShB.own,Qo,Qt,or_false]at G
  rcases G with e | e | e | e | e | e | e
  ·rw[e];exact Qj _ F.1
  ·rw[e];exact Qj _ F.2.1
  ·rw[e];exact Qr
  ·rw[e];exact Qj _ F.2.2.2.1
  ·rw[e];exact Qj _ F.2.2.2.2.1
  ·rw[e];exact Qj _ F.2.2.2.2.2.1
  rw[e];exact Qj _ F.2.2.2.2.2.2
 ·intro j G
  rcases Qo.1 G with e | e
  ·rw[e];exact y.mp.lt
  exact Qh (h.lt j e) m.size
 exact⟨λe=>I (by show g∈N;rw[show g=b.lm from e];exact F.2.2.2.2.1),λe=>I (by show g∈N;rw[show g=b.km from e];exact F.2.2.2.2.2.2),h.ap.2.2⟩
attribute [local go_sem ↓] a2q a1G a1M a7d a3j a1F
theorem c3g(B d:Nat)(b:ShB)(N:List Nat)(seed:LI)(x:ShD)(A:OA)(n c:Nat)(a:LI)(E:n=a.length)(y:A=none->c=0)(z:a.length<=100000000)(m:OA)(f:Nat)(o:OA)(p:Nat)(t:TxD)(D:OA)(F:Nat)(cl:List a0y)(w:WD) (h:a1e w d b N seed x) (hB:∀j∈d::b.own,B<=j) (hby:b9j B w A a) (hgl:a8S B w) (ht:TxS B w m o t) (hl1:t.ins.length<=1000000) (hl2:t.outs.length<=1000000) (hcs:∀w',Below B w w'->a4g w' D cl) (hcpl:∀c∈cl,c.path.length<=1000000) (hcll:cl.length<=1000000):Calls prog 90 #[.pointer d,.slice A n c,.agg (txV m f o p t),.slice D cl.length F] w λe w'=>∃q,GoQ seed x a q/\a6x B d N seed q e w'/\b1q B d seed w w':=by
 have⟨g,hg⟩:=ηs w;have b8:=ht.at_.bd;have bX:(txV m f o p t)[1]? =some (.slice o t.outs.length p):=rfl;have bB:(txV m f o p t)[0]? =some (.slice m t.ins.length f):=rfl;have bw:(txV m f o p t)[2]? =some (.int .u64 t.fee):=rfl;have bC:(txV m f o p t)[3]? =some (.int .i64 t.exp):=rfl;have bW:(txV m f o p t).toList.length=4:=rfl
 generalize cy:txV m f o p t=tv at bB bX bw bC bW⊢
 have b0:=Qd w 53 (tv);have B0:=ρb w (.cells (tv) 53)
 generalize hW:w.alloc (.cells (tv) 53)=W at b0 B0
 rw[hg]at b0;have bQ:W.heap.size=g+1:=by rw[<-hW,Qi,hg]
 have bj:=a5k W;have⟨zs,bA⟩:=η0 ((a0O 0 false a0r none 0).toArray);have bs:zs.size=139:=by rw[<-bA,Qc];exact a0A a0B _ _ _ _
 rw[bA,bQ]at bj;have bD:=b0.alloc (.cells zs 41);have bz:=Qd W 41 zs;have B1:Below w w (W.alloc (.cells zs 41)):=B0.alloc B0.size _
 generalize hV:W.alloc (.cells zs 41)=V at bD bz B1 bj
 rw[bQ]at bz;have cp:(ALs 41).run prog (w.alloc (.cells tv 53))=.ok (.pointer (g+1:Nat)) V:=by rw[hW];exact bj
 have hX:=a4m.begin h hB B1 (r:=g+1) ⟨by omega,bz.lt⟩ (K:=[(g,53,tv),(g+1,41,zs)]) (λq hq=>by
  simp only[Qo,Qt,or_false]at hq
  rcases hq with rfl | rfl
  ·exact⟨by simp only;omega,bD⟩
  exact⟨by simp only;omega,bz⟩)
 have bt:∀X y' b' N',a4m B (g+1) w d b' N' seed y' [(g,53,tv),(g+1,41,zs)] X->(LDs 53 (.pointer g)).run prog X=.ok (.agg tv) X:=λX y' b' N' hx=>by
  have:=P4 uTx iTx (w:=X) tv.toList (by simpa using(hx.kp _ Qr).1) bW
  simpa using this
 have bp:∀X y' b' N',a4m B (g+1) w d b' N' seed y' [(g,53,tv),(g+1,41,zs)] X->X.cell? ⟨g,0,none⟩=some (.slice m t.ins.length f)/\X.cell? ⟨g,1,none⟩=some (.slice o t.outs.length p)/\X.cell? ⟨g,2,none⟩=some (.int .u64 t.fee)/\X.cell? ⟨g,3,none⟩=some (.int .i64 t.exp):=λX y' b' N' hx=>
  have hk:=(hx.kp _ Qr).1
  ⟨(hk.cell 0).trans bB,(hk.cell 1).trans bX,(hk.cell 2).trans bw,(hk.cell 3).trans bC⟩
 obtain⟨ZR,br,bo,cP⟩:=P8 (t:=41) a4h b4t;have cj:-9223372036854775808<=x.n/\x.n<=9223372036854775807:=by have:=h.ok.n;have:=h.ok.me;omega
 have ci:Dig (idP t):=⟨a3b t,a5f t⟩;have⟨aW,ca,b6,ak,au,cu,ck,cC⟩:=η8 hX bs hby hgl ht E y z;have⟨HG,T,bu,cY,c2,cQ,b9,aX⟩:=η8 hg bt bp br bo cj b8 ci;have⟨aV,cZ⟩:=η2 cy h;clear hX bs hby hgl ht E y z hg bt bp br bo cj b8 ci cy h bA b0 B0 bD bz B1 bQ bj bB bX bw bC bW hB hW hV cP;go_in;have cN:=η1 hcs;clear hcs;have cD:=T.o _ _ _ _ aW;have bS:=b6Z d b ((g+1)::N) seed x m f o p t V aW.sh (ak.go aW.fr).at_ (au.go aW.fr).at_ hl1 hl2;rw[aV.o]at bS;go_upto_region 1 with fail
 rw[HG.o];go_wp2_with fail;refine μ1 bS ?_;rintro e1 w1 ⟨ag,bx⟩;clear cp cD
 rcases ag with⟨rfl,b5⟩ | ⟨k,hk,rfl⟩
 rotate_left
 ·exact⟨rfl,.error k,.inl ⟨k,rfl⟩,(aW.below bx).ref hk⟩
 have cf:=aW.below bx;have⟨cL,cM⟩:=η2 cf b5;clear cf b5 bx bS;have⟨U1,bH⟩:=η0 w1.drew;have aT:=cL.drew;rw[bH]at aT;have cA:U1.cell? ⟨d,2,none⟩=some (.pointer b.rp)/\(LDs 53 (.pointer g)).run prog U1=.ok (.agg tv) U1/\U1.cell? ⟨d,1,none⟩=some (.int .i64 x.n):=⟨aT.sh.c.2.2.1,T.o _ _ _ _ aT,aT.sh.c.2.1⟩;have⟨ax,b7,cG⟩:=η3 aT bH cA;clear aT bH cA;go_upto_region 2 with fail
 refine a3Y [(0,3),(1,3),(2,3),(5,3),(6,3),(7,3),(9,3),(3,0),(4,0),(8,0),(10,2),(11,2)] (λY=>Y.cell? ⟨d,2,none⟩=some (.pointer b.rp)/\(LDs 53 (.pointer g)).run prog Y=.ok (.agg tv) Y/\Y.cell? ⟨d,1,none⟩=some (.int .i64 x.n)) ρk ρk ρk ρk (ρy b7.o cG.o) ?_;rw[b7.o];have bv:((x.n.toNat:Nat):Int)=x.n:=by have:=ax.sh.ok.me;omega
 have bl:=b1W b.rp x.n.toNat seed m f o p t D F cl U1 ax.sh.rg.at_ (ρh ax.o.sh.ok.me) (ρh ax.o.sh.ok.n) (au.go ax.fr).at_ (ak.go ax.fr).at_ hl1 hl2 (cN.o _ ax.fr) hcpl hcll;rw[bv,aV.o]at bl;have⟨ac,cw⟩:=η0 (b6j seed t x.n cl);rw[cw]at bl;clear cw bv;refine ε7 ?_
 iterate 3 refine θ3 (λ_ h=>h) ?_
 refine τ ?_;intro K hK;refine μi bl ?_;intro bU bq;with_reducible refine hK _ _ ?_;clear hK K;clear bl
 have cB:=ax.below bq;have a0:=η1 cB;clear cB bq
 by_cases a6:ac=0
 rotate_left
 ·have hm:=a1m ac a6 bU
  refine τ ?_;intro K hK;refine μf hm ?_;exact λa' cW=>⟨cW,.error ac,.inl ⟨ac,rfl⟩,a0.ref a6⟩
 subst a6;have hm:=a1o bU;refine τ ?_;intro K hK;refine μf hm ?_;with_reducible refine hK _ _ ?_;clear hK K
 with_reducible refine a1N ?_
 rw[a0V];clear hm;have aS:=(au.go a0.fr).at_
 have aR:0<t.ins.length:=by
  rcases Zq t.ins.length with h0 | h0
  ·exfalso
   apply cM.o
   have h2:=b0q t x.n
   apply ZG
   have h3:=a1V (a2P t x.n) x.me;omega
  exact h0
 obtain⟨g2,o2,B2,d2,bO,cT,cV⟩:=aS.ins 0 aR;have bn:=aS.bd.ins _ (Qu aR);have bk:=bn.ptY
 have bc:=λX (hX:Below B w X)=>(show(LDs 189 (.pointer (some ⟨g2,o2,none⟩))).run prog X=.ok (.agg (ptL (ptI t.ins[0]).1 (ptI t.ins[0]).2).toArray) X from by
  obtain⟨g3,o3,B3,d3,bP,-,cr⟩:=(au.o X hX).ins 0 aR;rw[bO]at bP;simp only[Option.some.injEq,Addr.mk.injEq,and_true]at bP;obtain⟨rfl,rfl⟩:=bP
  have:=Pf a3a a1H X g2 (o2+0*35) (ptL (ptI t.ins[0]).1 (ptI t.ins[0]).2) bk.vlen (λk v hv=>cr.cell k v (b5E hv))
  simpa using this)
 have⟨pi,bN⟩:=η0 (ptI t.ins[0]);rw[bN]at bk;simp only[bN]at bc;have⟨ni,ct⟩:=η0 t.ins.length;have c3:(0:Int)<(ni:Int):=ρo;have c1:0<ni:=ρo;have⟨cH,cx,cU,bK,cX⟩:=η5 bO bc ct bk aS;clear bO bc ct bk aS cV bn cT aR bN;have⟨U2,bR⟩:=η0 bU.drew;have aU:=a0.drew;rw[bR]at aU;have cq:U2.cell? ⟨g,0,none⟩=some (.slice (some ⟨g2,o2,none⟩) ni f)/\(LDs 189 (.pointer (some ⟨g2,o2,none⟩))).run prog U2=.ok (.agg (ptL pi.1 pi.2).toArray) U2/\U2.cell? ⟨d,1,none⟩=some (.int .i64 x.n):=⟨by have y:=(bu.o _ _ _ _ aU).1;rw[cH.o,cU.o]at y;exact y,cx.o _ aU.fr,aU.sh.c.2.1⟩;have⟨cz,cg,cJ⟩:=η3 aU bR cq;clear aU bR cq;go_upto_region 3 with fail
 refine a0s [(0,3),(5,3),(6,3),(7,3),(1,0),(2,3),(3,3),(4,0),(8,0),(9,2),(10,3),(11,3),(12,3),(13,3),(14,3)] (λY=>Y.cell? ⟨g,0,none⟩=some (.slice (some ⟨g2,o2,none⟩) ni f)/\(LDs 189 (.pointer (some ⟨g2,o2,none⟩))).run prog Y=.ok (.agg (ptL pi.1 pi.2).toArray) Y/\Y.cell? ⟨d,1,none⟩=some (.int .i64 x.n)) ρk ρk ρk ρk (ρy cg.o cJ.o) ?_;rw[cg.o];have bT:=b2T pi.1 bK.len bK.tx pi.2 x.n bK.ix cQ U2 (ak.go cz.fr).at_;have⟨ow,cd⟩:=η0 (ofO pi.1 pi.2 x.n);have⟨ob,ce⟩:=η0 (okO pi.2 x.n);rw[cd,ce]at bT;clear cd ce;refine ε4 ?_
 refine θ3 (λ_ h=>h) ?_
 refine ε2 ?_
 iterate 2 refine θ3 (λ_ h=>h) ?_
 refine τ ?_;intro K hK;refine μi bT ?_;intro w9 cE;with_reducible refine hK _ _ ?_;clear hK K
 refine ε5 ?_;clear bT;refine ν ?_;have ch:=cz.below cE;have aG:=η1 ch;clear ch cE;have c0:=aG.sh.c.1
 by_cases bi:ow=x.me
 ·have hb:(ow == x.me)=true:=ρw bi
  have cO:=(bu.o _ _ _ _ aG).2.2.1
  by_cases bf:(a5b x.fees t.fee).2=0
  rotate_left
  ·have bm:=c6u d b ((g+1)::N) seed x t.fee b9.fee w9 aG.sh bf
   have cK:=η1 bf;clear bf;go_wp2_with fail;refine μi bm ?_;intro w8 cR;exact⟨rfl,.error _,.inl ⟨_,rfl⟩,(aG.below cR).ref cK⟩
  have bm:=c6J d b ((g+1)::N) seed x t.fee b9.fee w9 aG.sh bf;clear bf;go_wp2_with fail;refine μ1 bm ?_;rintro e8 w8 ⟨rfl,cn,cc⟩;clear bm;have bY:=aG.step' cn (cc.mono (λk _ e=>a8B d b k e));have⟨yf,bV⟩:=η0 ({x with fees:=x.fees+t.fee});rw[bV]at bY;have a7:yf.me=x.me/\yf.n=x.n/\yf.ep=x.ep/\yf.ser=x.ser/\yf.iss=x.iss/\yf.h=x.h/\yf.M=x.M:=by rw[<-bV];exact⟨rfl,rfl,rfl,rfl,rfl,rfl,rfl⟩
  have⟨cF,ai⟩:=η2 bY a7;clear bY a7 cn cc bV cO hb c0 bi;have⟨U3,aA⟩:=η0 w8.drew;have ah:=cF.drew;rw[aA]at ah;have a3:(LDs 53 (.pointer g)).run prog U3=.ok (.agg tv) U3/\U3.cell? ⟨d,8,none⟩=some (.pointer b.lb):=⟨T.o _ _ _ _ ah,ah.sh.c.2.2.2.2.2.2.2.2.1⟩;have⟨aE,ba,bI⟩:=η3 ah aA a3;clear ah aA a3;go_upto_region 6 with fail
  refine a0s [(2,3),(3,3),(4,3),(0,0),(5,0),(1,1),(6,2),(7,3)] (λY=>(LDs 53 (.pointer g)).run prog Y=.ok (.agg tv) Y/\Y.cell? ⟨d,8,none⟩=some (.pointer b.lb)) ρk ρk ρk ρk (ρy ba.o bI.o) ?_;rw[ba.o];have hid:=a2v m f o p t U3 (au.go aE.fr).at_ (ak.go aE.fr).at_ hl1 hl2;rw[aV.o]at hid;have⟨cS,U⟩:=η0 ((bys (idP t)).toArray);rw[U]at hid;have b3:=η1 U;clear U;refine ε3 ?_
  iterate 2 refine θ2 (λ_ h=>h) ?_
  refine κ ?_;intro K hK;refine μi hid ?_;intro w6 S;have a2:=aE.below S;have J:=η1 a2;clear a2 S hid;with_reducible refine hK _ _ (⟨T.o _ _ _ _ J.o,J.o.sh.c.2.2.2.2.2.2.2.2.1⟩) ?_;clear hK K
  have aK:=b2H b.lb b.lm yf.L yf.sL (idP t) aX.o (ρh J.o.sh.ok.lL) w6 J.sh.lo;rw[b3.o]at aK;refine τ ?_;intro K hK;refine μ1 aK ?_;rintro e7 w7 ⟨qs,a9,rfl,aF,az⟩;with_reducible refine hK _ _ ?_;clear hK K;clear aK
  have af:=b3w qs (yf.L,yf.sL,0) J.sh.ok.sL ρp
  generalize bM:a4j qs (yf.L,yf.sL,0)=fz at aF af⊢
  have aB:=J.step' (J.sh.setL az aF af.1 (Qk af.2.2 J.sh.ok.lL)) (az.mono (λk _ e=>c8Z d b k e));have⟨vf,a1⟩:=η0 fz.2.2;have aL:=af.2.1;rw[a1]at aL⊢;have⟨R,aP⟩:=η0 ({yf with L:=fz.1,sL:=fz.2.1});rw[aP]at aB;have ab:R.me=x.me/\R.n=x.n/\R.ep=x.ep/\R.ser=x.ser/\R.iss=x.iss/\R.h=x.h/\R.M=x.M:=by rw[<-aP];exact ai.o
  have⟨ao,b2,aJ⟩:=η3 aB aL ab;clear aB aL ab aF az a9 bM af a1 aP;refine ε1 ?_;refine ν ?_;go_upto_region 7 with fail
  have aO:=T.o _ _ _ _ ao;have I:=a2v m f o p t w7 (au.go ao.fr).at_ (ak.go ao.fr).at_ hl1 hl2;rw[aV.o]at I;have ar:=λ(X:WD)=>a7g 3 aX.1 vf 5 X
  have aC:(⟨3,0,idP t,vf,5,0⟩:a1P).Bd:=b1v ρo aX.o b2.o ρo;have⟨e0,ay⟩:=η0 ((⟨3,0,idP t,vf,5,0⟩:a1P):a1P);rw[ay]at aC;simp only[ay]at ar;have⟨ev,aN⟩:=η0 ((a0x e0).toArray);simp only[aN]at ar;have⟨dv,aH⟩:=η0 ((bys (idP t)).toArray);rw[aH]at I;simp only[aH]at ar;have⟨bZ,bJ⟩:=η2 aN aC;clear aN aC ay aH;go_wp2_with fail;refine μi I ?_;intro w4 a8;have bb:=ao.below a8;have Q:=η1 bb;clear bb a8 I aO;have ae:=a5C d b ((g+1)::N) seed R A n c a cu ck cC e0 bJ w4 Q.sh (b6.go Q.fr).at_ (ak.go Q.fr).at_;rw[bZ.o]at ae;go_wp2_with fail;refine μ1 ae ?_;rintro e5 w5 ⟨ag,aY⟩;clear ae ar;have ad:=aY.mono (λk _ e=>a8B d b k e)
  rcases ag with⟨a4,A5,O,rfl,Z,aM⟩ | ⟨cI,hk,rfl⟩
  rotate_left
  ·exact⟨rfl,.error 17,.inl ⟨17,rfl⟩,Q.refF ad hk⟩
  have aq:GoQ seed x a (.ok ({R with h:=a4T R a e0},a2O (a9F seed R a e0))):=.inr ⟨R,e0,aJ.o,by unfold b9r;rw[if_pos a4]⟩;have⟨yh,a5⟩:=η0 ({R with h:=a4T R a e0});have⟨aa,av⟩:=η0 (a9F seed R a e0);rw[a5]at aq aM;rw[av]at Z aq⊢;have aD:=Q.step' aM ad;have H:=a5d aa Z.1 A5 O w5;have aj:(g+1,41,zs)∈[(g,53,tv),(g+1,41,zs)]:=by simp
  have aZ:g+1<w4.heap.size:=(Q.kp _ aj).1.lt;have bh:=Q.sz;have an:=a0A Z.1 0 true A5 O;have al:=λX hX=>(aD.below (X':=X) hX).sto aj ca.o (a0O 0 true aa A5 O) an (a0W _ _ _ _ _)
  have G:=λX hX=>(aD.below (X':=X) hX).fin aj (N0:=N) (λj hj=>Qj _ hj) (y0:=yh) rfl (rp:=a2O aa) bh aZ (Z.below hX) rfl
  have⟨rs,aQ⟩:=η0 (a0O 0 true aa A5 O);simp only[a2O,aQ]at al G H;rw[aQ]at an
  generalize bL:a0d aa A5 O=cv at H⊢
  have⟨b4,be,bG,bF⟩:=η4 al G an aq;clear al G an aq aD Z aM aY ad a4 aZ bh aQ bL aj a5 av;go_wp2_with fail;refine μi H ?_;intro w6 S;have al:=b4.o w6 S;have G:=be.o w6 S;have aI:=η1 G;clear G S;clear H;go_wp2_with fail;obtain⟨dR,bE,bg⟩:=Q8.1 a7w;refine bodyPost_ret (v:=.agg rs.toArray) (a0c rfl _ _ (g+1) _ rs dR rfl aI.2.2 bE bg (ρy bG.o a4h)) rfl ?_;exact⟨_,bF.o,aI.1,aI.2.1⟩
 have hb:(ow == x.me)=false:=ρw bi;have c4:decide (ow=x.me)=false:=ρw bi;have a7:x.me=x.me/\x.n=x.n/\x.ep=x.ep/\x.ser=x.ser/\x.iss=x.iss/\x.h=x.h/\x.M=x.M:=⟨rfl,rfl,rfl,rfl,rfl,rfl,rfl⟩;have ai:=η1 a7;clear a7;have⟨U3,aA⟩:=η0 w9.drew;have ah:=aG.drew;rw[aA]at ah;have a3:(LDs 53 (.pointer g)).run prog U3=.ok (.agg tv) U3/\U3.cell? ⟨d,8,none⟩=some (.pointer b.lb):=⟨T.o _ _ _ _ ah,ah.sh.c.2.2.2.2.2.2.2.2.1⟩;have⟨aE,ba,bI⟩:=η3 ah aA a3;clear ah aA a3;go_upto_region 6 with fail
 refine a0s [(2,3),(3,3),(4,3),(0,0),(5,0),(1,1),(6,2),(7,3)] (λY=>(LDs 53 (.pointer g)).run prog Y=.ok (.agg tv) Y/\Y.cell? ⟨d,8,none⟩=some (.pointer b.lb)) ρk ρk ρk ρk (ρy ba.o bI.o) ?_;rw[ba.o];have hid:=a2v m f o p t U3 (au.go aE.fr).at_ (ak.go aE.fr).at_ hl1 hl2;rw[aV.o]at hid;have⟨cS,U⟩:=η0 ((bys (idP t)).toArray);rw[U]at hid;have b3:=η1 U;clear U;refine ε3 ?_
 iterate 2 refine θ2 (λ_ h=>h) ?_
 refine κ ?_;intro K hK;refine μi hid ?_;intro w6 S;have a2:=aE.below S;have J:=η1 a2;clear a2 S hid;with_reducible refine hK _ _ (⟨T.o _ _ _ _ J.o,J.o.sh.c.2.2.2.2.2.2.2.2.1⟩) ?_;clear hK K
 have aK:=b2H b.lb b.lm x.L x.sL (idP t) aX.o (ρh J.o.sh.ok.lL) w6 J.sh.lo;rw[b3.o]at aK;refine τ ?_;intro K hK;refine μ1 aK ?_;rintro e7 w7 ⟨qs,a9,rfl,aF,az⟩;with_reducible refine hK _ _ ?_;clear hK K;clear aK
 have af:=b3w qs (x.L,x.sL,0) J.sh.ok.sL ρp
 generalize bM:a4j qs (x.L,x.sL,0)=fz at aF af⊢
 have aB:=J.step' (J.sh.setL az aF af.1 (Qk af.2.2 J.sh.ok.lL)) (az.mono (λk _ e=>c8Z d b k e));have⟨vf,a1⟩:=η0 fz.2.2;have aL:=af.2.1;rw[a1]at aL⊢;have⟨R,aP⟩:=η0 ({x with L:=fz.1,sL:=fz.2.1});rw[aP]at aB;have ab:R.me=x.me/\R.n=x.n/\R.ep=x.ep/\R.ser=x.ser/\R.iss=x.iss/\R.h=x.h/\R.M=x.M:=by rw[<-aP];exact ai.o
 have⟨ao,b2,aJ⟩:=η3 aB aL ab;clear aB aL ab aF az a9 bM af a1 aP;refine ε1 ?_;refine ν ?_;go_upto_region 7 with fail
 have aO:=T.o _ _ _ _ ao;have I:=a2v m f o p t w7 (au.go ao.fr).at_ (ak.go ao.fr).at_ hl1 hl2;rw[aV.o]at I;have ar:=λ(X:WD)=>a7g 3 aX.1 vf 5 X
 have aC:(⟨3,0,idP t,vf,5,0⟩:a1P).Bd:=b1v ρo aX.o b2.o ρo;have⟨e0,ay⟩:=η0 ((⟨3,0,idP t,vf,5,0⟩:a1P):a1P);rw[ay]at aC;simp only[ay]at ar;have⟨ev,aN⟩:=η0 ((a0x e0).toArray);simp only[aN]at ar;have⟨dv,aH⟩:=η0 ((bys (idP t)).toArray);rw[aH]at I;simp only[aH]at ar;have⟨bZ,bJ⟩:=η2 aN aC;clear aN aC ay aH;go_wp2_with fail;refine μi I ?_;intro w4 a8;have bb:=ao.below a8;have Q:=η1 bb;clear bb a8 I aO;have ae:=a5C d b ((g+1)::N) seed R A n c a cu ck cC e0 bJ w4 Q.sh (b6.go Q.fr).at_ (ak.go Q.fr).at_;rw[bZ.o]at ae;go_wp2_with fail;refine μ1 ae ?_;rintro e5 w5 ⟨ag,aY⟩;clear ae ar;have ad:=aY.mono (λk _ e=>a8B d b k e)
 rcases ag with⟨a4,A5,O,rfl,Z,aM⟩ | ⟨cI,hk,rfl⟩
 rotate_left
 ·exact⟨rfl,.error 17,.inl ⟨17,rfl⟩,Q.refF ad hk⟩
 have aq:GoQ seed x a (.ok ({R with h:=a4T R a e0},a2O (a9F seed R a e0))):=.inr ⟨R,e0,aJ.o,by unfold b9r;rw[if_pos a4]⟩;have⟨yh,a5⟩:=η0 ({R with h:=a4T R a e0});have⟨aa,av⟩:=η0 (a9F seed R a e0);rw[a5]at aq aM;rw[av]at Z aq⊢;have aD:=Q.step' aM ad;have H:=a5d aa Z.1 A5 O w5;have aj:(g+1,41,zs)∈[(g,53,tv),(g+1,41,zs)]:=by simp
 have aZ:g+1<w4.heap.size:=(Q.kp _ aj).1.lt;have bh:=Q.sz;have an:=a0A Z.1 0 true A5 O;have al:=λX hX=>(aD.below (X':=X) hX).sto aj ca.o (a0O 0 true aa A5 O) an (a0W _ _ _ _ _)
 have G:=λX hX=>(aD.below (X':=X) hX).fin aj (N0:=N) (λj hj=>Qj _ hj) (y0:=yh) rfl (rp:=a2O aa) bh aZ (Z.below hX) rfl
 have⟨rs,aQ⟩:=η0 (a0O 0 true aa A5 O);simp only[a2O,aQ]at al G H;rw[aQ]at an
 generalize bL:a0d aa A5 O=cv at H⊢
 have⟨b4,be,bG,bF⟩:=η4 al G an aq;clear al G an aq aD Z aM aY ad a4 aZ bh aQ bL aj a5 av;go_wp2_with fail;refine μi H ?_;intro w6 S;have al:=b4.o w6 S;have G:=be.o w6 S;have aI:=η1 G;clear G S;clear H;go_wp2_with fail;obtain⟨dR,bE,bg⟩:=Q8.1 a7w;refine bodyPost_ret (v:=.agg rs.toArray) (a0c rfl _ _ (g+1) _ rs dR rfl aI.2.2 bE bg (ρy bG.o a4h)) rfl ?_;exact⟨_,bF.o,aI.1,aI.2.1⟩
end
section
attribute [local go_sem ↓] a2q a1G a1M a7d a3j a1F
theorem b9L(B d:Nat)(b:ShB)(N:List Nat)(seed:LI)(x:ShD)(A:OA)(n c:Nat)(a:LI)(E:n=a.length)(F:A=none->c=0)(z:a.length<=100000000)(f:OA)(p:Nat)(o:OA)(y:Nat)(t:TxD)(D:OA)(H:Nat)(cl:List a0y)(w:WD) (h:a1e w d b N seed x) (hB:∀j∈d::b.own,B<=j) (hby:b9j B w A a) (hgl:a8S B w) (ht:TxS B w f o t) (hl1:t.ins.length<=1000000) (hl2:t.outs.length<=1000000) (hcs:∀w',Below B w w'->a4g w' D cl) (hcpl:∀c∈cl,c.path.length<=1000000):Calls prog 91 #[.pointer d,.slice A n c,.agg (txV f p o y t),.slice D cl.length H] w λe w'=>∃q,GoQ seed x a q/\a6x B d N seed q e w'/\b1q B d seed w w':=by
 have⟨g,hg⟩:=ηs w;have bp:=ht.at_.bd;have be:(txV f p o y t)[1]? =some (.slice o t.outs.length y):=rfl;have aS:(txV f p o y t)[0]? =some (.slice f t.ins.length p):=rfl;have aO:(txV f p o y t)[2]? =some (.int .u64 t.fee):=rfl;have aU:(txV f p o y t)[3]? =some (.int .i64 t.exp):=rfl;have a6:(txV f p o y t).toList.length=4:=rfl
 generalize bF:txV f p o y t=tv at aS be aO aU a6⊢
 have b0:=Qd w 53 (tv);have B0:=ρb w (.cells (tv) 53)
 generalize hW:w.alloc (.cells (tv) 53)=W at b0 B0
 rw[hg]at b0;have aZ:W.heap.size=g+1:=by rw[<-hW,Qi,hg]
 have av:=a5k W;have⟨zs,aR⟩:=η0 ((a0O 0 false a0r none 0).toArray);have aK:zs.size=139:=by rw[<-aR,Qc];exact a0A a0B _ _ _ _
 rw[aR,aZ]at av;have aV:=b0.alloc (.cells zs 41);have bz:=Qd W 41 zs;have B1:Below w w (W.alloc (.cells zs 41)):=B0.alloc B0.size _
 generalize hV:W.alloc (.cells zs 41)=V at aV bz B1 av
 rw[aZ]at bz;have bA:(ALs 41).run prog (w.alloc (.cells tv 53))=.ok (.pointer (g+1:Nat)) V:=by rw[hW];exact av
 have hX:=a4m.begin h hB B1 (r:=g+1) ⟨by omega,bz.lt⟩ (K:=[(g,53,tv),(g+1,41,zs)]) (λq hq=>by
  simp only[Qo,Qt,or_false]at hq
  rcases hq with rfl | rfl
  ·exact⟨by simp only;omega,aV⟩
  exact⟨by simp only;omega,bz⟩)
 have aL:∀X y' b' N',a4m B (g+1) w d b' N' seed y' [(g,53,tv),(g+1,41,zs)] X->(LDs 53 (.pointer g)).run prog X=.ok (.agg tv) X:=λX y' b' N' hx=>by
  have:=P4 uTx iTx (w:=X) tv.toList (by simpa using(hx.kp _ Qr).1) a6
  simpa using this
 have aH:∀X y' b' N',a4m B (g+1) w d b' N' seed y' [(g,53,tv),(g+1,41,zs)] X->X.cell? ⟨g,0,none⟩=some (.slice f t.ins.length p)/\X.cell? ⟨g,1,none⟩=some (.slice o t.outs.length y)/\X.cell? ⟨g,2,none⟩=some (.int .u64 t.fee)/\X.cell? ⟨g,3,none⟩=some (.int .i64 t.exp):=λX y' b' N' hx=>
  have hk:=(hx.kp _ Qr).1
  ⟨(hk.cell 0).trans aS,(hk.cell 1).trans be,(hk.cell 2).trans aO,(hk.cell 3).trans aU⟩
 obtain⟨ZR,aJ,aF,bY⟩:=P8 (t:=41) a4h b4t;have bw:-9223372036854775808<=x.n/\x.n<=9223372036854775807:=by have:=h.ok.n;have:=h.ok.me;omega
 have bu:Dig (idP t):=⟨a3b t,a5f t⟩;have⟨ah,bP,bM,al,ax,bZ,bV,b3⟩:=η8 hX aK hby hgl ht E F z;have⟨HG,Z,b9,ca,cd,ci,ce,bc⟩:=η8 hg aL aH aJ aF bw bp bu;have⟨az,cc⟩:=η2 bF h;clear hX aK hby hgl ht E F z hg aL aH aJ aF bw bp bu bF h aR b0 B0 aV bz B1 aZ av aS be aO aU a6 hB hW hV bY;go_in;have bX:=η1 hcs;clear hcs;have bL:=Z.o _ _ _ _ ah;have a4:=b6Z d b ((g+1)::N) seed x f p o y t V ah.sh (al.go ah.fr).at_ (ax.go ah.fr).at_ hl1 hl2;rw[az.o]at a4;go_upto_region 1 with fail
 rw[HG.o];go_wp2_with fail;refine μ1 a4 ?_;rintro e1 w1 ⟨ab,aP⟩;clear bA bL
 rcases ab with⟨rfl,ad⟩ | ⟨k,hk,rfl⟩
 rotate_left
 ·exact⟨rfl,.error k,.inl ⟨k,rfl⟩,(ah.below aP).ref hk⟩
 have bs:=ah.below aP;have⟨bW,ch⟩:=η2 bs ad;clear bs ad aP a4;have⟨U1,aW⟩:=η0 w1.drew;have ae:=bW.drew;rw[aW]at ae;have bG:U1.cell? ⟨d,2,none⟩=some (.pointer b.rp)/\(LDs 53 (.pointer g)).run prog U1=.ok (.agg tv) U1/\U1.cell? ⟨d,1,none⟩=some (.int .i64 x.n):=⟨ae.sh.c.2.2.1,Z.o _ _ _ _ ae,ae.sh.c.2.1⟩;have⟨T,bk,bN⟩:=η3 ae aW bG;clear ae aW bG;go_upto_region 2 with fail
 refine a3Y [(0,3),(1,3),(2,3),(5,3),(6,3),(7,3),(9,3),(3,0),(4,0),(8,0),(10,2),(11,2)] (λY=>Y.cell? ⟨d,2,none⟩=some (.pointer b.rp)/\(LDs 53 (.pointer g)).run prog Y=.ok (.agg tv) Y/\Y.cell? ⟨d,1,none⟩=some (.int .i64 x.n)) ρk ρk ρk ρk (ρy bk.o bN.o) ?_;rw[bk.o];have aN:((x.n.toNat:Nat):Int)=x.n:=by have:=T.sh.ok.me;omega
 have aB:=b8u b.rp x.n.toNat seed f p o y t D H cl U1 T.sh.rg.at_ (ρh T.o.sh.ok.me) (ρh T.o.sh.ok.n) (ax.go T.fr).at_ (al.go T.fr).at_ hl1 hl2 (bX.o _ T.fr) hcpl;rw[aN,az.o]at aB;have⟨ac,bD⟩:=η0 (d1D seed t x.n cl);rw[bD]at aB;clear bD aN;refine ε7 ?_
 iterate 3 refine θ3 (λ_ h=>h) ?_
 refine τ ?_;intro K hK;refine μi aB ?_;intro a5 aI;with_reducible refine hK _ _ ?_;clear hK K;clear aB
 have bH:=T.below aI;have aG:=η1 bH;clear bH aI
 by_cases ao:ac=0
 rotate_left
 ·have hm:=a1m ac ao a5
  refine τ ?_;intro K hK;refine μf hm ?_;exact λa' b7=>⟨b7,.error ac,.inl ⟨ac,rfl⟩,aG.ref ao⟩
 subst ao;have hm:=a1o a5;refine τ ?_;intro K hK;refine μf hm ?_;with_reducible refine hK _ _ ?_;clear hK K
 with_reducible refine a1N ?_
 rw[a0V];clear hm;have⟨U2,a0⟩:=η0 a5.drew;have af:=aG.drew;rw[a0]at af;have bB:(LDs 53 (.pointer g)).run prog U2=.ok (.agg tv) U2/\U2.cell? ⟨d,7,none⟩=some (.pointer b.cb)/\U2.cell? ⟨d,8,none⟩=some (.pointer b.lb):=⟨Z.o _ _ _ _ af,af.sh.c.2.2.2.2.2.2.2.1,af.sh.c.2.2.2.2.2.2.2.2.1⟩;have⟨ba,bt,bS⟩:=η3 af a0 bB;clear af a0 bB;go_upto_region 3 with fail
 refine a0s [(2,3),(3,3),(4,3),(6,3),(7,3),(8,3),(0,0),(5,0),(9,0),(1,1),(10,2),(11,3),(12,3),(13,3),(14,3),(15,3)] (λY=>(LDs 53 (.pointer g)).run prog Y=.ok (.agg tv) Y/\Y.cell? ⟨d,7,none⟩=some (.pointer b.cb)/\Y.cell? ⟨d,8,none⟩=some (.pointer b.lb)) ρk ρk ρk ρk (ρy bt.o bS.o) ?_;rw[bt.o];have hid:=a2v f p o y t U2 (ax.go ba.fr).at_ (al.go ba.fr).at_ hl1 hl2;rw[az.o]at hid;have⟨cg,ai⟩:=η0 ((bys (idP t)).toArray);rw[ai]at hid;have b6:=η1 ai;clear ai;refine ε6 ?_
 iterate 3 refine θ3 (λ_ h=>h) ?_
 refine κ ?_;intro K hK;refine μi hid ?_;intro w6 ag;have bj:=ba.below ag;have S:=η1 bj;clear bj ag hid;with_reducible refine hK _ _ (⟨Z.o _ _ _ _ S.o,S.o.sh.c.2.2.2.2.2.2.2.1,S.o.sh.c.2.2.2.2.2.2.2.2.1⟩) ?_;clear hK K
 have O:=S.sh;have bg:=c4h b.cb b.cm x.C x.sC b.lb b.lm x.L x.sL (idP t) bc.o O.ok.lC (ρh O.ok.lL) O.ok.sC O.ok.sL w6 O.co O.lo ⟨O.cb_lb,λe=>O.lm_cb e.symm⟩;rw[b6.o]at bg;clear O;refine τ ?_;intro K hK;refine μ1 bg ?_;rintro e7 w7 ⟨vf,er,rfl,bE,I⟩;with_reducible refine hK _ _ ?_;clear hK K
 refine ε5 ?_;clear bg;refine ν ?_
 rcases I with⟨ad,bm⟩ | ⟨rfl,c0,m,sm,L',s',wz,I⟩
 ·have hm:=a1m er ad w7
  have bn:=S.below bm;have⟨b5,bI⟩:=η2 bn ad;clear bn ad bm;go_wp2_with fail;refine μf hm ?_;exact⟨rfl,.error er,.inl ⟨er,rfl⟩,b5.ref bI⟩
 have bq:Fr (λk=>k∈d::b.own) w6 w7:=((Q9 I.bel).mono (G:=λk=>k∈d::b.own) (λk hk e=>ρo)).trans I.fr (λk _ e=>by rcases e with e | e | e<;>(rw[e];simp[ShB.own]))
 have aT:=S.step (S.sh.newCL I.bel I.new I.fr I.co I.cs I.cl I.lo I.ls (Qk I.ll S.sh.ok.lL)) bq (λj hj=>Qj _ hj) (λj hj=>by
  simp only[ShB.own,Qo,Qt,or_false]at hj⊢
  rcases hj with e | e | e | e | e | e
  ·exact .inl (.inl e)
  ·exact .inr (ρy e I.new)
  ·exact .inl (.inr (.inr (.inl e)))
  ·exact .inl (.inr (.inr (.inr (.inl e))))
  ·exact .inl (.inr (.inr (.inr (.inr (.inl e)))))
  exact .inl (.inr (.inr (.inr (.inr (.inr e))))))
 have⟨b',bv⟩:=η0 ({b with cm:=c0});have⟨yl,a9⟩:=η0 ({x with C:=m,sC:=sm,L:=L',sL:=s'});rw[bv,a9]at aT;have an:yl.me=x.me/\yl.n=x.n/\yl.ep=x.ep/\yl.ser=x.ser/\yl.iss=x.iss/\yl.h=x.h/\yl.M=x.M:=by rw[<-a9];exact⟨rfl,rfl,rfl,rfl,rfl,rfl,rfl⟩
 have hm:=a1o w7;have⟨aC,b4,a2⟩:=η3 aT bE an;clear aT bE an bq I bv a9;go_wp2_with fail;refine μf hm ?_;clear hm;go_upto_region 5 with fail
 have bf:=Z.o _ _ _ _ aC;have R:=a2v f p o y t w7 (ax.go aC.fr).at_ (al.go aC.fr).at_ hl1 hl2;rw[az.o]at R;have aE:=λ(X:WD)=>a7g 3 bc.1 vf 6 X
 have aX:(⟨3,0,idP t,vf,6,0⟩:a1P).Bd:=b1v ρo bc.o b4.o ρo;have⟨e0,aQ⟩:=η0 ((⟨3,0,idP t,vf,6,0⟩:a1P):a1P);rw[aQ]at aX;simp only[aQ]at aE;have⟨ev,a8⟩:=η0 ((a0x e0).toArray);simp only[a8]at aE;have⟨dv,a1⟩:=η0 ((bys (idP t)).toArray);rw[a1]at R;simp only[a1]at aE;have⟨b2,bT⟩:=η2 a8 aX;clear a8 aX aQ a1;go_wp2_with fail;refine μi R ?_;intro w4 br;have bx:=aC.below br;have aa:=η1 bx;clear bx br R bf;have ar:=a5C d b' (c0::(g+1)::N) seed yl A n c a bZ bV b3 e0 bT w4 aa.sh (bM.go aa.fr).at_ (al.go aa.fr).at_;rw[b2.o]at ar;go_wp2_with fail;refine μ1 ar ?_;rintro e5 w5 ⟨ab,bh⟩;clear ar aE;have aq:=bh.mono (λk _ e=>a8B d b' k e)
 rcases ab with⟨bl,A5,U,rfl,aj,a7⟩ | ⟨cf,hk,rfl⟩
 rotate_left
 ·exact⟨rfl,.error 17,.inl ⟨17,rfl⟩,aa.refF aq hk⟩
 have aD:GoQ seed x a (.ok ({yl with h:=a4T yl a e0},a2O (a9F seed yl a e0))):=.inr ⟨yl,e0,a2.o,by unfold b9r;rw[if_pos bl]⟩;have⟨yh,bo⟩:=η0 ({yl with h:=a4T yl a e0});have⟨ak,aM⟩:=η0 (a9F seed yl a e0);rw[bo]at aD a7;rw[aM]at aj aD⊢;have aY:=aa.step' a7 aq;have Q:=a5d ak aj.1 A5 U w5;have au:(g+1,41,zs)∈[(g,53,tv),(g+1,41,zs)]:=by simp
 have bi:g+1<w4.heap.size:=(aa.kp _ au).1.lt;have bK:=aa.sz;have aA:=a0A aj.1 0 true A5 U;have ay:=λX hX=>(aY.below (X':=X) hX).sto au bP.o (a0O 0 true ak A5 U) aA (a0W _ _ _ _ _)
 have J:=λX hX=>(aY.below (X':=X) hX).fin au (N0:=N) (λj hj=>Qj _ (Qj _ hj)) (y0:=yh) rfl (rp:=a2O ak) bK bi (aj.below hX) rfl
 have⟨rs,bb⟩:=η0 (a0O 0 true ak A5 U);simp only[a2O,bb]at ay J Q;rw[bb]at aA
 generalize bU:a0d ak A5 U=cv at Q⊢
 have⟨b8,bC,bR,bQ⟩:=η4 ay J aA aD;clear ay J aA aD aY aj a7 bh aq bl bi bK bb bU au bo aM;go_wp2_with fail;refine μi Q ?_;intro w6 ag;have ay:=b8.o w6 ag;have J:=bC.o w6 ag;have a3:=η1 J;clear J ag;clear Q;go_wp2_with fail;obtain⟨dR,bO,bJ⟩:=Q8.1 a7w;refine bodyPost_ret (v:=.agg rs.toArray) (a0c rfl _ _ (g+1) _ rs dR rfl a3.2.2 bO bJ (ρy bR.o a4h)) rfl ?_;exact⟨_,bQ.o,a3.1,a3.2.1⟩
end
end Go.Proofs.YtpolljfkceanaaaGreatDoor
