/-
  Contracts of functions, plain laws.
-/
import Derived.Sort.MapsRangeIn
import Derived.Test.YtpolljfkceanaaaGreatDoorK10
namespace Go.Proofs.YtpolljfkceanaaaGreatDoor
open Go.RowKit Go.Shelf Go.Maps Go.Proofs.Tryz
set_option maxRecDepth 100000
set_option maxHeartbeats 64000000
variable {a z:AV}{k s:Int}{tx:LI}{N0:List Nat}{B N c cap g i j n r:Nat}{A:OA}{P:PG}{e t:TI}{w:WD}
set_option linter.all false
section
open Go.RowKit Go.Shelf Go.Maps Go.ChangeMaps Go.MapKept
open Go.WideElems (Fit rd rg rd_mk rg_of)
def RT:VL->Option (DataW Unit×List MemPlace):=λ_=>some (.lit (.bool true),[])
theorem a4o.owns{κ ν:Type}{E:Enc κ}{d:ν->LV}{b:Nat}{m:List (κ×ν)}(h:a4o E d w b m)(f:m.length<=maxLen):
  ∃D:DataW Unit,w.ownsMap prog E.k RT b m.length D/\Maps.size D=m.length/\∀kl,Maps.has D kl=true↔∃a∈m.map Prod.fst,keyOf prog E.k (.agg (E.e a).toArray)=some kl:=by
 have K:=Keyed.of_law E.law;obtain⟨z,c,O,R,F,P⟩:=h.is;have G:=a2g.esKeys F P
 have J:z.size=m.length:=by
  have:=congrArg List.length F
  simpa using this
 have j:∀x∈z.toList,∃l,keyOf prog E.k x.key=some l/\rd prog E.k RT x=some (l,.lit (.bool true)):=λx g=>by
  obtain⟨l,y⟩:=G x g;exact⟨l,y,by obtain⟨V,T,U⟩:=x;exact rd_mk (H:=Unit) (val:=T) (yv:=(.lit (.bool true),[])) y rfl⟩
 refine⟨.map ((z.toList.map (rg prog E.k RT)).foldr DataW.insert []),⟨z,c,O,⟨by omega,R,λx g=>by obtain⟨l,_,r⟩:=j x g;exact⟨_,r⟩⟩,by omega,rfl⟩,?_,λkl=>?_⟩
 ·rw[Maps.size_eq,DataW.length_sorted]
  simpa using J
 rw[Maps.has_eq,List.any_eq_true]
 constructor
 ·rintro⟨p,Q,o⟩
  obtain⟨x,g,rfl⟩:=Qs.1 ((Go.WideShapes.sorted_perm _).mem_iff.1 Q);obtain⟨l,B,r⟩:=j x g;rw[rg_of r]at o;have e:=WideAt.sameKey_eq o;simp only at e;subst e;have N:(x.key,x.val)∈m.map (λp=>(Value.agg (E.e p.1).toArray,Value.agg (d p.2).toArray)):=by rw[<-F];exact Qs.2 ⟨x,g,rfl⟩
  obtain⟨q,I,e⟩:=Qs.1 N;simp only[Prod.mk.injEq]at e;exact⟨q.1,Qs.2 ⟨q,I,rfl⟩,by rw[e.1];exact B⟩
 rintro⟨a,S,v⟩;obtain⟨q,I,rfl⟩:=Qs.1 S;have N:(Value.agg (E.e q.1).toArray,Value.agg (d q.2).toArray)∈z.toList.map (λe=>(e.key,e.val)):=by rw[F];exact Qs.2 ⟨q,I,rfl⟩
 obtain⟨x,g,e⟩:=Qs.1 N;simp only[Prod.mk.injEq]at e;obtain⟨l,B,r⟩:=j x g;rw[e.1,v]at B
 cases B
 exact⟨_,(Go.WideShapes.sorted_perm _).mem_iff.2 (Qs.2 ⟨x,g,rfl⟩),by rw[rg_of r];exact WideAt.sameKey_self (K.key v)⟩
def a9n{κ ν:Type}(E:Enc κ)(m:List (κ×ν))(left:Lit->Bool)(ss:List κ):Prop:=
 ss.Nodup/\(∀a∈ss,a∈m.map Prod.fst)/\∀a∈m.map Prod.fst,∀kl,keyOf prog E.k (.agg (E.e a).toArray)=some kl->(a∈ss↔left kl=false)
section
variable {κ ν:Type} {E:Enc κ} {ev:ν->LV} {w:WD} {b:Nat} {m:List (κ×ν)} {D:DataW Unit} {left:Lit->Bool}
theorem a9n.start(b:∀kl,Maps.has D kl=true↔∃a∈m.map Prod.fst,keyOf prog E.k (.agg (E.e a).toArray)=some kl):a9n E m (Maps.has D) []:=
 ⟨List.nodup_nil,by simp,λa ha kl hk=>by
  have:=(b kl).2 ⟨a,ha,hk⟩
  simp[this]⟩
theorem a9n.step{b:List {a // E.ok a}}(d:∀p∈m,E.ok p.1)(h:a9n E m left (b.map Subtype.val))(f:∀kl,Maps.has D kl=true↔∃a∈m.map Prod.fst,keyOf prog E.k (.agg (E.e a).toArray)=some kl)
  {v:VL} {kl:Lit} {y:DataW Unit} (hk:keyOf prog E.k v=some kl) (hl:left kl=true) (hat:∀zd,D.atKey kl zd=y):
  ∃x:{a // E.ok a},v=.agg (E.e x.1).toArray/\a9n E m (λz=>left z&&!z.sameKey kl) ((b++[x]).map Subtype.val):=by
 have K:=Keyed.of_law E.law;obtain⟨a,w,g⟩:=(f kl).1 (Maps.has_true_of_atKey hat)
 have j:∀a∈m.map Prod.fst,E.ok a:=λa w=>by
  obtain⟨p,O,rfl⟩:=Qs.1 w;exact d p O
 refine⟨⟨a,j a w⟩,K.inj hk g,?_⟩
 have F:a ∉ b.map Subtype.val:=λG=>by
  have:=(h.2.2 a w kl g).1 G
  rw[hl]at this
  cases this
 rw[QV,Yl,List.map_nil];refine⟨List.nodup_append.2 ⟨h.1,by simp,λx G y I=>by simp at I;subst I;exact λe=>F (e ▸ G)⟩,λx G=>?_,λc N H o=>?_⟩
 ·rcases Qq.1 G with r | r
  ·exact h.2.1 x r
  rw[Qn.1 r];exact w
 rw[Qq,Qn,h.2.2 c N H o];have J:=WideAt.sameKey_iff (a:=H) (K.key hk)
 by_cases e:H=kl
 ·have B:c=a:=by
   have r:=K.inj o (e ▸ g);simp only[Value.agg.injEq]at r;exact E.inj _ _ (j c N) (j a w) (by simpa using congrArg Array.toList r)
  simp[B,J.2 e]
 have B:c≠a:=λB=>by
  subst B;rw[o]at g;exact e (Option.some.inj g)
 have P:H.sameKey kl=false:=by
  cases h5:H.sameKey kl with
  | false=>rfl
  | true=>exact absurd (J.1 h5) e
 simp[B,P]
theorem a9n.done{d:List κ}(ht:a4o E ev w b m)(h:a9n E m left d)(f:∀kl,left kl=false):d.Perm (m.map Prod.fst):=by
 refine(List.perm_ext_iff_of_nodup h.1 ?_).2 λa=>⟨h.2.1 a,λg=>?_⟩
 ·have:=ht.apart
  exact Yk.2 this
 obtain⟨p,j,rfl⟩:=Qs.1 g;obtain⟨kl,o⟩:=E.key _ (ht.ok p j);exact(h.2.2 _ g kl o).2 (f kl)
end
abbrev b0n:=stOf 212
abbrev a9U:=ldOf 212
theorem c7f:(prog.underlying 212).map a1f=some true:=ρk
theorem c1B:(prog.info? 212).map (·.size)=some 33:=ρk
theorem d1x:(((prog.info? 212).bind (·.zero)).map (·.cells.size))=some 33:=ρk
abbrev b0f:=alOf 212
attribute [local go_sem ↓] a1F a4Z a5p a9U b0n b0f
theorem c3a(F:Fence)(n:Nat)(j:F.fn 228)(d:F.round=none)(w:1<=n)(l f b:Nat)(m:List ((LI×Int)×a1q))(o:m.length<=maxLen)(J g:List {a // ptE.ok a}->WD->Prop)
  (hY:∀pre x W,J pre W->pre.length<m.length->YieldAt F (n-1) prog l #[.agg (ptE.e x.1).toArray] W λe W'=>
   (e=.returned (.bool true)/\J (pre++[x]) W'/\KeepsWalks W W')\/(e=.returned (.bool false)/\g (pre++[x]) W'))
  (W:WD) (hJ:AbidesFrom W.heap.size J) (hm:W.cell? ⟨f,0,none⟩=some (.map (some b))) (ht:a4o ptE a1s W b m) (h0:J [] W):
  CallsIn F n prog 228 #[.func (.yield l) #[] #[],.pointer f] W λe W'=>(∃v,e=.returned v)/\
   ((∃ss:List {a // ptE.ok a},(ss.map Subtype.val).Perm (m.map Prod.fst)/\J ss W')\/(∃pre:List {a // ptE.ok a},True/\g pre W')):=by
 obtain⟨D0,R,aa,hD⟩:=ht.owns o;have ac:=ht.ok;have K:Keyed prog 189:=Keyed.of_law ptE.law;have D:W.ownsMap prog 189 RT b m.length D0:=R;have⟨HT,aj,aA,HO,aC⟩:=η5 ht hD ac D aa;clear ht hD ac R aa;obtain⟨Z,G,O,hz⟩:=P8 (t:=189) a1H c3w;refine callsIn_of_wp func228 rfl j ?_ d;simp only[ntmps228,Qc,Qy,Qv,Nat.reduceAdd,Nat.reduceSub,QW,QX,Ze,QZ,QF,QG];have⟨aD,aH⟩:=η2 G O;clear G O
 gi_wp2_with (first
  | (gi_at_range;refine wpListIn_range_own _ rfl _ 161 rfl 189 206 K Tryz.underlying161 _ b m.length _ rfl D ?_;intro w0 ao av aN)
  | gi_in)
 go_frame
 gi_loopw [3] (λ_ wr=>∃(left:Lit->Bool) (U:Nat) (ss:List {a // ptE.ok a}),wr.ranges prog 189 RT b W.heap.size m.length D0 left U/\ss.length+U<=m.length/\a9n ptE m left (ss.map Subtype.val)/\J ss wr)
  (λ_ wr=>wr.rangeLeft b W.heap.size)
 ·exact⟨_,_,[],ao,by rw[aC.o];simp,a9n.start aj.o,hJ [] W w0 none h0 av (λr e=>by cases e)⟩
 obtain⟨left,U,ss,N,aO,hC,H⟩:=hrel
 gi_wp2_with (first
  | (gi_at_next;refine wpListIn_next_ranges (α:=VL) (β:=VL) _ rfl _ rfl 189 K RT id id (λkey kl hk=>⟨key,rfl⟩) (λv _ _=>⟨v,rfl⟩) b W.heap.size m.length _ _ _ rfl N ?_ ?_)
  | gi_in)
 ·intro aP ar
  gi_wp2
  go_end0;exact⟨⟨_,rfl⟩,.inl ⟨ss,hC.done HT ar,H⟩⟩
 intro x c kl yd yp E ah B ab hv V z ay X au al;obtain⟨x',ex,ae⟩:=hC.step aA aj B ab V
 try simp only[id]at ex al
 subst ex;have af:J ss E:=hJ ss wr E (some W.heap.size) H X (λr e=>by cases e;exact⟨Qg _,N.iter_walk⟩);have⟨Y,y⟩:=η0 (ptE.e x'.1);have ai:Y.length=33:=by rw[<-y];exact a1x x'.2.len _
 have aF:∀u∈Y,u.oneCell'=true:=by rw[<-y];exact a2p _ _
 have⟨p,hp⟩:=ηs E;have G:=aD.o E;have ad:=aH.o E Y ai aF;have bp:=Qd E 189 Y.toArray;have⟨w3,I⟩:=η0 (E.alloc (.cells Y.toArray 189));have T:E.grownBy w3 none:=by rw[<-I];exact World.grownBy_alloc E _ none
 rw[I]at ad bp;have an:J ss w3:=hJ ss E w3 none af T (λr e=>by cases e);have S:=z.kept T ρp ρp;have ax:=P4 a3a a1H Y bp ai;obtain⟨fn,aJ,aq,aI,hy,hR⟩:=hY ss x' w3 an ρo;rw[y]at hy;clear au
 try simp only[id]
 try simp only[y]
 rw[hp]at G ad ax;rw[y]at al;have⟨aE,aR,aK,ak,aT,HC,az,aQ⟩:=η8 N X z S H hC ae I;have⟨aU,aS,aL,aM⟩:=η4 y bp B V;clear N X z S H hC ae I y bp B V ab af an T hv
 gi_wp2
 refine hR.mono ?_;rintro e W3 (⟨rfl,aB,aG⟩ | ⟨rfl,ag⟩)
 ·gi_wp2
  have Q:=ak.of_walks aG;go_roundw
  case rel=>exact⟨_,ah,ss++[x'],Q,by simp;omega,az.o,aB⟩
  case measure=>rw[Q.left_eq,aE.left_eq];exact ay
 gi_wp2
 refine bodyPost_ret (results_none rfl _ _ _) rfl ?_;exact⟨⟨_,rfl⟩,.inr ⟨ss++[x'],trivial,ag⟩⟩
theorem b5p(F:Fence)(n:Nat)(j:F.fn 228)(f:F.round=none)(o:1<=n)(d b:Nat)(m:List ((LI×Int)×a1q))(r:m.length<=maxLen)(w:WD)(g:d<w.heap.size)(v:w.cell? ⟨d,0,none⟩=some (.map (some b)))(ht:a4o ptE a1s w b m):
  SeqStopsK F n prog 228 #[.pointer d] (λx:{a // ptE.ok a}=>#[.agg (ptE.e x.1).toArray]) KeepsWalks (λss=>(ss.map Subtype.val).Perm (m.map Prod.fst)) (λ_=>True) m.length w:=λl J Jx W hW hJ _ hY h0=>
 c3a F n j f o l d b m r J Jx hY W hJ ((hW.cell (p:=⟨d,0,none⟩) g).trans v) (ht.fr (Q9 hW) (ρh ht.lt)) h0
theorem c1f(b:Nat)(w:WD):
  Calls prog 174 #[.map (some b)] w λe w'=>e=.returned (.func (.func 228) #[] #[.pointer w])/\w'=w.alloc (.cells #[.map (some b)] 161):=by
 go_enter func174,ntmps174;go_wp2;go_ret;exact⟨rfl,rfl⟩
theorem c2h(F:Fence)(n:Nat)(j:F.fn 229)(d:F.round=none)(w:1<=n)(l f b:Nat)(m:List ((LI×Int)×a1J))(o:m.length<=maxLen)(J g:List {a // ptE.ok a}->WD->Prop)
  (hY:∀pre x W,J pre W->pre.length<m.length->YieldAt F (n-1) prog l #[.agg (ptE.e x.1).toArray] W λe W'=>
   (e=.returned (.bool true)/\J (pre++[x]) W'/\KeepsWalks W W')\/(e=.returned (.bool false)/\g (pre++[x]) W'))
  (W:WD) (hJ:AbidesFrom W.heap.size J) (hm:W.cell? ⟨f,0,none⟩=some (.map (some b))) (ht:a4o ptE a4V W b m) (h0:J [] W):
  CallsIn F n prog 229 #[.func (.yield l) #[] #[],.pointer f] W λe W'=>(∃v,e=.returned v)/\
   ((∃ss:List {a // ptE.ok a},(ss.map Subtype.val).Perm (m.map Prod.fst)/\J ss W')\/(∃pre:List {a // ptE.ok a},True/\g pre W')):=by
 obtain⟨D0,R,aa,hD⟩:=ht.owns o;have ac:=ht.ok;have K:Keyed prog 189:=Keyed.of_law ptE.law;have D:W.ownsMap prog 189 RT b m.length D0:=R;have⟨HT,aj,aA,HO,aC⟩:=η5 ht hD ac D aa;clear ht hD ac R aa;obtain⟨Z,G,O,hz⟩:=P8 (t:=189) a1H c3w;refine callsIn_of_wp func229 rfl j ?_ d;simp only[ntmps229,Qc,Qy,Qv,Nat.reduceAdd,Nat.reduceSub,QW,QX,Ze,QZ,QF,QG];have⟨aD,aH⟩:=η2 G O;clear G O
 gi_wp2_with (first
  | (gi_at_range;refine wpListIn_range_own _ rfl _ 164 rfl 189 208 K Tryz.underlying164 _ b m.length _ rfl D ?_;intro w0 ao av aN)
  | gi_in)
 go_frame
 gi_loopw [3] (λ_ wr=>∃(left:Lit->Bool) (U:Nat) (ss:List {a // ptE.ok a}),wr.ranges prog 189 RT b W.heap.size m.length D0 left U/\ss.length+U<=m.length/\a9n ptE m left (ss.map Subtype.val)/\J ss wr)
  (λ_ wr=>wr.rangeLeft b W.heap.size)
 ·exact⟨_,_,[],ao,by rw[aC.o];simp,a9n.start aj.o,hJ [] W w0 none h0 av (λr e=>by cases e)⟩
 obtain⟨left,U,ss,N,aO,hC,H⟩:=hrel
 gi_wp2_with (first
  | (gi_at_next;refine wpListIn_next_ranges (α:=VL) (β:=VL) _ rfl _ rfl 189 K RT id id (λkey kl hk=>⟨key,rfl⟩) (λv _ _=>⟨v,rfl⟩) b W.heap.size m.length _ _ _ rfl N ?_ ?_)
  | gi_in)
 ·intro aP ar
  gi_wp2
  go_end0;exact⟨⟨_,rfl⟩,.inl ⟨ss,hC.done HT ar,H⟩⟩
 intro x c kl yd yp E ah B ab hv V z ay X au al;obtain⟨x',ex,ae⟩:=hC.step aA aj B ab V
 try simp only[id]at ex al
 subst ex;have af:J ss E:=hJ ss wr E (some W.heap.size) H X (λr e=>by cases e;exact⟨Qg _,N.iter_walk⟩);have⟨Y,y⟩:=η0 (ptE.e x'.1);have ai:Y.length=33:=by rw[<-y];exact a1x x'.2.len _
 have aF:∀u∈Y,u.oneCell'=true:=by rw[<-y];exact a2p _ _
 have⟨p,hp⟩:=ηs E;have G:=aD.o E;have ad:=aH.o E Y ai aF;have bp:=Qd E 189 Y.toArray;have⟨w3,I⟩:=η0 (E.alloc (.cells Y.toArray 189));have T:E.grownBy w3 none:=by rw[<-I];exact World.grownBy_alloc E _ none
 rw[I]at ad bp;have an:J ss w3:=hJ ss E w3 none af T (λr e=>by cases e);have S:=z.kept T ρp ρp;have ax:=P4 a3a a1H Y bp ai;obtain⟨fn,aJ,aq,aI,hy,hR⟩:=hY ss x' w3 an ρo;rw[y]at hy;clear au
 try simp only[id]
 try simp only[y]
 rw[hp]at G ad ax;rw[y]at al;have⟨aE,aR,aK,ak,aT,HC,az,aQ⟩:=η8 N X z S H hC ae I;have⟨aU,aS,aL,aM⟩:=η4 y bp B V;clear N X z S H hC ae I y bp B V ab af an T hv
 gi_wp2
 refine hR.mono ?_;rintro e W3 (⟨rfl,aB,aG⟩ | ⟨rfl,ag⟩)
 ·gi_wp2
  have Q:=ak.of_walks aG;go_roundw
  case rel=>exact⟨_,ah,ss++[x'],Q,by simp;omega,az.o,aB⟩
  case measure=>rw[Q.left_eq,aE.left_eq];exact ay
 gi_wp2
 refine bodyPost_ret (results_none rfl _ _ _) rfl ?_;exact⟨⟨_,rfl⟩,.inr ⟨ss++[x'],trivial,ag⟩⟩
theorem a9E(F:Fence)(n:Nat)(j:F.fn 229)(f:F.round=none)(o:1<=n)(d b:Nat)(m:List ((LI×Int)×a1J))(r:m.length<=maxLen)(w:WD)(g:d<w.heap.size)(v:w.cell? ⟨d,0,none⟩=some (.map (some b)))(ht:a4o ptE a4V w b m):
  SeqStopsK F n prog 229 #[.pointer d] (λx:{a // ptE.ok a}=>#[.agg (ptE.e x.1).toArray]) KeepsWalks (λss=>(ss.map Subtype.val).Perm (m.map Prod.fst)) (λ_=>True) m.length w:=λl J Jx W hW hJ _ hY h0=>
 c2h F n j f o l d b m r J Jx hY W hJ ((hW.cell (p:=⟨d,0,none⟩) g).trans v) (ht.fr (Q9 hW) (ρh ht.lt)) h0
theorem b5s(b:Nat)(w:WD):
  Calls prog 175 #[.map (some b)] w λe w'=>e=.returned (.func (.func 229) #[] #[.pointer w])/\w'=w.alloc (.cells #[.map (some b)] 164):=by
 go_enter func175,ntmps175;go_wp2;go_ret;exact⟨rfl,rfl⟩
theorem c3d(F:Fence)(n:Nat)(j:F.fn 232)(d:F.round=none)(w:1<=n)(l f b:Nat)(m:List (Ke×MkD))(o:m.length<=maxLen)(J g:List {a // keE.ok a}->WD->Prop)
  (hY:∀pre x W,J pre W->pre.length<m.length->YieldAt F (n-1) prog l #[.agg (keE.e x.1).toArray] W λe W'=>
   (e=.returned (.bool true)/\J (pre++[x]) W'/\KeepsWalks W W')\/(e=.returned (.bool false)/\g (pre++[x]) W'))
  (W:WD) (hJ:AbidesFrom W.heap.size J) (hm:W.cell? ⟨f,0,none⟩=some (.map (some b))) (ht:a4o keE mkV W b m) (h0:J [] W):
  CallsIn F n prog 232 #[.func (.yield l) #[] #[],.pointer f] W λe W'=>(∃v,e=.returned v)/\
   ((∃ss:List {a // keE.ok a},(ss.map Subtype.val).Perm (m.map Prod.fst)/\J ss W')\/(∃pre:List {a // keE.ok a},True/\g pre W')):=by
 obtain⟨D0,R,aa,hD⟩:=ht.owns o;have ac:=ht.ok;have K:Keyed prog 212:=Keyed.of_law keE.law;have D:W.ownsMap prog 212 RT b m.length D0:=R;have⟨HT,aj,aA,HO,aC⟩:=η5 ht hD ac D aa;clear ht hD ac R aa;obtain⟨Z,G,O,hz⟩:=P8 (t:=212) c1B d1x;refine callsIn_of_wp func232 rfl j ?_ d;simp only[ntmps232,Qc,Qy,Qv,Nat.reduceAdd,Nat.reduceSub,QW,QX,Ze,QZ,QF,QG];have⟨aD,aH⟩:=η2 G O;clear G O
 gi_wp2_with (first
  | (gi_at_range;refine wpListIn_range_own _ rfl _ 167 rfl 212 214 K Tryz.underlying167 _ b m.length _ rfl D ?_;intro w0 ao av aN)
  | gi_in)
 go_frame
 gi_loopw [3] (λ_ wr=>∃(left:Lit->Bool) (U:Nat) (ss:List {a // keE.ok a}),wr.ranges prog 212 RT b W.heap.size m.length D0 left U/\ss.length+U<=m.length/\a9n keE m left (ss.map Subtype.val)/\J ss wr)
  (λ_ wr=>wr.rangeLeft b W.heap.size)
 ·exact⟨_,_,[],ao,by rw[aC.o];simp,a9n.start aj.o,hJ [] W w0 none h0 av (λr e=>by cases e)⟩
 obtain⟨left,U,ss,N,aO,hC,H⟩:=hrel
 gi_wp2_with (first
  | (gi_at_next;refine wpListIn_next_ranges (α:=VL) (β:=VL) _ rfl _ rfl 212 K RT id id (λkey kl hk=>⟨key,rfl⟩) (λv _ _=>⟨v,rfl⟩) b W.heap.size m.length _ _ _ rfl N ?_ ?_)
  | gi_in)
 ·intro aP ar
  gi_wp2
  go_end0;exact⟨⟨_,rfl⟩,.inl ⟨ss,hC.done HT ar,H⟩⟩
 intro x c kl yd yp E ah B ab hv V z ay X au al;obtain⟨x',ex,ae⟩:=hC.step aA aj B ab V
 try simp only[id]at ex al
 subst ex;have af:J ss E:=hJ ss wr E (some W.heap.size) H X (λr e=>by cases e;exact⟨Qg _,N.iter_walk⟩);have⟨Y,y⟩:=η0 (keE.e x'.1);have ai:Y.length=33:=by rw[<-y];exact a6m x'.2.len _
 have aF:∀u∈Y,u.oneCell'=true:=by rw[<-y];exact a7K _ _
 have⟨p,hp⟩:=ηs E;have G:=aD.o E;have ad:=aH.o E Y ai aF;have bp:=Qd E 212 Y.toArray;have⟨w3,I⟩:=η0 (E.alloc (.cells Y.toArray 212));have T:E.grownBy w3 none:=by rw[<-I];exact World.grownBy_alloc E _ none
 rw[I]at ad bp;have an:J ss w3:=hJ ss E w3 none af T (λr e=>by cases e);have S:=z.kept T ρp ρp;have ax:=P4 c7f c1B Y bp ai;obtain⟨fn,aJ,aq,aI,hy,hR⟩:=hY ss x' w3 an ρo;rw[y]at hy;clear au
 try simp only[id]
 try simp only[y]
 rw[hp]at G ad ax;rw[y]at al;have⟨aE,aR,aK,ak,aT,HC,az,aQ⟩:=η8 N X z S H hC ae I;have⟨aU,aS,aL,aM⟩:=η4 y bp B V;clear N X z S H hC ae I y bp B V ab af an T hv
 gi_wp2
 refine hR.mono ?_;rintro e W3 (⟨rfl,aB,aG⟩ | ⟨rfl,ag⟩)
 ·gi_wp2
  have Q:=ak.of_walks aG;go_roundw
  case rel=>exact⟨_,ah,ss++[x'],Q,by simp;omega,az.o,aB⟩
  case measure=>rw[Q.left_eq,aE.left_eq];exact ay
 gi_wp2
 refine bodyPost_ret (results_none rfl _ _ _) rfl ?_;exact⟨⟨_,rfl⟩,.inr ⟨ss++[x'],trivial,ag⟩⟩
theorem a9z(F:Fence)(n:Nat)(j:F.fn 232)(f:F.round=none)(o:1<=n)(d b:Nat)(m:List (Ke×MkD))(r:m.length<=maxLen)(w:WD)(g:d<w.heap.size)(v:w.cell? ⟨d,0,none⟩=some (.map (some b)))(ht:a4o keE mkV w b m):
  SeqStopsK F n prog 232 #[.pointer d] (λx:{a // keE.ok a}=>#[.agg (keE.e x.1).toArray]) KeepsWalks (λss=>(ss.map Subtype.val).Perm (m.map Prod.fst)) (λ_=>True) m.length w:=λl J Jx W hW hJ _ hY h0=>
 c3d F n j f o l d b m r J Jx hY W hJ ((hW.cell (p:=⟨d,0,none⟩) g).trans v) (ht.fr (Q9 hW) (ρh ht.lt)) h0
theorem b4p(b:Nat)(w:WD):
  Calls prog 177 #[.map (some b)] w λe w'=>e=.returned (.func (.func 232) #[] #[.pointer w])/\w'=w.alloc (.cells #[.map (some b)] 167):=by
 go_enter func177,ntmps177;go_wp2;go_ret;exact⟨rfl,rfl⟩
end
section
theorem Fr.of_below_F{F:Nat->Prop}{w a:WD}(h:Below w w a):Fr F w a:=(Q9 h).mono (λk hk e=>absurd e ρo)
abbrev Yn:=@Fr.of_below_F
abbrev Kpt:=Nat×TI×AV
def b1q(B sb:Nat)(seed:LI)(w w':WD):Prop:=Below B w w'/\∃b0 N0 y0,a1e w sb b0 N0 seed y0/\Fr (λk=>k∈sb::b0.own) w w'
structure a4m(B r:Nat)(w:WD)(sb:Nat)(b:ShB)(N:List Nat)(seed:LI)(y:ShD)(K:List Kpt)(X:WD):Prop where
 sh:a1e X sb b N seed y
 pos:∀j∈sb::b.own,B<=j
 kp:∀q∈K,Blk X q.1 q.2.1 q.2.2/\q.1 ∉ sb::b.own/\B<=q.1
 rN:r∈N
 fr:Below B w X
 rz:w.heap.size<=r
 fo:∃b0 N0 y0,a1e w sb b0 N0 seed y0/\Fr (λk=>k∈sb::b0.own) w X/\∀j∈b.own,j∈b0.own\/w.heap.size<=j
section
variable {B r:Nat} {w X X':WD} {sb:Nat} {b:ShB} {N:List Nat} {seed:LI} {y:ShD} {K:List Kpt}
theorem a4m.sz(h:a4m B r w sb b N seed y K X):B<=X.heap.size:=by have:=h.pos sb Qr;have:=h.sh.st.lt;omega
theorem a4m.below(h:a4m B r w sb b N seed y K X)(a:Below X X X'):a4m B r w sb b N seed y K X':=
 ⟨h.sh.below a,h.pos,λq hq=>⟨(h.kp q hq).1.fr (Q9 a) (by have:=(h.kp q hq).1.lt;omega),(h.kp q hq).2⟩,h.rN,h.fr.trans (a.mono h.sz),h.rz,by
  obtain⟨b0,N0,y0,h0,hf,ho⟩:=h.fo;exact⟨b0,N0,y0,h0,hf.trans (Q9 a) (λk hk e=>by have:=hf.size;omega),ho⟩⟩
theorem a4m.drew(h:a4m B r w sb b N seed y K X):a4m B r w sb b N seed y K X.drew:=h.below (Qf _ _).drew
theorem a4m.step(h:a4m B r w sb b N seed y K X){b':ShB}{a:List Nat}{f:ShD}(g:a1e X' sb b' a seed f)(hF:Fr (λk=>k∈sb::b.own) X X')(m:∀j∈N,j∈a)(d:∀j∈b'.own,j∈b.own\/X.heap.size<=j):a4m B r w sb b' a seed f K X':=by
 have H:=h.sz;refine⟨g,λj p=>?_,λq o=>⟨(h.kp q o).1.fr hF (h.kp q o).2.1,λD=>?_,(h.kp q o).2.2⟩,m _ h.rN,h.fr.trans (hF.below_of H h.pos),h.rz,?_⟩;rotate_left 2
 ·obtain⟨E,F,z,G,v,x⟩:=h.fo
  refine⟨E,F,z,G,v.trans hF (λk I e=>?_),λj p=>?_⟩
  ·rcases Qo.1 e with e | e
   ·rw[e];exact Qr
   rcases x k e with e | e
   ·exact Qj _ e
   omega
  rcases d j p with e | e
  ·exact x j e
  exact .inr (ρh v.size)
 ·rcases Qo.1 p with e | e
  ·rw[e];exact h.pos _ Qr
  rcases d j e with e | e
  ·exact h.pos _ (Qj _ e)
  omega
 have J:=(h.kp q o).1.lt
 rcases Qo.1 D with e | e
 ·exact(h.kp q o).2.1 (ρy e Qr)
 rcases d _ e with e | e
 ·exact(h.kp q o).2.1 (Qj _ e)
 omega
theorem a4m.step'(h:a4m B r w sb b N seed y K X){a:ShD}(d:a1e X' sb b N seed a)(hF:Fr (λk=>k∈sb::b.own) X X'):a4m B r w sb b N seed a K X':=h.step d hF (λ_ h=>h) (λ_ h=>.inl h)
theorem a4m.add(h:a4m B r w sb b N seed y K X){cs:AV}(a:Below X X X')(f:X.heap.size<=g)(d:Blk X' g t cs):a4m B r w sb b N seed y ((g,t,cs)::K) X':=by
 have j:=h.below a;have p:=h.sz
 exact⟨j.sh,j.pos,λq o=>by
  rcases Qo.1 o with e | e
  ·rw[e]
   exact⟨d,λm=>by have:=h.sh.lt _ (h.sh.sub _ m);simp only at this;omega,by show B<=g;omega⟩
  exact j.kp q e,j.rN,j.fr,j.rz,j.fo⟩
theorem a4m.begin{a:WD}(d:a1e a sb b N seed y)(m:∀j∈sb::b.own,B<=j)(f:Below a a X)(o:a.heap.size<=r/\r<X.heap.size)(g:∀q∈K,a.heap.size<=q.1/\Blk X q.1 q.2.1 q.2.2):a4m B r a sb b (r::N) seed y K X:=by
 have x:B<=a.heap.size:=by have:=m sb Qr;have:=d.st.lt;omega
 exact⟨d.more f o,m,λq p=>⟨(g q p).2,λv=>by have:=d.lt _ (d.sub _ v);have:=(g q p).1;omega,by have:=(g q p).1;omega⟩,Qr,f.mono x,o.1,⟨b,N,y,d,Yn f,λj w=>.inl w⟩⟩
theorem a4m.fin(h:a4m B r w sb b N seed y K X){f:AV}(g:(r,41,f)∈K)(m:∀j∈N0,j∈N){y0:ShD}(o:y.er=y0.er){rp:RpD}{a:Nat}(p:B<=a)(v:r<a)(x:a3C a X rp.c A cap){rs:AV}(d:rs=(a0O rp.e rp.has rp.c A cap).toArray):
  a6x B sb N0 seed (.ok (y0,rp)) (.returned (.agg rs)) (X.setRow r rs)/\b1q B sb seed w (X.setRow r rs)/\Blk (X.setRow r rs) r 41 rs:=by
 subst d;have z:=h.kp _ g;have D:=ρr (r) X (a0O rp.e rp.has rp.c A cap).toArray;have H:=h.sz
 refine⟨⟨⟨b,N,y,h.sh.away D h.rN z.2.1,o,m,h.pos⟩,A,cap,rfl,(x.fr D (λk e=>ρo)).base p⟩,⟨h.fr.trans (D.below_of H (λk e=>by have:=z.2.2;simp only at this;omega)),by
  obtain⟨F,N0,y0,G,E,I⟩:=h.fo;exact⟨F,N0,y0,G,E.trans D (λk z e=>by have:=h.rz;omega)⟩⟩,z.1.row_ _⟩
theorem a4m.sb_(h:a4m B r w sb b N seed y K X):b1q B sb seed w X:=⟨h.fr,by
 obtain⟨b0,N0,y0,h0,hf,-⟩:=h.fo;exact⟨b0,N0,y0,h0,hf⟩⟩
theorem a4m.frF(h:a4m B r w sb b N seed y K X)(hF:Fr (λk=>k∈sb::b.own) X X'):b1q B sb seed w X':=⟨h.fr.trans (hF.below_of h.sz h.pos),by
 obtain⟨b0,N0,y0,h0,hf,ho⟩:=h.fo
 exact⟨b0,N0,y0,h0,hf.trans hF (λk hk e=>by
  rcases Qo.1 e with e | e
  ·rw[e];exact Qr
  rcases ho k e with e | e
  ·exact Qj _ e
  omega)⟩⟩
theorem a4m.refF(h:a4m B r w sb b N seed y K X)(hF:Fr (λk=>k∈sb::b.own) X X')(a:k≠0):a6x B sb N0 seed (.error k) (.panicked [{v:=a2F k,recovered:=false}]) X'/\b1q B sb seed w X':=⟨⟨a,rfl⟩,h.frF hF⟩
theorem a4m.sto(h:a4m B r w sb b N seed y K X)(d:(r,41,a)∈K)(f:a.size=139)(rs:LV)(g:rs.length=139)(j:∀v∈rs,v.oneCell'=true):(STs 41 (.pointer r) (.agg rs.toArray)).run prog X=.ok () (X.setRow r rs.toArray):=P9 a4h (h.kp _ d).1 f rs g j
end
theorem a4m.ref{X:WD}{a:Nat}{b:ShB}{N:List Nat}{seed:LI}{y:ShD}{K:List Kpt}(h:a4m B r w a b N seed y K X)(d:k≠0):a6x B a N0 seed (.error k) (.panicked [{v:=a2F k,recovered:=false}]) X/\b1q B a seed w X:=⟨⟨d,rfl⟩,h.sb_⟩
theorem a8B(a:Nat)(b:ShB):∀k,k=a->k∈a::b.own:=λ_ e=>by rw[e];exact Qr
theorem c7I(a:Nat)(b:ShB):∀k,(k=b.cb\/k=b.cm)->k∈a::b.own:=λ_ e=>by rcases e with e | e<;>rw[e]<;>simp[ShB.own]
theorem c8Z(a:Nat)(b:ShB):∀k,(k=b.lb\/k=b.lm)->k∈a::b.own:=λ_ e=>by rcases e with e | e<;>rw[e]<;>simp[ShB.own]
theorem c8s(a:Nat)(b:ShB):∀k,k=b.km->k∈a::b.own:=λ_ e=>by rw[e];simp[ShB.own]
end
section
theorem b3s{t:TxD}(a:k=(j:Int))(b:j<t.ins.length):inO t k=t.ins[j]:=by
 subst a;simp[inO,List.getD,b]
attribute [local go_sem ↓] a2q a6W
theorem a9m(cb cm:Nat)(C:List (Pt×a1q))(sC:Int)(lb lm:Nat)(Lk:List (Pt×a1J))(sL:Int)(a:OA)(b:Nat)(d:OA)(f:Nat)(t:TxD)(n me:Int)(B:-9223372036854775808<=n/\n<=9223372036854775807)(w:WD)(y:a0i w cb cm C sC)(o:a0j w lb lm Lk sL)(h:a9H w a d t)(m:a2x w)(z:t.ins.length<=1000000)(r:t.outs.length<=1000000):
  Calls prog 156 #[.agg (txV a b d f t),.int .i64 n,.int .i64 me,.pointer cb,.pointer lb] w λe w'=>e=.returned (.tuple #[.int .u64 (a1w n me C Lk t).1,.int .i64 (a1w n me C Lk t).2])/\Below w w w':=by
 generalize K:a1w n me C Lk t=q
 unfold a1w at K;have b0:=Qd w 53 (txV a b d f t);have B0:=ρb w (.cells (txV a b d f t) 53)
 generalize hW:w.alloc (.cells (txV a b d f t) 53)=W at b0 B0
 have⟨g,hg⟩:=ηs w;rw[hg]at b0;have ah:=λX (J:Below W W X)=>P4 uTx iTx (w:=X) (txV a b d f t).toList (by simpa using b0.fr (Q9 J) (ρh b0.lt)) rfl
 have ax:=ah W (Qf _ _);have aj:=λX (J:Below w w X)=>a6O a b d f t n me B X (h.below J) (m.below J) z r
 have aA:=a3L a b d f t W (h.below B0) z r;have aL:=λX (J:Below w w X)=>h.below J
 have k0:∀X,Below W W X->X.cell? ⟨g,0,none⟩=some (.slice a t.ins.length b):=λX J=>(b0.fr (Q9 J) (ρh b0.lt)).cell 0
 have ay:=a3I (a2P t n) me;have aT:=a1V (a2P t n) me;have I:=b0q t n;have aM:= @a4q t n;have O:=λh0=>(a4R (a4S h0).1 (t:=t)).2.2.2
 have⟨L,hL⟩:=η0 (a0M (a2P t n) me);have D:=λN=>b1k t n me (N:=N)
 rw[hL]at ay aT D K;simp only[hL]at aj
 have aJ:∀x∈L,∃i:Nat,x=(i:Int)/\i<t.ins.length:=λx hx=>by
  obtain⟨i,e,hi⟩:=(ay x).1 hx;exact⟨i,e,Qh (Qm.1 hi).1 I⟩
 have aX:L.length<=16:=ρo;have⟨xs,ak⟩:=η0 (txV a b d f t);simp only[show(txV a b d f t).toList.toArray=txV a b d f t by simp,ak]at ah ax;rw[ak]at hW aA⊢;simp only[ak]at aj;have⟨SA,aW⟩:=η0 (a6B t n me);rw[aW]at D K;have⟨ck,Q⟩:=η0 (a1a t);rw[Q]at aA K;simp only[Q]at O;have al:=λX (J:Below w w X) (i:InD) (hi:i.Bd) (Ai:OA) (ci:Nat) (bk:Ai=none->ci=0) (bg:i.sec.length<=400000000) (hs:Byt X Ai i.sec)=>c2w cb cm C sC lb lm Lk sL i hi Ai ci bk bg X (y.below J) (o.below J) hs (m.below J)
 have⟨HG,HB,K0,bb,bq,bl,bv,bn⟩:=η8 hg B0 k0 aL aJ D aX ah;have⟨bc,aG,a5,HQ,bB⟩:=η5 aj O al K Q;clear hg B0 k0 aL aJ D aX ah aj O al K Q ay aT I aM aW hL ak b0 h m y o;go_enter func156,ntmps156;go_upto_region 3 with fail
 rw[HG.o];go_wp2_with fail;refine μi aA ?_;intro w1 ag;have ad:=φt HB ag;have ao:=bn.o w1 ag;have an:=bc.o w1 ad;have⟨aU,aY⟩:=η2 ad ag;clear ad ag ax
 by_cases ai:ck=0
 ·subst ai
  have K:=HQ.o;simp only[ne_eq,not_true_eq_false,if_false]at K;go_wp2_with fail;refine μ1 an ?_;rintro e2 w2 ⟨v,u,rfl,hv,hu,aC⟩;obtain⟨Av,Nv,cv,rfl⟩:=hv.formN;have hN:=hv.lenN;have aV:=hv.rd;have av:=φt aU aC;have ar:=φt aY aC;have bA:Nv<=16:=by have:=bv.o;omega
  have⟨HN,bi,aR,a6⟩:=η4 hN aV av ar;clear hN aV av ar hv hu aC ao
  by_cases aN:Nv=0
  ·subst aN
   have aa:L=[]:=ZG HN.symm;rw[if_pos aa]at K;subst K;clear aa;go_wp2;go_ret2;exact⟨rfl,aR.o⟩
  have aa:L≠[]:=λe=>aN (by rw[HN.o,e];rfl)
  rw[if_neg aa]at K;have aP:=b1Z t L;have aK:=bl.o Nv HN.symm;have be:((Nv:Int) == 0)=false:=by simp;omega
  have bf:decide ((Nv:Int)=0)=false:=by simp;omega
  have⟨a1,bh⟩:=η2 K aK;clear K aK aa;go_upto_region 11 with fail
  have a9:=η1 aP;clear aP be bf;go_loopg [15,17,18,42] Nv (λkk q _ _ s wr=>∃i:Nat,i+kk=Nv/\s=.int .i64 i/\q=.int .u64 (a7L t L i)/\b3P C Lk t (L.take i)=0/\Below w2 w2 wr);exact⟨0,by omega,rfl,by rw[a9.o],rfl,Qf _ _⟩;obtain⟨i,hi,rfl,rfl,H,T⟩:=hrel;have S:=φt aR T;have F:=φt a6 T
  by_cases ba:i<Nv
  ·have a0:(i:Int)<Nv:=ρo
   have I:i<L.length:=by rw[<-HN.o];exact ba
   have Z:=bb.o wr S;obtain⟨g1,o1,rfl,aQ,s1⟩:=bi.at I;have ab:=b2A t L I;obtain⟨j,hj,R⟩:=bq.o (L.getD i 0) (by simp[List.getD,I]);obtain⟨g2,o2,B2,d2,bo,aZ,ae⟩:=Z.ins j R;have V:=Z.bd.ins _ (Qu R);have aD:L[i]=(j:Int):=by rw[<-hj];simp[List.getD,I]
   have bm:=(T.cell (p:=⟨g1,o1+i,none⟩) aQ).trans s1;have aq:=Pf uIn iIn wr g2 (o2+j*35) (inV t.ins[j] B2 d2) (a3l V _ _) ae.cell;have E:=a5.o wr S t.ins[j] V B2 d2 ae.nul (by have:=aG.o trivial _ (Qu R);omega) ae.sec;have aI:t.ins.getD (L.getD i 0).toNat default=t.ins[j]:=by rw[hj];simp[List.getD,R]
   have az:b3P C Lk t (L.take (i+1))=inQ C Lk t.ins[j]:=by
    rw[Qe I,b3u _ _ H,b3P,b3s aD R,b3P]
    split<;>simp_all
   have D:inQ C Lk t.ins[j]≠0->b3P C Lk t L=inQ C Lk t.ins[j]:=λa7=>by
    have e:L=L.take i++(L[i]::L.drop (i+1)):=by rw[List.getElem_cons_drop,ZW]
    rw[e,b3u _ _ H,b3P,b3s aD R,if_pos a7]
   rw[aI]at ab;rw[hj]at bm;have U:=λX (J:Below wr.heap.size wr X)=>(J.cell (p:=⟨g2,o2+j*35+33,none⟩) aZ).trans (ae.cell 33 _ (c3t V _ _))
   have bu:=V.am;have br:=b2Z t L i;have⟨am,aB⟩:=η0 ((t.ins[j]).am);simp only[aB]at U;rw[aB]at ab bu;have k0:=K0.o wr F;have aH:=λX (J:Below wr.heap.size wr X)=>K0.o X (F.trans (J.mono F.size))
   have⟨ni,aE⟩:=η0 t.ins.length;rw[aE]at k0;simp only[aE]at aH;have bC:(j:Int)<ni:=ρo;have bD:(0:Int)<=(j:Int):=ρo
   generalize a8:a7L t L i=si at ab br⊢
   have⟨iv,a3⟩:=η0 (inV t.ins[j] B2 d2);rw[a3]at aq E;have⟨qe,G⟩:=η0 (inQ C Lk t.ins[j]);rw[G]at E az D;subst bo;have⟨bj,bw,aF,bz,a2,bt,af⟩:=η7 ab az D T U aH S;clear ab az D T U aH S ae aI aB aE a8 hj V s1 Z F G a3 aD aQ aZ;go_wp2_with fail;refine μi E ?_;intro w3 Y;have bx:=a2.o w3 Y;have bs:=bt.o w3 Y;clear E aq;have aS:=φt af Y;have au:=φt bz Y;have⟨bp,a4⟩:=η2 aS au;clear aS au Y
   by_cases G:qe=0
   ·subst G
    go_wp2;go_roundg (Nv-(i+1));exact⟨i+1,by omega,by go_num,by rw[bj.o],bw.o,a4.o⟩;omega
   have bE:(qe != 0)=true:=ρw G;have ac:=a1.o;have aO:=aF.o G;rw[aO,if_pos G]at ac;subst ac;clear aO G bx bs;go_wp2;go_ret2;exact⟨rfl,bp.o⟩
  obtain rfl:i=Nv:=ρo;have a0:¬(i:Int)<i:=ρo;rw[bh.o];have ac:=a1.o;rw[Qb (by rw[HN.o];exact Qg _)]at H;rw[H,if_neg ρp]at ac;subst ac;have af:=η1 S;clear S T F H;go_wp2;go_ret2;exact⟨rfl,af.o⟩
 have K:=HQ.o;rw[if_pos ai]at K;subst K;have bF:(ck != 0)=true:=ρw ai;clear ai an ao;go_wp2;go_ret2;exact⟨rfl,aU.o⟩
end
section
theorem d0F:prog.underlying 204=some (.slice 189):=ρk
theorem d3x:(prog.info? 189).map (λi=>(i.zero.map (·.cells.size),i.size,i.bytes))=some (some 33,33,40):=ρk
theorem d2j:(prog.info? 189).map (λi=>(i.zero.map (·.cells.size),i.size))=some (some 33,33):=ρk
theorem d3h:prog.underlying 209=some (.slice 212):=ρk
theorem d3I:(prog.info? 212).map (λi=>(i.zero.map (·.cells.size),i.size,i.bytes))=some (some 33,33,40):=ρk
theorem d2U:(prog.info? 212).map (λi=>(i.zero.map (·.cells.size),i.size))=some (some 33,33):=ρk
theorem c4Q(xs:AV)(t:TI):Builtin.append_ #[204,204] t xs=APs #[204,204] t xs:=rfl
theorem c4k(n:Nat)(a:Array (Nat×VL)):Instr.buildSlice 204 n a=BSs 204 n a:=rfl
theorem c5S(xs:AV)(t:TI):Builtin.append_ #[209,209] t xs=APs #[209,209] t xs:=rfl
theorem c4p(n:Nat)(a:Array (Nat×VL)):Instr.buildSlice 209 n a=BSs 209 n a:=rfl
attribute [local go_sem] Oper.semAt_some
attribute [local go_sem ↓] a1F a4Z a5p a9U b0n b0f c4Q c4k c5S c4p
theorem b9E(gf:Nat)(lb:AV)(b:∀args w,(callFunc gf args).run prog w=.ok (.enter gf args) w){S d:List {a // ptE.ok a}->Prop}(f:N<=1000000)(w:WD)
  (hseq:SeqStopsK Fence.wide 7 prog gf lb (λx:{a // ptE.ok a}=>#[.agg (ptE.e x.1).toArray]) KeepsWalks S d N w):
  Calls prog 258 #[.slice none 0 0,.func (.func gf) #[] lb] w λe w'=>∃v ss,e=.returned v/\S ss/\a0T 189 33 w.heap.size w' v (ss.map (λx=>ptE.e x.1))/\Below w.heap.size w w':=by
 have⟨g,hg⟩:=ηs w;have b0:=Qd w 204 #[.slice none 0 0];have T:=ρb w (.cells #[.slice none 0 0] 204);obtain⟨Z,ad,aa,hz⟩:=P8 (t:=189) a1H c3w;have⟨W0,R⟩:=η0 (w.alloc (.cells #[.slice none 0 0] 204));have ak:W0.heap.size=g+1:=by rw[<-R,Qi,hg]
 rw[R]at b0 T;rw[hg]at b0 T;have⟨aB,aG,HG,aD,aq,ai,aA⟩:=η7 ad aa hg R T ak b0;clear ad aa R T ak b0;refine(callsIn_wide (n:=8)).1 ?_;refine callsIn_of_wp_marks func258 rfl trivial ?_ rfl;refine wpIn_wide.2 ?_;simp only[ntmps258,Qc,Qy,Qv,Nat.reduceAdd,Nat.reduceSub,QW,QX,Ze,QZ,QF,QG];go_wp2_with fail;rw[aD.o]
 try rw[HG.o]
 refine(wpIn_wide (n:=8)).1 ?_
 refine wpIn_rangeFunc_ownH rfl ρo (gf:=gf) (lb:=lb) rfl trivial b hseq walksK_t (walksK_b) (ρy HG.o aq.o) (λ_=>rfl)
  (λJ W=>∃v,Blk W g 204 #[v]/\a0T 189 33 g W v (J.map (λx=>ptE.e x.1))/\Below g w W)
  (λc J W=>False)
  (λs X Y row hs V hr=>?b2)
  (λc s X Y row hs V hr=>hs)
  ⟨_,aA.o,a0T.nil _ _ _ _,aq.o⟩
  (λx a' W=>∃p,g<p/\Blk W p 189 (ptE.e x.1).toArray/\a'={tmps:=#[.slice none 0 0,.func (.func gf) #[] lb,.pointer g,undef,.slice none 0 0,.pointer (some ⟨p,0,none⟩),.func (.func gf) #[] lb,.agg (ptE.e x.1).toArray,undef,undef,undef,undef,undef],defers:=[]})
  (λx a' s X Y row hs V hr=>?b3)
  ?assign ?body ?done ?stop
 case b2=>
  obtain⟨v,y,z,I⟩:=hs;have ag:=a8m V
  have K:∀r cs t,row=some r->Blk X r t cs->False:=λr cs t e hb=>by
   obtain⟨_,ob,B,hc⟩:=hr r e;rw[show X.heap[r]? =_ from hb]at B
   cases B
   cases hc
  refine⟨v,y.fr ag (λe=>K _ _ _ e y),z.fr ag (λj H e=>?_),?_⟩
  ·obtain⟨cs,E,_⟩:=a2B z.own H
   exact K _ _ _ e E
  exact I.trans (ag.below (ρh I.size) (λk hk e=>by have:=(hr k e).1;rw[ai.o]at this;omega))
 case b3=>
  obtain⟨p,k0,y,z⟩:=hs;refine⟨p,k0,y.fr (a8m V) (λe=>?_),z⟩;obtain⟨_,ob,B,hc⟩:=hr p e;rw[show X.heap[p]? =_ from y]at B
  cases B
  cases hc
 case assign=>
  rintro l' J x W KK ⟨v,y,z,I⟩ hK;have⟨Q,m⟩:=η0 (ptE.e x.1);have O:Q.length=33:=by rw[<-m];exact a1x x.2.len _
  have af:∀u∈Q,u.oneCell'=true:=by rw[<-m];exact a2p _ _
  have ad:=aB.o W;have aL:=aG.o W Q O af;have aO:=y.lt
  have ar:=hK {tmps:=#[.slice none 0 0,.func (.func gf) #[] lb,.pointer g,undef,.slice none 0 0,.pointer (some ⟨W.heap.size,0,none⟩),.func (.func gf) #[] lb,.agg (ptE.e x.1).toArray,undef,undef,undef,undef,undef],defers:=[]} (W.alloc (.cells Q.toArray 189))
   ((KeepsOthers.alloc _ _).from _) (KeepsWalks.alloc _ _) ⟨v,y.alloc _,z.alloc _,I.alloc (ρh I.size) _⟩ ⟨W.heap.size,y.lt,by rw[m];exact Qd W _ _,rfl⟩
  clear hK y z I;simp only[m]at ar⊢
  gi_wp2
  exact ar
 case body=>
  rintro l' J x a' W aF ⟨r,hr⟩ ⟨v,y,z,I⟩ ⟨p,k0,kp,rfl⟩ aK;have⟨Q,m⟩:=η0 (ptE.e x.1);have O:Q.length=33:=by rw[<-m];exact a1x x.2.len _
  have af:∀u∈Q,u.oneCell'=true:=by rw[<-m];exact a2p _ _
  rw[m]at kp;rw[m];have aJ:=P4 a3a a1H Q kp O;have ax:=Pd d0F d2j ρo ρo W (.agg Q.toArray) (by simp only[Value.cells,Qc];exact O);obtain⟨v9,w9,aM,ae,ac,an⟩:=a5o (P:=prog) (ty:=204) d0F d3x ρo ρo z Q O af (by simp;omega) (ρh I.size);obtain⟨A,nn,c,rfl,av⟩:=z.formN;obtain⟨A9,n9,c9,rfl,aH⟩:=ae.formN;have c0:W.cell? ⟨g,0,none⟩=some (.slice A nn c):=y.cell 0;have ab:=a4l z.own y ρd;have U:=y.fr ac (λe=>ab e);have aI:w9.cell? ⟨g,0,none⟩=some (.slice A nn c):=U.cell 0;have f9:=U.frozen 0;have⟨K1,K2,K3,KP,al,O9,F9,aC⟩:=η8 y z I kp U ae ac m;have aN:=η1 av;clear y z I kp U ae ac an ab m aF hr av aH;simp only[Value.cells]at ax
  gi_wp2
  have hF:Fr (λj=>j=g\/(Value.slice A nn c).ownBlock=some j) W (w9.setCell ⟨g,0,none⟩ (.slice A9 n9 c9)):=((F9.o).mono (G:=λj=>j=g\/(Value.slice A nn c).ownBlock=some j) (λj _ h=>.inr h)).setCell (p:=⟨g,0,none⟩) (λ_=>.inl rfl) _;refine⟨KeepsOthers.from (a4P hF (λj o H B=>?_)) _,(a4P hF (λj o H B=>?_)).walks,⟨.slice A9 n9 c9,by simpa using al.set_ 0 (.slice A9 n9 c9),?_,?_⟩⟩
  ·rcases H with rfl | H
   ·rw[show W.heap[j]? =_ from K1.o]at B
    cases B
    rfl
   obtain⟨cs,E,_⟩:=a2B K2.own H;rw[show W.heap[j]? =_ from E]at B
   cases B
   rfl
  ·rcases H with rfl | H
   ·rw[show W.heap[j]? =_ from K1.o]at B
    cases B
    rfl
   obtain⟨cs,E,_⟩:=a2B K2.own H;rw[show W.heap[j]? =_ from E]at B
   cases B
   rfl
  ·rw[QV,Yl,List.map_nil,aC.o]
   have az:=a4l O9.own al.o ρd;exact O9.fr (F:=λj=>j=g) ((Qp (λj=>j=g) w9).setCell (p:=⟨g,0,none⟩) (λ_=>rfl) _) (λj H e=>az (e ▸ H))
  exact K3.trans (hF.below (ρh K3.o.size) (λk hk e=>by
   rcases e with rfl | e
   ·omega
   have:=(K2.lt e).1;omega))
 case done=>
  rintro D ys W hD hS ⟨v,y,z,I⟩ hK;have c0:W.cell? ⟨g,0,none⟩=some v:=y.cell 0
  have aj:∀r cs t,Blk W r t cs->r≠D:=λr cs t hb e=>by
   have h1:=hK;rw[<-e,show W.heap[r]? =_ from hb]at h1
   cases h1
  have⟨K1,K2,K3,ah,au,ay,aE⟩:=η7 y z I hK hD aj hS;clear y z I hK hD aj hS;go_wp2_with fail;refine⟨by simp,.inl ⟨_,_,rfl,run_takeDeferred ah.o,?_⟩⟩;have ao:=c2Y (.deferred none) au.o ah rfl rfl
  refine⟨_,results_tmp rfl _ _ _,v,ys,rfl,aE.o,(show a0T 189 33 w.heap.size _ v _ by rw[HG.o];exact K2.fr ao (λj H e=>by
   obtain⟨cs,E,_⟩:=a2B K2.own H;exact ay.o _ _ _ E e)),(show Below w.heap.size w _ by rw[HG.o];exact K3.trans (ao.below (ρi K3.o.size HG.o) (λk hk e=>by have:=au.o;have:=ai.o;omega)))⟩
 case stop=>
  rintro D c J W _ _ hF _;exact hF.elim
theorem b4H(gf:Nat)(lb:AV)(b:∀args w,(callFunc gf args).run prog w=.ok (.enter gf args) w){S d:List {a // ptE.ok a}->Prop}(f:N<=1000000)(w:WD)
  (hseq:SeqStopsK Fence.wide 7 prog gf lb (λx:{a // ptE.ok a}=>#[.agg (ptE.e x.1).toArray]) KeepsWalks S d N w):
  Calls prog 226 #[.func (.func gf) #[] lb] w λe w'=>∃v ss,e=.returned v/\S ss/\a0T 189 33 w.heap.size w' v (ss.map (λx=>ptE.e x.1))/\Below w.heap.size w w':=by
 have o:=b9E gf lb b f w hseq;clear hseq;go_enter func226,ntmps226;go_wp2_with fail;refine μ1 o ?_;rintro r p ⟨v,ss,rfl,j,g,m⟩;go_wp2;go_ret;exact⟨v,ss,rfl,j,g,m⟩
theorem b8E(gf:Nat)(lb:AV)(b:∀args w,(callFunc gf args).run prog w=.ok (.enter gf args) w){S d:List {a // keE.ok a}->Prop}(f:N<=1000000)(w:WD)
  (hseq:SeqStopsK Fence.wide 7 prog gf lb (λx:{a // keE.ok a}=>#[.agg (keE.e x.1).toArray]) KeepsWalks S d N w):
  Calls prog 261 #[.slice none 0 0,.func (.func gf) #[] lb] w λe w'=>∃v ss,e=.returned v/\S ss/\a0T 212 33 w.heap.size w' v (ss.map (λx=>keE.e x.1))/\Below w.heap.size w w':=by
 have⟨g,hg⟩:=ηs w;have b0:=Qd w 209 #[.slice none 0 0];have T:=ρb w (.cells #[.slice none 0 0] 209);obtain⟨Z,ad,aa,hz⟩:=P8 (t:=212) c1B d1x;have⟨W0,R⟩:=η0 (w.alloc (.cells #[.slice none 0 0] 209));have ak:W0.heap.size=g+1:=by rw[<-R,Qi,hg]
 rw[R]at b0 T;rw[hg]at b0 T;have⟨aB,aG,HG,aD,aq,ai,aA⟩:=η7 ad aa hg R T ak b0;clear ad aa R T ak b0;refine(callsIn_wide (n:=8)).1 ?_;refine callsIn_of_wp_marks func261 rfl trivial ?_ rfl;refine wpIn_wide.2 ?_;simp only[ntmps261,Qc,Qy,Qv,Nat.reduceAdd,Nat.reduceSub,QW,QX,Ze,QZ,QF,QG];go_wp2_with fail;rw[aD.o]
 try rw[HG.o]
 refine(wpIn_wide (n:=8)).1 ?_
 refine wpIn_rangeFunc_ownH rfl ρo (gf:=gf) (lb:=lb) rfl trivial b hseq walksK_t (walksK_b) (ρy HG.o aq.o) (λ_=>rfl)
  (λJ W=>∃v,Blk W g 209 #[v]/\a0T 212 33 g W v (J.map (λx=>keE.e x.1))/\Below g w W)
  (λc J W=>False)
  (λs X Y row hs V hr=>?b2)
  (λc s X Y row hs V hr=>hs)
  ⟨_,aA.o,a0T.nil _ _ _ _,aq.o⟩
  (λx a' W=>∃p,g<p/\Blk W p 212 (keE.e x.1).toArray/\a'={tmps:=#[.slice none 0 0,.func (.func gf) #[] lb,.pointer g,undef,.slice none 0 0,.pointer (some ⟨p,0,none⟩),.func (.func gf) #[] lb,.agg (keE.e x.1).toArray,undef,undef,undef,undef,undef],defers:=[]})
  (λx a' s X Y row hs V hr=>?b3)
  ?assign ?body ?done ?stop
 case b2=>
  obtain⟨v,y,z,I⟩:=hs;have ag:=a8m V
  have K:∀r cs t,row=some r->Blk X r t cs->False:=λr cs t e hb=>by
   obtain⟨_,ob,B,hc⟩:=hr r e;rw[show X.heap[r]? =_ from hb]at B
   cases B
   cases hc
  refine⟨v,y.fr ag (λe=>K _ _ _ e y),z.fr ag (λj H e=>?_),?_⟩
  ·obtain⟨cs,E,_⟩:=a2B z.own H
   exact K _ _ _ e E
  exact I.trans (ag.below (ρh I.size) (λk hk e=>by have:=(hr k e).1;rw[ai.o]at this;omega))
 case b3=>
  obtain⟨p,k0,y,z⟩:=hs;refine⟨p,k0,y.fr (a8m V) (λe=>?_),z⟩;obtain⟨_,ob,B,hc⟩:=hr p e;rw[show X.heap[p]? =_ from y]at B
  cases B
  cases hc
 case assign=>
  rintro l' J x W KK ⟨v,y,z,I⟩ hK;have⟨Q,m⟩:=η0 (keE.e x.1);have O:Q.length=33:=by rw[<-m];exact a6m x.2.len _
  have af:∀u∈Q,u.oneCell'=true:=by rw[<-m];exact a7K _ _
  have ad:=aB.o W;have aL:=aG.o W Q O af;have aO:=y.lt
  have ar:=hK {tmps:=#[.slice none 0 0,.func (.func gf) #[] lb,.pointer g,undef,.slice none 0 0,.pointer (some ⟨W.heap.size,0,none⟩),.func (.func gf) #[] lb,.agg (keE.e x.1).toArray,undef,undef,undef,undef,undef],defers:=[]} (W.alloc (.cells Q.toArray 212))
   ((KeepsOthers.alloc _ _).from _) (KeepsWalks.alloc _ _) ⟨v,y.alloc _,z.alloc _,I.alloc (ρh I.size) _⟩ ⟨W.heap.size,y.lt,by rw[m];exact Qd W _ _,rfl⟩
  clear hK y z I;simp only[m]at ar⊢
  gi_wp2
  exact ar
 case body=>
  rintro l' J x a' W aF ⟨r,hr⟩ ⟨v,y,z,I⟩ ⟨p,k0,kp,rfl⟩ aK;have⟨Q,m⟩:=η0 (keE.e x.1);have O:Q.length=33:=by rw[<-m];exact a6m x.2.len _
  have af:∀u∈Q,u.oneCell'=true:=by rw[<-m];exact a7K _ _
  rw[m]at kp;rw[m];have aJ:=P4 c7f c1B Q kp O;have ax:=Pd d3h d2U ρo ρo W (.agg Q.toArray) (by simp only[Value.cells,Qc];exact O);obtain⟨v9,w9,aM,ae,ac,an⟩:=a5o (P:=prog) (ty:=209) d3h d3I ρo ρo z Q O af (by simp;omega) (ρh I.size);obtain⟨A,nn,c,rfl,av⟩:=z.formN;obtain⟨A9,n9,c9,rfl,aH⟩:=ae.formN;have c0:W.cell? ⟨g,0,none⟩=some (.slice A nn c):=y.cell 0;have ab:=a4l z.own y ρd;have U:=y.fr ac (λe=>ab e);have aI:w9.cell? ⟨g,0,none⟩=some (.slice A nn c):=U.cell 0;have f9:=U.frozen 0;have⟨K1,K2,K3,KP,al,O9,F9,aC⟩:=η8 y z I kp U ae ac m;have aN:=η1 av;clear y z I kp U ae ac an ab m aF hr av aH;simp only[Value.cells]at ax
  gi_wp2
  have hF:Fr (λj=>j=g\/(Value.slice A nn c).ownBlock=some j) W (w9.setCell ⟨g,0,none⟩ (.slice A9 n9 c9)):=((F9.o).mono (G:=λj=>j=g\/(Value.slice A nn c).ownBlock=some j) (λj _ h=>.inr h)).setCell (p:=⟨g,0,none⟩) (λ_=>.inl rfl) _;refine⟨KeepsOthers.from (a4P hF (λj o H B=>?_)) _,(a4P hF (λj o H B=>?_)).walks,⟨.slice A9 n9 c9,by simpa using al.set_ 0 (.slice A9 n9 c9),?_,?_⟩⟩
  ·rcases H with rfl | H
   ·rw[show W.heap[j]? =_ from K1.o]at B
    cases B
    rfl
   obtain⟨cs,E,_⟩:=a2B K2.own H;rw[show W.heap[j]? =_ from E]at B
   cases B
   rfl
  ·rcases H with rfl | H
   ·rw[show W.heap[j]? =_ from K1.o]at B
    cases B
    rfl
   obtain⟨cs,E,_⟩:=a2B K2.own H;rw[show W.heap[j]? =_ from E]at B
   cases B
   rfl
  ·rw[QV,Yl,List.map_nil,aC.o]
   have az:=a4l O9.own al.o ρd;exact O9.fr (F:=λj=>j=g) ((Qp (λj=>j=g) w9).setCell (p:=⟨g,0,none⟩) (λ_=>rfl) _) (λj H e=>az (e ▸ H))
  exact K3.trans (hF.below (ρh K3.o.size) (λk hk e=>by
   rcases e with rfl | e
   ·omega
   have:=(K2.lt e).1;omega))
 case done=>
  rintro D ys W hD hS ⟨v,y,z,I⟩ hK;have c0:W.cell? ⟨g,0,none⟩=some v:=y.cell 0
  have aj:∀r cs t,Blk W r t cs->r≠D:=λr cs t hb e=>by
   have h1:=hK;rw[<-e,show W.heap[r]? =_ from hb]at h1
   cases h1
  have⟨K1,K2,K3,ah,au,ay,aE⟩:=η7 y z I hK hD aj hS;clear y z I hK hD aj hS;go_wp2_with fail;refine⟨by simp,.inl ⟨_,_,rfl,run_takeDeferred ah.o,?_⟩⟩;have ao:=c2Y (.deferred none) au.o ah rfl rfl
  refine⟨_,results_tmp rfl _ _ _,v,ys,rfl,aE.o,(show a0T 212 33 w.heap.size _ v _ by rw[HG.o];exact K2.fr ao (λj H e=>by
   obtain⟨cs,E,_⟩:=a2B K2.own H;exact ay.o _ _ _ E e)),(show Below w.heap.size w _ by rw[HG.o];exact K3.trans (ao.below (ρi K3.o.size HG.o) (λk hk e=>by have:=au.o;have:=ai.o;omega)))⟩
 case stop=>
  rintro D c J W _ _ hF _;exact hF.elim
theorem b5i(gf:Nat)(lb:AV)(b:∀args w,(callFunc gf args).run prog w=.ok (.enter gf args) w){S d:List {a // keE.ok a}->Prop}(f:N<=1000000)(w:WD)
  (hseq:SeqStopsK Fence.wide 7 prog gf lb (λx:{a // keE.ok a}=>#[.agg (keE.e x.1).toArray]) KeepsWalks S d N w):
  Calls prog 230 #[.func (.func gf) #[] lb] w λe w'=>∃v ss,e=.returned v/\S ss/\a0T 212 33 w.heap.size w' v (ss.map (λx=>keE.e x.1))/\Below w.heap.size w w':=by
 have o:=b8E gf lb b f w hseq;clear hseq;go_enter func230,ntmps230;go_wp2_with fail;refine μ1 o ?_;rintro r p ⟨v,ss,rfl,j,g,m⟩;go_wp2;go_ret;exact⟨v,ss,rfl,j,g,m⟩
end
section
theorem b7j:a3s prog 34=some [(0,1),(1,1),(2,32),(34,1),(35,1),(36,1)]:=ρk
theorem b6W:(((prog.info? 34).bind (·.zero)).map (·.cells.toList))=some (a0x a4i):=ρk
def a7R:LI:=List.replicate 32 0
theorem a7x:a7R.length=32:=by simp[a7R]
theorem Dig.zIdY:Dig a7R:=ZZ
theorem c0K(h:tx.length=32)(am a v:Int):(a0x ⟨k,0,tx,am,a,0⟩).take 35++(Value.int .i64 v).cells.toList++(a0x ⟨k,0,tx,am,a,0⟩).drop (35+1)=a0x ⟨k,0,tx,am,v,0⟩:=by
 have d:(bys tx).length=32:=by rw[a0a,h]
 have t1:List.take 33 (bys tx)=bys tx:=Qb ρo;have b:List.drop 34 (bys tx)=[]:=Yc ρo;simp[a0x,Value.cells,QT,QR,d,t1,b]
theorem c2j(h:tx.length=32)(am a v:Int):(a0x ⟨k,0,tx,am,a,0⟩).take 34++(Value.int .u64 v).cells.toList++(a0x ⟨k,0,tx,am,a,0⟩).drop (34+1)=a0x ⟨k,0,tx,v,a,0⟩:=by
 have d:(bys tx).length=32:=by rw[a0a,h]
 have t1:List.take 32 (bys tx)=bys tx:=Qb ρo;have b:List.drop 33 (bys tx)=[]:=Yc ρo;simp[a0x,Value.cells,QT,QR,d,t1,b]
theorem d1i{a:LI}(h:tx.length=32)(d:a.length=32)(am b:Int):(a0x ⟨k,0,tx,am,b,0⟩).take 2++(Value.agg (bys a).toArray).cells.toList++(a0x ⟨k,0,tx,am,b,0⟩).drop (2+32)=a0x ⟨k,0,a,am,b,0⟩:=by
 have g:(bys tx).length=32:=by rw[a0a,h]
 have f:(bys a).length=32:=by rw[a0a,d]
 have j:List.drop 32 (bys tx)=[]:=Yc ρo;simp[a0x,Value.cells,QT,QR,g,j]
theorem b7Y(k:Int):(a0x a4i).take 0++(Value.int .i64 k).cells.toList++(a0x a4i).drop (0+1)=a0x ⟨k,0,a7R,0,0,0⟩:=rfl
theorem a7F(h:tx.length=32)(am a:Int):(a0x ⟨k,0,tx,am,a,0⟩).length=37:=by simp[a0x,a0a,h]
theorem b2Q(k a:Int)(w:WD):(BDs 34 #[(0,.int .i64 k),(4,.int .i64 a)]).run prog w=.ok (.agg (a0x ⟨k,0,a7R,0,a,0⟩).toArray) w:=by
 refine a2H b7j b6W _ _ ?_ w;rw[a0v (off:=0) (size:=1) rfl rfl (by rw[a0u a3T];omega),b7Y,a0v (off:=35) (size:=1) rfl rfl (by rw[a7F a7x];omega),c0K a7x,a1Y]
theorem c4C(k am:Int)(w:WD):(BDs 34 #[(0,.int .i64 k),(3,.int .u64 am)]).run prog w=.ok (.agg (a0x ⟨k,0,a7R,am,0,0⟩).toArray) w:=by
 refine a2H b7j b6W _ _ ?_ w;rw[a0v (off:=0) (size:=1) rfl rfl (by rw[a0u a3T];omega),b7Y,a0v (off:=34) (size:=1) rfl rfl (by rw[a7F a7x];omega),c2j a7x,a1Y]
theorem b4k(k am a:Int)(w:WD):(BDs 34 #[(0,.int .i64 k),(3,.int .u64 am),(4,.int .i64 a)]).run prog w=.ok (.agg (a0x ⟨k,0,a7R,am,a,0⟩).toArray) w:=by
 refine a2H b7j b6W _ _ ?_ w;rw[a0v (off:=0) (size:=1) rfl rfl (by rw[a0u a3T];omega),b7Y,a0v (off:=34) (size:=1) rfl rfl (by rw[a7F a7x];omega),c2j a7x,a0v (off:=35) (size:=1) rfl rfl (by rw[a7F a7x];omega),c0K a7x,a1Y]
theorem a7g(k:Int)(h:tx.length=32)(am a:Int)(w:WD):(BDs 34 #[(0,.int .i64 k),(2,.agg (bys tx).toArray),(3,.int .u64 am),(4,.int .i64 a)]).run prog w=.ok (.agg (a0x ⟨k,0,tx,am,a,0⟩).toArray) w:=by
 have b:(bys tx).length=32:=by rw[a0a,h]
 refine a2H b7j b6W _ _ ?_ w;rw[a0v (off:=0) (size:=1) rfl rfl (by rw[a0u a3T];omega),b7Y,a0v (off:=2) (size:=32) rfl (by simp[Value.cells,b]) (by rw[a7F a7x];omega),d1i a7x h,a0v (off:=34) (size:=1) rfl rfl (by rw[a7F h];omega),c2j h,a0v (off:=35) (size:=1) rfl rfl (by rw[a7F h];omega),c0K h,a1Y]
theorem b1v{am a:Int}(d:0<=k/\k<=63)(ht:Dig tx)(b:0<=am/\am<=18446744073709551615)(f:0<=a/\a<=63):(⟨k,0,tx,am,a,0⟩:a1P).Bd:=
 ⟨by show InI k;unfold InI;omega,by simp[InI],ht,b,by show InI a;unfold InI;omega,by simp[InI]⟩
def b5q(seed:LI)(x:ShD)(cmd:LI)(ep:Int):Except Int (ShD×RpD):=
 if ep<=x.ep then .error 24 else if x.ep+1<ep then .error 5 else b9r seed {x with ep:=ep} cmd ⟨3,0,a7R,0,7,0⟩
attribute [local go_sem ↓] a1G a1M a3j
theorem c5V(B d:Nat)(b:ShB)(N:List Nat)(seed:LI)(x:ShD)(A:OA)(n c:Nat)(a:LI)(o:n=a.length)(z:A=none->c=0)(m:a.length<=100000000)(ep:Int)(f:-9223372036854775808<=ep/\ep<=1099511627776)(w:WD)
  (h:a1e w d b N seed x) (hB:∀j∈d::b.own,B<=j) (hby:b9j B w A a) (hgl:a8S B w):
  Calls prog 92 #[.pointer d,.slice A n c,.int .i64 ep] w λe w'=>a6x B d N seed (b5q seed x a ep) e w'/\b1q B d seed w w':=by
 generalize D:b5q seed x a ep=q
 unfold b5q at D;have⟨g,hg⟩:=ηs w;have ar:=a5k w;have⟨zs,ae⟩:=η0 ((a0O 0 false a0r none 0).toArray);have aa:zs.size=139:=by rw[<-ae,Qc];exact a0A a0B _ _ _ _
 rw[ae,hg]at ar;have bz:=Qd w 41 zs;have B0:=ρb w (.cells zs 41)
 generalize hV:w.alloc (.cells zs 41)=V at ar bz B0
 have G:=a4m.begin h hB B0 (r:=w.heap.size) ⟨Qg _,bz.lt⟩ (K:=[(w.heap.size,41,zs)]) (λq D=>by simp only[Qn]at D;subst D;exact⟨Qg _,bz⟩);rw[hg]at G;have I:=λb=>a0X b 24 V
 have aA:=λb=>a0X b 5 V
 have Q:=a1o V;have ab:=a1m 24 ρo V;have ad:=a1m 5 ρo V;have q3:=G.sh.c.2.2.2.1;have T:=G.sh.ok.ep;have aq:IntKind.i64.wrap (x.ep+1)=x.ep+1:=by rw[IntKind.wrap_i64];omega
 have⟨HX,HQ,aK,aF,aH,aQ,aO,aS⟩:=η8 G D aa hby hgl o z m;have⟨HG,aB,aG,aP⟩:=η4 hg aA f T;clear G D aa hby hgl o z m hg aA f T ae bz B0 h hB;go_enter func92,ntmps92
 by_cases h1:ep<=x.ep
 ·have D:=HQ.o
  rw[if_pos h1]at D;subst D;have hi:=I true;simp only[if_true]at hi;have ax:decide (ep<=x.ep)=true:=ρw h1;clear I Q ad aq;go_wp2_with fail;refine μf hi ?_;go_wp2_with fail;refine μf ab ?_;exact⟨rfl,HX.ref ρo⟩
 have hi:=I false;simp only[QI,if_false]at hi;have ax:decide (ep<=x.ep)=false:=ρw h1;go_wp2_with fail;refine μf hi ?_;go_wp2_with fail;refine μf Q ?_;clear hi I ab ax;have D:=HQ.o;rw[if_neg ρo]at D
 by_cases h2:x.ep+1<ep
 ·rw[if_pos h2]at D
  subst D;have hi:=aB.o true;simp only[if_true]at hi;have au:decide (x.ep+1<ep)=true:=ρw h2;clear Q;go_wp2_with fail;refine μf hi ?_;go_wp2_with fail;refine μf ad ?_;exact⟨rfl,HX.ref ρo⟩
 rw[if_neg h2]at D;have hi:=aB.o false;simp only[QI,if_false]at hi;have au:decide (x.ep+1<ep)=false:=ρw h2;go_wp2_with fail;refine μf hi ?_;go_wp2_with fail;refine μf Q ?_;clear hi ad Q au;have G:=HX.o;have z3:=G.sh.st.frozen 3;have k3:=G.sh.st.set_ 3 (.int .i64 ep);rw[d0G]at k3;have f3:Fr (λk=>k=d) V (V.setCell ⟨d,3,none⟩ (.int .i64 ep)):=(Qp (λk=>k=d) V).setCell (p:=⟨d,3,none⟩) (λ_=>rfl) _
 generalize hY:V.setCell ⟨d,3,none⟩ (.int .i64 ep)=Y at k3 f3
 have f:=aG.o;have T:=aP.o;have O:b9N {x with ep:=ep}:={G.sh.ok with ep:=⟨by show 0<=ep;omega,by show ep<=_;omega⟩};have⟨y,hy⟩:=η0 ({x with ep:=ep});rw[hy]at k3 O D;have R:=G.step' (G.sh.upd f3 k3 O (by rw[<-hy]) (by rw[<-hy]) (by rw[<-hy]) (by rw[<-hy]) (by rw[<-hy]) (by rw[<-hy])) (f3.mono (λk _ e=>a8B d b k e));have aE:=b2Q 3 7;have af:(⟨3,0,a7R,0,7,0⟩:a1P).Bd:=b1v ρo Dig.zIdY ρo ρo;have J:=a5C d b (g::N) seed y A n c a aQ aO aS ⟨3,0,a7R,0,7,0⟩ af Y R.sh (aF.go R.fr).at_ (aH.go R.fr).at_;have⟨e0,ac⟩:=η0 ((⟨3,0,a7R,0,7,0⟩:a1P):a1P);rw[ac]at J D af;simp only[ac]at aE;have⟨ev,aj⟩:=η0 ((a0x e0).toArray);rw[aj]at J;simp only[aj]at aE;unfold b9r at D;have⟨Z,aR,HY⟩:=η3 R D hY;clear R D hY G k3 f3 f T O hy af ac aj aq h2;go_wp2_with fail;rw[HY.o];refine μ1 J ?_;rintro e5 w5 ⟨al,an⟩;clear J;have D:=aR.o;have S:=an.mono (λk _ e=>a8B d b k e)
 rcases al with⟨O,A5,H,rfl,P,ay⟩ | ⟨aI,hk,rfl⟩
 rotate_left
 ·rw[if_neg (by rw[aI];simp)]at D
  subst D;exact⟨rfl,Z.refF S hk⟩
 rw[if_pos O]at D;subst D
 generalize az:a9F seed y a e0=cc at P⊢
 have ah:=Z.step' ay S;have F:=a5d cc P.1 A5 H w5;have ao:g<Y.heap.size:=(Z.kp _ Qr).1.lt;have aD:=Z.sz;have W:=a0A P.1 0 true A5 H;have U:=λX G=>(ah.below (X':=X) G).sto Qr aK.o (a0O 0 true cc A5 H) W (a0W _ _ _ _ _)
 have E:=λX G=>(ah.below (X':=X) G).fin Qr (N0:=N) (λj hj=>Qj _ hj) (y0:={y with h:=a4T y a e0}) rfl (rp:=a2O cc) aD ao (P.below G) rfl
 have⟨rs,ak⟩:=η0 (a0O 0 true cc A5 H);simp only[a2O,ak]at U E F;rw[ak]at W
 generalize aN:a0d cc A5 H=cv at F⊢
 have⟨aT,av,aL,aM⟩:=η4 U E W az;clear U E W az ah P ay an S O ao aD ak aN;go_wp2_with fail;refine μi F ?_;intro w6 ag;have U:=aT.o w6 ag;have E:=av.o w6 ag;have ai:=η1 E;clear E ag;clear F;go_wp2_with fail;obtain⟨dR,aJ,aC⟩:=Q8.1 a7w;refine bodyPost_ret (v:=.agg rs.toArray) (a0c rfl _ _ g _ rs dR rfl ai.2.2 aJ aC (ρy aL.o a4h)) rfl ?_;exact⟨by rw[aM.o];exact ai.1,ai.2.1⟩
end
section
theorem b5E{i:InD}{k:Nat}{v:VL}(h:(ptL (ptI i).1 (ptI i).2)[k]? =some v):(inV i A c)[k]? =some v:=by
 have a:k<(ptL i.tx i.ix).length:=(Qm.1 h).1;unfold inV;rw[QO (by exact a)];exact h
def c2G(n me:Int)(C:List (Pt×a1q))(sC:Int)(Lk:List (Pt×a1J))(t:TxD):List (Pt×a1q)×Int:=if(a1w n me C Lk t).2≠0 then(C,sC)else a6u t (a0M (a2P t n) me) (C,sC)
theorem b6G{n me:Int}{C:List (Pt×a1q)}{Lk:List (Pt×a1J)}{t:TxD}:(a1w n me C Lk t).2≠0->(a1w n me C Lk t).1=0:=by
 unfold a1w;intro h
 split
 ·rfl
 rename_i h1
 rw[if_neg h1]at h
 split
 ·rfl
 rename_i h2
 rw[if_neg h2]at h
 split
 ·rfl
 rename_i h3
 rw[if_neg h3]at h;exact absurd rfl h
attribute [local go_sem ↓] a2q a1F
theorem c9b(B cb cm:Nat)(C:List (Pt×a1q))(sC:Int)(lb lm:Nat)(Lk:List (Pt×a1J))(sL:Int)(b:OA)(d:Nat)(f:OA)(m:Nat)(t:TxD)(n me:Int)(D:-9223372036854775808<=n/\n<=9223372036854775807)(w:WD)(r:a0i w cb cm C sC)(y:a0j w lb lm Lk sL)(h:TxS B w b f t)(E:B<=cb/\B<=cm)(o:a2x w)(F:t.ins.length<=1000000)(z:t.outs.length<=1000000):
  Calls prog 150 #[.agg (txV b d f m t),.int .i64 n,.int .i64 me,.pointer cb,.pointer lb] w λe w'=>e=.returned (.tuple #[.int .u64 (a1w n me C Lk t).1,.int .i64 (a1w n me C Lk t).2])/\a0i w' cb cm (c2G n me C sC Lk t).1 (c2G n me C sC Lk t).2/\Fr (λk=>k=cb\/k=cm) w w':=by
 have⟨q,hq⟩:=η0 (a1w n me C Lk t);have⟨pc,H⟩:=η0 (c2G n me C sC Lk t);have O:=b6G (n:=n) (me:=me) (C:=C) (Lk:=Lk) (t:=t);rw[hq,H];unfold c2G at H;rw[hq]at H O;have Q:=r.st.lt;have T:=r.mp.lt;have b0:=Qd w 53 (txV b d f m t);have B0:=ρb w (.cells (txV b d f m t) 53)
 generalize hW:w.alloc (.cells (txV b d f m t) 53)=W at b0 B0
 have⟨g,hg⟩:=ηs w;rw[hg]at b0;have ab:=λX (hX:Below W W X)=>P4 uTx iTx (w:=X) (txV b d f m t).toList (by simpa using b0.fr (Q9 hX) (ρh b0.lt)) rfl
 have ak:=ab W (Qf _ _);have ad:=λX (hX:Below w w X)=>a6O b d f m t n me D X (h.at_.below hX) (o.below hX) F z
 have N:=a9m cb cm C sC lb lm Lk sL b d f m t n me D W (r.below B0) (y.below B0) (h.at_.below B0) (o.below B0) F z;rw[hq]at N;have an:Blk W g 53 (txV b d f m t):=b0;have ao:=a3I (a2P t n) me;have K:=b0q t n;have aE:=a1V (a2P t n) me;have ay:= @a4q t n;have⟨L,hL⟩:=η0 (a0M (a2P t n) me);rw[hL]at ao H aE;have aL:L.length<=16:=ρo;simp only[hL]at ad
 have ax:∀x∈L,∃i:Nat,x=(i:Int)/\i<t.ins.length:=λx hx=>by
  obtain⟨i,e,hi⟩:=(ao x).1 hx;exact⟨i,e,Qh (Qm.1 hi).1 K⟩
 have⟨xs,V⟩:=η0 (txV b d f m t);have aA:xs[0]? =some (.slice b t.ins.length d):=by rw[<-V];rfl
 simp only[show(txV b d f m t).toList.toArray=txV b d f m t by simp,V]at ab ak;rw[V]at hW N an⊢;simp only[V]at ad;obtain⟨q1,q2⟩:=q;simp only at N H O⊢;have⟨bf,HG,a6,aX,ba,a7,aZ,aG⟩:=η8 aL hg B0 h ax ab ad H;have⟨be,a9,HC,aY,bh,av,bb⟩:=η7 an aA r Q T E O;clear aL hg B0 h ax ab ad H an aA r Q T E O ao K aE ay hL V b0 o y hq;go_enter func150,ntmps150;go_upto_region 1 with fail
 rw[HG.o];go_wp2_with fail;refine μi N ?_;intro w1 aa;have Y:=φt a6 aa;have ag:=a7.o w1 aa;have af:=aZ.o w1 Y;have⟨ac,aN⟩:=η2 Y aa;clear Y aa ak
 by_cases S:q2=0
 ·subst S
  have H:=aG.o;simp only[ne_eq,not_true_eq_false,if_false]at H;go_wp2_with fail;refine μ1 af ?_;rintro e2 w2 ⟨v,u,rfl,hv,hu,aq⟩;obtain⟨Av,Nv,cv,rfl⟩:=hv.formN;have hN:=hv.lenN;have aK:=hv.rd;have bl:Nv<=16:=by have:=bf.o;omega
  have aI:∀a,Av=some a->w1.heap.size<=a.block:=λa ha=>by subst ha;exact(hv.lt (k:=a.block) rfl).1
  have Z:=φt ac aq;have ai:=φt aN aq;have kt:=φf be ai;have aC:=HC.below Z;have⟨az,HN,a2,ar,bc,a4,bi⟩:=η7 H hN aK Z kt aC aI;clear H hN aK Z kt aC aI hv hu aq ag ai;go_upto_region 6 with fail
  go_loopg [17,39] Nv (λkk _ s wr=>∃i:Nat,i+kk=Nv/\s=.int .i64 i/\a0i wr cb cm (a6u t (L.take i) (C,sC)).1 (a6u t (L.take i) (C,sC)).2/\Fr (λk=>k=cb\/k=cm) w2 wr);exact⟨0,by omega,rfl,a4.o,Qp _ _⟩;obtain⟨i,hi,rfl,U,J⟩:=hrel;have Q:=aY.o;have T:=bh.o;have aj:=ar.size
  by_cases aW:i<Nv
  ·have aQ:(i:Int)<Nv:=ρo
   have K:i<L.length:=by rw[<-HN.o];exact aW
   have aV:Below B w wr:=(ar.mono (ρh av.o)).trans (J.below_of (ρh av.o) (λk e=>by have:=av.o;omega));have R:=(aX.go aV).at_;obtain⟨g1,o1,rfl,aD,s1⟩:=a2.at K;have ae:=bi.o _ rfl;simp only at ae;obtain⟨j,hj,al⟩:=ba.o (L.getD i 0) (by simp[List.getD,K]);obtain⟨g2,o2,B2,d2,a8,bg,aP⟩:=R.ins j al;have aB:=R.bd.ins _ (Qu al);have aF:L[i]=(j:Int):=by rw[<-hj];simp[List.getD,K]
   have a5:=(J.cell (p:=⟨g1,o1+i,none⟩) aD (show¬(g1=cb\/g1=cm) by have:=ac.size;omega)).trans s1;have au:=aB.ptY;have ah:=Pf a3a a1H wr g2 (o2+j*35) (ptL (ptI t.ins[j]).1 (ptI t.ins[j]).2) au.vlen (λk v hv=>aP.cell k v (b5E hv));have I:=b1J cb cm _ _ (ptI t.ins[j]) au wr U
   have aM:a6u t (L.take (i+1)) (C,sC)=(b6D (a6u t (L.take i) (C,sC)).1 (ptI t.ins[j]),IntKind.u64.wrap ((a6u t (L.take i) (C,sC)).2-(a1v (a6u t (L.take i) (C,sC)).1 (ptI t.ins[j])).am)):=by
    rw[Qe K,b1X,b3s aF al]
   rw[hj]at a5;have k0:=((bc.fr J (show¬(g=cb\/g=cm) by have:=HG.o;omega)).cell 0).trans a9.o;have⟨ni,aJ⟩:=η0 t.ins.length;rw[aJ]at k0;have bm:(j:Int)<ni:=ρo;have bn:(0:Int)<=(j:Int):=ρo;have⟨pv,bj⟩:=η0 (ptL (ptI t.ins[j]).1 (ptI t.ins[j]).2);rw[bj]at ah I;have⟨co,aU⟩:=η0 (a1s (a1v (a6u t (L.take i) (C,sC)).1 (ptI t.ins[j])));rw[aU]at I;subst a8;have⟨aT,a1⟩:=η2 aM J;clear aM J aP aJ hj aB s1 R aF aD bg U au ae Q T aj;go_wp2_with fail;refine μ1 I ?_;rintro e3 w3 ⟨rfl,aO,aH⟩;have aR:a0i w3 cb cm (a6u t (L.take (i+1)) (C,sC)).1 (a6u t (L.take (i+1)) (C,sC)).2:=by rw[aT.o];exact aO
   have hF:=a1.trans aH (λk _ e=>e);clear I ah aH;have⟨a3,HF⟩:=η2 aR hF;clear aR hF k0 aO;go_wp2;go_roundg (Nv-(i+1));exact⟨i+1,by omega,by go_num,a3.o,HF.o⟩;omega
  obtain rfl:i=Nv:=ρo;have aQ:¬(i:Int)<i:=ρo;rw[Qb (by rw[HN.o];exact Qg _),az.o]at U;have hF:=((Q9 ar.o).mono (G:=λk=>k=cb\/k=cm) (λk hk e=>ρo)).trans J (λk _ e=>e);have⟨bk,HF⟩:=η2 U hF;clear U hF J aj Q T;go_wp2;go_ret2;exact⟨rfl,bk.o,HF.o⟩
 have H:=aG.o;rw[if_pos S]at H;subst H;have O:=bb.o S;subst O;have Q:(q2 != 0)=true:=ρw S;have aS:=HC.below ac;have hF:=(Q9 ac.o).mono (G:=λk=>k=cb\/k=cm) (λk hk e=>ρo);have⟨a0,HF⟩:=η2 aS hF;clear aS hF S af ag;go_wp2;go_ret2;exact⟨rfl,a0.o,HF.o⟩
end
section
open Go.RowKit Go.Shelf Go.Maps Go.Sort
section
variable {α:Type} [Inhabited α]
theorem a9v(enc:α->LV)(k:Nat)(a:∀x,(enc x).length=k)(d:Array α):(flatK enc k d).toList=(d.toList.map enc).flatten:=by
 have o:∀s∈d.toList.map enc,s.length=k:=λs v=>by
  obtain⟨x,_,rfl⟩:=Qs.1 v;exact a x
 have b:(d.toList.map enc).flatten.length=d.size*k:=by
  rw[a7m k _ o,Qw,QD]
 apply List.ext_getElem?
 intro t
 by_cases ht:t<d.size*k
 ·have g:0<k:=by
   rcases Zq k with h | h
   ·subst h;simp at ht
   exact h
  have p:t=t / k*k+t % k:=by have:=Nat.div_add_mod t k;rw[Nat.mul_comm]at this;exact this.symm
  have f:t / k<d.size:=Nat.div_lt_of_lt_mul (by rwa [Nat.mul_comm]at ht);have m:=b0d k (d.toList.map enc) o (t / k) (t % k) (ρw f) (Nat.mod_lt _ g);rw[<-p]at m;rw[m,Z9,Yh (ρy size_flatK ht)];have j:=get_flatK enc k d t ht;rw[getElem!_pos (flatK enc k d) t (ρy size_flatK ht),getElem!_pos d (t / k) f]at j;rw[j]
  have r:(d.toList.map enc).getD (t / k) []=enc d[t / k]:=by
   simp[List.getD,f]
  rw[r,QN (by rw[a];exact Nat.mod_lt _ g),getElem!_pos (enc d[t / k]) (t % k) (by rw[a];exact Nat.mod_lt _ g)]
 rw[ZL (by rw[QD,size_flatK];omega),ZL (by rw[b];omega)]
theorem a0T.holds(enc:α->LV)(k:Nat)(f:∀x,(enc x).length=k)(d:Array α)(b:Blk w g e a)(m:a.toList.take (d.size*k)=(d.toList.map enc).flatten):HoldsK enc k w g 0 d:=by
 intro j o;rw[size_flatK]at o;refine⟨?_,b.frozen _⟩;rw[b.cell,QP]
 have p:(flatK enc k d).toList[j]? =a.toList[j]? :=by
  rw[a9v enc k f,<-m,Zj,if_pos o]
 rw[Z9,Z9]at p;rw[<-p,Yh (ρy size_flatK o),getElem!_pos (flatK enc k d) j (ρy size_flatK o)]
 rfl
theorem a0T.sorted(enc:α->LV)(k:Nat)(p:∀x,(enc x).length=k){b:AV}(d a:Array α)(os:Array Obj)(y:B<=g)(v:Blk w g e b)(f:d.size<=cap)(z:cap<=maxLen)(m:b.size=cap*k)(o:a.size=d.size):
  a0T e k B (sortWorldK enc k w g 0 n a os) (.slice g d.size cap) (a.toList.map enc)/\Fr (λj=>j=g) w (sortWorldK enc k w g 0 n a os):=by
 have D:=v.lt;have I:a.size*k<=b.size:=by rw[m,o];exact Zb k f
 have F:(sortWorldK enc k w g 0 n a os).heap[g]? =some (.cells (putCells id 0 (flatK enc k a) b) e (0,0)):=by
  show((w.heap.modify g (onCells (putCells id 0 (flatK enc k a))))++os)[g]? =_
  rw[Array.getElem?_append_left (ρw D),Array.getElem?_modify,if_pos rfl,show w.heap[g]? =_ from v]
  rfl
 refine⟨⟨⟨?_,.inr ⟨g,cap,_,?_,y,F,?_,z,?_,?_⟩⟩,?_⟩,⟨rfl,rfl,rfl,?_,λj E H=>?_⟩⟩
 ·rw[a7m k _ (λs o=>by obtain⟨x,_,rfl⟩:=Qs.1 o;exact p x)]
 ·simp[o]
 ·simpa[o]using f
 ·simpa[putCells]using m
 ·rw[<-a9v enc k p]
  simp only[Qw,QD]
  apply List.ext_getElem?
  intro t;rw[Zj]
  by_cases ht:t<a.size*k
  ·rw[if_pos ht,Z9,Z9]
   unfold putCells;rw[Array.getElem?_mapIdx,Yh ρo,Option.map_some,if_pos ⟨Zu _,by rw[size_flatK];omega⟩,Yh (ρy size_flatK ht),getElem!_pos _ _ (by rw[size_flatK];omega)]
   rfl
  rw[if_neg ht,ZL (by rw[QD,size_flatK];omega)]
 ·intro r G
  obtain⟨x,_,rfl⟩:=Qs.1 G;exact p x
 ·show w.heap.size<=((w.heap.modify g (onCells (putCells id 0 (flatK enc k a))))++os).size
  simp
 show((w.heap.modify g (onCells (putCells id 0 (flatK enc k a))))++os)[j]? =_
 rw[Array.getElem?_append_left (ρw E),Array.getElem?_modify,if_neg (λe=>H e.symm)]
theorem b7l(W:WD):Calls prog 260 #[.int .u64 0] W λe w'=>e=.returned (.int .i64 (Lib.bitLen 0:Nat))/\w'=W:=
 Any.bits_Len (SlLaysF0.n15.bits (P:=prog) (ρ:=Tryz.laysSP_ren) {Tryz.laysSP with}) 0 W ρo ρo
end
theorem c1P(p:OA)(cap:Nat)(a:VL)(w:WD):Calls prog 275 #[.slice p 0 cap,.int .i64 0,.int .i64 0,a] w λe w'=>e=.returned (.tuple #[])/\w'=w:=by
 go_enter func275,ntmps275;go_wp2_with fail;refine wp_loop_rounds 1 ?_;rw[rounds_succ];go_wp2;go_end0;exact⟨rfl,rfl⟩
theorem c0L(p:OA)(cap:Nat)(a:Int)(b:VL)(w:WD):Calls prog 259 #[.slice p 0 cap,.int .i64 0,.int .i64 0,.int .i64 a,b] w λe w'=>e=.returned (.tuple #[])/\w'=w:=by
 have hi:=λW=>c1P p cap b W
 go_enter func259,ntmps259;go_wp2_with fail;refine wp_loop_rounds 1 ?_;rw[rounds_succ];go_wp2_with fail;refine(hi _).mono ?_;rintro e w' ⟨rfl,rfl⟩;go_wp2_with fail
 (try simp only[Exit.inBlock,Exit.then]);refine bodyPost_ret (results_none rfl _ _ _) rfl ?_
 exact⟨rfl,rfl⟩
theorem b4v(p:OA)(cap:Nat)(a:VL)(w:WD):Calls prog 227 #[.slice p 0 cap,a] w λe w'=>e=.returned (.tuple #[])/\w'=w:=by
 have d:=λb W=>c0L p cap b a W
 have f:=b7l;go_enter func227,ntmps227;go_wp2_with fail;refine(f _).mono ?_;rintro e w' ⟨rfl,rfl⟩;go_wp2_with fail;refine(d _ _).mono ?_;rintro e w' ⟨rfl,rfl⟩;go_wp2;go_end0;exact⟨rfl,rfl⟩
abbrev OkP:={a // ptE.ok a}
instance:Inhabited OkP:=⟨⟨((List.replicate 32 0),0),⟨by simp,by simp,by decide⟩⟩⟩
theorem c2P(v:VL)(B:Nat)(a:List OkP)(b:a.length<=1000000)(w:WD)(h:a0T 189 33 B w v (a.map (λx=>ptE.e x.1))):
  Calls prog 227 #[v,.func (.func 118) #[] #[]] w λe w'=>e=.returned (.tuple #[])/\∃ss':List OkP,ss'.Perm a/\a0T 189 33 B w' v (ss'.map (λx=>ptE.e x.1))/\Fr (λj=>v.ownBlock=some j) w w':=by
 have G:∀x:OkP,(ptE.e x.1).length=33:=λx=>a1x x.2.len _
 have H:∀x:OkP,∀u∈ptE.e x.1,u.oneCell'=true:=λx=>a2p _ _
 have d:=h.own;obtain⟨W,⟨rfl,V⟩ | ⟨g,cap,r,rfl,K,O,z,R,Q,ht⟩⟩:=d
 ·refine(b4v none 0 _ w).mono ?_
  rintro e w' ⟨rfl,rfl⟩;exact⟨rfl,a,List.Perm.refl _,h,Qp _ _⟩
 have F:Blk w g 189 r:=O;rw[Qw]at z ht⊢;have I:r.toList.take (a.toArray.size*33)=(a.toArray.toList.map (λx:OkP=>ptE.e x.1)).flatten:=ρw ht;have P:=a0T.holds (λx:OkP=>ptE.e x.1) 33 G a.toArray F I;have E:=F.lt
 have U:=AnyQ.slices_SortFunc Tryz.laysSP 33 (λw=>by kernel_rfl) (λw=>by kernel_rfl) (λx:OkP=>ptE.e x.1) G H (λx y=>a5t x.1 y.1) (show SWO (ltOf (λx y:OkP=>a5t x.1 y.1))from(a6o.comp (λx:OkP=>x.1)).swo) 118 #[] g 0 cap a.toArray w
  (enters_of func118 ρk rfl) (λm os X T x y=>(b0U x.1 y.1 x.2 y.2 _).mono (λe w' ⟨H,J⟩=>⟨H,J⟩)) P E (by simp;omega)
 refine U.mono ?_;rintro e w' ⟨rfl,D,n,os,⟨f,_,p⟩,_,rfl⟩;have o:=a0T.sorted (λx:OkP=>ptE.e x.1) 33 G (B:=B) (n:=n) a.toArray D os K F (ρw z) R Q f;refine⟨rfl,D.toList,?_,by simpa using o.1,o.2.mono (λj _ e=>by rw[e];rfl)⟩;have S:(a.toArray).extract 0 a.toArray.size=a.toArray:=by simp
 have N:D.extract 0 a.toArray.size=D:=by rw[<-f];simp
 rw[S,N]at p
 simpa using p
theorem b6u(gf:Nat)(lb:AV)(b:∀args w,(callFunc gf args).run prog w=.ok (.enter gf args) w){S d:List OkP->Prop}(f:N<=1000000)(a:∀ss,S ss->ss.length<=1000000)(w:WD)
  (hseq:SeqStopsK Fence.wide 7 prog gf lb (λx:OkP=>#[.agg (ptE.e x.1).toArray]) KeepsWalks S d N w):
  Calls prog 173 #[.func (.func gf) #[] lb,.func (.func 118) #[] #[]] w λe w'=>∃v ss ss',e=.returned v/\S ss/\List.Perm ss' ss/\a0T 189 33 w.heap.size w' v (ss'.map (λx=>ptE.e x.1))/\Below w.heap.size w w':=by
 have I:=b4H gf lb b f w hseq;clear hseq;go_enter func173,ntmps173;go_wp2_with fail;refine μ1 I ?_;rintro P B ⟨v,ss,rfl,j,g,y⟩;obtain⟨A,n,c,rfl,G⟩:=g.formN;have z:=c2P _ _ ss (a _ j) B g;have⟨E,H,m⟩:=η3 j g y;clear j g y G;go_wp2_with fail;refine μ1 z ?_;rintro O Q ⟨rfl,ss',o,r,p⟩;have⟨J,F,D⟩:=η3 o r p;clear o r p z;go_wp2;go_ret;exact⟨_,ss,ss',rfl,E.o,J.o,F.o,m.trans (D.below m.size (λk K e=>by have:=(H.lt e).1;omega))⟩
theorem c1l(p:OA)(cap:Nat)(a:VL)(w:WD):Calls prog 285 #[.slice p 0 cap,.int .i64 0,.int .i64 0,a] w λe w'=>e=.returned (.tuple #[])/\w'=w:=by
 go_enter func285,ntmps285;go_wp2_with fail;refine wp_loop_rounds 1 ?_;rw[rounds_succ];go_wp2;go_end0;exact⟨rfl,rfl⟩
theorem c0m(p:OA)(cap:Nat)(a:Int)(b:VL)(w:WD):Calls prog 262 #[.slice p 0 cap,.int .i64 0,.int .i64 0,.int .i64 a,b] w λe w'=>e=.returned (.tuple #[])/\w'=w:=by
 have hi:=λW=>c1l p cap b W
 go_enter func262,ntmps262;go_wp2_with fail;refine wp_loop_rounds 1 ?_;rw[rounds_succ];go_wp2_with fail;refine(hi _).mono ?_;rintro e w' ⟨rfl,rfl⟩;go_wp2_with fail
 (try simp only[Exit.inBlock,Exit.then]);refine bodyPost_ret (results_none rfl _ _ _) rfl ?_
 exact⟨rfl,rfl⟩
theorem b5m(p:OA)(cap:Nat)(a:VL)(w:WD):Calls prog 231 #[.slice p 0 cap,a] w λe w'=>e=.returned (.tuple #[])/\w'=w:=by
 have d:=λb W=>c0m p cap b a W
 have f:=b7l;go_enter func231,ntmps231;go_wp2_with fail;refine(f _).mono ?_;rintro e w' ⟨rfl,rfl⟩;go_wp2_with fail;refine(d _ _).mono ?_;rintro e w' ⟨rfl,rfl⟩;go_wp2;go_end0;exact⟨rfl,rfl⟩
abbrev OkK:={a // keE.ok a}
instance:Inhabited OkK:=⟨⟨(0,(List.replicate 32 0)),⟨by decide,by simp,by simp⟩⟩⟩
theorem c0Q(v:VL)(B:Nat)(a:List OkK)(b:a.length<=1000000)(w:WD)(h:a0T 212 33 B w v (a.map (λx=>keE.e x.1))):
  Calls prog 231 #[v,.func (.func 121) #[] #[]] w λe w'=>e=.returned (.tuple #[])/\∃ss':List OkK,ss'.Perm a/\a0T 212 33 B w' v (ss'.map (λx=>keE.e x.1))/\Fr (λj=>v.ownBlock=some j) w w':=by
 have G:∀x:OkK,(keE.e x.1).length=33:=λx=>a6m x.2.len _
 have H:∀x:OkK,∀u∈keE.e x.1,u.oneCell'=true:=λx=>a7K _ _
 have d:=h.own;obtain⟨W,⟨rfl,V⟩ | ⟨g,cap,r,rfl,K,O,z,R,Q,ht⟩⟩:=d
 ·refine(b5m none 0 _ w).mono ?_
  rintro e w' ⟨rfl,rfl⟩;exact⟨rfl,a,List.Perm.refl _,h,Qp _ _⟩
 have F:Blk w g 212 r:=O;rw[Qw]at z ht⊢;have I:r.toList.take (a.toArray.size*33)=(a.toArray.toList.map (λx:OkK=>keE.e x.1)).flatten:=ρw ht;have P:=a0T.holds (λx:OkK=>keE.e x.1) 33 G a.toArray F I;have E:=F.lt
 have U:=AnyQ.slices_SortFunc Tryz.laysSK 33 (λw=>by kernel_rfl) (λw=>by kernel_rfl) (λx:OkK=>keE.e x.1) G H (λx y=>a6w x.1 y.1) (show SWO (ltOf (λx y:OkK=>a6w x.1 y.1))from(a7f.comp (λx:OkK=>x.1)).swo) 121 #[] g 0 cap a.toArray w
  (enters_of func121 ρk rfl) (λm os X T x y=>(b0s x.1 y.1 x.2 y.2 _).mono (λe w' ⟨H,J⟩=>⟨H,J⟩)) P E (by simp;omega)
 refine U.mono ?_;rintro e w' ⟨rfl,D,n,os,⟨f,_,p⟩,_,rfl⟩;have o:=a0T.sorted (λx:OkK=>keE.e x.1) 33 G (B:=B) (n:=n) a.toArray D os K F (ρw z) R Q f;refine⟨rfl,D.toList,?_,by simpa using o.1,o.2.mono (λj _ e=>by rw[e];rfl)⟩;have S:(a.toArray).extract 0 a.toArray.size=a.toArray:=by simp
 have N:D.extract 0 a.toArray.size=D:=by rw[<-f];simp
 rw[S,N]at p
 simpa using p
theorem b5N(gf:Nat)(lb:AV)(b:∀args w,(callFunc gf args).run prog w=.ok (.enter gf args) w){S d:List OkK->Prop}(f:N<=1000000)(a:∀ss,S ss->ss.length<=1000000)(w:WD)
  (hseq:SeqStopsK Fence.wide 7 prog gf lb (λx:OkK=>#[.agg (keE.e x.1).toArray]) KeepsWalks S d N w):
  Calls prog 176 #[.func (.func gf) #[] lb,.func (.func 121) #[] #[]] w λe w'=>∃v ss ss',e=.returned v/\S ss/\List.Perm ss' ss/\a0T 212 33 w.heap.size w' v (ss'.map (λx=>keE.e x.1))/\Below w.heap.size w w':=by
 have I:=b5i gf lb b f w hseq;clear hseq;go_enter func176,ntmps176;go_wp2_with fail;refine μ1 I ?_;rintro P B ⟨v,ss,rfl,j,g,y⟩;obtain⟨A,n,c,rfl,G⟩:=g.formN;have z:=c0Q _ _ ss (a _ j) B g;have⟨E,H,m⟩:=η3 j g y;clear j g y G;go_wp2_with fail;refine μ1 z ?_;rintro O Q ⟨rfl,ss',o,r,p⟩;have⟨J,F,D⟩:=η3 o r p;clear o r p z;go_wp2;go_ret;exact⟨_,ss,ss',rfl,E.o,J.o,F.o,m.trans (D.below m.size (λk K e=>by have:=(H.lt e).1;omega))⟩
end
section
theorem TxS.ptE{b d:OA}{t:TxD}(h:TxS B w b d t)(a:j<t.ins.length):t.ins[j].Bd/\∃g2 o2,b=some ⟨g2,o2,none⟩/\∀X,Below B w X->(LDs 189 (.pointer (some ⟨g2,o2+j*35,none⟩))).run prog X=.ok (.agg (ptL (ptI t.ins[j]).1 (ptI t.ins[j]).2).toArray) X:=by
 obtain⟨g2,o2,H,D,g,x,y⟩:=h.at_.ins j a;have o:=h.at_.bd.ins _ (Qu a);refine⟨o,g2,o2,g,λX p=>?_⟩;obtain⟨I,F,G,E,f,r,m⟩:=(h X p).ins j a;rw[g]at f;simp only[Option.some.injEq,Addr.mk.injEq]at f;obtain⟨rfl,rfl,-⟩:=f;exact Pf a3a a1H X g2 (o2+j*35) (ptL (ptI t.ins[j]).1 (ptI t.ins[j]).2) o.ptY.vlen (λk v z=>m.cell k v (b5E z))
def a9P(n me:Int)(C:List (Pt×a1q))(Lk:List (Pt×a1J))(sL:Int)(t:TxD):Int×Int:=
 if(a1w n me C Lk t).2≠0 then(0,(a1w n me C Lk t).2)
 else if 64<Lk.length+(a0M (a2P t n) me).length then(0,18)
 else if IntKind.u64.wrap (4611686018427387904-sL)<(a1w n me C Lk t).1 then(0,6)
 else((a1w n me C Lk t).1,0)
def a8T(n me:Int)(C:List (Pt×a1q))(sC:Int)(Lk:List (Pt×a1J))(sL:Int)(t:TxD):(List (Pt×a1q)×Int)×(List (Pt×a1J)×Int):=
 if(a9P n me C Lk sL t).2≠0 then((C,sC),(Lk,sL))else a4H t (idP t) (a0M (a2P t n) me) ((C,sC),(Lk,sL))
theorem c6I{m:List (Pt×a1J)}(h:0<=s/\s<=18446744073709551615)(p:Pt){x:a1J}(a:a6v x):0<=(b9M m s p x).2.2/\(b9M m s p x).2.2<=18446744073709551615:=by
 have:=b6Q s x.1.am h.1 a.co.am.1
 unfold b9M
 split
 ·exact h
 split
 ·exact h
 split
 ·exact h
 split
 ·exact h
 simp only;omega
theorem c3L{m:List (Pt×a1J)}(h:m.length<=64)(p:Pt)(x:a1J):(b9M m s p x).2.1.length<=64:=by
 unfold b9M
 split
 ·exact h
 split
 ·exact h
 split
 ·exact h
 split
 ·exact h
 simp only[Qa,ZB];omega
theorem b6X{κ ν:Type}[DecidableEq κ](m:List (κ×ν))(a:κ):(b6D m a).length<=m.length:=ZX _ _
attribute [local go_sem ↓] a2q a1F a1B a5a a5i a4v a4s a4r
theorem c4H(B cb cm:Nat)(C:List (Pt×a1q))(sC:Int)(lb lm:Nat)(Lk:List (Pt×a1J))(sL:Int)(y:0<=sL/\sL<=18446744073709551615)(z:Lk.length<=64)(f:OA)(b:Nat)(o:OA)(r:Nat)(t:TxD)(n me:Int)(E:-9223372036854775808<=n/\n<=9223372036854775807)(w:WD)
  (hC:a0i w cb cm C sC) (hLk:a0j w lb lm Lk sL) (hap:cb≠lb/\cb≠lm/\cm≠lb/\cm≠lm) (h:TxS B w f o t) (hB:(B<=cb/\B<=cm)/\B<=lb/\B<=lm) (hgl:a2x w) (hl:t.ins.length<=1000000) (hl2:t.outs.length<=1000000):
  Calls prog 157 #[.agg (txV f b o r t),.int .i64 n,.int .i64 me,.pointer cb,.pointer lb] w λe w'=>e=.returned (.tuple #[.int .u64 (a9P n me C Lk sL t).1,.int .i64 (a9P n me C Lk sL t).2])/\(a0i w' cb cm (a8T n me C sC Lk sL t).1.1 (a8T n me C sC Lk sL t).1.2/\a0j w' lb lm (a8T n me C sC Lk sL t).2.1 (a8T n me C sC Lk sL t).2.2)/\Fr (λk=>(k=cb\/k=cm)\/k=lb\/k=lm) w w':=by
 have⟨q,hq⟩:=η0 (a1w n me C Lk t);have⟨le,F⟩:=η0 (a9P n me C Lk sL t);have⟨pc,H⟩:=η0 (a8T n me C sC Lk sL t);rw[F,H];unfold a8T at H;rw[F]at H;unfold a9P at F;rw[hq]at F;have aA:=hC.st.lt;have aL:=hC.mp.lt;have aQ:=hLk.st.lt;have aI:=hLk.mp.lt;have b0:=Qd w 53 (txV f b o r t);have B0:=ρb w (.cells (txV f b o r t) 53)
 generalize hW:w.alloc (.cells (txV f b o r t) 53)=W at b0 B0
 have⟨g,hg⟩:=ηs w;rw[hg]at b0;have aF:=λX (T:Below W W X)=>P4 uTx iTx (w:=X) (txV f b o r t).toList (by simpa using b0.fr (Q9 T) (ρh b0.lt)) rfl
 have be:=aF W (Qf _ _);have aN:=λX (T:Below w w X)=>a6O f b o r t n me E X (h.at_.below T) (hgl.below T) hl hl2
 have hid:=λX (T:Below w w X)=>a2v f b o r t X (h.at_.below T) (hgl.below T) hl hl2
 have ae:=a9m cb cm C sC lb lm Lk sL f b o r t n me E W (hC.below B0) (hLk.below B0) (h.at_.below B0) (hgl.below B0) hl hl2;rw[hq]at ae;have an:=λX (T:Below w w X)=>b1f lb lm Lk sL X (hLk.below T)
 have a3:=λX (T:Below w w X)=>b4f lb lm Lk sL X (hLk.below T)
 have bj:Blk W g 53 (txV f b o r t):=b0;have bk:=a3I (a2P t n) me;have ac:=b0q t n;have bZ:=a1V (a2P t n) me;have bF:= @a4q t n;have⟨L,hL⟩:=η0 (a0M (a2P t n) me);rw[hL]at bk H bZ F;have cc:L.length<=16:=ρo;simp only[hL]at aN
 have bx:∀x∈L,∃i:Nat,x=(i:Int)/\i<t.ins.length:=λx hx=>by
  obtain⟨i,e,hi⟩:=(bk x).1 hx;exact⟨i,e,Qh (Qm.1 hi).1 ac⟩
 have aJ:Dig (idP t):=⟨a3b t,a5f t⟩;have⟨D,hD⟩:=η0 (idP t);rw[hD]at H aJ;simp only[hD]at hid;have bU:(bys D).length=32:=by rw[a0a,aJ.1]
 obtain⟨ZI,aT,a7,da⟩:=P8 (t:=31) iId b1N;have ay:=b1a;have⟨z2,br⟩:=η0 ((a1s a3q).toArray);have aX:z2.size=33:=by rw[<-br,Qc];exact a0G a2R
 simp only[br]at ay;have⟨xs,aC⟩:=η0 (txV f b o r t);have ai:xs[0]? =some (.slice f t.ins.length b):=by rw[<-aC];rfl
 simp only[show(txV f b o r t).toList.toArray=txV f b o r t by simp,aC]at aF be;rw[aC]at hW ae bj⊢;simp only[aC]at aN hid;obtain⟨q1,q2⟩:=q;simp only at ae F⊢;have⟨nl,aP⟩:=η0 Lk.length;rw[aP]at F;simp only[aP]at an;have cJ:nl<=64:=ρo;have⟨rm,cB⟩:=η0 (IntKind.u64.wrap (4611686018427387904-sL));rw[cB]at F;have⟨cV,HG,cN,cE,cP,bY,cG,b6⟩:=η8 cc hg B0 h bx aF aN hid;have⟨aM,cf,cS,b4,HC,b5,cF,c1⟩:=η8 H F bj ai hC hLk aA aL;have⟨cz,c0,cZ,b3,bE,aO,bV,bN⟩:=η8 aQ aI hB an a3 aJ bU aT;have⟨bH,bJ,cI,cX,c9,cU,cy⟩:=η7 a7 ay aX y aP hap z;clear cc hg B0 h bx aF aN hid H F bj ai hC hLk aA aL aQ aI hB an a3 aJ bU aT a7 ay aX y aP hap z bk ac bZ bF hL aC b0 hgl hq hD br;go_enter func157,ntmps157;go_upto_region 1 with fail
 rw[HG.o];go_wp2_with fail;refine μi ae ?_;intro w1 aE;have aD:=φt cN aE;have aZ:=bY.o w1 aE;have aU:=cG.o w1 aD;have⟨bu,cd⟩:=η2 aD aE;clear aD aE be
 have a0:∀X,Below w w X->pc=((C,sC),(Lk,sL))->(a0i X cb cm pc.1.1 pc.1.2/\a0j X lb lm pc.2.1 pc.2.2)/\Fr (λk=>(k=cb\/k=cm)\/k=lb\/k=lm) w X:=λX T e=>by
  rw[e];exact⟨⟨HC.below T,b5.below T⟩,(Q9 T).mono (λk hk e=>ρo)⟩
 have bm:=η1 a0;clear a0
 by_cases av:q2=0
 ·subst av
  have F:=cf.o;simp only[ne_eq,not_true_eq_false,if_false]at F;go_wp2_with fail;refine μ1 aU ?_;rintro e2 w2 ⟨v,u,rfl,hv,hu,bo⟩;obtain⟨Av,Nv,cv,rfl⟩:=hv.formN;have hN:=hv.lenN;have ca:=hv.rd;have c6:Nv<=16:=by have:=cV.o;omega
  have b7:∀a,Av=some a->w1.heap.size<=a.block:=λa ha=>by subst ha;exact(hv.lt (k:=a.block) rfl).1
  have V:=φt bu bo;have az:=φt cd bo;have aa:=b3.o w2 V;have Y:=bE.o w2 V;have ao:=bY.o w2 az;have af:=b6.o w2 V;have⟨HN,cK,aj,ct,c2,aS⟩:=η6 hN ca V az b7 F;clear hN ca V az b7 F hv hu bo aZ;have cx:IntKind.i64.wrap ((nl:Int)+Nv)=(nl:Int)+Nv:=by rw[IntKind.wrap_i64];omega
  by_cases aK:64<nl+Nv
  ·have F:=aS.o
   rw[if_pos (ρz HN.o aK)]at F;subst F;have H:=aM.o;simp only[ne_eq,Int.reduceEq,not_false_eq_true,if_true]at H;have ba:(64:Int)<(nl:Int)+Nv:=ρo;have J:=η1 H;clear H aK Y ao af;go_wp2_with fail;refine μf aa ?_;go_wp2;go_ret2;exact⟨rfl,bm.o _ aj J.symm⟩
  have F:=aS.o;rw[if_neg (ρz HN.o aK)]at F;have ba:¬(64:Int)<(nl:Int)+Nv:=ρo;have bK:=η1 F;clear F aK;go_wp2_with fail;refine μf aa ?_;go_wp2_with fail;refine μf Y ?_;clear aa Y ba cx;have F:=bK.o
  by_cases bv:rm<q1
  ·rw[if_pos bv]at F
   subst F;have H:=aM.o;simp only[ne_eq,Int.reduceEq,not_false_eq_true,if_true]at H;have J:=η1 H;clear H ao af;go_wp2;go_ret2;exact⟨rfl,bm.o _ aj J.symm⟩
  rw[if_neg bv]at F;subst F;have H:=aM.o;simp only[ne_eq,not_true_eq_false,if_false]at H;go_wp2_with fail;refine μi af ?_;intro w4 aH;clear af ao;have bt:=bN.o w4;have au:=bH.o w4 (bys D) bV.o (a0h _);have kd:=Qd w4 31 (bys D).toArray;have D4:=ρb w4 (.cells (bys D).toArray 31);have⟨d,hd⟩:=ηs w4;rw[hd]at bt au kd
  generalize db:w4.alloc (.cells (bys D).toArray 31)=V4 at au kd D4
  have ah:=aH.trans (D4.mono aH.size);have ad:=φt aj ah;have aW:=φt ct ah;have kt:=φf cS aW;have cr:=HC.below ad;have bA:=b5.below ad;have bW:w2.heap.size<=d:=by rw[<-hd];exact aH.size
  have⟨J,al,bc,cY,cR,cC,cA,bh⟩:=η8 H ad ah kd kt cr bA bW;clear H ad ah kd kt cr bA bW aH D4 hd bv aW;go_upto_region 11 with fail
  go_loopg [18,19,20,55] Nv (λkk _ _ _ s wr=>∃i:Nat,i+kk=Nv/\s=.int .i64 i/\a0i wr cb cm (a4H t D (L.take i) ((C,sC),(Lk,sL))).1.1 (a4H t D (L.take i) ((C,sC),(Lk,sL))).1.2/\a0j wr lb lm (a4H t D (L.take i) ((C,sC),(Lk,sL))).2.1 (a4H t D (L.take i) ((C,sC),(Lk,sL))).2.2/\(0<=(a4H t D (L.take i) ((C,sC),(Lk,sL))).2.2/\(a4H t D (L.take i) ((C,sC),(Lk,sL))).2.2<=18446744073709551615)/\Fr (λk=>(k=cb\/k=cm)\/k=lb\/k=lm) V4 wr);exact⟨0,by omega,rfl,cC.o,cA.o,cX.o,Qp _ _⟩;obtain⟨i,hi,rfl,ab,ak,ar,R⟩:=hrel;have aA:=cF.o;have aL:=c1.o;have aQ:=cz.o;have aI:=c0.o;have hap:=cU.o;have c3:=cZ.o;have ch:=al.size
  by_cases cD:i<Nv
  ·have ck:(i:Int)<Nv:=ρo
   have ac:i<L.length:=by rw[<-HN.o];exact cD
   have bl:Below B w wr:=(al.mono ρo).trans (R.below_of ρo (λk e=>ρo));obtain⟨g1,o1,rfl,bn,s1⟩:=cK.at ac;have aR:=c2.o _ rfl;simp only at aR;have bB:=bu.size;obtain⟨j,hj,bC⟩:=cP.o (L.getD i 0) (by simp[List.getD,ac]);obtain⟨bM,g2,o2,cO,ag⟩:=cE.ptE bC;have b2:L[i]=(j:Int):=by rw[<-hj];simp[List.getD,ac]
   have cM:=(R.cell (p:=⟨g1,o1+i,none⟩) (Qh bn bc.size) (show¬((g1=cb\/g1=cm)\/g1=lb\/g1=lm) by omega)).trans ((bc.cell (p:=⟨g1,o1+i,none⟩) bn).trans s1);have bp:=bM.ptY;have a6:=ag wr bl;have I:=b1J cb cm _ _ (ptI t.ins[j]) bp wr ab;have aB:=b2i t D (L[i]) (L.take i) ((C,sC),(Lk,sL));rw[<-Qe ac,b3s b2 bC]at aB;have⟨S,hS⟩:=η0 (a4H t D (L.take i) ((C,sC),(Lk,sL)));rw[hS]at aB ab ak ar;rw[hS]at I;rw[hj]at cM;have bg:=cR.fr R (show¬((g=cb\/g=cm)\/g=lb\/g=lm) by have:=HG.o;omega);have ce:=cY.fr R (show¬((d=cb\/d=cm)\/d=lb\/d=lm) by have:=bh.o;have:=aj.size;omega);have k0:=(bg.cell 0).trans b4;have⟨ni,b8⟩:=η0 t.ins.length;have ai:=b4.o;rw[b8]at k0 ai;have c7:(j:Int)<ni:=ρo;have c8:(0:Int)<=(j:Int):=ρo;have O:=a3p ab.bd (ptI t.ins[j]);have⟨co,bD⟩:=η0 (a1v S.1.1 (ptI t.ins[j]));rw[bD]at I aB O;have ax:=a0G O
   have N:=λX T=>b9V lb lm S.2.1 S.2.2 (ptI t.ins[j]) bp (co,D) ⟨O,aO.1,aO.2⟩ ar X T
   have a4:=c6I (m:=S.2.1) ar (ptI t.ins[j]) (x:=(co,D)) ⟨O,aO.1,aO.2⟩;have⟨pv,cn⟩:=η0 (ptL (ptI t.ins[j]).1 (ptI t.ins[j]).2);rw[cn]at a6 I;simp only[cn]at ag N;have⟨ov,aG⟩:=η0 (a1s co);have bb:∀v∈ov,v.oneCell'=true:=by rw[<-aG];exact a1O _
   rw[aG]at I ax;simp only[aG]at N;subst cO;have⟨bi,bO,bI,bX,bq,cT,cQ,a1⟩:=η8 aB R ag N ak a4 bl bg;have⟨aY,cW,a8,cp⟩:=η4 ce ai ax bb;clear aB R ag N ak a4 bl bg ce ai ax bb b8 hj s1 b2 bn ab aR ar bB bD aG bM bp O;go_wp2_with fail;refine μ1 I ?_;rintro e5 w5 ⟨rfl,b9,Q⟩;clear I a6;have aq:=bJ.o w5;have ka:=Qd w5 206 z2;have D5:=ρb w5 (.cells z2 206);have⟨a5,bG⟩:=ηs w5;rw[bG]at aq ka
   generalize cH:w5.alloc (.cells z2 206)=V5 at aq ka D5
   have bf:=P9 a9y ka cI ov a8 cp;have kb:=ka.row_ ov.toArray;have D6:=Ql (g:=a5) D5 ρo ov.toArray
   generalize dc:V5.setRow a5 ov.toArray=V6 at bf kb D6
   have⟨U,hU⟩:=η0 V6.drew;have D7:Below V6 V6 U:=by rw[<-hU];exact(Qf _ _).drew
   have Z:=D6.trans (D7.mono D6.size);have kU:=kb.fr (Q9 D7) (ρh kb.lt);have ci:=b9.below Z;have bL:=(bq.fr Q (show¬(lb=cb\/lb=cm) by omega) (show¬(lm=cb\/lm=cm) by omega)).below Z;have bT:=(a1.fr Q (show¬(g=cb\/g=cm) by have:=HG.o;omega)).fr (Q9 Z) (by have:=(a1.fr Q (show¬(g=cb\/g=cm) by have:=HG.o;omega)).lt;omega);have bw:=(aY.fr Q (show¬(d=cb\/d=cm) by have:=bh.o;have:=aj.size;omega)).fr (Q9 Z) (by have:=(aY.fr Q (show¬(d=cb\/d=cm) by have:=bh.o;have:=aj.size;omega)).lt;omega);have cL:=bO.size;have cj:=(bO.trans Q (λk _ e=>.inl e)).trans (Q9 Z) (λk hk e=>by have:=Q.size;omega);have cq:=cQ.trans ((Q.below_of ρo (λk e=>ρo)).trans (Z.mono (ρh Q.size)))
   have bR:U.cell? ⟨g,0,none⟩=some (.slice (some ⟨g2,o2,none⟩) ni b)/\(LDs 189 (.pointer (some ⟨g2,o2+j*35,none⟩))).run prog U=.ok (.agg pv.toArray) U/\(LDs 31 (.pointer d)).run prog U=.ok (.agg (bys D).toArray) U/\(LDs 206 (.pointer a5)).run prog U=.ok (.agg ov.toArray) U:=
    ⟨(bT.cell 0).trans cW.o,bI.o U cq,P4 a2i iId (bys D) bw bV.o,P4 c3f a9y ov kU a8.o⟩
   have N:=bX.o U bL;have⟨cw,HU,c5,cu⟩:=η4 bR hU cj ci;clear bR hU cj ci bL cq bT bw kU Z D7 D6 D5 kb ka b9 Q cL bG cH k0;go_upto_region 14 with fail
   refine a0s [(0,3),(1,3),(3,3),(2,0),(4,3),(5,3),(6,0),(7,0),(8,0),(9,2)] (λX=>X.cell? ⟨g,0,none⟩=some (.slice (some ⟨g2,o2,none⟩) ni b)/\(LDs 189 (.pointer (some ⟨g2,o2+j*35,none⟩))).run prog X=.ok (.agg pv.toArray) X/\(LDs 31 (.pointer d)).run prog X=.ok (.agg (bys D).toArray) X/\(LDs 206 (.pointer a5)).run prog X=.ok (.agg ov.toArray) X) ρk ρk ρk ρk (ρy HU.o cw.o) ?_;rw[HU.o];refine ε3 ?_
   iterate 1 refine θ4 (λ_ h=>h) ?_
   refine ε2 ?_
   iterate 3 refine θ4 (λ_ h=>h) ?_
   refine τ ?_;intro K hK;refine μ1 N ?_;rintro e9 w9 ⟨rfl,bQ,bs⟩;with_reducible refine hK _ _ ?_;clear hK K;clear N
   refine ν ?_;have bS:=cu.fr bs (show¬(cb=lb\/cb=lm) by omega) (show¬(cm=lb\/cm=lm) by omega);have hF:=c5.trans bs (λk _ e=>.inr e);have a2:a0i w9 cb cm (a4H t D (L.take (i+1)) ((C,sC),(Lk,sL))).1.1 (a4H t D (L.take (i+1)) ((C,sC),(Lk,sL))).1.2:=by rw[bi.o];exact bS
   have a9:a0j w9 lb lm (a4H t D (L.take (i+1)) ((C,sC),(Lk,sL))).2.1 (a4H t D (L.take (i+1)) ((C,sC),(Lk,sL))).2.2:=by rw[bi.o];exact bQ
   have aV:0<=(a4H t D (L.take (i+1)) ((C,sC),(Lk,sL))).2.2/\(a4H t D (L.take (i+1)) ((C,sC),(Lk,sL))).2.2<=18446744073709551615:=by rw[bi.o];exact cT.o
   have⟨bP,cg,bz,HF⟩:=η4 a2 a9 aV hF;clear a2 a9 aV hF bS bQ bs aq bf;go_wp2;go_roundg (Nv-(i+1));exact⟨i+1,by omega,by go_num,bP.o,cg.o,bz.o,HF.o⟩;omega
  obtain rfl:i=Nv:=ρo;have ck:¬(i:Int)<i:=ρo;rw[Qb (by rw[HN.o];exact Qg _),J.o]at ab ak;have hF:=((Q9 al.o).mono (G:=λk=>(k=cb\/k=cm)\/k=lb\/k=lm) (λk hk e=>ρo)).trans R (λk _ e=>e);have⟨c4,bq,HF⟩:=η3 ab ak hF;clear ab ak hF R aA aL aQ aI hap c3 ch ar;go_wp2;go_ret2;exact⟨rfl,⟨c4,bq.o⟩,HF.o⟩
 have F:=cf.o;rw[if_pos av]at F;subst F;have H:=aM.o;simp only at H;rw[if_pos av]at H;have aA:(q2 != 0)=true:=ρw av;have J:=η1 H;clear H av aU aZ;go_wp2;go_ret2;exact⟨rfl,bm.o _ bu J.symm⟩
end
section
theorem b3Z(lb lm:Nat)(L:List (Pt×a1J))(s:Int)(a:L.length<=1000000)(w:WD)(h:a0j w lb lm L s):
  Calls prog 109 #[.pointer lb] w λe w'=>∃v,∃ps:List OkP,e=.returned v/\(ps.map Subtype.val).Perm (L.map Prod.fst)/\a0T 189 33 w.heap.size w' v (ps.map (λx=>ptE.e x.1))/\Below w w w':=by
 have q0:=h.q0;have g:=b5s lm w;have b:=ρb w (.cells #[.map (some lm)] 164)
 have r:=b6u 229 #[.pointer w] (enters_of func229 ρk rfl)
  (N:=L.length) a (λm e=>by have:=e.length_eq;simp at this;omega) (w.alloc (.cells #[.map (some lm)] 164))
  (a9E Fence.wide 7 trivial rfl ρo w.heap.size lm L (by unfold maxLen;omega) _ ρp ((Qd w _ _).cell 0) (h.below b).mp)
 have f:=η1 b;clear b h;go_enter func109,ntmps109;go_wp2_with fail;refine μf g ?_;go_wp2_with fail;refine μ1 r ?_;rintro B z ⟨v,m,d,rfl,p,j,y,o⟩;go_wp2;go_ret;exact⟨v,d,rfl,(j.map _).trans p,y.base ρp,φt f o⟩
theorem b3D(kb km:Nat)(N:List Nat)(L:List (Ke×MkD))(a:L.length<=1000000)(w:WD)(h:a0z w kb km N L):
  Calls prog 110 #[.pointer kb] w λe w'=>∃v,∃ps:List OkK,e=.returned v/\(ps.map Subtype.val).Perm (L.map Prod.fst)/\a0T 212 33 w.heap.size w' v (ps.map (λx=>keE.e x.1))/\Below w w w':=by
 have q0:=h.q0;have g:=b4p km w;have b:=ρb w (.cells #[.map (some km)] 167)
 have r:=b5N 232 #[.pointer w] (enters_of func232 ρk rfl)
  (N:=L.length) a (λm e=>by have:=e.length_eq;simp at this;omega) (w.alloc (.cells #[.map (some km)] 167))
  (a9z Fence.wide 7 trivial rfl ρo w.heap.size km L (by unfold maxLen;omega) _ ρp ((Qd w _ _).cell 0) (h.below b).mp)
 have f:=η1 b;clear b h;go_enter func110,ntmps110;go_wp2_with fail;refine μf g ?_;go_wp2_with fail;refine μ1 r ?_;rintro B z ⟨v,m,d,rfl,p,j,y,o⟩;go_wp2;go_ret;exact⟨v,d,rfl,(j.map _).trans p,y.base ρp,φt f o⟩
theorem b4E(g o k:Nat):(⟨g,o,none⟩:Addr).add k=⟨g,o+k,none⟩:=by unfold Addr.add;split<;>simp_all
theorem c8e(a:P.underlying t=some (.slice e))(b:(P.info? e).map (·.size)=some n)(w:WD)(g o N c i:Nat)(hi:i<=c):
  (SLs t (.slice (some ⟨g,o,none⟩) N c) none (some (.int .i64 i)) none).run P w=.ok (.slice (some ⟨g,o,none⟩) i c) w:=by
 obtain⟨q,d,f⟩:=Q8.1 b;have j:¬((i:Int)<0\/(c:Int)<i):=ρo;simp[SLs,Instr.sliceAt,Instr.slice,Instr.sliceBounds,Instr.sliceBound,asIntOf,run_underlying a,sizeOf,typeInfo,d,b4E,hi]
theorem c8f(a:P.underlying t=some (.slice e))(b:(P.info? e).map (·.size)=some n)(w:WD)(g o N c i:Nat)(hi:i<=N):
  (SLs t (.slice (some ⟨g,o,none⟩) N c) (some (.int .i64 i)) none none).run P w=.ok (.slice (if c=i then some ⟨g,o,none⟩else some ⟨g,o+i*n,none⟩) (N-i) (c-i)) w:=by
 obtain⟨q,f,d⟩:=Q8.1 b;simp[SLs,Instr.sliceAt,Instr.slice,Instr.sliceBounds,Instr.sliceBound,asIntOf,run_underlying a,sizeOf,typeInfo,f,d,b4E,hi]
section
variable {P:PG} {e t:TI} {m B:Nat} {w w':WD} {R:LW}
theorem a0T.sp(h:a0T e m B w (.slice A N c) R):N=R.length/\((A=none/\R=[])\/∃g cur,A=some ⟨g,0,none⟩/\B<=g/\Blk w g e cur/\N<=c/\c<=maxLen/\cur.size=c*m/\cur.toList.take (N*m)=R.flatten):=by
 obtain⟨r,⟨a,b⟩ | ⟨g,cap,cur,a,p,j,f,d,o,ht⟩⟩:=h.own
 ·cases a
  exact⟨b.symm,.inl ⟨rfl,Zv.1 b⟩⟩
 simp only[Value.slice.injEq]at a;obtain⟨rfl,rfl,rfl⟩:=a;exact⟨rfl,.inr ⟨g,cur,rfl,p,j,f,d,o,ht⟩⟩
theorem a0T.mk'(d:B<=g)(f:Blk w g e a)(j:R.length<=c)(o:c<=maxLen)(p:a.size=c*m)(ht:a.toList.take (R.length*m)=R.flatten)(b:∀r∈R,r.length=m):
  a0T e m B w (.slice g R.length c) R:=
 ⟨⟨a7m m R b,.inr ⟨g,c,a,rfl,d,f,j,o,p,ht⟩⟩,b⟩
theorem a0T.ldR(b:(P.underlying t).map a1f=some true)(hi:(P.info? t).map (·.size)=some m)(h:a0T e m B w (.slice g N c) R)(a:i<R.length):
  (LDs t (.pointer (some ⟨g,i*m,none⟩))).run P w=.ok (.agg R[i].toArray) w:=by
 obtain⟨A,x,d,p,-⟩:=h.rd;simp only[Value.slice.injEq]at d;obtain⟨rfl,-,-⟩:=d;obtain⟨y,off,f,-,r⟩:=p i a;simp only[Option.some.injEq,Addr.mk.injEq,and_true]at f;obtain⟨rfl,rfl⟩:=f;refine a2e b hi w g (i*m) R[i] (h.len _ (Qu _)) (λj v o=>?_)
 have:=r j v o
 rwa [QP]at this
theorem b6c(cs:AV)(xs F:LV)(off M:Nat)(hF:cs.toList.take M=F)(h:off+xs.length<=M)(a:M<=cs.size):(a1d cs off xs).toList.take M=F.take off++xs++F.drop (off+xs.length):=by
 subst hF;have b:cs.toList.length=cs.size:=QD;unfold a1d;simp only[QT,Qa,Qx,b,List.take_take,List.drop_take];rw[QY (by omega:off<=cs.size),Nat.min_eq_right (by omega:off<=M),QY (by omega:off<=M),Qb (by omega:xs.length<=M-off)]
theorem a0T.setR(hi:(P.info? t).map (·.size)=some m)(h:a0T e m B w (.slice g N c) R)(a:i<R.length)(r:LV)(b:r.length=m)(d:∀u∈r,u.oneCell'=true):
  ∃w',(STs t (.pointer (some ⟨g,i*m,none⟩)) (.agg r.toArray)).run P w=.ok () w'/\a0T e m B w' (.slice g N c) (R.set i r)/\Fr (λj=>j=g) w w'/\w'.heap.size=w.heap.size:=by
 obtain⟨rfl,⟨p,-⟩ | ⟨I,f,p,F,z,o,H,D,ht⟩⟩:=h.sp
 ·cases p
 simp only[Option.some.injEq,Addr.mk.injEq,and_true]at p;subst p;have E:R.length*m<=f.size:=by rw[D];exact Zb m o
 have G:i*m+m<=R.length*m:=by
  have:=Zb m (show i+1<=R.length from a)
  rwa [Yb,Nat.one_mul]at this
 refine⟨_,a0I hi z r b ρo d,?_,(Qp (λj=>j=g) w).setRow (λ_=>rfl) _,by simp⟩
 have y:=a0T.mk' (R:=R.set i r) F (z.row_ (a1d f (i*m) r)) (ρw o) H (by rw[a6n _ _ _ ρo];exact D) (by
  rw[List.length_set,b6c f r R.flatten (i*m) (R.length*m) ht ρo E,b]
  exact b1g m R h.len i a r b) (λs v=>by
   rcases List.mem_or_eq_of_mem_set v with x | x
   ·exact h.len s x
   rw[x];exact b)
 rwa [List.length_set]at y
theorem b4S{α:Type}(m:Nat):∀(L:List (List α)) (_:∀s∈L,s.length=m) (k:Nat),(L.take k).flatten=L.flatten.take (k*m)
 | [],_,k=>by simp
 | s::L,h,0=>by simp
 |
  s::L,h,k+1=>by
  have hs:s.length=m:=h s ρp;rw[List.take_succ_cons,Zm,Zm,b4S m L (λx hx=>h x (by simp[hx])) k,QT,hs,Qb (l:=s) (by rw[hs,Yb];omega),show(k+1)*m-m=k*m by rw[Yb];omega]
theorem b9c(a:z.size=m)(n:Nat)(d:0<m)(b:∀u∈z.toList,u.oneCell'=true):(Builtin.zeroCells z n).size=n*m/\∀u∈(Builtin.zeroCells z n).toList,u.oneCell'=true:=by
 refine⟨by simp[Builtin.zeroCells,a],λu f=>?_⟩;simp only[Builtin.zeroCells,Array.toList_map,Qs]at f;obtain⟨i,-,rfl⟩:=f;have hi:i % z.size<z.size:=Nat.mod_lt _ ρo;rw[getElem!_pos z (i % z.size) hi];exact b _ ρp
def CLs(t:TI)(ty:TI)(x:VL):Sem VL:=Builtin.clear_ #[t] ty #[x]
theorem a0T.clr{sl ty:TI}(a:P.underlying sl=some (.slice e))(b:∀w,(zeroValue e).run P w=.ok (.agg z) w)(d:z.size=m)(f:0<m)(o:∀u∈z.toList,u.oneCell'=true)(h:a0T e m B w (.slice g N c) R)(p:i<N):
  ∃w',(CLs sl ty (.slice (some ⟨g,0+i*m,none⟩) (N-i) (c-i))).run P w=.ok (.tuple #[]) w'/\a0T e m B w' (.slice g i c) (R.take i)/\Fr (λj=>j=g) w w'/\w'.heap.size=w.heap.size:=by
 obtain⟨rfl,⟨D,-⟩ | ⟨U,r,D,K,I,H,S,J,ht⟩⟩:=h.sp
 ·cases D
 simp only[Option.some.injEq,Addr.mk.injEq,and_true]at D;subst D;have T:R.length*m<=r.size:=by rw[J];exact Zb m H
 obtain⟨y,F⟩:=b9c d (R.length-i) f o;have Q:i*m+(R.length-i)*m=R.length*m:=by rw[<-Yb];congr 1;omega
 have x:=run_storeCells_at P g (i*m) e (Builtin.zeroCells z (R.length-i)).toList 0 r w I (by rw[QD,y];omega) F;simp only[ZH]at x;obtain⟨q,O⟩:∃q,R.length-i=q+1:=⟨R.length-i-1,by omega⟩;refine⟨_,?_,?_,(Qp (λj=>j=g) w).setRow (λ_=>rfl) (a1d r (i*m) (Builtin.zeroCells z (R.length-i)).toList),by simp⟩
 ·unfold CLs
  rw[QP];rw[O]at x⊢;simp[Builtin.clear_,run_underlying a,b,Value.cells,x,a1d]
 have v:(R.take i).length=i:=by rw[Qx];omega
 have G:=a0T.mk' (R:=R.take i) (c:=c) K (I.row_ (a1d r (i*m) (Builtin.zeroCells z (R.length-i)).toList)) ρo S (by rw[a6n _ _ _ (by rw[QD,y];omega)];exact J) (by
  rw[v,b4S m R h.len i,<-ht,List.take_take,QY ρo];unfold a1d;simp only[QC];rw[QT,Qx,QD,QY ρo,Nat.sub_self,List.take_zero,ZC,List.take_take,Nat.min_self]) (λs E=>h.len s (QM E))
 rwa [v]at G
end
end
section
abbrev b8r:=ldOf 163
abbrev b7p:=stOf 163
theorem d3b:(prog.underlying 163).map a1f=some true:=ρk
theorem d1C:(prog.info? 163).map (·.size)=some 2:=ρk
abbrev b5t:=bdOf 206
theorem c9Z:a3s prog 206=some [(0,32),(32,1)]:=ρk
theorem d0m:(((prog.info? 206).bind (·.zero)).map (·.cells.toList))=some (a1s a3q):=ρk
theorem c6g{o:a1q}(h:o.ow.length=32)(w:WD):(BDs 206 #[(0,.agg (bys o.ow).toArray),(1,.int .u64 o.am)]).run prog w=.ok (.agg (a1s o).toArray) w:=by
 have a:(bys o.ow).length=32:=by rw[a0a,h]
 have b:=a0G a2R;refine a2H c9Z d0m _ _ ?_ w;rw[a0v (off:=0) (size:=32) rfl (by simp[Value.cells,a]) ρo,a0v (off:=32) (size:=1) rfl rfl (by simp[Value.cells,a,b]),a1Y]
 congr 1
 generalize d:a1s a3q=z at b⊢
 unfold a1s;simp[Value.cells,a,b,QT,QR]
theorem b7b(t:TxD)(n:Int):(a2K t n).length<=t.outs.length:=by
 unfold a2K
 split
 ·simp
 simp
def a6S(n me:Int)(C:List (Pt×a1q))(sC:Int)(t:TxD):Int×Int:=
 if a1a t≠0 then(0,a1a t)
 else if a0M (a2K t n) me=[]then(0,11)
 else if(a3f t (idP t) (a0M (a2K t n) me) (C,sC)).1≠0 then(0,(a3f t (idP t) (a0M (a2K t n) me) (C,sC)).1)
 else(a5v t (a0M (a2K t n) me),0)
def a9a(n me:Int)(C:List (Pt×a1q))(sC:Int)(t:TxD):List (Pt×a1q)×Int:=
 if(a6S n me C sC t).2≠0 then(C,sC)else(a3f t (idP t) (a0M (a2K t n) me) (C,sC)).2
theorem b8a{m:List (Pt×a1q)}(h:0<=s/\s<=18446744073709551615)(p:Pt){x:a1q}(a:x.Bd):0<=(a7H m s p x).2.2/\(a7H m s p x).2.2<=18446744073709551615:=by
 have:=b6Q s x.am h.1 a.am.1
 unfold a7H
 split
 ·exact h
 split
 ·exact h
 split
 ·exact h
 split
 ·exact h
 simp only;omega
theorem b7w{m:List (Pt×a1q)}(h:m.length<=256)(p:Pt)(x:a1q):(a7H m s p x).2.1.length<=256:=by
 unfold a7H
 split
 ·exact h
 split
 ·exact h
 split
 ·exact h
 split
 ·exact h
 simp only[Qa,ZB];omega
theorem b2s(t:TxD)(l:LI):0<=a5v t l/\a5v t l<=18446744073709551615:=by
 rcases List.eq_nil_or_concat l with rfl | ⟨a,k,rfl⟩
 ·simp[a5v]
 rw[List.concat_eq_append,a9x];exact a2h _
def c3j(w:WD)(cb:Nat)(e2:Int)(pc:List (Pt×a1q)×Int)(w':WD):Prop:=
 (e2≠0/\Below w w w')\/(e2=0/\∃cm' w1,w.heap.size<=cm'/\Below w w w1/\Fr (λk=>k=cb) w1 w'/\a0i w' cb cm' pc.1 pc.2)
attribute [local go_sem ↓] a2q a1B a5a a5i a9R b0o b0b b6z b5t b8r b7p
theorem b8j(cb cm:Nat)(C:List (Pt×a1q))(sC:Int)(y:0<=sC/\sC<=18446744073709551615)(d:OA)(r:Nat)(b:OA)(f:Nat)(t:TxD)(n me:Int)(z:-9223372036854775808<=n/\n<=9223372036854775807)(w:WD)
  (hC:a0i w cb cm C sC) (h:a9H w d b t) (hgl:a2x w) (hl:t.ins.length<=1000000) (hl2:t.outs.length<=1000000):
  Calls prog 152 #[.agg (txV d r b f t),.int .i64 n,.int .i64 me,.pointer cb] w λe w'=>e=.returned (.tuple #[.int .u64 (a6S n me C sC t).1,.int .i64 (a6S n me C sC t).2])/\
   c3j w cb (a6S n me C sC t).2 (a9a n me C sC t) w':=by
 have⟨le,B⟩:=η0 (a6S n me C sC t);have⟨pc,H⟩:=η0 (a9a n me C sC t);rw[B,H];unfold a9a at H;rw[B]at H;unfold a6S at B;have bl:=hC.st.lt;have cj:=hC.mp.lt;have b0:=Qd w 53 (txV d r b f t);have B0:=ρb w (.cells (txV d r b f t) 53)
 generalize hW:w.alloc (.cells (txV d r b f t) 53)=W at b0 B0
 have⟨g,hg⟩:=ηs w;rw[hg]at b0;have aI:=λX (hX:Below W W X)=>P4 uTx iTx (w:=X) (txV d r b f t).toList (by simpa using b0.fr (Q9 hX) (ρh b0.lt)) rfl
 have a6:=aI W (Qf _ _);have br:=a3L d r b f t W (h.below B0) hl hl2;have aM:=λX (hX:Below w w X)=>a6O d r b f t n me z X (h.below hX) (hgl.below hX) hl hl2
 have hid:=λX (hX:Below w w X)=>a2v d r b f t X (h.below hX) (hgl.below hX) hl hl2
 have cF:=λX (hX:Below w w X)=>a9h cb cm C sC X (hC.below hX)
 have bg:Blk W g 53 (txV d r b f t):=b0;have bq:=a3I (a2K t n) me;have ab:=b7b t n;have bO:=a1V (a2K t n) me;have cG:= @a8y t n;have⟨L,hL⟩:=η0 (a0M (a2K t n) me);rw[hL]at bq H bO B;have b9:L.length<=16:=ρo;simp only[hL]at aM
 have bF:∀x∈L,∃i:Nat,x=(i:Int)/\i<t.outs.length/\i<16:=λx hx=>by
  obtain⟨i,e,hi⟩:=(bq x).1 hx
  have:=(Qm.1 hi).1
  exact⟨i,e,by omega,by omega⟩
 have aG:Dig (idP t):=⟨a3b t,a5f t⟩;have⟨D,hD⟩:=η0 (idP t);rw[hD]at H aG B;simp only[hD]at hid;have bM:(bys D).length=32:=by rw[a0a,aG.1]
 have Q:=c1o;have⟨z1,bm⟩:=η0 ((bys (List.replicate 32 0)).toArray);have aQ:z1.size=32:=by rw[<-bm];simp[a0a]
 simp only[bm]at Q;obtain⟨z2,aY,aR,dt⟩:=P8 (t:=56) c6h d1w;have⟨xs,az⟩:=η0 (txV d r b f t);have bV:xs[1]? =some (.slice b t.outs.length f):=by rw[<-az];rfl
 simp only[show(txV d r b f t).toList.toArray=txV d r b f t by simp,az]at aI a6;rw[az]at hW br bg⊢;simp only[az]at aM hid;have⟨ck,a3⟩:=η0 (a1a t);rw[a3]at br B;have⟨df,HG,dB,b4,cZ,cM,dn,cN⟩:=η8 b9 hg B0 h bF aI aM hid;have⟨dc,cS,bT,cX,HC,bL,dT,dA⟩:=η8 H B bg bV hC bl cj cF;have⟨bA,cL,ce,dF,bY,cu,di⟩:=η7 aG bM Q aQ aY aR y;clear b9 hg B0 h bF aI aM hid H B bg bV hC bl cj cF aG bM Q aQ aY aR y bq ab bO cG hL az b0 hgl hD bm a3 dt;go_enter func152,ntmps152;go_upto_region 3 with fail
 rw[HG.o];go_wp2_with fail;refine μi br ?_;intro w1 aL;have aA:=φt dB aL;have aU:=cM.o w1 aL;have aW:=dn.o w1 aA;have⟨b8,cR⟩:=η2 aA aL;clear aA aL a6
 by_cases I:ck=0
 rotate_left
 ·have B:=cS.o
  rw[if_pos I]at B;subst B;have bl:(ck != 0)=true:=ρw I;have dl:=η1 I;clear I aW aU;go_wp2;go_ret2;exact⟨rfl,.inl ⟨dl,b8.o⟩⟩
 subst I;have B:=cS.o;simp only[ne_eq,not_true_eq_false,if_false]at B;go_wp2_with fail;refine μ1 aW ?_;rintro e2 w2 ⟨v,u,rfl,hu,hv,bv⟩;obtain⟨Av,Nv,cv,rfl⟩:=hv.formN;have hN:=hv.lenN;have cQ:=hv.rd;have dK:Nv<=16:=by have:=df.o;omega
 have bQ:∀a,Av=some a->w1.heap.size<=a.block:=λa ha=>by subst ha;exact(hv.lt (k:=a.block) rfl).1
 have a4:=φt b8 bv;have aP:=φt cR bv;have⟨HN,dy,ch,cd,dQ⟩:=η5 hN cQ a4 aP bQ;clear hN cQ a4 aP bQ hv hu bv aU
 by_cases bX:Nv=0
 ·subst bX
  have aq:L=[]:=ZG HN.symm;rw[if_pos aq]at B;subst B;clear aq;go_wp2;go_ret2;exact⟨rfl,.inl ⟨by simp,ch.o⟩⟩
 have aq:L≠[]:=λe=>bX (by rw[HN.o,e];rfl)
 rw[if_neg aq]at B;have c8:((Nv:Int) == 0)=false:=by simp;omega
 have c9:decide ((Nv:Int)=0)=false:=by simp;omega
 have aV:=η1 B;clear B aq;go_upto_region 9 with fail
 clear c8 c9;have⟨U,hU⟩:=η0 w2.drew;have aF:Below w2 w2 U:=by rw[<-hU];exact(Qf _ _).drew
 have a2:=φt ch aF;have ae:=φt cd aF;have⟨S0,bC⟩:=η0 ((λY=>(LDs 53 (.pointer g)).run prog Y=.ok (.agg xs) Y):WD->Prop);have cy:∀Y,Below U U Y->S0 Y:=λY hY=>by rw[<-bC];exact cM.o Y (ae.trans (hY.mono ae.size))
 have⟨dj,bD,HU,N,av,b2⟩:=η6 bC cy hU a2 ae aF;clear bC cy hU a2 ae aF;with_reducible refine a4F (λi=>i != 3&&i != 6) S0 ρk ?_
 rw[HU.o];refine a2b (m:=6) (Lf:=#[true,false,true,false,false,false,false,false]) [(0,3),(2,0)] true ρk ρk ρk (λ_=>bD.o _ (Qf _ _)) ?_;refine εc1 ?_
 iterate 1 (with_reducible refine a3M (o:=?_) (v:=?_) (a':=?_) ρu ρu (λW' hS=>?_) ?_ ?_;rotate_left 2;(focus(rw[<-dj.o]at hS;exact ρs));focus(exact ρs))
 with_reducible refine a2m ?_
 have Q:=ce.o;refine a2A (j:=4) (n:=3) (Lf:=#[true,true,true,true,true,false,false,false]) (t:=31) (Z:=z1) [(1,2),(3,2)] ρk ρk ρk ρu rfl (λa X=>by go_simp) bD.o ?_;intro X0 bc;have cw:=dA.o X0 (φt N bc);have cH:=η1 bc;clear bc Q;with_reducible refine a4f (o:=?_) ρu ρu (λK hK=>?_)
 refine ψ ?_;go_simp;refine μ1 cw ?_;rintro e3 w3 ⟨rfl,bB,bh,a9⟩;clear cw;have⟨E,I⟩:=ηs X0;rw[I]at bB a9;rw[I];have au:U.heap.size<=E:=by rw[<-I];exact cH.size
 have b3:=φt cH bh;have⟨dr,dP,bZ,cq⟩:=η4 bB a9 au b3;clear bB a9 au b3 I;with_reducible refine hK _ _ bh (λX3 bf=>?_);clear hK K
 have bo:=dr.below bf;have b5:=η1 (φt cq bf);have cD:=cN.o X3 (N.trans (b5.mono N.size));have a0:E+1<X3.heap.size:=bo.st.lt;have⟨dx,dJ⟩:=η2 bo a0;clear bo a0 bh bf;with_reducible refine a4f (o:=?_) ρu ρu (λK hK=>?_)
 refine ψ ?_;go_simp;refine μi cD ?_;intro w4 aJ;clear cD;have cc:=φt b5 aJ;have ad:=dx.below aJ;have⟨cO,ds⟩:=η2 cc ad;clear cc ad;with_reducible refine hK _ _ aJ (λX5 bj=>?_);clear hK K
 have ai:=ds.below bj;have cK:=η1 (φt cO bj);have aS:=ai.st.lt;have⟨ak,dH⟩:=η2 ai aS;clear ai aS aJ bj;with_reducible refine a6e ?_;intro dz h4 bx aB
 have dq:=P7 iId aB dF (bys D) cL.o (a0h _);have r1:=aB.row_ (bys D).toArray;have r2:=Ql (g:=h4) cK.o bx (bys D).toArray;have aK:=ak.st.apart aB ρd;have bK:=ak.ne_blk aB;have f4:=ρr (h4) X5 (bys D).toArray;have cp:=ak.fr f4 aK bK;have⟨R1,R2,dk,dN⟩:=η4 r1 r2 cp bx;clear r1 r2 cp bx dz aB aK bK f4;refine a1c [(5,3),(6,2),(7,3)] true ρk ρk ρk (λ_=>bD.o _ cK.o) ?_;refine ε1 ?_;refine τ1 ?_;refine ε1 ?_;clear dq;refine ν ?_;have⟨Y4,ba⟩:=η0 (X5.setRow h4 (bys D).toArray);have kd:=R1.o;have aD:=R2.o;have ax:=dk.o;rw[ba]at kd aD ax;have a1:=φt N aD;have aZ:=φt av aD;have cJ:=φt b2 aD;have kt:=φf bT aZ;have bS:E+1≠h4:=ax.st.apart kd ρd;have bJ:E≠h4:=ax.ne_blk kd;have⟨dg,c2,ag,cP,dC,cU,cY,c4⟩:=η8 kd ax a1 cJ kt bS bJ ba;clear kd ax a1 cJ kt bS bJ ba aD aZ;go_upto_region 11 with fail
 rw[c4.o];have ci:a5v t []=0:=rfl;have db:=η1 ci;clear ci;go_loopg [15,17,18,19,43] Nv (λkk q _ _ _ s wr=>∃i:Nat,i+kk=Nv/\s=.int .i64 i/\q=.int .u64 (a5v t (L.take i))/\(a3f t D (L.take i) (C,sC)).1=0/\a0i wr (E+1) E (a3f t D (L.take i) (C,sC)).2.1 (a3f t D (L.take i) (C,sC)).2.2/\(0<=(a3f t D (L.take i) (C,sC)).2.2/\(a3f t D (L.take i) (C,sC)).2.2<=18446744073709551615)/\Fr (λk=>k=E+1\/k=E) Y4 wr);exact⟨0,by omega,rfl,by rw[List.take_zero,db.o],rfl,c2.o,di.o,Qp _ _⟩;obtain⟨i,hi,rfl,rfl,aa,G,V,R⟩:=hrel;have au:=bZ.o;have bN:=N.size;have bI:=ag.size;have aj:Below w w wr:=ag.trans (R.below_of ρo (λk e=>ρo))
 by_cases dm:i<Nv
 ·have bW:(i:Int)<Nv:=ρo
  have ab:i<L.length:=by rw[<-HN.o];exact dm
  obtain⟨g1,o1,rfl,bu,s1⟩:=dy.at ab;obtain⟨j,hj,bp,dI⟩:=cZ.o (L.getD i 0) (by simp[List.getD,ab]);have aH:L[i]=(j:Int):=by rw[<-hj];simp[List.getD,ab]
  obtain⟨g2,o2,c5,dh,cz⟩:=(b4.below aj).outs j bp;have J:=b4.bd.outs _ (Qu bp);have aT:=(cP.cell (p:=⟨g1,o1+i,none⟩) bu).trans s1;have da:=(R.cell (p:=⟨g1,o1+i,none⟩) (Qh bu cP.size) (show¬(g1=E+1\/g1=E) by have:=b2.size;omega)).trans aT;rw[hj]at da;have aN:b4C t L[i]=t.outs[j]:=by rw[aH];simp[b4C,List.getD,bp]
  have F:=b9s t D L[i] (L.take i) (C,sC) aa;rw[<-Qe ab,aN,aH]at F;have al:=a9x t (L.take i) L[i];rw[<-Qe ab,aN]at al
  have aO:∀e:Int,e≠0->(a3f t D (L.take (i+1)) (C,sC)).1=e->(a3f t D L (C,sC)).1=e:=λe he h1=>by
   have e1:L=L.take i++(L[i]::L.drop (i+1)):=by rw[List.getElem_cons_drop,ZW]
   rw[e1,b0M t D _ _ _ aa,a5M,aN,aH];rw[F]at h1
   split at h1
   ·rename_i aK
    rw[if_pos aK];exact h1
   exact absurd h1.symm he
  have⟨S,hS⟩:=η0 (a3f t D (L.take i) (C,sC));rw[hS]at F G V aa;have cA:a6l (D,(j:Int)):=⟨bA.1,bA.2,by show-9223372036854775808<=(j:Int)/\(j:Int)<=_;omega⟩;have O:=λX hX=>b0Q (E+1) E S.2.1 S.2.2 (D,(j:Int)) cA t.outs[j] J V X hX
  have ah:=b8a (m:=S.2.1) V (D,(j:Int)) J;have cx:=Pf d1I c6h wr g2 (o2+j*33) (a1s t.outs[j]) (a0G J) cz;have cr:=λX=>d2G bA.1 (j:Int) X
  have a8:=λX=>c6g (o:=t.outs[j]) J.len X
  have aE:=a0G J;have ar:=a1O t.outs[j];have an:(bys t.outs[j].ow).length=32:=by rw[a0a,J.len]
  have af:=b3l J;have T:=b7D J;have cg:=b2s t (L.take i);have dE:=J.am;have⟨am,bs⟩:=η0 (t.outs[j].am);simp only[bs]at a8;rw[bs]at T dE al;have⟨pt,bw⟩:=η0 (a7H S.2.1 S.2.2 (D,(j:Int)) t.outs[j]);rw[bw]at F ah;simp only[bw]at O;obtain⟨pe,p2⟩:=pt;simp only at F O ah;have⟨ow,bE⟩:=η0 (bys t.outs[j].ow);rw[bE]at af an;simp only[bE]at a8;have⟨ov,bt⟩:=η0 (a1s t.outs[j]);rw[bt]at cx aE af T;simp only[bt]at a8 O ar;have⟨pv,cC⟩:=η0 (ptL D (j:Int));simp only[cC]at cr O;have⟨dv,bz⟩:=η0 (bys D);simp only[bz]at cr;have cE:=dC.fr R (show¬(g=E+1\/g=E) by have:=bT.lt;have:=av.size;omega);have bb:=dg.o;have bi:=cL.o;rw[bz]at bb bi;have be:=bb.fr R (show¬(h4=E+1\/h4=E) by have:=cU.o;have:=cY.o;omega);have k0:=(cE.cell 1).trans cX;have⟨ni,bR⟩:=η0 t.outs.length;rw[bR]at k0;have dU:(j:Int)<ni:=ρo;have dR:(0:Int)<=(j:Int):=ρo
  generalize cT:a5v t (L.take i)=si at al cg⊢
  have cB:=bY.o wr;have a7:=cu.o wr ov aE ar;have ka:=Qd wr 56 ov.toArray;have D5:=ρb wr (.cells ov.toArray 56);have⟨a5,bH⟩:=ηs wr;rw[bH]at cB a7 ka
  generalize dp:wr.alloc (.cells ov.toArray 56)=V5 at a7 ka D5
  have ad:=G.below D5;have ay:=O V5 ad;have b6:=be.fr (Q9 D5) (ρh be.lt);have dM:=P4 a2i iId dv b6 bi;have dO:=P6 a2i iId ka (off:=0) ow an af;have cV:=(ka.cell 32).trans T;have bG:=R.trans (Q9 D5) (λk hk e=>by have:=R.size;omega);have du:=ad.st.lt;have c7:=ad.mp.lt;have bU:E+1<a5/\E<a5:=by have:=G.st.lt;have:=G.mp.lt;omega
  subst c5;have⟨dd,b7,bP,de,c1,c6,dS,cW⟩:=η8 F al aO ah bG ka aj bU;have cn:=η1 T;clear F al aO ah bG ka aj bU T hS aH hj aN cz J V G cE be b6 bb bi cA O R du c7 ad D5 bH dp aT s1 bu dh bs bE bt cC bz bR cT aE ar an af aa bN bI au bw;go_wp2_with fail;refine μ1 ay ?_;rintro e6 w6 ⟨rfl,ai,bk⟩;clear ay;have ct:=c6.fr bk (show¬(a5=E+1\/a5=E) by have:=cW.o;omega);have q6:=(ct.cell 32).trans cn;have bn:=c1.trans bk (λk _ e=>e);have cf:Below w w w6:=ag.trans (bn.below_of (ρh ag.o.size) (λk e=>by have:=bZ.o;have:=N.size;omega));have F:=dd.o;have⟨ak,c3,dD⟩:=η3 ai bn cf;clear ai bn cf bk ct cV
  by_cases ac:pe=0
  ·subst ac
   rw[if_neg ρp]at F;have aC:=η1 F;clear F;go_wp2;go_roundg (Nv-(i+1));exact⟨i+1,by omega,by go_num,by rw[b7.o],by rw[aC.o],by rw[aC.o];exact ak.o,by rw[aC.o];exact de.o,c3.o⟩;omega
  have dV:(pe != 0)=true:=ρw ac;rw[if_pos ac]at F;have B:=aV.o;have hx:=bP.o pe ac (by rw[F]);rw[hx,if_pos ac]at B;subst B;have dw:=η1 ac;clear ac hx F q6;go_wp2;go_ret2;exact⟨rfl,.inl ⟨dw,dD.o⟩⟩
 obtain rfl:i=Nv:=ρo;have bW:¬(i:Int)<i:=ρo;rw[Qb (by rw[HN.o];exact Qg _)]at aa G V⊢;have B:=aV.o;rw[aa,if_neg ρp]at B;subst B;have H:=dc.o;simp only[ne_eq,not_true_eq_false,if_false]at H;rw[H]at G V;have dG:=P4 d3b d1C [.map (some E),.int .u64 pc.2] G.st rfl;have ao:=HC.st.fr (Q9 aj) (ρh bL.o)
 have dL:=P9 d1C ao rfl [.map (some E),.int .u64 pc.2] rfl (by
  intro v hv;simp only[Qo,Qt,or_false]at hv
  rcases hv with rfl | rfl<;>rfl)
 have kz:=ao.row_ #[.map (some E),.int .u64 pc.2];have fz:=ρr (cb) wr #[.map (some E),.int .u64 pc.2];have cI:a0i (wr.setRow cb #[.map (some E),.int .u64 pc.2]) cb E pc.1 pc.2:=⟨kz,G.mp.fr fz (show¬E=cb by have:=bL.o;omega),G.bd⟩;have aX:c3j w cb 0 pc (wr.setRow cb #[.map (some E),.int .u64 pc.2]):=.inr ⟨rfl,E,wr,by omega,aj,fz,cI⟩;have ca:=η1 aX;clear aX cI fz kz ao G V R aa H au bN bI aj;go_wp2;go_ret2;exact⟨rfl,ca.o⟩
end
end Go.Proofs.YtpolljfkceanaaaGreatDoor
