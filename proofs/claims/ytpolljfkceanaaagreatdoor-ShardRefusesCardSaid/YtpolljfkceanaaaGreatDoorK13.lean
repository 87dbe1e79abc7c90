/-
  Contracts of functions, plain laws.
-/
import Derived.Test.YtpolljfkceanaaaGreatDoorK12
namespace Go.Proofs.YtpolljfkceanaaaGreatDoor
open Go.RowKit Go.Shelf Go.Maps Go.Proofs.Tryz
set_option maxRecDepth 100000
set_option maxHeartbeats 64000000
variable {s:Int}{l seed:LI}{N:List Nat}{g:Nat}{a w:WD}
set_option linter.all false
section
theorem d0i(C:List (Pt×a1q))(L:List (Pt×a1J))(i:InD):0<=inQ C L i/\inQ C L i<=63:=by
 unfold inQ
 split
 ·omega
 split
 ·omega
 split
 ·omega
 split<;>omega
theorem c0M(C:List (Pt×a1q))(L:List (Pt×a1J))(t:TxD):∀l,0<=b3P C L t l/\b3P C L t l<=63
 | []=>by simp[b3P]
 |
  k::l=>by
  unfold b3P
  split
  ·exact d0i _ _ _
  exact c0M C L t l
theorem c1t(t:TxD)(n me:Int):0<=a6B t n me/\a6B t n me<=18446744073709551615:=by
 rw[<-b1k t n me rfl];exact b2Z _ _ _
theorem b2h(n me:Int)(C:List (Pt×a1q))(L:List (Pt×a1J))(t:TxD):(0<=(a1w n me C L t).1/\(a1w n me C L t).1<=18446744073709551615)/\0<=(a1w n me C L t).2/\(a1w n me C L t).2<=63:=by
 have:=c3e t
 have:=c0M C L t (a0M (a2P t n) me)
 have:=c1t t n me
 unfold a1w
 split
 ·simp only;omega
 split
 ·simp only;omega
 split
 ·simp only;omega
 simp only;omega
theorem c5a(n me:Int)(C:List (Pt×a1q))(L:List (Pt×a1J))(sL:Int)(t:TxD):0<=(a9P n me C L sL t).1/\(a9P n me C L sL t).1<=18446744073709551615:=by
 have:=b2h n me C L t
 unfold a9P
 split
 ·simp
 split
 ·simp
 split
 ·simp
 exact this.1
structure c9v(c:(List (Pt×a1q)×Int)×(List (Pt×a1J)×Int)):Prop where
 s:0<=c.1.2/\c.1.2<=18446744073709551615
 l:c.1.1.length<=256
 s2:0<=c.2.2/\c.2.2<=18446744073709551615
 l2:c.2.1.length<=64
 bd:∀p∈c.1.1,p.2.Bd
theorem b7s(t:TxD)(id:LI)(hid:Dig id):∀(l:LI) (c:(List (Pt×a1q)×Int)×(List (Pt×a1J)×Int)),c9v c->c9v (a4H t id l c)
 | [],c,h=>h
 | k::l,c,h=>b7s t id hid l _ ⟨a2h _,Qk (b6X _ _) h.l,c6I h.s2 _ ⟨a3p h.bd _,hid.1,hid.2⟩,c3L h.l2 _ _,λp hp=>h.bd p (ZD.1 hp).1⟩
theorem c3D{n me:Int}{C:List (Pt×a1q)}{sC:Int}{L:List (Pt×a1J)}{sL:Int}{t:TxD}(h:c9v ((C,sC),(L,sL))):c9v (a8T n me C sC L sL t):=by
 unfold a8T
 split
 ·exact h
 exact b7s t _ ⟨a3b t,a5f t⟩ _ _ h
theorem a1e.setCL{b:ShB}{x:ShD}(h:a1e w g b N seed x){c:(List (Pt×a1q)×Int)×(List (Pt×a1J)×Int)}(d:Fr (λk=>(k=b.cb\/k=b.cm)\/k=b.lb\/k=b.lm) w a)(m:a0i a b.cb b.cm c.1.1 c.1.2)(o:a0j a b.lb b.lm c.2.1 c.2.2)(f:c9v c):a1e a g b N seed {x with C:=c.1.1,sC:=c.1.2,L:=c.2.1,sL:=c.2.2}:=by
 have p:=h.inN
 have r:∀k,((k=b.cb\/k=b.cm)\/k=b.lb\/k=b.lm)->k∈N:=λk e=>by
  rcases e with(e | e) | e | e<;>rw[e]
  ·exact p.2.1
  ·exact p.2.2.1
  ·exact p.2.2.2.1
  exact p.2.2.2.2.1
 refine⟨h.st.fr d (λe=>?_),m,o,h.ma.fr d (λe=>?_) (λe=>?_) r,h.rg.fr d r,h.sub,λj v=>Qh (h.lt j v) d.size,{h.ok with sC:=f.s,lC:=f.l,sL:=f.s2,lL:=f.l2},h.ap⟩
 ·rcases e with(e | e) | e | e
  ·exact h.sb_cb e
  ·exact h.sb_cm e.symm
  ·exact h.sb_lb e
  exact h.sb_lm e.symm
 ·rcases e with(e | e) | e | e
  ·exact h.cb_kb e.symm
  ·exact h.cm_kb e.symm
  ·exact h.lb_kb e.symm
  exact h.lm_kb e.symm
 rcases e with(e | e) | e | e
 ·exact h.km_cb e
 ·exact h.ap.2.1 e.symm
 ·exact h.km_lb e
 exact h.ap.2.2 e.symm
def lkQ(seed:LI)(x:ShD)(cmd:LI)(t:TxD):Except Int (ShD×RpD):=
 if a0M (a2P t x.n) x.me=[]then .error 11
 else if b9d t.exp x.ep=true then .error 12
 else if(a2E x.M (0,idP t)).isSome=true then .ok (x,a2O (a2Q x.M (0,idP t)).c)
 else if 128<=x.M.length then .error 18
 else if t.exp<=x.ep then b5e seed x 0 cmd t ⟨2,0,a7R,0,12,0⟩
 else if(a1w x.n x.me x.C x.L t).2≠0 then b5e seed x 0 cmd t ⟨2,0,a7R,0,(a1w x.n x.me x.C x.L t).2,0⟩
 else if(a9P x.n x.me x.C x.L x.sL t).2≠0 then .error (a9P x.n x.me x.C x.L x.sL t).2
 else b5e seed {x with C:=(a8T x.n x.me x.C x.sC x.L x.sL t).1.1,sC:=(a8T x.n x.me x.C x.sC x.L x.sL t).1.2,L:=(a8T x.n x.me x.C x.sC x.L x.sL t).2.1,sL:=(a8T x.n x.me x.C x.sC x.L x.sL t).2.2} 0 cmd t ⟨1,0,a7R,(a9P x.n x.me x.C x.L x.sL t).1,0,0⟩
attribute [local go_sem ↓] a2q a1G a1M a7d a3j
theorem c8N(B a:Nat)(b:ShB)(N:List Nat)(seed:LI)(x:ShD)(A:OA)(n c:Nat)(d:LI)(z:n=d.length)(D:A=none->c=0)(y:d.length<=100000000)(f:OA)(o:Nat)(m:OA)(p:Nat)(t:TxD)(w:WD)
  (h:a1e w a b N seed x) (hB:∀j∈a::b.own,B<=j) (hby:b9j B w A d) (hgl:a8S B w) (ht:TxS B w f m t) (hl1:t.ins.length<=1000000) (hl2:t.outs.length<=1000000):
  Calls prog 88 #[.pointer a,.slice A n c,.agg (txV f o m p t)] w λe w'=>a6x B a N seed (lkQ seed x d t) e w'/\b1q B a seed w w':=by
 generalize E:lkQ seed x d t=q
 unfold lkQ at E;have⟨g,hg⟩:=ηs w;have bV:=ht.at_.bd;have bG:(txV f o m p t)[1]? =some (.slice m t.outs.length p):=rfl;have bq:(txV f o m p t)[0]? =some (.slice f t.ins.length o):=rfl;have bk:(txV f o m p t)[2]? =some (.int .u64 t.fee):=rfl;have br:(txV f o m p t)[3]? =some (.int .i64 t.exp):=rfl;have bE:(txV f o m p t).toList.length=4:=rfl
 generalize cp:txV f o m p t=tv at bq bG bk br bE⊢
 have b0:=Qd w 53 (tv);have B0:=ρb w (.cells (tv) 53)
 generalize hW:w.alloc (.cells (tv) 53)=W at b0 B0
 rw[hg]at b0;have bA:W.heap.size=g+1:=by rw[<-hW,Qi,hg]
 have a5:=a5k W;have⟨zs,bp⟩:=η0 ((a0O 0 false a0r none 0).toArray);have bc:zs.size=139:=by rw[<-bp,Qc];exact a0A a0B _ _ _ _
 rw[bp,bA]at a5;have bs:=b0.alloc (.cells zs 41);have bz:=Qd W 41 zs;have B1:Below w w (W.alloc (.cells zs 41)):=B0.alloc B0.size _
 generalize hV:W.alloc (.cells zs 41)=V at bs bz B1 a5
 rw[bA]at bz;have b8:(ALs 41).run prog (w.alloc (.cells tv 53))=.ok (.pointer (g+1:Nat)) V:=by rw[hW];exact a5
 have hX:=a4m.begin h hB B1 (r:=g+1) ⟨by omega,bz.lt⟩ (K:=[(g,53,tv),(g+1,41,zs)]) (λq E=>by
  simp only[Qo,Qt,or_false]at E
  rcases E with rfl | rfl
  ·exact⟨by simp only;omega,bs⟩
  exact⟨by simp only;omega,bz⟩)
 have be:∀X y' b' N',a4m B (g+1) w a b' N' seed y' [(g,53,tv),(g+1,41,zs)] X->(LDs 53 (.pointer g)).run prog X=.ok (.agg tv) X:=λX y' b' N' hx=>by
  have:=P4 uTx iTx (w:=X) tv.toList (by simpa using(hx.kp _ Qr).1) bE
  simpa using this
 have ba:∀X y' b' N',a4m B (g+1) w a b' N' seed y' [(g,53,tv),(g+1,41,zs)] X->X.cell? ⟨g,0,none⟩=some (.slice f t.ins.length o)/\X.cell? ⟨g,1,none⟩=some (.slice m t.outs.length p)/\X.cell? ⟨g,2,none⟩=some (.int .u64 t.fee)/\X.cell? ⟨g,3,none⟩=some (.int .i64 t.exp):=λX y' b' N' hx=>
  have hk:=(hx.kp _ Qr).1
  ⟨(hk.cell 0).trans bq,(hk.cell 1).trans bG,(hk.cell 2).trans bk,(hk.cell 3).trans br⟩
 obtain⟨ZR,ax,a9,cP⟩:=P8 (t:=41) a4h b4t;have b5:-9223372036854775808<=x.n/\x.n<=9223372036854775807:=by have:=h.ok.n;have:=h.ok.me;omega
 have b4:Dig (idP t):=⟨a3b t,a5f t⟩;have⟨cK,cL,a6,bm,aF,aI,bD,bw⟩:=η8 hX E bc hby hgl ht z D;have⟨bH,HG,ah,b2,b6,ch,bC,cX⟩:=η8 y hg be ba ax a9 b5 bV;have⟨c3,av,cT⟩:=η3 b4 cp h;clear hX E bc hby hgl ht z D y hg be ba ax a9 b5 bV b4 cp h bp b0 B0 bs bz B1 bA a5 bq bG bk br bE hB hW hV cP;go_enter func88,ntmps88;have⟨U1,bv⟩:=η0 V.drew;have aN:=cK.drew;rw[bv]at aN;have cu:(LDs 53 (.pointer g)).run prog U1=.ok (.agg tv) U1/\U1.cell? ⟨a,1,none⟩=some (.int .i64 x.n)/\U1.cell? ⟨a,0,none⟩=some (.int .i64 x.me):=⟨ah.o _ _ _ _ aN,aN.sh.c.2.1,aN.sh.c.1⟩;have⟨bx,bS,cB⟩:=η3 aN bv cu;clear aN bv cu;go_upto_region 1 with fail
 rw[HG.o];clear b8;refine a0s [(1,3),(2,3),(3,3),(5,3),(6,3),(7,3),(0,0),(4,0),(8,0),(9,2),(10,3),(11,3),(12,3),(13,3),(14,3)] (λY=>(LDs 53 (.pointer g)).run prog Y=.ok (.agg tv) Y/\Y.cell? ⟨a,1,none⟩=some (.int .i64 x.n)/\Y.cell? ⟨a,0,none⟩=some (.int .i64 x.me)) ρk ρk ρk ρk (ρy bS.o cB.o) ?_;rw[bS.o];have a8:=a6O f o m p t x.n x.me bC U1 (aI.go bx.fr).at_ (aF.go bx.fr).at_ hl1 hl2;rw[av.o]at a8;have⟨L,hL⟩:=η0 (a0M (a2P t x.n) x.me)
 have cn:L.length<=16:=by
  rw[<-hL]
  have:=a1V (a2P t x.n) x.me
  have:= @a4q t x.n
  omega
 rw[hL]at a8;have E:=cL.o;rw[hL]at E;have⟨bP,c4,cR⟩:=η3 E hL cn;clear E hL cn;refine ε6 ?_
 iterate 3 refine θ3 (λ_ h=>h) ?_
 refine τ ?_;intro K hK;refine μ1 a8 ?_;rintro e5 w5 ⟨vi,vo,rfl,bt,cN,cd⟩;with_reducible refine hK _ _ ?_;clear hK K
 refine ε5 ?_;clear a8;refine ν ?_;have bZ:=bx.below cd;obtain⟨Av,Nv,cv,rfl⟩:=bt.formN;have bY:=bt.lenN;have cW:Nv<=16:=by have:=cR.o;omega
 have⟨ak,cj⟩:=η2 bZ bY;clear bZ bY cd bt cN
 by_cases a3:Nv=0
 ·subst a3
  have b3:L=[]:=ZG cj.symm;have E:=bP.o;rw[if_pos b3]at E;subst E;have hi:=a0X true 11 w5;simp only[if_true]at hi;have hm:=a1m 11 ρo w5;clear b3;go_wp2_with fail;refine μf hi ?_;go_wp2_with fail;refine μf hm ?_;exact⟨rfl,ak.ref ρo⟩
 have E:=bP.o;rw[if_neg (λe=>a3 (by rw[cj.o,e];rfl))]at E;have hi:=a0X false 11 w5;simp only[QI,if_false]at hi;have hm:=a1o w5;have cD:((Nv:Int) == 0)=false:=by simp;omega
 have cE:decide ((Nv:Int)=0)=false:=by simp;omega
 have⟨cx,cV⟩:=η2 E a3;clear E a3;go_wp2_with fail;refine μf hi ?_;go_wp2_with fail;refine μf hm ?_;clear hi hm cD cE;have b9:=ah.o _ _ _ _ ak
 by_cases af:b9d t.exp x.ep=true
 ·have E:=cx.o
  rw[if_pos af]at E;subst E;have al:=a7T a b ((g+1)::N) seed x 0 f o m p t w5 ak.sh af;rw[av.o]at al;clear af;go_wp2_with fail;refine μi al ?_;intro w9 a7;exact⟨rfl,(ak.below a7).ref ρo⟩
 have E:=cx.o;rw[if_neg af]at E;have al:=a7X a b ((g+1)::N) seed x 0 ρo f o m p t w5 ak.sh (ρw af) (aI.go ak.fr).at_ (aF.go ak.fr).at_ hl1 hl2;rw[av.o]at al;have⟨b7,cU⟩:=η2 E af;clear E af;go_wp2_with fail;refine μ1 al ?_;rintro e9 w9 ⟨⟨A9,c9,rfl,aK,bf⟩,a7⟩;clear al b9;have bi:a3C w5 w9 (a2Q x.M (0,idP t)).c A9 c9:=⟨aK.bd,aK.len,bf⟩;have an:=a0A aK.bd 0 true A9 c9;have ax:=b6.o w9;have ar:=ch.o w9 (a0O 0 true (a2Q x.M (0,idP t)).c A9 c9) an (a0W _ _ _ _ _);have kr:=Qd w9 41 (a0O 0 true (a2Q x.M (0,idP t)).c A9 c9).toArray;have Dr:=ρb w9 (.cells (a0O 0 true (a2Q x.M (0,idP t)).c A9 c9).toArray 41);have⟨r9,cA⟩:=ηs w9;rw[cA]at ax ar kr
 generalize c2:w9.alloc (.cells (a0O 0 true (a2Q x.M (0,idP t)).c A9 c9).toArray 41)=Y9 at ar kr Dr
 have a2:=(ak.below a7).below Dr;have bg:=P4 a7w a4h _ kr an;have H:(g+1,41,zs)∈[(g,53,tv),(g+1,41,zs)]:=by simp
 have bb:=a2.sto H a6 (a0O 0 true (a2Q x.M (0,idP t)).c A9 c9) an (a0W _ _ _ _ _);have ct:g+1<w5.heap.size:=(ak.kp _ H).1.lt;have ao:=a2.fin H (N0:=N) (λj hj=>Qj _ hj) (y0:=x) rfl (rp:=a2O (a2Q x.M (0,idP t)).c) ak.sz ct (bi.below Dr) rfl
 generalize aQ:(a2E x.M (0,idP t)).isSome=is9
 have⟨cg,aV⟩:=η0 (a0O 0 true (a2Q x.M (0,idP t)).c A9 c9);simp only[a2O]at ao;rw[aV]at ar bg bb an ao;rw[aV];have E:=b7.o;rw[aQ]at E;have⟨aX,bN,a0,cS⟩:=η4 ao an a2 aQ;clear ao an a2 aQ aK bf a7 bi kr Dr cA H aV ct
 cases is9 with
 |
  true=>
  rw[if_pos rfl]at E;subst E;go_wp2_with fail;obtain⟨dR,aH,ag⟩:=Q8.1 a7w;refine bodyPost_ret (v:=.agg cg.toArray) (a0c rfl _ _ (g+1) _ cg dR rfl aX.2.2 aH ag (ρy bN.o a4h)) rfl ?_;exact⟨aX.1,aX.2.1⟩
 | false=>
 rw[if_neg ρp]at E;have bh:=η1 E;clear E;go_upto_region 6 with fail
 clear bg bb ar ax;have aU:=b0A a b ((g+1)::N) seed x Y9 a0.sh
 by_cases aG:128<=x.M.length
 ·have E:=bh.o
  rw[if_pos aG]at E;subst E;rw[show decide (128<=x.M.length)=true by simpa using aG]at aU;have hi:=a0X true 18 Y9;simp only[if_true]at hi;have hm:=a1m 18 ρo Y9;clear aG;go_wp2_with fail;refine μf aU ?_;go_wp2_with fail;refine μf hi ?_;go_wp2_with fail;refine μf hm ?_;exact⟨rfl,a0.ref ρo⟩
 have E:=bh.o;rw[if_neg aG]at E;rw[show decide (128<=x.M.length)=false by simpa using aG]at aU;have hi:=a0X false 18 Y9;simp only[QI,if_false]at hi;have hm:=a1o Y9;have⟨ca,c1⟩:=η2 E aG;clear E aG;go_wp2_with fail;refine μf aU ?_;go_wp2_with fail;refine μf hi ?_;go_wp2_with fail;refine μf hm ?_;clear aU hi hm;have⟨U4,bo⟩:=η0 Y9.drew;have az:=a0.drew;rw[bo]at az;have ck:(LDs 53 (.pointer g)).run prog U4=.ok (.agg tv) U4/\U4.cell? ⟨a,1,none⟩=some (.int .i64 x.n)/\U4.cell? ⟨a,0,none⟩=some (.int .i64 x.me)/\U4.cell? ⟨a,7,none⟩=some (.pointer b.cb)/\U4.cell? ⟨a,8,none⟩=some (.pointer b.lb):=⟨ah.o _ _ _ _ az,az.sh.c.2.1,az.sh.c.1,az.sh.c.2.2.2.2.2.2.2.1,az.sh.c.2.2.2.2.2.2.2.2.1⟩;have⟨aY,bX,cI⟩:=η3 az bo ck;clear az bo ck;go_upto_region 7 with fail
 refine a0s [(1,3),(2,3),(3,3),(5,3),(6,3),(7,3),(9,3),(10,3),(11,3),(13,3),(14,3),(15,3),(0,0),(4,0),(8,0),(12,0),(16,0),(17,2),(18,3),(19,3),(20,3),(21,3),(22,3)] (λY=>(LDs 53 (.pointer g)).run prog Y=.ok (.agg tv) Y/\Y.cell? ⟨a,1,none⟩=some (.int .i64 x.n)/\Y.cell? ⟨a,0,none⟩=some (.int .i64 x.me)/\Y.cell? ⟨a,7,none⟩=some (.pointer b.cb)/\Y.cell? ⟨a,8,none⟩=some (.pointer b.lb)) ρk ρk ρk ρk (ρy bX.o cI.o) ?_;rw[bX.o];have aO:=a9m b.cb b.cm x.C x.sC b.lb b.lm x.L x.sL f o m p t x.n x.me bC U4 aY.sh.co aY.sh.lo (aI.go aY.fr).at_ (aF.go aY.fr).at_ hl1 hl2;have aL:=b2h x.n x.me x.C x.L t;rw[av.o]at aO;have⟨iq,cc⟩:=η0 (a1w x.n x.me x.C x.L t);have E:=ca.o;rw[cc]at E aO aL;obtain⟨i1,i2⟩:=iq;simp only at E aO aL;have⟨ce,bL⟩:=η2 E aL;clear E aL cc;refine ε7 ?_;refine ε5 ?_
 iterate 5 refine θ5 (λ_ h=>h) ?_
 refine τ ?_;intro K hK;refine μi aO ?_;intro w7 cr;with_reducible refine hK _ _ ?_;clear hK K
 refine ε5 ?_;clear aO;refine ν ?_;have cf:=aY.below cr;have cF:=η1 cf;clear cf cr;have⟨U5,bF⟩:=η0 w7.drew;have aW:=cF.drew;rw[bF]at aW;have bQ:U5.cell? ⟨a,3,none⟩=some (.int .i64 x.ep)/\U5.cell? ⟨g,3,none⟩=some (.int .i64 t.exp):=⟨aW.sh.c.2.2.2.1,(b2.o _ _ _ _ aW).2.2.2⟩;have⟨I,bT,cH⟩:=η3 aW bF bQ;clear aW bF bQ;go_upto_region 8 with fail
 refine a0s [(0,3),(1,3),(2,3),(4,3),(3,0),(5,0),(6,3)] (λY=>Y.cell? ⟨a,3,none⟩=some (.int .i64 x.ep)/\Y.cell? ⟨g,3,none⟩=some (.int .i64 t.exp)) ρk ρk ρk ρk (ρy bT.o cH.o) ?_;rw[bT.o];refine ε4 ?_
 iterate 2 refine θ2 (λ_ h=>h) ?_
 by_cases aD:t.exp<=x.ep
 ·have E:=ce.o
  rw[if_pos aD]at E;have hb:decide (t.exp<=x.ep)=true:=ρw aD;have⟨a4,cO⟩:=η2 E aD;clear E aD;refine ε1 ?_;refine ν ?_;have ay:=ah.o _ _ _ _ I;have ai:=b2Q 2 12;have ad:(⟨2,0,a7R,0,12,0⟩:a1P).Bd:=b1v ρo Dig.zIdY ρo ρo;have G:=a5z a b ((g+1)::N) seed x 0 ρo A n c d bD.o bw.o bH.o f o m p t ⟨2,0,a7R,0,12,0⟩ ad U5 I.sh (bm.go I.fr).at_ (aI.go I.fr).at_ hl1 hl2 (aF.go I.fr).at_;rw[av.o]at G;have E:=a4.o;have⟨e0,aa⟩:=η0 ((⟨2,0,a7R,0,12,0⟩:a1P):a1P);rw[aa]at G E ad;simp only[aa]at ai;have⟨ev,T⟩:=η0 ((a0x e0).toArray);rw[T]at G;simp only[T]at ai;have⟨dq,aE⟩:=η0 (b5e seed x 0 d t e0);rw[aE]at G E;subst E;have cz:=η1 T;clear T ad aa aE;go_wp2_with fail;refine μ1 G ?_;rintro bU bM ⟨aB,R⟩;clear G ai
  cases dq with
  |
   error k=>
   obtain⟨hk,rfl⟩:=aB;exact⟨rfl,I.refF R hk⟩
  |
   ok yr=>
   obtain⟨aZ,rp⟩:=yr;obtain⟨⟨cq,Z,aA⟩,ab,ac,rfl,F⟩:=aB;have J:=I.step' Z R;have H:(g+1,41,zs)∈[(g,53,tv),(g+1,41,zs)]:=by simp
   have S:=a0A F.1 rp.e rp.has ab ac;have aS:=J.sto H a6 (a0O rp.e rp.has rp.c ab ac) S (a0W _ _ _ _ _);have aC:g+1<U5.heap.size:=(I.kp _ H).1.lt;have Q:=J.fin H (N0:=N) (λj hj=>Qj _ hj) (y0:=aZ) aA (rp:=rp) I.sz aC F rfl;have⟨rs,ae⟩:=η0 (a0O rp.e rp.has rp.c ab ac);rw[ae]at aS Q S;rw[ae];have⟨O,aT⟩:=η2 Q S;clear Q S J Z F R aA H aC ae;clear ay;go_wp2_with fail;obtain⟨dR,aH,ag⟩:=Q8.1 a7w;refine bodyPost_ret (v:=.agg rs.toArray) (a0c rfl _ _ (g+1) _ rs dR rfl O.2.2 aH ag (ρy aT.o a4h)) rfl ?_;exact⟨O.1,O.2.1⟩
 have E:=ce.o;rw[if_neg aD]at E;have hb:decide (t.exp<=x.ep)=false:=ρw aD;have⟨a4,cO⟩:=η2 E aD;clear E aD;refine ε1 ?_;refine ν ?_
 by_cases aP:i2=0
 rotate_left
 ·have E:=a4.o
  rw[if_pos aP]at E;have cM:=bL.o;have cY:(i2 != 0)=true:=ρw aP;have⟨cQ,c0⟩:=η2 E aP;clear E aP;have ay:=ah.o _ _ _ _ I;have ai:=b2Q 2 i2;have ad:(⟨2,0,a7R,0,i2,0⟩:a1P).Bd:=b1v ρo Dig.zIdY ρo cM.2;have G:=a5z a b ((g+1)::N) seed x 0 ρo A n c d bD.o bw.o bH.o f o m p t ⟨2,0,a7R,0,i2,0⟩ ad U5 I.sh (bm.go I.fr).at_ (aI.go I.fr).at_ hl1 hl2 (aF.go I.fr).at_;rw[av.o]at G;have E:=cQ.o;have⟨e0,aa⟩:=η0 ((⟨2,0,a7R,0,i2,0⟩:a1P):a1P);rw[aa]at G E ad;simp only[aa]at ai;have⟨ev,T⟩:=η0 ((a0x e0).toArray);rw[T]at G;simp only[T]at ai;have⟨dq,aE⟩:=η0 (b5e seed x 0 d t e0);rw[aE]at G E;subst E;have cz:=η1 T;clear T ad aa aE;go_wp2_with fail;refine μ1 G ?_;rintro bU bM ⟨aB,R⟩;clear G ai
  cases dq with
  |
   error k=>
   obtain⟨hk,rfl⟩:=aB;exact⟨rfl,I.refF R hk⟩
  |
   ok yr=>
   obtain⟨aZ,rp⟩:=yr;obtain⟨⟨cq,Z,aA⟩,ab,ac,rfl,F⟩:=aB;have J:=I.step' Z R;have H:(g+1,41,zs)∈[(g,53,tv),(g+1,41,zs)]:=by simp
   have S:=a0A F.1 rp.e rp.has ab ac;have aS:=J.sto H a6 (a0O rp.e rp.has rp.c ab ac) S (a0W _ _ _ _ _);have aC:g+1<U5.heap.size:=(I.kp _ H).1.lt;have Q:=J.fin H (N0:=N) (λj hj=>Qj _ hj) (y0:=aZ) aA (rp:=rp) I.sz aC F rfl;have⟨rs,ae⟩:=η0 (a0O rp.e rp.has rp.c ab ac);rw[ae]at aS Q S;rw[ae];have⟨O,aT⟩:=η2 Q S;clear Q S J Z F R aA H aC ae;clear ay;go_wp2_with fail;obtain⟨dR,aH,ag⟩:=Q8.1 a7w;refine bodyPost_ret (v:=.agg rs.toArray) (a0c rfl _ _ (g+1) _ rs dR rfl O.2.2 aH ag (ρy aT.o a4h)) rfl ?_;exact⟨O.1,O.2.1⟩
 subst aP;have E:=a4.o;rw[if_neg ρp]at E;have cC:=η1 E;clear E;have⟨U6,bI⟩:=η0 U5.drew;have au:=I.drew;rw[bI]at au;have cw:(LDs 53 (.pointer g)).run prog U6=.ok (.agg tv) U6/\U6.cell? ⟨a,1,none⟩=some (.int .i64 x.n)/\U6.cell? ⟨a,0,none⟩=some (.int .i64 x.me)/\U6.cell? ⟨a,7,none⟩=some (.pointer b.cb)/\U6.cell? ⟨a,8,none⟩=some (.pointer b.lb):=⟨ah.o _ _ _ _ au,au.sh.c.2.1,au.sh.c.1,au.sh.c.2.2.2.2.2.2.2.1,au.sh.c.2.2.2.2.2.2.2.2.1⟩;have⟨aq,bJ,cG⟩:=η3 au bI cw;clear au bI cw;go_upto_region 12 with fail
 clear hb;refine a0s [(1,3),(2,3),(3,3),(5,3),(6,3),(7,3),(9,3),(10,3),(11,3),(13,3),(14,3),(15,3),(0,0),(4,0),(8,0),(12,0),(16,0),(17,2),(18,3),(19,3),(20,3),(21,3),(22,3)] (λY=>(LDs 53 (.pointer g)).run prog Y=.ok (.agg tv) Y/\Y.cell? ⟨a,1,none⟩=some (.int .i64 x.n)/\Y.cell? ⟨a,0,none⟩=some (.int .i64 x.me)/\Y.cell? ⟨a,7,none⟩=some (.pointer b.cb)/\Y.cell? ⟨a,8,none⟩=some (.pointer b.lb)) ρk ρk ρk ρk (ρy bJ.o cG.o) ?_;rw[bJ.o];have U:=aq.sh;have aR:=c4H B b.cb b.cm x.C x.sC b.lb b.lm x.L x.sL U.ok.sL U.ok.lL f o m p t x.n x.me bC.o U6 U.co U.lo ⟨U.cb_lb,U.lm_cb.symm,U.cm_lb,U.ap.1⟩ (aI.go aq.fr) ⟨⟨aq.pos _ (by simp[ShB.own]),aq.pos _ (by simp[ShB.own])⟩,aq.pos _ (by simp[ShB.own]),aq.pos _ (by simp[ShB.own])⟩ (aF.go aq.fr).at_ hl1 hl2
 have a1:=c3D (n:=x.n) (me:=x.me) (t:=t) (⟨U.ok.sC,U.ok.lC,U.ok.sL,U.ok.lL,U.co.bd⟩:c9v ((x.C,x.sC),(x.L,x.sL)));have aM:=c5a x.n x.me x.C x.L x.sL t;rw[av.o]at aR;have⟨lq,bj⟩:=η0 (a9P x.n x.me x.C x.L x.sL t);have⟨pc,bB⟩:=η0 (a8T x.n x.me x.C x.sC x.L x.sL t);have E:=cC.o;rw[bj,bB]at E aR;rw[bB]at a1;rw[bj]at aM;obtain⟨l1,l2⟩:=lq;simp only at E aR aM;have⟨cJ,bK,bW⟩:=η3 E a1 aM;clear E a1 aM bj bB U;refine ε7 ?_;refine ε5 ?_
 iterate 5 refine θ5 (λ_ h=>h) ?_
 refine τ ?_;intro K hK;refine μ1 aR ?_;rintro e8 w8 ⟨rfl,⟨bR,ci⟩,bu⟩;with_reducible refine hK _ _ ?_;clear hK K
 refine ε5 ?_;clear aR;refine ν ?_;have bl:=aq.step' (aq.sh.setCL bu bR ci bK.o) (bu.mono (λk _ e=>e.elim (c7I a b k) (c8Z a b k)));have E:=cJ.o;have⟨y1,bn⟩:=η0 ({x with C:=pc.1.1,sC:=pc.1.2,L:=pc.2.1,sL:=pc.2.2});rw[bn]at bl E;have⟨aj,cy,cZ⟩:=η3 bl E bn;clear bl E bn bR ci bu
 by_cases aJ:l2=0
 rotate_left
 ·have E:=cy.o
  rw[if_pos aJ]at E;subst E;have hm:=a1m l2 aJ w8;go_wp2_with fail;refine μf hm ?_;exact⟨rfl,aj.ref aJ⟩
 subst aJ;have E:=cy.o;rw[if_neg ρp]at E;have hm:=a1o w8;have bO:=η1 E;clear E;go_wp2_with fail;refine μf hm ?_;clear hm;have ay:=ah.o _ _ _ _ aj;have ai:=c4C 1 l1;have ad:(⟨1,0,a7R,l1,0,0⟩:a1P).Bd:=b1v ρo Dig.zIdY bW.o ρo;have G:=a5z a b ((g+1)::N) seed y1 0 ρo A n c d bD.o bw.o bH.o f o m p t ⟨1,0,a7R,l1,0,0⟩ ad w8 aj.sh (bm.go aj.fr).at_ (aI.go aj.fr).at_ hl1 hl2 (aF.go aj.fr).at_;rw[av.o]at G;have E:=bO.o;have⟨e0,aa⟩:=η0 ((⟨1,0,a7R,l1,0,0⟩:a1P):a1P);rw[aa]at G E ad;simp only[aa]at ai;have⟨ev,T⟩:=η0 ((a0x e0).toArray);rw[T]at G;simp only[T]at ai;have⟨dq,aE⟩:=η0 (b5e seed y1 0 d t e0);rw[aE]at G E;subst E;have cz:=η1 T;clear T ad aa aE;go_wp2_with fail;refine μ1 G ?_;rintro bU bM ⟨aB,R⟩;clear G ai
 cases dq with
 |
  error k=>
  obtain⟨hk,rfl⟩:=aB;exact⟨rfl,aj.refF R hk⟩
 |
  ok yr=>
  obtain⟨aZ,rp⟩:=yr;obtain⟨⟨cq,Z,aA⟩,ab,ac,rfl,F⟩:=aB;have J:=aj.step' Z R;have H:(g+1,41,zs)∈[(g,53,tv),(g+1,41,zs)]:=by simp
  have S:=a0A F.1 rp.e rp.has ab ac;have aS:=J.sto H a6 (a0O rp.e rp.has rp.c ab ac) S (a0W _ _ _ _ _);have aC:g+1<w8.heap.size:=(aj.kp _ H).1.lt;have Q:=J.fin H (N0:=N) (λj hj=>Qj _ hj) (y0:=aZ) aA (rp:=rp) aj.sz aC F rfl;have⟨rs,ae⟩:=η0 (a0O rp.e rp.has rp.c ab ac);rw[ae]at aS Q S;rw[ae];have⟨O,aT⟩:=η2 Q S;clear Q S J Z F R aA H aC ae;clear ay;go_wp2_with fail;obtain⟨dR,aH,ag⟩:=Q8.1 a7w;refine bodyPost_ret (v:=.agg rs.toArray) (a0c rfl _ _ (g+1) _ rs dR rfl O.2.2 aH ag (ρy aT.o a4h)) rfl ?_;exact⟨O.1,O.2.1⟩
end
section
theorem a4b{α β:Type}{f:α->List β}{M:Nat}:∀{l:List α},(∀k∈l,(f k).length<=M)->(l.flatMap f).length<=l.length*M
 | [],_=>by simp
 |
  a::l,h=>by
  have h1:=h a ρp;have h2:=a4b (l:=l) (λk hk=>h k (by simp[hk]));simp only[List.flatMap_cons,Qa,Qy];rw[Yb];omega
theorem b0u{α β:Type}(f:α->List β)(l:List α)(i:Nat)(h:i<l.length):(l.take (i+1)).flatMap f=(l.take i).flatMap f++f l[i]:=by
 rw[Qe h,List.flatMap_append]
 simp
theorem b1i{α:Type}{f:α->α->Int}{l:List α}{q:α->Prop}(h:∀a∈l,q a):∀a∈a5F f l,q a:=λa ha=>h a ((a2G l).subset ha)
def b1B(C:List (Pt×a1q))(k:Pt):LI:=k.1++b1s k.2++(a1v C k).ow++a0K (a1v C k).am.toNat
def b5S(C:List (Pt×a1q)):LI:=a0K C.length++(a5F a5t (C.map Prod.fst)).flatMap (b1B C)
def b1u(L:List (Pt×a1J))(k:Pt):LI:=k.1++b1s k.2++(a0H L k).2++(a0H L k).1.ow++a0K (a0H L k).1.am.toNat
def b6k(L:List (Pt×a1J)):LI:=a0K L.length++(a5F a5t (L.map Prod.fst)).flatMap (b1u L)
theorem b5y{C:List (Pt×a1q)}(a:∀p∈C,p.2.Bd){k:Pt}(b:a6l k):(b1B C k).length<=90:=by
 have h:=a3p a k;have g:=a2W k.2;have d:=a0p (n:=(a1v C k).am.toNat) (ρh h.am);have j:=b.len;have f:=h.len;unfold b1B;simp only[Qa];omega
theorem b4L{L:List (Pt×a1J)}(a:∀p∈L,a6v p.2){k:Pt}(b:a6l k):(b1u L k).length<=120:=by
 have h:=a2U a k;have g:=a2W k.2;have d:=a0p (n:=(a0H L k).1.am.toNat) (ρh h.co.am);have m:=b.len;have f:=h.co.len;have j:=h.len;unfold b1u;simp only[Qa];omega
theorem c5A{x:a1J}(h:a6v x):((a4V x).drop 0).take 32=bys x.1.ow:=by
 have:(bys x.1.ow).length=32:=by rw[a0a,h.co.len]
 simp[a4V,a1s,QT,this,Qb]
theorem c4l{x:a1J}(h:a6v x):((a4V x).drop 33).take 32=bys x.2:=by
 have a:(a1s x.1).length=33:=a0G h.co;have b:(bys x.2).length=32:=by rw[a0a,h.len]
 unfold a4V;rw[Zw ρo,QQ ρo,QF,Qb ρo]
theorem c5X{x:a1J}(h:a6v x):(a4V x).toArray[32]? =some (.int .u64 x.1.am):=by
 have a:(bys x.1.ow).length=32:=by rw[a0a,h.co.len]
 simp[a4V,a1s,a]
theorem a0i.look1{cb b:Nat}{m:List (Pt×a1q)}(h:a0i w cb b m s){k:Pt}(d:a6l k):
  (Instr.lookup 161 (.map (some b)) (.agg (ptL k.1 k.2).toArray) false).run prog w=.ok (.agg (a1s (a1v m k)).toArray) w:=by
 unfold a1v
 cases hg:a2E m k with
 | none=>exact h.mp.look_out b0v (a:=k) d (d2E w) hg false
 | some v=>exact h.mp.look_in b0v (a:=k) hg false
theorem d2I:(((prog.info? 206).bind (·.zero)).map (·.cells.size))=some 33:=ρk
theorem d1R:(((prog.info? 208).bind (·.zero)).map (·.cells.size))=some 65:=ρk
attribute [local go_sem ↓] a1F a4Z a5p a4v a4s a4r b3a b3o b3h a1B
theorem b4P(B p:Nat)(v:VL)(l:LI)(cb cm:Nat)(C:List (Pt×a1q))(s:Int)(b:C.length<=256)(w:WD)(h:a3Z B w p v l)(f:B<=w.heap.size)(g:l.length<=200000000)(d:∀W,Below B w W->a0i W cb cm C s):
  Calls prog 53 #[.pointer cb,.pointer p] w λe w'=>e=.returned (.tuple #[])/\∃v',a4Y B p w w' v' (l++b5S C):=by
 have hP:=a4Y.here h f;have V:=d w (Qf _ _);have q0:=V.q0;have aI:=V.mp.len_ (ty:=3) b0v;have bm:IntKind.u64.wrap (C.length:Int)=(C.length:Int):=by rw[IntKind.wrap_u64];omega
 have ai:=hP.num C.length ρo ρo;have⟨n,hn⟩:=η0 C.length;rw[hn]at aI bm ai;have bg:=V.bd;have bb:=V.mp.ok;obtain⟨Zk,aE,aL,b4⟩:=P8 (t:=189) a1H c3w;obtain⟨Zx,aQ,aR,b5⟩:=P8 (t:=206) a9y d2I;have⟨HC,HN,a3,HL,bn,cc,bq,bp⟩:=η8 d hn b g bg bb aE aL;have⟨bj,a7⟩:=η2 aQ aR;clear d hn b g bg bb aE aL aQ aR V h f hP b4 b5;go_enter func53,ntmps53;go_wp2_with fail;refine μ1 ai ?_;rintro e1 w1 ⟨rfl,v1,G,R,-⟩;clear ai aI q0 bm;have bO:=HC.o w1 G.bel;have aU:=b4K cb cm C s (ρh a3.o) w1 bO;have⟨lb,S⟩:=η0 (l++a0K n);rw[S]at G;have⟨T,af⟩:=η0 (a5F a5t (C.map Prod.fst));rw[af]at aU;have bD:T.length=n:=by rw[<-af,(a2G _).length_eq,Qw];exact HN.o
 have a4:∀k∈T,a6l k:=by
  rw[<-af];refine b1i (λa ha=>?_);obtain⟨x,hx,rfl⟩:=Qs.1 ha;exact cc.o x hx
 have aH:lb.length<=200000100:=by
  rw[<-S,Qa]
  have:=HL.o
  have:=HN.o
  have:=a3.o
  have:=a0p (n:=n) ρo
  omega
 have bt:∀i,((T.take i).flatMap (b1B C)).length<=n*90:=λi=>by
  have h1:=a4b (l:=T.take i) (λk hk=>b5y bn.o (a4 k (QM hk)));have h2:(T.take i).length<=n:=by rw[Qx];omega
  exact Qk h1 (Zb _ h2)
 have U:n<=256:=by rw[<-HN.o];exact a3.o
 have⟨bW,bT,aZ,ca,cd,b3,a0,H⟩:=η8 S af bD a4 aH bt U G;clear S af bD a4 aH bt U G R bO;go_wp2_with fail;refine μ1 aU ?_;rintro e2 w2 ⟨u,rfl,hO,bs⟩;clear aU;have ab:=H.ext bs;obtain⟨A,N,c,rfl,hN⟩:=hO.formN;rw[Qw,aZ.o]at hN;subst hN;obtain⟨-,bB⟩:=hO.sp;have bK:B<=w1.heap.size:=H.size;have⟨O,HO,bR,cv⟩:=η4 ab hO bB bK;clear ab hO bB bK bs;go_upto_region 2 with fail
 go_loopg [18] N (λkk s wr=>∃(i:Nat) (v':VL),i+kk=N/\s=.int .i64 i/\a4Y B p w wr v' (lb++(T.take i).flatMap (b1B C))/\a0T 189 33 w1.heap.size wr (.slice A N c) (T.map ptE.e));exact⟨0,v1,by omega,rfl,by simpa using O.o,HO.o⟩;obtain⟨i,v',hi,rfl,z,aq⟩:=hrel
 by_cases bY:i<N
 ·have bI:(i:Int)<N:=ρo
  have aC:i<T.length:=by rw[aZ.o];exact bY
  have cz:=a0.o
  rcases bR.o with⟨-,e0⟩ | ⟨q,cr,rfl,hq,-⟩
  ·have:=congrArg List.length e0
   simp at this;subst this;simp at aC
  have K:=aq.ldR (t:=189) a3a a1H (i:=i) (ρw aC);simp only[QS]at K;have⟨j,ak⟩:=η0 (T[i]);have m:a6l j:=by rw[<-ak];exact ca.o _ (Qu aC)
  have bJ:ptE.e T[i]=ptL j.1 j.2:=by rw[ak];rfl
  rw[bJ]at K;have⟨J,E⟩:=η0 (ptL j.1 j.2);have aK:=m.len;have az:(bys j.1).length=32:=by rw[a0a,aK]
  have ag:J.length=33:=by rw[<-E];exact a1x m.len j.2
  have aT:∀u∈J,u.oneCell'=true:=by rw[<-E];exact a2p _ _
  have bo:(J.drop 0).take 32=bys j.1:=by rw[<-E];simp[ptL,QT,az,Qb]
  have aN:J.toArray[32]? =some (.int .i64 j.2):=by rw[<-E];simp[ptL,az]
  have Q:a1q.Bd (a1v C j):=a3p bn j;have⟨xo,ax⟩:=η0 (a1v C j);rw[ax]at Q;have⟨xv,ac⟩:=η0 (a1s xo);have bh:xv.length=33:=by rw[<-ac];exact a0G Q
  have aG:∀u∈xv,u.oneCell'=true:=by rw[<-ac];exact a1O _
  have bA:(xv.drop 0).take 32=bys xo.ow/\xv.toArray[32]? =some (.int .u64 xo.am):=by rw[<-ac];exact⟨by simpa using b3l Q,b6R Q⟩
  rw[E]at K;have be:=bq.o wr;have aV:=bp.o wr J ag aT;have bk:=Qd wr 189 J.toArray;have aX:=ρb wr (.cells J.toArray 189);have⟨r,hr⟩:=ηs wr;have aa:(wr.alloc (.cells J.toArray 189)).heap.size=r+1:=by simp[hr]
  rw[hr]at be aV bk
  generalize ce:wr.alloc (.cells J.toArray 189)=w3 at aV bk aX aa
  have Z:=aX.drew;have ae:=bk.drew;have⟨X,hX⟩:=η0 w3.drew;rw[hX]at Z ae;have a1:X.heap.size=r+1:=by rw[<-hX];exact aa
  have a6:∀Y,Below X X Y->a0i Y cb cm C s:=λY hY=>HC.o Y (z.bel.trans ((Z.mono z.size).trans (hY.mono (ρh z.size))))
  have aP:=bj.o X;have ah:=a7.o X xv bh aG;have bx:=Qd X 206 xv.toArray;have aA:=Z.alloc Z.size (.cells xv.toArray 206);have aW:=ae.alloc (.cells xv.toArray 206);have br:=ρb X (.cells Zx 206);rw[a1]at aP ah bx
  have bH:∀Y,Below X X Y->Y.cell? ⟨cb,0,none⟩=some (.map (some cm))/\(LDs 189 (.pointer r)).run prog Y=.ok (.agg J.toArray) Y/\(Instr.lookup 161 (.map (some cm)) (.agg J.toArray) false).run prog Y=.ok (.agg xv.toArray) Y:=λY hY=>by
   have hy:=ae.fr (Q9 hY) (ρh ae.lt);have S:=P4 a3a a1H J hy ag;have F:=(a6 Y hY).look1 m;rw[E,ax,ac]at F;exact⟨(a6 Y hY).q0,S,F⟩
  have⟨S0,aY⟩:=η0 ((λY=>Y.cell? ⟨cb,0,none⟩=some (.map (some cm))/\(LDs 189 (.pointer r)).run prog Y=.ok (.agg J.toArray) Y/\(Instr.lookup 161 (.map (some cm)) (.agg J.toArray) false).run prog Y=.ok (.agg xv.toArray) Y):WD->Prop);have aO:∀Y,Below X X Y->S0 Y:=λY hY=>by rw[<-aY];exact bH Y hY
  generalize cx:X.alloc (.cells xv.toArray 206)=V0 at ah bx aA aW
  have a2:=z.ext aA;have bu:=aq.keep aA;have⟨l0,aj⟩:=η0 (lb++(T.take i).flatMap (b1B C));have aM:l0.length<=200050000:=by rw[<-aj,Qa];have:=b3.o i;have:=cd.o;omega
  rw[aj]at a2;have⟨HS,bG,HX,HR,ci,al,cg,bf⟩:=η8 aY aO hX hr br a2 bu aW;have⟨bU,bL,bQ,ch,bN,cw,I,b9⟩:=η8 bx aM aj bo aN az m ak;have⟨bP,D,ct,bE⟩:=η4 ax Q a1 bA;clear aY aO hX hr br a2 bu aW bx aM aj bo aN az m ak ax Q a1 bA bH Z aA a6 bk ae aX aa z aq E ac ce bJ aK ag aT bh aG;go_upto_region 4 with fail
  refine a0s [(0,3),(1,3),(2,3),(3,0),(4,0),(5,0),(6,1),(7,2)] S0 ρk ρk ρk ρk (by rw[HX.o];exact bG.o _ (Qf _ _)) ?_;rw[HX.o];refine ε3 ?_
  iterate 3 refine θ3 (λ_ h=>by rw[<-HS.o]at h;exact h) ?_
  refine κ1 (bG.o _ ci.o) ?_;refine τ1 ?_;refine ν ?_;clear aP ah K be aV;have bM:=P6 a2i iId bf (off:=0) (bys j.1) (ρy a0a I.o.len) (ρy ZS ch.o);have y:=al.id j.1 I.len I.tx (ρh bL.o);have⟨l1,an⟩:=η0 (l0++j.1)
  have aS:l1.length<=200050100:=by
   rw[<-an,Qa]
   have:=bL.o
   have:=I.len
   omega
  rw[an]at y;have⟨bF,b6⟩:=η2 aS an;clear aS an;go_wp2_with fail;refine μ1 y ?_;rintro e3 V1 ⟨rfl,cA,G,R,-⟩;clear y bM;have⟨H,bw,b7,bS⟩:=η4 G (al.blk R bf.o ρd ρd) (al.blk R bU.o ρd ρd) (al.row R cg.o ρd ρd);clear G R;have bV:=(bw.cell 32).trans bN;have y:=H.numV j.2 (ρh bF.o);have⟨l2,F⟩:=η0 (l1++b1s j.2)
  have aJ:l2.length<=200050200:=by
   rw[<-F,Qa]
   have:=bF.o
   have:=a2W j.2
   omega
  rw[F]at y;have⟨bz,cf⟩:=η2 aJ F;clear aJ F;go_wp2_with fail;refine μ1 y ?_;rintro e4 V2 ⟨rfl,cq,ab,ay,-⟩;clear y bV;have⟨O,bZ,bc,b0⟩:=η4 ab (H.blk ay bw.o ρd ρd) (H.blk ay b7.o ρd ρd) (H.row ay bS.o ρd ρd);clear ab ay;have a9:=P6 a2i iId bc (off:=0) (bys xo.ow) (ρy a0a D.o.len) (ρy ZS bE.o.1);have y:=O.id xo.ow D.len D.ow (ρh bz.o);have⟨l3,av⟩:=η0 (l2++xo.ow)
  have aF:l3.length<=200050300:=by
   rw[<-av,Qa]
   have:=bz.o
   have:=D.len
   omega
  rw[av]at y;have⟨bl,ck⟩:=η2 aF av;clear aF av;go_wp2_with fail;refine μ1 y ?_;rintro e5 V3 ⟨rfl,cC,a8,ao,-⟩;clear y a9;have⟨ar,cp,bi,cn⟩:=η4 a8 (O.blk ao bZ.o ρd ρd) (O.blk ao bc.o ρd ρd) (O.row ao b0.o ρd ρd);clear a8 ao;obtain⟨nn,a5⟩:=a1C D.am.1;have bv:=(bi.cell 32).trans bE.2;rw[a5]at bv;have y:=ar.num nn (ρh D.o.am) (ρh bl.o);have⟨l4,aB⟩:=η0 (l3++a0K nn)
  have aD:l4.length<=200050400:=by
   rw[<-aB,Qa]
   have:=bl.o
   have:=a0p (n:=nn) (ρh D.o.am)
   omega
  rw[aB]at y;have⟨cB,bX,cj⟩:=η3 aD aB a5;clear aD aB a5;go_wp2_with fail;refine μ1 y ?_;rintro e6 V4 ⟨rfl,bC,ba,au,-⟩;clear y bv;have⟨b2,cy,cu,b8⟩:=η4 ba (ar.blk au cp.o ρd ρd) (ar.blk au bi.o ρd ρd) (ar.row au cn.o ρd ρd);clear ba au
  have o:a4Y B p w V4 bC (lb++(T.take (i+1)).flatMap (b1B C)):=by
   rw[b0u _ _ _ aC,b9.o,<-QC,bQ.o];have e:b1B C j=j.1++b1s j.2++xo.ow++a0K nn:=by unfold b1B;rw[bP.o,cj.o,Zd]
   rw[e];have hq:=b2.o;rw[<-bX.o,<-ck.o,<-cf.o,<-b6.o]at hq
   simpa only[QC]using hq
  have ad:=η1 o;clear o;go_wp2;go_roundg (N-(i+1));exact⟨i+1,bC,by omega,by go_num,ad.o,b8.o⟩;omega
 obtain rfl:i=N:=ρo;have bI:¬(i:Int)<i:=ρo
 have o:a4Y B p w wr v' (l++b5S C):=by
  have hq:=z;rw[Qb (by rw[aZ.o];exact Qg _),<-bW.o,<-bT.o]at hq;unfold b5S;rw[HN.o,<-QC];exact hq
 have ad:=η1 o;clear o z aq;go_wp2;go_end0;exact⟨rfl,v',ad.o⟩
theorem b4e(B p:Nat)(v:VL)(l:LI)(cb cm:Nat)(C:List (Pt×a1J))(s:Int)(b:C.length<=256)(w:WD)(h:a3Z B w p v l)(f:B<=w.heap.size)(g:l.length<=200000000)(d:∀W,Below B w W->a0j W cb cm C s):
  Calls prog 54 #[.pointer cb,.pointer p] w λe w'=>e=.returned (.tuple #[])/\∃v',a4Y B p w w' v' (l++b6k C):=by
 have hP:=a4Y.here h f;have aa:=d w (Qf _ _);have q0:=aa.q0;have aN:=aa.mp.len_ (ty:=3) a8R;have bu:IntKind.u64.wrap (C.length:Int)=(C.length:Int):=by rw[IntKind.wrap_u64];omega
 have ak:=hP.num C.length ρo ρo;have⟨n,hn⟩:=η0 C.length;rw[hn]at aN bu ak;have bp:=aa.bd;have bj:=aa.mp.ok;obtain⟨Zk,aJ,aQ,cf⟩:=P8 (t:=189) a1H c3w;obtain⟨Zx,aV,aW,cg⟩:=P8 (t:=208) c9u d1R;have⟨HC,HN,ba,HL,bv,cq,bC,bA⟩:=η8 d hn b g bp bj aJ aQ;have⟨bs,bf⟩:=η2 aV aW;clear d hn b g bp bj aJ aQ aV aW aa h f hP cf cg;go_enter func54,ntmps54;go_wp2_with fail;refine μ1 ak ?_;rintro e1 w1 ⟨rfl,v1,H,R,-⟩;clear ak aN q0 bu;have bY:=HC.o w1 H.bel;have a0:=b3Q cb cm C s (ρh ba.o) w1 bY;have⟨lb,S⟩:=η0 (l++a0K n);rw[S]at H;have⟨V,ah⟩:=η0 (a5F a5t (C.map Prod.fst));rw[ah]at a0;have bL:V.length=n:=by rw[<-ah,(a2G _).length_eq,Qw];exact HN.o
 have bb:∀k∈V,a6l k:=by
  rw[<-ah];refine b1i (λa ha=>?_);obtain⟨x,hx,rfl⟩:=Qs.1 ha;exact cq.o x hx
 have aM:lb.length<=200000100:=by
  rw[<-S,Qa]
  have:=HL.o
  have:=HN.o
  have:=ba.o
  have:=a0p (n:=n) ρo
  omega
 have bF:∀i,((V.take i).flatMap (b1u C)).length<=n*120:=λi=>by
  have h1:=a4b (l:=V.take i) (λk hk=>b4L bv.o (bb k (QM hk)));have h2:(V.take i).length<=n:=by rw[Qx];omega
  exact Qk h1 (Zb _ h2)
 have Z:n<=256:=by rw[<-HN.o];exact ba.o
 have⟨b7,b4,a5,cp,cr,ce,a6,I⟩:=η8 S ah bL bb aM bF Z H;clear S ah bL bb aM bF Z H R bY;go_wp2_with fail;refine μ1 a0 ?_;rintro e2 w2 ⟨u,rfl,hO,bE⟩;clear a0;have ad:=I.ext bE;obtain⟨A,N,c,rfl,hN⟩:=hO.formN;rw[Qw,a5.o]at hN;subst hN;obtain⟨-,bK⟩:=hO.sp;have bU:B<=w1.heap.size:=I.size;have⟨Q,HO,b2,cH⟩:=η4 ad hO bK bU;clear ad hO bK bU bE;go_upto_region 2 with fail
 go_loopg [18] N (λkk s wr=>∃(i:Nat) (v':VL),i+kk=N/\s=.int .i64 i/\a4Y B p w wr v' (lb++(V.take i).flatMap (b1u C))/\a0T 189 33 w1.heap.size wr (.slice A N c) (V.map ptE.e));exact⟨0,v1,by omega,rfl,by simpa using Q.o,HO.o⟩;obtain⟨i,v',hi,rfl,D,au⟩:=hrel
 by_cases ca:i<N
 ·have bS:(i:Int)<N:=ρo
  have aH:i<V.length:=by rw[a5.o];exact ca
  have cK:=a6.o
  rcases b2.o with⟨-,e0⟩ | ⟨q,cF,rfl,hq,-⟩
  ·have:=congrArg List.length e0
   simp at this;subst this;simp at aH
  have O:=au.ldR (t:=189) a3a a1H (i:=i) (ρw aH);simp only[QS]at O;have⟨m,an⟩:=η0 (V[i]);have y:a6l m:=by rw[<-an];exact cp.o _ (Qu aH)
  have bT:ptE.e V[i]=ptL m.1 m.2:=by rw[an];rfl
  rw[bT]at O;have⟨K,E⟩:=η0 (ptL m.1 m.2);have aP:=y.len;have aD:(bys m.1).length=32:=by rw[a0a,aP]
  have ai:K.length=33:=by rw[<-E];exact a1x y.len m.2
  have aZ:∀u∈K,u.oneCell'=true:=by rw[<-E];exact a2p _ _
  have bz:(K.drop 0).take 32=bys m.1:=by rw[<-E];simp[ptL,QT,aD,Qb]
  have aS:K.toArray[32]? =some (.int .i64 m.2):=by rw[<-E];simp[ptL,aD]
  have F:a6v (a0H C m):=a2U bv m;have⟨T,aB⟩:=η0 (a0H C m);rw[aB]at F;have⟨U,ae⟩:=η0 (a4V T);have bq:U.length=65:=by rw[<-ae];exact a4w F
  have aL:∀u∈U,u.oneCell'=true:=by rw[<-ae];exact a8O _
  have bJ:((U.drop 33).take 32=bys T.2/\(U.drop 0).take 32=bys T.1.ow)/\U.toArray[32]? =some (.int .u64 T.1.am):=by rw[<-ae];exact⟨⟨c4l F,c5A F⟩,c5X F⟩
  rw[E]at O;have bn:=bC.o wr;have a1:=bA.o wr K ai aZ;have bk:=Qd wr 189 K.toArray;have a3:=ρb wr (.cells K.toArray 189);have⟨r,hr⟩:=ηs wr;have ac:(wr.alloc (.cells K.toArray 189)).heap.size=r+1:=by simp[hr]
  rw[hr]at bn a1 bk
  generalize ct:wr.alloc (.cells K.toArray 189)=w3 at a1 bk a3 ac
  have ab:=a3.drew;have ag:=bk.drew;have⟨X,hX⟩:=η0 w3.drew;rw[hX]at ab ag;have a7:X.heap.size=r+1:=by rw[<-hX];exact ac
  have be:∀Y,Below X X Y->a0j Y cb cm C s:=λY hY=>HC.o Y (D.bel.trans ((ab.mono D.size).trans (hY.mono (ρh D.size))))
  have aU:=bs.o X;have aj:=bf.o X U bq aL;have bx:=Qd X 208 U.toArray;have aE:=ab.alloc ab.size (.cells U.toArray 208);have a2:=ag.alloc (.cells U.toArray 208);have bD:=ρb X (.cells Zx 208);rw[a7]at aU aj bx
  have bR:∀Y,Below X X Y->Y.cell? ⟨cb,0,none⟩=some (.map (some cm))/\(LDs 189 (.pointer r)).run prog Y=.ok (.agg K.toArray) Y/\(Instr.lookup 164 (.map (some cm)) (.agg K.toArray) false).run prog Y=.ok (.agg U.toArray) Y:=λY hY=>by
   have hy:=ag.fr (Q9 hY) (ρh ag.lt);have S:=P4 a3a a1H K hy ai;have G:=(be Y hY).look1 y;rw[E,aB,ae]at G;exact⟨(be Y hY).q0,S,G⟩
  have⟨S0,a4⟩:=η0 ((λY=>Y.cell? ⟨cb,0,none⟩=some (.map (some cm))/\(LDs 189 (.pointer r)).run prog Y=.ok (.agg K.toArray) Y/\(Instr.lookup 164 (.map (some cm)) (.agg K.toArray) false).run prog Y=.ok (.agg U.toArray) Y):WD->Prop);have aT:∀Y,Below X X Y->S0 Y:=λY hY=>by rw[<-a4];exact bR Y hY
  generalize cJ:X.alloc (.cells U.toArray 208)=V0 at aj bx aE a2
  have a9:=D.ext aE;have bG:=au.keep aE;have⟨l0,al⟩:=η0 (lb++(V.take i).flatMap (b1u C));have aR:l0.length<=200050000:=by rw[<-al,Qa];have:=ce.o i;have:=cr.o;omega
  rw[al]at a9;have⟨HS,bQ,HX,HR,cy,ao,cw,bo⟩:=η8 a4 aT hX hr bD a9 bG a2;have⟨b5,bV,b0,cx,bX,cI,J,cn⟩:=η8 bx aR al bz aS aD y an;have⟨bZ,j,cG,a8⟩:=η4 aB F a7 bJ;clear a4 aT hX hr bD a9 bG a2 bx aR al bz aS aD y an aB F a7 bJ bR ab aE be bk ag a3 ac D au E ae ct bT aP ai aZ bq aL;go_upto_region 4 with fail
  refine a0s [(0,3),(1,3),(2,3),(3,0),(4,0),(5,0),(6,1),(7,2)] S0 ρk ρk ρk ρk (by rw[HX.o];exact bQ.o _ (Qf _ _)) ?_;rw[HX.o];refine ε3 ?_
  iterate 3 refine θ3 (λ_ h=>by rw[<-HS.o]at h;exact h) ?_
  refine κ1 (bQ.o _ cy.o) ?_;refine τ1 ?_;refine ν ?_;clear aU aj O bn a1;have bW:=P6 a2i iId bo (off:=0) (bys m.1) (ρy a0a J.o.len) (ρy ZS cx.o);have o:=ao.id m.1 J.len J.tx (ρh bV.o);have⟨l1,aq⟩:=η0 (l0++m.1)
  have aY:l1.length<=200050100:=by
   rw[<-aq,Qa]
   have:=bV.o
   have:=J.len
   omega
  rw[aq]at o;have⟨bO,ch⟩:=η2 aY aq;clear aY aq;go_wp2_with fail;refine μ1 o ?_;rintro e3 V1 ⟨rfl,cM,H,R,-⟩;clear o bW;have⟨I,bH,cj,b3⟩:=η4 H (ao.blk R bo.o ρd ρd) (ao.blk R b5.o ρd ρd) (ao.row R cw.o ρd ρd);clear H R;have b6:=(bH.cell 32).trans bX;have o:=I.numV m.2 (ρh bO.o);have⟨l2,G⟩:=η0 (l1++b1s m.2)
  have aO:l2.length<=200050200:=by
   rw[<-G,Qa]
   have:=bO.o
   have:=a2W m.2
   omega
  rw[G]at o;have⟨bI,cu⟩:=η2 aO G;clear aO G;go_wp2_with fail;refine μ1 o ?_;rintro e4 V2 ⟨rfl,cE,ad,aC,-⟩;clear o b6;have⟨Q,cc,bm,cd⟩:=η4 ad (I.blk aC bH.o ρd ρd) (I.blk aC cj.o ρd ρd) (I.row aC b3.o ρd ρd);clear ad aC;have bh:=P6 a2i iId bm (off:=33) (bys T.2) (ρy a0a j.o.len) (ρy ZS a8.o.1.1);have o:=Q.id T.2 j.len j.id (ρh bI.o);have⟨l3,aA⟩:=η0 (l2++T.2)
  have aK:l3.length<=200050300:=by
   rw[<-aA,Qa]
   have:=bI.o
   have:=j.len
   omega
  rw[aA]at o;have⟨bt,cB⟩:=η2 aK aA;clear aK aA;go_wp2_with fail;refine μ1 o ?_;rintro e5 V3 ⟨rfl,cP,bg,ar,-⟩;clear o bh;have⟨av,cD,br,cC⟩:=η4 bg (Q.blk ar cc.o ρd ρd) (Q.blk ar bm.o ρd ρd) (Q.row ar cd.o ρd ρd);clear bg ar;have bP:=P6 a2i iId br (off:=0) (bys T.1.ow) (ρy a0a j.o.co.len) (ρy ZS a8.o.1.2);have o:=av.id T.1.ow j.co.len j.co.ow (ρh bt.o);have⟨l4,aF⟩:=η0 (l3++T.1.ow)
  have aI:l4.length<=200050400:=by
   rw[<-aF,Qa]
   have:=bt.o
   have:=j.co.len
   omega
  rw[aF]at o;have⟨bM,b8⟩:=η2 aI aF;clear aI aF;go_wp2_with fail;refine μ1 o ?_;rintro e6 V4 ⟨rfl,cN,bi,az,-⟩;clear o bP;have⟨ax,ci,bB,ck⟩:=η4 bi (av.blk az cD.o ρd ρd) (av.blk az br.o ρd ρd) (av.row az cC.o ρd ρd);clear bi az;obtain⟨nn,bc⟩:=a1C j.co.am.1;have bw:=(bB.cell 32).trans a8.2;rw[bc]at bw;have o:=ax.num nn (ρh j.o.co.am) (ρh bM.o);have⟨l5,aG⟩:=η0 (l4++a0K nn)
  have aX:l5.length<=200050500:=by
   rw[<-aG,Qa]
   have:=bM.o
   have:=a0p (n:=nn) (ρh j.o.co.am)
   omega
  rw[aG]at o;have⟨cL,cv,cz⟩:=η3 aX aG bc;clear aX aG bc;go_wp2_with fail;refine μ1 o ?_;rintro e7 V5 ⟨rfl,bl,bN,ay,-⟩;clear o bw;have⟨cA,cO,cQ,b9⟩:=η4 bN (ax.blk ay ci.o ρd ρd) (ax.blk ay bB.o ρd ρd) (ax.row ay ck.o ρd ρd);clear bN ay
  have z:a4Y B p w V5 bl (lb++(V.take (i+1)).flatMap (b1u C)):=by
   rw[b0u _ _ _ aH,cn.o,<-QC,b0.o];have e:b1u C m=m.1++b1s m.2++T.2++T.1.ow++a0K nn:=by unfold b1u;rw[bZ.o,cz.o,Zd]
   rw[e];have hq:=cA.o;rw[<-cv.o,<-b8.o,<-cB.o,<-cu.o,<-ch.o]at hq
   simpa only[QC]using hq
  have af:=η1 z;clear z;go_wp2;go_roundg (N-(i+1));exact⟨i+1,bl,by omega,by go_num,af.o,b9.o⟩;omega
 obtain rfl:i=N:=ρo;have bS:¬(i:Int)<i:=ρo
 have z:a4Y B p w wr v' (l++b6k C):=by
  have hq:=D;rw[Qb (by rw[a5.o];exact Qg _),<-b7.o,<-b4.o]at hq;unfold b6k;rw[HN.o,<-QC];exact hq
 have af:=η1 z;clear z D au;go_wp2;go_end0;exact⟨rfl,v',af.o⟩
end
section
theorem c1n{m:List (Pt×a1q)}(h:m.length<=256)(s:Int)(p:Pt)(x:a1q):(a7H m s p x).2.1.length<=256:=by
 unfold a7H
 split
 ·exact h
 split
 ·exact h
 split
 ·exact h
 split
 ·exact h
 simp;omega
structure d0k(cb lb lm:Nat)(L:List (Pt×a1J))(w w':WD)(c0:Nat)(m:List (Pt×a1q))(s:Int)(L':List (Pt×a1J))(s':Int)(wr:WD):Prop where
 new:w.heap.size<=c0
 bel:Below w w wr
 fr:Fr (λk=>k=cb\/k=lb\/k=lm) wr w'
 co:a0i w' cb c0 m s
 cs:0<=s/\s<=18446744073709551615
 cl:m.length<=256
 lo:a0j w' lb lm L' s'
 ls:0<=s'/\s'<=18446744073709551615
 ll:L'.length<=L.length
def c4n(cb lb lm:Nat)(L:List (Pt×a1J))(w:WD)(e:Ending)(w':WD):Prop:=
 ∃v er:Int,e=.returned (.tuple #[.int .u64 v,.int .i64 er])/\(0<=v/\v<=18446744073709551615)/\((er≠0/\Below w w w')\/(er=0/\∃c0 m s L' s' wr,d0k cb lb lm L w w' c0 m s L' s' wr))
attribute [local go_sem ↓] a1F a4Z a5p a1B a5a a5i a4v a4s a4r b8r b7p
theorem c4h(cb cm:Nat)(C:List (Pt×a1q))(sC:Int)(lb lm:Nat)(L:List (Pt×a1J))(s:Int)(D:LI)(f:Dig D)(a:C.length<=256)(o:L.length<=1000000)(b:0<=sC/\sC<=18446744073709551615)(d:0<=s/\s<=18446744073709551615)(w:WD)(j:a0i w cb cm C sC)(h:a0j w lb lm L s)
  (hne:cb≠lb/\cb≠lm):
  Calls prog 164 #[.agg (bys D).toArray,.pointer cb,.pointer lb] w (c4n cb lb lm L w):=by
 have⟨g,hg⟩:=ηs w;have aW:(bys D).length=32:=by rw[a0a,f.1]
 have b0:=Qd w 31 (((bys D).toArray));have B0:=ρb w (.cells (((bys D).toArray)) 31)
 generalize hW:w.alloc (.cells (((bys D).toArray)) 31)=W at b0 B0
 rw[hg]at b0;have a7:=c2J lb lm L s D f o W (h.below B0);have bn:=P4 a2i iId (bys D) b0 aW;obtain⟨Z,U,ax,hz⟩:=P8 (t:=189) a1H c3w;obtain⟨Zc,x,af,bP⟩:=P8 (t:=206) a9y d1q;obtain⟨Zi,p,Y,bM⟩:=P8 (t:=31) iId b1N;have hA:=h.below B0;have bB:=j.below B0;have b8:=h.st.lt;have bz:=h.mp.lt;have bU:=j.st.lt;have bG:=j.mp.lt;have⟨dv,a5⟩:=η0 ((bys D).toArray);rw[a5]at hW a7 bn;have⟨HW,HG,cr,cz,cG,bK,cK,bs⟩:=η8 hW hg B0 U ax x af p;have⟨cI,cu,ce,HA,ck,b6,br,bV⟩:=η8 Y bP bM hA bB a5 b8 bz;have⟨aP,cX,a8,cq,a4,cF,cD,cC⟩:=η8 bU bG b0 aW hne a b d;have⟨HL,HD⟩:=η2 o f;clear hW hg B0 U ax x af p Y bP bM hA bB a5 b8 bz bU bG b0 aW hne a b d o f h j;rw[b6.o];go_enter func164,ntmps164;go_upto_region 3 with fail
 rw[HW.o,HG.o];go_wp2_with fail;refine μ1 a7 ?_;rintro e1 w1 ⟨A,c,E,rfl,aM,hO,S⟩;have⟨n,hn⟩:=η0 E.length;rw[hn]at hO;have bI:=HA.below S;have bq:=ck.below S;have aD:=φt cr S;have bW:n<=1000000:=by have:=aM.len;have:=HL.o;omega
 obtain⟨-,bR⟩:=hO.sp;have⟨cR,HO,a6,HN,ca,bu,cd,ct⟩:=η8 aM hO S hn bI bq bR bW;have J:=η1 aD;clear aM hO S hn bI bq bR bW aD a7 bn
 try rw[HN.o]
 by_cases bC:n=0
 ·subst bC
  go_wp2;go_ret2;exact⟨0,13,rfl,by omega,.inl ⟨by omega,J.o⟩⟩
 have bD:((n:Int) == 0)=false:=by simp;omega
 have cE:decide ((n:Int)=0)=false:=by simp;omega
 have T:=a9h cb cm C sC w1 bu;go_wp2_with fail;refine μ1 T ?_;rintro e2 w2 ⟨rfl,aT,ao,aL⟩
 generalize bF:w1.heap.size=c0 at aT aL⊢
 have bm:=ca.below ao;have aG:=φt J ao;have⟨cn,ci,bo,cp,aY,aj⟩:=η6 aT aL bF bm ao aG;clear aT aL bF bm ao aG T bD cE bC;go_upto_region 8 with fail
 try rw[HN.o]
 go_loopg [11,12,13,14,15,32] n (λkk _ _ _ _ _ t wr=>∃(i:Nat) (m:List (Pt×a1q)) (H:Int),i+kk=n/\t=.int .i64 i/\a0i wr (c0+1) c0 m H/\(0<=H/\H<=18446744073709551615)/\m.length<=256/\Fr (λk=>k=c0+1\/k=c0) w2 wr);exact⟨0,C,sC,by omega,rfl,cn.o,cD.o,cF.o,Qp _ _⟩;obtain⟨i,m,H,hi,rfl,O,aa,aq,F⟩:=hrel;have aI:=J.size;have aA:=bo.o;have aB:=ci.o;have Q:a0j wr lb lm L s:=cp.fr F (ρh br.o) (ρh bV.o);have au:Below w w wr:=aj.trans (F.below ρo (λk hk e=>ρo))
 by_cases ch:i<n
 ·have bX:(i:Int)<n:=ρo
  have bZ:i<E.length:=by rw[HN.o];exact ch
  have bD:=ct.o
  rcases cd.o with⟨-,e0⟩ | ⟨q,cM,rfl,hq,-⟩
  ·have:=congrArg List.length e0
   simp at this;subst this;simp at bZ
  have bv:=(HO.keep aY.o).fr F (λk hk e=>by have:=(HO.lt hk).2;omega);have ac:=bv.ldR (t:=189) a3a a1H (i:=i) (ρw bZ);simp only[QS]at ac;have⟨pv,R⟩:=η0 (ptE.e E[i].1);have a2:pv.length=33:=by rw[<-R];exact a1x E[i].2.len _
  have cB:∀u∈pv,u.oneCell'=true:=by rw[<-R];exact a2p _ _
  rw[R]at ac;have U:=cz.o wr;have aS:=cG.o wr pv a2 cB;have bp:=Qd wr 189 pv.toArray;have ab:=ρb wr (.cells pv.toArray 189);have⟨r,hr⟩:=ηs wr;rw[hr]at U aS bp
  generalize bJ:wr.alloc (.cells pv.toArray 189)=w3 at aS bp ab
  have bx:=P4 a3a a1H pv bp a2;have ad:=b5f lb lm L s E[i].1 E[i].2 w3 (Q.below ab);rw[show ptL E[i].1.1 E[i].1.2=pv from R]at ad;have aN:=a2U Q.bd E[i].1;have⟨lk,an⟩:=η0 ((a0H L E[i].1).1);have⟨iv,ai⟩:=η0 (bys (a0H L E[i].1).2);have bt:iv.length=32:=by rw[<-ai,a0a,aN.len]
  have b2:∀u∈iv,u.oneCell'=true:=by rw[<-ai];exact a0h _
  have ag:lk.Bd:=by rw[<-an];exact aN.co
  have bh:=a0G ag;have b7:=a1O lk;have y:=λX hX=>b0Q (c0+1) c0 m H E[i].1 E[i].2 lk ag aa X hX
  rw[show ptL E[i].1.1 E[i].1.2=pv from R]at y;have I:=b8a (m:=m) aa E[i].1 ag;have N:=c1n aq H E[i].1 lk;rw[an,ai]at ad;have⟨ov,aR⟩:=η0 (a1s lk);simp only[aR]at ad bh b7 y;have⟨pt,aZ⟩:=η0 (a7H m H E[i].1 lk);rw[aZ]at I N;simp only[aZ]at y;obtain⟨pe,p2⟩:=pt;simp only at y I N;have az:=O.below ab;have⟨aU,bN,cy,HR,cT,cN,cU,cS⟩:=η8 F ab bp hr bJ aR an ai;have⟨bc,a1,bE,bY,b5,cP⟩:=η6 I N y az au Q;clear F ab bp hr bJ aR an ai I N y az au Q bv O aN R aa aq aZ aI aA aB;go_wp2_with fail;refine μi ad ?_;intro w4 aV;have p:=bs.o w4;have bi:=Qd w4 31 Zi;have⟨r4,ba⟩:=ηs w4;have ar:=ρb w4 (.cells Zi 31);rw[ba]at p bi;have aQ:(w4.alloc (.cells Zi 31)).heap.size=r4+1:=by rw[Qi,ba]
  generalize bL:w4.alloc (.cells Zi 31)=W5 at p bi aQ ar
  have x:=bK.o W5;have bf:=bi.alloc (.cells Zc 206);have ak:=Qd W5 206 Zc;have a0:=ar.alloc ar.size (.cells Zc 206);rw[aQ]at x ak
  generalize bj:W5.alloc (.cells Zc 206)=W6 at x bf ak a0
  have aH:=P9 iId bf ce iv bt b2;have bg:=Ql (g:=r4) a0 ρo iv.toArray;have al:=ak.rowFar (g':=r4) ρo iv.toArray
  generalize bA:W6.setRow r4 iv.toArray=W7 at aH al bg
  have aE:=P9 a9y al cu ov bh b7;have bb:=Ql (g:=r4+1) bg ρo ov.toArray;have be:=al.row_ ov.toArray
  generalize bQ:W7.setRow (r4+1) ov.toArray=W8 at aE be bb
  have bl:=P4 c3f a9y ov be bh;have K:=aV.trans (bb.mono aV.size);have a9:=P4 a3a a1H pv (φf cy K) a2;have ae:=bE.o W8 (bY.below K);have⟨bT,cW,cQ,cL,cO⟩:=η5 K bL bj bA bQ;clear K bL bj bA bQ ad bx ac U aS aV ar bi bf ak al be aQ a0 bg bb ba;go_wp2_with fail;refine μ1 ae ?_;rintro e9 w9 ⟨rfl,bw,bO⟩;have a3:Fr (λk=>k=c0+1\/k=c0) w2 w9:=((aU.trans (Q9 bN.o) (λk hk e=>absurd e (ρh aU.o.size))).trans (Q9 bT.o) (λk hk e=>absurd e (ρi aU.o.size bN.o.size))).trans bO (λk _ e=>e);have b3:Below w w w9:=aj.trans (a3.below aj.size (λk hk e=>by have:=bo.o;have:=J.size;omega));have⟨b9,cf,cj⟩:=η3 bw a3 b3;clear bw a3 b3 ae p x aH aE bl a9 bO
  by_cases av:pe=0
  ·subst av
   go_wp2;go_roundg (n-(i+1));exact⟨i+1,_,_,by omega,by go_num,b9.o,bc.o,a1.o,cf.o⟩;omega
  have cV:(pe != 0)=true:=ρw av;have cA:=η1 av;clear av;go_wp2;go_ret2;exact⟨0,pe,rfl,by omega,.inl ⟨cA.o,cj.o⟩⟩
 obtain rfl:i=n:=ρo;have bX:¬(i:Int)<i:=ρo;have cH:=P4 d3b d1C [.map (some c0),.int .u64 H] O.st rfl;have ah:=(bu.below aY).st.fr F (ρh aP.o)
 have ay:=P9 d1C ah rfl [.map (some c0),.int .u64 H] rfl (by
  intro v hv;simp only[Qo,Qt,or_false]at hv
  rcases hv with rfl | rfl<;>rfl)
 have kz:=ah.row_ #[.map (some c0),.int .u64 H];have fz:=ρr (cb) wr #[.map (some c0),.int .u64 H];have aO:a0i (wr.setRow cb #[.map (some c0),.int .u64 H]) cb c0 m H:=⟨kz,O.mp.fr fz (show¬c0=cb by have:=aP.o;omega),O.bd⟩;have b4:=Q.fr fz (λe=>a4.1 e.symm) (λe=>a4.2 e.symm);have bk:Blk (wr.setRow cb #[.map (some c0),.int .u64 H]) g 31 (bys D).toArray:=((a8.fr (Q9 (a6.trans (aY.mono a6.size))) (ρh a8.o.lt)).fr F (ρi a8.o.lt a6.o.size)).fr fz (ρi HG.o aP.o);have aC:=P4 a2i iId (bys D) bk cq;have B:=b2H lb lm L s D HD HL _ b4;rw[b6.o]at aC B
 generalize hV:wr.setRow cb #[.map (some c0),.int .u64 H]=V at fz aO aC B
 replace ay:=ay.trans (show _=Result.ok () V by rw[<-hV]);have aJ:w.heap.size<=c0:=ρo;have⟨cc,cg,b5,bc,a1,aF,HV⟩:=η7 fz aO au aa aq aJ hV;clear fz aO au aa aq aJ hV kz ah O F b4 bk Q aI aA aB;go_wp2_with fail;refine μ1 B ?_;rintro e5 w5 ⟨qs,cJ,rfl,aX,aK⟩;have hq:=b3w qs (L,s,0) cC.o ρp
 generalize hz:a4j qs (L,s,0)=z at aX hq⊢
 have bS:=cg.fr aK (ρh a4.o) (by have:=aF.o;have:=br.o;have:=bV.o;omega);have bH:Fr (λk=>k=cb\/k=lb\/k=lm) wr w5:=(cc.mono (G:=λk=>k=cb\/k=lb\/k=lm) (λk _ e=>.inl e)).trans aK (λk _ e=>.inr e);have⟨HQ,cv,cw,cx⟩:=η4 hq bS aX bH;clear hq bS aX bH B aK hz;go_wp2;go_ret2;exact⟨_,0,rfl,HQ.2.1,.inr ⟨rfl,c0,m,H,_,_,wr,aF.o,b5.o,cx.o,cv.o,bc.o,a1.o,cw.o,HQ.1,HQ.2.2⟩⟩
end
section
def a9O(l:LI):LI:=a0K l.length++l
def c6A(e:a1P):LI:=if a0D e=true then a5V e else []
def a9L(h:a0Q):LI:=if a0w h=true then a2a h else []
def a9M(c:a0y):LI:=a9O (c6A c.e)++a0K c.path.length++c.path.flatten++a9O (a9L c.h)++c.tag
theorem b3A{e:a1P}(h:e.Bd):(c6A e).length<=100:=by unfold c6A;split;exact a9Y h;simp
theorem a5K{e:a0Q}(h:e.Bd):(a9L e).length<=100:=by unfold a9L;split;exact a7a h;simp
theorem c0o{e:a1P}(h:e.Bd):∀x∈c6A e,0<=x/\x<=255:=by unfold c6A;split;exact b2M h;simp
theorem b0c{e:a0Q}(h:e.Bd):∀x∈a9L e,0<=x/\x<=255:=by unfold a9L;split;exact a8g h;simp
theorem b3f{c:a0y}(h:c.Bd):c.path.flatten.length=c.path.length*32:=by
 have:=h.path
 generalize c.path=P at this
 induction P with
 | nil=>rfl
 |
  cons a P b=>
  rw[Zm,Qa,b (λd hd=>this d (by simp[hd])),(this a ρp).1,Qy];omega
theorem b0j(h:∀x∈l,0<=x/\x<=255)(a:l.length<18446744073709551616):∀x∈a9O l,0<=x/\x<=255:=by
 intro x b;unfold a9O at b
 rcases Qq.1 b with e | e
 ·exact a0L a x e
 exact h x e
theorem a7Y(a:l.length<18446744073709551616):(a9O l).length<=l.length+9:=by
 unfold a9O
 have:=a0p a
 rw[Qa];omega
theorem a8M{c:a0y}(h:c.Bd)(a:c.path.length<=32):(a9M c).length<=2000:=by
 have g:=b3A h.e;have d:=a5K h.h;have o:=a7Y (l:=c6A c.e) ρo;have f:=a7Y (l:=a9L c.h) ρo;have m:=b3f h;have b:=h.tag.1;have j:=a0p (n:=c.path.length) ρo;unfold a9M;simp only[Qa];omega
theorem b3m{c:a0y}(h:c.Bd)(a:c.path.length<=32):∀x∈a9M c,0<=x/\x<=255:=by
 intro x b;have g:=b3A h.e;have f:=a5K h.h;unfold a9M at b;simp only[Qq]at b
 rcases b with(((e | e) | e) | e) | e
 ·exact b0j (c0o h.e) ρo x e
 ·exact a0L ρo x e
 ·obtain⟨d,hd,b⟩:=List.mem_flatten.1 e
  exact(h.path d hd).2 x b
 ·exact b0j (b0c h.h) ρo x e
 exact h.tag.2 x e
theorem b4X(P:LL)(i:Nat)(h:i<P.length):(P.take (i+1)).flatten=(P.take i).flatten++P[i]:=by
 rw[Qe h,ZA]
 simp
attribute [local go_sem ↓] a1W a1l a1B a5a a5i a1D
theorem b6C(A:OA)(cap:Nat)(c:a0y)(a:c.Bd)(f:c.path.length<=32)(w:WD)(b:RdR 32 w A (c.path.map bys)):
  Calls prog 111 #[.agg (a0d c A cap).toArray] w λe w'=>∃v,e=.returned v/\a0N w w' v (a9M c)/\Below w w w':=by
 have⟨g,hg⟩:=ηs w;have b0:=Qd w 39 (a0d c A cap).toArray;have B0:=ρb w (.cells (a0d c A cap).toArray 39);rw[hg]at b0;have N:(w.alloc (.cells (a0d c A cap).toArray 39)).heap.size=g+1:=by simp[hg]
 have aW:(a0d c A cap).toArray[37]? =some (.slice A c.path.length cap):=a3X a A cap;have B:=a0l a A cap;have⟨cv,U⟩:=η0 (a0d c A cap);have a5:(cv.toArray.toList.drop 0).take 37=a0x c.e:=by rw[<-U];simpa using a7E a A cap
 have bt:(cv.toArray.toList.drop 38).take 67=a0b c.h:=by rw[<-U];simpa using a6M a A cap
 have bE:(cv.toArray.toList.drop 105).take 32=bys c.tag:=by rw[<-U];simpa using a6K a A cap
 rw[U]at b0 B0 N aW B⊢
 generalize hW:w.alloc (.cells cv.toArray 39)=W at b0 B0 N
 have aJ:=b0.alloc (.cells #[.slice none 0 0] 123);have BV:=B0.alloc B0.size (.cells #[.slice none 0 0] 123);have bp:=Qd W 123 #[.slice none 0 0];rw[N]at bp;have⟨V,hV⟩:=η0 (W.alloc (.cells #[.slice none 0 0] 123));have bz:V.heap.size=g+2:=by rw[<-hV,Qi,N]
 rw[hV]at aJ BV bp;have bq:a4Y (g+1) (g+1) V V (.slice none 0 0) []:=⟨⟨bp,Qg _,a0N.nil _ _⟩,Qf _ _,by omega⟩;have cj:=b.below BV
 have hK:∀Y,Below (g+1) V Y->(LDs 34 (.pointer g)).run prog Y=.ok (.agg (a0x c.e).toArray) Y/\Y.cell? ⟨g,37,none⟩=some (.slice A c.path.length cap)/\(LDs 37 (.pointer (some ⟨g,38,none⟩))).run prog Y=.ok (.agg (a0b c.h).toArray) Y/\(LDs 31 (.pointer (some ⟨g,105,none⟩))).run prog Y=.ok (.agg (bys c.tag).toArray) Y/\RdR 32 Y A (c.path.map bys)/\Below w w Y:=λY hY=>by
  have y0:=aJ.fr (Q9 hY) ρo;refine⟨P6 b3q a8Q y0 (off:=0) (a0x c.e) (a0u a.e) a5,(y0.cell 37).trans aW,P6 a1S a1h y0 (off:=38) (a0b c.h) (a0f a.h) bt,P6 a2i iId y0 (off:=105) (bys c.tag) (by rw[a0a,a.tag.1]) bE,?_,?_⟩
  ·exact(b.below B0).below ((Below.mono (by rw[<-hV];exact ρb W _) (Qg _)).trans (hY.mono ρo))
  exact BV.trans (hY.mono ρo)
 obtain⟨zi,av,aE,ck⟩:=P8 (t:=31) iId b1N;have⟨HG,HW,HV,HK,cB,bi,O,o⟩:=η8 hg hW hV hK bz bq a f;have⟨bn,bc,bT⟩:=η3 av aE N;clear hg hW hV hK bz bq a f av aE N b0 B0 aJ BV bp cj b aW B a5 bt bE U ck;go_enter func111,ntmps111;go_upto_region 2 with fail
 rw[HG.o,HW.o]
 try rw[bT.o]
 rw[HV.o];obtain⟨H,y,G,E,D,I⟩:=HK.o V (Qf _ _);have p:=a5H c.e O.e V;have aI:=c0o O.e;have a0:=b3A O.e;have aS:=b0c O.h;have aV:=a5K O.h;rw[show(if a0D c.e=true then a5V c.e else [])=c6A c.e from rfl]at p;have⟨eb,aQ⟩:=η0 (c6A c.e);have⟨hb,aP⟩:=η0 (a9L c.h);rw[aQ]at p aI a0;rw[aP]at aS aV;have⟨re,aG⟩:=η0 (a0D c.e);have⟨rh,bg⟩:=η0 (a0w c.h);rw[aG]at p;have⟨cc,bs,cr,bB,EB,HB,cG,bY⟩:=η8 aI a0 aS aV aQ aP aG bg;clear aI a0 aS aV aQ aP aG bg D I;go_wp2_with fail;refine μ1 p ?_;rintro e1 V1 ⟨ve,rfl,K,a6⟩;clear p H y G E;obtain⟨Ae,Ne,ce,rfl⟩:=K.formN;have bM:=λe:Ae=none=>(by subst e;exact a0N.nulI K:ce=0)
 have bJ:=K.lenN;have aX:=bi.ext a6;have a4:=Aw.new bi K;obtain⟨H,y,G,E,D,I⟩:=HK.o V1 aX.bel;have aU:=a3A c.h O.h V1;rw[show(if a0w c.h=true then a2a c.h else [])=a9L c.h from rfl,HB.o,bY.o]at aU;have⟨bP,bV,bX,aT,b6⟩:=η5 aX a4 K bJ bM;clear aX a4 K bJ bM a6 D I;go_wp2_with fail;refine μ1 aU ?_;rintro e2 V2 ⟨vh,rfl,J,ag⟩;clear aU H y G E;obtain⟨Ah,Nh,ch,rfl⟩:=J.formN;have bG:=λe:Ah=none=>(by subst e;exact a0N.nulI J:ch=0)
 have bK:=J.lenN;have al:=bP.ext ag;have bQ:=Aw.new bP J;have az:=bV.ext ag.size;have aB:=bX.kept ag;obtain⟨H,y,G,E,D,I⟩:=HK.o V2 al.bel;obtain⟨cy,cH,R,m,-,-⟩:=aB.byt cc;simp only[Value.slice.injEq]at R;obtain⟨rfl,-,rfl⟩:=R;have ak:=al.text Ae ce b6.o eb m az.not ρp (ρh bs.o);rw[<-aT.o]at ak;have⟨l1,ad⟩:=η0 ([]++(a0K Ne++eb))
 have aF:l1.length<=1000:=by
  rw[<-ad]
  have:=bs.o
  have:=aT.o
  have:=a0p (n:=Ne) ρo
  simp only[Qa,Qv];omega
 rw[ad]at ak;have⟨cx,bw,b7,aM,b5,cd,aA⟩:=η7 al bQ J bK bG ad aF;clear al bQ J bK bG ad aF ag D I m aB az;go_wp2_with fail;refine μ1 ak ?_;rintro e3 V3 ⟨rfl,v3,ab,aK,bD⟩;clear ak H y G E;have bl:=bw.go aK bD;have bI:=bw.own aK b7;obtain⟨H,y,G,E,D,I⟩:=HK.o V3 ab.bel;have bm:IntKind.u64.wrap (c.path.length:Int)=(c.path.length:Int):=by rw[IntKind.wrap_u64];have:=o.o;omega
 have af:=ab.num c.path.length (ρh o.o) (ρh aA.o);have⟨np,aR⟩:=η0 c.path.length;rw[aR]at bm af y;have⟨l2,B⟩:=η0 (l1++a0K np)
 have ax:l2.length<=2000:=by
  rw[<-B,Qa]
  have:=aA.o
  have:=o.o
  have:=a0p (n:=np) ρo
  omega
 rw[B]at af;have⟨cz,bx,cq,T,ci,aD⟩:=η6 ab bl bI aR B ax;clear ab bl bI aR B ax aK bD D I;go_wp2_with fail;refine μ1 af ?_;rintro e4 V4 ⟨rfl,v4,aH,aO,bN⟩;clear af H y G E bm;have a8:=bx.go aO bN;have bL:=bx.own aO cq;obtain⟨H,y,G,E,D,I⟩:=HK.o V4 aH.bel;rw[T.o]at y;have S:np<=32:=by rw[<-T.o];exact o.o
 have⟨b9,bU,cf,aN⟩:=η4 aH a8 bL S;clear aH a8 bL S aO bN D I;go_upto_region 7 with fail
 clear H y G E;go_loopg [32] np (λkk s wr=>∃(i:Nat) (v:VL),i+kk=np/\s=.int .i64 i/\a4Y (g+1) (g+1) V wr v (l2++(c.path.take i).flatten)/\Aw wr (g+1) v (.slice Ah Nh ch)/\a0N V1 wr (.slice Ah Nh ch) hb);exact⟨0,v4,by omega,rfl,by simpa using b9.o,bU.o,cf.o⟩;obtain⟨i,v,hi,rfl,z,ar,ae⟩:=hrel;obtain⟨H,y,G,E,D,I⟩:=HK.o wr z.bel
 by_cases b4:i<np
 ·have bO:(i:Int)<np:=ρo
  have a3:i<c.path.length:=by rw[T.o];exact b4
  have cu:=aN.o;obtain⟨q,off,rfl,hq,br⟩:=D i (ρw a3);have⟨d,hd⟩:=η0 (c.path[i]);have aa:Dig d:=by rw[<-hd];exact O.path _ (Qu a3)
  have Z:(bys d).length=32:=by rw[a0a,aa.1]
  have aC:(LDs 31 (.pointer (some ⟨q,off+i*32,none⟩))).run prog wr=.ok (.agg (bys d).toArray) wr:=by
   refine a2e a2i iId wr q (off+i*32) (bys d) Z (λj x hj=>?_)
   have:=br j x (by rw[QS,hd];exact hj)
   exact this
  have⟨dv,ao⟩:=η0 (bys d);have bC:∀u∈dv,u.oneCell'=true:=by rw[<-ao];exact a0h d
  rw[ao]at aC Z;have bj:=bn.o wr;have aL:=bc.o wr dv Z bC;have bk:=Qd wr 31 dv.toArray;have Q:=ρb wr (.cells dv.toArray 31);have⟨r,hr⟩:=ηs wr;rw[hr]at bj aL bk
  generalize hX:wr.alloc (.cells dv.toArray 31)=X at aL bk Q
  have aZ:=z.ext Q;have bb:=ar.ext Q.size;have a9:=ae.kept Q;have bF:=P4 a2i iId dv bk Z
  have be:(l2++(c.path.take i).flatten).length<=400000000:=by
   have h1:(c.path.take i).flatten.length<=c.path.flatten.length:=by
    have:=congrArg (λl=>l.flatten.length) (ZW i c.path)
    simp only[ZA,Qa]at this;omega
   have h2:=b3f O
   have:=o.o
   have:=aD.o
   rw[Qa];omega
  have aj:=aZ.id d aa.1 aa.2 be;rw[ao]at aj;have ay:(l2++(c.path.take i).flatten)++d=l2++(c.path.take (i+1)).flatten:=by rw[b4X _ _ a3,hd,QC]
  rw[ay]at aj;have⟨cE,bh,b2⟩:=η3 aZ bb a9;clear aZ bb a9 z ar ae Q br hq hX H y G E D I be ay bC bk ao Z;go_wp2_with fail;refine μ1 aj ?_;rintro e6 V6 ⟨rfl,v6,bA,aY,ba⟩;have⟨ca,ct,cn⟩:=η3 bA (bh.go aY ba) (bh.own aY b2);clear bA aY ba aj aC bF bj aL;go_wp2;go_roundg (np-(i+1));exact⟨i+1,v6,by omega,by go_num,ca.o,ct.o,cn.o⟩;omega
 obtain rfl:i=np:=ρo;have bO:¬(i:Int)<i:=ρo;rw[Qb (by rw[T.o];exact Qg _)]at z;have⟨l3,ah⟩:=η0 (l2++c.path.flatten)
 have a7:l3.length<=4000:=by
  have h2:=b3f O
  have:=o.o
  have:=aD.o
  rw[<-ah,Qa];omega
 rw[ah]at z;obtain⟨cF,cD,R,m,-,-⟩:=ae.byt cr;simp only[Value.slice.injEq]at R;obtain⟨rfl,-,rfl⟩:=R;have ac:=z.text Ah ch b5.o hb m ar.not ρo (ρh bB.o);rw[<-aM.o]at ac;have⟨l4,an⟩:=η0 (l3++(a0K Nh++hb))
 have au:l4.length<=6000:=by
  rw[<-an]
  have:=bB.o
  have:=aM.o
  have:=a0p (n:=Nh) ρo
  simp only[Qa];omega
 rw[an]at ac;have⟨cp,bZ,bo⟩:=η3 ah an au;clear ah an au z ar ae m a7 H y G E D I;go_wp2_with fail;refine μ1 ac ?_;rintro e7 V7 ⟨rfl,v7,bv,cg,-⟩;clear ac;obtain⟨H,y,G,E,D,I⟩:=HK.o V7 bv.bel;have ai:=bv.id c.tag O.tag.1 O.tag.2 (ρh bo.o)
 have F:l4++c.tag=a9M c:=by
  rw[<-bZ.o,<-cp.o,<-ci.o,<-cd.o];unfold a9M a9O;rw[EB.o,HB.o,T.o,<-aT.o,<-aM.o]
  simp
 rw[F]at ai;have⟨tv,a1⟩:=η0 ((bys c.tag).toArray);rw[a1]at ai E;have⟨cA,bS⟩:=η2 a1 F;clear a1 F cg H y G D I;go_wp2_with fail;refine μ1 ai ?_;rintro e8 V8 ⟨rfl,v8,aq,b3,-⟩;clear ai E;have bu:=a4A (g+1) (g+1) v8 (a9M c) (b3m O.o o.o) V8 aq.pen (by have:=a8M O.o o.o;omega);have bf:=(HK.o V8 aq.bel).2.2.2.2.2;have⟨cw,a2⟩:=η2 aq bf;clear aq bf b3;go_wp2_with fail;refine μ1 bu ?_;rintro e9 V9 ⟨v9,rfl,bH,bR⟩;clear bu;have⟨bW,b8⟩:=η2 bH bR;clear bH bR;go_wp2;go_ret;have cC:=HG.o;exact⟨v9,rfl,bW.base a2.size,a2.trans (b8.mono a2.size)⟩
theorem d3C:(((prog.info? 214).bind (·.zero)).map (·.cells.size))=some 138:=ρk
theorem d3G:(prog.info? 214).map (·.size)=some 138:=ρk
theorem c7i{x:MkD}(h:x.c.Bd):(mkV x).toArray[137]? =some (.int .i64 x.ex):=by
 have:=a0l h x.A x.cap
 simp[mkV,QL,this]
theorem d1e{x:MkD}(h:x.c.Bd):((mkV x).drop 0).take 137=a0d x.c x.A x.cap:=by
 have:=a0l h x.A x.cap
 simp[mkV,QT,this,Qb]
def a8X(M:List (Ke×MkD))(k:Ke):LI:=b1s k.1++k.2++b1s (a2Q M k).ex++a9O (a9M (a2Q M k).c)
def b0J(M:List (Ke×MkD)):LI:=a0K M.length++(a5F a6w (M.map Prod.fst)).flatMap (a8X M)
theorem b4D{M:List (Ke×MkD)}(a:∀p∈M,a7b w N p.2){k:Ke}(b:b2y k):(a8X M k).length<=2200:=by
 have h:=a6b a k;have g:=a2W k.1;have d:=a2W (a2Q M k).ex;have m:=b.len;have f:=a8M h.bd h.len;have j:=a7Y (l:=a9M (a2Q M k).c) ρo;unfold a8X;simp only[Qa];omega
attribute [local go_sem ↓] a9U b0n b0f a7A a7I a7U
theorem b4B(B p:Nat)(v:VL)(l:LI)(cb cm:Nat)(C:List (Ke×MkD))(d:List Nat)(b:C.length<=256)(w:WD)(h:a3Z B w p v l)(g:B<=w.heap.size)(j:l.length<=200000000)(f:∀W,Below B w W->a0z W cb cm d C):
  Calls prog 55 #[.pointer cb,.pointer p] w λe w'=>e=.returned (.tuple #[])/\∃v',a4Y B p w w' v' (l++b0J C):=by
 have hP:=a4Y.here h g;have ab:=f w (Qf _ _);have q0:=ab.q0;have aN:=ab.mp.len_ (ty:=3) b0F;have bA:IntKind.u64.wrap (C.length:Int)=(C.length:Int):=by rw[IntKind.wrap_u64];omega
 have aq:=hP.num C.length ρo ρo;have⟨n,hn⟩:=η0 C.length;rw[hn]at aN bA aq;have bu:=ab.bd;have bq:=ab.mp.ok;obtain⟨Zk,aI,aQ,ct⟩:=P8 (t:=212) c1B d1x;obtain⟨Zx,aW,aX,cu⟩:=P8 (t:=214) d3G d3C;have⟨HC,HN,bf,HL,bC,cB,bF,bE⟩:=η8 f hn b j bu bq aI aQ;have⟨bz,bi⟩:=η2 aW aX;clear f hn b j bu bq aI aQ aW aX ab h g hP ct cu;go_enter func55,ntmps55;go_wp2_with fail;refine μ1 aq ?_;rintro e1 w1 ⟨rfl,v1,H,T,-⟩;clear aq aN q0 bA;have b5:=HC.o w1 H.bel;have a0:=b3v cb cm d C (ρh bf.o) w1 b5;have⟨lb,U⟩:=η0 (l++a0K n);rw[U]at H;have⟨V,al⟩:=η0 (a5F a6w (C.map Prod.fst));rw[al]at a0;have bS:V.length=n:=by rw[<-al,(a2G _).length_eq,Qw];exact HN.o
 have bg:∀k∈V,b2y k:=by
  rw[<-al];refine b1i (λa ha=>?_);obtain⟨x,hx,rfl⟩:=Qs.1 ha;exact cB.o x hx
 have aL:lb.length<=200000100:=by
  rw[<-U,Qa]
  have:=HL.o
  have:=HN.o
  have:=bf.o
  have:=a0p (n:=n) ρo
  omega
 have bJ:∀i,((V.take i).flatMap (a8X C)).length<=n*2200:=λi=>by
  have h1:=a4b (l:=V.take i) (λk hk=>b4D bC.o (bg k (QM hk)));have h2:(V.take i).length<=n:=by rw[Qx];omega
  exact Qk h1 (Zb _ h2)
 have Z:n<=256:=by rw[<-HN.o];exact bf.o
 have⟨cg,cd,ba,cA,cC,cr,bb,I⟩:=η8 U al bS bg aL bJ Z H;clear U al bS bg aL bJ Z H T b5;go_wp2_with fail;refine μ1 a0 ?_;rintro e2 w2 ⟨u,rfl,hO,bH⟩;clear a0;have ag:=I.ext bH;obtain⟨A,N,c,rfl,hN⟩:=hO.formN;rw[Qw,ba.o]at hN;subst hN;obtain⟨-,bQ⟩:=hO.sp;have b2:B<=w1.heap.size:=I.size;have⟨Q,HO,b9,cS⟩:=η4 ag hO bQ b2;clear ag hO bQ b2 bH;go_upto_region 2 with fail
 go_loopg [18] N (λkk s wr=>∃(i:Nat) (v':VL),i+kk=N/\s=.int .i64 i/\a4Y B p w wr v' (lb++(V.take i).flatMap (a8X C))/\a0T 212 33 w1.heap.size wr (.slice A N c) (V.map keE.e));exact⟨0,v1,by omega,rfl,by simpa using Q.o,HO.o⟩;obtain⟨i,v',hi,rfl,E,aA⟩:=hrel
 by_cases cj:i<N
 ·have bZ:(i:Int)<N:=ρo
  have aH:i<V.length:=by rw[ba.o];exact cj
  have cV:=bb.o
  rcases b9.o with⟨-,e0⟩ | ⟨q,cQ,rfl,hq,-⟩
  ·have:=congrArg List.length e0
   simp at this;subst this;simp at aH
  have O:=aA.ldR (t:=212) c7f c1B (i:=i) (ρw aH);simp only[QS]at O;have⟨m,av⟩:=η0 (V[i]);have y:b2y m:=by rw[<-av];exact cA.o _ (Qu aH)
  have b0:keE.e V[i]=keL m.1 m.2:=by rw[av];rfl
  rw[b0]at O;have⟨K,F⟩:=η0 (keL m.1 m.2);have aP:=y.len;have a8:(bys m.2).length=32:=by rw[a0a,aP]
  have an:K.length=33:=by rw[<-F];exact a6m y.len m.1
  have aZ:∀u∈K,u.oneCell'=true:=by rw[<-F];exact a7K _ _
  have bD:(K.drop 1).take 32=bys m.2:=by rw[<-F];simp[keL,Qb,a8]
  have aS:K.toArray[0]? =some (.int .i64 m.1):=by rw[<-F];rfl
  have S:(a2Q C m).c.Bd:=(a6b bC m).bd;have⟨o,aE⟩:=η0 (a2Q C m);rw[aE]at S;have⟨xv,ah⟩:=η0 (mkV o);have bv:xv.length=138:=by rw[<-ah];exact a3i S
  have aK:∀u∈xv,u.oneCell'=true:=by rw[<-ah];exact a7Q _
  have bO:xv.toArray[137]? =some (.int .i64 o.ex)/\(xv.drop 0).take 137=a0d o.c o.A o.cap:=by rw[<-ah];exact⟨c7i S,d1e S⟩
  rw[F]at O;have bs:=bF.o wr;have a2:=bE.o wr K an aZ;have bk:=Qd wr 212 K.toArray;have a5:=ρb wr (.cells K.toArray 212);have⟨r,hr⟩:=ηs wr;have af:(wr.alloc (.cells K.toArray 212)).heap.size=r+1:=by simp[hr]
  rw[hr]at bs a2 bk
  generalize cD:wr.alloc (.cells K.toArray 212)=w3 at a2 bk a5 af
  have ad:=a5.drew;have ak:=bk.drew;have⟨X,hX⟩:=η0 w3.drew;rw[hX]at ad ak;have bc:X.heap.size=r+1:=by rw[<-hX];exact af
  have bh:∀Y,Below X X Y->a0z Y cb cm d C:=λY hY=>HC.o Y (E.bel.trans ((ad.mono E.size).trans (hY.mono (ρh E.size))))
  have aV:=bz.o X;have ao:=bi.o X xv bv aK;have bx:=Qd X 214 xv.toArray;have aG:=ad.alloc ad.size (.cells xv.toArray 214);have a3:=ak.alloc (.cells xv.toArray 214);have bG:=ρb X (.cells Zx 214);rw[bc]at aV ao bx
  have bY:∀Y,Below X X Y->Y.cell? ⟨cb,0,none⟩=some (.map (some cm))/\(LDs 212 (.pointer r)).run prog Y=.ok (.agg K.toArray) Y/\(Instr.lookup 167 (.map (some cm)) (.agg K.toArray) false).run prog Y=.ok (.agg xv.toArray) Y:=λY hY=>by
   have hy:=ak.fr (Q9 hY) (ρh ak.lt);have U:=P4 c7f c1B K hy an;have G:=(bh Y hY).look1 y;rw[F,aE,ah]at G;exact⟨(bh Y hY).q0,U,G⟩
  have⟨S0,a6⟩:=η0 ((λY=>Y.cell? ⟨cb,0,none⟩=some (.map (some cm))/\(LDs 212 (.pointer r)).run prog Y=.ok (.agg K.toArray) Y/\(Instr.lookup 167 (.map (some cm)) (.agg K.toArray) false).run prog Y=.ok (.agg xv.toArray) Y):WD->Prop);have aU:∀Y,Below X X Y->S0 Y:=λY hY=>by rw[<-a6];exact bY Y hY
  generalize cU:X.alloc (.cells xv.toArray 214)=V0 at ao bx aG a3
  have be:=E.ext aG;have bL:=aA.keep aG;have⟨l0,au⟩:=η0 (lb++(V.take i).flatMap (a8X C));have aR:l0.length<=201000000:=by rw[<-au,Qa];have:=cr.o i;have:=cC.o;omega
  rw[au]at be;have⟨HS,bX,HX,HR,cJ,ax,cH,bt⟩:=η8 a6 aU hX hr bG be bL a3;have⟨ce,b3,b8,cI,b4,cT,J,cz⟩:=η8 bx aR au bD aS a8 y av;have⟨bm,aB,cR,bT⟩:=η4 aE S bc bO;clear a6 aU hX hr bG be bL a3 bx aR au bD aS a8 y av aE S bc bO bY ad aG bh bk ak a5 af E aA F ah cD b0 aP an aZ bv aK;go_upto_region 4 with fail
  refine a0s [(0,3),(1,3),(2,3),(3,0),(4,0),(5,0),(6,1),(7,2)] S0 ρk ρk ρk ρk (by rw[HX.o];exact bX.o _ (Qf _ _)) ?_;rw[HX.o];refine ε3 ?_
  iterate 3 refine θ3 (λ_ h=>by rw[<-HS.o]at h;exact h) ?_
  refine κ1 (bX.o _ cJ.o) ?_;refine τ1 ?_;refine ν ?_;clear aV ao O bs a2;have b6:=(bt.cell 0).trans b4;have D:=ax.numV m.1 (ρh b3.o);have⟨l1,ay⟩:=η0 (l0++b1s m.1)
  have aY:l1.length<=201000100:=by
   rw[<-ay,Qa]
   have:=b3.o
   have:=a2W m.1
   omega
  rw[ay]at D;have⟨bU,cv⟩:=η2 aY ay;clear aY ay;go_wp2_with fail;refine μ1 D ?_;rintro e3 V1 ⟨rfl,cW,H,T,-⟩;clear D b6;have⟨I,bM,cx,ca⟩:=η4 H (ax.blk T bt.o ρd ρd) (ax.blk T ce.o ρd ρd) (ax.row T cH.o ρd ρd);clear H T;have bK:=P6 a2i iId bM (off:=1) (bys m.2) (ρy a0a J.o.len) (ρy ZS cI.o);have D:=I.id m.2 J.len J.id (ρh bU.o);have⟨l2,G⟩:=η0 (l1++m.2)
  have aO:l2.length<=201000200:=by
   rw[<-G,Qa]
   have:=bU.o
   have:=J.len
   omega
  rw[G]at D;have⟨bN,cE⟩:=η2 aO G;clear aO G;go_wp2_with fail;refine μ1 D ?_;rintro e4 V2 ⟨rfl,cP,ag,aF,-⟩;clear D bK;have⟨Q,cn,br,cp⟩:=η4 ag (I.blk aF bM.o ρd ρd) (I.blk aF cx.o ρd ρd) (I.row aF ca.o ρd ρd);clear ag aF;have cN:=(br.cell 137).trans bT.1;have D:=Q.numV o.ex (ρh bN.o);have⟨l3,aD⟩:=η0 (l2++b1s o.ex)
  have aJ:l3.length<=201000300:=by
   rw[<-aD,Qa]
   have:=bN.o
   have:=a2W o.ex
   omega
  rw[aD]at D;have⟨ck,cK⟩:=η2 aJ aD;clear aJ aD;go_wp2_with fail;refine μ1 D ?_;rintro e5 V3 ⟨rfl,cX,bn,az,-⟩;clear D cN;have⟨a4,cM,bw,cL⟩:=η4 bn (Q.blk az cn.o ρd ρd) (Q.blk az br.o ρd ρd) (Q.row az cp.o ρd ρd);clear bn az;have R:=a6b (HC.o V3 a4.bel).bd m;rw[bm.o]at R;have aM:=P6 b3R a6L bw (off:=0) (a0d o.c o.A o.cap) (a0l aB _ _) (ρy ZS bT.o.2);have ar:=b6C o.A o.cap o.c aB R.len V3 R.path;have aa:=a8M aB R.len;have ac:=b3m aB R.len;have⟨cf,a1⟩:=η0 (a9M o.c);rw[a1]at ar aa ac;have⟨cY,aj⟩:=η0 ((a0d o.c o.A o.cap).toArray);rw[aj]at ar aM;have⟨cF,bo,bW,cO⟩:=η4 a1 aa ac aj;clear a1 aa ac aj R;go_wp2_with fail;refine μ1 ar ?_;rintro e8 V7 ⟨vc,rfl,aC,ae⟩;clear ar aM;obtain⟨Ac,cc,rfl,aT,-,-⟩:=aC.byt bW;have bV:=λe:Ac=none=>(by subst e;exact a0N.nulI aC:cc=0)
  have a7:=a4.ext ae;have bj:=Aw.new a4 aC;have D:=a7.text Ac cc bV cf aT bj.not (ρh ck.o) (ρh bo.o);have ch:=φf cM ae;have cG:=φf bw ae;have bB:=cL.keep ae;have⟨l4,a9⟩:=η0 (l3++(a0K cf.length++cf));rw[a9]at D
  generalize bP:cf.length=nc at D⊢
  have⟨b7,cw,ci,bl⟩:=η4 a7 bB a9 bP;clear a7 bB a9 bP aC ae aT bV bj ch cG;go_wp2_with fail;refine μ1 D ?_;rintro e9 V4 ⟨rfl,bR,bp,bI,-⟩;clear D;have⟨cq,cy⟩:=η2 bp (b7.row bI cw.o ρd ρd);clear bp bI
  have z:a4Y B p w V4 bR (lb++(V.take (i+1)).flatMap (a8X C)):=by
   rw[b0u _ _ _ aH,cz.o,<-QC,b8.o];have e:a8X C m=b1s m.1++m.2++b1s o.ex++a9O (a9M o.c):=by unfold a8X;rw[bm.o]
   rw[e];have hq:=cq.o;rw[<-ci.o,bl.o,<-cK.o,<-cE.o,<-cv.o]at hq;unfold a9O;rw[cF.o,bl.o];simpa only[QC]using hq
  have ai:=η1 z;clear z;go_wp2;go_roundg (N-(i+1));exact⟨i+1,bR,by omega,by go_num,ai.o,cy.o⟩;omega
 obtain rfl:i=N:=ρo;have bZ:¬(i:Int)<i:=ρo
 have z:a4Y B p w wr v' (l++b0J C):=by
  have hq:=E;rw[Qb (by rw[ba.o];exact Qg _),<-cg.o,<-cd.o]at hq;unfold b0J;rw[HN.o,<-QC];exact hq
 have ai:=η1 z;clear z E aA;go_wp2;go_end0;exact⟨rfl,v',ai.o⟩
end
section
def c7Q(x:ShD)(t:TxD)(e:Ending):Prop:=(e=.returned (.tuple #[])/\a0M (a2P t x.n) x.me≠[])\/∃k,b7C k e
attribute [local go_sem ↓] a2q
theorem b6Z(a:Nat)(b:ShB)(N:List Nat)(seed:LI)(x:ShD)(d:OA)(j:Nat)(f:OA)(m:Nat)(t:TxD)(w:WD)
  (h:a1e w a b N seed x) (hgl:a2x w) (ht:a9H w d f t) (hl1:t.ins.length<=1000000) (hl2:t.outs.length<=1000000):
  Calls prog 159 #[.pointer a,.agg (txV d j f m t)] w λe w'=>c7Q x t e/\Below w w w':=by
 have⟨g,hg⟩:=ηs w;have ae:(txV d j f m t).toList.length=4:=rfl;have aK:-9223372036854775808<=x.n/\x.n<=9223372036854775807:=by have:=h.ok.n;have:=h.ok.me;omega
 have ao:Dig (idP t):=⟨a3b t,a5f t⟩
 generalize af:txV d j f m t=tv at ae⊢
 have b0:=Qd w 53 (tv);have D:=ρb w (.cells (tv) 53)
 generalize hW:w.alloc (.cells (tv) 53)=W at b0 D
 rw[hg]at b0;have E:=λX (R:Below W W X)=>P4 uTx iTx (w:=X) tv.toList (by simpa using b0.fr (Q9 R) (ρh b0.lt)) ae
 have H:=λX (R:Below W W X)=>h.below (D.trans (R.mono D.size))
 have S:=λX (R:Below W W X)=>ht.below (D.trans (R.mono D.size))
 have T:=λX (R:Below W W X)=>hgl.below (D.trans (R.mono D.size))
 simp only[show tv.toList.toArray=tv by simp]at E;have⟨U,hU⟩:=η0 W.drew;have r:Below W W U:=by rw[<-hU];exact(Qf _ _).drew
 have aA:(LDs 53 (.pointer g)).run prog U=.ok (.agg tv) U/\U.cell? ⟨a,1,none⟩=some (.int .i64 x.n)/\U.cell? ⟨a,0,none⟩=some (.int .i64 x.me):=⟨E U r,(H U r).c.2.1,(H U r).c.1⟩;have G:=a6O d j f m t x.n x.me aK U (S U r) (T U r) hl1 hl2;rw[af]at G;have⟨L,hL⟩:=η0 (a0M (a2P t x.n) x.me);rw[hL]at G
 have av:L.length<=16:=by
  rw[<-hL]
  have:=a1V (a2P t x.n) x.me
  have:= @a4q t x.n
  omega
 have⟨HG,HW,F,aM,aq,aG,aJ,HU⟩:=η8 hg hW D E H S T hU;have⟨aE,aD,HL,aR,aS,aI⟩:=η6 r aA hL av ao af;clear hg hW D E H S T hU r aA hL av ao af b0 h ht hgl ae;go_enter func159,ntmps159;go_upto_region 1 with fail
 rw[HW.o,HG.o];refine a0s [(1,3),(2,3),(3,3),(5,3),(6,3),(7,3),(0,0),(4,0),(8,0),(9,2),(10,3),(11,3),(12,3),(13,3),(14,3)] (λY=>(LDs 53 (.pointer g)).run prog Y=.ok (.agg tv) Y/\Y.cell? ⟨a,1,none⟩=some (.int .i64 x.n)/\Y.cell? ⟨a,0,none⟩=some (.int .i64 x.me)) ρk ρk ρk ρk (ρy HU.o aD.o) ?_;rw[HU.o];refine ε6 ?_
 iterate 3 refine θ3 (λ_ h=>h) ?_
 refine τ ?_;intro K p;refine μ1 G ?_;rintro e5 w5 ⟨vi,vo,rfl,aa,aO,ar⟩;with_reducible refine p _ _ ?_;clear p K
 refine ε5 ?_;clear G;refine ν ?_;obtain⟨Av,Nv,cv,rfl⟩:=aa.formN;have al:=aa.lenN;have aW:Nv<=16:=by have:=aR.o;omega
 have B:=φt aE ar;have J:=φt F B;have⟨aQ,aC,ax⟩:=η3 al B J;clear al B J ar aa aO;have v:=a1o w5
 by_cases Z:Nv=0
 ·subst Z
  have hi:=a0X true 11 w5;simp only[if_true]at hi;have hm:=a1m 11 ρo w5;clear v;go_wp2_with fail;refine μf hi ?_;go_wp2_with fail;refine μf hm ?_;exact⟨rfl,.inr ⟨11,by omega,rfl⟩,ax.o⟩
 have ai:((Nv:Int) == 0)=false:=by simp;omega
 have aj:decide ((Nv:Int)=0)=false:=by simp;omega
 have hi:=a0X false 11 w5;simp only[QI,if_false]at hi;have an:L≠[]:=λe=>Z (by rw[aQ.o,e];rfl)
 have aN:=η1 an;clear an;go_wp2_with fail;refine μf hi ?_;go_wp2_with fail;refine μf v ?_;clear hi v ai aj Z;have⟨V,hV⟩:=η0 w5.drew;have ay:Below w5 w5 V:=by rw[<-hV];exact(Qf _ _).drew
 have o:=φt aC ay;have O:=φt F o;have au:=λY (hY:Below V V Y)=>(show(LDs 53 (.pointer g)).run prog Y=.ok (.agg tv) Y/\Y.cell? ⟨a,8,none⟩=some (.pointer b.lb)from⟨aM.o Y (o.trans (hY.mono o.size)),(aq.o Y (o.trans (hY.mono o.size))).c.2.2.2.2.2.2.2.2.1⟩)
 have hid:=a2v d j f m t V (aG.o V o) (aJ.o V o) hl1 hl2;rw[aI.o]at hid;have⟨dv,ac⟩:=η0 ((bys (idP t)).toArray);rw[ac]at hid;have⟨HV,ah,aV,ak,aT⟩:=η5 hV o O au ac;clear hV o O au ac ay;go_upto_region 3 with fail
 refine a3Y [(0,3),(1,3),(2,3),(3,0),(4,0),(5,1),(6,2),(7,3),(8,3),(9,2),(10,2)] (λY=>(LDs 53 (.pointer g)).run prog Y=.ok (.agg tv) Y/\Y.cell? ⟨a,8,none⟩=some (.pointer b.lb)) ρk ρk ρk ρk (by rw[HV.o];exact ak.o _ (Qf _ _)) ?_;rw[HV.o];refine ε3 ?_
 iterate 2 refine θ2 (λ_ h=>h) ?_
 refine κ ?_;intro K p;refine μi hid ?_;intro w6 ab;with_reducible refine p _ _ (ak.o _ ab) ?_;clear p K
 have y:=φt ah ab;have z:=aq.o _ y;have ad:=c2J b.lb b.lm x.L x.sL (idP t) aS.o (ρh z.ok.lL) w6 z.lo;rw[aT.o]at ad;have ag:=η1 y;clear y z ab hid;refine τ ?_;intro K p;refine μ1 ad ?_;rintro e7 w7 ⟨A7,c7,ps,rfl,aF,aH,az⟩;with_reducible refine p _ _ ?_;clear p K
 have Q:=F.trans ((φt ag az).mono F.size);have⟨n7,aB⟩:=η0 ps.length;have⟨I,aL⟩:=η2 Q aB;clear Q aB az ad aF aH
 try rw[aL.o]
 have v:=a1o w7
 by_cases aP:n7=0
 ·subst aP
  have hi:=a0X true 13 w7;simp only[if_true]at hi;have hm:=a1m 13 ρo w7;clear v;refine ε2 ?_;refine τ ?_;intro K p;refine μf hi ?_;with_reducible refine p _ _ ?_;clear p K
  refine τ ?_;intro K p;refine μf hm ?_;exact λa' aU=>⟨aU,.inr ⟨13,by omega,rfl⟩,I.o⟩
 have ai:((n7:Int) == 0)=false:=by simp;omega
 have aj:decide ((n7:Int)=0)=false:=by simp;omega
 have hi:=a0X false 13 w7;simp only[QI,if_false]at hi;refine ε2 ?_;refine τ ?_;intro K p;refine μf hi ?_;with_reducible refine p _ _ ?_;clear p K
 refine τ ?_;intro K p;refine μf v ?_;with_reducible refine p _ _ ?_;clear p K
 with_reducible refine a1N ?_
 rw[a0V];go_wp2_with fail;refine bodyPost_end (results_none rfl _ _ _) rfl ?_;exact⟨.inl ⟨rfl,by rw[HL.o];exact aN.o⟩,I.o⟩
end
section
def shB(x:ShD):LI:=b1s x.ep++b1s x.ser++a0K x.iss.toNat++a0K x.fees.toNat++a9O (a9L x.h)++b5S x.C++b6k x.L++b0J x.M
theorem b2J{α β γ:Type}{f:γ->γ->Int}{h:γ->LI}{M K:Nat}{L:List (γ×β)}(a:L.length<=K)(d:K<1000000)(b:∀k∈L.map Prod.fst,(h k).length<=M):(a0K L.length++(a5F f (L.map Prod.fst)).flatMap h).length<=9+K*M:=by
 have m:=a0p (n:=L.length) ρo;have j:=a4b (l:=a5F f (L.map Prod.fst)) (M:=M) (λk g=>b k ((a2G _).subset g));rw[(a2G _).length_eq,Qw]at j;have o:=Zb M a;rw[Qa];omega
theorem b4l{C:List (Pt×a1q)}(a:∀p∈C,p.2.Bd)(b:∀p∈C,a6l p.1)(d:C.length<=256):(b5S C).length<=9+256*90:=b2J (α:=Unit) d ρo (λk hk=>by
 obtain⟨p,hp,rfl⟩:=Qs.1 hk;exact b5y a (b p hp))
theorem b4a{C:List (Pt×a1J)}(a:∀p∈C,a6v p.2)(b:∀p∈C,a6l p.1)(d:C.length<=256):(b6k C).length<=9+256*120:=b2J (α:=Unit) d ρo (λk hk=>by
 obtain⟨p,hp,rfl⟩:=Qs.1 hk;exact b4L a (b p hp))
theorem b5r{C:List (Ke×MkD)}(a:∀p∈C,a7b w N p.2)(b:∀p∈C,b2y p.1)(d:C.length<=128):(b0J C).length<=9+128*2200:=b2J (α:=Unit) d ρo (λk hk=>by
 obtain⟨p,hp,rfl⟩:=Qs.1 hk;exact b4D a (b p hp))
attribute [local go_sem ↓] a1l
theorem b1p(d:Nat)(b:ShB)(N:List Nat)(seed:LI)(x:ShD)(a:∀y∈shB x,0<=y/\y<=255)(w:WD)(h:a1e w d b N seed x):
  Calls prog 20 #[.pointer d] w λe w'=>∃v,e=.returned v/\a0N w w' v (shB x)/\Below w w w':=by
 have⟨g,hg⟩:=ηs w;have BV:=(Qf _ w).alloc (Qg _) (.cells #[.slice none 0 0] 123);have bp:=Qd w 123 #[.slice none 0 0];rw[hg]at bp;have⟨V,hV⟩:=η0 (w.alloc (.cells #[.slice none 0 0] 123));have aP:V.heap.size=g+1:=by rw[<-hV,Qi,hg]
 rw[hV]at BV bp;have ax:a4Y g g V V (.slice none 0 0) []:=⟨⟨bp,Qg _,a0N.nil _ _⟩,Qf _ _,by omega⟩
 have hK:∀Y,Below g V Y->a1e Y d b N seed x/\Below w w Y:=λY hY=>by
  have X:Below w w Y:=BV.trans (hY.mono ρo);exact⟨h.below X,X⟩
 have an:=h.ok;have⟨HG,HV,p,ao,m,aL⟩:=η6 hg hV hK ax an a;clear hg hV hK ax an a BV bp aP h;go_enter func20,ntmps20;go_upto_region 2 with fail
 rw[HG.o,HV.o];have q:=(p.o V ao.bel).1.c.2.2.2.1;have j:=ao.numV x.ep ρp;have⟨l1,I⟩:=η0 ([]++b1s x.ep)
 have f:l1.length<=20:=by
  rw[<-I,Qa]
  have:=a2W x.ep
  simp only[Qv];omega
 rw[I]at j;have⟨aN,aH⟩:=η2 I f;clear I f;go_wp2_with fail;refine μ1 j ?_;rintro e1 V1 ⟨rfl,v1,o,J,-⟩;clear j q;have aI:=η1 o;clear o J;have q:=(p.o V1 aI.bel).1.c.2.2.2.2.1;have j:=aI.numV x.ser (ρh aH.o);have⟨l2,P⟩:=η0 (l1++b1s x.ser)
 have f:l2.length<=40:=by
  rw[<-P,Qa]
  have:=aH.o
  have:=a2W x.ser
  omega
 rw[P]at j;have⟨aQ,az⟩:=η2 P f;clear P f;go_wp2_with fail;refine μ1 j ?_;rintro e2 V2 ⟨rfl,v2,o,J,-⟩;clear j q;have aq:=η1 o;clear o J;have q:=(p.o V2 aq.bel).1.c.2.2.2.2.2.1;obtain⟨n2,ag⟩:=a1C m.iss.1;rw[ag]at q;have j:=aq.num n2 (ρh m.o.iss) (ρh az.o);have ar:=η1 ag;clear ag;have⟨l3,K⟩:=η0 (l2++a0K n2)
 have f:l3.length<=60:=by
  rw[<-K,Qa]
  have:=az.o
  have:=a0p (n:=n2) (ρi m.o.iss ar.o)
  omega
 rw[K]at j;have⟨aU,au⟩:=η2 K f;clear K f;go_wp2_with fail;refine μ1 j ?_;rintro e3 V3 ⟨rfl,v3,o,J,-⟩;clear j q;have av:=η1 o;clear o J;have q:=(p.o V3 av.bel).1.c.2.2.2.2.2.2.1;obtain⟨n3,ab⟩:=a1C m.fees.1;rw[ab]at q;have j:=av.num n3 (ρh m.o.fees) (ρh au.o);have ay:=η1 ab;clear ab;have⟨l4,Q⟩:=η0 (l3++a0K n3)
 have f:l4.length<=80:=by
  rw[<-Q,Qa]
  have:=au.o
  have:=a0p (n:=n3) (ρi m.o.fees ay.o)
  omega
 rw[Q]at j;have⟨aK,aE⟩:=η2 Q f;clear Q f;go_wp2_with fail;refine μ1 j ?_;rintro e4 V4 ⟨rfl,v4,o,J,-⟩;clear j q;have aa:=η1 o;clear o J;have q:=(p.o V4 aa.bel).1.ldh;have D:=a3A x.h m.h V4;have ad:=b0c m.h;have ae:=a5K m.h;rw[show(if a0w x.h=true then a2a x.h else [])=a9L x.h from rfl]at D;have⟨X,ac⟩:=η0 (a9L x.h);rw[ac]at D ad ae;have⟨rh,aj⟩:=η0 (a0w x.h);rw[aj]at D;have⟨hv,aJ⟩:=η0 ((a0b x.h).toArray);rw[aJ]at D q;have⟨aW,aA,HB⟩:=η3 ad ae ac;clear ad ae ac aj aJ;go_wp2_with fail;refine μ1 D ?_;rintro e5 V5 ⟨vh,rfl,H,aB⟩;clear D q;obtain⟨Ah,ch,rfl,U,-,-⟩:=H.byt aW;have aD:=λe:Ah=none=>(by subst e;exact a0N.nulI H:ch=0)
 have aF:=aa.ext aB;have ah:=Aw.new aa H;have j:=aF.text Ah ch aD X U ah.not (ρh aE.o) (ρh aA.o);have⟨l5,T⟩:=η0 (l4++(a0K X.length++X))
 have f:l5.length<=1000:=by
  rw[<-T]
  have:=aE.o
  have:=aA.o
  have:=a0p (n:=X.length) ρo
  simp only[Qa];omega
 rw[T]at j
 generalize aG:X.length=Nh at j⊢
 have⟨aR,aC,aM⟩:=η3 T f aG;clear T f aG H aB U aD aF ah;go_wp2_with fail;refine μ1 j ?_;rintro e6 V6 ⟨rfl,v6,o,J,-⟩;clear j;have B:=η1 o;clear o J;have q:=(p.o V6 B.bel).1.c.2.2.2.2.2.2.2.1;have j:=b4P g g v6 l5 b.cb b.cm x.C x.sC m.lC V6 B.pen B.size (ρh aC.o) (λW hW=>(p.o W (B.bel.trans hW)).1.co);go_wp2_with fail;refine μ1 j ?_;rintro e7 V7 ⟨rfl,v7,o⟩;clear j q;have O:a4Y g g V V7 v7 (l5++b5S x.C):=⟨o.pen,B.bel.trans o.bel,B.sz⟩;have⟨l7,R⟩:=η0 (l5++b5S x.C);rw[R]at O
 have f:l7.length<=100000:=by
  rw[<-R,Qa]
  have:=aC.o
  have Z:=(p.o V7 O.bel).1
  have:=b4l Z.co.bd Z.co.mp.ok m.lC
  omega
 have⟨z,al,aV⟩:=η3 O f R;clear O f R o;have q:=(p.o V7 z.bel).1.c.2.2.2.2.2.2.2.2.1;have j:=b4e g g v7 l7 b.lb b.lm x.L x.sL (ρh m.o.lL) V7 z.pen z.size (ρh al.o) (λW hW=>(p.o W (z.bel.trans hW)).1.lo);go_wp2_with fail;refine μ1 j ?_;rintro e8 V8 ⟨rfl,v8,o⟩;clear j q;have S:a4Y g g V V8 v8 (l7++b6k x.L):=⟨o.pen,z.bel.trans o.bel,z.sz⟩;have⟨l8,G⟩:=η0 (l7++b6k x.L);rw[G]at S
 have f:l8.length<=200000:=by
  rw[<-G,Qa]
  have:=al.o
  have Z:=(p.o V8 S.bel).1
  have:=b4a Z.lo.bd Z.lo.mp.ok (ρh m.o.lL)
  omega
 have⟨r,ak,aS⟩:=η3 S f G;clear S f G o;have q:=(p.o V8 r.bel).1.c.2.2.2.2.2.2.2.2.2.1;have j:=b4B g g v8 l8 b.kb b.km x.M N (ρh m.o.lM) V8 r.pen r.size (ρh ak.o) (λW hW=>(p.o W (r.bel.trans hW)).1.ma);go_wp2_with fail;refine μ1 j ?_;rintro e9 V9 ⟨rfl,v9,o⟩;clear j q;have E:a4Y g g V V9 v9 (l8++b0J x.M):=⟨o.pen,r.bel.trans o.bel,r.sz⟩
 have F:l8++b0J x.M=shB x:=by
  rw[<-aS.o,<-aV.o,<-aR.o,<-aK.o,<-aU.o,<-aQ.o,<-aN.o];unfold shB a9O;rw[HB.o,aM.o,ar.o,ay.o]
  simp
 have f:(l8++b0J x.M).length<=1000000:=by
  rw[Qa]
  have:=ak.o
  have Z:=(p.o V9 E.bel).1
  have:=b5r Z.ma.bd Z.ma.mp.ok m.lM
  omega
 rw[F]at E f;have j:=a4A g g v9 (shB x) aL.o V9 E.pen ρo;have ai:=(p.o V9 E.bel).2;have af:=η1 ai;clear ai o f F E;go_wp2_with fail;refine μ1 j ?_;rintro aY aX ⟨aO,rfl,ho,hB⟩;clear j;have⟨HO,aT⟩:=η2 ho hB;clear ho hB;go_wp2;go_ret;exact⟨aO,rfl,HO.base af.size,af.trans (aT.mono af.size)⟩
end
section
def GoQ(seed:LI)(x:ShD)(cmd:LI)(q:Except Int (ShD×RpD)):Prop:=
 (∃k,q=.error k)\/∃(y:ShD) (e:a1P),(y.me=x.me/\y.n=x.n/\y.ep=x.ep/\y.ser=x.ser/\y.iss=x.iss/\y.h=x.h/\y.M=x.M)/\q=b9r seed y cmd e
theorem a1e.newCL{d:WD}{v:Nat}{b:ShB}{x:ShD}(f:a1e a v b N seed x)(o:Below a a w){C:List (Pt×a1q)}{L:List (Pt×a1J)}{sl:Int}(E:a.heap.size<=g)(m:Fr (λk=>k=b.cb\/k=b.lb\/k=b.lm) w d)(y:a0i d b.cb g C s)(z:0<=s/\s<=18446744073709551615)(B:C.length<=256)(D:a0j d b.lb b.lm L sl)(p:0<=sl/\sl<=18446744073709551615)(r:L.length<=64):a1e d v {b with cm:=g} (g::N) seed {x with C:=C,sC:=s,L:=L,sL:=sl}:=by
 have h:=f.below o;have F:=h.inN;have I:g ∉ N:=λe=>by have:=f.lt g e;omega
 have H:∀j,j<a.heap.size->j∈g::N->j∈N:=λj G K=>by
  rcases Qo.1 K with e | e
  ·omega
  exact e
 have J:∀k,(k=b.cb\/k=b.lb\/k=b.lm)->k∈g::N:=λk e=>by
  rcases e with e | e | e<;>rw[e]
  ·exact Qj _ F.2.1
  ·exact Qj _ F.2.2.2.1
  exact Qj _ F.2.2.2.2.1
 refine⟨h.st.fr m (λe=>?_),y,D,((f.ma.far_ H).below o).fr m (λe=>?_) (λe=>?_) J,((f.rg.far_ H).below o).fr m J,?_,?_,{h.ok with sC:=z,lC:=B,sL:=p,lL:=r},?_⟩
 ·rcases e with e | e | e
  ·exact h.sb_cb e
  ·exact h.sb_lb e
  exact h.sb_lm e.symm
 ·rcases e with e | e | e
  ·exact h.cb_kb e.symm
  ·exact h.lb_kb e.symm
  exact h.lm_kb e.symm
 ·rcases e with e | e | e
  ·exact h.km_cb e
  ·exact h.km_lb e
  exact h.ap.2.2 e.symm
 ·intro j G
  simp only[ShB.own,Qo,Qt,or_false]at G
  rcases G with e | e | e | e | e | e | e
  ·rw[e];exact Qj _ F.1
  ·rw[e];exact Qj _ F.2.1
  ·rw[e];exact Qr
  ·rw[e];exact Qj _ F.2.2.2.1
  ·rw[e];exact Qj _ F.2.2.2.2.1
  ·rw[e];exact Qj _ F.2.2.2.2.2.1
  rw[e];exact Qj _ F.2.2.2.2.2.2
 ·intro j G
  rcases Qo.1 G with e | e
  ·rw[e];exact y.mp.lt
  exact Qh (h.lt j e) m.size
 exact⟨λe=>I (by show g∈N;rw[show g=b.lm from e];exact F.2.2.2.2.1),λe=>I (by show g∈N;rw[show g=b.km from e];exact F.2.2.2.2.2.2),h.ap.2.2⟩
attribute [local go_sem ↓] a2q a1G a1M a7d a3j a1F
theorem c3g(B d:Nat)(b:ShB)(N:List Nat)(seed:LI)(x:ShD)(A:OA)(n c:Nat)(a:LI)(E:n=a.length)(y:A=none->c=0)(z:a.length<=100000000)(m:OA)(f:Nat)(o:OA)(p:Nat)(t:TxD)(D:OA)(F:Nat)(cl:List a0y)(w:WD)
  (h:a1e w d b N seed x) (hB:∀j∈d::b.own,B<=j) (hby:b9j B w A a) (hgl:a8S B w) (ht:TxS B w m o t) (hl1:t.ins.length<=1000000) (hl2:t.outs.length<=1000000) (hcs:∀w',Below B w w'->a4g w' D cl) (hcpl:∀c∈cl,c.path.length<=1000000) (hcll:cl.length<=1000000):
  Calls prog 90 #[.pointer d,.slice A n c,.agg (txV m f o p t),.slice D cl.length F] w λe w'=>∃q,GoQ seed x a q/\a6x B d N seed q e w'/\b1q B d seed w w':=by
 have⟨g,hg⟩:=ηs w;have b8:=ht.at_.bd;have bX:(txV m f o p t)[1]? =some (.slice o t.outs.length p):=rfl;have bB:(txV m f o p t)[0]? =some (.slice m t.ins.length f):=rfl;have bw:(txV m f o p t)[2]? =some (.int .u64 t.fee):=rfl;have bC:(txV m f o p t)[3]? =some (.int .i64 t.exp):=rfl;have bW:(txV m f o p t).toList.length=4:=rfl
 generalize cy:txV m f o p t=tv at bB bX bw bC bW⊢
 have b0:=Qd w 53 (tv);have B0:=ρb w (.cells (tv) 53)
 generalize hW:w.alloc (.cells (tv) 53)=W at b0 B0
 rw[hg]at b0;have bQ:W.heap.size=g+1:=by rw[<-hW,Qi,hg]
 have bj:=a5k W;have⟨zs,bA⟩:=η0 ((a0O 0 false a0r none 0).toArray);have bs:zs.size=139:=by rw[<-bA,Qc];exact a0A a0B _ _ _ _
 rw[bA,bQ]at bj;have bD:=b0.alloc (.cells zs 41);have bz:=Qd W 41 zs;have B1:Below w w (W.alloc (.cells zs 41)):=B0.alloc B0.size _
 generalize hV:W.alloc (.cells zs 41)=V at bD bz B1 bj
 rw[bQ]at bz;have cp:(ALs 41).run prog (w.alloc (.cells tv 53))=.ok (.pointer (g+1:Nat)) V:=by rw[hW];exact bj
 have hX:=a4m.begin h hB B1 (r:=g+1) ⟨by omega,bz.lt⟩ (K:=[(g,53,tv),(g+1,41,zs)]) (λq hq=>by
  simp only[Qo,Qt,or_false]at hq
  rcases hq with rfl | rfl
  ·exact⟨by simp only;omega,bD⟩
  exact⟨by simp only;omega,bz⟩)
 have bt:∀X y' b' N',a4m B (g+1) w d b' N' seed y' [(g,53,tv),(g+1,41,zs)] X->(LDs 53 (.pointer g)).run prog X=.ok (.agg tv) X:=λX y' b' N' hx=>by
  have:=P4 uTx iTx (w:=X) tv.toList (by simpa using(hx.kp _ Qr).1) bW
  simpa using this
 have bp:∀X y' b' N',a4m B (g+1) w d b' N' seed y' [(g,53,tv),(g+1,41,zs)] X->X.cell? ⟨g,0,none⟩=some (.slice m t.ins.length f)/\X.cell? ⟨g,1,none⟩=some (.slice o t.outs.length p)/\X.cell? ⟨g,2,none⟩=some (.int .u64 t.fee)/\X.cell? ⟨g,3,none⟩=some (.int .i64 t.exp):=λX y' b' N' hx=>
  have hk:=(hx.kp _ Qr).1
  ⟨(hk.cell 0).trans bB,(hk.cell 1).trans bX,(hk.cell 2).trans bw,(hk.cell 3).trans bC⟩
 obtain⟨ZR,br,bo,cP⟩:=P8 (t:=41) a4h b4t;have cj:-9223372036854775808<=x.n/\x.n<=9223372036854775807:=by have:=h.ok.n;have:=h.ok.me;omega
 have ci:Dig (idP t):=⟨a3b t,a5f t⟩;have⟨aW,ca,b6,ak,au,cu,ck,cC⟩:=η8 hX bs hby hgl ht E y z;have⟨HG,T,bu,cY,c2,cQ,b9,aX⟩:=η8 hg bt bp br bo cj b8 ci;have⟨aV,cZ⟩:=η2 cy h;clear hX bs hby hgl ht E y z hg bt bp br bo cj b8 ci cy h bA b0 B0 bD bz B1 bQ bj bB bX bw bC bW hB hW hV cP;go_enter func90,ntmps90;have cN:=η1 hcs;clear hcs;have cD:=T.o _ _ _ _ aW;have bS:=b6Z d b ((g+1)::N) seed x m f o p t V aW.sh (ak.go aW.fr).at_ (au.go aW.fr).at_ hl1 hl2;rw[aV.o]at bS;go_upto_region 1 with fail
 rw[HG.o];go_wp2_with fail;refine μ1 bS ?_;rintro e1 w1 ⟨ag,bx⟩;clear cp cD
 rcases ag with⟨rfl,b5⟩ | ⟨k,hk,rfl⟩
 rotate_left
 ·exact⟨rfl,.error k,.inl ⟨k,rfl⟩,(aW.below bx).ref hk⟩
 have cf:=aW.below bx;have⟨cL,cM⟩:=η2 cf b5;clear cf b5 bx bS;have⟨U1,bH⟩:=η0 w1.drew;have aT:=cL.drew;rw[bH]at aT;have cA:U1.cell? ⟨d,2,none⟩=some (.pointer b.rp)/\(LDs 53 (.pointer g)).run prog U1=.ok (.agg tv) U1/\U1.cell? ⟨d,1,none⟩=some (.int .i64 x.n):=⟨aT.sh.c.2.2.1,T.o _ _ _ _ aT,aT.sh.c.2.1⟩;have⟨ax,b7,cG⟩:=η3 aT bH cA;clear aT bH cA;go_upto_region 2 with fail
 refine a3Y [(0,3),(1,3),(2,3),(5,3),(6,3),(7,3),(9,3),(3,0),(4,0),(8,0),(10,2),(11,2)] (λY=>Y.cell? ⟨d,2,none⟩=some (.pointer b.rp)/\(LDs 53 (.pointer g)).run prog Y=.ok (.agg tv) Y/\Y.cell? ⟨d,1,none⟩=some (.int .i64 x.n)) ρk ρk ρk ρk (ρy b7.o cG.o) ?_;rw[b7.o];have bv:((x.n.toNat:Nat):Int)=x.n:=by have:=ax.sh.ok.me;omega
 have bl:=b1W b.rp x.n.toNat seed m f o p t D F cl U1 ax.sh.rg.at_ (ρh ax.o.sh.ok.me) (ρh ax.o.sh.ok.n) (au.go ax.fr).at_ (ak.go ax.fr).at_ hl1 hl2 (cN.o _ ax.fr) hcpl hcll;rw[bv,aV.o]at bl;have⟨ac,cw⟩:=η0 (b6j seed t x.n cl);rw[cw]at bl;clear cw bv;refine ε7 ?_
 iterate 3 refine θ3 (λ_ h=>h) ?_
 refine τ ?_;intro K hK;refine μi bl ?_;intro bU bq;with_reducible refine hK _ _ ?_;clear hK K;clear bl
 have cB:=ax.below bq;have a0:=η1 cB;clear cB bq
 by_cases a6:ac=0
 rotate_left
 ·have hm:=a1m ac a6 bU
  refine τ ?_;intro K hK;refine μf hm ?_;exact λa' cW=>⟨cW,.error ac,.inl ⟨ac,rfl⟩,a0.ref a6⟩
 subst a6;have hm:=a1o bU;refine τ ?_;intro K hK;refine μf hm ?_;with_reducible refine hK _ _ ?_;clear hK K
 with_reducible refine a1N ?_
 rw[a0V];clear hm;have aS:=(au.go a0.fr).at_
 have aR:0<t.ins.length:=by
  rcases Zq t.ins.length with h0 | h0
  ·exfalso
   apply cM.o
   have h2:=b0q t x.n
   apply ZG
   have h3:=a1V (a2P t x.n) x.me;omega
  exact h0
 obtain⟨g2,o2,B2,d2,bO,cT,cV⟩:=aS.ins 0 aR;have bn:=aS.bd.ins _ (Qu aR);have bk:=bn.ptY
 have bc:=λX (hX:Below B w X)=>(show(LDs 189 (.pointer (some ⟨g2,o2,none⟩))).run prog X=.ok (.agg (ptL (ptI t.ins[0]).1 (ptI t.ins[0]).2).toArray) X from by
  obtain⟨g3,o3,B3,d3,bP,-,cr⟩:=(au.o X hX).ins 0 aR;rw[bO]at bP;simp only[Option.some.injEq,Addr.mk.injEq,and_true]at bP;obtain⟨rfl,rfl⟩:=bP
  have:=Pf a3a a1H X g2 (o2+0*35) (ptL (ptI t.ins[0]).1 (ptI t.ins[0]).2) bk.vlen (λk v hv=>cr.cell k v (b5E hv))
  simpa using this)
 have⟨pi,bN⟩:=η0 (ptI t.ins[0]);rw[bN]at bk;simp only[bN]at bc;have⟨ni,ct⟩:=η0 t.ins.length;have c3:(0:Int)<(ni:Int):=ρo;have c1:0<ni:=ρo;have⟨cH,cx,cU,bK,cX⟩:=η5 bO bc ct bk aS;clear bO bc ct bk aS cV bn cT aR bN;have⟨U2,bR⟩:=η0 bU.drew;have aU:=a0.drew;rw[bR]at aU;have cq:U2.cell? ⟨g,0,none⟩=some (.slice (some ⟨g2,o2,none⟩) ni f)/\(LDs 189 (.pointer (some ⟨g2,o2,none⟩))).run prog U2=.ok (.agg (ptL pi.1 pi.2).toArray) U2/\U2.cell? ⟨d,1,none⟩=some (.int .i64 x.n):=⟨by have y:=(bu.o _ _ _ _ aU).1;rw[cH.o,cU.o]at y;exact y,cx.o _ aU.fr,aU.sh.c.2.1⟩;have⟨cz,cg,cJ⟩:=η3 aU bR cq;clear aU bR cq;go_upto_region 3 with fail
 refine a0s [(0,3),(5,3),(6,3),(7,3),(1,0),(2,3),(3,3),(4,0),(8,0),(9,2),(10,3),(11,3),(12,3),(13,3),(14,3)] (λY=>Y.cell? ⟨g,0,none⟩=some (.slice (some ⟨g2,o2,none⟩) ni f)/\(LDs 189 (.pointer (some ⟨g2,o2,none⟩))).run prog Y=.ok (.agg (ptL pi.1 pi.2).toArray) Y/\Y.cell? ⟨d,1,none⟩=some (.int .i64 x.n)) ρk ρk ρk ρk (ρy cg.o cJ.o) ?_;rw[cg.o];have bT:=b2T pi.1 bK.len bK.tx pi.2 x.n bK.ix cQ U2 (ak.go cz.fr).at_;have⟨ow,cd⟩:=η0 (ofO pi.1 pi.2 x.n);have⟨ob,ce⟩:=η0 (okO pi.2 x.n);rw[cd,ce]at bT;clear cd ce;refine ε4 ?_
 iterate 1 refine θ3 (λ_ h=>h) ?_
 refine ε2 ?_
 iterate 2 refine θ3 (λ_ h=>h) ?_
 refine τ ?_;intro K hK;refine μi bT ?_;intro w9 cE;with_reducible refine hK _ _ ?_;clear hK K
 refine ε5 ?_;clear bT;refine ν ?_;have ch:=cz.below cE;have aG:=η1 ch;clear ch cE;have c0:=aG.sh.c.1
 by_cases bi:ow=x.me
 ·have hb:(ow == x.me)=true:=ρw bi
  have cO:=(bu.o _ _ _ _ aG).2.2.1
  by_cases bf:(a5b x.fees t.fee).2=0
  rotate_left
  ·have bm:=c6u d b ((g+1)::N) seed x t.fee b9.fee w9 aG.sh bf
   have cK:=η1 bf;clear bf;go_wp2_with fail;refine μi bm ?_;intro w8 cR;exact⟨rfl,.error _,.inl ⟨_,rfl⟩,(aG.below cR).ref cK⟩
  have bm:=c6J d b ((g+1)::N) seed x t.fee b9.fee w9 aG.sh bf;clear bf;go_wp2_with fail;refine μ1 bm ?_;rintro e8 w8 ⟨rfl,cn,cc⟩;clear bm;have bY:=aG.step' cn (cc.mono (λk _ e=>a8B d b k e));have⟨yf,bV⟩:=η0 ({x with fees:=x.fees+t.fee});rw[bV]at bY;have a7:yf.me=x.me/\yf.n=x.n/\yf.ep=x.ep/\yf.ser=x.ser/\yf.iss=x.iss/\yf.h=x.h/\yf.M=x.M:=by rw[<-bV];exact⟨rfl,rfl,rfl,rfl,rfl,rfl,rfl⟩
  have⟨cF,ai⟩:=η2 bY a7;clear bY a7 cn cc bV cO hb c0 bi;have⟨U3,aA⟩:=η0 w8.drew;have ah:=cF.drew;rw[aA]at ah;have a3:(LDs 53 (.pointer g)).run prog U3=.ok (.agg tv) U3/\U3.cell? ⟨d,8,none⟩=some (.pointer b.lb):=⟨T.o _ _ _ _ ah,ah.sh.c.2.2.2.2.2.2.2.2.1⟩;have⟨aE,ba,bI⟩:=η3 ah aA a3;clear ah aA a3;go_upto_region 6 with fail
  refine a0s [(2,3),(3,3),(4,3),(0,0),(5,0),(1,1),(6,2),(7,3)] (λY=>(LDs 53 (.pointer g)).run prog Y=.ok (.agg tv) Y/\Y.cell? ⟨d,8,none⟩=some (.pointer b.lb)) ρk ρk ρk ρk (ρy ba.o bI.o) ?_;rw[ba.o];have hid:=a2v m f o p t U3 (au.go aE.fr).at_ (ak.go aE.fr).at_ hl1 hl2;rw[aV.o]at hid;have⟨cS,U⟩:=η0 ((bys (idP t)).toArray);rw[U]at hid;have b3:=η1 U;clear U;refine ε3 ?_
  iterate 2 refine θ2 (λ_ h=>h) ?_
  refine κ ?_;intro K hK;refine μi hid ?_;intro w6 S;have a2:=aE.below S;have J:=η1 a2;clear a2 S hid;with_reducible refine hK _ _ (⟨T.o _ _ _ _ J.o,J.o.sh.c.2.2.2.2.2.2.2.2.1⟩) ?_;clear hK K
  have aK:=b2H b.lb b.lm yf.L yf.sL (idP t) aX.o (ρh J.o.sh.ok.lL) w6 J.sh.lo;rw[b3.o]at aK;refine τ ?_;intro K hK;refine μ1 aK ?_;rintro e7 w7 ⟨qs,a9,rfl,aF,az⟩;with_reducible refine hK _ _ ?_;clear hK K;clear aK
  have af:=b3w qs (yf.L,yf.sL,0) J.sh.ok.sL ρp
  generalize bM:a4j qs (yf.L,yf.sL,0)=fz at aF af⊢
  have aB:=J.step' (J.sh.setL az aF af.1 (Qk af.2.2 J.sh.ok.lL)) (az.mono (λk _ e=>c8Z d b k e));have⟨vf,a1⟩:=η0 fz.2.2;have aL:=af.2.1;rw[a1]at aL⊢;have⟨R,aP⟩:=η0 ({yf with L:=fz.1,sL:=fz.2.1});rw[aP]at aB;have ab:R.me=x.me/\R.n=x.n/\R.ep=x.ep/\R.ser=x.ser/\R.iss=x.iss/\R.h=x.h/\R.M=x.M:=by rw[<-aP];exact ai.o
  have⟨ao,b2,aJ⟩:=η3 aB aL ab;clear aB aL ab aF az a9 bM af a1 aP;refine ε1 ?_;refine ν ?_;go_upto_region 7 with fail
  have aO:=T.o _ _ _ _ ao;have I:=a2v m f o p t w7 (au.go ao.fr).at_ (ak.go ao.fr).at_ hl1 hl2;rw[aV.o]at I;have ar:=λ(X:WD)=>a7g 3 aX.1 vf 5 X
  have aC:(⟨3,0,idP t,vf,5,0⟩:a1P).Bd:=b1v ρo aX.o b2.o ρo;have⟨e0,ay⟩:=η0 ((⟨3,0,idP t,vf,5,0⟩:a1P):a1P);rw[ay]at aC;simp only[ay]at ar;have⟨ev,aN⟩:=η0 ((a0x e0).toArray);simp only[aN]at ar;have⟨dv,aH⟩:=η0 ((bys (idP t)).toArray);rw[aH]at I;simp only[aH]at ar;have⟨bZ,bJ⟩:=η2 aN aC;clear aN aC ay aH;go_wp2_with fail;refine μi I ?_;intro w4 a8;have bb:=ao.below a8;have Q:=η1 bb;clear bb a8 I aO;have ae:=a5C d b ((g+1)::N) seed R A n c a cu ck cC e0 bJ w4 Q.sh (b6.go Q.fr).at_ (ak.go Q.fr).at_;rw[bZ.o]at ae;go_wp2_with fail;refine μ1 ae ?_;rintro e5 w5 ⟨ag,aY⟩;clear ae ar;have ad:=aY.mono (λk _ e=>a8B d b k e)
  rcases ag with⟨a4,A5,O,rfl,Z,aM⟩ | ⟨cI,hk,rfl⟩
  rotate_left
  ·exact⟨rfl,.error 17,.inl ⟨17,rfl⟩,Q.refF ad hk⟩
  have aq:GoQ seed x a (.ok ({R with h:=a4T R a e0},a2O (a9F seed R a e0))):=.inr ⟨R,e0,aJ.o,by unfold b9r;rw[if_pos a4]⟩;have⟨yh,a5⟩:=η0 ({R with h:=a4T R a e0});have⟨aa,av⟩:=η0 (a9F seed R a e0);rw[a5]at aq aM;rw[av]at Z aq⊢;have aD:=Q.step' aM ad;have H:=a5d aa Z.1 A5 O w5;have aj:(g+1,41,zs)∈[(g,53,tv),(g+1,41,zs)]:=by simp
  have aZ:g+1<w4.heap.size:=(Q.kp _ aj).1.lt;have bh:=Q.sz;have an:=a0A Z.1 0 true A5 O;have al:=λX hX=>(aD.below (X':=X) hX).sto aj ca.o (a0O 0 true aa A5 O) an (a0W _ _ _ _ _)
  have G:=λX hX=>(aD.below (X':=X) hX).fin aj (N0:=N) (λj hj=>Qj _ hj) (y0:=yh) rfl (rp:=a2O aa) bh aZ (Z.below hX) rfl
  have⟨rs,aQ⟩:=η0 (a0O 0 true aa A5 O);simp only[a2O,aQ]at al G H;rw[aQ]at an
  generalize bL:a0d aa A5 O=cv at H⊢
  have⟨b4,be,bG,bF⟩:=η4 al G an aq;clear al G an aq aD Z aM aY ad a4 aZ bh aQ bL aj a5 av;go_wp2_with fail;refine μi H ?_;intro w6 S;have al:=b4.o w6 S;have G:=be.o w6 S;have aI:=η1 G;clear G S;clear H;go_wp2_with fail;obtain⟨dR,bE,bg⟩:=Q8.1 a7w;refine bodyPost_ret (v:=.agg rs.toArray) (a0c rfl _ _ (g+1) _ rs dR rfl aI.2.2 bE bg (ρy bG.o a4h)) rfl ?_;exact⟨_,bF.o,aI.1,aI.2.1⟩
 have hb:(ow == x.me)=false:=ρw bi;have c4:decide (ow=x.me)=false:=ρw bi;have a7:x.me=x.me/\x.n=x.n/\x.ep=x.ep/\x.ser=x.ser/\x.iss=x.iss/\x.h=x.h/\x.M=x.M:=⟨rfl,rfl,rfl,rfl,rfl,rfl,rfl⟩;have ai:=η1 a7;clear a7;have⟨U3,aA⟩:=η0 w9.drew;have ah:=aG.drew;rw[aA]at ah;have a3:(LDs 53 (.pointer g)).run prog U3=.ok (.agg tv) U3/\U3.cell? ⟨d,8,none⟩=some (.pointer b.lb):=⟨T.o _ _ _ _ ah,ah.sh.c.2.2.2.2.2.2.2.2.1⟩;have⟨aE,ba,bI⟩:=η3 ah aA a3;clear ah aA a3;go_upto_region 6 with fail
 refine a0s [(2,3),(3,3),(4,3),(0,0),(5,0),(1,1),(6,2),(7,3)] (λY=>(LDs 53 (.pointer g)).run prog Y=.ok (.agg tv) Y/\Y.cell? ⟨d,8,none⟩=some (.pointer b.lb)) ρk ρk ρk ρk (ρy ba.o bI.o) ?_;rw[ba.o];have hid:=a2v m f o p t U3 (au.go aE.fr).at_ (ak.go aE.fr).at_ hl1 hl2;rw[aV.o]at hid;have⟨cS,U⟩:=η0 ((bys (idP t)).toArray);rw[U]at hid;have b3:=η1 U;clear U;refine ε3 ?_
 iterate 2 refine θ2 (λ_ h=>h) ?_
 refine κ ?_;intro K hK;refine μi hid ?_;intro w6 S;have a2:=aE.below S;have J:=η1 a2;clear a2 S hid;with_reducible refine hK _ _ (⟨T.o _ _ _ _ J.o,J.o.sh.c.2.2.2.2.2.2.2.2.1⟩) ?_;clear hK K
 have aK:=b2H b.lb b.lm x.L x.sL (idP t) aX.o (ρh J.o.sh.ok.lL) w6 J.sh.lo;rw[b3.o]at aK;refine τ ?_;intro K hK;refine μ1 aK ?_;rintro e7 w7 ⟨qs,a9,rfl,aF,az⟩;with_reducible refine hK _ _ ?_;clear hK K;clear aK
 have af:=b3w qs (x.L,x.sL,0) J.sh.ok.sL ρp
 generalize bM:a4j qs (x.L,x.sL,0)=fz at aF af⊢
 have aB:=J.step' (J.sh.setL az aF af.1 (Qk af.2.2 J.sh.ok.lL)) (az.mono (λk _ e=>c8Z d b k e));have⟨vf,a1⟩:=η0 fz.2.2;have aL:=af.2.1;rw[a1]at aL⊢;have⟨R,aP⟩:=η0 ({x with L:=fz.1,sL:=fz.2.1});rw[aP]at aB;have ab:R.me=x.me/\R.n=x.n/\R.ep=x.ep/\R.ser=x.ser/\R.iss=x.iss/\R.h=x.h/\R.M=x.M:=by rw[<-aP];exact ai.o
 have⟨ao,b2,aJ⟩:=η3 aB aL ab;clear aB aL ab aF az a9 bM af a1 aP;refine ε1 ?_;refine ν ?_;go_upto_region 7 with fail
 have aO:=T.o _ _ _ _ ao;have I:=a2v m f o p t w7 (au.go ao.fr).at_ (ak.go ao.fr).at_ hl1 hl2;rw[aV.o]at I;have ar:=λ(X:WD)=>a7g 3 aX.1 vf 5 X
 have aC:(⟨3,0,idP t,vf,5,0⟩:a1P).Bd:=b1v ρo aX.o b2.o ρo;have⟨e0,ay⟩:=η0 ((⟨3,0,idP t,vf,5,0⟩:a1P):a1P);rw[ay]at aC;simp only[ay]at ar;have⟨ev,aN⟩:=η0 ((a0x e0).toArray);simp only[aN]at ar;have⟨dv,aH⟩:=η0 ((bys (idP t)).toArray);rw[aH]at I;simp only[aH]at ar;have⟨bZ,bJ⟩:=η2 aN aC;clear aN aC ay aH;go_wp2_with fail;refine μi I ?_;intro w4 a8;have bb:=ao.below a8;have Q:=η1 bb;clear bb a8 I aO;have ae:=a5C d b ((g+1)::N) seed R A n c a cu ck cC e0 bJ w4 Q.sh (b6.go Q.fr).at_ (ak.go Q.fr).at_;rw[bZ.o]at ae;go_wp2_with fail;refine μ1 ae ?_;rintro e5 w5 ⟨ag,aY⟩;clear ae ar;have ad:=aY.mono (λk _ e=>a8B d b k e)
 rcases ag with⟨a4,A5,O,rfl,Z,aM⟩ | ⟨cI,hk,rfl⟩
 rotate_left
 ·exact⟨rfl,.error 17,.inl ⟨17,rfl⟩,Q.refF ad hk⟩
 have aq:GoQ seed x a (.ok ({R with h:=a4T R a e0},a2O (a9F seed R a e0))):=.inr ⟨R,e0,aJ.o,by unfold b9r;rw[if_pos a4]⟩;have⟨yh,a5⟩:=η0 ({R with h:=a4T R a e0});have⟨aa,av⟩:=η0 (a9F seed R a e0);rw[a5]at aq aM;rw[av]at Z aq⊢;have aD:=Q.step' aM ad;have H:=a5d aa Z.1 A5 O w5;have aj:(g+1,41,zs)∈[(g,53,tv),(g+1,41,zs)]:=by simp
 have aZ:g+1<w4.heap.size:=(Q.kp _ aj).1.lt;have bh:=Q.sz;have an:=a0A Z.1 0 true A5 O;have al:=λX hX=>(aD.below (X':=X) hX).sto aj ca.o (a0O 0 true aa A5 O) an (a0W _ _ _ _ _)
 have G:=λX hX=>(aD.below (X':=X) hX).fin aj (N0:=N) (λj hj=>Qj _ hj) (y0:=yh) rfl (rp:=a2O aa) bh aZ (Z.below hX) rfl
 have⟨rs,aQ⟩:=η0 (a0O 0 true aa A5 O);simp only[a2O,aQ]at al G H;rw[aQ]at an
 generalize bL:a0d aa A5 O=cv at H⊢
 have⟨b4,be,bG,bF⟩:=η4 al G an aq;clear al G an aq aD Z aM aY ad a4 aZ bh aQ bL aj a5 av;go_wp2_with fail;refine μi H ?_;intro w6 S;have al:=b4.o w6 S;have G:=be.o w6 S;have aI:=η1 G;clear G S;clear H;go_wp2_with fail;obtain⟨dR,bE,bg⟩:=Q8.1 a7w;refine bodyPost_ret (v:=.agg rs.toArray) (a0c rfl _ _ (g+1) _ rs dR rfl aI.2.2 bE bg (ρy bG.o a4h)) rfl ?_;exact⟨_,bF.o,aI.1,aI.2.1⟩
end
section
attribute [local go_sem ↓] a2q a1G a1M a7d a3j a1F
theorem b9L(B d:Nat)(b:ShB)(N:List Nat)(seed:LI)(x:ShD)(A:OA)(n c:Nat)(a:LI)(E:n=a.length)(F:A=none->c=0)(z:a.length<=100000000)(f:OA)(p:Nat)(o:OA)(y:Nat)(t:TxD)(D:OA)(H:Nat)(cl:List a0y)(w:WD)
  (h:a1e w d b N seed x) (hB:∀j∈d::b.own,B<=j) (hby:b9j B w A a) (hgl:a8S B w) (ht:TxS B w f o t) (hl1:t.ins.length<=1000000) (hl2:t.outs.length<=1000000) (hcs:∀w',Below B w w'->a4g w' D cl) (hcpl:∀c∈cl,c.path.length<=1000000):
  Calls prog 91 #[.pointer d,.slice A n c,.agg (txV f p o y t),.slice D cl.length H] w λe w'=>∃q,GoQ seed x a q/\a6x B d N seed q e w'/\b1q B d seed w w':=by
 have⟨g,hg⟩:=ηs w;have bp:=ht.at_.bd;have be:(txV f p o y t)[1]? =some (.slice o t.outs.length y):=rfl;have aS:(txV f p o y t)[0]? =some (.slice f t.ins.length p):=rfl;have aO:(txV f p o y t)[2]? =some (.int .u64 t.fee):=rfl;have aU:(txV f p o y t)[3]? =some (.int .i64 t.exp):=rfl;have a6:(txV f p o y t).toList.length=4:=rfl
 generalize bF:txV f p o y t=tv at aS be aO aU a6⊢
 have b0:=Qd w 53 (tv);have B0:=ρb w (.cells (tv) 53)
 generalize hW:w.alloc (.cells (tv) 53)=W at b0 B0
 rw[hg]at b0;have aZ:W.heap.size=g+1:=by rw[<-hW,Qi,hg]
 have av:=a5k W;have⟨zs,aR⟩:=η0 ((a0O 0 false a0r none 0).toArray);have aK:zs.size=139:=by rw[<-aR,Qc];exact a0A a0B _ _ _ _
 rw[aR,aZ]at av;have aV:=b0.alloc (.cells zs 41);have bz:=Qd W 41 zs;have B1:Below w w (W.alloc (.cells zs 41)):=B0.alloc B0.size _
 generalize hV:W.alloc (.cells zs 41)=V at aV bz B1 av
 rw[aZ]at bz;have bA:(ALs 41).run prog (w.alloc (.cells tv 53))=.ok (.pointer (g+1:Nat)) V:=by rw[hW];exact av
 have hX:=a4m.begin h hB B1 (r:=g+1) ⟨by omega,bz.lt⟩ (K:=[(g,53,tv),(g+1,41,zs)]) (λq hq=>by
  simp only[Qo,Qt,or_false]at hq
  rcases hq with rfl | rfl
  ·exact⟨by simp only;omega,aV⟩
  exact⟨by simp only;omega,bz⟩)
 have aL:∀X y' b' N',a4m B (g+1) w d b' N' seed y' [(g,53,tv),(g+1,41,zs)] X->(LDs 53 (.pointer g)).run prog X=.ok (.agg tv) X:=λX y' b' N' hx=>by
  have:=P4 uTx iTx (w:=X) tv.toList (by simpa using(hx.kp _ Qr).1) a6
  simpa using this
 have aH:∀X y' b' N',a4m B (g+1) w d b' N' seed y' [(g,53,tv),(g+1,41,zs)] X->X.cell? ⟨g,0,none⟩=some (.slice f t.ins.length p)/\X.cell? ⟨g,1,none⟩=some (.slice o t.outs.length y)/\X.cell? ⟨g,2,none⟩=some (.int .u64 t.fee)/\X.cell? ⟨g,3,none⟩=some (.int .i64 t.exp):=λX y' b' N' hx=>
  have hk:=(hx.kp _ Qr).1
  ⟨(hk.cell 0).trans aS,(hk.cell 1).trans be,(hk.cell 2).trans aO,(hk.cell 3).trans aU⟩
 obtain⟨ZR,aJ,aF,bY⟩:=P8 (t:=41) a4h b4t;have bw:-9223372036854775808<=x.n/\x.n<=9223372036854775807:=by have:=h.ok.n;have:=h.ok.me;omega
 have bu:Dig (idP t):=⟨a3b t,a5f t⟩;have⟨ah,bP,bM,al,ax,bZ,bV,b3⟩:=η8 hX aK hby hgl ht E F z;have⟨HG,Z,b9,ca,cd,ci,ce,bc⟩:=η8 hg aL aH aJ aF bw bp bu;have⟨az,cc⟩:=η2 bF h;clear hX aK hby hgl ht E F z hg aL aH aJ aF bw bp bu bF h aR b0 B0 aV bz B1 aZ av aS be aO aU a6 hB hW hV bY;go_enter func91,ntmps91;have bX:=η1 hcs;clear hcs;have bL:=Z.o _ _ _ _ ah;have a4:=b6Z d b ((g+1)::N) seed x f p o y t V ah.sh (al.go ah.fr).at_ (ax.go ah.fr).at_ hl1 hl2;rw[az.o]at a4;go_upto_region 1 with fail
 rw[HG.o];go_wp2_with fail;refine μ1 a4 ?_;rintro e1 w1 ⟨ab,aP⟩;clear bA bL
 rcases ab with⟨rfl,ad⟩ | ⟨k,hk,rfl⟩
 rotate_left
 ·exact⟨rfl,.error k,.inl ⟨k,rfl⟩,(ah.below aP).ref hk⟩
 have bs:=ah.below aP;have⟨bW,ch⟩:=η2 bs ad;clear bs ad aP a4;have⟨U1,aW⟩:=η0 w1.drew;have ae:=bW.drew;rw[aW]at ae;have bG:U1.cell? ⟨d,2,none⟩=some (.pointer b.rp)/\(LDs 53 (.pointer g)).run prog U1=.ok (.agg tv) U1/\U1.cell? ⟨d,1,none⟩=some (.int .i64 x.n):=⟨ae.sh.c.2.2.1,Z.o _ _ _ _ ae,ae.sh.c.2.1⟩;have⟨T,bk,bN⟩:=η3 ae aW bG;clear ae aW bG;go_upto_region 2 with fail
 refine a3Y [(0,3),(1,3),(2,3),(5,3),(6,3),(7,3),(9,3),(3,0),(4,0),(8,0),(10,2),(11,2)] (λY=>Y.cell? ⟨d,2,none⟩=some (.pointer b.rp)/\(LDs 53 (.pointer g)).run prog Y=.ok (.agg tv) Y/\Y.cell? ⟨d,1,none⟩=some (.int .i64 x.n)) ρk ρk ρk ρk (ρy bk.o bN.o) ?_;rw[bk.o];have aN:((x.n.toNat:Nat):Int)=x.n:=by have:=T.sh.ok.me;omega
 have aB:=b8u b.rp x.n.toNat seed f p o y t D H cl U1 T.sh.rg.at_ (ρh T.o.sh.ok.me) (ρh T.o.sh.ok.n) (ax.go T.fr).at_ (al.go T.fr).at_ hl1 hl2 (bX.o _ T.fr) hcpl;rw[aN,az.o]at aB;have⟨ac,bD⟩:=η0 (d1D seed t x.n cl);rw[bD]at aB;clear bD aN;refine ε7 ?_
 iterate 3 refine θ3 (λ_ h=>h) ?_
 refine τ ?_;intro K hK;refine μi aB ?_;intro a5 aI;with_reducible refine hK _ _ ?_;clear hK K;clear aB
 have bH:=T.below aI;have aG:=η1 bH;clear bH aI
 by_cases ao:ac=0
 rotate_left
 ·have hm:=a1m ac ao a5
  refine τ ?_;intro K hK;refine μf hm ?_;exact λa' b7=>⟨b7,.error ac,.inl ⟨ac,rfl⟩,aG.ref ao⟩
 subst ao;have hm:=a1o a5;refine τ ?_;intro K hK;refine μf hm ?_;with_reducible refine hK _ _ ?_;clear hK K
 with_reducible refine a1N ?_
 rw[a0V];clear hm;have⟨U2,a0⟩:=η0 a5.drew;have af:=aG.drew;rw[a0]at af;have bB:(LDs 53 (.pointer g)).run prog U2=.ok (.agg tv) U2/\U2.cell? ⟨d,7,none⟩=some (.pointer b.cb)/\U2.cell? ⟨d,8,none⟩=some (.pointer b.lb):=⟨Z.o _ _ _ _ af,af.sh.c.2.2.2.2.2.2.2.1,af.sh.c.2.2.2.2.2.2.2.2.1⟩;have⟨ba,bt,bS⟩:=η3 af a0 bB;clear af a0 bB;go_upto_region 3 with fail
 refine a0s [(2,3),(3,3),(4,3),(6,3),(7,3),(8,3),(0,0),(5,0),(9,0),(1,1),(10,2),(11,3),(12,3),(13,3),(14,3),(15,3)] (λY=>(LDs 53 (.pointer g)).run prog Y=.ok (.agg tv) Y/\Y.cell? ⟨d,7,none⟩=some (.pointer b.cb)/\Y.cell? ⟨d,8,none⟩=some (.pointer b.lb)) ρk ρk ρk ρk (ρy bt.o bS.o) ?_;rw[bt.o];have hid:=a2v f p o y t U2 (ax.go ba.fr).at_ (al.go ba.fr).at_ hl1 hl2;rw[az.o]at hid;have⟨cg,ai⟩:=η0 ((bys (idP t)).toArray);rw[ai]at hid;have b6:=η1 ai;clear ai;refine ε6 ?_
 iterate 3 refine θ3 (λ_ h=>h) ?_
 refine κ ?_;intro K hK;refine μi hid ?_;intro w6 ag;have bj:=ba.below ag;have S:=η1 bj;clear bj ag hid;with_reducible refine hK _ _ (⟨Z.o _ _ _ _ S.o,S.o.sh.c.2.2.2.2.2.2.2.1,S.o.sh.c.2.2.2.2.2.2.2.2.1⟩) ?_;clear hK K
 have O:=S.sh;have bg:=c4h b.cb b.cm x.C x.sC b.lb b.lm x.L x.sL (idP t) bc.o O.ok.lC (ρh O.ok.lL) O.ok.sC O.ok.sL w6 O.co O.lo ⟨O.cb_lb,λe=>O.lm_cb e.symm⟩;rw[b6.o]at bg;clear O;refine τ ?_;intro K hK;refine μ1 bg ?_;rintro e7 w7 ⟨vf,er,rfl,bE,I⟩;with_reducible refine hK _ _ ?_;clear hK K
 refine ε5 ?_;clear bg;refine ν ?_
 rcases I with⟨ad,bm⟩ | ⟨rfl,c0,m,sm,L',s',wz,I⟩
 ·have hm:=a1m er ad w7
  have bn:=S.below bm;have⟨b5,bI⟩:=η2 bn ad;clear bn ad bm;go_wp2_with fail;refine μf hm ?_;exact⟨rfl,.error er,.inl ⟨er,rfl⟩,b5.ref bI⟩
 have bq:Fr (λk=>k∈d::b.own) w6 w7:=((Q9 I.bel).mono (G:=λk=>k∈d::b.own) (λk hk e=>ρo)).trans I.fr (λk _ e=>by rcases e with e | e | e<;>(rw[e];simp[ShB.own]))
 have aT:=S.step (S.sh.newCL I.bel I.new I.fr I.co I.cs I.cl I.lo I.ls (Qk I.ll S.sh.ok.lL)) bq (λj hj=>Qj _ hj) (λj hj=>by
  simp only[ShB.own,Qo,Qt,or_false]at hj⊢
  rcases hj with e | e | e | e | e | e
  ·exact .inl (.inl e)
  ·exact .inr (ρy e I.new)
  ·exact .inl (.inr (.inr (.inl e)))
  ·exact .inl (.inr (.inr (.inr (.inl e))))
  ·exact .inl (.inr (.inr (.inr (.inr (.inl e)))))
  exact .inl (.inr (.inr (.inr (.inr (.inr e))))))
 have⟨b',bv⟩:=η0 ({b with cm:=c0});have⟨yl,a9⟩:=η0 ({x with C:=m,sC:=sm,L:=L',sL:=s'});rw[bv,a9]at aT;have an:yl.me=x.me/\yl.n=x.n/\yl.ep=x.ep/\yl.ser=x.ser/\yl.iss=x.iss/\yl.h=x.h/\yl.M=x.M:=by rw[<-a9];exact⟨rfl,rfl,rfl,rfl,rfl,rfl,rfl⟩
 have hm:=a1o w7;have⟨aC,b4,a2⟩:=η3 aT bE an;clear aT bE an bq I bv a9;go_wp2_with fail;refine μf hm ?_;clear hm;go_upto_region 5 with fail
 have bf:=Z.o _ _ _ _ aC;have R:=a2v f p o y t w7 (ax.go aC.fr).at_ (al.go aC.fr).at_ hl1 hl2;rw[az.o]at R;have aE:=λ(X:WD)=>a7g 3 bc.1 vf 6 X
 have aX:(⟨3,0,idP t,vf,6,0⟩:a1P).Bd:=b1v ρo bc.o b4.o ρo;have⟨e0,aQ⟩:=η0 ((⟨3,0,idP t,vf,6,0⟩:a1P):a1P);rw[aQ]at aX;simp only[aQ]at aE;have⟨ev,a8⟩:=η0 ((a0x e0).toArray);simp only[a8]at aE;have⟨dv,a1⟩:=η0 ((bys (idP t)).toArray);rw[a1]at R;simp only[a1]at aE;have⟨b2,bT⟩:=η2 a8 aX;clear a8 aX aQ a1;go_wp2_with fail;refine μi R ?_;intro w4 br;have bx:=aC.below br;have aa:=η1 bx;clear bx br R bf;have ar:=a5C d b' (c0::(g+1)::N) seed yl A n c a bZ bV b3 e0 bT w4 aa.sh (bM.go aa.fr).at_ (al.go aa.fr).at_;rw[b2.o]at ar;go_wp2_with fail;refine μ1 ar ?_;rintro e5 w5 ⟨ab,bh⟩;clear ar aE;have aq:=bh.mono (λk _ e=>a8B d b' k e)
 rcases ab with⟨bl,A5,U,rfl,aj,a7⟩ | ⟨cf,hk,rfl⟩
 rotate_left
 ·exact⟨rfl,.error 17,.inl ⟨17,rfl⟩,aa.refF aq hk⟩
 have aD:GoQ seed x a (.ok ({yl with h:=a4T yl a e0},a2O (a9F seed yl a e0))):=.inr ⟨yl,e0,a2.o,by unfold b9r;rw[if_pos bl]⟩;have⟨yh,bo⟩:=η0 ({yl with h:=a4T yl a e0});have⟨ak,aM⟩:=η0 (a9F seed yl a e0);rw[bo]at aD a7;rw[aM]at aj aD⊢;have aY:=aa.step' a7 aq;have Q:=a5d ak aj.1 A5 U w5;have au:(g+1,41,zs)∈[(g,53,tv),(g+1,41,zs)]:=by simp
 have bi:g+1<w4.heap.size:=(aa.kp _ au).1.lt;have bK:=aa.sz;have aA:=a0A aj.1 0 true A5 U;have ay:=λX hX=>(aY.below (X':=X) hX).sto au bP.o (a0O 0 true ak A5 U) aA (a0W _ _ _ _ _)
 have J:=λX hX=>(aY.below (X':=X) hX).fin au (N0:=N) (λj hj=>Qj _ (Qj _ hj)) (y0:=yh) rfl (rp:=a2O ak) bK bi (aj.below hX) rfl
 have⟨rs,bb⟩:=η0 (a0O 0 true ak A5 U);simp only[a2O,bb]at ay J Q;rw[bb]at aA
 generalize bU:a0d ak A5 U=cv at Q⊢
 have⟨b8,bC,bR,bQ⟩:=η4 ay J aA aD;clear ay J aA aD aY aj a7 bh aq bl bi bK bb bU au bo aM;go_wp2_with fail;refine μi Q ?_;intro w6 ag;have ay:=b8.o w6 ag;have J:=bC.o w6 ag;have a3:=η1 J;clear J ag;clear Q;go_wp2_with fail;obtain⟨dR,bO,bJ⟩:=Q8.1 a7w;refine bodyPost_ret (v:=.agg rs.toArray) (a0c rfl _ _ (g+1) _ rs dR rfl a3.2.2 bO bJ (ρy bR.o a4h)) rfl ?_;exact⟨_,bQ.o,a3.1,a3.2.1⟩
end
end Go.Proofs.YtpolljfkceanaaaGreatDoor
