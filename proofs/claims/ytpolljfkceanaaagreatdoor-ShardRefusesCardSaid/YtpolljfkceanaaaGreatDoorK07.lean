/-
  Contracts of functions, plain laws.
-/
import Derived.Test.YtpolljfkceanaaaGreatDoorK06
namespace Go.Proofs.YtpolljfkceanaaaGreatDoor
open Go.RowKit Go.Shelf Go.Maps Go.Proofs.Tryz
set_option maxRecDepth 100000
set_option maxHeartbeats 64000000
variable {x:Int}{d l:LI}{L:LL}{R:LW}{I:List InD}{b cap g k m n:Nat}{A B:OA}{v:VL}{w:WD}
set_option linter.all false
section
theorem d1r(n:Nat)(x:Int):a6d n (.error x)=([],.error x):=by simpa using a6j (a5T (.error x)) n
theorem b5W(n:Nat)(x:Int):a3g n (.error x)=([],.error x):=by simpa using a4G (a4B (.error x)) n
theorem b1T{sec:LI}{X A:Nat}{t1 t2 t3 t4:St}(a:idT (.ok l)=(d,t1))(b:a0o 15 t1=(X,t2))(f:a0o 18446744073709551615 t2=(A,t3))(g:a0C 64 t3=(sec,t4)):inT (.ok l)=(⟨d,(X:Int),(A:Int),sec⟩,t4):=by
 unfold inT;simp only[a,b,f,g]
theorem b2F{A:Nat}{t1 t2:St}(a:idT (.ok l)=(d,t1))(b:a0o 18446744073709551615 t1=(A,t2)):b0P (.ok l)=(⟨d,(A:Int)⟩,t2):=by
 unfold b0P;simp only[a,b]
theorem b2e{a ex:Nat}{O:List a1q}{b s2 d f g j:St}(o:a0o 16 (.ok l)=(n,b))(p:a6d n b=(I,s2))(r:a0o 16 s2=(m,d))(v:a3g m d=(O,f))(w:a0o 18446744073709551615 f=(a,g))(x:a0o 1099511627776 g=(ex,j)):
  txT l=(⟨I,O,(a:Int),(ex:Int)⟩,j):=by
 unfold txT;simp only[o,p,r,v,w,x]
theorem b7i{s:St}(h:StE s):∀j,StE (a6d j s).2
 | 0=>by rw[a5T];exact h
 |
  j+1=>by
  have ih:=b7i h j
  cases hj:a6d j s with
  |
   mk L t=>
   rw[hj]at ih
   cases t with
   | error x=>rw[a6j hj 1];exact ih
   | ok l=>rw[b0W hj];exact a5A (a1L (a1L (a5W (s:=.ok l) trivial)))
theorem b4u{s:St}(h:StE s):∀j,StE (a3g j s).2
 | 0=>by rw[a4B];exact h
 |
  j+1=>by
  have ih:=b4u h j
  cases hj:a3g j s with
  |
   mk L t=>
   rw[hj]at ih
   cases t with
   | error x=>rw[a4G hj 1];exact ih
   | ok l=>rw[a8H hj];exact a1L (a5W (s:=.ok l) trivial)
theorem c9h(l:LI):StE (txT l).2:=a1L (a1L (b4u (a1L (b7i (a1L (s:=.ok l) trivial) _)) _))
theorem c5w(a:a0o 16 (.ok l)=(n,.error x)):(txT l).2=.error x:=by
 rw[b2e a (d1r _ _) (a3t _ _) (b5W _ _) (a3t _ _) (a3t _ _)]
theorem c4D{a:St}(b:a0o 16 (.ok l)=(n,a))(d:a6d n a=(I,.error x)):(txT l).2=.error x:=by
 rw[b2e b d (a3t _ _) (b5W _ _) (a3t _ _) (a3t _ _)]
theorem c5F{a s2:St}(b:a0o 16 (.ok l)=(n,a))(d:a6d n a=(I,s2))(f:a0o 16 s2=(m,.error x)):(txT l).2=.error x:=by
 rw[b2e b d f (b5W _ _) (a3t _ _) (a3t _ _)]
theorem c4K{O:List a1q}{a s2 b:St}(d:a0o 16 (.ok l)=(n,a))(f:a6d n a=(I,s2))(g:a0o 16 s2=(m,b))(j:a3g m b=(O,.error x)):(txT l).2=.error x:=by
 rw[b2e d f g j (a3t _ _) (a3t _ _)]
def b5j(g p s:Nat)(l:LI)(e:Ending)(w':WD):Prop:=
 match(txT l).2 with
 | .error x=>e=.panicked [{v:=a1T x,recovered:=false}]
 | .ok r=>(∃A1 c1 A2 c2,e=.returned (.agg (txV A1 c1 A2 c2 (txT l).1))/\a4W g w' A1 A2 (txT l).1)/\a0S w' p s r
attribute [local go_sem ↓] a2t a6W a8U a9c a9R b0o b0b c5n c2E c4u c5p c0B c5C c0v b7r b8h b8b
theorem b9z(p s:Nat)(l:LI)(hl:l.length<=400000000)(w:WD)(h:a0S w p s l)(hp:p<w.heap.size)(hs:s<w.heap.size):
  Calls prog 135 #[.pointer p] w λe w'=>b5j w p s l e w'/\Fr (λk=>k=p) w w':=by
 have hby:∀x∈l,0<=x/\x<=255:=by obtain⟨A,c,he,_⟩:=h;exact he.by_.bd
 have hbdt:=c9V hby;have hal:=d0B;obtain⟨Zi,hali,hsti,_⟩:=Pk (t:=191) iIn zIn;obtain⟨Zo,halo,hsto,_⟩:=Pk (t:=56) c6h d1w;have b0:=Qd w 53 (#[.slice none 0 0,.slice none 0 0,.int .u64 0,.int .i64 0]);have B0:=ρb w (.cells (#[.slice none 0 0,.slice none 0 0,.int .u64 0,.int .i64 0]) 53)
 generalize hW:w.alloc (.cells (#[.slice none 0 0,.slice none 0 0,.int .u64 0,.int .i64 0]) 53)=W at b0 B0
 have⟨g,hg⟩:=ηs w;rw[hg]at b0;have hal0:=hal w;rw[hW,hg]at hal0;have f0:Fr (λk=>k=p) w W:=(Q9 B0).mono (λk hk h=>ρo);have he0:=h.fr (Q9 B0) (show¬_<=_ by omega) (show¬_<=_ by omega);have hpg:=he0.far b0 ρd;have hWs:w.heap.size<=W.heap.size:=B0.size
 have hbad:∀(x:Int) (w':WD),(txT l).2=.error x->Fr (λk=>k=p) w w'->b5j g p s l (.panicked [{v:=a1T x,recovered:=false}]) w'/\Fr (λk=>k=p) w w':=λx w' hx hf=>by
  refine⟨?_,hf⟩;unfold b5j;rw[hx]
 have hen0:=a5w p s l 16 ρo (by have:l.length<=400000000:=hl;omega) W he0;obtain⟨k0,s0,h0⟩:∃v st,a0o 16 (.ok l)=(v,st):=⟨_,_,rfl⟩;have hk0:=a0P 16 (.ok l);have hb0:=a1b (most:=16) (st:=.ok l) (n:=400000000) hl;rw[h0]at hen0 hk0 hb0;rw[show((16:Nat):Int)=16 from rfl]at hen0;simp only at hen0 hk0 hb0;have⟨F0,HW,HG,HBI,HBO,HB0,HPG,HWS⟩:=η8 f0 hW hg hsti hsto b0 hpg hWs;have⟨HBAD,H0,HBB0,HBDT,HBY⟩:=η5 hbad h0 hb0 hbdt hby;clear f0 hW hg hsti hsto b0 hpg hWs hbad h0 hb0 hbdt hby h he0 B0 hal;go_enter func135,ntmps135;rw[HG.o];go_upto_region 1 with fail
 clear hal0;go_wp2_with fail;refine μ1 hen0 ?_;rintro e w1 ⟨he,f1⟩;have⟨n,hn⟩:=η0 k0;rw[hn]at hk0 he H0
 cases s0 with
 |
  error x=>
  obtain rfl:=he;exact⟨rfl,HBAD.o x _ (c5w H0.o) (F0.trans f1 (λ_ _ h=>h))⟩
 |
  ok l0=>
  obtain⟨rfl,he1⟩:=he;have⟨F1,HE1⟩:=η2 ((F0.trans f1 (λ_ _ h=>h))) he1;have hb1:=HB0.fr f1 (λe=>HPG.o e.symm);clear f1 he1 hen0;go_upto_region 2 with fail
  go_loopg [3,7] n (λkk _ c wr=>∃(j:Nat) (v:VL) (R:LW) (L:List InD) (lj:LI),j+kk=n/\c=.int .u64 j/\a6d j (.ok l0)=(L,.ok lj)/\a0T 191 35 (g+1) wr v R/\a5D (g+1) wr v R L/\Blk wr g 53 #[v,.slice none 0 0,.int .u64 0,.int .i64 0]/\a0S wr p s lj/\Fr (λk=>k=p) w wr);exact⟨0,.slice none 0 0,[],[],l0,by omega,rfl,a5T _,a0T.nil _ _ _ _,a5D.nil _ _ _,hb1,HE1.o,F1.o⟩;obtain⟨j,v,R,L,lj,hj,rfl,hIR,hOwn,hRow,hB,hE,hF⟩:=hrel;clear hb1
  by_cases hlt:j<n
  ·have hltI:(j:Int)<n:=ρo
   have hjl:=a9Z (.ok l0) j;have hlj:=b0X (s:=.ok l0) (n:=400000000) HBB0.o j;rw[hIR]at hjl hlj;simp only at hjl hlj;have hgw:=hB.lt;have hWr:w.heap.size<=wr.heap.size:=hF.size;have hen1:=c4T p s lj (by have:lj.length<=400000000:=hlj;omega) wr hE ρo ρo;obtain⟨d1,s1,h1⟩:∃v st,idT (.ok lj)=(v,st):=⟨_,_,rfl⟩;have hk1:=a1R (.ok lj);have hb1:=a3U (st:=.ok lj) (n:=400000000) hlj;rw[h1]at hen1 hk1 hb1;simp only at hen1 hk1 hb1;have hbp:=λW (X:Int)=>d2L hk1 X W
   have⟨tv,htv⟩:=η0 ((bys d1).toArray);rw[htv]at hen1;have hI:=b0W hIR;have⟨HIR,HOWN,HROW,HBB,HF,H1,HBB1,HK1⟩:=η8 hIR hOwn hRow hB hF h1 hb1 hk1;have⟨HTV,HWR,HGW,HI,HJL⟩:=η5 htv hWr hgw hI hjl;clear hIR hOwn hRow hB hF h1 hb1 hk1 htv hWr hgw hI hjl hE hlj;go_wp2_with fail;refine μ1 hen1 ?_;rintro e w2 ⟨he,f2⟩
   have hie:∀(x:Int) (w':WD),(inT (.ok lj)).2=.error x->Fr (λk=>k=p) w w'->b5j g p s l (.panicked [{v:=a1T x,recovered:=false}]) w'/\Fr (λk=>k=p) w w':=λx w' hx hf=>by
    have h5:=HI.o;rw[hx]at h5;have h6:=a6j h5 (n-(j+1));rw[show j+1+(n-(j+1))=n by omega]at h6;exact HBAD.o x w' (c4D H0 h6) hf
   have HIE:=η1 hie;clear hie
   cases s1 with
   |
    error x=>
    obtain rfl:=he;exact⟨rfl,HIE.o x _ (by rw[b1T H1.o (a3t _ _) (a3t _ _) (a9d _ _)]) (HF.trans f2 (λ_ _ h=>h))⟩
   |
    ok l1=>
    obtain⟨rfl,he2⟩:=he;have hen2:=a5w p s l1 15 ρo (by have:l1.length<=400000000:=HBB1.o;omega) w2 he2;obtain⟨k2,s2,h2⟩:∃v st,a0o 15 (.ok l1)=(v,st):=⟨_,_,rfl⟩;have hk2:=a0P 15 (.ok l1);have hb2:=a1b (most:=15) (st:=.ok l1) (n:=400000000) HBB1.o;rw[h2]at hen2 hk2 hb2;rw[show((15:Nat):Int)=15 from rfl]at hen2;simp only at hen2 hk2 hb2;have⟨F2,fr2⟩:=η2 (HF.trans f2 (λ_ _ h=>h)) f2;have hw2k:=a1r hk2 ρo;have⟨H2,HBB2,HK2⟩:=η3 h2 hb2 hk2;clear h2 hb2 hk2 hen1 f2 he2;go_wp2_with fail;refine μ1 hen2 ?_;rintro e w3 ⟨he,f3⟩
    cases s2 with
    |
     error x=>
     obtain rfl:=he;exact⟨rfl,HIE.o x _ (by rw[b1T H1.o H2.o (a3t _ _) (a9d _ _)]) (F2.trans f3 (λ_ _ h=>h))⟩
    |
     ok l2=>
     obtain⟨rfl,he3⟩:=he;have hbin:=λW=>c8p HK1.o (k2:Int) W
     have hbp2:=λW=>hbp W (k2:Int)
     have hinl:(inV ⟨d1,(k2:Int),0,[]⟩ none 0).length=35:=by simp[inV,a1x HK1.o]
     have hin1:=a8W ⟨d1,(k2:Int),0,[]⟩ none 0
     have hc33:(inV ⟨d1,(k2:Int),0,[]⟩ none 0).toArray[33]? =some (.int .u64 0):=by
      unfold inV;simp[ptL,a0a,HK1.o]
     have h33:=λ(A:Int)=>c2s HK1.o (k2:Int) A
     have⟨iv,hiv⟩:=η0 (inV ⟨d1,(k2:Int),0,[]⟩ none 0);simp only[hiv]at hbin hc33 h33;rw[hiv]at hinl hin1;have⟨pv,hpv⟩:=η0 ((ptL d1 (k2:Int)).toArray);simp only[hpv]at hbp2 hbin;simp only[HTV.o]at hbp2;have hal3:=hali w3;have hst3:=HBI.o w3 iv hinl hin1;have hF3:=fr2.trans f3 (λ_ _ h=>h);have b4:=Qd w3 191 (iv.toArray);have B4:=ρb w3 (.cells (iv.toArray) 191)
     generalize hw4:w3.alloc (.cells (iv.toArray) 191)=w4 at b4 B4
     have⟨ib,hib0⟩:=ηs w3;rw[hib0]at b4;have hWR:=HWR.o;have f4:=hF3.trans (Q9 B4) (λk hk h=>by have:=hF3.size;omega);have he4:a0S w4 p s l2:=he3.fr (Q9 B4) (show¬_<=_ by have:=hF3.size;omega) (show¬_<=_ by have:=hF3.size;omega);have hpi:=he4.far b4 ρd;have hib:=b4.lt;have hen3:=a5w p s l2 18446744073709551615 ρo (by have:l2.length<=400000000:=HBB2.o;omega) w4 he4;obtain⟨k3,s3,h3⟩:∃v st,a0o 18446744073709551615 (.ok l2)=(v,st):=⟨_,_,rfl⟩;have hk3:=a0P 18446744073709551615 (.ok l2);have hb3:=a1b (most:=18446744073709551615) (st:=.ok l2) (n:=400000000) HBB2.o;rw[h3]at hen3 hk3 hb3;rw[show((18446744073709551615:Nat):Int)=18446744073709551615 from rfl]at hen3;simp only at hen3 hk3 hb3;have⟨HW4,HB4,HF4,HPI,HIBE,HF3,H3,HBB3⟩:=η8 hw4 b4 f4 hpi hib0 hF3 h3 hb3;have⟨HK3,HC33,H33,HIV⟩:=η4 hk3 hc33 h33 hiv
     clear hw4 b4 f4 hpi hib0 hF3 h3 hb3 hk3 hc33 h33 hiv hen2 he3 B4 he4 f3 hbp hpv hWR;go_upto_region 4 with fail
     rw[HW4.o,HIBE.o];clear hal3 hst3 hbp2 hbin hw2k;go_wp2_with fail;refine μ1 hen3 ?_;rintro e w5 ⟨he,f5⟩
     cases s3 with
     |
      error x=>
      obtain rfl:=he;exact⟨rfl,HIE.o x _ (by rw[b1T H1.o H2.o H3.o (a9d _ _)]) ((HF.trans HF4.o (λ_ _ h=>h)).trans f5 (λ_ _ h=>h))⟩
     |
      ok l3=>
      obtain⟨rfl,he5⟩:=he;have b5:=HB4.fr f5 (λe=>HPI.o e.symm);have q33:w5.cell? ⟨ib,33,none⟩=some (.int .u64 0):=(b5.cell 33).trans HC33;have z33:=b5.frozen 33;have b6:=b5.set_ 33 (.int .u64 k3);rw[H33.o]at b6;have fs:Fr (λk=>k=ib) w5 (w5.setCell ⟨ib,33,none⟩ (.int .u64 k3)):=(Qp (λk=>k=ib) w5).setCell (p:=⟨ib,33,none⟩) (λ_=>rfl) _;have hibr:wr.heap.size<=ib:=by rw[<-HIBE.o];exact HF3.size
      have hWR:=HWR.o;have f6:=(HF4.trans f5 (λ_ _ h=>h)).trans fs (λk hk e=>ρo);have he6:=he5.fr fs (show¬_=_ from HPI.o) (show¬_=_ by omega)
      generalize hw6:w5.setCell ⟨ib,33,none⟩ (.int .u64 k3)=w6 at b6 f6 he6
      have hen4:=b1P p s l3 64 ρo HBB3.o w6 he6;obtain⟨d4,s4,h4⟩:∃v st,a0C 64 (.ok l3)=(v,st):=⟨_,_,rfl⟩;have hk4:=a3o 64 (.ok l3);have hb4:=a3c (most:=64) (st:=.ok l3) (n:=400000000) HBB3.o;rw[h4]at hen4 hk4 hb4;rw[show((64:Nat):Int)=64 from rfl]at hen4;simp only at hk4 hb4;have hbs4:=(a4u (most:=64) (s:=.ok l3) (by obtain⟨A,c,he,_⟩:=he6;exact he.by_.bd)).2;rw[h4]at hbs4
      have hc34:(inV ⟨d1,(k2:Int),(k3:Int),[]⟩ none 0).toArray[34]? =some (.slice none 0 0):=by
       unfold inV;simp[ptL,a0a,HK1.o]
      have h34:=c0j HK1 (k2:Int) (k3:Int) d4;have⟨HW6,HB6,HF6,HIBR,H4,HBB4,HK4,HC34⟩:=η8 hw6 b6 f6 hibr h4 hb4 hk4 hc34;have⟨H34,HBS4⟩:=η2 h34 hbs4;clear hw6 b6 f6 hibr h4 hb4 hk4 hc34 h34 hbs4 he5 f5 b5 fs he6 hen3 hWR;go_upto_region 5 with fail
      rw[HW6.o];clear q33 z33;go_wp2_with fail;refine μ1 hen4 ?_;rintro e w7 ⟨he,f7⟩
      cases s4 with
      |
       error x=>
       obtain rfl:=he;exact⟨rfl,HIE.o x _ (by rw[b1T H1.o H2.o H3.o H4.o]) ((HF.trans HF6.o (λ_ _ h=>h)).trans f7 (λ_ _ h=>h))⟩
      |
       ok l4=>
       obtain⟨⟨u,rfl,ho⟩,he7⟩:=he;obtain⟨i,hi⟩:∃i:InD,i=⟨d1,(k2:Int),(k3:Int),d4⟩:=⟨_,rfl⟩
       have hIB:i.Bd:=by
        have h5:=(b3M (s:=.ok l0) (by have:=a2c (most:=16) (s:=.ok l) HBY.o;rw[H0.o]at this;exact this) (j+1)).1;rw[HI.o,b1T H1.o H2.o H3.o H4.o]at h5;rw[hi];exact h5 _ ρp
       obtain⟨As,cs,hu,hyb,hAs,hcs⟩:=ho.byt HBS4;subst hu;have hls:=λk hk=>ho.lt (k:=k) hk
       have hnil:=a8w ho;have b7:=HB6.fr f7 (λe=>HPI.o e.symm);have q34:w7.cell? ⟨ib,34,none⟩=some (.slice none 0 0):=(b7.cell 34).trans HC34;have z34:=b7.frozen 34;have b8:=b7.set_ 34 (.slice As d4.length cs);rw[H34.o,<-hi]at b8;have fs:Fr (λk=>k=ib) w7 (w7.setCell ⟨ib,34,none⟩ (.slice As d4.length cs)):=(Qp (λk=>k=ib) w7).setCell (p:=⟨ib,34,none⟩) (λ_=>rfl) _;have hib6:=HB6.lt;have hyb8:=hyb.fr fs (λa ha _=>by have:=hAs a ha;omega);have f8:=(HF6.trans f7 (λ_ _ h=>h)).trans fs (λk hk e=>by have:=HIBR.o;omega);have he8:=he7.fr fs (show¬_=_ from HPI.o) (show¬_=_ by have:=HIBR.o;have:=HWR.o;omega)
       have hsz8:∀a,As=some a->w6.heap.size<=a.block/\a.block<w7.heap.size:=λa ha=>⟨hAs a ha,by
        subst ha;exact(hls a.block rfl).2⟩
       have hs78:=fs.size
       generalize hw8:w7.setCell ⟨ib,34,none⟩ (.slice As d4.length cs)=w8 at b8 f8 he8 hyb8 hs78
       have hB8:=HBB.fr f8 (λe=>HPG.o e.symm);have hO8:=HOWN.fr f8 (λk hk e=>by have:=(HOWN.lt hk).1;have:=HG.o;omega);have hR8:=HROW.fr f8 (λk hk _ e=>by have:=HG.o;omega);obtain⟨Av,Nv,cv,rfl,hNv⟩:=hO8.formN;have hq0:w8.cell? ⟨g,0,none⟩=some (.slice Av Nv cv):=hB8.cell 0;have hld:=Pb uIn iIn (inV i As cs) b8 (a3l hIB As cs);have hbs:=Pd d0z d2a ρo ρo w8 (.agg (inV i As cs).toArray) (by simp[Value.cells,a3l hIB]);simp only[Value.cells]at hbs
       have hRl:R.length<=16:=by
        have:=HROW.len
        have:=HJL.o
        omega
       have hg8:=hB8.lt;obtain⟨v',w9,hap,hO9,hf9,hft9⟩:=a5o (P:=prog) (ty:=50) d0z d3q ρo ρo hO8 (inV i As cs) (a3l hIB As cs) (a8W i As cs) ρo ρo;obtain⟨A9,N9,c9,rfl,hN9⟩:=hO9.formN
       have hfar8:∀a,As=some a->g+1<=a.block/\a.block<w8.heap.size/\(Value.slice Av Nv cv).ownBlock≠some a.block:=λa ha=>by
        have h1:=hsz8 a ha;have h2:=HIBR.o;have h3:=HGW.o;refine⟨by omega,by omega,λe=>?_⟩
        have:=(HOWN.lt e).2
        omega
       have hsi:i.sec=d4:=by rw[hi]
       have hR9:=(hR8.snoc (i:=i) (ρy hsi hyb8) (ρy hsi hcs) hnil (ρy hsi HK4.o) hfar8).grow hf9 hft9;have hvg:(Value.slice Av Nv cv).ownBlock≠some g:=a4l hO8.own hB8 ρd;have hvp:(Value.slice Av Nv cv).ownBlock≠some p:=λe=>by have:=(hO8.lt e).1;have:=HG.o;omega
       have hvs:(Value.slice Av Nv cv).ownBlock≠some s:=λe=>by have:=(hO8.lt e).1;have:=HG.o;omega
       have hB9:=hB8.fr hf9 (λe=>hvg e);have he9:=he8.fr hf9 (λe=>hvp e) (λe=>hvs e);have q9:w9.cell? ⟨g,0,none⟩=some (.slice Av Nv cv):=hB9.cell 0;have z9:=hB9.frozen 0;have hB10:Blk (w9.setCell ⟨g,0,none⟩ (.slice A9 N9 c9)) g 53 #[.slice A9 N9 c9,.slice none 0 0,.int .u64 0,.int .i64 0]:=by simpa using hB9.set_ 0 (.slice A9 N9 c9)
       have fs2:Fr (λk=>k=g) w9 (w9.setCell ⟨g,0,none⟩ (.slice A9 N9 c9)):=(Qp (λk=>k=g) w9).setCell (p:=⟨g,0,none⟩) (λ_=>rfl) _;have he10:=he9.fr fs2 (show¬_=_ from HPG.o) (show¬_=_ by have:=HG.o;omega);have hO10:=hO9.fr fs2 (λk hk e=>by have:=(hO9.lt hk).1;omega);have hR10:=hR9.fr fs2 (λk hk _ e=>ρo);have hfin:Fr (λk=>k=p) w (w9.setCell ⟨g,0,none⟩ (.slice A9 N9 c9)):=((HF.trans f8 (λ_ _ h=>h)).trans hf9 (λk hk e=>by have:=(hO8.lt e).1;have:=HG.o;omega)).trans fs2 (λk hk e=>by have:=HG.o;omega);have hI2:a6d (j+1) (.ok l0)=(L++[i],.ok l4):=by rw[HI.o,b1T H1.o H2.o H3.o H4.o,<-hi]
       have⟨xs,hxs⟩:=η0 ((inV i As cs).toArray);rw[hxs]at hld hbs hap;have⟨n4,hn4⟩:=η0 d4.length;rw[hn4]at hw8;rw[hn4];have⟨HO10,HR10,HB10,HE10,HFIN,HW8,HI2⟩:=η7 hO10 hR10 hB10 he10 hfin hw8 hI2;clear hO10 hR10 hB10 he10 hfin hw8 hI2 hen4 ho hyb hAs hcs hls hnil b7 b8 fs hib6 hyb8 f8 he8 hsz8 hB8 hO8 hR8 hNv hRl hg8 hO9 hf9 hft9 hN9 hfar8 hR9 hvg hvp hvs hB9 he9 fs2 hxs f7 he7 hs78 hsi hIB hi hn4;go_upto_region 6 with fail
       rw[HW8.o];clear q34 z34;go_wp2;go_roundg (n-(j+1));exact⟨j+1,.slice A9 N9 c9,_,L++[i],l4,by omega,by go_num,HI2.o,HO10.o,HR10.o,HB10.o,HE10.o,HFIN.o⟩;omega
  obtain rfl:j=n:=ρo;obtain⟨wo,hwo⟩:∃wo,wo=wr:=⟨_,rfl⟩;subst hwo;have hgw:=hB.lt;have hlj:=b0X (s:=.ok l0) (n:=400000000) HBB0.o j;rw[hIR]at hlj;simp only at hlj;have hen5:=a5w p s lj 16 ρo (by have:lj.length<=400000000:=hlj;omega) wo hE;obtain⟨k5,s5,h5⟩:∃v st,a0o 16 (.ok lj)=(v,st):=⟨_,_,rfl⟩;have hk5:=a0P 16 (.ok lj);have hb5:=a1b (most:=16) (st:=.ok lj) (n:=400000000) hlj;rw[h5]at hen5 hk5 hb5;rw[show((16:Nat):Int)=16 from rfl]at hen5;simp only at hen5 hk5 hb5;have⟨HIR,HOWN,HROW,HBB,HF,H5,HBB5,HGW⟩:=η8 hIR hOwn hRow hB hF h5 hb5 hgw;clear hIR hOwn hRow hB hF h5 hb5 hgw hE;go_wp2_with fail;refine μ1 hen5 ?_;rintro e x1 ⟨he,f1⟩;have⟨m,hm⟩:=η0 k5;rw[hm]at hk5 he H5
  cases s5 with
  |
   error x=>
   obtain rfl:=he;exact⟨rfl,HBAD.o x _ (c5F H0.o HIR.o H5.o) (HF.trans f1 (λ_ _ h=>h))⟩
  |
   ok l5=>
   obtain⟨rfl,he1⟩:=he;have hB1:=HBB.fr f1 (λe=>HPG.o e.symm);have f1':=f1.mono (G:=λk=>k=p\/k=g) (λ_ _ h=>.inl h);have hsx:=f1.size;have⟨HE1,F1,HSX⟩:=η3 he1 f1' hsx;clear he1 f1' hsx f1 hen5;go_upto_region 9 with fail
   go_loopg [4,31] m (λkk _ c wr=>∃(q:Nat) (u:VL) (O:List a1q) (lj:LI),q+kk=m/\c=.int .u64 q/\a3g q (.ok l5)=(O,.ok lj)/\a0T 56 33 wo.heap.size wr u (O.map a1s)/\Blk wr g 53 #[v,u,.int .u64 0,.int .i64 0]/\a0S wr p s lj/\Fr (λk=>k=p\/k=g) wo wr);exact⟨0,.slice none 0 0,[],l5,by omega,rfl,a4B _,by simpa using a0T.nil _ _ _ _,hB1,HE1.o,F1.o⟩;obtain⟨q,u,O,lq,hq,rfl,hOR,hOu,hBx,hEx,hFx⟩:=hrel;clear hB1;have hgr:g<wo.heap.size:=HGW.o;have hWr:w.heap.size<=wo.heap.size:=HF.size;have hlq:=b1U (s:=.ok l5) (n:=400000000) HBB5.o q;have hql:=a8d (.ok l5) q;rw[hOR]at hlq hql;simp only at hlq hql;have hxs:wo.heap.size<=wr.heap.size:=hFx.size;have fW:Fr (λk=>k=p) w wr:=HF.trans hFx (λk hk e=>by rcases e with e | e;exact e;have:=HG.o;omega)
   by_cases hltq:q<m
   ·have hltqI:(q:Int)<m:=ρo
    have hen6:=c4T p s lq (by have:lq.length<=400000000:=hlq;omega) wr hEx ρo ρo;obtain⟨d6,s6,h6⟩:∃v st,idT (.ok lq)=(v,st):=⟨_,_,rfl⟩;have hk6:=a1R (.ok lq);have hb6:=a3U (st:=.ok lq) (n:=400000000) hlq;rw[h6]at hen6 hk6 hb6;simp only at hen6 hk6 hb6;have hbin:=λW=>c3I hk6 W
    have hovl:(a1s ⟨d6,0⟩).length=33:=by simp[a1s,a0a,hk6]
    have hov1:=a1O ⟨d6,0⟩;have h32:=λ(A:Int)=>b8A hk6 A
    have hc32:(a1s ⟨d6,0⟩).toArray[32]? =some (.int .u64 0):=by
     unfold a1s;simp[a0a,hk6]
    have⟨ov,hov⟩:=η0 (a1s ⟨d6,0⟩);simp only[hov]at hbin h32 hc32;rw[hov]at hovl hov1;have⟨tv,htv⟩:=η0 ((bys d6).toArray);simp only[htv]at hen6 hbin;have hO:=a8H hOR;have⟨HOU,HBX,HFX,H6,HBB6,H32,HC32,HOV1⟩:=η8 hOu hBx hFx h6 hb6 h32 hc32 hov1;have⟨HOVL,HXS,HO,HK6,HQL,FW⟩:=η6 hovl hxs hO hk6 hql fW;clear hOu hBx hFx h6 hb6 h32 hc32 hov1 hovl hxs hO hk6 hql fW hOR hov htv hEx hlq;go_wp2_with fail;refine μ1 hen6 ?_;rintro e x2 ⟨he,f2⟩
    have hie:∀(x:Int) (w':WD),(b0P (.ok lq)).2=.error x->Fr (λk=>k=p) w w'->b5j g p s l (.panicked [{v:=a1T x,recovered:=false}]) w'/\Fr (λk=>k=p) w w':=λx w' hx hf=>by
     have h5:=HO.o;rw[hx]at h5;have h6:=a4G h5 (m-(q+1));rw[show q+1+(m-(q+1))=m by omega]at h6;exact HBAD.o x w' (c4K H0 HIR H5 h6) hf
    have HIE:=η1 hie;clear hie
    cases s6 with
    |
     error x=>
     obtain rfl:=he;exact⟨rfl,HIE.o x _ (by rw[b2F H6.o (a3t _ _)]) (FW.trans f2 (λ_ _ h=>h))⟩
    |
     ok l6=>
     obtain⟨rfl,he2⟩:=he;have hal3:=halo x2;have hst3:=HBO.o x2 ov HOVL HOV1;have b3:=Qd x2 56 (ov.toArray);have B3:=ρb x2 (.cells (ov.toArray) 56)
     generalize hx3:x2.alloc (.cells (ov.toArray) 56)=x3 at b3 B3
     have⟨ob,hob0⟩:=ηs x2;rw[hob0]at b3;have f3:=f2.trans (Q9 B3) (λk hk h=>by have:=f2.size;omega);have hobx:wr.heap.size<=ob:=by rw[<-hob0];exact f2.size
     have he3:a0S x3 p s l6:=he2.fr (Q9 B3) (show¬_<=_ by have:=HXS.o;omega) (show¬_<=_ by have:=HXS.o;omega);have hpo:=he3.far b3 ρd;have hen7:=a5w p s l6 18446744073709551615 ρo (by have:l6.length<=400000000:=HBB6.o;omega) x3 he3;obtain⟨k7,s7,h7⟩:∃v st,a0o 18446744073709551615 (.ok l6)=(v,st):=⟨_,_,rfl⟩;have hk7:=a0P 18446744073709551615 (.ok l6);have hb7:=a1b (most:=18446744073709551615) (st:=.ok l6) (n:=400000000) HBB6.o;rw[h7]at hen7 hk7 hb7;rw[show((18446744073709551615:Nat):Int)=18446744073709551615 from rfl]at hen7;simp only at hen7 hk7 hb7;have⟨HX3,HB3,HF3,HPO,HOBE,HOBX,H7,HBB7⟩:=η8 hx3 b3 f3 hpo hob0 hobx h7 hb7;clear hx3 b3 f3 hpo hob0 hobx h7 hb7 he2 B3 he3 f2 hen6;go_upto_region 11 with fail
     rw[HX3.o,HOBE.o];clear hal3 hst3 hbin;go_wp2_with fail;refine μ1 hen7 ?_;rintro e x4 ⟨he,f4⟩
     cases s7 with
     |
      error x=>
      obtain rfl:=he;exact⟨rfl,HIE.o x _ (by rw[b2F H6.o H7.o]) ((FW.trans HF3.o (λ_ _ h=>h)).trans f4 (λ_ _ h=>h))⟩
     |
      ok l7=>
      obtain⟨rfl,he4⟩:=he;obtain⟨o,ho⟩:∃o:a1q,o=⟨d6,(k7:Int)⟩:=⟨_,rfl⟩
      have hOB:o.Bd:=by
       have h8:=(b3H (s:=.ok l5) (by
        have h9:=(b3M (s:=.ok l0) (by have:=a2c (most:=16) (s:=.ok l) HBY.o;rw[H0.o]at this;exact this) j).2;rw[HIR.o]at h9
        have:=a2c (most:=16) (s:=.ok lj) h9
        rw[H5.o]at this;exact this) (q+1)).1
       rw[HO.o,b2F H6.o H7.o]at h8;rw[ho];exact h8 _ ρp
      have b4:=HB3.fr f4 (λe=>HPO.o e.symm);have q32:x4.cell? ⟨ob,32,none⟩=some (.int .u64 0):=(b4.cell 32).trans HC32;have z32:=b4.frozen 32;have b5:=b4.set_ 32 (.int .u64 k7);rw[H32.o,<-ho]at b5;have fs:Fr (λk=>k=ob) x4 (x4.setCell ⟨ob,32,none⟩ (.int .u64 k7)):=(Qp (λk=>k=ob) x4).setCell (p:=⟨ob,32,none⟩) (λ_=>rfl) _;have hobx:=HOBX.o;have hxx:=HXS.o;have f5:=(HF3.trans f4 (λ_ _ h=>h)).trans fs (λk hk e=>ρo);have he5:=he4.fr fs (show¬_=_ from HPO.o) (show¬_=_ by omega)
      generalize hx5:x4.setCell ⟨ob,32,none⟩ (.int .u64 k7)=x5 at b5 f5 he5
      have hB5:=HBX.fr f5 (λe=>HPG.o e.symm);have hO5:=HOU.fr f5 (λk hk e=>by have:=(HOU.lt hk).1;omega);obtain⟨Av,Nv,cv,rfl,hNv⟩:=hO5.formN;have hq1:x5.cell? ⟨g,1,none⟩=some (.slice Av Nv cv):=hB5.cell 1;have hld:=Pb d1I c6h (a1s o) b5 (a0G hOB);have hbs:=Pd c6y d1b ρo ρo x5 (.agg (a1s o).toArray) (by simp[Value.cells,a0G hOB]);simp only[Value.cells]at hbs;have hg5:=hB5.lt;have hfs5:=f5.size;obtain⟨u',x6,hap,hO6,hf6,-⟩:=a5o (P:=prog) (ty:=51) c6y d2i ρo ρo hO5 (a1s o) (a0G hOB) (a1O o) (by rw[Qw];have:=HQL.o;omega) ρo;obtain⟨A6,N6,c6,rfl,hN6⟩:=hO6.formN;have hvg:(Value.slice Av Nv cv).ownBlock≠some g:=a4l hO5.own hB5 ρd;have hvp:(Value.slice Av Nv cv).ownBlock≠some p:=λe=>by have:=(hO5.lt e).1;omega
      have hvs:(Value.slice Av Nv cv).ownBlock≠some s:=λe=>by have:=(hO5.lt e).1;omega
      have hB6:=hB5.fr hf6 (λe=>hvg e);have he6:=he5.fr hf6 (λe=>hvp e) (λe=>hvs e);have q6:x6.cell? ⟨g,1,none⟩=some (.slice Av Nv cv):=hB6.cell 1;have z6:=hB6.frozen 1;have hB7:Blk (x6.setCell ⟨g,1,none⟩ (.slice A6 N6 c6)) g 53 #[v,.slice A6 N6 c6,.int .u64 0,.int .i64 0]:=by simpa using hB6.set_ 1 (.slice A6 N6 c6)
      have fs2:Fr (λk=>k=g) x6 (x6.setCell ⟨g,1,none⟩ (.slice A6 N6 c6)):=(Qp (λk=>k=g) x6).setCell (p:=⟨g,1,none⟩) (λ_=>rfl) _;have he7:=he6.fr fs2 (show¬_=_ from HPG.o) (show¬_=_ by have:=HG.o;omega);have hO7:=hO6.fr fs2 (λk hk e=>by have:=(hO6.lt hk).1;have:=HGW.o;omega);rw[show O.map a1s++[a1s o]=(O++[o]).map a1s by rw[QV];rfl]at hO7;have hfin:Fr (λk=>k=p\/k=g) wo (x6.setCell ⟨g,1,none⟩ (.slice A6 N6 c6)):=((HFX.trans (f5.mono (G:=λk=>k=p\/k=g) (λ_ _ h=>.inl h)) (λ_ _ h=>h)).trans hf6 (λk hk e=>by have:=(hO5.lt e).1;omega)).trans fs2 (λk hk e=>.inr e);have hO2:a3g (q+1) (.ok l5)=(O++[o],.ok l7):=by rw[HO.o,b2F H6.o H7.o,<-ho]
      have⟨xs,hxs⟩:=η0 ((a1s o).toArray);rw[hxs]at hld hbs hap;have⟨HO7,HB7,HE7,HFIN,HX5,HO2⟩:=η6 hO7 hB7 he7 hfin hx5 hO2;clear hO7 hB7 he7 hfin hx5 hO2 hen7 b4 b5 fs f5 he5 hB5 hO5 hNv hg5 hfs5 hO6 hf6 hN6 hvg hvp hvs hB6 he6 fs2 hxs f4 he4 hobx hxx hOB ho;go_upto_region 12 with fail
      rw[HX5.o];clear q32 z32;go_wp2;go_roundg (m-(q+1));exact⟨q+1,.slice A6 N6 c6,O++[o],l7,by omega,by go_num,HO2.o,HO7.o,HB7.o,HE7.o,HFIN.o⟩;omega
   obtain rfl:q=m:=ρo;obtain⟨x,hx⟩:∃x,x=wr:=⟨_,rfl⟩;subst hx;have hen8:=a5w p s lq 18446744073709551615 ρo (by have:lq.length<=400000000:=hlq;omega) x hEx;obtain⟨k8,s8,h8⟩:∃v st,a0o 18446744073709551615 (.ok lq)=(v,st):=⟨_,_,rfl⟩;have hk8:=a0P 18446744073709551615 (.ok lq);have hb8:=a1b (most:=18446744073709551615) (st:=.ok lq) (n:=400000000) hlq;rw[h8]at hen8 hk8 hb8;rw[show((18446744073709551615:Nat):Int)=18446744073709551615 from rfl]at hen8;simp only at hen8 hk8 hb8;have⟨HOR,HOU,HBX,HFX,FW,H8,HBB8⟩:=η7 hOR hOu hBx hFx fW h8 hb8;clear hOR hOu hBx hFx fW h8 hb8 hEx;go_wp2_with fail;refine μ1 hen8 ?_;rintro e x3 ⟨he,f3⟩
   cases s8 with
   |
    error x=>
    obtain rfl:=he;exact⟨rfl,HBAD.o x _ (by rw[b2e H0.o HIR.o H5.o HOR.o H8.o (a3t _ _)]) (FW.trans f3 (λ_ _ h=>h))⟩
   |
    ok l8=>
    obtain⟨rfl,he3⟩:=he;have hB3:=HBX.fr f3 (λe=>HPG.o e.symm);have q3:x3.cell? ⟨g,2,none⟩=some (.int .u64 0):=hB3.cell 2;have z3:=hB3.frozen 2;have hB4:Blk (x3.setCell ⟨g,2,none⟩ (.int .u64 k8)) g 53 #[v,u,.int .u64 k8,.int .i64 0]:=by simpa using hB3.set_ 2 (.int .u64 k8)
    have fs:Fr (λk=>k=g) x3 (x3.setCell ⟨g,2,none⟩ (.int .u64 k8)):=(Qp (λk=>k=g) x3).setCell (p:=⟨g,2,none⟩) (λ_=>rfl) _;have he4:=he3.fr fs (show¬_=_ from HPG.o) (show¬_=_ by have:=HG.o;omega);have f4:Fr (λk=>k=p\/k=g) x (x3.setCell ⟨g,2,none⟩ (.int .u64 k8)):=(f3.mono (G:=λk=>k=p\/k=g) (λ_ _ h=>.inl h)).trans fs (λk hk e=>.inr e)
    generalize hx4:x3.setCell ⟨g,2,none⟩ (.int .u64 k8)=x4 at hB4 he4 f4
    have hen9:=a5w p s l8 1099511627776 ρo (by have:l8.length<=400000000:=HBB8.o;omega) x4 he4;obtain⟨k9,s9,h9⟩:∃v st,a0o 1099511627776 (.ok l8)=(v,st):=⟨_,_,rfl⟩;have hk9:=a0P 1099511627776 (.ok l8);have hb9:=a1b (most:=1099511627776) (st:=.ok l8) (n:=400000000) HBB8.o;rw[h9]at hen9 hk9 hb9;rw[show((1099511627776:Nat):Int)=1099511627776 from rfl]at hen9;simp only at hen9 hk9 hb9;have hw9:=a1r hk9 ρo;have⟨HX4,HB4,F4,H9⟩:=η4 hx4 hB4 f4 h9;clear hx4 hB4 f4 h9 hB3 fs he3 he4 f3 hen8;go_upto_region 15 with fail
    rw[HX4.o];clear q3 z3;go_wp2_with fail;refine μ1 hen9 ?_;rintro e x5 ⟨he,f5⟩;have hTx:=b2e H0 HIR H5 HOR H8 H9;have F5:=FW.trans (F4.trans (f5.mono (G:=λk=>k=p\/k=g) (λ_ _ h=>.inl h)) (λ_ _ h=>h)) (λk hk e=>by rcases e with e | e;exact e;have:=HG.o;omega)
    cases s9 with
    |
     error x=>
     obtain rfl:=he;exact⟨rfl,HBAD.o x _ (by rw[hTx]) (F5)⟩
    |
     ok l9=>
     obtain⟨rfl,he5⟩:=he;have hBt:(⟨L,O,(k8:Int),(k9:Int)⟩:TxD).Bd:=by have:=HBDT.o;rw[hTx]at this;exact this
     have hB5:=HB4.fr f5 (λe=>HPG.o e.symm);have q5:x5.cell? ⟨g,3,none⟩=some (.int .i64 0):=hB5.cell 3;have z5:=hB5.frozen 3;have fs:Fr (λk=>k=g) x5 (x5.setCell ⟨g,3,none⟩ (.int .i64 k9)):=(Qp (λk=>k=g) x5).setCell (p:=⟨g,3,none⟩) (λ_=>rfl) _;have f6:Fr (λk=>k=p\/k=g) x (x5.setCell ⟨g,3,none⟩ (.int .i64 k9)):=(F4.trans (f5.mono (G:=λk=>k=p\/k=g) (λ_ _ h=>.inl h)) (λ_ _ h=>h)).trans fs (λk hk e=>.inr e);have hgw2:=HGW.o;have hGG:=HG.o;have hOi:=(HOWN.fr HFX.o (λk hk e=>by have:=(HOWN.lt hk).1;rcases e with e | e<;>omega)).fr f6 (λk hk e=>by have:=(HOWN.lt hk).1;rcases e with e | e<;>omega);have hRi:=(HROW.fr HFX.o (λk hk _ e=>by rcases e with e | e<;>omega)).fr f6 (λk hk _ e=>by rcases e with e | e<;>omega);have hOo:=HOU.fr f6 (λk hk e=>by have:=(HOU.lt hk).1;rcases e with e | e<;>omega)
     obtain⟨A1,c1,A2,c2,rfl,rfl,hfar⟩:=a4W.of hOi hRi (hOo.base (B':=g+1) ρo) hBt;have hB6:Blk (x5.setCell ⟨g,3,none⟩ (.int .i64 k9)) g 53 #[.slice A1 L.length c1,.slice A2 O.length c2,.int .u64 k8,.int .i64 k9]:=by simpa using hB5.set_ 3 (.int .i64 k9)
     have he6:=he5.fr fs (show¬_=_ from HPG.o) (show¬_=_ by omega);have F6:=FW.trans f6 (λk hk e=>by rcases e with e | e;exact e;omega);have⟨xs,hxs⟩:=η0 ([.slice A1 L.length c1,.slice A2 O.length c2,.int .u64 k8,.int .i64 k9]:LV);have hxl:xs.length=4:=by rw[<-hxs];rfl
     have hx1:∀v∈xs,v.oneCell'=true:=by rw[<-hxs];simp[Value.oneCell']
     replace hB6:Blk (x5.setCell ⟨g,3,none⟩ (.int .i64 k9)) g 53 xs.toArray:=by rw[<-hxs];exact hB6
     generalize hx6:x5.setCell ⟨g,3,none⟩ (.int .i64 k9)=x6 at hB6 he6 F6 hfar
     have hld:=Pb d1L b8N xs hB6 hxl;have hst:=P7 b8N hB6 (ρy Qc hxl) xs hxl hx1;have fs4:=ρr (g) x6 xs.toArray;have he7:=he6.fr fs4 (show¬_=_ from HPG.o) (show¬_=_ by omega);have hfar7:=(hfar.fr fs4 (λk hk e=>ρo)).base (b':=g) ρo;have F7:=F6.trans fs4 (λk hk e=>ρo);have hb7:=hB6.row_ xs.toArray
     have hfin:b5j g p s l (.returned (.agg xs.toArray)) (x6.setRow g xs.toArray)/\Fr (λk=>k=p) w (x6.setRow g xs.toArray):=by
      refine⟨?_,F7⟩;unfold b5j;rw[hTx];refine⟨⟨A1,c1,A2,c2,?_,hfar7⟩,he7⟩;rw[<-hxs]
      rfl
     have⟨HX6,HFIN,HB7,HXL⟩:=η4 hx6 hfin hb7 hxl;clear hx6 hfin hb7 hxl hen9 hB5 fs f6 hgw2 hGG hOi hRi hOo hB6 he6 F6 hxs hx1 fs4 he7 hfar7 F7 he5 f5 hfar F5 hTx hBt;go_upto_region 16 with fail
     rw[HX6.o];clear q5 z5;go_wp2_with fail;obtain⟨dT,hdT,hdA⟩:=Q8.1 d1L;refine bodyPost_ret (a0c rfl _ _ g 53 xs dT rfl HB7 hdT hdA (ρy HXL.o b8N)) rfl ?_;exact HFIN
def TxK(tb:Nat)(l:LI)(w w':WD):Prop:=∀r,(txT l).2=.ok r->∃A1 c1 A2 c2,Blk w' tb 53 (txV A1 c1 A2 c2 (txT l).1)/\a4W w w' A1 A2 (txT l).1
theorem b6I(p s a:Nat)(l:LI)(f:l.length<=400000000)(w:WD)(h:a0S w p s l)(g:p<w.heap.size)(j:s<w.heap.size)(d:s≠a)(b:Blk w a 53 c5J):
  Calls prog 134 #[.pointer p,.pointer a] w λe w'=>a6D p s (txT l).2 e w'/\Fr (λk=>k=a\/k=p) w w'/\TxK a l w w':=by
 have v:=b9z p s l f w h g j;have H:p≠a:=h.far b ρd;have O:=b.lt;have⟨st,o⟩:=η0 ((txT l).2);unfold b5j at v;rw[o]at v⊢;have⟨HT,HL,N⟩:=η3 b O o;clear b O o h;go_enter func134,ntmps134;go_wp2_with fail;refine μ1 v ?_;rintro e X ⟨Z,S⟩;have K:=HT.fr S (λe=>H e.symm)
 cases st with
 |
  error x=>
  obtain rfl:=Z;exact⟨rfl,rfl,S.mono (λ_ _ e=>.inr e),λr Y=>by rw[N.o]at Y;cases Y⟩
 |
  ok r=>
  obtain⟨⟨z,B,F,D,rfl,E⟩,R⟩:=Z;have y:=P7 b8N K (by simp[c5J]) (txV z B F D (txT l).1).toList (by simp[txV]) (by simp[txV,Value.oneCell']);rw[show(txV z B F D (txT l).1).toList.toArray=txV z B F D (txT l).1 by simp]at y;have T:=ρr (a) X (txV z B F D (txT l).1);have Q:=K.row_ (txV z B F D (txT l).1);have m:=E.fr T (λk hk e=>by have:=HL.o;omega);have J:=R.fr T (show¬_=_ from H) (show¬_=_ from d);have W:=(S.mono (G:=λk=>k=a\/k=p) (λ_ _ e=>.inr e)).trans T (λk hk e=>.inl e);have I:TxK a l w (X.setRow a (txV z B F D (txT l).1)):=λ_ _=>⟨z,B,F,D,Q,m⟩
  generalize U:txV z B F D (txT l).1=xs at y J W I⊢
  have⟨V,F2,HK⟩:=η3 J W I;clear J W I K T R S v E m Q U;go_wp2;go_end0;exact⟨⟨rfl,V.o⟩,F2.o,HK.o⟩
theorem b3F(args:AV)(w:WD):(callFunc 134 args).run prog w=.ok (.enter 134 args) w:=ρk
def a6Z(b:Nat)(l:LI)(e:Ending)(w':WD):Prop:=
 match a5N l with
 | .error x=>e=.returned (.tuple #[.agg c5J,.int .i64 x])/\(x != 0)=true
 | .ok t=>∃A1 c1 A2 c2,e=.returned (.tuple #[.agg (txV A1 c1 A2 c2 t),.int .i64 0])/\a4W b w' A1 A2 t
theorem b8C(h:a8t (txT l).2≠0):a5N l=.error (a8t (txT l).2):=by
 unfold a5N
 cases hs:(txT l).2 with
 | error x=>rfl
 |
  ok r=>
  rw[hs]at h;have a:r≠[]:=λe=>by simp[a8t,e]at h
  have:0<r.length:=Ym.2 a
  simp[a8t,a,this]
theorem c2m(h:(txT l).2=.ok []):a5N l=if a1a (txT l).1=0 then .ok (txT l).1 else .error (a1a (txT l).1):=by
 unfold a5N;rw[h];exact if_neg ρp
theorem c7d(l:LI):(txT l).1.ins.length<=16/\(txT l).1.outs.length<=16:=⟨Qk (a9Z _ _) (a0P 16 _),Qk (a8d _ _) (a0P 16 _)⟩
attribute [local go_sem ↓] c4o
theorem c7G:∀v∈c5J.toList,v.oneCell'=true:=by simp[c5J,Value.oneCell']
theorem b8F(A:OA)(c:Nat)(a:A=none->c=0)(l:LI)(b:l.length<=400000000)(w:WD)(d:Byt w A l):
  Calls prog 81 #[.slice A l.length c] w λe w'=>a6Z w l e w'/\Below w w w':=by
 have a9:∀(fn:Fn) (first cap:AV) (w:WD),(Instr.makeFunc fn first cap).run prog w=.ok (.func fn first cap) w:=λ_ _ _ _=>rfl
 have⟨f,m⟩:=η0 c5J;have hz:f.size=4:=by rw[<-m];rfl
 have aJ:∀v∈f.toList,v.oneCell'=true:=by rw[<-m];exact c7G
 have af:∀W:WD,(ALs 53).run prog W=.ok (.pointer W) (W.alloc (.cells f 53)):=by rw[<-m];exact d0B
 have a7:∀W:WD,(BDs 53 #[]).run prog W=.ok (.agg f) W:=by rw[<-m];exact d1m
 have⟨g,hg⟩:=ηs w;have b0:=Qd w 53 f;have B0:=ρb w (.cells f 53);have K:=af w;have⟨W,hW⟩:=η0 (w.alloc (.cells f 53));have aF:W.heap.size=g+1:=by rw[<-hW,<-hg];simp
 rw[hW]at b0 B0 K;rw[hg]at b0 K;have b1:=Qd W 53 f;have ag:=b0.alloc (.cells f 53);have B1:=B0.alloc B0.size (.cells f 53);have Q:=af W
 generalize hV:W.alloc (.cells f 53)=V at b1 ag B1 Q
 rw[aF]at b1 Q;have aE:V.heap.size=g+2:=by rw[<-hV];simp;omega
 have ao:=a6Q 134 #[.pointer (g+1:Nat)] b3F A c a l b V (d.below B1) (λk=>k=g+1) (λk hk=>ρo) (txT l).2 (TxK (g+1) l)
  (λp s w2 hB hp hs a8 aX he=>b6I p s (g+1) l b w2 he aX ρo ρo (by rw[m];exact b1.fr (Q9 hB) ρo))
 have J:=b0L (c9h l);have ar:=b8C (l:=l);have⟨ev,aH⟩:=η0 (a8t (txT l).2);rw[aH]at ao J ar;have⟨aI,aY,HG,Y,aM,a2,HZ,aO⟩:=η8 ag B1 hg aE J ar hz aJ;have a0:=η1 m;clear ag B1 hg aE J ar hz aJ m b0 B0 b1 hW aF hV af aH d;go_enter func81,ntmps81;go_upto_region 2 with fail
 clear K Q;go_wp2_with fail;refine μ1 ao ?_;rintro e w1 ⟨rfl,f1,w2,w3,aU,T,hK,f3⟩;have aP:=aI.fr f1 (show¬_=_ by omega);have aC:Below w w w1:=aY.trans (f1.below (B:=w.heap.size) (ρi Y.o HG.o) (λk hk e=>by have:=HG.o;omega));obtain⟨dT,ai,al⟩:=Q8.1 d1L
 have ac:∀(x:Int) (X:WD),a5N l=.error x->(x != 0)=true->Below w w X->a6Z w l (.returned (.tuple #[.agg f,.int .i64 x])) X/\Below w w X:=λx X hr hx hB=>by
  refine⟨?_,hB⟩;unfold a6Z;rw[hr];exact⟨by rw[a0.o],hx⟩
 have⟨HB,aN,aL,HK,ah,ab⟩:=η6 aP aC f3 hK T ac;clear aP aC f3 hK T ac f1 ao aU
 by_cases z:ev=0
 ·have ae:=aM.1 z
  subst z;obtain⟨A1,c1,A2,c2,av,aQ⟩:=HK.o _ ae;have T:=ah.o;have aR:=Y.o;have y:=av.fr aL.o (show¬_=_ by omega);have o:=aQ.fr aL.o (λk hk=>ρo);have S:=c2m ae;obtain⟨a1,aT⟩:=c7d l;have⟨t,ht⟩:=η0 ((txT l).1);rw[ht]at y o S a1 aT;have I:=a3L A1 c1 A2 c2 t w1 o.at_ ρo ρo;have H:=λX (hX:Below w1 w1 X)=>Pb d1L b8N (w:=X) (txV A1 c1 A2 c2 t).toList (by simpa using y.fr (Q9 hX) (ρh y.lt)) rfl
  simp only[show(txV A1 c1 A2 c2 t).toList.toArray=txV A1 c1 A2 c2 t by simp]at H;have⟨U,R⟩:=η0 (txV A1 c1 A2 c2 t);have ay:U.size=4:=by rw[<-R];rfl
  have aK:∀v∈U.toList,v.oneCell'=true:=by rw[<-R];simp[txV,Value.oneCell']
  simp only[R]at H I;have a5:=H w1 (Qf _ _);have⟨ck,aa⟩:=η0 (a1a t);rw[aa]at I S;have⟨aW,a3,aS,au,aV,aA⟩:=η6 H o R ay aK S;clear H o R ay aK S av y aQ ae ht aa T aR;go_wp2_with fail;refine μ1 I ?_;rintro e w4 ⟨rfl,D⟩;have E:=φf HB D;have r:=φt aN D
  by_cases Z:ck=0
  ·subst Z
   have a4:=aW.o w4 D;have aj:=P7 b8N E HZ U.toList (ρw au.o) aV.o;rw[show U.toList.toArray=U by simp]at aj;have fs:=ρr (g) w4 U;have ad:=((a3.below D).fr fs (λk hk e=>by have:=ah.o;have:=Y.o;omega)).base (b':=w.heap.size) (by have:=ah.o;have:=Y.o;have:=HG.o;omega);have N:Below w w (w4.setRow g U):=Ql r (ρh HG.o) _;have j:=E.row_ U;have⟨aD,aq,G⟩:=η3 ad N j;clear ad N j fs E r D I;go_wp2;refine bodyPost_ret (v:=.tuple #[.agg U,.int .i64 0]) (a0k rfl _ _ g _ _ (0,0) G.o ai al (ρy au.o b8N) rfl) rfl ?_;refine⟨?_,aq.o⟩;unfold a6Z;rw[aA.o,if_pos trivial];exact⟨A1,c1,A2,c2,by rw[aS.o],aD.o⟩
  have an:(ck != 0)=true:=ρw Z;have aj:=P7 b8N E HZ f.toList (ρw HZ.o) aO.o;rw[show f.toList.toArray=f by simp]at aj;have N:Below w w (w4.setRow g f):=Ql r (ρh HG.o) _;have j:=E.row_ f;have O:a5N l=.error ck:=by rw[aA.o,if_neg Z]
  have⟨aq,G,ak,az⟩:=η4 N j O an;clear N j O an E r D I Z;have an:=az.o;go_wp2;refine bodyPost_ret (v:=.tuple #[.agg f,.int .i64 ck]) (a0k rfl _ _ g _ _ (0,0) G.o ai al (ρy HZ.o b8N) rfl) rfl ?_;exact ab.o ck _ ak az aq
 have O:=a2.o z;have F:(ev != 0)=true:=ρw z;have a6:(ev == 0)=false:=ρw z;have aG:=P7 b8N HB HZ f.toList (ρw HZ.o) aO.o;rw[show f.toList.toArray=f by simp]at aG;have j:=HB.row_ f;have aB:=Ql (g:=g) aN.o (ρh HG.o) f;have⟨ak,G,aZ,ax⟩:=η4 O j aB F;clear O j aB F z;have F:=ax.o;go_wp2;refine bodyPost_ret (v:=.tuple #[.agg f,.int .i64 ev]) (a0k rfl _ _ g _ _ (0,0) G.o ai al (ρy HZ.o b8N) rfl) rfl ?_;exact ab.o ev _ ak ax aZ
end
section
attribute [local go_sem ↓] a2t a2s a2n a6i a3w
def c8B(b:LI):LI:=a3x (9::(a6s b.length++b))
theorem Dig.own(b:LI):Dig (c8B b):=Dig.sha _
theorem c9j(b:LI):c8B b=a3x (9::(a6s b.length++b)):=by
 rfl
theorem c0u(A:OA)(c:Nat)(j:A=none->c=0)(b:LI)(w:WD)(a:Byt w A b)(d:b.length<=400000000)(f:a2x w):
  Calls prog 254 #[.slice A b.length c] w λe w'=>e=.returned (.agg (bys (c8B b)).toArray)/\Below w w w':=by
 obtain⟨z,O,H⟩:=Q8.1 b9C;have I:=Pc (t:=31) z O w;have⟨Z,hZ⟩:=η0 z.cells;rw[hZ]at I H;have Q:Z.size=32:=by rw[<-QD,H];rfl
 have Y:=Qd w 31 Z;have G:=ρb w (.cells Z 31);have⟨W,T⟩:=η0 (w.alloc (.cells Z 31));have⟨g,x⟩:=ηs w;rw[T]at G I;rw[T,x]at Y;rw[x]at I;have J:=ρb W (.cells #[.slice A b.length c] 22);have v:=Qd W 22 #[.slice A b.length c];have r:=(f.below G).below J;have p:=(a.below G).below J
 generalize E:W.alloc (.cells #[.slice A b.length c] 22)=w2 at v r p J
 have y:=a8z 9 ρo W.heap.size 0 1 A c j b w2 v.lt (v.cell 0) p d r;rw[<-c9j]at y
 generalize ad:b.length=np at E⊢
 have⟨D,U⟩:=η0 (c8B b);have B:(bys D).length=32:=by rw[a0a,<-U];exact(Dig.own b).1
 rw[U]at y⊢;have N:=G.trans (J.mono G.size);have⟨o,HW,HG,K,ac,HZ,aa,ab⟩:=η8 B T x G Y Q E J;clear B U T x G Y Q E J r p v O H hZ N ad d a f;go_enter func254,ntmps254;go_upto_region 1 with fail
 go_wp2_with fail;rw[aa.o];refine μi y ?_;intro w3 S;have m:=φt ab S;have F:=φf ac m;have V:=Pa (t:=31) a5m F (off:=0) (bys D) o.o (by rw[HZ.o];omega) (a0h _);rw[a0q _ _ (by rw[o.o,HZ.o])]at V;have⟨R,X⟩:=η2 m F;clear y S m F;go_wp2;exact bodyPost_ret (a0c rfl _ _ g 31 (bys D) _ rfl (X.row_ _) a5g rfl (ρy o.o a5m)) rfl ⟨rfl,Ql (K.trans (R.mono K.size)) (by rw[HG.o];omega) _⟩
attribute [local go_sem ↓] a1l
def b4F(h:a0Q):LI:=if a0w h=true then a3x (11::(a6s (a2a h).length++a2a h))else List.replicate 32 0
theorem Dig.hid(h:a0Q):Dig (b4F h):=by
 unfold b4F
 split
 ·exact Dig.sha _
 exact ZZ
theorem c5G(h:a0Q)(a:a0w h=true):b4F h=a3x (11::(a6s (a2a h).length++a2a h)):=if_pos a
theorem b1K(t:a0Q)(ht:t.Bd)(w:WD)(a:a2x w):
  Calls prog 49 #[.agg (a0b t).toArray] w λe w'=>e=.returned (.agg (bys (b4F t)).toArray)/\Below w w w':=by
 obtain⟨z,ag,Q⟩:=Q8.1 b9C;have⟨j,U⟩:=η0 ((a0b t).toArray);have aa:j.size=67:=by rw[<-U,Qc];exact a0f ht
 have E:=Pc (t:=31) z ag (w.alloc (.cells j 37));have⟨Z,hZ⟩:=η0 z.cells;rw[hZ]at E Q;have Y:Z.size=32:=by rw[<-QD,Q];rfl
 have b0:=(Qd w 37 j).alloc (.cells Z 31);have bz:=Qd (w.alloc (.cells j 37)) 31 Z;have B0:Below w w ((w.alloc (.cells j 37)).alloc (.cells Z 31)):=(ρb w _).alloc ρp _;simp only[Qi]at E bz;have⟨W,hW⟩:=η0 ((w.alloc (.cells j 37)).alloc (.cells Z 31));have⟨g,hg⟩:=ηs w;rw[hW]at B0 E;rw[hW,hg]at b0 bz;rw[hg]at E;have az:g<W.heap.size:=b0.lt;have ai:=Pb a1S a1h (w:=W) j.toList (ρw b0) (ρw aa);simp only[show j.toList.toArray=j by simp]at ai;have y:=a3A t ht W;rw[U]at y;have⟨D,hD⟩:=η0 (b4F t);have I:(bys D).length=32:=by rw[a0a,<-hD];exact(Dig.hid t).1
 rw[hD];have⟨HD,b,HW,HG,G,ae,HZ,al⟩:=η8 hD I hW hg B0 bz Y (a.below B0)
 have V:∀x∈(if a0w t=true then a2a t else []),0<=x/\x<=255:=by
  split
  ·exact a8g ht
  simp
 have ay:(a2a t).length<=100:=a7a ht;have⟨N,m⟩:=η2 V y;have⟨R,hR⟩:=η0 (a0w t);rw[hR]at m N;have HR:=η1 hR;clear hD I hW hg B0 bz Y a V y hR b0 ag Q hZ ht aa;rw[U]
 by_cases ah:R=true
 ·subst ah
  simp only[if_true]at m N;have hid:=c5G t HR;rw[HD.o]at hid;have ao:=η1 hid;clear hid;go_enter func49,ntmps49;go_upto_region 1 with fail
  rw[HG.o];go_wp2_with fail;refine μ1 m.o ?_;rintro e w1 ⟨v,rfl,j,d⟩;obtain⟨Af,cf,aj,ad,aq,an⟩:=j.byt N;have X:Af=none->cf=0:=λe=>by subst e;subst aj;exact a0N.nulI j
  subst aj;have B:=Qd w1 22 #[.slice Af (a2a t).length cf];have B2:=ρb w1 (.cells #[.slice Af (a2a t).length cf] 22);have o:=(al.below d).below B2;have r:=ad.below B2;have H:=d.size;have T:=d.trans (B2.mono H)
  generalize J:w1.alloc (.cells #[.slice Af (a2a t).length cf] 22)=w2 at B o r T
  have S:=a8z 11 ρo w1.heap.size 0 1 Af cf X (a2a t) w2 B.lt (B.cell 0) r ρo o;rw[<-ao.o]at S
  generalize av:(a2a t).length=np at J⊢
  have⟨ak,ac⟩:=η2 J T;clear j ad aq an X B B2 o r H T J d av;go_wp2_with fail;rw[ak.o];refine μi S ?_;intro w3 ab;have p:=φt ac ab;have f:=φf ae p;have F:=Pa (t:=31) a5m f (off:=0) (bys D) b.o (by rw[HZ.o];omega) (a0h _);rw[a0q _ _ (by rw[b.o,HZ.o])]at F;have⟨af,K⟩:=η2 p f;clear S ab p f;go_wp2;exact bodyPost_ret (a0c rfl _ _ (g+1) 31 (bys D) _ rfl (K.row_ _) a5g rfl (ρy b.o a5m)) rfl ⟨rfl,Ql (G.trans (af.mono G.size)) (by rw[HG.o];omega) _⟩
 have hid:D=List.replicate 32 0:=by rw[<-HD.o];unfold b4F;rw[HR.o,if_neg ah]
 subst hid;go_enter func49,ntmps49;go_upto_region 1 with fail
 rw[HG.o];go_wp2_with fail;refine μ1 m.o ?_;rintro e w1 ⟨v,rfl,j,d⟩;have f:=φf ae d;have F:=Pa (t:=31) a5m f (off:=0) (bys (List.replicate 32 0)) b.o (by rw[HZ.o];omega) (a0h _);rw[a0q _ _ (by rw[b.o,HZ.o])]at F;have au:=λW=>b1S W
 have⟨ys,O⟩:=η0 (bys (List.replicate 32 0));rw[O]at F au b;have⟨ar,ax,K⟩:=η3 O d f;clear j d f O;go_wp2;exact bodyPost_ret (a0c rfl _ _ (g+1) 31 ys _ rfl (K.row_ _) a5g rfl (ρy b.o a5m)) rfl ⟨by rw[<-ar.o],Ql (G.trans (ax.mono G.size)) (by rw[HG.o];omega) _⟩
end
section
theorem a0E:a5c.length=4:=rfl
theorem a5O:∀v∈a5c,v.oneCell'=true:=by simp[a5c,Value.oneCell']
theorem a0n:zId.length=32:=by simp[zId]
theorem c2l{k:Int}{T:LV}{C:VL}{ow id:LI}{am ser ep:Int}(x:Int):(a1Q k T C ow am ser ep id).toArray.setIfInBounds 0 (.int .i64 x)=(a1Q x T C ow am ser ep id).toArray:=by simp[a1Q]
theorem c7p(h:a0o m (.ok l)=(k,.error x)):k=0:=by
 unfold a0o at h;simp only at h
 cases h2:a4K m l with
 | error y=>rw[h2]at h;simp only[Prod.mk.injEq]at h;exact h.1.symm
 | ok q=>rw[h2]at h;simp at h
theorem b7N(n:Nat)(x:Int):a2u n (.error x)=([],.error x):=by simpa using a3D (a3G (.error x)) n
theorem b1L{s:St}(h:StE s):∀j,StE (a2u j s).2
 | 0=>by rw[a3G];exact h
 |
  j+1=>by
  have ih:=b1L h j
  cases hj:a2u j s with
  |
   mk L t=>
   rw[hj]at ih
   cases t with
   | error x=>rw[a3D hj 1];exact ih
   | ok l=>rw[a6F hj];exact a5A (s:=.ok l) trivial
theorem c4f{s:St}(h:StE s):StE (a3H k s).2:=by
 unfold a3H
 split
 ·exact a1L (a5W (a1L h))
 split
 ·exact a5A h
 split
 ·exact b1L (a1L (a5A h)) _
 split
 ·exact a1L h
 split
 ·exact a5W h
 exact h
theorem d0I(s:St):a3H 1 s=(⟨(a0o 1099511627776 s).1,(idT (a0o 1099511627776 s).2).1,(a0o 4611686018427387904 (idT (a0o 1099511627776 s).2).2).1,[],[],0,zId⟩,(a0o 4611686018427387904 (idT (a0o 1099511627776 s).2).2).2):=if_pos rfl
theorem c0h(h:2<=k/\k<=3)(s:St):a3H k s=({a4D with t:=(a0C 4096 s).1},(a0C 4096 s).2):=by
 unfold a3H;rw[if_neg ρo,if_pos h]
theorem c2N(h:4<=k/\k<=6)(s:St):a3H k s=({a4D with t:=(a0C 4096 s).1,cs:=(a2u (a0o 16 (a0C 4096 s).2).1 (a0o 16 (a0C 4096 s).2).2).1},(a2u (a0o 16 (a0C 4096 s).2).1 (a0o 16 (a0C 4096 s).2).2).2):=by
 unfold a3H;rw[if_neg ρo,if_neg ρo,if_pos h]
theorem d0M(s:St):a3H 7 s=({a4D with ep:=(a0o 1099511627776 s).1},(a0o 1099511627776 s).2):=by
 unfold a3H;rw[if_neg ρo,if_neg ρo,if_neg ρo,if_pos rfl]
theorem c9L(s:St):a3H 8 s=(a4D,s):=by
 unfold a3H;rw[if_neg ρo,if_neg ρo,if_neg ρo,if_neg ρo,if_neg ρo]
theorem d1d(s:St):a3H 9 s=({a4D with id:=(idT s).1},(idT s).2):=by
 unfold a3H;rw[if_neg ρo,if_neg ρo,if_neg ρo,if_neg ρo,if_pos rfl]
def a5Z(l:LI):St:=if okS (a0o 9 (.ok l)).2=true/\(a0o 9 (.ok l)).1=0 then .error 25 else(a3H (a0o 9 (.ok l)).1 (a0o 9 (.ok l)).2).2
theorem b4o(l:LI):StE (a5Z l):=by
 unfold a5Z
 split
 ·simp[StE]
 exact c4f (a1L (s:=.ok l) trivial)
structure a5Q(b:Nat)(w:WD)(R:LW)(L:LL):Prop where
 len:R.length=L.length
 at_:∀j (h:j<L.length),∃v,R[j]? =some [v]/\a0N b w v L[j]
theorem a5Q.nil(b:Nat)(w:WD):a5Q b w [] []:=⟨rfl,λj h=>absurd h ρp⟩
theorem a5Q.fr{b:Nat}{w a:WD}{R:LW}{L:LL}{F:Nat->Prop}(h:a5Q b w R L)(d:Fr F w a)(f:∀k cs,b<=k->Blk w k 5 cs->¬F k):a5Q b a R L:=⟨h.len,λj hj=>by
 obtain⟨v,h1,h2⟩:=h.at_ j hj;refine⟨v,h1,h2.fr d (λk hk=>?_)⟩;obtain⟨cs,hb,_⟩:=a2B h2 hk;exact f k cs (h2.lt hk).1 hb⟩
theorem a5Q.snoc(h:a5Q b w R L){t:LI}(ht:a0N b w v t):a5Q b w (R++[[v]]) (L++[t]):=by
 have d:=h.len;refine⟨by simp[d],λj f=>?_⟩
 by_cases a:j<L.length
 ·obtain⟨u,m,g⟩:=h.at_ j a
  rw[ZK a,QO ρo];exact⟨u,m,g⟩
 obtain rfl:j=L.length:=by simp at f;omega
 refine⟨v,?_,?_⟩
 ·rw[QL ρo];simp[d]
 simpa using ht
theorem a0N.fr8{B:Nat}{a:WD}{F:Nat->Prop}(h:a0N B w v l)(b:Fr F w a)(d:∀k cs,B<=k->Blk w k 5 cs->¬F k):a0N B a v l:=h.fr b (λk hk=>by
 obtain⟨cs,hb,_⟩:=a2B h hk;exact d k cs (h.lt hk).1 hb)
structure LkC(g p s:Nat)(w w':WD)(k:Int)(r:b8k)(l:LI):Prop where
 com:Blk w' g 58 (a1Q k a5c (.slice none 0 0) r.ow r.am r.ser r.ep r.id).toArray
 txt:∃vt vc R,Blk w' (g+1) 171 #[vt,vc]/\a0N (g+2) w' vt r.t/\a0T 22 1 (g+2) w' vc R/\a5Q (g+2) w' R r.cs
 eye:a0S w' p s l
 fr:Fr (λk=>k=p) w w'
 ow:r.ow.length=32
 id:r.id.length=32
section
variable {g p s:Nat} {w w1 w2:WD} {k:Int} {r:b8k} {l l':LI}
theorem LkC.step(h:LkC g p s w w1 k r l)(d:w.heap.size=g)(f:p<g)(a:Fr (λk=>k=p) w1 w2)(b:a0S w2 p s l'):LkC g p s w w2 k r l':=by
 obtain⟨x,v,R,z,m,o,y⟩:=h.txt;exact⟨h.com.fr a ρo,⟨x,v,R,z.fr a ρo,m.fr a (λk j e=>by have:=(m.lt j).1;omega),o.fr a (λk j e=>by have:=(o.lt j).1;omega),y.fr a (λk cs j _ e=>ρo)⟩,b,h.fr.trans a (λ_ _ e=>e),h.ow,h.id⟩
theorem LkC.keep(h:LkC g p s w w1 k r l)(a:Fr (λ_=>False) w1 w2):LkC g p s w w2 k r l:=by
 obtain⟨d,b,R,m,f,o,j⟩:=h.txt;exact⟨h.com.fr a (λe=>e),⟨d,b,R,m.fr a (λe=>e),f.fr a (λ_ _ e=>e),o.fr a (λ_ _ e=>e),j.fr a (λ_ _ _ _ e=>e)⟩,h.eye.fr a (λe=>e) (λe=>e),h.fr.trans a (λ_ _ e=>e.elim),h.ow,h.id⟩
theorem LkC.put(h:LkC g p s w w1 k r l)(v:w.heap.size=g)(x:p<g)(y:s<g){a:b8k}{d:Int}(f:Blk w2 g 58 (a1Q d a5c (.slice none 0 0) a.ow a.am a.ser a.ep a.id).toArray)(b:Fr (λj=>j=g) w1 w2)(ht:a.t=r.t)(m:a.cs=r.cs)(o:a.ow.length=32)(hi:a.id.length=32):LkC g p s w w2 d a l:=by
 obtain⟨F,E,R,H,B,D,G⟩:=h.txt;exact⟨f,⟨F,E,R,H.fr b ρo,by rw[ht];exact B.fr b (λk z e=>by have:=(B.lt z).1;omega),D.fr b (λk z e=>by have:=(D.lt z).1;omega),by rw[m];exact G.fr b (λk cs z _ e=>ρo)⟩,h.eye.fr b ρo ρo,h.fr.trans b (λk z e=>ρo),o,hi⟩
end
theorem b0y{P:PG}{fn:Func}{p q:Tmp}{ty a:TI}(h:fn.results=#[.cell p ty,.cell q a])(tmps:AV)(w:WD)(g g':Nat)(t m:TI)(cs b:AV)(fr f:Nat×Nat){d j:TypeDesc}
  (hg:w.heap[g]? =some (.cells cs t fr)) (hu:P.underlying ty=some d) (hd:a1f d=true) (hi:(P.info? ty).map (·.size)=some cs.size) (hp:tmps.getD p undef=.pointer g)
  (hg':w.heap[g']? =some (.cells b m f)) (hu':P.underlying a=some j) (hd':a1f j=true) (hi':(P.info? a).map (·.size)=some b.size) (hq:tmps.getD q undef=.pointer g'):
  (results fn tmps).run P w=.ok (.tuple #[.agg cs,.agg b]) w:=by
 have r:tmps[p]?.getD undef=.pointer g:=ρw hp;have o:tmps[q]?.getD undef=.pointer g':=ρw hq;simp[results,h,r,o,asAddr,run_loadVar_row w g t ty cs fr d hg hu (by cases d<;>simp_all [a1f]) hi,run_loadVar_row w g' m a b f j hg' hu' (by cases j<;>simp_all [a1f]) hi']
def b2w(g p s:Nat)(l:LI)(e:Ending)(w':WD):Prop:=
 match a5Z l with
 | .error x=>e=.panicked [{v:=a1T x,recovered:=false}]
 | .ok q=>(∃vt vc R,e=.returned (.tuple #[.agg (a1Q ((a0o 9 (.ok l)).1:Int) a5c (.slice none 0 0) (a3H (a0o 9 (.ok l)).1 (a0o 9 (.ok l)).2).1.ow (a3H (a0o 9 (.ok l)).1 (a0o 9 (.ok l)).2).1.am (a3H (a0o 9 (.ok l)).1 (a0o 9 (.ok l)).2).1.ser (a3H (a0o 9 (.ok l)).1 (a0o 9 (.ok l)).2).1.ep (a3H (a0o 9 (.ok l)).1 (a0o 9 (.ok l)).2).1.id).toArray,.agg #[vt,vc]])/\
  a0N g w' vt (a3H (a0o 9 (.ok l)).1 (a0o 9 (.ok l)).2).1.t/\a0T 22 1 g w' vc R/\a5Q g w' R (a3H (a0o 9 (.ok l)).1 (a0o 9 (.ok l)).2).1.cs)/\a0S w' p s q
abbrev b2G:=ldOf 171
abbrev b2W:=stOf 171
abbrev b3i:=alOf 171
theorem c6k(w:WD):(ALs 171).run prog w=.ok (.pointer w) (w.alloc (.cells #[.slice none 0 0,.slice none 0 0] 171)):=a0U (.agg #[.slice none 0 0,.slice none 0 0]) ρk w
theorem d1F:(prog.underlying 171).map a1f=some true:=ρk
theorem c7e:(prog.info? 171).map (·.size)=some 2:=ρk
attribute [local go_sem ↓] a7s b3x b2U b2G b2W b3i a2t a2s a2n c4R c4M
theorem b6T(p s:Nat)(l:LI)(a:l.length<=400000000)(w:WD)(h:a0S w p s l)(b:p<w.heap.size)(d:s<w.heap.size):
  Calls prog 79 #[.pointer p] w λe w'=>b2w w p s l e w'/\Fr (λk=>k=p) w w':=by
 have⟨g,hg⟩:=ηs w;have⟨zc,bu⟩:=η0 a7G.toArray;have aW:=c6G w;have b0:=Qd w 58 zc;have B0:=ρb w (.cells zc 58);rw[bu]at aW;have⟨W1,bF⟩:=η0 (w.alloc (.cells zc 58));have aB:W1.heap.size=g+1:=by rw[<-bF,<-hg];simp
 rw[bF]at b0 B0 aW;rw[hg]at b0 aW;have bb:=c6k W1;have bn:=b0.alloc (.cells #[.slice none 0 0,.slice none 0 0] 171);have b1:=Qd W1 171 #[.slice none 0 0,.slice none 0 0];have B1:=B0.alloc B0.size (.cells #[.slice none 0 0,.slice none 0 0] 171);have⟨W,hW⟩:=η0 (W1.alloc (.cells #[.slice none 0 0,.slice none 0 0] 171));have ax:W.heap.size=g+2:=by rw[<-hW];simp;omega
 rw[hW]at bn b1 B1 bb;rw[aB]at b1 bb;have ah:p<g:=ρo;have a3:s<g:=ρo;have bA:=h.fr (Q9 B1) (show¬_<=_ by omega) (show¬_<=_ by omega);have bN:LkC g p s w W 0 a4D l:=⟨by rw[<-bu]at bn;exact bn,⟨_,_,[],b1,⟨rfl,.inl ⟨rfl,rfl⟩⟩,a0T.nil _ _ _ _,a5Q.nil _ _⟩,bA,(Q9 B1).mono (λk y e=>ρo),a0n,a0n⟩
 have bz:∀(x:Int) (w':WD),a5Z l=.error x->Fr (λk=>k=p) w w'->b2w g p s l (.panicked [{v:=a1T x,recovered:=false}]) w'/\Fr (λk=>k=p) w w':=λx w' hx hf=>by
  refine⟨?_,hf⟩;unfold b2w;rw[hx]
 have aG:=a5w p s l 9 ρo (by have:l.length<=400000000:=a;omega) W bA;obtain⟨Q,s0,h0⟩:∃v st,a0o 9 (.ok l)=(v,st):=⟨_,_,rfl⟩;have bl:=a0P 9 (.ok l);have bo:=a1b (most:=9) (st:=.ok l) (n:=400000000) a;rw[h0]at aG bl bo;rw[show((9:Nat):Int)=9 from rfl]at aG;simp only at aG bl bo;have cf:=a1r bl ρo;have⟨HG,bs,cI,b7,af,H0,ai,cF⟩:=η8 hg aB ax bN bz h0 bo bu;have cB:=η1 bl;clear hg aB ax bN bz h0 bo bu bl h b0 B0 bn b1 B1 bF hW bA;go_enter func79,ntmps79;rw[HG.o];go_upto_region 1 with fail
 clear aW bb;skip;skip;go_wp2_with fail;refine μ1 aG ?_;rintro e w1 ⟨Z,f1⟩
 cases s0 with
 |
  error x=>
  obtain rfl:=Z
  have hc:a5Z l=.error x:=by
   unfold a5Z;have cC:Q=0:=c7p H0;rw[H0.o,cC];exact(if_neg (by simp[okS])).trans rfl
  exact⟨rfl,af.o x _ hc (b7.fr.trans f1 (λ_ _ h=>h))⟩
 |
  ok O=>
  obtain⟨rfl,b5⟩:=Z
  generalize hK:(Q:Int)=kd at cf⊢
  have bm:=b7.step HG ah f1 b5;have q0:w1.cell? ⟨g,0,none⟩=some (.int .i64 0):=(bm.com.cell 0).trans a4a;have z0:=bm.com.frozen 0;have kb:=bm.com.set_ 0 (.int .i64 kd);rw[c2l]at kb;have N:Fr (λj=>j=g) w1 (w1.setCell ⟨g,0,none⟩ (.int .i64 kd)):=(Qp (λj=>j=g) w1).setCell (p:=⟨g,0,none⟩) (λ_=>rfl) _;have bK:LkC g p s w (w1.setCell ⟨g,0,none⟩ (.int .i64 kd)) kd a4D O:=bm.put HG ah a3 kb N rfl rfl a0n a0n
  generalize ca:w1.setCell ⟨g,0,none⟩ (.int .i64 kd)=w2 at bK
  have⟨F,cu,HK⟩:=η3 bK ca hK;clear bK ca hK bm kb N b5 f1 aG;go_upto_region 2 with fail
  rw[cu.o];clear q0 z0 cf;have q0:w2.cell? ⟨g,0,none⟩=some (.int .i64 kd):=(F.com.cell 0).trans a4a;go_upto_region 3 with fail
  clear q0
  have au:1<=Q->a5Z l=(a3H Q (.ok O)).2:=λy=>by
   unfold a5Z;rw[H0.o];exact if_neg (λh=>by have:=h.2;simp only at this;omega)
  have cj:Q=0\/Q=1\/Q=7\/Q=9\/Q=8\/(Q=2\/Q=3)\/Q=4\/Q=5\/Q=6:=by have:=cB.o;omega
  have bv:∀(r:b8k) (q:LI),a3H Q (.ok O)=(r,.ok q)->1<=Q->∀(X:WD) (vt vc:VL) (R:LW),a0N (g+2) X vt r.t->a0T 22 1 (g+2) X vc R->a5Q (g+2) X R r.cs->a0S X p s q->Fr (λk=>k=p) w X->
    ∀KK:Int,(Q:Int)=KK->b2w g p s l (.returned (.tuple #[.agg (a1Q KK a5c (.slice none 0 0) r.ow r.am r.ser r.ep r.id).toArray,.agg #[vt,vc]])) X/\Fr (λk=>k=p) w X:=λr q hr y X vt vc R o1 o2 o3 Z hf KK J=>by
   refine⟨?_,hf⟩;unfold b2w;rw[au y,H0.o,hr]
   exact⟨⟨vt,vc,R,by rw[<-J],o1.base ρo,o2.base ρo,⟨o3.len,λj hj=>by
    obtain⟨v,h1,h2⟩:=o3.at_ j hj;exact⟨v,h1,h2.base ρo⟩⟩⟩,Z⟩
  have⟨aC,bx⟩:=η2 au bv;clear au bv
  rcases cj with y | y | y | y | y | y | y
  focus
   obtain rfl:kd=0:=by have:=HK.o;omega
   go_wp2_with fail;refine(a5J _ 25 rfl w2).mono ?_;rintro e w' ⟨rfl,hw⟩;rw[hw];exact⟨rfl,af.o 25 _ (by unfold a5Z;rw[H0.o,y];exact if_pos ⟨rfl,rfl⟩) F.fr⟩
  focus
   obtain rfl:kd=1:=by have:=HK.o;omega
   have U:=a5w p s O 1099511627776 ρo (by have:O.length<=400000000:=ai.o;omega) w2 F.eye;obtain⟨k1,s1,h1⟩:∃v st,a0o 1099511627776 (.ok O)=(v,st):=⟨_,_,rfl⟩;have aq:=a0P 1099511627776 (.ok O);have aU:=a1b (most:=1099511627776) (st:=.ok O) (n:=400000000) ai.o;rw[h1]at U aq aU;rw[show((1099511627776:Nat):Int)=1099511627776 from rfl]at U;simp only at U aq aU;have bB:=a1r aq ρo;have⟨H1,bw⟩:=η2 h1 aU;clear h1 aU;go_upto_region 6 with fail
   go_wp2_with fail;refine μ1 U ?_;rintro e w3 ⟨Z,f3⟩;have D:=d0I (.ok O);rw[H1.o]at D;simp only at D
   rcases s1 with x | l1
   focus
    obtain rfl:=Z;rw[c1M,a3t]at D;exact⟨rfl,af.o x _ (by rw[aC.o ρo,y,D]) (F.fr.trans f3 (λ_ _ h=>h))⟩
   obtain⟨rfl,bj⟩:=Z;have ar:=F.step HG ah f3 bj;have q3:w3.cell? ⟨g,39,none⟩=some (.int .i64 0):=(ar.com.cell 39).trans (a7c a0E a0n);have z3:=ar.com.frozen 39;have kb:=ar.com.set_ 39 (.int .i64 k1);rw[b8S a0E (show a4D.ow.length=32 from a0n)]at kb;have N:Fr (λj=>j=g) w3 (w3.setCell ⟨g,39,none⟩ (.int .i64 k1)):=(Qp (λj=>j=g) w3).setCell (p:=⟨g,39,none⟩) (λ_=>rfl) _;have a1:LkC g p s w (w3.setCell ⟨g,39,none⟩ (.int .i64 k1)) 1 {a4D with ser:=k1} l1:=ar.put HG ah a3 kb N rfl rfl a0n a0n
   generalize bX:w3.setCell ⟨g,39,none⟩ (.int .i64 k1)=w4 at a1
   have B:=c4T p s l1 (by have:l1.length<=400000000:=bw.o;omega) w4 a1.eye (ρh a1.fr.size) (ρh a1.fr.size);obtain⟨d2,s2,h2⟩:∃v st,idT (.ok l1)=(v,st):=⟨_,_,rfl⟩;have I:=a1R (.ok l1);have aj:=a3U (st:=.ok l1) (n:=400000000) bw.o;rw[h2]at B I aj;simp only at B I aj;have⟨cd,cg,HR,H2,aF⟩:=η5 a1 bX D h2 aj;clear a1 bX D h2 aj ar kb N bj f3 U;go_upto_region 7 with fail
   rw[cg.o];clear q3 z3 bB;go_wp2_with fail;refine μ1 B ?_;rintro e w5 ⟨Z,f5⟩;have D:=HR.o;rw[H2.o]at D;simp only at D
   rcases s2 with x | l2
   focus
    obtain rfl:=Z;rw[a3t]at D;exact⟨rfl,af.o x _ (by rw[aC.o ρo,y,D]) (cd.fr.trans f5 (λ_ _ h=>h))⟩
   obtain⟨rfl,ak⟩:=Z;have E:=cd.step HG ah f5 ak;have an:=Pa a5m E.com (off:=6) (bys d2) (ρy a0a I) (by rw[Qc,a2I a0E (show a4D.ow.length=32 from a0n) (show a4D.id.length=32 from a0n)];omega) (a0h _);rw[c7k a0E (show a4D.ow.length=32 from a0n) I]at an;have kb:=E.com.row_ (a1Q 1 a5c (.slice none 0 0) d2 0 (k1:Int) 0 zId).toArray;have N:=ρr (g) w5 (a1Q 1 a5c (.slice none 0 0) d2 0 (k1:Int) 0 zId).toArray;have aA:LkC g p s w (w5.setRow g (a1Q 1 a5c (.slice none 0 0) d2 0 (k1:Int) 0 zId).toArray) 1 {a4D with ser:=k1,ow:=d2} l2:=E.put HG ah a3 kb N rfl rfl I a0n;have⟨w6,aY⟩:=η0 (w5.setRow g (a1Q 1 a5c (.slice none 0 0) d2 0 (k1:Int) 0 zId).toArray);replace an:=an.trans (show _=Result.ok () w6 by rw[<-aY];rfl);rw[aY]at aA
   generalize bI:(bys d2).toArray=tv at an⊢
   have ac:=a5w p s l2 4611686018427387904 ρo (by have:l2.length<=400000000:=aF.o;omega) w6 aA.eye;obtain⟨k3,s3,h3⟩:∃v st,a0o 4611686018427387904 (.ok l2)=(v,st):=⟨_,_,rfl⟩;have aT:=a0P 4611686018427387904 (.ok l2);have aM:=a1b (most:=4611686018427387904) (st:=.ok l2) (n:=400000000) aF.o;rw[h3]at ac aT aM;rw[show((4611686018427387904:Nat):Int)=4611686018427387904 from rfl]at ac;simp only at ac aT aM;have⟨a6,ch,H3⟩:=η3 aA D h3;clear aA D h3 E kb N ak f5 B aY bI;go_upto_region 8 with fail
   clear an;go_wp2_with fail;refine μ1 ac ?_;rintro e w7 ⟨Z,f7⟩;have D:=ch.o;rw[H3.o]at D;simp only at D
   rcases s3 with x | l3
   focus
    obtain rfl:=Z;exact⟨rfl,af.o x _ (by rw[aC.o ρo,y,D]) (a6.fr.trans f7 (λ_ _ h=>h))⟩
   obtain⟨rfl,a7⟩:=Z;have aI:=a6.step HG ah f7 a7;have q7:w7.cell? ⟨g,38,none⟩=some (.int .u64 0):=(aI.com.cell 38).trans (a7h a0E I);have z7:=aI.com.frozen 38;have kb:=aI.com.set_ 38 (.int .u64 k3);rw[b9n a0E I]at kb;have N:Fr (λj=>j=g) w7 (w7.setCell ⟨g,38,none⟩ (.int .u64 k3)):=(Qp (λj=>j=g) w7).setCell (p:=⟨g,38,none⟩) (λ_=>rfl) _;have m:LkC g p s w (w7.setCell ⟨g,38,none⟩ (.int .u64 k3)) 1 {a4D with ser:=k1,ow:=d2,am:=k3} l3:=aI.put HG ah a3 kb N rfl rfl I a0n;have z:a3H Q (.ok O)=({a4D with ser:=k1,ow:=d2,am:=k3},.ok l3):=by rw[y,D];rfl
   generalize hV:w7.setCell ⟨g,38,none⟩ (.int .u64 k3)=V at m
   have⟨S,ab⟩:=η0 (({a4D with ser:=k1,ow:=d2,am:=k3}:b8k):b8k);rw[ab]at m z;have⟨qq,T⟩:=η0 l3;rw[T]at m z;have⟨KK,J⟩:=η0 ((1:Int):Int);have ag:(Q:Int)=KK:=by have:=HK.o;omega
   rw[J]at m;have H:1<=Q:=ρo;have⟨aH,ad,aN,aO,aQ⟩:=η5 hV m z ag H;clear hV m z ag H aI kb N a7 f7 ac D ab T J aq I aT;go_upto_region 24 with fail
   rw[aH.o];clear q7 z7
  rotate_left
  focus
   obtain rfl:kd=7:=by have:=HK.o;omega
   have U:=a5w p s O 1099511627776 ρo (by have:O.length<=400000000:=ai.o;omega) w2 F.eye;obtain⟨k1,s1,h1⟩:∃v st,a0o 1099511627776 (.ok O)=(v,st):=⟨_,_,rfl⟩;have aq:=a0P 1099511627776 (.ok O);have aU:=a1b (most:=1099511627776) (st:=.ok O) (n:=400000000) ai.o;rw[h1]at U aq aU;rw[show((1099511627776:Nat):Int)=1099511627776 from rfl]at U;simp only at U aq aU;have bB:=a1r aq ρo;have H1:=η1 h1;clear h1;go_upto_region 21 with fail
   go_wp2_with fail;refine μ1 U ?_;rintro e w3 ⟨Z,f3⟩;have D:=d0M (.ok O);rw[H1.o]at D;simp only at D
   rcases s1 with x | l1
   focus
    obtain rfl:=Z;exact⟨rfl,af.o x _ (by rw[aC.o ρo,y,D]) (F.fr.trans f3 (λ_ _ h=>h))⟩
   obtain⟨rfl,bj⟩:=Z;have ar:=F.step HG ah f3 bj;have q3:w3.cell? ⟨g,40,none⟩=some (.int .i64 0):=(ar.com.cell 40).trans (a9t a0E a0n);have z3:=ar.com.frozen 40;have kb:=ar.com.set_ 40 (.int .i64 k1);rw[b9J a0E (show a4D.ow.length=32 from a0n)]at kb;have N:Fr (λj=>j=g) w3 (w3.setCell ⟨g,40,none⟩ (.int .i64 k1)):=(Qp (λj=>j=g) w3).setCell (p:=⟨g,40,none⟩) (λ_=>rfl) _;have m:LkC g p s w (w3.setCell ⟨g,40,none⟩ (.int .i64 k1)) 7 {a4D with ep:=k1} l1:=ar.put HG ah a3 kb N rfl rfl a0n a0n;have z:a3H Q (.ok O)=({a4D with ep:=k1},.ok l1):=by rw[y,D]
   generalize hV:w3.setCell ⟨g,40,none⟩ (.int .i64 k1)=V at m
   have⟨S,ab⟩:=η0 (({a4D with ep:=k1}:b8k):b8k);rw[ab]at m z;have⟨qq,T⟩:=η0 l1;rw[T]at m z;have⟨KK,J⟩:=η0 ((7:Int):Int);have ag:(Q:Int)=KK:=by have:=HK.o;omega
   rw[J]at m;have H:1<=Q:=ρo;have⟨aH,ad,aN,aO,aQ⟩:=η5 hV m z ag H;clear hV m z ag H ar kb N bj f3 U D ab T J;go_upto_region 24 with fail
   rw[aH.o];clear q3 z3 bB
  rotate_left
  focus
   obtain rfl:kd=9:=by have:=HK.o;omega
   have B:=c4T p s O (by have:O.length<=400000000:=ai.o;omega) w2 F.eye (ρh F.o.fr.size) (ρh F.o.fr.size);obtain⟨d2,s2,h2⟩:∃v st,idT (.ok O)=(v,st):=⟨_,_,rfl⟩;have I:=a1R (.ok O);have aj:=a3U (st:=.ok O) (n:=400000000) ai.o;rw[h2]at B I aj;simp only at B I aj;have H2:=η1 h2;clear h2;go_upto_region 23 with fail
   go_wp2_with fail;refine μ1 B ?_;rintro e w5 ⟨Z,f5⟩;have D:=d1d (.ok O);rw[H2.o]at D;simp only at D
   rcases s2 with x | l2
   focus
    obtain rfl:=Z;exact⟨rfl,af.o x _ (by rw[aC.o ρo,y,D]) (F.fr.trans f5 (λ_ _ h=>h))⟩
   obtain⟨rfl,ak⟩:=Z;have E:=F.step HG ah f5 ak;have an:=Pa a5m E.com (off:=41) (bys d2) (ρy a0a I) (by rw[Qc,a2I a0E (show a4D.ow.length=32 from a0n) (show a4D.id.length=32 from a0n)];omega) (a0h _);rw[c8P a0E (show a4D.ow.length=32 from a0n) (show a4D.id.length=32 from a0n) I]at an;have kb:=E.com.row_ (a1Q 9 a5c (.slice none 0 0) zId 0 0 0 d2).toArray;have N:=ρr (g) w5 (a1Q 9 a5c (.slice none 0 0) zId 0 0 0 d2).toArray;have m:LkC g p s w (w5.setRow g (a1Q 9 a5c (.slice none 0 0) zId 0 0 0 d2).toArray) 9 {a4D with id:=d2} l2:=E.put HG ah a3 kb N rfl rfl a0n I;have z:a3H Q (.ok O)=({a4D with id:=d2},.ok l2):=by rw[y,D]
   have⟨V,hV⟩:=η0 (w5.setRow g (a1Q 9 a5c (.slice none 0 0) zId 0 0 0 d2).toArray);replace an:=an.trans (show _=Result.ok () V by rw[<-hV];rfl);rw[hV]at m
   generalize bI:(bys d2).toArray=tv at an⊢
   have⟨S,ab⟩:=η0 (({a4D with id:=d2}:b8k):b8k);rw[ab]at m z;have⟨qq,T⟩:=η0 l2;rw[T]at m z;have⟨KK,J⟩:=η0 ((9:Int):Int);have ag:(Q:Int)=KK:=by have:=HK.o;omega
   rw[J]at m;have H:1<=Q:=ρo;have⟨aH,ad,aN,aO,aQ⟩:=η5 hV m z ag H;clear hV m z ag H E kb N ak f5 B D bI ab T J;go_upto_region 24 with fail
   clear an
  rotate_left
  focus
   obtain rfl:kd=8:=by have:=HK.o;omega
   have z:a3H Q (.ok O)=(a4D,.ok O):=by rw[y,c9L]
   have m:=F.o;have⟨V,hV⟩:=η0 w2;rw[hV]at m;have⟨S,ab⟩:=η0 ((a4D:b8k):b8k);rw[ab]at m z;have⟨qq,T⟩:=η0 O;replace m:LkC g p s w V 8 S qq:=by rw[<-T];exact m
   replace z:a3H Q (.ok O)=(S,.ok qq):=by rw[<-T];exact z
   have⟨KK,J⟩:=η0 ((8:Int):Int);have ag:(Q:Int)=KK:=by have:=HK.o;omega
   rw[J]at m;have H:1<=Q:=ρo;have⟨aH,ad,aN,aO,aQ⟩:=η5 hV m z ag H;clear hV m z ag H ab T J;go_upto_region 24 with fail
   rw[aH.o]
  rotate_left
  focus
   have bU:2<=Q/\Q<=3:=ρo;have t0:(kd == 0)=false:=by have:=HK.o;simp;omega
   have t1:(kd == 1)=false:=by have:=HK.o;simp;omega
   have B:=b1P p s O 4096 ρo ai.o w2 F.eye;obtain⟨d2,s2,h2⟩:∃v st,a0C 4096 (.ok O)=(v,st):=⟨_,_,rfl⟩;have I:=a3o 4096 (.ok O);have aj:=a3c (most:=4096) (st:=.ok O) (n:=400000000) ai.o;rw[h2]at B I aj;rw[show((4096:Nat):Int)=4096 from rfl]at B;simp only at I aj;have⟨H2,cn⟩:=η2 h2 bU;clear h2 bU
   rcases y with y | y
   focus
    have t2:(kd == 2)=true:=by have:=HK.o;simp;omega
    go_upto_region 11 with fail
    clear t2
   rotate_left
   focus
    have t2:(kd == 2)=false:=by have:=HK.o;simp;omega
    have t3:(kd == 3)=true:=by have:=HK.o;simp;omega
    go_upto_region 11 with fail
    clear t2 t3
   all_goals
    clear t0 t1;go_wp2_with fail;refine μ1 B ?_;rintro e w5 ⟨Z,f5⟩;have D:=c0h cn (.ok O);rw[H2.o]at D;simp only at D
    rcases s2 with x | l2
    focus
     obtain rfl:=Z;exact⟨rfl,af.o x _ (by rw[aC.o ρo,D]) (F.fr.trans f5 (λ_ _ h=>h))⟩
    obtain⟨⟨vt,rfl,ho⟩,ak⟩:=Z;obtain⟨Ao,No,co,rfl⟩:=ho.sl;have E:=F.step HG ah f5 ak;obtain⟨bE,a5,R0,x1,x2,x3,x4⟩:=E.txt;have q5:w5.cell? ⟨g+1,0,none⟩=some bE:=x1.cell 0;have z5:=x1.frozen 0;have kt:Blk (w5.setCell ⟨g+1,0,none⟩ (.slice Ao No co)) (g+1) 171 #[.slice Ao No co,a5]:=by simpa using x1.set_ 0 (.slice Ao No co)
    have N:Fr (λj=>j=g+1) w5 (w5.setCell ⟨g+1,0,none⟩ (.slice Ao No co)):=(Qp (λj=>j=g+1) w5).setCell (p:=⟨g+1,0,none⟩) (λ_=>rfl) _;have be:g+2<=w2.heap.size:=by have h1:=F.txt;obtain⟨_,_,_,h2,_⟩:=h1;have:=h2.lt;omega
    have av:=ho.base (B':=g+2) be;have m:LkC g p s w (w5.setCell ⟨g+1,0,none⟩ (.slice Ao No co)) kd {a4D with t:=d2} l2:=⟨E.com.fr N ρo,⟨_,a5,R0,kt,av.fr N (λk y e=>by have:=(av.lt y).1;omega),x3.fr N (λk y e=>by have:=(x3.lt y).1;omega),x4.fr N (λk cs y _ e=>ρo)⟩,ak.fr N ρo ρo,E.fr.trans N (λk y e=>by have:=HG.o;omega),E.ow,E.id⟩
    generalize hV:w5.setCell ⟨g+1,0,none⟩ (.slice Ao No co)=V at m
    have z:a3H Q (.ok O)=({a4D with t:=d2},.ok l2):=D;have⟨S,ab⟩:=η0 (({a4D with t:=d2}:b8k):b8k);rw[ab]at m z;have⟨qq,T⟩:=η0 l2;rw[T]at m z;have⟨KK,J⟩:=η0 kd;have ag:(Q:Int)=KK:=by rw[<-J];exact HK.o
    rw[J]at m;have H:1<=Q:=ρo;have⟨aH,ad,aN,aO,aQ⟩:=η5 hV m z ag H;clear hV m z ag H E x1 x2 x3 x4 kt N ho av ak f5 B D ab T J;go_upto_region 24 with fail
    rw[aH.o];clear q5 z5
  rotate_left 2
  focus
   have bO:4<=Q/\Q<=6:=ρo;have t0:(kd == 0)=false:=by have:=HK.o;simp;omega
   have t1:(kd == 1)=false:=by have:=HK.o;simp;omega
   have t2:(kd == 2)=false:=by have:=HK.o;simp;omega
   have t3:(kd == 3)=false:=by have:=HK.o;simp;omega
   have B:=b1P p s O 4096 ρo ai.o w2 F.eye;obtain⟨d2,s2,h2⟩:∃v st,a0C 4096 (.ok O)=(v,st):=⟨_,_,rfl⟩;have I:=a3o 4096 (.ok O);have aj:=a3c (most:=4096) (st:=.ok O) (n:=400000000) ai.o;rw[h2]at B I aj;rw[show((4096:Nat):Int)=4096 from rfl]at B;simp only at I aj;have⟨H2,cD,aF⟩:=η3 h2 bO aj;clear h2 bO aj
   rcases y with y | y | y
   focus
    have t4:(kd == 4)=true:=by have:=HK.o;simp;omega
    go_upto_region 15 with fail
    clear t4
   rotate_left
   focus
    have t4:(kd == 4)=false:=by have:=HK.o;simp;omega
    have t5:(kd == 5)=true:=by have:=HK.o;simp;omega
    go_upto_region 15 with fail
    clear t4 t5
   rotate_left
   focus
    have t4:(kd == 4)=false:=by have:=HK.o;simp;omega
    have t5:(kd == 5)=false:=by have:=HK.o;simp;omega
    have t6:(kd == 6)=true:=by have:=HK.o;simp;omega
    go_upto_region 15 with fail
    clear t4 t5 t6
   all_goals
    clear t0 t1 t2 t3;go_wp2_with fail;refine μ1 B ?_;rintro e w5 ⟨Z,f5⟩;have D:=c2N cD (.ok O);rw[H2.o]at D;simp only at D
    rcases s2 with x | l2
    focus
     obtain rfl:=Z;rw[a3t,b7N]at D;exact⟨rfl,af.o x _ (by rw[aC.o ρo,D]) (F.fr.trans f5 (λ_ _ h=>h))⟩
    obtain⟨⟨vt,rfl,ho⟩,ak⟩:=Z;obtain⟨Ao,No,co,rfl⟩:=ho.sl;have E:=F.step HG ah f5 ak;obtain⟨bE,a5,R0,x1,x2,x3,x4⟩:=E.txt;have q5:w5.cell? ⟨g+1,0,none⟩=some bE:=x1.cell 0;have z5:=x1.frozen 0;have kt:Blk (w5.setCell ⟨g+1,0,none⟩ (.slice Ao No co)) (g+1) 171 #[.slice Ao No co,a5]:=by simpa using x1.set_ 0 (.slice Ao No co)
    have N:Fr (λj=>j=g+1) w5 (w5.setCell ⟨g+1,0,none⟩ (.slice Ao No co)):=(Qp (λj=>j=g+1) w5).setCell (p:=⟨g+1,0,none⟩) (λ_=>rfl) _;have be:g+2<=w2.heap.size:=by have h1:=F.txt;obtain⟨_,_,_,h2,_⟩:=h1;have:=h2.lt;omega
    have av:=ho.base (B':=g+2) be;have aA:LkC g p s w (w5.setCell ⟨g+1,0,none⟩ (.slice Ao No co)) kd {a4D with t:=d2} l2:=⟨E.com.fr N ρo,⟨_,a5,R0,kt,av.fr N (λk y e=>by have:=(av.lt y).1;omega),x3.fr N (λk y e=>by have:=(x3.lt y).1;omega),x4.fr N (λk cs y _ e=>ρo)⟩,ak.fr N ρo ρo,E.fr.trans N (λk y e=>by have:=HG.o;omega),E.ow,E.id⟩
    generalize aY:w5.setCell ⟨g+1,0,none⟩ (.slice Ao No co)=w6 at aA
    have ac:=a5w p s l2 16 ρo (by have:l2.length<=400000000:=aF.o;omega) w6 aA.eye;obtain⟨k3,s3,h3⟩:∃v st,a0o 16 (.ok l2)=(v,st):=⟨_,_,rfl⟩;have aT:=a0P 16 (.ok l2);have aM:=a1b (most:=16) (st:=.ok l2) (n:=400000000) aF.o;rw[h3]at ac aT aM;rw[show((16:Nat):Int)=16 from rfl]at ac;simp only at ac aT aM;have⟨a6,cA,H3,bZ,HR⟩:=η5 aA aY h3 aM D;clear aA aY h3 aM D E x1 x2 x3 x4 kt N ho av ak f5 B;go_upto_region 16 with fail
    rw[cA.o];clear q5 z5;go_wp2_with fail;refine μ1 ac ?_;rintro e w7 ⟨Z,f7⟩;have⟨n,hn⟩:=η0 k3;rw[hn]at aT H3;have D:=HR.o;rw[H3.o]at D;simp only at D
    rcases s3 with x | l3
    focus
     obtain rfl:=Z;rw[b7N]at D;exact⟨rfl,af.o x _ (by rw[aC.o ρo,D]) (a6.fr.trans f7 (λ_ _ h=>h))⟩
    obtain⟨rfl,a7⟩:=Z;have aI:=a6.step HG ah f7 a7;rw[hn];have⟨cr,bR⟩:=η2 aI D;clear aI D a7 f7 ac;go_upto_region 17 with fail
    go_loopg [43] n (λkk c wr=>∃(j:Nat) (L:LL) (lj:LI),j+kk=n/\c=.int .u64 j/\a2u j (.ok l3)=(L,.ok lj)/\LkC g p s w wr kd {a4D with t:=d2,cs:=L} lj);exact⟨0,[],l3,by omega,rfl,a3G _,cr.o⟩;obtain⟨j,L,lj,hj,rfl,a0,br⟩:=hrel
    by_cases cv:j<n
    ·have bV:(j:Int)<n:=ρo
     have az:=a6F a0;have bt:=a7j (.ok l3) j;have bk:=b0S bZ j;rw[a0]at bt bk;simp only at bt bk;obtain⟨X,hX⟩:∃X,X=wr.drew:=⟨_,rfl⟩;have bp:LkC g p s w X kd {a4D with t:=d2,cs:=L} lj:=by rw[hX];exact br.keep (Qp _ _).drew
     obtain⟨vt,vc,R,x1,x2,x3,x4⟩:=bp.txt;obtain⟨Ac,Nc,cc,rfl,bW⟩:=x3.formN;have ce:X.cell? ⟨g+1,1,none⟩=some (.slice Ac Nc cc):=x1.cell 1;have aX:=b1P p s lj 2048 ρo bk X bp.eye;obtain⟨d4,s4,h4⟩:∃v st,a0C 2048 (.ok lj)=(v,st):=⟨_,_,rfl⟩;have b8:=a3o 2048 (.ok lj);have b9:=a3c (most:=2048) (st:=.ok lj) (n:=400000000) bk;rw[h4]at aX b8 b9;rw[show((2048:Nat):Int)=2048 from rfl]at aX;simp only at b8 b9;have bS:g+2<=X.heap.size:=by have:=x1.lt;omega
     rw[h4]at az;simp only at az;have⟨bY,HX,bg,cx,cG,ck,a9,b3⟩:=η8 bp hX az bt a0 ce x1 x2;have⟨bQ,bT,cE,cw⟩:=η4 x3 x4 bW bS;clear bp hX az bt a0 ce x1 x2 x3 x4 bW bS br h4 bk;go_upto_region 18 with fail
     refine a3Y [(0,3),(2,3),(1,0),(3,1),(4,1),(5,2),(6,3),(7,2)] (λW=>W.cell? ⟨g+1,1,none⟩=some (.slice Ac Nc cc)) ρk ρk ρk ρk (ρz HX.o ck.o) ?_;rw[<-HX.o];refine ε2 ?_
     iterate 1 (with_reducible refine a0t (o:=?_) (v:=?_) (a':=?_) ρu ρu (λW' hS=>?_) ?_ ?_;rotate_left 2;(focus(skip;exact ρs));focus(exact ρs))
     refine κ ?_;intro K hK;refine μ1 aX ?_;rintro e w8 ⟨Z,f8⟩
     rcases s4 with x | l4
     focus
      obtain rfl:=Z;have b4:=a3D bg (n-(j+1));rw[show j+1+(n-(j+1))=n by omega]at b4;exact λa' cz=>⟨cz,af.o x _ (by rw[aC.o ρo,bR.o,b4]) (bY.fr.trans f8 (λ_ _ e=>e))⟩
     obtain⟨⟨v4,rfl,ho⟩,bJ⟩:=Z;obtain⟨a2,a4,aZ,rfl⟩:=ho.sl;have bi:=bY.step HG ah f8 bJ;have y1:=a9.fr f8 (show¬_=_ by omega);have y2:=b3.fr f8 (λk y e=>by have:=(b3.lt y).1;omega);have y3:=bQ.fr f8 (λk y e=>by have:=(bQ.lt y).1;omega);have y4:=bT.fr f8 (λk cs y _ e=>ρo);have av:=ho.base (B':=g+2) cw.o;have b2:g+2<=w8.heap.size:=by have:=y1.lt;omega
     have cq:=Pd d3a d2V ρo ρo w8 (.slice a2 a4 aZ) rfl;have aV:(Value.slice a2 a4 aZ).cells=[Value.slice a2 a4 aZ].toArray:=rfl;rw[aV]at cq;obtain⟨v6,x6,cH,bq,aP,-⟩:=a5o (P:=prog) (ty:=23) d3a d3n ρo ρo y3 [.slice a2 a4 aZ] rfl (by simp[Value.oneCell']) (by have:=cx.o;have:=bT.len;simp only at this;omega) b2;obtain⟨A6,N6,c6,rfl,ci⟩:=bq.formN;have ay:=λk y=>(y3.lt (k:=k) y).1
     have cy:w8.cell? ⟨g+1,1,none⟩=some (.slice Ac Nc cc):=y1.cell 1;have b6:(w8.alloc (.cells [Value.slice a2 a4 aZ].toArray 22)).cell? ⟨g+1,1,none⟩=some (.slice Ac Nc cc):=(y1.alloc _).cell 1;have bf:∀k cs,Blk w8 k 5 cs->¬(Value.slice Ac Nc cc).ownBlock=some k:=λk cs hb e=>a4l y3.own hb ρd e
     have z1:=y1.fr aP (λe=>by have:=ay _ e;omega);have q6:x6.cell? ⟨g+1,1,none⟩=some (.slice Ac Nc cc):=z1.cell 1;have z6:=z1.frozen 1;have k7:Blk (x6.setCell ⟨g+1,1,none⟩ (.slice A6 N6 c6)) (g+1) 171 #[vt,.slice A6 N6 c6]:=by simpa using z1.set_ 1 (.slice A6 N6 c6)
     have N:Fr (λk=>k=g+1) x6 (x6.setCell ⟨g+1,1,none⟩ (.slice A6 N6 c6)):=(Qp (λk=>k=g+1) x6).setCell (p:=⟨g+1,1,none⟩) (λ_=>rfl) _;have bM:a5Q (g+2) w8 (R++[[.slice a2 a4 aZ]]) (L++[d4]):=y4.snoc av
     have bP:LkC g p s w (x6.setCell ⟨g+1,1,none⟩ (.slice A6 N6 c6)) kd {a4D with t:=d2,cs:=L++[d4]} l4:=by
      refine⟨(bi.com.fr aP (λe=>by have:=ay _ e;omega)).fr N (show¬_=_ by omega),⟨vt,_,_,k7,(y2.fr8 aP (λk cs _ hb=>bf k cs hb)).fr N (λk y e=>by have:=(y2.lt y).1;omega),bq.fr N (λk y e=>by have:=(bq.lt y).1;omega),(bM.fr aP (λk cs _ hb=>bf k cs hb)).fr N (λk cs y _ e=>ρo)⟩,
       (bJ.fr aP (λe=>by have:=ay _ e;omega) (λe=>by have:=ay _ e;omega)).fr N (show¬_=_ by omega) (show¬_=_ by omega),(bi.fr.trans aP (λk y e=>by have:=ay _ e;have:=HG.o;omega)).trans N (λk y e=>by have:=HG.o;omega),bi.ow,bi.id⟩
     have cp:=η1 bP;clear bP y1 y2 y3 y4 bM ho av bq aP ci ay z1 k7 N bJ f8 aX bi bf aV;with_reducible refine hK _ _ (cy) ?_;clear hK K
     refine κ1 (b6) ?_;refine τ1 ?_;refine ε1 ?_;refine τ1 ?_;with_reducible refine a1N ?_
     rw[a0V];go_wp2;go_roundg (n-(j+1));exact⟨j+1,L++[d4],l4,by omega,by go_num,bg.o,cp.o⟩;omega
    have bV:¬(j:Int)<n:=ρo;obtain rfl:j=n:=ρo;obtain⟨V,hV⟩:∃V,V=wr:=⟨_,rfl⟩;subst hV;have z:a3H Q (.ok O)=({a4D with t:=d2,cs:=L},.ok lj):=by rw[bR.o,a0]
    have m:=br;have⟨S,ab⟩:=η0 (({a4D with t:=d2,cs:=L}:b8k):b8k);rw[ab]at m z;have⟨qq,T⟩:=η0 lj;rw[T]at m z;have⟨KK,J⟩:=η0 kd;have ag:(Q:Int)=KK:=by rw[<-J];exact HK.o
    rw[J]at m;have aq:1<=Q:=ρo;have⟨ad,aN,aO,aQ⟩:=η4 m z ag aq;clear m z ag aq br a0 ab T J cv;go_upto_region 24 with fail
    obtain⟨vt,vc,R,x1,x2,x3,x4⟩:=ad.txt;obtain⟨At,Nt,ct,rfl⟩:=x2.sl;obtain⟨Ac,Nc,cc,rfl,-⟩:=x3.formN;have ae:(a1Q KK a5c (.slice none 0 0) S.ow S.am S.ser S.ep S.id).length=73:=a2I a0E ad.ow ad.id;have al:∀v∈a1Q KK a5c (.slice none 0 0) S.ow S.am S.ser S.ep S.id,v.oneCell'=true:=a6g a5O rfl;have ao:=λX vt vc R o1 o2 o3 Z hf=>bx.o S qq aN.o aQ.o X vt vc R o1 o2 o3 Z hf KK aO.o
    have aa:=ad.com;have aJ:=ad.eye;have ba:=ad.fr;have⟨cs,au⟩:=η0 (a1Q KK a5c (.slice none 0 0) S.ow S.am S.ser S.ep S.id);rw[au]at ae al aa;simp only[au]at ao;have f1:∀W:WD,Fr (λk=>k=g) W (W.setRow g cs.toArray):=λW=>(Qp (λk=>k=g) W).setRow (g:=g) (λ_=>rfl) _
    have f2:∀W:WD,Fr (λk=>k=g+1) W (W.setRow (g+1) #[.slice At Nt ct,.slice Ac Nc cc]):=λW=>(Qp (λk=>k=g+1) W).setRow (g:=g+1) (λ_=>rfl) _
    have aD:∀W:WD,Blk W g 58 cs.toArray->(STs 58 (.pointer g) (.agg cs.toArray)).run prog W=.ok () (W.setRow g cs.toArray):=λW hb=>P7 a6X hb (ρy Qc ae) cs ae al
    have aE:∀W:WD,Blk W (g+1) 171 #[.slice At Nt ct,.slice Ac Nc cc]->(STs 171 (.pointer (g+1:Nat)) (.agg #[.slice At Nt ct,.slice Ac Nc cc])).run prog W=.ok () (W.setRow (g+1) #[.slice At Nt ct,.slice Ac Nc cc]):=λW hb=>P7 c7e hb rfl [.slice At Nt ct,.slice Ac Nc cc] rfl (by simp[Value.oneCell'])
    have aB:=aD V.drew aa;have kc:=(aa.drew).row_ cs.toArray;have kt:=x1.drew.fr (f1 V.drew) (show¬_=_ by omega);have ax:=aE _ kt;have aS:=kc.fr (f2 _) (show¬_=_ by omega);have aR:=kt.row_ #[.slice At Nt ct,.slice Ac Nc cc];have F2:Fr (λk=>k=g\/k=g+1) V ((V.drew.setRow g cs.toArray).setRow (g+1) #[.slice At Nt ct,.slice Ac Nc cc]):=(((Qp (λk=>k=g\/k=g+1) V).drew).trans ((f1 V.drew).mono (G:=λk=>k=g\/k=g+1) (λ_ _ e=>.inl e)) (λ_ _ e=>e)).trans ((f2 _).mono (G:=λk=>k=g\/k=g+1) (λ_ _ e=>.inr e)) (λ_ _ e=>e);have hF:=ao _ _ _ R (x2.fr F2 (λk y e=>by have:=(x2.lt y).1;omega)) (x3.fr F2 (λk y e=>by have:=(x3.lt y).1;omega)) (x4.fr F2 (λk cs y _ e=>ρo)) (aJ.fr F2 ρo ρo) (ba.trans F2 (λk y e=>by have:=HG.o;omega));have⟨Y,hY⟩:=η0 ((V.drew.setRow g cs.toArray).setRow (g+1) #[.slice At Nt ct,.slice Ac Nc cc])
    replace ax:=ax.trans (show _=Result.ok () Y by rw[<-hY]);rw[hY]at aS aR hF;have⟨Y1,aL⟩:=η0 (V.drew.setRow g cs.toArray);replace aB:=aB.trans (show _=Result.ok () Y1 by rw[<-aL]);rw[aL]at ax kt kc;have bc:Blk Y1 g 58 cs.toArray/\Blk Y1 (g+1) 171 #[.slice At Nt ct,.slice Ac Nc cc]:=⟨kc,kt⟩;have⟨HF,bD,bL,aK,bH,a9,bs⟩:=η7 hF aS aR ae aa x1 bc;clear hF aS aR ae aa x1 bc f1 f2 aD aE F2 hY aL x2 x3 x4 aJ ba ao kc kt au al;refine a0s [(0,0),(1,0),(2,1),(3,2)] (λW=>Blk W g 58 cs.toArray/\Blk W (g+1) 171 #[.slice At Nt ct,.slice Ac Nc cc]) ρk ρk ρk ρk ⟨bH.o,a9.o⟩ ?_
    iterate 2 refine θ2 (λW' hS=>QU (Pb b2N a6X _ hS.1 aK.o) (Pb d1F c7e [.slice At Nt ct,.slice Ac Nc cc] hS.2 rfl)) ?_
    refine κ1 (bs.o) ?_;refine τ1 ?_;refine ν ?_;go_wp2_with fail;obtain⟨dC,bC,bh⟩:=Q8.1 b2N;obtain⟨dX,bG,a8⟩:=Q8.1 d1F;refine bodyPost_ret (b0y rfl _ _ g (g+1) _ _ cs.toArray #[.slice At Nt ct,.slice Ac Nc cc] (0,0) (0,0) bD.o bC bh (by rw[Qc,aK.o];exact a6X) rfl bL.o bG a8 c7e rfl) rfl ?_;exact HF
  all_goals
   obtain⟨vt,vc,R,x1,x2,x3,x4⟩:=ad.txt;obtain⟨At,Nt,ct,rfl⟩:=x2.sl;obtain⟨Ac,Nc,cc,rfl,-⟩:=x3.formN;have ae:(a1Q KK a5c (.slice none 0 0) S.ow S.am S.ser S.ep S.id).length=73:=a2I a0E ad.ow ad.id;have al:∀v∈a1Q KK a5c (.slice none 0 0) S.ow S.am S.ser S.ep S.id,v.oneCell'=true:=a6g a5O rfl;have ao:=λX vt vc R o1 o2 o3 Z hf=>bx.o S qq aN.o aQ.o X vt vc R o1 o2 o3 Z hf KK aO.o
   have aa:=ad.com;have aJ:=ad.eye;have ba:=ad.fr;have⟨cs,au⟩:=η0 (a1Q KK a5c (.slice none 0 0) S.ow S.am S.ser S.ep S.id);rw[au]at ae al aa;simp only[au]at ao;have f1:∀W:WD,Fr (λk=>k=g) W (W.setRow g cs.toArray):=λW=>(Qp (λk=>k=g) W).setRow (g:=g) (λ_=>rfl) _
   have f2:∀W:WD,Fr (λk=>k=g+1) W (W.setRow (g+1) #[.slice At Nt ct,.slice Ac Nc cc]):=λW=>(Qp (λk=>k=g+1) W).setRow (g:=g+1) (λ_=>rfl) _
   have aD:∀W:WD,Blk W g 58 cs.toArray->(STs 58 (.pointer g) (.agg cs.toArray)).run prog W=.ok () (W.setRow g cs.toArray):=λW hb=>P7 a6X hb (ρy Qc ae) cs ae al
   have aE:∀W:WD,Blk W (g+1) 171 #[.slice At Nt ct,.slice Ac Nc cc]->(STs 171 (.pointer (g+1:Nat)) (.agg #[.slice At Nt ct,.slice Ac Nc cc])).run prog W=.ok () (W.setRow (g+1) #[.slice At Nt ct,.slice Ac Nc cc]):=λW hb=>P7 c7e hb rfl [.slice At Nt ct,.slice Ac Nc cc] rfl (by simp[Value.oneCell'])
   have aB:=aD V.drew aa;have kc:=(aa.drew).row_ cs.toArray;have kt:=x1.drew.fr (f1 V.drew) (show¬_=_ by omega);have ax:=aE _ kt;have aS:=kc.fr (f2 _) (show¬_=_ by omega);have aR:=kt.row_ #[.slice At Nt ct,.slice Ac Nc cc];have F2:Fr (λk=>k=g\/k=g+1) V ((V.drew.setRow g cs.toArray).setRow (g+1) #[.slice At Nt ct,.slice Ac Nc cc]):=(((Qp (λk=>k=g\/k=g+1) V).drew).trans ((f1 V.drew).mono (G:=λk=>k=g\/k=g+1) (λ_ _ e=>.inl e)) (λ_ _ e=>e)).trans ((f2 _).mono (G:=λk=>k=g\/k=g+1) (λ_ _ e=>.inr e)) (λ_ _ e=>e);have hF:=ao _ _ _ R (x2.fr F2 (λk y e=>by have:=(x2.lt y).1;omega)) (x3.fr F2 (λk y e=>by have:=(x3.lt y).1;omega)) (x4.fr F2 (λk cs y _ e=>ρo)) (aJ.fr F2 ρo ρo) (ba.trans F2 (λk y e=>by have:=HG.o;omega));have⟨Y,hY⟩:=η0 ((V.drew.setRow g cs.toArray).setRow (g+1) #[.slice At Nt ct,.slice Ac Nc cc])
   replace ax:=ax.trans (show _=Result.ok () Y by rw[<-hY]);rw[hY]at aS aR hF;have⟨Y1,aL⟩:=η0 (V.drew.setRow g cs.toArray);replace aB:=aB.trans (show _=Result.ok () Y1 by rw[<-aL]);rw[aL]at ax kt kc;have bc:Blk Y1 g 58 cs.toArray/\Blk Y1 (g+1) 171 #[.slice At Nt ct,.slice Ac Nc cc]:=⟨kc,kt⟩;have⟨HF,bD,bL,aK,bH,a9,bs⟩:=η7 hF aS aR ae aa x1 bc;clear hF aS aR ae aa x1 bc f1 f2 aD aE F2 hY aL x2 x3 x4 aJ ba ao kc kt au al;refine a0s [(0,0),(1,0),(2,1),(3,2)] (λW=>Blk W g 58 cs.toArray/\Blk W (g+1) 171 #[.slice At Nt ct,.slice Ac Nc cc]) ρk ρk ρk ρk ⟨bH.o,a9.o⟩ ?_
   iterate 2 refine θ2 (λW' hS=>QU (Pb b2N a6X _ hS.1 aK.o) (Pb d1F c7e [.slice At Nt ct,.slice Ac Nc cc] hS.2 rfl)) ?_
   refine κ1 (bs.o) ?_;refine τ1 ?_;refine ν ?_;go_wp2_with fail;obtain⟨dC,bC,bh⟩:=Q8.1 b2N;obtain⟨dX,bG,a8⟩:=Q8.1 d1F;refine bodyPost_ret (b0y rfl _ _ g (g+1) _ _ cs.toArray #[.slice At Nt ct,.slice Ac Nc cc] (0,0) (0,0) bD.o bC bh (by rw[Qc,aK.o];exact a6X) rfl bL.o bG a8 c7e rfl) rfl ?_;exact HF
end
section
theorem uTx:(prog.underlying 53).map a1f=some true:=ρk
theorem iTx:(prog.info? 53).map (·.size)=some 4:=ρk
abbrev a2q:=ldOf 53
attribute [local go_sem ↓] a2q a1D a3u a3h
structure b1Y(w:WD)(g o:Nat)(B:OA)(cap:Nat)(c:a0y):Prop where
 cell:∀j x,(a0d c B cap)[j]? =some x->w.cell? ⟨g,o+j,none⟩=some x
 path:RdR 32 w B (c.path.map bys)
 room:c.path.length<=cap
 nul:B=none->cap=0
 bd:c.Bd
theorem b1Y.below{w a:WD}{g o:Nat}{B:OA}{cap:Nat}{c:a0y}(h:b1Y w g o B cap c)(d:g<w.heap.size)(b:Below w w a):b1Y a g o B cap c:=
 ⟨λj x hx=>(b.cell (p:=⟨g,o+j,none⟩) d).trans (h.cell j x hx),h.path.below b,h.room,h.nul,h.bd⟩
def a4g(w:WD)(A:OA)(l:List a0y):Prop:=∀j (h:j<l.length),∃g off B cap,A=some ⟨g,off,none⟩/\g<w.heap.size/\b1Y w g (off+j*137) B cap l[j]
theorem a4g.below{w a:WD}{A:OA}{l:List a0y}(h:a4g w A l)(b:Below w w a):a4g a A l:=λj hj=>by
 obtain⟨g,off,B,cap,e,hg,hc⟩:=h j hj;exact⟨g,off,B,cap,e,Qh hg b.size,hc.below hg b⟩
theorem b1Y.ld{o:Nat}{c:a0y}(h:b1Y w g o B cap c):(LDs 39 (.pointer (some ⟨g,o,none⟩))).run prog w=.ok (.agg (a0d c B cap).toArray) w:=
 a2e a8j a4U w g o (a0d c B cap) (a0l h.bd B cap) h.cell
theorem b0q(t:TxD)(n:Int):(a2P t n).length<=t.ins.length:=by
 unfold a2P
 split
 ·simp
 simp
def a7L(t:TxD)(L:LI)(i:Nat):Int:=((L.take i).map λk=>(t.ins.getD k.toNat default).am).foldl (λa b=>IntKind.u64.wrap (a+b)) 0
theorem b1Z(t:TxD)(L:LI):a7L t L 0=0:=by simp[a7L]
theorem b2A(t:TxD)(L:LI){i:Nat}(hi:i<L.length):a7L t L (i+1)=IntKind.u64.wrap (a7L t L i+(t.ins.getD (L.getD i 0).toNat default).am):=by
 unfold a7L;rw[Qe hi,QV,List.foldl_append];simp[List.getD,hi]
theorem b1k(t:TxD)(n s:Int){N:Nat}(h:(a0M (a2P t n) s).length=N):a7L t (a0M (a2P t n) s) N=a6B t n s:=by
 subst h;unfold a7L a6B;rw[ZF]
theorem a2h(x:Int):0<=IntKind.u64.wrap x/\IntKind.u64.wrap x<=18446744073709551615:=by
 rw[IntKind.wrap_u64];omega
theorem b2Z(t:TxD)(L:LI)(i:Nat):0<=a7L t L i/\a7L t L i<=18446744073709551615:=by
 rcases Nat.lt_or_ge 0 (L.take i).length with h | h
 ·obtain⟨m,x,e⟩:=List.eq_nil_or_concat (L.take i) |>.resolve_left (λe=>by rw[e]at h;simp at h)
  unfold a7L;rw[e,List.concat_eq_append,QV,List.foldl_append];exact a2h _
 have:L.take i=[]:=Zv.1 ρo
 unfold a7L;rw[this]
 simp
theorem b9F(a:OA)(b:Nat)(d:OA)(f:Nat)(t:TxD)(n s:Int)(p:-9223372036854775808<=n/\n<=9223372036854775807)(w:WD)(h:a9H w a d t)(m:a2x w)(r:t.ins.length<=1000000)(o:t.outs.length<=1000000):
  Calls prog 217 #[.agg (txV a b d f t),.int .i64 n,.int .i64 s] w λe w'=>e=.returned (.int .u64 (a6B t n s))/\Below w w w':=by
 have R:=Qd w 53 (txV a b d f t);have S:=ρb w (.cells (txV a b d f t) 53)
 generalize hW:w.alloc (.cells (txV a b d f t) 53)=W at R S
 have⟨g,hg⟩:=ηs w;rw[hg]at R;have aa:=P4 uTx iTx (txV a b d f t).toList (ρw R) rfl;have F:=a6O a b d f t n s p W (h.below S) (m.below S) r o;have Y:=h.below S;have k0:∀X,Below W W X->X.cell? ⟨g,0,none⟩=some (.slice a t.ins.length b):=λX hX=>(R.fr (Q9 hX) (ρh R.lt)).cell 0
 have J:=a3I (a2P t n) s;have ad:=a1V (a2P t n) s;have B:=b0q t n;have Z:= @a4q t n;have⟨L,hL⟩:=η0 (a0M (a2P t n) s);have y:=λN=>b1k t n s (N:=N)
 rw[hL]at J ad F y
 have U:∀x∈L,∃i:Nat,x=(i:Int)/\i<t.ins.length:=λx hx=>by
  obtain⟨i,e,hi⟩:=(J x).1 hx;exact⟨i,e,Qh (Qm.1 hi).1 B⟩
 have ah:L.length<=16:=ρo;have⟨xs,Q⟩:=η0 (txV a b d f t);rw[show(txV a b d f t).toList.toArray=txV a b d f t by simp,Q]at aa;rw[Q]at hW F⊢
 generalize ay:a6B t n s=SA at y⊢
 have⟨HW,HG,HB,K0,an,au,ac,aA⟩:=η8 hW hg S k0 Y U y ah;clear hW hg S k0 Y U y ah J ad B Z ay hL Q R h m;go_enter func217,ntmps217;go_upto_region 1 with fail
 rw[HW.o,HG.o];go_wp2_with fail;refine μ1 F ?_;rintro e w1 ⟨v,u,rfl,hv,hu,D⟩;obtain⟨Av,I,cv,rfl⟩:=hv.formN;have hN:=hv.lenN;have ag:=hv.rd;have H:=φt HB D;have k0:=K0.o w1 D;have G:=an.below D;have O:=b1Z t L;have V:=ac.o I hN.symm;have aC:I<=16:=by have:=aA.o;omega
 have⟨HN,aq,ax,ae,ao⟩:=η5 hN ag H G V;clear hN ag H G V hv hu D ac F aa;go_wp2_with fail;rw[<-O];have aD:=η1 O;clear O;go_loopg [9,11,21] I (λkk q _ s wr=>∃i:Nat,i+kk=I/\s=.int .i64 i/\q=.int .u64 (a7L t L i)/\w1=wr);exact⟨0,by omega,rfl,rfl,rfl⟩;obtain⟨i,hi,rfl,rfl,rfl⟩:=hrel
 by_cases al:i<I
 ·have aj:(i:Int)<I:=ρo
  have B:i<L.length:=by rw[<-HN.o];exact al
  obtain⟨g1,o1,rfl,_,s1⟩:=aq.at B;have z:=b2A t L B;obtain⟨j,hj,E⟩:=au.o (L.getD i 0) (by simp[List.getD,B]);obtain⟨g2,o2,B2,d2,rfl,_,ai⟩:=ae.ins j E;have K:=ae.bd.ins _ (Qu E);have aB:=ai.cell 33 _ (c3t K _ _);rw[hj]at s1 z;have T:t.ins.getD (j:Int).toNat default=t.ins[j]:=by simp[List.getD,E]
  rw[T]at z;have az:=K.am;have av:=b2Z t L i;have⟨am,ab⟩:=η0 ((t.ins[j]).am);rw[ab]at z aB az;have⟨ni,af⟩:=η0 t.ins.length;rw[af]at k0 E;have aE:(j:Int)<ni:=ρo;have aF:(0:Int)<=(j:Int):=ρo
  generalize ak:a7L t L i=si at z av⊢
  have ar:=η1 z;clear z ai T ab af ak hj K;go_wp2;go_roundg (I-(i+1));exact⟨i+1,by omega,by go_num,by rw[ar.o],rfl⟩;omega
 obtain rfl:i=I:=ρo;have aj:¬(i:Int)<i:=ρo;rw[ao.o];go_wp2;go_ret;exact⟨rfl,ax.o⟩
end
section
attribute [local go_sem ↓] a2t a2s a2n a6i a3w
theorem c4I(p k:Nat)(seed:LI)(s:Int)(m:OA)(o:Nat)(b:LI)(w:WD)(x:a5n w p seed k)(y:0<=s/\s<(k:Int))(a:Byt w m b)(d:m=none->o=0)(z:b.length<=100000000)(f:a2x w):
  Calls prog 247 #[.pointer p,.int .i64 s,.slice m b.length o] w λe w'=>e=.returned (.tuple #[.agg (bys (a7C seed s b)).toArray,.bool true])/\Below w w w':=by
 obtain⟨A,c,H,ac⟩:=x;obtain⟨Z,aa,T,hz⟩:=P8 (t:=31) iId b1N;have b0:=Qd w 31 (Z);have I:=ρb w (.cells (Z) 31)
 generalize hW:w.alloc (.cells (Z) 31)=W at b0 I
 have⟨g,hg⟩:=ηs w;rw[hg]at b0;have J:=H.fr (Q9 I) (ρh H.lt);have hh:=c3u p k A c s W J;obtain⟨j,rfl⟩:=a1C y.1;have R:j<k:=ρo;have hd:decide (0<=(j:Int)/\(j:Int)<k)=true:=by simp[y]
 rw[hd]at hh;have B:((List.range k).map λ(i:Nat)=>a4X seed (i:Int)).length=k:=by simp
 have F:RdR 32 w A (((List.range k).map λ(i:Nat)=>a4X seed (i:Int)).map bys):=by rw[List.map_map];exact ac
 obtain⟨gk,ok,rfl,ae,K⟩:=RdR.byt F (λr x=>by obtain⟨i,_,rfl⟩:=Qs.1 x;exact Dig.ring _ _) (j:=j) (ρy B R);rw[show((List.range k).map λ(i:Nat)=>a4X seed (i:Int))[j]'(ρy B R)=a4X seed (j:Int) by simp]at K;have Q:(a4X seed (j:Int)).length=32:=(Dig.ring _ _).1;have E:=b6g (some ⟨gk,ok+j*32,none⟩) 32 (a4X seed (j:Int)) m o b W ρo (K.below I) (a.below I) d z (f.below I);rw[Q]at E;have q0:W.cell? ⟨p,0,none⟩=some (.slice (some ⟨gk,ok,none⟩) k c):=J.cell 0;have sl:=λX=>b0k (P:=prog) b1w i5 X gk (ok+j*32) ρo
 have Y:a7C seed (j:Int) b=b0H (a4X seed (j:Int)) b:=rfl;rw[Y];have⟨D,hD⟩:=η0 (b0H (a4X seed (j:Int)) b);have U:(bys D).length=32:=by rw[a0a,<-hD];exact(Dig.mac _ _).1
 rw[hD]at E⊢
 generalize hn:b.length=n at E⊢
 have ai:(j:Int)<k:=ρo;have aj:(0:Int)<=(j:Int):=ρo;have S:=aa w;have⟨HW,HG,HB,af,ab,HZ⟩:=η6 hW hg I b0 U hz;clear hW hg I b0 U hz a d z hn hD Y Q K F B ac f ae H J hd y T;go_enter func247,ntmps247;go_upto_region 1 with fail
 rw[HW.o,HG.o];go_wp2_with fail;refine μf hh ?_;go_wp2_with fail;refine μi E ?_;intro w3 O;have N:=φf af O;have ah:=P9 iId N HZ (bys D) ab.o (a0h _);have q1:=N.row_ (bys D).toArray;have q2:=Ql (g:=g) (φt HB O) (ρh HG.o) (bys D).toArray;obtain⟨dI,ad,G⟩:=Q8.1 a2i;have⟨Q1,Q2,ag,V⟩:=η4 q1 q2 ad G;clear q1 q2 ad G O N;clear hh E aa S q0 sl;go_wp2;refine bodyPost_ret (v:=.tuple #[.agg (bys D).toArray,.bool true]) (a0k rfl _ _ g _ _ (0,0) Q1.o ag.o V.o (by rw[Qc,ab.o];exact iId) rfl) rfl ?_;exact⟨rfl,Q2.o⟩
end
section
theorem RdR.frY{b:WD}{F:Nat->Prop}(h:RdR m w A R)(d:Fr F w b)(f:∀a,A=some a->¬F a.block):RdR m b A R:=λj hj=>by
 obtain⟨g,off,e,hg,hc⟩:=h j hj;exact⟨g,off,e,Qh hg d.size,λk x hx=>(d.cell (p:=⟨g,off+j*m+k,none⟩) hg (f ⟨g,off,none⟩ e)).trans (hc k x hx)⟩
structure b1r(b:Nat)(w:WD)(v:VL)(R:LW)(L:List a0y):Prop where
 len:R.length=L.length
 at_:∀j (h:j<L.length),∃B cap,R[j]? =some (a0d L[j] B cap)/\RdR 32 w B (L[j].path.map bys)/\L[j].path.length<=cap/\(B=none->cap=0)/\L[j].Bd/\∀a,B=some a->b<=a.block/\a.block<w.heap.size/\v.ownBlock≠some a.block
theorem b1r.nil(b:Nat)(w:WD)(v:VL):b1r b w v [] []:=⟨rfl,λj h=>absurd h ρp⟩
theorem b1r.fr{d:WD}{L:List a0y}{F:Nat->Prop}(h:b1r b w v R L)(f:Fr F w d)(g:∀k,b<=k->k<w.heap.size->¬F k):b1r b d v R L:=⟨h.len,λj hj=>by
 obtain⟨B,cap,h1,h2,h3,h4,h5,h6⟩:=h.at_ j hj;exact⟨B,cap,h1,h2.frY f (λa ha=>g _ (h6 a ha).1 (h6 a ha).2.1),h3,h4,h5,λa ha=>⟨(h6 a ha).1,Qh (h6 a ha).2.1 f.size,(h6 a ha).2.2⟩⟩⟩
theorem b1r.grow{d:WD}{f:VL}{L:List a0y}(h:b1r b w v R L)(g:Fr (λk=>v.ownBlock=some k) w d)(ht:a7W w v f):b1r b d f R L:=⟨h.len,λj hj=>by
 obtain⟨B,cap,h1,h2,h3,h4,h5,h6⟩:=h.at_ j hj;refine⟨B,cap,h1,h2.frY g (λa ha e=>(h6 a ha).2.2 e),h3,h4,h5,λa ha=>⟨(h6 a ha).1,Qh (h6 a ha).2.1 g.size,λe=>?_⟩⟩
 rcases ht _ e with h7 | h7
 ·exact(h6 a ha).2.2 h7
 have:=(h6 a ha).2.1;omega⟩
theorem b1r.snoc{L:List a0y}(h:b1r b w v R L){c:a0y}(g:RdR 32 w B (c.path.map bys))(d:c.path.length<=cap)(m:B=none->cap=0)(o:c.Bd)(f:∀a,B=some a->b<=a.block/\a.block<w.heap.size/\v.ownBlock≠some a.block):b1r b w v (R++[a0d c B cap]) (L++[c]):=by
 have x:=h.len;refine⟨by simp[x],λj z=>?_⟩
 by_cases p:j<L.length
 ·obtain⟨D,r,G,E,I,F,H,y⟩:=h.at_ j p
  rw[ZK p,QO ρo];exact⟨D,r,G,E,I,F,H,y⟩
 obtain rfl:j=L.length:=by simp at z;omega
 refine⟨B,cap,?_,?_,?_,m,?_,f⟩
 ·rw[QL ρo];simp[x]
 ·simpa using g
 ·simpa using d
 simpa using o
theorem b1r.certs{L:List a0y}(h:b1r b w v R L)(a:RdR 137 w A R):a4g w A L:=λj hj=>by
 obtain⟨B,cap,h1,h2,h3,h4,h5,_⟩:=h.at_ j hj;obtain⟨hjr,h1e⟩:=Qm.1 h1;obtain⟨g,off,e,hg,hc⟩:=a j hjr;exact⟨g,off,B,cap,e,hg,⟨λk x hx=>hc k x (ρy h1e hx),h2,h3,h4,h5⟩⟩
abbrev kOf(l:LI):Nat:=(a0o 9 (.ok l)).1
abbrev rOf(l:LI):b8k:=(a3H (a0o 9 (.ok l)).1 (a0o 9 (.ok l)).2).1
def d2w(cb lb:Nat)(l:LI)(w w':WD):Prop:=∀r,a5Z l=.ok r->∃vt vc R,Blk w' cb 58 (a1Q (kOf l:Int) a5c (.slice none 0 0) (rOf l).ow (rOf l).am (rOf l).ser (rOf l).ep (rOf l).id).toArray/\
 Blk w' lb 171 #[vt,vc]/\a0N w w' vt (rOf l).t/\a0T 22 1 w.heap.size w' vc R/\a5Q w w' R (rOf l).cs
def d3i(cb lb:Nat)(l:LI)(w':WD):Prop:=∀x,a5Z l=.error x->Blk w' cb 58 a7G.toArray/\Blk w' lb 171 #[.slice none 0 0,.slice none 0 0]
theorem a8F(k:Nat)(s:St):(a3H k s).1.ow.length=32/\(a3H k s).1.id.length=32:=by
 unfold a3H
 split
 ·exact⟨a1R _,a0n⟩
 split
 ·exact⟨a0n,a0n⟩
 split
 ·exact⟨a0n,a0n⟩
 split
 ·exact⟨a0n,a0n⟩
 split
 ·exact⟨a0n,a1R _⟩
 exact⟨a0n,a0n⟩
attribute [local go_sem ↓] a7s b3x b2U b8q b2G b2W b3i
theorem b5a(p s cb lb:Nat)(l:LI)(g:l.length<=400000000)(w:WD)(h:a0S w p s l)(j:p<w.heap.size)(m:s<w.heap.size)(d:s≠cb)(f:s≠lb)(a:Blk w cb 58 a7G.toArray)(b:Blk w lb 171 #[.slice none 0 0,.slice none 0 0]):
  Calls prog 78 #[.pointer p,.pointer cb,.pointer lb] w λe w'=>a6D p s (a5Z l) e w'/\Fr (λk=>(k=cb\/k=lb)\/k=p) w w'/\d2w cb lb l w w'/\d3i cb lb l w':=by
 have z:=b6T p s l g w h j m;have V:p≠cb:=h.far a ρd;have T:p≠lb:=h.far b ρd;have Y:cb≠lb:=a.ne_ b ρd;have ac:=a.lt;have ad:=b.lt;have⟨st,v⟩:=η0 (a5Z l);unfold b2w at z;rw[v]at z⊢;have⟨ab,aa,B⟩:=η3 a b v;clear a b v h;go_enter func78,ntmps78;go_wp2_with fail;refine μ1 z ?_;rintro e w1 ⟨he,U⟩;have b1:=ab.fr U (λe=>V e.symm);have b2:=aa.fr U (λe=>T e.symm)
 cases st with
 |
  error x=>
  obtain rfl:=he;exact⟨rfl,rfl,U.mono (λ_ _ e=>.inr e),(λr hr=>by rw[B.o]at hr;cases hr),λ_ _=>⟨b1,b2⟩⟩
 |
  ok r=>
  obtain⟨⟨vt,vc,R,rfl,o1,Z,o3⟩,X⟩:=he;obtain⟨I,K,O,rfl⟩:=o1.sl;obtain⟨N,J,F,rfl,-⟩:=Z.formN;obtain⟨ho,hi⟩:=a8F (a0o 9 (.ok l)).1 (a0o 9 (.ok l)).2;have D:=a2I (k:=(kOf l:Int)) a0E (C:=.slice none 0 0) ho (am:=(rOf l).am) (ser:=(rOf l).ser) (ep:=(rOf l).ep) hi;have E:=a6g (k:=(kOf l:Int)) a5O (C:=.slice none 0 0) rfl (ow:=(rOf l).ow) (am:=(rOf l).am) (ser:=(rOf l).ser) (ep:=(rOf l).ep) (id:=(rOf l).id);have o:=P7 a6X b1 (by rw[Qc];exact a2I a0E a0n a0n) _ D E;have f2:=ρr (cb) w1 (a1Q (kOf l:Int) a5c (.slice none 0 0) (rOf l).ow (rOf l).am (rOf l).ser (rOf l).ep (rOf l).id).toArray;have k1:=b1.row_ (a1Q (kOf l:Int) a5c (.slice none 0 0) (rOf l).ow (rOf l).am (rOf l).ser (rOf l).ep (rOf l).id).toArray;have k2:=b2.fr f2 (λe=>Y e.symm)
  have⟨w2,H⟩:=η0 (w1.setRow cb (a1Q (kOf l:Int) a5c (.slice none 0 0) (rOf l).ow (rOf l).am (rOf l).ser (rOf l).ep (rOf l).id).toArray);replace o:=o.trans (show _=Result.ok () w2 by rw[<-H]);rw[H]at f2 k1 k2;have W:=P7 c7e k2 rfl [.slice I K O,.slice N J F] rfl (by simp[Value.oneCell']);rw[show [Value.slice I K O,Value.slice N J F].toArray=#[.slice I K O,.slice N J F]from rfl]at W;have f3:=ρr (lb) w2 #[.slice I K O,.slice N J F];have k3:=k2.row_ #[.slice I K O,.slice N J F];have k4:=k1.fr f3 Y;have Q:Fr (λk=>k=cb\/k=lb) w1 (w2.setRow lb #[.slice I K O,.slice N J F]):=(f2.mono (G:=λk=>k=cb\/k=lb) (λ_ _ e=>.inl e)).trans f3 (λk S e=>.inr e);have hK:d2w cb lb l w (w2.setRow lb #[.slice I K O,.slice N J F]):=λ_ _=>⟨_,_,R,k4,k3,o1.fr Q (λk S e=>by have:=(o1.lt S).1;omega),Z.fr Q (λk S e=>by have:=(Z.lt S).1;omega),o3.fr Q (λk cs S _ e=>ρo)⟩
  have hE:=X.fr Q (λe=>by rcases e with e | e;exact V e;exact T e) (λe=>by rcases e with e | e;exact d e;exact f e);have hF:=(U.mono (G:=λk=>(k=cb\/k=lb)\/k=p) (λ_ _ e=>.inr e)).trans Q (λk S e=>.inl e);have⟨xs,y⟩:=η0 ((a1Q (kOf l:Int) a5c (.slice none 0 0) (rOf l).ow (rOf l).am (rOf l).ser (rOf l).ep (rOf l).id).toArray);simp only[y]at o;unfold kOf rOf at y;rw[y];have⟨HK,HE,HF⟩:=η3 hK hE hF;clear hK hE hF o1 Z o3 f2 f3 k1 k2 k3 k4 Q X U z b1 b2 D E H y ho hi;go_wp2;go_end0;exact⟨⟨rfl,HE.o⟩,HF.o,HK.o,λx hx=>by rw[B.o]at hx;cases hx⟩
theorem b1t(args:AV)(w:WD):(callFunc 78 args).run prog w=.ok (.enter 78 args) w:=ρk
theorem c1Y(k:Int)(w:WD):Calls prog 80 #[.int .i64 k] w λe w'=>e=.returned (.bool (decide (2<=k/\k<=6)))/\w=w':=by
 by_cases a:2<=k
 ·by_cases b:k<=6
  ·rw[show decide (2<=k/\k<=6)=true by simp[a,b]]
   go_enter func80,ntmps80;go_wp2;go_ret;exact⟨rfl,rfl⟩
  rw[show decide (2<=k/\k<=6)=false by simp[b]];have f:decide (k<=6)=false:=by simp;omega
  clear b;go_enter func80,ntmps80;go_wp2;go_ret;exact⟨rfl,rfl⟩
 rw[show decide (2<=k/\k<=6)=false by simp[a]];have d:decide (2<=k)=false:=by simp;omega
 clear a;go_enter func80,ntmps80;go_wp2;go_ret;exact⟨rfl,rfl⟩
theorem a7O(x:LI):∀L:LL,a1Z (L++[x])=match a1Z L with
  | .error e=>.error e
  |
   .ok C=>match a5s x with
   | .error e=>.error e
   | .ok c=>.ok (C++[c])
 |
  []=>by
  simp only[QF,a1Z]
  cases a5s x<;>rfl
 |
  y::L=>by
  simp only[QG,a1Z,a7O x L]
  cases a5s y with
  | error e=>rfl
  |
   ok c=>
   simp only
   cases a1Z L with
   | error e=>rfl
   |
    ok C=>
    simp only
    cases a5s x<;>rfl
theorem a9C:∀(L M:LL) (e:Int),a1Z L=.error e->a1Z (L++M)=.error e
 | [],_,_,h=>by simp[a1Z]at h
 |
  y::L,M,e,h=>by
  simp only[QG,a1Z]at h⊢
  cases hy:a5s y with
  | error e'=>rw[hy]at h;exact h
  |
   ok c=>
   rw[hy]at h;simp only at h⊢
   cases hL:a1Z L with
   |
    error e'=>
    rw[hL]at h;simp only[Except.error.injEq]at h;subst h;rw[a9C L M e' hL]
   | ok C=>rw[hL]at h;cases h
theorem c6R{s:St}(h:a9Q s):((a3H k s).1.t.length<=4096/\∀x∈(a3H k s).1.t,0<=x/\x<=255)/\((a3H k s).1.cs.length<=16/\∀d∈(a3H k s).1.cs,d.length<=2048/\∀x∈d,0<=x/\x<=255):=by
 have z:(([]:LI).length<=4096/\∀x∈([]:LI),0<=x/\x<=255)/\(([]:LL).length<=16/\∀d∈([]:LL),d.length<=2048/\∀x∈d,0<=x/\x<=255):=by simp
 have t:=a4u (most:=4096) h;unfold a3H
 split
 ·exact z
 split
 ·exact⟨⟨a3o _ _,t.2⟩,z.2⟩
 split
 ·exact⟨⟨a3o _ _,t.2⟩,Qk (a7j _ _) (a0P 16 _),(b3V (a2c t.1) _).1⟩
 split
 ·exact z
 split
 ·exact z
 exact z
theorem a5Q.get{c:Nat}(h:a5Q b w R L)(a:a0T 22 1 g w (.slice A n c) R){j:Nat}(d:j<L.length):
  ∃q o v,A=some ⟨q,o,none⟩/\w.cell? ⟨q,o+j,none⟩=some v/\a0N b w v L[j]:=by
 obtain⟨v,r,p⟩:=h.at_ j d;obtain⟨D,B,e,x,-⟩:=a.rd;simp only[Value.slice.injEq]at e;obtain⟨rfl,-,-⟩:=e;obtain⟨m,f⟩:=Qm.1 r;obtain⟨q,o,e,z,y⟩:=x j m
 have:=y 0 v (by rw[f];rfl)
 exact⟨q,o,v,e,by simpa using this,p⟩
def c0w(l:LI)(t:TxD)(R:Except Int (List a0y)):Except Int c7Z:=
 match R with
 | .error x=>.error x
 | .ok L=>.ok ⟨(kOf l:Int),t,L,(rOf l).ow,((rOf l).am:Int),((rOf l).ser:Int),((rOf l).ep:Int),(rOf l).id⟩
theorem b9k(a:l.length<=8192):a2o l=match a5Z l with
  | .error x=>.error x
  | .ok r=>if 0<r.length then .error 3 else if 2<=kOf l/\kOf l<=6 then
   (match a5N (rOf l).t with
   | .error x=>.error x
   | .ok t=>c0w l t (a1Z (rOf l).cs))
    else c0w l zTx (.ok []):=by
 unfold a2o a5Z;rw[if_neg ρo]
 by_cases f:okS (a0o 9 (.ok l)).2=true/\(a0o 9 (.ok l)).1=0
 ·rw[if_pos f,if_pos f]
 rw[if_neg f,if_neg f]
 cases hs:(a3H (a0o 9 (.ok l)).1 (a0o 9 (.ok l)).2).2 with
 | error x=>rfl
 |
  ok r=>
  simp only
  by_cases d:0<r.length
  ·rw[if_pos d,if_pos d]
  rw[if_neg d,if_neg d]
  by_cases b:2<=(a0o 9 (.ok l)).1/\(a0o 9 (.ok l)).1<=6
  ·rw[if_pos b,if_pos b]
   cases a5N (a3H (a0o 9 (.ok l)).1 (a0o 9 (.ok l)).2).1.t with
   | error x=>rfl
   |
    ok t=>
    simp only[c0w]
    cases a1Z (a3H (a0o 9 (.ok l)).1 (a0o 9 (.ok l)).2).1.cs with
    | error x=>rfl
    |
     ok L=>
     simp only
     rcases Nat.lt_or_ge 3 (a0o 9 (.ok l)).1 with g | g
     ·simp only[rOf,c2N (k:=(a0o 9 (.ok l)).1) ⟨by omega,by omega⟩]
      rfl
     simp only[rOf,c0h (k:=(a0o 9 (.ok l)).1) ⟨by omega,by omega⟩]
     rfl
  rw[if_neg b,if_neg b]
  rfl
def a5x(b:Nat)(l:LI)(e:Ending)(w':WD):Prop:=
 match a2o l with
 | .error x=>e=.returned (.tuple #[.agg a7G.toArray,.int .i64 x])/\(x != 0)=true
 | .ok c=>∃A1 c1 A2 c2 A cap R,e=.returned (.tuple #[.agg (a1Q c.kind (txV A1 c1 A2 c2 c.t).toList (.slice A c.certs.length cap) c.ow c.am c.ser c.ep c.id).toArray,.int .i64 0])/\a4W b w' A1 A2 c.t/\
  a0T 39 137 b w' (.slice A c.certs.length cap) R/\b1r b w' (.slice A c.certs.length cap) R c.certs
end
end Go.Proofs.YtpolljfkceanaaaGreatDoor
