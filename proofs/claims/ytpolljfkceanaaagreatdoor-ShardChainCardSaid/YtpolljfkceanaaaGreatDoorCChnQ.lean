/-
  ShardChain: for every input the law returns true, and its arguments read as they did. No condition beyond the card's: the two package variables read as the program's text lays them.
-/
import Derived.Test.YtpolljfkceanaaaGreatDoorCards
import Derived.Test.YtpolljfkceanaaaGreatDoorTie
import Derived.Test.YtpolljfkceanaaaGreatDoorC08
namespace Go.Proofs.YtpolljfkceanaaaGreatDoor
open Go.RowKit Go.Shelf Go.Maps Go.Proofs.Tryz
set_option maxRecDepth 100000
set_option maxHeartbeats 64000000
set_option linter.all false
section
namespace shardChainP
open Go.ChangeShapes Go.WideShapes Go.ChangeAt Go.RowKit
theorem lifted(os:Os)(a:os.Started)(H:Type)(enc:TI×VL->H):ReturnsInHanded {} Tryz.checked os 6 .any (λw args=>(Rows.shardChainSpec.pre enc prog Tryz.f6 [] false w args/\laidMetH prog b3U w)/\sizedMet enc prog Tryz.f6 (OpenSpec.ofChange Rows.shardChainSpec) false w args) (Rows.shardChainSpec.post enc prog Tryz.f6 false true false false):=by
 refine returnsInHanded_of_change_and (C:=Tryz.checked) (X:=λw _=>laidMetH prog b3U w) (λ_ _ _ hh h=>h.of_heap hh) own a ρk func6
  (ChangeSpec.witness_shaped (enc:=enc) (C:=Tryz.checked) (os:=os) (X:=λw _=>laidMetH prog b3U w) false (World.doorLaid prog 400 os) #[.int .u8 0,.int .u8 0,.slice none 0 0,.slice none 0 0] 8 rfl (World.shaped_of_RefB ρk ρk) ρk ρk ρk (door_met os _)) ?_
 intro W base args ds gs B g hW _ _ F _;have o:=glob_of_laid F;have d:∀(j:Nat) t v,Tryz.f6.params[j]? =some t->args[j]? =some v->Value.okWide prog W .any base t v:=g;have N:=hW;obtain⟨p,q,z,hV,rfl,af,aj⟩:=hW;have Y:DataW.TrodAll enc prog W 0 (λ_=>true) true Tryz.f6.params.toList args.toList ds p:=z;rw[Tryz.params6]at Y d;obtain⟨U,ac,d0,ab,p0,q0,G,rfl,rfl,h0,r0⟩:=trodAll_cons Y;obtain⟨Q,aa,d1,ag,p1,q1,rfl,rfl,rfl,h1,r1⟩:=trodAll_cons r0;obtain⟨v2,ai,d2,ad,p2,q2,rfl,rfl,rfl,h2,r2⟩:=trodAll_cons r1;obtain⟨V,ah,d3,ae,p3,q3,rfl,rfl,rfl,R,r3⟩:=trodAll_cons r2;obtain⟨rfl,rfl,rfl⟩:=trodAll_nil r3;obtain rfl:args=#[U,Q,v2,V]:=by cases args;simp_all
 obtain⟨rfl,rfl⟩:=trodVars_none hV;obtain⟨a0,rfl,rfl,rfl,w0⟩:=open_int Tryz.underlying5 (d 0 5 U rfl rfl) h0;obtain⟨a1,rfl,rfl,rfl,w1⟩:=open_int Tryz.underlying5 (d 1 5 Q rfl rfl) h1;obtain⟨S,y2,z2,rfl⟩:=okWide_slice Tryz.underlying22 (d 2 22 v2 rfl rfl);have T:=h2;have O:∀x∈p2,x.block<W.heap.size:=by obtain⟨m,K⟩:=T;exact DataW.trod_lt m _ _ _ K
 obtain⟨P,l2,D,e2,b2,m2⟩:∃P l2 D,Value.slice S y2 z2=.slice P l2.length D/\c5y W P D l2/\l2.length<=maxLen:=by
  obtain⟨y,I⟩:=h2;obtain⟨A,l,c,f,b,m⟩:=a9s I;simp only[Value.cells,List.cons.injEq,and_true]at f;exact⟨A,l,c,f,b,m⟩
 simp only[Value.slice.injEq]at e2;obtain⟨rfl,rfl,rfl⟩:=e2;obtain⟨x3,y3,z3,rfl⟩:=okWide_slice Tryz.underlying23 (d 3 23 V rfl rfl);have k3:=R;have J:∀x∈p3,x.block<W.heap.size:=by obtain⟨m,K⟩:=k3;exact DataW.trod_lt m _ _ _ K
 obtain⟨E,r,Z,e3,b3,m3⟩:∃E r Z,Value.slice x3 y3 z3=.slice E r.length Z/\Txs W E r/\r.length<=maxLen:=by
  obtain⟨y,I⟩:=R;obtain⟨A,l,c,f,b,m⟩:=b2E I;simp only[Value.cells,List.cons.injEq,and_true]at f;exact⟨A,l,c,f,b,m⟩
 simp only[Value.slice.injEq]at e3;obtain⟨rfl,rfl,rfl⟩:=e3;clear z g d;refine(c0y a0 a1 S z2 l2 x3 z3 r W (bounds_u8 w0) (bounds_u8 w1) b2 m2 b3 m3 o).mono λe W' ⟨he,bel⟩=>?_
 subst he;exact⟨_,rfl,_,_,_,[],_,[],N,trodAll_mk1 (shut_bool Tryz.underlying4 _),(trodAll_cons_mk (shut_int Tryz.underlying5 w0) (trodAll_cons_mk (shut_int Tryz.underlying5 w1) (trodAll_cons_mk (Below.trod b3e ρk (of_decide_eq_true ρk) T bel O) (trodAll_cons_mk (Below.trod b3e ρk (of_decide_eq_true ρk) k3 bel J) trodAll_mk0)))),rfl,bel.frame _,λh=>by cases h⟩
theorem z0:(Rows.shardChainRow.wf (OpenSpec.ofChange Rows.shardChainSpec))=true:=ρk
theorem z1:(laidOutB prog)=true:=ρk
theorem z2:(mapsRowed prog)=true:=ρk
theorem z3:(Tryz.f6.params.all (prog.readableRec ·))=true:=ρk
theorem z4:(namedTie prog Rows.shardChainRow.named Rows.shardChainSpec.vars)=true:=ρk
theorem z5:((Rows.shardChainRow.stops == []))=true:=ρk
theorem z6:((prog.stops == []))=true:=ρk
theorem z7:((Rows.shardChainRow.knobs == []))=true:=ρk
theorem z8:((prog.stopKnobs == []))=true:=ρk
theorem z9:((Rows.shardChainRow.inPlace == prog.inPlace 6))=true:=ρk
theorem z10:((Rows.shardChainRow.unfollowed == prog.unfollowed 6))=true:=ρk
theorem z11:((Rows.shardChainRow.recurses == prog.recurses 6))=true:=ρk
theorem z12:((Rows.shardChainRow.named == prog.varsNamed 6))=true:=ρk
theorem z13:((Rows.shardChainRow.maps == (Tryz.f6.params.toList++Rows.shardChainSpec.plain.varTypes prog).any (prog.mapsRec ·)))=true:=ρk
theorem z14:((Rows.shardChainRow.ifaces == (Tryz.f6.params.toList++Rows.shardChainSpec.plain.varTypes prog).any (prog.ifacesRec ·)))=true:=ρk
theorem z15:((Rows.shardChainRow.mapsOut == prog.mapsAmong Tryz.f6.resultTypes.toList))=true:=ρk
theorem z16:((Rows.shardChainRow.loops == (Tryz.f6.params.toList++Rows.shardChainSpec.plain.varTypes prog).any (prog.loopsFrom ·)))=true:=ρk
theorem z17:((Rows.shardChainRow.wideKeys == (Tryz.f6.params.toList++Rows.shardChainSpec.plain.varTypes prog++Tryz.f6.resultTypes.toList).any (prog.wideKeysFrom ·)))=true:=ρk
theorem z18:(Rows.shardChainSpec.vars.all (prog.varReadable ·))=true:=ρk
theorem z19:(Tryz.f6.resultTypes.all (λt=>prog.readableRec t&&decide (t<prog.types.size)))=true:=ρk
theorem z20:((Rows.shardChainRow.ifacesOut == Tryz.f6.resultTypes.toList.any (prog.ifacesRec ·)))=true:=ρk
theorem z21:((Rows.shardChainRow.loopsOut == Tryz.f6.resultTypes.toList.any (prog.loopsFrom ·)))=true:=ρk
theorem z22:((Rows.shardChainRow.plainKeys == prog.plainKeys))=true:=ρk
theorem z23:(Rows.shardChainRow.shortTexts.isNone)=true:=ρk
theorem z24:(prog.stopsHeard)=true:=ρk
theorem z25:(prog.mayEnter)=true:=ρk
theorem z26:((Rows.shardChainRow.lifted == prog.liftsFinal))=true:=ρk
theorem z27:((prog.make == some Rows.shardChainRow.make))=true:=ρk
theorem z28:((Rows.shardChainRow.kinds == (if Rows.shardChainRow.domain.isEmpty then []else Tryz.f6.params.toList.map λt=>match prog.underlying t with | some (.int k)=>some k | _=>none)))=true:=ρk
theorem z29:((Rows.shardChainRow.pinned == Rows.shardChainRow.pinnedBy))=true:=ρk
theorem z30:((Rows.shardChainRow.veiled == (Tryz.f6.params.toList++Rows.shardChainSpec.plain.varTypes prog++Tryz.f6.resultTypes.toList).any (prog.veiledRec ·)))=true:=ρk
theorem z31:(Rows.shardChainRow.veiledFits prog Tryz.f6.params.toList (Tryz.f6.params.toList++Rows.shardChainSpec.plain.varTypes prog++Tryz.f6.resultTypes.toList))=true:=ρk
theorem a1k{a b:Bool}(h:a=true)(d:b=true):(a&&b)=true:=by rw[h,d];rfl
theorem c1V:joinedFacts prog 6 Tryz.f6 Rows.shardChainSpec Rows.shardChainRow=true:=by
 unfold joinedFacts;exact(a1k (a1k (a1k (a1k (a1k (a1k (a1k (a1k (a1k (a1k (a1k (a1k (a1k (a1k (a1k (a1k (a1k (a1k (a1k (a1k (a1k (a1k (a1k (a1k (a1k (a1k (a1k (a1k (a1k (a1k (a1k z0 z1) z2) z3) z4) z5) z6) z7) z8) z9) z10) z11) z12) z13) z14) z15) z16) z17) z18) z19) z20) z21) z22) z23) z24) z25) z26) z27) z28) z29) z30) z31)
theorem c1k:prog.funcNamed Rows.shardChainRow.func=some 6:=ρk
theorem c8b:(Tryz.f6).isInstance prog Rows.shardChainRow.origin Rows.shardChainRow.targs:=of_decide_eq_true ρk
theorem c7P:(Tryz.f6).isWrapper prog Rows.shardChainRow.wrapper Rows.shardChainRow.mainSum:=by unfold Func.isWrapper;first | (rw[if_pos (by decide+kernel)];kernel_rfl) | (rw[if_neg (by decide+kernel)];exact⟨rfl,rfl⟩)
theorem over:Rows.shardChainRow.holds Tryz.pinned (OpenSpec.ofChange Rows.shardChainSpec):=
 OpenClaim.holds_of_wide 6 Tryz.f6 rfl rfl rfl rfl rfl rfl rfl ⟨rfl,rfl,rfl,rfl,rfl⟩ rfl rfl rfl rfl rfl c1k func6 c1V
  c8b c7P
  (λos started H enc _=>lifted os started H enc)
theorem proved:Rows.ShardChainCardSaid:=
 Claim7.holds_tied_plain_at .later [] [.data,.data] true _ _
  over (λ_ h=>by cases h) ρk (λ_ h=>by cases h) shardChain_row_tie rfl ⟨rfl,rfl⟩ ρk rfl
  (λf fn hf hfn=>by
   obtain rfl:f=6:=Option.some.inj ((show prog.funcNamed "seisin/seisinlaw25.ShardChain" =some 6 by kernel_rfl).symm.trans hf) |>.symm;obtain rfl:fn=Tryz.f6:=(Option.some.inj (func6.symm.trans hfn)).symm
   exact⟨by kernel_rfl,λj t ht=>by
    rw[Tryz.params6]at ht;have hm:t∈[5,5,22,23]:=by simpa using Array.mem_of_getElem? ht
    have a:([5,5,22,23].all λu=>!prog.wantsStandIn u)=true:=ρk;exact(show prog.wantsStandIn t=false by simpa using Yo.1 a t hm)⟩)
  ρk
#print axioms proved
end shardChainP
end
end Go.Proofs.YtpolljfkceanaaaGreatDoor
