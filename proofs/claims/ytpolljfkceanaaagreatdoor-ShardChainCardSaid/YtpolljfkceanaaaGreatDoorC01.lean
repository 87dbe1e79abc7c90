/-
  Contracts of functions, plain laws.
-/
import Derived.BigQuiet
import Derived.Deep.Draws
import Derived.Deep.QuietTactic
import Derived.Lib.Hide
import Derived.Maps.AppendAt
import Derived.StillTailTactics
import Derived.Test.YtpolljfkceanaaaGreatDoorChecked
import Derived.WalkKit
import Derived.WalkLawsBesides
import Derived.WalkSpells
import Derived.OrdersHeld
import Derived.RegionTactic
import Derived.StillTail
import Derived.LoopIn
import Derived.LoopNIn
import Derived.OwnWalkIn
import Derived.RangeFuncBound
import Derived.RangeFuncCalls
import Derived.RangeFuncLeaves
import Derived.RangeFuncNested
import Derived.Shelf.Abstract
import Derived.Shelf.RegionOpen
import Derived.TacticsInMore
import Derived.Laws.AppendOwnNone
import Derived.Laws.OwnMore
import Derived.Lib.AppendZeros
import Derived.Lib.AppendZerosOnto
import Derived.Sort.BigQuietIn
import Derived.Sort.QuietTacIn
import Derived.Great.BuildSlice
import Derived.Deep.CutBlock
import Derived.Deep.CutRange
namespace Go.Shelf
end Go.Shelf
namespace Go.Maps
end Go.Maps
namespace Go.Proofs.YtpolljfkceanaaaGreatDoor
open Go.RowKit Go.Shelf Go.Maps Go.Proofs.Tryz
set_option maxRecDepth 100000
set_option maxHeartbeats 64000000
set_option linter.all false
abbrev LI:=List Int
abbrev OA:=Option Addr
abbrev AV:=Array Value
abbrev LV:=List Value
abbrev WD:=World
abbrev TI:=TypeId
abbrev VL:=Value
abbrev LL:=List LI
abbrev LW:=List LV
abbrev PG:=Program
instance:Coe Nat OA:=⟨λg=>some ⟨g,0,none⟩⟩
instance:Coe WD Nat:=⟨λw=>w.heap.size⟩
instance:Coe WD OA:=⟨λw=>some ⟨w.heap.size,0,none⟩⟩
def QH(p:Prop):Prop:=p
abbrev QU:=@And.intro
abbrev ZM:=@Array.ext'
abbrev Yh:=@Array.getElem?_eq_getElem
abbrev QK:=@Array.getElem?_eq_some_iff
abbrev Z9:=@Array.getElem?_toList
abbrev QD:=@Array.length_toList
abbrev QW:=@Array.replicate_succ
abbrev QX:=@Array.replicate_zero
abbrev ZO:=@Array.toList_eraseIdxIfInBounds
abbrev ZN:=@Array.toList_push
abbrev Zt:=@Array.toList_setIfInBounds
abbrev Qf:=@Below.refl
abbrev Yj:=@BitVec.ofInt_natCast
abbrev QA:=@Bool.and_eq_true
abbrev QI:=@Bool.false_eq_true
abbrev Y5:=@Bool.true_and
abbrev Ye:=@Int.tmod_eq_emod_of_nonneg
abbrev Zd:=@Int.toNat_natCast
abbrev Yo:=@List.all_eq_true
abbrev QC:=@List.append_assoc
abbrev ZC:=@List.append_nil
abbrev QZ:=@List.append_toArray
abbrev QG:=@List.cons_append
abbrev QR:=@List.drop_append
abbrev Zw:=@List.drop_append_of_le_length
abbrev Yc:=@List.drop_eq_nil_of_le
abbrev QQ:=@List.drop_of_length_le
abbrev ZQ:=@List.drop_succ_cons
abbrev Zs:=@List.drop_zero
abbrev ZG:=@List.eq_nil_of_length_eq_zero
abbrev Zf:=@List.eq_of_mem_replicate
abbrev ZE:=@List.ext_getElem
abbrev ZA:=@List.flatten_append
abbrev Zm:=@List.flatten_cons
abbrev QO:=@List.getElem?_append_left
abbrev QL:=@List.getElem?_append_right
abbrev ZY:=@List.getElem?_drop
abbrev QN:=@List.getElem?_eq_getElem
abbrev ZL:=@List.getElem?_eq_none
abbrev Qm:=@List.getElem?_eq_some_iff
abbrev ZJ:=@List.getElem?_map
abbrev Zj:=@List.getElem?_take
abbrev QE:=@List.getElem?_toArray
abbrev ZK:=@List.getElem_append_left
abbrev QS:=@List.getElem_map
abbrev Qu:=@List.getElem_mem
abbrev Yf:=@List.getElem_range
abbrev Qa:=@List.length_append
abbrev Qy:=@List.length_cons
abbrev Yp:=@List.length_drop
abbrev Zv:=@List.length_eq_zero_iff
abbrev ZX:=@List.length_filter_le
abbrev Qw:=@List.length_map
abbrev Qv:=@List.length_nil
abbrev Ym:=@List.length_pos_iff
abbrev ZB:=@List.length_singleton
abbrev Qx:=@List.length_take
abbrev Zg:=@List.mapM_cons
abbrev QV:=@List.map_append
abbrev Yl:=@List.map_cons
abbrev Qq:=@List.mem_append
abbrev Qo:=@List.mem_cons
abbrev Qj:=@List.mem_cons_of_mem
abbrev Qr:=@List.mem_cons_self
abbrev ZD:=@List.mem_filter
abbrev Qs:=@List.mem_map
abbrev Zy:=@List.mem_of_getElem?
abbrev Yi:=@List.mem_of_mem_drop
abbrev QM:=@List.mem_of_mem_take
abbrev ZU:=@List.mem_range
abbrev Qn:=@List.mem_singleton
abbrev QF:=@List.nil_append
abbrev Qt:=@List.not_mem_nil
abbrev ZV:=@List.pairwise_iff_getElem
abbrev Yk:=@List.pairwise_map
abbrev Ze:=@List.push_toArray
abbrev Yd:=@List.setIfInBounds_toArray
abbrev Qc:=@List.size_toArray
abbrev QT:=@List.take_append
abbrev ZW:=@List.take_append_drop
abbrev QJ:=@List.take_append_of_le_length
abbrev ZF:=@List.take_length
abbrev Qb:=@List.take_of_length_le
abbrev Qe:=@List.take_succ_eq_append_getElem
abbrev Za:=@MapKept.run_getObj_map
abbrev Zz:=@MapKept.run_setObj_map
abbrev ZT:=@Nat.add_assoc
abbrev Yb:=@Nat.add_mul
abbrev ZH:=@Nat.add_zero
abbrev Zq:=@Nat.eq_zero_or_pos
abbrev Qg:=@Nat.le_refl
abbrev Qk:=@Nat.le_trans
abbrev Qh:=@Nat.lt_of_lt_of_le
abbrev QY:=@Nat.min_eq_left
abbrev Zb:=@Nat.mul_le_mul_right
abbrev QP:=@Nat.zero_add
abbrev Zu:=@Nat.zero_le
abbrev Yg:=@Oper.wp_mono
abbrev Q8:=@Option.map_eq_some_iff
abbrev Zl:=@Region.noSelect_spec
abbrev Ya:=@Sem.run_bind
abbrev Qi:=@World.size_alloc
theorem QH.o{p:Prop}(h:QH p):p:=h
variable {a a':Act}{Lf b:Array Bool}{l:LI}{xs:LV}{L:List Oper}{B B' c cap g g' i id j m n n₀ size:Nat}{A:OA}{oi:Oper}{P:PG}{e t ty:TI}{v:VL}{W w x:WD}
theorem η0{α:Sort _}(x:α):∃y,x=y:=⟨x,rfl⟩
theorem η1{p:Prop}(h:p):QH p:=Lib.hid h
theorem ρu{p:Prop}(h:p:=by with_unfolding_all rfl):p:=h
theorem ρk{p:Prop}(h:p:=by kernel_rfl):p:=h
theorem ρp{p:Prop}(h:p:=by simp):p:=h
theorem ρd{p:Prop}(h:p:=by decide):p:=h
theorem ρo{p:Prop}(h:p:=by omega):p:=h
theorem ρs{p:Prop}(h:p:=by go_simp<;>with_reducible rfl):p:=h
theorem η2{d f:Prop}(a:d)(b:f):QH d/\QH f:=⟨Lib.hid a,Lib.hid b⟩
theorem η3{d f g:Prop}(a:d)(b:f)(c:g):QH d/\QH f/\QH g:=⟨Lib.hid a,Lib.hid b,Lib.hid c⟩
theorem η4{f g j m:Prop}(a:f)(b:g)(c:j)(d:m):QH f/\QH g/\QH j/\QH m:=⟨Lib.hid a,Lib.hid b,Lib.hid c,Lib.hid d⟩
theorem η5{f g j m o:Prop}(a:f)(b:g)(c:j)(d:m)(e:o):QH f/\QH g/\QH j/\QH m/\QH o:=⟨Lib.hid a,Lib.hid b,Lib.hid c,Lib.hid d,Lib.hid e⟩
theorem η6{g j m o p r:Prop}(a:g)(b:j)(c:m)(d:o)(e:p)(f:r):QH g/\QH j/\QH m/\QH o/\QH p/\QH r:=⟨Lib.hid a,Lib.hid b,Lib.hid c,Lib.hid d,Lib.hid e,Lib.hid f⟩
theorem η7{j m o p r v w:Prop}(a:j)(b:m)(c:o)(d:p)(e:r)(f:v)(g:w):QH j/\QH m/\QH o/\QH p/\QH r/\QH v/\QH w:=⟨Lib.hid a,Lib.hid b,Lib.hid c,Lib.hid d,Lib.hid e,Lib.hid f,Lib.hid g⟩
theorem η8{j m o p r v w x:Prop}(a:j)(b:m)(c:o)(d:p)(e:r)(f:v)(g:w)(h:x):QH j/\QH m/\QH o/\QH p/\QH r/\QH v/\QH w/\QH x:=⟨Lib.hid a,Lib.hid b,Lib.hid c,Lib.hid d,Lib.hid e,Lib.hid f,Lib.hid g,Lib.hid h⟩
theorem ρb(w:WD)(o:Obj):RowKit.Below w.heap.size w (w.alloc o):=(RowKit.Below.refl _ w).alloc (Qg _) _
theorem δ1{p q:Prop}(k:q)(h:QH q->p:=by intro k;((with_reducible refine c9K (o:=?_) (a':=?_) (by with_unfolding_all rfl) (by with_unfolding_all rfl) ?_ ?_;rotate_left;focus(go_simp<;>with_reducible rfl)));exact k.o):p:=h (η1 k)
theorem δ4{p q:Prop}(k:q)(h:QH q->p:=by intro k;(iterate 4 (with_reducible refine c9K (o:=?_) (a':=?_) (by with_unfolding_all rfl) (by with_unfolding_all rfl) ?_ ?_;rotate_left;focus(go_simp<;>with_reducible rfl)));exact k.o):p:=h (η1 k)
theorem ε1{p q:Prop}(k:q)(h:QH q->p:=by intro k;((with_reducible refine d0U (o:=?_) (v:=?_) (a':=?_) (by with_unfolding_all rfl) (by with_unfolding_all rfl) (λa=>?_) ?_ ?_;rotate_left 2;(focus(go_simp<;>with_reducible rfl));focus(go_simp<;>with_reducible rfl)));exact k.o):p:=h (η1 k)
theorem ε2{p q:Prop}(k:q)(h:QH q->p:=by intro k;(iterate 2 (with_reducible refine d0U (o:=?_) (v:=?_) (a':=?_) (by with_unfolding_all rfl) (by with_unfolding_all rfl) (λa=>?_) ?_ ?_;rotate_left 2;(focus(go_simp<;>with_reducible rfl));focus(go_simp<;>with_reducible rfl)));exact k.o):p:=h (η1 k)
theorem ε3{p q:Prop}(k:q)(h:QH q->p:=by intro k;(iterate 3 (with_reducible refine d0U (o:=?_) (v:=?_) (a':=?_) (by with_unfolding_all rfl) (by with_unfolding_all rfl) (λa=>?_) ?_ ?_;rotate_left 2;(focus(go_simp<;>with_reducible rfl));focus(go_simp<;>with_reducible rfl)));exact k.o):p:=h (η1 k)
theorem ε4{p q:Prop}(k:q)(h:QH q->p:=by intro k;(iterate 4 (with_reducible refine d0U (o:=?_) (v:=?_) (a':=?_) (by with_unfolding_all rfl) (by with_unfolding_all rfl) (λa=>?_) ?_ ?_;rotate_left 2;(focus(go_simp<;>with_reducible rfl));focus(go_simp<;>with_reducible rfl)));exact k.o):p:=h (η1 k)
theorem ε5{p q:Prop}(k:q)(h:QH q->p:=by intro k;(iterate 5 (with_reducible refine d0U (o:=?_) (v:=?_) (a':=?_) (by with_unfolding_all rfl) (by with_unfolding_all rfl) (λa=>?_) ?_ ?_;rotate_left 2;(focus(go_simp<;>with_reducible rfl));focus(go_simp<;>with_reducible rfl)));exact k.o):p:=h (η1 k)
theorem ε6{p q:Prop}(k:q)(h:QH q->p:=by intro k;(iterate 6 (with_reducible refine d0U (o:=?_) (v:=?_) (a':=?_) (by with_unfolding_all rfl) (by with_unfolding_all rfl) (λa=>?_) ?_ ?_;rotate_left 2;(focus(go_simp<;>with_reducible rfl));focus(go_simp<;>with_reducible rfl)));exact k.o):p:=h (η1 k)
theorem ε7{p q:Prop}(k:q)(h:QH q->p:=by intro k;(iterate 7 (with_reducible refine d0U (o:=?_) (v:=?_) (a':=?_) (by with_unfolding_all rfl) (by with_unfolding_all rfl) (λa=>?_) ?_ ?_;rotate_left 2;(focus(go_simp<;>with_reducible rfl));focus(go_simp<;>with_reducible rfl)));exact k.o):p:=h (η1 k)
theorem εc1{p q:Prop}(k:q)(h:QH q->p:=by intro k;((with_reducible refine d0X (o:=?_) (v:=?_) (a':=?_) (by with_unfolding_all rfl) (by with_unfolding_all rfl) (λa=>?_) ?_ ?_;rotate_left 2;(focus(go_simp<;>with_reducible rfl));focus(go_simp<;>with_reducible rfl)));exact k.o):p:=h (η1 k)
theorem εc4{p q:Prop}(k:q)(h:QH q->p:=by intro k;(iterate 4 (with_reducible refine d0X (o:=?_) (v:=?_) (a':=?_) (by with_unfolding_all rfl) (by with_unfolding_all rfl) (λa=>?_) ?_ ?_;rotate_left 2;(focus(go_simp<;>with_reducible rfl));focus(go_simp<;>with_reducible rfl)));exact k.o):p:=h (η1 k)
theorem εj1{p q:Prop}(k:q)(h:QH q->p:=by intro k;((with_reducible refine d0f (v:=?_) (a':=?_) (by with_unfolding_all rfl) (λa=>?_) ?_ ?_;rotate_left 2;(focus(go_simp<;>with_reducible rfl));focus(go_simp<;>with_reducible rfl)));exact k.o):p:=h (η1 k)
theorem εj2{p q:Prop}(k:q)(h:QH q->p:=by intro k;(iterate 2 (with_reducible refine d0f (v:=?_) (a':=?_) (by with_unfolding_all rfl) (λa=>?_) ?_ ?_;rotate_left 2;(focus(go_simp<;>with_reducible rfl));focus(go_simp<;>with_reducible rfl)));exact k.o):p:=h (η1 k)
theorem εj5{p q:Prop}(k:q)(h:QH q->p:=by intro k;(iterate 5 (with_reducible refine d0f (v:=?_) (a':=?_) (by with_unfolding_all rfl) (λa=>?_) ?_ ?_;rotate_left 2;(focus(go_simp<;>with_reducible rfl));focus(go_simp<;>with_reducible rfl)));exact k.o):p:=h (η1 k)
theorem κ{p q:Prop}(k:q)(h:QH q->p:=by intro k;with_reducible refine c9z (o:=?_) (by with_unfolding_all rfl) (by with_unfolding_all rfl) (λK a=>?_);(try simp only[List.getElem_toArray,List.getElem_cons_succ,List.getElem_cons_zero]);go_simp;revert K;exact k.o):p:=h (η1 k)
theorem ν{p q:Prop}(k:q)(h:QH q->p:=by intro k;with_reducible refine a1N ?_;rw[noPan_normal];exact k.o):p:=h (η1 k)
theorem τ{p q:Prop}(k:q)(h:QH q->p:=by intro k;with_reducible refine c9A (o:=?_) (by with_unfolding_all rfl) (by with_unfolding_all rfl) (λK a=>?_);(try simp only[List.getElem_toArray,List.getElem_cons_succ,List.getElem_cons_zero]);go_simp;revert K;exact k.o):p:=h (η1 k)
theorem ηs(w:WD):∃g,w.heap.size=g:=⟨_,rfl⟩
theorem κ1{p q C:Prop}(X:C)(k:q)(h:QH q->QH C->p:=by intro k X;with_reducible refine c9z (o:=?_) (by with_unfolding_all rfl) (by with_unfolding_all rfl) (λK a=>?_);(try simp only[List.getElem_toArray,List.getElem_cons_succ,List.getElem_cons_zero]);go_simp;with_reducible refine a _ _ X.o ?_;exact k.o):p:=h (η1 k) (η1 X)
theorem μ1{p q C:Prop}(X:C)(k:q)(h:QH q->QH C->p:=by intro k X;with_reducible refine X.o.mono ?_;exact k.o):p:=h (η1 k) (η1 X)
theorem μf{p q C:Prop}(X:C)(k:q)(h:QH q->QH C->p:=by intro k X;with_reducible refine X.o.mono ?_;rintro _ a ⟨rfl,rfl⟩;exact k.o):p:=h (η1 k) (η1 X)
theorem μi{p q C:Prop}(X:C)(k:q)(h:QH q->QH C->p:=by intro k X;with_reducible refine X.o.mono ?_;rintro _ a ⟨rfl,b⟩;revert a;exact k.o):p:=h (η1 k) (η1 X)
theorem ρh{a p:Prop}(x:a)(h:a->p:=by intro x;omega):p:=h x
theorem ρi{a b p:Prop}(x:a)(y:b)(h:a->b->p:=by intro x y;omega):p:=h x y
theorem ρw{a p:Prop}(x:a)(h:a->p:=by intro x;simpa using x):p:=h x
theorem ρy{a b p:Prop}(x:a)(y:b)(h:a->b->p:=by intro x y;rw[x];exact y):p:=h x y
theorem ρz{a b p:Prop}(x:a)(y:b)(h:a->b->p:=by intro x y;rw[<-x];exact y):p:=h x y
theorem τ1{p q:Prop}(k:q)(h:QH q->p:=by intro k;with_reducible refine c9A (o:=?_) (by with_unfolding_all rfl) (by with_unfolding_all rfl) (λK a=>?_);(try simp only[List.getElem_toArray,List.getElem_cons_succ,List.getElem_cons_zero]);go_simp;with_reducible refine a _ _ ?_;exact k.o):p:=h (η1 k)
theorem φt{y:WD}(X:RowKit.Below w.heap.size w x)(Y:RowKit.Below x.heap.size x y):RowKit.Below w.heap.size w y:=X.trans (Y.mono X.size)
theorem ψ{p q:Prop}(k:q)(h:QH q->p:=by intro k;(try simp only[List.getElem_toArray,List.getElem_cons_succ,List.getElem_cons_zero]);exact k.o):p:=h (η1 k)
section
section
structure Fr(F:Nat->Prop)(w w':WD):Prop where
 os:w'.os=w.os
 tape:w'.tape=w.tape
 output:w'.output=w.output
 size:w.heap.size<=w'.heap.size
 block:∀k,k<w.heap.size->¬F k->w'.heap[k]? =w.heap[k]?
section
variable {F G:Nat->Prop} {w w1 w2:WD}
theorem Fr.refl(F:Nat->Prop)(w:WD):Fr F w w:=⟨rfl,rfl,rfl,Qg _,λ_ _ _=>rfl⟩
abbrev Qp:=@Fr.refl
theorem Fr.trans(h:Fr F w w1)(a:Fr G w1 w2)(b:∀k,k<w.heap.size->G k->F k):Fr F w w2:=
 ⟨
  a.os.trans h.os,a.tape.trans h.tape,a.output.trans h.output,Qk h.size a.size,
  λk hk hf=>(a.block k (Qh hk h.size) (λg=>hf (b k hk g))).trans (h.block k hk hf)⟩
theorem Fr.mono(h:Fr F w w1)(a:∀k,k<w.heap.size->F k->G k):Fr G w w1:=
 ⟨h.os,h.tape,h.output,h.size,λk hk hf=>h.block k hk λf=>hf (a k hk f)⟩
theorem Fr.alloc(h:Fr F w w1)(o:Obj):Fr F w (w1.alloc o):=
 h.trans (G:=λ_=>False) ⟨rfl,rfl,rfl,by simp,λk hk _=>Below.heap_alloc _ _ _ hk⟩ (λ_ _ f=>f.elim)
theorem Fr.drew(h:Fr F w w1):Fr F w w1.drew:=⟨h.os,h.tape,h.output,h.size,h.block⟩
theorem Fr.drewN(h:Fr F w w1)(n:Nat):Fr F w (w1.drewN n):=⟨h.os,h.tape,h.output,h.size,h.block⟩
theorem Fr.setCell(h:Fr F w w1){p:Addr}(a:p.block<w.heap.size->F p.block)(u:VL):Fr F w (w1.setCell p u):=
 h.trans (G:=λk=>k=p.block) ⟨rfl,rfl,rfl,by simp,λk hk hf=>Below.heap_setCell _ _ _ _ hf⟩ (λk hk e=>by subst e;exact a hk)
theorem Fr.setRow(h:Fr F w w1){g:Nat}(a:g<w.heap.size->F g)(cs:AV):Fr F w (w1.setRow g cs):=
 h.trans (G:=λk=>k=g) ⟨rfl,rfl,rfl,by simp,λk hk hf=>setRow_other _ _ _ _ hf⟩ (λk hk e=>by subst e;exact a hk)
theorem ρr(g:Nat)(w:WD)(c:AV):Fr (λk=>k=g) w (w.setRow g c):=(Qp (λk=>k=g) w).setRow (g:=g) (λ_=>rfl) _
theorem Fr.grown(h:Fr F w w1){row:Option Nat}(a:w1.grownBy w2 row)(b:∀k,k<w.heap.size->row=some k->F k):Fr F w w2:=
 h.trans (G:=λk=>row=some k) ⟨a.os,a.tape,a.output,a.size,λk hk hf=>a.block k hk λe=>hf e.symm⟩ (λk hk e=>b k hk e)
theorem Fr.below(h:Fr F w w1)(a:B<=w.heap.size)(hF:∀k,k<B->¬F k):Below B w w1:=
 ⟨h.os,h.tape,h.output,h.size,λk hk=>h.block k (Qh hk a) (hF k hk)⟩
theorem Fr.of_below{B:Nat}(h:Below B w w1):Fr (λk=>B<=k) w w1:=
 ⟨h.os,h.tape,h.output,h.size,λk _ hf=>h.block k ρo⟩
abbrev Q9:=@Fr.of_below
theorem Fr.cell(h:Fr F w w1){p:Addr}(a:p.block<w.heap.size)(b:¬F p.block):w1.cell? p=w.cell? p:=World.cell?_of_block (h.block _ a b)
end
def Blk(w:WD)(g:Nat)(t:TI)(cs:AV):Prop:=w.heap[g]? =some (.cells cs t (0,0))
section
variable {w w':WD} {g:Nat} {t:TI} {cs:AV}
theorem Blk.lt(h:Blk w g t cs):g<w.heap.size:=(QK.1 h).1
theorem Blk.cell(h:Blk w g t cs)(i:Nat):w.cell? ⟨g,i,none⟩=cs[i]? :=cell_of_row w g i cs t (0,0) h
theorem Blk.frozen(h:Blk w g t cs)(i:Nat):w.frozen? ⟨g,i,none⟩=false:=frozen_of_row w g i cs t h
theorem Blk.new(w:WD)(t:TI)(cs:AV):Blk (w.alloc (.cells cs t)) w.heap.size t cs:=heap_alloc_new w _
abbrev Qd:=@Blk.new
theorem Blk.drew(h:Blk w g t cs):Blk w.drew g t cs:=h
theorem Blk.drewN(h:Blk w g t cs)(n:Nat):Blk (w.drewN n) g t cs:=h
theorem Blk.alloc(h:Blk w g t cs)(o:Obj):Blk (w.alloc o) g t cs:=(Below.heap_alloc w o g h.lt).trans h
theorem Blk.set_(h:Blk w g t cs)(i:Nat)(u:VL):Blk (w.setCell ⟨g,i,none⟩ u) g t (cs.setIfInBounds i u):=heap_setCell_same w g i cs t u h
theorem Blk.far(h:Blk w g t cs){p:Addr}(a:g≠p.block)(u:VL):Blk (w.setCell p u) g t cs:=(Below.heap_setCell w p u g a).trans h
theorem Blk.row_(h:Blk w g t cs)(a:AV):Blk (w.setRow g a) g t a:=setRow_heap w g cs a t (0,0) h
theorem Blk.rowFar(h:Blk w g t cs)(b:g≠g')(a:AV):Blk (w.setRow g' a) g t cs:=(setRow_other w g' g a b).trans h
theorem Blk.fr{F:Nat->Prop}(h:Blk w g t cs)(a:Fr F w w')(d:¬F g):Blk w' g t cs:=(a.block g h.lt d).trans h
theorem φf{b:Nat}{c:AV}(X:Blk w b t c)(Y:RowKit.Below w.heap.size w x):Blk x b t c:=X.fr (Q9 Y) (by have:=X.lt;omega)
theorem Blk.grown{row:Option Nat}(h:Blk w g t cs)(a:w.grownBy w' row)(b:row≠some g):Blk w' g t cs:=(a.block g h.lt (λe=>b e.symm)).trans h
theorem Blk.ne_{f:TI}{b:AV}(h:Blk w g t cs)(a:Blk w g' f b)(d:t≠f):g≠g':=by
 rintro rfl;unfold Blk at h a;rw[h]at a
 injection a with a
 injection a with _ ht
 exact d ht
theorem Blk.inj{d:TI}{a:AV}(h:Blk w g t cs)(b:Blk w g d a):t=d/\cs=a:=by
 unfold Blk at h b;rw[h]at b
 injection b with b
 injection b with h1 h2
 exact⟨h2,h1⟩
end
def LDs(t:TI)(v:VL):Sem VL:=Instr.loadAt t v
def STs(t:TI)(v x:VL):Sem Unit:=Instr.storeAt t v x
def ALs(t:TI):Sem VL:=Instr.alloc t true (.tuple #[])
def a1d(cs:AV)(off:Nat)(xs:LV):AV:=(cs.toList.take off++xs++cs.toList.drop (off+xs.length)).toArray
theorem a6n(cs:AV)(off:Nat)(xs:LV)(h:off+xs.length<=cs.size):(a1d cs off xs).size=cs.size:=by
 simp[a1d];omega
def a1f:TypeDesc->Bool | .struct _ | .array _ _=>true | _=>false
theorem a3R(w:WD)(t:TI)(d:TypeDesc)(n:Nat)(a:P.underlying t=some d)(hd:a1f d=true)(hi:(P.info? t).map (·.size)=some n) (g off:Nat) (xs:LV) (hl:xs.length=n) (hc:∀j v,xs[j]? =some v->w.cell? ⟨g,off+j,none⟩=some v):(LDs t (.pointer (some ⟨g,off,none⟩))).run P w=.ok (.agg xs.toArray) w:=by
 obtain⟨i,o,r⟩:=Q8.1 hi
 have m:(isAgg t).run P w=.ok true w:=by
  unfold isAgg;rw[Ya,run_underlying a w]
  cases d<;>simp_all [a1f]
 have b:=run_loadCells_list (P:=P) w ⟨g,off,none⟩ xs (λj v p=>by
  have f:(⟨g,off,none⟩:Addr).add j=⟨g,off+j,none⟩:=by unfold Addr.add;split<;>simp_all
  rw[f];exact hc j v p)
 rw[hl]at b;simp[LDs,Instr.loadAt,Instr.sureAddr,loadVar,Ya,m,sizeOf,typeInfo,o,r,b]
theorem a6R{P:PG}{w:WD}{t:TI}{d:TypeDesc}{n:Nat}(a:P.underlying t=some d)(hd:a1f d=true)(hi:(P.info? t).map (·.size)=some n) {g off:Nat} {e:TI} {cs:AV} (hb:Blk w g e cs) (xs:LV) (hl:xs.length=n) (hx:(cs.toList.drop off).take n=xs):(LDs t (.pointer (some ⟨g,off,none⟩))).run P w=.ok (.agg xs.toArray) w:=
 a3R w t d n a hd hi g off xs hl (λj v hv=>by
  rw[hb.cell,<-Z9];rw[<-hx,Zj,ZY]at hv
  split at hv
  ·exact hv
  cases hv)
abbrev Ph:=@a6R prog
theorem a0I{P:PG}{w:WD}{t:TI}{n:Nat}(hi:(P.info? t).map (·.size)=some n) {g off:Nat} {e:TI} {cs:AV} (hb:Blk w g e cs) (xs:LV) (hl:xs.length=n) (ho:off+n<=cs.size) (h1:∀v∈xs,v.oneCell'=true):(STs t (.pointer (some ⟨g,off,none⟩)) (.agg xs.toArray)).run P w=.ok () (w.setRow g (a1d cs off xs)):=by
 obtain⟨i,b,d⟩:=Q8.1 hi;have a:=run_storeCells_at P g off e xs 0 cs w hb (by simpa[hl]using ho) h1;simp only[ZH]at a;simp[STs,Instr.storeAt,Instr.sureAddr,storeVar,Ya,sizeOf,typeInfo,b,d,Value.cells,hl,a,a1d]
abbrev Pa:=@a0I prog
theorem a9J(w:WD)(c cs:AV)(t:TI):(w.alloc (.cells c t)).setRow w.heap.size cs=w.alloc (.cells cs t):=by
 simp only[World.setRow,World.alloc]
 congr 1
 apply Array.ext_getElem?
 intro i;simp only[Array.getElem?_modify,Array.getElem?_push]
 by_cases h:i=w.heap.size
 ·subst h;simp
 simp[h,Ne.symm h]
theorem a0q(cs:AV)(xs:LV)(h:xs.length=cs.size):a1d cs 0 xs=xs.toArray:=by
 simp[a1d,h]
theorem a7S(hi:(P.info? t).map (·.size)=some n)(w:WD)(c:AV)(a:c.size=n)(xs:LV)(b:xs.length=n)(d:∀v∈xs,v.oneCell'=true):(STs t (.pointer w) (.agg xs.toArray)).run P (w.alloc (.cells c t))=.ok () (w.alloc (.cells xs.toArray t)):=by
 rw[a0I hi (Qd w t c) xs b ρo d,a0q _ _ ρo,a9J]
theorem a0U{P:PG}{t:TI}(z:VL)(hi:(P.info? t).bind (·.zero)=some z)(w:WD):(ALs t).run P w=.ok (.pointer w) (w.alloc (.cells z.cells t)):=by
 obtain⟨i,a,b⟩:=Option.bind_eq_some_iff.1 hi;simp[ALs,Instr.alloc,zeroValue,typeInfo,a,b,newVar,newRow]
abbrev Pc:=@a0U prog
def bys(l:LI):LV:=l.map (Value.int .u8)
theorem a0a(l:LI):(bys l).length=l.length:=by simp[bys]
theorem a0h(l:LI):∀v∈bys l,v.oneCell'=true:=by
 intro v a;obtain⟨x,_,rfl⟩:=Qs.1 a
 rfl
theorem a3J(l:LI)(j:Nat):(bys l)[j]? =(l[j]?).map (Value.int .u8):=by simp[bys]
theorem a9b(l m:LI):bys (l++m)=bys l++bys m:=by simp[bys]
theorem a7m{α:Type}(m:Nat):∀(L:List (List α)) (_:∀s∈L,s.length=m),L.flatten.length=L.length*m
 | [],_=>by simp
 |
  s::L,h=>by
  have hs:=h s ρp;have ih:=a7m m L (λs hs=>h s (by simp[hs]));simp only[Zm,Qa,Qy,ih,hs,Yb];omega
theorem b1g{α:Type}(m:Nat):∀(L:List (List α)) (_:∀s∈L,s.length=m) (k:Nat) (_:k<L.length) (x:List α) (_:x.length=m),L.flatten.take (k*m)++x++L.flatten.drop (k*m+m)=(L.set k x).flatten
 | [],_,k,hk,_,_=>by simp at hk
 |
  s::L,h,k,hk,x,hx=>by
  have hs:=h s ρp
  cases k with
  | zero=>simp[hs]
  |
   succ k=>
   have ih:=b1g m L (λs hs=>h s (by simp[hs])) k (ρw hk) x hx;simp only[Zm,List.set_cons_succ];rw[<-ih,show(k+1)*m=s.length+k*m by rw[hs,Yb];omega,show s.length+k*m+m=s.length+(k*m+m) by omega,QT,QR];simp[Yc (show s.length<=s.length+(k*m+m) by omega),Qb (show s.length<=s.length+k*m by omega)]
def CPs(ts:Array TI)(t:TI)(xs:AV):Sem VL:=Builtin.copy_ ts t xs
theorem b7o(a:Array TI)(t:TI)(xs:AV):Builtin.copy_ a t xs=CPs a t xs:=rfl
def APs(ts:Array TI)(t:TI)(xs:AV):Sem VL:=Builtin.append_ ts t xs
theorem c2V(a:Array TI)(t:TI)(xs:AV):Builtin.append_ a t xs=APs a t xs:=rfl
theorem c0H{dT sT elem:TI}(b:P.underlying dT=some (.slice elem))(d:(P.info? elem).map (·.size)=some 1) {o dLen dCap:Nat} {a:Addr} {sLen sCap:Nat} {cur:AV}  (hg:Blk w g t cur) (cs:LV) (hn:cs.length=Nat.min sLen dLen) (hsrc:∀j v,cs[j]? =some v->w.cell? (a.add j)=some v) (hfit:o+cs.length<=cur.size) (h1:∀v∈cs,v.oneCell'=true):(CPs #[dT,sT] ty #[.slice (some ⟨g,o,none⟩) dLen dCap,.slice (some a) sLen sCap]).run P w=.ok (goInt cs.length) (w.setRow g (a1d cur o cs)):=
 run_copy_row P w dT sT ty elem g o dLen dCap a sLen sCap cur t cs b d hg hn hsrc hfit h1
theorem a9k{P:PG}{w:WD}{base:Nat}{t ty e:TI}{size b:Nat}(ht:P.underlying t=some (.slice e)) (hi:(P.info? e).map (λi=>(i.zero.map (·.cells.size),i.size,i.bytes))=some (some size,size,b)) (hsz:0<size) {v:VL} {n:Nat} {xs:LV} (hown:w.ownsRow base e size v n xs) {a:Addr} {m c:Nat} (news:LV) (hl:news.length=m*size) (hnews:∀j u,news[j]? =some u->w.cell? (a.add j)=some u) (h1:∀u∈news,u.oneCell'=true) (h63:n+m<=maxLen) (hbytes:(n+m)*b<=140737488355328) (hbase:base<=w.heap.size):∃v' w',(APs #[t,t] ty #[v,.slice (some a) m c]).run P w=.ok v' w'/\w'.ownsRow base e size v' (n+m) (xs++news)/\w.grownBy w' v.ownBlock/\(v'.ownBlock=v.ownBlock\/v'.ownBlock=some w.heap.size):=by
 obtain⟨i,o,g⟩:=Q8.1 hi;simp only[Prod.mk.injEq]at g;obtain⟨E,D,B⟩:=g;obtain⟨z,f,d⟩:=Q8.1 E;obtain⟨v',w',p,y,r,_,x⟩:=run_append_own_at (P:=P) w base t ty e i z size b ht o f D B d hsz v n xs hown a m c news hl hnews h1 h63 hbytes hbase;exact⟨v',w',p,y,r,x⟩
abbrev Pj:=@a9k prog
def SLs(t:TI)(x:VL)(lo hi mx:Option VL):Sem VL:=Instr.sliceAt t x lo hi mx
theorem a3w(t:TI)(x:VL)(lo hi a:Option VL):Instr.sliceAt t x lo hi a=SLs t x lo hi a:=rfl
theorem c5W(b:P.underlying t=some (.array n e))(d:(P.info? e).map (·.size)=some 1)(w:WD)(g off l:Nat)(a:Int)(f:a=l)(j:l<n)(_hb:n<=1000000000):(SLs t (.pointer (some ⟨g,off,none⟩)) (some (.int .i64 a)) none none).run P w=.ok (.slice (some ⟨g,off+l,none⟩) (n-l) (n-l)) w:=by
 subst f;obtain⟨i,r,hi⟩:=Q8.1 d;have m:(⟨g,off,none⟩:Addr).add l=⟨g,off+l,none⟩:=by unfold Addr.add;split<;>simp_all
 have o:¬n=l:=ρo;have p:l<=n:=ρo;simp[SLs,Instr.sliceAt,Instr.sureAddr,Instr.sliceBounds,Instr.sliceBound,asIntOf,run_underlying b,sizeOf,typeInfo,r,hi,o,m,p]
def BDs(t:TI)(parts:Array (Nat×VL)):Sem VL:=Instr.build t parts
theorem bdOf(t:TI)(p:Array (Nat×VL)):Instr.build t p=BDs t p:=rfl
theorem stOf(t:TI)(v x:VL):Instr.storeAt t v x=STs t v x:=rfl
theorem ldOf(t:TI)(v:VL):Instr.loadAt t v=LDs t v:=rfl
theorem alOf(t:TI):Instr.alloc t true (.tuple #[])=ALs t:=rfl
theorem d0L(t:TI)(a:Array (Nat×VL)):Instr.build t a=BDs t a:=rfl
def BSs(t:TI)(n:Nat)(parts:Array (Nat×VL)):Sem VL:=Instr.buildSlice t n parts
theorem c9R(t:TI)(n:Nat)(a:Array (Nat×VL)):Instr.buildSlice t n a=BSs t n a:=rfl
theorem a9G(off:Nat):∀(xs:LV) (k:Nat) (cs:AV),off+k+xs.length<=cs.size->(xs.zipIdx k).foldl (λcs (p:VL×Nat)=>cs.setIfInBounds (off+p.2) p.1) cs=a1d cs (off+k) xs
 | [],k,cs,_=>by simp[a1d]
 |
  x::xs,k,cs,h=>by
  simp only[List.zipIdx_cons,List.foldl_cons];rw[a9G off xs (k+1) _ (by simp at h⊢;omega)];have e:=list_seg_step cs.toList (off+k) x xs (by simp at h⊢;omega);unfold a1d
  simpa[Zt,ZT,Nat.add_comm 1]using e
theorem a9W(a:Nat->Option (Nat×Nat))(cells:AV)(i off size:Nat)(v:VL)(b:List (Nat×VL))(f:a i=some (off,size))(d:v.cells.size=size)(g:off+size<=cells.size):Instr.fill a cells ((i,v)::b)=Instr.fill a (a1d cells off v.cells.toList) b:=by
 have e:=a9G off v.cells.toList 0 cells (by simp[d];omega);rw[ZH]at e;rw[Instr.fill];simp only[f,d];rw[if_neg (by simp;omega)]
 congr 1
 rw[<-e,<-Array.toList_zipIdx,<-Array.foldl_toList]
theorem a5r{P:PG}{t e:TI}{size:Nat}(a:P.underlying t=some (.slice e))(hi:(P.info? e).map (λi=>(i.zero.map (·.cells.size),i.size))=some (some size,size))(d:0<size)(b:size<=16777216) (w:WD) (v:VL) (hv:v.cells.size=size):(BSs t 1 #[(0,v)]).run P w=.ok (.slice w 1 1) (w.alloc (.cells v.cells e)):=by
 obtain⟨i,r,m⟩:=Q8.1 hi;simp only[Prod.mk.injEq]at m;obtain⟨y,x⟩:=m;obtain⟨z,j,p⟩:=Q8.1 y
 have f:Instr.fill (λi=>some (i*size,size)) ((Array.range (1*size)).map (z.cells[· % z.cells.size]!)) [(0,v)]=some v.cells:=by
  rw[a9W _ _ 0 0 size v _ ρp hv ρp];simp only[Instr.fill,Option.some.injEq];rw[a0q _ _ (by simp[hv])]
 have o:¬(1*size>2 ^ 24):=by simp;omega
 have g:¬(1*size=0):=ρo;simp only[Nat.one_mul]at f o g;simp[BSs,Instr.buildSlice,run_underlying a,sizeOf,typeInfo,zeroValue,r,x,j,o,g,f,newRow]
abbrev Pd:=@a5r prog
theorem b5M(a:P.underlying t=some (.array n e))(A:OA)(m c:Nat)(h:n<=m)(w:WD):(Instr.arrayAt t (.slice A m c)).run P w=.ok (.pointer A) w:=by
 have:¬m<n:=ρo
 simp[Instr.arrayAt,run_underlying a,this]
end
section
theorem c7E(z:AV)(u:VL)(n m:Nat)(a:z.toList=List.replicate m u)(b:0<m):(madeCells z n).toList=List.replicate n u:=by
 have d:z.size=m:=by rw[<-QD,a];simp
 unfold madeCells
 apply ZE
 ·simp
 intro i g f;have hi:i % z.size<z.size:=Nat.mod_lt _ ρo;simp only[Array.toList_map,QS,Array.toList_range,Yf,List.getElem_replicate];rw[getElem!_pos z _ hi]
 have:z.toList[i % z.size]'(ρw hi)=u:=by simp[a]
 simpa using this
end
end
section
structure DS where
 sure:LL
 waits:List (Nat×LI)
 fuse:Int
 off:Bool
def d2q(a b:LI)(mask:Nat):LI:=(List.range 64).map λj=>if mask / 2 ^ (j / 8) % 2=1 then b.getD j 0 else a.getD j 0
def d0e(M:LI)(k:Nat):Nat:=if k<M.length then(M.getD k 0).toNat else 255
def c0A(M:LI):Nat->LL->List (Nat×LI)->LL
 | _,L,[]=>L
 | k,L,x::r=>c0A M (k+1) (L.set x.1 (d2q (L.getD x.1 []) x.2 (d0e M k))) r
def DS.start(S:DS)(M:LI):DS:={sure:=c0A M 0 S.sure S.waits,waits:=[],fuse:=0,off:=false}
def DS.new(n:Nat):DS:={sure:=List.replicate n (List.replicate 64 0),waits:=[],fuse:=0,off:=false}
section
section
variable {B:Nat} {w w':WD} {p gs:Nat} {wv:VL} {S:DS}
theorem a2B{base:Nat}(h:w.ownsRow base e size v n xs)(a:v.ownBlock=some g):∃cs,Blk w g e cs/\base<=g:=by
 rcases h.2 with⟨rfl,_⟩ | ⟨j,cap,b,rfl,f,d,_⟩
 ·cases a
 simp[Value.ownBlock]at a;subst a;exact⟨b,d,f⟩
theorem a4l{base:Nat}{cs:AV}(h:w.ownsRow base e size v n xs)(b:Blk w g t cs)(a:e≠t):v.ownBlock≠some g:=by
 intro f;obtain⟨j,d,_⟩:=a2B h f;exact a (d.inj b).1
theorem b4T{base:Nat}{F:Nat->Prop}(h:w.ownsRow base e size v n xs)(a:Fr F w w')(b:∀k,v.ownBlock=some k->¬F k):w'.ownsRow base e size v n xs:=by
 refine⟨h.1,?_⟩
 rcases h.2 with m | ⟨g,cap,j,rfl,o,d,f⟩
 ·exact .inl m
 exact .inr ⟨g,cap,j,rfl,o,(a.block g (QK.1 d).1 (b g rfl)).trans d,f⟩
end
theorem a8a{base:Nat}(h:w.ownsRow base e size v n xs):∃A cap,v=.slice A n cap:=by
 rcases h.2 with⟨rfl,rfl⟩ | ⟨g,cap,a,rfl,_⟩
 ·exact⟨_,_,rfl⟩
 exact⟨_,_,rfl⟩
end
end
section
open Go
section
variable {P:PG} {ops:Array Oper} {Q:Exit->Act->WD->Prop}
def a2N(Q:Exit->Act->WD->Prop):Exit->Act->WD->Prop
 | .panic _,_,_=>False
 | e,a,w=>Q e a w
@[go_sem] theorem noPan_normal(Q:Exit->Act->WD->Prop)(a:Act)(w:WD):a2N Q .normal a w=Q .normal a w:=rfl
theorem a2N.imp:∀(e:Exit) (a:Act) (w:WD),a2N Q e a w->Q e a w:=λe a w h=>by
 cases e<;>first | exact h | exact(h:False).elim
end
end
section
section
attribute [local go_sem ↓] b7o a3w
theorem i5:(prog.info? 5).map (·.size)=some 1:=ρk
end
structure Byt(w:WD)(A:OA)(l:LI):Prop where
 cell:0<l.length->∃g off,A=some ⟨g,off,none⟩/\g<w.heap.size/\∀j x,l[j]? =some x->w.cell? ⟨g,off+j,none⟩=some (.int .u8 x)
 bd:∀x∈l,0<=x/\x<=255
theorem Byt.fr{b:WD}{F:Nat->Prop}(h:Byt w A l)(d:Fr F w b)(f:∀a,A=some a->0<l.length->¬F a.block):Byt b A l:=
 ⟨λh0=>by
  obtain⟨g,off,rfl,hg,hc⟩:=h.cell h0;exact⟨g,off,rfl,Qh hg d.size,λj x hx=>(d.cell (p:=⟨g,off+j,none⟩) hg (f ⟨g,off,none⟩ rfl h0)).trans (hc j x hx)⟩,h.bd⟩
theorem Byt.at_(h:Byt w A l)(hi:i<l.length):∃g off,A=some ⟨g,off,none⟩/\g<w.heap.size/\w.cell? ⟨g,off+i,none⟩=some (.int .u8 l[i]):=by
 obtain⟨g,off,e,a,b⟩:=h.cell ρo;exact⟨g,off,e,a,b i _ (QN hi)⟩
section
attribute [local go_sem ↓] b7o c2V d0L c9R
theorem i3:(prog.info? 3).map (·.size)=some 1:=ρk
def a7W(w:WD)(wv wv':VL):Prop:=∀j,wv'.ownBlock=some j->wv.ownBlock=some j\/w.heap.size<=j
theorem a7W.refl(w:WD)(a:VL):a7W w a a:=λ_ h=>.inl h
theorem a7W.nil(w:WD)(a:VL):a7W w a (.slice none 0 0):=λ_ h=>by cases h
end
end
section
section
open Go
section
variable {P:PG} {ops:Array Oper} {Q:Exit->Act->WD->Prop} {S:WD->Prop} {J:Nat->Bool} {md:Region.Mode}
def a1u(P:PG)(md:Region.Mode)(ops:Array Oper)(Q:Exit->Act->WD->Prop)(S:WD->Prop)(J:Nat->Bool):Nat->Array Bool->Act->WD->Prop
 | 0,listed,a,w=>Region.ready md ops listed=[]/\Q .normal a w
 |
  fuel+1,listed,a,w=>
  (Region.ready md ops listed=[]->Q .normal a w)/\
  ∀i∈Region.ready md ops listed,wpOp P ops Q i (λa' w'=>(J i=true->S w->S w')/\a1u P md ops Q S J fuel (listed.setIfInBounds i true) a' w') a w
theorem a4y:∀(fuel:Nat) (listed:Array Bool) (a:Act) (w:WD),a1u P md ops Q S J fuel listed a w->wpAny P md ops Q fuel listed a w
 | 0,_,_,_,h=>h
 | fuel+1,_,_,_,h=>⟨h.1,λi hi=>wpOp_mono (λa' w' h'=>a4y fuel _ a' w' h'.2) (h.2 i hi)⟩
theorem a6G{T:WD->Prop}(f:(∀W,T W)\/T=S)(hi:ops[i]? =some oi)(d:∀(j:Nat) (o:Oper) cs b,ops[j]? =some o->o.op≠ .select cs b) (hQ:∀c a w,Q (.panic c) (a.put oi.dst v) w->Q (.panic c) a w) (D:Nat->Bool) (hD:∀k ok,ops[k]? =some ok->D k=true->k≠i->∃e∈ok.after,Region.binds md e=true/\D e.on=true):∀ (fuel:Nat) (listed:Array Bool) (a:Act) (w:WD),(∀j oj,ops[j]? =some oj->j≠i->D j=false->listed.getD j true=false->oi.apart ops oj=true/\((∀W,T W)\/J j=true))->(∀k,D k=true->listed.getD k false=false)->i∈Region.ready md ops listed->YieldsIf P ops T oi v a->T w->a1u P md ops Q S J fuel (listed.setIfInBounds i true) (a.put oi.dst v) w->a1u P md ops Q S J (fuel+1) listed a w:=by
 intro fuel
 induction fuel with
 |
  zero=>
  intro listed a w _ _ G U Y H;refine⟨λh=>(by rw[h]at G;cases G),λj X=>?_⟩
  by_cases g:j=i
  ·subst g;exact U.wpOp hi Y ⟨λ_ h=>h,H⟩
  have:=ready_mono X g
  rw[H.1]at this
  cases this
 |
  succ fuel ih=>
  intro listed a w m B G U Y H;refine⟨λh=>(by rw[h]at G;cases G),λj X=>?_⟩
  by_cases g:j=i
  ·subst g;exact U.wpOp hi Y ⟨λ_ h=>h,H⟩
  have R:=H.2 j (ready_mono X g);obtain⟨z,oj,x,N⟩:=mem_ready.1 X
  have F:D j=false:=by
   cases hd:D j with
   | false=>rfl
   |
    true=>
    obtain⟨e,he,hb,aa⟩:=hD j oj x hd g;have R:=N e he hb;rw[B e.on aa]at R
    cases R
  have I:=m j oj x g F z;have h2:=wpOp_putIf x I.1 (λcs b=>d i oi cs b hi) (λcs b=>d j oj cs b x) hQ U R
  have p:∀k ok,ops[k]? =some ok->k≠i->D k=false->(listed.setIfInBounds j true).getD k true=false->oi.apart ops ok=true/\((∀W,T W)\/J k=true):=λk ok O Z ac K=>by
   refine m k ok O Z ac ?_
   by_cases r:j=k
   ·subst r;exact z
   rw[getD_set_ne true r]at K;exact K
  have E:∀k,D k=true->(listed.setIfInBounds j true).getD k false=false:=λk O=>by
   have r:j≠k:=λe=>by rw[e,O]at F;cases F
   have:=B k O
   simp only[Array.getD_eq_getD_getElem?]at this⊢;rw[Array.getElem?_setIfInBounds_ne r];exact this
  have ab:∀y,(J j=true->S w->S y)->T y:=λy h=>by
   rcases f with f | rfl
   ·exact f y
   exact I.2.elim (λh'=>h' y) (λh'=>h h' Y)
  refine wpOp_mono (λa' y V=>⟨V.2.1,ih (listed.setIfInBounds j true) a' y p E (ready_mono G (Ne.symm g)) V.1 (ab y V.2.1) ?_⟩) h2;rw[Array.setIfInBounds_comm _ _ g];exact V.2.2
theorem a3k(hi:ops[i]? =some oi)(d:∀(j:Nat) (o:Oper) cs b,ops[j]? =some o->o.op≠ .select cs b) (hQ:∀c a w,Q (.panic c) (a.put oi.dst v) w->Q (.panic c) a w):∀ (fuel:Nat) (listed:Array Bool) (a:Act) (w:WD),(∀j oj,ops[j]? =some oj->j≠i->listed.getD j true=false->(∀e∈oj.after,Region.binds md e=true->e.on≠i)->oi.apart ops oj=true)->i∈Region.ready md ops listed->YieldsIf P ops (λ_=>True) oi v a->a1u P md ops Q S J fuel (listed.setIfInBounds i true) (a.put oi.dst v) w->a1u P md ops Q S J (fuel+1) listed a w:=by
 intro fuel
 induction fuel with
 |
  zero=>
  intro listed a w _ y F H;refine⟨λh=>(by rw[h]at y;cases y),λj G=>?_⟩
  by_cases f:j=i
  ·subst f;exact F.wpOp hi trivial ⟨λ_ h=>h,H⟩
  have:=ready_mono G f
  rw[H.1]at this
  cases this
 |
  succ fuel Z=>
  intro listed a w g y F H;refine⟨λh=>(by rw[h]at y;cases y),λj G=>?_⟩
  by_cases f:j=i
  ·subst f;exact F.wpOp hi trivial ⟨λ_ h=>h,H⟩
  have x:=H.2 j (ready_mono G f);obtain⟨p,oj,r,E⟩:=mem_ready.1 G
  have B:∀e∈oj.after,Region.binds md e=true->e.on≠i:=λe he W N=>by
   have x:=E e he W;have T:=(mem_ready.1 y).1;rw[N]at x
   rcases Nat.lt_or_ge i listed.size with O | O
   ·simp[O]at T x;rw[T]at x;cases x
   simp[Array.getElem?_eq_none O]at x
  have V:=wpOp_putIf r (g j oj r f p B) (λcs b=>d i oi cs b hi) (λcs b=>d j oj cs b r) hQ F x
  have m:∀k ok,ops[k]? =some ok->k≠i->(listed.setIfInBounds j true).getD k true=false->
    (∀e∈ok.after,Region.binds md e=true->e.on≠i)->oi.apart ops ok=true:=λk ok X K D I=>by
   refine g k ok X K ?_ I
   by_cases z:j=k
   ·subst z;exact p
   rw[getD_set_ne true z]at D;exact D
  refine wpOp_mono (λY U R=>⟨R.2.1,Z (listed.setIfInBounds j true) Y U m (ready_mono y (Ne.symm f)) R.1 ?_⟩) V;rw[Array.setIfInBounds_comm _ _ f];exact R.2.2
def a3S(md:Region.Mode)(ops:Array Oper)(i:Nat):Nat->Array Bool->Array Bool
 | 0,D=>D
 | n+1,D=>a3S md ops i n (D.push ((D.size == i)||(match ops[D.size]? with | some o=>o.after.any (λe=>Region.binds md e&&D.getD e.on false) | none=>false)))
def d1z(md:Region.Mode)(ops:Array Oper)(i:Nat)(D:Nat->Bool):Bool:=
 (List.range ops.size).all λk=>!(D k)||k == i||(match ops[k]? with | some o=>o.after.any (λe=>Region.binds md e&&D e.on) | none=>true)
theorem b0O{D:Nat->Bool}(h:d1z md ops i D=true):∀k ok,ops[k]? =some ok->D k=true->k≠i->∃e∈ok.after,Region.binds md e=true/\D e.on=true:=by
 intro k ok g hd b;have a:k<ops.size:=(QK.1 g).1
 have:=Yo.1 h k (ZU.2 a)
 simp only[g,hd,Bool.not_true,Bool.false_or,Bool.or_eq_true,beq_iff_eq]at this
 rcases this with d | d
 ·exact absurd d b
 obtain⟨e,j,f⟩:=Array.any_eq_true'.1 d;simp only[QA]at f;exact⟨e,j,f.1,f.2⟩
def c4X(D:Nat->Bool)(listed:Array Bool)(n:Nat):Bool:=(List.range n).all λk=>!(D k)||!(listed.getD k false)
theorem a9j{D:Nat->Bool}{a:Array Bool}(h:c4X D a a.size=true):∀k,D k=true->a.getD k false=false:=by
 intro k d
 rcases Nat.lt_or_ge k a.size with b | b
 ·have:=Yo.1 h k (ZU.2 b)
  simpa[d]using this
 simp[Array.getElem?_eq_none b]
def b6V(ops:Array Oper)(J:Nat->Bool)(D:Nat->Bool)(listed:Array Bool)(i:Nat):Bool:=
 (List.range ops.size).all λj=>(j == i)||listed.getD j true||D j||(J j&&(match ops[i]?,ops[j]? with | some oi,some oj=>oi.apart ops oj | _,_=>true))
theorem a4C{D:Nat->Bool}{a:Array Bool}(hi:ops[i]? =some oi)(h:b6V ops J D a i=true):∀j oj,ops[j]? =some oj->j≠i->D j=false->a.getD j true=false->oi.apart ops oj=true/\J j=true:=by
 intro j oj m f hd g;have d:j<ops.size:=(QK.1 m).1
 have:=Yo.1 h j (ZU.2 d)
 simp only[m,hi,hd,g,Bool.or_false,Bool.or_eq_true,beq_iff_eq,QA]at this
 rcases this with b | b
 ·exact absurd b f
 exact⟨b.2,b.1⟩
def a3K(P:PG)(ops:Array Oper)(Q:Exit->Act->WD->Prop)(S:WD->Prop):List Nat->List Oper->Act->WD->Prop
 | _,[],a,w=>Q .normal a w
 | [],_::_,_,_=>False
 | 0::fl,o::l,a,w=>∃v,YieldsIf P ops S o v a/\a3K P ops Q S fl l (a.put o.dst v) w
 | 1::fl,o::l,a,w=>if Region.wanted o (yielded ops a.tmps)=true then o.wp P a w (λa' w'=>S w'/\a3K P ops Q S fl l a' w') Q else S w/\a3K P ops Q S fl l (a.put o.dst undef) w
 | 2::fl,o::l,a,w=>if Region.wanted o (yielded ops a.tmps)=true then o.wp P a w (λa' w'=>a3K P ops Q S fl l a' w') Q else a3K P ops Q S fl l (a.put o.dst undef) w
 | _::fl,o::l,a,w=>∃v,YieldsIf P ops (λ_=>True) o v a/\a3K P ops Q S fl l (a.put o.dst v) w
section
variable {fl:List Nat} {o:Oper} {l:List Oper} {a:Act} {w:WD}
theorem c0i:a3K P ops Q S (1::fl) (o::l) a w=(if Region.wanted o (yielded ops a.tmps)=true then o.wp P a w (λa' w'=>S w'/\a3K P ops Q S fl l a' w') Q else S w/\a3K P ops Q S fl l (a.put o.dst undef) w):=rfl
theorem b4A:a3K P ops Q S (2::fl) (o::l) a w=(if Region.wanted o (yielded ops a.tmps)=true then o.wp P a w (λa' w'=>a3K P ops Q S fl l a' w') Q else a3K P ops Q S fl l (a.put o.dst undef) w):=rfl
theorem c4j(b:Region.wanted o (yielded ops a.tmps)=true)(d:∀W,(execOp a.eval o).run P W=.ok (.value v) W)(h:a3K P ops Q S fl l (a.put o.dst v) w):a3K P ops Q S (3::fl) (o::l) a w:=
 ⟨v,.inl ⟨b,λW _=>d W⟩,h⟩
theorem d0f(b:Region.wanted o (yielded ops a.tmps)=true)(d:∀W,(execOp a.eval o).run P W=.ok (.value v) W)(f:a.put o.dst v=a')(h:a3K P ops Q S fl l a' w):a3K P ops Q S (3::fl) (o::l) a w:=
 c4j b d (f ▸ h)
theorem a6C(h:Q .normal a w):a3K P ops Q S [] [] a w:=h
theorem b9o(b:Region.wanted o (yielded ops a.tmps)=true)(d:∀W,S W->(execOp a.eval o).run P W=.ok (.value v) W)(h:a3K P ops Q S fl l (a.put o.dst v) w):a3K P ops Q S (0::fl) (o::l) a w:=
 ⟨v,.inl ⟨b,d⟩,h⟩
theorem a1g(b:Region.wanted o (yielded ops a.tmps)=true)(d:∀W,S W->(execOp a.eval o).run P W=.ok (.value v) W)(f:a.put o.dst v=a')(h:a3K P ops Q S fl l a' w):a3K P ops Q S (0::fl) (o::l) a w:=
 b9o b d (f ▸ h)
theorem a3d(b:Region.wanted o (yielded ops a.tmps)=true)(h:∀K:Act->WD->Prop,(∀a' w',a3K P ops Q S fl l a' w'->K a' w')->o.wp P a w K Q):a3K P ops Q S (2::fl) (o::l) a w:=by
 rw[b4A,if_pos b];exact h _ (λa' w' d=>d)
end
def c1Q(ops:Array Oper)(J:Nat->Bool):List Nat->Nat->Bool->Array Bool->Bool
 | [],_,_,listed=>(Region.ready .any ops listed).isEmpty
 |
  0::fl,k,held,listed=>
  held&&d1z .any ops k (λj=>(a3S .any ops k ops.size #[]).getD j false)&&c4X (λj=>(a3S .any ops k ops.size #[]).getD j false) listed listed.size&&(Region.ready .any ops listed).contains k&&
   b6V ops J (λj=>(a3S .any ops k ops.size #[]).getD j false) listed k&&c1Q ops J fl (k+1) held (listed.setIfInBounds k true)
 | 1::fl,k,held,listed=>decide (Region.ready .any ops listed=[k])&&c1Q ops J fl (k+1) held (listed.setIfInBounds k true)
 | 2::fl,k,_,listed=>!(J k)&&decide (Region.ready .any ops listed=[k])&&c1Q ops J fl (k+1) false (listed.setIfInBounds k true)
 | _::fl,k,held,listed=>Region.free .any ops listed k&&(Region.ready .any ops listed).contains k&&c1Q ops J fl (k+1) held (listed.setIfInBounds k true)
theorem a5G{L:List Oper}(b:Region.noSelect L.toArray=true)(g:∀c a d v w,Q (.panic c) (Act.put a d v) w->Q (.panic c) a w):∀ (fl:List Nat) (l:List Oper) (k:Nat) (held:Bool) (listed:Array Bool) (a:Act) (w:WD),fl.length=l.length->k+l.length=L.length->(∀j,j<l.length->l[j]? =L[k+j]?)->c1Q L.toArray J fl k held listed=true->(held=true->S w)->a3K P L.toArray Q S fl l a w->a1u P .any L.toArray Q S J l.length listed a w
 | [],[],k,held,listed,a,w,_,_,_,hB,_,h=>⟨by simpa[c1Q]using hB,h⟩
 | [],_::_,_,_,_,_,_,hl,_,_,_,_,_=>by simp at hl
 | _::_,[],_,_,_,_,_,hl,_,_,_,_,_=>by simp at hl
 |
  f::fl,o::l,k,held,listed,a,w,hl,hk,hlk,hB,hS,h=>by
  have h0:L.toArray[k]? =some o:=by
   have:=hlk 0 ρp
   simp only[List.getElem?_cons_zero,ZH]at this
   simpa using this.symm
  simp only[Qy]at hk hl
  have p:∀j,j<l.length->l[j]? =L[k+1+j]? :=λj B=>by
   have:=hlk (j+1) (by simp;omega)
   simp only[List.getElem?_cons_succ]at this;rw[this,show k+(j+1)=k+1+j by omega]
  match f,hB,h with
  |
   0,hB,h=>
   simp only[c1Q,QA]at hB;obtain⟨⟨⟨⟨⟨V,E⟩,F⟩,y⟩,B⟩,hB⟩:=hB;obtain⟨v,H,h⟩:=h;have z:=a5G b g fl l (k+1) held (listed.setIfInBounds k true) (a.put o.dst v) w ρo ρo p hB hS h;exact a6G (T:=S) (.inr rfl) h0 (Zl b) (λc a w h=>g c a _ _ w h) _ (b0O E) _ _ _ _ (λj R N I O K=>⟨(a4C h0 B j R N I O K).1,.inr (a4C h0 B j R N I O K).2⟩) (a9j F) (ρw y) H (hS V) z
  |
   1,hB,h=>
   simp only[c1Q,QA,decide_eq_true_eq]at hB;obtain⟨y,hB⟩:=hB
   have z:∀r m,(held=true->S m)->a3K P L.toArray Q S fl l r m->a1u P .any L.toArray Q S J l.length (listed.setIfInBounds k true) r m:=λr m G x=>
    a5G b g fl l (k+1) held (listed.setIfInBounds k true) r m ρo ρo p hB G x
   refine⟨λe=>(by rw[y]at e;cases e),λi hi=>?_⟩;rw[y]at hi;simp only[Qn]at hi;subst hi;rw[c0i]at h;unfold wpOp;rw[h0];simp only
   by_cases D:Region.wanted o (yielded L.toArray a.tmps)=true
   ·rw[if_pos D]at h⊢
    exact .inl (Yg (λr m x=>⟨λ_ _=>x.1,z r m (λ_=>x.1) x.2⟩) h)
   rw[if_neg D]at h⊢;exact⟨λ_ _=>h.1,z _ _ (λ_=>h.1) h.2⟩
  |
   2,hB,h=>
   simp only[c1Q,QA,decide_eq_true_eq,Bool.not_eq_true']at hB;obtain⟨⟨B,y⟩,hB⟩:=hB
   have z:∀r m,a3K P L.toArray Q S fl l r m->a1u P .any L.toArray Q S J l.length (listed.setIfInBounds k true) r m:=λr m x=>
    a5G b g fl l (k+1) false (listed.setIfInBounds k true) r m ρo ρo p hB (λe=>by cases e) x
   refine⟨λe=>(by rw[y]at e;cases e),λi hi=>?_⟩;rw[y]at hi;simp only[Qn]at hi;subst hi;rw[b4A]at h;unfold wpOp;rw[h0];simp only
   by_cases D:Region.wanted o (yielded L.toArray a.tmps)=true
   ·rw[if_pos D]at h⊢
    exact .inl (Yg (λr m x=>⟨λe=>(by rw[B]at e;cases e),z r m x⟩) h)
   rw[if_neg D]at h⊢;exact⟨λe=>(by rw[B]at e;cases e),z _ _ h⟩
  |
   n+3,hB,h=>
   simp only[c1Q,QA]at hB;obtain⟨⟨U,y⟩,hB⟩:=hB;obtain⟨v,H,h⟩:=h;have z:=a5G b g fl l (k+1) held (listed.setIfInBounds k true) (a.put o.dst v) w ρo ρo p hB hS h;exact a3k h0 (Zl b) (λc a w h=>g c a _ _ w h) _ _ _ _ (Region.free_spec h0 U) (ρw y) H z
theorem b4g(b:List Nat)(S:WD->Prop)(d:P.follows .mixedOrders=true)(f:Region.noSelect L.toArray=true) (hl:decide (b.length=L.length)=true) (hB:c1Q L.toArray (λi=>b.getD i 0 != 2) b 0 true (Array.replicate L.toArray.size false)=true) (hS:S w.drew) (h:a3K P L.toArray (a2N Q) S b L a w.drew):(Code.region id L.toArray true).wp P Q a w:=by
 refine wp_mono (Q:=a2N Q) (wp_region_any d (a4y (S:=S) (J:=λi=>b.getD i 0 != 2) _ _ _ _ ?_)) a2N.imp;exact a5G (Q:=a2N Q) f (λ_ _ _ _ _ h=>(h:False).elim) b L 0 true _ a _ (ρw hl) ρp (λj g=>by rw[QP]) hB (λ_=>hS) h
end
end
section
open Go
section
variable {P:PG} {ops:Array Oper} {Q:Exit->Act->WD->Prop} {S:WD->Prop} {J:Nat->Bool} {md:Region.Mode}
def a4p(P:PG)(ops:Array Oper)(Q:Exit->Act->WD->Prop)(S:WD->Prop):List (Nat×Nat)->Act->WD->Prop
 | [],a,w=>Q .normal a w
 | (k,0)::fl,a,w=>∃o,ops[k]? =some o/\∃v,YieldsIf P ops S o v a/\a4p P ops Q S fl (a.put o.dst v) w
 | (k,1)::fl,a,w=>∃o,ops[k]? =some o/\if Region.wanted o (yielded ops a.tmps)=true then o.wp P a w (λa' w'=>S w'/\a4p P ops Q S fl a' w') Q else S w/\a4p P ops Q S fl (a.put o.dst undef) w
 | (k,2)::fl,a,w=>∃o,ops[k]? =some o/\if Region.wanted o (yielded ops a.tmps)=true then o.wp P a w (λa' w'=>a4p P ops Q S fl a' w') Q else a4p P ops Q S fl (a.put o.dst undef) w
 | (k,_)::fl,a,w=>∃o,ops[k]? =some o/\∃v,YieldsIf P ops (λ_=>True) o v a/\a4p P ops Q S fl (a.put o.dst v) w
section
variable {fl:List (Nat×Nat)} {k:Nat} {o:Oper} {a:Act} {w:WD}
theorem d0U(b:ops[k]? =some o)(d:Region.wanted o (yielded ops a.tmps)=true)(f:∀W,(execOp a.eval o).run P W=.ok (.value v) W)(g:a.put o.dst v=a')(h:a4p P ops Q S fl a' w):a4p P ops Q S ((k,3)::fl) a w:=
 ⟨o,b,v,.inl ⟨d,λW _=>f W⟩,g ▸ h⟩
theorem a0t(b:ops[k]? =some o)(d:Region.wanted o (yielded ops a.tmps)=true)(f:∀W,S W->(execOp a.eval o).run P W=.ok (.value v) W)(g:a.put o.dst v=a')(h:a4p P ops Q S fl a' w):a4p P ops Q S ((k,0)::fl) a w:=
 ⟨o,b,v,.inl ⟨d,f⟩,g ▸ h⟩
theorem θ1{ops:Array Oper}{Q:Exit->Act->WD->Prop}{S:WD->Prop}{fl:List (Nat×Nat)}{q:Prop}{C:WD->Prop}(X:∀w,S w->C w)(k:q)(h:QH q->QH (∀w,S w->C w)->a4p P ops Q S ((i,0)::fl) a w:=by intro k X;with_reducible refine a0t (o:=?_) (v:=?_) (a':=?_) ρu ρu (λm j=>?_) ?_ ?_;rotate_left 2;(focus(obtain q1:=X.o m j;exact ρs));(focus exact ρs);exact k.o):a4p P ops Q S ((i,0)::fl) a w:=h (η1 k) (η1 X)
theorem θ2{ops:Array Oper}{Q:Exit->Act->WD->Prop}{S:WD->Prop}{fl:List (Nat×Nat)}{q:Prop}{C:WD->Prop}(X:∀w,S w->C w)(k:q)(h:QH q->QH (∀w,S w->C w)->a4p P ops Q S ((i,0)::fl) a w:=by intro k X;with_reducible refine a0t (o:=?_) (v:=?_) (a':=?_) ρu ρu (λm j=>?_) ?_ ?_;rotate_left 2;(focus(obtain⟨q1,p⟩:=X.o m j;exact ρs));(focus exact ρs);exact k.o):a4p P ops Q S ((i,0)::fl) a w:=h (η1 k) (η1 X)
theorem θ3{ops:Array Oper}{Q:Exit->Act->WD->Prop}{S:WD->Prop}{fl:List (Nat×Nat)}{q:Prop}{C:WD->Prop}(X:∀w,S w->C w)(k:q)(h:QH q->QH (∀w,S w->C w)->a4p P ops Q S ((i,0)::fl) a w:=by intro k X;with_reducible refine a0t (o:=?_) (v:=?_) (a':=?_) ρu ρu (λm j=>?_) ?_ ?_;rotate_left 2;(focus(obtain⟨q1,p,r⟩:=X.o m j;exact ρs));(focus exact ρs);exact k.o):a4p P ops Q S ((i,0)::fl) a w:=h (η1 k) (η1 X)
theorem θ4{ops:Array Oper}{Q:Exit->Act->WD->Prop}{S:WD->Prop}{fl:List (Nat×Nat)}{q:Prop}{C:WD->Prop}(X:∀w,S w->C w)(k:q)(h:QH q->QH (∀w,S w->C w)->a4p P ops Q S ((i,0)::fl) a w:=by intro k X;with_reducible refine a0t (o:=?_) (v:=?_) (a':=?_) ρu ρu (λm j=>?_) ?_ ?_;rotate_left 2;(focus(obtain⟨q1,p,r,x⟩:=X.o m j;exact ρs));(focus exact ρs);exact k.o):a4p P ops Q S ((i,0)::fl) a w:=h (η1 k) (η1 X)
theorem θ5{ops:Array Oper}{Q:Exit->Act->WD->Prop}{S:WD->Prop}{fl:List (Nat×Nat)}{q:Prop}{C:WD->Prop}(X:∀w,S w->C w)(k:q)(h:QH q->QH (∀w,S w->C w)->a4p P ops Q S ((i,0)::fl) a w:=by intro k X;with_reducible refine a0t (o:=?_) (v:=?_) (a':=?_) ρu ρu (λm j=>?_) ?_ ?_;rotate_left 2;(focus(obtain⟨q1,p,r,x,y⟩:=X.o m j;exact ρs));(focus exact ρs);exact k.o):a4p P ops Q S ((i,0)::fl) a w:=h (η1 k) (η1 X)
theorem θ8{ops:Array Oper}{Q:Exit->Act->WD->Prop}{S:WD->Prop}{fl:List (Nat×Nat)}{q:Prop}{C:WD->Prop}(X:∀w,S w->C w)(k:q)(h:QH q->QH (∀w,S w->C w)->a4p P ops Q S ((i,0)::fl) a w:=by intro k X;with_reducible refine a0t (o:=?_) (v:=?_) (a':=?_) ρu ρu (λm j=>?_) ?_ ?_;rotate_left 2;(focus(obtain⟨⟨q1,p,r,x⟩,⟨y,z,B⟩,D⟩:=X.o m j;exact ρs));(focus exact ρs);exact k.o):a4p P ops Q S ((i,0)::fl) a w:=h (η1 k) (η1 X)
theorem a1N(h:Q .normal a w):a4p P ops Q S [] a w:=h
theorem c9z(b:ops[k]? =some o)(d:Region.wanted o (yielded ops a.tmps)=true)(h:∀K:Act->WD->Prop,(∀a' w',S w'->a4p P ops Q S fl a' w'->K a' w')->o.wp P a w K Q):a4p P ops Q S ((k,1)::fl) a w:=by
 refine⟨o,b,?_⟩;rw[if_pos d];exact h _ (λa' w' f g=>⟨f,g⟩)
theorem c9A(b:ops[k]? =some o)(d:Region.wanted o (yielded ops a.tmps)=true)(h:∀K:Act->WD->Prop,(∀a' w',a4p P ops Q S fl a' w'->K a' w')->o.wp P a w K Q):a4p P ops Q S ((k,2)::fl) a w:=by
 refine⟨o,b,?_⟩;rw[if_pos d];exact h _ (λa' w' f=>f)
end
def b7Z(ops:Array Oper)(J:Nat->Bool):List (Nat×Nat)->Bool->Array Bool->Bool
 | [],_,listed=>(Region.ready .any ops listed).isEmpty
 |
  (k,0)::fl,held,listed=>
  held&&d1z .any ops k (λj=>(a3S .any ops k ops.size #[]).getD j false)&&c4X (λj=>(a3S .any ops k ops.size #[]).getD j false) listed listed.size&&(Region.ready .any ops listed).contains k&&
   b6V ops J (λj=>(a3S .any ops k ops.size #[]).getD j false) listed k&&b7Z ops J fl held (listed.setIfInBounds k true)
 | (k,1)::fl,held,listed=>decide (Region.ready .any ops listed=[k])&&b7Z ops J fl held (listed.setIfInBounds k true)
 | (k,2)::fl,_,listed=>!(J k)&&decide (Region.ready .any ops listed=[k])&&b7Z ops J fl false (listed.setIfInBounds k true)
 | (k,_)::fl,held,listed=>Region.free .any ops listed k&&(Region.ready .any ops listed).contains k&&b7Z ops J fl held (listed.setIfInBounds k true)
theorem a3e(b:Region.noSelect ops=true)(g:∀c a d v w,Q (.panic c) (Act.put a d v) w->Q (.panic c) a w):∀ (fl:List (Nat×Nat)) (held:Bool) (listed:Array Bool) (a:Act) (w:WD),b7Z ops J fl held listed=true->(held=true->S w)->a4p P ops Q S fl a w->a1u P .any ops Q S J fl.length listed a w
 | [],held,listed,a,w,hB,_,h=>⟨by simpa[b7Z]using hB,h⟩
 |
  (k,f)::fl,held,listed,a,w,hB,hS,h=>by
  match f,hB,h with
  |
   0,hB,h=>
   simp only[b7Z,QA]at hB;obtain⟨⟨⟨⟨⟨hh,hdp⟩,hop⟩,hr⟩,hj⟩,hB⟩:=hB;obtain⟨o,h0,v,hy,h⟩:=h;have ih:=a3e b g fl held (listed.setIfInBounds k true) (a.put o.dst v) w hB hS h;exact a6G (T:=S) (.inr rfl) h0 (Zl b) (λc a w h=>g c a _ _ w h) _ (b0O hdp) _ _ _ _ (λj oj h1 h2 h3 h4=>⟨(a4C h0 hj j oj h1 h2 h3 h4).1,.inr (a4C h0 hj j oj h1 h2 h3 h4).2⟩) (a9j hop) (ρw hr) hy (hS hh) ih
  |
   1,hB,h=>
   simp only[b7Z,QA,decide_eq_true_eq]at hB;obtain⟨hr,hB⟩:=hB;obtain⟨o,h0,hz⟩:=h
   have ih:∀a' w',(held=true->S w')->a4p P ops Q S fl a' w'->a1u P .any ops Q S J fl.length (listed.setIfInBounds k true) a' w':=λa' w' hS' h'=>
    a3e b g fl held (listed.setIfInBounds k true) a' w' hB hS' h'
   refine⟨λe=>(by rw[hr]at e;cases e),λi hi=>?_⟩;rw[hr]at hi;simp only[Qn]at hi;subst hi;unfold wpOp;rw[h0];simp only
   by_cases hw:Region.wanted o (yielded ops a.tmps)=true
   ·rw[if_pos hw]at hz⊢
    exact .inl (Yg (λa' w' h'=>⟨λ_ _=>h'.1,ih a' w' (λ_=>h'.1) h'.2⟩) hz)
   rw[if_neg hw]at hz⊢;exact⟨λ_ _=>hz.1,ih _ _ (λ_=>hz.1) hz.2⟩
  |
   2,hB,h=>
   simp only[b7Z,QA,decide_eq_true_eq,Bool.not_eq_true']at hB;obtain⟨⟨hj,hr⟩,hB⟩:=hB;obtain⟨o,h0,hz⟩:=h
   have ih:∀a' w',a4p P ops Q S fl a' w'->a1u P .any ops Q S J fl.length (listed.setIfInBounds k true) a' w':=λa' w' h'=>
    a3e b g fl false (listed.setIfInBounds k true) a' w' hB (λe=>by cases e) h'
   refine⟨λe=>(by rw[hr]at e;cases e),λi hi=>?_⟩;rw[hr]at hi;simp only[Qn]at hi;subst hi;unfold wpOp;rw[h0];simp only
   by_cases hw:Region.wanted o (yielded ops a.tmps)=true
   ·rw[if_pos hw]at hz⊢
    exact .inl (Yg (λa' w' h'=>⟨λe=>(by rw[hj]at e;cases e),ih a' w' h'⟩) hz)
   rw[if_neg hw]at hz⊢;exact⟨λe=>(by rw[hj]at e;cases e),ih _ _ hz⟩
  |
   n+3,hB,h=>
   simp only[b7Z,QA]at hB;obtain⟨⟨hf,hr⟩,hB⟩:=hB;obtain⟨o,h0,v,hy,h⟩:=h;have ih:=a3e b g fl held (listed.setIfInBounds k true) (a.put o.dst v) w hB hS h;exact a3k h0 (Zl b) (λc a w h=>g c a _ _ w h) _ _ _ _ (Region.free_spec h0 hf) (ρw hr) hy ih
def b1V(fl:List (Nat×Nat))(i:Nat):Bool:=fl.any λe=>e.1 == i&&e.2 == 2
theorem a0s(b:List (Nat×Nat))(S:WD->Prop)(d:P.follows .mixedOrders=true)(f:Region.noSelect L.toArray=true) (hl:decide (b.length=L.length)=true) (hB:b7Z L.toArray (λi=>!(b1V b i)) b true (Array.replicate L.toArray.size false)=true) (hS:S w.drew) (h:a4p P L.toArray (a2N Q) S b a w.drew):(Code.region id L.toArray true).wp P Q a w:=by
 refine wp_mono (Q:=a2N Q) (wp_region_any d (a4y (S:=S) (J:=λi=>!(b1V b i)) _ _ _ _ ?_)) a2N.imp;have g:=a3e (Q:=a2N Q) (J:=λi=>!(b1V b i)) f (λ_ _ _ _ _ h=>(h:False).elim) b true _ a _ hB (λ_=>hS) h;have j:b.length=L.toArray.size:=ρw hl;rw[j]at g;exact g
end
end
end
section
attribute [local go_sem] Oper.semAt_some
theorem Blk.putObj{w:WD}{g:Nat}{t:TI}{cs:AV}(h:Blk w g t cs){D:Nat}{o:Obj}(b:w.heap[D]? =some o)(a:o.isCells=false)(d:Obj):Blk (w.putObj D d) g t cs:=by
 refine(World.putObj_heap_other ?_).trans h;rintro rfl;rw[show w.heap[_]? =_ from h]at b
 cases b
 cases a
theorem a0c{fn:Func}{p:Tmp}(h:fn.results=#[.cell p ty])(tmps:AV)(w:WD)(g:Nat)(t:TI)(xs:LV)(d:TypeDesc) (hp:tmps.getD p undef=.pointer g) (hg:Blk w g t xs.toArray) (hu:P.underlying ty=some d) (hd:a1f d=true) (hi:(P.info? ty).map (·.size)=some xs.length):(results fn tmps).run P w=.ok (.agg xs.toArray) w:=
 results_cell_row h tmps w g t xs.toArray (0,0) d hp hg hu (by cases d<;>simp_all [a1f]) (ρw hi)
end
section
section
open Go
section
variable {P:PG} {ops:Array Oper} {Q:Exit->Act->WD->Prop} {S:WD->Prop} {J:Nat->Bool} {md:Region.Mode}
def a7v(P:PG)(ops:Array Oper)(Q:Exit->Act->WD->Prop)(S:WD->Prop)(E:Act->WD->Prop):List (Nat×Nat)->Act->WD->Prop
 | [],a,w=>E a w
 | (k,0)::fl,a,w=>∃o,ops[k]? =some o/\∃v,YieldsIf P ops S o v a/\a7v P ops Q S E fl (a.put o.dst v) w
 | (k,1)::fl,a,w=>∃o,ops[k]? =some o/\if Region.wanted o (yielded ops a.tmps)=true then o.wp P a w (λa' w'=>S w'/\a7v P ops Q S E fl a' w') Q else S w/\a7v P ops Q S E fl (a.put o.dst undef) w
 | (k,2)::fl,a,w=>∃o,ops[k]? =some o/\if Region.wanted o (yielded ops a.tmps)=true then o.wp P a w (λa' w'=>a7v P ops Q S E fl a' w') Q else a7v P ops Q S E fl (a.put o.dst undef) w
 | (k,_)::fl,a,w=>∃o,ops[k]? =some o/\∃v,YieldsIf P ops (λ_=>True) o v a/\a7v P ops Q S E fl (a.put o.dst v) w
section
variable {fl:List (Nat×Nat)} {E:Act->WD->Prop} {k:Nat} {o:Oper} {a:Act} {w:WD}
theorem d0X(b:ops[k]? =some o)(d:Region.wanted o (yielded ops a.tmps)=true)(f:∀W,(execOp a.eval o).run P W=.ok (.value v) W)(g:a.put o.dst v=a')(h:a7v P ops Q S E fl a' w):a7v P ops Q S E ((k,3)::fl) a w:=
 ⟨o,b,v,.inl ⟨d,λW _=>f W⟩,g ▸ h⟩
theorem a3M(b:ops[k]? =some o)(d:Region.wanted o (yielded ops a.tmps)=true)(f:∀W,S W->(execOp a.eval o).run P W=.ok (.value v) W)(g:a.put o.dst v=a')(h:a7v P ops Q S E fl a' w):a7v P ops Q S E ((k,0)::fl) a w:=
 ⟨o,b,v,.inl ⟨d,f⟩,g ▸ h⟩
theorem θc2{ops:Array Oper}{Q:Exit->Act->WD->Prop}{S:WD->Prop}{E:Act->WD->Prop}{fl:List (Nat×Nat)}{q:Prop}{C:WD->Prop}(X:∀w,S w->C w)(k:q)(h:QH q->QH (∀w,S w->C w)->a7v P ops Q S E ((i,0)::fl) a w:=by intro k X;with_reducible refine a3M (o:=?_) (v:=?_) (a':=?_) ρu ρu (λm j=>?_) ?_ ?_;rotate_left 2;(focus(obtain⟨q1,p⟩:=X.o m j;exact ρs));(focus exact ρs);exact k.o):a7v P ops Q S E ((i,0)::fl) a w:=h (η1 k) (η1 X)
theorem θc3{ops:Array Oper}{Q:Exit->Act->WD->Prop}{S:WD->Prop}{E:Act->WD->Prop}{fl:List (Nat×Nat)}{q:Prop}{C:WD->Prop}(X:∀w,S w->C w)(k:q)(h:QH q->QH (∀w,S w->C w)->a7v P ops Q S E ((i,0)::fl) a w:=by intro k X;with_reducible refine a3M (o:=?_) (v:=?_) (a':=?_) ρu ρu (λm j=>?_) ?_ ?_;rotate_left 2;(focus(obtain⟨q1,p,r⟩:=X.o m j;exact ρs));(focus exact ρs);exact k.o):a7v P ops Q S E ((i,0)::fl) a w:=h (η1 k) (η1 X)
theorem θc4{ops:Array Oper}{Q:Exit->Act->WD->Prop}{S:WD->Prop}{E:Act->WD->Prop}{fl:List (Nat×Nat)}{q:Prop}{C:WD->Prop}(X:∀w,S w->C w)(k:q)(h:QH q->QH (∀w,S w->C w)->a7v P ops Q S E ((i,0)::fl) a w:=by intro k X;with_reducible refine a3M (o:=?_) (v:=?_) (a':=?_) ρu ρu (λm j=>?_) ?_ ?_;rotate_left 2;(focus(obtain⟨q1,p,r,x⟩:=X.o m j;exact ρs));(focus exact ρs);exact k.o):a7v P ops Q S E ((i,0)::fl) a w:=h (η1 k) (η1 X)
theorem a2m(h:E a w):a7v P ops Q S E [] a w:=h
end
def b9O(ops:Array Oper)(J:Nat->Bool)(Lf:Array Bool):List (Nat×Nat)->Bool->Array Bool->Bool
 | [],_,listed=>decide (listed=Lf)
 |
  (k,0)::fl,held,listed=>
  held&&d1z .any ops k (λj=>(a3S .any ops k ops.size #[]).getD j false)&&c4X (λj=>(a3S .any ops k ops.size #[]).getD j false) listed listed.size&&(Region.ready .any ops listed).contains k&&
   b6V ops J (λj=>(a3S .any ops k ops.size #[]).getD j false) listed k&&b9O ops J Lf fl held (listed.setIfInBounds k true)
 | (k,1)::fl,held,listed=>decide (Region.ready .any ops listed=[k])&&b9O ops J Lf fl held (listed.setIfInBounds k true)
 | (k,2)::fl,_,listed=>!(J k)&&decide (Region.ready .any ops listed=[k])&&b9O ops J Lf fl false (listed.setIfInBounds k true)
 | (k,_)::fl,held,listed=>Region.free .any ops listed k&&(Region.ready .any ops listed).contains k&&b9O ops J Lf fl held (listed.setIfInBounds k true)
theorem a3F{E:Act->WD->Prop}{Lf:Array Bool}{n:Nat}(b:Region.noSelect ops=true)(g:∀c a d v w,Q (.panic c) (Act.put a d v) w->Q (.panic c) a w)(m:∀a w,E a w->a1u P .any ops Q S J n Lf a w):∀ (fl:List (Nat×Nat)) (held:Bool) (listed:Array Bool) (a:Act) (w:WD),b9O ops J Lf fl held listed=true->(held=true->S w)->a7v P ops Q S E fl a w->a1u P .any ops Q S J (fl.length+n) listed a w
 |
  [],held,listed,a,w,hB,_,h=>by
  have hB':listed=Lf:=by simpa[b9O]using hB
  subst hB'
  simpa using m _ _ h
 |
  (k,f)::fl,held,listed,a,w,hB,hS,h=>by
  rw[show((k,f)::fl).length+n=fl.length+n+1 by simp;omega]
  match f,hB,h with
  |
   0,hB,h=>
   simp only[b9O,QA]at hB;obtain⟨⟨⟨⟨⟨Y,H⟩,I⟩,B⟩,G⟩,hB⟩:=hB;obtain⟨o,y,v,N,h⟩:=h;have D:=a3F b g m fl held (listed.setIfInBounds k true) (a.put o.dst v) w hB hS h;exact a6G (T:=S) (.inr rfl) y (Zl b) (λc a w h=>g c a _ _ w h) _ (b0O H) _ _ _ _ (λj W U O V R=>⟨(a4C y G j W U O V R).1,.inr (a4C y G j W U O V R).2⟩) (a9j I) (ρw B) N (hS Y) D
  |
   1,hB,h=>
   simp only[b9O,QA,decide_eq_true_eq]at hB;obtain⟨B,hB⟩:=hB;obtain⟨o,y,x⟩:=h
   have D:∀r p,(held=true->S p)->a7v P ops Q S E fl r p->a1u P .any ops Q S J (fl.length+n) (listed.setIfInBounds k true) r p:=λr p K z=>
    a3F b g m fl held (listed.setIfInBounds k true) r p hB K z
   refine⟨λe=>(by rw[B]at e;cases e),λi hi=>?_⟩;rw[B]at hi;simp only[Qn]at hi;subst hi;unfold wpOp;rw[y];simp only
   by_cases F:Region.wanted o (yielded ops a.tmps)=true
   ·rw[if_pos F]at x⊢
    exact .inl (Yg (λr p z=>⟨λ_ _=>z.1,D r p (λ_=>z.1) z.2⟩) x)
   rw[if_neg F]at x⊢;exact⟨λ_ _=>x.1,D _ _ (λ_=>x.1) x.2⟩
  |
   2,hB,h=>
   simp only[b9O,QA,decide_eq_true_eq,Bool.not_eq_true']at hB;obtain⟨⟨G,B⟩,hB⟩:=hB;obtain⟨o,y,x⟩:=h
   have D:∀r p,a7v P ops Q S E fl r p->a1u P .any ops Q S J (fl.length+n) (listed.setIfInBounds k true) r p:=λr p z=>
    a3F b g m fl false (listed.setIfInBounds k true) r p hB (λe=>by cases e) z
   refine⟨λe=>(by rw[B]at e;cases e),λi hi=>?_⟩;rw[B]at hi;simp only[Qn]at hi;subst hi;unfold wpOp;rw[y];simp only
   by_cases F:Region.wanted o (yielded ops a.tmps)=true
   ·rw[if_pos F]at x⊢
    exact .inl (Yg (λr p z=>⟨λe=>(by rw[G]at e;cases e),D r p z⟩) x)
   rw[if_neg F]at x⊢;exact⟨λe=>(by rw[G]at e;cases e),D _ _ x⟩
  |
   n+3,hB,h=>
   simp only[b9O,QA]at hB;obtain⟨⟨X,B⟩,hB⟩:=hB;obtain⟨o,y,v,N,h⟩:=h;have D:=a3F b g m fl held (listed.setIfInBounds k true) (a.put o.dst v) w hB hS h;exact a3k y (Zl b) (λc a w h=>g c a _ _ w h) _ _ _ _ (Region.free_spec y X) (ρw B) N D
theorem c9Y(J:Nat->Bool)(b:List (Nat×Nat))(n:Nat)(Lf:Array Bool)(S:WD->Prop)(d:P.follows .mixedOrders=true)(f:Region.noSelect L.toArray=true) (hl:decide (b.length+n=L.length)=true) (hB:b9O L.toArray J Lf b true (Array.replicate L.toArray.size false)=true) (hS:S w.drew) (h:a7v P L.toArray (a2N Q) S (λa w=>a1u P .any L.toArray (a2N Q) S J n Lf a w) b a w.drew):(Code.region id L.toArray true).wp P Q a w:=by
 refine wp_mono (Q:=a2N Q) (wp_region_any d (a4y (S:=S) (J:=J) _ _ _ _ ?_)) a2N.imp;have g:=a3F (Q:=a2N Q) (J:=J) (n:=n) f (λ_ _ _ _ _ h=>(h:False).elim) (λa w h=>h) b true _ a _ hB (λ_=>hS) h;have j:b.length+n=L.toArray.size:=ρw hl;rw[j]at g;exact g
theorem a3O(d:Region.ready .any ops b=[i,j]) (hi:wpOp P ops Q i (λa' w'=>(J i=true->S w->S w')/\a1u P .any ops Q S J n (b.setIfInBounds i true) a' w') a w) (hj:wpOp P ops Q j (λa' w'=>(J j=true->S w->S w')/\a1u P .any ops Q S J n (b.setIfInBounds j true) a' w') a w):a1u P .any ops Q S J (n+1) b a w:=
 ⟨λe=>(by rw[d]at e;cases e),λk hk=>by
  rw[d]at hk;simp only[Qo,Qt,or_false]at hk
  rcases hk with rfl | rfl
  ·exact hi
  exact hj⟩
theorem a2k(b:ops[i]? =some oi)(d:Region.wanted oi (yielded ops a.tmps)=true) (h:∀K:Act->WD->Prop,(∀a' w',S w'->a1u P .any ops Q S J n Lf a' w'->K a' w')->oi.wp P a w K Q):wpOp P ops Q i (λa' w'=>(J i=true->S w->S w')/\a1u P .any ops Q S J n Lf a' w') a w:=by
 unfold wpOp;rw[b];simp only;rw[if_pos d];exact .inl (h _ (λa' w' g f=>⟨λ_ _=>g,f⟩))
theorem a5X(d:List (Nat×Nat))(f:decide (d.length=n)=true)(g:Region.noSelect L.toArray=true)(j:b7Z L.toArray J d false b=true) (h:a4p P L.toArray (a2N Q) S d a w):a1u P .any L.toArray (a2N Q) S J n b a w:=by
 have m:=a3e (Q:=a2N Q) (J:=J) g (λ_ _ _ _ _ h=>(h:False).elim) d false b a w j (λe=>by cases e) h;rw[show d.length=n by simpa using f]at m;exact m
end
end
end
section
open Go
section
variable {P:PG} {Q:Exit->Act->WD->Prop}
def b0E(Q:Exit->Act->WD->Prop):Exit->Act->WD->Prop
 | .panic c,a,w=>∀a':Act,a'.defers=a.defers->Q (.panic c) a' w
 | e,a,w=>Q e a w
theorem a0V(Q:Exit->Act->WD->Prop)(a:Act)(w:WD):b0E Q .normal a w=Q .normal a w:=rfl
theorem b0E.imp:∀(e:Exit) (a:Act) (w:WD),b0E Q e a w->Q e a w:=λe a w h=>by
 cases e with
 | panic c=>exact h a rfl
 | _=>exact h
theorem b9b(a:Act)(d:Option Tmp)(v:VL):(a.put d v).defers=a.defers:=by
 unfold Act.put
 cases d<;>rfl
theorem a3Y(b:List (Nat×Nat))(S:WD->Prop)(f:P.follows .mixedOrders=true)(g:Region.noSelect L.toArray=true) (hl:decide (b.length=L.length)=true) (hB:b7Z L.toArray (λi=>!(b1V b i)) b true (Array.replicate L.toArray.size false)=true) (hS:S w.drew) (h:a4p P L.toArray (b0E Q) S b a w.drew):(Code.region id L.toArray true).wp P Q a w:=by
 refine wp_mono (Q:=b0E Q) (wp_region_any f (a4y (S:=S) (J:=λi=>!(b1V b i)) _ _ _ _ ?_)) b0E.imp;have j:=a3e (Q:=b0E Q) (J:=λi=>!(b1V b i)) g (λc a d v w h p m=>h p (by rw[m,b9b])) b true _ a _ hB (λ_=>hS) h;have o:b.length=L.toArray.size:=ρw hl;rw[o]at j;exact j
end
end
section
theorem Blk.byt(h:Blk w g t (bys l).toArray)(a:∀x∈l,0<=x/\x<=255):Byt w g l:=
 ⟨λ_=>⟨g,0,rfl,h.lt,λj x hx=>by rw[h.cell];simp[a3J,hx]⟩,a⟩
theorem Byt.nil(w:WD)(A:OA):Byt w A []:=⟨λh=>absurd h ρp,by simp⟩
theorem iz5:(prog.info? 5).map (λi=>(i.zero,i.size,i.bytes))=some (some (.int .u8 0),1,1):=ρk
theorem b9D(n:Nat):madeCells #[Value.int .u8 0] n=(bys (List.replicate n 0)).toArray:=by
 apply ZM
 rw[c7E #[Value.int .u8 0] (.int .u8 0) n 1 rfl ρo];simp[bys]
theorem b9p(n:Nat)(a:n<=1000000000)(w:WD):(Instr.makeSlice 22 (.int .i64 n) (.int .i64 n)).run prog w=.ok (.slice w n n) (w.alloc (.cells (bys (List.replicate n 0)).toArray 5)):=by
 obtain⟨i,hi,d⟩:=Q8.1 iz5;simp only[Prod.mk.injEq]at d;obtain⟨j,g,f⟩:=d;have b:=run_make (P:=prog) w 22 5 i (.int .u8 0) Tryz.underlying22 hi j .i64 .i64 n n ρo (Int.le_refl _) (by rw[f];omega) ρo;rw[g]at b;simp only[Zd,Nat.mul_one,Value.cells,b9D]at b;exact b
theorem a2j(n:Int)(h:-9223372036854775808<=n/\n<=9223372036854775807):wrap64 n=n:=by unfold wrap64;omega
section
section
theorem u22:prog.underlying 22=some (.slice 5):=ρk
theorem ib5:(prog.info? 5).map (λi=>(i.zero.map (·.cells.size),i.size,i.bytes))=some (some 1,1,1):=ρk
def a0N(B:Nat)(w:WD)(v:VL)(l:LI):Prop:=w.ownsRow B 5 1 v l.length (bys l)
section
variable {B:Nat} {w w':WD} {v:VL} {l:LI}
theorem a0N.nil(B:Nat)(w:WD):a0N B w (.slice none 0 0) []:=World.ownsRow_nil _ _ _ _
theorem a0N.fr{F:Nat->Prop}(h:a0N B w v l)(a:Fr F w w')(b:∀k,v.ownBlock=some k->¬F k):a0N B w' v l:=b4T h a b
theorem a0N.form(h:a0N B w v l):∃A c,v=.slice A l.length c:=a8a h
theorem a0N.byt(h:a0N B w v l)(b:∀x∈l,0<=x/\x<=255):∃A c,v=.slice A l.length c/\Byt w A l/\(∀a,A=some a->B<=a.block)/\l.length<=c:=by
 obtain⟨z,⟨rfl,o⟩ | ⟨g,cap,d,rfl,p,f,r,_,D,ht⟩⟩:=h
 ·exact⟨none,0,by rw[o],⟨λy=>ρo,b⟩,by simp,by omega⟩
 refine⟨some ⟨g,0,none⟩,cap,rfl,⟨λ_=>⟨g,0,rfl,(QK.1 f).1,λj x m=>?_⟩,b⟩,λa e=>?_,r⟩
 ·rw[cell_of_row w g (0+j) d _ (0,0) f]
  have E:j<l.length:=(Qm.1 m).1;have e:(bys l)[j]? =some (.int .u8 x):=by rw[a3J,m];rfl
  rw[<-ht,Zj]at e;simp only[show j<l.length*1 by omega,if_true,Z9]at e;rw[QP];exact e
 cases e;exact p
theorem a0N.lt(h:a0N B w v l){k:Nat}(a:v.ownBlock=some k):B<=k/\k<w.heap.size:=World.ownsRow.lt h k a
end
theorem c3v{m:LI}(h:a0N B w v l)(b:Byt w A m)(d:l.length+m.length<=140737488355328)(f:B<=w.heap.size)(p:A=none->c=0):∃v' w',(APs #[22,22] ty #[v,.slice A m.length c]).run prog w=.ok v' w'/\a0N B w' v' (l++m)/\Fr (λk=>v.ownBlock=some k) w w'/\a7W w v v':=by
 cases A with
 |
  none=>
  have e:m=[]:=by
   cases m with
   | nil=>rfl
   |
    cons x r=>
    obtain⟨g,o,e,_⟩:=b.cell ρp
    cases e
  subst e;obtain rfl:=p rfl;obtain⟨i,hi⟩:=Q8.1 i5;refine⟨v,w,run_append_owned_none w B 22 ty 5 i 1 u22 hi.1 v l.length (bys l) h,by simpa using h,Qp _ _,a7W.refl _ _⟩
 |
  some a=>
  have z:∀j u,(bys m)[j]? =some u->w.cell? (a.add j)=some u:=by
   intro j u F;rw[a3J]at F;obtain⟨x,G,rfl⟩:=Q8.1 F;have E:j<m.length:=(Qm.1 G).1;obtain⟨g,o,e,_,y⟩:=b.cell ρo
   cases e
   have D:(⟨g,o,none⟩:Addr).add j=⟨g,o+j,none⟩:=by unfold Addr.add;split<;>simp_all
   rw[D];exact y j x G
  obtain⟨v',w',J,H,K,I⟩:=Pj (ty:=ty) u22 ib5 ρo h (a:=a) (m:=m.length) (c:=c) (bys m) (by simp[a0a]) z (a0h m) (by unfold maxLen;omega) ρo f;refine⟨v',w',J,?_,(Qp _ w).grown K (λk _ e=>e),?_⟩
  ·unfold a0N
   rw[a9b,Qa];exact H
  intro j E
  rcases I with e | e
  ·exact .inl (e ▸ E)
  right
  rw[e]at E
  injection E with E
  omega
theorem a3P{x:Int}(h:a0N B w v l)(b:0<=x/\x<=255)(a:l.length+1<=1000000000)(d:B<=w.heap.size):∃v' w',(APs #[22,22] ty #[v,.slice w 1 1]).run prog (w.alloc (.cells #[.int .u8 x] 5))=.ok v' w'/\a0N B w' v' (l++[x])/\Fr (λk=>v.ownBlock=some k) w w'/\a7W w v v':=by
 have y:Blk (w.alloc (.cells #[.int .u8 x] 5)) w.heap.size 5 (bys [x]).toArray:=Qd w _ _;obtain⟨v',w',p,f,r,g⟩:=c3v (ty:=ty) (m:=[x]) (c:=1) (World.ownsRow.alloc h (.cells #[.int .u8 x] 5)) (y.byt (ρw b)) (by simp only[Qy,Qv];omega) (by simp;omega) ρp;refine⟨v',w',p,f,((Qp _ w).alloc (.cells #[.int .u8 x] 5)).trans r (λk _ e=>e),?_⟩;intro j o
 rcases g j o with e | e
 ·exact .inl e
 right;simp at e;omega
theorem c7j{L:LI}(v:Byt w A L)(c l h m:Nat)(f d p:Option VL)(B:l<=h)(E:h<=L.length)(D:h<=m)(r:m<=c) (el:(f=none/\l=0)\/∃x:Int,f=some (.int .i64 x)/\x=l) (eh:(d=none/\h=L.length)\/∃x:Int,d=some (.int .i64 x)/\x=h) (em:(p=none/\m=c)\/(∃x:Int,p=some (.int .i64 x)/\x=m)/\d≠none):∃A',(SLs 22 (.slice A L.length c) f d p).run prog w=.ok (.slice A' (h-l) (m-l)) w/\Byt w A' ((L.drop l).take (h-l))/\(∀a,A'=some a->∃b,A=some b/\a.block=b.block)/\(A=none->A'=none):=by
 obtain⟨i,O,hi⟩:=Q8.1 i5;refine⟨if m=l then A else A.map (·.add l),?_,⟨λK=>?_,λx F=>v.bd x (Yi (QM F))⟩,?_,?_⟩
 ·have S:¬((h:Int)<0\/(L.length:Int)<(h:Int)):=ρo
  have b1:((0:Int)<=(h:Int)/\(h:Int)<=(m:Int)):=ρo;have R:((0:Int)<=(l:Int)/\(l:Int)<=(h:Int)):=ρo;have Q:((0:Int)<=(m:Int)/\(m:Int)<=(c:Int)):=ρo
  rcases el with⟨rfl,rfl⟩ | ⟨x,rfl,rfl⟩<;>rcases eh with⟨rfl,rfl⟩ | ⟨y,rfl,rfl⟩<;>rcases em with⟨rfl,rfl⟩ | ⟨⟨z,rfl,rfl⟩,I⟩<;>
   first
    | (exact absurd rfl I)
    | (simp[SLs,Instr.sliceAt,Instr.slice,Instr.sliceBounds,Instr.sliceBound,asIntOf,run_underlying u22,sizeOf,typeInfo,O,hi,B,D,r])
 ·have G:0<((L.drop l).take (h-l)).length:=K
  simp only[Qx,Yp]at G;obtain⟨g,o,rfl,N,P⟩:=v.cell ρo;have H:(⟨g,o,none⟩:Addr).add l=⟨g,o+l,none⟩:=by unfold Addr.add;split<;>simp_all
  refine⟨g,o+l,?_,N,λj x F=>?_⟩
  ·rw[if_neg ρo]
   simp[H]
  rw[Zj]at F
  split at F
  ·rw[ZY]at F
   rw[ZT];exact P _ x F
  cases F
 ·intro a e
  split at e
  ·exact⟨a,e,rfl⟩
  obtain⟨b,J,rfl⟩:=Q8.1 e;exact⟨b,J,by unfold Addr.add;split<;>simp_all⟩
 rintro rfl
 simp
end
theorem uT:prog.underlying 23=some (.slice 22):=ρk
theorem iT:(prog.info? 22).map (λi=>(i.zero.map (·.cells.size),i.size,i.bytes))=some (some 1,1,24):=ρk
def TxV(w:WD)(x:VL)(l:LI):Prop:=∃A c,x=.slice A l.length c/\Byt w A l/\(A=none->c=0)
theorem TxV.fr{w b:WD}{x:VL}{l:LI}{F:Nat->Prop}(h:TxV w x l)(d:Fr F w b)(f:∀k,x.ownBlock=some k->¬F k):TxV b x l:=by
 obtain⟨A,c,rfl,g,j⟩:=h;exact⟨A,c,rfl,g.fr d (λa e _=>f _ (by subst e;rfl)),j⟩
theorem Byt.below{a:WD}(h:Byt w A l)(b:Below w w a):Byt a A l:=
 ⟨λh0=>by
  obtain⟨g,off,rfl,hg,hc⟩:=h.cell h0;exact⟨g,off,rfl,Qh hg b.size,λj x hx=>(b.cell (p:=⟨g,off+j,none⟩) hg).trans (hc j x hx)⟩,h.bd⟩
theorem TxV.below{w a:WD}{x:VL}{l:LI}(h:TxV w x l)(b:Below w w a):TxV a x l:=by
 obtain⟨A,c,rfl,d,f⟩:=h;exact⟨A,c,rfl,d.below b,f⟩
structure b8s(w:WD)(A:OA)(xs:LV)(L:LL):Prop where
 len:xs.length=L.length
 cell:0<xs.length->∃g off,A=some ⟨g,off,none⟩/\g<w.heap.size/\∀j x,xs[j]? =some x->w.cell? ⟨g,off+j,none⟩=some x
 txt:∀i,(h:i<xs.length)->(h':i<L.length)->TxV w xs[i] L[i]
theorem b8s.below{w b:WD}{A:OA}{xs:LV}{L:LL}(h:b8s w A xs L)(a:Below w w b):b8s b A xs L:=
 ⟨h.len,λh0=>by
  obtain⟨g,off,rfl,hg,hc⟩:=h.cell h0;exact⟨g,off,rfl,Qh hg a.size,λj x hx=>(a.cell (p:=⟨g,off+j,none⟩) hg).trans (hc j x hx)⟩,λi h1 h2=>(h.txt i h1 h2).below a⟩
theorem d3c(h:w.ownsRow B 22 1 v n xs)(b:LV)(f:∀u∈b,u.oneCell'=true)(d:n+b.length<=1000000000)(g:B<=w.heap.size):∃ v' w',(APs #[23,23] ty #[v,.slice w b.length b.length]).run prog (w.alloc (.cells b.toArray 22))=.ok v' w'/\w'.ownsRow B 22 1 v' (n+b.length) (xs++b)/\Fr (λk=>v.ownBlock=some k) w w'/\a7W w v v':=by
 have D:Blk (w.alloc (.cells b.toArray 22)) w.heap.size 22 b.toArray:=Qd w _ _
 obtain⟨v',w',r,E,x,y⟩:=Pj (ty:=ty) uT iT ρo (World.ownsRow.alloc h (.cells b.toArray 22)) (a:=⟨w,0,none⟩) (m:=b.length) (c:=b.length) b ρo
  (λj u z=>by
   have o:(⟨w,0,none⟩:Addr).add j=⟨w,j,none⟩:=by unfold Addr.add;split<;>simp_all
   rw[o,D.cell j]
   simpa using z) f (by unfold maxLen;omega) ρo (by simp;omega)
 refine⟨v',w',r,E,((Qp _ w).alloc (.cells b.toArray 22)).grown x (λk _ e=>e),?_⟩;intro j p
 rcases y with e | e
 ·exact .inl (e ▸ p)
 right
 rw[e]at p;simp at p;omega
end
end
section
open Go
section
variable {P:PG} {ops:Array Oper} {Q:Exit->Act->WD->Prop} {S:WD->Prop} {fl:List (Nat×Nat)} {k:Nat} {o:Oper} {a:Act} {w:WD}
theorem c9K(b:ops[k]? =some o)(d:Region.wanted o (yielded ops a.tmps)=false)(f:a.put o.dst undef=a')(h:a4p P ops Q S fl a' w):a4p P ops Q S ((k,3)::fl) a w:=⟨o,b,undef,.inr ⟨d,rfl⟩,f ▸ h⟩
end
section
variable {P:PG} {ops:Array Oper} {Q:Exit->Act->WD->Prop} {S:WD->Prop} {J:Nat->Bool} {fl:List (Nat×Nat)} {E:Act->WD->Prop} {k:Nat} {o:Oper} {a:Act} {w:WD}
theorem b2d(b:ops[i]? =some oi)(d:Region.wanted oi (yielded ops a.tmps)=true)(f:J i=false) (h:∀K:Act->WD->Prop,(∀a' w',a1u P .any ops Q S J n Lf a' w'->K a' w')->oi.wp P a w K Q):wpOp P ops Q i (λa' w'=>(J i=true->S w->S w')/\a1u P .any ops Q S J n Lf a' w') a w:=by
 unfold wpOp;rw[b];simp only;rw[if_pos d];exact .inl (h _ (λa' w' g=>⟨λe=>(by rw[f]at e;cases e),g⟩))
theorem a1c(f:List (Nat×Nat))(d:Bool)(g:decide (f.length=n)=true)(j:Region.noSelect L.toArray=true)(m:b7Z L.toArray J f d b=true) (hS:d=true->S w) (h:a4p P L.toArray (a2N Q) S f a w):a1u P .any L.toArray (a2N Q) S J n b a w:=by
 have o:=a3e (Q:=a2N Q) (J:=J) j (λ_ _ _ _ _ h=>(h:False).elim) f d b a w m hS h;rw[show f.length=n by simpa using g]at o;exact o
theorem a2b(f:List (Nat×Nat))(d:Bool)(g:decide (f.length+m=n)=true)(j:Region.noSelect L.toArray=true)(o:b9O L.toArray J Lf f d b=true) (hS:d=true->S w) (h:a7v P L.toArray (a2N Q) S (λa w=>a1u P .any L.toArray (a2N Q) S J m Lf a w) f a w):a1u P .any L.toArray (a2N Q) S J n b a w:=by
 have p:=a3F (Q:=a2N Q) (J:=J) (n:=m) j (λ_ _ _ _ _ h=>(h:False).elim) (λa w h=>h) f d b a w o hS h;rw[show f.length+m=n by simpa using g]at p;exact p
theorem a4F(J:Nat->Bool)(S:WD->Prop)(b:P.follows .mixedOrders=true) (h:a1u P .any L.toArray (a2N Q) S J L.toArray.size (Array.replicate L.toArray.size false) a w.drew):(Code.region id L.toArray true).wp P Q a w:=
 wp_mono (Q:=a2N Q) (wp_region_any b (a4y (S:=S) (J:=J) _ _ _ _ h)) a2N.imp
end
end
section
section
theorem d0s(x:VL)(lo hi a:Option VL):Instr.sliceAt 22 x lo hi a=SLs 22 x lo hi a:=rfl
attribute [local go_sem ↓] c2V d0s
theorem d3E:(prog.info? 5).map (λi=>(i.zero,i.size,i.bytes))=some (some (.int .u8 0),1,1):=ρk
theorem uI3:prog.underlying 3=some (.int .i64):=ρk
theorem a0N.none_{a:AV}(b:B<=g)(d:Blk w g 5 a)(j:a.size=cap)(f:cap<=maxLen):a0N B w (.slice g 0 cap) []:=
 ⟨rfl,.inr ⟨g,cap,a,rfl,b,d,Zu _,f,by omega,by simp[bys]⟩⟩
theorem c3M(a:0<cap)(h:Int)(e:h=0):(SLs 22 (.slice g n cap) none (some (.int .i64 h)) none).run prog w=.ok (.slice g 0 cap) w:=by
 subst e;obtain⟨i,d,hi⟩:=Q8.1 i5;have b:¬cap=0:=ρo;simp[SLs,Instr.sliceAt,Instr.slice,Instr.sliceBounds,Instr.sliceBound,asIntOf,run_underlying u22,sizeOf,typeInfo,d,Addr.add]
theorem c8t(h:Int)(e:h=0):(SLs 22 (.slice none 0 0) none (some (.int .i64 h)) none).run prog w=.ok (.slice none 0 0) w:=by
 subst e;obtain⟨i,a,hi⟩:=Q8.1 i5;simp[SLs,Instr.sliceAt,Instr.slice,Instr.sliceBounds,Instr.sliceBound,asIntOf,run_underlying u22,sizeOf,typeInfo,a]
theorem c5t(n:Nat)(a:n<=1000000000)(w:WD):Calls prog 238 #[.slice none 0 0,.int .i64 n] w λe w'=>∃v,e=.returned v/\a0N w w' v []/\Below w w w':=by
 by_cases E:n=0
 ·subst E
  go_in;go_wp2;go_ret;exact⟨_,rfl,a0N.nil _ _,Qf _ _⟩
 obtain⟨z,hi,B⟩:=Q8.1 d3E;simp only[Prod.mk.injEq]at B;obtain⟨g,p,j⟩:=B;have b:=Lib.run_append_nil_zeros (P:=prog) w 22 3 22 5 z (.int .u8 0) .i64 .i64 u22 uI3 hi g n ρo ρo ρo (by rw[j];omega);have d:(APs #[22,3] 22 #[.slice none 0 0,.int .i64 n]).run prog w=_:=b;clear b;have o:=grownCap_ge w n 0 5;have m:=grownCap_le_maxLen w n 0 5 (by unfold maxLen;omega);have⟨cap,f⟩:=η0 (grownCap w n 0 5);rw[f]at d o m;have⟨Z,r⟩:=η0 (Builtin.zeroCells (Value.int .u8 0).cells n++Builtin.zeroCells (Value.int .u8 0).cells (cap-n));rw[r]at d;have x:Z.size=cap:=by rw[<-r];simp[size_zeroCells,Value.cells];omega
 clear f r hi g p j z;have F:∀W:WD,(SLs 22 (.slice w n cap) none (some (.int .i64 0)) none).run prog W=.ok (.slice w 0 cap) W:=λW=>c3M ρo 0 rfl
 have D:∀W:WD,(SLs 22 (.slice none 0 0) none (some (.int .i64 0)) none).run prog W=.ok (.slice none 0 0) W:=λW=>c8t 0 rfl
 have y:(0:Int)<(n:Int):=ρo;go_in;go_wp2
 first
  | (
   go_ret;refine⟨_,rfl,a0N.none_ (Qg _) ((Qd w _ Z).drew) x m,(ρb w _).drew⟩)
theorem b8D(A:OA)(c:Nat)(xs:LV)(L:LL)(w:WD)(h:b8s w A xs L)(b:L.length<=1000000)(a:L.flatten.length<=500000000):Calls prog 191 #[.slice A L.length c] w λe w'=>∃v,e=.returned v/\a0N w w' v L.flatten/\Below w w w':=by
 have⟨H,HL⟩:=η2 h a;clear h a
 have z:∀i,i<L.length->(L.take i).flatten.length+(L.getD i []).length=(L.take (i+1)).flatten.length:=λi hi=>by
  rw[Qe hi,ZA,List.flatten_singleton,Qa];have e:L.getD i []=L[i]:=by simp[List.getD,hi]
  rw[e]
 have Q:∀i,(L.take i).flatten.length<=500000000:=λi=>by
  have:=HL.o
  have e:L.flatten=(L.take i).flatten++(L.drop i).flatten:=by rw[<-ZA,ZW]
  rw[e,Qa]at this;omega
 have⟨HP,T⟩:=η2 z Q;clear z Q;go_in;go_wp2
 go_loopw [3,11] (λs t wr=>∃i:Nat,i<=L.length/\s=.int .i64 ((L.take i).flatten.length:Nat)/\t=.int .i64 i/\wr=w)
  (λ_ t _=>L.length-(intOf t).toNat)
 exact⟨0,Zu _,by simp,rfl,rfl⟩;obtain⟨i,hi,rfl,rfl,rfl⟩:=hrel
 by_cases d:i<L.length
 ·obtain⟨g,off,rfl,X,J⟩:=H.cell (by rw[H.len];omega)
  have B:i<xs.length:=by rw[H.len];exact d
  have f:=J i xs[i] (by simp[B]);obtain⟨Ai,ci,o,j,R⟩:=H.txt i B d;rw[o]at f;have y:=HP.o i d;have E:=T.o (i+1);have O:L.getD i []=L[i]:=by simp[List.getD,d]
  rw[O]at y;have⟨s,K⟩:=η0 ((L.take i).flatten.length);have⟨m,F⟩:=η0 (L[i].length);rw[K,F]at y;rw[F]at f;rw[K];have b1:(s:Int)+m<=500000000:=ρo;have E1:=η1 y;clear o j R J O K F B y E;go_wp2;go_roundw
  case rel=>exact⟨i+1,by omega,by rw[<-E1.o];go_num,by go_num,by first | rfl | trivial⟩
  case measure=>simp[intOf];omega
 obtain rfl:i=L.length:=ρo;have E:=T.o L.length
 generalize K:(L.take L.length).flatten.length=s at E⊢
 clear K;go_wp2_with fail;refine(c5t s ρo wr).mono ?_;rintro e w1 ⟨v,rfl,r,P⟩;go_wp2_with fail
 go_loopw [6,27] (λv t Y=>∃i:Nat,i<=L.length/\t=.int .i64 i/\a0N wr.heap.size Y v (L.take i).flatten/\Below wr.heap.size wr Y)
  (λ_ t _=>L.length-(intOf t).toNat)
 exact⟨0,Zu _,rfl,by simpa using r,P⟩;clear r P E;obtain⟨i,hi,rfl,r,D⟩:=hrel
 by_cases d:i<L.length
 ·obtain⟨g,off,rfl,X,J⟩:=H.cell (by rw[H.len];omega)
  have B:i<xs.length:=by rw[H.len];exact d
  obtain⟨Ai,ci,o,j,R⟩:=H.txt i B d;have f:=J i xs[i] (by simp[B]);rw[o]at f;have N:=(D.cell (p:=⟨g,off+i,none⟩) X).trans f;have y:=HP.o i d;have E:=T.o (i+1);have O:L.getD i []=L[i]:=by simp[List.getD,d]
  rw[O]at y;have S:(L.take (i+1)).flatten=(L.take i).flatten++L[i]:=by rw[Qe d,ZA,List.flatten_singleton]
  have⟨m,F⟩:=η0 (L[i]);rw[F]at N j y S;have⟨l,Z⟩:=η0 ((L.take i).flatten);rw[Z]at r y S;obtain⟨A2,c2,rfl⟩:=r.form;obtain⟨v',w',U,x,I,_⟩:=c3v (ty:=22) r (j.below D) ρo D.size R;obtain⟨A3,c3,rfl⟩:=x.form;rw[Qa]at x U;have⟨E4,V,HF,G,W⟩:=η5 S x I D r;clear o j R J f O F Z B y E S r x I D;go_wp2;go_roundw
  case rel=>
   refine⟨i+1,by omega,by go_num,by rw[E4.o];exact V.o,G.trans (HF.below G.size (λk hk e=>?_))⟩
   have:=(W.lt e).1
   omega
  case measure=>simp[intOf];omega
 obtain rfl:i=L.length:=ρo;have V:=η1 r;clear r;go_wp2;go_ret;refine⟨_,rfl,?_,D⟩
 have:=V.o
 rw[ZF]at this;exact this
end
section
theorem c9S(xs:AV)(t:TI):Builtin.append_ #[22,22] t xs=APs #[22,22] t xs:=rfl
attribute [local go_sem ↓] c9S
theorem a8r(A:OA)(c:Nat)(d:A=none->c=0)(l:LI)(w:WD)(b:Byt w A l)(f:l.length<=140737488355328):Calls prog 112 #[.slice A l.length c] w λe w'=>∃v,e=.returned v/\a0N w w' v l/\Below w w w':=by
 have I:∀(W:WD) (n c:Nat),(binOp .eql 22 (.slice A n c) (.slice none 0 0)).run prog W=.ok (.bool A.isNone) W:=λW n c=>Lib.run_eql_slice_nil W _ _ A n c 0 0 u22
 cases A with
 |
  none=>
  have e:l=[]:=by
   cases l with
   | nil=>rfl
   |
    cons x r=>
    obtain⟨g,o,e,_⟩:=b.cell ρp
    cases e
  subst e;obtain rfl:=d rfl;go_in;go_wp2
  first
   | (go_ret;exact⟨_,rfl,a0N.nil _ _,Qf _ _⟩)
 |
  some a=>
  have j:a0N w (w.alloc (.cells #[] 5)) (.slice w 0 0) []:=a0N.none_ (Qg _) (Qd w _ _) rfl (by unfold maxLen;omega);have p:=b.below ((Qf _ w).alloc (Qg _) (.cells #[] 5));obtain⟨G,w',y,B,z,_⟩:=c3v (ty:=22) (c:=c) j p (by simpa using Qk f ρo) ρp ρp
  generalize F:l.length=m at y⊢
  have⟨E,D⟩:=η2 B (((Qf _ w).alloc (Qg _) (.cells #[] 5)).trans (z.below ρp (λk H e=>by simp[Value.ownBlock]at e;omega)));clear j p B z b F;go_in;go_wp2
  first
   | (go_ret;exact⟨_,rfl,by simpa using E.o,D.o⟩)
end
end
def a8P(x:Int)(n:Nat):Int:=bits .or .u32 (IntKind.u32.wrap (x*2 ^ (32-n))) (x / 2 ^ n)
def x3P(a b c:Int):Int:=bits .xor .u32 (bits .xor .u32 a b) c
def s0P(a:Int):Int:=x3P (a8P a 7) (a8P a 18) (a / 8)
def s1P(b:Int):Int:=x3P (a8P b 17) (a8P b 19) (b / 1024)
def b6M(a b c d:Int):Int:=bits .or .u32 (bits .or .u32 (bits .or .u32 (a % 4294967296*16777216 % 4294967296) (b % 4294967296*65536 % 4294967296)) (c % 4294967296*256 % 4294967296)) (d % 4294967296)
def b5b(m:LI)(i:Nat):Int:=b6M (m.getD (4*i) 0) (m.getD (4*i+1) 0) (m.getD (4*i+2) 0) (m.getD (4*i+3) 0)
def b5I(a b c d:Int):Int:=IntKind.u32.wrap (IntKind.u32.wrap (IntKind.u32.wrap (a+s0P b)+c)+s1P d)
def a0Y(m:LI):Nat->LI
 | 0=>[]
 | k+1=>a0Y m k++[if k<16 then b5b m k else b5I ((a0Y m k).getD (k-16) 0) ((a0Y m k).getD (k-15) 0) ((a0Y m k).getD (k-7) 0) ((a0Y m k).getD (k-2) 0)]
theorem a1i(m:LI):∀k,(a0Y m k).length=k
 | 0=>rfl
 | k+1=>by simp[a0Y,a1i m k]
def tP(e f g h k w:Int):Int:=h+x3P (a8P e 6) (a8P e 11) (a8P e 25)+bits .xor .u32 (bits .and .u32 e f) (bits .and .u32 (bits .xor .u32 IntKind.u32.max e) g)+k+w
def uP(a b c:Int):Int:=x3P (a8P a 2) (a8P a 13) (a8P a 22)+x3P (bits .and .u32 a b) (bits .and .u32 a c) (bits .and .u32 b c)
def a8v(v:LI)(k w:Int):LI:=
 [(tP (v.getD 4 0) (v.getD 5 0) (v.getD 6 0) (v.getD 7 0) k w+uP (v.getD 0 0) (v.getD 1 0) (v.getD 2 0)) % 4294967296,v.getD 0 0,v.getD 1 0,v.getD 2 0,(v.getD 3 0+tP (v.getD 4 0) (v.getD 5 0) (v.getD 6 0) (v.getD 7 0) k w) % 4294967296,v.getD 4 0,v.getD 5 0,v.getD 6 0]
def K0:LI:=[
 1116352408,1899447441,3049323471,3921009573,961987163,1508970993,2453635748,2870763221,3624381080,310598401,607225278,1426881987,1925078388,2162078206,2614888103,3248222580,
 3835390401,4022224774,264347078,604807628,770255983,1249150122,1555081692,1996064986,2554220882,2821834349,2952996808,3210313671,3336571891,3584528711,113926993,338241895,
 666307205,773529912,1294757372,1396182291,1695183700,1986661051,2177026350,2456956037,2730485921,2820302411,3259730800,3345764771,3516065817,3600352804,4094571909,275423344,
 430227734,506948616,659060556,883997877,958139571,1322822218,1537002063,1747873779,1955562222,2024104815,2227730452,2361852424,2428436474,2756734187,3204031479,3329325298]
def H0:LI:=[1779033703,3144134277,1013904242,2773480762,1359893119,2600822924,528734635,1541459225]
def a2z(h m:LI):Nat->LI
 | 0=>h
 | k+1=>a8v (a2z h m k) (K0.getD k 0) ((a0Y m 64).getD k 0)
def a8Y(h m:LI):LI:=(List.range 8).map λi=>(h.getD i 0+(a2z h m 64).getD i 0) % 4294967296
theorem a5E(h m:LI):(a8Y h m).length=8:=by simp[a8Y]
def a6V(m:LI):Nat->LI
 | 0=>H0
 | k+1=>a8Y (a6V m k) ((m.drop (64*k)).take 64)
theorem a8q(m:LI):∀k,(a6V m k).length=8
 | 0=>rfl
 | _k+1=>a5E _ _
def beN(v:Int)(n:Nat):LI:=(List.range n).map λi=>IntKind.u8.wrap (v / 2 ^ (8*(n-1-i)))
theorem a1E(v:Int)(n:Nat):(beN v n).length=n:=by simp[beN]
theorem b7F(v:Int)(n:Nat):∀x∈beN v n,0<=x/\x<=255:=by
 intro x a;obtain⟨i,_,rfl⟩:=Qs.1 a;rw[IntKind.wrap_u8'];omega
def a6A(b:LI):LI:=b++128::(List.replicate ((119-b.length % 64) % 64) 0++beN (8*b.length) 8)
theorem b7a(b:LI):(a6A b).length % 64=0:=by
 simp[a6A,a1E];omega
def a3x(b:LI):LI:=(a6V (a6A b) ((a6A b).length / 64)).flatMap λw=>beN w 4
theorem b0B{α β:Type}(f:α->List β)(n:Nat)(h:∀x,(f x).length=n):∀l:List α,(l.flatMap f).length=l.length*n
 | []=>by simp
 | x::l=>by simp[b0B f n h l,h,Yb];omega
theorem a5Y(b:LI):(a3x b).length=32:=by
 unfold a3x;rw[b0B _ 4 (λw=>a1E w 4),a8q]
theorem c2U(b:LI):∀x∈a3x b,0<=x/\x<=255:=by
 intro x d;obtain⟨w,_,a⟩:=List.mem_flatMap.1 d;exact b7F w 4 x a
theorem b6J(m:LI):a0Y m 0=[]:=rfl
theorem a5j(h m:LI):a2z h m 0=h:=rfl
theorem a5e(h m:LI)(k:Nat):a2z h m (k+1)=a8v (a2z h m k) (K0.getD k 0) ((a0Y m 64).getD k 0):=rfl
theorem a7t(m:LI):a6V m 0=H0:=rfl
theorem a7r(m:LI)(k:Nat):a6V m (k+1)=a8Y (a6V m k) ((m.drop (64*k)).take 64):=rfl
attribute [irreducible] a0Y a2z a6V a3x
def leP(n:Nat):LI:=if h:n=0 then []else((n % 256:Nat):Int)::leP (n / 256)
termination_by n
decreasing_by omega
theorem a7p:leP 0=[]:=by rw[leP];simp
theorem a9p(h:0<n):leP n=((n % 256:Nat):Int)::leP (n / 256):=by rw[leP];simp[show n≠0 by omega]
theorem c6N(n:Nat):∀x∈leP n,0<=x/\x<=255:=by
 induction n using Nat.strongRecOn with
 |
  ind n b=>
  intro x a
  by_cases h:n=0
  ·subst h;rw[a7p]at a;cases a
  rw[a9p ρo]at a
  rcases Qo.1 a with rfl | a
  ·omega
  exact b (n / 256) ρo x a
theorem c2u:∀(k n:Nat),n<256 ^ k->(leP n).length<=k
 |
  0,n,h=>by
  have:n=0:=ρw h
  subst this;simp[a7p]
 |
  k+1,n,h=>by
  by_cases h0:n=0
  ·subst h0;simp[a7p]
  rw[a9p ρo]
  have:=c2u k (n / 256) (by rw[Nat.pow_succ]at h;omega)
  simp only[Qy];omega
def beP(n:Nat):LI:=(leP n).reverse
def a0K(n:Nat):LI:=((leP n).length:Int)::beP n
theorem c8v(n:Nat):(beP n).length=(leP n).length:=by simp[beP]
theorem b7k(n:Nat):(a0K n).length=(leP n).length+1:=by simp[a0K,c8v]
theorem a8J(h:n<18446744073709551616):(leP n).length<=8:=c2u 8 n (ρw h)
theorem a0L(h:n<18446744073709551616):∀x∈a0K n,0<=x/\x<=255:=by
 intro x a
 have:=a8J h
 rcases Qo.1 a with rfl | a
 ·omega
 exact c6N n x (by simpa[beP]using a)
def a9g(l:LI):Nat:=l.foldl (λv c=>v*256+c.toNat) 0
theorem a8E(l:LI)(c:Int):a9g (l++[c])=a9g l*256+c.toNat:=by simp[a9g]
def a2J(most:Nat):LI->Option (Nat×LI)
 | []=>none
 | k::tl=>if 8<k.toNat\/tl.length<k.toNat\/(0<k.toNat/\tl.headD 1=0)\/most<a9g (tl.take k.toNat)then none else some (a9g (tl.take k.toNat),tl.drop k.toNat)
def a8o(most:Nat)(l:LI):Option (LI×LI):=
 match a2J most l with
 | none=>none
 | some (n,r)=>if r.length<n then none else some (r.take n,r.drop n)
def a6s(n:Nat):LI:=[((n / 16777216 % 256:Nat):Int),((n / 65536 % 256:Nat):Int),((n / 256 % 256:Nat):Int),((n % 256:Nat):Int)]
theorem a3V(n:Nat):(a6s n).length=4:=rfl
theorem a5q(n:Nat):∀x∈a6s n,0<=x/\x<=255:=by
 intro x a;simp only[a6s,Qo,List.mem_nil_iff,or_false]at a;omega
section
section
attribute [local go_sem] Oper.semAt_some
def d1G(x:Nat×Int):AV:=#[.int .i64 (x.1:Int),.int .u8 x.2]
def a7N(l:LI)(k:Nat):List (Nat×Int):=(List.range k).map λj=>(l.length-1-j,l.getD (l.length-1-j) 0)
theorem b2x(l:LI)(k:Nat):a7N l (k+1)=a7N l k++[(l.length-1-k,l.getD (l.length-1-k) 0)]:=by simp[a7N,List.range_succ]
theorem c2t(l:LI)(k:Nat):(a7N l k).length=k:=by simp[a7N]
theorem c1p(l:LI):(a7N l l.length).map (·.2)=l.reverse:=by
 apply ZE
 ·simp[a7N]
 intro i a b;have hi:i<l.length:=by simpa[a7N]using a
 simp only[a7N,QS,Yf,List.getElem_reverse];simp[List.getD,show l.length-1-i<l.length by omega]
def a6h(G:Nat->Prop)(W:WD)(A:OA)(l:LI):Prop:=∀i,(hi:i<l.length)->∃g o,A=some ⟨g,o,none⟩/\g<W.heap.size/\¬G g/\W.cell? ⟨g,o+i,none⟩=some (.int .u8 l[i])
theorem a6h.fr{G:Nat->Prop}{a:WD}(h:a6h G W A l)(b:Fr G W a):a6h G a A l:=λi hi=>by
 obtain⟨g,o,e,hg,hn,hl⟩:=h i hi;exact⟨g,o,e,Qh hg b.size,hn,(b.cell (p:=⟨g,o+i,none⟩) hg hn).trans hl⟩
theorem a6h.below{G:Nat->Prop}{a:WD}(h:a6h G W A l)(b:Below W W a):a6h G a A l:=λi hi=>by
 obtain⟨g,o,e,hg,hn,hl⟩:=h i hi;exact⟨g,o,e,Qh hg b.size,hn,(b.cell (p:=⟨g,o+i,none⟩) hg).trans hl⟩
theorem c0P(F:Fence)(n:Nat)(r:F.fn 172)(b:F.round=none)(w:1<=n)(d a cap:Nat)(G:Nat->Prop)(A:OA)(l:LI)(f:l.length<=1000000000)(J j:List (Nat×Int)->WD->Prop) (hY:∀pre x W,J pre W->pre.length<l.length->YieldAt F (n-1) prog d (d1G x) W λe W'=>(e=.returned (.bool true)/\J (pre++[x]) W'/\Fr G W W')\/(e=.returned (.bool false)/\j (pre++[x]) W')) (W:WD) (hBs:W.cell? ⟨a,0,none⟩=some (.slice A l.length cap)) (hBn:a<W.heap.size/\¬G a) (hc:a6h G W A l) (h0:J [] W):CallsIn F n prog 172 #[.func (.yield d) #[] #[],.pointer a] W λe W'=>(∃v,e=.returned v)/\((∃ys,ys=a7N l l.length/\J ys W')\/(∃pre,(∃k,k<=l.length/\pre=a7N l k)/\j pre W')):=by
 refine callsIn_of_wp func172 rfl r ?_ b;simp only[ntmps172,Qc,Qy,Qv,Nat.reduceAdd,Nat.reduceSub,QW,QX,Ze,QZ,QF,QG]
 gi_wp2
 gi_loopw [3] (λi wr=>∃m:Nat,m<=l.length/\i=.int .i64 ((m:Int)-1)/\J (a7N l (l.length-m)) wr/\Fr G W wr)
  (λi _=>(intOf i+1).toNat)
 exact⟨l.length,Qg _,rfl,by rw[Nat.sub_self];exact h0,Qp _ _⟩;obtain⟨m,hm,rfl,B,y⟩:=hrel
 cases m with
 |
  zero=>
  have hd:decide ((0:Int)<=((0:Nat):Int)-1)=false:=by decide
  gi_wp2
  go_end0;exact⟨⟨_,rfl⟩,.inl ⟨_,rfl,B⟩⟩
 |
  succ m=>
  have X:(((m+1:Nat):Int)-1)=(m:Int):=ρo;rw[X];have z:m<l.length:=ρo;obtain⟨g,o,rfl,hg,H,U⟩:=hc m z;have P:wr.cell? ⟨g,o+m,none⟩=some (.int .u8 l[m]):=(y.cell (p:=⟨g,o+m,none⟩) hg H).trans U;have Z:wr.cell? ⟨a,0,none⟩=some (.slice (some ⟨g,o,none⟩) l.length cap):=(y.cell (p:=⟨a,0,none⟩) hBn.1 hBn.2).trans hBs;obtain⟨fn,T,E,S,V,hR⟩:=hY _ (m,l[m]) wr B (by rw[c2t];omega);dsimp only[d1G]at V;have Y:decide ((0:Int)<=(m:Int))=true:=by simp
  have⟨x,N⟩:=η0 (l[m]);have HX:=η1 N;rw[N]at P V;clear U X hc N
  gi_wp2
  refine hR.mono ?_;rintro e W3 (⟨rfl,K,O⟩ | ⟨rfl,D⟩)
  ·gi_wp2
   go_roundw
   case rel=>
    refine⟨m,by omega,by go_num,?_,y.trans O (λ_ _ h=>h)⟩;have I:l.length-m=(l.length-(m+1))+1:=ρo;rw[I,b2x];have Q:l.length-1-(l.length-(m+1))=m:=ρo;rw[Q];have R:l.getD m 0=l[m]:=by simp[List.getD,z]
    rw[R];exact K
   case measure=>simp[intOf]
  gi_wp2
  refine bodyPost_ret (results_none rfl _ _ _) rfl ?_;refine⟨⟨_,rfl⟩,.inr ⟨_,⟨l.length-m,by omega,?_⟩,D⟩⟩;have I:l.length-m=(l.length-(m+1))+1:=ρo;rw[I,b2x];have Q:l.length-1-(l.length-(m+1))=m:=ρo;rw[Q];have R:l.getD m 0=l[m]:=by simp[List.getD,z]
  rw[R]
theorem c3F(F:Fence)(n:Nat)(d:F.fn 106)(b:F.round=none)(a:OA)(len cap:Nat)(w:WD):CallsIn F n prog 106 #[.slice a len cap] w λe w'=>e=.returned (.func (.func 172) #[] #[.pointer w])/\w'=w.alloc (.cells #[.slice a len cap] 22):=by
 refine callsIn_of_wp func106 rfl d ?_ b;simp only[ntmps106,Qc,Qy,Qv,Nat.reduceAdd,Nat.reduceSub,QW,QX,Ze,QZ,QF,QG]
 gi_wp2
 go_ret;exact⟨rfl,rfl⟩
theorem b5F(F:Fence)(n:Nat)(g:F.fn 172)(f:F.round=none)(j:1<=n)(b cap:Nat)(G:Nat->Prop)(A:OA)(l:LI)(d:l.length<=1000000000)(w:WD)(a:b<w.heap.size/\¬G b) (hc:w.cell? ⟨b,0,none⟩=some (.slice A l.length cap)) (hI:a6h G w A l):SeqStopsK F n prog 172 #[.pointer b] d1G (Fr G) (λys=>ys=a7N l l.length) (λpre=>∃k,k<=l.length/\pre=a7N l k) l.length w:=λlp J Jx W hW _ _ hY h0=>by
 have hc':=(hW.cell (p:=⟨b,0,none⟩) a.1).trans hc;refine(c0P F n g f j lp b cap G A l d J Jx hY W hc' ⟨Qh a.1 hW.size,a.2⟩ (hI.below hW) h0).mono ?_;rintro e W' ⟨he,⟨ys,rfl,hj⟩ | ⟨pre,⟨k,hk,rfl⟩,hj⟩⟩
 ·exact⟨he,.inl ⟨_,rfl,hj⟩⟩
 exact⟨he,.inr ⟨_,⟨k,hk,rfl⟩,hj⟩⟩
end
section
attribute [local go_sem] Oper.semAt_some
theorem d2C(x:VL)(lo hi a:Option VL):Instr.sliceAt 22 x lo hi a=SLs 22 x lo hi a:=rfl
attribute [local go_sem ↓] d2C
theorem c6s{o l h:Nat}(f:Int)(a b:Option Int)(j:l<=h)(p:h<=m)(d:m<=c)(r:l<m)(v:n<=c) (el:f=l) (eh:(a=none/\h=n)\/a=some (h:Int)) (em:(b=none/\m=c)\/(b=some (m:Int)/\a≠none)):(SLs 22 (.slice (some ⟨g,o,none⟩) n c) (some (.int .i64 f)) (a.map (Value.int .i64)) (b.map (Value.int .i64))).run prog w=.ok (.slice (some ⟨g,o+l,none⟩) (h-l) (m-l)) w:=by
 obtain⟨i,z,hi⟩:=Q8.1 i5;subst el;have y:¬m=l:=ρo;have x:(⟨g,o,none⟩:Addr).add l=⟨g,o+l,none⟩:=by unfold Addr.add;split<;>simp_all
 rcases eh with⟨rfl,rfl⟩ | rfl<;>rcases em with⟨rfl,rfl⟩ | ⟨rfl,B⟩<;>
  first
   | (exact absurd rfl B)
   | (simp[SLs,Instr.sliceAt,Instr.slice,Instr.sliceBounds,Instr.sliceBound,asIntOf,run_underlying u22,sizeOf,typeInfo,z,hi,j,p,d,y,x])
theorem a2Z{a:WD}(h:Below n₀ w a)(m:Nat):Below n₀ w (a.drewN m):=⟨h.os,h.tape,h.output,h.size,h.block⟩
def d1A(g o K:Nat)(k:Nat):AV:=#[.slice (some ⟨g,o+64*min k (K-1),none⟩) 64 64]
theorem c1j(n:Nat)(r:1<=n)(f d b g o cap K:Nat)(G:Nat->Prop)(y:64*K<=1000000000)(a:64*K<=cap)(_hcm:cap<=maxLen)(J j:List Nat->WD->Prop) (hY:∀pre x W,J pre W->pre.length<K->YieldAt Fence.wide (n-1) prog f (d1A g o K x) W λe W'=>(e=.returned (.bool true)/\J (pre++[x]) W'/\Fr G W W')\/(e=.returned (.bool false)/\j (pre++[x]) W')) (W:WD) (hBs:W.cell? ⟨d,0,none⟩=some (.slice (some ⟨g,o,none⟩) (64*K) cap)) (hBn:d<W.heap.size/\¬G d) (hBk:W.cell? ⟨b,0,none⟩=some (.int .i64 64)) (hBk2:b<W.heap.size/\¬G b) (h0:J [] W) (hd:∀s X m,J s X->J s (X.drewN m)):CallsIn Fence.wide n prog 239 #[.func (.yield f) #[] #[],.pointer d,.pointer b] W λe W'=>(∃v,e=.returned v)/\((∃ys,ys=List.range K/\J ys W')\/(∃pre,(∃k,k<=K/\pre=List.range k)/\j pre W')):=by
 refine callsIn_of_wp func239 rfl trivial ?_ rfl;simp only[ntmps239,Qc,Qy,Qv,Nat.reduceAdd,Nat.reduceSub,QW,QX,Ze,QZ,QF,QG]
 gi_wp2
 gi_loopw [4] (λi wr=>∃k:Nat,k<=K/\i=.int .i64 (64*(k:Int))/\J (List.range k) wr/\Fr G W wr)
  (λi _=>64*K-(intOf i).toNat)
 exact⟨0,Zu _,rfl,h0,Qp _ _⟩;obtain⟨k,hk,rfl,z,B⟩:=hrel;have Y:wr.cell? ⟨d,0,none⟩=some (.slice (some ⟨g,o,none⟩) (64*K) cap):=(B.cell (p:=⟨d,0,none⟩) hBn.1 hBn.2).trans hBs;have O:wr.cell? ⟨b,0,none⟩=some (.int .i64 64):=(B.cell (p:=⟨b,0,none⟩) hBk2.1 hBk2.2).trans hBk
 by_cases H:k<K
 ·have aa:∀X:WD,(SLs 22 (.slice (some ⟨g,o,none⟩) (64*K) cap) (some (.int .i64 (64*(k:Int)))) none none).run prog X=.ok (.slice (some ⟨g,o+64*k,none⟩) (64*K-64*k) (cap-64*k)) X:=
   λX=>c6s (h:=64*K) (m:=cap) (64*(k:Int)) none none ρo a (Qg _) ρo a ρo (.inl ⟨rfl,rfl⟩) (.inl ⟨rfl,rfl⟩)
  have ab:∀X:WD,(SLs 22 (.slice (some ⟨g,o,none⟩) (64*K) cap) (some (.int .i64 (64*(k:Int)))) (some (.int .i64 (64*(k:Int)+64))) (some (.int .i64 (64*(k:Int)+64)))).run prog X=.ok (.slice (some ⟨g,o+64*k,none⟩) 64 64) X:=
   λX=>by
    have e:=c6s (w:=X) (g:=g) (o:=o) (n:=64*K) (c:=cap) (l:=64*k) (h:=64*k+64) (m:=64*k+64) (64*(k:Int)) (some (64*(k:Int)+64)) (some (64*(k:Int)+64)) ρo (Qg _) ρo ρo a ρo (.inr ρp) (.inr ⟨by simp,by simp⟩)
    simpa using e
  have U:decide (64*(k:Int)<((64*K:Nat):Int))=true:=by simp;omega
  have Q:(64:Int)<=((64*K-64*k:Nat):Int):=ρo;have⟨V,I⟩:=η2 B z;clear z B
  gi_wp2
  gi_quiet (fail)
  rename_i nq
  obtain⟨fn,R,F,P,S,hR⟩:=hY _ k (wr.drewN nq) (hd _ _ _ I) (ρw H);dsimp only[d1A]at S;rw[QY ρo]at S
  gi_wp2
  refine hR.mono ?_;rintro e Z (⟨rfl,N,E⟩ | ⟨rfl,D⟩)
  ·have T:Z.cell? ⟨b,0,none⟩=some (.int .i64 64):=(E.cell (p:=⟨b,0,none⟩) (Qh hBk2.1 V.size) hBk2.2).trans O
   gi_wp2
   go_roundw
   case rel=>exact⟨k+1,by omega,by go_num,by rw[List.range_succ];exact N,(V.drewN nq).trans E (λ_ _ h=>h)⟩
   case measure=>simp[intOf];omega
  gi_wp2
  refine bodyPost_ret (results_none rfl _ _ _) rfl ?_;exact⟨⟨_,rfl⟩,.inr ⟨_,⟨k+1,by omega,(List.range_succ).symm⟩,D⟩⟩
 obtain rfl:k=K:=ρo;have I:=η1 z;clear z
 gi_wp2
 go_end0;exact⟨⟨_,rfl⟩,.inl ⟨_,rfl,I.o⟩⟩
theorem c5m(n:Nat)(a:OA)(len cap:Nat)(w:WD):CallsIn Fence.wide n prog 192 #[.slice a len cap,.int .i64 64] w λe w'=>e=.returned (.func (.func 239) #[] #[.pointer w,.pointer (w.heap.size+1:Nat)])/\w'=(w.alloc (.cells #[.slice a len cap] 22)).alloc (.cells #[.int .i64 64] 3):=by
 refine callsIn_of_wp func192 rfl trivial ?_ rfl;simp only[ntmps192,Qc,Qy,Qv,Nat.reduceAdd,Nat.reduceSub,QW,QX,Ze,QZ,QF,QG]
 gi_wp2
 go_ret;exact⟨rfl,rfl⟩
theorem b6a(n:Nat)(x:1<=n)(d f g o cap K:Nat)(G:Nat->Prop)(y:64*K<=1000000000)(j:64*K<=cap)(v:cap<=maxLen)(w:WD)(a:d<w.heap.size/\¬G d)(b:f<w.heap.size/\¬G f) (hc:w.cell? ⟨d,0,none⟩=some (.slice (some ⟨g,o,none⟩) (64*K) cap)) (hc2:w.cell? ⟨f,0,none⟩=some (.int .i64 64)):SeqStopsK Fence.wide n prog 239 #[.pointer d,.pointer f] (d1A g o K) (Fr G) (λys=>ys=List.range K) (λpre=>∃k,k<=K/\pre=List.range k) K w:=λlp J Jx W hW hJo _ hY h0=>by
 have hc':=(hW.cell (p:=⟨d,0,none⟩) a.1).trans hc;have hc2':=(hW.cell (p:=⟨f,0,none⟩) b.1).trans hc2;refine(c1j n x lp d f g o cap K G y j v J Jx hY W hc' ⟨Qh a.1 hW.size,a.2⟩ hc2' ⟨Qh b.1 hW.size,b.2⟩ h0 (λs X m hs=>hJo s X (X.drewN m) none hs ⟨rfl,rfl,rfl,Qg _,λ_ _ _=>rfl⟩ (λr e=>by cases e))).mono ?_;rintro e W' ⟨he,⟨ys,rfl,hj⟩ | ⟨pre,⟨k,hk,rfl⟩,hj⟩⟩
 ·exact⟨he,.inl ⟨_,rfl,hj⟩⟩
 exact⟨he,.inr ⟨_,⟨k,hk,rfl⟩,hj⟩⟩
theorem d0Q{G:Nat->Prop}{A B C:WD}(h:Fr G A B)(k:Fr G B C):Fr G A C:=h.trans k (λ_ _ h=>h)
theorem d1k{G:Nat->Prop}(d:∀k,w.heap.size<=k->G k)(W:WD)(l:Nat)(o a:Obj)(b:w.heap.size<=l)(h:W.heap[l]? =some o)(f:o.isCells=false)(g:o.isWalk=false):Fr G W (W.putObj l a):=by
 have j:=belowK_b (n₀:=0) (w:=w) (Zu _) W l o a b h f g;exact⟨j.os,j.tape,j.output,j.size,λk p m=>World.putObj_heap_other (λe=>m (by subst e;exact d _ b))⟩
end
section
open Go
section
variable {P:PG} {md:Region.Mode} {ops:Array Oper} {Q:Exit->Act->WD->Prop}
theorem a9N{l:Nat}{o:Oper}{K g:Act->WD->Prop}(hd:∀c:Call,o.op≠Op.defer c)(b:∀a w,K a w->g a w)(h:o.wp P a w K Q):o.wpIn (Fence.wide.inRound l) n P a w g Q:=by
 refine⟨λf _=>trivial,?_⟩;unfold Oper.wp at h;rw[show(Fence.wide.inRound l).round=some l from rfl,Oper.semAt_some l a.eval o hd]
 generalize(execOp a.eval o).run P w=r at h⊢
 match r,h with
 | .ok (.value v) w',h=>exact b _ _ h
 | .ok .skip w',h=>exact b _ _ h
 | .ok (.defer d) w',h=>exact b _ _ h
 |
  .ok (.enter f args) w',h=>
  refine⟨λh=>by simp[Fence.wide]at h,CallsIn.inRound l (callsIn_wide.2 (Calls.mono h ?_))⟩;intro e m j
  match e,j with
  | .returned v,j=>exact b _ _ j
  | .panicked c,j=>exact j
  | .outgrown,j=>exact j
 |
  .ok (.row row args) w',h=>
  refine⟨λh=>by simp[Fence.wide]at h,λc cs _=>?_⟩;obtain⟨v,m,p,x⟩:=h c cs;exact⟨v,m,b _ _ p,stepsIn_wide.2 x⟩
 | .halt (.panic v) w',h=>exact h
theorem a2Y{l n:Nat}(hd:∀(i:Nat) (o:Oper),ops[i]? =some o->∀c:Call,o.op≠Op.defer c)(b:¬LetsOut Q):∀(fuel:Nat) (listed:Array Bool) (a:Act) (w:WD),wpAny P md ops Q fuel listed a w->wpAnyIn (Fence.wide.inRound l) n P md ops Q fuel listed a w
 | 0,_,_,_,h=>h
 |
  fuel+1,listed,a,w,h=>by
  refine⟨h.1,λi hi=>?_⟩;have hh:=h.2 i hi;unfold wpOp at hh;unfold wpOpIn
  cases ho:ops[i]? with
  |
   none=>
   rw[ho]at hh;exact a2Y hd b fuel _ _ _ hh
  |
   some o=>
   rw[ho]at hh;simp only at hh⊢
   split
   ·rename_i hw
    rw[if_pos hw]at hh
    rcases hh with hh | ⟨_,hl⟩
    ·exact a9N (hd i o ho) (λa w h=>a2Y hd b fuel _ a w h) hh
    exact absurd hl b
   rename_i hw
   rw[if_neg hw]at hh;exact⟨λ_ _=>trivial,a2Y hd b fuel _ _ _ hh⟩
def d0w(Q:Exit->Act->WD->Prop):Exit->Act->WD->Prop
 | .outgrown,_,_=>False
 | e,a,w=>Q e a w
theorem d0w.imp:∀(e:Exit) (a:Act) (w:WD),d0w Q e a w->Q e a w:=λe a w h=>by
 cases e<;>first | exact h | exact(h:False).elim
def c0p(o:Oper):Bool:=match o.op with | .defer _=>false | _=>true
theorem a9i{l:Nat}(b:P.follows .mixedOrders=true)(d:L.all c0p=true)(f:¬LetsOut Q) (h:wpAny P .any L.toArray Q L.toArray.size (Array.replicate L.toArray.size false) a w.drew):(Code.region id L.toArray true).wpIn (Fence.wide.inRound l) n P Q a w:=by
 have hd:∀(i:Nat) (o:Oper),L.toArray[i]? =some o->∀c:Call,o.op≠Op.defer c:=λi o m c e=>by
  have g:o∈L:=by
   have:=Zy (l:=L) (i:=i) (ρw m)
   exact this
  have j:=Yo.1 d o g;unfold c0p at j;rw[e]at j
  cases j
 exact wpIn_region_any b (a2Y hd f _ _ _ _ h)
theorem b4I{o:Oper}{K:Act->WD->Prop}(b:ops[i]? =some o)(d:Region.wanted o (yielded ops a.tmps)=true) (h:∀K':Act->WD->Prop,(∀a w,K a w->K' a w)->Oper.wp P o a w K' Q):wpOp P ops Q i K a w:=by
 unfold wpOp;rw[b];simp only[d,if_true];exact .inl (h K (λ_ _ h=>h))
end
end
end
section
def wds(q:IntKind)(l:LI):LV:=l.map (Value.int q)
theorem c6U(q:IntKind)(l:LI):(wds q l).length=l.length:=by simp[wds]
theorem c8A(q:IntKind)(l:LI):∀v∈wds q l,v.oneCell'=true:=by
 intro v a;obtain⟨x,_,rfl⟩:=Qs.1 a
 rfl
theorem c0l(q:IntKind)(l:LI)(j:Nat):(wds q l)[j]? =(l[j]?).map (Value.int q):=by simp[wds]
def RdW(q:IntKind)(w:WD)(A:OA)(l:LI):Prop:=0<l.length->∃g off,A=some ⟨g,off,none⟩/\g<w.heap.size/\∀j x,l[j]? =some x->w.cell? ⟨g,off+j,none⟩=some (.int q x)
theorem RdW.below{q:IntKind}{a:WD}(h:RdW q w A l)(b:Below w w a):RdW q a A l:=λh0=>by
 obtain⟨g,off,e,hg,hc⟩:=h h0;exact⟨g,off,e,Qh hg b.size,λj x hx=>(b.cell (p:=⟨g,off+j,none⟩) hg).trans (hc j x hx)⟩
theorem RdW.blk{q:IntKind}(h:Blk w g t (wds q l).toArray):RdW q w g l:=λ_=>
 ⟨g,0,rfl,h.lt,λj x hx=>by rw[QP,h.cell j];simp[c0l,hx]⟩
theorem RdW.nil(q:IntKind)(w:WD)(A:OA):RdW q w A []:=λh=>absurd h ρp
def a2X(e:TI)(q:IntKind)(B:Nat)(w:WD)(v:VL)(l:LI):Prop:=w.ownsRow B e 1 v l.length (wds q l)
section
variable {P:PG} {e t ty:TI} {q:IntKind} {B bytes:Nat} {w w':WD} {v:VL} {l:LI}
theorem a2X.nil(e:TI)(q:IntKind)(B:Nat)(w:WD):a2X e q B w (.slice none 0 0) []:=World.ownsRow_nil _ _ _ _
theorem a2X.fr{F:Nat->Prop}(h:a2X e q B w v l)(a:Fr F w w')(b:∀k,v.ownBlock=some k->¬F k):a2X e q B w' v l:=b4T h a b
theorem a2X.below(h:a2X e q B w v l)(a:Below n₀ w w')(b:∀k,v.ownBlock=some k->k<n₀):a2X e q B w' v l:=h.fr (Q9 a) (λk hk f=>by have:=b k hk;omega)
theorem a2X.form(h:a2X e q B w v l):∃A c,v=.slice A l.length c:=a8a h
theorem a2X.lt(h:a2X e q B w v l){k:Nat}(a:v.ownBlock=some k):B<=k/\k<w.heap.size:=World.ownsRow.lt h k a
theorem a2X.keep(h:a2X e q B w v l)(a:Below w w w'):a2X e q B w' v l:=h.below a (λ_ hk=>(h.lt hk).2)
theorem a2X.alloc(h:a2X e q B w v l)(o:Obj):a2X e q B (w.alloc o) v l:=World.ownsRow.alloc h o
theorem a2X.base(h:a2X e q B w v l)(a:B'<=B):a2X e q B' w v l:=by
 refine⟨h.1,?_⟩
 rcases h.2 with f | ⟨g,cap,b,d,m,j⟩
 ·exact .inl f
 exact .inr ⟨g,cap,b,d,by omega,j⟩
theorem a2X.cells(h:a2X e q B w v l)(a:0<l.length):∃g cap,v=.slice (some ⟨g,0,none⟩) l.length cap/\l.length<=cap/\B<=g/\g<w.heap.size/\∀i,i<l.length->w.cell? ⟨g,i,none⟩=some (.int q (l.getD i 0))/\w.frozen? ⟨g,i,none⟩=false:=by
 obtain⟨o,⟨_,p⟩ | ⟨g,cap,b,rfl,j,d,f,m,r,ht⟩⟩:=h
 ·omega
 refine⟨g,cap,rfl,f,j,(QK.1 d).1,λi hi=>⟨?_,frozen_of_row w g i b _ d⟩⟩;rw[cell_of_row w g i b _ (0,0) d];have e:(wds q l)[i]? =some (.int q (l.getD i 0)):=by simp[wds,List.getD,hi]
 rw[<-ht,Zj,if_pos ρo,Z9]at e;exact e
theorem a2X.rd(h:a2X e q B w v l):∃A c,v=.slice A l.length c/\RdW q w A l/\l.length<=c:=by
 rcases Zq l.length with d | d
 ·obtain⟨A,c,rfl⟩:=h.form
  exact⟨A,c,rfl,λh=>ρo,by omega⟩
 obtain⟨g,cap,rfl,m,_,f,a⟩:=h.cells d
 exact⟨_,cap,rfl,λ_=>⟨g,0,rfl,f,λj x o=>by
  obtain⟨b,e⟩:=Qm.1 o;rw[QP,(a j b).1];simp[List.getD,b,e]⟩,m⟩
theorem d3d(ht:P.underlying t=some (.slice e))(hi:(P.info? e).map (λi=>(i.zero.map (·.cells.size),i.size,i.bytes))=some (some 1,1,bytes))(b:bytes<=8) (h:a2X e q B w v l) {a:Addr} {m:LI}  (hm:∀j x,m[j]? =some x->w.cell? (a.add j)=some (.int q x)) (hlen:l.length+m.length<=1000000000) (hB:B<=w.heap.size):∃v' w',(APs #[t,t] ty #[v,.slice (some a) m.length c]).run P w=.ok v' w'/\a2X e q B w' v' (l++m)/\Fr (λk=>v.ownBlock=some k) w w'/\a7W w v v':=by
 have f:(l.length+m.length)*bytes<=140737488355328:=Qk (Nat.mul_le_mul hlen b) ρo
 obtain⟨v',w',r,o,y,p⟩:=a9k (P:=P) (ty:=ty) ht hi ρo h (a:=a) (m:=m.length) (c:=c) (wds q m) (by simp[c6U]) (λj u g=>by
  rw[c0l]at g;obtain⟨x,z,rfl⟩:=Q8.1 g;exact hm j x z) (c8A q m) (by unfold maxLen;omega) f hB
 refine⟨v',w',r,?_,(Qp _ w).grown y (λk _ e=>e),?_⟩
 ·unfold a2X
  rw[show wds q (l++m)=wds q l++wds q m from by simp[wds],Qa];exact o
 intro j d
 rcases p with e | e
 ·exact .inl (e ▸ d)
 right
 rw[e]at d
 injection d with d
 omega
theorem a9V(ht:P.underlying t=some (.slice e))(hi:(P.info? e).map (λi=>(i.zero.map (·.cells.size),i.size,i.bytes))=some (some 1,1,bytes))(b:bytes<=8) (h:a2X e q B w v l) (x:Int) (hlen:l.length+1<=1000000000) (hB:B<=w.heap.size):∃v' w',(APs #[t,t] ty #[v,.slice w 1 1]).run P (w.alloc (.cells #[.int q x] e))=.ok v' w'/\a2X e q B w' v' (l++[x])/\Fr (λk=>v.ownBlock=some k) w w'/\a7W w v v':=by
 have D:Blk (w.alloc (.cells #[.int q x] e)) w.heap.size e #[.int q x]:=Qd w _ _
 obtain⟨v',w',r,o,z,p⟩:=d3d (ty:=ty) ht hi b (m:=[x]) (c:=1) (a:=⟨w,0,none⟩) (h.alloc (.cells #[.int q x] e)) (λj y g=>by
  have d:(⟨w,0,none⟩:Addr).add j=⟨w,j,none⟩:=by unfold Addr.add;split<;>simp_all
  rw[d,D.cell j];have f:j<[x].length:=(Qm.1 g).1;obtain rfl:j=0:=ρw f;simp at g;subst g
  rfl) (ρw hlen) (by simp;omega)
 refine⟨v',w',r,o,((Qp _ w).alloc _).trans z (λk _ e=>e),?_⟩;intro j f
 rcases p j f with e | e
 ·exact .inl e
 right;simp at e;omega
theorem a2X.step(h:a2X e q B w v l)(a:Fr (λk=>v.ownBlock=some k) w w')(b:B<=w.heap.size):Below B w w':=
 a.below b (λk hk e=>by have:=(h.lt e).1;omega)
end
end
section
def RdR(m:Nat)(w:WD)(A:OA)(R:LW):Prop:=∀j (h:j<R.length),∃g off,A=some ⟨g,off,none⟩/\g<w.heap.size/\∀k x,R[j][k]? =some x->w.cell? ⟨g,off+j*m+k,none⟩=some x
theorem RdR.below{a:WD}{R:LW}(h:RdR m w A R)(b:Below w w a):RdR m a A R:=λj hj=>by
 obtain⟨g,off,e,hg,hc⟩:=h j hj;exact⟨g,off,e,Qh hg b.size,λk x hx=>(b.cell (p:=⟨g,off+j*m+k,none⟩) hg).trans (hc k x hx)⟩
theorem RdR.nil(m:Nat)(w:WD)(A:OA):RdR m w A []:=λj h=>absurd h ρp
theorem RdR.take{m:Nat}{w:WD}{A:OA}{R:LW}(h:RdR m w A R)(n:Nat):RdR m w A (R.take n):=λj hj=>by
 have hj':j<R.length:=by rw[Qx]at hj;omega
 obtain⟨g,off,e,b,d⟩:=h j hj';exact⟨g,off,e,b,λk x a=>d k x (by rw[List.getElem_take]at a;exact a)⟩
theorem RdR.drop{m:Nat}{w:WD}{g off:Nat}{R:LW}(h:RdR m w (some ⟨g,off,none⟩) R)(n:Nat):RdR m w (some ⟨g,off+n*m,none⟩) (R.drop n):=λj hj=>by
 have hj':n+j<R.length:=by rw[Yp]at hj;omega
 obtain⟨o,a,e,d,f⟩:=h (n+j) hj';simp only[Option.some.injEq,Addr.mk.injEq,and_true]at e;obtain⟨rfl,rfl⟩:=e
 exact⟨g,_,rfl,d,λk x b=>by
  have:=f k x (by rw[List.getElem_drop]at b;exact b)
  rw[Yb]at this;rw[<-this]
  congr 2
  omega⟩
theorem b0d{α:Type}(m:Nat):∀(L:List (List α)) (_:∀s∈L,s.length=m) (j k:Nat) (_:j<L.length) (_:k<m),L.flatten[j*m+k]? =(L.getD j [])[k]?
 | [],_,_,_,h,_=>absurd h ρp
 |
  s::L,hL,0,k,_,hk=>by
  have hs:s.length=m:=hL s ρp;simp only[Zm,Nat.zero_mul,QP,List.getD_cons_zero];rw[QO ρo]
 |
  s::L,hL,j+1,k,h,hk=>by
  have hs:s.length=m:=hL s ρp;simp only[Zm,List.getD_cons_succ];rw[QL (by rw[Yb];omega),hs,show(j+1)*m+k-m=j*m+k by rw[Yb];omega];exact b0d m L (λs hs=>hL s (Qj _ hs)) j k (ρw h) hk
structure a0T(e:TI)(m:Nat)(B:Nat)(w:WD)(v:VL)(R:LW):Prop where
 own:w.ownsRow B e m v R.length R.flatten
 len:∀r∈R,r.length=m
section
variable {P:PG} {e t ty:TI} {m B bytes:Nat} {w w':WD} {v:VL} {R:LW}
theorem a0T.nil(e:TI)(m B:Nat)(w:WD):a0T e m B w (.slice none 0 0) []:=⟨World.ownsRow_nil _ _ _ _,by simp⟩
theorem a0T.fr{F:Nat->Prop}(h:a0T e m B w v R)(a:Fr F w w')(b:∀k,v.ownBlock=some k->¬F k):a0T e m B w' v R:=⟨b4T h.own a b,h.len⟩
theorem a0T.lt(h:a0T e m B w v R){k:Nat}(a:v.ownBlock=some k):B<=k/\k<w.heap.size:=World.ownsRow.lt h.own k a
theorem a0T.keep(h:a0T e m B w v R)(a:Below w w w'):a0T e m B w' v R:=h.fr (Q9 a) (λk hk f=>by have:=(h.lt hk).2;omega)
theorem a0T.form(h:a0T e m B w v R):∃A c,v=.slice A R.length c:=a8a h.own
theorem a0T.alloc(h:a0T e m B w v R)(o:Obj):a0T e m B (w.alloc o) v R:=⟨World.ownsRow.alloc h.own o,h.len⟩
theorem a0T.base(h:a0T e m B w v R)(a:B'<=B):a0T e m B' w v R:=by
 refine⟨⟨h.own.1,?_⟩,h.len⟩
 rcases h.own.2 with f | ⟨g,cap,b,d,o,j⟩
 ·exact .inl f
 exact .inr ⟨g,cap,b,d,by omega,j⟩
theorem a0T.formN(h:a0T e m B w v R):∃A N c,v=.slice A N c/\N=R.length:=by
 obtain⟨A,c,e⟩:=h.form;exact⟨A,_,c,e,rfl⟩
theorem a0T.rd(h:a0T e m B w v R):∃A c,v=.slice A R.length c/\RdR m w A R/\R.length<=c/\(A=none->c=0)/\∀a,A=some a->B<=a.block/\a.block<w.heap.size:=by
 obtain⟨G,⟨rfl,H⟩ | ⟨g,cap,p,rfl,D,y,E,J,I,ht⟩⟩:=h.own
 ·have F:R=[]:=Zv.1 ρo
  subst F;exact⟨none,0,rfl,RdR.nil _ _ _,by simp,λ_=>rfl,by simp⟩
 have b:g<w.heap.size:=(QK.1 y).1;refine⟨some ⟨g,0,none⟩,cap,rfl,λj r=>⟨g,0,rfl,b,λk x z=>?_⟩,E,by simp,λa e=>by cases e;exact⟨D,b⟩⟩
 have o:k<m:=by
  have:=(Qm.1 z).1
  rw[h.len _ (Qu r)]at this;exact this
 rw[QP,cell_of_row w g _ p _ (0,0) y];have d:=b0d m R h.len j k r o;have f:(R.getD j [])[k]? =some x:=by simpa[List.getD,r]using z
 rw[f,<-ht,Zj]at d
 split at d
 ·simpa using d
 cases d
theorem d2X(ht:P.underlying t=some (.slice e))(hi:(P.info? e).map (λi=>(i.zero.map (·.cells.size),i.size,i.bytes))=some (some m,m,bytes))(d:0<m)(b:bytes<=4096) (h:a0T e m B w v R)  {S:LW}  (hS:RdR m w A S) (hSl:∀s∈S,s.length=m) (hS1:∀s∈S,∀u∈s,u.oneCell'=true) (hc:A=none->c=0) (hlen:R.length+S.length<=1000000000) (hB:B<=w.heap.size):∃v' w',(APs #[t,t] ty #[v,.slice A S.length c]).run P w=.ok v' w'/\a0T e m B w' v' (R++S)/\Fr (λk=>v.ownBlock=some k) w w'/\a7W w v v':=by
 cases A with
 |
  none=>
  have e:S=[]:=by
   cases S with
   | nil=>rfl
   |
    cons x r=>
    obtain⟨g,o,e,_⟩:=hS 0 ρp
    cases e
  subst e;obtain rfl:=hc rfl;obtain⟨i,I,D⟩:=Q8.1 hi;simp only[Prod.mk.injEq]at D;refine⟨v,w,?_,by simpa using h,Qp _ _,a7W.refl _ _⟩;obtain⟨N,F,O⟩:=D;subst F;exact run_append_owned_none w B t ty _ i i.size ht I v R.length R.flatten h.own
 |
  some a=>
  have K:(R.length+S.length)*bytes<=140737488355328:=Qk (Nat.mul_le_mul hlen b) ρo
  have y:∀j u,S.flatten[j]? =some u->w.cell? (a.add j)=some u:=by
   intro j u z;have p:j<S.flatten.length:=(Qm.1 z).1;rw[a7m m S hSl]at p;have G:j / m<S.length:=Nat.div_lt_of_lt_mul (ρy Nat.mul_comm p);have H:j % m<m:=Nat.mod_lt _ d;have e:j=j / m*m+j % m:=by have:=Nat.div_add_mod j m;rw[Nat.mul_comm]at this;exact this.symm
   obtain⟨g,off,V,Y,f⟩:=hS (j / m) G
   cases V
   have E:(⟨g,off,none⟩:Addr).add j=⟨g,off+j,none⟩:=by
    clear z p G H e f;unfold Addr.add
    split<;>simp_all
   rw[E];rw[e,b0d m S hSl _ _ G H]at z
   have:=f (j % m) u (by simpa[List.getD,G]using z)
   rw[ZT,<-e]at this;exact this
  obtain⟨v',w',U,Q,W,T⟩:=a9k (P:=P) (ty:=ty) ht hi d h.own (a:=a) (m:=S.length) (c:=c) S.flatten (a7m m S hSl) y (λu z=>by
   obtain⟨s,X,J⟩:=List.mem_flatten.1 z;exact hS1 s X u J) (by unfold maxLen;omega) K hB
  refine⟨v',w',U,⟨?_,λr H=>(Qq.1 H).elim (h.len r) (hSl r)⟩,(Qp _ w).grown W (λk _ e=>e),?_⟩
  ·rw[Qa,ZA]
   exact Q
  intro j p
  rcases T with e | e
  ·exact .inl (e ▸ p)
  right
  rw[e]at p
  injection p with p
  omega
theorem a5o(ht:P.underlying t=some (.slice e))(hi:(P.info? e).map (λi=>(i.zero.map (·.cells.size),i.size,i.bytes))=some (some m,m,bytes))(b:0<m)(a:bytes<=4096) (h:a0T e m B w v R) (r:LV) (hr:r.length=m) (hr1:∀u∈r,u.oneCell'=true) (hlen:R.length+1<=1000000000) (hB:B<=w.heap.size):∃v' w',(APs #[t,t] ty #[v,.slice w 1 1]).run P (w.alloc (.cells r.toArray e))=.ok v' w'/\a0T e m B w' v' (R++[r])/\Fr (λk=>v.ownBlock=some k) w w'/\a7W w v v':=by
 have y:Blk (w.alloc (.cells r.toArray e)) w.heap.size e r.toArray:=Qd w _ _
 obtain⟨v',w',o,f,p,g⟩:=d2X (ty:=ty) ht hi b a (A:=some ⟨w,0,none⟩) (S:=[r]) (c:=1) (h.alloc (.cells r.toArray e)) (λj d=>⟨w.heap.size,0,rfl,by simp,λk x z=>by
  obtain rfl:j=0:=ρw d;rw[show 0+0*m+k=k by omega,y.cell k]
  simpa using z⟩) (ρw hr) (ρw hr1) ρp (ρw hlen) (by simp;omega)
 refine⟨v',w',o,f,((Qp _ w).alloc _).trans p (λk _ e=>e),?_⟩;intro j d
 rcases g j d with e | e
 ·exact .inl e
 right;simp at e;omega
theorem a0T.step(h:a0T e m B w v R)(a:Fr (λk=>v.ownBlock=some k) w w')(b:B<=w.heap.size):Below B w w':=
 a.below b (λk hk e=>by have:=(h.lt e).1;omega)
end
theorem c5Q:prog.underlying 35=some (.slice 31):=ρk
theorem d2s:(prog.info? 31).map (λi=>(i.zero.map (·.cells.size),i.size,i.bytes))=some (some 32,32,32):=ρk
theorem c1e:(prog.info? 31).map (λi=>(i.zero.map (·.cells.size),i.size))=some (some 32,32):=ρk
theorem a9T(xs:AV)(t:TI):Builtin.append_ #[35,35] t xs=APs #[35,35] t xs:=rfl
theorem a9S(n:Nat)(a:Array (Nat×VL)):Instr.buildSlice 35 n a=BSs 35 n a:=rfl
abbrev a1D:=ldOf 39
abbrev a3u:=stOf 39
abbrev a3h:=alOf 39
end
def a3s(P:PG)(t:TI):Option (List (Nat×Nat)):=
 match P.underlying t with
 | some (.struct fields)=>fields.toList.mapM (λf=>(P.info? f.type).map λi=>(f.offset,i.size))
 | _=>none
def b1G(pl:List (Nat×Nat)):LV->List (Nat×VL)->Option LV
 | cs,[]=>some cs
 |
  cs,(i,v)::r=>
  match pl[i]? with
  | none=>none
  | some (off,size)=>if v.cells.size≠size\/cs.length<off+size then none else b1G pl (cs.take off++v.cells.toList++cs.drop (off+size)) r
theorem a1Y(pl:List (Nat×Nat))(cs:LV):b1G pl cs []=some cs:=rfl
theorem a0v{pl:List (Nat×Nat)}{cs:LV}{r:List (Nat×VL)}{off:Nat}(a:pl[i]? =some (off,size))(b:v.cells.size=size)(d:off+size<=cs.length):b1G pl cs ((i,v)::r)=b1G pl (cs.take off++v.cells.toList++cs.drop (off+size)) r:=by
 rw[b1G,a];simp only;rw[if_neg ρo]
theorem c6K(pl:List (Nat×Nat)):∀(parts:List (Nat×VL)) (cs out:LV),b1G pl cs parts=some out->Instr.fill (pl.toArray[·]?) cs.toArray parts=some out.toArray
 |
  [],cs,out,h=>by
  rw[b1G,Option.some.injEq]at h;subst h
  rfl
 |
  (i,v)::r,cs,out,h=>by
  rw[b1G]at h
  cases hp:pl[i]? with
  | none=>rw[hp]at h;cases h
  |
   some q=>
   obtain⟨off,size⟩:=q;rw[hp]at h;simp only at h
   split at h
   ·cases h
   rename_i hn
   have hs:v.cells.size=size:=by omega
   have a:off+size<=cs.length:=by omega
   rw[a9W _ _ i off size v _ (by simpa using hp) hs (by simpa using a)]
   have e:a1d cs.toArray off v.cells.toList=(cs.take off++v.cells.toList++cs.drop (off+size)).toArray:=by
    unfold a1d;simp[hs]
   rw[e];exact c6K pl r _ out h
theorem a2H{pl:List (Nat×Nat)}{Z:LV}(b:a3s P t=some pl)(f:(((P.info? t).bind (·.zero)).map (·.cells.toList))=some Z)(a:Array (Nat×VL))(cs:LV) (h:b1G pl Z a.toList=some cs) (w:WD):(BDs t a).run P w=.ok (.agg cs.toArray) w:=by
 refine run_build w t a cs.toArray ?_;obtain⟨z,m,j⟩:=Q8.1 f;obtain⟨i,p,o⟩:=Option.bind_eq_some_iff.1 m;unfold a3s at b
 cases hu:P.underlying t with
 | none=>rw[hu]at b;cases b
 |
  some d=>
  rw[hu]at b
  cases d with
  |
   struct g=>
   simp only at b;unfold Program.built;simp only[p,hu,o,b]
   have:=c6K pl a.toList Z cs h
   rw[<-j]at this
   simpa using this
  | _=>simp at b
section
open Go Go.RowKit
section
variable {P:PG} {ops:Array Oper} {Q:Exit->Act->WD->Prop} {S:WD->Prop} {J:Nat->Bool} {E:Act->WD->Prop}
def c3y(P:PG)(ops:Array Oper)(Q:Exit->Act->WD->Prop)(E:Act->WD->Prop):List (Nat×Nat)->Act->WD->Prop
 | [],a,w=>E a w
 | (k,2)::fl,a,w=>∃o,ops[k]? =some o/\Region.wanted o (yielded ops a.tmps)=true/\o.wp P a w (λa' w'=>Below w.heap.size w w'/\∀X,Below w'.heap.size w' X->c3y P ops Q E fl a' X) Q
 | (k,_)::fl,a,w=>∃o,ops[k]? =some o/\∃v,YieldsIf P ops (λ_=>True) o v a/\c3y P ops Q E fl (a.put o.dst v) w
section
variable {fl:List (Nat×Nat)} {k:Nat} {o:Oper} {a:Act} {w:WD}
theorem a8f(b:ops[k]? =some o)(d:Region.wanted o (yielded ops a.tmps)=true)(f:∀W,(execOp a.eval o).run P W=.ok (.value v) W)(g:a.put o.dst v=a')(h:c3y P ops Q E fl a' w):c3y P ops Q E ((k,3)::fl) a w:=
 ⟨o,b,v,.inl ⟨d,λW _=>f W⟩,g ▸ h⟩
theorem a6e(h:E a w):c3y P ops Q E [] a w:=h
theorem a4f(b:ops[k]? =some o)(d:Region.wanted o (yielded ops a.tmps)=true)(h:∀K:Act->WD->Prop,(∀a' w',Below w w w'->(∀X,Below w'.heap.size w' X->c3y P ops Q E fl a' X)->K a' w')->o.wp P a w K Q):c3y P ops Q E ((k,2)::fl) a w:=
 ⟨o,b,d,h _ (λ_a' _w' h1 h2=>⟨h1,h2⟩)⟩
end
theorem b8J{o g:Oper}(j:g.apart ops o=true)(p:∀cs b,o.op≠ .select cs b)(m:∀c a a' w,Q (.panic c) a w->Q (.panic c) a' w){K:Act->WD->Prop}(v:VL)(h:o.wp P a w K Q):o.wp P (a.put g.dst v) w (λa'' w'=>∃a',a''=a'.put g.dst v/\K a' w') Q:=by
 obtain⟨E,z,F⟩:=Oper.apart_spec j;unfold Oper.wp at*;rw[execOp_put o p a g.dst v E]
 generalize(execOp a.eval o).run P w=r at*
 cases r with
 |
  ok n w'=>
  cases n<;>simp only[Oper.upon]at h⊢
  case value u=>exact⟨_,(Act.put_comm a v u z),h⟩
  case skip=>exact⟨_,(Act.put_comm a v undef z),h⟩
  case defer d=>
   refine⟨_,?_,h⟩;rw[<-Act.put_comm _ v undef z]
   first
    | exact congrArg (λa=>Act.put a o.dst undef) (Act.put_defers a g.dst v d)
    | exact congrArg (λa=>Act.put a o.dst undef) (Act.put_defers a g.dst v d).symm
  case enter f B=>
   refine Calls.mono h λe D y=>?_
   cases e with
   | returned u=>exact⟨_,(Act.put_comm a v u z),y⟩
   | panicked c=>exact m _ _ _ _ y
   | outgrown=>exact y
  case row row B=>exact Rows.mono h λu D y=>⟨_,(Act.put_comm a v u z),y⟩
 |
  halt x w'=>
  cases x<;>simp only[Oper.upon]at h⊢
  case panic u=>exact m _ _ _ _ h
def flB(ops:Array Oper)(j:Nat)(Lf:Array Bool):List (Nat×Nat)->Array Bool->Bool
 | [],listed=>decide (Region.ready .any ops listed=[j])&&decide (listed.setIfInBounds j true=Lf)
 | (k
  ,2)::fl,listed=>decide (k≠j)&&(decide (Region.ready .any ops listed=[k,j])||decide (Region.ready .any ops listed=[j,k]))&&decide (Region.ready .any ops (listed.setIfInBounds j true)=[k])&&
  (match ops[k]?,ops[j]? with | some ok,some oj=>ok.apart ops oj&&oj.apart ops ok | _,_=>false)&&flB ops j Lf fl (listed.setIfInBounds k true)
 | (k
  ,_)::fl,listed=>decide (k≠j)&&Region.free .any ops listed k&&(Region.ready .any ops listed).contains k&&Region.free .any ops (listed.setIfInBounds j true) k&&(Region.ready .any ops (listed.setIfInBounds j true)).contains k&&
  (match ops[k]?,ops[j]? with | some ok,some oj=>ok.apart ops oj&&oj.apart ops ok | _,_=>false)&&flB ops j Lf fl (listed.setIfInBounds k true)
theorem a7n{K:Act->WD->Prop}(b:ops[i]? =some oi)(d:Region.wanted oi (yielded ops a.tmps)=true)(h:oi.wp P a w K Q):wpOp P ops Q i K a w:=by
 unfold wpOp;rw[b];simp only;rw[if_pos d];exact .inl h
theorem b2O(p:Region.noSelect ops=true)(r:∀c a a' w,Q (.panic c) a w->Q (.panic c) a' w){j n:Nat}{f:Oper}{Lf:Array Bool}(y:ops[j]? =some f)(d:WD->Prop)(z:∀X Y,d X->Below X.heap.size X Y->d Y)(g:∀X,d X->S X) (Ψ:VL->WD->Prop) (hΨ:∀v X Y,Ψ v X->Below X.heap.size X Y->Ψ v Y) (hE:∀a X v,d X->E a X->Ψ v X->a1u P .any ops Q S J n Lf (a.put f.dst v) X):∀ (fl:List (Nat×Nat)) (listed:Array Bool) (a:Act) (w:WD) (v:VL),flB ops j Lf fl listed=true->d w->Ψ v w->c3y P ops Q E fl a w->a1u P .any ops Q S J (fl.length+n) (listed.setIfInBounds j true) (a.put f.dst v) w
 |
  [],listed,a,w,v,hB,hw,hv,h=>by
  simp only[flB,QA,decide_eq_true_eq]at hB;rw[hB.2,Qv,QP];exact hE a w v hw h hv
 |
  (k,m)::fl,listed,a,w,v,hB,hw,hv,h=>by
  rw[show((k,m)::fl).length+n=fl.length+n+1 by simp;omega]
  match m,hB,h with
  |
   2,hB,h=>
   simp only[flB,QA,decide_eq_true_eq,Bool.or_eq_true]at hB;obtain⟨⟨⟨⟨hkj,_⟩,hr⟩,hap⟩,hB⟩:=hB;obtain⟨o,h0,hwt,hk⟩:=h;rw[h0,y]at hap;simp only[QA]at hap;refine⟨λe=>(by rw[hr]at e;cases e),λi hi=>?_⟩;rw[hr]at hi;simp only[Qn]at hi;subst hi;have hns:=Zl p i o;obtain⟨h1,h2,h3⟩:=Oper.apart_spec hap.2;refine a7n h0 (by rw[wanted_put o a f.dst v h1];exact hwt) (Yg (λa'' w' h'=>?_) (b8J hap.2 (λcs b=>hns cs b h0) r v hk));obtain⟨a',rfl,hbl,hk⟩:=h';have hw':=z _ _ hw hbl;refine⟨λ_ _=>g _ hw',?_⟩;rw[Array.setIfInBounds_comm _ _ (Ne.symm hkj)];exact b2O p r y d z g Ψ hΨ hE fl (listed.setIfInBounds i true) _ w' v hB hw' (hΨ _ _ _ hv hbl) (hk w' (Qf _ _))
  |
   0,hB,h | 1,hB,h | m+3,hB,h=>
   simp only[flB,QA,decide_eq_true_eq]at hB;obtain⟨⟨⟨⟨⟨⟨hkj,_⟩,_⟩,hf⟩,hr⟩,hap⟩,hB⟩:=hB;obtain⟨o,h0,x,hy,h⟩:=h;rw[h0,y]at hap;simp only[QA]at hap;obtain⟨h1,h2,h3⟩:=Oper.apart_spec hap.2;have hy':YieldsIf P ops (λ_=>True) o x (a.put f.dst v):=hy.of_same (execOp_put o (λcs b=>Zl p k o cs b h0) a f.dst v h1) (wanted_put o a f.dst v h1);have ih:=b2O p r y d z g Ψ hΨ hE fl (listed.setIfInBounds k true) (a.put o.dst x) w v hB hw hv h;refine a3k h0 (Zl p) (λc a w h=>r c _ _ w h) _ _ _ _ (Region.free_spec h0 hf) (ρw hr) hy' ?_;rw[Array.setIfInBounds_comm _ _ (Ne.symm hkj),Act.put_comm a v x (Oper.apart_spec hap.2).2.1];exact ih
theorem c2q(p:Region.noSelect ops=true)(r:∀c a a' w,Q (.panic c) a w->Q (.panic c) a' w){j n:Nat}{y:Oper}{Lf:Array Bool}(f:ops[j]? =some y)(b:WD->Prop)(g:∀X Y,b X->Below X.heap.size X Y->b Y)(d:∀X,b X->S X) (Ψ:VL->WD->Prop) (hΨ:∀v X Y,Ψ v X->Below X.heap.size X Y->Ψ v Y) (hE:∀a X v,b X->E a X->Ψ v X->a1u P .any ops Q S J n Lf (a.put y.dst v) X) (hwt:∀a:Act,Region.wanted y (yielded ops a.tmps)=true) (hc:∀(a:Act) X,b X->y.wp P a X (λa' X'=>∃v,a'=a.put y.dst v/\Ψ v X'/\Below X.heap.size X X') Q):∀ (fl:List (Nat×Nat)) (listed:Array Bool) (a:Act) (w:WD),flB ops j Lf fl listed=true->b w->(∀X,Below w.heap.size w X->c3y P ops Q E fl a X)->a1u P .any ops Q S J (fl.length+1+n) listed a w
 |
  [],listed,a,w,hB,hw,h=>by
  have hB0:=hB;simp only[flB,QA,decide_eq_true_eq]at hB;rw[show([]:List (Nat×Nat)).length+1+n=n+1 by simp;omega];refine⟨λe=>(by rw[hB.1]at e;cases e),λi hi=>?_⟩;rw[hB.1]at hi;simp only[Qn]at hi;subst hi;refine a7n f (hwt a) (Yg (λa' X' h'=>?_) (hc a w hw));obtain⟨v,rfl,hv,hbl⟩:=h';have hw':=g _ _ hw hbl;refine⟨λ_ _=>d _ hw',?_⟩
  have:=b2O (n:=n) p r f b g d Ψ hΨ hE [] listed a X' v hB0 hw' hv (h X' hbl)
  simpa using this
 |
  (k,m)::fl,listed,a,w,hB0,hw,h=>by
  have hfloat:wpOp P ops Q j (λa' w'=>(J j=true->S w->S w')/\a1u P .any ops Q S J (((k,m)::fl).length+n) (listed.setIfInBounds j true) a' w') a w:=by
   refine a7n f (hwt a) (Yg (λa' X' h'=>?_) (hc a w hw));obtain⟨v,rfl,hv,hbl⟩:=h';have hw':=g _ _ hw hbl;exact⟨λ_ _=>d _ hw',b2O (n:=n) p r f b g d Ψ hΨ hE ((k,m)::fl) listed a X' v hB0 hw' hv (h X' hbl)⟩
  have hB:=hB0;rw[show((k,m)::fl).length+1+n=(fl.length+1+n)+1 by simp;omega];rw[show((k,m)::fl).length+n=fl.length+1+n by simp]at hfloat
  match m,hB,h with
  |
   2,hB,h=>
   simp only[flB,QA,decide_eq_true_eq,Bool.or_eq_true]at hB;obtain⟨⟨⟨⟨V,K⟩,_⟩,z⟩,hB⟩:=hB;obtain⟨o,D,U,R⟩:=h w (Qf _ _);rw[D,f]at z;simp only[QA]at z
   have H:∀i,i∈Region.ready .any ops listed->i=k\/i=j:=λi hi=>by
    rcases K with e | e<;>rw[e]at hi<;>simp only[Qo,Qt,or_false]at hi<;>omega
   refine⟨λe=>(by rcases K with W | W<;>rw[W]at e<;>cases e),λi hi=>?_⟩
   rcases H i hi with rfl | rfl
   ·refine a7n D U (Yg (λa' w' h'=>?_) R)
    obtain⟨hbl,R⟩:=h';have hw':=g _ _ hw hbl;exact⟨λ_ _=>d _ hw',c2q p r f b g d Ψ hΨ hE hwt hc fl (listed.setIfInBounds i true) _ w' hB hw' R⟩
   exact hfloat
  |
   0,hB,h | 1,hB,h | m+3,hB,h=>
   simp only[flB,QA,decide_eq_true_eq]at hB;obtain⟨⟨⟨⟨⟨⟨V,hf⟩,K⟩,_⟩,_⟩,z⟩,hB⟩:=hB;obtain⟨o,D,x,Z,_⟩:=h w (Qf _ _);rw[D,f]at z;simp only[QA]at z;obtain⟨h1,h2,h3⟩:=Oper.apart_spec z.1;refine a3k D (Zl p) (λc a w h=>r c _ _ w h) _ _ _ _ (Region.free_spec D hf) (ρw K) Z ?_;refine c2q p r f b g d Ψ hΨ hE hwt hc fl (listed.setIfInBounds k true) (a.put o.dst x) w hB hw (λX hX=>?_);obtain⟨o',I,x',G,T⟩:=h X hX;obtain rfl:o=o':=by rw[D]at I;exact Option.some.inj I
   have:x=x':=by
    rcases Z with⟨F,N⟩ | ⟨F,rfl⟩
    ·rcases G with⟨_,O⟩ | ⟨B,_⟩
     ·have e:=(N w trivial).symm.trans (O w trivial)
      simpa using e
     rw[F]at B;cases B
    rcases G with⟨B,_⟩ | ⟨_,rfl⟩
    ·rw[F]at B;cases B
    rfl
   subst this;exact T
theorem a2A{d:Oper}{Z:AV}(f:List (Nat×Nat))(o:decide (f.length+1+n=m)=true)(p:Region.noSelect L.toArray=true)(r:flB L.toArray j Lf f b=true) (hj:L.toArray[j]? =some d) (hg:d.guard=none) (hal:∀(a:Act) (X:WD),(execOp a.eval d).run P X=.ok (.value (.pointer (some ⟨X.heap.size,0,none⟩))) (X.alloc (.cells Z t))) (hIS:∀X,Below w w X->S X) (h:∀X,Below w w X->c3y P L.toArray (a2N Q) (λa X=>Below w w X->∀h,w.heap.size<=h->Blk X h t Z->a1u P .any L.toArray (a2N Q) S J n Lf (a.put d.dst (.pointer (some ⟨h,0,none⟩))) X) f a X):a1u P .any L.toArray (a2N Q) S J m b a w:=by
 rw[show m=f.length+1+n by simpa using(of_decide_eq_true o).symm]
 refine c2q (E:=λa X=>Below w w X->∀h,w.heap.size<=h->Blk X h t Z->a1u P .any L.toArray (a2N Q) S J n Lf (a.put d.dst (.pointer (some ⟨h,0,none⟩))) X) p (λ_ _ _ _ h=>(h:False).elim) hj (Below w w) (λX Y x B=>x.trans (B.mono x.size)) hIS
  (λv X=>∃g,v=.pointer (some ⟨g,0,none⟩)/\w.heap.size<=g/\Blk X g t Z) ?_ ?_ (λa=>by unfold Region.wanted;rw[hg]) ?_ f b a w r (Qf _ _) h
 ·rintro v X Y ⟨g,e,z,y⟩ B
  exact⟨g,e,z,y.fr (Q9 B) (ρh y.lt)⟩
 ·rintro a X v x D ⟨g,rfl,z,y⟩
  exact D x g z y
 intro a X x;unfold Oper.wp;rw[hal a X];exact⟨_,rfl,⟨_,rfl,x.size,Qd X t Z⟩,ρb X _⟩
end
end
def a5b(a b:Int):Int×Int:=if 4611686018427387904<a\/4611686018427387904<b\/4611686018427387904<a+b then(0,6)else(a+b,0)
def b3O:Int->LI->Int×Int
 | s,[]=>(s,0)
 | s,x::l=>if(a5b s x).2=0 then b3O (a5b s x).1 l else(0,(a5b s x).2)
structure U64(w:WD)(A:OA)(l:LI):Prop where
 cell:0<l.length->∃g off,A=some ⟨g,off,none⟩/\g<w.heap.size/\∀j x,l[j]? =some x->w.cell? ⟨g,off+j,none⟩=some (.int .u64 x)
 bd:∀x∈l,0<=x/\x<=18446744073709551615
theorem U64.below{a:WD}(h:U64 w A l)(b:Below w w a):U64 a A l:=
 ⟨λh0=>by
  obtain⟨g,off,e,hg,hc⟩:=h.cell h0;exact⟨g,off,e,Qh hg b.size,λj x hx=>(b.cell (p:=⟨g,off+j,none⟩) hg).trans (hc j x hx)⟩,h.bd⟩
theorem U64.new(w:WD)(l:LI)(a:∀x∈l,0<=x/\x<=18446744073709551615):U64 (w.alloc (.cells (l.map (Value.int .u64)).toArray 32)) w l:=
 ⟨λ_=>⟨_,0,rfl,by simp,λj x hx=>by
  rw[QP,(Qd w 32 (l.map (Value.int .u64)).toArray).cell j];simp[hx]⟩,a⟩
theorem c1c(A:OA)(c:Nat)(l:LI)(w:WD)(h:U64 w A l)(a:l.length<=1000000000):Calls prog 236 #[.slice A l.length c] w λe w'=>e=.returned (.bool (l.all λx=>decide (x<=4611686018427387904)))/\w=w':=by
 generalize G:l.length=n at a⊢
 generalize I:(l.all λx=>decide (x<=4611686018427387904))=R
 have⟨D,H,E⟩:=η3 I h G;clear h G I;go_in;go_wp2_with fail;go_loopg [4,7] n (λJ _ t wr=>∃i:Nat,i+J=n/\t=.int .i64 i/\((l.take i).all λx=>decide (x<=4611686018427387904))=true/\wr=w);exact⟨0,by omega,rfl,by simp,rfl⟩;obtain⟨i,hi,rfl,b,rfl⟩:=hrel
 by_cases p:i<n
 ·have o:(i:Int)<n:=ρo
  have m:i<l.length:=by rw[E.o];exact p
  obtain⟨g,off,rfl,N,B⟩:=H.cell ρo;have r:=B i l[i] (by simp[m]);have j:l.take (i+1)=l.take i++[l[i]]:=Qe m;have d:l[i]∈l:=Qu m;have⟨x,v⟩:=η0 (l[i]);rw[v]at r j d;have K:=H.bd x d
  by_cases F:4611686018427387904<x
  ·have z:R=false:=by
    rw[<-D.o,List.all_eq_false];exact⟨x,d,by simp;omega⟩
   subst z;clear j v B b;go_wp2;go_ret;exact⟨rfl,rfl⟩
  have f:((l.take (i+1)).all λx=>decide (x<=4611686018427387904))=true:=by
   rw[j,List.all_append,b]
   simp
   omega
  have y:=η1 f;clear j v B b f;go_wp2;go_roundg (n-(i+1));exact⟨i+1,by omega,by go_num,y.o,rfl⟩;omega
 obtain rfl:i=n:=ρo;have o:¬(i:Int)<i:=ρo;rw[Qb (by rw[E.o];exact Qg _),D.o]at b;subst b;go_wp2;go_ret;exact⟨rfl,rfl⟩
theorem b6Q(a b:Int)(d:0<=a)(f:0<=b):0<=(a5b a b).1/\(a5b a b).1<=4611686018427387904:=by
 unfold a5b
 split
 ·exact⟨Int.le_refl _,by simp⟩
 simp only;omega
theorem a8G(a b:Int)(d:0<=a/\a<=18446744073709551615)(f:0<=b/\b<=18446744073709551615)(w:WD):Calls prog 182 #[.int .u64 a,.int .u64 b] w λe w'=>e=.returned (.tuple #[.int .u64 (a5b a b).1,.int .i64 (a5b a b).2])/\Below w w w':=by
 have z:=ρb w (.cells #[.int .u64 a,.int .u64 b] 32);have v:=c1c _ 2 [a,b] _ (U64.new w [a,b] (λx E=>by simp at E;rcases E with rfl | rfl<;>assumption)) ρp;rw[show([a,b].map (Value.int .u64)).toArray=#[.int .u64 a,.int .u64 b]from rfl,show([a,b]:LI).length=2 from rfl]at v
 generalize o:w.alloc (.cells #[.int .u64 a,.int .u64 b] 32)=W1 at z v
 by_cases r:4611686018427387904<a\/4611686018427387904<b
 ·have y:a5b a b=(0,6):=by unfold a5b;rw[if_pos ρo]
  have j:([a,b].all λx=>decide (x<=4611686018427387904))=false:=by
   simp
   omega
  rw[y];rw[j]at v;have⟨p,H⟩:=η2 o z;clear o y j r z;go_in;go_wp2_with fail;rw[p.o];refine μi v ?_;intro w' G;rw[<-G];clear G v;go_wp2;go_ret2;exact⟨rfl,H.o⟩
 have j:([a,b].all λx=>decide (x<=4611686018427387904))=true:=by
  simp
  omega
 rw[j]at v;have G:IntKind.u64.wrap (a+b)=a+b:=by rw[IntKind.wrap_u64];omega
 have s2:=c1c _ 1 [a+b] _ (U64.new W1 [a+b] (λx E=>by simp at E;subst E;omega)) ρp;have F:Below w w (W1.alloc (.cells #[.int .u64 (a+b)] 32)):=z.alloc z.size _;rw[show([a+b].map (Value.int .u64)).toArray=#[.int .u64 (a+b)]from rfl,show([a+b]:LI).length=1 from rfl]at s2;have I:a<=4611686018427387904:=ρo;have N:b<=4611686018427387904:=ρo;have K:=d.1;have J:=f.1
 by_cases D:4611686018427387904<a+b
 ·have y:a5b a b=(0,6):=by unfold a5b;rw[if_pos (.inr (.inr D))]
  have m:([a+b].all λx=>decide (x<=4611686018427387904))=false:=by
   simp
   omega
  rw[m]at s2;rw[y];have⟨p,B⟩:=η2 o F;clear o y j m r z F d f;go_in;go_wp2_with fail;rw[p.o];refine μi v ?_;intro w' g;rw[<-g];clear g v;go_wp2_with fail;refine μi s2 ?_;intro w' g;rw[<-g];clear g s2;go_wp2;go_ret2;exact⟨rfl,B.o⟩
 have y:a5b a b=(a+b,0):=by unfold a5b;rw[if_neg ρo]
 have m:([a+b].all λx=>decide (x<=4611686018427387904))=true:=by
  simp
  omega
 rw[m]at s2;rw[y];have⟨p,B⟩:=η2 o F;clear o y j m r z F d f;go_in;go_wp2_with fail;rw[p.o];refine μi v ?_;intro w' g;rw[<-g];clear g v;go_wp2_with fail;refine μi s2 ?_;intro w' g;rw[<-g];clear g s2;go_wp2;go_ret2;exact⟨rfl,B.o⟩
theorem c6x(a b:Int):(a5b a b).2=0\/(a5b a b).2=6:=by
 unfold a5b
 split
 ·exact .inr rfl
 exact .inl rfl
theorem b5c:∀(l:LI) (s:Int),(b3O s l).2=0\/(b3O s l).2=6
 | [],s=>.inl rfl
 |
  x::l,s=>by
  unfold b3O
  split
  ·exact b5c l _
  exact c6x s x
theorem b7P(A:OA)(c:Nat)(l:LI)(w:WD)(h:U64 w A l)(a:l.length<=1000000000):Calls prog 198 #[.slice A l.length c] w λe w'=>e=.returned (.tuple #[.int .u64 (b3O 0 l).1,.int .i64 (b3O 0 l).2])/\Below w w w':=by
 generalize S:l.length=n at a⊢
 generalize U:b3O 0 l=R
 have⟨Y,H,O⟩:=η3 U h S;clear h S U;go_in;go_wp2_with fail;go_loopg [4,6,7,8,11] n (λX sv _ _ _ t wr=>∃(i:Nat) (s:Int),i+X=n/\t=.int .i64 i/\sv=.int .u64 s/\0<=s/\s<=4611686018427387904/\b3O s (l.drop i)=R/\Below w w wr);exact⟨0,0,by omega,rfl,rfl,by omega,by omega,Y.o,Qf _ _⟩;obtain⟨i,s,hi,rfl,rfl,B,aa,o,F⟩:=hrel
 by_cases I:i<n
 ·have E:(i:Int)<n:=ρo
  have y:i<l.length:=by rw[O.o];exact I
  obtain⟨g,off,rfl,W,V⟩:=H.cell ρo;have J:=(F.cell (p:=⟨g,off+i,none⟩) W).trans (V i l[i] (by simp[y]));have m:l[i]∈l:=Qu y;rw[List.drop_eq_getElem_cons y]at o;have⟨x,Q⟩:=η0 (l[i]);rw[Q]at J m o;have D:=H.bd x m;have b:=a8G s x ⟨B,by omega⟩ D wr;have r:=b6Q s x B D.1;unfold b3O at o;have⟨P,T⟩:=η0 (a5b s x);have v:=c6x s x;rw[T]at b r o v;obtain⟨Z,p2⟩:=P;simp only at b r o v;have⟨N,G,d⟩:=η3 o F b;clear V Q T o F b m
  rcases v with rfl | rfl
  ·have f:=N.o
   rw[if_pos rfl]at f;have K:=η1 f;clear f;go_wp2_with fail;refine μi d.o ?_;intro w2 j;have z:=η1 (φt G j);clear j d;go_wp2;go_roundg (n-(i+1));exact⟨i+1,Z,by omega,by go_num,rfl,r.1,r.2,K.o,z.o⟩;omega
  have f:=N.o;rw[if_neg ρo]at f;subst f;go_wp2_with fail;refine μi d.o ?_;intro w2 j;have z:=η1 (φt G j);clear j d;go_wp2;go_ret2;exact⟨rfl,z.o⟩
 obtain rfl:i=n:=ρo;have E:¬(i:Int)<i:=ρo;rw[QQ (by rw[O.o];exact Qg _)]at o;unfold b3O at o;subst o;have G:=η1 F;clear F;go_wp2;go_ret2;exact⟨rfl,G.o⟩
end Go.Proofs.YtpolljfkceanaaaGreatDoor
