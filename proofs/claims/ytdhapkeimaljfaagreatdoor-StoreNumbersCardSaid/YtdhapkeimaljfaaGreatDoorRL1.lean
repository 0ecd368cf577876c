/- Parts of the proofs about bulletinlaw29: Region, Mix, Text, Grd, Mem, Sha1, Sha2, Sha3, Sha4, Sha5, Sha6, Bytes, Sha7, Shelf, Refs, Line, Hex, Num, Sha8, PRec, Rec1, Rec2, Rec3, Rec4, Rec5, Secs, Rec6, Rec7a. -/
import Derived.StillTail
import Derived.Deep.Quiet
import Derived.Below
import Derived.WalkKit
import Derived.BigQuiet
import Derived.Deep.RegionHeld3
import Derived.Test.YtdhapkeimaljfaaGreatDoorProg
import Derived.WalkLawsBesides
import Derived.WalkSpells
import Derived.LoopTactic
import Derived.Outline
import Derived.Lib.Hide
import Derived.Deep.QuietTactic
import Derived.Laws.Rows
import Derived.Deep.Draws
import Derived.RangeFuncRecord
import Derived.Laws.StructEq
import Derived.Laws.NewBlocks
import Derived.Shelf.SlicesE.Kit
import Derived.IntWalk
import Derived.Deep.Cut
import Derived.Deep.CutBlock
import Derived.Carry
import Derived.Laws.CopyOwn
import Derived.Shelf.Strings.Builder1
import Derived.Shelf.Strings.Builder2
import Derived.Shelf.Strings.OnBuilder
import Derived.Shelf.Small.Bits
import Derived.Shelf.Small.Strs
import Derived.Shelf.Small.Wraps
import Derived.Shelf.Strings.BuilderF
import Derived.Shelf.Strings.BuilderK
import Derived.Shelf.Strings.Builder2Cap
import Derived.Shelf.Strconv.Itoa0
import Derived.Shelf.Strconv.Itoa1
import Derived.Shelf.LaysM
import Derived.Shelf.Strconv.Itoa2
import Derived.Shelf.Strconv.Itoa3
import Derived.Shelf.Strings.Search1
import Derived.Shelf.Strings.Search2
import Derived.Shelf.Strings.Search3
import Derived.Shelf.Strings.Cut
import Derived.Shelf.Strings.Count
import Derived.Shelf.Strings.Shaped
import Derived.Shelf.Strings.Split
import Derived.Shelf.Strings.SplitShaped
import Derived.Shelf.Unicode.DecodeSlow
import Derived.Shelf.Strings.BuilderCap
import Derived.Ground.Names2Prog
import Derived.Shelf.Slices.SearchI
import Derived.Ground.SlgfProg
import Derived.Shelf.SlicesE.IndexFunc
import Derived.Ground.SlsfProg
import Derived.Shelf.SlSortCmp.Insertion
import Derived.Shelf.SlSortCmp.SiftDown1
import Derived.Shelf.SlSortCmp.HeapSort1
import Derived.Shelf.SlSortCmp.Insertion1
import Derived.Shelf.SlSortCmp.Median1
import Derived.Shelf.SlSortCmp.Pivot1
import Derived.Shelf.SlSortCmp.ReverseRange1
import Derived.Shelf.SlSortCmp.PartialInsertion1
import Derived.Shelf.SlSortCmp.PartitionEqual1
import Derived.Shelf.SlSortCmp.Partition1
import Derived.Shelf.SlSortCmp.Pdq1
import Derived.Shelf.SlSortCmp.Whole1
import Derived.Shelf.SlSortCmp.NoneTotal
import Derived.Shelf.SlicesQ.Contains
import Derived.Shelf.SlicesE.Clone
import Derived.Ground.SlgqProg
import Derived.Ground.SlgnProg
import Derived.Shelf.SlGeneric
import Derived.Deep.LoopGhost
import Derived.Deep.RegionWith
import Derived.Deep.DeepFit
import Derived.StillTailTactics
import Derived.Lib.ItoaNum
import Derived.Laws.IdiomCopy
import Derived.Lib.BufferMore
import Derived.Maps.AppendAt
set_option maxRecDepth 100000
set_option linter.all false
set_option maxHeartbeats 8000000
namespace Go.Proofs.YtdhapkeimaljfaaGreatDoor
open Go Go.RowKit Go.Proofs Tryz
def z_:=@Below.refl
def w_:=@Nat.le_refl
def l7:=@List.getElem?_toArray
def O1:=@List.all_eq_true
def aB_:=@List.mem_range
def A0:=@Bool.and_eq_true
def B3:=@Array.all_eq_true_iff_forall_mem
def ac_:=@Bool.or_eq_true
def U3:=@Bool.not_eq_true'
def aK_:=@Array.getElem?_eq_getElem
def bu_:=@Array.getElem?_eq_none
def ao_:=@List.getElem?_drop
def E0:=@List.length_drop
def m0:=@Nat.zero_add
def bl_:=@List.exists_mem_of_ne_nil
def cl_:=@Nat.lt_or_ge
def bv_:=@Act.put_comm
def E8:=@List.nil_append
def t8:=@List.map_cons
def L2:=@List.cons_append
def bs_:=@Array.any_eq_true'
def G9:=@Sem.run_bind
def t2:=@Result.andThen_ok
def g8:=@List.mem_cons
def bX_:=@Ne.symm
def bZ_:=@List.filter_append
def av_:=@Bool.false_eq_true
def M6:=@List.nodup_append
def aG_:=@List.filter_eq_self
def au_:=@List.mem_filter
def U0:=@List.nodup_cons
def S_:=@List.mem_singleton
def aC_:=@List.eq_nil_of_length_eq_zero
def bG_:=@List.eq_nil_iff_forall_not_mem
def aV_:=@List.pairwise_cons
def m3:=@List.mem_append
def G0:=@Option.some.inj
def Y2:=@List.contains_iff_mem
def aW_:=@List.append_of_mem
def aM_:=@List.pairwise_append
def b6:=@List.length_append
def x5:=@List.length_cons
def cg_:=@List.all_cons
def d0:=@List.take_succ_eq_append_getElem
def co_:=@List.any_append
def n3:=@Nat.zero_le
def aX_:=@World.putObj_heap_same
def x6:=@World.putObj_heap_other
def D4:=@List.mem_map
def bq_:=@Option.isSome_iff_exists
def R1:=@List.getElem?_map
def aZ_:=@List.getElem?_eq_none
def ci_:=@List.ext_getElem
def aD_:=@World.cell?_drewN
def cp_:=@Bool.eq_iff_iff
def T6:=@Lib.cell?_alloc_some
def am_:=@List.map_congr_left
def l8:=@Addr.add_lit
def cs_:=@Array.ext
def bL_:=@List.getElem_toArray
def bj_:=@List.getElem_map
def ai_:=@Nat.mul_one
def ay_:=@Sem.run_pure
def bf_:=@Std.Legacy.Range.forIn_eq_forIn_range'
def cm_:=@Nat.sub_zero
def v6:=@List.take_of_length_le
def bk_:=@Nat.le_of_eq
def af_:=@Classical.choose_spec
def T_:=@NoPanic.normal
def ca_:=@IntWalk.i64_in
def ar_:=@Int.tmod_eq_emod_of_nonneg
def U6:=@Int.toNat_natCast
def aN_:=@Nat.add_zero
def ba_:=@Array.getElem?_modify
def R_:=@Nat.le_trans
def b7:=@Nat.lt_of_lt_of_le
def ak_:=@List.not_mem_nil
def U1:=@List.setIfInBounds_toArray
def V7:=@List.set_append_right
def M1:=@List.getElem?_append_right
def I3:=@List.getElem?_append_left
def ad_:=@List.drop_append
def B8:=@List.append_assoc
def x8:=@List.length_take
def aQ_:=@List.getElem?_take_of_lt
def aa_:=@Option.map_some
def ag_:=@Option.some.injEq
def T9:=@List.size_toArray
def aL_:=@Nat.min_eq_left
def M0:=@List.drop_eq_nil_of_le
def bt_:=@World.ownsRow.kept
def D1:=@World.ownsRow_nil
def s5:=@World.ownsRow.lt
def bM_:=@World.ownsRow.cellAt
def U_:=@List.getElem?_eq_getElem
def bQ_:=@List.range_succ
def U7:=@World.size_alloc
def aH_:=@List.take_succ_cons
def bg_:=@List.take_zero
def bR_:=@List.drop_succ_cons
def aS_:=@List.drop_zero
def aT_:=@List.mem_nil_iff
def bN_:=@List.mem_iff_getElem
def aY_:=@Nat.not_lt_zero
def cq_:=@List.foldl_cons
def az_:=@Nat.zero_mul
def ch_:=@Nat.add_assoc
def bO_:=@Nat.mul_le_mul_right
def cn_:=@Nat.add_comm
def aj_:=@List.drop_drop
def Q0:=@List.take_append_drop
def m8:=@List.getElem?_cons_succ
def t1:=@List.getElem?_cons_zero
def T8:=@Nat.le_of_lt
def bY_:=@Nat.two_pow_add_eq_or_of_lt
def bH_:=@Nat.mod_eq_of_lt
def cc_:=@List.foldl_append
def bh_:=@Nat.pow_le_pow_right
def bm_:=@List.getElem_append_right
def W9:=@Nat.lt_irrefl
theorem h_ {p:Prop}(h:p):Hid p:=Lib.hid h
theorem b_ (w:World)(o:Obj):Below w.heap.size w (w.alloc o):=(z_ _ _).alloc (w_ _) o
theorem v_ {α:Type}:(∀(l:List α) (i:Nat),l.toArray[i]?=l[i]?)/\(∀(a:α) (l:List α),(a :: l)[0]?=some a)/\(∀(a:α) (l:List α) (i:Nat),(a :: l)[i+1]?=l[i]?):=⟨λ_ _=>l7 ..,λ_ _=>rfl,λ_ _ _=>rfl⟩
theorem i_ {α:Type}{xs:Array α}{i:Nat}{b:α}(h:xs[i]?=some b):∃h:i<xs.size,xs[i]=b:=Array.getElem?_eq_some_iff.1 h
end Go.Proofs.YtdhapkeimaljfaaGreatDoor
namespace Go.Proofs.YtdhapkeimaljfaaGreatDoor
open Go Go.RowKit
section
variable {P:Program}
def xLw (ops:Array Oper)(n:Nat):Bool:=
 (List.range n).all λi=>match ops[i]? with
  |some o=>(o.after.all λe=>!Region.binds .any e||decide (e.on<i))&&(match o.guard with|none=>true|some (j,_)=>decide (j<n))
  |none=>false
theorem xKg {md:Region.Mode}{ops:Array Oper}{Q:Exit->Act->World->Prop}:∀(f:Nat) (listed:Array Bool) (a:Act) (w:World),wpAny P md ops Q f listed a w->wpAny P md ops Q (f+1) listed a w
 |0,_,_,_,h=>⟨λ_=>h.2,λi b=>by rw[h.1]at b;cases b⟩
 |f+1,_,_,_,h=>⟨h.1,λi b=>wpOp_mono (λa' w' c=>xKg f _ a' w' c) (h.2 i b)⟩
theorem xKf {md:Region.Mode}{ops:Array Oper}{Q:Exit->Act->World->Prop}{listed:Array Bool}{a:Act}{w:World}{f:Nat}(h:wpAny P md ops Q f listed a w):∀k,wpAny P md ops Q (k+f) listed a w
 |0=>by simpa using h
 |k+1=>by rw[show k+1+f=(k+f)+1 by omega];exact xKg _ _ _ _ (xKf h k)
theorem xBy {ops:Array Oper}{n i:Nat}(h:xLw ops n=true)(a:i<n):∃o,ops[i]?=some o/\(∀e∈o.after,Region.binds .any e=true->e.on<i)/\(∀j b,o.guard=some (j,b)->j<n):=by
 have h1:=O1.1 h i (aB_.2 a);split at h1
 ·rename_i o ho;simp only[A0,B3,ac_,U3,decide_eq_true_eq]at h1;grind
 ·cases h1
theorem xBz {x y:Array Bool}{i:Nat}{d:Bool}(h:x[i]?=y[i]?):x.getD i d=y.getD i d:=by simp[h]
theorem xUp {ops:Array Oper}{n:Nat}{listed:Array Bool}(c:xLw ops n=true)(f:listed.size=n):∀(m:Nat),m<n->listed.getD m true=false->∃i,i<n/\i∈Region.ready .any ops listed:=by
 intro m;induction m using Nat.strongRecOn with
 |_ m ih=>
  intro a b;obtain⟨o,ho,d,_⟩:=xBy c a;by_cases hall:∀e∈o.after,Region.binds .any e=true->listed.getD e.on false=true
  ·exact⟨m,a,mem_ready.2 ⟨b,o,ho,hall⟩⟩
  grind
variable {C:World->Prop}
theorem xKz {l:List Oper}{n i:Nat}{listed listed':Array Bool}(h:xLw l.toArray n=true)(c:∀j,j<n->listed'[j]?=listed[j]?)(d:i<n):
  i∈Region.ready .any (l.take n).toArray listed'↔i∈Region.ready .any l.toArray listed:=by
 have m:(l.take n).toArray[i]?=l.toArray[i]?:=by simp[d]
 have k:listed'.getD i true=listed.getD i true:=xBz (c i d);rw[mem_ready,mem_ready,m,k];obtain⟨o,ho,g,_⟩:=xBy h d;constructor
 ·rintro ⟨h1,o',f,hall⟩;refine⟨h1,o',f,λe a b=>?_⟩;have:o'=o:=by grind
  subst this;rw[<-xBz (c e.on (by have:=g e a b;omega))];exact hall e a b
 ·rintro ⟨h1,o',f,hall⟩;refine⟨h1,o',f,λe a b=>?_⟩;have:o'=o:=by grind
  subst this;rw[xBz (c e.on (by have:=g e a b;omega))];exact hall e a b
theorem xSy {l:List Oper}{n i:Nat}{o:Oper}(e:xLw l.toArray n=true)(c:i<n)(ho:l.toArray[i]?=some o)(t:Array Value):
  Region.wanted o (yielded (l.take n).toArray t)=Region.wanted o (yielded l.toArray t):=by
 obtain⟨o',g,_,d⟩:=xBy e c;have:o'=o:=by grind
 subst this;unfold Region.wanted;cases hq:o'.guard with
 |none=>rfl
 |some x=>
  obtain⟨j,b⟩:=x;have a:=d j b hq;have f:(l.take n).toArray[j]?=l.toArray[j]?:=by simp[a]
  simp only[yielded,f]
theorem yJu {l:List Oper}{n:Nat}{Q:Exit->Act->World->Prop}(v:n<l.length)(hs:Region.sinkB .any l.toArray n=true)(z:Region.chainB .any l.toArray n=true)(k:xLw l.toArray n=true)
  (u:Region.seqB .any l.toArray (l.length-n) n ((Array.replicate n true)++(Array.replicate (l.length-n) false))=true):
  ∀(f:Nat) (listed listed':Array Bool) (a:Act) (w:World),HeadInv .any l.toArray n listed->listed'.size=n->(∀j,j<n->listed'[j]?=listed[j]?)->C w ->
   wpAnyQ P .any (l.take n).toArray C (λa'=>∀w',C w'->wpList P l.toArray Q (l.drop n) a' w') f listed' a->wpAny P .any l.toArray Q (f+(l.length-n)) listed a w:=by
 have done:∀(listed listed':Array Bool) (a:Act) (w:World),HeadInv .any l.toArray n listed->listed'.size=n->(∀j,j<n->listed'[j]?=listed[j]?)->Region.ready .any (l.take n).toArray listed'=[] ->
   wpList P l.toArray Q (l.drop n) a w->wpAny P .any l.toArray Q (l.length-n) listed a w:=by
  intro listed listed' a w inv m d q h;have H:xLw (l.take n).toArray n=true:=by
   refine O1.2 λi e=>?_
   have G:i<n:=by grind
   have h1:=O1.1 k i e;grind
  have hall:∀i,i<n->listed[i]?=some true:=by
   intro i e;have b:i<listed.size:=by grind
   cases hv:listed[i] with
   |true=>rw[aK_ b,hv]
   |false=>
    have F:listed'.getD i true=false:=by rw[xBz (d i e)];simp[b,hv]
    grind [xUp]
  have heq:listed=(Array.replicate n true)++(Array.replicate (l.length-n) false):=by
   apply Array.ext_getElem?;intro i;by_cases e:i<n
   ·grind
   ·by_cases hi2:i<l.length
    ·have h1:=inv.tail i (by omega) (by simpa using hi2);have b:i<listed.size:=by grind
     have h2:listed[i]=false:=by simpa[b]using h1
     grind
    ·rw[bu_ (by rw[inv.size];simp;omega),bu_ (by simp;omega)]
  have:=wpAny_of_seq (P:=P) (md:=.any) (ops:=l.toArray) (Q':=Q) (l.drop n) n listed a w (λj=>by simp[ao_]) (by rw[E0,heq];exact u) h
  rwa [E0]at this
 intro f;induction f with
 |zero=>
  intro listed listed' a w inv m d p h;rw[m0];exact done listed listed' a w inv m d h.1 (h.2 w p)
 |succ f ih=>
  intro listed listed' a w inv m d p h;by_cases q:Region.ready .any (l.take n).toArray listed'=[]
  ·exact xKf (done listed listed' a w inv m d q (h.1 q w p)) (f+1)
  ·obtain⟨r,g⟩:=bl_ _ q;have t:r<n:=by
    obtain⟨_,o,ho,_⟩:=mem_ready.1 g;grind
   have s:=(xKz k d t).1 g;rw[show f+1+(l.length-n)=(f+(l.length-n))+1 by omega];refine⟨λy=>(by rw[y]at s;cases s),λi e=>?_⟩
   have c:i<n:=by
    rcases cl_ i n with h1|h1
    ·exact h1
    ·exact absurd e (tail_waits hs z (by simpa using v) inv (n-r) r rfl t (mem_ready.1 s).1 i h1)
   have hq:=h.2 i ((xKz k d c).2 e);obtain⟨o,ho,_,_⟩:=xBy k c;have B:(l.take n).toArray[i]?=some o:=by grind
   unfold qOp at hq;unfold wpOp;simp only[B]at hq;simp only[ho];rw[xSy k c ho]at hq
   have next:∀(a':Act) (w':World),C w'->wpAnyQ P .any (l.take n).toArray C (λa'=>∀w',C w'->wpList P l.toArray Q (l.drop n) a' w') f (listed'.setIfInBounds i true) a' ->
     wpAny P .any l.toArray Q (f+(l.length-n)) (listed.setIfInBounds i true) a' w':=λa' w' D A=>
    ih (listed.setIfInBounds i true) (listed'.setIfInBounds i true) a' w' (inv.set e c) (by simpa using m) (λj x=>by
     have h1:=d j x;have s1:i<listed'.size:=by omega
     have s2:i<listed.size:=by grind
     simp only[Array.getElem?_setIfInBounds,s1,s2,if_true,h1]) D A
   split
   ·rename_i E;rw[if_pos E]at hq;exact .inl (Oper.wp_of_quiet p next hq)
   grind
def htB (l:List Oper)(n:Nat):Bool:=
 decide (n<l.length)&&Region.sinkB .any l.toArray n&&Region.chainB .any l.toArray n&&xLw l.toArray n&&Region.lexB .any (l.take n).toArray
  && Region.seqB .any l.toArray (l.length-n) n ((Array.replicate n true)++(Array.replicate (l.length-n) false))
theorem xBo {id:Nat}{Q:Exit->Act->World->Prop}{a:Act}{w:World}{l:List Oper}(n:Nat)(C:World->Prop)(g:C w.drew)
  (h:wpQuiet P (l.take n).toArray C (λa'=>∀w',C w'->wpList P l.toArray Q (l.drop n) a' w') (l.take n) a) (d:P.follows .mixedOrders=true:=by kernel_rfl) (b:htB l n=true:=by kernel_rfl):(Code.region id l.toArray true).wp P Q a w:=by
 simp only[htB,A0,decide_eq_true_eq]at b;obtain⟨⟨⟨⟨⟨c,hs⟩,f⟩,e⟩,hl⟩,hq⟩:=b;simp only[Region.lexB,A0]at hl;have i:(l.take n).length=n:=by simp;omega
 refine wp_region_any d ?_;have h1:=wpAnyQ_lex (P:=P) (C:=C) (md:=.any) hl.1 (l.take n) 0 (Array.replicate (l.take n).toArray.size false) a (by simp) (by simpa using hl.2) h
 have h2:=yJu (P:=P) (C:=C) (Q:=Q) c hs f e hq (l.take n).length (Array.replicate l.toArray.size false) (Array.replicate (l.take n).toArray.size false) a w.drew
  ⟨by simp,λj oj _ hl=>(by rw[getD_replicate_false]at hl;cases hl),λt _ ht=>getD_in (by simpa using ht) (getD_replicate_false _ _)⟩
  (by simp;omega) (λj k=>by simp[show j<min n l.length by omega,show j<l.length by omega]) g h1
 rw[i,show n+(l.length-n)=l.toArray.size by simp;omega]at h2;exact h2
end
def xf (w:World):Type:={ w':World // Below w.heap.size w w' }
instance {w:World}:CoeOut (xf w) World:=⟨Subtype.val⟩
instance {w:World}:Nonempty (xf w):=⟨⟨w,z_ _ _⟩⟩
theorem xf.cell {w:World}{a:Addr}{v:Value}(h:w.cell? a=some v)(z:xf w):z.1.cell? a=some v:=(z.2.cell (block_lt_of_cell h)).trans h
theorem xf.call {P:Program}{f:FuncId}{args:Array Value}{w:World}{z:xf w}{v:Value}
  (h:Calls P f args z.1 λe w'=>e=.returned v/\Below z.1.heap.size z.1 w'):Calls P f args z.1 λe w''=>e=.returned v/\∃z':xf w,w''=z'.1:=
 h.mono λ_ _ ⟨a,b⟩=>⟨a,⟨⟨_,z.2.trans (b.mono z.2.size)⟩,rfl⟩⟩
theorem xf.call_same {P:Program}{f:FuncId}{args:Array Value}{w:World}{z:xf w}{v:Value}
  (h:Calls P f args z.1 λe w'=>e=.returned v/\z.1=w'):Calls P f args z.1 λe w''=>e=.returned v/\∃z':xf w,w''=z'.1:=
 h.mono λ_ _ ⟨a,b⟩=>⟨a,z,b.symm⟩
end Go.Proofs.YtdhapkeimaljfaaGreatDoor
namespace Go.Proofs.YtdhapkeimaljfaaGreatDoor
open Go Go.RowKit
section
variable {P:Program} {ops:Array Oper} {C:World->Prop} {Q:Exit->Act->World->Prop}
theorem yAe {j:Nat}{oi oj:Oper}{v:Value}(o:ops[j]?=some oj)(p:oi.apart ops oj=true)(k:∀cs b,oi.op≠.select cs b)(l:∀cs b,oj.op≠.select cs b)
  {K:Act->World->Prop} {a:Act} {w:World} (hy:YieldsIn P ops C oi v a) (h:wpOp P ops (NoPanic Q) j K (a.put oi.dst v) w):
  wpOp P ops (NoPanic Q) j (λa' w'=>YieldsIn P ops C oi v a'/\K (a'.put oi.dst v) w') a w:=by
 obtain⟨h1,h2,h3⟩:=Oper.apart_spec p
 have keep:∀(a:Act),YieldsIn P ops C oi v a->∀u,YieldsIn P ops C oi v (a.put oj.dst u):=λa hy u=>
  hy.of_same (execOp_put oi k a oj.dst u h3) (wanted_put oi a oj.dst u h3)
 have keepD:∀d,YieldsIn P ops C oi v { a with defers:=d :: a.defers }:=λd=>hy.of_same rfl rfl
 unfold wpOp at *;simp only[o]at *;rw[wanted_put oj a oi.dst v h1]at h;split
 ·rename_i i;simp only[i,if_true]at h;rcases h with h|⟨m,q⟩
  case inr=>exact .inr ⟨by unfold Oper.asks at *;rw[execOp_put oj l a oi.dst v h1]at m;exact m,q⟩
  refine .inl ?_;unfold Oper.wp at *;rw[execOp_put oj l a oi.dst v h1]at h;generalize (execOp a.eval oj).run P w=r at *;cases r with
  |ok n w'=>
   cases n <;> simp only[Oper.upon]at h⊢
   case value u=>exact⟨keep a hy u,by rw[<-bv_ a v u h2];exact h⟩
   case skip=>exact⟨keep a hy _,by rw[<-bv_ a v undef h2];exact h⟩
   case defer d=>
    refine⟨keep _ (keepD d) _,?_⟩;rw[<-bv_ _ v undef h2,<-Act.put_defers];exact h
   case enter f args=>
    refine Calls.mono h λe w'' g=>?_
    cases e with
    |returned u=>exact⟨keep a hy u,by rw[<-bv_ a v u h2];exact g⟩
    |panicked c=>exact g.elim
    |outgrown=>exact g
   case row row args=>exact Rows.mono h λu w'' g=>⟨keep a hy u,by rw[<-bv_ a v u h2];exact g⟩
  |halt x w'=>
   cases x <;> simp only[Oper.upon]at h⊢
   case panic u=>exact h.elim
 ·rename_i i;simp only[i]at h;exact⟨keep a hy _,by rw[<-bv_ a v undef h2];exact h⟩
def zy (ops:Array Oper)(E:List Nat):List Oper:=E.map λi=>ops.getD i default
theorem xHp {i:Nat}{o:Oper}(h:ops[i]?=some o):ops.getD i default=o:=by simp[h]
theorem zG {K K':Act->Prop}(c:∀a,K a->K' a):∀(l:List Oper) (a:Act),wpQuiet P ops C K l a->wpQuiet P ops C K' l a
 |[],_,h=>c _ h
 |o :: l,a,h=>by
  unfold wpQuiet at *;split
  ·rename_i b;rw[if_pos b]at h;exact Oper.quiet_mono (zG c l) h
  ·rename_i b;rw[if_neg b]at h;exact zG c l _ h
theorem xL3 {i:Nat}{o:Oper}{K:Act->Prop}{l:List Oper}{a:Act}(b:ops[i]?=some o)(h:wpQuiet P ops C K (o :: l) a):∃v,YieldsIn P ops C o v a/\wpQuiet P ops C K l (a.put o.dst v):=
 yieldsIn_of_qOp b (by unfold qOp;simp only[b];exact h)
theorem xMj {i:Nat}{o:Oper}{K:Act->Prop}{l:List Oper}{a:Act}{v:Value}(b:ops[i]?=some o)(hy:YieldsIn P ops C o v a)(h:wpQuiet P ops C K l (a.put o.dst v)):wpQuiet P ops C K (o :: l) a:=by
 have:=hy.qOp b (K:=wpQuiet P ops C K l) h;unfold qOp at this;simp only[b]at this;exact this
theorem xCz {e:Nat}{oe:Oper}(f:ops[e]?=some oe)(i:∀(j:Nat) (o:Oper) cs b,ops[j]?=some o->o.op≠.select cs b){K:Act->Prop}:
  ∀(d c:List Nat) (a:Act),(∀x∈d,∃ox,ops[x]?=some ox/\ox.apart ops oe=true)->wpQuiet P ops C K (zy ops (d++e :: c)) a->qOp P ops C e (wpQuiet P ops C K (zy ops (d++c))) a
 |[],c,a,_,h=>by
  have g:zy ops (e :: c)=oe :: zy ops c:=by grind [zy,xHp]
  rw[E8,g]at h;rw[E8];unfold qOp;simp only[f];exact h
 |x :: d,c,a,hx,h=>by
  obtain⟨ox,k,l⟩:=hx x (by simp);have g:∀T,zy ops (x :: T)=ox :: zy ops T:=λT=>by unfold zy;rw[t8,xHp k]
  rw[L2,g]at h;obtain⟨v,hy,h2⟩:=xL3 k h;have ih:=xCz f i d c _ (λy hy=>hx y (by simp[hy])) h2;have:=qOp_put f l (λcs b=>i x ox cs b k) (λcs b=>i e oe cs b f) hy ih;refine qOp_mono (λa' h3=>?_) this;grind [xMj]
theorem xIa {r:Nat}{orr:Oper}(c:ops[r]?=some orr)(d:∀(j:Nat) (o:Oper) cs b,ops[j]?=some o->o.op≠.select cs b){K:Act->World->Prop}{w:World}:
  ∀(E:List Nat) (a:Act),(∀x∈E,∃ox,ops[x]?=some ox/\ox.apart ops orr=true)->wpQuiet P ops C (λa'=>wpOp P ops (NoPanic Q) r K a' w) (zy ops E) a ->
   wpOp P ops (NoPanic Q) r (λa' w'=>wpQuiet P ops C (λa''=>K a'' w') (zy ops E) a') a w
 |[],_,_,h=>h
 |x :: E,a,hx,h=>by
  obtain⟨ox,e,g⟩:=hx x (by simp);have f:zy ops (x :: E)=ox :: zy ops E:=by grind [zy,xHp]
  rw[f]at h;obtain⟨v,hy,h2⟩:=xL3 e h;have ih:=xIa c d E _ (λy hy=>hx y (by simp[hy])) h2;refine wpOp_mono (λa' w' h3=>?_) (yAe c g (λcs b=>d x ox cs b e) (λcs b=>d r orr cs b c) hy ih);grind [xMj]
def ancB (ops:Array Oper):Nat->Nat->Nat->Bool
 |0,_,_=>false
 |f+1,r,e=>match ops[r]? with
  |some o=>o.after.any λx=>Region.binds .any x&&(x.on==e||ancB ops f x.on e)
  |none=>false
def xIg (ops:Array Oper)(L:Array Bool):Prop:=∀j oj,ops[j]?=some oj->L.getD j false=true->∀e∈oj.after,Region.binds .any e=true->L.getD e.on false=true
theorem xCd {L:Array Bool}(b:xIg ops L):∀(f r e:Nat),(∀o,ops[r]?=some o->∀x∈o.after,Region.binds .any x=true->L.getD x.on false=true)->ancB ops f r e=true->L.getD e false=true
 |0,_,_,_,h=>by simp[ancB]at h
 |f+1,r,e,c,h=>by
  unfold ancB at h;split at h
  ·rename_i o ho;obtain⟨x,hx,a⟩:=bs_.1 h;simp only[A0,ac_,beq_iff_eq]at a;have h1:=c o ho x hx a.1;rcases a.2 with rfl|h2
   ·exact h1
   ·exact xCd b f x.on e (λo' d=>b x.on o' d h1) h2
  ·cases h
def uH (ops:Array Oper)(E:List Nat)(r:Nat):Bool:=!(E.all λe=>ancB ops ops.size r e)
def wpR (P:Program)(ops:Array Oper)(Q:Exit->Act->World->Prop)(C:World->Prop)(E:List Nat):List Nat->Act->World->Prop
 |[],a,w=>Q .normal a w
 |r :: rest,a,w=>wpOp P ops (NoPanic Q) r (λa' w'=>(uH ops E r=true->C w')/\wpR P ops Q C E rest a' w') a w
def kM (o:Oper):Bool:=match o.op with
 |.move _|.assign _|.pick ..|.convert ..|.load ..|.fieldAddr ..|.field ..|.index ..|.indexAddr ..|.binOp ..|.unOp ..|.slice ..|.extract ..|.build ..|.lookup ..|.nilCheck _=>false
 |_=>true
theorem vw {s:Sem Value}{w w':World}{f:FuncId}{args:Array Value}(h:Sem.run P (do pure (Next.value (<-s))) w=.ok (.enter f args) w'):False:=by
 rw[G9]at h;generalize s.run P w=r at h;cases r with
 |ok v w1=>simp[Result.andThen]at h
 |halt x w1=>simp[Result.andThen]at h
theorem jC {w w':World}{f:FuncId}{args:Array Value}(h:Sem.run P (runtimePanic (α:=Next) .nilDeref) w=.ok (.enter f args) w'):False:=by
 simp[runtimePanic,goPanic,G9,run_program]at h
theorem xEz {o:Oper}{ρ:Operand->Value}{w w':World}{f:FuncId}{args:Array Value}(e:kM o=false)(h:(execOp ρ o).run P w=.ok (.enter f args) w'):False:=by
 obtain⟨d,op,ty,pos,af,g⟩:=o;cases op <;> simp only[kM,Bool.true_eq_false]at e
 case move x=>simp[execOp]at h
 case assign x=>simp[execOp]at h
 case pick c a b=>
  simp only[execOp,G9]at h;generalize (asBool (ρ c)).run P w=r at h;cases r with
  |ok v w1=>simp[Result.andThen]at h
  |halt x w1=>simp[Result.andThen]at h
 case nilCheck x=>
  simp only[execOp]at h;split at h
  ·exact jC h
  ·exact jC h
  ·exact jC h
  ·split at h
   ·exact jC h
   ·rename_i t v;simp only[G9,run_program,t2]at h;generalize (nilAhead _ _ _ _).run P w=r at h;cases r with
    |ok b w1=>
     simp only[t2]at h;by_cases hb:(b != some false)=true
     ·simp_all
     ·simp_all
    |halt x w1=>simp[Result.andThen]at h
   ·simp at h
  ·simp at h
 all_goals exact vw h
def xB5 (f:Nat->Nat->Bool):List Nat->Bool
 |[]=>true
 |x :: l=>l.all (f x)&&xB5 f l
theorem kI {f:Nat->Nat->Bool}:∀{l:List Nat},xB5 f l=true->l.Pairwise λx y=>f x y=true
 |[],_=>.nil
 |x :: l,h=>by
  simp only[xB5,A0,O1]at h;exact .cons h.1 (kI h.2)
def jX (ops:Array Oper):List Nat->Bool
 |r :: s :: l=>Region.waitsFor .any ops s r&&jX ops (s :: l)
 |_=>true
def xAv (ops:Array Oper)(y e:Nat):Bool:=Region.waitsFor .any ops e y||(match ops[y]?,ops[e]? with|some oy,some oe=>oy.apart ops oe|_,_=>false)
def uF (ops:Array Oper)(l:List Nat)(e:Nat):Bool:=match ops[e]? with
 |some o=>o.after.all λx=>!Region.binds .any x||(l.contains x.on&&x.on != e)
 |none=>false
def mixB (ops:Array Oper)(E R:List Nat):Bool:=
 Region.noSelect ops&&decide ((E++R).Nodup)&&decide (E.length+R.length=ops.size)&&((List.range ops.size).all λi=>E.contains i||R.contains i)
 && E.all (uF ops E)&&xB5 (λy e=>!Region.waitsFor .any ops y e&&xAv ops y e) E
 && R.all (uF ops (E++R))&&xB5 (λr s=>!Region.waitsFor .any ops r s) R&&jX ops R
 && (R.all λr=>E.all λy=>xAv ops y r)
 && (E.all λe=>match ops[e]? with|some o=>!kM o||(match R with|r :: _=>ancB ops ops.size r e|[]=>true)|none=>false)
def unl (L:Array Bool)(i:Nat):Bool:=!L.getD i true
theorem xA0 {r e:Nat}{o:Oper}(ho:ops[r]?=some o){x:Edge}(hx:x∈o.after)(b:Region.binds .any x=true)(a:x.on=e):Region.waitsFor .any ops r e=true:=by
 unfold Region.waitsFor;grind [Array.any_eq_true'.2]
theorem zE {L:Array Bool}{i x:Nat}(b:i∈Region.ready .any ops L)(hx:L.getD x true=false):Region.waitsFor .any ops i x=false:=by
 cases h:Region.waitsFor .any ops i x with
 |false=>rfl
 |true=>
  obtain⟨o,ho,e,c,d,a⟩:=Region.waitsFor_spec h;obtain⟨_,o',f,hall⟩:=mem_ready.1 b;grind
theorem xFl:∀{r:Nat} {l:List Nat},jX ops (r :: l)=true->∀i∈l,∃p∈r :: l,Region.waitsFor .any ops i p=true
 |_,[],_,i,a=>by cases a
 |r,s :: l,h,i,a=>by
  simp only[jX,A0]at h;rcases g8.1 a with rfl|a
  ·exact⟨r,by simp,h.1⟩
  ·obtain⟨p,c,b⟩:=xFl h.2 i a;grind
theorem xCb:∀(Rd R':List Nat),jX ops (Rd++R')=true->jX ops R'=true
 |[],_,h=>h
 |[r],[],_=>rfl
 |[r],s :: l,h=>by simp only[L2,E8,jX,A0]at h;exact h.2
 |r :: s :: Rd,R',h=>by
  simp only[L2,jX,A0]at h;exact xCb (s :: Rd) R' h.2
theorem xFf {L:Array Bool}{e:Nat}{E b a:List Nat}(f:e<L.size)(j:E.Nodup)(h:E.filter (unl L)=b++e :: a):E.filter (unl (L.setIfInBounds e true))=b++a:=by
 have h1:E.filter (unl (L.setIfInBounds e true))=(E.filter (unl L)).filter (λi=>i != e):=by
  rw[List.filter_filter];apply List.filter_congr;intro i _;by_cases c:i=e
  ·subst c;simp[unl,f]
  ·have:(L.setIfInBounds e true).getD i true=L.getD i true:=getD_set_ne true (bX_ c);grind [unl]
 have d:(b++e :: a).Nodup:=by grind
 rw[h1,h,bZ_,List.filter_cons];simp only[bne_self_eq_false,av_,if_false];rw[M6]at d;obtain⟨n1,n2,g⟩:=d;rw[aG_.2,aG_.2]
 ·grind
 grind
theorem kR {L:Array Bool}{r:Nat}{E:List Nat}(a:r∉E):E.filter (unl (L.setIfInBounds r true))=E.filter (unl L):=by
 apply List.filter_congr;intro i b;have:(L.setIfInBounds r true).getD i true=L.getD i true:=getD_set_ne true (by rintro rfl;exact a b);simp only[unl,this]
theorem xA4 {X:Prop}{Y:Act->Prop}:∀(l:List Oper) (a:Act),wpQuiet P ops C (λa=>X/\Y a) l a->X
 |[],_,h=>h.1
 |o :: l,a,h=>by
  unfold wpQuiet at h;split at h
  ·obtain⟨v,_,h2⟩:=h;exact xA4 l _ h2
  ·exact xA4 l _ h
theorem xKk {e:Nat}{o:Oper}{K:Act->Prop}{K':Act->World->Prop}{a:Act}{w:World}(g:ops[e]?=some o)(k:kM o=false)(i:C w)(c:∀a',K a'->K' a' w)(h:qOp P ops C e K a):
  wpOp P ops (NoPanic Q) e K' a w:=by
 unfold qOp at h;unfold wpOp;simp only[g]at h⊢;split
 ·rename_i d;rw[if_pos d]at h;refine .inl ?_;obtain⟨v,hv,b⟩:=h;have h1:=hv w i;unfold Oper.quietAt at h1;unfold Oper.wp;generalize j:(execOp a.eval o).run P w=r at *;cases r with
  |ok n w'=>
   cases n <;> simp only[Oper.quietUpon]at h1 <;> simp only[Oper.upon]
   case value u=>obtain⟨rfl,rfl⟩:=h1;exact c _ b
   case skip=>obtain⟨rfl,rfl⟩:=h1;exact c _ b
   case enter f args=>
    grind [xEz]
  |halt x w'=>exact h1.elim
 ·grind
def xBt (ops:Array Oper)(R:List Nat):List Nat:=R.filter λr=>R.all λs=>!Region.waitsFor .any ops r s
def wpF (P:Program)(ops:Array Oper)(Q:Exit->Act->World->Prop)(C:World->Prop)(E:List Nat):Nat->List Nat->Act->World->Prop
 |0,_,a,w=>Q .normal a w
 |n+1,R,a,w=>∀r∈xBt ops R,wpOp P ops (NoPanic Q) r (λa' w'=>(uH ops E r=true->C w')/\wpF P ops Q C E n (R.erase r) a' w') a w
theorem xVl {b a:List Nat}{r:Nat}(h:(b++r :: a).Nodup):(b++r :: a).erase r=b++a:=by grind
theorem xO4 {E:List Nat}:∀(R:List Nat) (a:Act) (w:World),R.Nodup->jX ops R=true->xB5 (λr s=>!Region.waitsFor .any ops r s) R=true->wpR P ops Q C E R a w->wpF P ops Q C E R.length R a w
 |[],_,_,_,_,_,h=>h
 |r :: R,a,w,d,e,b,h=>by
  intro i c;unfold xBt at c;rw[au_,O1]at c;have f:i=r:=by grind [List.mem_cons.1,xFl]
  subst f;rw[List.erase_cons_head];unfold wpR at h;rw[U0]at d;refine wpOp_mono (λa' w' h3=>⟨h3.1,xO4 R a' w' d.2 (xCb [i] R e) ?_ h3.2⟩) h;simp only[xB5,A0]at b;exact b.2
theorem xBp {E:List Nat}{n:Nat}(R:List Nat){a:Act}{w:World}(h:wpR P ops Q C E R a w)(c:R.length=n:=by rfl)(e:decide R.Nodup=true:=by kernel_rfl)(d:jX ops R=true:=by kernel_rfl)(b:xB5 (λr s=>!Region.waitsFor .any ops r s) R=true:=by kernel_rfl):wpF P ops Q C E n R a w:=by
 subst c;exact xO4 R a w (of_decide_eq_true e) d b h
def QnF (P:Program)(ops:Array Oper)(Q:Exit->Act->World->Prop)(C:World->Prop)(E:List Nat)(n:Nat)(rest:List Nat)(b:Bool):Exit->Act->World->Prop
 |.normal,a,w=>(b=true->C w)/\wpF P ops Q C E n rest a w
 |.panic _,_,_=>False
 |e,a,w=>Q e a w
theorem yIs {E R rest:List Nat}{n r:Nat}{o:Oper}{a:Act}{w:World}(b:Bool)(k:ops[r]?=some o)(l:uH ops E r=b)(g:R.erase r=rest)(h:wpList P ops (QnF P ops Q C E n rest b) [o] a w):
  wpOp P ops (NoPanic Q) r (λa' w'=>(uH ops E r=true->C w')/\wpF P ops Q C E n (R.erase r) a' w') a w:=by
 subst g;unfold wpOp;simp only[k];unfold wpList at h;have hl:LetsOut (QnF P ops Q C E n (R.erase r) b)->LetsOut (NoPanic Q):=λ⟨a,w,h⟩=>⟨a,w,h⟩
 have i:∀a' w',wpList P ops (QnF P ops Q C E n (R.erase r) b) [] a' w'->(uH ops E r=true->C w')/\wpF P ops Q C E n (R.erase r) a' w':=λa' w' m=>by
  rw[l];exact m
 split
 ·rename_i j;rw[if_pos j]at h;rcases h with h|⟨h1,h2⟩
  ·refine .inl ?_;unfold Oper.wp at *;generalize (execOp a.eval o).run P w=r at *;cases r with
   |ok n w'=>
    cases n <;> simp only[Oper.upon]at h⊢
    case value u=>exact i _ _ h
    case skip=>exact i _ _ h
    case defer d=>exact i _ _ h
    case enter f args=>
     refine Calls.mono h λe w'' g=>?_
     cases e with
     |returned u=>exact i _ _ g
     |panicked c=>exact g
     |outgrown=>exact hl g
    case row row args=>exact Rows.mono h λu w'' g=>i _ _ g
   |halt x w'=>cases x <;> simp only[Oper.upon]at h⊢<;> exact h
  ·exact .inr ⟨h1,hl h2⟩
 ·grind
theorem xH9 {E R rest:List Nat}{n r:Nat}{a:Act}{w:World}(b:Bool)(d:R.erase r=rest)(h:wpList P ops (QnF P ops Q C E n rest b) (zy ops [r]) a w)(c:decide (r<ops.size)=true:=by kernel_rfl)(e:uH ops E r=b:=by kernel_rfl):
  wpOp P ops (NoPanic Q) r (λa' w'=>(uH ops E r=true->C w')/\wpF P ops Q C E n (R.erase r) a' w') a w:=
 yIs b (o:=ops.getD r default) (by simp[of_decide_eq_true c]) e d h
theorem yGv {E R:List Nat}{n r:Nat}{a:Act}{w:World}(c:xBt ops R=[r])
  (h1:wpOp P ops (NoPanic Q) r (λa' w'=>(uH ops E r=true->C w')/\wpF P ops Q C E n (R.erase r) a' w') a w):wpF P ops Q C E (n+1) R a w:=by
 intro i b;rw[c,S_]at b;subst b;exact h1
theorem yGu {E R:List Nat}{n r s:Nat}{a:Act}{w:World}(c:xBt ops R=[r,s])
  (h1:wpOp P ops (NoPanic Q) r (λa' w'=>(uH ops E r=true->C w')/\wpF P ops Q C E n (R.erase r) a' w') a w)
  (h2:wpOp P ops (NoPanic Q) s (λa' w'=>(uH ops E s=true->C w')/\wpF P ops Q C E n (R.erase s) a' w') a w):wpF P ops Q C E (n+1) R a w:=by
 intro i b;rw[c]at b;rcases g8.1 b with rfl|b
 ·exact h1
 ·grind
theorem uf {E R:List Nat}{n:Nat}{a:Act}{w:World}(r:Nat)(b:Bool)(h:wpList P ops (QnF P ops Q C E n (R.erase r) b) (zy ops [r]) a w)(c:xBt ops R=[r]:=by kernel_rfl)(hl:decide (r<ops.size)=true:=by kernel_rfl)(d:uH ops E r=b:=by kernel_rfl):wpF P ops Q C E (n+1) R a w:=
 yGv c (xH9 b rfl h hl d)
theorem uZ {E R:List Nat}{n:Nat}{a:Act}{w:World}(r s:Nat)(b c:Bool)(h:wpList P ops (QnF P ops Q C E n (R.erase r) b) (zy ops [r]) a w)(k:wpList P ops (QnF P ops Q C E n (R.erase s) c) (zy ops [s]) a w)(d:xBt ops R=[r,s]:=by kernel_rfl)(hl:decide (r<ops.size)=true:=by kernel_rfl)(e:uH ops E r=b:=by kernel_rfl)(kl:decide (s<ops.size)=true:=by kernel_rfl)(kb:uH ops E s=c:=by kernel_rfl):wpF P ops Q C E (n+1) R a w:=
 yGu d (xH9 b rfl h hl e) (xH9 c rfl k kl kb)
def j6 (o:Oper):Bool:=match o.op with
 |.call c=>(match c.callee with|.builtin .len=>false|.builtin .min=>false|_=>true)
 |.convert ..=>false
 |_=>kM o
theorem xMe {o:Oper}{ρ:Operand->Value}{w w':World}{f:FuncId}{args:Array Value}(a:j6 o=false)(h:(execOp ρ o).run P w=.ok (.enter f args) w'):False:=by
 obtain⟨d,op,ty,pos,af,g⟩:=o;cases op
 case call c=>
  obtain⟨callee,xs,ats⟩:=c;cases callee with
  |builtin b=>
   cases b <;> simp only[j6,Bool.true_eq_false]at a
   ·exact vw (s:=Builtin.len_ ats ty (xs.map ρ)) h
   ·exact vw (s:=Builtin.min_ ats ty (xs.map ρ)) h
  |invoke r n=>simp[j6]at a
  |value x=>simp[j6]at a
 case convert s t x=>exact vw h
 all_goals exact xEz (by simpa only[j6]using a) h
theorem xK0 {e:Nat}{o:Oper}{K:Act->Prop}{K':Act->World->Prop}{a:Act}{w:World}(g:ops[e]?=some o)(k:j6 o=false)(i:C w)(c:∀a',K a'->K' a' w)(h:qOp P ops C e K a):
  wpOp P ops (NoPanic Q) e K' a w:=by
 unfold qOp at h;unfold wpOp;simp only[g]at h⊢;split
 ·rename_i d;rw[if_pos d]at h;refine .inl ?_;obtain⟨v,hv,b⟩:=h;have h1:=hv w i;unfold Oper.quietAt at h1;unfold Oper.wp;generalize j:(execOp a.eval o).run P w=r at *;cases r with
  |ok n w'=>
   cases n <;> simp only[Oper.quietUpon]at h1 <;> simp only[Oper.upon]
   case value u=>obtain⟨rfl,rfl⟩:=h1;exact c _ b
   case skip=>obtain⟨rfl,rfl⟩:=h1;exact c _ b
   case enter f args=>
    grind [xMe]
  |halt x w'=>exact h1.elim
 ·grind
def xM1 (ops:Array Oper)(E R:List Nat):Bool:=
 Region.noSelect ops&&decide ((E++R).Nodup)&&decide (E.length+R.length=ops.size)&&((List.range ops.size).all λi=>E.contains i||R.contains i)
 && E.all (uF ops E)&&xB5 (λy e=>!Region.waitsFor .any ops y e&&xAv ops y e) E
 && R.all (uF ops (E++R))&&xB5 (λr s=>!Region.waitsFor .any ops r s) R
 && (R.all λr=>E.all λy=>xAv ops y r)
 && (E.all λe=>match ops[e]? with|some o=>!j6 o|none=>false)
theorem xY3 {E R:List Nat}(hB:xM1 ops E R=true):∀(n:Nat) (L:Array Bool) (a:Act) (w:World),L.size=ops.size->xIg ops L ->
  (E.filter (unl L)).length+(R.filter (unl L)).length=n->(E.filter (unl L)≠[]->C w) ->
  wpQuiet P ops C (λa'=>wpF P ops Q C E (R.filter (unl L)).length (R.filter (unl L)) a' w) (zy ops (E.filter (unl L))) a->wpAny P .any ops (NoPanic Q) n L a w:=by
 simp only[xM1,A0,decide_eq_true_eq,O1]at hB;obtain⟨⟨⟨⟨⟨⟨⟨⟨⟨gI,cj⟩,an⟩,W⟩,Dp⟩,mK⟩,Aa⟩,ff⟩,tr⟩,nh⟩:=hB;have gH:=Region.noSelect_spec gI;have i4:=kI mK;have iT:=kI ff;have G_:E.Nodup:=by grind
 have LO:R.Nodup:=by grind
 have Ab:∀x,x∈E->x∈R->False:=by grind
 have bK:∀(l:List Nat) (e:Nat),uF ops l e=true->∃o,ops[e]?=some o/\∀x∈o.after,Region.binds .any x=true->x.on∈l/\x.on≠e:=by
  intro l e h;unfold uF at h;split at h
  ·rename_i o ho;refine⟨o,ho,λx hx g=>?_⟩;have h1:=(B3.1 h) x hx;grind
  ·cases h
 have i5:∀y e,xAv ops y e=true->Region.waitsFor .any ops e y=false->∃oy oe,ops[y]?=some oy/\ops[e]?=some oe/\oy.apart ops oe=true:=by
  intro y e h hw;unfold xAv at h;grind
 have hinE:∀x,x∈E->x<ops.size:=λx hx=>by grind
 have hinR:∀x,x∈R->x<ops.size:=λx hx=>by grind
 have k:∀(L:Array Bool) (l:List Nat) (x:Nat),x∈l.filter (unl L)↔x∈l/\L.getD x true=false:=λL l x=>by simp[au_,unl,U3]
 intro n;induction n with
 |zero=>
  intro L a w A U t _ h;have RK:E.filter (unl L)=[]:=aC_ (by omega);have KM:R.filter (unl L)=[]:=aC_ (by omega);rw[RK,KM]at h;refine⟨?_,?_⟩
  ·rw[bG_];intro i u;obtain⟨h1,o,ho,_⟩:=mem_ready.1 u;have M:=(i_ ho).1;have b:=W i (aB_.2 M);grind
  ·exact h
 |succ n ih=>
  intro L a w A U t S7 h;have mL:Region.ready .any ops L≠[]:=by
   cases hE':E.filter (unl L) with
   |cons e T=>
    have q:=(k L E e).1 (by rw[hE'];simp);obtain⟨o,ho,O⟩:=bK E e (Dp e q.1);have m:=i4.filter (p:=unl L);rw[hE']at m
    have:e∈Region.ready .any ops L:=mem_ready.2 ⟨q.2,o,ho,λx hx g=>by
     obtain⟨Y,V⟩:=O x hx g;cases hlx:L.getD x.on false with
     |true=>rfl
     |false=>
      exfalso;have D:x.on∈E.filter (unl L):=by grind
      rw[hE']at D;rcases g8.1 D with h1|h1
      ·exact V h1
      ·have h2:=(aV_.1 m).1 _ h1;simp only[A0,U3]at h2;rw[xA0 ho hx g rfl]at h2;cases h2.1⟩
    grind
   |nil=>
    cases hR':R.filter (unl L) with
    |nil=>rw[hE',hR']at t;simp at t
    |cons r rest=>
     have hr:=(k L R r).1 (by rw[hR'];simp);obtain⟨o,ho,O⟩:=bK (E++R) r (Aa r hr.1);have m:=iT.filter (p:=unl L);rw[hR']at m
     have:r∈Region.ready .any ops L:=mem_ready.2 ⟨hr.2,o,ho,λx hx g=>by
      obtain⟨Y,V⟩:=O x hx g;cases hlx:L.getD x.on false with
      |true=>rfl
      |false=>
       exfalso;rcases m3.1 Y with h1|h1
       ·have:x.on∈E.filter (unl L):=by grind
        grind
       ·have D:x.on∈R.filter (unl L):=by grind
        rw[hR']at D;rcases g8.1 D with h3|h3
        ·exact V h3
        ·have h4:=(aV_.1 m).1 _ h3;simp only[U3]at h4;rw[xA0 ho hx g rfl]at h4;cases h4⟩
     grind
  refine⟨λh0=>absurd h0 mL,λi u=>?_⟩;obtain⟨E7,oi,d,hall⟩:=mem_ready.1 u;have J:=(i_ d).1;have gJ:xIg ops (L.setIfInBounds i true):=λj oj hj hl e q g=>by
   by_cases hij:i=j
   ·subst hij;have:oj=oi:=G0 (hj.symm.trans d);subst this;exact getD_set_true (hall e q g)
   ·rw[getD_set_ne false hij]at hl;exact getD_set_true (U j oj hj hl e q g)
  have b:=W i (aB_.2 J);simp only[ac_,Y2]at b;rcases b with b|b
  ·
   have G:i∈E.filter (unl L):=(k L E i).2 ⟨b,E7⟩;obtain⟨E1,E2,c⟩:=aW_ G;have Dq:i∉R:=λz=>Ab i b z
   have m:=i4.filter (p:=unl L);rw[c]at m h;have S:∀x∈E1,∃ox,ops[x]?=some ox/\ox.apart ops oi=true:=by
    intro x hx;have h2:=(aM_.1 m).2.2 x hx i (by simp);simp only[A0,U3]at h2;have S8:L.getD x true=false:=((k L E x).1 (by rw[c];simp[hx])).2;obtain⟨oy,oe,h3,h4,N⟩:=i5 x i h2.2 (zE u S8);have:oe=oi:=G0 (h4.symm.trans d);subst this;exact⟨oy,h3,N⟩
   have hq:=xCz d gH E1 E2 a S h;have v:=xFf (by rw[A];exact J) G_ c;have B:=kR (L:=L) Dq;have tt:C w:=S7 (by rw[c];simp);have bU:j6 oi=false:=by
    have:=nh i b;rw[d]at this;simpa using this
   refine xK0 d bU tt (λa' z=>?_) hq;refine ih (L.setIfInBounds i true) a' w (by simpa using A) gJ ?_ (λ_=>tt) ?_
   ·rw[v,B];rw[c]at t;simp only[b6,x5]at t⊢;omega
   ·rw[v,B];exact z
  ·
   have S9:i∉E:=λz=>Ab i z b
   have G:i∈R.filter (unl L):=(k L R i).2 ⟨b,E7⟩;obtain⟨I,H,c⟩:=aW_ G;have S:∀x∈E.filter (unl L),∃ox,ops[x]?=some ox/\ox.apart ops oi=true:=by
    intro x hx;have Z:=(k L E x).1 hx;have h2:=tr i b x Z.1;obtain⟨oy,oe,h3,h4,N⟩:=i5 x i h2 (zE u Z.2);have:oe=oi:=G0 (h4.symm.trans d);subst this;exact⟨oy,h3,N⟩
   have K:i∈xBt ops (R.filter (unl L)):=by
    unfold xBt;rw[au_,O1];refine⟨G,λs hs=>?_⟩;rw[zE u ((k L R s).1 hs).2];rfl
   have di:(R.filter (unl L)).length=(I++H).length+1:=by rw[c];simp;omega
   have cK:(R.filter (unl L)).erase i=I++H:=by
    rw[c];exact xVl (by rw[<-c];exact LO.filter _)
   have h1:wpQuiet P ops C (λa'=>wpOp P ops (NoPanic Q) i (λa' w'=>(uH ops E i=true->C w')/\wpF P ops Q C E (I++H).length (I++H) a' w') a' w) (zy ops (E.filter (unl L))) a:=by
    refine zG (λa'' F=>?_) _ _ h;rw[di]at F;have:=F i K;rw[cK]at this;exact this
   have h2:=xIa d gH (E.filter (unl L)) a S h1;have v:=kR (L:=L) S9;have B:=xFf (by rw[A];exact J) LO c;have sB:E.filter (unl L)≠[]->uH ops E i=true:=by
    intro f;cases hq:uH ops E i with
    |true=>rfl
    |false=>
     exfalso;unfold uH at hq;simp only[Bool.not_eq_false',O1]at hq;obtain⟨e,q⟩:=bl_ _ f;have X:=(k L E e).1 q
     have h4:=xCd U ops.size i e (λo ho=>by
      have:o=oi:=G0 (ho.symm.trans d);subst this;exact hall) (hq e X.1)
     rw[getD_both X.2]at h4;cases h4
   refine wpOp_mono (λa' w' h3=>?_) h2;refine ih (L.setIfInBounds i true) a' w' (by simpa using A) gJ ?_ (λf=>?_) ?_
   ·rw[v,B];rw[di]at t;omega
   ·rw[v]at f;exact(xA4 _ _ h3) (sB f)
   ·rw[v,B];exact zG (λa'' F=>F.2) _ _ h3
theorem zh {id:Nat}{a:Act}{w:World}(E R:List Nat)(n:Nat)(C:World->Prop)(k:C w.drew)
  (h:wpQuiet P ops C (λa'=>wpF P ops Q C E n R a' w.drew) (zy ops E) a) (g:P.follows .mixedOrders=true:=by kernel_rfl) (d:xM1 ops E R=true:=by kernel_rfl) (f:R.length=n:=by rfl):(Code.region id ops true).wp P Q a w:=by
 refine wp_region_noPanic (wp_region_any g ?_);have o:=d;simp only[xM1,A0,decide_eq_true_eq,O1]at d;obtain⟨⟨⟨⟨⟨⟨⟨⟨⟨v,y⟩,m⟩,r⟩,p⟩,u⟩,q⟩,x⟩,s⟩,t⟩:=d;have b:∀l i,uF ops l i=true->i<ops.size:=by grind [uF,Array.getElem?_eq_some_iff.1]
 have hall:E.filter (unl (Array.replicate ops.size false))=E:=by
  rw[aG_];intro i c;simp[unl,b E i (p i c)]
 have e:R.filter (unl (Array.replicate ops.size false))=R:=by
  rw[aG_];intro i c;simp[unl,b _ i (q i c)]
 refine xY3 o ops.size (Array.replicate ops.size false) a w.drew (by simp) (λj oj _ hl=>by rw[getD_replicate_false]at hl;cases hl) (by rw[hall,e];exact m) (λ_=>k) ?_;rw[hall,e,f];exact h
theorem xXw {o:Oper}(h:kM o=false):j6 o=false:=by grind [j6,kM]
theorem xz {id:Nat}{a:Act}{w:World}(E R:List Nat)(C:World->Prop)(l:C w.drew)
  (h:wpQuiet P ops C (λa'=>wpR P ops Q C E R a' w.drew) (zy ops E) a) (k:P.follows .mixedOrders=true:=by kernel_rfl) (b:mixB ops E R=true:=by kernel_rfl) (s:(E.all λe=>match ops[e]? with|some o=>!kM o|none=>false)=true:=by kernel_rfl):(Code.region id ops true).wp P Q a w:=by
 simp only[mixB,A0]at b;obtain⟨⟨⟨⟨⟨⟨⟨⟨⟨⟨m,d⟩,p⟩,f⟩,q⟩,i⟩,r⟩,c⟩,j⟩,g⟩,_⟩:=b;have n:(E.all λe=>match ops[e]? with|some o=>!j6 o|none=>false)=true:=by grind [List.all_eq_true,xXw]
 refine zh E R R.length C l ?_ k (by simp only[xM1,A0];exact⟨⟨⟨⟨⟨⟨⟨⟨⟨m,d⟩,p⟩,f⟩,q⟩,i⟩,r⟩,c⟩,g⟩,n⟩) rfl;exact zG (λa' h3=>xBp R h3 rfl (decide_eq_true (M6.1 (of_decide_eq_true d)).2.1) j c) _ _ h
def Qn (P:Program)(ops:Array Oper)(Q:Exit->Act->World->Prop)(C:World->Prop)(E rest:List Nat)(b:Bool):Exit->Act->World->Prop
 |.normal,a,w=>(b=true->C w)/\wpR P ops Q C E rest a w
 |.panic _,_,_=>False
 |e,a,w=>Q e a w
theorem jI {E rest:List Nat}{r:Nat}{o:Oper}{a:Act}{w:World}(b:Bool)(k:ops[r]?=some o)(l:uH ops E r=b)(h:wpList P ops (Qn P ops Q C E rest b) [o] a w):wpR P ops Q C E (r :: rest) a w:=by
 unfold wpR wpOp;simp only[k];unfold wpList at h;have hl:LetsOut (Qn P ops Q C E rest b)->LetsOut (NoPanic Q):=λ⟨a,w,h⟩=>⟨a,w,h⟩
 have g:∀a' w',wpList P ops (Qn P ops Q C E rest b) [] a' w'->(uH ops E r=true->C w')/\wpR P ops Q C E rest a' w':=λa' w' m=>by
  rw[l];exact m
 split
 ·rename_i j;rw[if_pos j]at h;rcases h with h|⟨h1,h2⟩
  ·refine .inl ?_;unfold Oper.wp at *;generalize (execOp a.eval o).run P w=r at *;cases r with
   |ok n w'=>
    cases n <;> simp only[Oper.upon]at h⊢
    case value u=>exact g _ _ h
    case skip=>exact g _ _ h
    case defer d=>exact g _ _ h
    case enter f args=>
     refine Calls.mono h λe w'' i=>?_
     cases e with
     |returned u=>exact g _ _ i
     |panicked c=>exact i
     |outgrown=>exact hl i
    case row row args=>exact Rows.mono h λu w'' i=>g _ _ i
   |halt x w'=>cases x <;> simp only[Oper.upon]at h⊢<;> exact h
  ·exact .inr ⟨h1,hl h2⟩
 grind
theorem xSv {E:List Nat}:∀(R:List Nat) (a:Act) (w:World),(R.all λr=>!uH ops E r&&decide (r<ops.size))=true->wpList P ops (NoPanic Q) (zy ops R) a w->wpR P ops Q C E R a w
 |[],_,_,_,h=>h
 |r :: R,a,w,d,h=>by
  rw[cg_,A0]at d;obtain⟨c,i⟩:=d;rw[A0,U3,decide_eq_true_eq]at c;have f:ops[r]?=some (ops.getD r default):=by simp[c.2]
  unfold wpR wpOp;simp only[f];unfold zy at h;rw[t8]at h;unfold wpList at h
  have e:∀a' w',wpList P ops (NoPanic Q) (zy ops R) a' w'->(uH ops E r=true->C w')/\wpR P ops Q C E R a' w':=λa' w' g=>
   ⟨(λh1=>by rw[c.1]at h1;cases h1),xSv R a' w' i g⟩
  split
  ·rename_i b;rw[if_pos b]at h;exact h.imp (λh=>Oper.wp_mono e h) id
  ·rename_i b;rw[if_neg b]at h;exact e _ _ h
theorem yE {E R:List Nat}{a:Act}{w:World}(h:wpList P ops (NoPanic Q) (zy ops R) a w)(b:(R.all λr=>!uH ops E r&&decide (r<ops.size))=true:=by kernel_rfl):wpR P ops Q C E R a w:=xSv R a w b h
theorem zW {E R:List Nat}{n:Nat}{a:Act}{w:World}(h:wpList P ops (NoPanic Q) (zy ops R) a w)(c:R.length=n:=by rfl)(e:decide R.Nodup=true:=by kernel_rfl)(d:jX ops R=true:=by kernel_rfl)(b:xB5 (λr s=>!Region.waitsFor .any ops r s) R=true:=by kernel_rfl)(hq:(R.all λr=>!uH ops E r&&decide (r<ops.size))=true:=by kernel_rfl):wpF P ops Q C E n R a w:=
 xBp R (yE h hq) c e d b
end
theorem o_:(∀(ops:Array Oper) (R:List Nat),zy ops R=R.map λi=>ops.getD i default)/\(∀(f:Nat->Oper) (a:Nat) (l:List Nat),(a :: l).map f=f a :: l.map f)/\(∀f:Nat->Oper,([]:List Nat).map f=[])/\(∀(xs:Array Oper) (i:Nat) (d:Oper),xs.getD i d=xs[i]?.getD d)/\(∀(l:List Oper) (i:Nat),l.toArray[i]?=l[i]?)/\(∀(a:Oper) (l:List Oper),(a :: l)[0]?=some a)/\(∀(a:Oper) (l:List Oper) (i:Nat),(a :: l)[i+1]?=l[i]?)/\(∀a b:Oper,(some a).getD b=a):=
 ⟨λ_ _=>rfl,λ_ _ _=>rfl,λ_=>rfl,λ_ _ _=>Array.getD_eq_getD_getElem? ..,λ_ _=>l7 ..,λ_ _=>rfl,λ_ _ _=>rfl,λ_ _=>rfl⟩
end Go.Proofs.YtdhapkeimaljfaaGreatDoor
namespace Go.Proofs.YtdhapkeimaljfaaGreatDoor
open Go Go.RowKit Go.Proofs Tryz
def qu (c:UInt8):Bool:=decide ((c.toNat:Int)<32)||decide ((c.toNat:Int)=127)
def vx (s:List UInt8)(most:Int):Int:=if most<(s.length:Int)then 5 else if s.any qu then 6 else 0
def uS (n lo hi e:Int):Int:=if n<lo\/hi<n then e else 0
theorem ud {k a b}(h:a=b):Ending.returned (.int k a)=.returned (.int k b):=by rw[h]
theorem vG (s:ByteArray):s.data.toList.length=s.size:=rfl
theorem yAn (s:ByteArray)(k)(h:k<s.size):s.data.toList.take (k+1)=s.data.toList.take k++[s[k]]:=by
 rw[d0 (by simpa using h)];rfl
theorem yEi (s:ByteArray)(k)(h:k<s.size):s[k]∈s.data.toList:=by
 have e:s[k]=s.data.toList[k]'(by simpa using h):=rfl;grind
theorem xQ3 {s most}(h:most<(s.length:Int)):vx s most=5:=if_pos h
theorem xIk {s most}(h:(s.length:Int)<=most)(b:s.any qu=true):vx s most=6:=by grind [vx]
theorem xWq {s most}(h:(s.length:Int)<=most)(b:s.any qu=false):vx s most=0:=by grind [vx]
theorem xMn (n lo a e w):
  Calls prog 277 #[.int .i64 n,.int .i64 lo,.int .i64 a,.int .i64 e] w λr w'=>r=.returned (.int .i64 (uS n lo a e))/\w=w':=by
 by_cases h1:n<lo
 ·have b:=h_ (show uS n lo a e=e from if_pos (.inl h1));go_enter func277,ntmps277;go_wp2;go_ret;exact⟨ud b.symm,rfl⟩
 ·by_cases h2:a<n
  ·have b:=h_ (show uS n lo a e=e from if_pos (.inr h2));go_enter func277,ntmps277;go_wp2;go_ret;exact⟨ud b.symm,rfl⟩
  ·have b:=h_ (show uS n lo a e=0 from if_neg (by omega));go_enter func277,ntmps277;go_wp2;go_ret;exact⟨ud b.symm,rfl⟩
theorem xJt (c):qu c=true↔(c.toNat:Int)<32\/(c.toNat:Int)=127:=by simp[qu]
theorem yGb {s:ByteArray}{k}(a:k<s.size)(b:(s.data.toList.take k).any qu=false)(c:¬ ((s[k].toNat:Int)<32\/(s[k].toNat:Int)=127)):
  (s.data.toList.take (k+1)).any qu=false:=by
 have:qu s[k]=false:=by grind [qu,xJt]
 rw[yAn s k a,co_,b];simp[this]
theorem yGc {s:ByteArray}{k}(a:k<s.size)(b:(s[k].toNat:Int)<32\/(s[k].toNat:Int)=127):s.data.toList.any qu=true:=
 List.any_eq_true.2 ⟨s[k],yEi s k a,(xJt _).2 b⟩
theorem yI6 {s:ByteArray}{k}(a:¬ k<s.size)(b:(s.data.toList.take k).any qu=false):s.data.toList.any qu=false:=by grind [List.take_of_length_le,vG]
theorem xO1 (s most w)(hs:s.size<=maxLen):
  Calls prog 274 #[.string s,.int .i64 most] w λr w'=>r=.returned (.int .i64 (vx s.data.toList most))/\w=w':=by
 unfold maxLen at hs;by_cases hm:most<(s.size:Int)
 ·have a:=h_ (xQ3 (s:=s.data.toList) hm);go_enter func274,ntmps274;go_wp2;go_ret;exact⟨ud a.symm,rfl⟩
 ·go_enter func274,ntmps274;go_wp2;go_loop [12] (λi=>∃k:Nat,k<=s.size/\i=.int .i64 k/\(s.data.toList.take k).any qu=false) (λi=>s.size-(intOf i).toNat)
  case atStart=>exact⟨0,n3 _,rfl,rfl⟩
  case round=>
   obtain⟨k,f,rfl,b⟩:=hrel;by_cases hlt:k<s.size
   ·have e:=h_ b;clear b;by_cases h1:(s[k].toNat:Int)<32
    ·have a:=h_ (xIk (s:=s.data.toList) hm (yGc hlt (.inl h1)));go_wp2;go_ret;exact⟨ud a.symm,rfl⟩
    ·by_cases h2:(s[k].toNat:Int)=127
     ·have a:=h_ (xIk (s:=s.data.toList) hm (yGc hlt (.inr h2)));have d:((s[k].toNat:Int)==127)=true:=beq_iff_eq.2 h2;have g:=h_ h2;clear h2;go_wp2;go_ret;exact⟨ud a.symm,rfl⟩
     ·have c:=h_ (yGb hlt e.out (by omega));have d:((s[k].toNat:Int)==127)=false:=by grind
      clear h2;go_wp2;go_round
      case rel=>exact⟨k+1,by omega,by go_num,c.out⟩
      case measure=>simp[intOf];omega
   ·have a:=h_ (xWq (s:=s.data.toList) hm (yI6 hlt b));clear b;go_wp2;go_ret;exact⟨ud a.symm,rfl⟩
theorem gA (w:World)(o):(w.alloc o).heap.size=w.heap.size+1/\(w.alloc o).os=w.os/\(w.alloc o).tape=w.tape/\(w.alloc o).output=w.output/\(w.alloc o).heap[w.heap.size]?=some o/\∀k:Nat,k<w.heap.size->(w.alloc o).heap[k]?=w.heap[k]?:=
 ⟨by simp,rfl,rfl,rfl,by rw[show (w.alloc o).heap=w.heap.push o from rfl];simp,λk h=>by rw[show (w.alloc o).heap=w.heap.push o from rfl,Array.getElem?_push,if_neg (Nat.ne_of_lt h)]⟩
theorem gS (w:World)(b i v):(w.setCell ⟨b,i,none⟩ v).heap.size=w.heap.size/\(w.setCell ⟨b,i,none⟩ v).os=w.os/\(w.setCell ⟨b,i,none⟩ v).tape=w.tape/\(w.setCell ⟨b,i,none⟩ v).output=w.output/\(∀c e,w.heap[b]?=some (.cells c e (0,0))->(w.setCell ⟨b,i,none⟩ v).heap[b]?=some (.cells (c.setIfInBounds i v) e (0,0)))/\∀k:Nat,k≠b->(w.setCell ⟨b,i,none⟩ v).heap[k]?=w.heap[k]?:=
 ⟨by simp,rfl,rfl,rfl,λc e h=>heap_setCell_same w b i c e v h,λk h=>heap_setCell_other w _ k v h⟩
theorem gR (w:World)(g cs):(w.setRow g cs).heap.size=w.heap.size/\(w.setRow g cs).os=w.os/\(w.setRow g cs).tape=w.tape/\(w.setRow g cs).output=w.output/\(∀c e f,w.heap[g]?=some (.cells c e f)->(w.setRow g cs).heap[g]?=some (.cells cs e f))/\∀k:Nat,k≠g->(w.setRow g cs).heap[k]?=w.heap[k]?:=
 ⟨by simp,rfl,rfl,rfl,λc e f h=>setRow_heap w g c cs e f h,λk h=>setRow_other w g k cs h⟩
theorem gP (w:World)(g o):(w.putObj g o).heap.size=w.heap.size/\(w.putObj g o).os=w.os/\(w.putObj g o).tape=w.tape/\(w.putObj g o).output=w.output/\(g<w.heap.size->(w.putObj g o).heap[g]?=some o)/\∀k:Nat,k≠g->(w.putObj g o).heap[k]?=w.heap[k]?:=
 ⟨by simp,rfl,rfl,rfl,λh=>aX_ h,λk h=>x6 h⟩
theorem gD (w:World):w.drew.heap=w.heap/\w.drew.os=w.os/\w.drew.tape=w.tape/\w.drew.output=w.output:=⟨rfl,rfl,rfl,rfl⟩
theorem gN (w:World)(n):(w.drewN n).heap=w.heap/\(w.drewN n).os=w.os/\(w.drewN n).tape=w.tape/\(w.drewN n).output=w.output:=⟨rfl,rfl,rfl,rfl⟩
theorem bq {B w w'}(h:Below B w w'):w.heap.size<=w'.heap.size/\w'.os=w.os/\w'.tape=w.tape/\w'.output=w.output/\∀k,k<B->w'.heap[k]?=w.heap[k]?:=⟨h.size,h.os,h.tape,h.output,h.block⟩
theorem bi {B w w'}(h:w.heap.size<=w'.heap.size/\w'.os=w.os/\w'.tape=w.tape/\w'.output=w.output/\∀k,k<B->w'.heap[k]?=w.heap[k]?):Below B w w':=⟨h.2.1,h.2.2.1,h.2.2.2.1,h.1,h.2.2.2.2⟩
theorem cq (w:World)(b i):w.cell? ⟨b,i,none⟩=match w.heap[b]? with|some (.cells c _ _)=>c[i]?|_=>none:=by
 simp only[World.cell?];cases w.heap[b]? with
 |none=>rfl
 |some x=>cases x <;> rfl
theorem fq (w:World)(b i):w.frozen? ⟨b,i,none⟩=match w.heap[b]? with|some (.cells _ _ (lo,a))=>decide (lo<=i)&&decide (i<a)|_=>false:=rfl
theorem hq {p:Prop}(h:Hid p):p:=h.out
attribute [grind! .] gA gS gR gP gD gN
attribute [grind →] bq hq
attribute [grind ←] bi
attribute [grind =] cq fq
def Id32:Type:={ l:List UInt8 // l.length=32 }
instance:Inhabited Id32:=⟨⟨List.replicate 32 0,by simp⟩⟩
instance:DecidableEq Id32:=inferInstanceAs (DecidableEq { l:List UInt8 // l.length=32 })
def xl (x:Id32):List Value:=x.1.map λb=>.int .u8 b.toNat
theorem xD (x):(xl x).length=32:=by simp[xl,x.2]
theorem xI4 (x i)(h:i<32):(xl x)[i]?=some (.int .u8 (x.1[i]'(by rw[x.2];exact h)).toNat):=by grind [xl,List.getElem?_eq_getElem]
theorem zT (x):∀v∈xl x,v.oneCell'=true:=by
 intro v hv;simp only[xl,D4]at hv;obtain⟨b,_,rfl⟩:=hv;rfl
def xo (w:World)(a:Addr)(n:Nat):Array Value:=((List.range n).map λj=>(w.cell? (a.add j)).getD undef).toArray
def xp (w:World)(a:Addr)(n:Nat):Bool:=(List.range n).all λj=>(w.cell? (a.add j)).isSome
theorem uz (w a n):xp w a n=true↔∀j,j<n->∃v,w.cell? (a.add j)=some v:=by
 simp[xp,bq_]
theorem yY {P}(w a n)(h:xp w a n=true):Sem.run P (loadCells a n) w=.ok (xo w a n) w:=by
 have:=run_loadCells_list (P:=P) w a ((List.range n).map λj=>(w.cell? (a.add j)).getD undef) (λj v b=>by
  rw[R1]at b;by_cases hlt:j<n
  ·grind [List.getElem?_range,uz,Option.some.injEq]
  ·rw[aZ_ (by simp;omega)]at b;simp at b)
 simpa[xo]using this
theorem xNb {P}(t n)(b:∀w,Sem.run P (isAgg t) w=.ok true w)(hs:∀w,Sem.run P (Go.sizeOf t) w=.ok n w)(w a)(h:xp w a n=true):
  Sem.run P (Instr.loadAt t (.pointer (some a))) w=.ok (.agg (xo w a n)) w:=by
 simp[Instr.loadAt,Instr.sureAddr,loadVar,b,hs,yY w a n h]
theorem yl {w a}{cs:List Value}(h:∀j v,cs[j]?=some v->w.cell? (a.add j)=some v):
  xp w a cs.length=true/\xo w a cs.length=cs.toArray:=by
 have c:∀j (b:j<cs.length),w.cell? (a.add j)=some cs[j]:=by grind
 refine⟨(uz _ _ _).2 λj b=>⟨_,c j b⟩,?_⟩;unfold xo;congr 1;apply ci_
 ·simp
 ·grind
@[simp] theorem xh (w) (a) (n):xp w.drew a n=xp w a n:=rfl
@[simp] theorem xg (w) (a) (n):xo w.drew a n=xo w a n:=rfl
@[simp] theorem xe (w) (a) (n k):xp (w.drewN k) a n=xp w a n:=by simp[xp,aD_]
@[simp] theorem xd (w) (a) (n k):xo (w.drewN k) a n=xo w a n:=by simp[xo,aD_]
theorem yH8 {w w' a n}(b:∀j,j<n->w'.cell? (a.add j)=w.cell? (a.add j)):xp w' a n=xp w a n/\xo w' a n=xo w a n:=by
 constructor
 ·rw[cp_,uz,uz];grind
 grind [xo,List.map_congr_left]
theorem xD3 {w a n}(o)(h:xp w a n=true):xp (w.alloc o) a n=true:=by
 rw[uz]at h⊢;intro j b;obtain⟨v,hv⟩:=h j b;exact⟨v,T6 _ hv⟩
theorem xCy {w a n}(o)(h:xp w a n=true):xo (w.alloc o) a n=xo w a n:=by
 rw[uz]at h;unfold xo;congr 1;apply am_;intro j b;obtain⟨v,hv⟩:=h j (by simpa using b);rw[hv,T6 _ hv]
theorem yD (w:World)(cs t j):(w.alloc (.cells cs t)).cell? ⟨w.heap.size,j,none⟩=cs[j]?:=World.cell?_alloc_mark w cs t (0,0) j
theorem xLa (w:World)(cs t off n)(h:off+n<=cs.size):xp (w.alloc (.cells cs t)) ⟨w.heap.size,off,none⟩ n=true:=by
 rw[uz];intro j a;rw[l8,yD];exact⟨cs[off+j]'(by omega),aK_ (by omega)⟩
theorem xL0 (w:World)(cs t off n)(h:off+n<=cs.size):xo (w.alloc (.cells cs t)) ⟨w.heap.size,off,none⟩ n=cs.extract off (off+n):=by
 unfold xo;apply cs_
 ·simp;omega
 ·intro i h1 h2;have b:i<n:=by grind
  have a:off+i<cs.size:=by omega
  simp only[bL_,bj_,List.getElem_range,Array.getElem_extract];rw[l8,yD,aK_ a];rfl
theorem xf.ok {w a n}(h:xp w a n=true)(z:xf w):xp z.1 a n=true:=by
 rw[uz]at h⊢;intro j b;obtain⟨v,hv⟩:=h j b;exact⟨v,z.cell hv⟩
theorem xf.rd {w a n}(h:xp w a n=true)(z:xf w):xo z.1 a n=xo w a n:=by
 rw[uz]at h;unfold xo;congr 1;apply am_;intro j b;obtain⟨v,hv⟩:=h j (by simpa using b);rw[hv,z.cell hv]
def xN (w:World)(g n:Nat):Bool:=match w.heap[g]? with
 |some (.cells c _ fr)=>c.size==n&&fr==(0,0)
 |_=>false
theorem uQ {w g n}(h:xN w g n=true):∃c t,w.heap[g]?=some (.cells c t (0,0))/\c.size=n:=by
 unfold xN at h;grind
theorem xK2 {P}(t n)(b:(P.info? t).map (·.size)=some n)(w g cells)(h:xN w g n=true)(a:cells.size=n)(h1:cells.all (·.oneCell')=true):
  Sem.run P (Instr.storeAt t (.pointer (some ⟨g,0,none⟩)) (.agg cells)) w=.ok () (w.setRow g cells):=by
 obtain⟨c,t',d,e⟩:=uQ h;simp[Instr.storeAt,Instr.sureAddr,run_storeVar_row w g t' t c cells d (by rw[a];exact b) (by omega) h1]
@[simp] theorem xx (w) (g n):xN w.drew g n=xN w g n:=rfl
theorem zV (w:World)(c t g n)(b:g=w.heap.size)(a:c.size=n):xN (w.alloc (.cells c t)) g n=true:=by grind [xN]
theorem qB {w g n}(o)(h:xN w g n=true):xN (w.alloc o) g n=true:=by grind [uQ,Array.getElem?_eq_some_iff.1,xN]
@[simp] theorem xq (w:World) (g) (cs):w.drew.setRow g cs=(w.setRow g cs).drew:=rfl
theorem xB (w:World)(c cs t g)(a:g=w.heap.size):(w.alloc (.cells c t)).setRow g cs=w.alloc (.cells cs t):=by
 subst a;unfold World.setRow World.alloc;congr 1;grind
theorem xw (w:World)(o cs g)(a:g<w.heap.size):(w.alloc o).setRow g cs=(w.setRow g cs).alloc o:=by
 unfold World.setRow World.alloc;congr 1;grind
theorem xQr (xs:List UInt8)(i)(h:i<xs.length)(w):Sem.run prog (part 5 (xs.map λb=>Value.int .u8 b.toNat).toArray i) w=.ok (.int .u8 (xs[i]'h).toNat) w:=by
 simp[part,isAgg5,h]
theorem yFo (xs ys:List UInt8)(e)(c:∀(a b:Int) (w:World),(Op.equalIn e 5 (.int .u8 a) (.int .u8 b)).run prog w=.ok (a==b) w):
  ∀(l:List Nat) (w:World),(∀i∈l,i<xs.length/\i<ys.length) ->
  Sem.run prog (forIn l ((none,()):Option Bool×Unit) λi __s=>do
   let a <-part 5 (xs.map λb=>Value.int .u8 b.toNat).toArray (i*1)
   let b <-part 5 (ys.map λb=>Value.int .u8 b.toNat).toArray (i*1)
   let r <-Op.equalIn e 5 a b
   if (!r)=true then pure (ForInStep.done (some false,()))else pure (ForInStep.yield (none,()))) w
  = .ok (if l.all (λi=>xs[i]! == ys[i]!)then (none,())else (some false,())) w
 |[],w,_=>by simp
 |i :: l,w,h=>by
  obtain⟨h1,h2⟩:=h i (by simp);rw[List.forIn_cons];simp only[G9,ai_,xQr xs i h1,xQr ys i h2,t2,c];have m:xs[i]! = xs[i]:=by simp[h1]
  have k:ys[i]! = ys[i]:=by simp[h2]
  by_cases hq:xs[i]=ys[i]
  ·have ih:=yFo xs ys e c l w (λj f=>h j (by simp[f]));simp only[hq,beq_self_eq_true,Bool.not_true,av_,if_false,ay_,t2];grind
  ·have d:((xs[i].toNat:Int)==(ys[i].toNat:Int))=false:=by
    rw[beq_eq_false_iff_ne];intro g;exact hq (UInt8.toNat_inj.1 (by exact_mod_cast g))
   simp only[d,Bool.not_false,if_true,ay_,t2];grind
theorem xSk (xs ys:List UInt8)(hx:xs.length=32)(hy:ys.length=32):((List.range' 0 32 1).all (λi=>xs[i]! == ys[i]!))=decide (xs=ys):=by
 rw[cp_];simp only[O1,List.mem_range'_1,beq_iff_eq,decide_eq_true_eq];constructor
 ·intro h;apply ci_ (by omega);intro i h1 h2;have:=h i (by omega);simpa[h1,h2]using this
 ·rintro rfl i _;rfl
theorem eqArr (xs ys:List UInt8)(hx:xs.length=32)(hy:ys.length=32)(e)(c:∀(a b:Int) (w:World),(Op.equalIn e 5 (.int .u8 a) (.int .u8 b)).run prog w=.ok (a==b) w)(w):
  (Op.equalIn (e+1) 42 (.agg (xs.map λb=>Value.int .u8 b.toNat).toArray) (.agg (ys.map λb=>Value.int .u8 b.toNat).toArray)).run prog w=.ok (decide (xs=ys)) w:=by
 have d:prog.underlying 42=some (.array 32 5):=by kernel_rfl
 have:=yFo xs ys e c (List.range' 0 32 1) w (λi f=>by simp only[List.mem_range'_1]at f;omega);rw[xSk xs ys hx hy]at this;simp only[Op.equalIn,G9,run_underlying d,t2,sizeOf5,bf_,Std.Legacy.Range.size];simp only[cm_,Nat.add_one_sub_one,Nat.div_one,Nat.reduceAdd];rw[this];by_cases h:xs=ys <;> simp[h]
theorem xE7 (x y w):(Op.equalIn 10000 42 (.agg (xl x).toArray) (.agg (xl y).toArray)).run prog w=.ok (decide (x=y)) w:=by
 have c:∀(a b:Int) (w:World),(Op.equalIn 9999 5 (.int .u8 a) (.int .u8 b)).run prog w=.ok (a==b) w:=λa b w=>run_equalIn_int w 9998 5 .u8 .u8 a b underlying5
 have h:=eqArr x.1 y.1 x.2 y.2 9999 c w;have d:decide (x.1=y.1)=decide (x=y):=decide_eq_decide.2 ⟨λh=>Subtype.ext h,λh=>congrArg _ h⟩;rw[d]at h;exact h
theorem xBs (x y w):(binOp .eql 42 (.agg (xl x).toArray) (.agg (xl y).toArray)).run prog w=.ok (.bool (decide (x=y))) w:=by
 rw[run_eql_struct,xE7];rfl
theorem xKv (x y w):(binOp .neq 42 (.agg (xl x).toArray) (.agg (xl y).toArray)).run prog w=.ok (.bool (!decide (x=y))) w:=by
 rw[run_neq_struct,xE7];rfl
theorem yM:prog.eqGuardType prog.depth 42=false:=by kernel_rfl
theorem eqId:EqlAt prog 42 (λx:Id32=>.agg (xl x).toArray) (λx y=>decide (x=y)):=⟨xBs,GuardAt.agg _ yM⟩
def yq (P:Program)(t:Nat)(w:World)(v:Value):Result Next:=Sem.run P (do pure (Next.value (<-Instr.loadAt t v))) w
def yi (P:Program)(t:Nat)(w:World)(p v:Value):Result Next:=Sem.run P (do Instr.storeAt t p v;pure Next.skip) w
theorem yh {P t n}(b:∀w,Sem.run P (isAgg t) w=.ok true w)(hs:∀w,Sem.run P (Go.sizeOf t) w=.ok n w)(w a)(h:xp w a n=true):
  yq P t w (.pointer (some a))=.ok (.value (.agg (xo w a n))) w:=by
 unfold yq;rw[G9,xNb t n b hs w a h];rfl
def xt (n:Nat)(cells:Array Value):Bool:=cells.size==n&&cells.all (·.oneCell')
theorem zY {n cells}(a:cells.size=n)(h1:cells.all (·.oneCell')=true):xt n cells=true:=by grind [xt]
theorem yk {P t n}(a:(P.info? t).map (·.size)=some n)(w g cells)(h:xN w g n=true)(h2:xt n cells=true):
  yi P t w (.pointer (some ⟨g,0,none⟩)) (.agg cells)=.ok .skip (w.setRow g cells):=by
 unfold yi;unfold xt at h2;rw[A0,beq_iff_eq]at h2;rw[G9,xK2 t n a w g cells h h2.1 h2.2];rfl
theorem lx_ (T:TypeId)(ρ:Operand->Value)(d:Option Tmp)(x:Operand)(ty:TypeId)(pos:String)(af:Array Edge)(g:Option (Nat×Bool))(w:World):Sem.run prog (execOp ρ ⟨d,.load T x,ty,pos,af,g⟩) w=yq prog T w (ρ x):=rfl
def xP:=lx_ 42
theorem sx_ (T:TypeId)(ρ:Operand->Value)(d:Option Tmp)(x y:Operand)(ty:TypeId)(pos:String)(af:Array Edge)(g:Option (Nat×Bool))(w:World):Sem.run prog (execOp ρ ⟨d,.store T x y,ty,pos,af,g⟩) w=yi prog T w (ρ x) (ρ y):=rfl
def xI:=sx_ 42
def zg:=@yh prog 42 32 isAgg42 sizeOf42
def zj:=@yk prog 42 32 (by kernel_rfl)
theorem uG (x):(xl x).toArray.size=32:=by simp[xD]
theorem yC4 (x):(xl x).toArray.all (·.oneCell')=true:=by
 rw[B3];intro v hv;exact zT x v (by simpa using hv)
theorem j8 (x):xt 32 (xl x).toArray=true:=zY (uG x) (yC4 x)
theorem ku (w:World)(x t):xo (w.alloc (.cells (xl x).toArray t)) ⟨w.heap.size,0,none⟩ 32=(xl x).toArray:=by
 rw[xL0 w _ t 0 32 (by rw[uG];omega)];simp[Array.ext',v6,bk_,xD]
theorem ju (w:World)(x t):xp (w.alloc (.cells (xl x).toArray t)) ⟨w.heap.size,0,none⟩ 32=true:=xLa w _ t 0 32 (by rw[uG];omega)
def yI:Id32:=⟨List.replicate 32 0,by simp⟩
theorem vQ (ρ:Operand->Value)(d)(ty:TypeId)(pos af g w):
  Sem.run prog (execOp ρ ⟨d,.alloc 42,ty,pos,af,g⟩) w=.ok (.value (.pointer (some ⟨w.heap.size,0,none⟩))) (w.alloc (.cells (xl yI).toArray 42)):=by kernel_rfl
theorem xAf (ρ:Operand->Value)(d)(ty:TypeId)(pos af g w):
  Sem.run prog (execOp ρ ⟨d,.build 42 #[],ty,pos,af,g⟩) w=.ok (.value (.agg (xl yI).toArray)) w:=by kernel_rfl
theorem xy (w c t g n):xN (w.alloc (.cells c t)) g n=if g=w.heap.size then c.size==n else xN w g n:=by grind [xN]
def xA3 (c:Array Value)(off n:Nat):Array Value:=((List.range n).map λj=>(c[off+j]?).getD undef).toArray
def xA8 (c:Array Value)(off n:Nat):Bool:=(List.range n).all λj=>(c[off+j]?).isSome
theorem xk (w c t b off n):xp (w.alloc (.cells c t)) ⟨b,off,none⟩ n=if b=w.heap.size then xA8 c off n else xp w ⟨b,off,none⟩ n:=by
 split
 ·rename_i h;subst h;unfold xp xA8;simp only[l8,yD]
 ·rename_i h;unfold xp;have e:∀j,(w.alloc (.cells c t)).cell? ⟨b,off+j,none⟩=w.cell? ⟨b,off+j,none⟩:=λj=>by grind
  simp only[l8,e]
theorem xj (w c t b off n):xo (w.alloc (.cells c t)) ⟨b,off,none⟩ n=if b=w.heap.size then xA3 c off n else xo w ⟨b,off,none⟩ n:=by
 split
 ·rename_i h;subst h;unfold xo xA3;simp only[l8,yD]
 ·rename_i h;unfold xo;have e:∀j,(w.alloc (.cells c t)).cell? ⟨b,off+j,none⟩=w.cell? ⟨b,off+j,none⟩:=λj=>by grind
  simp only[l8,e]
theorem xG9 {c off n}(h:off+n<=c.size):xA8 c off n=true:=by grind [xA8,List.all_eq_true,Array.getElem?_eq_getElem,List.mem_range.1]
theorem jB {c off n}(h:off+n<=c.size):xA3 c off n=c.extract off (off+n):=by
 unfold xA3;grind
theorem xLc (x):xA8 (xl x).toArray 0 32=true:=xG9 (by rw[uG];omega)
theorem xL2 (x):xA3 (xl x).toArray 0 32=(xl x).toArray:=by
 rw[jB (by rw[uG];omega)];simp[Array.ext',v6,bk_,xD]
section
theorem and31 (x):0<=bits .and .u64 x 31/\bits .and .u64 x 31<=31:=by
 have h:((BitVec.ofInt 64 x &&& BitVec.ofInt 64 31).toNat)<=31:=by simp[Nat.and_le_right]
 have e:bits .and .u64 x 31=IntKind.u64.wrap ((BitVec.ofInt 64 x &&& BitVec.ofInt 64 31).toNat:Int):=rfl;rw[e,IntKind.wrap_u64];omega
theorem xZ4 (x k):∃r:Int,∀W:World,Calls prog 299 #[.int .u32 x,.int .i64 k] W λe W'=>e=.returned (.int .u32 r)/\W=W':=by
 apply Exists.intro;intro W;obtain⟨a,h1⟩:=and31 (IntKind.u64.wrap k);have h2:(0:Int)<=32-bits .and .u64 (IntKind.u64.wrap k) 31:=by omega
 have h3:(32-bits .and .u64 (IntKind.u64.wrap k) 31)<=32:=by omega
 have h4:(bits .and .u64 (IntKind.u64.wrap k) 31)<=32:=by omega
 go_enter func299,ntmps299;go_wp2;go_ret;exact⟨rfl,rfl⟩
noncomputable def xIr (x k:Int):Int:=Classical.choose (xZ4 x k)
theorem yDw (x k W):Calls prog 299 #[.int .u32 x,.int .i64 k] W λe W'=>e=.returned (.int .u32 (xIr x k))/\W=W':=af_ (xZ4 x k) W
theorem xQf (x k)(b:0<=k/\k<=100)(W):Calls prog 284 #[.int .u32 x,.int .i64 k] W λe W'=>e=.returned (.int .u32 (xIr x (-k)))/\W=W':=by
 obtain⟨c,a⟩:=b;go_enter func284,ntmps284;go_wp2_with (go_at_call 299;refine(yDw _ _ _).mono ?_;rintro e w' ⟨rfl,rfl⟩);go_ret;exact⟨rfl,rfl⟩
theorem rot_q (x k)(b:0<=k/\k<=100)(n)(W:World):Calls prog 284 #[.int .u32 x,.int .i64 k] (W.drewN n) λe W'=>e=.returned (.int .u32 (xIr x (-k)))/\∃m,W'=W.drewN m:=
 (xQf x k b (W.drewN n)).mono λ_ _ ⟨c,a⟩=>⟨c,n,a.symm⟩
theorem yJ9 (x k)(b:0<=k/\k<=100)(n m)(W:World):Calls prog 284 #[.int .u32 x,.int .i64 k] (W.drewN (n+m)) λe W'=>e=.returned (.int .u32 (xIr x (-k)))/\∃j,W'=W.drewN (n+j):=
 (xQf x k b (W.drewN (n+m))).mono λ_ _ ⟨c,a⟩=>⟨c,m,a.symm⟩
@[simp] theorem jK (w) (k g n):xN (w.drewN k) g n=xN w g n:=rfl
@[simp] theorem vY (w:World) (k g) (cs):(w.drewN k).setRow g cs=(w.setRow g cs).drewN k:=rfl
theorem y9 {B a w}(h:Below B a w)(n):Below B a (w.drewN n):=⟨h.os,h.tape,h.output,h.size,h.block⟩
structure W8 where
 a:Int
 b:Int
 c:Int
 d:Int
 e:Int
 f:Int
 g:Int
 i:Int
def encW (v:W8):List Value:=[.int .u32 v.a,.int .u32 v.b,.int .u32 v.c,.int .u32 v.d,.int .u32 v.e,.int .u32 v.f,.int .u32 v.g,.int .u32 v.i]
def kT:=lx_ 395
def xAd:=sx_ 395
def xUq:=@yh prog 395 8 isAgg395 sizeOf395
def yDd:=@yk prog 395 8 (by kernel_rfl)
theorem xXk (a b c d e f g i):xA8 #[a,b,c,d,e,f,g,i] 0 8=true:=rfl
theorem xXc (a b c d e f g i):xA3 #[a,b,c,d,e,f,g,i] 0 8=#[a,b,c,d,e,f,g,i]:=rfl
theorem yDn (a b c d e f g i):((#[a,b,c,d,e,f,g,i]:Array Value).size==8)=true:=rfl
theorem xZs (a b c d e f g i):xt 8 #[.int .u32 a,.int .u32 b,.int .u32 c,.int .u32 d,.int .u32 e,.int .u32 f,.int .u32 g,.int .u32 i]=true:=by simp[xt,Value.oneCell']
attribute [local go_sem ↓] kT xAd
attribute [local go_sem] xUq yDd xXk xXc yDn xZs xh xg xe xd xx xy xk xj xq xB xw jK vY
theorem zR {P fn p ty n}(h:fn.results=#[.cell p ty])(d:∀w,Sem.run P (isAgg ty) w=.ok true w)(hs:∀w,Sem.run P (Go.sizeOf ty) w=.ok n w)
  (tmps) (w) (a) (cs) (c:tmps.getD p undef=.pointer (some a)) (f:xp w a n=true) (e:xo w a n=cs):
  (results fn tmps).run P w=.ok (.agg cs) w:=by
 have b:tmps[p]?.getD undef=.pointer (some a):=by simpa using c
 have hl:(loadVar ty a).run P w=.ok (.agg cs) w:=by
  simp[loadVar,d,hs,yY w a n f,e]
 simp[results,h,b,asAddr,hl]
theorem ex8 {Q:W8->Prop}{a b c d e f g i}(h:Q ⟨a,b,c,d,e,f,g,i⟩):∃r,Q r:=⟨_,h⟩
theorem xTu (v k x):∃r:W8,∀W:World,Calls prog 285 #[.agg (encW v).toArray,.int .u32 k,.int .u32 x] W λe W'=>e=.returned (.agg (encW r).toArray)/\Below W.heap.size W W':=by
 obtain⟨a,b,c,d,e,f,g,i⟩:=v;apply ex8;intro W;have hs:IntKind.u32.signed=false:=rfl;unfold encW;go_enter func285,ntmps285;go_wp2;go_quiet ((go_at_call 284;exact rot_q _ _ (by decide) _ _));go_wp2;go_quiet ((go_at_call 284;exact yJ9 _ _ (by decide) _ _ _));go_wp2;refine bodyPost_ret (zR rfl isAgg395 sizeOf395 _ _ ⟨W.heap.size+1,0,none⟩ _ rfl ?_ ?_) rfl ⟨rfl,?_⟩
 ·go_simp
 ·go_simp;exact⟨rfl,rfl,rfl,rfl,rfl,rfl,rfl,rfl⟩
 grind
end
section
attribute [local go_sem ↓] kT xAd
attribute [local go_sem] xUq yDd xXk xXc yDn xZs xh xg xe xd xx xy xk xj xq xB xw jK vY
noncomputable def xCx (v:W8)(k x:Int):W8:=Classical.choose (xTu v k x)
theorem xOj (v k x W):Calls prog 285 #[.agg (encW v).toArray,.int .u32 k,.int .u32 x] W λe W'=>e=.returned (.agg (encW (xCx v k x)).toArray)/\Below W.heap.size W W':=af_ (xTu v k x) W
theorem xZa (v u):∃r:W8,∀W:World,Calls prog 286 #[.agg (encW v).toArray,.agg (encW u).toArray] W λe W'=>e=.returned (.agg (encW r).toArray)/\Below W.heap.size W W':=by
 obtain⟨a,b,c,d,e,f,g,i⟩:=v;obtain⟨a',b',c',d',e',f',g',i'⟩:=u;apply ex8;intro W;unfold encW;go_enter func286,ntmps286;go_wp2;refine bodyPost_ret (zR rfl isAgg395 sizeOf395 _ _ ⟨W.heap.size+2,0,none⟩ _ rfl ?_ ?_) rfl ⟨rfl,?_⟩
 ·go_simp
 ·go_simp;exact⟨rfl,rfl,rfl,rfl,rfl,rfl,rfl,rfl⟩
 grind
noncomputable def xZb (v u:W8):W8:=Classical.choose (xZa v u)
theorem yE8 (v u W):Calls prog 286 #[.agg (encW v).toArray,.agg (encW u).toArray] W λe W'=>e=.returned (.agg (encW (xZb v u)).toArray)/\Below W.heap.size W W':=af_ (xZa v u) W
theorem xZm:∃r:W8,∀W:World,Calls prog 244 #[] W λe W'=>e=.returned (.agg (encW r).toArray)/\Below W.heap.size W W':=by
 apply ex8;intro W;unfold encW;go_enter func244,ntmps244;go_wp2;refine bodyPost_ret (zR rfl isAgg395 sizeOf395 _ _ ⟨W.heap.size,0,none⟩ _ rfl ?_ ?_) rfl ⟨rfl,?_⟩
 ·go_simp
 ·go_simp;exact⟨rfl,rfl,rfl,rfl,rfl,rfl,rfl,rfl⟩
 grind
noncomputable def xJ6:W8:=Classical.choose xZm
theorem yEz (W):Calls prog 244 #[] W λe W'=>e=.returned (.agg (encW xJ6).toArray)/\Below W.heap.size W W':=af_ xZm W
end
section
structure Sk (K:Nat->Int)(w:World):Prop where
 tab:∀t,t<64->w.cell? ⟨4,t,none⟩=some (.int .u32 (K t))
theorem Sk.lt {K:Nat->Int}{w}(h:Sk K w):4<w.heap.size:=block_lt_of_cell (h.tab 0 (by omega))
theorem Sk.below {K:Nat->Int}{B w w'}(h:Sk K w)(a:Below B w w')(b:w.heap.size<=B):Sk K w':=
 ⟨λt ht=>(a.cell (p:=⟨4,t,none⟩) (by have:=h.lt;simp;omega)).trans (h.tab t ht)⟩
theorem fitsI {ws:List Int}{n}(h:ws.length=n):xt n (ws.map λx=>Value.int .u32 x).toArray=true:=
 zY (by simp[h]) (by rw[B3];intro v hv;simp at hv;obtain⟨x,_,rfl⟩:=hv;rfl)
def encX (ws:List Int):List Value:=ws.map λx=>.int .u32 x
structure PrSt (K:Nat->Int)(W0:World)(h v:W8)(ws:List Int)(W:World):Prop where
 bel:Below W0.heap.size W0 W
 bh:W.heap[W0.heap.size]?=some (.cells (encW h).toArray 395 (0,0))
 bw:W.heap[W0.heap.size+1]?=some (.cells (encX ws).toArray 401 (0,0))
 br:xN W (W0.heap.size+2) 8=true
 bv:W.heap[W0.heap.size+3]?=some (.cells (encW v).toArray 395 (0,0))
 len:ws.length=16
 k:Sk K W
 gl:4<W0.heap.size
theorem yJg (v):xA8 (encW v).toArray 0 8=true:=rfl
theorem yJc (v):xA3 (encW v).toArray 0 8=(encW v).toArray:=rfl
theorem sizeW (v):((encW v).toArray.size==8)=true:=rfl
theorem fitsW (v):xt 8 (encW v).toArray=true:=xZs _ _ _ _ _ _ _ _
attribute [local go_sem] yJg yJc sizeW fitsW
attribute [local go_sem ↓] kT xAd
attribute [local go_sem] xUq yDd xXk xXc yDn xZs xh xg xe xd xx xy xk xj xq xB xw jK vY
noncomputable def mixF (x y z c:Int):Int:=(c+(bits BinOp.xor IntKind.u32 (bits BinOp.xor IntKind.u32 (xIr x (-7)) (xIr x (-18))) (x/8)+bits BinOp.xor IntKind.u32 (bits BinOp.xor IntKind.u32 (xIr y (-17)) (xIr y (-19))) (y/1024)+z))%4294967296
noncomputable def xIo (K:Nat->Int)(v:W8)(ws:List Int):Nat->W8×List Int
 |0=>(v,ws)
 |t+1=>
  let p:=xIo K v ws t
  let xs:=if t<16 then p.2 else p.2.set (t%16) (mixF (p.2.getD ((t-15)%16) 0) (p.2.getD ((t-2)%16) 0) (p.2.getD ((t-7)%16) 0) (p.2.getD (t%16) 0))
  (xCx p.1 (K t) (xs.getD (t%16) 0),xs)
theorem xBa {W:World}{b T ws}(h:W.heap[b]?=some (.cells (encX ws).toArray T (0,0)))(i)(a:i<ws.length):W.cell? ⟨b,i,none⟩=some (.int .u32 (ws.getD i 0)):=by grind [encX]
theorem PrSt.drew {K:Nat->Int}{a h v ws W}(s:PrSt K a h v ws W):PrSt K a h v ws W.drew:=⟨s.bel.drew,s.bh,s.bw,s.br,s.bv,s.len,⟨s.k.tab⟩,s.gl⟩
theorem PrSt.drewN {K:Nat->Int}{a h v ws W}(s:PrSt K a h v ws W)(n):PrSt K a h v ws (W.drewN n):=⟨y9 s.bel n,s.bh,s.bw,s.br,s.bv,s.len,⟨λt ht=>s.k.tab t ht⟩,s.gl⟩
theorem PrSt.setW {K:Nat->Int}{a h v ws W}(s:PrSt K a h v ws W)(i x):PrSt K a h v (ws.set i x) (W.setCell ⟨a.heap.size+1,i,none⟩ (.int .u32 x)):=by
 have ho:∀k,k≠a.heap.size+1->(W.setCell ⟨a.heap.size+1,i,none⟩ (.int .u32 x)).heap[k]?=W.heap[k]?:=by grind
 refine⟨s.bel.setCell (by simp) _,(ho _ (by omega)).trans s.bh,?_,?_,(ho _ (by omega)).trans s.bv,by simp[s.len],⟨λt ht=>?_⟩,s.gl⟩
 ·rw[heap_setCell_same W _ i _ _ _ s.bw];simp[encX]
 ·have:=s.br;grind [xN]
 ·have:=s.k.tab t ht;unfold World.cell? at this⊢;rw[ho _ (by have:=s.bel.size;have:=s.k.lt;have hl:4<a.heap.size:=s.gl;simp;omega)];exact this
theorem xH {B a w}(h:Below B a w){g}(c:B<=g)(cs):Below B a (w.setRow g cs):=
 ⟨h.os,h.tape,h.output,by have:=h.size;simpa[World.setRow]using this,λk b=>(setRow_other _ _ _ _ (by omega)).trans (h.block k b)⟩
theorem PrSt.round {K:Nat->Int}{a h v u ws W W'}(s:PrSt K a h v ws W)(c:Below W.heap.size W W'):PrSt K a h u ws (W'.setRow (a.heap.size+3) (encW u).toArray):=by
 have b:a.heap.size+3<W.heap.size:=(i_ s.bv).1;have e:∀k,k<W.heap.size->W'.heap[k]?=W.heap[k]?:=by grind
 have ho:∀k,k<W.heap.size->k≠a.heap.size+3->(W'.setRow (a.heap.size+3) (encW u).toArray).heap[k]?=W.heap[k]?:=by grind
 refine⟨xH (s.bel.trans (c.mono s.bel.size)) (by omega) _,(ho _ (by omega) (by omega)).trans s.bh,(ho _ (by omega) (by omega)).trans s.bw,?_,?_,s.len,⟨λt ht=>?_⟩,s.gl⟩
 ·have:=s.br;grind [xN]
 ·exact setRow_heap _ _ _ _ _ _ ((e _ b).trans s.bv)
 ·have h1:=s.k.tab t ht;have hl:4<a.heap.size:=s.gl;unfold World.cell? at h1⊢;rw[ho _ (by simp;omega) (by simp;omega)];exact h1
theorem xF {W b T n cs fr}(h:W.heap[b]?=some (.cells cs T fr))(c:cs.size=n):xp W ⟨b,0,none⟩ n=true/\xo W ⟨b,0,none⟩ n=cs:=by
 have:=yl (w:=W) (a:=⟨b,0,none⟩) (cs:=cs.toList) (λj v d=>by
  rw[l8,m0,cell_of_row W b j _ _ _ h];simpa using d)
 simpa[c]using this
theorem PrSt.rowV {K:Nat->Int}{b h v ws W W'}(s:PrSt K b h v ws W)(c:Below W.heap.size W W'):xN W' (b.heap.size+3) 8=true:=by
 have a:b.heap.size+3<W.heap.size:=(i_ s.bv).1;unfold xN;rw[c.block _ a,s.bv];rfl
theorem PrSt.rowR {K:Nat->Int}{a h v ws W W'}(s:PrSt K a h v ws W)(c:Below W.heap.size W W'):xN W' (a.heap.size+2) 8=true:=by
 have b:a.heap.size+3<W.heap.size:=(i_ s.bv).1;have:=s.br;grind [xN]
theorem xAq (w:World)(o k):(w.alloc o).heap[k]?=if k=w.heap.size then some o else w.heap[k]?:=by grind
theorem xXg (K:Nat->Int)(v ws)(b:ws.length=16)(W)(hK:Sk K W)(zs)(c:zs.size=8):
  PrSt K W v v ws ((((W.alloc (.cells (encW v).toArray 395)).alloc (.cells (encX ws).toArray 401)).alloc (.cells zs 395)).alloc (.cells (encW v).toArray 395)):=by
 have a:Below W.heap.size W ((((W.alloc (.cells (encW v).toArray 395)).alloc (.cells (encX ws).toArray 401)).alloc (.cells zs 395)).alloc (.cells (encW v).toArray 395)):=
  ((((z_ _ _).alloc (w_ _) _).alloc (by simp) _).alloc (by simp;omega) _).alloc (by simp;omega) _
 refine⟨a,?_,?_,?_,?_,b,hK.below a (w_ _),hK.lt⟩
 ·grind
 ·grind
 ·grind [xN,xAq,World.size_alloc]
 ·grind
theorem xU2 (K:Nat->Int)(v ws)(Q:ws.length=16)(W)(hK:Sk K W):Calls prog 245 #[.agg (encW v).toArray,.agg (encX ws).toArray] W λe W'=>e=.returned (.agg (encW (xZb v (xIo K v ws 64).1)).toArray)/\Below W.heap.size W W':=by
 have HK:=h_ hK;clear hK;go_enter func245,ntmps245;go_wp2;go_loopw [12] (λt wr=>∃k:Nat,k<=64/\t=.int .i64 k/\PrSt K W v (xIo K v ws k).1 (xIo K v ws k).2 wr) (λt _=>64-(intOf t).toNat)
 case atStart=>
  refine⟨0,by omega,rfl,?_⟩;exact xXg K v ws Q W HK.out _ rfl
 case round=>
  obtain⟨k,hk,rfl,hs⟩:=hrel;generalize r:xIo K v ws k=st at hs;obtain⟨u,xs⟩:=st;have a_:=h_ r;clear r;by_cases hlt:k<64
  ·by_cases h16:k<16
   ·have a1:(k:Int)<64:=by omega
    have a2:(k:Int)<16:=by omega
    obtain⟨J,h⟩:∃q,q=xs:=⟨_,rfl⟩;obtain⟨o,H⟩:∃q,q=wr:=⟨_,rfl⟩;rw[<-H,<-h]at hs;have Ta:=h_ h;have d:=h_ hs;rw[<-H];clear hs h H;go_upto_region 10 with (fail)
    have g1:=xBa d.bw (k%16) (by rw[d.len];omega);obtain⟨m,j⟩:∃x,x=J.getD (k%16) 0:=⟨_,rfl⟩;rw[<-j]at g1;have Hc:=h_ j;have C:=d.k.tab k hlt;have D:((k:Int)).tmod 16=((k%16:Nat):Int):=by grind
    have a:=xF d.bv (by rfl:(encW u).toArray.size=8);have R:=h_ a;have g:=a.1;have B:=a.2;clear j a;refine xz [0,1,2,3,4,5,6,7] [8,9] (λw'=>w'=o.drew) rfl ?_;simp only[o_]
    repeat (go_big_quiet_step (fail))
    refine wpQuiet_nil ?_;refine yE ?_;simp only[o_];clear g1 C D g B;have b:=d.drew;generalize o.drew=w4 at b⊢;have s:=h_ b;clear b;go_wp2_with (go_at_call 285;refine(xOj _ _ _ _).mono ?_;rintro e n ⟨rfl,f⟩;have A:=s.rowV f);refine T_ ?_;have p:=s.round (u:=xCx u (K k) m) (by assumption);have Y:=h_ f;have I:=h_ p;clear f p A;generalize n.setRow (W.heap.size+3) (encW (xCx u (K k) m)).toArray=w6 at I⊢;go_wp2;go_roundw
    case rel=>
     refine⟨k+1,by omega,by go_num,?_⟩;grind [xIo,xCx]
    case measure=>simp[intOf];omega
   ·have a1:(k:Int)<64:=by omega
    have a2:¬ (k:Int)<16:=by omega
    have c1:∀i,i<16->wr.cell? ⟨W.heap.size+1,i,none⟩=some (.int .u32 (xs.getD i 0)):=λi S=>xBa hs.bw i (by rw[hs.len];omega)
    have d1:=c1 ((k-15)%16) (by omega);have w:=c1 ((k-2)%16) (by omega);have G:IntKind.i64.wrap ((k:Int)-15)=((k-15:Nat):Int):=by rw[ca_ _ (by omega)];omega
    have U:IntKind.i64.wrap ((k:Int)-2)=((k-2:Nat):Int):=by rw[ca_ _ (by omega)];omega
    have F:(((k-15:Nat):Int)).tmod 16=(((k-15)%16:Nat):Int):=by grind
    have E:(((k-2:Nat):Int)).tmod 16=(((k-2)%16:Nat):Int):=by grind
    obtain⟨x,hx⟩:∃x,x=xs.getD ((k-15)%16) 0:=⟨_,rfl⟩;obtain⟨y,hy⟩:∃x,x=xs.getD ((k-2)%16) 0:=⟨_,rfl⟩;obtain⟨z,L⟩:∃x,x=xs.getD ((k-7)%16) 0:=⟨_,rfl⟩;obtain⟨c,N⟩:∃x,x=xs.getD (k%16) 0:=⟨_,rfl⟩;rw[<-hx]at d1;rw[<-hy]at w;have P:=h_ (And.intro hx (And.intro hy (And.intro L N)));clear hx hy L N;have HS:=h_ hs;clear hs c1;go_upto_region 6 with (fail)
    go_quiet (fail);go_upto_region 9 with (go_at_call 284;refine(xQf _ _ (by decide) _).mono ?_;rintro e w' ⟨rfl,rfl⟩)
    have l:=HS.drewN nq;generalize wr.drewN nq=w2 at l⊢;clear d1 w G U F E;have c1:∀i,i<16->w2.cell? ⟨W.heap.size+1,i,none⟩=some (.int .u32 (xs.getD i 0)):=λi S=>xBa l.bw i (by rw[l.len];omega)
    have d1:=c1 ((k-7)%16) (by omega);have w:=c1 (k%16) (by omega);have X:=frozen_of_row w2 (W.heap.size+1) (k%16) _ _ l.bw;rw[<-P.2.2.1]at d1;rw[<-P.2.2.2]at w;have G:IntKind.i64.wrap ((k:Int)-7)=((k-7:Nat):Int):=by rw[ca_ _ (by omega)];omega
    have F:(((k-7:Nat):Int)).tmod 16=(((k-7)%16:Nat):Int):=by simp[ar_]
    have E:((k:Int)).tmod 16=((k%16:Nat):Int):=by simp[ar_]
    have V:=h_ l;clear l c1;refine xz [0,1,2,3,4,5,6,7,8,9,10,11,12,13,14] [15] (λw'=>w'=w2.drew) rfl ?_;simp only[o_]
    repeat (go_big_quiet_step (fail))
    refine wpQuiet_nil ?_;refine yE ?_;simp only[o_];go_wp2;refine T_ ?_;have b:=(V.setW (k%16) (mixF x y z c)).drew;unfold mixF at b;generalize (w2.setCell _ _).drew=o at b⊢;obtain⟨J,h⟩:∃q,q=xs.set (k%16) (mixF x y z c):=⟨_,rfl⟩;have Ta:=h_ h;unfold mixF at h;rw[<-h]at b;have d:=h_ b;clear d1 w X G F E b h;go_upto_region 10 with (fail)
    have g1:=xBa d.bw (k%16) (by rw[d.len];omega);obtain⟨m,j⟩:∃x,x=J.getD (k%16) 0:=⟨_,rfl⟩;rw[<-j]at g1;have Hc:=h_ j;have C:=d.k.tab k hlt;have D:((k:Int)).tmod 16=((k%16:Nat):Int):=by grind
    have a:=xF d.bv (by rfl:(encW u).toArray.size=8);have R:=h_ a;have g:=a.1;have B:=a.2;clear j a;refine xz [0,1,2,3,4,5,6,7] [8,9] (λw'=>w'=o.drew) rfl ?_;simp only[o_]
    repeat (go_big_quiet_step (fail))
    refine wpQuiet_nil ?_;refine yE ?_;simp only[o_];clear g1 C D g B;have b:=d.drew;generalize o.drew=w4 at b⊢;have s:=h_ b;clear b;go_wp2_with (go_at_call 285;refine(xOj _ _ _ _).mono ?_;rintro e n ⟨rfl,f⟩;have A:=s.rowV f);refine T_ ?_;have p:=s.round (u:=xCx u (K k) m) (by assumption);have Y:=h_ f;have I:=h_ p;clear f p A;generalize n.setRow (W.heap.size+3) (encW (xCx u (K k) m)).toArray=w6 at I⊢;go_wp2;go_roundw
    case rel=>
     refine⟨k+1,by omega,by go_num,?_⟩;grind [xIo,xCx]
    case measure=>simp[intOf];omega
  ·obtain rfl:k=64:=by omega
   have a:=xF hs.bh (by rfl:(encW v).toArray.size=8);have g:=xF hs.bv (by rfl:(encW u).toArray.size=8);have nt:=h_ a;have Zi:=h_ g;have q1:=a.1;have q2:=a.2;have q3:=g.1;have q4:=g.2;have HS:=h_ hs;clear hs a g;go_wp2_with (go_at_call 286;refine(yE8 _ _ _).mono ?_;rintro e n ⟨rfl,f⟩;have A:=HS.rowR f);have M:W.heap.size+3<wr.heap.size:=(i_ HS.bv).1;have Z:Below W.heap.size W (n.setRow (W.heap.size+2) (encW (xZb v u)).toArray):=xH (HS.bel.trans (f.mono HS.bel.size)) (by omega) _;obtain⟨cs,T,O,_⟩:=uQ A;refine bodyPost_ret (zR rfl isAgg395 sizeOf395 _ _ ⟨W.heap.size+2,0,none⟩ _ rfl (xF (setRow_heap _ _ _ _ _ _ O) rfl).1 (xF (setRow_heap _ _ _ _ _ _ O) rfl).2) rfl ⟨?_,Z⟩;rw[a_.out]
end
section
def xJk:=lx_ 396
def yEv:=@yh prog 396 64 isAgg396 sizeOf396
def xVb:=lx_ 401
def xRi:=sx_ 401
def yJj:=@yh prog 401 16 isAgg401 sizeOf401
def yIy:=@yk prog 401 16 (by kernel_rfl)
def xDk:=lx_ 341
def xC4:=sx_ 341
def xXq:=@yh prog 341 32 isAgg341 sizeOf341
def xWx:=@yk prog 341 32 (by kernel_rfl)
def xC6:=lx_ 297
def xAs:=sx_ 297
def xR5:=@yh prog 297 16 isAgg297 sizeOf297
def xQ9:=@yk prog 297 16 (by kernel_rfl)
def xRp:=lx_ 398
def xNr:=sx_ 398
def yHi:=@yh prog 398 73 isAgg398 sizeOf398
def yH1:=@yk prog 398 73 (by kernel_rfl)
theorem yHs (n):(n=n+1+1)=False:=by simp;omega
theorem yHr (n):(n=n+1+1+1)=False:=by simp;omega
theorem yHq (n):(n=n+1+1+1+1)=False:=by simp;omega
theorem yHp (n):(n=n+1+1+1+1+1)=False:=by simp;omega
theorem yId (n):(n+1+1=n)=False:=by simp;omega
theorem yIc (n):(n+1+1+1=n)=False:=by simp;omega
theorem yIb (n):(n+1+1+1+1=n)=False:=by simp;omega
theorem yIa (n):(n+1+1+1+1+1=n)=False:=by simp;omega
attribute [go_sem] yHs yHr yHq yHp yId yIc yIb yIa
def encB (l:List UInt8):List Value:=l.map λb=>.int .u8 b.toNat
theorem xQ (l):(encB l).length=l.length:=by simp[encB]
theorem vb (l):(encB l).toArray.size=l.length:=by simp[encB]
theorem yFr (l):(encB l).toArray.all (·.oneCell')=true:=by
 rw[B3];intro v hv;simp only[encB,List.mem_toArray,D4]at hv;obtain⟨b,_,rfl⟩:=hv;rfl
theorem xM8 {l n}(h:l.length=n):xt n (encB l).toArray=true:=zY (by rw[vb,h]) (yFr l)
theorem yJh {l n}(h:l.length=n):xA8 (encB l).toArray 0 n=true:=xG9 (by rw[vb];omega)
theorem yJd {l n}(h:l.length=n):xA3 (encB l).toArray 0 n=(encB l).toArray:=by
 rw[jB (by rw[vb];omega)];grind [Array.ext',List.take_of_length_le,encB,xQ]
theorem fitsX {l n}(h:l.length=n):xt n (encX l).toArray=true:=fitsI h
theorem xPc (l):(encX l).toArray.size=l.length:=by simp[encX]
theorem xQd (l)(k:Nat)(h:k<64)(hl:l.length=64)(w):Sem.run prog (Instr.index 396 (.agg (encB l).toArray) (.int .i64 k)) w=.ok (.int .u8 (l[k]'(by omega)).toNat) w:=by
 have a:prog.underlying 396=some (.array 64 5):=by kernel_rfl
 have b:=xQr l k (by omega) w;simp only[Instr.index,asIntOf,G9,ay_,t2,run_underlying a];rw[if_pos ⟨by omega,by omega⟩];simp only[G9,sizeOf5,t2,ai_,U6];exact b
noncomputable def xA9 (cs:List UInt8):Nat->List Int
 |0=>List.replicate 16 0
 |i+1=>(xA9 cs i).set (i/4) (bits BinOp.or IntKind.u32 ((xA9 cs i).getD (i/4) 0*256%4294967296) (((cs.getD i 0).toNat:Nat):Int))
theorem kf (cs):∀i,(xA9 cs i).length=16
 |0=>by simp[xA9]
 |i+1=>by simp[xA9,kf cs i]
structure LdSt (W0:World)(ws:List Int)(W:World):Prop where
 bel:Below W0.heap.size W0 W
 br:xN W (W0.heap.size+1) 16=true
 bw:W.heap[W0.heap.size+2]?=some (.cells (encX ws).toArray 401 (0,0))
theorem LdSt.set {a ws W}(s:LdSt a ws W)(i x):LdSt a (ws.set i x) (W.setCell ⟨a.heap.size+2,i,none⟩ (.int .u32 x)):=by
 have ho:∀k,k≠a.heap.size+2->(W.setCell ⟨a.heap.size+2,i,none⟩ (.int .u32 x)).heap[k]?=W.heap[k]?:=by grind
 refine⟨s.bel.setCell (by simp) _,?_,?_⟩
 ·have:=s.br;grind [xN]
 ·rw[heap_setCell_same W _ i _ _ _ s.bw];simp[encX]
theorem xXs (W cs zs T)(a:zs.size=16):
  LdSt W (List.replicate 16 0) (((W.alloc (.cells cs T)).alloc (.cells zs 401)).alloc (.cells (encX (List.replicate 16 0)).toArray 401)):=by
 refine⟨(((z_ _ _).alloc (w_ _) _).alloc (by simp) _).alloc (by simp;omega) _,?_,?_⟩
 ·grind [xN,xAq,World.size_alloc]
 ·grind
attribute [local go_sem ↓] xJk xVb xRi
attribute [local go_sem] yEv yJj yIy xh xg xe xd xx xy xk xj xq xB xw jK vY
theorem yEn (cs)(d:cs.length=64)(W):Calls prog 246 #[.agg (encB cs).toArray] W λe W'=>e=.returned (.agg (encX (xA9 cs 64)).toArray)/\Below W.heap.size W W':=by
 have h1:=yJh d;have h2:=yJd d;have hx:=xQd cs;go_enter func246,ntmps246;go_wp2;go_loopw [7] (λt wr=>∃k:Nat,k<=64/\t=.int .i64 k/\LdSt W (xA9 cs k) wr) (λt _=>64-(intOf t).toNat)
 case atStart=>exact⟨0,by omega,rfl,xXs W _ _ _ rfl⟩
 case round=>
  obtain⟨k,s,rfl,hs⟩:=hrel;by_cases hlt:k<64
  ·have v:(k:Int)<64:=by omega
   have m:=hx k hlt d;have q:=cs[k].toNat_lt;generalize c:cs[k]=b at m q;have hl:=kf cs k;have g:=h_ (show xA9 cs (k+1)=(xA9 cs k).set (k/4) (bits BinOp.or IntKind.u32 ((xA9 cs k).getD (k/4) 0*256%4294967296) (b.toNat:Int)) by rw[xA9];simp[d,hlt,c]);obtain⟨ws,a⟩:∃q,q=xA9 cs k:=⟨_,rfl⟩;rw[<-a]at hs hl g;have d1:=xBa hs.bw (k/4) (by omega);have u:=frozen_of_row wr (W.heap.size+2) (k/4) _ _ hs.bw;have HS:=h_ hs;clear hs c hx a hl;go_wp2;go_roundw
   case rel=>
    refine⟨k+1,by omega,by go_num,?_⟩;rw[g.out];have:=HS.set (k/4) (bits BinOp.or IntKind.u32 (ws.getD (k/4) 0*256%4294967296) (b.toNat:Int));simpa using this
   case measure=>simp[intOf];omega
  ·obtain rfl:k=64:=by omega
   clear hx;have hl:=kf cs 64;obtain⟨ws,a⟩:∃q,q=xA9 cs 64:=⟨_,rfl⟩;rw[<-a]at hs hl;have i:=h_ a;clear a;have f:=xF hs.bw (by rw[xPc,hl]:(encX ws).toArray.size=16);have p:=f.1;have o:=f.2;have j:=hs.br;have n:=fitsX hl;have HS:=h_ hs;clear f hs;go_wp2;obtain⟨zs,T,l,_⟩:=uQ j;have h:W.heap.size+2<wr.heap.size:=(i_ HS.bw).1;have r:=xF (setRow_heap wr (W.heap.size+1) zs (encX ws).toArray T (0,0) l) (show (encX ws).toArray.size=16 by rw[xPc,hl]);have c:=xH HS.bel (show W.heap.size<=W.heap.size+1 by omega) (encX ws).toArray;refine bodyPost_ret (zR rfl isAgg401 sizeOf401 _ _ ⟨W.heap.size+1,0,none⟩ (encX ws).toArray rfl ?_ ?_) rfl ⟨by rw[i.out],c⟩
   ·exact r.1
   ·exact r.2
end
section
theorem yE9 (xs:List Int)(i)(h:i<xs.length)(w):Sem.run prog (part 290 (xs.map λx=>Value.int .u32 x).toArray i) w=.ok (.int .u32 (xs[i]'h)) w:=by
 simp[part,isAgg290,h]
theorem xTs (a b c d e f g i)(k:Nat)(h:k<8)(w):
  Sem.run prog (Instr.index 437 (.agg #[.int .u32 a,.int .u32 b,.int .u32 c,.int .u32 d,.int .u32 e,.int .u32 f,.int .u32 g,.int .u32 i]) (.int .i64 k)) w=.ok (.int .u32 ([a,b,c,d,e,f,g,i][k]'h)) w:=by
 have j:prog.underlying 437=some (.array 8 290):=by kernel_rfl
 have l:=yE9 [a,b,c,d,e,f,g,i] k h w;simp only[Instr.index,asIntOf,G9,ay_,t2,run_underlying j];rw[if_pos ⟨by omega,by omega⟩];simp only[G9,sizeOf290,t2,ai_,U6];exact l
def xQ0 (v:W8)(k:Nat):Int:=[v.a,v.b,v.c,v.d,v.e,v.f,v.g,v.i].getD k 0
def digB (x:Int)(j:Nat):UInt8:=UInt8.ofNat ((x/2 ^ (24-8*j))%256).toNat
def digL (v:W8):Nat->List UInt8
 |0=>List.replicate 32 0
 |j+1=>(digL v j).set j (digB (xQ0 v (j/4)) (j%4))
theorem vR (v):∀j,(digL v j).length=32
 |0=>by simp[digL]
 |j+1=>by simp[digL,vR v j]
theorem yFt (x j):((digB x j).toNat:Int)=(x/2 ^ (24-8*j))%256:=by
 unfold digB;rw[UInt8.toNat_ofNat'];omega
structure DgSt (W0:World)(ds:List UInt8)(W:World):Prop where
 bel:Below W0.heap.size W0 W
 br:xN W (W0.heap.size+1) 32=true
 bw:W.heap[W0.heap.size+2]?=some (.cells (encB ds).toArray 341 (0,0))
theorem DgSt.set {a ds W}(s:DgSt a ds W)(i x):DgSt a (ds.set i x) (W.setCell ⟨a.heap.size+2,i,none⟩ (.int .u8 x.toNat)):=by
 have ho:∀k,k≠a.heap.size+2->(W.setCell ⟨a.heap.size+2,i,none⟩ (.int .u8 x.toNat)).heap[k]?=W.heap[k]?:=by grind
 refine⟨s.bel.setCell (by simp) _,?_,?_⟩
 ·have:=s.br;grind [xN]
 ·rw[heap_setCell_same W _ i _ _ _ s.bw];simp[encB]
theorem xYd (W cs zs T)(a:zs.size=32):
  DgSt W (List.replicate 32 0) (((W.alloc (.cells cs T)).alloc (.cells zs 341)).alloc (.cells (encB (List.replicate 32 0)).toArray 341)):=by
 refine⟨(((z_ _ _).alloc (w_ _) _).alloc (by simp) _).alloc (by simp;omega) _,?_,?_⟩
 ·grind [xN,xAq,World.size_alloc]
 ·grind
attribute [local go_sem ↓] xDk xC4
attribute [local go_sem] xXq xWx xh xg xe xd xx xy xk xj xq xB xw jK vY
theorem xYc (v W):Calls prog 247 #[.agg (encW v).toArray] W λe W'=>e=.returned (.agg (encB (digL v 32)).toArray)/\Below W.heap.size W W':=by
 obtain⟨a,b,c,d,e,f,g,i⟩:=v;obtain⟨v,hv⟩:∃v,v=W8.mk a b c d e f g i:=⟨_,rfl⟩;rw[<-hv];have F:=h_ hv;rw[hv];clear hv;have hx:=xTs a b c d e f g i;unfold encW;go_enter func247,ntmps247;go_wp2;go_loopw [24] (λt wr=>∃k:Nat,k<=8/\t=.int .i64 k/\DgSt W (digL v (4*k)) wr) (λt _=>8-(intOf t).toNat)
 case atStart=>exact⟨0,by omega,rfl,xYd W _ _ _ rfl⟩
 case round=>
  obtain⟨k,K,rfl,hs⟩:=hrel;by_cases hlt:k<8
  ·have L:(k:Int)<8:=by omega
   have y:=hx k hlt;have u:xQ0 v k=[a,b,c,d,e,f,g,i][k]:=by grind [xQ0]
   rw[<-u]at y;obtain⟨x,p⟩:∃x,x=xQ0 v k:=⟨_,rfl⟩;rw[<-p]at y;have E:=h_ p;have HS:=h_ hs;clear hs u hx p;go_wp2;go_loopw [28] (λt wr=>∃m:Nat,m<=4/\t=.int .i64 m/\DgSt W (digL v (4*k+m)) wr) (λt _=>4-(intOf t).toNat)
   case atStart=>exact⟨0,by omega,rfl,HS.out⟩
   case round=>
    obtain⟨m,J,rfl,hs⟩:=hrel;by_cases hlt2:m<4
    ·have o:=vR v (4*k+m);have w:=h_ (show digL v (4*k+m+1)=(digL v (4*k+m)).set (4*k+m) (digB x m) by rw[digL,E.out,show (4*k+m)/4=k by omega,show (4*k+m)%4=m by omega]);obtain⟨ds,h⟩:∃q,q=digL v (4*k+m):=⟨_,rfl⟩;rw[<-h]at hs w o;clear h;have D:=frozen_of_row wr (W.heap.size+2) (4*k+m) _ _ hs.bw;have d1:wr.cell? ⟨W.heap.size+2,4*k+m,none⟩=some (.int .u8 (ds[4*k+m]'(by omega)).toNat):=by
      rw[cell_of_row _ _ _ _ _ _ hs.bw];grind [encB]
     have l:=hs.set (4*k+m) (digB x m);rw[yFt]at l;rw[<-w.out]at l;have h4:m=0\/m=1\/m=2\/m=3:=by omega
     have j:=h_ l;clear hs l;rcases h4 with rfl|rfl|rfl|rfl
     ·simp only[aN_]at d1 D;go_wp2;go_roundw
      case rel=>exact⟨1,by omega,rfl,by simpa using j.out⟩
      case measure=>simp[intOf]
     ·go_wp2;go_roundw
      case rel=>exact⟨2,by omega,rfl,by simpa using j.out⟩
      case measure=>simp[intOf]
     ·go_wp2;go_roundw
      case rel=>exact⟨3,by omega,rfl,by simpa using j.out⟩
      case measure=>simp[intOf]
     ·go_wp2;go_roundw
      case rel=>exact⟨4,by omega,rfl,by simpa using j.out⟩
      case measure=>simp[intOf]
    ·obtain rfl:m=4:=by omega
     have C:=h_ hs;clear hs;go_wp2;go_roundw
     case rel=>exact⟨k+1,by omega,by go_num,by have:=C.out;rw[show 4*(k+1)=4*k+4 by omega];exact this⟩
     case measure=>simp[intOf];omega
  ·obtain rfl:k=8:=by omega
   clear hx;have hl:=vR v 32;obtain⟨ds,h⟩:∃q,q=digL v 32:=⟨_,rfl⟩;rw[show 4*8=32 from rfl,<-h]at hs;rw[<-h]at hl;have s:=h_ h;clear h;have n:=xF hs.bw (by rw[vb,hl]:(encB ds).toArray.size=32);have I:=n.1;have H:=n.2;have z:=hs.br;have G:=xM8 hl;have HS:=h_ hs;clear n hs;go_wp2;obtain⟨zs,T,A,_⟩:=uQ z;have r:=xF (setRow_heap wr (W.heap.size+1) zs (encB ds).toArray T (0,0) A) (show (encB ds).toArray.size=32 by rw[vb,hl]);have B:=xH HS.bel (show W.heap.size<=W.heap.size+1 by omega) (encB ds).toArray;refine bodyPost_ret (zR rfl isAgg341 sizeOf341 _ _ ⟨W.heap.size+1,0,none⟩ (encB ds).toArray rfl ?_ ?_) rfl ⟨by rw[s.out,F.out],B⟩
   ·exact r.1
   ·exact r.2
end
section
theorem xHz (w:World)(lb cs):w.grownBy (w.setRow lb cs) (some lb):=
 ⟨rfl,rfl,rfl,by simp[World.setRow],λk _ a=>by
  unfold World.setRow;simp only[ba_];rw[if_neg (λe=>a (by rw[e]))]⟩
theorem xRe (w:World)(lb j v):w.grownBy (w.setCell ⟨lb,j,none⟩ v) (some lb):=
 ⟨rfl,rfl,rfl,by simp[World.setCell],λk _ a=>heap_setCell_other w ⟨lb,j,none⟩ k v (λe=>a (by rw[e]))⟩
theorem vl {a b c:World}{r}(h:a.grownBy b r)(k:b.grownBy c r):a.grownBy c r:=
 ⟨k.os.trans h.os,k.tape.trans h.tape,k.output.trans h.output,R_ h.size k.size,λi e d=>(k.block i (b7 e h.size) d).trans (h.block i e d)⟩
theorem ql {w w'}(h:Below w.heap.size w w')(r):w.grownBy w' r:=⟨h.os,h.tape,h.output,h.size,λk a _=>h.block k a⟩
theorem xZp (w:World)(r):w.grownBy w r:=⟨rfl,rfl,rfl,w_ _,λ_ _ _=>rfl⟩
theorem xY2 {a b:World}{r}(h:a.drew.grownBy b r):a.grownBy b r:=⟨h.os,h.tape,h.output,h.size,h.block⟩
theorem xW4 {w W w' B lb}(h:Below B w W)(a:W.grownBy w' (some lb))(b:B<=W.heap.size)(c:B<=lb):Below B w w':=h.grown a b (λk e=>by cases e;exact c)
theorem xRf {w w':World}{c a v}(d:w.grownBy w' (some c))(b:a.block≠c)(h:w.cell? a=some v):w'.cell? a=some v:=by
 have hl:=block_lt_of_cell h;have f:=d.block a.block hl (λe=>b (by cases e;rfl));grind [World.cell?]
structure HS where
 st:W8
 blk:List UInt8
 n:Nat
def y7 (s:HS):List Value:=encW s.st++(encB s.blk++[.int .i64 s.n])
structure zz (w:World)(hb:Nat)(s:HS):Prop where
 row:w.heap[hb]?=some (.cells (y7 s).toArray 398 (0,0))
 len:s.blk.length=64
theorem qP {s}(h:s.blk.length=64):(y7 s).length=73:=by simp[y7,xQ,encW,h]
theorem zz.lt {w a s}(h:zz w a s):a<w.heap.size:=(i_ h.row).1
theorem zz.same {w w' a s}(h:zz w a s)(e:w'.heap[a]?=w.heap[a]?):zz w' a s:=⟨e.trans h.row,h.len⟩
theorem ks {P t n}(hs:∀w,Sem.run P (Go.sizeOf t) w=.ok n w)(w g off)(cur:List Value)(T)(b:w.heap[g]?=some (.cells cur.toArray T (0,0)))(cs)
  (a:cs.length=n) (c:off+n<=cur.length) (h1:∀v∈cs,v.oneCell'=true):yi P t w (.pointer (some ⟨g,off,none⟩)) (.agg cs.toArray)=.ok .skip (w.setRow g (cur.take off++cs++cur.drop (off+n)).toArray):=by
 have h:=run_storeCells_at P g off T cs 0 cur.toArray w b (by simpa[a]using c) h1;simp only[aN_,a]at h;unfold yi;rw[G9];have h2:Sem.run P (Instr.storeAt t (.pointer (some ⟨g,off,none⟩)) (.agg cs.toArray)) w=.ok () (w.setRow g (cur.take off++cs++cur.drop (off+n)).toArray):=by
  simp[Instr.storeAt,Instr.sureAddr,storeVar,hs,Value.cells,a,h]
 rw[h2];rfl
theorem xVn (v):∀x∈encW v,x.oneCell'=true:=by
 intro x hx;simp only[encW,g8,ak_,or_false]at hx;rcases hx with rfl|rfl|rfl|rfl|rfl|rfl|rfl|rfl <;> rfl
theorem xT8 (w a s v)(h:zz w a s):yi prog 395 w (.pointer (some ⟨a,0,none⟩)) (.agg (encW v).toArray)=.ok .skip (w.setRow a (y7 { s with st:=v }).toArray):=by
 have:=ks sizeOf395 w a 0 (y7 s) _ h.row (encW v) rfl (by rw[qP h.len];omega) (xVn v);rw[this];rfl
theorem zz.setState {w a s}(h:zz w a s)(v):zz (w.setRow a (y7 { s with st:=v }).toArray) a { s with st:=v }:=⟨setRow_heap _ _ _ _ _ _ h.row,h.len⟩
theorem xY1 (s)(h:s.blk.length=64)(m:Nat):(y7 s).toArray.setIfInBounds 72 (.int .i64 m)=(y7 { s with n:=m }).toArray:=by
 rw[U1];congr 1;unfold y7;rw[V7 _ _ (by simp[encW]),V7 _ _ (by simp[encW,xQ,h])];simp[encW,xQ,h]
theorem zz.setN {w a s}(h:zz w a s)(m:Nat):zz (w.setCell ⟨a,72,none⟩ (.int .i64 m)) a { s with n:=m }:=by
 refine⟨?_,h.len⟩;rw[heap_setCell_same w a 72 _ _ _ h.row,xY1 s h.len]
theorem zz.cellN {w a s}(h:zz w a s):w.cell? ⟨a,72,none⟩=some (.int .i64 s.n):=by
 rw[cell_of_row _ _ _ _ _ _ h.row];unfold y7;rw[l7,M1 (by simp[encW]),M1 (by simp[encW,xQ,h.len])];simp[encW,xQ,h.len]
theorem zz.rdState {w b s}(h:zz w b s):xp w ⟨b,0,none⟩ 8=true/\xo w ⟨b,0,none⟩ 8=(encW s.st).toArray:=by
 have:=yl (w:=w) (a:=⟨b,0,none⟩) (cs:=encW s.st) (λj v c=>by
  rw[l8,m0,cell_of_row _ _ _ _ _ _ h.row,l7];unfold y7;have hl:j<(encW s.st).length:=by grind
  rw[I3 hl];exact c)
 simpa[encW]using this
theorem zz.rdBlk {w b s}(h:zz w b s):xp w ⟨b,8,none⟩ 64=true/\xo w ⟨b,8,none⟩ 64=(encB s.blk).toArray:=by
 have:=yl (w:=w) (a:=⟨b,8,none⟩) (cs:=encB s.blk) (λj v c=>by
  rw[l8,cell_of_row _ _ _ _ _ _ h.row,l7];unfold y7;have hl:j<(encB s.blk).length:=by grind
  rw[M1 (by simp[encW]),I3 (by simp[encW];exact hl)];simpa[encW]using c)
 simpa[xQ,h.len]using this
def lay (blk:List UInt8)(k:Nat)(cs:List UInt8):List UInt8:=blk.take k++cs++blk.drop (k+cs.length)
theorem xFb {blk k cs}(h:k+cs.length<=blk.length):(lay blk k cs).length=blk.length:=by
 simp[lay];omega
theorem yF7 (s)(h:s.blk.length=64)(k cs)(b:k+cs.length<=64):
  (y7 s).take (8+k)++(encB cs++(y7 s).drop (8+k+cs.length))=y7 { s with blk:=lay s.blk k cs }:=by
 unfold y7 lay;have a:(encW s.st).length=8:=rfl;have eb:(encB s.blk).length=64:=by rw[xQ,h]
 rw[List.take_append,v6 (by omega),List.take_append,ad_,List.drop_of_length_le (by omega),ad_,a,eb];rw[show 8+k-8=k by omega,show k-64=0 by omega,show 8+k+cs.length-8=k+cs.length by omega,show k+cs.length-64=0 by omega];simp[encB,B8]
noncomputable def xOp (K:Nat->Int)(st:W8)(blk:List UInt8):W8:=xZb st (xIo K st (xA9 blk 64) 64).1
noncomputable def xH8 (K:Nat->Int)(s:HS)(cs:List UInt8):HS:=
 let m:=min (64-s.n%64) cs.length
 let blk:=lay s.blk (s.n%64) (cs.take m)
 ⟨if (s.n+m)%64=0 then xOp K s.st blk else s.st,blk,s.n+m⟩
noncomputable def wrGo (K:Nat->Int):Nat->HS->List UInt8->HS
 |0,s,_=>s
 |f+1,s,cs=>if cs.length=0 then s else wrGo K f (xH8 K s cs) (cs.drop (min (64-s.n%64) cs.length))
noncomputable def xAx (K:Nat->Int)(s:HS)(cs:List UInt8):HS:=wrGo K cs.length (if s.n=0 then { s with st:=xJ6 }else s) cs
theorem xY (a:Addr)(j):(a.add j).block=a.block:=by unfold Addr.add;split <;> rfl
theorem xH2 (a:Addr)(m j):(a.add m).add j=a.add (m+j):=by
 unfold Addr.add;grind
def xKs:Value->Nat
 |.slice _ n _=>n
 |_=>0
structure SlB (w:World)(a:Addr)(cs:List UInt8):Prop where
 cell:∀j c,cs[j]?=some c->w.cell? (a.add j)=some (.int .u8 c.toNat)
theorem SlB.keep {w w' a cs}(h:SlB w a cs){d}(f:w.grownBy w' (some d))(b:a.block≠d):SlB w' a cs:=
 ⟨λj c e=>xRf f (by rw[xY];exact b) (h.cell j c e)⟩
theorem SlB.drop {w a cs}(h:SlB w a cs)(m):SlB w (a.add m) (cs.drop m):=
 ⟨λj c b=>by rw[xH2];exact h.cell (m+j) c (by simpa using b)⟩
structure WrSt (K:Nat->Int)(R:HS)(W0:World)(hb:Nat)(s:HS)(cs:List UInt8)(a:Addr)(cap:Nat)(f:Nat)(W:World):Prop where
 gr:W0.grownBy W (some hb)
 hash:zz W hb s
 sl:SlB W a cs
 ne:a.block≠hb
 le:cs.length<=cap
 fuel:cs.length<=f
 go:wrGo K f s cs=R
 bound:s.n+cs.length<=4611686018427387904
 k:Sk K W
 gl:4<W0.heap.size
 gh:hb≠4
theorem Sk.grown {K:Nat->Int}{w w'}(h:Sk K w){b}(c:w.grownBy w' (some b))(a:b≠4):Sk K w':=
 ⟨λt ht=>xRf c (λe=>a e.symm) (h.tab t ht)⟩
attribute [local go_sem ↓] kT xAd xJk
attribute [local go_sem] xUq yEv xh xg xe xd
theorem yH3 (a k:Nat)(d:k<64)(w):Sem.run prog (Instr.sliceAt 396 (.pointer (some ⟨a,8,none⟩)) (some (.int .i64 (k:Int))) none none) w=.ok (.slice (some ⟨a,8+k,none⟩) (64-k) (64-k)) w:=by
 have b:prog.arrayLen 396=64:=by kernel_rfl
 have c:prog.elem 396=5:=by kernel_rfl
 rw[run_sliceAt_array_l w 396 ⟨a,8,none⟩ (by kernel_rfl) .i64 (k:Int) (by omega) (by rw[b];omega)];rw[b,c,sizeOf5];simp only[t2,slicedAt,U6,ai_,l8];rw[if_neg (by omega)]
theorem xO3 (K:Nat->Int)(d s a cs cap W)(h:zz W d s)(hs:SlB W a cs)(p:a.block≠d)(bE:cs.length<=cap)(N:s.n+cs.length<=4611686018427387904)(hK:Sk K W)(Zj:d≠4):
  Calls prog 217 #[.pointer (some ⟨d,0,none⟩),.slice (some a) cs.length cap] W λe W'=>e=.returned (.int .i64 0)/\W.grownBy W' (some d)/\zz W' d (xAx K s cs):=by
 have start:∀S,W.grownBy S (some d)->zz S d (if s.n=0 then { s with st:=xJ6 }else s)->WrSt K (xAx K s cs) W d (if s.n=0 then { s with st:=xJ6 }else s) cs a cap cs.length S:=λS C h1=>
  ⟨C,h1,hs.keep C p,p,bE,w_ _,rfl,by split <;> exact N,hK.grown C Zj,hK.lt,Zj⟩
 have P:=h_ start;have A:=h_ h;have c1:=h.cellN;by_cases h0:s.n=0
 case' pos=>
  have I:=h_ h0;rw[h0]at c1;clear start h hs h0;go_enter func217,ntmps217;go_wp2_with (go_at_call 244;refine(yEz _).mono ?_;rintro e U ⟨rfl,O⟩;have Dr:=xT8 U d s xJ6 (A.same (O.block _ A.lt)));have i:=P.out _ (vl (ql O (some d)) (xHz U d _)) (by rw[if_pos I.out];exact(A.same (O.block _ A.lt)).setState xJ6);generalize U.setRow d (y7 { st:=xJ6,blk:=s.blk,n:=s.n }).toArray=w2 at i⊢;clear Dr O c1 P A I hK p bE N
 case' neg=>
  have I:=h_ h0;have Z:((s.n:Int)==0)=false:=by rw[beq_eq_false_iff_ne];omega
  clear start h hs h0;go_enter func217,ntmps217;go_wp2;have i:=P.out W (xZp W _) (by rw[if_neg I.out];exact A.out);clear c1 Z P A I hK p bE N
 all_goals
  obtain⟨R,Y⟩:∃R,R=xAx K s cs:=⟨_,rfl⟩;have HR:=h_ Y;rw[<-Y]at i;clear Y;generalize nu:(if s.n=0 then { s with st:=xJ6 }else s)=s0 at i;clear nu;have eN:=h_ i;clear i;go_loopw [1] (λv wr=>∃s cs a cap f,v=.slice (some a) cs.length cap/\WrSt K R W d s cs a cap f wr) (λv _=>xKs v)
  case atStart=>exact⟨s0,cs,a,cap,cs.length,rfl,eN.out⟩
  case round=>
   obtain⟨s,cs,a,cap,f,rfl,x⟩:=hrel;by_cases hz:cs.length=0
   ·have Zk:s=R:=by
     have:=x.go;cases f with
     |zero=>exact this
     |succ f=>rw[wrGo,if_pos hz]at this;exact this
    have be:(cs.length:Int)=0:=by omega
    have g:=h_ x;have tw:=h_ Zk;clear x Zk;go_wp2;go_ret;exact⟨rfl,g.gr,by rw[<-HR.out,<-tw.out];exact g.hash⟩
   ·have aP:0<cs.length:=by omega
    have be:(0:Int)<cs.length:=by omega
    obtain⟨k,hk⟩:∃k,k=s.n%64:=⟨_,rfl⟩;obtain⟨m,hm⟩:∃m,m=min (64-s.n%64) cs.length:=⟨_,rfl⟩;have Td:k<64:=by omega
    have lT:0<m:=by omega
    have fE:m<=cs.length:=by omega
    have E9:k+m<=64:=by omega
    have RM:=x.le;have N:=x.bound;have f1:((s.n:Int)).tmod 64=(k:Int):=by rw[ar_ (by omega)];omega
    have d1:=x.hash.cellN;have g:=h_ x;have HK:=h_ hk;have T:=h_ hm;clear x hk hm hz;have cm:=yH3 d k Td;go_upto_region 6 with (fail)
    refine xz [0,1,2,3,4,5,6,7,8,9] [10,11] (λw'=>w'=wr.drew) rfl ?_;simp only[o_]
    repeat (go_big_quiet_step (fail))
    refine wpQuiet_nil ?_;refine yE ?_;simp only[o_];clear f1 d1;have bD:(encB (cs.take m)).length=m:=by rw[xQ,x8];omega
    have G:=h_ bD;clear bD;refine wpList_copy_own rfl (.tmp 28) (.tmp 29) 23 23 rfl 5 underlying23 (by kernel_rfl) d (8+k) (64-k) (64-k) a cs.length cap rfl rfl (y7 s).toArray _ g.hash.row (encB (cs.take m)) ?h1 ?h2 ?h3 ?h4 ?_
    case h1=>rw[G.out,T.out,HK.out];exact(Nat.min_comm _ _)
    case h2=>
     intro j u o;show wr.cell? _=_
     have hl:j<(cs.take m).length:=by
      rcases cl_ j (cs.take m).length with h|h
      ·exact h
      ·rw[aZ_ (by rw[xQ];exact h)]at o;cases o
     have X:j<m:=by rw[x8]at hl;omega
     simp only[encB,R1,aQ_ X]at o;cases hq:cs[j]? with
     |none=>rw[hq]at o;cases o
     |some c=>
      rw[hq]at o;simp only[aa_,ag_]at o;rw[<-o];exact g.sl.cell j c hq
    case h3=>rw[G.out];simp only[T9,qP g.hash.len];omega
    case h4=>
     intro u hu;simp only[encB,D4]at hu;obtain⟨b,_,rfl⟩:=hu;rfl
    have HL:=h_ (show ((y7 s).toArray.toList.take (8+k)++(encB (cs.take m)++(y7 s).toArray.toList.drop (8+k+(encB (cs.take m)).length))).toArray=(y7 { s with blk:=lay s.blk k (cs.take m) }).toArray by
     rw[G.out];have:=yF7 s g.hash.len k (cs.take m) (by rw[x8];omega);rw[x8,aL_ fE]at this;exact congrArg List.toArray this)
    rw[HL.out,G.out];clear HL;have V:(lay s.blk k (cs.take m)).length=64:=by rw[xFb (by rw[x8,g.hash.len];omega),g.hash.len]
    have M:wr.grownBy (wr.drew.setRow d (y7 { s with blk:=lay s.blk k (cs.take m) }).toArray) (some d):=xY2 (xHz wr.drew d _);have B:zz (wr.drew.setRow d (y7 { s with blk:=lay s.blk k (cs.take m) }).toArray) d { s with blk:=lay s.blk k (cs.take m) }:=⟨setRow_heap _ _ _ _ _ _ g.hash.row,V⟩;obtain⟨blk,cy⟩:∃q,q=lay s.blk k (cs.take m):=⟨_,rfl⟩;rw[<-cy]at M B V⊢;generalize wr.drew.setRow d (y7 { s with blk:=blk }).toArray=w3 at M B⊢;have c3:=B.cellN;have d3:=frozen_of_row w3 d 72 _ _ B.row;have Dt:=h_ cy;have Te:=h_ M;have CK:=h_ B;clear cy M B V G;have Tf:(m:Int)<=cs.length:=by omega
    have Du:(m:Int)<=cap:=by omega
    unfold goInt;go_wp2;refine T_ ?_;go_upto_region 9 with (fail)
    clear cm c3 d3 Tf Du;have H:=CK.setN (s.n+m);have e4:((s.n+m:Nat):Int)=(s.n:Int)+m:=by omega
    rw[e4]at H;have L:=vl Te.out (xRe w3 d 72 (.int .i64 ((s.n:Int)+m)));generalize w3.setCell ⟨d,72,none⟩ (.int .i64 ((s.n:Int)+m))=w4 at H L⊢;obtain⟨y,Ac,ai,dB⟩:∃y,(if cap=m then some a else some (a.add m))=some y/\y.block=a.block/\SlB wr y (cs.drop m):=by
     by_cases hcm:cap=m
     ·refine⟨a,if_pos hcm,rfl,⟨λj c o=>?_⟩⟩;rw[M0 (by omega)]at o;cases o
     ·exact⟨a.add m,if_neg hcm,xY _ _,g.sl.drop m⟩
    rw[Ac];have fF:=dB.keep L (by rw[ai];exact g.ne);have c4:=H.cellN;rw[e4]at c4;have LV:∃D,f=D+1:=⟨f-1,by have:=g.fuel;omega⟩;obtain⟨D,rfl⟩:=LV;have fh:=g.go;rw[wrGo,if_neg (by omega),<-T.out]at fh;have w:WrSt K R W d s cs a cap (D+1) wr:=g.out;have fin:∀t F,wr.grownBy t (some d)->zz t d F->F=xH8 K s cs->SlB t y (cs.drop m)->WrSt K R W d F (cs.drop m) y (cap-m) D t:=λt F C hh he cm=>by
     refine⟨vl w.gr C,hh,cm,by rw[ai];exact w.ne,by rw[E0];omega,by rw[E0];have:=w.fuel;omega,by rw[he];exact fh,?_,w.k.grown C w.gh,w.gl,w.gh⟩;have:F.n=s.n+m:=by rw[he,xH8,T.out]
     rw[this,E0];omega
    have FIN:=h_ fin;have gL:s.n%64=k:=HK.symm;have ot:∀st,(if (s.n+m)%64=0 then xOp K s.st blk else s.st)=st->(⟨st,blk,s.n+m⟩:HS)=xH8 K s cs:=λst h=>by
     have LW:min (64-k) cs.length=m:=by rw[T.out,gL]
     rw[xH8];simp only[gL,LW,<-Dt.out];rw[h]
    have tv:=h_ ot;have em:=h_ fF;have l:=h_ H;have He:=h_ L;have lU:(s.n:Int)+m<=4611686018427387904:=by omega
    have fj:(((cs.drop m).length:Nat))=cs.length-m:=by rw[E0]
    have Hf:=h_ fj;clear H L Ac dB fF fh w fin gL ot fj e4;by_cases hz:(s.n+m)%64=0
    ·have Tg:((s.n:Int)+m).tmod 64=0:=by rw[ar_ (by omega)];omega
     have HZ:=h_ hz;clear hz;go_upto_region 10 with (fail)
     clear Tg c4;have q1:∀z:xf w4,xp z.1 ⟨d,0,none⟩ 8=true:=λz=>(l.same (z.2.block _ l.lt)).rdState.1
     have q2:∀z:xf w4,xo z.1 ⟨d,0,none⟩ 8=(encW s.st).toArray:=λz=>(l.same (z.2.block _ l.lt)).rdState.2
     have q3:∀z:xf w4,xp z.1 ⟨d,8,none⟩ 64=true:=λz=>(l.same (z.2.block _ l.lt)).rdBlk.1
     have q4:∀z:xf w4,xo z.1 ⟨d,8,none⟩ 64=(encB blk).toArray:=λz=>(l.same (z.2.block _ l.lt)).rdBlk.2
     refine xz [0,1,2,3,4,5,6,7,8] [9,10,11,12,13] (λw'=>∃z:xf w4,w'=z.1) ⟨⟨_,(z_ _ _).drew⟩,rfl⟩ ?_;simp only[o_]
     repeat (go_big_quiet_step (fail))
     refine wpQuiet_nil ?_;clear q1 q2 q3 q4;refine jI true rfl (by kernel_rfl) ?_;go_wp2_with (go_at_call 246;refine(yEn _ l.len _).mono ?_;rintro e t ⟨rfl,Q⟩);refine⟨λ_=>⟨⟨t,(z_ w4.heap.size w4).drew.trans Q⟩,rfl⟩,?_⟩;refine jI true rfl (by kernel_rfl) ?_;have dC:Sk K t:=((g.k.grown He.out g.gh).below (z_ w4.heap.size _).drew (w_ _)).below Q (w_ _);have CL:=h_ dC;have bR:=h_ Q;clear dC Q;go_wp2_with (go_at_call 245;refine(xU2 K _ _ (kf _ _) _ CL.out).mono ?_;rintro e E ⟨rfl,bM⟩);have J:Below w4.heap.size w4 E:=((z_ w4.heap.size w4).drew.trans bR.out).trans (bM.mono bR.size);refine⟨λ_=>⟨⟨E,J⟩,rfl⟩,yE ?_⟩;simp only[o_];have LX:=l.same (J.block _ l.lt);have nw:=xT8 E d _ (xOp K s.st blk) LX;have LY:=LX.setState (xOp K s.st blk);have Hg:=vl He.out (vl (ql J (some d)) (xHz E d (y7 { st:=xOp K s.st blk,blk:=blk,n:=s.n+m }).toArray));have cw:=FIN.out _ _ Hg LY (tv.out _ (if_pos HZ.out)) (em.keep (vl (ql J (some d)) (xHz E d _)) (by rw[ai];exact g.ne));have dj:=h_ cw;unfold xOp at nw;clear LX LY Hg J bM cw;go_wp2;refine T_ ?_;clear nw;go_wp2;go_roundw
     case rel=>exact⟨_,cs.drop m,y,cap-m,D,by rw[Hf.out],dj.out⟩
     case measure=>simp[xKs];omega
    ·obtain⟨r,hr⟩:∃r:Nat,r=(s.n+m)%64:=⟨_,rfl⟩;have Tg:((s.n:Int)+m).tmod 64=(r:Int):=by rw[ar_ (by omega)];omega
     have Th:((r:Int)==0)=false:=by rw[beq_eq_false_iff_ne];omega
     have HZ:=h_ hz;clear hz hr;go_wp2;clear Tg Th c4;go_roundw
     case rel=>exact⟨_,cs.drop m,y,cap-m,D,by rw[Hf.out],FIN.out _ _ He.out l.out (tv.out _ (if_neg HZ.out)) em.out⟩
     case measure=>simp[xKs];omega
end
theorem xJl (l r):encB (l++r)=encB l++encB r:=by simp[encB]
theorem vr (l j)(h:j<l.length):(encB l)[j]?=some (.int .u8 (l[j]'h).toNat):=by simp[encB,h]
theorem zP (l):∀v∈encB l,v.oneCell'=true:=by
 intro v hv;simp only[encB,D4]at hv;obtain⟨b,_,rfl⟩:=hv;rfl
def OwnB (w:World)(B:Nat)(v:Value)(l:List UInt8):Prop:=w.ownsRow B 5 1 v l.length (encB l)
theorem Tryz.info_byte:(prog.info? 5).map (λi=>(i.zero,i.size,i.bytes))=some (some (.int .u8 0),1,1):=by kernel_rfl
theorem OwnB.grown {w w' B v l}(h:OwnB w B v l){r}(c:w.grownBy w' r)(a:∀k,r=some k->v.ownBlock≠some k):OwnB w' B v l:=
 bt_ (row:=r) h c (by
  cases hv:v.ownBlock with
  |none=>simp
  |some b=>
   right
   intro e;exact a b e.symm hv)
theorem OwnB.below {w w' B v l}(h:OwnB w B v l)(a:Below w.heap.size w w'):OwnB w' B v l:=
 h.grown (ql a none) (λk e=>by cases e)
theorem OwnB.nil (w B):OwnB w B (.slice none 0 0) []:=D1 _ _ _ _
theorem OwnB.lt {w B v l}(h:OwnB w B v l){k}(a:v.ownBlock=some k):B<=k/\k<w.heap.size:=s5 h k a
theorem OwnB.base {w B B' v l}(h:OwnB w B v l)(b:B'<=B):OwnB w B' v l:=
 ⟨h.1,h.2.imp (λh=>h) λ⟨g,cap,cur,hv,a,r⟩=>⟨g,cap,cur,hv,R_ b a,r⟩⟩
theorem OwnB.at {w B v l}(h:OwnB w B v l):(v=.slice none 0 0/\l=[])\/∃g cap,v=.slice (some ⟨g,0,none⟩) l.length cap/\B<=g/\l.length<=cap/\cap<=maxLen/\SlB w ⟨g,0,none⟩ l:=by
 rcases h.2 with⟨hv,i⟩|⟨g,cap,cur,hv,a,m,e,d,n,k⟩
 ·grind
 ·refine .inr ⟨g,cap,hv,a,e,d,⟨λj c f=>?_⟩⟩;have b:j<l.length:=by grind
  subst hv;have:=bM_ h j (by omega);rw[l8,m0,this,vr l j b];grind
theorem OwnB.new (w:World)(B l)(a:B<=w.heap.size)(hl:l.length<=maxLen):OwnB (w.alloc (.cells (encB l).toArray 5)) B (.slice (some ⟨w.heap.size,0,none⟩) l.length l.length) l:=
 ⟨by rw[xQ,ai_],.inr ⟨w.heap.size,l.length,(encB l).toArray,rfl,a,heap_alloc_new w _,w_ _,hl,by rw[vb,ai_],by rw[ai_];simp[v6 (show (encB l).length<=l.length by rw[xQ];omega)]⟩⟩
theorem zD {rest ops o a}{Q:Exit->Act->World->Prop}{w}(b:o.guard=none)(s x)
  (ho:o.op=.call { callee:=.builtin .append,args:=#[s,x],argTypes:=#[23,23] }) (B) (v) (l) (hs:a.eval s=v) (p:OwnB w B v l)
  (ad) (r) (c) (hx:a.eval x=.slice (some ad) r.length c) (g:SlB w ad r) (t:l.length+r.length<=1000000000000) (k:B<=w.heap.size)
  (h:∀v' w',OwnB w' B v' (l++r)->w.grownBy w' v.ownBlock->(v'=.slice none 0 0↔v=.slice none 0 0/\r.length=0)->wpList prog ops Q rest (a.put o.dst v') w'):wpList prog ops Q (o :: rest) a w:=by
 obtain⟨f,i,m,q,n⟩:=info_parts Tryz.info_byte;refine wpList_append_own w b s x 23 ho B 5 f (.int .u8 0) 1 1 underlying23 i m q n rfl (by decide) v l.length (encB l) hs p ad r.length c (encB r) hx (by rw[xQ,ai_]) (λj u d=>?_) (zP r) (by unfold maxLen;omega) (by omega) k λv' w' h1 h2 h3=>?_
 ·have e:j<r.length:=by grind [Nat.lt_or_ge,List.getElem?_eq_none,xQ]
  rw[vr r j e]at d;cases d;exact g.cell j _ (U_ e)
 ·grind [OwnB,xJl,List.length_append]
section
def zeroW:W8:=⟨0,0,0,0,0,0,0,0⟩
def jq:HS:=⟨zeroW,List.replicate 64 0,0⟩
theorem yF6 (w:World):zz (w.alloc (.cells (y7 jq).toArray 398)) w.heap.size jq:=⟨heap_alloc_new w _,by simp[jq]⟩
theorem xEy (ρ:Operand->Value)(d)(ty:TypeId)(pos af g w):
  Sem.run prog (execOp ρ ⟨d,.alloc 398,ty,pos,af,g⟩) w=.ok (.value (.pointer (some ⟨w.heap.size,0,none⟩))) (w.alloc (.cells (y7 jq).toArray 398)):=by kernel_rfl
theorem yF2 (W):Calls prog 216 #[] W λe W'=>e=.returned (.pointer (some ⟨W.heap.size,0,none⟩))/\W'=W.alloc (.cells (y7 jq).toArray 398):=by
 go_enter func216,ntmps216;go_wp2_with (simp only[xEy]);go_ret;exact⟨rfl,rfl⟩
def padZ (n:Nat):Nat:=(119-n%64)%64
def cntB (c k:Nat):UInt8:=UInt8.ofNat (c/2 ^ (56-8*k))
theorem yFx (c k):((cntB c k).toNat:Int)=(c:Int)/2 ^ (56-8*k)%256:=by simp[cntB]
def padL (n:Nat)(k:Nat):List UInt8:=128 :: (List.replicate (padZ n) 0++(List.range k).map (cntB (8*n)))
theorem xU8 (n k):(padL n k).length=1+padZ n+k:=by simp[padL];omega
theorem yB9 (n k):padL n (k+1)=padL n k++[cntB (8*n) k]:=by simp[padL,bQ_]
noncomputable def sumF (K:Nat->Int)(s:HS):List UInt8:=digL (xAx K s (padL s.n 8)).st 32
attribute [local go_sem ↓] kT xDk xC4 xRp xNr
attribute [local go_sem] xUq xXq xWx yHi yH1 xh xg xe xd xx xy xk xj xq xB xw
structure xCm (W0:World)(v:Value)(l:List UInt8)(W:World):Prop where
 own:OwnB W (W0.heap.size+1) v l
 bel:Below W0.heap.size W0 W
 ro:xN W W0.heap.size 32=true
 ne:l≠[]
theorem xCm.at {a v l W}(h:xCm a v l W):∃g cap,v=.slice (some ⟨g,0,none⟩) l.length cap/\a.heap.size+1<=g/\l.length<=cap/\cap<=maxLen/\SlB W ⟨g,0,none⟩ l:=by
 rcases h.own.at with⟨_,b⟩|h1
 ·exact absurd b h.ne
 ·exact h1
theorem xCm.later {a v l W W'}(h:xCm a v l W)(b:Below W.heap.size W W'):xCm a v l W':=by
 have hl:a.heap.size<W.heap.size:=by
  obtain⟨c,T,d,_⟩:=uQ h.ro;grind
 refine⟨h.own.below b,h.bel.trans (b.mono h.bel.size),?_,h.ne⟩;have:=h.ro;grind [xN]
theorem xCm.app {a v v' l r W W'}(h:xCm a v l W)(ho:OwnB W' (a.heap.size+1) v' (l++r))(d:W.grownBy W' v.ownBlock):xCm a v' (l++r) W':=by
 have hl:a.heap.size<W.heap.size:=by
  obtain⟨c,T,f,_⟩:=uQ h.ro;grind
 have b:∀k,v.ownBlock=some k->a.heap.size+1<=k:=λk e=>(h.own.lt e).1
 refine⟨ho,h.bel.grown d h.bel.size (λk e=>by have:=b k e;omega),?_,by simp[h.ne]⟩;have:=h.ro;unfold xN at this⊢;rw[d.block _ hl (λe=>by have:=b _ e.symm;omega)];exact this
theorem xU7 (W zs)(a:zs.size=32):xCm W (.slice (some ⟨W.heap.size+1,0,none⟩) 1 1) (128 :: List.replicate 0 0) ((W.alloc (.cells zs 341)).alloc (.cells #[.int .u8 128] 5)):=by
 have h1:=OwnB.new (W.alloc (.cells zs 341)) (W.heap.size+1) [128] (by simp) (by unfold maxLen;simp);rw[U7]at h1;exact⟨h1,((z_ _ _).alloc (w_ _) _).alloc (by simp) _,qB _ (zV _ _ _ _ _ rfl a),by simp⟩
theorem vX (w:World)(T l):SlB (w.alloc (.cells (encB l).toArray T)) ⟨w.heap.size,0,none⟩ l:=
 ⟨λj c a=>by
  have hl:j<l.length:=by grind
  rw[l8,m0,yD,l7,vr l j hl];rw[U_ hl]at a;cases a;rfl⟩
theorem yF8 (s):(y7 s).toArray.all (·.oneCell')=true:=by
 rw[B3];intro v hv;simp only[y7,List.mem_toArray,m3,S_]at hv;rcases hv with h|h|h
 ·exact xVn _ v h
 ·exact zP _ v h
 ·rw[h];rfl
theorem yJ8:((y7 jq).toArray.size==73)=true:=rfl
attribute [local go_sem ↓] xEy
theorem lenH0:(y7 jq).length=73:=rfl
attribute [local go_sem] yJ8 lenH0
theorem yF0 (K:Nat->Int)(U s W)(h:zz W U s)(hK:Sk K W)(hn:s.n<=1000000):
  Calls prog 218 #[.pointer (some ⟨U,0,none⟩)] W λe W'=>e=.returned (.agg (encB (sumF K s)).toArray)/\Below W.heap.size W W':=by
 have HH:=h_ h;have HK:=h_ hK;have C:=h.lt;clear h hK;have bD:∀wr,Below W.heap.size W wr->wr.cell? ⟨U,72,none⟩=some (.int .i64 s.n):=λwr cQ=>(HH.same (cQ.block _ C)).cellN
 have HC:=h_ bD;clear bD;go_enter func218,ntmps218;go_wp2;go_loopw [3] (λv wr=>∃z,z<=padZ s.n/\xCm W v (128 :: List.replicate z 0) wr) (λv _=>padZ s.n+1-xKs v)
 case atStart=>
  exact⟨0,by omega,xU7 W _ rfl⟩
 case round=>
  obtain⟨z,hz,d⟩:=hrel;obtain⟨g,cap,hv,hg,F,Z,y⟩:=d.at;obtain⟨L,V⟩:∃L,L=(128 :: List.replicate z (0:UInt8)).length:=⟨_,rfl⟩;rw[<-V]at hv F;have M:L=z+1:=by grind
  have c1:=HC.out _ d.bel;have B:padZ s.n=(119-s.n%64)%64:=rfl;subst hv;by_cases hlt2:z<padZ s.n
  ·obtain⟨q,hq⟩:∃q:Nat,q=(s.n+L)%64:=⟨_,rfl⟩;have Y:((s.n:Int)+(L:Int)).tmod 64=(q:Int):=by grind
   have f2:((q:Int)==56)=false:=by grind
   have f3:((q:Int) != 56)=true:=by grind
   have HL:=h_ M;have H:=h_ d;have b1:(L:Int)<=100:=by omega
   clear V M hq B d y;unfold maxLen at Z;have E:OwnB (wr.alloc (.cells #[.int .u8 0] 5)) (W.heap.size+1) (.slice (some ⟨g,0,none⟩) L cap) (128 :: List.replicate z 0):=H.own.below ((z_ _ _).alloc (w_ _) _);have G:SlB (wr.alloc (.cells #[.int .u8 0] 5)) ⟨wr.heap.size,0,none⟩ [0]:=vX wr 5 [0];have m:=h_ E;have l:=h_ G;clear E G;have B:padZ s.n<=63:=by grind [padZ]
   go_wp2_with (at_builtin;refine zD rfl (.tmp 20) (.tmp 21) rfl (W.heap.size+1) _ (128 :: List.replicate z 0) rfl m.out ⟨wr.heap.size,0,none⟩ [0] 1 rfl l.out ?cA ?cB ?_)
   case cA=>simp;omega
   case cB=>have:=H.bel.size;simp;omega
   intro v' w' ho a _;have O:=(H.later (W':=wr.alloc (.cells #[.int .u8 0] 5)) ((z_ _ _).alloc (w_ _) _)).app ho a;have aE:128 :: List.replicate z (0:UInt8)++[0]=128 :: List.replicate (z+1) 0:=by rw[List.replicate_succ'];rfl
   rw[aE]at O;obtain⟨g2,Ti,j_,_,_,_,_⟩:=O.at;have D:xKs v'=z+2:=by grind [xKs]
   have p_:=h_ O;have S:=h_ D;clear O aE j_ D ho a Y f2 f3 c1 m l;go_wp2;go_roundw
   case rel=>exact⟨z+1,by omega,p_.out⟩
   case measure=>
    grind [padZ,xKs]
  ·obtain rfl:z=padZ s.n:=by omega
   have Y:((s.n:Int)+(L:Int)).tmod 64=56:=by grind
   have b1:(L:Int)<=100:=by omega
   have HL:=h_ M;have H:=h_ d;have aF:(s.n:Int)<=1000000:=by omega
   clear V M B d y hlt2 hz;unfold maxLen at Z;go_wp2;clear Y c1;go_loopw [3,29] (λv t wr=>∃k:Nat,k<=8/\t=.int .i64 k/\xCm W v (padL s.n k) wr) (λ_ t _=>8-(intOf t).toNat)
   case atStart=>exact⟨0,by omega,rfl,by have:=H.out;simpa[padL]using this⟩
   case round=>
    obtain⟨k,hk,rfl,d⟩:=hrel;obtain⟨g,cap,hv,hg,F,Z,y⟩:=d.at;have p:=xU8 s.n k;have B:padZ s.n<=63:=by grind [padZ]
    obtain⟨P,N⟩:∃P,P=(padL s.n k).length:=⟨_,rfl⟩;rw[<-N]at hv F p;subst hv;have S:=h_ N;have dR:=h_ p;by_cases hlt3:k<8
    ·have Q:=h_ d;have a1:(k:Int)<8:=by omega
     have o:=yFx (8*s.n) k;have wE:k=0\/k=1\/k=2\/k=3\/k=4\/k=5\/k=6\/k=7:=by omega
     obtain⟨b,X⟩:∃b,b=cntB (8*s.n) k:=⟨_,rfl⟩;rw[<-X]at o;have Ae:=h_ (show padL s.n k++[b]=padL s.n (k+1) by rw[X,yB9]);have E:OwnB (wr.alloc (.cells #[.int .u8 b.toNat] 5)) (W.heap.size+1) (.slice (some ⟨g,0,none⟩) P cap) (padL s.n k):=Q.own.below ((z_ _ _).alloc (w_ _) _);have G:SlB (wr.alloc (.cells #[.int .u8 b.toNat] 5)) ⟨wr.heap.size,0,none⟩ [b]:=vX wr 5 [b];have m:=h_ E;have l:=h_ G;have nxt:∀v' w',OwnB w' (W.heap.size+1) v' (padL s.n k++[b])->(wr.alloc (.cells #[.int .u8 b.toNat] 5)).grownBy w' (Value.slice (some ⟨g,0,none⟩) P cap).ownBlock->xCm W v' (padL s.n (k+1)) w':=λv' w' ho a=>by
      have:=(Q.later (W':=wr.alloc (.cells #[.int .u8 b.toNat] 5)) ((z_ _ _).alloc (w_ _) _)).app ho a;grind
     have NXT:=h_ nxt;have u:=h_ (show W.heap.size+1<=(wr.alloc (.cells #[.int .u8 b.toNat] 5)).heap.size by have:=Q.bel.size;simp;omega);have w:=h_ (show (padL s.n k).length+[b].length<=1000000000000 by rw[S.symm,dR.out];simp;omega);clear X d y N p E G nxt B;rcases wE with rfl|rfl|rfl|rfl|rfl|rfl|rfl|rfl
     ·have i:8*(s.n:Int)/72057594037927936=(b.toNat:Int):=by omega
      clear o;go_wp2_with (at_builtin;refine zD rfl (.tmp 32) (.tmp 39) rfl (W.heap.size+1) _ (padL s.n 0) rfl m.out ⟨wr.heap.size,0,none⟩ [b] 1 rfl l.out w.out u.out ?_);intro v' w' ho a _;have f:=h_ (NXT.out v' w' ho a);clear ho a i;go_wp2;go_roundw
      case rel=>exact⟨1,by omega,rfl,f.out⟩
      case measure=>simp[intOf]
     ·have i:8*(s.n:Int)/281474976710656=(b.toNat:Int):=by omega
      clear o;go_wp2_with (at_builtin;refine zD rfl (.tmp 32) (.tmp 39) rfl (W.heap.size+1) _ (padL s.n 1) rfl m.out ⟨wr.heap.size,0,none⟩ [b] 1 rfl l.out w.out u.out ?_);intro v' w' ho a _;have f:=h_ (NXT.out v' w' ho a);clear ho a i;go_wp2;go_roundw
      case rel=>exact⟨2,by omega,rfl,f.out⟩
      case measure=>simp[intOf]
     ·have i:8*(s.n:Int)/1099511627776=(b.toNat:Int):=by omega
      clear o;go_wp2_with (at_builtin;refine zD rfl (.tmp 32) (.tmp 39) rfl (W.heap.size+1) _ (padL s.n 2) rfl m.out ⟨wr.heap.size,0,none⟩ [b] 1 rfl l.out w.out u.out ?_);intro v' w' ho a _;have f:=h_ (NXT.out v' w' ho a);clear ho a i;go_wp2;go_roundw
      case rel=>exact⟨3,by omega,rfl,f.out⟩
      case measure=>simp[intOf]
     ·have i:8*(s.n:Int)/4294967296=(b.toNat:Int):=by omega
      clear o;go_wp2_with (at_builtin;refine zD rfl (.tmp 32) (.tmp 39) rfl (W.heap.size+1) _ (padL s.n 3) rfl m.out ⟨wr.heap.size,0,none⟩ [b] 1 rfl l.out w.out u.out ?_);intro v' w' ho a _;have f:=h_ (NXT.out v' w' ho a);clear ho a i;go_wp2;go_roundw
      case rel=>exact⟨4,by omega,rfl,f.out⟩
      case measure=>simp[intOf]
     ·have i:8*(s.n:Int)/16777216=(b.toNat:Int):=by omega
      clear o;go_wp2_with (at_builtin;refine zD rfl (.tmp 32) (.tmp 39) rfl (W.heap.size+1) _ (padL s.n 4) rfl m.out ⟨wr.heap.size,0,none⟩ [b] 1 rfl l.out w.out u.out ?_);intro v' w' ho a _;have f:=h_ (NXT.out v' w' ho a);clear ho a i;go_wp2;go_roundw
      case rel=>exact⟨5,by omega,rfl,f.out⟩
      case measure=>simp[intOf]
     ·have i:8*(s.n:Int)/65536=(b.toNat:Int):=by omega
      clear o;go_wp2_with (at_builtin;refine zD rfl (.tmp 32) (.tmp 39) rfl (W.heap.size+1) _ (padL s.n 5) rfl m.out ⟨wr.heap.size,0,none⟩ [b] 1 rfl l.out w.out u.out ?_);intro v' w' ho a _;have f:=h_ (NXT.out v' w' ho a);clear ho a i;go_wp2;go_roundw
      case rel=>exact⟨6,by omega,rfl,f.out⟩
      case measure=>simp[intOf]
     ·have i:8*(s.n:Int)/256%256=(b.toNat:Int):=by omega
      clear o;go_wp2_with (at_builtin;refine zD rfl (.tmp 32) (.tmp 39) rfl (W.heap.size+1) _ (padL s.n 6) rfl m.out ⟨wr.heap.size,0,none⟩ [b] 1 rfl l.out w.out u.out ?_);intro v' w' ho a _;have f:=h_ (NXT.out v' w' ho a);clear ho a i;go_wp2;go_roundw
      case rel=>exact⟨7,by omega,rfl,f.out⟩
      case measure=>simp[intOf]
     ·have i:8*(s.n:Int)%256=(b.toNat:Int):=by omega
      clear o;go_wp2_with (at_builtin;refine zD rfl (.tmp 32) (.tmp 39) rfl (W.heap.size+1) _ (padL s.n 7) rfl m.out ⟨wr.heap.size,0,none⟩ [b] 1 rfl l.out w.out u.out ?_);intro v' w' ho a _;have f:=h_ (NXT.out v' w' ho a);clear ho a i;go_wp2;go_roundw
      case rel=>exact⟨8,by omega,rfl,f.out⟩
      case measure=>simp[intOf]
    ·obtain rfl:k=8:=by omega
     subst N;have I:=HH.same (d.bel.block _ C);have q:=xF I.row (show (y7 s).toArray.size=73 by simpa using qP I.len);have q1:=q.1;have q2:=q.2;have q3:xt 73 (y7 s).toArray=true:=zY (by simpa using qP I.len) (yF8 s);have aV:=d.bel.size;have aY:=d.ro;have Zl:zz (wr.alloc (.cells (y7 s).toArray 398)) wr.heap.size s:=⟨heap_alloc_new wr _,I.len⟩;have x:Below wr.heap.size wr (wr.alloc (.cells (y7 s).toArray 398)):=by grind
     have dI:=HK.lt;have fm:SlB (wr.alloc (.cells (y7 s).toArray 398)) ⟨g,0,none⟩ (padL s.n 8):=⟨λj c hj=>T6 _ (y.cell j c hj)⟩;have Hh:g<wr.heap.size:=by
      have h0:0<(padL s.n 8).length:=by omega
      have:=block_lt_of_cell (y.cell 0 _ (U_ h0))
      rwa [xY]at this
     have hW:=xO3 K wr.heap.size s ⟨g,0,none⟩ (padL s.n 8) cap _ Zl fm (by simp;omega) F (by omega) ((HK.below d.bel (w_ _)).below x (by have:=(HK.below d.bel (w_ _)).lt;omega)) (by omega);have Zm:=h_ hW;have Fa:=h_ d;have HQ:=h_ x;clear hW Zl x fm I q d y p B S dR hlt3 hk F;go_wp2_with (go_at_call 217;refine Zm.mono ?_;rintro e R ⟨rfl,Ag,LZ⟩;have J:=LZ.rdState);have c1:=J.1;have c2:=J.2;have aO:Below wr.heap.size wr R:=by grind [xW4]
     have L0:∀A,Below R.heap.size R A->xN A W.heap.size 32=true:=λA h6=>by grind [xN]
     have bR:=h_ (Fa.bel.trans (aO.mono aV));have Tj:=h_ L0;have q_:=h_ J;clear aO L0 J Ag LZ Zm HQ aY;go_wp2_with (go_at_call 247;refine(xYc _ _).mono ?_;rintro e A ⟨rfl,bM⟩;have Tk:=Tj.out A bM;have aU:=xM8 (vR (xAx K s (padL s.n 8)).st 32));obtain⟨cs,T,aB,_⟩:=uQ Tk;have Tl:(encB (digL (xAx K s (padL s.n 8)).st 32)).toArray.size=32:=by rw[vb,vR]
     have r:=xF (setRow_heap A W.heap.size cs (encB (digL (xAx K s (padL s.n 8)).st 32)).toArray T (0,0) aB) Tl;have co:=xH (bR.trans (bM.mono bR.size)) (w_ _) (encB (digL (xAx K s (padL s.n 8)).st 32)).toArray;refine bodyPost_ret (zR rfl isAgg341 sizeOf341 _ _ ⟨W.heap.size,0,none⟩ (encB (digL (xAx K s (padL s.n 8)).st 32)).toArray rfl ?_ ?_) rfl ⟨rfl,co⟩
     ·exact r.1
     ·exact r.2
end
end Go.Proofs.YtdhapkeimaljfaaGreatDoor
namespace Go.Proofs
open Go.Shelf
def Tryz.lays169_ren:Go.Shelf.Ren:=⟨λ| 169=>121|n=>n,λ| 70=>251|9=>9|0=>0|72=>253|37=>23|127=>311|3=>3|5=>5|n=>n,λ| n=>n⟩
theorem Tryz.lays169:Go.Proofs.Lays.n169 prog Tryz.lays169_ren:={
 mixed:=by kernel_rfl
 f169:=func121.trans (congrArg some (by kernel_rfl))
 t0:=underlying0
 a0:=isAgg0
 z0:=sizeOf0
 v0:=zeroValue0
 t3:=underlying3
 a3:=isAgg3
 z3:=sizeOf3
 v3:=zeroValue3
 t9:=underlying9
 a9:=isAgg9
 z9:=sizeOf9
 v9:=zeroValue9
 t37:=underlying23
 a37:=isAgg23
 z37:=sizeOf23
 v37:=zeroValue23
 t70:=underlying251
 a70:=isAgg251
 z70:=sizeOf251
 v70:=zeroValue251
 t72:=underlying253
 a72:=isAgg253
 z72:=sizeOf253
 v72:=zeroValue253
 t127:=underlying311
 a127:=isAgg311
 z127:=sizeOf311
 v127:=zeroValue311 }
theorem Tryz.Builder_Extra_169:Builder.Extra prog Tryz.lays169_ren:={
 sizeBuilder:=by kernel_rfl
 liesBuilder:=by kernel_rfl
 t5:=underlying5
 a5:=isAgg5
 z5:=sizeOf5
 v5:=zeroValue5
 infoByte:=by kernel_rfl
 cellsByte:=by kernel_rfl
 sizeByte:=by kernel_rfl
 neB5:=by decide }
def Tryz.lays125_ren:Go.Shelf.Ren:=⟨λ| 125=>101|128=>142|129=>143|n=>n,λ| 46=>221|3=>3|51=>290|53=>292|4=>4|5=>5|9=>9|n=>n,λ| n=>n⟩
theorem Tryz.lays125:Go.Proofs.Lays.n125 prog Tryz.lays125_ren:={
 mixed:=by kernel_rfl
 f125:=func101.trans (congrArg some (by kernel_rfl))
 f128:=func142.trans (congrArg some (by kernel_rfl))
 f129:=func143.trans (congrArg some (by kernel_rfl))
 t3:=underlying3
 a3:=isAgg3
 z3:=sizeOf3
 v3:=zeroValue3
 t4:=underlying4
 a4:=isAgg4
 z4:=sizeOf4
 v4:=zeroValue4
 t5:=underlying5
 a5:=isAgg5
 z5:=sizeOf5
 v5:=zeroValue5
 t9:=underlying9
 a9:=isAgg9
 z9:=sizeOf9
 v9:=zeroValue9
 t46:=underlying221
 a46:=isAgg221
 z46:=sizeOf221
 v46:=zeroValue221
 t51:=underlying290
 a51:=isAgg290
 z51:=sizeOf290
 v51:=zeroValue290
 t53:=underlying292
 a53:=isAgg292
 z53:=sizeOf292
 v53:=zeroValue292 }
theorem Tryz.bits_Len (x:Int)(w:World)(a:0<=x)(h1:x<=18446744073709551615):
  Calls prog 101 #[.int .u64 x] w λe w'=>e=.returned (.int .i64 (Lib.bitLen x.toNat))/\w'=w:=Any.bits_Len Tryz.lays125 x w a h1
open Go.RowKit in
theorem Tryz.Builder_String_empty_f (B b:Nat)(w:World)(h:Lib.IsBuilderF 253 5 B b [] w)(a:B<=w.heap.size):
  Calls prog 121 #[.pointer (some ⟨b,0,none⟩)] w λe w'=>e=.returned (.string ⟨#[]⟩)/\(Lib.IsBuilderF 253 5 B b [] w'/\Below B w w'):=Any.Builder_String_empty_f Tryz.lays169 Tryz.Builder_Extra_169 B b w h a
def Tryz.lays221_ren:Go.Shelf.Ren:=⟨λ| 221=>145|268=>185|138=>186|143=>187|195=>211|197=>212|218=>213|219=>214|260=>238|217=>239|225=>240|224=>241|267=>242|266=>282|314=>283|n=>n,λ| 9=>9|3=>3|31=>43|4=>4|0=>0|105=>368|21=>21|5=>5|46=>221|119=>110|139=>430|138=>429|146=>431|51=>290|n=>n,λ| 1=>0|3=>2|4=>3|n=>n⟩
def Tryz.lays146_ren:Go.Shelf.Ren:=⟨λ| 146=>103|221=>145|268=>185|138=>186|143=>187|195=>211|197=>212|218=>213|219=>214|260=>238|217=>239|225=>240|224=>241|267=>242|266=>282|314=>283|n=>n,λ| 9=>9|31=>43|3=>3|4=>4|0=>0|105=>368|21=>21|5=>5|46=>221|119=>110|139=>430|138=>429|146=>431|51=>290|n=>n,λ| 1=>0|3=>2|4=>3|n=>n⟩
theorem Tryz.lays146:Go.Proofs.Lays.n146 prog Tryz.lays146_ren:={
 mixed:=by kernel_rfl
 f138:=func186.trans (congrArg some (by kernel_rfl))
 f143:=func187.trans (congrArg some (by kernel_rfl))
 f146:=func103.trans (congrArg some (by kernel_rfl))
 f195:=func211.trans (congrArg some (by kernel_rfl))
 f197:=func212.trans (congrArg some (by kernel_rfl))
 f217:=func239.trans (congrArg some (by kernel_rfl))
 f218:=func213.trans (congrArg some (by kernel_rfl))
 f219:=func214.trans (congrArg some (by kernel_rfl))
 f221:=func145.trans (congrArg some (by kernel_rfl))
 f224:=func241.trans (congrArg some (by kernel_rfl))
 f225:=func240.trans (congrArg some (by kernel_rfl))
 f260:=func238.trans (congrArg some (by kernel_rfl))
 f266:=func282.trans (congrArg some (by kernel_rfl))
 f267:=func242.trans (congrArg some (by kernel_rfl))
 f268:=func185.trans (congrArg some (by kernel_rfl))
 f314:=func283.trans (congrArg some (by kernel_rfl))
 t0:=underlying0
 a0:=isAgg0
 z0:=sizeOf0
 v0:=zeroValue0
 t3:=underlying3
 a3:=isAgg3
 z3:=sizeOf3
 v3:=zeroValue3
 t4:=underlying4
 a4:=isAgg4
 z4:=sizeOf4
 v4:=zeroValue4
 t5:=underlying5
 a5:=isAgg5
 z5:=sizeOf5
 v5:=zeroValue5
 t9:=underlying9
 a9:=isAgg9
 z9:=sizeOf9
 v9:=zeroValue9
 t21:=underlying21
 a21:=isAgg21
 z21:=sizeOf21
 v21:=zeroValue21
 t31:=underlying43
 a31:=isAgg43
 z31:=sizeOf43
 v31:=zeroValue43
 t46:=underlying221
 a46:=isAgg221
 z46:=sizeOf221
 v46:=zeroValue221
 t51:=underlying290
 a51:=isAgg290
 z51:=sizeOf290
 v51:=zeroValue290
 t105:=underlying368
 a105:=isAgg368
 z105:=sizeOf368
 v105:=zeroValue368
 t119:=underlying110
 a119:=isAgg110
 z119:=sizeOf110
 t138:=underlying429
 a138:=isAgg429
 z138:=sizeOf429
 v138:=zeroValue429
 t139:=underlying430
 a139:=isAgg430
 z139:=sizeOf430
 v139:=zeroValue430
 t146:=underlying431
 a146:=isAgg431
 z146:=sizeOf431
 v146:=zeroValue431
 g1:=by kernel_rfl
 g3:=by kernel_rfl
 g4:=by kernel_rfl }
open Go.RowKit Go.Lib in
theorem Tryz.strings_Split (s sep:ByteArray)(m:Int)(w:World)(hs:s.size<4294967281)(a:w.cell? ⟨0,0,none⟩=some (.int .i64 m))(h1:1<=sep.size):
  Calls prog 103 #[.string s,.string sep] w λe w'=>
   e=.returned (.slice (some ⟨w.heap.size,0,none⟩) (Lib.countB s sep+1) (Lib.countB s sep+1))/\w'=w.alloc (.cells ((Lib.splitB sep 0 (Lib.countB s sep) s).map Value.string).toArray 9):=Any.strings_Split Tryz.lays146 (by kernel_rfl) s sep m w hs a h1
def Tryz.laysSlH8_f229_ren:Go.Shelf.Ren:=⟨λ| 8=>229|6=>268|n=>n,λ| 22=>43|23=>9|25=>179|4=>4|3=>3|0=>0|n=>n,λ| n=>n⟩
def Tryz.containsId_ren:Go.Shelf.Ren:=⟨λ| 7=>297|6=>302|n=>n,λ| 22=>44|24=>42|4=>4|0=>0|3=>3|n=>n,λ| n=>n⟩
theorem Tryz.containsId:Go.Proofs.SlLaysQ.n7 prog Tryz.containsId_ren:={
 mixed:=by kernel_rfl
 f6:=⟨f302.name,by decide,func302.trans (congrArg some (by kernel_rfl))⟩
 f7:=⟨f297.name,by decide,func297.trans (congrArg some (by kernel_rfl))⟩
 t0:=underlying0
 a0:=isAgg0
 z0:=sizeOf0
 v0:=zeroValue0
 t3:=underlying3
 a3:=isAgg3
 z3:=sizeOf3
 v3:=zeroValue3
 t4:=underlying4
 a4:=isAgg4
 z4:=sizeOf4
 v4:=zeroValue4
 t22:=underlying44
 a22:=isAgg44
 z22:=sizeOf44
 v22:=zeroValue44 }
def Tryz.cloneId_ren:Go.Shelf.Ren:=⟨λ| 41=>68|n=>n,λ| 22=>44|23=>42|4=>4|n=>n,λ| n=>n⟩
theorem Tryz.cloneId:Go.Proofs.SlLaysE0.n41 prog Tryz.cloneId_ren:={
 mixed:=by kernel_rfl
 f41:=⟨f68.name,by decide,func68.trans (congrArg some (by kernel_rfl))⟩
 t4:=underlying4
 a4:=isAgg4
 z4:=sizeOf4
 v4:=zeroValue4
 t22:=underlying44
 a22:=isAgg44
 z22:=sizeOf44
 v22:=zeroValue44 }
def Tryz.containsFuncByte_ren:Go.Shelf.Ren:=⟨λ| 8=>270|6=>295|n=>n,λ| 22=>23|23=>5|25=>388|4=>4|3=>3|0=>0|n=>n,λ| n=>n⟩
theorem Tryz.containsFuncByte:Go.Proofs.SlLaysH.n8 prog Tryz.containsFuncByte_ren:={
 mixed:=by kernel_rfl
 f6:=⟨f295.name,by decide,func295.trans (congrArg some (by kernel_rfl))⟩
 f8:=⟨f270.name,by decide,func270.trans (congrArg some (by kernel_rfl))⟩
 t0:=underlying0
 a0:=isAgg0
 z0:=sizeOf0
 v0:=zeroValue0
 t3:=underlying3
 a3:=isAgg3
 z3:=sizeOf3
 v3:=zeroValue3
 t4:=underlying4
 a4:=isAgg4
 z4:=sizeOf4
 v4:=zeroValue4
 t22:=underlying23
 a22:=isAgg23
 z22:=sizeOf23
 v22:=zeroValue23
 a23:=isAgg5
 z23:=sizeOf5
 t25:=underlying388
 a25:=isAgg388
 z25:=sizeOf388
 v25:=zeroValue388 }
end Go.Proofs
namespace Go.Proofs.YtdhapkeimaljfaaGreatDoor
open Go Go.RowKit Go.Proofs Tryz
section
attribute [local go_sem ↓] xP xI
attribute [local go_sem 2000] xBs
attribute [local go_sem] zg zj yM xh xg xe xd xD3 xCy
def xBm (w:World)(b off:Nat)(ids:List Id32):Prop:=∀j,j<ids.length->∀i v,(xl ids[j]!)[i]?=some v->w.cell? ⟨b,off+j*32+i,none⟩=some v
def xH6 (w:World)(v:Value)(ids:List Id32):Prop:=
 ∃a c,v=.slice a ids.length c/\ids.length<=c/\(ids≠[]->∃b off,a=some ⟨b,off,none⟩/\xBm w b off ids)
theorem xBm.rd {w b off ids}(h:xBm w b off ids){j}(c:j<ids.length):
  xp w ⟨b,off+j*32,none⟩ 32=true/\xo w ⟨b,off+j*32,none⟩ 32=(xl ids[j]!).toArray:=by
 have:=yl (w:=w) (a:=⟨b,off+j*32,none⟩) (cs:=xl ids[j]!) (λi v d=>by rw[l8];exact h j c i v d)
 rwa [xD]at this
theorem xBm.lt {w b off ids}(h:xBm w b off ids)(a:ids≠[]):b<w.heap.size:=by
 have c:0<ids.length:=by grind
 have:=h 0 c 0 _ (xI4 _ 0 (by omega));exact block_lt_of_cell this
theorem xBm.below {w w' b off ids}(h:xBm w b off ids){B}(d:Below B w w')(e:b<B):xBm w' b off ids:=
 λj a i v c=>(d.cell (p:=⟨b,_,none⟩) e).trans (h j a i v c)
theorem xH6.below {w w' v ids}(h:xH6 w v ids)(j:Below w.heap.size w w'):xH6 w' v ids:=by
 obtain⟨a,c,e,i,g⟩:=h;exact⟨a,c,e,i,λd=>let ⟨b,off,k,f⟩:=g d;⟨b,off,k,f.below j (f.lt d)⟩⟩
def yA0 (ids:List Id32)(k:Nat)(x:Id32):Bool:=(ids.take k).any λy=>decide (x=y)
def vB (ids:List Id32)(k:Nat):Bool:=(List.range k).any λi=>yA0 ids i ids[i]!
def jA (ids:List Id32):Int:=if 20<ids.length then 9 else if vB ids ids.length then 7 else 0
theorem xGx (ids k):vB ids (k+1)=(vB ids k||yA0 ids k ids[k]!):=by simp[vB,bQ_,co_]
theorem xS2 {ids k n}(h:k<=n)(a:vB ids k=true):vB ids n=true:=by grind [vB,List.any_eq_true]
theorem xQj {ids}(h:20<ids.length):jA ids=9:=if_pos h
theorem xTy {ids}(h:ids.length<=20)(a:vB ids ids.length=true):jA ids=7:=by grind [jA]
theorem xX8 {ids}(h:ids.length<=20)(a:vB ids ids.length=false):jA ids=0:=by grind [jA]
theorem xJm (b off n c ids x w)(a:n<=ids.length)(d:n<=9223372036854775807)(h:xBm w b off ids):
  Calls prog 297 #[.slice (some ⟨b,off,none⟩) n c,.agg (xl x).toArray] w λe w'=>e=.returned (.bool (yA0 ids n x))/\Below w.heap.size w w':=
 AnyQ.slices_Contains Tryz.containsId 32 isAgg42 sizeOf42 xl xD _ eqId b off n c ids x w a d h
attribute [local go_sem] xx zV qB xq xB xw j8 ju ku
theorem xEi (v ids w)(h:xH6 w v ids)(G:ids.length<=maxLen):
  Calls prog 278 #[v] w λr w'=>r=.returned (.int .i64 (jA ids))/\Below w.heap.size w w':=by
 unfold maxLen at G;obtain⟨a,c,rfl,J,m⟩:=h;by_cases hlong:20<ids.length
 ·have g:=h_ (xQj hlong);have M:(20:Int)<(ids.length:Int):=by omega
  clear m;go_enter func278,ntmps278;go_wp2;go_ret;exact⟨ud g.symm,z_ _ _⟩
 ·have H:=h_ m;clear m;have L:(ids.length:Int)<=20:=by omega
  go_enter func278,ntmps278;go_wp2;go_loopw [10] (λi wr=>∃k:Nat,k<=ids.length/\i=.int .i64 k/\vB ids k=false/\Below w.heap.size w wr) (λi _=>ids.length-(intOf i).toNat)
  case atStart=>exact⟨0,n3 _,rfl,rfl,z_ _ _⟩
  case round=>
   obtain⟨k,u,rfl,y,A⟩:=hrel;have D:=h_ y;clear y;by_cases hlt:k<ids.length
   ·obtain⟨b,off,rfl,n⟩:=H.out (by intro e;rw[e]at hlt;simp at hlt);have K:(k:Int)<(ids.length:Int):=by omega
    have I:(k:Int)<=(c:Int):=by omega
    have f:ids≠[]:=by grind
    have q:=h_ (n.below A (n.lt f));clear n f;obtain⟨o1,d1⟩:=q.rd hlt;generalize hx:ids[k]! = x at d1;have C:=h_ hx;clear hx;go_wp2;have oz:∀z:xf (wr.alloc (.cells (xl x).toArray 42)),xp z.1 ⟨wr.heap.size,0,none⟩ 32=true:=λz=>z.ok (ju _ _ _)
    have dz:∀z:xf (wr.alloc (.cells (xl x).toArray 42)),xo z.1 ⟨wr.heap.size,0,none⟩ 32=(xl x).toArray:=λz=>(z.rd (ju _ _ _)).trans (ku _ _ _)
    refine xBo 4 (λw'=>∃z:xf (wr.alloc (.cells (xl x).toArray 42)),w'=z.1) ⟨⟨_,(z_ _ _).drew⟩,rfl⟩ ?_;simp only[aH_,bg_,bR_,aS_]
    repeat (go_big_quiet_step (fail))
    refine wpQuiet_nil ?_;rintro _ ⟨z,rfl⟩;have t:=z.2;generalize z.1=wz at t⊢;clear oz dz o1 d1;have B:Below wr.heap.size wr wz:=by grind
    have j:Below w.heap.size w wz:=by grind
    have l:xBm wz b off ids:=q.below B (q.lt (by intro e;rw[e]at hlt;simp at hlt));have s:k<=9223372036854775807:=by omega
    clear t B;cases hq:yA0 ids k x with
    |true=>
     have d:=xJm b off k c ids x wz u s l;rw[hq]at d;have g:=h_ (xTy (show ids.length<=20 by omega) (xS2 (show k+1<=ids.length from hlt) (by rw[xGx,C.out,hq];simp)));clear hq l;have p:=h_ d;clear d;go_wp2_with fail;refine p.mono ?_;rintro e E ⟨rfl,o⟩;go_wp2;go_ret;exact⟨ud g.symm,j.trans (o.mono j.size)⟩
    |false=>
     have d:=xJm b off k c ids x wz u s l;rw[hq]at d;have F:=h_ (show vB ids (k+1)=false by rw[xGx,C.out,hq,D.out];rfl);clear hq l;have p:=h_ d;clear d;go_wp2_with fail;refine p.mono ?_;rintro e E ⟨rfl,o⟩;go_wp2;go_roundw
     case rel=>exact⟨k+1,by omega,by go_num,F.out,j.trans (o.mono j.size)⟩
     case measure=>simp[intOf];omega
   ·have g:=h_ (xX8 (show ids.length<=20 by omega) (by rw[show ids.length=k by omega];exact D.out));go_wp2;go_ret;exact⟨ud g.symm,A⟩
end
section
structure jp where
 number:Int
 id:Id32
 name:ByteArray
 date:Int
 subject:ByteArray
 refs:Value
 bytes:Int
def xL (g:jp):List Value:=.int .i64 g.number :: (xl g.id++[.string g.name,.int .i64 g.date,.string g.subject,g.refs,.int .i64 g.bytes])
def x9 (g:jp):Array Value:=(xL g).toArray
def yS (grp:ByteArray)(g:jp):Array Value:=(.string grp :: xL g).toArray
theorem yr (g):(xL g).length=38:=by simp[xL,xD]
theorem xO (g):(x9 g).size=38:=by simp[x9,yr]
theorem um (s g):(yS s g).size=39:=by simp[yS,yr]
theorem jO (g j):(xL g)[33+j]?=[Value.string g.name,.int .i64 g.date,.string g.subject,g.refs,.int .i64 g.bytes][j]?:=by grind [xL,List.getElem?_cons_succ,List.getElem?_append_right,xD]
theorem lc0 (g):(x9 g)[0]?=some (.int .i64 g.number):=rfl
theorem lc33 (g):(x9 g)[33]?=some (.string g.name):=by simpa[x9]using jO g 0
theorem lc34 (g):(x9 g)[34]?=some (.int .i64 g.date):=by simpa[x9]using jO g 1
theorem lc35 (g):(x9 g)[35]?=some (.string g.subject):=by simpa[x9]using jO g 2
theorem lc36 (g):(x9 g)[36]?=some g.refs:=by simpa[x9]using jO g 3
theorem lc37 (g):(x9 g)[37]?=some (.int .i64 g.bytes):=by simpa[x9]using jO g 4
theorem xG4 (s g j):(yS s g)[j+1]?=(x9 g)[j]?:=by simp[yS,x9]
theorem rc0 (s g):(yS s g)[0]?=some (.string s):=rfl
theorem rc1 (s g):(yS s g)[1]?=some (.int .i64 g.number):=rfl
theorem rc34 (s g):(yS s g)[34]?=some (.string g.name):=(xG4 s g 33).trans (lc33 g)
theorem rc35 (s g):(yS s g)[35]?=some (.int .i64 g.date):=(xG4 s g 34).trans (lc34 g)
theorem rc36 (s g):(yS s g)[36]?=some (.string g.subject):=(xG4 s g 35).trans (lc35 g)
theorem rc37 (s g):(yS s g)[37]?=some g.refs:=(xG4 s g 36).trans (lc36 g)
theorem rc38 (s g):(yS s g)[38]?=some (.int .i64 g.bytes):=(xG4 s g 37).trans (lc37 g)
def xA2 (g:jp):Prop:=g.refs.oneCell'=true
theorem uA {g}(h:xA2 g):∀v∈xL g,v.oneCell'=true:=by
 intro v hv;simp only[xL,g8,m3,aT_,or_false]at hv;rcases hv with rfl|hv|rfl|rfl|rfl|rfl|rfl
 ·rfl
 ·exact zT _ v hv
 ·rfl
 ·rfl
 ·rfl
 ·exact h
 ·rfl
theorem zJ {g}(h:xA2 g):xt 38 (x9 g)=true:=zY (xO g) (by
 rw[B3];intro v hv;exact uA h v (by simpa[x9]using hv))
theorem xVa {cs:Array Value}{n}(h:cs.size=n):cs.extract 0 (0+n)=cs:=by subst h;simp
theorem jN (w:World)(g t):xp (w.alloc (.cells (x9 g) t)) ⟨w.heap.size,0,none⟩ 38=true:=xLa w _ t 0 38 (by rw[xO];omega)
theorem jL (w:World)(g t):xo (w.alloc (.cells (x9 g) t)) ⟨w.heap.size,0,none⟩ 38=x9 g:=by simp[xL0,xO,xVa]
theorem xG8 (w:World)(s g t):xp (w.alloc (.cells (yS s g) t)) ⟨w.heap.size,0,none⟩ 39=true:=xLa w _ t 0 39 (by rw[um];omega)
theorem xG3 (w:World)(s g t):xo (w.alloc (.cells (yS s g) t)) ⟨w.heap.size,0,none⟩ 39=yS s g:=by simp[xL0,um,xVa]
theorem xMb (g):(x9 g).extract 1 (1+32)=(xl g.id).toArray:=by simp[Array.ext',x9,xL,xD]
theorem xJf (s g):(yS s g).extract 2 (2+32)=(xl g.id).toArray:=by simp[Array.ext',yS,xL,xD]
theorem xLb (w:World)(g t):xp (w.alloc (.cells (x9 g) t)) ⟨w.heap.size,1,none⟩ 32=true:=xLa w _ t 1 32 (by rw[xO];omega)
theorem xL1 (w:World)(g t):xo (w.alloc (.cells (x9 g) t)) ⟨w.heap.size,1,none⟩ 32=(xl g.id).toArray:=by simp[xL0,xO,xMb]
theorem xJ0 (w:World)(s g t):xp (w.alloc (.cells (yS s g) t)) ⟨w.heap.size,2,none⟩ 32=true:=xLa w _ t 2 32 (by rw[um];omega)
theorem xIt (w:World)(s g t):xo (w.alloc (.cells (yS s g) t)) ⟨w.heap.size,2,none⟩ 32=(xl g.id).toArray:=by simp[xL0,um,xJf]
def yp:=lx_ 70
def y8:=sx_ 70
def zC:=@yh prog 70 38 isAgg70 sizeOf70
def zA:=@yk prog 70 38 (by kernel_rfl)
def xK:jp:=⟨0,yI,⟨#[]⟩,0,⟨#[]⟩,.slice none 0 0,0⟩
theorem ym (ρ:Operand->Value)(d)(ty:TypeId)(pos af g w):
  Sem.run prog (execOp ρ ⟨d,.alloc 70,ty,pos,af,g⟩) w=.ok (.value (.pointer (some ⟨w.heap.size,0,none⟩))) (w.alloc (.cells (x9 xK) 70)):=by kernel_rfl
theorem yw (ρ:Operand->Value)(d)(ty:TypeId)(pos af g w):
  Sem.run prog (execOp ρ ⟨d,.build 70 #[],ty,pos,af,g⟩) w=.ok (.value (.agg (x9 xK))) w:=by kernel_rfl
attribute [local go_sem ↓] xP xI yp y8
attribute [local go_sem] zg zj zC zA yM xh xg xe xd xD3 xCy xx zV qB xq xB xw j8 ju ku
attribute [local go_sem] lc0 lc33 lc34 lc35 lc36 lc37 rc0 rc1 rc34 rc35 rc36 rc37 rc38 jN jL xG8 xG3 xLb xL1 xJ0 xIt
def kJ:List Int->Int
 |[]=>0
 |e :: r=>if e=0 then kJ r else e
theorem xD2:∀(l:List Int),(∀e∈l,e=0)->∀r,kJ (l++r)=kJ r
 |[],_,_=>rfl
 |e :: l,h,r=>by
  have a:e=0:=h e (by simp);rw[L2,kJ,if_pos a];exact xD2 l (λx hx=>h x (by simp[hx])) r
theorem yBb {es k}(a:k<es.length)(b:∀j,j<k->es[j]! = 0)(c:es[k]!≠0):kJ es=es[k]!:=by
 have d:es=es.take k++es[k] :: es.drop (k+1):=by simp
 grind [xD2,List.mem_take_iff_getElem.1,kJ]
theorem xXj {es}(b:∀j,j<es.length->es[j]! = 0):kJ es=0:=by
 have:=xD2 es (λx hx=>by
  obtain⟨j,a,rfl⟩:=bN_.1 hx;simpa[a]using b j a) []
 simpa[kJ]using this
theorem yJf (b c es w)(p:es.length<=1000)(h:∀j,j<es.length->w.cell? ⟨b,j,none⟩=some (.int .i64 es[j]!)):
  Calls prog 276 #[.slice (some ⟨b,0,none⟩) es.length c] w λr w'=>r=.returned (.int .i64 (kJ es))/\w=w':=by
 have H:=h_ h;clear h;go_enter func276,ntmps276;go_wp2;go_loop [8] (λi=>∃k:Nat,k<=es.length/\i=.int .i64 k/\∀j,j<k->es[j]! = 0) (λi=>es.length-(intOf i).toNat)
 case atStart=>exact⟨0,n3 _,rfl,λj l=>absurd l (aY_ _)⟩
 case round=>
  obtain⟨k,q,rfl,g⟩:=hrel;have d:=h_ g;clear g;by_cases hlt:k<es.length
  ·have s:(k:Int)<(es.length:Int):=by omega
   have n:=H.out k hlt;generalize hx:es[k]! = x at n;have f:=h_ hx;clear hx;by_cases h0:x=0
   ·have o:(x != 0)=false:=by simp[h0]
    have m:=h_ (show ∀j,j<k+1->es[j]! = 0 from λj l=>by
     by_cases e:j=k
     ·rw[e,f.out,h0]
     ·exact d.out j (by omega))
    clear h0;go_wp2;go_round
    case rel=>exact⟨k+1,by omega,by go_num,m.out⟩
    case measure=>simp[intOf];omega
   ·have o:(x != 0)=true:=by simp[h0]
    have a:=h_ (show kJ es=x by rw[yBb hlt d.out (by rw[f.out];exact h0),f.out]);clear h0;go_wp2;go_ret;exact⟨ud a.symm,rfl⟩
  ·have a:=h_ (xXj (es:=es) (by rw[show es.length=k by omega];exact d.out));go_wp2;go_ret;exact⟨ud a.symm,rfl⟩
def xGd (g:jp)(ids:List Id32):Int:=
 kJ [uS g.number 1 2147483646 2,vx g.name.data.toList 60,uS g.date 0 105190559 13,vx g.subject.data.toList 200,jA ids,uS g.bytes 0 65536 2]
theorem or6 (a b c d e f)(w:World):
  Calls prog 276 #[.slice (some ⟨w.heap.size,0,none⟩) 6 6] (w.alloc (.cells #[.int .i64 a,.int .i64 b,.int .i64 c,.int .i64 d,.int .i64 e,.int .i64 f] 55))
   λr w'=>r=.returned (.int .i64 (kJ [a,b,c,d,e,f]))/\w.alloc (.cells #[.int .i64 a,.int .i64 b,.int .i64 c,.int .i64 d,.int .i64 e,.int .i64 f] 55)=w':=
 yJf w.heap.size 6 [a,b,c,d,e,f] _ (by simp) (λj g=>by
  rw[yD];have:j=0\/j=1\/j=2\/j=3\/j=4\/j=5:=by simp at g;omega
  rcases this with rfl|rfl|rfl|rfl|rfl|rfl <;> rfl)
structure xId (w:World)(g:jp)(ids:List Id32):Prop where
 refs:xH6 w g.refs ids
 len:ids.length<=maxLen
 name:g.name.size<=maxLen
 subject:g.subject.size<=maxLen
theorem xId.below {w w' g ids}(h:xId w g ids)(a:Below w.heap.size w w'):xId w' g ids:=⟨h.refs.below a,h.len,h.name,h.subject⟩
theorem xH6.one {w v ids}(h:xH6 w v ids):v.oneCell'=true:=by
 obtain⟨a,c,rfl,_⟩:=h;rfl
theorem xNj (g ids w)(h:xId w g ids):
  Calls prog 235 #[.agg (x9 g)] w λr w'=>r=.returned (.int .i64 (xGd g ids))/\Below w.heap.size w w':=by
 have a:Below w.heap.size w (w.alloc (.cells (x9 g) 70)):=by grind
 have f:=h_ (h.below a);have o:=h_ a;clear a;obtain⟨W,b⟩:∃W,w.alloc (.cells (x9 g) 70)=W:=⟨_,rfl⟩;have c0:∀z:xf W,z.1.cell? ⟨w.heap.size,0,none⟩=some (.int .i64 g.number):=by grind [yD,lc0]
 have k:∀z:xf W,z.1.cell? ⟨w.heap.size,33,none⟩=some (.string g.name):=by grind [yD,lc33]
 have m:∀z:xf W,z.1.cell? ⟨w.heap.size,34,none⟩=some (.int .i64 g.date):=by grind [yD,lc34]
 have i:∀z:xf W,z.1.cell? ⟨w.heap.size,35,none⟩=some (.string g.subject):=by grind [yD,lc35]
 have c:∀z:xf W,z.1.cell? ⟨w.heap.size,36,none⟩=some g.refs:=by grind [yD,lc36]
 have l:∀z:xf W,z.1.cell? ⟨w.heap.size,37,none⟩=some (.int .i64 g.bytes):=by grind [yD,lc37]
 have j:=h_ b;go_enter func235,ntmps235;go_wp2;clear b;refine xBo 18 (λw'=>∃z:xf W,w'=z.1) ⟨⟨_,(z_ _ _).drew⟩,rfl⟩ ?_;simp only[aH_,bg_,bR_,aS_]
 repeat (go_big_quiet_step (first|(go_at_call 277;exact xf.call_same (xMn _ _ _ _ _))|(go_at_call 274;exact xf.call_same (xO1 _ _ _ (by first|exact h.name|exact h.subject)))|(go_at_call 278;exact xf.call (xEi _ _ _ ((j.out▸f.out:xId W g ids).refs.below (Subtype.property _)) h.len))))
 refine wpQuiet_nil ?_;rintro _ ⟨z,rfl⟩;have d:=z.2;generalize z.1=wz at d⊢;clear c0 k m i c l;go_wp2_with fail;refine(or6 _ _ _ _ _ _ _).mono ?_;rintro e n ⟨rfl,rfl⟩;go_wp2;go_ret;refine⟨rfl,?_⟩;have h1:Below w.heap.size w wz:=by grind
 exact h1.alloc h1.size _
end
section
attribute [local go_sem ↓] xP xI
attribute [local go_sem] zg zj yM xh xg xe xd xD3 xCy xx zV qB xq xB xw j8 ju ku
def str (l:List UInt8):ByteArray:=⟨l.toArray⟩
theorem yDa (l):(str l).size=l.length:=by simp[str,ByteArray.size]
theorem yIw (s):str s.data.toList=s:=rfl
end
def uk (w:World)(b off:Nat)(xs:List ByteArray):Prop:=∀(j:Nat) (x:ByteArray),xs[j]?=some x->w.cell? ⟨b,off+j,none⟩=some (.string x)
def xQb:List Int:=[1116352408,1899447441,3049323471,3921009573,961987163,1508970993,2453635748,2870763221,3624381080,310598401,607225278,1426881987,1925078388,2162078206,2614888103,3248222580,3835390401,4022224774,264347078,604807628,770255983,1249150122,1555081692,1996064986,2554220882,2821834349,2952996808,3210313671,3336571891,3584528711,113926993,338241895,666307205,773529912,1294757372,1396182291,1695183700,1986661051,2177026350,2456956037,2730485921,2820302411,3259730800,3345764771,3516065817,3600352804,4094571909,275423344,430227734,506948616,659060556,883997877,958139571,1322822218,1537002063,1747873779,1955562222,2024104815,2227730452,2361852424,2428436474,2756734187,3204031479,3329325298]
theorem xN5:xQb.length=64:=by decide +kernel
structure Gl (w:World):Prop where
 tab : Lib.TabIs prog w "internal/strconv.uint64pow10" .u64 Lib.pow10Tab
 len:∃m:Int,w.cell? ⟨0,0,none⟩=some (.int .i64 m)
 sha : Lib.TabIs prog w "bulletin/sha256.constants" .u32 xQb
 size:prog.globals.size<=w.heap.size
theorem yFd:1<prog.globals.size:=by decide +kernel
theorem yFe:0<prog.globals.size:=by decide +kernel
theorem xB8:4<prog.globals.size:=by decide +kernel
theorem Gl.below {w w':World}(h:Gl w){B:Nat}(hb:Below B w w')(hB:prog.globals.size<=B):Gl w' where
 tab:=by
  have hg : prog.globalNamed "internal/strconv.uint64pow10" = some 1 := by kernel_rfl
  unfold Lib.TabIs;refine var?_below hb hg ?_ h.tab;have:=yFd;omega
 len:=by
  obtain⟨m,hm⟩:=h.len;grind [yFe]
 sha:=by
  have hg : prog.globalNamed "bulletin/sha256.constants" = some 4 := by kernel_rfl
  unfold Lib.TabIs;refine var?_below hb hg ?_ h.sha;have:=xB8;omega
 size:=R_ h.size hb.size
theorem Gl.later {w w'}(h:Gl w)(a:Below w.heap.size w w'):Gl w':=h.below a h.size
section
theorem yD3 (K:Nat->Int):∀(f:Nat) (s:HS) (cs:List UInt8),cs.length<=f->(wrGo K f s cs).n=s.n+cs.length
 |0,s,cs,h=>by grind [wrGo]
 |f+1,s,cs,h=>by
  rw[wrGo];split
  ·omega
  ·rw[yD3 K f _ _ (by rw[E0];omega),E0];grind [xH8]
theorem yGt (K:Nat->Int)(s cs):(xAx K s cs).n=s.n+cs.length:=by grind [xAx,yD3]
noncomputable def sumB (K:Nat->Int)(c:List UInt8):List UInt8:=sumF K (xAx K jq c)
theorem xA1 (K:Nat->Int)(c):(sumB K c).length=32:=vR _ _
attribute [local go_sem ↓] xDk xC4 xC6 xAs
attribute [local go_sem] xXq xWx xR5 xQ9 xh xg xe xd xx xy xk xj xq xB xw
theorem xIq {w w' g n}(h:xN w g n=true)(a:Below w.heap.size w w'):xN w' g n=true:=by grind [uQ,Array.getElem?_eq_some_iff.1,xN]
theorem yGx (K:Nat->Int)(a c cap W)(hs:SlB W a c)(hK:Sk K W)(H:c.length<=1000000)(C:c.length<=cap)(ha:a.block<W.heap.size):
  Calls prog 190 #[.slice (some a) c.length cap] W λe W'=>e=.returned (.agg (encB (sumB K c)).toArray)/\Below W.heap.size W W':=by
 have y:=h_ hs;have w:=h_ hK;have I:=hK.lt;clear hs hK;go_enter func190,ntmps190;go_wp2_with (go_at_call 216;refine(yF2 _).mono ?_;rintro e b ⟨rfl,g⟩);have h:Below W.heap.size W b:=by grind
 have k:zz b (W.heap.size+1) jq:=by grind [yF6,encB,List.replicate,World.size_alloc]
 have s:xN b W.heap.size 32=true:=by
  rw[g];simp[qB,zV]
 rw[<-g];clear g;have m:SlB b a c:=⟨λj u A=>(h.cell (by rw[xY];exact ha)).trans (y.cell j u A)⟩;refine(xO3 K (W.heap.size+1) jq a c cap b k m (by omega) C (by simp[jq];omega) (w.below h (w_ _)) (by omega)).mono ?_;rintro e l⟨rfl,d,v⟩;have q:Below W.heap.size W l:=by grind [xW4]
 have t:xN l W.heap.size 32=true:=by
  have hl:W.heap.size<b.heap.size:=by have:=k.lt;omega
  have:=s;unfold xN at this⊢;rw[d.block _ hl (λe=>by injection e with e;omega)];exact this
 have f:=h_ q;have i:=h_ v;have z:=h_ t;clear q v t d h k s m;have o:(xAx K jq c).n<=1000000:=by grind [yGt,jq]
 have G:=h_ o;clear o;go_wp2_with (go_at_call 218;refine(yF0 K _ _ _ i.out (w.below f.out (w_ _)) G.out).mono ?_;rintro e x ⟨rfl,p⟩;have F:=xIq z.out p;have D:=xM8 (xA1 K c);unfold sumB at D);obtain⟨cs,T,E,_⟩:=uQ F;have r:=xF (setRow_heap x W.heap.size cs (encB (sumB K c)).toArray T (0,0) E) (show (encB (sumB K c)).toArray.size=32 by rw[vb,xA1]);have B:=xH (f.trans (p.mono f.size)) (w_ _) (encB (sumB K c)).toArray;refine bodyPost_ret (zR rfl isAgg341 sizeOf341 _ _ ⟨W.heap.size,0,none⟩ (encB (sumB K c)).toArray rfl ?_ ?_) rfl ⟨rfl,B⟩
 ·exact r.1
 ·exact r.2
def shaK (t:Nat):Int:=xQb.getD t 0
noncomputable def sha (c:List UInt8):List UInt8:=(sumB shaK c).take 16
theorem yR (c):(sha c).length=16:=by unfold sha;rw[x8,xA1];rfl
def qI (w:World):Prop:=Sk shaK w
theorem xIl (a c cap W)(hs:SlB W a c)(hK:qI W)(t:c.length<=1000000)(A:c.length<=cap)(ha:a.block<W.heap.size):
  Calls prog 148 #[.slice (some a) c.length cap] W λe W'=>e=.returned (.agg (encB (sha c)).toArray)/\Below W.heap.size W W':=by
 have n:=h_ hs;have E:=h_ hK;clear hs hK;have F:=xM8 (xA1 shaK c);go_enter func148,ntmps148;go_wp2_with (go_at_call 190;refine(yGx shaK a c cap _ ⟨λj u d=>T6 _ (n.cell j u d)⟩ (Sk.below E.out ((z_ _ _).alloc (w_ _) _) (w_ _)) t A (by simp;omega)).mono ?_;rintro e b ⟨rfl,i⟩);have z:Below W.heap.size W b:=by grind
 have l:xN b W.heap.size 16=true:=xIq (zV W _ 297 W.heap.size 16 rfl rfl) i;have C:∀w,Sem.run prog (Instr.arrayAt 297 (.slice (some ⟨b.heap.size,0,none⟩) 16 32)) w=.ok (.pointer (some ⟨b.heap.size,0,none⟩)) w:=λw=>by
  have q:prog.underlying 297=some (.array 16 5):=by kernel_rfl
  simp[Instr.arrayAt,run_underlying q]
 have h:(b.alloc (.cells (encB (sumB shaK c)).toArray 341)).heap[b.heap.size]?=some (.cells (encB (sumB shaK c)).toArray 341 (0,0)):=by grind
 have rd:xp (b.alloc (.cells (encB (sumB shaK c)).toArray 341)) ⟨b.heap.size,0,none⟩ 16=true/\xo (b.alloc (.cells (encB (sumB shaK c)).toArray 341)) ⟨b.heap.size,0,none⟩ 16=(encB (sha c)).toArray:=by
  have:=yl (w:=b.alloc (.cells (encB (sumB shaK c)).toArray 341)) (a:=⟨b.heap.size,0,none⟩) (cs:=encB (sha c)) (λj v d=>by
   rw[l8,m0,cell_of_row _ _ _ _ _ _ h,l7];have x:j<16:=by grind [Nat.lt_or_ge,List.getElem?_eq_none,xQ,yR]
   unfold sha encB at d;rw[R1,aQ_ x]at d;unfold encB;rw[R1];exact d)
  grind [xQ,yR]
 have p:=rd.1;have o:=rd.2;have g:Below W.heap.size W (b.alloc (.cells (encB (sumB shaK c)).toArray 341)):=by grind
 have m:xN (b.alloc (.cells (encB (sumB shaK c)).toArray 341)) W.heap.size 16=true:=qB _ l;have s:=xM8 (yR c);obtain⟨f,k⟩:∃f,f=b.alloc (.cells (encB (sumB shaK c)).toArray 341):=⟨_,rfl⟩;rw[<-k]at p o g m⊢;have B:=h_ g;clear i z l rd h k g;rw[C];go_simp;go_wp2;obtain⟨cs,T,D,_⟩:=uQ m;have r:=xF (setRow_heap f W.heap.size cs (encB (sha c)).toArray T (0,0) D) (show (encB (sha c)).toArray.size=16 by rw[vb,yR]);have y:=xH B.out (w_ _) (encB (sha c)).toArray;refine bodyPost_ret (zR rfl isAgg297 sizeOf297 _ _ ⟨W.heap.size,0,none⟩ (encB (sha c)).toArray rfl ?_ ?_) rfl ⟨rfl,y⟩
 ·exact r.1
 ·exact r.2
theorem xB3 {w}(h:Gl w):qI w:=⟨λt ht=>by
 have a : prog.globalNamed "bulletin/sha256.constants" = some 4 := by kernel_rfl
 exact h.sha.cell a t (by rw[xN5];exact ht)⟩
end
end Go.Proofs.YtdhapkeimaljfaaGreatDoor
namespace Go.Proofs.YtdhapkeimaljfaaGreatDoor
abbrev By:=List UInt8
def beB:Nat->Nat->By
 |0,_=>[]
 |k+1,n=>UInt8.ofNat (n/256 ^ k) :: beB k n
def deB (l:By):Nat:=l.foldl (λn b=>n*256+b.toNat) 0
theorem xu:∀(k n:Nat),(beB k n).length=k
 |0,_=>rfl
 |k+1,n=>by simp[beB,xu k n]
theorem kX (k n x:Nat)(h:k<=n):(beB k x).drop n=[]:=M0 (by rw[xu];exact h)
theorem xMh:∀(l:By) (a:Nat),l.foldl (λn b=>n*256+b.toNat) a=a*256 ^ l.length+deB l
 |[],a=>by simp[deB]
 |b :: l,a=>by
  have h1:=xMh l (a*256+b.toNat);have h2:=xMh l (0*256+b.toNat);unfold deB at *;simp only[cq_,x5];rw[h1,h2,Nat.pow_succ,az_,m0,Nat.add_mul,Nat.mul_assoc,Nat.mul_comm 256 (256 ^ l.length),ch_]
theorem xVt (b:UInt8)(l:By):deB (b :: l)=b.toNat*256 ^ l.length+deB l:=by
 have:=xMh l b.toNat;simpa[deB]using this
theorem xS6:∀(l:By),deB l<256 ^ l.length
 |[]=>by simp[deB]
 |b :: l=>by
  rw[xVt,x5,Nat.pow_succ];have h1:=xS6 l;have h2:=b.toNat_lt;have h3:b.toNat*256 ^ l.length<=255*256 ^ l.length:=bO_ _ (by omega);omega
theorem xAh:∀(k n:Nat),deB (beB k n)=n%256 ^ k
 |0,n=>by simp[beB,deB,Nat.mod_one]
 |k+1,n=>by
  rw[beB,xVt,xu,xAh k n];have h:(UInt8.ofNat (n/256 ^ k)).toNat=n/256 ^ k%256:=by simp
  rw[h,Nat.pow_succ,Nat.mod_mul,Nat.mul_comm,cn_]
structure qJ where
 kind:Int
 gen:Int
 num:Int
 idx:Int
 cnt:Int
 bytes:By
def xBk (kind gen num:Int):Prop:=0<=kind/\kind<=65535/\0<=gen/\gen<=2147483647/\0<=num/\num<=2147483647
def qJ.Ok (p:qJ):Prop:=
 xBk p.kind p.gen p.num/\1<=p.cnt/\p.cnt<=586/\0<=p.idx/\p.idx<p.cnt/\p.bytes.length<=224 /\
 (p.idx=p.cnt-1->(p.cnt<=1\/0<p.bytes.length)/\p.idx*224+p.bytes.length<=131072)/\(p.idx≠p.cnt-1->p.bytes.length=224)
variable (H:By->By)
def hdB (p:qJ):By:=beB 4 p.gen.toNat++beB 4 p.num.toNat++beB 2 p.kind.toNat++beB 2 p.idx.toNat++beB 2 p.cnt.toNat++beB 2 p.bytes.length
def uI (p:qJ):By:=hdB p++p.bytes++List.replicate (224-p.bytes.length) 0
def encP (p:qJ):By:=H (uI p)++uI p
def rawP (c:By):qJ:=⟨deB ((c.drop 8).take 2),deB (c.take 4),deB ((c.drop 4).take 4),deB ((c.drop 10).take 2),deB ((c.drop 12).take 2),(c.drop 16).take (deB ((c.drop 14).take 2))⟩
open Classical in
noncomputable def decC (d c:By):Option qJ:=
 if H c=d/\deB ((c.drop 14).take 2)<=224/\(c.drop (16+deB ((c.drop 14).take 2))).all (· == 0)=true/\(rawP c).Ok then some (rawP c)else none
noncomputable def decP (b:By):Option qJ:=decC H (b.take 16) (b.drop 16)
theorem jw (p:qJ):(hdB p).length=16:=by simp[hdB,xu]
theorem xSc {p:qJ}(h:p.bytes.length<=224):(uI p).length=240:=by simp[uI,jw];omega
theorem xVo (a:∀c,(H c).length=16){p:qJ}(h:p.bytes.length<=224):(encP H p).length=256:=by simp[encP,a,xSc h]
theorem yE4 {p:qJ}(h:p.Ok):rawP (uI p)=p:=by
 obtain⟨⟨h1,h3,h4,n,m,l⟩,k,j,a,o,hl,_⟩:=h;have i:(uI p).take 4=beB 4 p.gen.toNat:=by simp[uI,hdB,xu]
 have g:((uI p).drop 4).take 4=beB 4 p.num.toNat:=by simp[uI,hdB,xu]
 have f:((uI p).drop 8).take 2=beB 2 p.kind.toNat:=by simp[uI,hdB,xu,kX,ad_]
 have e:((uI p).drop 10).take 2=beB 2 p.idx.toNat:=by simp[uI,hdB,xu,kX,ad_]
 have d:((uI p).drop 12).take 2=beB 2 p.cnt.toNat:=by simp[uI,hdB,xu,kX,ad_]
 have c:((uI p).drop 14).take 2=beB 2 p.bytes.length:=by simp[uI,hdB,xu,kX,ad_]
 have b:((uI p).drop 16).take p.bytes.length=p.bytes:=by simp[uI,hdB,xu,kX,ad_]
 have f6:deB (beB 2 p.bytes.length)=p.bytes.length:=by rw[xAh];omega
 unfold rawP;rw[i,g,f,e,d,c,f6,b];simp only[xAh];cases p;simp only[qJ.mk.injEq,and_true];simp only at *;refine⟨?_,?_,?_,?_,?_⟩ <;> omega
theorem xEa (b:∀c,(H c).length=16){p:qJ}(h:p.Ok):decP H (encP H p)=some p:=by
 have hl:=h.2.2.2.2.2.1;have a:=yE4 h;have g:(encP H p).drop 16=uI p:=by simp[encP,b]
 have f:(encP H p).take 16=H (uI p):=by simp[encP,b]
 have e:((uI p).drop 14).take 2=beB 2 p.bytes.length:=by simp[uI,hdB,xu,kX,ad_]
 have f6:deB (beB 2 p.bytes.length)=p.bytes.length:=by rw[xAh];omega
 have d:(uI p).drop (16+p.bytes.length)=List.replicate (224-p.bytes.length) 0:=by
  rw[<-aj_];simp[uI,hdB,xu,kX,ad_]
 unfold decP;rw[g,f];unfold decC;rw[if_pos,a];rw[e,f6,a,d];exact⟨rfl,hl,by simp,h⟩
theorem yFv:decP H (List.replicate 256 0)=none:=by
 unfold decP decC;refine if_neg ?_;rintro ⟨_,_,_,h⟩;have h1:=h.2.1;have h2:(rawP ((List.replicate 256 (0:UInt8)).drop 16)).cnt=0:=by decide
 omega
structure PRec where
 kind:Int
 gen:Int
 num:Int
 pay:By
def y6 (n:Nat):Nat:=max 1 ((n+223)/224)
def yO (r:PRec)(i:Nat):qJ:=⟨r.kind,r.gen,r.num,i,y6 r.pay.length,(r.pay.drop (i*224)).take 224⟩
def xJ (r:PRec):List By:=(List.range (y6 r.pay.length)).map λi=>encP H (yO r i)
def PRec.Ok (r:PRec):Prop:=xBk r.kind r.gen r.num/\r.pay.length<=131072
theorem zq (r:PRec):(xJ H r).length=y6 r.pay.length:=by simp[xJ]
theorem xA7 {r:PRec}(h:r.Ok){i:Nat}(b:i<y6 r.pay.length):(yO r i).Ok:=by
 obtain⟨h1,h2⟩:=h;have a:y6 r.pay.length<=586:=by unfold y6;omega
 have hl:((r.pay.drop (i*224)).take 224).length=min 224 (r.pay.length-i*224):=by simp
 unfold y6 at b a;refine⟨h1,?_,?_,?_,?_,?_,λh3=>⟨?_,?_⟩,λh3=>?_⟩
 all_goals (try simp only[yO,y6]at h3)
 all_goals simp only[yO,y6,hl]
 all_goals omega
noncomputable def zt (p0:qJ):Nat->List By->Option By
 |0,_=>some []
 |_+1,[]=>none
 |n+1,b :: rest=>match decP H b with
  |none=>none
  |some p=>if p.kind=p0.kind/\p.gen=p0.gen/\p.num=p0.num/\p.cnt=p0.cnt/\p.idx=p0.cnt-(n+1:Nat)then (zt p0 n rest).map (p.bytes ++ ·)else none
noncomputable def uh:List By->Option (PRec×Nat)
 |[]=>none
 |b :: rest=>match decP H b with
  |none=>none
  |some p=>if p.idx=0 then (zt H p (p.cnt.toNat-1) rest).map λl=>(⟨p.kind,p.gen,p.num,p.bytes++l⟩,p.cnt.toNat)else none
theorem xF0 (l:By)(a n:Nat):(l.drop a).take n++l.drop (a+n)=l.drop a:=by
 rw[<-aj_];exact Q0 n (l.drop a)
theorem xGh (b:∀c,(H c).length=16){r:PRec}(h:r.Ok)(rest:List By):∀(n i:Nat),i+n=y6 r.pay.length ->
  zt H (yO r 0) n (((List.range' i n).map λi=>encP H (yO r i))++rest)=some (r.pay.drop (i*224))
 |0,i,a=>by
  have:r.pay.length<=i*224:=by unfold y6 at a;omega
  simp[zt,M0 this]
 |n+1,i,a=>by
  have d:decP H (encP H (yO r i))=some (yO r i):=xEa H b (xA7 h (by omega));simp only[List.range'_succ,t8,L2,zt,d];rw[if_pos ⟨rfl,rfl,rfl,rfl,by simp only[yO];omega⟩,xGh b h rest n (i+1) (by omega)];simp only[aa_,yO,ag_];have e:(i+1)*224=i*224+224:=by omega
  rw[e];exact xF0 _ _ _
theorem xR9 (a:∀c,(H c).length=16){r:PRec}(h:r.Ok)(rest:List By):uh H (xJ H r++rest)=some (r,y6 r.pay.length):=by
 have g:1<=y6 r.pay.length:=by unfold y6;omega
 obtain⟨m,d⟩:∃m,y6 r.pay.length=m+1:=⟨y6 r.pay.length-1,by omega⟩;have b:decP H (encP H (yO r 0))=some (yO r 0):=xEa H a (xA7 h (by omega));have hs:xJ H r=encP H (yO r 0) :: (List.range' 1 m).map λi=>encP H (yO r i):=by
  unfold xJ;rw[d,List.range_eq_range',List.range'_succ];rfl
 have e:=xGh H a h rest m 1 (by omega);rw[hs,L2];simp only[uh,b];rw[if_pos (show (yO r 0).idx=0 from rfl)];have f:(yO r 0).cnt.toNat-1=m:=by simp only[yO];omega
 rw[f,e];simp only[aa_,yO,ag_,Prod.mk.injEq];refine⟨?_,by omega⟩;cases r
 simp only[PRec.mk.injEq,true_and];exact xF0 _ 0 224
noncomputable def zL (gen:Int):Nat->Int->List By->List PRec
 |0,_,_=>[]
 |f+1,num,l=>match uh H l with
  |none=>[]
  |some (r,n)=>if l=[]then []else if r.gen=gen/\r.num=num then r :: zL gen f (num+1) (l.drop n)else []
end Go.Proofs.YtdhapkeimaljfaaGreatDoor
namespace Go.Proofs.YtdhapkeimaljfaaGreatDoor
open Go Go.RowKit Go.Proofs Tryz
section
def xFn (l:List UInt8):Bool:=l.all (· == 0)
theorem xOk {a b}(h:a=b):Ending.returned (.bool a)=.returned (.bool b):=by rw[h]
theorem xYn {l:List UInt8}{k}(h:k<l.length)(b:(l.take k).all (· == 0)=true)(a:l[k]=0):(l.take (k+1)).all (· == 0)=true:=by grind [List.take_succ_eq_append_getElem]
theorem yG2 {l k}(h:k<l.length)(a:l[k]≠0):xFn l=false:=by
 rw[<-Bool.not_eq_true];grind [xFn,List.all_eq_true,List.getElem_mem]
theorem xUv (a l cap w)(hs:∀p,a=some p->SlB w p l)(c:a=none->l=[])(hl:l.length<=1000000):
  Calls prog 151 #[.slice a l.length cap] w λe w'=>e=.returned (.bool (xFn l))/\w=w':=by
 have HS:=h_ hs;have h:=h_ c;clear hs c;go_enter func151,ntmps151;go_wp2;go_loop [7] (λi=>∃k:Nat,k<=l.length/\i=.int .i64 k/\(l.take k).all (· == 0)=true) (λi=>l.length-(intOf i).toNat)
 case atStart=>exact⟨0,by omega,rfl,by simp⟩
 case round=>
  obtain⟨k,m,rfl,b⟩:=hrel;by_cases hlt:k<l.length
  ·obtain⟨p,rfl⟩:∃p,a=some p:=by
    cases a with
    |none=>have:=h.out rfl;subst this;simp at hlt
    |some p=>exact⟨p,rfl⟩
   have g:=(HS.out p rfl).cell k _ (U_ hlt);have j:=h_ b;clear b;generalize hx:l[k]=x at g;have f:=h_ hx;clear hx;by_cases h0:x=0
   ·subst h0;have c:=h_ (xYn hlt j.out f.out);go_wp2;go_round
    case rel=>exact⟨k+1,by omega,by go_num,c.out⟩
    case measure=>simp[intOf];omega
   ·have d:=h_ (yG2 hlt (by rw[f.out];exact h0));have n:((x.toNat:Int)==0)=false:=by
     rw[beq_eq_false_iff_ne];intro e;exact h0 (UInt8.toNat_inj.1 (by simpa using e))
    have o:((x.toNat:Int) != 0)=true:=by grind
    go_wp2;go_ret;exact⟨xOk d.symm,rfl⟩
  ·have d:=h_ (show xFn l=true by rw[v6 (by omega)]at b;exact b);clear b;go_wp2;go_ret;exact⟨xOk d.symm,rfl⟩
def qW:=lx_ 233
def qr:=sx_ 233
def xE0:=@yh prog 233 6 isAgg233 sizeOf233
def xDt:=@yk prog 233 6 (by kernel_rfl)
def xAu:=lx_ 314
def xDh:=sx_ 314
def xLo:=@yh prog 314 3 isAgg314 sizeOf314
def xT9:=@yk prog 314 3 (by kernel_rfl)
def xAt:=lx_ 344
def kS:=sx_ 344
def xLn:=@yh prog 344 5 isAgg344 sizeOf344
def xKo:=@yk prog 344 5 (by kernel_rfl)
def zc (k g n i c:Int)(v:Value):List Value:=[.int .i64 k,.int .i64 g,.int .i64 n,.int .i64 i,.int .i64 c,v]
theorem xHq (a b c d e f):xA8 #[a,b,c,d,e,f] 0 6=true:=rfl
theorem xHm (a b c d e f):xA3 #[a,b,c,d,e,f] 0 6=#[a,b,c,d,e,f]:=rfl
theorem yEe (a b c d e):xA8 #[a,b,c,d,e] 0 5=true:=rfl
theorem yE3 (a b c d e):xA3 #[a,b,c,d,e] 0 5=#[a,b,c,d,e]:=rfl
theorem yHd (a b c d e):xA8 #[a,b,c,d,e] 0 3=true:=rfl
theorem yH9 (a b c d e):xA3 #[a,b,c,d,e] 0 3=#[a,b,c]:=rfl
theorem yIj (a b c d e):((#[a,b,c,d,e]:Array Value).size==5)=true:=rfl
theorem xOd (a b c d e f):((#[a,b,c,d,e,f]:Array Value).size==6)=true:=rfl
theorem yFk (a b c d e):xt 5 #[.int .i64 a,.int .i64 b,.int .i64 c,.int .i64 d,.int .i64 e]=true:=by simp[xt,Value.oneCell']
attribute [local go_sem ↓] qW xAu xAt kS qr
attribute [local go_sem] xE0 xLo xLn xKo xDt xHq xHm yEe yE3 yHd yH9 yIj xOd yFk xh xg xe xd xx xy xk xj xq xB xw
theorem xHn (k g n i c v W):
  Calls prog 191 #[.agg (zc k g n i c v).toArray] W λe W'=>e=.returned (.agg #[.int .i64 k,.int .i64 g,.int .i64 n,.int .i64 i,.int .i64 c])/\Below W.heap.size W W':=by
 unfold zc;go_enter func191,ntmps191;go_wp2;refine bodyPost_ret (zR rfl isAgg344 sizeOf344 _ _ ⟨W.heap.size+1,0,none⟩ _ rfl ?_ ?_) rfl ⟨rfl,?_⟩
 ·go_simp
 ·go_simp
 ·grind
def xPp (k g n:Int)(W:World)(e:Ending)(W':World):Prop:=∃b,e=.returned (.bool b)/\(b=true↔xBk k g n)/\Below W.heap.size W W'
theorem kD {k g n W W' b}(h:b=true↔xBk k g n)(a:Below W.heap.size W W'):xPp k g n W (.returned (.bool b)) W':=⟨b,rfl,h,a⟩
theorem xHb (k g n W):Calls prog 164 #[.agg #[.int .i64 k,.int .i64 g,.int .i64 n]] W (xPp k g n W):=by
 have b:=h_ (show Below W.heap.size W (W.alloc (.cells #[.int .i64 k,.int .i64 g,.int .i64 n] 314))from (z_ _ _).alloc (w_ _) _);by_cases h1:0<=k
 ·by_cases h2:k<=65535
  ·by_cases h3:0<=g
   ·by_cases h4:g<=2147483647
    ·by_cases h5:0<=n
     ·by_cases h6:n<=2147483647
      ·have a:=h_ (show xBk k g n from ⟨h1,h2,h3,h4,h5,h6⟩);go_enter func164,ntmps164;go_wp2;go_ret;exact kD (by simp[a.out]) b.out
      ·have a:=h_ (show ¬ xBk k g n from λh=>h6 h.2.2.2.2.2);go_enter func164,ntmps164;go_wp2;go_ret;exact kD (by simp[a.out]) b.out
     ·have a:=h_ (show ¬ xBk k g n from λh=>h5 h.2.2.2.2.1);go_enter func164,ntmps164;go_wp2;go_ret;exact kD (by simp[a.out]) b.out
    ·have a:=h_ (show ¬ xBk k g n from λh=>h4 h.2.2.2.1);go_enter func164,ntmps164;go_wp2;go_ret;exact kD (by simp[a.out]) b.out
   ·have a:=h_ (show ¬ xBk k g n from λh=>h3 h.2.2.1);go_enter func164,ntmps164;go_wp2;go_ret;exact kD (by simp[a.out]) b.out
  ·have a:=h_ (show ¬ xBk k g n from λh=>h2 h.2.1);go_enter func164,ntmps164;go_wp2;go_ret;exact kD (by simp[a.out]) b.out
 ·have a:=h_ (show ¬ xBk k g n from λh=>h1 h.1);go_enter func164,ntmps164;go_wp2;go_ret;exact kD (by simp[a.out]) b.out
def xIh (p:qJ)(W:World)(e:Ending)(W':World):Prop:=∃r:Int,e=.returned (.int .i64 r)/\(r=0↔p.Ok)/\Below W.heap.size W W'
theorem xI7 {p W W'}(h:p.Ok)(a:Below W.heap.size W W'):xIh p W (.returned (.int .i64 0)) W':=⟨0,rfl,by simp[h],a⟩
theorem jh {p W W' r}(h:¬ p.Ok)(a:r≠0)(b:Below W.heap.size W W'):xIh p W (.returned (.int .i64 r)) W':=⟨r,rfl,by simp[h,a],b⟩
theorem xPg (p a cap W)(hl:p.bytes.length<=cap):
  Calls prog 152 #[.agg (zc p.kind p.gen p.num p.idx p.cnt (.slice a p.bytes.length cap)).toArray] W (xIh p W):=by
 obtain⟨k,g,n,i,c,bs⟩:=p;simp only at hl⊢;obtain⟨m,s⟩:∃m,m=bs.length:=⟨_,rfl⟩;have H:=h_ s;rw[<-s]at hl⊢;clear s;have v:(⟨k,g,n,i,c,bs⟩:qJ).Ok↔xBk k g n/\1<=c/\c<=586/\0<=i/\i<c/\m<=224/\(i=c-1->(c<=1\/0<m)/\i*224+m<=131072)/\(i≠c-1->m=224):=by rw[H.out];rfl
 generalize (⟨k,g,n,i,c,bs⟩:qJ)=P at v⊢;have f:=h_ v;clear v H;unfold zc;have A:Below W.heap.size W (W.alloc (.cells #[.int .i64 k,.int .i64 g,.int .i64 n,.int .i64 i,.int .i64 c,.slice a m cap] 233)):=by grind
 have y:=h_ A;clear A;go_enter func152,ntmps152;go_wp2_with (go_at_call 191;refine(xHn _ _ _ _ _ _ _).mono ?_;rintro e l ⟨rfl,C⟩);have t:=y.trans (C.mono (by simp));have G:l.heap[W.heap.size]?=some (.cells #[.int .i64 k,.int .i64 g,.int .i64 n,.int .i64 i,.int .i64 c,.slice a m cap] 233 (0,0)):=by grind
 have B:W.heap.size<l.heap.size:=by grind
 have w:Below l.heap.size l (l.alloc (.cells #[.int .i64 k,.int .i64 g,.int .i64 n,.int .i64 i,.int .i64 c] 344)):=by grind
 have F:=w.block _ B |>.trans G
 have E:(l.alloc (.cells #[.int .i64 k,.int .i64 g,.int .i64 n,.int .i64 i,.int .i64 c] 344)).heap[l.heap.size]?=some (.cells #[.int .i64 k,.int .i64 g,.int .i64 n,.int .i64 i,.int .i64 c] 344 (0,0)):=by grind
 have u:=t.trans (w.mono t.size);refine(xHb _ _ _ _).mono ?_;rintro e r ⟨b,rfl,I,o⟩;have z:l.heap.size<(l.alloc (.cells #[.int .i64 k,.int .i64 g,.int .i64 n,.int .i64 i,.int .i64 c] 344)).heap.size:=by simp
 have D:=(o.block _ (by omega)).trans F;have x:=(o.block _ z).trans E;have j:=h_ (u.trans (o.mono u.size));have c5:=cell_of_row r W.heap.size 5 _ _ _ D;have c3:=cell_of_row r l.heap.size 3 _ _ _ x;have c4:=cell_of_row r l.heap.size 4 _ _ _ x;simp only[l7,m8,t1]at c5 c3 c4;have q:=h_ I;clear I C t G w F E u o D x y B z;cases b with
 |false=>
  have d:=h_ (show ¬ P.Ok from λh=>by have h:=f.1 h;have:=q.2 h.1;cases this)
  go_wp2;go_ret;exact jh d.out (by decide) j.out
 |true=>
  by_cases q0:1<=c
  ·by_cases q1:c<=586
   ·by_cases q2:0<=i
    ·by_cases q3:i<c
     ·by_cases q4:(m:Int)<=224
      ·by_cases q5:i=c-1
       ·subst q5;have J:(c-1==c-1)=true:=by simp
        by_cases q7:1<c
        ·by_cases q8:m=0
         ·subst q8;have d:=h_ (show ¬ P.Ok from λh=>by have h:=f.1 h;have:=(h.2.2.2.2.2.2.1 rfl).1;omega);go_wp2;go_ret;exact jh d.out (by decide) j.out
         ·have K:((m:Int)==0)=false:=by grind
          by_cases q10:(c-1)*224+m<=131072
          ·have hy:=h_ (show P.Ok from f.2 ⟨q.1 rfl,q0,q1,q2,q3,by omega,λ_=>⟨.inr (by omega),q10⟩,λh=>absurd rfl h⟩);go_wp2;go_ret;exact xI7 hy.out j.out
          ·skip
           have d:=h_ (show ¬ P.Ok from λh=>by have h:=f.1 h;exact q10 (h.2.2.2.2.2.2.1 rfl).2);go_wp2;go_ret;exact jh d.out (by decide) j.out
        ·obtain rfl:c=1:=by omega
         have hy:=h_ (show P.Ok from f.2 ⟨q.1 rfl,q0,q1,q2,q3,by omega,λ_=>⟨.inl (by omega),by omega⟩,λh=>absurd rfl h⟩);go_wp2;go_ret;exact xI7 hy.out j.out
       ·have J:(i==c-1)=false:=by grind
        by_cases q7:(m:Int)<224
        ·skip
         have d:=h_ (show ¬ P.Ok from λh=>by have h:=f.1 h;have:=h.2.2.2.2.2.2.2 q5;omega);go_wp2;go_ret;exact jh d.out (by decide) j.out
        ·have hy:=h_ (show P.Ok from f.2 ⟨q.1 rfl,q0,q1,q2,q3,by omega,λh=>absurd h q5,λ_=>by omega⟩);clear q5;go_wp2;go_ret;exact xI7 hy.out j.out
      ·have d:=h_ (show ¬ P.Ok from λh=>by have h:=f.1 h;have:=h.2.2.2.2.2.1;omega);go_wp2;go_ret;exact jh d.out (by decide) j.out
     ·have d:=h_ (show ¬ P.Ok from λh=>by have h:=f.1 h;exact q3 h.2.2.2.2.1);go_wp2;go_ret;exact jh d.out (by decide) j.out
    ·have d:=h_ (show ¬ P.Ok from λh=>by have h:=f.1 h;exact q2 h.2.2.2.1);go_wp2;go_ret;exact jh d.out (by decide) j.out
   ·have d:=h_ (show ¬ P.Ok from λh=>by have h:=f.1 h;exact q1 h.2.2.1);go_wp2;go_ret;exact jh d.out (by decide) j.out
  ·have d:=h_ (show ¬ P.Ok from λh=>by have h:=f.1 h;exact q0 h.2.1);go_wp2;go_ret;exact jh d.out (by decide) j.out
end
theorem yJa {a b c d}(h:a=b)(h2:c=d):Ending.returned (.tuple #[.int .i64 a,.int .i64 c])=.returned (.tuple #[.int .i64 b,.int .i64 d]):=by rw[h,h2]
theorem xUg (n:Nat)(W)(b:n<=131072):
  Calls prog 109 #[.int .i64 n] W λe W'=>e=.returned (.tuple #[.int .i64 (y6 n:Nat),.int .i64 0])/\W=W':=by
 have h1:(n:Int)<=131072:=by omega
 have a:=h_ (show max 1 (((n:Int)+224-1)/224)=((y6 n:Nat):Int) by unfold y6;omega);by_cases h0:n=0
 ·subst h0;go_enter func109,ntmps109;go_wp2;go_ret2;exact⟨rfl,rfl⟩
 have h2:1<=((n:Int)+223)/224:=by omega
 go_enter func109,ntmps109;go_wp2;go_ret2;exact⟨yJa a.out rfl,rfl⟩
theorem yIx {l r}:(str l=str r)↔l=r:=by simp[str]
theorem xMo (a b l r ca cb W)(h1:SlB W a l)(h2:SlB W b r):
  Calls prog 149 #[.slice (some a) l.length ca,.slice (some b) r.length cb] W λe W'=>e=.returned (.bool (decide (l=r)))/\W=W':=by
 have g:=run_convert_bytes_back (P:=prog) W 23 9 5 a ca l underlying23 underlying5 underlying9 (λj c=>h1.cell j _ (U_ c));have f:=run_convert_bytes_back (P:=prog) W 23 9 5 b cb r underlying23 underlying5 underlying9 (λj c=>h2.cell j _ (U_ c));have d:=h_ (show decide (str l=str r)=decide (l=r)from decide_eq_decide.2 yIx);clear h1 h2;go_enter func149,ntmps149;go_wp2;go_ret;exact⟨xOk (by rw[cp_];simp),rfl⟩
theorem newB0 (w:World)(B)(a:B<=w.heap.size):OwnB (w.alloc (.cells #[] 5)) B (.slice (some ⟨w.heap.size,0,none⟩) 0 0) []:=OwnB.new w B [] a (by simp[maxLen])
theorem kW (a l cap W)(h:SlB W a l)(hl:l.length<=1000000000):
  Calls prog 57 #[.slice (some a) l.length cap] W λe W'=>∃v,e=.returned v/\OwnB W' W.heap.size v l/\v≠.slice none 0 0/\Below W.heap.size W W':=by
 have i:=newB0 W W.heap.size (w_ _);have m:Below W.heap.size W (W.alloc (.cells #[] 5)):=by grind
 have n:SlB (W.alloc (.cells #[] 5)) a l:=⟨λj c p=>T6 _ (h.cell j c p)⟩;have o:=h_ i;have HS:=h_ n;have r:=h_ m;clear i n h m;have heq:∀w,Sem.run prog (binOp .eql 23 (.slice (some a) l.length cap) (.slice none 0 0)) w=.ok (.bool false) w:=λw=>Lib.run_eql_slice_some_nil w a _ _ underlying23
 go_enter func57,ntmps57;go_wp2_with (at_builtin;refine zD rfl (.tmp 5) (.tmp 6) rfl W.heap.size _ [] rfl o.out a l cap rfl HS.out ?cA ?cB ?_)
 case cA=>simp;omega
 case cB=>simp
 intro v' w' ho f d;have b:v'≠.slice none 0 0:=d;have g:=r.grown f (by simp) (λk e=>(o.lt e).1);have q:=h_ (And.intro ho (And.intro b g));clear ho f d b g;go_wp2;go_ret;exact⟨v',rfl,q.out⟩
structure xBn (w:World)(hb ab:Nat)(h:List UInt8)(k:Nat):Prop where
 row:w.heap[hb]?=some (.cells (encB h).toArray 41 (0,0))
 len:h.length=32
 cnt:w.heap[ab]?=some (.cells #[.int .i64 k] 3 (0,0))
 ne:hb<ab
theorem xBn.setB {w a ab h k}(s:xBn w a ab h k)(i x):xBn (w.setCell ⟨a,i,none⟩ (.int .u8 x.toNat)) a ab (h.set i x) k:=by
 refine⟨?_,by simp[s.len],?_,s.ne⟩
 ·rw[heap_setCell_same w a i _ _ _ s.row];simp[encB]
 ·rw[heap_setCell_other w ⟨a,i,none⟩ ab _ (by have:=s.ne;simp;omega)];exact s.cnt
theorem xBn.setK {w a ab h k}(s:xBn w a ab h k)(m:Nat):xBn (w.setCell ⟨ab,0,none⟩ (.int .i64 m)) a ab h m:=by
 refine⟨?_,s.len,?_,s.ne⟩
 ·rw[heap_setCell_other w ⟨ab,0,none⟩ a _ (by have:=s.ne;simp;omega)];exact s.row
 ·rw[heap_setCell_same w ab 0 _ _ _ s.cnt];rfl
theorem xBn.drew' {w a ab h k}(s:xBn w a ab h k):xBn w.drew a ab h k:=⟨s.row,s.len,s.cnt,s.ne⟩
def putB (h:List UInt8)(k:Nat):List UInt8->List UInt8
 |[]=>h
 |b :: l=>putB (h.set k b) (k+1) l
theorem yB8 (h k l b):putB h k (l++[b])=(putB h k l).set (k+l.length) b:=by
 induction l generalizing h k with
 |nil=>simp[putB]
 |cons c l ih=>simp only[L2,putB,ih,x5];congr 1;omega
theorem jG (k n j)(h:j<k):(beB k n)[j]'(by rw[xu];exact h)=UInt8.ofNat (n/256 ^ (k-1-j)):=by
 induction k generalizing j with
 |zero=>omega
 |succ k ih=>
  grind [beB]
theorem jj (n i):((UInt8.ofNat (n/256 ^ i)).toNat:Int)=(n:Int)/2 ^ (8*i)%256:=by
 rw[UInt8.toNat_ofNat'];have a:(2:Nat) ^ (8*i)=256 ^ i:=by rw[Nat.pow_mul]
 grind
theorem jx (c ab h)(k n sz:Nat)(W)(hs:xBn W c ab h k)(K:sz<=8)(F:k+sz<=32)(E:n<=4611686018427387904):
  Calls prog 219 #[.int .i64 n,.int .i64 sz,.pointer (some ⟨c,0,none⟩),.pointer (some ⟨ab,0,none⟩)] W λe W'=>e=.returned (.tuple #[])/\xBn W' c ab (putB h k (beB sz n)) (k+sz)/\Below c W W':=by
 have HS:=h_ hs;clear hs;go_enter func219,ntmps219;go_wp2;go_loopw [6] (λi wr=>∃j:Nat,j<=sz/\i=.int .i64 ((sz:Int)-1-j)/\xBn wr c ab (putB h k ((beB sz n).take j)) (k+j)/\Below c W wr) (λi _=>(intOf i+1).toNat)
 case atStart=>exact⟨0,by omega,by go_num,HS.out,z_ _ _⟩
 case round=>
  obtain⟨j,G,rfl,a,g⟩:=hrel;by_cases hlt:j<sz
  ·obtain⟨i,v⟩:∃i:Nat,i=sz-1-j:=⟨_,rfl⟩;have d:(sz:Int)-1-j=(i:Int):=by omega
   rw[d];have hx:=jj n i;generalize C:UInt8.ofNat (n/256 ^ i)=b at hx;have o:putB h k ((beB sz n).take (j+1))=(putB h k ((beB sz n).take j)).set (k+j) b:=by
    have J:((beB sz n).take j).length=j:=by grind [List.length_take,xu]
    grind [List.take_succ_eq_append_getElem,xu,yB8,jG]
   obtain⟨x,u⟩:∃q,q=putB h k ((beB sz n).take j):=⟨_,rfl⟩;rw[<-u]at a o;have c1:=cell_of_row wr ab 0 _ _ _ a.cnt;have c2:=frozen_of_row wr ab 0 _ _ a.cnt;have m:=cell_of_row wr c (k+j) _ _ _ a.row;have B:=frozen_of_row wr c (k+j) _ _ a.row;rw[l7,vr x (k+j) (by rw[a.len];omega)]at m;simp only[v_]at c1;obtain⟨od,d1⟩:∃od:Value,wr.cell? ⟨c,k+j,none⟩=some od:=⟨_,m⟩;clear m;have z:(((k+j:Nat)):Int)=(k:Int)+j:=by omega
   have b1:(0:Int)<=8*(i:Int):=by omega
   have b2:8*(i:Int)<=64:=by omega
   have b3:(n:Int)<=4611686018427387904:=by omega
   have p:=(a.setB (k+j) b).drew';rw[hx]at p;have w:=h_ g;have L:=h_ hx;have H:=h_ o;have t:=h_ a;have l:=h_ p;have M:=h_ v;clear hx o a p g v C u;go_upto_region 3 with (fail)
   refine xz [0,1,2,3,4,5,6] [7] (λw'=>w'=wr.drew) rfl ?_;simp only[o_]
   repeat (go_big_quiet_step (fail))
   refine wpQuiet_nil ?_;refine yE ?_;simp only[o_];go_wp2;refine T_ ?_;have f:=l.setK (k+j+1);have s:Below c W (wr.setCell ⟨c,k+j,none⟩ (.int .u8 ((n:Int)/2 ^ (8*i)%256))).drew:=(w.setCell (w_ _) _).drew;have r:=cell_of_row _ ab 0 _ _ _ l.cnt;have A:=frozen_of_row _ ab 0 _ _ l.cnt;simp only[v_]at r;rw[z]at r;generalize (wr.setCell ⟨c,k+j,none⟩ (.int .u8 ((n:Int)/2 ^ (8*i)%256))).drew=w5 at f s r A⊢;rw[show (((k+j+1:Nat)):Int)=(k:Int)+j+1 by omega]at f;have I:=h_ f;have D:=h_ s;have N:(k:Int)+j<=32:=by omega
   clear c1 c2 d1 B f s;go_wp2;go_roundw
   case rel=>
    refine⟨j+1,by omega,?_,?_,D.setCell (T8 t.ne) _⟩
    ·go_num
    grind
   case measure=>simp[intOf]
  ·obtain rfl:j=sz:=by omega
   have t:=h_ a;have y:=h_ g;have d:(j:Int)-1-j=-1:=by omega
   rw[d];clear a g;go_wp2;go_end0;refine⟨rfl,?_,y.out⟩;have:=t.out;rw[v6 (by rw[xu];omega)]at this;exact this
theorem xQt (n c:Nat)(a:n<1099511627776)(d:c<256):bits .or .i64 ((n:Int)*256) (c:Int)=((n*256+c:Nat):Int):=by
 have hx:n*256 ||| c=n*256+c:=by
  have:=bY_ (i:=8) (b:=c) (by omega) n;grind
 have h1:(BitVec.ofInt 64 ((n:Int)*256)).toNat=n*256:=by
  rw[show (n:Int)*256=((n*256:Nat):Int) by omega,BitVec.ofInt_natCast,BitVec.toNat_ofNat];exact bH_ (by omega)
 have h2:(BitVec.ofInt 64 (c:Int)).toNat=c:=by grind
 show IntKind.i64.wrap ((BitVec.ofInt 64 ((n:Int)*256) ||| BitVec.ofInt 64 (c:Int)).toNat:Int)=_
 rw[BitVec.toNat_or,h1,h2,hx];exact ca_ _ (by omega)
theorem xBd (l b):deB (l++[b])=deB l*256+b.toNat:=by simp[deB,cc_]
theorem kp (l)(h:l.length<=4):deB l<4294967296:=by
 have h1:=xS6 l;have h2:256 ^ l.length<=256 ^ 4:=bh_ (by decide) h;omega
theorem xYf (sb ab a c)(cap k sz:Nat)(W)(B:c.length=256)(C:256<=cap)(t:W.heap[sb]?=some (.cells #[.slice (some a) 256 cap] 23 (0,0)))
  (hab:W.heap[ab]?=some (.cells #[.int .i64 k] 3 (0,0))) (hs:SlB W a c) (l:sb≠ab) (x:a.block≠ab) (E:sz<=4) (z:k+sz<=256):
  Calls prog 150 #[.int .i64 sz,.pointer (some ⟨sb,0,none⟩),.pointer (some ⟨ab,0,none⟩)] W λe W'=>e=.returned (.int .i64 (deB ((c.drop k).take sz):Nat))/\W.grownBy W' (some ab)/\W'.heap[ab]?=some (.cells #[.int .i64 ((k+sz:Nat):Int)] 3 (0,0)):=by
 have q:=h_ hab;have r:=h_ t;have HS:=h_ hs;clear hab t hs;go_enter func150,ntmps150;go_wp2;go_loopw [5,7] (λn i wr=>∃j:Nat,j<=sz/\i=.int .i64 j/\n=.int .i64 (deB ((c.drop k).take j):Nat)/\W.grownBy wr (some ab)/\wr.heap[ab]?=some (.cells #[.int .i64 ((k+j:Nat):Int)] 3 (0,0))) (λ_ i _=>sz-(intOf i).toNat)
 case atStart=>exact⟨0,by omega,rfl,by simp[deB],xZp _ _,q.out⟩
 case round=>
  obtain⟨j,A,rfl,rfl,f,d⟩:=hrel;by_cases hlt:j<sz
  ·have F:(j:Int)<sz:=by omega
   have c1:=cell_of_row wr ab 0 _ _ _ d;have c2:=frozen_of_row wr ab 0 _ _ d;have u:=(f.block sb (i_ r.out).1 (λe=>l (by cases e;rfl))).trans r.out;have c3:=cell_of_row wr sb 0 _ _ _ u;simp only[v_]at c1 c3;have o:k+j<c.length:=by omega
   have c4:=xRf f (by rw[xY];exact x) (HS.cell (k+j) _ (U_ o));have g:deB ((c.drop k).take (j+1))=deB ((c.drop k).take j)*256+(c[k+j]'o).toNat:=by grind [List.take_succ_eq_append_getElem,List.length_drop,xBd]
   have s:=kp ((c.drop k).take j) (by rw[x8];omega);generalize c[k+j]'o=b at c4 g;have y:=b.toNat_lt;obtain⟨n,m⟩:∃n,n=deB ((c.drop k).take j):=⟨_,rfl⟩;rw[<-m]at g s⊢;have h:=xQt n b.toNat (by omega) (by omega);rw[<-g]at h;have G:=h_ m;have p:=h_ f;have v:=h_ d;have w:(((k+j:Nat)):Int)=(k:Int)+j:=by omega
   have D:(n:Int)<4294967296:=by omega
   have b1:(k:Int)+j<256:=by omega
   have b2:k+j<256:=by omega
   have b3:(256:Int)<=cap:=by omega
   clear m f d g u s;rw[w]at c1;go_wp2;go_roundw
   case rel=>
    refine⟨j+1,by omega,by go_num,rfl,vl p.out (xRe wr ab 0 _),?_⟩;grind
   case measure=>simp[intOf];omega
  ·obtain rfl:j=sz:=by omega
   have p:=h_ f;have v:=h_ d;clear f d;go_wp2;go_ret;exact⟨rfl,p.out,v.out⟩
section
theorem yE6 (h k l)(a:k+l.length<=h.length):putB h k l=lay h k l:=by
 induction l generalizing h k with
 |nil=>simp[putB,lay]
 |cons b l ih=>
  rw[x5]at a;rw[putB,ih _ _ (by simp;omega)];unfold lay;grind [List.take_succ_eq_append_getElem,List.take_set_of_le,List.drop_set_of_lt,Nat.add_comm,Nat.add_left_comm]
theorem jM (h k l r):putB (putB h k l) (k+l.length) r=putB h k (l++r):=by
 induction l generalizing h k with
 |nil=>rfl
 |cons b l ih=>
  grind [putB,List.length_cons]
def yU (n:Nat):List UInt8:=List.replicate n 0
theorem xBq (L cs off):splice (encB L) off (encB cs)=encB (lay L off cs):=by
 simp[splice,lay,encB]
theorem xQc (p)(_h:p.bytes.length<=224):lay (lay (lay (yU 256) 0 (yU 16++hdB p)) 32 p.bytes) 0 (sha ((lay (lay (yU 256) 0 (yU 16++hdB p)) 32 p.bytes).drop 16))=encP sha p:=by
 have c:lay (yU 256) 0 (yU 16++hdB p)=yU 16++hdB p++yU 224:=by
  simp[lay,yU,jw]
 have b:lay (yU 16++hdB p++yU 224) 32 p.bytes=yU 16++uI p:=by
  have a:(yU 16++hdB p).length=32:=by simp[yU,jw]
  have d:List.drop (32+p.bytes.length) (yU 16++hdB p++yU 224)=List.replicate (224-p.bytes.length) 0:=by
   rw[<-aj_,List.drop_left' a];grind [yU]
  grind [lay,List.take_left',uI]
 rw[c,b];simp[yU,uI,lay,encP,yR]
theorem yBs (p):putB (putB (putB (putB (putB (putB (yU 32) 16 (beB 4 p.gen.toNat)) 20 (beB 4 p.num.toNat)) 24 (beB 2 p.kind.toNat)) 26 (beB 2 p.idx.toNat)) 28 (beB 2 p.cnt.toNat)) 30 (beB 2 p.bytes.length)=yU 16++hdB p:=by
 have h1:=jM (yU 32) 16 (beB 4 p.gen.toNat) (beB 4 p.num.toNat);have h2:=jM (yU 32) 16 (beB 4 p.gen.toNat++beB 4 p.num.toNat) (beB 2 p.kind.toNat);have h3:=jM (yU 32) 16 (beB 4 p.gen.toNat++beB 4 p.num.toNat++beB 2 p.kind.toNat) (beB 2 p.idx.toNat);have h4:=jM (yU 32) 16 (beB 4 p.gen.toNat++beB 4 p.num.toNat++beB 2 p.kind.toNat++beB 2 p.idx.toNat) (beB 2 p.cnt.toNat);have a:=jM (yU 32) 16 (beB 4 p.gen.toNat++beB 4 p.num.toNat++beB 2 p.kind.toNat++beB 2 p.idx.toNat++beB 2 p.cnt.toNat) (beB 2 p.bytes.length);simp only[b6,xu,Nat.reduceAdd]at h1 h2 h3 h4 a;rw[h1,h2,h3,h4,a,yE6 _ _ _ (by simp[yU,xu])];simp[lay,yU,hdB,xu]
theorem yBr (w:World):xBn ((w.alloc (.cells (encB (yU 32)).toArray 41)).alloc (.cells #[.int .i64 16] 3)) w.heap.size (w.heap.size+1) (yU 32) 16:=by
 refine⟨?_,by simp[yU],?_,by omega⟩
 ·grind
 grind
theorem xXn (n:Nat)(z:Int)(b:z=n)(g:n<=1099511627776)(w):Sem.run prog (Instr.makeSlice 23 (.int .i64 z) (.int .i64 z)) w=.ok (.slice (some ⟨w.heap.size,0,none⟩) n n) (w.alloc (.cells (encB (yU n)).toArray 5)):=by
 obtain⟨a,c,d,f,e⟩:=info_parts Tryz.info_byte;subst b;rw[run_make w 23 5 a (.int .u8 0) underlying23 c d .i64 .i64 n n (by omega) (by omega) (by rw[e];omega) (by omega)];rw[U6,f,ai_];congr 3;apply cs_
 ·simp[size_madeCells,yU,encB]
 ·intro k h1 h2;simp[madeCells,Value.cells,encB,yU,Nat.mod_one]
theorem yFp {w a l g off}(h:∀q,a=some q->SlB w q l)(d:a=none->l=[]):
  0<(encB l).length->some (⟨g,off,none⟩:Addr)=some ⟨g,off,none⟩/\∃ad,a=some ad/\∀j v,(encB l)[j]?=some v->w.cell? (ad.add j)=some v:=by
 intro c;refine⟨rfl,?_⟩;cases a with
 |none=>rw[d rfl]at c;simp[encB]at c
 |some q=>
  refine⟨q,rfl,λj v b=>?_⟩;have hl:j<l.length:=by grind [Nat.lt_or_ge,List.getElem?_eq_none,xQ]
  rw[vr l j hl]at b;cases b;exact(h q rfl).cell j _ (U_ hl)
theorem xm {P}{c:Code}{Q:Exit->Act->World->Prop}{a w w'}(h:w'=w)(b:c.wp P Q a w'):c.wp P Q a w:=h▸b
attribute [local go_sem ↓] qW qr xC6 xAs
attribute [local go_sem] xE0 xDt xR5 xQ9 xHq xHm xOd xh xg xe xd xx xy xk xj xq xB xw
theorem xMf (p)(i:p.Ok)(a cap W)(hK:qI W)(hl:p.bytes.length<=cap)(hs:∀q,a=some q->SlB W q p.bytes/\q.block<W.heap.size)(hn:a=none->p.bytes=[]):
  Calls prog 192 #[.agg (zc p.kind p.gen p.num p.idx p.cnt (.slice a p.bytes.length cap)).toArray] W λe W'=>∃g,e=.returned (.tuple #[.slice (some ⟨g,0,none⟩) 256 256,.int .i64 0])/\W.heap.size<=g/\W'.heap[g]?=some (.cells (encB (encP sha p)).toArray 5 (0,0))/\Below W.heap.size W W':=by
 have Ak:=xQc p i.2.2.2.2.2.1;have G:=yBs p;have oB:=i.2.2.2.2.2.1;obtain⟨kn,T⟩:∃n:Nat,p.kind=n:=⟨p.kind.toNat,by have:=i.1.1;omega⟩;obtain⟨gn,gB⟩:∃n:Nat,p.gen=n:=⟨p.gen.toNat,by have:=i.1.2.2.1;omega⟩;obtain⟨nn,gT⟩:∃n:Nat,p.num=n:=⟨p.num.toNat,by have:=i.1.2.2.2.2.1;omega⟩;obtain⟨ix,Am⟩:∃n:Nat,p.idx=n:=⟨p.idx.toNat,by have:=i.2.2.2.1;omega⟩;obtain⟨cn,u⟩:∃n:Nat,p.cnt=n:=⟨p.cnt.toNat,by have:=i.2.1;omega⟩;have E:=xPg p a cap (W.alloc (.cells #[.int .i64 p.kind,.int .i64 p.gen,.int .i64 p.num,.int .i64 p.idx,.int .i64 p.cnt,.slice a p.bytes.length cap] 233)) hl;unfold zc at E⊢;have b1:gn<=2147483647:=by have:=i.1.2.2.2.1;omega
 have b2:nn<=2147483647:=by have:=i.1.2.2.2.2.2;omega
 have b3:kn<=65535:=by have:=i.1.2.1;omega
 have b4:cn<=586:=by have:=i.2.2.1;omega
 have b5:ix<=586:=by have:=i.2.2.2.2.1;omega
 rw[T,gB,gT,Am,u]at E⊢;rw[T,gB,gT,Am,u]at G;simp only[U6]at G;obtain⟨m,hm⟩:∃m,m=p.bytes.length:=⟨_,rfl⟩;rw[<-hm]at E G hl oB⊢;have lh:=h_ Ak;have L9:=h_ G;have iV:=h_ E;have HK:=h_ hK;have HM:=h_ hm;have eO:=h_ i;have HS:=h_ hs;have HN:=h_ hn;clear Ak G T gB gT Am u E hK hm i hs hn;go_enter func192,ntmps192;go_wp2_with fail;refine iV.mono ?_;rintro e t ⟨r,rfl,hr,aa⟩;obtain rfl:r=0:=hr.2 eO.out;have L4:=(aa.block W.heap.size (by simp)).trans (heap_alloc_new W _);have ez:Below W.heap.size W t:=by grind
 have Y:=h_ L4;have aq:=h_ ez;clear L4 ez hr aa iV;go_upto_region 7 with (fail)
 have L:=yBr t;have z:Below t.heap.size t ((t.alloc (.cells (encB (yU 32)).toArray 41)).alloc (.cells #[.int .i64 16] 3)):=by grind
 have f:=h_ ((i_ Y.out).1);obtain⟨I,aR⟩:∃I,I=(t.alloc (.cells (encB (yU 32)).toArray 41)).alloc (.cells #[.int .i64 16] 3):=⟨_,rfl⟩;rw[<-aR]at L z;refine xm aR ?_;obtain⟨h,Fb⟩:∃q,q=t.heap.size:=⟨_,rfl⟩;rw[<-Fb]at L z f⊢;have KP:=h_ z;have X:=h_ ((z.block _ f.out).trans Y.out);have eN:=h_ L;have ax:=h_ (aq.trans ((Fb▸z).mono aq.size));clear L z aR Fb;have c1:=cell_of_row I W.heap.size 1 _ _ _ X.out;simp only[l7,m8,t1]at c1;go_wp2_with fail;refine(jx h (h+1) (yU 32) 16 gn 4 I eN.out (by omega) (by omega) (by omega)).mono ?_;rintro e w3⟨rfl,b,d⟩;have U:=h_ ((d.block _ f.out).trans X.out);have aJ:=h_ (ax.trans (d.mono (T8 f.out)));have mn:=h_ b;clear b d c1;have c1:=cell_of_row w3 W.heap.size 2 _ _ _ U.out;simp only[l7,m8,t1]at c1;go_wp2_with fail;refine(jx h (h+1) (putB (yU 32) 16 (beB 4 gn)) 20 nn 4 w3 mn.out (by omega) (by omega) (by omega)).mono ?_;rintro e w4⟨rfl,b,d⟩;have iE:=h_ ((d.block _ f.out).trans U.out);have dF:=h_ (aJ.trans (d.mono (T8 f.out)));have cW:=h_ b;clear b d c1;have c1:=cell_of_row w4 W.heap.size 0 _ _ _ iE.out;simp only[l7,m8,t1]at c1;go_wp2_with fail
 refine(jx h (h+1) (putB (putB (yU 32) 16 (beB 4 gn)) 20 (beB 4 nn)) 24 kn 2 w4 cW.out (by omega) (by omega) (by omega)).mono ?_;rintro e w5⟨rfl,b,d⟩;have Fa:=h_ ((d.block _ f.out).trans iE.out);have bR:=h_ (dF.trans (d.mono (T8 f.out)));have L_:=h_ b;clear b d c1;have c1:=cell_of_row w5 W.heap.size 3 _ _ _ Fa.out;simp only[l7,m8,t1]at c1;go_wp2_with fail;refine(jx h (h+1) (putB (putB (putB (yU 32) 16 (beB 4 gn)) 20 (beB 4 nn)) 24 (beB 2 kn)) 26 ix 2 w5 L_.out (by omega) (by omega) (by omega)).mono ?_;rintro e w6⟨rfl,b,d⟩;have KQ:=h_ ((d.block _ f.out).trans Fa.out);have fH:=h_ (bR.trans (d.mono (T8 f.out)));have tB:=h_ b;clear b d c1;have c1:=cell_of_row w6 W.heap.size 4 _ _ _ KQ.out;simp only[l7,m8,t1]at c1;go_wp2_with fail;refine(jx h (h+1) (putB (putB (putB (putB (yU 32) 16 (beB 4 gn)) 20 (beB 4 nn)) 24 (beB 2 kn)) 26 (beB 2 ix)) 28 cn 2 w6 tB.out (by omega) (by omega) (by omega)).mono ?_;rintro e w7⟨rfl,b,d⟩;have CP:=h_ ((d.block _ f.out).trans KQ.out);have rf:=h_ (fH.trans (d.mono (T8 f.out)));have lj:=h_ b;clear b d c1;have c1:=cell_of_row w7 W.heap.size 5 _ _ _ CP.out;simp only[l7,m8,t1]at c1;go_wp2_with fail
 refine(jx h (h+1) (putB (putB (putB (putB (putB (yU 32) 16 (beB 4 gn)) 20 (beB 4 nn)) 24 (beB 2 kn)) 26 (beB 2 ix)) 28 (beB 2 cn)) 30 m 2 w7 lj.out (by omega) (by omega) (by omega)).mono ?_;rintro e H⟨rfl,b,d⟩;have Ma:=h_ ((d.block _ f.out).trans CP.out);have rh:=h_ (rf.trans (d.mono (T8 f.out)));rw[L9.out]at b;have nB:=h_ b;clear b d c1 L9 Y X U iE Fa KQ CP aq ax aJ dF bR fH rf eN mn cW L_ tB lj KP b1 b2 b3 b4 b5;have sC:=xXn 256 256 rfl (by omega) H;go_upto_region 14 with (fail)
 clear sC;obtain⟨l,gC⟩:∃l,l=H.alloc (.cells (encB (yU 256)).toArray 5):=⟨_,rfl⟩;refine xm gC ?_;obtain⟨g,M⟩:∃g,g=H.heap.size:=⟨_,rfl⟩;have ah:l.heap[g]?=some (.cells (encB (yU 256)).toArray 5 (0,0)):=by grind
 have N:Below g H l:=by grind
 have Zq:l.heap.size=g+1:=by grind
 have S:h+1<g:=by rw[M];exact(i_ nB.cnt).1
 rw[<-M];have Mb:=h_ ((N.block _ (by have:=f.out;omega)).trans Ma.out);have gE:=h_ (rh.trans (N.mono (by have:=f.out;omega)));have bL:l.heap[h]?=some (.cells (encB (yU 16++hdB p)).toArray 41 (0,0)):=(N.block _ (by omega)).trans nB.row;have fI:=h_ bL;have bF:=h_ ah;have HS9:=h_ Zq;have Zr:=h_ S;have HG:=h_ M;clear gC M ah N Zq S bL
 have lV:0<(encB (yU 16++hdB p)).length->some (⟨g,0,none⟩:Addr)=some ⟨g,0,none⟩/\∃ad,some (⟨h,0,none⟩:Addr)=some ad/\∀j v,(encB (yU 16++hdB p))[j]?=some v->l.cell? (ad.add j)=some v:=λ_=>⟨rfl,_,rfl,λj v s=>by
  rw[l8,m0,cell_of_row _ _ _ _ _ _ fI.out,l7];exact s⟩
 have Mc:=h_ lV;have aH:(encB (yU 16++hdB p)).length=Nat.min 32 256:=by simp[xQ,yU,jw]
 have eu:=h_ aH;clear lV aH;go_wp2_with (refine wpList_copy_splice (o:=⟨some 44,_,_,_,_,_⟩) rfl (.tmp 42) (.tmp 43) 23 23 rfl 5 underlying23 (by kernel_rfl) (some ⟨g,0,none⟩) (some ⟨h,0,none⟩) 256 256 32 32 rfl rfl g 0 (encB (yU 256)) _ bF.out (encB (yU 16++hdB p)) eu.out Mc.out ?_ (zP _) g l (z_ _ _) (w_ _) ?_)
 ·simp[xQ,yU,jw]
 intro x K C;rw[xBq]at K;have S:=Zr.out;have hl1:=f.out;have An:=h_ ((C.block W.heap.size (by omega)).trans Mb.out);have tC:=h_ (gE.trans (C.mono (by omega)));obtain⟨Q,Z⟩:∃q,q=lay (yU 256) 0 (yU 16++hdB p):=⟨_,rfl⟩;rw[<-Z]at K;have Md:Q.length=256:=by grind [xFb,yU,jw]
 have Me:=h_ Z;have Dx:=h_ K.out;have Mf:∀q,a=some q->SlB x q p.bytes:=λq hq=>⟨λj c s=>(C.cell (by rw[xY];have:=(HS.out q hq).2;omega)).trans ((gE.cell (by rw[xY];exact(HS.out q hq).2)).trans ((HS.out q hq).1.cell j c s))⟩
 have Mg:=h_ Mf;have HL1L:=h_ Md;have Tr:=h_ (show g<x.heap.size by have:=C.size;have:=HS9.out;omega);clear K C S hl1 Z Mf Md fI bF Mc eu Mb gE Ma rh nB;go_upto_region 15 with (fail)
 have c1:=cell_of_row x W.heap.size 5 _ _ _ An.out;simp only[l7,m8,t1]at c1;refine xz [0,1,2,3] [4] (λw'=>w'=x.drew) rfl ?_;simp only[o_]
 repeat (go_big_quiet_step (fail))
 refine wpQuiet_nil ?_;refine yE ?_;simp only[o_];clear c1;have aF:=h_ (show (encB p.bytes).length=Nat.min m 224 by rw[xQ,<-HM.out];exact(aL_ oB).symm);refine wpList_copy_splice rfl (.tmp 46) (.tmp 48) 23 23 rfl 5 underlying23 (by kernel_rfl) (some ⟨g,32,none⟩) a 224 224 m cap rfl rfl g 32 (encB Q) _ Dx.out (encB p.bytes) aF.out (yFp (w:=x.drew) (λq hq=>⟨(Mg.out q hq).cell⟩) HN.out) ?_ (zP _) g x.drew (z_ _ _) (w_ _) ?_
 ·grind [xQ]
 intro O B Hk;rw[xBq]at B;have Ao:Below g x O:=by grind
 have Hl:(lay Q 32 p.bytes).length=256:=by grind [xFb]
 have Mh:=h_ (show W.heap.size<g by have:=Zr.out;have:=f.out;omega);have J:=h_ (tC.trans (Ao.mono (T8 Mh.out)));obtain⟨A,mN⟩:∃q,q=lay Q 32 p.bytes:=⟨_,rfl⟩;rw[<-mN]at B Hl;have Hm:=h_ (show g<O.heap.size by have:=Ao.size;have:=Tr.out;omega)
 have Fc:SlB O ⟨g,16,none⟩ (A.drop 16):=⟨λj c s=>by
  rw[l8,cell_of_row _ _ _ _ _ _ B.out,l7];rw[ao_]at s;unfold encB;rw[R1,s];rfl⟩
 have fN:=xIl ⟨g,16,none⟩ (A.drop 16) 240 O Fc (HK.below J.out (w_ _)) (by rw[E0];omega) (by rw[E0];omega) Hm.out;rw[show (A.drop 16).length=240 by rw[E0];omega]at fN;have Aq:=h_ fN;have Mj:=h_ B.out;have tz:=h_ mN;have HL2L:=h_ Hl;clear fN B mN Hl Hk Ao Fc aF Dx tC An Mg;go_wp2;refine T_ ?_;go_wp2_with fail;refine Aq.mono ?_;rintro e k ⟨rfl,P⟩;obtain⟨D,hD⟩:∃q,q=sha (A.drop 16):=⟨_,rfl⟩;rw[<-hD];have V:D.length=16:=by grind [yR]
 have HD:=h_ hD;have Zs:=h_ V;have aU:=xM8 V;have oD:=h_ (J.trans (P.mono J.size));have Mk:=h_ ((P.block _ Hm.out).trans Mj.out);have sF:=P.size;have Ml:=Hm.out;clear hD V Aq Mj J P;go_upto_region 17 with (fail)
 obtain⟨y,tD⟩:∃y,y=k.alloc (.cells (encB D).toArray 297):=⟨_,rfl⟩;refine xm tD ?_;obtain⟨F,wG⟩:∃F,F=k.heap.size:=⟨_,rfl⟩;rw[<-wG];have Ar:y.heap[F]?=some (.cells (encB D).toArray 297 (0,0)):=by grind
 have oE:Below k.heap.size k y:=by grind
 have Ts:=h_ ((oE.block g (by omega)).trans Mk.out);have Tt:=h_ (oD.trans (oE.mono oD.size));have Hn:=h_ Ar
 have lk:0<(encB D).length->some (⟨g,0,none⟩:Addr)=some ⟨g,0,none⟩/\∃ad,some (⟨F,0,none⟩:Addr)=some ad/\∀j v,(encB D)[j]?=some v->y.cell? (ad.add j)=some v:=λ_=>⟨rfl,_,rfl,λj v s=>by
  rw[l8,m0,cell_of_row _ _ _ _ _ _ Hn.out,l7];exact s⟩
 have Tu:=h_ lk;have bI:(encB D).length=Nat.min 16 256:=by grind [xQ]
 have mO:=h_ bI;clear tD wG Ar oE lk bI aU Mk oD sF Ml;go_wp2_with (refine wpList_copy_splice (o:=⟨some 55,_,_,_,_,_⟩) rfl (.tmp 53) (.tmp 54) 23 23 rfl 5 underlying23 (by kernel_rfl) (some ⟨g,0,none⟩) (some ⟨F,0,none⟩) 256 256 16 16 rfl rfl g 0 (encB A) _ Ts.out (encB D) mO.out Tu.out ?_ (zP _) g y (z_ _ _) (w_ _) ?_)
 ·grind [xQ]
 intro Ho R As;rw[xBq]at R;have bV:lay A 0 D=encP sha p:=by grind
 rw[bV]at R;have Tv:=h_ R.out;have Tw:=h_ (Tt.trans (As.mono (T8 Mh.out)));clear R As bV;go_wp2;go_ret2;exact⟨g,rfl,T8 Mh.out,Tv.out,Tw.out⟩
end
section
attribute [local go_sem ↓] qW qr xC6 xAs
attribute [local go_sem] xE0 xDt xR5 xQ9 xHq xHm xOd xh xg xe xd xx xy xk xj xq xB xw
def cutA (a:Addr)(cap k:Nat):Addr:=if cap=k then a else a.add k
theorem kV (a cap k):(cutA a cap k).block=a.block:=by unfold cutA;split <;> simp[xY]
theorem SlB.cut {w a c}(h:SlB w a c){cap}(d:c.length<=cap)(k):SlB w (cutA a cap k) (c.drop k):=by
 unfold cutA;split
 ·refine⟨λj u b=>?_⟩;grind
 ·exact h.drop k
theorem SlB.take {w a c}(h:SlB w a c)(k):SlB w a (c.take k):=⟨λj u b=>h.cell j u (by
 have d:j<k:=by grind
 rwa [aQ_ d]at b)⟩
theorem xCa:prog.elem 23=5:=by kernel_rfl
theorem kF (a)(len cap k:Nat)(z:Int)(b:z=k)(c:k<=len)(w):Sem.run prog (Instr.sliceAt 23 (.slice (some a) len cap) (some (.int .i64 z)) none none) w=.ok (.slice (some (cutA a cap k)) (len-k) (cap-k)) w:=by
 subst b;rw[run_sliceAt_slice w 23 _ _ _ _ (by kernel_rfl),run_slice_l w 23 (some a) len cap (by kernel_rfl) .i64 k (by omega) (by omega),xCa,sizeOf5];simp only[t2,sliced,U6,ai_,aa_];unfold cutA;split <;> rfl
theorem xFy (a)(len cap k h:Nat)(z y:Int)(b:z=k)(hy:y=h)(c:k<=h)(d:h<=cap)(w):Sem.run prog (Instr.sliceAt 23 (.slice (some a) len cap) (some (.int .i64 z)) (some (.int .i64 y)) none) w=.ok (.slice (some (cutA a cap k)) (h-k) (cap-k)) w:=by
 subst b;subst hy;rw[run_sliceAt_slice w 23 _ _ _ _ (by kernel_rfl),run_slice_lh w 23 (some a) len cap (by kernel_rfl) .i64 .i64 k h (by omega) (by omega) (by omega),xCa,sizeOf5];simp only[t2,sliced,U6,ai_,aa_];unfold cutA;split <;> rfl
def yA8 (c:List UInt8)(W:World)(e:Ending)(W':World):Prop:=
 Below W.heap.size W W' /\
 ((∃p v,decP sha c=some p/\e=.returned (.tuple #[.agg (zc p.kind p.gen p.num p.idx p.cnt v).toArray,.int .i64 0])/\OwnB W' W.heap.size v p.bytes/\v≠.slice none 0 0) \/
   (∃r,decP sha c=none/\r≠0/\e=.returned (.tuple #[.agg (zc 0 0 0 0 0 (.slice none 0 0)).toArray,.int .i64 r])))
theorem xS4 {H:By->By}{c}(h:¬ (H (c.drop 16)=c.take 16/\deB (((c.drop 16).drop 14).take 2)<=224/\((c.drop 16).drop (16+deB (((c.drop 16).drop 14).take 2))).all (· == 0)=true/\(rawP (c.drop 16)).Ok)):decP H c=none:=by grind [decP,decC]
theorem yHu {H:By->By}{c}(h:H (c.drop 16)=c.take 16/\deB (((c.drop 16).drop 14).take 2)<=224/\((c.drop 16).drop (16+deB (((c.drop 16).drop 14).take 2))).all (· == 0)=true/\(rawP (c.drop 16)).Ok):decP H c=some (rawP (c.drop 16)):=by grind [decP,decC]
theorem xGz {c W W' r}(b:Below W.heap.size W W')(h:decP sha c=none)(a:r≠0):yA8 c W (.returned (.tuple #[.agg (zc 0 0 0 0 0 (.slice none 0 0)).toArray,.int .i64 r])) W':=⟨b,.inr ⟨r,h,a,rfl⟩⟩
structure DcSt (W0:World)(a:Nat)(c:List UInt8)(W:World):Prop where
 bel:Below W0.heap.size W0 W
 box:W.heap[W0.heap.size]?=some (.cells #[.slice (some ⟨a,0,none⟩) 256 256] 23 (0,0))
 res:W.heap[W0.heap.size+1]?=some (.cells #[.int .i64 0,.int .i64 0,.int .i64 0,.int .i64 0,.int .i64 0,.slice none 0 0] 233 (0,0))
 sl:SlB W ⟨a,0,none⟩ c
theorem DcSt.later {d a c W W'}(s:DcSt d a c W){B}(b:Below B W W')(f:d.heap.size+2<=B)(ha:a<d.heap.size):DcSt d a c W':=
 ⟨s.bel.trans (b.mono (by omega)),(b.block _ (by omega)).trans s.box,(b.block _ (by omega)).trans s.res,⟨λj u e=>(b.cell (by rw[xY];show a<B;omega)).trans (s.sl.cell j u e)⟩⟩
theorem DcSt.lt {b a c W}(s:DcSt b a c W):b.heap.size+2<=W.heap.size:=(i_ s.res).1
theorem uR {P fn p t ty n}(h:fn.results=#[.cell p ty,.tmp t])(e:∀w,Sem.run P (isAgg ty) w=.ok true w)(hs:∀w,Sem.run P (Go.sizeOf ty) w=.ok n w)
  (tmps) (w) (a) (cs) (v) (d:tmps.getD p undef=.pointer (some a)) (hv:tmps.getD t undef=v) (g:xp w a n=true) (f:xo w a n=cs):
  (results fn tmps).run P w=.ok (.tuple #[.agg cs,v]) w:=by
 have b:tmps[p]?.getD undef=.pointer (some a):=by simpa using d
 have c:tmps[t]?.getD undef=v:=by simpa using hv
 have hl:(loadVar ty a).run P w=.ok (.agg cs) w:=by
  simp[loadVar,e,hs,yY w a n g,f]
 simp[results,h,b,c,asAddr,hl]
def uu:Array Value:=#[.int .i64 0,.int .i64 0,.int .i64 0,.int .i64 0,.int .i64 0,.slice none 0 0]
theorem xDe:xt 6 #[.int .i64 0,.int .i64 0,.int .i64 0,.int .i64 0,.int .i64 0,.slice none 0 0]=true:=by simp[xt,Value.oneCell']
theorem DcSt.ro {b a c W}(s:DcSt b a c W):xN W (b.heap.size+1) 6=true:=by
 unfold xN;rw[s.res];rfl
theorem DcSt.drewN {b a c W}(s:DcSt b a c W)(n):DcSt b a c (W.drewN n):=⟨y9 s.bel n,s.box,s.res,⟨λj u d=>s.sl.cell j u d⟩⟩
structure DcP (W0:World)(a:Nat)(c:List UInt8)(ab k:Nat)(pk pg pn pi pc:Int)(pv:Value)(W:World):Prop where
 st:DcSt W0 a c W
 cnt:W.heap[ab]?=some (.cells #[.int .i64 k] 3 (0,0))
 prt:W.heap[ab+1]?=some (.cells #[.int .i64 pk,.int .i64 pg,.int .i64 pn,.int .i64 pi,.int .i64 pc,pv] 233 (0,0))
 hab:W0.heap.size+2<=ab
theorem DcP.next {d a c}{ab k k':Nat}{pk pg pn pi pc pv W W'}(s:DcP d a c ab k pk pg pn pi pc pv W)(b:W.grownBy W' (some ab))(g:W'.heap[ab]?=some (.cells #[.int .i64 k'] 3 (0,0)))(ha:a<d.heap.size):
  DcP d a c ab k' pk pg pn pi pc pv W':=by
 have hl:=s.st.lt;have i:=s.hab;have f:ab<W.heap.size:=(i_ s.cnt).1;refine⟨s.st.later (B:=ab) ⟨b.os,b.tape,b.output,b.size,λj h=>b.block j (by omega) (λe=>by injection e with e;omega)⟩ s.hab ha,g,?_,s.hab⟩;exact(b.block _ (i_ s.prt).1 (λe=>by injection e with e;omega)).trans s.prt
theorem DcP.later {d a c ab k pk pg pn pi pc pv W W'}(s:DcP d a c ab k pk pg pn pi pc pv W)(b:Below W.heap.size W W')(ha:a<d.heap.size):DcP d a c ab k pk pg pn pi pc pv W':=
 ⟨s.st.later b s.st.lt ha,(b.block _ (i_ s.cnt).1).trans s.cnt,(b.block _ (i_ s.prt).1).trans s.prt,s.hab⟩
theorem DcP.setP {b a c ab k pk pg pn pi pc pv W}(s:DcP b a c ab k pk pg pn pi pc pv W)(ha:a<b.heap.size)(j v qk qg qn qi qc qv)
  (d:(#[.int .i64 pk,.int .i64 pg,.int .i64 pn,.int .i64 pi,.int .i64 pc,pv]:Array Value).setIfInBounds j v=#[.int .i64 qk,.int .i64 qg,.int .i64 qn,.int .i64 qi,.int .i64 qc,qv]):
  DcP b a c ab k qk qg qn qi qc qv (W.setCell ⟨ab+1,j,none⟩ v):=by
 have hl:=s.st.lt;have f:=s.hab;refine⟨s.st.later (B:=ab+1) ⟨rfl,rfl,rfl,by simp[World.setCell],λi e=>heap_setCell_other W ⟨ab+1,j,none⟩ i v (by simp;omega)⟩ (by omega) ha,?_,?_,s.hab⟩
 ·rw[heap_setCell_other W ⟨ab+1,j,none⟩ ab v (by simp)];exact s.cnt
 ·rw[heap_setCell_same W (ab+1) j _ _ v s.prt,d]
theorem DcP.get {b a c ab k pk pg pn pi pc pv W}(s:DcP b a c ab k pk pg pn pi pc pv W)(i:c.length=256)(ha:a<b.heap.size)(sz)(j:sz<=4)(f:k+sz<=256):
  Calls prog 150 #[.int .i64 sz,.pointer (some ⟨b.heap.size,0,none⟩),.pointer (some ⟨ab,0,none⟩)] W λe W'=>e=.returned (.int .i64 (deB ((c.drop k).take sz):Nat))/\DcP b a c ab (k+sz) pk pg pn pi pc pv W':=
 (xYf b.heap.size ab ⟨a,0,none⟩ c 256 k sz W i (w_ _) s.st.box s.cnt s.st.sl (by have:=s.hab;omega) (by have:=s.hab;show a≠ab;omega) j f).mono λ_ _ ⟨h,g,d⟩=>⟨h,s.next g d ha⟩
theorem jg (a c W)(hK:qI W)(hs:SlB W ⟨a,0,none⟩ c)(A:c.length=256)(ha:a<W.heap.size):
  Calls prog 106 #[.slice (some ⟨a,0,none⟩) 256 256] W (yA8 c W):=by
 have M:DcSt W a c ((W.alloc (.cells #[.slice (some ⟨a,0,none⟩) 256 256] 23)).alloc (.cells #[.int .i64 0,.int .i64 0,.int .i64 0,.int .i64 0,.int .i64 0,.slice none 0 0] 233)):=by
  refine⟨((z_ _ _).alloc (w_ _) _).alloc (by simp) _,?_,?_,⟨λj u x=>T6 _ (T6 _ (hs.cell j u x))⟩⟩
  ·grind
  grind
 have a_:=h_ M;have HK:=h_ hK;clear M hK hs;go_enter func106,ntmps106;go_upto_region 5 with (fail)
 obtain⟨R,aj⟩:∃R,R=((W.alloc (.cells #[.slice (some ⟨a,0,none⟩) 256 256] 23)).alloc (.cells #[.int .i64 0,.int .i64 0,.int .i64 0,.int .i64 0,.int .i64 0,.slice none 0 0] 233)):=⟨_,rfl⟩;refine xm aj ?_;have h1:=a_.out;rw[<-aj]at h1;have z:=h_ h1;clear aj h1 a_;have c1:=cell_of_row R W.heap.size 0 _ _ _ z.box;simp only[v_]at c1;have fN:=xIl ⟨a,16,none⟩ (c.drop 16) 240 R ⟨λj u x=>by have:=(z.sl.drop 16).cell j u x;rwa [l8]at this⟩ (HK.below z.bel (w_ _)) (by rw[E0];omega) (by rw[E0];omega) (by show a<_;have:=z.lt;omega);rw[show (c.drop 16).length=240 by rw[E0];omega]at fN;have Aq:=h_ fN;clear fN;go_wp2_with fail;refine Aq.mono ?_;rintro e J ⟨rfl,ai⟩;obtain⟨D,hD⟩:∃q,q=sha (c.drop 16):=⟨_,rfl⟩;rw[<-hD];have rj:D.length=16:=by grind [yR]
 have HD:=h_ hD;have Zs:=h_ rj;have aU:=xM8 rj;have Z:=h_ (z.later ai z.lt ha);clear hD rj Aq ai c1;go_upto_region 6 with (fail)
 obtain⟨l,bQ⟩:∃l,l=J.alloc (.cells (encB D).toArray 297):=⟨_,rfl⟩;refine xm bQ ?_;have ao:Below J.heap.size J l:=by grind
 have eU:l.heap[J.heap.size]?=some (.cells (encB D).toArray 297 (0,0)):=by grind
 obtain⟨N,wG⟩:∃N,N=J.heap.size:=⟨_,rfl⟩;rw[<-wG]at eU⊢;have L:=h_ (Z.later ao Z.lt ha);have ll:=h_ eU;have HLH:=h_ (show W.heap.size+2<=N by rw[wG];exact Z.lt);clear bQ ao eU wG aU Z z;have c1:=cell_of_row l W.heap.size 0 _ _ _ L.box;simp only[v_]at c1;have heq:∀n,Calls prog 149 #[.slice (some ⟨N,0,none⟩) 16 16,.slice (some ⟨a,0,none⟩) 16 256] (l.drewN n) λe w'=>e=.returned (.bool (decide (D=c.take 16)))/\∃m,w'=l.drewN m:=λn=>by
  have h:=xMo ⟨N,0,none⟩ ⟨a,0,none⟩ D (c.take 16) 16 256 (l.drewN n) ⟨λj u x=>by
   have Y:j<D.length:=by grind
   rw[U_ Y]at x;cases x;show l.cell? _=_
   rw[l8,m0,cell_of_row _ _ _ _ _ _ ll.out,l7,vr D j Y]⟩ ⟨λj u x=>by
   show l.cell? _=_
   refine L.sl.cell j u ?_;have Y:j<16:=by grind
   rwa [aQ_ Y]at x⟩
  rw[Zs.out,show (c.take 16).length=16 by rw[x8];omega]at h;exact h.mono λ_ _ ⟨he,hw⟩=>⟨he,n,hw.symm⟩
 have K:=h_ heq;clear heq;by_cases hq:D=c.take 16
 ·have P:decide (D=c.take 16)=true:=by grind
  rw[P]at K;have HQ:=h_ hq;clear hq P;go_quiet ((go_at_call 149;exact K.out _));have p:=h_ (L.drewN nq);generalize l.drewN nq=w4 at p⊢;clear K ll L HLH c1;go_upto_region 11 with (fail)
  obtain⟨ab,hab⟩:∃ab,ab=w4.heap.size:=⟨_,rfl⟩;have Tx:DcP W a c ab 16 0 0 0 0 0 (.slice none 0 0) ((w4.alloc (.cells #[.int .i64 16] 3)).alloc (.cells #[.int .i64 0,.int .i64 0,.int .i64 0,.int .i64 0,.int .i64 0,.slice none 0 0] 233)):=by
   refine⟨p.later (((z_ _ _).alloc (w_ w4.heap.size) _).alloc (by simp) _) p.lt ha,?_,?_,by rw[hab];exact p.lt⟩
   ·grind
   grind
  obtain⟨w5,cC⟩:∃w5,w5=((w4.alloc (.cells #[.int .i64 16] 3)).alloc (.cells #[.int .i64 0,.int .i64 0,.int .i64 0,.int .i64 0,.int .i64 0,.slice none 0 0] 233)):=⟨_,rfl⟩;refine xm cC ?_;rw[<-cC]at Tx;rw[<-hab];have Fa:=h_ Tx;clear Tx cC hab p;go_wp2_with fail;refine(Fa.get A ha 4 (by omega) (by omega)).mono ?_;rintro e w6⟨rfl,d⟩;obtain⟨gn,U⟩:∃q,q=deB ((c.drop 16).take 4):=⟨_,rfl⟩;rw[<-U];have Ty:=kp ((c.drop 16).take 4) (by rw[x8];omega);rw[<-U]at Ty;have Hgn:=h_ U;have KQ:=h_ d;clear U d;go_wp2_with fail;refine(KQ.get A ha 4 (by omega) (by omega)).mono ?_;rintro e I⟨rfl,d⟩;obtain⟨nn,T⟩:∃q,q=deB ((c.drop 20).take 4):=⟨_,rfl⟩;rw[<-T];have Tz:=kp ((c.drop 20).take 4) (by rw[x8];omega);rw[<-T]at Tz;have Hnn:=h_ T;have H:=h_ d;clear T d;have f1:=frozen_of_row I (ab+1) 1 _ _ H.prt;have g1:=cell_of_row I (ab+1) 1 _ _ _ H.prt;have f2:=frozen_of_row I (ab+1) 2 _ _ H.prt;have O:=cell_of_row I (ab+1) 2 _ _ _ H.prt;simp only[l7,m8,t1]at g1 O;go_upto_region 12 with (fail)
  have TA:=(H.setP ha 1 (.int .i64 gn) 0 gn 0 0 0 (.slice none 0 0) rfl).setP ha 2 (.int .i64 nn) 0 gn nn 0 0 (.slice none 0 0) rfl;generalize (I.setCell ⟨ab+1,1,none⟩ (.int .i64 gn)).setCell ⟨ab+1,2,none⟩ (.int .i64 nn)=w8 at TA⊢;have Ma:=h_ TA;clear f1 g1 f2 O TA;go_wp2_with fail;refine(Ma.get A ha 2 (by omega) (by omega)).mono ?_;rintro e w9⟨rfl,d⟩;obtain⟨kn,Q⟩:∃q,q=deB ((c.drop 24).take 2):=⟨_,rfl⟩;rw[<-Q];have TB:=kp ((c.drop 24).take 2) (by rw[x8];omega);rw[<-Q]at TB;have Hkn:=h_ Q;have Mb:=h_ d;clear Q d;go_wp2_with fail;refine(Mb.get A ha 2 (by omega) (by omega)).mono ?_;rintro e cS⟨rfl,d⟩;obtain⟨ix,Am⟩:∃q,q=deB ((c.drop 26).take 2):=⟨_,rfl⟩;rw[<-Am];have TC:=kp ((c.drop 26).take 2) (by rw[x8];omega);rw[<-Am]at TC;have Hix:=h_ Am;have An:=h_ d;clear Am d;go_wp2_with fail;refine(An.get A ha 2 (by omega) (by omega)).mono ?_;rintro e B⟨rfl,d⟩;obtain⟨cn,s⟩:∃q,q=deB ((c.drop 28).take 2):=⟨_,rfl⟩;rw[<-s];have TD:=kp ((c.drop 28).take 2) (by rw[x8];omega)
  rw[<-s]at TD;have Hcn:=h_ s;have w:=h_ d;clear s d;have f1:=frozen_of_row B (ab+1) 0 _ _ w.prt;have g1:=cell_of_row B (ab+1) 0 _ _ _ w.prt;have f2:=frozen_of_row B (ab+1) 3 _ _ w.prt;have O:=cell_of_row B (ab+1) 3 _ _ _ w.prt;have f3:=frozen_of_row B (ab+1) 4 _ _ w.prt;have g3:=cell_of_row B (ab+1) 4 _ _ _ w.prt;simp only[l7,m8,t1]at g1 O g3;go_upto_region 13 with (fail)
  have Hp:=((w.setP ha 0 (.int .i64 kn) kn gn nn 0 0 (.slice none 0 0) rfl).setP ha 3 (.int .i64 ix) kn gn nn ix 0 (.slice none 0 0) rfl).setP ha 4 (.int .i64 cn) kn gn nn ix cn (.slice none 0 0) rfl;generalize ((B.setCell ⟨ab+1,0,none⟩ (.int .i64 kn)).setCell ⟨ab+1,3,none⟩ (.int .i64 ix)).setCell ⟨ab+1,4,none⟩ (.int .i64 cn)=w12 at Hp⊢;have Mn:=h_ Hp;clear f1 g1 f2 O f3 g3 Hp;go_wp2_with fail;refine(Mn.get A ha 2 (by omega) (by omega)).mono ?_;rintro e t⟨rfl,d⟩;obtain⟨sz,aV⟩:∃q,q=deB ((c.drop 30).take 2):=⟨_,rfl⟩;rw[<-aV];have TE:=kp ((c.drop 30).take 2) (by rw[x8];omega);rw[<-aV]at TE;have Hsz:=h_ aV;have y:=h_ d;clear aV d;have Mo:rawP (c.drop 16)=⟨kn,gn,nn,ix,cn,((c.drop 16).drop 16).take sz⟩:=by grind [rawP,List.drop_drop,Nat.reduceAdd]
  have Mp:deB (((c.drop 16).drop 14).take 2)=sz:=by grind [List.drop_drop,Nat.reduceAdd]
  have Hq:=h_ Mo;have S:=h_ Mp;clear Mo Mp Fa KQ H Ma Mb An w Mn;have c1:=cell_of_row t W.heap.size 0 _ _ _ y.st.box;simp only[v_]at c1;by_cases q1:sz<=224
  ·have q1z:(sz:Int)<=224:=by omega
   have E_:(sz:Int)<=256:=by omega
   have cm:=kF ⟨a,0,none⟩ 256 256 (32+sz) (32+(sz:Int)) (by omega) (by omega);have cy:=xUv (some (cutA ⟨a,0,none⟩ 256 (32+sz))) (c.drop (32+sz)) (256-(32+sz)) t (λq hq=>by cases hq;exact y.st.sl.cut (by omega) _) (λhq=>by cases hq) (by rw[E0];omega);rw[E0,A]at cy;obtain⟨bl,az⟩:∃bl,bl=xFn (c.drop (32+sz)):=⟨_,rfl⟩;rw[<-az]at cy;have Dt:=h_ cy;have gQ:=h_ az;clear cy az;cases bl with
   |false=>
    have o:=h_ (y.st);have aY:=o.ro;have V:=xDe;have i:=h_ (xH o.bel (show W.heap.size<=W.heap.size+1 by omega) uu);have f:=xF (setRow_heap t (W.heap.size+1) _ uu _ _ o.res) (rfl:uu.size=6);have b:=h_ f;have C:=h_ (show decP sha c=none from xS4 λh=>by have h2:=h.2.2.1;rw[S.out,aj_,show 16+(16+sz)=32+sz by omega]at h2;have h3:=gQ.out;unfold xFn at h3;rw[h2]at h3;cases h3)
    clear f;unfold uu at b i;go_wp2_with (go_at_call 151;refine Dt.mono ?_;rintro e w' ⟨rfl,rfl⟩);refine bodyPost_ret (v:=.tuple #[.agg uu,.int .i64 3]) ?_ rfl (xGz i.out C.out (by decide));exact uR rfl isAgg233 sizeOf233 _ _ ⟨W.heap.size+1,0,none⟩ _ _ rfl rfl b.1 b.2
   |true=>
    go_upto_region 16 with (go_at_call 151;refine Dt.mono ?_;rintro e w' ⟨rfl,rfl⟩)
    clear cm;have X:=xFy ⟨a,0,none⟩ 256 256 32 (32+sz) 32 (32+(sz:Int)) rfl (by omega) (by omega) (by omega);rw[show 32+sz-32=sz by omega]at X;obtain⟨ca,Fd⟩:∃q,q=cutA ⟨a,0,none⟩ 256 32:=⟨_,rfl⟩;have bD:=kW ca ((c.drop 32).take sz) 224 t (by rw[Fd];exact(y.st.sl.cut (by omega) 32).take sz) (by rw[x8];omega);have At:((c.drop 32).take sz).length=sz:=by grind
    rw[At]at bD;rw[<-Fd]at X;have dV:=h_ bD;have Au:=h_ At;have TG:=y.prt;clear Fd bD At;simp only[Nat.reduceSub]at X;go_wp2_with fail;refine dV.mono ?_;rintro e G ⟨v,rfl,ae,lW,As⟩;have hl13:ab+1<t.heap.size:=by grind
    have Dz:=y.later As ha;have TH:W.heap.size<=t.heap.size:=by grind
    obtain⟨vg,vc,hv,hvg,KR,-,-⟩:∃g cap,v=.slice (some ⟨g,0,none⟩) ((c.drop 32).take sz).length cap/\t.heap.size<=g/\((c.drop 32).take sz).length<=cap/\cap<=maxLen/\SlB G ⟨g,0,none⟩ ((c.drop 32).take sz):=by
     rcases ae.at with⟨h,_⟩|h
     ·exact absurd h lW
     ·exact h
    rw[Au.out]at hv KR;have f5:=frozen_of_row G (ab+1) 5 _ _ Dz.prt;have g5:=cell_of_row G (ab+1) 5 _ _ _ Dz.prt;simp only[l7,m8,t1]at g5;have Mq:=Dz.setP ha 5 v kn gn nn ix cn v rfl;have Av:OwnB (G.setCell ⟨ab+1,5,none⟩ v) t.heap.size v ((c.drop 32).take sz):=ae.grown (xRe G (ab+1) 5 v) (λk e=>by cases e;rw[hv];simp[Value.ownBlock];omega);subst hv;have du:=h_ Av;have Hr:=h_ Mq;have TI:=h_ KR;clear ae Dz Mq Av KR As dV TG X c1 lW;go_upto_region 17 with (fail)
    clear f5 g5;generalize G.setCell ⟨ab+1,5,none⟩ (.slice (some ⟨vg,0,none⟩) sz vc)=w15 at Hr du⊢;have Hs:=xF (n:=6) Hr.prt rfl;have r1:=Hs.1;have r2:=Hs.2;have F:=xPg (rawP (c.drop 16)) (some ⟨vg,0,none⟩) vc w15 (by rw[Hq.out];simp only;rw[aj_,Au.out];exact TI.out);rw[Hq.out]at F;simp only[aj_,Nat.reduceAdd,Au.out]at F;unfold zc at F;have Ht:(⟨kn,gn,nn,ix,cn,(c.drop 32).take sz⟩:qJ)=rawP (c.drop 16):=by grind [List.drop_drop,Nat.reduceAdd]
    rw[Ht]at F;have TJ:=h_ Ht;have iV:=h_ F;clear Hs F Ht;go_wp2_with fail;refine iV.mono ?_;rintro e TK ⟨r,rfl,ay,Hu⟩;have E:=h_ (Hr.later Hu ha);have Hv:=h_ (du.below Hu);have Mr:=h_ ay;clear r1 r2 iV Hu ay;by_cases hr0:r=0
    ·subst hr0;have Hw:=xF (n:=6) E.prt rfl;have r1:=Hw.1;have r2:=Hw.2;have aY:=E.st.ro;have V:xt 6 #[Value.int .i64 kn,.int .i64 gn,.int .i64 nn,.int .i64 ix,.int .i64 cn,.slice (some ⟨vg,0,none⟩) sz vc]=true:=by simp[xt,Value.oneCell']
     have i:=h_ (xH E.st.bel (show W.heap.size<=W.heap.size+1 by omega) #[Value.int .i64 kn,.int .i64 gn,.int .i64 nn,.int .i64 ix,.int .i64 cn,.slice (some ⟨vg,0,none⟩) sz vc]);have f:=xF (n:=6) (setRow_heap TK (W.heap.size+1) _ #[Value.int .i64 kn,.int .i64 gn,.int .i64 nn,.int .i64 ix,.int .i64 cn,.slice (some ⟨vg,0,none⟩) sz vc] _ _ E.st.res) rfl;have b:=h_ f;have TL:=h_ (show decP sha c=some (rawP (c.drop 16))from yHu ⟨HD.symm.trans HQ.out,by rw[S.out];exact q1,by rw[S.out,aj_,show 16+(16+sz)=32+sz by omega];have h3:=gQ.out;unfold xFn at h3;exact h3.symm,Mr.1 rfl⟩);have lp:=h_ (Hv.grown (xHz TK (W.heap.size+1) #[Value.int .i64 kn,.int .i64 gn,.int .i64 nn,.int .i64 ix,.int .i64 cn,.slice (some ⟨vg,0,none⟩) sz vc]) (λk e=>by cases e;simp[Value.ownBlock];have:=E.hab;omega));clear Hw f;go_wp2;refine bodyPost_ret (v:=.tuple #[.agg #[Value.int .i64 kn,.int .i64 gn,.int .i64 nn,.int .i64 ix,.int .i64 cn,.slice (some ⟨vg,0,none⟩) sz vc],.int .i64 0]) ?_ rfl ⟨i.out,.inl ⟨rawP (c.drop 16),.slice (some ⟨vg,0,none⟩) sz vc,TL.out,?_,?_,by simp⟩⟩
     ·exact uR rfl isAgg233 sizeOf233 _ _ ⟨W.heap.size+1,0,none⟩ _ _ rfl rfl b.1 b.2
     ·rw[Hq.out];rfl
     ·rw[<-TJ.out];exact lp.base TH
    ·have aI:(r==0)=false:=by grind
     have aE:(r != 0)=true:=by grind
     have wJ:=h_ hr0;clear hr0;have o:=h_ (E.st);have aY:=o.ro;have V:=xDe;have i:=h_ (xH o.bel (show W.heap.size<=W.heap.size+1 by omega) uu);have f:=xF (n:=6) (setRow_heap TK (W.heap.size+1) _ uu _ _ o.res) (rfl:uu.size=6);have b:=h_ f;have C:=h_ (show decP sha c=none from xS4 λh=>wJ.out (Mr.2 h.2.2.2));clear f;unfold uu at b i;go_wp2;refine bodyPost_ret (v:=.tuple #[.agg uu,.int .i64 3]) ?_ rfl (xGz i.out C.out (by decide));exact uR rfl isAgg233 sizeOf233 _ _ ⟨W.heap.size+1,0,none⟩ _ _ rfl rfl b.1 b.2
  ·have q1z:¬ (sz:Int)<=224:=by omega
   have o:=h_ (y.st);have aY:=o.ro;have V:=xDe;have i:=h_ (xH o.bel (show W.heap.size<=W.heap.size+1 by omega) uu);have f:=xF (setRow_heap t (W.heap.size+1) _ uu _ _ o.res) (rfl:uu.size=6);have b:=h_ f;have C:=h_ (show decP sha c=none from xS4 λh=>q1 (by have:=h.2.1;rw[S.out]at this;exact this));clear f;unfold uu at b i;go_wp2;refine bodyPost_ret (v:=.tuple #[.agg uu,.int .i64 3]) ?_ rfl (xGz i.out C.out (by decide));exact uR rfl isAgg233 sizeOf233 _ _ ⟨W.heap.size+1,0,none⟩ _ _ rfl rfl b.1 b.2
 ·have P:decide (D=c.take 16)=false:=by grind
  rw[P]at K;have HQ:=h_ hq;clear hq P;go_quiet ((go_at_call 149;exact K.out _));have p:=h_ (L.drewN nq);generalize l.drewN nq=w4 at p⊢;have aY:=p.ro;have V:=xDe;have i:=h_ (xH p.bel (show W.heap.size<=W.heap.size+1 by omega) uu);have f:=xF (setRow_heap w4 (W.heap.size+1) _ uu _ _ p.res) (rfl:uu.size=6);have b:=h_ f;have C:=h_ (show decP sha c=none from xS4 λh=>HQ.out (HD.trans h.1));clear f;unfold uu at b i;go_wp2;refine bodyPost_ret (v:=.tuple #[.agg uu,.int .i64 22]) ?_ rfl (xGz i.out C.out (by decide));exact uR rfl isAgg233 sizeOf233 _ _ ⟨W.heap.size+1,0,none⟩ _ _ rfl rfl b.1 b.2
end
theorem Tryz.info_slb:(prog.info? 23).map (λi=>(i.zero,i.size,i.bytes))=some (some (.slice none 0 0),1,24):=by kernel_rfl
def xCn (w:World)(B:Nat)(v x:Value)(l:List UInt8):Prop:=∃g,x=.slice (some ⟨g,0,none⟩) 256 256/\l.length=256/\B<=g/\g<w.heap.size/\v.ownBlock≠some g/\SlB w ⟨g,0,none⟩ l
structure ScAt (w:World)(B:Nat)(v:Value)(L:List (List UInt8))(vs:List Value):Prop where
 own:w.ownsRow B 23 1 v L.length vs
 len:vs.length=L.length
 el:∀i (hi:i<L.length),xCn w B v (vs[i]'(by rw[len];exact hi)) L[i]
theorem xCn.same {w w' B v x l}(h:xCn w B v x l)(hs:w.heap.size<=w'.heap.size)(e:∀g,B<=g->v.ownBlock≠some g->g<w.heap.size->w'.heap[g]?=w.heap[g]?):xCn w' B v x l:=by
 obtain⟨g,h1,h2,h3,h4,d,b⟩:=h;refine⟨g,h1,h2,h3,by omega,d,⟨λj c a=>?_⟩⟩;have:=b.cell j c a;rw[l8]at this⊢;grind
theorem ScAt.nil (w B):ScAt w B (.slice none 0 0) [] []:=⟨D1 _ _ _ _,rfl,λi a=>by cases a⟩
theorem ScAt.later {w w' B v L vs}(h:ScAt w B v L vs)(a:Below w.heap.size w w'):ScAt w' B v L vs:=
 ⟨bt_ (row:=none) h.own (ql a none) (by cases v.ownBlock <;> simp),h.len,λi b=>(h.el i b).same a.size (λg _ _ c=>a.block g c)⟩
theorem ScAt.app {w w' B v v' x L vs l}(h:ScAt w B v L vs)(ho:w'.ownsRow B 23 1 v' (L.length+1) (vs++[x]))(b:w.grownBy w' v.ownBlock)
  (hx:xCn w B v x l) (p:∀k,v'.ownBlock=some k->v.ownBlock=some k\/w.heap.size<=k):ScAt w' B v' (L++[l]) (vs++[x]):=by
 have conv:∀y m,xCn w B v y m->xCn w' B v' y m:=λy m ⟨g,h1,h2,h3,h4,n,f⟩=>by
  refine⟨g,h1,h2,h3,b7 h4 b.size,λe=>?_,⟨λj c d=>?_⟩⟩
  ·grind
  ·have:=f.cell j c d;rw[l8]at this⊢;unfold World.cell? at this⊢;rw[b.block g h4 (λe=>n e.symm)];exact this
 refine⟨by simpa using ho,by simp[h.len],λi o=>?_⟩;by_cases hlt:i<L.length
 ·rw[List.getElem_append_left hlt,List.getElem_append_left (by rw[h.len];exact hlt)];exact conv _ _ (h.el i hlt)
 ·have a:i=L.length:=by grind
  subst a;rw[bm_ (w_ _),bm_ (by rw[h.len];exact w_ _)];simp only[Nat.sub_self,h.len,List.getElem_singleton];exact conv _ _ hx
theorem ScAt.base {w B B' v L vs}(h:ScAt w B v L vs)(a:B'<=B):ScAt w B' v L vs:=
 ⟨⟨h.own.1,h.own.2.imp (λh=>h) λ⟨g,cap,cur,hv,c,r⟩=>⟨g,cap,cur,hv,R_ a c,r⟩⟩,h.len,λi b=>by
  obtain⟨g,h1,h2,h3,h4⟩:=h.el i b;exact⟨g,h1,h2,R_ a h3,h4⟩⟩
theorem ScAt.at {w B v L vs}(h:ScAt w B v L vs)(a:L≠[]):∃g cap,v=.slice (some ⟨g,0,none⟩) L.length cap/\B<=g/\g<w.heap.size/\L.length<=cap/\cap<=maxLen/\∀i (b:i<L.length),w.cell? ⟨g,i,none⟩=some (vs[i]'(by rw[h.len];exact b)):=by
 rcases h.own.2 with⟨_,d⟩|⟨g,cap,cur,hv,c,k,j,f,l,e⟩
 ·grind
 grind
theorem xCn.later {w w' B v x l}(h:xCn w B v x l)(a:Below w.heap.size w w'):xCn w' B v x l:=h.same a.size (λg _ _ b=>a.block g b)
theorem yH4 {w g T c fr}(d:w.heap[g]?=some (.cells (encB c).toArray T fr)):SlB w ⟨g,0,none⟩ c:=⟨λj u a=>by
 rw[l8,m0,cell_of_row _ _ _ _ _ _ d,l7];have b:j<c.length:=by grind
 rw[vr _ j b];rw[U_ b]at a;cases a;rfl⟩
theorem xVp {w B g T v c fr}(a:w.heap[g]?=some (.cells (encB c).toArray T fr))(b:c.length=256)(d:B<=g)(hv:v.ownBlock≠some g):xCn w B v (.slice (some ⟨g,0,none⟩) 256 256) c:=
 ⟨g,rfl,b,d,(i_ a).1,hv,yH4 a⟩
theorem zQ {rest ops o a}{Q:Exit->Act->World->Prop}{w}(b:o.guard=none)(s x)
  (ho:o.op=.call { callee:=.builtin .append,args:=#[s,x],argTypes:=#[23,23] }) (B) (v) (l) (hs:a.eval s=v) (p:OwnB w B v l)
  (ad) (r) (c) (hx:a.eval x=.slice (some ad) r.length c) (g:SlB w ad r) (t:l.length+r.length<=1000000000000) (k:B<=w.heap.size)
  (h:∀v' w',OwnB w' B v' (l++r)->w.grownBy w' v.ownBlock->(v'=.slice none 0 0↔v=.slice none 0 0/\r.length=0)->(v'.ownBlock=v.ownBlock\/v'.ownBlock=some w.heap.size)->wpList prog ops Q rest (a.put o.dst v') w'):wpList prog ops Q (o :: rest) a w:=by
 obtain⟨f,i,m,q,n⟩:=info_parts Tryz.info_byte;refine wpList_append_own_at w b s x 23 ho B 5 f (.int .u8 0) 1 1 underlying23 i m q n rfl (by decide) v l.length (encB l) hs p ad r.length c (encB r) hx (by rw[xQ,ai_]) (λj u d=>?_) (zP r) (by unfold maxLen;omega) (by omega) k λv' w' h1 h2 h3 h4=>?_
 ·have e:j<r.length:=by grind [Nat.lt_or_ge,List.getElem?_eq_none,xQ]
  rw[vr r j e]at d;cases d;exact g.cell j _ (U_ e)
 ·grind [OwnB,xJl,List.length_append]
theorem xCp {rest ops o a}{Q:Exit->Act->World->Prop}{w}(d:o.guard=none)(s x)
  (ho:o.op=.call { callee:=.builtin .append,args:=#[s,x],argTypes:=#[157,157] }) (B) (v) (L) (vs) (hs:a.eval s=v) (f:ScAt w B v L vs)
  (y) (l) (hy:xCn w B v y l) (ad) (hx:a.eval x=.slice (some ad) 1 1) (p:w.cell? ad=some y) (A:L.length<=1000000) (q:B<=w.heap.size)
  (h:∀v' w',ScAt w' B v' (L++[l]) (vs++[y])->w.grownBy w' v.ownBlock->(v'.ownBlock=v.ownBlock\/v'.ownBlock=some w.heap.size)->wpList prog ops Q rest (a.put o.dst v') w'):wpList prog ops Q (o :: rest) a w:=by
 obtain⟨i,n,r,z,t⟩:=info_parts Tryz.info_slb;have c:y.oneCell'=true:=by obtain⟨g,rfl,_⟩:=hy;rfl
 refine wpList_append_own_at w d s x 157 ho B 23 i (.slice none 0 0) 1 24 underlying157 n r z t rfl (by decide) v L.length vs hs f.own ad 1 1 [y] hx rfl (λj u b=>?_) (λu e=>by simp at e;rw[e];exact c) (by unfold maxLen;omega) (by omega) q λv' w' h1 h2 _ h4=>?_
 ·match j,b with
  |0,b=>
   simp only[t1,ag_]at b;subst b;simpa[Addr.add]using p
 ·refine h v' w' (f.app h1 h2 hy λk m=>?_) h2 h4;rcases h4 with h|h
  ·exact .inl (h▸m)
  grind
section
def ye (k g n:Int)(v:Value):List Value:=[.int .i64 k,.int .i64 g,.int .i64 n,v]
theorem zr (a b c):((#[a,b,c]:Array Value).size==3)=true:=rfl
theorem zx (a b c d):((#[a,b,c,d]:Array Value).size==4)=true:=rfl
theorem yA (a b c):xA8 #[a,b,c] 0 3=true:=rfl
theorem yz (a b c):xA3 #[a,b,c] 0 3=#[a,b,c]:=rfl
theorem yIn (a b c):xt 3 #[.int .i64 a,.int .i64 b,.int .i64 c]=true:=by simp[xt,Value.oneCell']
attribute [local go_sem ↓] xAu xDh
attribute [local go_sem] xLo xT9 zr zx yA yz yIn xh xg xe xd xx xy xk xj xq xB xw
structure SpSt (W0:World)(r:PRec)(a:Addr)(cap:Nat)(k:Nat)(v:Value)(W:World):Prop where
 bel:Below W0.heap.size W0 W
 box:W.heap[W0.heap.size]?=some (.cells #[.int .i64 r.kind,.int .i64 r.gen,.int .i64 r.num,.slice (some a) r.pay.length cap] 238 (0,0))
 sc:∃vs,ScAt W (W0.heap.size+2) v ((xJ sha r).take k) vs
 sz:W0.heap.size+2<=W.heap.size
theorem SpSt.lt {b r a cap k v W}(s:SpSt b r a cap k v W):b.heap.size<W.heap.size:=(i_ s.box).1
theorem xWz (r)(z:r.Ok)(a cap W)(hK:qI W)(hl:r.pay.length<=cap)(hs:SlB W a r.pay)(ha:a.block<W.heap.size):
  Calls prog 153 #[.agg (ye r.kind r.gen r.num (.slice (some a) r.pay.length cap)).toArray] W λe W'=>∃v vs,e=.returned (.tuple #[v,.int .i64 0])/\ScAt W' W.heap.size v (xJ sha r) vs/\Below W.heap.size W W':=by
 have hN:y6 r.pay.length<=586:=by have:=z.2;unfold y6;omega
 have Ms:=z.1;have c_:=z.2;obtain⟨m,G⟩:∃m,m=r.pay.length:=⟨_,rfl⟩;have l:=h_ G;have Y:=h_ z;have TM:=h_ Ms;have HS:=h_ hs;have HK:=h_ hK;rw[<-G]at hl hN c_⊢;have cj:=xUg m;have lX:=h_ cj;have cJ:(W.alloc (.cells #[.int .i64 r.kind,.int .i64 r.gen,.int .i64 r.num,.slice (some a) m cap] 238)).heap[W.heap.size]?=some (.cells #[.int .i64 r.kind,.int .i64 r.gen,.int .i64 r.num,.slice (some a) m cap] 238 (0,0)):=by grind
 have CR:=h_ cJ;clear G z Ms hs hK cj cJ;unfold ye;go_enter func153,ntmps153;go_wp2_with fail;refine(xHb _ _ _ _).mono ?_;rintro e E ⟨b,rfl,CO,aa⟩;obtain rfl:b=true:=CO.2 TM.out;have K:=(aa.block W.heap.size (by simp;omega)).trans ((heap_alloc_old (w:=W.alloc (.cells #[.int .i64 r.kind,.int .i64 r.gen,.int .i64 r.num,.slice (some a) m cap] 238)) (o:=.cells #[.int .i64 r.kind,.int .i64 r.gen,.int .i64 r.num] 314) (h:=by simp)).trans CR.out);have V:Below W.heap.size W E:=by grind
 have Mt:W.heap.size+2<=E.heap.size:=by grind
 have Mu:=h_ K;have aq:=h_ V;have TN:=h_ Mt;have c3:=cell_of_row E W.heap.size 3 _ _ _ K;simp only[l7,m8,t1]at c3;clear CO aa K V Mt;go_wp2_with (go_at_call 109;refine(lX.out _ (by omega)).mono ?_;rintro e w' ⟨rfl,rfl⟩);clear c3;go_loopw [7,32] (λv i wr=>∃k:Nat,k<=y6 m/\i=.int .i64 k/\SpSt W r a cap k v wr) (λ_ i _=>y6 m-(intOf i).toNat)
 case atStart=>exact⟨0,by omega,rfl,⟨aq.out,by have:=Mu.out;rw[<-l.out];exact this,⟨[],ScAt.nil _ _⟩,TN.out⟩⟩
 case round=>
  obtain⟨k,hk,rfl,d⟩:=hrel;by_cases hlt:k<y6 m
  ·have aM:(k:Int)<(y6 m:Nat):=by omega
   have Zt:k<586:=by omega
   have Dw:(k:Int)<586:=by omega
   have iX:k*224<=m:=by grind [y6]
   have n:=d.box;rw[<-l.out]at n;have c0:=cell_of_row wr W.heap.size 0 _ _ _ n;have c1:=cell_of_row wr W.heap.size 1 _ _ _ n;have c2:=cell_of_row wr W.heap.size 2 _ _ _ n;have c3:=cell_of_row wr W.heap.size 3 _ _ _ n;simp only[l7,m8,t1]at c0 c1 c2 c3;obtain⟨vs,u⟩:=d.sc;obtain⟨h,hh⟩:∃h,h=min ((k+1)*224) m:=⟨_,rfl⟩;have H:k*224<=h:=by omega
   have cm:=xFy a m cap (k*224) h ((k:Int)*224) (min (((k:Int)+1)*224) (m:Int)) (by omega) (by omega) H (by omega);have CS:=xA7 Y.out (i:=k) (by rw[<-l.out];exact hlt);have I:(yO r k).bytes.length=h-k*224:=by simp only[yO,x8,E0,<-l.out];omega
   have Ay:SlB wr (cutA a cap (k*224)) (yO r k).bytes:=by
    have h0:SlB wr a r.pay:=⟨λj c hj=>(d.bel.cell (by rw[xY];exact ha)).trans (HS.cell j c hj)⟩;exact(h0.cut (by rw[<-l.out];exact hl) (k*224)).take 224
   have C:=xMf (yO r k) CS (some (cutA a cap (k*224))) (cap-k*224) wr (HK.below d.bel (w_ _)) (by rw[I];omega) (λq hq=>by cases hq;exact⟨Ay,by rw[kV];have:=d.bel.size;omega⟩) (λhq=>by cases hq);rw[I]at C;have R:(yO r k).idx=(k:Int):=rfl;have O:(yO r k).cnt=((y6 m:Nat):Int):=by rw[l.out];rfl
   have AA:(yO r k).kind=r.kind:=rfl;have N:(yO r k).gen=r.gen:=rfl;have X:(yO r k).num=r.num:=rfl;rw[R,O,AA,N,X]at C;unfold zc at C;have DA:=h_ C;have x:=h_ d;have s:=h_ u;have HBOX:=h_ n;clear n u d C R O AA N X CS I Ay hh;go_wp2_with fail;refine DA.mono ?_;rintro e f ⟨g,rfl,p,ah,y⟩;have Q:(encP sha (yO r k)).length=256:=xVo sha yR (xA7 Y.out (i:=k) (by rw[<-l.out];exact hlt)).2.2.2.2.2.1;have dI:g<f.heap.size:=by grind
   have S:=x.sz;have Mv:=xVp (B:=W.heap.size+2) (v:=u7) ah Q (R_ S p) (λe=>W9 _ (b7 (s5 s.own g e).2 p));have Mw:=s.later y;have A:Below f.heap.size f (f.alloc (.cells #[.slice (some ⟨g,0,none⟩) 256 256] 23)):=by grind
   have TO:=h_ (Mv.later A);have TP:=h_ (Mw.later A);have Z:(xJ sha r).take (k+1)=(xJ sha r).take k++[encP sha (yO r k)]:=by grind [xJ,sha,zq,List.take_succ_eq_append_getElem]
   have dj:=h_ Z;have F:Below W.heap.size W f:=x.bel.trans (y.mono x.bel.size);have U:=h_ (F.trans (A.mono F.size));have Mx:=h_ ((A.block _ (by have:=x.lt;have:=y.size;omega)).trans ((y.block _ x.lt).trans x.box));have T:((xJ sha r).take k).length<=1000000:=by rw[x8];omega
   have Hx:=h_ T;have P:(f.alloc (.cells #[.slice (some ⟨g,0,none⟩) 256 256] 23)).cell? ⟨f.heap.size,0,none⟩=some (.slice (some ⟨g,0,none⟩) 256 256):=by simp
   have tF:=h_ P;have L:=h_ (show W.heap.size+2<=(f.alloc (.cells #[.slice (some ⟨g,0,none⟩) 256 256] 23)).heap.size by rw[U7];have:=y.size;omega);have Zu:=h_ (show ∀t,u7.ownBlock=some t->W.heap.size+2<=t from λt e=>(s5 s.own t e).1);clear Mv Mw A Z F T P ah p dI Q y s DA c0 c1 c2 c3 cm S;go_wp2_with (at_builtin;refine xCp rfl (.tmp 64) (.tmp 66) rfl (W.heap.size+2) _ ((xJ sha r).take k) vs rfl TP.out _ _ TO.out ⟨f.heap.size,0,none⟩ rfl tF.out Hx.out L.out ?_);intro v' w7 J D _;rw[<-dj.out]at J;have M:SpSt W r a cap (k+1) v' w7:=⟨U.grown D (by have:=U.size;omega) (λt e=>by have:=Zu.out t e;omega),(D.block _ (by have:=L.out;omega) (λe=>by have:=Zu.out _ e.symm;omega)).trans Mx.out,⟨_,J⟩,R_ L.out D.size⟩;have lj:=h_ M;clear J D M;go_wp2;go_roundw
   case rel=>exact⟨k+1,by omega,by go_num,lj.out⟩
   case measure=>simp[intOf];omega
  ·obtain rfl:k=y6 m:=by omega
   obtain⟨vs,u⟩:=d.sc;rw[v6 (by rw[zq,<-l.out];exact w_ _)]at u;have s:=h_ (u.base (B':=W.heap.size) (by omega));have HB:=h_ d.bel;clear d u;go_wp2;go_ret2;exact⟨_,vs,rfl,s.out,HB.out⟩
end
theorem map3 {α β:Type}{f:α->β}{l}{x y z:β}(h:l.map f=[x,y,z]):∃a b c,l=[a,b,c]/\f a=x/\f b=y/\f c=z:=by
 cases l with
 |nil=>simp at h
 |cons a l=>cases l with
  |nil=>simp at h
  |cons b l=>cases l with
   |nil=>simp at h
   |cons c l=>cases l with
    |nil=>simp at h;exact⟨a,b,c,rfl,h.1,h.2.1,h.2.2⟩
    |cons d l=>simp at h
def fKey (f : Field) : Bool×TypeId×Nat := (decide (f.name ≠ "_"), f.type, f.offset)
theorem xB9 {d xs ys f fs t o}(h:fKey f=(true,t,o)){P w a b r}
  (h1:Sem.run P (part t xs o) w=.ok a w) (h2:Sem.run P (part t ys o) w=.ok b w) (h3:Sem.run P (Op.equalIn d t a b) w=.ok r w):
  Sem.run P (Op.eqFields d xs ys (f :: fs)) w=if r then Sem.run P (Op.eqFields d xs ys fs) w else .ok false w:=by
 simp only[fKey,Prod.mk.injEq,decide_eq_true_eq]at h;obtain⟨c,rfl,rfl⟩:=h;rw[Op.eqFields,if_pos c];simp only[G9,h1,h2,h3,t2];cases r <;> simp
theorem vj (xs i v)(h:xs[i]?=some v)(w):Sem.run prog (part 3 xs i) w=.ok v w:=by
 simp[part,isAgg3,h]
theorem yFn (a b c a' b' c' d w):Sem.run prog (Op.equalIn (d+2) 314 (.agg #[.int .i64 a,.int .i64 b,.int .i64 c]) (.agg #[.int .i64 a',.int .i64 b',.int .i64 c'])) w=.ok (a==a'&&(b==b'&&c==c')) w:=by
 rw[run_equalIn_struct w (d+1) 314 _ _ (by kernel_rfl) (by kernel_rfl)];have f:(prog.fieldsOf 314).toList.map fKey=[(true,3,0),(true,3,1),(true,3,2)]:=by kernel_rfl
 obtain⟨i,h,g,hl,h1,h2,h3⟩:=map3 f;rw[hl];have e:∀x y:Int,Sem.run prog (Op.equalIn (d+1) 3 (.int .i64 x) (.int .i64 y)) w=.ok (x==y) w:=λx y=>run_equalIn_int w d 3 .i64 .i64 x y underlying3
 rw[xB9 h1 (vj _ 0 _ rfl w) (vj _ 0 _ rfl w) (e a a'),xB9 h2 (vj _ 1 _ rfl w) (vj _ 1 _ rfl w) (e b b'),xB9 h3 (vj _ 2 _ rfl w) (vj _ 2 _ rfl w) (e c c')];cases (a==a') <;> cases (b==b') <;> cases (c==c') <;> simp[Op.eqFields]
theorem xU6 (a b c d e w):Sem.run prog (part 314 #[a,b,c,d,e] 0) w=.ok (.agg #[a,b,c]) w:=by
 simp[part,isAgg314,sizeOf314]
theorem xOv (a b c d e a' b' c' d' e' w):Sem.run prog (binOp .neq 344 (.agg #[.int .i64 a,.int .i64 b,.int .i64 c,.int .i64 d,.int .i64 e]) (.agg #[.int .i64 a',.int .i64 b',.int .i64 c',.int .i64 d',.int .i64 e'])) w
  = .ok (.bool (!((a==a'&&(b==b'&&c==c'))&&(d==d'&&e==e')))) w:=by
 rw[run_neq_struct,run_equalIn_struct w 9999 344 _ _ (by kernel_rfl) (by kernel_rfl)];have g:(prog.fieldsOf 344).toList.map fKey=[(true,314,0),(true,3,3),(true,3,4)]:=by kernel_rfl
 obtain⟨j,i,h,hl,h1,h2,h3⟩:=map3 g;rw[hl];have f:∀x y:Int,Sem.run prog (Op.equalIn 9999 3 (.int .i64 x) (.int .i64 y)) w=.ok (x==y) w:=λx y=>run_equalIn_int w 9998 3 .i64 .i64 x y underlying3
 rw[xB9 h1 (xU6 _ _ _ _ _ w) (xU6 _ _ _ _ _ w) (yFn a b c a' b' c' 9997 w),xB9 h2 (vj _ 3 _ rfl w) (vj _ 3 _ rfl w) (f d d'),xB9 h3 (vj _ 4 _ rfl w) (vj _ 4 _ rfl w) (f e e')];cases (a==a'&&(b==b'&&c==c')) <;> cases (d==d') <;> cases (e==e') <;> simp[Op.eqFields]
theorem xQz {a b c d e a' b' c' d' e'}(h:a=a'/\b=b'/\c=c'/\d=d'/\e=e')(w):Sem.run prog (binOp .neq 344 (.agg #[.int .i64 a,.int .i64 b,.int .i64 c,.int .i64 d,.int .i64 e]) (.agg #[.int .i64 a',.int .i64 b',.int .i64 c',.int .i64 d',.int .i64 e'])) w=.ok (.bool false) w:=by grind [xOv]
theorem xNg {a b c d e a' b' c' d' e'}(h:¬ (a=a'/\b=b'/\c=c'/\d=d'/\e=e'))(w):Sem.run prog (binOp .neq 344 (.agg #[.int .i64 a,.int .i64 b,.int .i64 c,.int .i64 d,.int .i64 e]) (.agg #[.int .i64 a',.int .i64 b',.int .i64 c',.int .i64 d',.int .i64 e'])) w=.ok (.bool true) w:=by
 rw[xOv];grind
end Go.Proofs.YtdhapkeimaljfaaGreatDoor
