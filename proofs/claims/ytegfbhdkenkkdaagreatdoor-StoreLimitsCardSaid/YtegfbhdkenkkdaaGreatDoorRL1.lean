/- Parts of the proofs about bulletinlaw29: Shelf3, Region, Mix, Text, Grd, Mem, Zi, Zj, Zk, Zl, Zm, Zn, Bytes, Zo, Shelf, Refs, Line, Hex, Num, Zp, PRec, Zq, Zr, Zs, Zt, Zu, Secs. -/
import Derived.Shelf.SlGeneric
import Derived.Shelf.SlicesE.Clone
import Derived.Ground.SlgnProg
import Derived.Test.YtegfbhdkenkkdaaGreatDoorProg
import Derived.StillTail
import Derived.Deep.Quiet
import Derived.Below
import Derived.WalkKit
import Derived.BigQuiet
import Derived.Deep.RegionHeld3
import Derived.WalkLawsBesides
import Derived.WalkSpells
import Derived.LoopTactic
import Derived.Outline
import Derived.Lib.Hide
import Derived.Deep.QuietTactic
import Derived.Laws.Rows
import Derived.Deep.Draws
import Derived.RangeFuncRecord
import Derived.Laws.StructEq
import Derived.Laws.NewBlocks
import Derived.Shelf.SlicesE.Kit
import Derived.IntWalk
import Derived.Deep.Cut
import Derived.Deep.CutBlock
import Derived.Carry
import Derived.Laws.CopyOwn
import Derived.Shelf.Strings.Builder1
import Derived.Shelf.Strings.Builder2
import Derived.Shelf.Strings.OnBuilder
import Derived.Shelf.Small.Bits
import Derived.Shelf.Small.Strs
import Derived.Shelf.Small.Wraps
import Derived.Shelf.Strings.BuilderF
import Derived.Shelf.Strings.BuilderK
import Derived.Shelf.Strings.Builder2Cap
import Derived.Shelf.Strconv.Itoa0
import Derived.Shelf.Strconv.Itoa1
import Derived.Shelf.LaysM
import Derived.Shelf.Strconv.Itoa2
import Derived.Shelf.Strconv.Itoa3
import Derived.Shelf.Strings.Search1
import Derived.Shelf.Strings.Search2
import Derived.Shelf.Strings.Search3
import Derived.Shelf.Strings.Cut
import Derived.Shelf.Strings.Count
import Derived.Shelf.Strings.Shaped
import Derived.Shelf.Strings.Split
import Derived.Shelf.Strings.SplitShaped
import Derived.Shelf.Unicode.DecodeSlow
import Derived.Shelf.Strings.BuilderCap
import Derived.Ground.Names2Prog
import Derived.Shelf.Slices.SearchI
import Derived.Ground.SlgfProg
import Derived.Shelf.SlicesE.IndexFunc
import Derived.Ground.SlsfProg
import Derived.Shelf.SlSortCmp.Insertion
import Derived.Shelf.SlSortCmp.SiftDown1
import Derived.Shelf.SlSortCmp.HeapSort1
import Derived.Shelf.SlSortCmp.Insertion1
import Derived.Shelf.SlSortCmp.Median1
import Derived.Shelf.SlSortCmp.Pivot1
import Derived.Shelf.SlSortCmp.ReverseRange1
import Derived.Shelf.SlSortCmp.PartialInsertion1
import Derived.Shelf.SlSortCmp.PartitionEqual1
import Derived.Shelf.SlSortCmp.Partition1
import Derived.Shelf.SlSortCmp.Pdq1
import Derived.Shelf.SlSortCmp.Whole1
import Derived.Shelf.SlSortCmp.NoneTotal
import Derived.Shelf.SlicesQ.Contains
import Derived.Ground.SlgqProg
import Derived.Deep.LoopGhost
import Derived.Deep.RegionWith
import Derived.Deep.DeepFit
import Derived.StillTailTactics
import Derived.Lib.ItoaNum
import Derived.Laws.IdiomCopy
import Derived.Lib.BufferMore
import Derived.Maps.AppendAt
set_option maxRecDepth 100000
set_option linter.all false
set_option maxHeartbeats 8000000
namespace Go.Proofs.YtegfbhdkenkkdaaGreatDoor
open Go Go.RowKit Go.Proofs Tryz
def ab_:=@Below.refl
def aa_:=@Nat.le_refl
def ah_:=@List.getElem?_toArray
def cK_:=@Array.getElem?_eq_some_iff
def aX_:=@List.all_eq_true
def bW_:=@List.mem_range
def aA_:=@Bool.and_eq_true
def aD_:=@Array.all_eq_true_iff_forall_mem
def bI_:=@Bool.or_eq_true
def bj_:=@Bool.not_eq_true'
def as_:=@Option.some.inj
def bd_:=@Array.getElem?_eq_getElem
def da_:=@Array.ext_getElem?
def cE_:=@Array.getElem?_eq_none
def cg_:=@List.getElem?_drop
def ao_:=@List.length_drop
def aq_:=@Nat.zero_add
def cR_:=@List.exists_mem_of_ne_nil
def bi_:=@Nat.lt_or_ge
def df_:=@Act.put_comm
def au_:=@List.map_cons
def aM_:=@List.nil_append
def aK_:=@List.cons_append
def cF_:=@Array.any_eq_true'
def aE_:=@Sem.run_bind
def aw_:=@Result.andThen_ok
def ae_:=@List.mem_cons
def ds_:=@Ne.symm
def aZ_:=@List.nodup_append
def bA_:=@List.filter_eq_self
def bh_:=@List.nodup_cons
def co_:=@List.mem_filter
def ac_:=@List.mem_singleton
def dt_:=@Bool.not_true
def cV_:=@Bool.false_or
def ba_:=@List.contains_iff_mem
def bn_:=@List.eq_nil_of_length_eq_zero
def dp_:=@List.eq_nil_iff_forall_not_mem
def ca_:=@List.pairwise_cons
def aj_:=@List.mem_append
def db_:=@List.append_of_mem
def cu_:=@List.pairwise_append
def af_:=@List.length_append
def av_:=@List.length_cons
def cW_:=@List.all_cons
def am_:=@List.take_succ_eq_append_getElem
def bb_:=@List.getElem_mem
def dY_:=@List.any_eq_true
def ar_:=@List.take_of_length_le
def aV_:=@Nat.zero_le
def cc_:=@Array.getElem?_push
def eb_:=@Nat.ne_of_lt
def aB_:=@World.putObj_heap_other
def ak_:=@List.getElem?_eq_getElem
def az_:=@List.mem_map
def cX_:=@Option.isSome_iff_exists
def bk_:=@List.getElem?_map
def cT_:=@List.getElem?_range
def aU_:=@Option.map_some
def cr_:=@Option.getD_some
def aR_:=@Option.some.injEq
def aI_:=@List.getElem?_eq_none
def dq_:=@List.ext_getElem
def bT_:=@World.cell?_drewN
def bR_:=@Bool.eq_iff_iff
def bJ_:=@List.map_congr_left
def bv_:=@Lib.cell?_alloc_some
def an_:=@Addr.add_lit
def dL_:=@Array.ext
def dv_:=@List.getElem_toArray
def bS_:=@List.getElem_map
def dM_:=@List.getElem_range
def bK_:=@Array.getElem?_modify
def bz_:=@Nat.mul_one
def bY_:=@Sem.run_pure
def dA_:=@UInt8.toNat_inj
def dN_:=@Bool.not_false
def dS_:=@List.mem_range'_1
def cL_:=@Std.Legacy.Range.forIn_eq_forIn_range'
def dI_:=@Nat.sub_zero
def ec_:=@Array.ext'
def dJ_:=@Nat.le_of_eq
def ad_:=@Nat.le_trans
def cI_:=@Classical.choose_spec
def al_:=@World.size_alloc
def aS_:=@Int.tmod_eq_emod_of_nonneg
def ag_:=@NoPanic.normal
def dO_:=@IntWalk.i64_in
def be_:=@Int.toNat_natCast
def bO_:=@UInt8.toNat_ofNat'
def ap_:=@Nat.lt_of_lt_of_le
def ch_:=@List.not_mem_nil
def bD_:=@List.setIfInBounds_toArray
def bL_:=@List.set_append_right
def aF_:=@List.getElem?_append_right
def aJ_:=@List.getElem?_append_left
def bE_:=@List.drop_append
def aH_:=@List.append_assoc
def ai_:=@List.length_take
def bx_:=@List.getElem?_take_of_lt
def aW_:=@List.size_toArray
def cd_:=@Nat.min_eq_left
def aO_:=@List.drop_eq_nil_of_le
def dc_:=@World.ownsRow.kept
def aP_:=@World.ownsRow_nil
def aL_:=@World.ownsRow.lt
def cM_:=@World.ownsRow.cellAt
def dB_:=@List.range_succ
def cy_:=@List.length_pos_iff
def cU_:=@List.take_succ_cons
def dP_:=@List.take_zero
def dC_:=@List.drop_succ_cons
def dQ_:=@List.drop_zero
def ay_:=@List.getElem?_cons_succ
def bq_:=@List.mem_nil_iff
def bF_:=@List.mem_iff_getElem
def ef_:=@Nat.not_lt_zero
def cY_:=@List.foldl_cons
def bZ_:=@Nat.zero_mul
def cj_:=@Nat.mul_le_mul_right
def ed_:=@Nat.add_comm
def bP_:=@List.drop_drop
def bM_:=@List.take_append_drop
def dZ_:=@List.range'_succ
def cw_:=@Prod.mk.injEq
def aC_:=@List.getElem?_cons_zero
def bB_:=@Nat.le_of_lt
def dK_:=@Nat.two_pow_add_eq_or_of_lt
def cN_:=@BitVec.ofInt_natCast
def dd_:=@BitVec.toNat_ofNat
def cA_:=@Nat.mod_eq_of_lt
def dw_:=@Nat.pow_le_pow_right
def cn_:=@List.getElem_drop
def ci_:=@List.getElem_append_left
def cS_:=@List.getElem_append_right
def ee_:=@Nat.sub_self
theorem h_ {p:Prop}(h:p):Hid p:=Lib.hid h
theorem b_ (w:World)(o:Obj):Below w.heap.size w (w.alloc o):=(ab_ _ _).alloc (aa_ _) o
theorem v_ {α:Type}:(∀(l:List α) (i:Nat),l.toArray[i]?=l[i]?)/\(∀(a:α) (l:List α),(a :: l)[0]?=some a)/\(∀(a:α) (l:List α) (i:Nat),(a :: l)[i+1]?=l[i]?):=⟨λ_ _=>ah_ ..,λ_ _=>rfl,λ_ _ _=>rfl⟩
theorem i_ {α:Type}{xs:Array α}{i:Nat}{b:α}(h:xs[i]?=some b):∃h:i<xs.size,xs[i]=b:=cK_.1 h
end Go.Proofs.YtegfbhdkenkkdaaGreatDoor
namespace Go.Proofs
open Go.Shelf
def Tryz.cloneIvl_ren:Go.Shelf.Ren:=⟨λ| 41=>131|n=>n,λ| 22=>191|23=>244|4=>4|n=>n,λ| n=>n⟩
theorem Tryz.cloneIvl:Go.Proofs.SlLaysE0.n41 prog Tryz.cloneIvl_ren:={
 mixed:=by kernel_rfl
 f41:=⟨f131.name,by decide,func131.trans (congrArg some (by kernel_rfl))⟩
 t4:=underlying4
 a4:=isAgg4
 z4:=sizeOf4
 v4:=zeroValue4
 t22:=underlying191
 a22:=isAgg191
 z22:=sizeOf191
 v22:=zeroValue191 }
end Go.Proofs
namespace Go.Proofs.YtegfbhdkenkkdaaGreatDoor
open Go Go.RowKit
section
variable {P:Program}
def xK1 (ops:Array Oper)(n:Nat):Bool:=
 (List.range n).all λi=>match ops[i]? with
  |some o=>(o.after.all λe=>!Region.binds .any e||decide (e.on<i))&&(match o.guard with|none=>true|some (j,_)=>decide (j<n))
  |none=>false
theorem xIf {md:Region.Mode}{ops:Array Oper}{Q:Exit->Act->World->Prop}:∀(f:Nat) (listed:Array Bool) (a:Act) (w:World),wpAny P md ops Q f listed a w->wpAny P md ops Q (f+1) listed a w
 |0,_,_,_,h=>⟨λ_=>h.2,λi hi=>by rw[h.1]at hi;cases hi⟩
 |f+1,_,_,_,h=>⟨h.1,λi hi=>wpOp_mono (λa' w' h'=>xIf f _ a' w' h') (h.2 i hi)⟩
theorem xIe {md:Region.Mode}{ops:Array Oper}{Q:Exit->Act->World->Prop}{listed:Array Bool}{a:Act}{w:World}{f:Nat}(h:wpAny P md ops Q f listed a w):∀k,wpAny P md ops Q (k+f) listed a w
 |0=>by simpa using h
 |k+1=>by rw[show k+1+f=(k+f)+1 by omega];exact xIf _ _ _ _ (xIe h k)
theorem xB0 {ops:Array Oper}{n i:Nat}(h:xK1 ops n=true)(hi:i<n):∃o,ops[i]?=some o/\(∀e∈o.after,Region.binds .any e=true->e.on<i)/\(∀j b,o.guard=some (j,b)->j<n):=by
 have h1:=aX_.1 h i (bW_.2 hi);split at h1
 ·rename_i o ho;simp only[aA_,aD_,bI_,bj_,decide_eq_true_eq]at h1;refine⟨o,ho,λe he hb=>?_,λj b hg=>?_⟩
  ·rcases h1.1 e he with h2|h2
   ·rw[hb]at h2;cases h2
   ·exact h2
  ·have h2:=h1.2;rw[hg]at h2;simpa using h2
 ·cases h1
theorem xB4 {x y:Array Bool}{i:Nat}{d:Bool}(h:x[i]?=y[i]?):x.getD i d=y.getD i d:=by simp[h]
theorem xS2 {ops:Array Oper}{n:Nat}{listed:Array Bool}(hB:xK1 ops n=true)(aI:listed.size=n):∀(m:Nat),m<n->listed.getD m true=false->∃i,i<n/\i∈Region.ready .any ops listed:=by
 intro m;induction m using Nat.strongRecOn with
 |_ m ih=>
  intro hm nV;obtain⟨o,ho,he,_⟩:=xB0 hB hm;by_cases hall:∀e∈o.after,Region.binds .any e=true->listed.getD e.on false=true
  ·exact⟨m,hm,mem_ready.2 ⟨nV,o,ho,hall⟩⟩
  ·obtain⟨e,hx⟩:=Classical.not_forall.1 hall;obtain⟨hin,hx⟩:=Classical.not_imp.1 hx;obtain⟨hb,hx⟩:=Classical.not_imp.1 hx;have hlt:=he e hin hb;refine ih e.on hlt (by omega) (getD_in (by omega) (by simpa using hx))
variable {C:World->Prop}
theorem xJ0 {l:List Oper}{n i:Nat}{listed listed':Array Bool}(hB:xK1 l.toArray n=true)(wh:∀j,j<n->listed'[j]?=listed[j]?)(hi:i<n):
  i∈Region.ready .any (l.take n).toArray listed'↔i∈Region.ready .any l.toArray listed:=by
 have e1:(l.take n).toArray[i]?=l.toArray[i]?:=by simp[hi]
 have e2:listed'.getD i true=listed.getD i true:=xB4 (wh i hi);rw[mem_ready,mem_ready,e1,e2];obtain⟨o,ho,he,_⟩:=xB0 hB hi;constructor
 ·rintro ⟨h1,o',cI,hall⟩;refine⟨h1,o',cI,λe hin hb=>?_⟩;have:o'=o:=as_ (cI.symm.trans ho);subst this;rw[<-xB4 (wh e.on (by have:=he e hin hb;omega))];exact hall e hin hb
 ·rintro ⟨h1,o',cI,hall⟩;refine⟨h1,o',cI,λe hin hb=>?_⟩;have:o'=o:=as_ (cI.symm.trans ho);subst this;rw[xB4 (wh e.on (by have:=he e hin hb;omega))];exact hall e hin hb
theorem xQm {l:List Oper}{n i:Nat}{o:Oper}(hB:xK1 l.toArray n=true)(hi:i<n)(ho:l.toArray[i]?=some o)(t:Array Value):
  Region.wanted o (yielded (l.take n).toArray t)=Region.wanted o (yielded l.toArray t):=by
 obtain⟨o',cI,_,hg⟩:=xB0 hB hi;have:o'=o:=as_ (cI.symm.trans ho);subst this;unfold Region.wanted;cases hq:o'.guard with
 |none=>rfl
 |some x=>
  obtain⟨j,b⟩:=x;have hj:=hg j b hq;have e1:(l.take n).toArray[j]?=l.toArray[j]?:=by simp[hj]
  simp only[yielded,e1]
theorem yEz {l:List Oper}{n:Nat}{Q:Exit->Act->World->Prop}(hn:n<l.length)(hs:Region.sinkB .any l.toArray n=true)(hc:Region.chainB .any l.toArray n=true)(hB:xK1 l.toArray n=true)
  (wV:Region.seqB .any l.toArray (l.length-n) n ((Array.replicate n true)++(Array.replicate (l.length-n) false))=true):
  ∀(f:Nat) (listed listed':Array Bool) (a:Act) (w:World),HeadInv .any l.toArray n listed->listed'.size=n->(∀j,j<n->listed'[j]?=listed[j]?)->C w ->
   wpAnyQ P .any (l.take n).toArray C (λa'=>∀w',C w'->wpList P l.toArray Q (l.drop n) a' w') f listed' a->wpAny P .any l.toArray Q (f+(l.length-n)) listed a w:=by
 have done:∀(listed listed':Array Bool) (a:Act) (w:World),HeadInv .any l.toArray n listed->listed'.size=n->(∀j,j<n->listed'[j]?=listed[j]?)->Region.ready .any (l.take n).toArray listed'=[] ->
   wpList P l.toArray Q (l.drop n) a w->wpAny P .any l.toArray Q (l.length-n) listed a w:=by
  intro listed listed' a w inv aI wh hr h;have F7:xK1 (l.take n).toArray n=true:=by
   refine aX_.2 λi hi=>?_
   have Eu:i<n:=bW_.1 hi;have h1:=aX_.1 hB i hi;have e1:(l.take n).toArray[i]?=l.toArray[i]?:=by simp[Eu]
   rw[e1];exact h1
  have hall:∀i,i<n->listed[i]?=some true:=by
   intro i hi;have hlt:i<listed.size:=by rw[inv.size];simp;omega
   cases hv:listed[i] with
   |true=>rw[bd_ hlt,hv]
   |false=>
    have nV:listed'.getD i true=false:=by rw[xB4 (wh i hi)];simp[hlt,hv]
    obtain⟨j,_,hj⟩:=xS2 F7 aI i hi nV;rw[hr]at hj;cases hj
  have heq:listed=(Array.replicate n true)++(Array.replicate (l.length-n) false):=by
   apply da_;intro i;by_cases hi:i<n
   ·rw[hall i hi,Array.getElem?_append_left (by simpa using hi)];simp[hi]
   ·by_cases hi2:i<l.length
    ·have h1:=inv.tail i (by omega) (by simpa using hi2);have hlt:i<listed.size:=by rw[inv.size];simpa using hi2
     have h2:listed[i]=false:=by simpa[hlt]using h1
     rw[Array.getElem?_append_right (by simp;omega),bd_ hlt,h2,Array.size_replicate,bd_ (by simp;omega)];simp
    ·rw[cE_ (by rw[inv.size];simp;omega),cE_ (by simp;omega)]
  have:=wpAny_of_seq (P:=P) (md:=.any) (ops:=l.toArray) (Q':=Q) (l.drop n) n listed a w (λj=>by simp[cg_]) (by rw[ao_,heq];exact wV) h
  rwa [ao_]at this
 intro f;induction f with
 |zero=>
  intro listed listed' a w inv aI wh hw h;rw[aq_];exact done listed listed' a w inv aI wh h.1 (h.2 w hw)
 |succ f ih=>
  intro listed listed' a w inv aI wh hw h;by_cases hr:Region.ready .any (l.take n).toArray listed'=[]
  ·exact xIe (done listed listed' a w inv aI wh hr (h.1 hr w hw)) (f+1)
  ·obtain⟨i0,hi0⟩:=cR_ _ hr;have KV:i0<n:=by
    obtain⟨_,o,ho,_⟩:=mem_ready.1 hi0;have:=(i_ ho).1;simp at this;omega
   have aX:=(xJ0 hB wh KV).1 hi0;rw[show f+1+(l.length-n)=(f+(l.length-n))+1 by omega];refine⟨λhe=>(by rw[he]at aX;cases aX),λi hi=>?_⟩
   have hin:i<n:=by
    rcases bi_ i n with h1|h1
    ·exact h1
    ·exact absurd hi (tail_waits hs hc (by simpa using hn) inv (n-i0) i0 rfl KV (mem_ready.1 aX).1 i h1)
   have hq:=h.2 i ((xJ0 hB wh hin).2 hi);obtain⟨o,ho,_,_⟩:=xB0 hB hin;have e1:(l.take n).toArray[i]?=some o:=by rw[<-ho];simp[hin]
   unfold qOp at hq;unfold wpOp;simp only[e1]at hq;simp only[ho];rw[xQm hB hin ho]at hq;have next:∀(a':Act) (w':World),C w'->wpAnyQ P .any (l.take n).toArray C (λa'=>∀w',C w'->wpList P l.toArray Q (l.drop n) a' w') f (listed'.setIfInBounds i true) a' ->
     wpAny P .any l.toArray Q (f+(l.length-n)) (listed.setIfInBounds i true) a' w':=λa' w' Ry h'=>
    ih (listed.setIfInBounds i true) (listed'.setIfInBounds i true) a' w' (inv.set hi hin) (by simpa using aI) (λj hj=>by
     have h1:=wh j hj;have s1:i<listed'.size:=by omega
     have s2:i<listed.size:=by rw[inv.size];simp;omega
     simp only[Array.getElem?_setIfInBounds,s1,s2,if_true,h1]) Ry h'
   split
   ·rename_i wW;rw[if_pos wW]at hq;exact .inl (Oper.wp_of_quiet hw next hq)
   ·rename_i wW;rw[if_neg wW]at hq;exact next _ _ hw hq
def htB (l:List Oper)(n:Nat):Bool:=
 decide (n<l.length)&&Region.sinkB .any l.toArray n&&Region.chainB .any l.toArray n&&xK1 l.toArray n&&Region.lexB .any (l.take n).toArray
  && Region.seqB .any l.toArray (l.length-n) n ((Array.replicate n true)++(Array.replicate (l.length-n) false))
theorem xAt {id:Nat}{Q:Exit->Act->World->Prop}{a:Act}{w:World}{l:List Oper}(n:Nat)(C:World->Prop)(hm:P.follows .mixedOrders=true)(hB:htB l n=true)(hC:C w.drew)
  (h:wpQuiet P (l.take n).toArray C (λa'=>∀w',C w'->wpList P l.toArray Q (l.drop n) a' w') (l.take n) a):(Code.region id l.toArray true).wp P Q a w:=by
 simp only[htB,aA_,decide_eq_true_eq]at hB;obtain⟨⟨⟨⟨⟨hn,hs⟩,hc⟩,hh⟩,hl⟩,hq⟩:=hB;simp only[Region.lexB,aA_]at hl;have ao:(l.take n).length=n:=by simp;omega
 refine wp_region_any hm ?_;have h1:=wpAnyQ_lex (P:=P) (C:=C) (md:=.any) hl.1 (l.take n) 0 (Array.replicate (l.take n).toArray.size false) a (by simp) (by simpa using hl.2) h;have h2:=yEz (P:=P) (C:=C) (Q:=Q) hn hs hc hh hq (l.take n).length (Array.replicate l.toArray.size false) (Array.replicate (l.take n).toArray.size false) a w.drew
  ⟨by simp,λj oj _ hl=>(by rw[getD_replicate_false]at hl;cases hl),λt _ ht=>getD_in (by simpa using ht) (getD_replicate_false _ _)⟩
  (by simp;omega) (λj hj=>by simp[show j<min n l.length by omega,show j<l.length by omega]) hC h1
 rw[ao,show n+(l.length-n)=l.toArray.size by simp;omega]at h2;exact h2
end
def x8 (w:World):Type:={ w':World // Below w.heap.size w w' }
instance {w:World}:CoeOut (x8 w) World:=⟨Subtype.val⟩
instance {w:World}:Nonempty (x8 w):=⟨⟨w,ab_ _ _⟩⟩
theorem x8.cell {w:World}{a:Addr}{v:Value}(h:w.cell? a=some v)(z:x8 w):z.1.cell? a=some v:=(z.2.cell (block_lt_of_cell h)).trans h
theorem x8.call {P:Program}{f:FuncId}{args:Array Value}{w:World}{z:x8 w}{v:Value}
  (h:Calls P f args z.1 λe w'=>e=.returned v/\Below z.1.heap.size z.1 w'):Calls P f args z.1 λe w''=>e=.returned v/\∃z':x8 w,w''=z'.1:=
 h.mono λ_ _ ⟨he,hb⟩=>⟨he,⟨⟨_,z.2.trans (hb.mono z.2.size)⟩,rfl⟩⟩
theorem x8.call_same {P:Program}{f:FuncId}{args:Array Value}{w:World}{z:x8 w}{v:Value}
  (h:Calls P f args z.1 λe w'=>e=.returned v/\z.1=w'):Calls P f args z.1 λe w''=>e=.returned v/\∃z':x8 w,w''=z'.1:=
 h.mono λ_ _ ⟨he,hb⟩=>⟨he,z,hb.symm⟩
end Go.Proofs.YtegfbhdkenkkdaaGreatDoor
namespace Go.Proofs.YtegfbhdkenkkdaaGreatDoor
open Go Go.RowKit
section
variable {P:Program} {ops:Array Oper} {C:World->Prop} {Q:Exit->Act->World->Prop}
theorem xX8 {j:Nat}{oi oj:Oper}{v:Value}(hj:ops[j]?=some oj)(cN:oi.apart ops oj=true)(Zv:∀cs b,oi.op≠.select cs b)(KW:∀cs b,oj.op≠.select cs b)
  {K:Act->World->Prop} {a:Act} {w:World} (hy:YieldsIn P ops C oi v a) (h:wpOp P ops (NoPanic Q) j K (a.put oi.dst v) w):
  wpOp P ops (NoPanic Q) j (λa' w'=>YieldsIn P ops C oi v a'/\K (a'.put oi.dst v) w') a w:=by
 obtain⟨h1,h2,h3⟩:=Oper.apart_spec cN;have keep:∀(a:Act),YieldsIn P ops C oi v a->∀u,YieldsIn P ops C oi v (a.put oj.dst u):=λa hy u=>
  hy.of_same (execOp_put oi Zv a oj.dst u h3) (wanted_put oi a oj.dst u h3)
 have keepD:∀d,YieldsIn P ops C oi v { a with defers:=d :: a.defers }:=λd=>hy.of_same rfl rfl
 unfold wpOp at *;simp only[hj]at *;rw[wanted_put oj a oi.dst v h1]at h;split
 ·rename_i hw;simp only[hw,if_true]at h;rcases h with h|⟨Ev,KX⟩
  case inr=>exact .inr ⟨by unfold Oper.asks at *;rw[execOp_put oj KW a oi.dst v h1]at Ev;exact Ev,KX⟩
  refine .inl ?_;unfold Oper.wp at *;rw[execOp_put oj KW a oi.dst v h1]at h;generalize (execOp a.eval oj).run P w=r at *;cases r with
  |ok n w'=>
   cases n <;> simp only[Oper.upon]at h⊢
   case value u=>exact⟨keep a hy u,by rw[<-df_ a v u h2];exact h⟩
   case skip=>exact⟨keep a hy _,by rw[<-df_ a v undef h2];exact h⟩
   case defer d=>
    refine⟨keep _ (keepD d) _,?_⟩;rw[<-df_ _ v undef h2,<-Act.put_defers];exact h
   case enter f args=>
    refine Calls.mono h λe w'' he=>?_
    cases e with
    |returned u=>exact⟨keep a hy u,by rw[<-df_ a v u h2];exact he⟩
    |panicked c=>exact he.elim
    |outgrown=>exact he
   case row row args=>exact Rows.mono h λu w'' he=>⟨keep a hy u,by rw[<-df_ a v u h2];exact he⟩
  |halt x w'=>
   cases x <;> simp only[Oper.upon]at h⊢
   case panic u=>exact h.elim
 ·rename_i hw;simp only[hw]at h;exact⟨keep a hy _,by rw[<-df_ a v undef h2];exact h⟩
def zW (ops:Array Oper)(E:List Nat):List Oper:=E.map λi=>ops.getD i default
theorem xG7 {i:Nat}{o:Oper}(h:ops[i]?=some o):ops.getD i default=o:=by simp[h]
theorem zG {K K':Act->Prop}(hk:∀a,K a->K' a):∀(l:List Oper) (a:Act),wpQuiet P ops C K l a->wpQuiet P ops C K' l a
 |[],_,h=>hk _ h
 |o :: l,a,h=>by
  unfold wpQuiet at *;split
  ·rename_i hw;rw[if_pos hw]at h;exact Oper.quiet_mono (zG hk l) h
  ·rename_i hw;rw[if_neg hw]at h;exact zG hk l _ h
theorem xJ4 {i:Nat}{o:Oper}{K:Act->Prop}{l:List Oper}{a:Act}(hi:ops[i]?=some o)(h:wpQuiet P ops C K (o :: l) a):∃v,YieldsIn P ops C o v a/\wpQuiet P ops C K l (a.put o.dst v):=
 yieldsIn_of_qOp hi (by unfold qOp;simp only[hi];exact h)
theorem xKp {i:Nat}{o:Oper}{K:Act->Prop}{l:List Oper}{a:Act}{v:Value}(hi:ops[i]?=some o)(hy:YieldsIn P ops C o v a)(h:wpQuiet P ops C K l (a.put o.dst v)):wpQuiet P ops C K (o :: l) a:=by
 have:=hy.qOp hi (K:=wpQuiet P ops C K l) h;unfold qOp at this;simp only[hi]at this;exact this
theorem xC0 {e:Nat}{oe:Oper}(he:ops[e]?=some oe)(g7:∀(j:Nat) (o:Oper) cs b,ops[j]?=some o->o.op≠.select cs b){K:Act->Prop}:
  ∀(E1 E2:List Nat) (a:Act),(∀x∈E1,∃ox,ops[x]?=some ox/\ox.apart ops oe=true)->wpQuiet P ops C K (zW ops (E1++e :: E2)) a->qOp P ops C e (wpQuiet P ops C K (zW ops (E1++E2))) a
 |[],E2,a,_,h=>by
  have hd:zW ops (e :: E2)=oe :: zW ops E2:=by unfold zW;rw[au_,xG7 he]
  rw[aM_,hd]at h;rw[aM_];unfold qOp;simp only[he];exact h
 |x :: E1,E2,a,hx,h=>by
  obtain⟨ox,td,cN⟩:=hx x (by simp);have hd:∀T,zW ops (x :: T)=ox :: zW ops T:=λT=>by unfold zW;rw[au_,xG7 td]
  rw[aK_,hd]at h;obtain⟨v,hy,h2⟩:=xJ4 td h;have ih:=xC0 he g7 E1 E2 _ (λy hy=>hx y (by simp[hy])) h2;have:=qOp_put he cN (λcs b=>g7 x ox cs b td) (λcs b=>g7 e oe cs b he) hy ih;refine qOp_mono (λa' h3=>?_) this;rw[aK_,hd];exact xKp td h3.1 h3.2
theorem xGk {r:Nat}{orr:Oper}(hr:ops[r]?=some orr)(g7:∀(j:Nat) (o:Oper) cs b,ops[j]?=some o->o.op≠.select cs b){K:Act->World->Prop}{w:World}:
  ∀(E:List Nat) (a:Act),(∀x∈E,∃ox,ops[x]?=some ox/\ox.apart ops orr=true)->wpQuiet P ops C (λa'=>wpOp P ops (NoPanic Q) r K a' w) (zW ops E) a ->
   wpOp P ops (NoPanic Q) r (λa' w'=>wpQuiet P ops C (λa''=>K a'' w') (zW ops E) a') a w
 |[],_,_,h=>h
 |x :: E,a,hx,h=>by
  obtain⟨ox,td,cN⟩:=hx x (by simp);have hd:zW ops (x :: E)=ox :: zW ops E:=by unfold zW;rw[au_,xG7 td]
  rw[hd]at h;obtain⟨v,hy,h2⟩:=xJ4 td h;have ih:=xGk hr g7 E _ (λy hy=>hx y (by simp[hy])) h2;refine wpOp_mono (λa' w' h3=>?_) (xX8 hr cN (λcs b=>g7 x ox cs b td) (λcs b=>g7 r orr cs b hr) hy ih);rw[hd];exact xKp td h3.1 h3.2
def ancB (ops:Array Oper):Nat->Nat->Nat->Bool
 |0,_,_=>false
 |f+1,r,e=>match ops[r]? with
  |some o=>o.after.any λx=>Region.binds .any x&&(x.on==e||ancB ops f x.on e)
  |none=>false
def xGo (ops:Array Oper)(L:Array Bool):Prop:=∀j oj,ops[j]?=some oj->L.getD j false=true->∀e∈oj.after,Region.binds .any e=true->L.getD e.on false=true
theorem xBe {L:Array Bool}(hc:xGo ops L):∀(f r e:Nat),(∀o,ops[r]?=some o->∀x∈o.after,Region.binds .any x=true->L.getD x.on false=true)->ancB ops f r e=true->L.getD e false=true
 |0,_,_,_,h=>by simp[ancB]at h
 |f+1,r,e,hr,h=>by
  unfold ancB at h;split at h
  ·rename_i o ho;obtain⟨x,hx,hb⟩:=cF_.1 h;simp only[aA_,bI_,beq_iff_eq]at hb;have h1:=hr o ho x hx hb.1;rcases hb.2 with rfl|h2
   ·exact h1
   ·exact xBe hc f x.on e (λo' cI=>hc x.on o' cI h1) h2
  ·cases h
def qK (ops:Array Oper)(E:List Nat)(r:Nat):Bool:=!(E.all λe=>ancB ops ops.size r e)
def wpR (P:Program)(ops:Array Oper)(Q:Exit->Act->World->Prop)(C:World->Prop)(E:List Nat):List Nat->Act->World->Prop
 |[],a,w=>Q .normal a w
 |r :: rest,a,w=>wpOp P ops (NoPanic Q) r (λa' w'=>(qK ops E r=true->C w')/\wpR P ops Q C E rest a' w') a w
def kr (o:Oper):Bool:=match o.op with
 |.move _|.assign _|.pick ..|.convert ..|.load ..|.fieldAddr ..|.field ..|.index ..|.indexAddr ..|.binOp ..|.unOp ..|.slice ..|.extract ..|.build ..|.lookup ..|.nilCheck _=>false
 |_=>true
theorem vf {s:Sem Value}{w w':World}{f:FuncId}{args:Array Value}(h:Sem.run P (do pure (Next.value (<-s))) w=.ok (.enter f args) w'):False:=by
 rw[aE_]at h;generalize s.run P w=r at h;cases r with
 |ok v w1=>simp[Result.andThen]at h
 |halt x w1=>simp[Result.andThen]at h
theorem jh {w w':World}{f:FuncId}{args:Array Value}(h:Sem.run P (runtimePanic (α:=Next) .nilDeref) w=.ok (.enter f args) w'):False:=by
 simp[runtimePanic,goPanic,aE_,run_program]at h
theorem xDp {o:Oper}{ρ:Operand->Value}{w w':World}{f:FuncId}{args:Array Value}(hc:kr o=false)(h:(execOp ρ o).run P w=.ok (.enter f args) w'):False:=by
 obtain⟨d,op,ty,pos,af,g⟩:=o;cases op <;> simp only[kr,Bool.true_eq_false]at hc
 case move x=>simp[execOp]at h
 case assign x=>simp[execOp]at h
 case pick c a b=>
  simp only[execOp,aE_]at h;generalize (asBool (ρ c)).run P w=r at h;cases r with
  |ok v w1=>simp[Result.andThen]at h
  |halt x w1=>simp[Result.andThen]at h
 case nilCheck x=>
  simp only[execOp]at h;split at h
  ·exact jh h
  ·exact jh h
  ·exact jh h
  ·split at h
   ·exact jh h
   ·rename_i t v;simp only[aE_,run_program,aw_]at h;generalize (nilAhead _ _ _ _).run P w=r at h;cases r with
    |ok b w1=>
     simp only[aw_]at h;by_cases hb:(b != some false)=true
     ·rw[if_pos hb]at h;simp[unsupported]at h
     ·rw[if_neg hb]at h;simp at h
    |halt x w1=>simp[Result.andThen]at h
   ·simp at h
  ·simp at h
 all_goals exact vf h
def xBi (f:Nat->Nat->Bool):List Nat->Bool
 |[]=>true
 |x :: l=>l.all (f x)&&xBi f l
theorem kj {f:Nat->Nat->Bool}:∀{l:List Nat},xBi f l=true->l.Pairwise λx y=>f x y=true
 |[],_=>.nil
 |x :: l,h=>by
  simp only[xBi,aA_,aX_]at h;exact .cons h.1 (kj h.2)
def kz (ops:Array Oper):List Nat->Bool
 |r :: s :: l=>Region.waitsFor .any ops s r&&kz ops (s :: l)
 |_=>true
def xAd (ops:Array Oper)(y e:Nat):Bool:=Region.waitsFor .any ops e y||(match ops[y]?,ops[e]? with|some oy,some oe=>oy.apart ops oe|_,_=>false)
def uR (ops:Array Oper)(l:List Nat)(e:Nat):Bool:=match ops[e]? with
 |some o=>o.after.all λx=>!Region.binds .any x||(l.contains x.on&&x.on != e)
 |none=>false
def mixB (ops:Array Oper)(E R:List Nat):Bool:=
 Region.noSelect ops&&decide ((E++R).Nodup)&&decide (E.length+R.length=ops.size)&&((List.range ops.size).all λi=>E.contains i||R.contains i)
 && E.all (uR ops E)&&xBi (λy e=>!Region.waitsFor .any ops y e&&xAd ops y e) E
 && R.all (uR ops (E++R))&&xBi (λr s=>!Region.waitsFor .any ops r s) R&&kz ops R
 && (R.all λr=>E.all λy=>xAd ops y r)
 && (E.all λe=>match ops[e]? with|some o=>!kr o||(match R with|r :: _=>ancB ops ops.size r e|[]=>true)|none=>false)
def unl (L:Array Bool)(i:Nat):Bool:=!L.getD i true
theorem kH {r e:Nat}{o:Oper}(ho:ops[r]?=some o){x:Edge}(hx:x∈o.after)(hb:Region.binds .any x=true)(Rz:x.on=e):Region.waitsFor .any ops r e=true:=by
 unfold Region.waitsFor;rw[ho];exact cF_.2 ⟨x,hx,by simp[hb,Rz]⟩
theorem zF {L:Array Bool}{i x:Nat}(hi:i∈Region.ready .any ops L)(hx:L.getD x true=false):Region.waitsFor .any ops i x=false:=by
 cases h:Region.waitsFor .any ops i x with
 |false=>rfl
 |true=>
  obtain⟨o,ho,e,he,hb,Rz⟩:=Region.waitsFor_spec h;obtain⟨_,o',cI,hall⟩:=mem_ready.1 hi;have:o'=o:=as_ (cI.symm.trans ho);subst this;have h1:=hall e he hb;rw[Rz,getD_both hx]at h1;cases h1
theorem xE9:∀{r:Nat} {l:List Nat},kz ops (r :: l)=true->∀i∈l,∃p∈r :: l,Region.waitsFor .any ops i p=true
 |_,[],_,i,hi=>by cases hi
 |r,s :: l,h,i,hi=>by
  simp only[kz,aA_]at h;rcases ae_.1 hi with rfl|hi
  ·exact⟨r,by simp,h.1⟩
  ·obtain⟨p,hp,hw⟩:=xE9 h.2 i hi;exact⟨p,by simp at hp⊢;rcases hp with hp|hp <;> simp[hp],hw⟩
theorem xBd:∀(Rd R':List Nat),kz ops (Rd++R')=true->kz ops R'=true
 |[],_,h=>h
 |[r],[],_=>rfl
 |[r],s :: l,h=>by simp only[aK_,aM_,kz,aA_]at h;exact h.2
 |r :: s :: Rd,R',h=>by
  simp only[aK_,kz,aA_]at h;exact xBd (s :: Rd) R' h.2
theorem xE6 {L:Array Bool}{e:Nat}{E E1 E2:List Nat}(aI:e<L.size)(bZ:E.Nodup)(h:E.filter (unl L)=E1++e :: E2):E.filter (unl (L.setIfInBounds e true))=E1++E2:=by
 have h1:E.filter (unl (L.setIfInBounds e true))=(E.filter (unl L)).filter (λi=>i != e):=by
  rw[List.filter_filter];apply List.filter_congr;intro i _;by_cases RA:i=e
  ·subst RA;simp[unl,aI]
  ·have:(L.setIfInBounds e true).getD i true=L.getD i true:=getD_set_ne true (ds_ RA);simp only[unl,this];simp[RA]
 have KY:(E1++e :: E2).Nodup:=h▸bZ.filter _;rw[h1,h,List.filter_append,List.filter_cons];simp only[bne_self_eq_false,Bool.false_eq_true,if_false];rw[aZ_]at KY;obtain⟨n1,n2,n3⟩:=KY;rw[bA_.2,bA_.2]
 ·intro x hx;simp only[bne_iff_ne];rintro rfl;exact(bh_.1 n2).1 hx
 ·intro x hx;simp only[bne_iff_ne];rintro rfl;exact n3 x hx x (by simp) rfl
theorem ku {L:Array Bool}{r:Nat}{E:List Nat}(hr:r∉E):E.filter (unl (L.setIfInBounds r true))=E.filter (unl L):=by
 apply List.filter_congr;intro i hi;have:(L.setIfInBounds r true).getD i true=L.getD i true:=getD_set_ne true (by rintro rfl;exact hr hi);simp only[unl,this]
theorem kL {X:Prop}{Y:Act->Prop}:∀(l:List Oper) (a:Act),wpQuiet P ops C (λa=>X/\Y a) l a->X
 |[],_,h=>h.1
 |o :: l,a,h=>by
  unfold wpQuiet at h;split at h
  ·obtain⟨v,_,h2⟩:=h;exact kL l _ h2
  ·exact kL l _ h
theorem xIi {e:Nat}{o:Oper}{K:Act->Prop}{K':Act->World->Prop}{a:Act}{w:World}(he:ops[e]?=some o)(bH:kr o=false)(hC:C w)(hk:∀a',K a'->K' a' w)(h:qOp P ops C e K a):
  wpOp P ops (NoPanic Q) e K' a w:=by
 unfold qOp at h;unfold wpOp;simp only[he]at h⊢;split
 ·rename_i hw;rw[if_pos hw]at h;refine .inl ?_;obtain⟨v,hv,hn⟩:=h;have h1:=hv w hC;unfold Oper.quietAt at h1;unfold Oper.wp;generalize hr:(execOp a.eval o).run P w=r at *;cases r with
  |ok n w'=>
   cases n <;> simp only[Oper.quietUpon]at h1 <;> simp only[Oper.upon]
   case value u=>obtain⟨rfl,rfl⟩:=h1;exact hk _ hn
   case skip=>obtain⟨rfl,rfl⟩:=h1;exact hk _ hn
   case enter f args=>
    exfalso;exact xDp bH hr
  |halt x w'=>exact h1.elim
 ·rename_i hw;rw[if_neg hw]at h;exact hk _ h
def xE0 (ops:Array Oper)(R:List Nat):List Nat:=R.filter λr=>R.all λs=>!Region.waitsFor .any ops r s
def wpF (P:Program)(ops:Array Oper)(Q:Exit->Act->World->Prop)(C:World->Prop)(E:List Nat):Nat->List Nat->Act->World->Prop
 |0,_,a,w=>Q .normal a w
 |n+1,R,a,w=>∀r∈xE0 ops R,wpOp P ops (NoPanic Q) r (λa' w'=>(qK ops E r=true->C w')/\wpF P ops Q C E n (R.erase r) a' w') a w
theorem xT6 {R1 R2:List Nat}{r:Nat}(h:(R1++r :: R2).Nodup):(R1++r :: R2).erase r=R1++R2:=by
 have h1:r∉R1:=λh'=>(aZ_.1 h).2.2 r h' r (by simp) rfl
 rw[List.erase_append_right _ h1,List.erase_cons_head]
theorem xMb {E:List Nat}:∀(R:List Nat) (a:Act) (w:World),R.Nodup->kz ops R=true->xBi (λr s=>!Region.waitsFor .any ops r s) R=true->wpR P ops Q C E R a w->wpF P ops Q C E R.length R a w
 |[],_,_,_,_,_,h=>h
 |r :: R,a,w,bZ,hc,hp,h=>by
  intro i hi;unfold xE0 at hi;rw[co_,aX_]at hi;have JR:i=r:=by
   rcases ae_.1 hi.1 with h1|h1
   ·exact h1
   ·exfalso;obtain⟨p,o8,hw⟩:=xE9 hc i h1;have:=hi.2 p o8;rw[hw]at this;cases this
  subst JR;rw[List.erase_cons_head];unfold wpR at h;rw[bh_]at bZ;refine wpOp_mono (λa' w' h3=>⟨h3.1,xMb R a' w' bZ.2 (xBd [i] R hc) ?_ h3.2⟩) h;simp only[xBi,aA_]at hp;exact hp.2
theorem zz {E:List Nat}{n:Nat}(R:List Nat)(hn:R.length=n){a:Act}{w:World}(bZ:decide R.Nodup=true)(hc:kz ops R=true)(hp:xBi (λr s=>!Region.waitsFor .any ops r s) R=true)(h:wpR P ops Q C E R a w):wpF P ops Q C E n R a w:=by
 subst hn;exact xMb R a w (of_decide_eq_true bZ) hc hp h
def QnF (P:Program)(ops:Array Oper)(Q:Exit->Act->World->Prop)(C:World->Prop)(E:List Nat)(n:Nat)(rest:List Nat)(b:Bool):Exit->Act->World->Prop
 |.normal,a,w=>(b=true->C w)/\wpF P ops Q C E n rest a w
 |.panic _,_,_=>False
 |e,a,w=>Q e a w
theorem yE3 {E R rest:List Nat}{n r:Nat}{o:Oper}{a:Act}{w:World}(b:Bool)(hr:ops[r]?=some o)(hb:qK ops E r=b)(he:R.erase r=rest)(h:wpList P ops (QnF P ops Q C E n rest b) [o] a w):
  wpOp P ops (NoPanic Q) r (λa' w'=>(qK ops E r=true->C w')/\wpF P ops Q C E n (R.erase r) a' w') a w:=by
 subst he;unfold wpOp;simp only[hr];unfold wpList at h;have hl:LetsOut (QnF P ops Q C E n (R.erase r) b)->LetsOut (NoPanic Q):=λ⟨a,w,h⟩=>⟨a,w,h⟩
 have hk:∀a' w',wpList P ops (QnF P ops Q C E n (R.erase r) b) [] a' w'->(qK ops E r=true->C w')/\wpF P ops Q C E n (R.erase r) a' w':=λa' w' h'=>by
  rw[hb];exact h'
 split
 ·rename_i hw;rw[if_pos hw]at h;rcases h with h|⟨h1,h2⟩
  ·refine .inl ?_;unfold Oper.wp at *;generalize (execOp a.eval o).run P w=r at *;cases r with
   |ok n w'=>
    cases n <;> simp only[Oper.upon]at h⊢
    case value u=>exact hk _ _ h
    case skip=>exact hk _ _ h
    case defer d=>exact hk _ _ h
    case enter f args=>
     refine Calls.mono h λe w'' he=>?_
     cases e with
     |returned u=>exact hk _ _ he
     |panicked c=>exact he
     |outgrown=>exact hl he
    case row row args=>exact Rows.mono h λu w'' he=>hk _ _ he
   |halt x w'=>cases x <;> simp only[Oper.upon]at h⊢<;> exact h
  ·exact .inr ⟨h1,hl h2⟩
 ·rename_i hw;rw[if_neg hw]at h;exact hk _ _ h
theorem yV {E R rest:List Nat}{n r:Nat}{a:Act}{w:World}(b:Bool)(hlt:decide (r<ops.size)=true)(hb:qK ops E r=b)(he:R.erase r=rest)(h:wpList P ops (QnF P ops Q C E n rest b) (zW ops [r]) a w):
  wpOp P ops (NoPanic Q) r (λa' w'=>(qK ops E r=true->C w')/\wpF P ops Q C E n (R.erase r) a' w') a w:=
 yE3 b (o:=ops.getD r default) (by simp[of_decide_eq_true hlt]) hb he h
theorem kG {E R:List Nat}{n r:Nat}{a:Act}{w:World}(hr:xE0 ops R=[r])
  (h1:wpOp P ops (NoPanic Q) r (λa' w'=>(qK ops E r=true->C w')/\wpF P ops Q C E n (R.erase r) a' w') a w):wpF P ops Q C E (n+1) R a w:=by
 intro i hi;rw[hr,ac_]at hi;subst hi;exact h1
theorem qC {E R:List Nat}{n r s:Nat}{a:Act}{w:World}(hr:xE0 ops R=[r,s])
  (h1:wpOp P ops (NoPanic Q) r (λa' w'=>(qK ops E r=true->C w')/\wpF P ops Q C E n (R.erase r) a' w') a w)
  (h2:wpOp P ops (NoPanic Q) s (λa' w'=>(qK ops E s=true->C w')/\wpF P ops Q C E n (R.erase s) a' w') a w):wpF P ops Q C E (n+1) R a w:=by
 intro i hi;rw[hr]at hi;rcases ae_.1 hi with rfl|hi
 ·exact h1
 ·rw[ac_]at hi;subst hi;exact h2
def vH (o:Oper):Bool:=match o.op with
 |.call c=>(match c.callee with|.builtin .len=>false|.builtin .min=>false|_=>true)
 |.convert ..=>false
 |_=>kr o
theorem xKj {o:Oper}{ρ:Operand->Value}{w w':World}{f:FuncId}{args:Array Value}(hc:vH o=false)(h:(execOp ρ o).run P w=.ok (.enter f args) w'):False:=by
 obtain⟨d,op,ty,pos,af,g⟩:=o;cases op
 case call c=>
  obtain⟨callee,xs,ats⟩:=c;cases callee with
  |builtin b=>
   cases b <;> simp only[vH,Bool.true_eq_false]at hc
   ·exact vf (s:=Builtin.len_ ats ty (xs.map ρ)) h
   ·exact vf (s:=Builtin.min_ ats ty (xs.map ρ)) h
  |invoke r n=>simp[vH]at hc
  |value x=>simp[vH]at hc
 case convert s t x=>exact vf h
 all_goals exact xDp (by simpa only[vH]using hc) h
theorem xHy {e:Nat}{o:Oper}{K:Act->Prop}{K':Act->World->Prop}{a:Act}{w:World}(he:ops[e]?=some o)(bH:vH o=false)(hC:C w)(hk:∀a',K a'->K' a' w)(h:qOp P ops C e K a):
  wpOp P ops (NoPanic Q) e K' a w:=by
 unfold qOp at h;unfold wpOp;simp only[he]at h⊢;split
 ·rename_i hw;rw[if_pos hw]at h;refine .inl ?_;obtain⟨v,hv,hn⟩:=h;have h1:=hv w hC;unfold Oper.quietAt at h1;unfold Oper.wp;generalize hr:(execOp a.eval o).run P w=r at *;cases r with
  |ok n w'=>
   cases n <;> simp only[Oper.quietUpon]at h1 <;> simp only[Oper.upon]
   case value u=>obtain⟨rfl,rfl⟩:=h1;exact hk _ hn
   case skip=>obtain⟨rfl,rfl⟩:=h1;exact hk _ hn
   case enter f args=>
    exfalso;exact xKj bH hr
  |halt x w'=>exact h1.elim
 ·rename_i hw;rw[if_neg hw]at h;exact hk _ h
def xK6 (ops:Array Oper)(E R:List Nat):Bool:=
 Region.noSelect ops&&decide ((E++R).Nodup)&&decide (E.length+R.length=ops.size)&&((List.range ops.size).all λi=>E.contains i||R.contains i)
 && E.all (uR ops E)&&xBi (λy e=>!Region.waitsFor .any ops y e&&xAd ops y e) E
 && R.all (uR ops (E++R))&&xBi (λr s=>!Region.waitsFor .any ops r s) R
 && (R.all λr=>E.all λy=>xAd ops y r)
 && (E.all λe=>match ops[e]? with|some o=>!vH o|none=>false)
theorem xV7 {E R:List Nat}(hB:xK6 ops E R=true):∀(n:Nat) (L:Array Bool) (a:Act) (w:World),L.size=ops.size->xGo ops L ->
  (E.filter (unl L)).length+(R.filter (unl L)).length=n->(E.filter (unl L)≠[]->C w) ->
  wpQuiet P ops C (λa'=>wpF P ops Q C E (R.filter (unl L)).length (R.filter (unl L)) a' w) (zW ops (E.filter (unl L))) a->wpAny P .any ops (NoPanic Q) n L a w:=by
 simp only[xK6,aA_,decide_eq_true_eq,aX_]at hB;obtain⟨⟨⟨⟨⟨⟨⟨⟨⟨fm,bZ⟩,ao⟩,mU⟩,te⟩,mv⟩,tf⟩,fO⟩,th⟩,mV⟩:=hB;have g7:=Region.noSelect_spec fm;have i8:=kj mv;have iV:=kj fO;have F8:E.Nodup:=(aZ_.1 bZ).1;have KZ:R.Nodup:=(aZ_.1 bZ).2.1;have wX:∀x,x∈E->x∈R->False:=λx h1 h2=>(aZ_.1 bZ).2.2 x h1 x h2 rfl
 have bU:∀(l:List Nat) (e:Nat),uR ops l e=true->∃o,ops[e]?=some o/\∀x∈o.after,Region.binds .any x=true->x.on∈l/\x.on≠e:=by
  intro l e h;unfold uR at h;split at h
  ·rename_i o ho;refine⟨o,ho,λx hx hb=>?_⟩;have h1:=(aD_.1 h) x hx;simp only[hb,dt_,cV_,aA_,ba_,bne_iff_ne]at h1;exact h1
  ·cases h
 have i9:∀y e,xAd ops y e=true->Region.waitsFor .any ops e y=false->∃oy oe,ops[y]?=some oy/\ops[e]?=some oe/\oy.apart ops oe=true:=by
  intro y e h hw;unfold xAd at h;rw[hw,cV_]at h;split at h
  ·rename_i oy oe h1 h2;exact⟨oy,oe,h1,h2,h⟩
  ·cases h
 have K4:∀x,x∈E->x<ops.size:=λx hx=>by
  obtain⟨ox,td,_⟩:=bU E x (te _ hx);exact(i_ td).1
 have RB:∀x,x∈R->x<ops.size:=λx hx=>by
  obtain⟨ox,td,_⟩:=bU (E++R) x (tf _ hx);exact(i_ td).1
 have nV:∀(L:Array Bool) (l:List Nat) (x:Nat),x∈l.filter (unl L)↔x∈l/\L.getD x true=false:=λL l x=>by
  rw[co_];simp only[unl,bj_]
 intro n;induction n with
 |zero=>
  intro L a w aI aT hn _ h;have K5:E.filter (unl L)=[]:=bn_ (by omega);have F9:R.filter (unl L)=[]:=bn_ (by omega);rw[K5,F9]at h;refine⟨?_,?_⟩
  ·rw[dp_];intro i hi;obtain⟨h1,o,ho,_⟩:=mem_ready.1 hi;have hlt:=(i_ ho).1;have hc:=mU i (bW_.2 hlt);simp only[bI_,ba_]at hc;rcases hc with hc|hc
   ·have:i∈E.filter (unl L):=(nV L E i).2 ⟨hc,h1⟩;rw[K5]at this;cases this
   ·have:i∈R.filter (unl L):=(nV L R i).2 ⟨hc,h1⟩;rw[F9]at this;cases this
  ·exact h
 |succ n ih=>
  intro L a w aI aT hn RC h;have wY:Region.ready .any ops L≠[]:=by
   cases hE':E.filter (unl L) with
   |cons e T=>
    have he:=(nV L E e).1 (by rw[hE'];simp);obtain⟨o,ho,j_⟩:=bU E e (te e he.1);have lV:=i8.filter (p:=unl L);rw[hE']at lV;have:e∈Region.ready .any ops L:=mem_ready.2 ⟨he.2,o,ho,λx hx hb=>by
     obtain⟨si,F_⟩:=j_ x hx hb;cases hlx:L.getD x.on false with
     |true=>rfl
     |false=>
      exfalso;have Ew:x.on∈E.filter (unl L):=(nV L E _).2 ⟨si,getD_in (by rw[aI];exact K4 _ si) hlx⟩;rw[hE']at Ew;rcases ae_.1 Ew with h1|h1
      ·exact F_ h1
      ·have h2:=(ca_.1 lV).1 _ h1;simp only[aA_,bj_]at h2;rw[kH ho hx hb rfl]at h2;cases h2.1⟩
    intro h0;rw[h0]at this;cases this
   |nil=>
    cases hR':R.filter (unl L) with
    |nil=>rw[hE',hR']at hn;simp at hn
    |cons r rest=>
     have hr:=(nV L R r).1 (by rw[hR'];simp);obtain⟨o,ho,j_⟩:=bU (E++R) r (tf r hr.1);have lV:=iV.filter (p:=unl L);rw[hR']at lV;have:r∈Region.ready .any ops L:=mem_ready.2 ⟨hr.2,o,ho,λx hx hb=>by
      obtain⟨si,F_⟩:=j_ x hx hb;cases hlx:L.getD x.on false with
      |true=>rfl
      |false=>
       exfalso;rcases aj_.1 si with h1|h1
       ·have:x.on∈E.filter (unl L):=(nV L E _).2 ⟨h1,getD_in (by rw[aI];exact K4 _ h1) hlx⟩;rw[hE']at this;cases this
       ·have Ew:x.on∈R.filter (unl L):=(nV L R _).2 ⟨h1,getD_in (by rw[aI];exact RB _ h1) hlx⟩;rw[hR']at Ew;rcases ae_.1 Ew with h3|h3
        ·exact F_ h3
        ·have h4:=(ca_.1 lV).1 _ h3;simp only[bj_]at h4;rw[kH ho hx hb rfl]at h4;cases h4⟩
     intro h0;rw[h0]at this;cases this
  refine⟨λh0=>absurd h0 wY,λi hi=>?_⟩;obtain⟨Ex,oi,lW,hall⟩:=mem_ready.1 hi;have mW:=(i_ lW).1;have eE:xGo ops (L.setIfInBounds i true):=λj oj hj hl e he hb=>by
   by_cases hij:i=j
   ·subst hij;have:oj=oi:=as_ (hj.symm.trans lW);subst this;exact getD_set_true (hall e he hb)
   ·rw[getD_set_ne false hij]at hl;exact getD_set_true (aT j oj hj hl e he hb)
  have hc:=mU i (bW_.2 mW);simp only[bI_,ba_]at hc;rcases hc with hc|hc
  ·
   have k_:i∈E.filter (unl L):=(nV L E i).2 ⟨hc,Ex⟩;obtain⟨E1,E2,bI⟩:=db_ k_;have C3:i∉R:=λh'=>wX i hc h'
   have lV:=i8.filter (p:=unl L);rw[bI]at lV h;have cN:∀x∈E1,∃ox,ops[x]?=some ox/\ox.apart ops oi=true:=by
    intro x hx;have h2:=(cu_.1 lV).2.2 x hx i (by simp);simp only[aA_,bj_]at h2;have RD:L.getD x true=false:=((nV L E x).1 (by rw[bI];simp[hx])).2;obtain⟨oy,oe,h3,h4,h5⟩:=i9 x i h2.2 (zF hi RD);have:oe=oi:=as_ (h4.symm.trans lW);subst this;exact⟨oy,h3,h5⟩
   have hq:=xC0 lW g7 E1 E2 a cN h;have g_:=xE6 (by rw[aI];exact mW) F8 bI;have K6:=ku (L:=L) C3;have ti:C w:=RC (by rw[bI];simp);have bH:vH oi=false:=by
    have:=mV i hc;rw[lW]at this;simpa using this
   refine xHy lW bH ti (λa' h'=>?_) hq;refine ih (L.setIfInBounds i true) a' w (by simpa using aI) eE ?_ (λ_=>ti) ?_
   ·rw[g_,K6];rw[bI]at hn;simp only[af_,av_]at hn⊢;omega
   ·rw[g_,K6];exact h'
  ·
   have RE:i∉E:=λh'=>wX i h' hc
   have k_:i∈R.filter (unl L):=(nV L R i).2 ⟨hc,Ex⟩;obtain⟨R1,R2,bI⟩:=db_ k_;have cN:∀x∈E.filter (unl L),∃ox,ops[x]?=some ox/\ox.apart ops oi=true:=by
    intro x hx;have tj:=(nV L E x).1 hx;have h2:=th i hc x tj.1;obtain⟨oy,oe,h3,h4,h5⟩:=i9 x i h2 (zF hi tj.2);have:oe=oi:=as_ (h4.symm.trans lW);subst this;exact⟨oy,h3,h5⟩
   have Zw:i∈xE0 ops (R.filter (unl L)):=by
    unfold xE0;rw[co_,aX_];refine⟨k_,λs hs=>?_⟩;rw[zF hi ((nV L R s).1 hs).2];rfl
   have cX:(R.filter (unl L)).length=(R1++R2).length+1:=by rw[bI];simp;omega
   have Qk:(R.filter (unl L)).erase i=R1++R2:=by
    rw[bI];exact xT6 (by rw[<-bI];exact KZ.filter _)
   have h1:wpQuiet P ops C (λa'=>wpOp P ops (NoPanic Q) i (λa' w'=>(qK ops E i=true->C w')/\wpF P ops Q C E (R1++R2).length (R1++R2) a' w') a' w) (zW ops (E.filter (unl L))) a:=by
    refine zG (λa'' pd=>?_) _ _ h;rw[cX]at pd;have:=pd i Zw;rw[Qk]at this;exact this
   have h2:=xGk lW g7 (E.filter (unl L)) a cN h1;have g_:=ku (L:=L) RE;have K6:=xE6 (by rw[aI];exact mW) KZ bI;have mw:E.filter (unl L)≠[]->qK ops E i=true:=by
    intro hne;cases hq:qK ops E i with
    |true=>rfl
    |false=>
     exfalso;unfold qK at hq;simp only[Bool.not_eq_false',aX_]at hq;obtain⟨e,he⟩:=cR_ _ hne;have wi:=(nV L E e).1 he;have h4:=xBe aT ops.size i e (λo ho=>by
      have:o=oi:=as_ (ho.symm.trans lW);subst this;exact hall) (hq e wi.1)
     rw[getD_both wi.2]at h4;cases h4
   refine wpOp_mono (λa' w' h3=>?_) h2;refine ih (L.setIfInBounds i true) a' w' (by simpa using aI) eE ?_ (λhne=>?_) ?_
   ·rw[g_,K6];rw[cX]at hn;omega
   ·rw[g_]at hne;exact(kL _ _ h3) (mw hne)
   ·rw[g_,K6];exact zG (λa'' pd=>pd.2) _ _ h3
theorem zS {id:Nat}{a:Act}{w:World}(E R:List Nat)(n:Nat)(C:World->Prop)(hm:P.follows .mixedOrders=true)(hB:xK6 ops E R=true)(hn:R.length=n)(hC:C w.drew)
  (h:wpQuiet P ops C (λa'=>wpF P ops Q C E n R a' w.drew) (zW ops E) a):(Code.region id ops true).wp P Q a w:=by
 refine wp_region_noPanic (wp_region_any hm ?_);have C4:=hB;simp only[xK6,aA_,decide_eq_true_eq,aX_]at hB;obtain⟨⟨⟨⟨⟨⟨⟨⟨⟨fm,bZ⟩,ao⟩,mU⟩,te⟩,mv⟩,tf⟩,fO⟩,th⟩,mV⟩:=hB;have hlt:∀l i,uR ops l i=true->i<ops.size:=by
  intro l i mU;unfold uR at mU;split at mU
  ·rename_i o ho;exact(i_ ho).1
  ·cases mU
 have hall:E.filter (unl (Array.replicate ops.size false))=E:=by
  rw[bA_];intro i hi;simp[unl,hlt E i (te i hi)]
 have Ey:R.filter (unl (Array.replicate ops.size false))=R:=by
  rw[bA_];intro i hi;simp[unl,hlt _ i (tf i hi)]
 refine xV7 C4 ops.size (Array.replicate ops.size false) a w.drew (by simp) (λj oj _ hl=>by rw[getD_replicate_false]at hl;cases hl) (by rw[hall,Ey];exact ao) (λ_=>hC) ?_;rw[hall,Ey,hn];exact h
theorem xV3 {o:Oper}(h:kr o=false):vH o=false:=by
 unfold vH;split
 ·rename_i c hc;unfold kr at h;rw[hc]at h;cases h
 ·rfl
 ·exact h
theorem xp {id:Nat}{a:Act}{w:World}(E R:List Nat)(C:World->Prop)(hm:P.follows .mixedOrders=true)(hB:mixB ops E R=true)(hE:(E.all λe=>match ops[e]? with|some o=>!kr o|none=>false)=true)(hC:C w.drew)
  (h:wpQuiet P ops C (λa'=>wpR P ops Q C E R a' w.drew) (zW ops E) a):(Code.region id ops true).wp P Q a w:=by
 simp only[mixB,aA_]at hB;obtain⟨⟨⟨⟨⟨⟨⟨⟨⟨⟨fm,bZ⟩,ao⟩,mU⟩,te⟩,mv⟩,tf⟩,fO⟩,pe⟩,th⟩,_⟩:=hB;have aT:(E.all λe=>match ops[e]? with|some o=>!vH o|none=>false)=true:=by
  rw[aX_]at hE⊢;intro e he;have h1:=hE e he;split at h1
  ·rw[xV3 (by simpa using h1)];rfl
  ·cases h1
 refine zS E R R.length C hm (by simp only[xK6,aA_];exact⟨⟨⟨⟨⟨⟨⟨⟨⟨fm,bZ⟩,ao⟩,mU⟩,te⟩,mv⟩,tf⟩,fO⟩,th⟩,aT⟩) rfl hC ?_;exact zG (λa' h3=>zz R rfl (decide_eq_true (aZ_.1 (of_decide_eq_true bZ)).2.1) pe fO h3) _ _ h
def Qn (P:Program)(ops:Array Oper)(Q:Exit->Act->World->Prop)(C:World->Prop)(E rest:List Nat)(b:Bool):Exit->Act->World->Prop
 |.normal,a,w=>(b=true->C w)/\wpR P ops Q C E rest a w
 |.panic _,_,_=>False
 |e,a,w=>Q e a w
theorem uW {E rest:List Nat}{r:Nat}{o:Oper}{a:Act}{w:World}(b:Bool)(hr:ops[r]?=some o)(hb:qK ops E r=b)(h:wpList P ops (Qn P ops Q C E rest b) [o] a w):wpR P ops Q C E (r :: rest) a w:=by
 unfold wpR wpOp;simp only[hr];unfold wpList at h;have hl:LetsOut (Qn P ops Q C E rest b)->LetsOut (NoPanic Q):=λ⟨a,w,h⟩=>⟨a,w,h⟩
 have hk:∀a' w',wpList P ops (Qn P ops Q C E rest b) [] a' w'->(qK ops E r=true->C w')/\wpR P ops Q C E rest a' w':=λa' w' h'=>by
  rw[hb];exact h'
 split
 ·rename_i hw;rw[if_pos hw]at h;rcases h with h|⟨h1,h2⟩
  ·refine .inl ?_;unfold Oper.wp at *;generalize (execOp a.eval o).run P w=r at *;cases r with
   |ok n w'=>
    cases n <;> simp only[Oper.upon]at h⊢
    case value u=>exact hk _ _ h
    case skip=>exact hk _ _ h
    case defer d=>exact hk _ _ h
    case enter f args=>
     refine Calls.mono h λe w'' he=>?_
     cases e with
     |returned u=>exact hk _ _ he
     |panicked c=>exact he
     |outgrown=>exact hl he
    case row row args=>exact Rows.mono h λu w'' he=>hk _ _ he
   |halt x w'=>cases x <;> simp only[Oper.upon]at h⊢<;> exact h
  ·exact .inr ⟨h1,hl h2⟩
 ·rename_i hw;rw[if_neg hw]at h;exact hk _ _ h
theorem xB {E:List Nat}:∀(R:List Nat) (a:Act) (w:World),(R.all λr=>!qK ops E r&&decide (r<ops.size))=true->wpList P ops (NoPanic Q) (zW ops R) a w->wpR P ops Q C E R a w
 |[],_,_,_,h=>h
 |r :: R,a,w,hn,h=>by
  rw[cW_,aA_]at hn;obtain⟨az,aA⟩:=hn;rw[aA_,bj_,decide_eq_true_eq]at az;have hr:ops[r]?=some (ops.getD r default):=by simp[az.2]
  unfold wpR wpOp;simp only[hr];unfold zW at h;rw[au_]at h;unfold wpList at h;have hk:∀a' w',wpList P ops (NoPanic Q) (zW ops R) a' w'->(qK ops E r=true->C w')/\wpR P ops Q C E R a' w':=λa' w' h'=>
   ⟨(λh1=>by rw[az.1]at h1;cases h1),xB R a' w' aA h'⟩
  split
  ·rename_i hw;rw[if_pos hw]at h;exact h.imp (λh=>Oper.wp_mono hk h) id
  ·rename_i hw;rw[if_neg hw]at h;exact hk _ _ h
end
theorem o_:(∀(ops:Array Oper) (R:List Nat),zW ops R=R.map λi=>ops.getD i default)/\(∀(f:Nat->Oper) (a:Nat) (l:List Nat),(a :: l).map f=f a :: l.map f)/\(∀f:Nat->Oper,([]:List Nat).map f=[])/\(∀(xs:Array Oper) (i:Nat) (d:Oper),xs.getD i d=xs[i]?.getD d)/\(∀(l:List Oper) (i:Nat),l.toArray[i]?=l[i]?)/\(∀(a:Oper) (l:List Oper),(a :: l)[0]?=some a)/\(∀(a:Oper) (l:List Oper) (i:Nat),(a :: l)[i+1]?=l[i]?)/\(∀a b:Oper,(some a).getD b=a):=
 ⟨λ_ _=>rfl,λ_ _ _=>rfl,λ_=>rfl,λ_ _ _=>Array.getD_eq_getD_getElem? ..,λ_ _=>ah_ ..,λ_ _=>rfl,λ_ _ _=>rfl,λ_ _=>rfl⟩
end Go.Proofs.YtegfbhdkenkkdaaGreatDoor
namespace Go.Proofs.YtegfbhdkenkkdaaGreatDoor
open Go Go.RowKit Go.Proofs Tryz
def qG (c:UInt8):Bool:=decide ((c.toNat:Int)<32)||decide ((c.toNat:Int)=127)
def vh (s:List UInt8)(most:Int):Int:=if most<(s.length:Int)then 5 else if s.any qG then 6 else 0
def qw (n lo hi e:Int):Int:=if n<lo\/hi<n then e else 0
theorem uv {k a b}(h:a=b):Ending.returned (.int k a)=.returned (.int k b):=by rw[h]
theorem vu (s:ByteArray):s.data.toList.length=s.size:=rfl
theorem xXe (s:ByteArray)(k)(h:k<s.size):s.data.toList.take (k+1)=s.data.toList.take k++[s[k]]:=by
 rw[am_ (by simpa using h)];rfl
theorem yA8 (s:ByteArray)(k)(h:k<s.size):s[k]∈s.data.toList:=by
 have e:s[k]=s.data.toList[k]'(by simpa using h):=rfl;rw[e];exact bb_ _
theorem xO6 {s most}(h:most<(s.length:Int)):vh s most=5:=if_pos h
theorem xGt {s most}(h:(s.length:Int)<=most)(b:s.any qG=true):vh s most=6:=by
 unfold vh;rw[if_neg (by omega),if_pos b]
theorem xU2 {s most}(h:(s.length:Int)<=most)(b:s.any qG=false):vh s most=0:=by
 unfold vh;rw[if_neg (by omega),if_neg (by simp[b])]
theorem xKu (n lo hi e w):
  Calls prog 277 #[.int .i64 n,.int .i64 lo,.int .i64 hi,.int .i64 e] w λr w'=>r=.returned (.int .i64 (qw n lo hi e))/\w=w':=by
 by_cases h1:n<lo
 ·have hf:=h_ (show qw n lo hi e=e from if_pos (.inl h1));go_enter func277,ntmps277;go_wp2;go_ret;exact⟨uv hf.symm,rfl⟩
 ·by_cases h2:hi<n
  ·have hf:=h_ (show qw n lo hi e=e from if_pos (.inr h2));go_enter func277,ntmps277;go_wp2;go_ret;exact⟨uv hf.symm,rfl⟩
  ·have hf:=h_ (show qw n lo hi e=0 from if_neg (by omega));go_enter func277,ntmps277;go_wp2;go_ret;exact⟨uv hf.symm,rfl⟩
theorem xHu (c):qG c=true↔(c.toNat:Int)<32\/(c.toNat:Int)=127:=by simp[qG]
theorem yC2 {s:ByteArray}{k}(hlt:k<s.size)(hb:(s.data.toList.take k).any qG=false)(hc:¬ ((s[k].toNat:Int)<32\/(s[k].toNat:Int)=127)):
  (s.data.toList.take (k+1)).any qG=false:=by
 have:qG s[k]=false:=by
  cases h:qG s[k] with
  |false=>rfl
  |true=>exact absurd ((xHu _).1 h) hc
 rw[xXe s k hlt,List.any_append,hb];simp[this]
theorem yC3 {s:ByteArray}{k}(hlt:k<s.size)(hc:(s[k].toNat:Int)<32\/(s[k].toNat:Int)=127):s.data.toList.any qG=true:=
 dY_.2 ⟨s[k],yA8 s k hlt,(xHu _).2 hc⟩
theorem yDn {s:ByteArray}{k}(hlt:¬ k<s.size)(hb:(s.data.toList.take k).any qG=false):s.data.toList.any qG=false:=by
 rwa [ar_ (by rw[vu];omega)]at hb
theorem xM6 (s most w)(hs:s.size<=maxLen):
  Calls prog 274 #[.string s,.int .i64 most] w λr w'=>r=.returned (.int .i64 (vh s.data.toList most))/\w=w':=by
 unfold maxLen at hs;by_cases hm:most<(s.size:Int)
 ·have hf:=h_ (xO6 (s:=s.data.toList) hm);go_enter func274,ntmps274;go_wp2;go_ret;exact⟨uv hf.symm,rfl⟩
 ·go_enter func274,ntmps274;go_wp2;go_loop [12] (λi=>∃k:Nat,k<=s.size/\i=.int .i64 k/\(s.data.toList.take k).any qG=false) (λi=>s.size-(intOf i).toNat)
  case atStart=>exact⟨0,aV_ _,rfl,rfl⟩
  case round=>
   obtain⟨k,hk,rfl,hb⟩:=hrel;by_cases hlt:k<s.size
   ·have HB:=h_ hb;clear hb;by_cases h1:(s[k].toNat:Int)<32
    ·have hf:=h_ (xGt (s:=s.data.toList) hm (yC3 hlt (.inl h1)));go_wp2;go_ret;exact⟨uv hf.symm,rfl⟩
    ·by_cases h2:(s[k].toNat:Int)=127
     ·have hf:=h_ (xGt (s:=s.data.toList) hm (yC3 hlt (.inr h2)));have C5:((s[k].toNat:Int)==127)=true:=beq_iff_eq.2 h2;have H2:=h_ h2;clear h2;go_wp2;go_ret;exact⟨uv hf.symm,rfl⟩
     ·have hn:=h_ (yC2 hlt HB.out (by omega));have C5:((s[k].toNat:Int)==127)=false:=beq_eq_false_iff_ne.2 h2;clear h2;go_wp2;go_round
      case rel=>exact⟨k+1,by omega,by go_num,hn.out⟩
      case measure=>simp[intOf];omega
   ·have hf:=h_ (xU2 (s:=s.data.toList) hm (yDn hlt hb));clear hb;go_wp2;go_ret;exact⟨uv hf.symm,rfl⟩
theorem gA (w:World)(o):(w.alloc o).heap.size=w.heap.size+1/\(w.alloc o).os=w.os/\(w.alloc o).tape=w.tape/\(w.alloc o).output=w.output/\(w.alloc o).heap[w.heap.size]?=some o/\∀k:Nat,k<w.heap.size->(w.alloc o).heap[k]?=w.heap[k]?:=
 ⟨by simp,rfl,rfl,rfl,by rw[show (w.alloc o).heap=w.heap.push o from rfl];simp,λk h=>by rw[show (w.alloc o).heap=w.heap.push o from rfl,cc_,if_neg (eb_ h)]⟩
theorem gS (w:World)(b i v):(w.setCell ⟨b,i,none⟩ v).heap.size=w.heap.size/\(w.setCell ⟨b,i,none⟩ v).os=w.os/\(w.setCell ⟨b,i,none⟩ v).tape=w.tape/\(w.setCell ⟨b,i,none⟩ v).output=w.output/\(∀c e,w.heap[b]?=some (.cells c e (0,0))->(w.setCell ⟨b,i,none⟩ v).heap[b]?=some (.cells (c.setIfInBounds i v) e (0,0)))/\∀k:Nat,k≠b->(w.setCell ⟨b,i,none⟩ v).heap[k]?=w.heap[k]?:=
 ⟨by simp,rfl,rfl,rfl,λc e h=>heap_setCell_same w b i c e v h,λk h=>heap_setCell_other w _ k v h⟩
theorem gR (w:World)(g cs):(w.setRow g cs).heap.size=w.heap.size/\(w.setRow g cs).os=w.os/\(w.setRow g cs).tape=w.tape/\(w.setRow g cs).output=w.output/\(∀c e f,w.heap[g]?=some (.cells c e f)->(w.setRow g cs).heap[g]?=some (.cells cs e f))/\∀k:Nat,k≠g->(w.setRow g cs).heap[k]?=w.heap[k]?:=
 ⟨by simp,rfl,rfl,rfl,λc e f h=>setRow_heap w g c cs e f h,λk h=>setRow_other w g k cs h⟩
theorem gP (w:World)(g o):(w.putObj g o).heap.size=w.heap.size/\(w.putObj g o).os=w.os/\(w.putObj g o).tape=w.tape/\(w.putObj g o).output=w.output/\(g<w.heap.size->(w.putObj g o).heap[g]?=some o)/\∀k:Nat,k≠g->(w.putObj g o).heap[k]?=w.heap[k]?:=
 ⟨by simp,rfl,rfl,rfl,λh=>World.putObj_heap_same h,λk h=>aB_ h⟩
theorem gD (w:World):w.drew.heap=w.heap/\w.drew.os=w.os/\w.drew.tape=w.tape/\w.drew.output=w.output:=⟨rfl,rfl,rfl,rfl⟩
theorem gN (w:World)(n):(w.drewN n).heap=w.heap/\(w.drewN n).os=w.os/\(w.drewN n).tape=w.tape/\(w.drewN n).output=w.output:=⟨rfl,rfl,rfl,rfl⟩
theorem bq {B w w'}(h:Below B w w'):w.heap.size<=w'.heap.size/\w'.os=w.os/\w'.tape=w.tape/\w'.output=w.output/\∀k,k<B->w'.heap[k]?=w.heap[k]?:=⟨h.size,h.os,h.tape,h.output,h.block⟩
theorem bi {B w w'}(h:w.heap.size<=w'.heap.size/\w'.os=w.os/\w'.tape=w.tape/\w'.output=w.output/\∀k,k<B->w'.heap[k]?=w.heap[k]?):Below B w w':=⟨h.2.1,h.2.2.1,h.2.2.2.1,h.1,h.2.2.2.2⟩
theorem cq (w:World)(b i):w.cell? ⟨b,i,none⟩=match w.heap[b]? with|some (.cells c _ _)=>c[i]?|_=>none:=by
 simp only[World.cell?];cases w.heap[b]? with
 |none=>rfl
 |some x=>cases x <;> rfl
theorem fq (w:World)(b i):w.frozen? ⟨b,i,none⟩=match w.heap[b]? with|some (.cells _ _ (lo,hi))=>decide (lo<=i)&&decide (i<hi)|_=>false:=rfl
theorem hq {p:Prop}(h:Hid p):p:=h.out
attribute [grind! .] gA gS gR gP gD gN
attribute [grind →] bq hq
attribute [grind ←] bi
attribute [grind =] cq fq
def Id32:Type:={ l:List UInt8 // l.length=32 }
instance:Inhabited Id32:=⟨⟨List.replicate 32 0,by simp⟩⟩
instance:DecidableEq Id32:=inferInstanceAs (DecidableEq { l:List UInt8 // l.length=32 })
def xl (x:Id32):List Value:=x.1.map λb=>.int .u8 b.toNat
theorem xz (x):(xl x).length=32:=by simp[xl,x.2]
theorem xNk (x i)(h:i<32):(xl x)[i]?=some (.int .u8 (x.1[i]'(by rw[x.2];exact h)).toNat):=by
 simp[xl,ak_ (show i<x.1.length by rw[x.2];exact h)]
theorem uS (x):∀v∈xl x,v.oneCell'=true:=by
 intro v hv;simp only[xl,az_]at hv;obtain⟨b,_,rfl⟩:=hv;rfl
def xm (w:World)(a:Addr)(n:Nat):Array Value:=((List.range n).map λj=>(w.cell? (a.add j)).getD undef).toArray
def xo (w:World)(a:Addr)(n:Nat):Bool:=(List.range n).all λj=>(w.cell? (a.add j)).isSome
theorem uG (w a n):xo w a n=true↔∀j,j<n->∃v,w.cell? (a.add j)=some v:=by
 simp[xo,cX_]
theorem zf {P}(w a n)(h:xo w a n=true):Sem.run P (loadCells a n) w=.ok (xm w a n) w:=by
 have:=run_loadCells_list (P:=P) w a ((List.range n).map λj=>(w.cell? (a.add j)).getD undef) (λj v hj=>by
  rw[bk_]at hj;by_cases hlt:j<n
  ·rw[cT_ hlt]at hj;obtain⟨u,hu⟩:=(uG w a n).1 h j hlt;simp only[aU_,hu,cr_,aR_]at hj;rw[hu,hj]
  ·rw[aI_ (by simp;omega)]at hj;simp at hj)
 simpa[xm]using this
theorem xLf {P}(t n)(hA:∀w,Sem.run P (isAgg t) w=.ok true w)(hs:∀w,Sem.run P (Go.sizeOf t) w=.ok n w)(w a)(h:xo w a n=true):
  Sem.run P (Instr.loadAt t (.pointer (some a))) w=.ok (.agg (xm w a n)) w:=by
 simp[Instr.loadAt,Instr.sureAddr,loadVar,hA,hs,zf w a n h]
theorem xW {w a}{cs:List Value}(h:∀j v,cs[j]?=some v->w.cell? (a.add j)=some v):
  xo w a cs.length=true/\xm w a cs.length=cs.toArray:=by
 have hj:∀j (hlt:j<cs.length),w.cell? (a.add j)=some cs[j]:=λj hlt=>h j _ (ak_ hlt)
 refine⟨(uG _ _ _).2 λj hlt=>⟨_,hj j hlt⟩,?_⟩;unfold xm;congr 1;apply dq_
 ·simp
 ·intro i h1 h2;simp[hj i h2]
@[simp] theorem xh (w) (a) (n):xo w.drew a n=xo w a n:=rfl
@[simp] theorem xf (w) (a) (n):xm w.drew a n=xm w a n:=rfl
@[simp] theorem xa (w) (a) (n k):xo (w.drewN k) a n=xo w a n:=by
 simp only[xo,bT_]
@[simp] theorem x9 (w) (a) (n k):xm (w.drewN k) a n=xm w a n:=by
 simp only[xm,bT_]
theorem yCm {w w' a n}(hc:∀j,j<n->w'.cell? (a.add j)=w.cell? (a.add j)):xo w' a n=xo w a n/\xm w' a n=xm w a n:=by
 constructor
 ·rw[bR_,uG,uG];exact⟨λh j hj=>by obtain⟨v,hv⟩:=h j hj;exact⟨v,by rw[<-hc j hj];exact hv⟩,λh j hj=>by obtain⟨v,hv⟩:=h j hj;exact⟨v,by rw[hc j hj];exact hv⟩⟩
 ·unfold xm;congr 1;apply bJ_;intro j hj;rw[hc j (by simpa using hj)]
theorem xC8 {w a n}(o)(h:xo w a n=true):xo (w.alloc o) a n=true:=by
 rw[uG]at h⊢;intro j hj;obtain⟨v,hv⟩:=h j hj;exact⟨v,bv_ _ hv⟩
theorem xBz {w a n}(o)(h:xo w a n=true):xm (w.alloc o) a n=xm w a n:=by
 rw[uG]at h;unfold xm;congr 1;apply bJ_;intro j hj;obtain⟨v,hv⟩:=h j (by simpa using hj);rw[hv,bv_ _ hv]
theorem yz (w:World)(cs t j):(w.alloc (.cells cs t)).cell? ⟨w.heap.size,j,none⟩=cs[j]?:=World.cell?_alloc_mark w cs t (0,0) j
theorem xJa (w:World)(cs t off n)(h:off+n<=cs.size):xo (w.alloc (.cells cs t)) ⟨w.heap.size,off,none⟩ n=true:=by
 rw[uG];intro j hj;rw[an_,yz];exact⟨cs[off+j]'(by omega),bd_ (by omega)⟩
theorem xJ1 (w:World)(cs t off n)(h:off+n<=cs.size):xm (w.alloc (.cells cs t)) ⟨w.heap.size,off,none⟩ n=cs.extract off (off+n):=by
 unfold xm;apply dL_
 ·simp;omega
 ·intro i h1 h2;have hi:i<n:=by simpa using h1
  have hlt:off+i<cs.size:=by omega
  simp only[dv_,bS_,dM_,Array.getElem_extract];rw[an_,yz,bd_ hlt];rfl
theorem x8.ok {w a n}(h:xo w a n=true)(z:x8 w):xo z.1 a n=true:=by
 rw[uG]at h⊢;intro j hj;obtain⟨v,hv⟩:=h j hj;exact⟨v,z.cell hv⟩
theorem x8.rd {w a n}(h:xo w a n=true)(z:x8 w):xm z.1 a n=xm w a n:=by
 rw[uG]at h;unfold xm;congr 1;apply bJ_;intro j hj;obtain⟨v,hv⟩:=h j (by simpa using hj);rw[hv,z.cell hv]
def xM (w:World)(g n:Nat):Bool:=match w.heap[g]? with
 |some (.cells c _ fr)=>c.size==n&&fr==(0,0)
 |_=>false
theorem uZ {w g n}(h:xM w g n=true):∃c t,w.heap[g]?=some (.cells c t (0,0))/\c.size=n:=by
 unfold xM at h;split at h
 ·rename_i c t fr hg;simp only[aA_,beq_iff_eq]at h;obtain⟨h1,rfl⟩:=h;exact⟨c,t,hg,h1⟩
 ·simp at h
theorem xHz {P}(t n)(hi:(P.info? t).map (·.size)=some n)(w g cells)(h:xM w g n=true)(hn:cells.size=n)(h1:cells.all (·.oneCell')=true):
  Sem.run P (Instr.storeAt t (.pointer (some ⟨g,0,none⟩)) (.agg cells)) w=.ok () (w.setRow g cells):=by
 obtain⟨c,t',hg,hc⟩:=uZ h;simp[Instr.storeAt,Instr.sureAddr,run_storeVar_row w g t' t c cells hg (by rw[hn];exact hi) (by omega) h1]
@[simp] theorem xu (w) (g n):xM w.drew g n=xM w g n:=rfl
theorem zQ (w:World)(c t g n)(hg:g=w.heap.size)(hn:c.size=n):xM (w.alloc (.cells c t)) g n=true:=by
 subst hg;unfold xM;rw[heap_alloc_new];simp[hn]
theorem qJ {w g n}(o)(h:xM w g n=true):xM (w.alloc o) g n=true:=by
 obtain⟨c,t,hg,hc⟩:=uZ h;have hlt:g<w.heap.size:=(i_ hg).1;unfold xM;rw[heap_alloc_old (w:=w) (o:=o) (h:=hlt),hg];simp[hc]
@[simp] theorem xq (w:World) (g) (cs):w.drew.setRow g cs=(w.setRow g cs).drew:=rfl
theorem xx (w:World)(c cs t g)(hg:g=w.heap.size):(w.alloc (.cells c t)).setRow g cs=w.alloc (.cells cs t):=by
 subst hg;unfold World.setRow World.alloc;congr 1;apply da_;intro k;simp only[bK_,cc_];by_cases hk:k=w.heap.size
 ·subst hk;simp
 ·have bG:¬ w.heap.size=k:=λh=>hk h.symm
  simp[hk,bG]
theorem xt (w:World)(o cs g)(hg:g<w.heap.size):(w.alloc o).setRow g cs=(w.setRow g cs).alloc o:=by
 unfold World.setRow World.alloc;congr 1;apply da_;intro k;simp only[bK_,cc_,Array.size_modify];by_cases hk:k=w.heap.size
 ·subst hk;simp[eb_ hg]
 ·simp[hk]
theorem xOs (xs:List UInt8)(i)(h:i<xs.length)(w):Sem.run prog (part 5 (xs.map λb=>Value.int .u8 b.toNat).toArray i) w=.ok (.int .u8 (xs[i]'h).toNat) w:=by
 simp[part,isAgg5,h]
theorem yBj (xs ys:List UInt8)(e)(hin:∀(a b:Int) (w:World),(Op.equalIn e 5 (.int .u8 a) (.int .u8 b)).run prog w=.ok (a==b) w):
  ∀(l:List Nat) (w:World),(∀i∈l,i<xs.length/\i<ys.length) ->
  Sem.run prog (forIn l ((none,()):Option Bool×Unit) λi __s=>do
   let a <-part 5 (xs.map λb=>Value.int .u8 b.toNat).toArray (i*1)
   let b <-part 5 (ys.map λb=>Value.int .u8 b.toNat).toArray (i*1)
   let r <-Op.equalIn e 5 a b
   if (!r)=true then pure (ForInStep.done (some false,()))else pure (ForInStep.yield (none,()))) w
  = .ok (if l.all (λi=>xs[i]! == ys[i]!)then (none,())else (some false,())) w
 |[],w,_=>by simp
 |i :: l,w,h=>by
  obtain⟨h1,h2⟩:=h i (by simp);rw[List.forIn_cons];simp only[aE_,bz_,xOs xs i h1,xOs ys i h2,aw_,hin];have e1:xs[i]! = xs[i]:=by simp[h1]
  have e2:ys[i]! = ys[i]:=by simp[h2]
  by_cases hq:xs[i]=ys[i]
  ·have ih:=yBj xs ys e hin l w (λj hj=>h j (by simp[hj]));simp only[hq,beq_self_eq_true,dt_,Bool.false_eq_true,if_false,bY_,aw_];simp only[bz_]at ih;rw[ih,cW_,e1,e2,hq];simp
  ·have hz:((xs[i].toNat:Int)==(ys[i].toNat:Int))=false:=by
    rw[beq_eq_false_iff_ne];intro hh;exact hq (dA_.1 (by exact_mod_cast hh))
   simp only[hz,dN_,if_true,bY_,aw_];rw[cW_,e1,e2];simp[hq]
theorem xQf (xs ys:List UInt8)(hx:xs.length=32)(hy:ys.length=32):((List.range' 0 32 1).all (λi=>xs[i]! == ys[i]!))=decide (xs=ys):=by
 rw[bR_];simp only[aX_,dS_,beq_iff_eq,decide_eq_true_eq];constructor
 ·intro h;apply dq_ (by omega);intro i h1 h2;have:=h i (by omega);simpa[h1,h2]using this
 ·rintro rfl i _;rfl
theorem eqArr (xs ys:List UInt8)(hx:xs.length=32)(hy:ys.length=32)(e)(hin:∀(a b:Int) (w:World),(Op.equalIn e 5 (.int .u8 a) (.int .u8 b)).run prog w=.ok (a==b) w)(w):
  (Op.equalIn (e+1) 33 (.agg (xs.map λb=>Value.int .u8 b.toNat).toArray) (.agg (ys.map λb=>Value.int .u8 b.toNat).toArray)).run prog w=.ok (decide (xs=ys)) w:=by
 have hu:prog.underlying 33=some (.array 32 5):=by kernel_rfl
 have:=yBj xs ys e hin (List.range' 0 32 1) w (λi hi=>by simp only[dS_]at hi;omega);rw[xQf xs ys hx hy]at this;simp only[Op.equalIn,aE_,run_underlying hu,aw_,sizeOf5,cL_,Std.Legacy.Range.size];simp only[dI_,Nat.add_one_sub_one,Nat.div_one,Nat.reduceAdd];rw[this];by_cases h:xs=ys <;> simp[h]
theorem xI8 (x y w):(Op.equalIn 10000 33 (.agg (xl x).toArray) (.agg (xl y).toArray)).run prog w=.ok (decide (x=y)) w:=by
 have hin:∀(a b:Int) (w:World),(Op.equalIn 9999 5 (.int .u8 a) (.int .u8 b)).run prog w=.ok (a==b) w:=λa b w=>run_equalIn_int w 9998 5 .u8 .u8 a b underlying5
 have h:=eqArr x.1 y.1 x.2 y.2 9999 hin w;have hd:decide (x.1=y.1)=decide (x=y):=decide_eq_decide.2 ⟨λh=>Subtype.ext h,λh=>congrArg _ h⟩;rw[hd]at h;exact h
theorem xDy (x y w):(binOp .eql 33 (.agg (xl x).toArray) (.agg (xl y).toArray)).run prog w=.ok (.bool (decide (x=y))) w:=by
 rw[run_eql_struct,xI8];rfl
theorem yEi (x y w):(binOp .neq 33 (.agg (xl x).toArray) (.agg (xl y).toArray)).run prog w=.ok (.bool (!decide (x=y))) w:=by
 rw[run_neq_struct,xI8];rfl
theorem zb:prog.eqGuardType prog.depth 33=false:=by kernel_rfl
theorem eqId:EqlAt prog 33 (λx:Id32=>.agg (xl x).toArray) (λx y=>decide (x=y)):=⟨xDy,GuardAt.agg _ zb⟩
def yp (P:Program)(t:Nat)(w:World)(v:Value):Result Next:=Sem.run P (do pure (Next.value (<-Instr.loadAt t v))) w
def yi (P:Program)(t:Nat)(w:World)(p v:Value):Result Next:=Sem.run P (do Instr.storeAt t p v;pure Next.skip) w
theorem yf {P t n}(hA:∀w,Sem.run P (isAgg t) w=.ok true w)(hs:∀w,Sem.run P (Go.sizeOf t) w=.ok n w)(w a)(h:xo w a n=true):
  yp P t w (.pointer (some a))=.ok (.value (.agg (xm w a n))) w:=by
 unfold yp;rw[aE_,xLf t n hA hs w a h];rfl
def xy (n:Nat)(cells:Array Value):Bool:=cells.size==n&&cells.all (·.oneCell')
theorem zU {n cells}(hn:cells.size=n)(h1:cells.all (·.oneCell')=true):xy n cells=true:=by
 unfold xy;rw[h1,hn];simp
theorem yo {P t n}(hi:(P.info? t).map (·.size)=some n)(w g cells)(h:xM w g n=true)(h2:xy n cells=true):
  yi P t w (.pointer (some ⟨g,0,none⟩)) (.agg cells)=.ok .skip (w.setRow g cells):=by
 unfold yi;unfold xy at h2;rw[aA_,beq_iff_eq]at h2;rw[aE_,xHz t n hi w g cells h h2.1 h2.2];rfl
theorem xL (ρ:Operand->Value)(d x)(ty:TypeId)(pos af g w):
  Sem.run prog (execOp ρ ⟨d,.load 33 x,ty,pos,af,g⟩) w=yp prog 33 w (ρ x):=rfl
theorem xI (ρ:Operand->Value)(d x y)(ty:TypeId)(pos af g w):
  Sem.run prog (execOp ρ ⟨d,.store 33 x y,ty,pos,af,g⟩) w=yi prog 33 w (ρ x) (ρ y):=rfl
theorem zm (w a)(h:xo w a 32=true):yp prog 33 w (.pointer (some a))=.ok (.value (.agg (xm w a 32))) w:=
 yf isAgg33 sizeOf33 w a h
theorem zA (w g cells)(h:xM w g 32=true)(h2:xy 32 cells=true):
  yi prog 33 w (.pointer (some ⟨g,0,none⟩)) (.agg cells)=.ok .skip (w.setRow g cells):=yo (by kernel_rfl) w g cells h h2
theorem vo (x):(xl x).toArray.size=32:=by simp[xz]
theorem xYg (x):(xl x).toArray.all (·.oneCell')=true:=by
 rw[aD_];intro v hv;exact uS x v (by simpa using hv)
theorem kX (x):xy 32 (xl x).toArray=true:=zU (vo x) (xYg x)
theorem k9 (w:World)(x t):xm (w.alloc (.cells (xl x).toArray t)) ⟨w.heap.size,0,none⟩ 32=(xl x).toArray:=by
 rw[xJ1 w _ t 0 32 (by rw[vo];omega)];apply ec_;simp[ar_ (dJ_ (xz x))]
theorem j7 (w:World)(x t):xo (w.alloc (.cells (xl x).toArray t)) ⟨w.heap.size,0,none⟩ 32=true:=xJa w _ t 0 32 (by rw[vo];omega)
def uq:Id32:=⟨List.replicate 32 0,by simp⟩
theorem xCk (ρ:Operand->Value)(d)(ty:TypeId)(pos af g w):
  Sem.run prog (execOp ρ ⟨d,.alloc 33,ty,pos,af,g⟩) w=.ok (.value (.pointer (some ⟨w.heap.size,0,none⟩))) (w.alloc (.cells (xl uq).toArray 33)):=by kernel_rfl
theorem xA1 (ρ:Operand->Value)(d)(ty:TypeId)(pos af g w):
  Sem.run prog (execOp ρ ⟨d,.build 33 #[],ty,pos,af,g⟩) w=.ok (.value (.agg (xl uq).toArray)) w:=by kernel_rfl
theorem xv (w c t g n):xM (w.alloc (.cells c t)) g n=if g=w.heap.size then c.size==n else xM w g n:=by
 by_cases h:g=w.heap.size
 ·rw[if_pos h];subst h;unfold xM;rw[heap_alloc_new];simp
 ·rw[if_neg h];have e:(w.alloc (.cells c t)).heap[g]?=w.heap[g]?:=by
   show (w.heap.push _)[g]?=_
   rw[cc_,if_neg h]
  unfold xM;rw[e]
def kK (c:Array Value)(off n:Nat):Array Value:=((List.range n).map λj=>(c[off+j]?).getD undef).toArray
def kO (c:Array Value)(off n:Nat):Bool:=(List.range n).all λj=>(c[off+j]?).isSome
theorem xk (w c t b off n):xo (w.alloc (.cells c t)) ⟨b,off,none⟩ n=if b=w.heap.size then kO c off n else xo w ⟨b,off,none⟩ n:=by
 split
 ·rename_i h;subst h;unfold xo kO;simp only[an_,yz]
 ·rename_i h;unfold xo;have e:∀j,(w.alloc (.cells c t)).cell? ⟨b,off+j,none⟩=w.cell? ⟨b,off+j,none⟩:=λj=>by
   unfold World.cell?;have e1:(w.alloc (.cells c t)).heap[b]?=w.heap[b]?:=by
    show (w.heap.push _)[b]?=_
    rw[cc_,if_neg h]
   rw[e1]
  simp only[an_,e]
theorem xj (w c t b off n):xm (w.alloc (.cells c t)) ⟨b,off,none⟩ n=if b=w.heap.size then kK c off n else xm w ⟨b,off,none⟩ n:=by
 split
 ·rename_i h;subst h;unfold xm kK;simp only[an_,yz]
 ·rename_i h;unfold xm;have e:∀j,(w.alloc (.cells c t)).cell? ⟨b,off+j,none⟩=w.cell? ⟨b,off+j,none⟩:=λj=>by
   unfold World.cell?;have e1:(w.alloc (.cells c t)).heap[b]?=w.heap[b]?:=by
    show (w.heap.push _)[b]?=_
    rw[cc_,if_neg h]
   rw[e1]
  simp only[an_,e]
theorem xF1 {c off n}(h:off+n<=c.size):kO c off n=true:=by
 unfold kO;rw[aX_];intro j hj;rw[bd_ (by have:=bW_.1 hj;omega)];rfl
theorem jg {c off n}(h:off+n<=c.size):kK c off n=c.extract off (off+n):=by
 unfold kK;apply dL_
 ·simp;omega
 ·intro i h1 h2;have hi:i<n:=by simpa using h1
  simp only[dv_,bS_,dM_,Array.getElem_extract];rw[bd_ (by omega)];rfl
theorem xJc (x):kO (xl x).toArray 0 32=true:=xF1 (by rw[vo];omega)
theorem xJ3 (x):kK (xl x).toArray 0 32=(xl x).toArray:=by
 rw[jg (by rw[vo];omega)];apply ec_;simp[ar_ (dJ_ (xz x))]
section
theorem and31 (x):0<=bits .and .u64 x 31/\bits .and .u64 x 31<=31:=by
 have h:((BitVec.ofInt 64 x &&& BitVec.ofInt 64 31).toNat)<=31:=by
  rw[BitVec.toNat_and];exact ad_ Nat.and_le_right (by decide)
 have e:bits .and .u64 x 31=IntKind.u64.wrap ((BitVec.ofInt 64 x &&& BitVec.ofInt 64 31).toNat:Int):=rfl;rw[e,IntKind.wrap_u64];omega
theorem xW8 (x k):∃r:Int,∀W:World,Calls prog 284 #[.int .u32 x,.int .i64 k] W λe W'=>e=.returned (.int .u32 r)/\W=W':=by
 apply Exists.intro;intro W;obtain⟨h0,h1⟩:=and31 (IntKind.u64.wrap k);have h2:(0:Int)<=32-bits .and .u64 (IntKind.u64.wrap k) 31:=by omega
 have h3:(32-bits .and .u64 (IntKind.u64.wrap k) 31)<=32:=by omega
 have h4:(bits .and .u64 (IntKind.u64.wrap k) 31)<=32:=by omega
 go_enter func284,ntmps284;go_wp2;go_ret;exact⟨rfl,rfl⟩
noncomputable def xGz (x k:Int):Int:=Classical.choose (xW8 x k)
theorem xZw (x k W):Calls prog 284 #[.int .u32 x,.int .i64 k] W λe W'=>e=.returned (.int .u32 (xGz x k))/\W=W':=cI_ (xW8 x k) W
theorem xOm (x k)(hk:0<=k/\k<=100)(W):Calls prog 249 #[.int .u32 x,.int .i64 k] W λe W'=>e=.returned (.int .u32 (xGz x (-k)))/\W=W':=by
 obtain⟨Ga,hk1⟩:=hk;go_enter func249,ntmps249;go_wp2_with (go_at_call 284;refine(xZw _ _ _).mono ?_;rintro e w' ⟨rfl,rfl⟩);go_ret;exact⟨rfl,rfl⟩
theorem rot_q (x k)(hk:0<=k/\k<=100)(n)(W:World):Calls prog 249 #[.int .u32 x,.int .i64 k] (W.drewN n) λe W'=>e=.returned (.int .u32 (xGz x (-k)))/\∃m,W'=W.drewN m:=
 (xOm x k hk (W.drewN n)).mono λ_ _ ⟨he,hm⟩=>⟨he,n,hm.symm⟩
theorem yEj (x k)(hk:0<=k/\k<=100)(n m)(W:World):Calls prog 249 #[.int .u32 x,.int .i64 k] (W.drewN (n+m)) λe W'=>e=.returned (.int .u32 (xGz x (-k)))/\∃j,W'=W.drewN (n+j):=
 (xOm x k hk (W.drewN (n+m))).mono λ_ _ ⟨he,hm⟩=>⟨he,m,hm.symm⟩
@[simp] theorem jq (w) (k g n):xM (w.drewN k) g n=xM w g n:=rfl
@[simp] theorem vF (w:World) (k g) (cs):(w.drewN k).setRow g cs=(w.setRow g cs).drewN k:=rfl
theorem xS {B a w}(h:Below B a w)(n):Below B a (w.drewN n):=⟨h.os,h.tape,h.output,h.size,h.block⟩
structure W8 where
 a:Int
 b:Int
 c:Int
 d:Int
 e:Int
 f:Int
 g:Int
 i:Int
def encW (v:W8):List Value:=[.int .u32 v.a,.int .u32 v.b,.int .u32 v.c,.int .u32 v.d,.int .u32 v.e,.int .u32 v.f,.int .u32 v.g,.int .u32 v.i]
theorem kw (ρ:Operand->Value)(d x)(ty:TypeId)(pos af g w):
  Sem.run prog (execOp ρ ⟨d,.load 348 x,ty,pos,af,g⟩) w=yp prog 348 w (ρ x):=rfl
theorem kY (ρ:Operand->Value)(d x y)(ty:TypeId)(pos af g w):
  Sem.run prog (execOp ρ ⟨d,.store 348 x y,ty,pos,af,g⟩) w=yi prog 348 w (ρ x) (ρ y):=rfl
theorem xS3 (w a)(h:xo w a 8=true):yp prog 348 w (.pointer (some a))=.ok (.value (.agg (xm w a 8))) w:=
 yf isAgg348 sizeOf348 w a h
theorem xZe (w g cells)(h:xM w g 8=true)(h2:xy 8 cells=true):
  yi prog 348 w (.pointer (some ⟨g,0,none⟩)) (.agg cells)=.ok .skip (w.setRow g cells):=yo (by kernel_rfl) w g cells h h2
theorem xUt (a b c d e f g i):kO #[a,b,c,d,e,f,g,i] 0 8=true:=rfl
theorem xUp (a b c d e f g i):kK #[a,b,c,d,e,f,g,i] 0 8=#[a,b,c,d,e,f,g,i]:=rfl
theorem xZm (a b c d e f g i):((#[a,b,c,d,e,f,g,i]:Array Value).size==8)=true:=rfl
theorem xWo (a b c d e f g i):xy 8 #[.int .u32 a,.int .u32 b,.int .u32 c,.int .u32 d,.int .u32 e,.int .u32 f,.int .u32 g,.int .u32 i]=true:=by simp[xy,Value.oneCell']
attribute [local go_sem ↓] kw kY
attribute [local go_sem] xS3 xZe xUt xUp xZm xWo xh xf xa x9 xu xv xk xj xq xx xt jq vF
theorem uf {P fn p ty n}(h:fn.results=#[.cell p ty])(hA:∀w,Sem.run P (isAgg ty) w=.ok true w)(hs:∀w,Sem.run P (Go.sizeOf ty) w=.ok n w)
  (tmps) (w) (a) (cs) (hp:tmps.getD p undef=.pointer (some a)) (aD:xo w a n=true) (eR:xm w a n=cs):
  (results fn tmps).run P w=.ok (.agg cs) w:=by
 have nW:tmps[p]?.getD undef=.pointer (some a):=by simpa using hp
 have hl:(loadVar ty a).run P w=.ok (.agg cs) w:=by
  simp[loadVar,hA,hs,zf w a n aD,eR]
 simp[results,h,nW,asAddr,hl]
theorem ex8 {Q:W8->Prop}{a b c d e f g i}(h:Q ⟨a,b,c,d,e,f,g,i⟩):∃r,Q r:=⟨_,h⟩
theorem xRb (v k x):∃r:W8,∀W:World,Calls prog 250 #[.agg (encW v).toArray,.int .u32 k,.int .u32 x] W λe W'=>e=.returned (.agg (encW r).toArray)/\Below W.heap.size W W':=by
 obtain⟨a,b,c,d,e,f,g,i⟩:=v;apply ex8;intro W;have hs:IntKind.u32.signed=false:=rfl;unfold encW;go_enter func250,ntmps250;go_wp2;go_quiet ((go_at_call 249;exact rot_q _ _ (by decide) _ _));go_wp2;go_quiet ((go_at_call 249;exact yEj _ _ (by decide) _ _ _));go_wp2;refine bodyPost_ret (uf rfl isAgg348 sizeOf348 _ _ ⟨W.heap.size+1,0,none⟩ _ rfl ?_ ?_) rfl ⟨rfl,?_⟩
 ·go_simp
 ·go_simp;exact⟨rfl,rfl,rfl,rfl,rfl,rfl,rfl,rfl⟩
 ·exact xS (((ab_ _ _).alloc (aa_ _) _).alloc (by simp) _) _
end
section
attribute [local go_sem ↓] kw kY
attribute [local go_sem] xS3 xZe xUt xUp xZm xWo xh xf xa x9 xu xv xk xj xq xx xt jq vF
noncomputable def xBx (v:W8)(k x:Int):W8:=Classical.choose (xRb v k x)
theorem xMo (v k x W):Calls prog 250 #[.agg (encW v).toArray,.int .u32 k,.int .u32 x] W λe W'=>e=.returned (.agg (encW (xBx v k x)).toArray)/\Below W.heap.size W W':=cI_ (xRb v k x) W
theorem xWb (v u):∃r:W8,∀W:World,Calls prog 251 #[.agg (encW v).toArray,.agg (encW u).toArray] W λe W'=>e=.returned (.agg (encW r).toArray)/\Below W.heap.size W W':=by
 obtain⟨a,b,c,d,e,f,g,i⟩:=v;obtain⟨a',b',c',d',e',f',g',i'⟩:=u;apply ex8;intro W;unfold encW;go_enter func251,ntmps251;go_wp2;refine bodyPost_ret (uf rfl isAgg348 sizeOf348 _ _ ⟨W.heap.size+2,0,none⟩ _ rfl ?_ ?_) rfl ⟨rfl,?_⟩
 ·go_simp
 ·go_simp;exact⟨rfl,rfl,rfl,rfl,rfl,rfl,rfl,rfl⟩
 ·exact((((ab_ _ _).alloc (aa_ _) _).alloc (by simp) _).alloc (by simp;omega) _)
noncomputable def xWc (v u:W8):W8:=Classical.choose (xWb v u)
theorem yA4 (v u W):Calls prog 251 #[.agg (encW v).toArray,.agg (encW u).toArray] W λe W'=>e=.returned (.agg (encW (xWc v u)).toArray)/\Below W.heap.size W W':=cI_ (xWb v u) W
theorem xWi:∃r:W8,∀W:World,Calls prog 205 #[] W λe W'=>e=.returned (.agg (encW r).toArray)/\Below W.heap.size W W':=by
 apply ex8;intro W;unfold encW;go_enter func205,ntmps205;go_wp2;refine bodyPost_ret (uf rfl isAgg348 sizeOf348 _ _ ⟨W.heap.size,0,none⟩ _ rfl ?_ ?_) rfl ⟨rfl,?_⟩
 ·go_simp
 ·go_simp;exact⟨rfl,rfl,rfl,rfl,rfl,rfl,rfl,rfl⟩
 ·exact b_ _ _
noncomputable def xFa:W8:=Classical.choose xWi
theorem yAr (W):Calls prog 205 #[] W λe W'=>e=.returned (.agg (encW xFa).toArray)/\Below W.heap.size W W':=cI_ xWi W
end
section
structure Sk (K:Nat->Int)(w:World):Prop where
 tab:∀t,t<64->w.cell? ⟨2,t,none⟩=some (.int .u32 (K t))
theorem Sk.lt {K:Nat->Int}{w}(h:Sk K w):2<w.heap.size:=block_lt_of_cell (h.tab 0 (by omega))
theorem Sk.below {K:Nat->Int}{B w w'}(h:Sk K w)(hb:Below B w w')(hB:w.heap.size<=B):Sk K w':=
 ⟨λt ht=>(hb.cell (p:=⟨2,t,none⟩) (by have:=h.lt;simp;omega)).trans (h.tab t ht)⟩
theorem fitsI {ws:List Int}{n}(h:ws.length=n):xy n (ws.map λx=>Value.int .u32 x).toArray=true:=
 zU (by simp[h]) (by rw[aD_];intro v hv;simp at hv;obtain⟨x,_,rfl⟩:=hv;rfl)
def encX (ws:List Int):List Value:=ws.map λx=>.int .u32 x
structure PrSt (K:Nat->Int)(W0:World)(h v:W8)(ws:List Int)(W:World):Prop where
 bel:Below W0.heap.size W0 W
 bh:W.heap[W0.heap.size]?=some (.cells (encW h).toArray 348 (0,0))
 bw:W.heap[W0.heap.size+1]?=some (.cells (encX ws).toArray 354 (0,0))
 br:xM W (W0.heap.size+2) 8=true
 bv:W.heap[W0.heap.size+3]?=some (.cells (encW v).toArray 348 (0,0))
 len:ws.length=16
 k:Sk K W
 gl:2<W0.heap.size
theorem yEo (v):kO (encW v).toArray 0 8=true:=rfl
theorem yEl (v):kK (encW v).toArray 0 8=(encW v).toArray:=rfl
theorem sizeW (v):((encW v).toArray.size==8)=true:=rfl
theorem fitsW (v):xy 8 (encW v).toArray=true:=xWo _ _ _ _ _ _ _ _
attribute [local go_sem] yEo yEl sizeW fitsW
attribute [local go_sem ↓] kw kY
attribute [local go_sem] xS3 xZe xUt xUp xZm xWo xh xf xa x9 xu xv xk xj xq xx xt jq vF
noncomputable def mixF (x y z c:Int):Int:=(c+(bits BinOp.xor IntKind.u32 (bits BinOp.xor IntKind.u32 (xGz x (-7)) (xGz x (-18))) (x/8)+bits BinOp.xor IntKind.u32 (bits BinOp.xor IntKind.u32 (xGz y (-17)) (xGz y (-19))) (y/1024)+z))%4294967296
noncomputable def xDd (K:Nat->Int)(v:W8)(ws:List Int):Nat->W8×List Int
 |0=>(v,ws)
 |t+1=>
  let p:=xDd K v ws t
  let xs:=if t<16 then p.2 else p.2.set (t%16) (mixF (p.2.getD ((t-15)%16) 0) (p.2.getD ((t-2)%16) 0) (p.2.getD ((t-7)%16) 0) (p.2.getD (t%16) 0))
  (xBx p.1 (K t) (xs.getD (t%16) 0),xs)
theorem xAj {W:World}{b T ws}(h:W.heap[b]?=some (.cells (encX ws).toArray T (0,0)))(i)(hi:i<ws.length):W.cell? ⟨b,i,none⟩=some (.int .u32 (ws.getD i 0)):=by
 rw[cell_of_row W b i _ _ _ h];simp[encX,hi]
theorem PrSt.drew {K:Nat->Int}{W0 h v ws W}(s:PrSt K W0 h v ws W):PrSt K W0 h v ws W.drew:=⟨s.bel.drew,s.bh,s.bw,s.br,s.bv,s.len,⟨s.k.tab⟩,s.gl⟩
theorem PrSt.drewN {K:Nat->Int}{W0 h v ws W}(s:PrSt K W0 h v ws W)(n):PrSt K W0 h v ws (W.drewN n):=⟨xS s.bel n,s.bh,s.bw,s.br,s.bv,s.len,⟨λt ht=>s.k.tab t ht⟩,s.gl⟩
theorem PrSt.setW {K:Nat->Int}{W0 h v ws W}(s:PrSt K W0 h v ws W)(i x):PrSt K W0 h v (ws.set i x) (W.setCell ⟨W0.heap.size+1,i,none⟩ (.int .u32 x)):=by
 have ho:∀k,k≠W0.heap.size+1->(W.setCell ⟨W0.heap.size+1,i,none⟩ (.int .u32 x)).heap[k]?=W.heap[k]?:=λk hk=>heap_setCell_other W ⟨W0.heap.size+1,i,none⟩ k _ hk
 refine⟨s.bel.setCell (by simp) _,(ho _ (by omega)).trans s.bh,?_,?_,(ho _ (by omega)).trans s.bv,by simp[s.len],⟨λt ht=>?_⟩,s.gl⟩
 ·rw[heap_setCell_same W _ i _ _ _ s.bw];simp[encX]
 ·have:=s.br;unfold xM at this⊢;rw[ho _ (by omega)];exact this
 ·have:=s.k.tab t ht;unfold World.cell? at this⊢;rw[ho _ (by have:=s.bel.size;have:=s.k.lt;have hl:2<W0.heap.size:=s.gl;simp;omega)];exact this
theorem xK {B a w}(h:Below B a w){g}(hg:B<=g)(cs):Below B a (w.setRow g cs):=
 ⟨h.os,h.tape,h.output,by have:=h.size;simpa[World.setRow]using this,λk hk=>(setRow_other _ _ _ _ (by omega)).trans (h.block k hk)⟩
theorem PrSt.round {K:Nat->Int}{W0 h v u ws W W'}(s:PrSt K W0 h v ws W)(hb:Below W.heap.size W W'):PrSt K W0 h u ws (W'.setRow (W0.heap.size+3) (encW u).toArray):=by
 have hlt:W0.heap.size+3<W.heap.size:=(i_ s.bv).1;have e:∀k,k<W.heap.size->W'.heap[k]?=W.heap[k]?:=λk hk=>hb.block k hk
 have ho:∀k,k<W.heap.size->k≠W0.heap.size+3->(W'.setRow (W0.heap.size+3) (encW u).toArray).heap[k]?=W.heap[k]?:=λk hk hn=>(setRow_other _ _ _ _ hn).trans (e k hk)
 refine⟨xK (s.bel.trans (hb.mono s.bel.size)) (by omega) _,(ho _ (by omega) (by omega)).trans s.bh,(ho _ (by omega) (by omega)).trans s.bw,?_,?_,s.len,⟨λt ht=>?_⟩,s.gl⟩
 ·have:=s.br;unfold xM at this⊢;rw[ho _ (by omega) (by omega)];exact this
 ·exact setRow_heap _ _ _ _ _ _ ((e _ hlt).trans s.bv)
 ·have h1:=s.k.tab t ht;have h2:=s.k.lt;have h3:=s.gl;unfold World.cell? at h1⊢;rw[ho _ h2 (by omega)];exact h1
theorem xD {W b T n cs fr}(h:W.heap[b]?=some (.cells cs T fr))(hn:cs.size=n):xo W ⟨b,0,none⟩ n=true/\xm W ⟨b,0,none⟩ n=cs:=by
 have:=xW (w:=W) (a:=⟨b,0,none⟩) (cs:=cs.toList) (λj v hj=>by
  rw[an_,aq_,cell_of_row W b j _ _ _ h];simpa using hj)
 simpa[hn]using this
theorem PrSt.rowV {K:Nat->Int}{W0 h v ws W W'}(s:PrSt K W0 h v ws W)(hb:Below W.heap.size W W'):xM W' (W0.heap.size+3) 8=true:=by
 have hlt:W0.heap.size+3<W.heap.size:=(i_ s.bv).1;unfold xM;rw[hb.block _ hlt,s.bv];rfl
theorem PrSt.rowR {K:Nat->Int}{W0 h v ws W W'}(s:PrSt K W0 h v ws W)(hb:Below W.heap.size W W'):xM W' (W0.heap.size+2) 8=true:=by
 have hlt:W0.heap.size+3<W.heap.size:=(i_ s.bv).1;have:=s.br;unfold xM at this⊢;rw[hb.block _ (by omega)];exact this
theorem yA (w:World)(o k):(w.alloc o).heap[k]?=if k=w.heap.size then some o else w.heap[k]?:=by
 show (w.heap.push o)[k]?=_
 rw[cc_]
theorem xUq (K:Nat->Int)(v ws)(nX:ws.length=16)(W)(hK:Sk K W)(zs)(hz:zs.size=8):
  PrSt K W v v ws ((((W.alloc (.cells (encW v).toArray 348)).alloc (.cells (encX ws).toArray 354)).alloc (.cells zs 348)).alloc (.cells (encW v).toArray 348)):=by
 have hb:Below W.heap.size W ((((W.alloc (.cells (encW v).toArray 348)).alloc (.cells (encX ws).toArray 354)).alloc (.cells zs 348)).alloc (.cells (encW v).toArray 348)):=
  ((((ab_ _ _).alloc (aa_ _) _).alloc (by simp) _).alloc (by simp;omega) _).alloc (by simp;omega) _
 refine⟨hb,?_,?_,?_,?_,nX,hK.below hb (aa_ _),hK.lt⟩
 ·simp only[yA,al_];rw[if_neg (by omega),if_neg (by omega),if_neg (by omega),if_pos trivial]
 ·simp only[yA,al_];rw[if_neg (by omega),if_neg (by omega),if_pos trivial]
 ·unfold xM;simp only[yA,al_];rw[if_neg (by omega),if_pos trivial];simp[hz]
 ·simp only[yA,al_];rw[if_pos trivial]
theorem xH3 (K:Nat->Int)(v ws)(nX:ws.length=16)(W)(hK:Sk K W):Calls prog 206 #[.agg (encW v).toArray,.agg (encX ws).toArray] W λe W'=>e=.returned (.agg (encW (xWc v (xDd K v ws 64).1)).toArray)/\Below W.heap.size W W':=by
 have HK:=h_ hK;clear hK;go_enter func206,ntmps206;go_wp2;go_loopw [12] (λt wr=>∃k:Nat,k<=64/\t=.int .i64 k/\PrSt K W v (xDd K v ws k).1 (xDd K v ws k).2 wr) (λt _=>64-(intOf t).toNat)
 case atStart=>
  refine⟨0,by omega,rfl,?_⟩;exact xUq K v ws nX W HK.out _ rfl
 case round=>
  obtain⟨k,hk,rfl,hs⟩:=hrel;generalize ax:xDd K v ws k=st at hs;obtain⟨u,xs⟩:=st;have aO:=h_ ax;clear ax;by_cases hlt:k<64
  ·by_cases h16:k<16
   ·have a1:(k:Int)<64:=by omega
    have a2:(k:Int)<16:=by omega
    obtain⟨K7,nY⟩:∃q,q=xs:=⟨_,rfl⟩;obtain⟨w3,bm⟩:∃q,q=wr:=⟨_,rfl⟩;rw[<-bm,<-nY]at hs;have Gb:=h_ nY;have eS:=h_ hs;rw[<-bm];clear hs nY bm;go_upto_region 10 with (fail)
    have g1:=xAj eS.bw (k%16) (by rw[eS.len];omega);obtain⟨x3,ld⟩:∃x,x=K7.getD (k%16) 0:=⟨_,rfl⟩;rw[<-ld]at g1;have pf:=h_ ld;have g2:=eS.k.tab k hlt;have f3:((k:Int)).tmod 16=((k%16:Nat):Int):=by rw[aS_ (by omega)];omega
    have r1:=xD eS.bv (by rfl:(encW u).toArray.size=8);have iw:=h_ r1;have r2:=r1.1;have r3:=r1.2;clear ld r1;refine xp [0,1,2,3,4,5,6,7] [8,9] (λw'=>w'=w3.drew) (by kernel_rfl) (by kernel_rfl) (by kernel_rfl) rfl ?_;simp only[o_]
    repeat (go_big_quiet_step (fail))
    refine wpQuiet_nil ?_;refine xB [8,9] _ _ (by kernel_rfl) ?_;simp only[o_];clear g1 g2 f3 r2 r3;have eT:=eS.drew;generalize w3.drew=w4 at eT⊢;have di:=h_ eT;clear eT;go_wp2_with (go_at_call 250;refine(xMo _ _ _ _).mono ?_;rintro e w5 ⟨rfl,aF⟩;have bu:=di.rowV aF);refine ag_ ?_;have nZ:=di.round (u:=xBx u (K k) x3) (by assumption);have aU:=h_ aF;have K8:=h_ nZ;clear aF nZ bu;generalize w5.setRow (W.heap.size+3) (encW (xBx u (K k) x3)).toArray=w6 at K8⊢;go_wp2;go_roundw
    case rel=>
     refine⟨k+1,by omega,by go_num,?_⟩;have e:xDd K v ws (k+1)=(xBx u (K k) x3,K7):=by
      rw[xDd,aO.out,pf.out];simp only[if_pos h16,Gb.out]
     rw[e];exact K8.out
    case measure=>simp[intOf];omega
   ·have a1:(k:Int)<64:=by omega
    have a2:¬ (k:Int)<16:=by omega
    have c1:∀i,i<16->wr.cell? ⟨W.heap.size+1,i,none⟩=some (.int .u32 (xs.getD i 0)):=λi hi=>xAj hs.bw i (by rw[hs.len];omega)
    have d1:=c1 ((k-15)%16) (by omega);have d2:=c1 ((k-2)%16) (by omega);have e1:IntKind.i64.wrap ((k:Int)-15)=((k-15:Nat):Int):=by rw[dO_ _ (by omega)];omega
    have e2:IntKind.i64.wrap ((k:Int)-2)=((k-2:Nat):Int):=by rw[dO_ _ (by omega)];omega
    have f1:(((k-15:Nat):Int)).tmod 16=(((k-15)%16:Nat):Int):=by rw[aS_ (by omega)];omega
    have f2:(((k-2:Nat):Int)).tmod 16=(((k-2)%16:Nat):Int):=by rw[aS_ (by omega)];omega
    obtain⟨x,hx⟩:∃x,x=xs.getD ((k-15)%16) 0:=⟨_,rfl⟩;obtain⟨y,hy⟩:∃x,x=xs.getD ((k-2)%16) 0:=⟨_,rfl⟩;obtain⟨z,hz⟩:∃x,x=xs.getD ((k-7)%16) 0:=⟨_,rfl⟩;obtain⟨c,hc⟩:∃x,x=xs.getD (k%16) 0:=⟨_,rfl⟩;rw[<-hx]at d1;rw[<-hy]at d2;have wZ:=h_ (And.intro hx (And.intro hy (And.intro hz hc)));clear hx hy hz hc;have HS:=h_ hs;clear hs c1;go_upto_region 6 with (fail)
    go_quiet (fail);go_upto_region 9 with (go_at_call 249;refine(xOm _ _ (by decide) _).mono ?_;rintro e w' ⟨rfl,rfl⟩)
    have cT:=HS.drewN nq;generalize wr.drewN nq=w2 at cT⊢;clear d1 d2 e1 e2 f1 f2;have c1:∀i,i<16->w2.cell? ⟨W.heap.size+1,i,none⟩=some (.int .u32 (xs.getD i 0)):=λi hi=>xAj cT.bw i (by rw[cT.len];omega)
    have d1:=c1 ((k-7)%16) (by omega);have d2:=c1 (k%16) (by omega);have d3:=frozen_of_row w2 (W.heap.size+1) (k%16) _ _ cT.bw;rw[<-wZ.2.2.1]at d1;rw[<-wZ.2.2.2]at d2;have e1:IntKind.i64.wrap ((k:Int)-7)=((k-7:Nat):Int):=by rw[dO_ _ (by omega)];omega
    have f1:(((k-7:Nat):Int)).tmod 16=(((k-7)%16:Nat):Int):=by rw[aS_ (by omega)];omega
    have f2:((k:Int)).tmod 16=((k%16:Nat):Int):=by rw[aS_ (by omega)];omega
    have cF:=h_ cT;clear cT c1;refine xp [0,1,2,3,4,5,6,7,8,9,10,11,12,13,14] [15] (λw'=>w'=w2.drew) (by kernel_rfl) (by kernel_rfl) (by kernel_rfl) rfl ?_;simp only[o_]
    repeat (go_big_quiet_step (fail))
    refine wpQuiet_nil ?_;refine xB [15] _ _ (by kernel_rfl) ?_;simp only[o_];go_wp2;refine ag_ ?_;have eT:=(cF.setW (k%16) (mixF x y z c)).drew;unfold mixF at eT;generalize (w2.setCell _ _).drew=w3 at eT⊢;obtain⟨K7,nY⟩:∃q,q=xs.set (k%16) (mixF x y z c):=⟨_,rfl⟩;have Gb:=h_ nY;unfold mixF at nY;rw[<-nY]at eT;have eS:=h_ eT;clear d1 d2 d3 e1 f1 f2 eT nY;go_upto_region 10 with (fail)
    have g1:=xAj eS.bw (k%16) (by rw[eS.len];omega);obtain⟨x3,ld⟩:∃x,x=K7.getD (k%16) 0:=⟨_,rfl⟩;rw[<-ld]at g1;have pf:=h_ ld;have g2:=eS.k.tab k hlt;have f3:((k:Int)).tmod 16=((k%16:Nat):Int):=by rw[aS_ (by omega)];omega
    have r1:=xD eS.bv (by rfl:(encW u).toArray.size=8);have iw:=h_ r1;have r2:=r1.1;have r3:=r1.2;clear ld r1;refine xp [0,1,2,3,4,5,6,7] [8,9] (λw'=>w'=w3.drew) (by kernel_rfl) (by kernel_rfl) (by kernel_rfl) rfl ?_;simp only[o_]
    repeat (go_big_quiet_step (fail))
    refine wpQuiet_nil ?_;refine xB [8,9] _ _ (by kernel_rfl) ?_;simp only[o_];clear g1 g2 f3 r2 r3;have eT:=eS.drew;generalize w3.drew=w4 at eT⊢;have di:=h_ eT;clear eT;go_wp2_with (go_at_call 250;refine(xMo _ _ _ _).mono ?_;rintro e w5 ⟨rfl,aF⟩;have bu:=di.rowV aF);refine ag_ ?_;have nZ:=di.round (u:=xBx u (K k) x3) (by assumption);have aU:=h_ aF;have K8:=h_ nZ;clear aF nZ bu;generalize w5.setRow (W.heap.size+3) (encW (xBx u (K k) x3)).toArray=w6 at K8⊢;go_wp2;go_roundw
    case rel=>
     refine⟨k+1,by omega,by go_num,?_⟩;have e:xDd K v ws (k+1)=(xBx u (K k) x3,K7):=by
      rw[xDd,aO.out,pf.out];simp only[if_neg h16,Gb.out];rw[wZ.1,wZ.2.1,wZ.2.2.1,wZ.2.2.2]
     rw[e];exact K8.out
    case measure=>simp[intOf];omega
  ·obtain rfl:k=64:=by omega
   have r1:=xD hs.bh (by rfl:(encW v).toArray.size=8);have r2:=xD hs.bv (by rfl:(encW u).toArray.size=8);have K9:=h_ r1;have Wg:=h_ r2;have q1:=r1.1;have q2:=r1.2;have q3:=r2.1;have q4:=r2.2;have HS:=h_ hs;clear hs r1 r2;go_wp2_with (go_at_call 251;refine(yA4 _ _ _).mono ?_;rintro e w5 ⟨rfl,aF⟩;have bu:=HS.rowR aF);have hlt2:W.heap.size+3<wr.heap.size:=(i_ HS.bv).1;have bV:Below W.heap.size W (w5.setRow (W.heap.size+2) (encW (xWc v u)).toArray):=xK (HS.bel.trans (aF.mono HS.bel.size)) (by omega) _;obtain⟨cs,T,aJ,_⟩:=uZ bu;refine bodyPost_ret (uf rfl isAgg348 sizeOf348 _ _ ⟨W.heap.size+2,0,none⟩ _ rfl (xD (setRow_heap _ _ _ _ _ _ aJ) rfl).1 (xD (setRow_heap _ _ _ _ _ _ aJ) rfl).2) rfl ⟨?_,bV⟩;rw[aO.out]
end
section
theorem xHl (ρ:Operand->Value)(d x)(ty:TypeId)(pos af g w):
  Sem.run prog (execOp ρ ⟨d,.load 349 x,ty,pos,af,g⟩) w=yp prog 349 w (ρ x):=rfl
theorem yAl (w a)(h:xo w a 64=true):yp prog 349 w (.pointer (some a))=.ok (.value (.agg (xm w a 64))) w:=
 yf isAgg349 sizeOf349 w a h
theorem xSx (ρ:Operand->Value)(d x)(ty:TypeId)(pos af g w):
  Sem.run prog (execOp ρ ⟨d,.load 354 x,ty,pos,af,g⟩) w=yp prog 354 w (ρ x):=rfl
theorem xPh (ρ:Operand->Value)(d x y)(ty:TypeId)(pos af g w):
  Sem.run prog (execOp ρ ⟨d,.store 354 x y,ty,pos,af,g⟩) w=yi prog 354 w (ρ x) (ρ y):=rfl
theorem yEr (w a)(h:xo w a 16=true):yp prog 354 w (.pointer (some a))=.ok (.value (.agg (xm w a 16))) w:=
 yf isAgg354 sizeOf354 w a h
theorem yE6 (w g cells)(h:xM w g 16=true)(h2:xy 16 cells=true):
  yi prog 354 w (.pointer (some ⟨g,0,none⟩)) (.agg cells)=.ok .skip (w.setRow g cells):=yo (by kernel_rfl) w g cells h h2
theorem xCi (ρ:Operand->Value)(d x)(ty:TypeId)(pos af g w):
  Sem.run prog (execOp ρ ⟨d,.load 269 x,ty,pos,af,g⟩) w=yp prog 269 w (ρ x):=rfl
theorem xB7 (ρ:Operand->Value)(d x y)(ty:TypeId)(pos af g w):
  Sem.run prog (execOp ρ ⟨d,.store 269 x y,ty,pos,af,g⟩) w=yi prog 269 w (ρ x) (ρ y):=rfl
theorem xUv (w a)(h:xo w a 32=true):yp prog 269 w (.pointer (some a))=.ok (.value (.agg (xm w a 32))) w:=
 yf isAgg269 sizeOf269 w a h
theorem xU8 (w g cells)(h:xM w g 32=true)(h2:xy 32 cells=true):
  yi prog 269 w (.pointer (some ⟨g,0,none⟩)) (.agg cells)=.ok .skip (w.setRow g cells):=yo (by kernel_rfl) w g cells h h2
theorem xB8 (ρ:Operand->Value)(d x)(ty:TypeId)(pos af g w):
  Sem.run prog (execOp ρ ⟨d,.load 222 x,ty,pos,af,g⟩) w=yp prog 222 w (ρ x):=rfl
theorem xAb (ρ:Operand->Value)(d x y)(ty:TypeId)(pos af g w):
  Sem.run prog (execOp ρ ⟨d,.store 222 x y,ty,pos,af,g⟩) w=yi prog 222 w (ρ x) (ρ y):=rfl
theorem xP6 (w a)(h:xo w a 16=true):yp prog 222 w (.pointer (some a))=.ok (.value (.agg (xm w a 16))) w:=
 yf isAgg222 sizeOf222 w a h
theorem xOc (w g cells)(h:xM w g 16=true)(h2:xy 16 cells=true):
  yi prog 222 w (.pointer (some ⟨g,0,none⟩)) (.agg cells)=.ok .skip (w.setRow g cells):=yo (by kernel_rfl) w g cells h h2
theorem xPn (ρ:Operand->Value)(d x)(ty:TypeId)(pos af g w):
  Sem.run prog (execOp ρ ⟨d,.load 351 x,ty,pos,af,g⟩) w=yp prog 351 w (ρ x):=rfl
theorem xLu (ρ:Operand->Value)(d x y)(ty:TypeId)(pos af g w):
  Sem.run prog (execOp ρ ⟨d,.store 351 x y,ty,pos,af,g⟩) w=yi prog 351 w (ρ x) (ρ y):=rfl
theorem yCw (w a)(h:xo w a 73=true):yp prog 351 w (.pointer (some a))=.ok (.value (.agg (xm w a 73))) w:=
 yf isAgg351 sizeOf351 w a h
theorem yCh (w g cells)(h:xM w g 73=true)(h2:xy 73 cells=true):
  yi prog 351 w (.pointer (some ⟨g,0,none⟩)) (.agg cells)=.ok .skip (w.setRow g cells):=yo (by kernel_rfl) w g cells h h2
theorem yDc (n):(n=n+1+1)=False:=by simp;omega
theorem yDb (n):(n=n+1+1+1)=False:=by simp;omega
theorem yDa (n):(n=n+1+1+1+1)=False:=by simp;omega
theorem yD9 (n):(n=n+1+1+1+1+1)=False:=by simp;omega
theorem yDs (n):(n+1+1=n)=False:=by simp;omega
theorem yDr (n):(n+1+1+1=n)=False:=by simp;omega
theorem yDq (n):(n+1+1+1+1=n)=False:=by simp;omega
theorem yDp (n):(n+1+1+1+1+1=n)=False:=by simp;omega
attribute [go_sem] yDc yDb yDa yD9 yDs yDr yDq yDp
def encB (l:List UInt8):List Value:=l.map λb=>.int .u8 b.toNat
theorem xF (l):(encB l).length=l.length:=by simp[encB]
theorem qS (l):(encB l).toArray.size=l.length:=by simp[encB]
theorem yBm (l):(encB l).toArray.all (·.oneCell')=true:=by
 rw[aD_];intro v hv;simp only[encB,List.mem_toArray,az_]at hv;obtain⟨b,_,rfl⟩:=hv;rfl
theorem xKb {l n}(h:l.length=n):xy n (encB l).toArray=true:=zU (by rw[qS,h]) (yBm l)
theorem yEp {l n}(h:l.length=n):kO (encB l).toArray 0 n=true:=xF1 (by rw[qS];omega)
theorem yEm {l n}(h:l.length=n):kK (encB l).toArray 0 n=(encB l).toArray:=by
 rw[jg (by rw[qS];omega)];apply ec_;simp[ar_ (show (encB l).length<=n by rw[xF];omega)]
theorem fitsX {l n}(h:l.length=n):xy n (encX l).toArray=true:=fitsI h
theorem xNj (l):(encX l).toArray.size=l.length:=by simp[encX]
theorem xOk (l)(k:Nat)(h:k<64)(hl:l.length=64)(w):Sem.run prog (Instr.index 349 (.agg (encB l).toArray) (.int .i64 k)) w=.ok (.int .u8 (l[k]'(by omega)).toNat) w:=by
 have hu:prog.underlying 349=some (.array 64 5):=by kernel_rfl
 have hp:=xOs l k (by omega) w;simp only[Instr.index,asIntOf,aE_,bY_,aw_,run_underlying hu];rw[if_pos ⟨by omega,by omega⟩];simp only[aE_,sizeOf5,aw_,bz_,be_];exact hp
noncomputable def kQ (cs:List UInt8):Nat->List Int
 |0=>List.replicate 16 0
 |i+1=>(kQ cs i).set (i/4) (bits BinOp.or IntKind.u32 ((kQ cs i).getD (i/4) 0*256%4294967296) (((cs.getD i 0).toNat:Nat):Int))
theorem vG (cs):∀i,(kQ cs i).length=16
 |0=>by simp[kQ]
 |i+1=>by simp[kQ,vG cs i]
structure LdSt (W0:World)(ws:List Int)(W:World):Prop where
 bel:Below W0.heap.size W0 W
 br:xM W (W0.heap.size+1) 16=true
 bw:W.heap[W0.heap.size+2]?=some (.cells (encX ws).toArray 354 (0,0))
theorem LdSt.set {W0 ws W}(s:LdSt W0 ws W)(i x):LdSt W0 (ws.set i x) (W.setCell ⟨W0.heap.size+2,i,none⟩ (.int .u32 x)):=by
 have ho:∀k,k≠W0.heap.size+2->(W.setCell ⟨W0.heap.size+2,i,none⟩ (.int .u32 x)).heap[k]?=W.heap[k]?:=λk hk=>heap_setCell_other W ⟨W0.heap.size+2,i,none⟩ k _ hk
 refine⟨s.bel.setCell (by simp) _,?_,?_⟩
 ·have:=s.br;unfold xM at this⊢;rw[ho _ (by omega)];exact this
 ·rw[heap_setCell_same W _ i _ _ _ s.bw];simp[encX]
theorem xUw (W cs zs T)(hz:zs.size=16):
  LdSt W (List.replicate 16 0) (((W.alloc (.cells cs T)).alloc (.cells zs 354)).alloc (.cells (encX (List.replicate 16 0)).toArray 354)):=by
 refine⟨(((ab_ _ _).alloc (aa_ _) _).alloc (by simp) _).alloc (by simp;omega) _,?_,?_⟩
 ·unfold xM;simp only[yA,al_];rw[if_neg (by omega),if_pos trivial];simp[hz]
 ·simp only[yA,al_];rw[if_pos trivial]
attribute [local go_sem ↓] xHl xSx xPh
attribute [local go_sem] yAl yEr yE6 xh xf xa x9 xu xv xk xj xq xx xt jq vF
theorem xRv (cs)(aJ:cs.length=64)(W):Calls prog 207 #[.agg (encB cs).toArray] W λe W'=>e=.returned (.agg (encX (kQ cs 64)).toArray)/\Below W.heap.size W W':=by
 have h1:=yEp aJ;have h2:=yEm aJ;have hx:=xOk cs;go_enter func207,ntmps207;go_wp2;go_loopw [7] (λt wr=>∃k:Nat,k<=64/\t=.int .i64 k/\LdSt W (kQ cs k) wr) (λt _=>64-(intOf t).toNat)
 case atStart=>exact⟨0,by omega,rfl,xUw W _ _ _ rfl⟩
 case round=>
  obtain⟨k,hk,rfl,hs⟩:=hrel;by_cases hlt:k<64
  ·have a1:(k:Int)<64:=by omega
   have fP:=hx k hlt aJ;have q:=cs[k].toNat_lt;generalize hb:cs[k]=b at fP q;have hl:=vG cs k;have hn:=h_ (show kQ cs (k+1)=(kQ cs k).set (k/4) (bits BinOp.or IntKind.u32 ((kQ cs k).getD (k/4) 0*256%4294967296) (b.toNat:Int)) by rw[kQ];simp[aJ,hlt,hb]);obtain⟨ws,nX⟩:∃q,q=kQ cs k:=⟨_,rfl⟩;rw[<-nX]at hs hl hn;have d1:=xAj hs.bw (k/4) (by omega);have d2:=frozen_of_row wr (W.heap.size+2) (k/4) _ _ hs.bw;have HS:=h_ hs;clear hs hb hx nX hl;go_wp2;go_roundw
   case rel=>
    refine⟨k+1,by omega,by go_num,?_⟩;rw[hn.out];have:=HS.set (k/4) (bits BinOp.or IntKind.u32 (ws.getD (k/4) 0*256%4294967296) (b.toNat:Int));simpa using this
   case measure=>simp[intOf];omega
  ·obtain rfl:k=64:=by omega
   clear hx;have hl:=vG cs 64;obtain⟨ws,nX⟩:∃q,q=kQ cs 64:=⟨_,rfl⟩;rw[<-nX]at hs hl;have w_:=h_ nX;clear nX;have r1:=xD hs.bw (by rw[xNj,hl]:(encX ws).toArray.size=16);have q1:=r1.1;have q2:=r1.2;have q3:=hs.br;have q4:=fitsX hl;have HS:=h_ hs;clear r1 hs;go_wp2;obtain⟨zs,T,pH,_⟩:=uZ q3;have hlt2:W.heap.size+2<wr.heap.size:=(i_ HS.bw).1;have r:=xD (setRow_heap wr (W.heap.size+1) zs (encX ws).toArray T (0,0) pH) (show (encX ws).toArray.size=16 by rw[xNj,hl]);have hb:=xK HS.bel (show W.heap.size<=W.heap.size+1 by omega) (encX ws).toArray;refine bodyPost_ret (uf rfl isAgg354 sizeOf354 _ _ ⟨W.heap.size+1,0,none⟩ (encX ws).toArray rfl ?_ ?_) rfl ⟨by rw[w_.out],hb⟩
   ·exact r.1
   ·exact r.2
end
section
theorem yA5 (xs:List Int)(i)(h:i<xs.length)(w):Sem.run prog (part 330 (xs.map λx=>Value.int .u32 x).toArray i) w=.ok (.int .u32 (xs[i]'h)) w:=by
 simp[part,isAgg330,h]
theorem xRa (a b c d e f g i)(k:Nat)(h:k<8)(w):
  Sem.run prog (Instr.index 388 (.agg #[.int .u32 a,.int .u32 b,.int .u32 c,.int .u32 d,.int .u32 e,.int .u32 f,.int .u32 g,.int .u32 i]) (.int .i64 k)) w=.ok (.int .u32 ([a,b,c,d,e,f,g,i][k]'h)) w:=by
 have hu:prog.underlying 388=some (.array 8 330):=by kernel_rfl
 have hp:=yA5 [a,b,c,d,e,f,g,i] k h w;simp only[Instr.index,asIntOf,aE_,bY_,aw_,run_underlying hu];rw[if_pos ⟨by omega,by omega⟩];simp only[aE_,sizeOf330,aw_,bz_,be_];exact hp
def xO3 (v:W8)(k:Nat):Int:=[v.a,v.b,v.c,v.d,v.e,v.f,v.g,v.i].getD k 0
def digB (x:Int)(j:Nat):UInt8:=UInt8.ofNat ((x/2 ^ (24-8*j))%256).toNat
def digL (v:W8):Nat->List UInt8
 |0=>List.replicate 32 0
 |j+1=>(digL v j).set j (digB (xO3 v (j/4)) (j%4))
theorem vy (v):∀j,(digL v j).length=32
 |0=>by simp[digL]
 |j+1=>by simp[digL,vy v j]
theorem yBp (x j):((digB x j).toNat:Int)=(x/2 ^ (24-8*j))%256:=by
 unfold digB;rw[bO_];have h1:0<=(x/2 ^ (24-8*j))%256:=Int.emod_nonneg _ (by decide);have h2:(x/2 ^ (24-8*j))%256<256:=Int.emod_lt_of_pos _ (by decide);omega
structure DgSt (W0:World)(ds:List UInt8)(W:World):Prop where
 bel:Below W0.heap.size W0 W
 br:xM W (W0.heap.size+1) 32=true
 bw:W.heap[W0.heap.size+2]?=some (.cells (encB ds).toArray 269 (0,0))
theorem DgSt.set {W0 ds W}(s:DgSt W0 ds W)(i x):DgSt W0 (ds.set i x) (W.setCell ⟨W0.heap.size+2,i,none⟩ (.int .u8 x.toNat)):=by
 have ho:∀k,k≠W0.heap.size+2->(W.setCell ⟨W0.heap.size+2,i,none⟩ (.int .u8 x.toNat)).heap[k]?=W.heap[k]?:=λk hk=>heap_setCell_other W ⟨W0.heap.size+2,i,none⟩ k _ hk
 refine⟨s.bel.setCell (by simp) _,?_,?_⟩
 ·have:=s.br;unfold xM at this⊢;rw[ho _ (by omega)];exact this
 ·rw[heap_setCell_same W _ i _ _ _ s.bw];simp[encB]
theorem xVi (W cs zs T)(hz:zs.size=32):
  DgSt W (List.replicate 32 0) (((W.alloc (.cells cs T)).alloc (.cells zs 269)).alloc (.cells (encB (List.replicate 32 0)).toArray 269)):=by
 refine⟨(((ab_ _ _).alloc (aa_ _) _).alloc (by simp) _).alloc (by simp;omega) _,?_,?_⟩
 ·unfold xM;simp only[yA,al_];rw[if_neg (by omega),if_pos trivial];simp[hz]
 ·simp only[yA,al_];rw[if_pos trivial]
attribute [local go_sem ↓] xCi xB7
attribute [local go_sem] xUv xU8 xh xf xa x9 xu xv xk xj xq xx xt jq vF
theorem xVh (v W):Calls prog 208 #[.agg (encW v).toArray] W λe W'=>e=.returned (.agg (encB (digL v 32)).toArray)/\Below W.heap.size W W':=by
 obtain⟨a,b,c,d,e,f,g,i⟩:=v;obtain⟨v,hv⟩:∃v,v=W8.mk a b c d e f g i:=⟨_,rfl⟩;rw[<-hv];have HV:=h_ hv;rw[hv];clear hv;have hx:=xRa a b c d e f g i;unfold encW;go_enter func208,ntmps208;go_wp2;go_loopw [24] (λt wr=>∃k:Nat,k<=8/\t=.int .i64 k/\DgSt W (digL v (4*k)) wr) (λt _=>8-(intOf t).toNat)
 case atStart=>exact⟨0,by omega,rfl,xVi W _ _ _ rfl⟩
 case round=>
  obtain⟨k,hk,rfl,hs⟩:=hrel;by_cases hlt:k<8
  ·have a1:(k:Int)<8:=by omega
   have fP:=hx k hlt;have hw:xO3 v k=[a,b,c,d,e,f,g,i][k]:=by rw[HV.out];simp[xO3,hlt]
   rw[<-hw]at fP;obtain⟨x,C6⟩:∃x,x=xO3 v k:=⟨_,rfl⟩;rw[<-C6]at fP;have HX:=h_ C6;have HS:=h_ hs;clear hs hw hx C6;go_wp2;go_loopw [28] (λt wr=>∃m:Nat,m<=4/\t=.int .i64 m/\DgSt W (digL v (4*k+m)) wr) (λt _=>4-(intOf t).toNat)
   case atStart=>exact⟨0,by omega,rfl,HS.out⟩
   case round=>
    obtain⟨m,hm,rfl,hs⟩:=hrel;by_cases hlt2:m<4
    ·have Zx:=vy v (4*k+m);have hn:=h_ (show digL v (4*k+m+1)=(digL v (4*k+m)).set (4*k+m) (digB x m) by rw[digL,HX.out,show (4*k+m)/4=k by omega,show (4*k+m)%4=m by omega]);obtain⟨ds,Gc⟩:∃q,q=digL v (4*k+m):=⟨_,rfl⟩;rw[<-Gc]at hs hn Zx;clear Gc;have d2:=frozen_of_row wr (W.heap.size+2) (4*k+m) _ _ hs.bw;have d1:wr.cell? ⟨W.heap.size+2,4*k+m,none⟩=some (.int .u8 (ds[4*k+m]'(by omega)).toNat):=by
      rw[cell_of_row _ _ _ _ _ _ hs.bw];simp[encB,show 4*k+m<ds.length by omega]
     have dx:=hs.set (4*k+m) (digB x m);rw[yBp]at dx;rw[<-hn.out]at dx;have h4:m=0\/m=1\/m=2\/m=3:=by omega
     have fQ:=h_ dx;clear hs dx;rcases h4 with rfl|rfl|rfl|rfl
     ·simp only[Nat.add_zero]at d1 d2;go_wp2;go_roundw
      case rel=>exact⟨1,by omega,rfl,by simpa using fQ.out⟩
      case measure=>simp[intOf]
     ·go_wp2;go_roundw
      case rel=>exact⟨2,by omega,rfl,by simpa using fQ.out⟩
      case measure=>simp[intOf]
     ·go_wp2;go_roundw
      case rel=>exact⟨3,by omega,rfl,by simpa using fQ.out⟩
      case measure=>simp[intOf]
     ·go_wp2;go_roundw
      case rel=>exact⟨4,by omega,rfl,by simpa using fQ.out⟩
      case measure=>simp[intOf]
    ·obtain rfl:m=4:=by omega
     have cF:=h_ hs;clear hs;go_wp2;go_roundw
     case rel=>exact⟨k+1,by omega,by go_num,by have:=cF.out;rw[show 4*(k+1)=4*k+4 by omega];exact this⟩
     case measure=>simp[intOf];omega
  ·obtain rfl:k=8:=by omega
   clear hx;have hl:=vy v 32;obtain⟨ds,Gc⟩:∃q,q=digL v 32:=⟨_,rfl⟩;rw[show 4*8=32 from rfl,<-Gc]at hs;rw[<-Gc]at hl;have Zy:=h_ Gc;clear Gc;have r1:=xD hs.bw (by rw[qS,hl]:(encB ds).toArray.size=32);have q1:=r1.1;have q2:=r1.2;have q3:=hs.br;have q4:=xKb hl;have HS:=h_ hs;clear r1 hs;go_wp2;obtain⟨zs,T,pH,_⟩:=uZ q3;have r:=xD (setRow_heap wr (W.heap.size+1) zs (encB ds).toArray T (0,0) pH) (show (encB ds).toArray.size=32 by rw[qS,hl]);have hb:=xK HS.bel (show W.heap.size<=W.heap.size+1 by omega) (encB ds).toArray;refine bodyPost_ret (uf rfl isAgg269 sizeOf269 _ _ ⟨W.heap.size+1,0,none⟩ (encB ds).toArray rfl ?_ ?_) rfl ⟨by rw[Zy.out,HV.out],hb⟩
   ·exact r.1
   ·exact r.2
end
section
theorem xB3 (w:World)(lb cs):w.grownBy (w.setRow lb cs) (some lb):=
 ⟨rfl,rfl,rfl,by simp[World.setRow],λk _ hne=>by
  unfold World.setRow;simp only[bK_];rw[if_neg (λe=>hne (by rw[e]))]⟩
theorem xK4 (w:World)(lb j v):w.grownBy (w.setCell ⟨lb,j,none⟩ v) (some lb):=
 ⟨rfl,rfl,rfl,by simp[World.setCell],λk _ hne=>heap_setCell_other w ⟨lb,j,none⟩ k v (λe=>hne (by rw[e]))⟩
theorem ut {a b c:World}{r}(h:a.grownBy b r)(k:b.grownBy c r):a.grownBy c r:=
 ⟨k.os.trans h.os,k.tape.trans h.tape,k.output.trans h.output,ad_ h.size k.size,λi hi hne=>(k.block i (ap_ hi h.size) hne).trans (h.block i hi hne)⟩
theorem zp {w w'}(h:Below w.heap.size w w')(r):w.grownBy w' r:=⟨h.os,h.tape,h.output,h.size,λk hk _=>h.block k hk⟩
theorem xWl (w:World)(r):w.grownBy w r:=⟨rfl,rfl,rfl,aa_ _,λ_ _ _=>rfl⟩
theorem xK5 {a b:World}{r}(h:a.drew.grownBy b r):a.grownBy b r:=⟨h.os,h.tape,h.output,h.size,h.block⟩
theorem xTk {w W w' B lb}(h:Below B w W)(hg:W.grownBy w' (some lb))(hB:B<=W.heap.size)(RF:B<=lb):Below B w w':=h.grown hg hB (λk e=>by cases e;exact RF)
theorem xPf {w w':World}{hb a v}(hg:w.grownBy w' (some hb))(hne:a.block≠hb)(h:w.cell? a=some v):w'.cell? a=some v:=by
 have hl:=block_lt_of_cell h;have aj:=hg.block a.block hl (λe=>hne (by cases e;rfl));unfold World.cell? at h⊢;rw[aj];exact h
structure HS where
 st:W8
 blk:List UInt8
 n:Nat
def xQ (s:HS):List Value:=encW s.st++(encB s.blk++[.int .i64 s.n])
structure zt (w:World)(hb:Nat)(s:HS):Prop where
 row:w.heap[hb]?=some (.cells (xQ s).toArray 351 (0,0))
 len:s.blk.length=64
theorem qd {s}(h:s.blk.length=64):(xQ s).length=73:=by simp[xQ,xF,encW,h]
theorem zt.lt {w hb s}(h:zt w hb s):hb<w.heap.size:=(i_ h.row).1
theorem zt.same {w w' hb s}(h:zt w hb s)(e:w'.heap[hb]?=w.heap[hb]?):zt w' hb s:=⟨e.trans h.row,h.len⟩
theorem k8 {P t n}(hs:∀w,Sem.run P (Go.sizeOf t) w=.ok n w)(w g off)(cur:List Value)(T)(hg:w.heap[g]?=some (.cells cur.toArray T (0,0)))(cs)
  (hn:cs.length=n) (bM:off+n<=cur.length) (h1:∀v∈cs,v.oneCell'=true):yi P t w (.pointer (some ⟨g,off,none⟩)) (.agg cs.toArray)=.ok .skip (w.setRow g (cur.take off++cs++cur.drop (off+n)).toArray):=by
 have h:=run_storeCells_at P g off T cs 0 cur.toArray w hg (by simpa[hn]using bM) h1;simp only[Nat.add_zero,hn]at h;unfold yi;rw[aE_];have h2:Sem.run P (Instr.storeAt t (.pointer (some ⟨g,off,none⟩)) (.agg cs.toArray)) w=.ok () (w.setRow g (cur.take off++cs++cur.drop (off+n)).toArray):=by
  simp[Instr.storeAt,Instr.sureAddr,storeVar,hs,Value.cells,hn,h]
 rw[h2];rfl
theorem xT8 (v):∀x∈encW v,x.oneCell'=true:=by
 intro x hx;simp only[encW,ae_,ch_,or_false]at hx;rcases hx with rfl|rfl|rfl|rfl|rfl|rfl|rfl|rfl <;> rfl
theorem xIl (w hb s v)(h:zt w hb s):yi prog 348 w (.pointer (some ⟨hb,0,none⟩)) (.agg (encW v).toArray)=.ok .skip (w.setRow hb (xQ { s with st:=v }).toArray):=by
 have:=k8 sizeOf348 w hb 0 (xQ s) _ h.row (encW v) rfl (by rw[qd h.len];omega) (xT8 v);rw[this];rfl
theorem zt.setState {w hb s}(h:zt w hb s)(v):zt (w.setRow hb (xQ { s with st:=v }).toArray) hb { s with st:=v }:=⟨setRow_heap _ _ _ _ _ _ h.row,h.len⟩
theorem xV6 (s)(h:s.blk.length=64)(m:Nat):(xQ s).toArray.setIfInBounds 72 (.int .i64 m)=(xQ { s with n:=m }).toArray:=by
 rw[bD_];congr 1;unfold xQ;rw[bL_ _ _ (by simp[encW]),bL_ _ _ (by simp[encW,xF,h])];simp[encW,xF,h]
theorem zt.setN {w hb s}(h:zt w hb s)(m:Nat):zt (w.setCell ⟨hb,72,none⟩ (.int .i64 m)) hb { s with n:=m }:=by
 refine⟨?_,h.len⟩;rw[heap_setCell_same w hb 72 _ _ _ h.row,xV6 s h.len]
theorem zt.cellN {w hb s}(h:zt w hb s):w.cell? ⟨hb,72,none⟩=some (.int .i64 s.n):=by
 rw[cell_of_row _ _ _ _ _ _ h.row];unfold xQ;rw[ah_,aF_ (by simp[encW]),aF_ (by simp[encW,xF,h.len])];simp[encW,xF,h.len]
theorem zt.rdState {w hb s}(h:zt w hb s):xo w ⟨hb,0,none⟩ 8=true/\xm w ⟨hb,0,none⟩ 8=(encW s.st).toArray:=by
 have:=xW (w:=w) (a:=⟨hb,0,none⟩) (cs:=encW s.st) (λj v hj=>by
  rw[an_,aq_,cell_of_row _ _ _ _ _ _ h.row,ah_];unfold xQ;have hl:j<(encW s.st).length:=by
   rcases bi_ j (encW s.st).length with h|h
   ·exact h
   ·rw[aI_ h]at hj;cases hj
  rw[aJ_ hl];exact hj)
 simpa[encW]using this
theorem zt.rdBlk {w hb s}(h:zt w hb s):xo w ⟨hb,8,none⟩ 64=true/\xm w ⟨hb,8,none⟩ 64=(encB s.blk).toArray:=by
 have:=xW (w:=w) (a:=⟨hb,8,none⟩) (cs:=encB s.blk) (λj v hj=>by
  rw[an_,cell_of_row _ _ _ _ _ _ h.row,ah_];unfold xQ;have hl:j<(encB s.blk).length:=by
   rcases bi_ j (encB s.blk).length with h|h
   ·exact h
   ·rw[aI_ h]at hj;cases hj
  rw[aF_ (by simp[encW]),aJ_ (by simp[encW];exact hl)];simpa[encW]using hj)
 simpa[xF,h.len]using this
def lay (blk:List UInt8)(k:Nat)(cs:List UInt8):List UInt8:=blk.take k++cs++blk.drop (k+cs.length)
theorem xAx {blk k cs}(h:k+cs.length<=blk.length):(lay blk k cs).length=blk.length:=by
 simp[lay];omega
theorem xSe (s)(h:s.blk.length=64)(k cs)(hf:k+cs.length<=64):
  (xQ s).take (8+k)++(encB cs++(xQ s).drop (8+k+cs.length))=xQ { s with blk:=lay s.blk k cs }:=by
 unfold xQ lay;have e8:(encW s.st).length=8:=rfl;have eb:(encB s.blk).length=64:=by rw[xF,h]
 rw[List.take_append,ar_ (by omega),List.take_append,bE_,List.drop_of_length_le (by omega),bE_,e8,eb];rw[show 8+k-8=k by omega,show k-64=0 by omega,show 8+k+cs.length-8=k+cs.length by omega,show k+cs.length-64=0 by omega];simp[encB,aH_]
noncomputable def xC1 (K:Nat->Int)(st:W8)(blk:List UInt8):W8:=xWc st (xDd K st (kQ blk 64) 64).1
noncomputable def xA4 (K:Nat->Int)(s:HS)(cs:List UInt8):HS:=
 let m:=min (64-s.n%64) cs.length
 let blk:=lay s.blk (s.n%64) (cs.take m)
 ⟨if (s.n+m)%64=0 then xC1 K s.st blk else s.st,blk,s.n+m⟩
noncomputable def wrGo (K:Nat->Int):Nat->HS->List UInt8->HS
 |0,s,_=>s
 |f+1,s,cs=>if cs.length=0 then s else wrGo K f (xA4 K s cs) (cs.drop (min (64-s.n%64) cs.length))
noncomputable def kF (K:Nat->Int)(s:HS)(cs:List UInt8):HS:=wrGo K cs.length (if s.n=0 then { s with st:=xFa }else s) cs
theorem ya (a:Addr)(j):(a.add j).block=a.block:=by unfold Addr.add;split <;> rfl
theorem xFs (a:Addr)(m j):(a.add m).add j=a.add (m+j):=by
 unfold Addr.add;by_cases hi:m=0 <;> by_cases hj:j=0 <;> simp[hi,hj,Nat.add_assoc]
def xDf:Value->Nat
 |.slice _ n _=>n
 |_=>0
structure SlB (w:World)(a:Addr)(cs:List UInt8):Prop where
 cell:∀j c,cs[j]?=some c->w.cell? (a.add j)=some (.int .u8 c.toNat)
theorem SlB.keep {w w' a cs}(h:SlB w a cs){hb}(hg:w.grownBy w' (some hb))(hne:a.block≠hb):SlB w' a cs:=
 ⟨λj c hj=>xPf hg (by rw[ya];exact hne) (h.cell j c hj)⟩
theorem SlB.drop {w a cs}(h:SlB w a cs)(m):SlB w (a.add m) (cs.drop m):=
 ⟨λj c hj=>by rw[xFs];exact h.cell (m+j) c (by simpa using hj)⟩
structure WrSt (K:Nat->Int)(R:HS)(W0:World)(hb:Nat)(s:HS)(cs:List UInt8)(a:Addr)(cap:Nat)(f:Nat)(W:World):Prop where
 gr:W0.grownBy W (some hb)
 hash:zt W hb s
 sl:SlB W a cs
 ne:a.block≠hb
 le:cs.length<=cap
 fuel:cs.length<=f
 go:wrGo K f s cs=R
 bound:s.n+cs.length<=4611686018427387904
 k:Sk K W
 gl:2<W0.heap.size
 gh:hb≠2
theorem Sk.grown {K:Nat->Int}{w w'}(h:Sk K w){hb}(hg:w.grownBy w' (some hb))(hne:hb≠2):Sk K w':=
 ⟨λt ht=>xPf hg (λe=>hne e.symm) (h.tab t ht)⟩
attribute [local go_sem ↓] kw kY xHl
attribute [local go_sem] xS3 yAl xh xf xa x9
theorem xW3 (hb k:Nat)(hk:k<64)(w):Sem.run prog (Instr.sliceAt 349 (.pointer (some ⟨hb,8,none⟩)) (some (.int .i64 (k:Int))) none none) w=.ok (.slice (some ⟨hb,8+k,none⟩) (64-k) (64-k)) w:=by
 have e1:prog.arrayLen 349=64:=by kernel_rfl
 have e2:prog.elem 349=5:=by kernel_rfl
 rw[run_sliceAt_array_l w 349 ⟨hb,8,none⟩ (by kernel_rfl) .i64 (k:Int) (by omega) (by rw[e1];omega)];rw[e1,e2,sizeOf5];simp only[aw_,slicedAt,be_,bz_,an_];rw[if_neg (by omega)]
theorem xMa (K:Nat->Int)(hb s a cs cap W)(h:zt W hb s)(hs:SlB W a cs)(hne:a.block≠hb)(dy:cs.length<=cap)(bD:s.n+cs.length<=4611686018427387904)(hK:Sk K W)(Ez:hb≠2):
  Calls prog 170 #[.pointer (some ⟨hb,0,none⟩),.slice (some a) cs.length cap] W λe W'=>e=.returned (.int .i64 0)/\W.grownBy W' (some hb)/\zt W' hb (kF K s cs):=by
 have start:∀W1,W.grownBy W1 (some hb)->zt W1 hb (if s.n=0 then { s with st:=xFa }else s)->WrSt K (kF K s cs) W hb (if s.n=0 then { s with st:=xFa }else s) cs a cap cs.length W1:=λW1 hg h1=>
  ⟨hg,h1,hs.keep hg hne,hne,dy,aa_ _,rfl,by split <;> exact bD,hK.grown hg Ez,hK.lt,Ez⟩
 have aO:=h_ start;have HH:=h_ h;have c1:=h.cellN;by_cases h0:s.n=0
 ·have K_:=h_ h0;rw[h0]at c1;clear start h hs h0;go_enter func170,ntmps170;go_wp2_with (go_at_call 205;refine(yAr _).mono ?_;rintro e w1 ⟨rfl,aa⟩;have La:=xIl w1 hb s xFa (HH.same (aa.block _ HH.lt)));have ax:=aO.out _ (ut (zp aa (some hb)) (xB3 w1 hb _)) (by rw[if_pos K_.out];exact(HH.same (aa.block _ HH.lt)).setState xFa);generalize w1.setRow hb (xQ { st:=xFa,blk:=s.blk,n:=s.n }).toArray=w2 at ax⊢;clear La aa c1 aO HH K_ hK hne dy bD;obtain⟨R,hR⟩:∃R,R=kF K s cs:=⟨_,rfl⟩;have HR:=h_ hR;rw[<-hR]at ax;clear hR;generalize lh:(if s.n=0 then { s with st:=xFa }else s)=s0 at ax;clear lh;have eU:=h_ ax;clear ax;go_loopw [1] (λv wr=>∃s cs a cap f,v=.slice (some a) cs.length cap/\WrSt K R W hb s cs a cap f wr) (λv _=>xDf v)
  case atStart=>exact⟨s0,cs,a,cap,cs.length,rfl,eU.out⟩
  case round=>
   obtain⟨s,cs,a,cap,f,rfl,hw⟩:=hrel;by_cases hz:cs.length=0
   ·have pI:s=R:=by
     have:=hw.go;cases f with
     |zero=>exact this
     |succ f=>rw[wrGo,if_pos hz]at this;exact this
    have bk:(cs.length:Int)=0:=by omega
    have HW:=h_ hw;have pJ:=h_ pI;clear hw pI;go_wp2;go_ret;exact⟨rfl,HW.gr,by rw[<-HR.out,<-pJ.out];exact HW.hash⟩
   ·have aL:0<cs.length:=by omega
    have bk:(0:Int)<cs.length:=by omega
    obtain⟨k,hk⟩:∃k,k=s.n%64:=⟨_,rfl⟩;obtain⟨m,hm⟩:∃m,m=min (64-s.n%64) cs.length:=⟨_,rfl⟩;have Gd:k<64:=by omega
    have lX:0<m:=by omega
    have eV:m<=cs.length:=by omega
    have EA:k+m<=64:=by omega
    have Zz:=hw.le;have bD:=hw.bound;have f1:((s.n:Int)).tmod 64=(k:Int):=by rw[aS_ (by omega)];omega
    have d1:=hw.hash.cellN;have HW:=h_ hw;have HK:=h_ hk;have HM:=h_ hm;clear hw hk hm hz;have cu:=xW3 hb k Gd;go_upto_region 6 with (fail)
    refine xp [0,1,2,3,4,5,6,7,8,9] [10,11] (λw'=>w'=wr.drew) (by kernel_rfl) (by kernel_rfl) (by kernel_rfl) rfl ?_;simp only[o_]
    repeat (go_big_quiet_step (fail))
    refine wpQuiet_nil ?_;refine xB [10,11] _ _ (by kernel_rfl) ?_;simp only[o_];clear f1 d1;have aT:(encB (cs.take m)).length=m:=by rw[xF,ai_];omega
    have bF:=h_ aT;clear aT;refine wpList_copy_own rfl (.tmp 28) (.tmp 29) 31 31 rfl 5 underlying31 (by kernel_rfl) hb (8+k) (64-k) (64-k) a cs.length cap rfl rfl (xQ s).toArray _ HW.hash.row (encB (cs.take m)) ?h1 ?h2 ?h3 ?h4 ?_
    case h1=>rw[bF.out,HM.out,HK.out];exact(Nat.min_comm _ _)
    case h2=>
     intro j u hj;show wr.cell? _=_
     have hl:j<(cs.take m).length:=by
      rcases bi_ j (cs.take m).length with h|h
      ·exact h
      ·rw[aI_ (by rw[xF];exact h)]at hj;cases hj
     have sk:j<m:=by rw[ai_]at hl;omega
     simp only[encB,bk_,bx_ sk]at hj;cases hq:cs[j]? with
     |none=>rw[hq]at hj;cases hj
     |some c=>
      rw[hq]at hj;simp only[aU_,aR_]at hj;rw[<-hj];exact HW.sl.cell j c hq
    case h3=>rw[bF.out];simp only[aW_,qd HW.hash.len];omega
    case h4=>
     intro u hu;simp only[encB,az_]at hu;obtain⟨b,_,rfl⟩:=hu;rfl
    have HL:=h_ (show ((xQ s).toArray.toList.take (8+k)++(encB (cs.take m)++(xQ s).toArray.toList.drop (8+k+(encB (cs.take m)).length))).toArray=(xQ { s with blk:=lay s.blk k (cs.take m) }).toArray by
     rw[bF.out];have:=xSe s HW.hash.len k (cs.take m) (by rw[ai_];omega);rw[ai_,cd_ eV]at this;exact congrArg List.toArray this)
    rw[HL.out,bF.out];clear HL;have gx:(lay s.blk k (cs.take m)).length=64:=by rw[xAx (by rw[ai_,HW.hash.len];omega),HW.hash.len]
    have fo:wr.grownBy (wr.drew.setRow hb (xQ { s with blk:=lay s.blk k (cs.take m) }).toArray) (some hb):=xK5 (xB3 wr.drew hb _);have iF:zt (wr.drew.setRow hb (xQ { s with blk:=lay s.blk k (cs.take m) }).toArray) hb { s with blk:=lay s.blk k (cs.take m) }:=⟨setRow_heap _ _ _ _ _ _ HW.hash.row,gx⟩;obtain⟨blk,bO⟩:∃q,q=lay s.blk k (cs.take m):=⟨_,rfl⟩;rw[<-bO]at fo iF gx⊢;generalize wr.drew.setRow hb (xQ { s with blk:=blk }).toArray=w3 at fo iF⊢;have c3:=iF.cellN;have d3:=frozen_of_row w3 hb 72 _ _ iF.row;have tk:=h_ bO;have Lb:=h_ fo;have pj:=h_ iF;clear bO fo iF gx bF;have Ge:(m:Int)<=cs.length:=by omega
    have Gf:(m:Int)<=cap:=by omega
    unfold goInt;go_wp2;refine ag_ ?_;go_upto_region 9 with (fail)
    clear cu c3 d3 Ge Gf;have sm:=pj.setN (s.n+m);have e4:((s.n+m:Nat):Int)=(s.n:Int)+m:=by omega
    rw[e4]at sm;have hU:=ut Lb.out (xK4 w3 hb 72 (.int .i64 ((s.n:Int)+m)));generalize w3.setCell ⟨hb,72,none⟩ (.int .i64 ((s.n:Int)+m))=w4 at sm hU⊢;obtain⟨a2,gy,aj,cT⟩:∃a2,(if cap=m then some a else some (a.add m))=some a2/\a2.block=a.block/\SlB wr a2 (cs.drop m):=by
     by_cases hcm:cap=m
     ·refine⟨a,if_pos hcm,rfl,⟨λj c hj=>?_⟩⟩;rw[aO_ (by omega)]at hj;cases hj
     ·exact⟨a.add m,if_neg hcm,ya _ _,HW.sl.drop m⟩
    rw[gy];have fR:=cT.keep hU (by rw[aj];exact HW.ne);have c4:=sm.cellN;rw[e4]at c4;have x_:∃f2,f=f2+1:=⟨f-1,by have:=HW.fuel;omega⟩;obtain⟨f2,rfl⟩:=x_;have hgo:=HW.go;rw[wrGo,if_neg (by omega),<-HM.out]at hgo;have fJ:WrSt K R W hb s cs a cap (f2+1) wr:=HW.out;have fin:∀w5 s5,wr.grownBy w5 (some hb)->zt w5 hb s5->s5=xA4 K s cs->SlB w5 a2 (cs.drop m)->WrSt K R W hb s5 (cs.drop m) a2 (cap-m) f2 w5:=λw5 s5 hg hh he cu=>by
     refine⟨ut fJ.gr hg,hh,cu,by rw[aj];exact fJ.ne,by rw[ao_];omega,by rw[ao_];have:=fJ.fuel;omega,by rw[he];exact hgo,?_,fJ.k.grown hg fJ.gh,fJ.gl,fJ.gh⟩;have:s5.n=s.n+m:=by rw[he,xA4,HM.out]
     rw[this,ao_];omega
    have FIN:=h_ fin;have cO:s.n%64=k:=HK.symm;have nX:∀st,(if (s.n+m)%64=0 then xC1 K s.st blk else s.st)=st->(⟨st,blk,s.n+m⟩:HS)=xA4 K s cs:=λst h=>by
     have wj:min (64-k) cs.length=m:=by rw[HM.out,cO]
     rw[xA4];simp only[cO,wj,<-tk.out];rw[h]
    have w_:=h_ nX;have di:=h_ fR;have fp:=h_ sm;have so:=h_ hU;have eF:(s.n:Int)+m<=4611686018427387904:=by omega
    have gz:(((cs.drop m).length:Nat))=cs.length-m:=by rw[ao_]
    have y_:=h_ gz;clear sm hU gy cT fR hgo fJ fin cO nX gz e4;by_cases hz:(s.n+m)%64=0
    ·have Gg:((s.n:Int)+m).tmod 64=0:=by rw[aS_ (by omega)];omega
     have HZ:=h_ hz;clear hz;go_upto_region 10 with (fail)
     clear Gg c4;have q1:∀z:x8 w4,xo z.1 ⟨hb,0,none⟩ 8=true:=λz=>(fp.same (z.2.block _ fp.lt)).rdState.1
     have q2:∀z:x8 w4,xm z.1 ⟨hb,0,none⟩ 8=(encW s.st).toArray:=λz=>(fp.same (z.2.block _ fp.lt)).rdState.2
     have q3:∀z:x8 w4,xo z.1 ⟨hb,8,none⟩ 64=true:=λz=>(fp.same (z.2.block _ fp.lt)).rdBlk.1
     have q4:∀z:x8 w4,xm z.1 ⟨hb,8,none⟩ 64=(encB blk).toArray:=λz=>(fp.same (z.2.block _ fp.lt)).rdBlk.2
     refine xp [0,1,2,3,4,5,6,7,8] [9,10,11,12,13] (λw'=>∃z:x8 w4,w'=z.1) (by kernel_rfl) (by kernel_rfl) (by kernel_rfl) ⟨⟨_,(ab_ _ _).drew⟩,rfl⟩ ?_;simp only[o_]
     repeat (go_big_quiet_step (fail))
     refine wpQuiet_nil ?_;clear q1 q2 q3 q4;refine uW true rfl (by kernel_rfl) ?_;go_wp2_with (go_at_call 207;refine(xRv _ fp.len _).mono ?_;rintro e w5 ⟨rfl,aF⟩);refine⟨λ_=>⟨⟨w5,(ab_ w4.heap.size w4).drew.trans aF⟩,rfl⟩,?_⟩;refine uW true rfl (by kernel_rfl) ?_;have e_:Sk K w5:=((HW.k.grown so.out HW.gh).below (ab_ w4.heap.size _).drew (aa_ _)).below aF (aa_ _);have EB:=h_ e_;have aU:=h_ aF;clear e_ aF;go_wp2_with (go_at_call 206;refine(xH3 K _ _ (vG _ _) _ EB.out).mono ?_;rintro e w6 ⟨rfl,bV⟩);have lj:Below w4.heap.size w4 w6:=((ab_ w4.heap.size w4).drew.trans aU.out).trans (bV.mono aU.size);refine⟨λ_=>⟨⟨w6,lj⟩,rfl⟩,xB [11,12,13] _ _ (by kernel_rfl) ?_⟩;simp only[o_];have tm:=fp.same (lj.block _ fp.lt);have pK:=xIl w6 hb _ (xC1 K s.st blk) tm;have EC:=tm.setState (xC1 K s.st blk);have Cv:=ut so.out (ut (zp lj (some hb)) (xB3 w6 hb (xQ { st:=xC1 K s.st blk,blk:=blk,n:=s.n+m }).toArray));have bj:=FIN.out _ _ Cv EC (w_.out _ (if_pos HZ.out)) (di.keep (ut (zp lj (some hb)) (xB3 w6 hb _)) (by rw[aj];exact HW.ne));have ed:=h_ bj;unfold xC1 at pK;clear tm EC Cv lj bV bj;go_wp2;refine ag_ ?_;clear pK;go_wp2;go_roundw
     case rel=>exact⟨_,cs.drop m,a2,cap-m,f2,by rw[y_.out],ed.out⟩
     case measure=>simp[xDf];omega
    ·obtain⟨r,hr⟩:∃r:Nat,r=(s.n+m)%64:=⟨_,rfl⟩;have Gg:((s.n:Int)+m).tmod 64=(r:Int):=by rw[aS_ (by omega)];omega
     have Lc:((r:Int)==0)=false:=by rw[beq_eq_false_iff_ne];omega
     have HZ:=h_ hz;clear hz hr;go_wp2;clear Gg Lc c4;go_roundw
     case rel=>exact⟨_,cs.drop m,a2,cap-m,f2,by rw[y_.out],FIN.out _ _ so.out fp.out (w_.out _ (if_neg HZ.out)) di.out⟩
     case measure=>simp[xDf];omega
 ·have K_:=h_ h0;have ZA:((s.n:Int)==0)=false:=by rw[beq_eq_false_iff_ne];omega
  clear start h hs h0;go_enter func170,ntmps170;go_wp2;have ax:=aO.out W (xWl W _) (by rw[if_neg K_.out];exact HH.out);clear c1 ZA aO HH K_ hK hne dy bD;obtain⟨R,hR⟩:∃R,R=kF K s cs:=⟨_,rfl⟩;have HR:=h_ hR;rw[<-hR]at ax;clear hR;generalize lh:(if s.n=0 then { s with st:=xFa }else s)=s0 at ax;clear lh;have eU:=h_ ax;clear ax;go_loopw [1] (λv wr=>∃s cs a cap f,v=.slice (some a) cs.length cap/\WrSt K R W hb s cs a cap f wr) (λv _=>xDf v)
  case atStart=>exact⟨s0,cs,a,cap,cs.length,rfl,eU.out⟩
  case round=>
   obtain⟨s,cs,a,cap,f,rfl,hw⟩:=hrel;by_cases hz:cs.length=0
   ·have pI:s=R:=by
     have:=hw.go;cases f with
     |zero=>exact this
     |succ f=>rw[wrGo,if_pos hz]at this;exact this
    have bk:(cs.length:Int)=0:=by omega
    have HW:=h_ hw;have pJ:=h_ pI;clear hw pI;go_wp2;go_ret;exact⟨rfl,HW.gr,by rw[<-HR.out,<-pJ.out];exact HW.hash⟩
   ·have aL:0<cs.length:=by omega
    have bk:(0:Int)<cs.length:=by omega
    obtain⟨k,hk⟩:∃k,k=s.n%64:=⟨_,rfl⟩;obtain⟨m,hm⟩:∃m,m=min (64-s.n%64) cs.length:=⟨_,rfl⟩;have Gd:k<64:=by omega
    have lX:0<m:=by omega
    have eV:m<=cs.length:=by omega
    have EA:k+m<=64:=by omega
    have Zz:=hw.le;have bD:=hw.bound;have f1:((s.n:Int)).tmod 64=(k:Int):=by rw[aS_ (by omega)];omega
    have d1:=hw.hash.cellN;have HW:=h_ hw;have HK:=h_ hk;have HM:=h_ hm;clear hw hk hm hz;have cu:=xW3 hb k Gd;go_upto_region 6 with (fail)
    refine xp [0,1,2,3,4,5,6,7,8,9] [10,11] (λw'=>w'=wr.drew) (by kernel_rfl) (by kernel_rfl) (by kernel_rfl) rfl ?_;simp only[o_]
    repeat (go_big_quiet_step (fail))
    refine wpQuiet_nil ?_;refine xB [10,11] _ _ (by kernel_rfl) ?_;simp only[o_];clear f1 d1;have aT:(encB (cs.take m)).length=m:=by rw[xF,ai_];omega
    have bF:=h_ aT;clear aT;refine wpList_copy_own rfl (.tmp 28) (.tmp 29) 31 31 rfl 5 underlying31 (by kernel_rfl) hb (8+k) (64-k) (64-k) a cs.length cap rfl rfl (xQ s).toArray _ HW.hash.row (encB (cs.take m)) ?h1 ?h2 ?h3 ?h4 ?_
    case h1=>rw[bF.out,HM.out,HK.out];exact(Nat.min_comm _ _)
    case h2=>
     intro j u hj;show wr.cell? _=_
     have hl:j<(cs.take m).length:=by
      rcases bi_ j (cs.take m).length with h|h
      ·exact h
      ·rw[aI_ (by rw[xF];exact h)]at hj;cases hj
     have sk:j<m:=by rw[ai_]at hl;omega
     simp only[encB,bk_,bx_ sk]at hj;cases hq:cs[j]? with
     |none=>rw[hq]at hj;cases hj
     |some c=>
      rw[hq]at hj;simp only[aU_,aR_]at hj;rw[<-hj];exact HW.sl.cell j c hq
    case h3=>rw[bF.out];simp only[aW_,qd HW.hash.len];omega
    case h4=>
     intro u hu;simp only[encB,az_]at hu;obtain⟨b,_,rfl⟩:=hu;rfl
    have HL:=h_ (show ((xQ s).toArray.toList.take (8+k)++(encB (cs.take m)++(xQ s).toArray.toList.drop (8+k+(encB (cs.take m)).length))).toArray=(xQ { s with blk:=lay s.blk k (cs.take m) }).toArray by
     rw[bF.out];have:=xSe s HW.hash.len k (cs.take m) (by rw[ai_];omega);rw[ai_,cd_ eV]at this;exact congrArg List.toArray this)
    rw[HL.out,bF.out];clear HL;have gx:(lay s.blk k (cs.take m)).length=64:=by rw[xAx (by rw[ai_,HW.hash.len];omega),HW.hash.len]
    have fo:wr.grownBy (wr.drew.setRow hb (xQ { s with blk:=lay s.blk k (cs.take m) }).toArray) (some hb):=xK5 (xB3 wr.drew hb _);have iF:zt (wr.drew.setRow hb (xQ { s with blk:=lay s.blk k (cs.take m) }).toArray) hb { s with blk:=lay s.blk k (cs.take m) }:=⟨setRow_heap _ _ _ _ _ _ HW.hash.row,gx⟩;obtain⟨blk,bO⟩:∃q,q=lay s.blk k (cs.take m):=⟨_,rfl⟩;rw[<-bO]at fo iF gx⊢;generalize wr.drew.setRow hb (xQ { s with blk:=blk }).toArray=w3 at fo iF⊢;have c3:=iF.cellN;have d3:=frozen_of_row w3 hb 72 _ _ iF.row;have tk:=h_ bO;have Lb:=h_ fo;have pj:=h_ iF;clear bO fo iF gx bF;have Ge:(m:Int)<=cs.length:=by omega
    have Gf:(m:Int)<=cap:=by omega
    unfold goInt;go_wp2;refine ag_ ?_;go_upto_region 9 with (fail)
    clear cu c3 d3 Ge Gf;have sm:=pj.setN (s.n+m);have e4:((s.n+m:Nat):Int)=(s.n:Int)+m:=by omega
    rw[e4]at sm;have hU:=ut Lb.out (xK4 w3 hb 72 (.int .i64 ((s.n:Int)+m)));generalize w3.setCell ⟨hb,72,none⟩ (.int .i64 ((s.n:Int)+m))=w4 at sm hU⊢;obtain⟨a2,gy,aj,cT⟩:∃a2,(if cap=m then some a else some (a.add m))=some a2/\a2.block=a.block/\SlB wr a2 (cs.drop m):=by
     by_cases hcm:cap=m
     ·refine⟨a,if_pos hcm,rfl,⟨λj c hj=>?_⟩⟩;rw[aO_ (by omega)]at hj;cases hj
     ·exact⟨a.add m,if_neg hcm,ya _ _,HW.sl.drop m⟩
    rw[gy];have fR:=cT.keep hU (by rw[aj];exact HW.ne);have c4:=sm.cellN;rw[e4]at c4;have x_:∃f2,f=f2+1:=⟨f-1,by have:=HW.fuel;omega⟩;obtain⟨f2,rfl⟩:=x_;have hgo:=HW.go;rw[wrGo,if_neg (by omega),<-HM.out]at hgo;have fJ:WrSt K R W hb s cs a cap (f2+1) wr:=HW.out;have fin:∀w5 s5,wr.grownBy w5 (some hb)->zt w5 hb s5->s5=xA4 K s cs->SlB w5 a2 (cs.drop m)->WrSt K R W hb s5 (cs.drop m) a2 (cap-m) f2 w5:=λw5 s5 hg hh he cu=>by
     refine⟨ut fJ.gr hg,hh,cu,by rw[aj];exact fJ.ne,by rw[ao_];omega,by rw[ao_];have:=fJ.fuel;omega,by rw[he];exact hgo,?_,fJ.k.grown hg fJ.gh,fJ.gl,fJ.gh⟩;have:s5.n=s.n+m:=by rw[he,xA4,HM.out]
     rw[this,ao_];omega
    have FIN:=h_ fin;have cO:s.n%64=k:=HK.symm;have nX:∀st,(if (s.n+m)%64=0 then xC1 K s.st blk else s.st)=st->(⟨st,blk,s.n+m⟩:HS)=xA4 K s cs:=λst h=>by
     have wj:min (64-k) cs.length=m:=by rw[HM.out,cO]
     rw[xA4];simp only[cO,wj,<-tk.out];rw[h]
    have w_:=h_ nX;have di:=h_ fR;have fp:=h_ sm;have so:=h_ hU;have eF:(s.n:Int)+m<=4611686018427387904:=by omega
    have gz:(((cs.drop m).length:Nat))=cs.length-m:=by rw[ao_]
    have y_:=h_ gz;clear sm hU gy cT fR hgo fJ fin cO nX gz e4;by_cases hz:(s.n+m)%64=0
    ·have Gg:((s.n:Int)+m).tmod 64=0:=by rw[aS_ (by omega)];omega
     have HZ:=h_ hz;clear hz;go_upto_region 10 with (fail)
     clear Gg c4;have q1:∀z:x8 w4,xo z.1 ⟨hb,0,none⟩ 8=true:=λz=>(fp.same (z.2.block _ fp.lt)).rdState.1
     have q2:∀z:x8 w4,xm z.1 ⟨hb,0,none⟩ 8=(encW s.st).toArray:=λz=>(fp.same (z.2.block _ fp.lt)).rdState.2
     have q3:∀z:x8 w4,xo z.1 ⟨hb,8,none⟩ 64=true:=λz=>(fp.same (z.2.block _ fp.lt)).rdBlk.1
     have q4:∀z:x8 w4,xm z.1 ⟨hb,8,none⟩ 64=(encB blk).toArray:=λz=>(fp.same (z.2.block _ fp.lt)).rdBlk.2
     refine xp [0,1,2,3,4,5,6,7,8] [9,10,11,12,13] (λw'=>∃z:x8 w4,w'=z.1) (by kernel_rfl) (by kernel_rfl) (by kernel_rfl) ⟨⟨_,(ab_ _ _).drew⟩,rfl⟩ ?_;simp only[o_]
     repeat (go_big_quiet_step (fail))
     refine wpQuiet_nil ?_;clear q1 q2 q3 q4;refine uW true rfl (by kernel_rfl) ?_;go_wp2_with (go_at_call 207;refine(xRv _ fp.len _).mono ?_;rintro e w5 ⟨rfl,aF⟩);refine⟨λ_=>⟨⟨w5,(ab_ w4.heap.size w4).drew.trans aF⟩,rfl⟩,?_⟩;refine uW true rfl (by kernel_rfl) ?_;have e_:Sk K w5:=((HW.k.grown so.out HW.gh).below (ab_ w4.heap.size _).drew (aa_ _)).below aF (aa_ _);have EB:=h_ e_;have aU:=h_ aF;clear e_ aF;go_wp2_with (go_at_call 206;refine(xH3 K _ _ (vG _ _) _ EB.out).mono ?_;rintro e w6 ⟨rfl,bV⟩);have lj:Below w4.heap.size w4 w6:=((ab_ w4.heap.size w4).drew.trans aU.out).trans (bV.mono aU.size);refine⟨λ_=>⟨⟨w6,lj⟩,rfl⟩,xB [11,12,13] _ _ (by kernel_rfl) ?_⟩;simp only[o_];have tm:=fp.same (lj.block _ fp.lt);have pK:=xIl w6 hb _ (xC1 K s.st blk) tm;have EC:=tm.setState (xC1 K s.st blk);have Cv:=ut so.out (ut (zp lj (some hb)) (xB3 w6 hb (xQ { st:=xC1 K s.st blk,blk:=blk,n:=s.n+m }).toArray));have bj:=FIN.out _ _ Cv EC (w_.out _ (if_pos HZ.out)) (di.keep (ut (zp lj (some hb)) (xB3 w6 hb _)) (by rw[aj];exact HW.ne));have ed:=h_ bj;unfold xC1 at pK;clear tm EC Cv lj bV bj;go_wp2;refine ag_ ?_;clear pK;go_wp2;go_roundw
     case rel=>exact⟨_,cs.drop m,a2,cap-m,f2,by rw[y_.out],ed.out⟩
     case measure=>simp[xDf];omega
    ·obtain⟨r,hr⟩:∃r:Nat,r=(s.n+m)%64:=⟨_,rfl⟩;have Gg:((s.n:Int)+m).tmod 64=(r:Int):=by rw[aS_ (by omega)];omega
     have Lc:((r:Int)==0)=false:=by rw[beq_eq_false_iff_ne];omega
     have HZ:=h_ hz;clear hz hr;go_wp2;clear Gg Lc c4;go_roundw
     case rel=>exact⟨_,cs.drop m,a2,cap-m,f2,by rw[y_.out],FIN.out _ _ so.out fp.out (w_.out _ (if_neg HZ.out)) di.out⟩
     case measure=>simp[xDf];omega
end
theorem xCl (l r):encB (l++r)=encB l++encB r:=by simp[encB]
theorem qZ (l j)(h:j<l.length):(encB l)[j]?=some (.int .u8 (l[j]'h).toNat):=by simp[encB,h]
theorem ue (l):∀v∈encB l,v.oneCell'=true:=by
 intro v hv;simp only[encB,az_]at hv;obtain⟨b,_,rfl⟩:=hv;rfl
def OwnB (w:World)(B:Nat)(v:Value)(l:List UInt8):Prop:=w.ownsRow B 5 1 v l.length (encB l)
theorem Tryz.info_byte:(prog.info? 5).map (λi=>(i.zero,i.size,i.bytes))=some (some (.int .u8 0),1,1):=by kernel_rfl
theorem OwnB.grown {w w' B v l}(h:OwnB w B v l){r}(hg:w.grownBy w' r)(hr:∀k,r=some k->v.ownBlock≠some k):OwnB w' B v l:=
 dc_ (row:=r) h hg (by
  cases hv:v.ownBlock with
  |none=>simp
  |some b=>
   right
   intro e;exact hr b e.symm hv)
theorem OwnB.below {w w' B v l}(h:OwnB w B v l)(hb:Below w.heap.size w w'):OwnB w' B v l:=
 h.grown (zp hb none) (λk e=>by cases e)
theorem OwnB.nil (w B):OwnB w B (.slice none 0 0) []:=aP_ _ _ _ _
theorem OwnB.lt {w B v l}(h:OwnB w B v l){k}(hk:v.ownBlock=some k):B<=k/\k<w.heap.size:=aL_ h k hk
theorem OwnB.base {w B B' v l}(h:OwnB w B v l)(hb:B'<=B):OwnB w B' v l:=
 ⟨h.1,h.2.imp (λh=>h) λ⟨g,cap,cur,hv,hg,r⟩=>⟨g,cap,cur,hv,ad_ hb hg,r⟩⟩
theorem OwnB.at {w B v l}(h:OwnB w B v l):(v=.slice none 0 0/\l=[])\/∃g cap,v=.slice (some ⟨g,0,none⟩) l.length cap/\B<=g/\l.length<=cap/\cap<=maxLen/\SlB w ⟨g,0,none⟩ l:=by
 rcases h.2 with⟨hv,h0⟩|⟨g,cap,cur,hv,hg,aq,hle,dC,aJ,eG⟩
 ·exact .inl ⟨hv,bn_ h0⟩
 ·refine .inr ⟨g,cap,hv,hg,hle,dC,⟨λj c hj=>?_⟩⟩;have fS:j<l.length:=by
   rcases bi_ j l.length with h|h
   ·exact h
   ·rw[aI_ h]at hj;cases hj
  subst hv;have:=cM_ h j (by omega);rw[an_,aq_,this,qZ l j fS];rw[ak_ fS]at hj;cases hj;rfl
theorem OwnB.new (w:World)(B l)(hB:B<=w.heap.size)(hl:l.length<=maxLen):OwnB (w.alloc (.cells (encB l).toArray 5)) B (.slice (some ⟨w.heap.size,0,none⟩) l.length l.length) l:=
 ⟨by rw[xF,bz_],.inr ⟨w.heap.size,l.length,(encB l).toArray,rfl,hB,heap_alloc_new w _,aa_ _,hl,by rw[qS,bz_],by rw[bz_];simp[ar_ (show (encB l).length<=l.length by rw[xF];omega)]⟩⟩
theorem zE {rest ops o a}{Q:Exit->Act->World->Prop}{w}(fT:o.guard=none)(s x)
  (ho:o.op=.call { callee:=.builtin .append,args:=#[s,x],argTypes:=#[31,31] }) (B) (v) (l) (hs:a.eval s=v) (ae:OwnB w B v l)
  (ad) (r) (c) (hx:a.eval x=.slice (some ad) r.length c) (hr:SlB w ad r) (ao:l.length+r.length<=1000000000000) (hB:B<=w.heap.size)
  (h:∀v' w',OwnB w' B v' (l++r)->w.grownBy w' v.ownBlock->(v'=.slice none 0 0↔v=.slice none 0 0/\r.length=0)->wpList prog ops Q rest (a.put o.dst v') w'):wpList prog ops Q (o :: rest) a w:=by
 obtain⟨i0,hi,bd,aL,bk⟩:=info_parts Tryz.info_byte;refine wpList_append_own w fT s x 31 ho B 5 i0 (.int .u8 0) 1 1 underlying31 hi bd aL bk rfl (by decide) v l.length (encB l) hs ae ad r.length c (encB r) hx (by rw[xF,bz_]) (λj u hj=>?_) (ue r) (by unfold maxLen;omega) (by omega) hB λv' w' h1 h2 h3=>?_
 ·have fS:j<r.length:=by
   rcases bi_ j r.length with h|h
   ·exact h
   ·rw[aI_ (by rw[xF];exact h)]at hj;cases hj
  rw[qZ r j fS]at hj;cases hj;exact hr.cell j _ (ak_ fS)
 ·refine h v' w' ?_ h2 h3;unfold OwnB;rw[xCl,af_];exact h1
section
def zeroW:W8:=⟨0,0,0,0,0,0,0,0⟩
def j4:HS:=⟨zeroW,List.replicate 64 0,0⟩
theorem yB4 (w:World):zt (w.alloc (.cells (xQ j4).toArray 351)) w.heap.size j4:=⟨heap_alloc_new w _,by simp[j4]⟩
theorem xDo (ρ:Operand->Value)(d)(ty:TypeId)(pos af g w):
  Sem.run prog (execOp ρ ⟨d,.alloc 351,ty,pos,af,g⟩) w=.ok (.value (.pointer (some ⟨w.heap.size,0,none⟩))) (w.alloc (.cells (xQ j4).toArray 351)):=by kernel_rfl
theorem yAx (W):Calls prog 169 #[] W λe W'=>e=.returned (.pointer (some ⟨W.heap.size,0,none⟩))/\W'=W.alloc (.cells (xQ j4).toArray 351):=by
 go_enter func169,ntmps169;go_wp2_with (simp only[xDo]);go_ret;exact⟨rfl,rfl⟩
def padZ (n:Nat):Nat:=(119-n%64)%64
def cntB (c k:Nat):UInt8:=UInt8.ofNat (c/2 ^ (56-8*k))
theorem yBt (c k):((cntB c k).toNat:Int)=(c:Int)/2 ^ (56-8*k)%256:=by
 unfold cntB;rw[bO_];simp
def padL (n:Nat)(k:Nat):List UInt8:=128 :: (List.replicate (padZ n) 0++(List.range k).map (cntB (8*n)))
theorem xRm (n k):(padL n k).length=1+padZ n+k:=by simp[padL];omega
theorem xXx (n k):padL n (k+1)=padL n k++[cntB (8*n) k]:=by simp[padL,dB_]
noncomputable def sumF (K:Nat->Int)(s:HS):List UInt8:=digL (kF K s (padL s.n 8)).st 32
attribute [local go_sem ↓] kw xCi xB7 xPn xLu
attribute [local go_sem] xS3 xUv xU8 yCw yCh xh xf xa x9 xu xv xk xj xq xx xt
structure xBl (W0:World)(v:Value)(l:List UInt8)(W:World):Prop where
 own:OwnB W (W0.heap.size+1) v l
 bel:Below W0.heap.size W0 W
 ro:xM W W0.heap.size 32=true
 ne:l≠[]
theorem xBl.at {W0 v l W}(h:xBl W0 v l W):∃g cap,v=.slice (some ⟨g,0,none⟩) l.length cap/\W0.heap.size+1<=g/\l.length<=cap/\cap<=maxLen/\SlB W ⟨g,0,none⟩ l:=by
 rcases h.own.at with⟨_,h0⟩|h1
 ·exact absurd h0 h.ne
 ·exact h1
theorem xBl.later {W0 v l W W'}(h:xBl W0 v l W)(hb:Below W.heap.size W W'):xBl W0 v l W':=by
 have hl:W0.heap.size<W.heap.size:=by
  obtain⟨c,T,hc,_⟩:=uZ h.ro;exact(i_ hc).1
 refine⟨h.own.below hb,h.bel.trans (hb.mono h.bel.size),?_,h.ne⟩;have:=h.ro;unfold xM at this⊢;rw[hb.block _ hl];exact this
theorem xBl.app {W0 v v' l r W W'}(h:xBl W0 v l W)(ho:OwnB W' (W0.heap.size+1) v' (l++r))(hg:W.grownBy W' v.ownBlock):xBl W0 v' (l++r) W':=by
 have hl:W0.heap.size<W.heap.size:=by
  obtain⟨c,T,hc,_⟩:=uZ h.ro;exact(i_ hc).1
 have hk:∀k,v.ownBlock=some k->W0.heap.size+1<=k:=λk e=>(h.own.lt e).1
 refine⟨ho,h.bel.grown hg h.bel.size (λk e=>by have:=hk k e;omega),?_,by simp[h.ne]⟩;have:=h.ro;unfold xM at this⊢;rw[hg.block _ hl (λe=>by have:=hk _ e.symm;omega)];exact this
theorem xRl (W zs)(hz:zs.size=32):xBl W (.slice (some ⟨W.heap.size+1,0,none⟩) 1 1) (128 :: List.replicate 0 0) ((W.alloc (.cells zs 269)).alloc (.cells #[.int .u8 128] 5)):=by
 have h1:=OwnB.new (W.alloc (.cells zs 269)) (W.heap.size+1) [128] (by simp) (by unfold maxLen;simp);rw[al_]at h1;exact⟨h1,((ab_ _ _).alloc (aa_ _) _).alloc (by simp) _,qJ _ (zQ _ _ _ _ _ rfl hz),by simp⟩
theorem vi (w:World)(T l):SlB (w.alloc (.cells (encB l).toArray T)) ⟨w.heap.size,0,none⟩ l:=
 ⟨λj c hj=>by
  have hl:j<l.length:=by
   rcases bi_ j l.length with h|h
   ·exact h
   ·rw[aI_ h]at hj;cases hj
  rw[an_,aq_,yz,ah_,qZ l j hl];rw[ak_ hl]at hj;cases hj;rfl⟩
theorem yB5 (s):(xQ s).toArray.all (·.oneCell')=true:=by
 rw[aD_];intro v hv;simp only[xQ,List.mem_toArray,aj_,ac_]at hv;rcases hv with h|h|h
 ·exact xT8 _ v h
 ·exact ue _ v h
 ·rw[h];rfl
theorem yEf:((xQ j4).toArray.size==73)=true:=rfl
attribute [local go_sem ↓] xDo
theorem lenH0:(xQ j4).length=73:=rfl
attribute [local go_sem] yEf lenH0
theorem yAv (K:Nat->Int)(hb s W)(h:zt W hb s)(hK:Sk K W)(hn:s.n<=1000000):
  Calls prog 171 #[.pointer (some ⟨hb,0,none⟩)] W λe W'=>e=.returned (.agg (encB (sumF K s)).toArray)/\Below W.heap.size W W':=by
 have HH:=h_ h;have HK:=h_ hK;have hlt:=h.lt;clear h hK;have aT:∀wr,Below W.heap.size W wr->wr.cell? ⟨hb,72,none⟩=some (.int .i64 s.n):=λwr b9=>(HH.same (b9.block _ hlt)).cellN
 have HC:=h_ aT;clear aT;go_enter func171,ntmps171;go_wp2;go_loopw [3] (λv wr=>∃z,z<=padZ s.n/\xBl W v (128 :: List.replicate z 0) wr) (λv _=>padZ s.n+1-xDf v)
 case atStart=>
  exact⟨0,by omega,xRl W _ rfl⟩
 case round=>
  obtain⟨z,hz,hp⟩:=hrel;obtain⟨g,cap,hv,hg,hle,dC,cu⟩:=hp.at;obtain⟨L,hL⟩:∃L,L=(128 :: List.replicate z (0:UInt8)).length:=⟨_,rfl⟩;rw[<-hL]at hv hle;have pL:L=z+1:=by rw[hL];simp
  have c1:=HC.out _ hp.bel;have C7:padZ s.n=(119-s.n%64)%64:=rfl;subst hv;by_cases hlt2:z<padZ s.n
  ·obtain⟨q,hq⟩:∃q:Nat,q=(s.n+L)%64:=⟨_,rfl⟩;have f1:((s.n:Int)+(L:Int)).tmod 64=(q:Int):=by rw[aS_ (by omega)];omega
   have f2:((q:Int)==56)=false:=by rw[beq_eq_false_iff_ne];omega
   have f3:((q:Int) != 56)=true:=by rw[bne_iff_ne];omega
   have HL:=h_ pL;have HP:=h_ hp;have b1:(L:Int)<=100:=by omega
   clear hL pL hq C7 hp cu;unfold maxLen at dC;have cd:OwnB (wr.alloc (.cells #[.int .u8 0] 5)) (W.heap.size+1) (.slice (some ⟨g,0,none⟩) L cap) (128 :: List.replicate z 0):=HP.own.below ((ab_ _ _).alloc (aa_ _) _);have aK:SlB (wr.alloc (.cells #[.int .u8 0] 5)) ⟨wr.heap.size,0,none⟩ [0]:=vi wr 5 [0];have ew:=h_ cd;have bW:=h_ aK;clear cd aK;have C7:padZ s.n<=63:=by unfold padZ;omega
   go_wp2_with (at_builtin;refine zE rfl (.tmp 20) (.tmp 21) rfl (W.heap.size+1) _ (128 :: List.replicate z 0) rfl ew.out ⟨wr.heap.size,0,none⟩ [0] 1 rfl bW.out ?cA ?cB ?_)
   case cA=>simp;omega
   case cB=>have:=HP.bel.size;simp;omega
   intro v' w' ho hg2 _;have ey:=(HP.later (W':=wr.alloc (.cells #[.int .u8 0] 5)) ((ab_ _ _).alloc (aa_ _) _)).app ho hg2;have aP:128 :: List.replicate z (0:UInt8)++[0]=128 :: List.replicate (z+1) 0:=by rw[List.replicate_succ'];rfl
   rw[aP]at ey;obtain⟨g2,RG,mX,_,_,_,_⟩:=ey.at;have sk:xDf v'=z+2:=by rw[mX];simp[xDf]
   have C8:=h_ ey;have wk:=h_ sk;clear ey aP mX sk ho hg2 f1 f2 f3 c1 ew bW;go_wp2;go_roundw
   case rel=>exact⟨z+1,by omega,C8.out⟩
   case measure=>
    show padZ s.n+1-xDf v' < padZ s.n+1-L
    rw[wk.out,HL.out];omega
  ·obtain rfl:z=padZ s.n:=by omega
   have f1:((s.n:Int)+(L:Int)).tmod 64=56:=by rw[aS_ (by omega)];omega
   have b1:(L:Int)<=100:=by omega
   have HL:=h_ pL;have HP:=h_ hp;have aA:(s.n:Int)<=1000000:=by omega
   clear hL pL C7 hp cu hlt2 hz;unfold maxLen at dC;go_wp2;clear f1 c1;go_loopw [3,29] (λv t wr=>∃k:Nat,k<=8/\t=.int .i64 k/\xBl W v (padL s.n k) wr) (λ_ t _=>8-(intOf t).toNat)
   case atStart=>exact⟨0,by omega,rfl,by have:=HP.out;simpa[padL]using this⟩
   case round=>
    obtain⟨k,hk,rfl,hp⟩:=hrel;obtain⟨g,cap,hv,hg,hle,dC,cu⟩:=hp.at;have hpl:=xRm s.n k;have C7:padZ s.n<=63:=by unfold padZ;omega
    obtain⟨L2,my⟩:∃L2,L2=(padL s.n k).length:=⟨_,rfl⟩;rw[<-my]at hv hle hpl;subst hv;have wk:=h_ my;have ft:=h_ hpl;by_cases hlt3:k<8
    ·have Cw:=h_ hp;have a1:(k:Int)<8:=by omega
     have dN:=yBt (8*s.n) k;have Ql:k=0\/k=1\/k=2\/k=3\/k=4\/k=5\/k=6\/k=7:=by omega
     obtain⟨b,dj⟩:∃b,b=cntB (8*s.n) k:=⟨_,rfl⟩;rw[<-dj]at dN;have mz:=h_ (show padL s.n k++[b]=padL s.n (k+1) by rw[dj,xXx]);have cd:OwnB (wr.alloc (.cells #[.int .u8 b.toNat] 5)) (W.heap.size+1) (.slice (some ⟨g,0,none⟩) L2 cap) (padL s.n k):=Cw.own.below ((ab_ _ _).alloc (aa_ _) _);have aK:SlB (wr.alloc (.cells #[.int .u8 b.toNat] 5)) ⟨wr.heap.size,0,none⟩ [b]:=vi wr 5 [b];have ew:=h_ cd;have bW:=h_ aK;have nxt:∀v' w',OwnB w' (W.heap.size+1) v' (padL s.n k++[b])->(wr.alloc (.cells #[.int .u8 b.toNat] 5)).grownBy w' (Value.slice (some ⟨g,0,none⟩) L2 cap).ownBlock->xBl W v' (padL s.n (k+1)) w':=λv' w' ho hg2=>by
      have:=(Cw.later (W':=wr.alloc (.cells #[.int .u8 b.toNat] 5)) ((ab_ _ _).alloc (aa_ _) _)).app ho hg2;rw[mz.out]at this;exact this
     have NXT:=h_ nxt;have dh:=h_ (show W.heap.size+1<=(wr.alloc (.cells #[.int .u8 b.toNat] 5)).heap.size by have:=Cw.bel.size;simp;omega);have ao:=h_ (show (padL s.n k).length+[b].length<=1000000000000 by rw[wk.symm,ft.out];simp;omega);clear dj hp cu my hpl cd aK nxt C7;rcases Ql with rfl|rfl|rfl|rfl|rfl|rfl|rfl|rfl
     ·have fU:8*(s.n:Int)/72057594037927936=(b.toNat:Int):=by
       have h:8*(s.n:Int)/72057594037927936%256=(b.toNat:Int):=by simpa using dN.symm
       omega
      clear dN;go_wp2_with (at_builtin;refine zE rfl (.tmp 32) (.tmp 39) rfl (W.heap.size+1) _ (padL s.n 0) rfl ew.out ⟨wr.heap.size,0,none⟩ [b] 1 rfl bW.out ao.out dh.out ?_);intro v' w' ho hg2 _;have iG:=h_ (NXT.out v' w' ho hg2);clear ho hg2 fU;go_wp2;go_roundw
      case rel=>exact⟨1,by omega,rfl,iG.out⟩
      case measure=>simp[intOf]
     ·have fU:8*(s.n:Int)/281474976710656=(b.toNat:Int):=by
       have h:8*(s.n:Int)/281474976710656%256=(b.toNat:Int):=by simpa using dN.symm
       omega
      clear dN;go_wp2_with (at_builtin;refine zE rfl (.tmp 32) (.tmp 39) rfl (W.heap.size+1) _ (padL s.n 1) rfl ew.out ⟨wr.heap.size,0,none⟩ [b] 1 rfl bW.out ao.out dh.out ?_);intro v' w' ho hg2 _;have iG:=h_ (NXT.out v' w' ho hg2);clear ho hg2 fU;go_wp2;go_roundw
      case rel=>exact⟨2,by omega,rfl,iG.out⟩
      case measure=>simp[intOf]
     ·have fU:8*(s.n:Int)/1099511627776=(b.toNat:Int):=by
       have h:8*(s.n:Int)/1099511627776%256=(b.toNat:Int):=by simpa using dN.symm
       omega
      clear dN;go_wp2_with (at_builtin;refine zE rfl (.tmp 32) (.tmp 39) rfl (W.heap.size+1) _ (padL s.n 2) rfl ew.out ⟨wr.heap.size,0,none⟩ [b] 1 rfl bW.out ao.out dh.out ?_);intro v' w' ho hg2 _;have iG:=h_ (NXT.out v' w' ho hg2);clear ho hg2 fU;go_wp2;go_roundw
      case rel=>exact⟨3,by omega,rfl,iG.out⟩
      case measure=>simp[intOf]
     ·have fU:8*(s.n:Int)/4294967296=(b.toNat:Int):=by
       have h:8*(s.n:Int)/4294967296%256=(b.toNat:Int):=by simpa using dN.symm
       omega
      clear dN;go_wp2_with (at_builtin;refine zE rfl (.tmp 32) (.tmp 39) rfl (W.heap.size+1) _ (padL s.n 3) rfl ew.out ⟨wr.heap.size,0,none⟩ [b] 1 rfl bW.out ao.out dh.out ?_);intro v' w' ho hg2 _;have iG:=h_ (NXT.out v' w' ho hg2);clear ho hg2 fU;go_wp2;go_roundw
      case rel=>exact⟨4,by omega,rfl,iG.out⟩
      case measure=>simp[intOf]
     ·have fU:8*(s.n:Int)/16777216=(b.toNat:Int):=by
       have h:8*(s.n:Int)/16777216%256=(b.toNat:Int):=by simpa using dN.symm
       omega
      clear dN;go_wp2_with (at_builtin;refine zE rfl (.tmp 32) (.tmp 39) rfl (W.heap.size+1) _ (padL s.n 4) rfl ew.out ⟨wr.heap.size,0,none⟩ [b] 1 rfl bW.out ao.out dh.out ?_);intro v' w' ho hg2 _;have iG:=h_ (NXT.out v' w' ho hg2);clear ho hg2 fU;go_wp2;go_roundw
      case rel=>exact⟨5,by omega,rfl,iG.out⟩
      case measure=>simp[intOf]
     ·have fU:8*(s.n:Int)/65536=(b.toNat:Int):=by
       have h:8*(s.n:Int)/65536%256=(b.toNat:Int):=by simpa using dN.symm
       omega
      clear dN;go_wp2_with (at_builtin;refine zE rfl (.tmp 32) (.tmp 39) rfl (W.heap.size+1) _ (padL s.n 5) rfl ew.out ⟨wr.heap.size,0,none⟩ [b] 1 rfl bW.out ao.out dh.out ?_);intro v' w' ho hg2 _;have iG:=h_ (NXT.out v' w' ho hg2);clear ho hg2 fU;go_wp2;go_roundw
      case rel=>exact⟨6,by omega,rfl,iG.out⟩
      case measure=>simp[intOf]
     ·have fU:8*(s.n:Int)/256%256=(b.toNat:Int):=by simpa using dN.symm
      clear dN;go_wp2_with (at_builtin;refine zE rfl (.tmp 32) (.tmp 39) rfl (W.heap.size+1) _ (padL s.n 6) rfl ew.out ⟨wr.heap.size,0,none⟩ [b] 1 rfl bW.out ao.out dh.out ?_);intro v' w' ho hg2 _;have iG:=h_ (NXT.out v' w' ho hg2);clear ho hg2 fU;go_wp2;go_roundw
      case rel=>exact⟨7,by omega,rfl,iG.out⟩
      case measure=>simp[intOf]
     ·have fU:8*(s.n:Int)%256=(b.toNat:Int):=by simpa using dN.symm
      clear dN;go_wp2_with (at_builtin;refine zE rfl (.tmp 32) (.tmp 39) rfl (W.heap.size+1) _ (padL s.n 7) rfl ew.out ⟨wr.heap.size,0,none⟩ [b] 1 rfl bW.out ao.out dh.out ?_);intro v' w' ho hg2 _;have iG:=h_ (NXT.out v' w' ho hg2);clear ho hg2 fU;go_wp2;go_roundw
      case rel=>exact⟨8,by omega,rfl,iG.out⟩
      case measure=>simp[intOf]
    ·obtain rfl:k=8:=by omega
     subst my;have z_:=HH.same (hp.bel.block _ hlt);have q:=xD z_.row (show (xQ s).toArray.size=73 by simpa using qd z_.len);have q1:=q.1;have q2:=q.2;have q3:xy 73 (xQ s).toArray=true:=zU (by simpa using qd z_.len) (yB5 s);have aI:=hp.bel.size;have bu:=hp.ro;have Wh:zt (wr.alloc (.cells (xQ s).toArray 351)) wr.heap.size s:=⟨heap_alloc_new wr _,z_.len⟩;have gk:Below wr.heap.size wr (wr.alloc (.cells (xQ s).toArray 351)):=(ab_ _ _).alloc (aa_ _) _;have eH:=HK.lt;have lk:SlB (wr.alloc (.cells (xQ s).toArray 351)) ⟨g,0,none⟩ (padL s.n 8):=⟨λj c hj=>bv_ _ (cu.cell j c hj)⟩;have pM:g<wr.heap.size:=by
      have h0:0<(padL s.n 8).length:=by omega
      have:=block_lt_of_cell (cu.cell 0 _ (ak_ h0))
      rwa [ya]at this
     have hW:=xMa K wr.heap.size s ⟨g,0,none⟩ (padL s.n 8) cap _ Wh lk (by simp;omega) hle (by omega) ((HK.below hp.bel (aa_ _)).below gk (by have:=(HK.below hp.bel (aa_ _)).lt;omega)) (by omega);have Wi:=h_ hW;have ED:=h_ hp;have HQ:=h_ gk;clear hW Wh gk lk z_ q hp cu hpl C7 wk ft hlt3 hk hle;go_wp2_with (go_at_call 170;refine Wi.mono ?_;rintro e w5 ⟨rfl,wl,tn⟩;have mA:=tn.rdState);have c1:=mA.1;have c2:=mA.2;have aF:Below wr.heap.size wr w5:=xTk HQ.out wl (by simp) (aa_ _);have Ld:∀w6,Below w5.heap.size w5 w6->xM w6 W.heap.size 32=true:=λw6 h6=>by
      have hl:W.heap.size<wr.heap.size:=by omega
      have:=bu;unfold xM at this⊢;rw[h6.block _ (by have:=aF.size;omega),aF.block _ hl];exact this
     have aU:=h_ (ED.bel.trans (aF.mono aI));have RH:=h_ Ld;have po:=h_ mA;clear aF Ld mA wl tn Wi HQ bu;go_wp2_with (go_at_call 208;refine(xVh _ _).mono ?_;rintro e w6 ⟨rfl,bV⟩;have RI:=RH.out w6 bV;have bJ:=xKb (vy (kF K s (padL s.n 8)).st 32));obtain⟨cs,T,aJ,_⟩:=uZ RI;have RJ:(encB (digL (kF K s (padL s.n 8)).st 32)).toArray.size=32:=by rw[qS,vy]
     have r:=xD (setRow_heap w6 W.heap.size cs (encB (digL (kF K s (padL s.n 8)).st 32)).toArray T (0,0) aJ) RJ;have cY:=xK (aU.trans (bV.mono aU.size)) (aa_ _) (encB (digL (kF K s (padL s.n 8)).st 32)).toArray;refine bodyPost_ret (uf rfl isAgg269 sizeOf269 _ _ ⟨W.heap.size,0,none⟩ (encB (digL (kF K s (padL s.n 8)).st 32)).toArray rfl ?_ ?_) rfl ⟨rfl,cY⟩
     ·exact r.1
     ·exact r.2
end
end Go.Proofs.YtegfbhdkenkkdaaGreatDoor
namespace Go.Proofs
open Go.Shelf
def Tryz.lays169_ren:Go.Shelf.Ren:=⟨λ| 169=>87|n=>n,λ| 70=>187|9=>9|0=>0|72=>189|37=>31|127=>245|3=>3|5=>5|n=>n,λ| n=>n⟩
theorem Tryz.lays169:Go.Proofs.Lays.n169 prog Tryz.lays169_ren:={
 mixed:=by kernel_rfl
 f169:=func87.trans (congrArg some (by kernel_rfl))
 t0:=underlying0
 a0:=isAgg0
 z0:=sizeOf0
 v0:=zeroValue0
 t3:=underlying3
 a3:=isAgg3
 z3:=sizeOf3
 v3:=zeroValue3
 t9:=underlying9
 a9:=isAgg9
 z9:=sizeOf9
 v9:=zeroValue9
 t37:=underlying31
 a37:=isAgg31
 z37:=sizeOf31
 v37:=zeroValue31
 t70:=underlying187
 a70:=isAgg187
 z70:=sizeOf187
 v70:=zeroValue187
 t72:=underlying189
 a72:=isAgg189
 z72:=sizeOf189
 v72:=zeroValue189
 t127:=underlying245
 a127:=isAgg245
 z127:=sizeOf245
 v127:=zeroValue245 }
theorem Tryz.Builder_Extra_169:Builder.Extra prog Tryz.lays169_ren:={
 sizeBuilder:=by kernel_rfl
 liesBuilder:=by kernel_rfl
 t5:=underlying5
 a5:=isAgg5
 z5:=sizeOf5
 v5:=zeroValue5
 infoByte:=by kernel_rfl
 cellsByte:=by kernel_rfl
 sizeByte:=by kernel_rfl
 neB5:=by decide }
def Tryz.lays125_ren:Go.Shelf.Ren:=⟨λ| 125=>147|128=>185|129=>186|n=>n,λ| 46=>225|3=>3|51=>330|53=>279|4=>4|5=>5|9=>9|n=>n,λ| n=>n⟩
theorem Tryz.lays125:Go.Proofs.Lays.n125 prog Tryz.lays125_ren:={
 mixed:=by kernel_rfl
 f125:=func147.trans (congrArg some (by kernel_rfl))
 f128:=func185.trans (congrArg some (by kernel_rfl))
 f129:=func186.trans (congrArg some (by kernel_rfl))
 t3:=underlying3
 a3:=isAgg3
 z3:=sizeOf3
 v3:=zeroValue3
 t4:=underlying4
 a4:=isAgg4
 z4:=sizeOf4
 v4:=zeroValue4
 t5:=underlying5
 a5:=isAgg5
 z5:=sizeOf5
 v5:=zeroValue5
 t9:=underlying9
 a9:=isAgg9
 z9:=sizeOf9
 v9:=zeroValue9
 t46:=underlying225
 a46:=isAgg225
 z46:=sizeOf225
 v46:=zeroValue225
 t51:=underlying330
 a51:=isAgg330
 z51:=sizeOf330
 v51:=zeroValue330
 t53:=underlying279
 a53:=isAgg279
 z53:=sizeOf279
 v53:=zeroValue279 }
theorem Tryz.bits_Len (x:Int)(w:World)(h0:0<=x)(h1:x<=18446744073709551615):
  Calls prog 147 #[.int .u64 x] w λe w'=>e=.returned (.int .i64 (Lib.bitLen x.toNat))/\w'=w:=Any.bits_Len Tryz.lays125 x w h0 h1
open Go.RowKit in
theorem Tryz.Builder_String_empty_f (B b:Nat)(w:World)(h:Lib.IsBuilderF 189 5 B b [] w)(RK:B<=w.heap.size):
  Calls prog 87 #[.pointer (some ⟨b,0,none⟩)] w λe w'=>e=.returned (.string ⟨#[]⟩)/\(Lib.IsBuilderF 189 5 B b [] w'/\Below B w w'):=Any.Builder_String_empty_f Tryz.lays169 Tryz.Builder_Extra_169 B b w h RK
def Tryz.lays221_ren:Go.Shelf.Ren:=⟨λ| 221=>232|268=>259|138=>260|143=>261|195=>287|197=>288|218=>289|219=>237|260=>296|217=>264|225=>265|224=>266|267=>267|266=>290|314=>291|n=>n,λ| 9=>9|3=>3|31=>34|4=>4|0=>0|105=>416|21=>21|5=>5|46=>225|119=>139|139=>427|138=>426|146=>418|51=>330|n=>n,λ| 1=>0|3=>5|4=>6|n=>n⟩
def Tryz.lays146_ren:Go.Shelf.Ren:=⟨λ| 146=>188|221=>232|268=>259|138=>260|143=>261|195=>287|197=>288|218=>289|219=>237|260=>296|217=>264|225=>265|224=>266|267=>267|266=>290|314=>291|n=>n,λ| 9=>9|31=>34|3=>3|4=>4|0=>0|105=>416|21=>21|5=>5|46=>225|119=>139|139=>427|138=>426|146=>418|51=>330|n=>n,λ| 1=>0|3=>5|4=>6|n=>n⟩
theorem Tryz.lays146:Go.Proofs.Lays.n146 prog Tryz.lays146_ren:={
 mixed:=by kernel_rfl
 f138:=func260.trans (congrArg some (by kernel_rfl))
 f143:=func261.trans (congrArg some (by kernel_rfl))
 f146:=func188.trans (congrArg some (by kernel_rfl))
 f195:=func287.trans (congrArg some (by kernel_rfl))
 f197:=func288.trans (congrArg some (by kernel_rfl))
 f217:=func264.trans (congrArg some (by kernel_rfl))
 f218:=func289.trans (congrArg some (by kernel_rfl))
 f219:=func237.trans (congrArg some (by kernel_rfl))
 f221:=func232.trans (congrArg some (by kernel_rfl))
 f224:=func266.trans (congrArg some (by kernel_rfl))
 f225:=func265.trans (congrArg some (by kernel_rfl))
 f260:=func296.trans (congrArg some (by kernel_rfl))
 f266:=func290.trans (congrArg some (by kernel_rfl))
 f267:=func267.trans (congrArg some (by kernel_rfl))
 f268:=func259.trans (congrArg some (by kernel_rfl))
 f314:=func291.trans (congrArg some (by kernel_rfl))
 t0:=underlying0
 a0:=isAgg0
 z0:=sizeOf0
 v0:=zeroValue0
 t3:=underlying3
 a3:=isAgg3
 z3:=sizeOf3
 v3:=zeroValue3
 t4:=underlying4
 a4:=isAgg4
 z4:=sizeOf4
 v4:=zeroValue4
 t5:=underlying5
 a5:=isAgg5
 z5:=sizeOf5
 v5:=zeroValue5
 t9:=underlying9
 a9:=isAgg9
 z9:=sizeOf9
 v9:=zeroValue9
 t21:=underlying21
 a21:=isAgg21
 z21:=sizeOf21
 v21:=zeroValue21
 t31:=underlying34
 a31:=isAgg34
 z31:=sizeOf34
 v31:=zeroValue34
 t46:=underlying225
 a46:=isAgg225
 z46:=sizeOf225
 v46:=zeroValue225
 t51:=underlying330
 a51:=isAgg330
 z51:=sizeOf330
 v51:=zeroValue330
 t105:=underlying416
 a105:=isAgg416
 z105:=sizeOf416
 v105:=zeroValue416
 t119:=underlying139
 a119:=isAgg139
 z119:=sizeOf139
 t138:=underlying426
 a138:=isAgg426
 z138:=sizeOf426
 v138:=zeroValue426
 t139:=underlying427
 a139:=isAgg427
 z139:=sizeOf427
 v139:=zeroValue427
 t146:=underlying418
 a146:=isAgg418
 z146:=sizeOf418
 v146:=zeroValue418
 g1:=by kernel_rfl
 g3:=by kernel_rfl
 g4:=by kernel_rfl }
open Go.RowKit Go.Lib in
theorem Tryz.strings_Split (s sep:ByteArray)(m:Int)(w:World)(hs:s.size<4294967281)(hm:w.cell? ⟨0,0,none⟩=some (.int .i64 m))(h1:1<=sep.size):
  Calls prog 188 #[.string s,.string sep] w λe w'=>
   e=.returned (.slice (some ⟨w.heap.size,0,none⟩) (Lib.countB s sep+1) (Lib.countB s sep+1))/\w'=w.alloc (.cells ((Lib.splitB sep 0 (Lib.countB s sep) s).map Value.string).toArray 9):=Any.strings_Split Tryz.lays146 (by kernel_rfl) s sep m w hs hm h1
def Tryz.laysSlH8_f239_ren:Go.Shelf.Ren:=⟨λ| 8=>239|6=>268|n=>n,λ| 22=>34|23=>9|25=>293|4=>4|3=>3|0=>0|n=>n,λ| n=>n⟩
def Tryz.containsId_ren:Go.Shelf.Ren:=⟨λ| 7=>294|6=>297|n=>n,λ| 22=>35|24=>33|4=>4|0=>0|3=>3|n=>n,λ| n=>n⟩
theorem Tryz.containsId:Go.Proofs.SlLaysQ.n7 prog Tryz.containsId_ren:={
 mixed:=by kernel_rfl
 f6:=⟨f297.name,by decide,func297.trans (congrArg some (by kernel_rfl))⟩
 f7:=⟨f294.name,by decide,func294.trans (congrArg some (by kernel_rfl))⟩
 t0:=underlying0
 a0:=isAgg0
 z0:=sizeOf0
 v0:=zeroValue0
 t3:=underlying3
 a3:=isAgg3
 z3:=sizeOf3
 v3:=zeroValue3
 t4:=underlying4
 a4:=isAgg4
 z4:=sizeOf4
 v4:=zeroValue4
 t22:=underlying35
 a22:=isAgg35
 z22:=sizeOf35
 v22:=zeroValue35 }
def Tryz.cloneId_ren:Go.Shelf.Ren:=⟨λ| 41=>167|n=>n,λ| 22=>35|23=>33|4=>4|n=>n,λ| n=>n⟩
theorem Tryz.cloneId:Go.Proofs.SlLaysE0.n41 prog Tryz.cloneId_ren:={
 mixed:=by kernel_rfl
 f41:=⟨f167.name,by decide,func167.trans (congrArg some (by kernel_rfl))⟩
 t4:=underlying4
 a4:=isAgg4
 z4:=sizeOf4
 v4:=zeroValue4
 t22:=underlying35
 a22:=isAgg35
 z22:=sizeOf35
 v22:=zeroValue35 }
def Tryz.containsFuncByte_ren:Go.Shelf.Ren:=⟨λ| 8=>270|6=>292|n=>n,λ| 22=>31|23=>5|25=>378|4=>4|3=>3|0=>0|n=>n,λ| n=>n⟩
theorem Tryz.containsFuncByte:Go.Proofs.SlLaysH.n8 prog Tryz.containsFuncByte_ren:={
 mixed:=by kernel_rfl
 f6:=⟨f292.name,by decide,func292.trans (congrArg some (by kernel_rfl))⟩
 f8:=⟨f270.name,by decide,func270.trans (congrArg some (by kernel_rfl))⟩
 t0:=underlying0
 a0:=isAgg0
 z0:=sizeOf0
 v0:=zeroValue0
 t3:=underlying3
 a3:=isAgg3
 z3:=sizeOf3
 v3:=zeroValue3
 t4:=underlying4
 a4:=isAgg4
 z4:=sizeOf4
 v4:=zeroValue4
 t22:=underlying31
 a22:=isAgg31
 z22:=sizeOf31
 v22:=zeroValue31
 a23:=isAgg5
 z23:=sizeOf5
 t25:=underlying378
 a25:=isAgg378
 z25:=sizeOf378
 v25:=zeroValue378 }
end Go.Proofs
namespace Go.Proofs.YtegfbhdkenkkdaaGreatDoor
open Go Go.RowKit Go.Proofs Tryz
section
attribute [local go_sem ↓] xL xI
attribute [local go_sem 2000] xDy
attribute [local go_sem] zm zA zb xh xf xa x9 xC8 xBz
def xDt (w:World)(b off:Nat)(ids:List Id32):Prop:=∀j,j<ids.length->∀i v,(xl ids[j]!)[i]?=some v->w.cell? ⟨b,off+j*32+i,none⟩=some v
def xFv (w:World)(v:Value)(ids:List Id32):Prop:=
 ∃a c,v=.slice a ids.length c/\ids.length<=c/\(ids≠[]->∃b off,a=some ⟨b,off,none⟩/\xDt w b off ids)
theorem xDt.rd {w b off ids}(h:xDt w b off ids){j}(hj:j<ids.length):
  xo w ⟨b,off+j*32,none⟩ 32=true/\xm w ⟨b,off+j*32,none⟩ 32=(xl ids[j]!).toArray:=by
 have:=xW (w:=w) (a:=⟨b,off+j*32,none⟩) (cs:=xl ids[j]!) (λi v hi=>by rw[an_];exact h j hj i v hi)
 rwa [xz]at this
theorem xDt.lt {w b off ids}(h:xDt w b off ids)(hne:ids≠[]):b<w.heap.size:=by
 have h0:0<ids.length:=cy_.2 hne;have:=h 0 h0 0 _ (xNk _ 0 (by omega));exact block_lt_of_cell this
theorem xDt.below {w w' b off ids}(h:xDt w b off ids){B}(hb:Below B w w')(hB:b<B):xDt w' b off ids:=
 λj hj i v hi=>(hb.cell (p:=⟨b,_,none⟩) hB).trans (h j hj i v hi)
theorem xFv.below {w w' v ids}(h:xFv w v ids)(hb:Below w.heap.size w w'):xFv w' v ids:=by
 obtain⟨a,c,e,hc,hr⟩:=h;exact⟨a,c,e,hc,λhne=>let ⟨b,off,e2,ah⟩:=hr hne;⟨b,off,e2,ah.below hb (ah.lt hne)⟩⟩
def xWy (ids:List Id32)(k:Nat)(x:Id32):Bool:=(ids.take k).any λy=>decide (x=y)
def vk (ids:List Id32)(k:Nat):Bool:=(List.range k).any λi=>xWy ids i ids[i]!
def jf (ids:List Id32):Int:=if 20<ids.length then 9 else if vk ids ids.length then 7 else 0
theorem xFl (ids k):vk ids (k+1)=(vk ids k||xWy ids k ids[k]!):=by
 unfold vk;rw[dB_,List.any_append];simp
theorem xPz {ids k n}(h:k<=n)(hd:vk ids k=true):vk ids n=true:=by
 unfold vk at *;rw[dY_]at *;obtain⟨i,hi,hx⟩:=hd;exact⟨i,by simp at hi⊢;omega,hx⟩
theorem xOp {ids}(h:20<ids.length):jf ids=9:=if_pos h
theorem xRe {ids}(h:ids.length<=20)(hd:vk ids ids.length=true):jf ids=7:=by
 unfold jf;rw[if_neg (by omega),if_pos hd]
theorem xUk {ids}(h:ids.length<=20)(hd:vk ids ids.length=false):jf ids=0:=by
 unfold jf;rw[if_neg (by omega),if_neg (by simp[hd])]
theorem xHo (b off n c ids x w)(hz:n<=ids.length)(hm:n<=9223372036854775807)(h:xDt w b off ids):
  Calls prog 294 #[.slice (some ⟨b,off,none⟩) n c,.agg (xl x).toArray] w λe w'=>e=.returned (.bool (xWy ids n x))/\Below w.heap.size w w':=
 AnyQ.slices_Contains Tryz.containsId 32 isAgg33 sizeOf33 xl xz _ eqId b off n c ids x w hz hm h
attribute [local go_sem] xu zQ qJ xq xx xt kX j7 k9
theorem xD9 (v ids w)(h:xFv w v ids)(hm:ids.length<=maxLen):
  Calls prog 278 #[v] w λr w'=>r=.returned (.int .i64 (jf ids))/\Below w.heap.size w w':=by
 unfold maxLen at hm;obtain⟨a,c,rfl,hc,hr⟩:=h;by_cases hlong:20<ids.length
 ·have hf:=h_ (xOp hlong);have RM:(20:Int)<(ids.length:Int):=by omega
  clear hr;go_enter func278,ntmps278;go_wp2;go_ret;exact⟨uv hf.symm,ab_ _ _⟩
 ·have HR:=h_ hr;clear hr;have RN:(ids.length:Int)<=20:=by omega
  go_enter func278,ntmps278;go_wp2;go_loopw [10] (λi wr=>∃k:Nat,k<=ids.length/\i=.int .i64 k/\vk ids k=false/\Below w.heap.size w wr) (λi _=>ids.length-(intOf i).toNat)
  case atStart=>exact⟨0,aV_ _,rfl,rfl,ab_ _ _⟩
  case round=>
   obtain⟨k,hk,rfl,hd,hb⟩:=hrel;have HD:=h_ hd;clear hd;by_cases hlt:k<ids.length
   ·obtain⟨b,off,rfl,ah⟩:=HR.out (by intro e;rw[e]at hlt;simp at hlt);have cr:(k:Int)<(ids.length:Int):=by omega
    have Aa:(k:Int)<=(c:Int):=by omega
    have hne:ids≠[]:=by intro e;rw[e]at hlt;simp at hlt
    have HW:=h_ (ah.below hb (ah.lt hne));clear ah hne;obtain⟨o1,d1⟩:=HW.rd hlt;generalize hx:ids[k]! = x at d1;have HX:=h_ hx;clear hx;go_wp2;have oz:∀z:x8 (wr.alloc (.cells (xl x).toArray 33)),xo z.1 ⟨wr.heap.size,0,none⟩ 32=true:=λz=>z.ok (j7 _ _ _)
    have dz:∀z:x8 (wr.alloc (.cells (xl x).toArray 33)),xm z.1 ⟨wr.heap.size,0,none⟩ 32=(xl x).toArray:=λz=>(z.rd (j7 _ _ _)).trans (k9 _ _ _)
    refine xAt 4 (λw'=>∃z:x8 (wr.alloc (.cells (xl x).toArray 33)),w'=z.1) (by kernel_rfl) (by kernel_rfl) ⟨⟨_,(ab_ _ _).drew⟩,rfl⟩ ?_;simp only[cU_,dP_,dC_,dQ_]
    repeat (go_big_quiet_step (fail))
    refine wpQuiet_nil ?_;rintro _ ⟨z,rfl⟩;have hz:=z.2;generalize z.1=wz at hz⊢;clear oz dz o1 d1;have RO:Below wr.heap.size wr wz:=((ab_ _ _).alloc (aa_ _) _).trans (hz.mono (by simp));have bz:Below w.heap.size w wz:=hb.trans (RO.mono hb.size);have Gh:xDt wz b off ids:=HW.below RO (HW.lt (by intro e;rw[e]at hlt;simp at hlt));have Cx:k<=9223372036854775807:=by omega
    clear hz RO;cases hq:xWy ids k x with
    |true=>
     have pN:=xHo b off k c ids x wz hk Cx Gh;rw[hq]at pN;have hf:=h_ (xRe (show ids.length<=20 by omega) (xPz (show k+1<=ids.length from hlt) (by rw[xFl,HX.out,hq];simp)));clear hq Gh;have RP:=h_ pN;clear pN;go_wp2_with fail;refine RP.mono ?_;rintro e w1 ⟨rfl,aa⟩;go_wp2;go_ret;exact⟨uv hf.symm,bz.trans (aa.mono bz.size)⟩
    |false=>
     have pN:=xHo b off k c ids x wz hk Cx Gh;rw[hq]at pN;have hn:=h_ (show vk ids (k+1)=false by rw[xFl,HX.out,hq,HD.out];rfl);clear hq Gh;have RP:=h_ pN;clear pN;go_wp2_with fail;refine RP.mono ?_;rintro e w1 ⟨rfl,aa⟩;go_wp2;go_roundw
     case rel=>exact⟨k+1,by omega,by go_num,hn.out,bz.trans (aa.mono bz.size)⟩
     case measure=>simp[intOf];omega
   ·have hf:=h_ (xUk (show ids.length<=20 by omega) (by rw[show ids.length=k by omega];exact HD.out));go_wp2;go_ret;exact⟨uv hf.symm,hb⟩
end
section
structure j0 where
 number:Int
 id:Id32
 name:ByteArray
 date:Int
 subject:ByteArray
 refs:Value
 bytes:Int
def xH (g:j0):List Value:=.int .i64 g.number :: (xl g.id++[.string g.name,.int .i64 g.date,.string g.subject,g.refs,.int .i64 g.bytes])
def xd (g:j0):Array Value:=(xH g).toArray
def yP (grp:ByteArray)(g:j0):Array Value:=(.string grp :: xH g).toArray
theorem yC (g):(xH g).length=38:=by simp[xH,xz]
theorem xP (g):(xd g).size=38:=by simp[xd,yC]
theorem zT (s g):(yP s g).size=39:=by simp[yP,yC]
theorem jt (g j):(xH g)[33+j]?=[Value.string g.name,.int .i64 g.date,.string g.subject,g.refs,.int .i64 g.bytes][j]?:=by
 unfold xH;rw[show 33+j=(32+j)+1 by omega,ay_,aF_ (by rw[xz];omega),xz,show 32+j-32=j by omega]
theorem lc0 (g):(xd g)[0]?=some (.int .i64 g.number):=rfl
theorem lc33 (g):(xd g)[33]?=some (.string g.name):=by simpa[xd]using jt g 0
theorem lc34 (g):(xd g)[34]?=some (.int .i64 g.date):=by simpa[xd]using jt g 1
theorem lc35 (g):(xd g)[35]?=some (.string g.subject):=by simpa[xd]using jt g 2
theorem lc36 (g):(xd g)[36]?=some g.refs:=by simpa[xd]using jt g 3
theorem lc37 (g):(xd g)[37]?=some (.int .i64 g.bytes):=by simpa[xd]using jt g 4
theorem xEs (s g j):(yP s g)[j+1]?=(xd g)[j]?:=by simp[yP,xd]
theorem rc0 (s g):(yP s g)[0]?=some (.string s):=rfl
theorem rc1 (s g):(yP s g)[1]?=some (.int .i64 g.number):=rfl
theorem rc34 (s g):(yP s g)[34]?=some (.string g.name):=(xEs s g 33).trans (lc33 g)
theorem rc35 (s g):(yP s g)[35]?=some (.int .i64 g.date):=(xEs s g 34).trans (lc34 g)
theorem rc36 (s g):(yP s g)[36]?=some (.string g.subject):=(xEs s g 35).trans (lc35 g)
theorem rc37 (s g):(yP s g)[37]?=some g.refs:=(xEs s g 36).trans (lc36 g)
theorem rc38 (s g):(yP s g)[38]?=some (.int .i64 g.bytes):=(xEs s g 37).trans (lc37 g)
def jN (g:j0):Prop:=g.refs.oneCell'=true
theorem qq {g}(h:jN g):∀v∈xH g,v.oneCell'=true:=by
 intro v hv;simp only[xH,ae_,aj_,bq_,or_false]at hv;rcases hv with rfl|hv|rfl|rfl|rfl|rfl|rfl
 ·rfl
 ·exact uS _ v hv
 ·rfl
 ·rfl
 ·rfl
 ·exact h
 ·rfl
theorem qy {g}(h:jN g):xy 38 (xd g)=true:=zU (xP g) (by
 rw[aD_];intro v hv;exact qq h v (by simpa[xd]using hv))
theorem xSw {cs:Array Value}{n}(h:cs.size=n):cs.extract 0 (0+n)=cs:=by subst h;simp
theorem xC7 (w:World)(g t):xo (w.alloc (.cells (xd g) t)) ⟨w.heap.size,0,none⟩ 38=true:=xJa w _ t 0 38 (by rw[xP];omega)
theorem xBy (w:World)(g t):xm (w.alloc (.cells (xd g) t)) ⟨w.heap.size,0,none⟩ 38=xd g:=by
 rw[xJ1 w _ t 0 38 (by rw[xP];omega)];exact xSw (xP g)
theorem xF0 (w:World)(s g t):xo (w.alloc (.cells (yP s g) t)) ⟨w.heap.size,0,none⟩ 39=true:=xJa w _ t 0 39 (by rw[zT];omega)
theorem xEr (w:World)(s g t):xm (w.alloc (.cells (yP s g) t)) ⟨w.heap.size,0,none⟩ 39=yP s g:=by
 rw[xJ1 w _ t 0 39 (by rw[zT];omega)];exact xSw (zT s g)
theorem xKd (g):(xd g).extract 1 (1+32)=(xl g.id).toArray:=by
 apply ec_;simp[xd,xH,xz]
theorem xHi (s g):(yP s g).extract 2 (2+32)=(xl g.id).toArray:=by
 apply ec_;simp[yP,xH,xz]
theorem xJb (w:World)(g t):xo (w.alloc (.cells (xd g) t)) ⟨w.heap.size,1,none⟩ 32=true:=xJa w _ t 1 32 (by rw[xP];omega)
theorem xJ2 (w:World)(g t):xm (w.alloc (.cells (xd g) t)) ⟨w.heap.size,1,none⟩ 32=(xl g.id).toArray:=by
 rw[xJ1 w _ t 1 32 (by rw[xP];omega)];exact xKd g
theorem xH6 (w:World)(s g t):xo (w.alloc (.cells (yP s g) t)) ⟨w.heap.size,2,none⟩ 32=true:=xJa w _ t 2 32 (by rw[zT];omega)
theorem xH0 (w:World)(s g t):xm (w.alloc (.cells (yP s g) t)) ⟨w.heap.size,2,none⟩ 32=(xl g.id).toArray:=by
 rw[xJ1 w _ t 2 32 (by rw[zT];omega)];exact xHi s g
theorem yy (ρ:Operand->Value)(d x)(ty:TypeId)(pos af g w):
  Sem.run prog (execOp ρ ⟨d,.load 204 x,ty,pos,af,g⟩) w=yp prog 204 w (ρ x):=rfl
theorem yr (ρ:Operand->Value)(d x y)(ty:TypeId)(pos af g w):
  Sem.run prog (execOp ρ ⟨d,.store 204 x y,ty,pos,af,g⟩) w=yi prog 204 w (ρ x) (ρ y):=rfl
theorem u1 (w a)(h:xo w a 38=true):yp prog 204 w (.pointer (some a))=.ok (.value (.agg (xm w a 38))) w:=
 yf isAgg204 sizeOf204 w a h
theorem zX (w g cells)(h:xM w g 38=true)(h2:xy 38 cells=true):
  yi prog 204 w (.pointer (some ⟨g,0,none⟩)) (.agg cells)=.ok .skip (w.setRow g cells):=yo (by kernel_rfl) w g cells h h2
def xJ:j0:=⟨0,uq,⟨#[]⟩,0,⟨#[]⟩,.slice none 0 0,0⟩
theorem yB (ρ:Operand->Value)(d)(ty:TypeId)(pos af g w):
  Sem.run prog (execOp ρ ⟨d,.alloc 204,ty,pos,af,g⟩) w=.ok (.value (.pointer (some ⟨w.heap.size,0,none⟩))) (w.alloc (.cells (xd xJ) 204)):=by kernel_rfl
theorem yJ (ρ:Operand->Value)(d)(ty:TypeId)(pos af g w):
  Sem.run prog (execOp ρ ⟨d,.build 204 #[],ty,pos,af,g⟩) w=.ok (.value (.agg (xd xJ))) w:=by kernel_rfl
attribute [local go_sem ↓] xL xI yy yr
attribute [local go_sem] zm zA u1 zX zb xh xf xa x9 xC8 xBz xu zQ qJ xq xx xt kX j7 k9
attribute [local go_sem] lc0 lc33 lc34 lc35 lc36 lc37 rc0 rc1 rc34 rc35 rc36 rc37 rc38 xC7 xBy xF0 xEr xJb xJ2 xH6 xH0
def kN:List Int->Int
 |[]=>0
 |e :: r=>if e=0 then kN r else e
theorem xC5:∀(l:List Int),(∀e∈l,e=0)->∀r,kN (l++r)=kN r
 |[],_,_=>rfl
 |e :: l,h,r=>by
  have h0:e=0:=h e (by simp);rw[aK_,kN,if_pos h0];exact xC5 l (λx hx=>h x (by simp[hx])) r
theorem xXz {es k}(hlt:k<es.length)(hz:∀j,j<k->es[j]! = 0)(hk:es[k]!≠0):kN es=es[k]!:=by
 have e1:es=es.take k++es[k] :: es.drop (k+1):=by simp
 rw[e1,xC5 (es.take k) (λx hx=>by
  obtain⟨j,hj,rfl⟩:=List.mem_take_iff_getElem.1 hx;have:=hz j (by omega);simpa[show j<es.length by omega]using this)]
 have:es[k]! = es[k]:=by simp[hlt]
 rw[<-e1,this];rw[this]at hk;simp[kN,hk]
theorem xUs {es}(hz:∀j,j<es.length->es[j]! = 0):kN es=0:=by
 have:=xC5 es (λx hx=>by
  obtain⟨j,hj,rfl⟩:=bF_.1 hx;simpa[hj]using hz j hj) []
 simpa[kN]using this
theorem yEn (b c es w)(hm:es.length<=1000)(h:∀j,j<es.length->w.cell? ⟨b,j,none⟩=some (.int .i64 es[j]!)):
  Calls prog 276 #[.slice (some ⟨b,0,none⟩) es.length c] w λr w'=>r=.returned (.int .i64 (kN es))/\w=w':=by
 have H:=h_ h;clear h;go_enter func276,ntmps276;go_wp2;go_loop [8] (λi=>∃k:Nat,k<=es.length/\i=.int .i64 k/\∀j,j<k->es[j]! = 0) (λi=>es.length-(intOf i).toNat)
 case atStart=>exact⟨0,aV_ _,rfl,λj hj=>absurd hj (ef_ _)⟩
 case round=>
  obtain⟨k,hk,rfl,hz⟩:=hrel;have HZ:=h_ hz;clear hz;by_cases hlt:k<es.length
  ·have cr:(k:Int)<(es.length:Int):=by omega
   have hc:=H.out k hlt;generalize hx:es[k]! = x at hc;have HX:=h_ hx;clear hx;by_cases h0:x=0
   ·have RQ:(x != 0)=false:=by simp[h0]
    have hn:=h_ (show ∀j,j<k+1->es[j]! = 0 from λj hj=>by
     by_cases e:j=k
     ·rw[e,HX.out,h0]
     ·exact HZ.out j (by omega))
    clear h0;go_wp2;go_round
    case rel=>exact⟨k+1,by omega,by go_num,hn.out⟩
    case measure=>simp[intOf];omega
   ·have RQ:(x != 0)=true:=by simp[h0]
    have hf:=h_ (show kN es=x by rw[xXz hlt HZ.out (by rw[HX.out];exact h0),HX.out]);clear h0;go_wp2;go_ret;exact⟨uv hf.symm,rfl⟩
  ·have hf:=h_ (xUs (es:=es) (by rw[show es.length=k by omega];exact HZ.out));go_wp2;go_ret;exact⟨uv hf.symm,rfl⟩
def xI7 (g:j0)(ids:List Id32):Int:=
 kN [qw g.number 1 2147483646 2,vh g.name.data.toList 60,qw g.date 0 105190559 13,vh g.subject.data.toList 200,jf ids,qw g.bytes 0 65536 2]
theorem or6 (a b c d e f)(w:World):
  Calls prog 276 #[.slice (some ⟨w.heap.size,0,none⟩) 6 6] (w.alloc (.cells #[.int .i64 a,.int .i64 b,.int .i64 c,.int .i64 d,.int .i64 e,.int .i64 f] 24))
   λr w'=>r=.returned (.int .i64 (kN [a,b,c,d,e,f]))/\w.alloc (.cells #[.int .i64 a,.int .i64 b,.int .i64 c,.int .i64 d,.int .i64 e,.int .i64 f] 24)=w':=
 yEn w.heap.size 6 [a,b,c,d,e,f] _ (by simp) (λj hj=>by
  rw[yz];have:j=0\/j=1\/j=2\/j=3\/j=4\/j=5:=by simp at hj;omega
  rcases this with rfl|rfl|rfl|rfl|rfl|rfl <;> rfl)
structure xGm (w:World)(g:j0)(ids:List Id32):Prop where
 refs:xFv w g.refs ids
 len:ids.length<=maxLen
 name:g.name.size<=maxLen
 subject:g.subject.size<=maxLen
theorem xGm.below {w w' g ids}(h:xGm w g ids)(hb:Below w.heap.size w w'):xGm w' g ids:=⟨h.refs.below hb,h.len,h.name,h.subject⟩
theorem xFv.one {w v ids}(h:xFv w v ids):v.oneCell'=true:=by
 obtain⟨a,c,rfl,_⟩:=h;rfl
theorem xLm (g ids w)(h:xGm w g ids):
  Calls prog 245 #[.agg (xd g)] w λr w'=>r=.returned (.int .i64 (xI7 g ids))/\Below w.heap.size w w':=by
 have gk:Below w.heap.size w (w.alloc (.cells (xd g) 204)):=(ab_ _ _).alloc (aa_ _) _;have aD:=h_ (h.below gk);have iy:=h_ gk;clear gk;obtain⟨W,hW⟩:∃W,w.alloc (.cells (xd g) 204)=W:=⟨_,rfl⟩;have c0:∀z:x8 W,z.1.cell? ⟨w.heap.size,0,none⟩=some (.int .i64 g.number):=λz=>z.cell (by rw[<-hW,yz];exact lc0 g)
 have wm:∀z:x8 W,z.1.cell? ⟨w.heap.size,33,none⟩=some (.string g.name):=λz=>z.cell (by rw[<-hW,yz];exact lc33 g)
 have Ab:∀z:x8 W,z.1.cell? ⟨w.heap.size,34,none⟩=some (.int .i64 g.date):=λz=>z.cell (by rw[<-hW,yz];exact lc34 g)
 have EE:∀z:x8 W,z.1.cell? ⟨w.heap.size,35,none⟩=some (.string g.subject):=λz=>z.cell (by rw[<-hW,yz];exact lc35 g)
 have pO:∀z:x8 W,z.1.cell? ⟨w.heap.size,36,none⟩=some g.refs:=λz=>z.cell (by rw[<-hW,yz];exact lc36 g)
 have wn:∀z:x8 W,z.1.cell? ⟨w.heap.size,37,none⟩=some (.int .i64 g.bytes):=λz=>z.cell (by rw[<-hW,yz];exact lc37 g)
 have HW:=h_ hW;go_enter func245,ntmps245;go_wp2;clear hW;refine xAt 18 (λw'=>∃z:x8 W,w'=z.1) (by kernel_rfl) (by kernel_rfl) ⟨⟨_,(ab_ _ _).drew⟩,rfl⟩ ?_;simp only[cU_,dP_,dC_,dQ_]
 repeat (go_big_quiet_step (first|(go_at_call 277;exact x8.call_same (xKu _ _ _ _ _))|(go_at_call 274;exact x8.call_same (xM6 _ _ _ (by first|exact h.name|exact h.subject)))|(go_at_call 278;exact x8.call (xD9 _ _ _ ((HW.out▸aD.out:xGm W g ids).refs.below (Subtype.property _)) h.len))))
 refine wpQuiet_nil ?_;rintro _ ⟨z,rfl⟩;have hz:=z.2;generalize z.1=wz at hz⊢;clear c0 wm Ab EE pO wn;go_wp2_with fail;refine(or6 _ _ _ _ _ _ _).mono ?_;rintro e w1 ⟨rfl,rfl⟩;go_wp2;go_ret;refine⟨rfl,?_⟩;have h1:Below w.heap.size w wz:=iy.trans (by rw[HW.out];exact hz.mono (by rw[<-HW.out];simp));exact h1.alloc h1.size _
end
section
attribute [local go_sem ↓] xL xI
attribute [local go_sem] zm zA zb xh xf xa x9 xC8 xBz xu zQ qJ xq xx xt kX j7 k9
def str (l:List UInt8):ByteArray:=⟨l.toArray⟩
theorem xZb (l):(str l).size=l.length:=by simp[str,ByteArray.size]
theorem yE4 (s):str s.data.toList=s:=rfl
end
def kE (w:World)(b off:Nat)(xs:List ByteArray):Prop:=∀(j:Nat) (x:ByteArray),xs[j]?=some x->w.cell? ⟨b,off+j,none⟩=some (.string x)
def xOg:List Int:=[1116352408,1899447441,3049323471,3921009573,961987163,1508970993,2453635748,2870763221,3624381080,310598401,607225278,1426881987,1925078388,2162078206,2614888103,3248222580,3835390401,4022224774,264347078,604807628,770255983,1249150122,1555081692,1996064986,2554220882,2821834349,2952996808,3210313671,3336571891,3584528711,113926993,338241895,666307205,773529912,1294757372,1396182291,1695183700,1986661051,2177026350,2456956037,2730485921,2820302411,3259730800,3345764771,3516065817,3600352804,4094571909,275423344,430227734,506948616,659060556,883997877,958139571,1322822218,1537002063,1747873779,1955562222,2024104815,2227730452,2361852424,2428436474,2756734187,3204031479,3329325298]
theorem xLa:xOg.length=64:=by decide +kernel
structure Gl (w:World):Prop where
 tab : Lib.TabIs prog w "internal/strconv.uint64pow10" .u64 Lib.pow10Tab
 len:∃m:Int,w.cell? ⟨0,0,none⟩=some (.int .i64 m)
 sha : Lib.TabIs prog w "bulletin/sha256.constants" .u32 xOg
 size:prog.globals.size<=w.heap.size
theorem yB9:1<prog.globals.size:=by decide +kernel
theorem yBa:0<prog.globals.size:=by decide +kernel
theorem xAg:2<prog.globals.size:=by decide +kernel
theorem Gl.below {w w':World}(h:Gl w){B:Nat}(hb:Below B w w')(hB:prog.globals.size<=B):Gl w' where
 tab:=by
  have hg : prog.globalNamed "internal/strconv.uint64pow10" = some 1 := by kernel_rfl
  unfold Lib.TabIs;refine var?_below hb hg ?_ h.tab;have:=yB9;omega
 len:=by
  obtain⟨m,hm⟩:=h.len;refine⟨m,(hb.cell (p:=⟨0,0,none⟩) ?_).trans hm⟩;have:=yBa;show 0<B
  omega
 sha:=by
  have hg : prog.globalNamed "bulletin/sha256.constants" = some 2 := by kernel_rfl
  unfold Lib.TabIs;refine var?_below hb hg ?_ h.sha;have:=xAg;omega
 size:=ad_ h.size hb.size
theorem Gl.later {w w'}(h:Gl w)(hb:Below w.heap.size w w'):Gl w':=h.below hb h.size
section
theorem xZ6 (K:Nat->Int):∀(f:Nat) (s:HS) (cs:List UInt8),cs.length<=f->(wrGo K f s cs).n=s.n+cs.length
 |0,s,cs,h=>by
  have:cs.length=0:=by omega
  rw[wrGo,this];rfl
 |f+1,s,cs,h=>by
  rw[wrGo];split
  ·omega
  ·rw[xZ6 K f _ _ (by rw[ao_];omega),ao_];simp only[xA4];omega
theorem yCd (K:Nat->Int)(s cs):(kF K s cs).n=s.n+cs.length:=by
 unfold kF;rw[xZ6 K _ _ _ (aa_ _)];split <;> rfl
noncomputable def sumB (K:Nat->Int)(c:List UInt8):List UInt8:=sumF K (kF K j4 c)
theorem kI (K:Nat->Int)(c):(sumB K c).length=32:=vy _ _
attribute [local go_sem ↓] xCi xB7 xB8 xAb
attribute [local go_sem] xUv xU8 xP6 xOc xh xf xa x9 xu xv xk xj xq xx xt
theorem xGy {w w' g n}(h:xM w g n=true)(hb:Below w.heap.size w w'):xM w' g n=true:=by
 obtain⟨c,T,hc,_⟩:=uZ h;have hl:=(i_ hc).1;unfold xM at h⊢;rw[hb.block _ hl];exact h
theorem yCf (K:Nat->Int)(a c cap W)(hs:SlB W a c)(hK:Sk K W)(hc:c.length<=1000000)(dy:c.length<=cap)(ha:a.block<W.heap.size):
  Calls prog 136 #[.slice (some a) c.length cap] W λe W'=>e=.returned (.agg (encB (sumB K c)).toArray)/\Below W.heap.size W W':=by
 have pp:=h_ hs;have HK:=h_ hK;have eH:=hK.lt;clear hs hK;go_enter func136,ntmps136;go_wp2_with (go_at_call 169;refine(yAx _).mono ?_;rintro e w1 ⟨rfl,ai⟩);have aa:Below W.heap.size W w1:=by rw[ai];exact((ab_ _ _).alloc (aa_ _) _).alloc (by simp) _
 have wo:zt w1 (W.heap.size+1) j4:=by
  have:=yB4 (W.alloc (.cells (encB (List.replicate 32 0)).toArray 269));rw[al_]at this;rw[ai];exact this
 have aV:xM w1 W.heap.size 32=true:=by
  rw[ai];exact qJ _ (zQ _ _ _ _ _ rfl rfl)
 rw[<-ai];clear ai;have ll:SlB w1 a c:=⟨λj u hj=>(aa.cell (by rw[ya];exact ha)).trans (pp.cell j u hj)⟩;refine(xMa K (W.heap.size+1) j4 a c cap w1 wo ll (by omega) dy (by simp[j4];omega) (HK.below aa (aa_ _)) (by omega)).mono ?_;rintro e w2⟨rfl,hg2,Gi⟩;have aj:Below W.heap.size W w2:=xTk aa hg2 aa.size (by omega);have aP:xM w2 W.heap.size 32=true:=by
  have hl:W.heap.size<w1.heap.size:=by have:=wo.lt;omega
  have:=aV;unfold xM at this⊢;rw[hg2.block _ hl (λe=>by injection e with e;omega)];exact this
 have au:=h_ aj;have RR:=h_ Gi;have fu:=h_ aP;clear aj Gi aP hg2 aa wo aV ll;have hn:(kF K j4 c).n<=1000000:=by rw[yCd];simp[j4];omega
 have HN:=h_ hn;clear hn;go_wp2_with (go_at_call 171;refine(yAv K _ _ _ RR.out (HK.below au.out (aa_ _)) HN.out).mono ?_;rintro e w3 ⟨rfl,al⟩;have RS:=xGy fu.out al;have bJ:=xKb (kI K c);unfold sumB at bJ);obtain⟨cs,T,aJ,_⟩:=uZ RS;have r:=xD (setRow_heap w3 W.heap.size cs (encB (sumB K c)).toArray T (0,0) aJ) (show (encB (sumB K c)).toArray.size=32 by rw[qS,kI]);have cY:=xK (au.trans (al.mono au.size)) (aa_ _) (encB (sumB K c)).toArray;refine bodyPost_ret (uf rfl isAgg269 sizeOf269 _ _ ⟨W.heap.size,0,none⟩ (encB (sumB K c)).toArray rfl ?_ ?_) rfl ⟨rfl,cY⟩
 ·exact r.1
 ·exact r.2
def shaK (t:Nat):Int:=xOg.getD t 0
noncomputable def sha (c:List UInt8):List UInt8:=(sumB shaK c).take 16
theorem yZ (c):(sha c).length=16:=by unfold sha;rw[ai_,kI];rfl
def qU (w:World):Prop:=Sk shaK w
theorem xGu (a c cap W)(hs:SlB W a c)(hK:qU W)(hc:c.length<=1000000)(dy:c.length<=cap)(ha:a.block<W.heap.size):
  Calls prog 104 #[.slice (some a) c.length cap] W λe W'=>e=.returned (.agg (encB (sha c)).toArray)/\Below W.heap.size W W':=by
 have pp:=h_ hs;have HK:=h_ hK;clear hs hK;have bJ:=xKb (kI shaK c);go_enter func104,ntmps104;go_wp2_with (go_at_call 136;refine(yCf shaK a c cap _ ⟨λj u hj=>bv_ _ (pp.cell j u hj)⟩ (Sk.below HK.out ((ab_ _ _).alloc (aa_ _) _) (aa_ _)) hc dy (by simp;omega)).mono ?_;rintro e w1 ⟨rfl,aa⟩);have bf:Below W.heap.size W w1:=((ab_ W.heap.size W).alloc (aa_ _) _).trans (aa.mono (by simp));have aV:xM w1 W.heap.size 16=true:=xGy (zQ W _ 222 W.heap.size 16 rfl rfl) aa;have aB:∀w,Sem.run prog (Instr.arrayAt 222 (.slice (some ⟨w1.heap.size,0,none⟩) 16 32)) w=.ok (.pointer (some ⟨w1.heap.size,0,none⟩)) w:=λw=>by
  have hu:prog.underlying 222=some (.array 16 5):=by kernel_rfl
  simp[Instr.arrayAt,run_underlying hu]
 have dS:(w1.alloc (.cells (encB (sumB shaK c)).toArray 269)).heap[w1.heap.size]?=some (.cells (encB (sumB shaK c)).toArray 269 (0,0)):=heap_alloc_new w1 _;have rd:xo (w1.alloc (.cells (encB (sumB shaK c)).toArray 269)) ⟨w1.heap.size,0,none⟩ 16=true/\xm (w1.alloc (.cells (encB (sumB shaK c)).toArray 269)) ⟨w1.heap.size,0,none⟩ 16=(encB (sha c)).toArray:=by
  have:=xW (w:=w1.alloc (.cells (encB (sumB shaK c)).toArray 269)) (a:=⟨w1.heap.size,0,none⟩) (cs:=encB (sha c)) (λj v hj=>by
   rw[an_,aq_,cell_of_row _ _ _ _ _ _ dS,ah_];have fS:j<16:=by
    rcases bi_ j 16 with h|h
    ·exact h
    ·rw[aI_ (by rw[xF,yZ];exact h)]at hj;cases hj
   unfold sha encB at hj;rw[bk_,bx_ fS]at hj;unfold encB;rw[bk_];exact hj)
  rwa [xF,yZ]at this
 have r1:=rd.1;have r2:=rd.2;have aj:Below W.heap.size W (w1.alloc (.cells (encB (sumB shaK c)).toArray 269)):=bf.alloc bf.size _;have aP:xM (w1.alloc (.cells (encB (sumB shaK c)).toArray 269)) W.heap.size 16=true:=qJ _ aV;have Le:=xKb (yZ c);obtain⟨w2,aw⟩:∃w2,w2=w1.alloc (.cells (encB (sumB shaK c)).toArray 269):=⟨_,rfl⟩;rw[<-aw]at r1 r2 aj aP⊢;have au:=h_ aj;clear aa bf aV rd dS aw aj;rw[aB];go_simp;go_wp2;obtain⟨cs,T,aJ,_⟩:=uZ aP;have r:=xD (setRow_heap w2 W.heap.size cs (encB (sha c)).toArray T (0,0) aJ) (show (encB (sha c)).toArray.size=16 by rw[qS,yZ]);have cY:=xK au.out (aa_ _) (encB (sha c)).toArray;refine bodyPost_ret (uf rfl isAgg222 sizeOf222 _ _ ⟨W.heap.size,0,none⟩ (encB (sha c)).toArray rfl ?_ ?_) rfl ⟨rfl,cY⟩
 ·exact r.1
 ·exact r.2
theorem jp {w}(h:Gl w):qU w:=⟨λt ht=>by
 have hg : prog.globalNamed "bulletin/sha256.constants" = some 2 := by kernel_rfl
 exact h.sha.cell hg t (by rw[xLa];exact ht)⟩
end
end Go.Proofs.YtegfbhdkenkkdaaGreatDoor
namespace Go.Proofs.YtegfbhdkenkkdaaGreatDoor
abbrev By:=List UInt8
def beB:Nat->Nat->By
 |0,_=>[]
 |k+1,n=>UInt8.ofNat (n/256 ^ k) :: beB k n
def deB (l:By):Nat:=l.foldl (λn b=>n*256+b.toNat) 0
theorem xe:∀(k n:Nat),(beB k n).length=k
 |0,_=>rfl
 |k+1,n=>by simp[beB,xe k n]
theorem kD (k n x:Nat)(h:k<=n):(beB k x).drop n=[]:=aO_ (by rw[xe];exact h)
theorem xKm:∀(l:By) (a:Nat),l.foldl (λn b=>n*256+b.toNat) a=a*256 ^ l.length+deB l
 |[],a=>by simp[deB]
 |b :: l,a=>by
  have h1:=xKm l (a*256+b.toNat);have h2:=xKm l (0*256+b.toNat);unfold deB at *;simp only[cY_,av_];rw[h1,h2,Nat.pow_succ,bZ_,aq_,Nat.add_mul,Nat.mul_assoc,Nat.mul_comm 256 (256 ^ l.length),Nat.add_assoc]
theorem xTd (b:UInt8)(l:By):deB (b :: l)=b.toNat*256 ^ l.length+deB l:=by
 have:=xKm l b.toNat;simpa[deB]using this
theorem xQ3:∀(l:By),deB l<256 ^ l.length
 |[]=>by simp[deB]
 |b :: l=>by
  rw[xTd,av_,Nat.pow_succ];have h1:=xQ3 l;have h2:=b.toNat_lt;have h3:b.toNat*256 ^ l.length<=255*256 ^ l.length:=cj_ _ (by omega);omega
theorem xA2:∀(k n:Nat),deB (beB k n)=n%256 ^ k
 |0,n=>by simp[beB,deB,Nat.mod_one]
 |k+1,n=>by
  rw[beB,xTd,xe,xA2 k n];have h:(UInt8.ofNat (n/256 ^ k)).toNat=n/256 ^ k%256:=by simp
  rw[h,Nat.pow_succ,Nat.mod_mul,Nat.mul_comm,ed_]
structure qP where
 kind:Int
 gen:Int
 num:Int
 idx:Int
 cnt:Int
 bytes:By
def xAr (kind gen num:Int):Prop:=0<=kind/\kind<=65535/\0<=gen/\gen<=2147483647/\0<=num/\num<=2147483647
def qP.Ok (p:qP):Prop:=
 xAr p.kind p.gen p.num/\1<=p.cnt/\p.cnt<=586/\0<=p.idx/\p.idx<p.cnt/\p.bytes.length<=224 /\
 (p.idx=p.cnt-1->(p.cnt<=1\/0<p.bytes.length)/\p.idx*224+p.bytes.length<=131072)/\(p.idx≠p.cnt-1->p.bytes.length=224)
variable (H:By->By)
def hdB (p:qP):By:=beB 4 p.gen.toNat++beB 4 p.num.toNat++beB 2 p.kind.toNat++beB 2 p.idx.toNat++beB 2 p.cnt.toNat++beB 2 p.bytes.length
def uP (p:qP):By:=hdB p++p.bytes++List.replicate (224-p.bytes.length) 0
def encP (p:qP):By:=H (uP p)++uP p
def rawP (c:By):qP:=⟨deB ((c.drop 8).take 2),deB (c.take 4),deB ((c.drop 4).take 4),deB ((c.drop 10).take 2),deB ((c.drop 12).take 2),(c.drop 16).take (deB ((c.drop 14).take 2))⟩
open Classical in
noncomputable def decC (d c:By):Option qP:=
 if H c=d/\deB ((c.drop 14).take 2)<=224/\(c.drop (16+deB ((c.drop 14).take 2))).all (· == 0)=true/\(rawP c).Ok then some (rawP c)else none
noncomputable def decP (b:By):Option qP:=decC H (b.take 16) (b.drop 16)
theorem j9 (p:qP):(hdB p).length=16:=by simp[hdB,xe]
theorem xQ7 {p:qP}(h:p.bytes.length<=224):(uP p).length=240:=by simp[uP,j9];omega
theorem xT9 (hH:∀c,(H c).length=16){p:qP}(h:p.bytes.length<=224):(encP H p).length=256:=by simp[encP,hH,xQ7 h]
theorem yA1 {p:qP}(h:p.Ok):rawP (uP p)=p:=by
 obtain⟨⟨h1,h3,h4,h5,h6,h7⟩,h8,h9,h10,Gj,hl,_⟩:=h;have e1:(uP p).take 4=beB 4 p.gen.toNat:=by simp[uP,hdB,xe]
 have e2:((uP p).drop 4).take 4=beB 4 p.num.toNat:=by simp[uP,hdB,xe]
 have e3:((uP p).drop 8).take 2=beB 2 p.kind.toNat:=by simp[uP,hdB,xe,kD,bE_]
 have e4:((uP p).drop 10).take 2=beB 2 p.idx.toNat:=by simp[uP,hdB,xe,kD,bE_]
 have e5:((uP p).drop 12).take 2=beB 2 p.cnt.toNat:=by simp[uP,hdB,xe,kD,bE_]
 have e6:((uP p).drop 14).take 2=beB 2 p.bytes.length:=by simp[uP,hdB,xe,kD,bE_]
 have e7:((uP p).drop 16).take p.bytes.length=p.bytes:=by simp[uP,hdB,xe,kD,bE_]
 have f6:deB (beB 2 p.bytes.length)=p.bytes.length:=by rw[xA2];omega
 unfold rawP;rw[e1,e2,e3,e4,e5,e6,f6,e7];simp only[xA2];cases p;simp only[qP.mk.injEq,and_true];simp only at *;refine⟨?_,?_,?_,?_,?_⟩ <;> omega
theorem xI9 (hH:∀c,(H c).length=16){p:qP}(h:p.Ok):decP H (encP H p)=some p:=by
 have hl:=h.2.2.2.2.2.1;have hr:=yA1 h;have e0:(encP H p).drop 16=uP p:=by simp[encP,hH]
 have e1:(encP H p).take 16=H (uP p):=by simp[encP,hH]
 have e6:((uP p).drop 14).take 2=beB 2 p.bytes.length:=by simp[uP,hdB,xe,kD,bE_]
 have f6:deB (beB 2 p.bytes.length)=p.bytes.length:=by rw[xA2];omega
 have hz:(uP p).drop (16+p.bytes.length)=List.replicate (224-p.bytes.length) 0:=by
  rw[<-bP_];simp[uP,hdB,xe,kD,bE_]
 unfold decP;rw[e0,e1];unfold decC;rw[if_pos,hr];rw[e6,f6,hr,hz];exact⟨rfl,hl,by simp,h⟩
theorem yBq:decP H (List.replicate 256 0)=none:=by
 unfold decP decC;refine if_neg ?_;rintro ⟨_,_,_,h⟩;have h1:=h.2.1;have h2:(rawP ((List.replicate 256 (0:UInt8)).drop 16)).cnt=0:=by decide
 omega
structure PRec where
 kind:Int
 gen:Int
 num:Int
 pay:By
def xO (n:Nat):Nat:=max 1 ((n+223)/224)
def zc (r:PRec)(i:Nat):qP:=⟨r.kind,r.gen,r.num,i,xO r.pay.length,(r.pay.drop (i*224)).take 224⟩
def yk (r:PRec):List By:=(List.range (xO r.pay.length)).map λi=>encP H (zc r i)
def PRec.Ok (r:PRec):Prop:=xAr r.kind r.gen r.num/\r.pay.length<=131072
theorem zx (r:PRec):(yk H r).length=xO r.pay.length:=by simp[yk]
theorem xCt {r:PRec}(h:r.Ok){i:Nat}(hi:i<xO r.pay.length):(zc r i).Ok:=by
 obtain⟨h1,h2⟩:=h;have hn:xO r.pay.length<=586:=by unfold xO;omega
 have hl:((r.pay.drop (i*224)).take 224).length=min 224 (r.pay.length-i*224):=by simp
 unfold xO at hi hn;refine⟨h1,?_,?_,?_,?_,?_,λh3=>⟨?_,?_⟩,λh3=>?_⟩
 all_goals (try simp only[zc,xO]at h3)
 all_goals simp only[zc,xO,hl]
 all_goals omega
noncomputable def zO (p0:qP):Nat->List By->Option By
 |0,_=>some []
 |_+1,[]=>none
 |n+1,b :: rest=>match decP H b with
  |none=>none
  |some p=>if p.kind=p0.kind/\p.gen=p0.gen/\p.num=p0.num/\p.cnt=p0.cnt/\p.idx=p0.cnt-(n+1:Nat)then (zO p0 n rest).map (p.bytes ++ ·)else none
noncomputable def uH:List By->Option (PRec×Nat)
 |[]=>none
 |b :: rest=>match decP H b with
  |none=>none
  |some p=>if p.idx=0 then (zO H p (p.cnt.toNat-1) rest).map λl=>(⟨p.kind,p.gen,p.num,p.bytes++l⟩,p.cnt.toNat)else none
theorem xDq (l:By)(a n:Nat):(l.drop a).take n++l.drop (a+n)=l.drop a:=by
 rw[<-bP_];exact bM_ n (l.drop a)
theorem xF9 (hH:∀c,(H c).length=16){r:PRec}(h:r.Ok)(rest:List By):∀(n i:Nat),i+n=xO r.pay.length ->
  zO H (zc r 0) n (((List.range' i n).map λi=>encP H (zc r i))++rest)=some (r.pay.drop (i*224))
 |0,i,hi=>by
  have:r.pay.length<=i*224:=by unfold xO at hi;omega
  simp[zO,aO_ this]
 |n+1,i,hi=>by
  have hp:decP H (encP H (zc r i))=some (zc r i):=xI9 H hH (xCt h (by omega));simp only[dZ_,au_,aK_,zO,hp];rw[if_pos ⟨rfl,rfl,rfl,rfl,by simp only[zc];omega⟩,xF9 hH h rest n (i+1) (by omega)];simp only[aU_,zc,aR_];have e:(i+1)*224=i*224+224:=by omega
  rw[e];exact xDq _ _ _
theorem xPa (hH:∀c,(H c).length=16){r:PRec}(h:r.Ok)(rest:List By):uH H (yk H r++rest)=some (r,xO r.pay.length):=by
 have hn:1<=xO r.pay.length:=by unfold xO;omega
 obtain⟨m,hm⟩:∃m,xO r.pay.length=m+1:=⟨xO r.pay.length-1,by omega⟩;have hp:decP H (encP H (zc r 0))=some (zc r 0):=xI9 H hH (xCt h (by omega));have hs:yk H r=encP H (zc r 0) :: (List.range' 1 m).map λi=>encP H (zc r i):=by
  unfold yk;rw[hm,List.range_eq_range',dZ_];rfl
 have hg:=xF9 H hH h rest m 1 (by omega);rw[hs,aK_];simp only[uH,hp];rw[if_pos (show (zc r 0).idx=0 from rfl)];have e1:(zc r 0).cnt.toNat-1=m:=by simp only[zc];omega
 rw[e1,hg];simp only[aU_,zc,aR_,cw_];refine⟨?_,by omega⟩;cases r
 simp only[PRec.mk.injEq,true_and];exact xDq _ 0 224
noncomputable def ux (gen:Int):Nat->Int->List By->List PRec
 |0,_,_=>[]
 |f+1,num,l=>match uH H l with
  |none=>[]
  |some (r,n)=>if l=[]then []else if r.gen=gen/\r.num=num then r :: ux gen f (num+1) (l.drop n)else []
end Go.Proofs.YtegfbhdkenkkdaaGreatDoor
namespace Go.Proofs.YtegfbhdkenkkdaaGreatDoor
open Go Go.RowKit Go.Proofs Tryz
section
def xEa (l:List UInt8):Bool:=l.all (· == 0)
theorem xWa {a b}(h:a=b):Ending.returned (.bool a)=.returned (.bool b):=by rw[h]
theorem xVp {l:List UInt8}{k}(h:k<l.length)(hb:(l.take k).all (· == 0)=true)(hc:l[k]=0):(l.take (k+1)).all (· == 0)=true:=by
 rw[am_ h,List.all_append,hb];simp[hc]
theorem yBx {l k}(h:k<l.length)(hc:l[k]≠0):xEa l=false:=by
 rw[<-Bool.not_eq_true];intro hb;unfold xEa at hb;rw[aX_]at hb;have:=hb l[k] (bb_ h);exact hc (by simpa using this)
theorem xS8 (a l cap w)(hs:∀p,a=some p->SlB w p l)(hn:a=none->l=[])(hl:l.length<=1000000):
  Calls prog 107 #[.slice a l.length cap] w λe w'=>e=.returned (.bool (xEa l))/\w=w':=by
 have HS:=h_ hs;have HN:=h_ hn;clear hs hn;go_enter func107,ntmps107;go_wp2;go_loop [7] (λi=>∃k:Nat,k<=l.length/\i=.int .i64 k/\(l.take k).all (· == 0)=true) (λi=>l.length-(intOf i).toNat)
 case atStart=>exact⟨0,by omega,rfl,by simp⟩
 case round=>
  obtain⟨k,hk,rfl,hb⟩:=hrel;by_cases hlt:k<l.length
  ·obtain⟨p,rfl⟩:∃p,a=some p:=by
    cases a with
    |none=>have:=HN.out rfl;subst this;simp at hlt
    |some p=>exact⟨p,rfl⟩
   have hc:=(HS.out p rfl).cell k _ (ak_ hlt);have HB:=h_ hb;clear hb;generalize hx:l[k]=x at hc;have HX:=h_ hx;clear hx;by_cases h0:x=0
   ·subst h0;have hn:=h_ (xVp hlt HB.out HX.out);go_wp2;go_round
    case rel=>exact⟨k+1,by omega,by go_num,hn.out⟩
    case measure=>simp[intOf];omega
   ·have hf:=h_ (yBx hlt (by rw[HX.out];exact h0));have fP:((x.toNat:Int)==0)=false:=by
     rw[beq_eq_false_iff_ne];intro e;exact h0 (dA_.1 (by simpa using e))
    have eN:((x.toNat:Int) != 0)=true:=by rw[bne,fP];rfl
    go_wp2;go_ret;exact⟨xWa hf.symm,rfl⟩
  ·have hf:=h_ (show xEa l=true by rw[ar_ (by omega)]at hb;exact hb);clear hb;go_wp2;go_ret;exact⟨xWa hf.symm,rfl⟩
theorem qR (ρ:Operand->Value)(d x)(ty:TypeId)(pos af g w):
  Sem.run prog (execOp ρ ⟨d,.load 167 x,ty,pos,af,g⟩) w=yp prog 167 w (ρ x):=rfl
theorem qz (ρ:Operand->Value)(d x y)(ty:TypeId)(pos af g w):
  Sem.run prog (execOp ρ ⟨d,.store 167 x y,ty,pos,af,g⟩) w=yi prog 167 w (ρ x) (ρ y):=rfl
theorem xCx (w a)(h:xo w a 6=true):yp prog 167 w (.pointer (some a))=.ok (.value (.agg (xm w a 6))) w:=
 yf isAgg167 sizeOf167 w a h
theorem xCq (w g cells)(h:xM w g 6=true)(h2:xy 6 cells=true):
  yi prog 167 w (.pointer (some ⟨g,0,none⟩)) (.agg cells)=.ok .skip (w.setRow g cells):=yo (by kernel_rfl) w g cells h h2
theorem xAc (ρ:Operand->Value)(d x)(ty:TypeId)(pos af g w):
  Sem.run prog (execOp ρ ⟨d,.load 272 x,ty,pos,af,g⟩) w=yp prog 272 w (ρ x):=rfl
theorem xCg (ρ:Operand->Value)(d x y)(ty:TypeId)(pos af g w):
  Sem.run prog (execOp ρ ⟨d,.store 272 x y,ty,pos,af,g⟩) w=yi prog 272 w (ρ x) (ρ y):=rfl
theorem xJo (w a)(h:xo w a 3=true):yp prog 272 w (.pointer (some a))=.ok (.value (.agg (xm w a 3))) w:=
 yf isAgg272 sizeOf272 w a h
theorem xQs (w g cells)(h:xM w g 3=true)(h2:xy 3 cells=true):
  yi prog 272 w (.pointer (some ⟨g,0,none⟩)) (.agg cells)=.ok .skip (w.setRow g cells):=yo (by kernel_rfl) w g cells h h2
theorem jk (ρ:Operand->Value)(d x)(ty:TypeId)(pos af g w):
  Sem.run prog (execOp ρ ⟨d,.load 274 x,ty,pos,af,g⟩) w=yp prog 274 w (ρ x):=rfl
theorem vM (ρ:Operand->Value)(d x y)(ty:TypeId)(pos af g w):
  Sem.run prog (execOp ρ ⟨d,.store 274 x y,ty,pos,af,g⟩) w=yi prog 274 w (ρ x) (ρ y):=rfl
theorem xF7 (w a)(h:xo w a 5=true):yp prog 274 w (.pointer (some a))=.ok (.value (.agg (xm w a 5))) w:=
 yf isAgg274 sizeOf274 w a h
theorem xEi (w g cells)(h:xM w g 5=true)(h2:xy 5 cells=true):
  yi prog 274 w (.pointer (some ⟨g,0,none⟩)) (.agg cells)=.ok .skip (w.setRow g cells):=yo (by kernel_rfl) w g cells h h2
def zg (k g n i c:Int)(v:Value):List Value:=[.int .i64 k,.int .i64 g,.int .i64 n,.int .i64 i,.int .i64 c,v]
theorem xG8 (a b c d e f):kO #[a,b,c,d,e,f] 0 6=true:=rfl
theorem xG5 (a b c d e f):kK #[a,b,c,d,e,f] 0 6=#[a,b,c,d,e,f]:=rfl
theorem yA7 (a b c d e):kO #[a,b,c,d,e] 0 5=true:=rfl
theorem xZz (a b c d e):kK #[a,b,c,d,e] 0 5=#[a,b,c,d,e]:=rfl
theorem yCr (a b c d e):kO #[a,b,c,d,e] 0 3=true:=rfl
theorem yCn (a b c d e):kK #[a,b,c,d,e] 0 3=#[a,b,c]:=rfl
theorem yDx (a b c d e):((#[a,b,c,d,e]:Array Value).size==5)=true:=rfl
theorem xMj (a b c d e f):((#[a,b,c,d,e,f]:Array Value).size==6)=true:=rfl
theorem yBf (a b c d e):xy 5 #[.int .i64 a,.int .i64 b,.int .i64 c,.int .i64 d,.int .i64 e]=true:=by simp[xy,Value.oneCell']
attribute [local go_sem ↓] qR xAc jk vM qz
attribute [local go_sem] xCx xJo xF7 xEi xCq xG8 xG5 yA7 xZz yCr yCn yDx xMj yBf xh xf xa x9 xu xv xk xj xq xx xt
theorem xG6 (k g n i c v W):
  Calls prog 137 #[.agg (zg k g n i c v).toArray] W λe W'=>e=.returned (.agg #[.int .i64 k,.int .i64 g,.int .i64 n,.int .i64 i,.int .i64 c])/\Below W.heap.size W W':=by
 unfold zg;go_enter func137,ntmps137;go_wp2;refine bodyPost_ret (uf rfl isAgg274 sizeOf274 _ _ ⟨W.heap.size+1,0,none⟩ _ rfl ?_ ?_) rfl ⟨rfl,?_⟩
 ·go_simp
 ·go_simp
 ·exact((ab_ _ _).alloc (aa_ _) _).alloc (by simp) _
def xNs (k g n:Int)(W:World)(e:Ending)(W':World):Prop:=∃b,e=.returned (.bool b)/\(b=true↔xAr k g n)/\Below W.heap.size W W'
theorem kg {k g n W W' b}(h:b=true↔xAr k g n)(hb:Below W.heap.size W W'):xNs k g n W (.returned (.bool b)) W':=⟨b,rfl,h,hb⟩
theorem xFy (k g n W):Calls prog 138 #[.agg #[.int .i64 k,.int .i64 g,.int .i64 n]] W (xNs k g n W):=by
 have hb:=h_ (show Below W.heap.size W (W.alloc (.cells #[.int .i64 k,.int .i64 g,.int .i64 n] 272))from (ab_ _ _).alloc (aa_ _) _);by_cases h1:0<=k
 ·by_cases h2:k<=65535
  ·by_cases h3:0<=g
   ·by_cases h4:g<=2147483647
    ·by_cases h5:0<=n
     ·by_cases h6:n<=2147483647
      ·have aD:=h_ (show xAr k g n from ⟨h1,h2,h3,h4,h5,h6⟩);go_enter func138,ntmps138;go_wp2;go_ret;exact kg (by simp[aD.out]) hb.out
      ·have aD:=h_ (show ¬ xAr k g n from λh=>h6 h.2.2.2.2.2);go_enter func138,ntmps138;go_wp2;go_ret;exact kg (by simp[aD.out]) hb.out
     ·have aD:=h_ (show ¬ xAr k g n from λh=>h5 h.2.2.2.2.1);go_enter func138,ntmps138;go_wp2;go_ret;exact kg (by simp[aD.out]) hb.out
    ·have aD:=h_ (show ¬ xAr k g n from λh=>h4 h.2.2.2.1);go_enter func138,ntmps138;go_wp2;go_ret;exact kg (by simp[aD.out]) hb.out
   ·have aD:=h_ (show ¬ xAr k g n from λh=>h3 h.2.2.1);go_enter func138,ntmps138;go_wp2;go_ret;exact kg (by simp[aD.out]) hb.out
  ·have aD:=h_ (show ¬ xAr k g n from λh=>h2 h.2.1);go_enter func138,ntmps138;go_wp2;go_ret;exact kg (by simp[aD.out]) hb.out
 ·have aD:=h_ (show ¬ xAr k g n from λh=>h1 h.1);go_enter func138,ntmps138;go_wp2;go_ret;exact kg (by simp[aD.out]) hb.out
def xGp (p:qP)(W:World)(e:Ending)(W':World):Prop:=∃r:Int,e=.returned (.int .i64 r)/\(r=0↔p.Ok)/\Below W.heap.size W W'
theorem xGh {p W W'}(h:p.Ok)(hb:Below W.heap.size W W'):xGp p W (.returned (.int .i64 0)) W':=⟨0,rfl,by simp[h],hb⟩
theorem vU {p W W' r}(h:¬ p.Ok)(hr:r≠0)(hb:Below W.heap.size W W'):xGp p W (.returned (.int .i64 r)) W':=⟨r,rfl,by simp[h,hr],hb⟩
theorem xNm (p a cap W)(hl:p.bytes.length<=cap):
  Calls prog 108 #[.agg (zg p.kind p.gen p.num p.idx p.cnt (.slice a p.bytes.length cap)).toArray] W (xGp p W):=by
 obtain⟨k,g,n,i,c,bs⟩:=p;simp only at hl⊢;obtain⟨m,hm⟩:∃m,m=bs.length:=⟨_,rfl⟩;have HM:=h_ hm;rw[<-hm]at hl⊢;clear hm;have aD:(⟨k,g,n,i,c,bs⟩:qP).Ok↔xAr k g n/\1<=c/\c<=586/\0<=i/\i<c/\m<=224/\(i=c-1->(c<=1\/0<m)/\i*224+m<=131072)/\(i≠c-1->m=224):=by rw[HM.out];rfl
 generalize (⟨k,g,n,i,c,bs⟩:qP)=P at aD⊢;have iW:=h_ aD;clear aD HM;unfold zg;have dD:Below W.heap.size W (W.alloc (.cells #[.int .i64 k,.int .i64 g,.int .i64 n,.int .i64 i,.int .i64 c,.slice a m cap] 167)):=(ab_ _ _).alloc (aa_ _) _;have iy:=h_ dD;clear dD;go_enter func108,ntmps108;go_wp2_with (go_at_call 137;refine(xG6 _ _ _ _ _ _ _).mono ?_;rintro e w1 ⟨rfl,aa⟩);have eO:=iy.trans (aa.mono (by simp));have JS:w1.heap[W.heap.size]?=some (.cells #[.int .i64 k,.int .i64 g,.int .i64 n,.int .i64 i,.int .i64 c,.slice a m cap] 167 (0,0)):=(aa.block _ (by simp)).trans (heap_alloc_new W _);have dH:W.heap.size<w1.heap.size:=(i_ JS).1;have aj:Below w1.heap.size w1 (w1.alloc (.cells #[.int .i64 k,.int .i64 g,.int .i64 n,.int .i64 i,.int .i64 c] 274)):=(ab_ _ _).alloc (aa_ _) _;have Gk:=aj.block _ dH |>.trans JS
 have Wj:(w1.alloc (.cells #[.int .i64 k,.int .i64 g,.int .i64 n,.int .i64 i,.int .i64 c] 274)).heap[w1.heap.size]?=some (.cells #[.int .i64 k,.int .i64 g,.int .i64 n,.int .i64 i,.int .i64 c] 274 (0,0)):=heap_alloc_new w1 _;have dh:=eO.trans (aj.mono eO.size);refine(xFy _ _ _ _).mono ?_;rintro e w2 ⟨b,rfl,EF,al⟩;have ia:w1.heap.size<(w1.alloc (.cells #[.int .i64 k,.int .i64 g,.int .i64 n,.int .i64 i,.int .i64 c] 274)).heap.size:=by simp
 have Wk:=(al.block _ (by omega)).trans Gk;have RT:=(al.block _ ia).trans Wj;have cU:=h_ (dh.trans (al.mono dh.size));have c5:=cell_of_row w2 W.heap.size 5 _ _ _ Wk;have c3:=cell_of_row w2 w1.heap.size 3 _ _ _ RT;have c4:=cell_of_row w2 w1.heap.size 4 _ _ _ RT;simp only[ah_,ay_,aC_]at c5 c3 c4;have Qm:=h_ EF;clear EF aa eO JS aj Gk Wj dh al Wk RT iy dH ia;cases b with
 |false=>
  have bp:=h_ (show ¬ P.Ok from λh=>by have h:=iW.1 h;have:=Qm.2 h.1;cases this)
  go_wp2;go_ret;exact vU bp.out (by decide) cU.out
 |true=>
  by_cases q0:1<=c
  ·by_cases q1:c<=586
   ·by_cases q2:0<=i
    ·by_cases q3:i<c
     ·by_cases q4:(m:Int)<=224
      ·by_cases q5:i=c-1
       ·subst q5;have q6:(c-1==c-1)=true:=by simp
        by_cases q7:1<c
        ·by_cases q8:m=0
         ·subst q8;have bp:=h_ (show ¬ P.Ok from λh=>by have h:=iW.1 h;have:=(h.2.2.2.2.2.2.1 rfl).1;omega);go_wp2;go_ret;exact vU bp.out (by decide) cU.out
         ·have q9:((m:Int)==0)=false:=by rw[beq_eq_false_iff_ne];omega
          by_cases q10:(c-1)*224+m<=131072
          ·have hy:=h_ (show P.Ok from iW.2 ⟨Qm.1 rfl,q0,q1,q2,q3,by omega,λ_=>⟨.inr (by omega),q10⟩,λh=>absurd rfl h⟩);go_wp2;go_ret;exact xGh hy.out cU.out
          ·skip
           have bp:=h_ (show ¬ P.Ok from λh=>by have h:=iW.1 h;exact q10 (h.2.2.2.2.2.2.1 rfl).2);go_wp2;go_ret;exact vU bp.out (by decide) cU.out
        ·obtain rfl:c=1:=by omega
         have hy:=h_ (show P.Ok from iW.2 ⟨Qm.1 rfl,q0,q1,q2,q3,by omega,λ_=>⟨.inl (by omega),by omega⟩,λh=>absurd rfl h⟩);go_wp2;go_ret;exact xGh hy.out cU.out
       ·have q6:(i==c-1)=false:=by rw[beq_eq_false_iff_ne];exact q5
        by_cases q7:(m:Int)<224
        ·skip
         have bp:=h_ (show ¬ P.Ok from λh=>by have h:=iW.1 h;have:=h.2.2.2.2.2.2.2 q5;omega);go_wp2;go_ret;exact vU bp.out (by decide) cU.out
        ·have hy:=h_ (show P.Ok from iW.2 ⟨Qm.1 rfl,q0,q1,q2,q3,by omega,λh=>absurd h q5,λ_=>by omega⟩);clear q5;go_wp2;go_ret;exact xGh hy.out cU.out
      ·have bp:=h_ (show ¬ P.Ok from λh=>by have h:=iW.1 h;have:=h.2.2.2.2.2.1;omega);go_wp2;go_ret;exact vU bp.out (by decide) cU.out
     ·have bp:=h_ (show ¬ P.Ok from λh=>by have h:=iW.1 h;exact q3 h.2.2.2.2.1);go_wp2;go_ret;exact vU bp.out (by decide) cU.out
    ·have bp:=h_ (show ¬ P.Ok from λh=>by have h:=iW.1 h;exact q2 h.2.2.2.1);go_wp2;go_ret;exact vU bp.out (by decide) cU.out
   ·have bp:=h_ (show ¬ P.Ok from λh=>by have h:=iW.1 h;exact q1 h.2.2.1);go_wp2;go_ret;exact vU bp.out (by decide) cU.out
  ·have bp:=h_ (show ¬ P.Ok from λh=>by have h:=iW.1 h;exact q0 h.2.1);go_wp2;go_ret;exact vU bp.out (by decide) cU.out
end
theorem yEk {a b c d}(h:a=b)(h2:c=d):Ending.returned (.tuple #[.int .i64 a,.int .i64 c])=.returned (.tuple #[.int .i64 b,.int .i64 d]):=by rw[h,h2]
theorem xRq (n:Nat)(W)(hn:n<=131072):
  Calls prog 76 #[.int .i64 n] W λe W'=>e=.returned (.tuple #[.int .i64 (xO n:Nat),.int .i64 0])/\W=W':=by
 have h1:(n:Int)<=131072:=by omega
 have hN:=h_ (show max 1 (((n:Int)+224-1)/224)=((xO n:Nat):Int) by unfold xO;omega);by_cases h0:n=0
 ·subst h0;go_enter func76,ntmps76;go_wp2;go_ret2;exact⟨rfl,rfl⟩
 have h2:1<=((n:Int)+223)/224:=by omega
 go_enter func76,ntmps76;go_wp2;go_ret2;exact⟨yEk hN.out rfl,rfl⟩
theorem yE5 {l r}:(str l=str r)↔l=r:=by
 unfold str;constructor
 ·intro h;injection h with h
  injection h
 ·rintro rfl;rfl
theorem xKv (a b l r ca cb W)(h1:SlB W a l)(h2:SlB W b r):
  Calls prog 105 #[.slice (some a) l.length ca,.slice (some b) r.length cb] W λe W'=>e=.returned (.bool (decide (l=r)))/\W=W':=by
 have dO:=run_convert_bytes_back (P:=prog) W 31 9 5 a ca l underlying31 underlying5 underlying9 (λj hj=>h1.cell j _ (ak_ hj));have gm:=run_convert_bytes_back (P:=prog) W 31 9 5 b cb r underlying31 underlying5 underlying9 (λj hj=>h2.cell j _ (ak_ hj));have hr:=h_ (show decide (str l=str r)=decide (l=r)from decide_eq_decide.2 yE5);clear h1 h2;go_enter func105,ntmps105;go_wp2;go_ret;exact⟨xWa (by rw[bR_];simp),rfl⟩
theorem newB0 (w:World)(B)(hB:B<=w.heap.size):OwnB (w.alloc (.cells #[] 5)) B (.slice (some ⟨w.heap.size,0,none⟩) 0 0) []:=OwnB.new w B [] hB (by simp[maxLen])
theorem kB (a l cap W)(h:SlB W a l)(hl:l.length<=1000000000):
  Calls prog 50 #[.slice (some a) l.length cap] W λe W'=>∃v,e=.returned v/\OwnB W' W.heap.size v l/\v≠.slice none 0 0/\Below W.heap.size W W':=by
 have cd:=newB0 W W.heap.size (aa_ _);have aa:Below W.heap.size W (W.alloc (.cells #[] 5)):=(ab_ _ _).alloc (aa_ _) _;have aK:SlB (W.alloc (.cells #[] 5)) a l:=⟨λj c hj=>bv_ _ (h.cell j c hj)⟩;have HO:=h_ cd;have HS:=h_ aK;have HB:=h_ aa;clear cd aK h aa;have heq:∀w,Sem.run prog (binOp .eql 31 (.slice (some a) l.length cap) (.slice none 0 0)) w=.ok (.bool false) w:=λw=>Lib.run_eql_slice_some_nil w a _ _ underlying31
 go_enter func50,ntmps50;go_wp2_with (at_builtin;refine zE rfl (.tmp 5) (.tmp 6) rfl W.heap.size _ [] rfl HO.out a l cap rfl HS.out ?cA ?cB ?_)
 case cA=>simp;omega
 case cB=>simp
 intro v' w' ho hg hn;have hne:v'≠.slice none 0 0:=hn;have hb:=HB.grown hg (by simp) (λk e=>(HO.lt e).1);have HR:=h_ (And.intro ho (And.intro hne hb));clear ho hg hn hne hb;go_wp2;go_ret;exact⟨v',rfl,HR.out⟩
structure xAs (w:World)(hb ab:Nat)(h:List UInt8)(k:Nat):Prop where
 row:w.heap[hb]?=some (.cells (encB h).toArray 32 (0,0))
 len:h.length=32
 cnt:w.heap[ab]?=some (.cells #[.int .i64 k] 3 (0,0))
 ne:hb<ab
theorem xAs.setB {w hb ab h k}(s:xAs w hb ab h k)(i x):xAs (w.setCell ⟨hb,i,none⟩ (.int .u8 x.toNat)) hb ab (h.set i x) k:=by
 refine⟨?_,by simp[s.len],?_,s.ne⟩
 ·rw[heap_setCell_same w hb i _ _ _ s.row];simp[encB]
 ·rw[heap_setCell_other w ⟨hb,i,none⟩ ab _ (by have:=s.ne;simp;omega)];exact s.cnt
theorem xAs.setK {w hb ab h k}(s:xAs w hb ab h k)(m:Nat):xAs (w.setCell ⟨ab,0,none⟩ (.int .i64 m)) hb ab h m:=by
 refine⟨?_,s.len,?_,s.ne⟩
 ·rw[heap_setCell_other w ⟨ab,0,none⟩ hb _ (by have:=s.ne;simp;omega)];exact s.row
 ·rw[heap_setCell_same w ab 0 _ _ _ s.cnt];rfl
theorem xAs.drew' {w hb ab h k}(s:xAs w hb ab h k):xAs w.drew hb ab h k:=⟨s.row,s.len,s.cnt,s.ne⟩
def putB (h:List UInt8)(k:Nat):List UInt8->List UInt8
 |[]=>h
 |b :: l=>putB (h.set k b) (k+1) l
theorem xXw (h k l b):putB h k (l++[b])=(putB h k l).set (k+l.length) b:=by
 induction l generalizing h k with
 |nil=>simp[putB]
 |cons c l ih=>simp only[aK_,putB,ih,av_];congr 1;omega
theorem vV (k n j)(h:j<k):(beB k n)[j]'(by rw[xe];exact h)=UInt8.ofNat (n/256 ^ (k-1-j)):=by
 induction k generalizing j with
 |zero=>omega
 |succ k ih=>
  cases j with
  |zero=>simp[beB]
  |succ j=>
   simp only[beB,List.getElem_cons_succ];rw[ih j (by omega)];congr 3;omega
theorem vd (n i):((UInt8.ofNat (n/256 ^ i)).toNat:Int)=(n:Int)/2 ^ (8*i)%256:=by
 rw[bO_];have e2:(2:Nat) ^ (8*i)=256 ^ i:=by rw[Nat.pow_mul]
 have e3:(2:Int) ^ (8*i)=((256 ^ i:Nat):Int):=by rw[<-e2];simp
 rw[e3];omega
theorem ja (hb ab h)(k n sz:Nat)(W)(hs:xAs W hb ab h k)(aI:sz<=8)(hk:k+sz<=32)(hn:n<=4611686018427387904):
  Calls prog 172 #[.int .i64 n,.int .i64 sz,.pointer (some ⟨hb,0,none⟩),.pointer (some ⟨ab,0,none⟩)] W λe W'=>e=.returned (.tuple #[])/\xAs W' hb ab (putB h k (beB sz n)) (k+sz)/\Below hb W W':=by
 have HS:=h_ hs;clear hs;go_enter func172,ntmps172;go_wp2;go_loopw [6] (λi wr=>∃j:Nat,j<=sz/\i=.int .i64 ((sz:Int)-1-j)/\xAs wr hb ab (putB h k ((beB sz n).take j)) (k+j)/\Below hb W wr) (λi _=>(intOf i+1).toNat)
 case atStart=>exact⟨0,by omega,by go_num,HS.out,ab_ _ _⟩
 case round=>
  obtain⟨j,hj,rfl,ax,b9⟩:=hrel;by_cases hlt:j<sz
  ·obtain⟨i,hi⟩:∃i:Nat,i=sz-1-j:=⟨_,rfl⟩;have hi2:(sz:Int)-1-j=(i:Int):=by omega
   rw[hi2];have hx:=vd n i;generalize be:UInt8.ofNat (n/256 ^ i)=b at hx;have bj:putB h k ((beB sz n).take (j+1))=(putB h k ((beB sz n).take j)).set (k+j) b:=by
    have ao:((beB sz n).take j).length=j:=by rw[ai_,xe];omega
    rw[am_ (by rw[xe];exact hlt),xXw,ao,vV sz n j hlt,<-hi,be]
   obtain⟨hh,gT⟩:∃q,q=putB h k ((beB sz n).take j):=⟨_,rfl⟩;rw[<-gT]at ax bj;have c1:=cell_of_row wr ab 0 _ _ _ ax.cnt;have c2:=frozen_of_row wr ab 0 _ _ ax.cnt;have d0:=cell_of_row wr hb (k+j) _ _ _ ax.row;have d2:=frozen_of_row wr hb (k+j) _ _ ax.row;rw[ah_,qZ hh (k+j) (by rw[ax.len];omega)]at d0;simp only[v_]at c1;obtain⟨od,d1⟩:∃od:Value,wr.cell? ⟨hb,k+j,none⟩=some od:=⟨_,d0⟩;clear d0;have e1:(((k+j:Nat)):Int)=(k:Int)+j:=by omega
   have b1:(0:Int)<=8*(i:Int):=by omega
   have b2:8*(i:Int)<=64:=by omega
   have b3:(n:Int)<=4611686018427387904:=by omega
   have dx:=(ax.setB (k+j) b).drew';rw[hx]at dx;have n5:=h_ b9;have HX:=h_ hx;have ed:=h_ bj;have aO:=h_ ax;have fQ:=h_ dx;have HI:=h_ hi;clear hx bj ax dx b9 hi be gT;go_upto_region 3 with (fail)
   refine xp [0,1,2,3,4,5,6] [7] (λw'=>w'=wr.drew) (by kernel_rfl) (by kernel_rfl) (by kernel_rfl) rfl ?_;simp only[o_]
   repeat (go_big_quiet_step (fail))
   refine wpQuiet_nil ?_;refine xB [7] _ _ (by kernel_rfl) ?_;simp only[o_];go_wp2;refine ag_ ?_;have sq:=fQ.setK (k+j+1);have al:Below hb W (wr.setCell ⟨hb,k+j,none⟩ (.int .u8 ((n:Int)/2 ^ (8*i)%256))).drew:=(n5.setCell (aa_ _) _).drew;have dO:=cell_of_row _ ab 0 _ _ _ fQ.cnt;have gm:=frozen_of_row _ ab 0 _ _ fQ.cnt;simp only[v_]at dO;rw[e1]at dO;generalize (wr.setCell ⟨hb,k+j,none⟩ (.int .u8 ((n:Int)/2 ^ (8*i)%256))).drew=w5 at sq al dO gm⊢;rw[show (((k+j+1:Nat)):Int)=(k:Int)+j+1 by omega]at sq;have cF:=h_ sq;have ay:=h_ al;have C9:(k:Int)+j<=32:=by omega
   clear c1 c2 d1 d2 sq al;go_wp2;go_roundw
   case rel=>
    refine⟨j+1,by omega,?_,?_,ay.setCell (bB_ aO.ne) _⟩
    ·go_num
    ·rw[ed.out];exact cF.out
   case measure=>simp[intOf]
  ·obtain rfl:j=sz:=by omega
   have aO:=h_ ax;have lY:=h_ b9;have hi2:(j:Int)-1-j=-1:=by omega
   rw[hi2];clear ax b9;go_wp2;go_end0;refine⟨rfl,?_,lY.out⟩;have:=aO.out;rw[ar_ (by rw[xe];omega)]at this;exact this
theorem xOu (n c:Nat)(hn:n<1099511627776)(hc:c<256):bits .or .i64 ((n:Int)*256) (c:Int)=((n*256+c:Nat):Int):=by
 have hx:n*256 ||| c=n*256+c:=by
  have:=dK_ (i:=8) (b:=c) (by omega) n;rw[show (2:Nat) ^ 8*n=n*256 by omega]at this;exact this.symm
 have h1:(BitVec.ofInt 64 ((n:Int)*256)).toNat=n*256:=by
  rw[show (n:Int)*256=((n*256:Nat):Int) by omega,cN_,dd_];exact cA_ (by omega)
 have h2:(BitVec.ofInt 64 (c:Int)).toNat=c:=by
  rw[cN_,dd_];exact cA_ (by omega)
 show IntKind.i64.wrap ((BitVec.ofInt 64 ((n:Int)*256) ||| BitVec.ofInt 64 (c:Int)).toNat:Int)=_
 rw[BitVec.toNat_or,h1,h2,hx];exact dO_ _ (by omega)
theorem xAl (l b):deB (l++[b])=deB l*256+b.toNat:=by simp[deB,List.foldl_append]
theorem jX (l)(h:l.length<=4):deB l<4294967296:=by
 have h1:=xQ3 l;have h2:256 ^ l.length<=256 ^ 4:=dw_ (by decide) h;have h3:(256:Nat) ^ 4=4294967296:=by decide
 omega
theorem xVk (sb ab a c)(cap k sz:Nat)(W)(hc:c.length=256)(dy:256<=cap)(cZ:W.heap[sb]?=some (.cells #[.slice (some a) 256 cap] 31 (0,0)))
  (hab:W.heap[ab]?=some (.cells #[.int .i64 k] 3 (0,0))) (hs:SlB W a c) (hne:sb≠ab) (JT:a.block≠ab) (aI:sz<=4) (hk:k+sz<=256):
  Calls prog 106 #[.int .i64 sz,.pointer (some ⟨sb,0,none⟩),.pointer (some ⟨ab,0,none⟩)] W λe W'=>e=.returned (.int .i64 (deB ((c.drop k).take sz):Nat))/\W.grownBy W' (some ab)/\W'.heap[ab]?=some (.cells #[.int .i64 ((k+sz:Nat):Int)] 3 (0,0)):=by
 have ZB:=h_ hab;have pq:=h_ cZ;have HS:=h_ hs;clear hab cZ hs;go_enter func106,ntmps106;go_wp2;go_loopw [5,7] (λn i wr=>∃j:Nat,j<=sz/\i=.int .i64 j/\n=.int .i64 (deB ((c.drop k).take j):Nat)/\W.grownBy wr (some ab)/\wr.heap[ab]?=some (.cells #[.int .i64 ((k+j:Nat):Int)] 3 (0,0))) (λ_ i _=>sz-(intOf i).toNat)
 case atStart=>exact⟨0,by omega,rfl,by simp[deB],xWl _ _,ZB.out⟩
 case round=>
  obtain⟨j,hj,rfl,rfl,hg,mY⟩:=hrel;by_cases hlt:j<sz
  ·have Wl:(j:Int)<sz:=by omega
   have c1:=cell_of_row wr ab 0 _ _ _ mY;have c2:=frozen_of_row wr ab 0 _ _ mY;have Lf:=(hg.block sb (i_ pq.out).1 (λe=>hne (by cases e;rfl))).trans pq.out;have c3:=cell_of_row wr sb 0 _ _ _ Lf;simp only[v_]at c1 c3;have Lg:k+j<c.length:=by omega
   have c4:=xPf hg (by rw[ya];exact JT) (HS.cell (k+j) _ (ak_ Lg));have hd:deB ((c.drop k).take (j+1))=deB ((c.drop k).take j)*256+(c[k+j]'Lg).toNat:=by
    rw[am_ (by rw[ao_];omega),xAl,cn_]
   have mZ:=jX ((c.drop k).take j) (by rw[ai_];omega);generalize c[k+j]'Lg=b at c4 hd;have sr:=b.toNat_lt;obtain⟨n,hn⟩:∃n,n=deB ((c.drop k).take j):=⟨_,rfl⟩;rw[<-hn]at hd mZ⊢;have C_:=xOu n b.toNat (by omega) (by omega);rw[<-hd]at C_;have HN:=h_ hn;have HG:=h_ hg;have HC:=h_ mY;have e1:(((k+j:Nat)):Int)=(k:Int)+j:=by omega
   have b0:(n:Int)<4294967296:=by omega
   have b1:(k:Int)+j<256:=by omega
   have b2:k+j<256:=by omega
   have b3:(256:Int)<=cap:=by omega
   clear hn hg mY hd Lf mZ;rw[e1]at c1;go_wp2;go_roundw
   case rel=>
    refine⟨j+1,by omega,by go_num,rfl,ut HG.out (xK4 wr ab 0 _),?_⟩;rw[heap_setCell_same wr ab 0 _ _ _ HC.out,show (((k+(j+1):Nat)):Int)=(k:Int)+j+1 by omega];rfl
   case measure=>simp[intOf];omega
  ·obtain rfl:j=sz:=by omega
   have HG:=h_ hg;have HC:=h_ mY;clear hg mY;go_wp2;go_ret;exact⟨rfl,HG.out,HC.out⟩
section
theorem yA2 (h k l)(hk:k+l.length<=h.length):putB h k l=lay h k l:=by
 induction l generalizing h k with
 |nil=>simp[putB,lay]
 |cons b l ih=>
  rw[av_]at hk;rw[putB,ih _ _ (by simp;omega)];unfold lay;rw[am_ (by simp;omega),List.take_set_of_le (by omega),List.drop_set_of_lt (by omega)];simp[ed_,Nat.add_left_comm]
theorem jr (h k l r):putB (putB h k l) (k+l.length) r=putB h k (l++r):=by
 induction l generalizing h k with
 |nil=>rfl
 |cons b l ih=>
  simp only[putB,aK_,av_];rw[<-ih,show k+1+l.length=k+(l.length+1) by omega]
def yG (n:Nat):List UInt8:=List.replicate n 0
theorem xDw (L cs off):splice (encB L) off (encB cs)=encB (lay L off cs):=by
 simp[splice,lay,encB]
theorem xOi (p)(_h:p.bytes.length<=224):lay (lay (lay (yG 256) 0 (yG 16++hdB p)) 32 p.bytes) 0 (sha ((lay (lay (yG 256) 0 (yG 16++hdB p)) 32 p.bytes).drop 16))=encP sha p:=by
 have e1:lay (yG 256) 0 (yG 16++hdB p)=yG 16++hdB p++yG 224:=by
  simp[lay,yG,j9]
 have e2:lay (yG 16++hdB p++yG 224) 32 p.bytes=yG 16++uP p:=by
  have hA:(yG 16++hdB p).length=32:=by simp[yG,j9]
  have hz:List.drop (32+p.bytes.length) (yG 16++hdB p++yG 224)=List.replicate (224-p.bytes.length) 0:=by
   rw[<-bP_,List.drop_left' hA];unfold yG;rw[List.drop_replicate]
  unfold lay;rw[hz,List.take_left' hA];simp[uP]
 rw[e1,e2];have e3:(yG 16++uP p).drop 16=uP p:=by simp[yG]
 rw[e3];simp[lay,encP,yZ,yG]
theorem xY7 (p):putB (putB (putB (putB (putB (putB (yG 32) 16 (beB 4 p.gen.toNat)) 20 (beB 4 p.num.toNat)) 24 (beB 2 p.kind.toNat)) 26 (beB 2 p.idx.toNat)) 28 (beB 2 p.cnt.toNat)) 30 (beB 2 p.bytes.length)=yG 16++hdB p:=by
 have h1:=jr (yG 32) 16 (beB 4 p.gen.toNat) (beB 4 p.num.toNat);have h2:=jr (yG 32) 16 (beB 4 p.gen.toNat++beB 4 p.num.toNat) (beB 2 p.kind.toNat);have h3:=jr (yG 32) 16 (beB 4 p.gen.toNat++beB 4 p.num.toNat++beB 2 p.kind.toNat) (beB 2 p.idx.toNat);have h4:=jr (yG 32) 16 (beB 4 p.gen.toNat++beB 4 p.num.toNat++beB 2 p.kind.toNat++beB 2 p.idx.toNat) (beB 2 p.cnt.toNat);have h5:=jr (yG 32) 16 (beB 4 p.gen.toNat++beB 4 p.num.toNat++beB 2 p.kind.toNat++beB 2 p.idx.toNat++beB 2 p.cnt.toNat) (beB 2 p.bytes.length);simp only[af_,xe,Nat.reduceAdd]at h1 h2 h3 h4 h5;rw[h1,h2,h3,h4,h5,yA2 _ _ _ (by simp[yG,xe])];simp[lay,yG,hdB,xe]
theorem xY6 (w:World):xAs ((w.alloc (.cells (encB (yG 32)).toArray 32)).alloc (.cells #[.int .i64 16] 3)) w.heap.size (w.heap.size+1) (yG 32) 16:=by
 refine⟨?_,by simp[yG],?_,by omega⟩
 ·simp only[yA,al_];rw[if_neg (by omega),if_pos trivial]
 ·simp only[yA,al_];rw[if_pos trivial];rfl
theorem xJh (n:Nat)(z:Int)(hz:z=n)(hn:n<=1099511627776)(w):Sem.run prog (Instr.makeSlice 31 (.int .i64 z) (.int .i64 z)) w=.ok (.slice (some ⟨w.heap.size,0,none⟩) n n) (w.alloc (.cells (encB (yG n)).toArray 5)):=by
 obtain⟨i0,hi,bd,aL,bk⟩:=info_parts Tryz.info_byte;subst hz;rw[run_make w 31 5 i0 (.int .u8 0) underlying31 hi bd .i64 .i64 n n (by omega) (by omega) (by rw[bk];omega) (by omega)];rw[be_,aL,bz_];congr 3;apply dL_
 ·simp[size_madeCells,yG,encB]
 ·intro k h1 h2;simp[madeCells,Value.cells,encB,yG,Nat.mod_one]
theorem yBk {w a l g off}(h:∀q,a=some q->SlB w q l)(hn:a=none->l=[]):
  0<(encB l).length->some (⟨g,off,none⟩:Addr)=some ⟨g,off,none⟩/\∃ad,a=some ad/\∀j v,(encB l)[j]?=some v->w.cell? (ad.add j)=some v:=by
 intro h0;refine⟨rfl,?_⟩;cases a with
 |none=>rw[hn rfl]at h0;simp[encB]at h0
 |some q=>
  refine⟨q,rfl,λj v hj=>?_⟩;have hl:j<l.length:=by
   rcases bi_ j l.length with h|h
   ·exact h
   ·rw[aI_ (by rw[xF];exact h)]at hj;cases hj
  rw[qZ l j hl]at hj;cases hj;exact(h q rfl).cell j _ (ak_ hl)
theorem xr {P}{c:Code}{Q:Exit->Act->World->Prop}{a w w'}(h:w'=w)(hw:c.wp P Q a w'):c.wp P Q a w:=h▸hw
attribute [local go_sem ↓] qR qz xB8 xAb
attribute [local go_sem] xCx xCq xP6 xOc xG8 xG5 xMj xh xf xa x9 xu xv xk xj xq xx xt
theorem xKk (p)(aD:p.Ok)(a cap W)(hK:qU W)(hl:p.bytes.length<=cap)(hs:∀q,a=some q->SlB W q p.bytes/\q.block<W.heap.size)(hn:a=none->p.bytes=[]):
  Calls prog 139 #[.agg (zg p.kind p.gen p.num p.idx p.cnt (.slice a p.bytes.length cap)).toArray] W λe W'=>∃g,e=.returned (.tuple #[.slice (some ⟨g,0,none⟩) 256 256,.int .i64 0])/\W.heap.size<=g/\W'.heap[g]?=some (.cells (encB (encP sha p)).toArray 5 (0,0))/\Below W.heap.size W W':=by
 have n9:=xOi p aD.2.2.2.2.2.1;have Ac:=xY7 p;have nQ:=aD.2.2.2.2.2.1;obtain⟨kn,EG⟩:∃n:Nat,p.kind=n:=⟨p.kind.toNat,by have:=aD.1.1;omega⟩;obtain⟨gn,lZ⟩:∃n:Nat,p.gen=n:=⟨p.gen.toNat,by have:=aD.1.2.2.1;omega⟩;obtain⟨nn,eW⟩:∃n:Nat,p.num=n:=⟨p.num.toNat,by have:=aD.1.2.2.2.2.1;omega⟩;obtain⟨ix,tq⟩:∃n:Nat,p.idx=n:=⟨p.idx.toNat,by have:=aD.2.2.2.1;omega⟩;obtain⟨cn,hcn⟩:∃n:Nat,p.cnt=n:=⟨p.cnt.toNat,by have:=aD.2.1;omega⟩;have pe:=xNm p a cap (W.alloc (.cells #[.int .i64 p.kind,.int .i64 p.gen,.int .i64 p.num,.int .i64 p.idx,.int .i64 p.cnt,.slice a p.bytes.length cap] 167)) hl;unfold zg at pe⊢;have b1:gn<=2147483647:=by have:=aD.1.2.2.2.1;omega
 have b2:nn<=2147483647:=by have:=aD.1.2.2.2.2.2;omega
 have b3:kn<=65535:=by have:=aD.1.2.1;omega
 have b4:cn<=586:=by have:=aD.2.2.1;omega
 have b5:ix<=586:=by have:=aD.2.2.2.2.1;omega
 rw[EG,lZ,eW,tq,hcn]at pe⊢;rw[EG,lZ,eW,tq,hcn]at Ac;simp only[be_]at Ac;obtain⟨m,hm⟩:∃m,m=p.bytes.length:=⟨_,rfl⟩;rw[<-hm]at pe Ac hl nQ⊢;have iH:=h_ n9;have Lh:=h_ Ac;have n_:=h_ pe;have HK:=h_ hK;have HM:=h_ hm;have iW:=h_ aD;have HS:=h_ hs;have HN:=h_ hn;clear n9 Ac EG lZ eW tq hcn pe hK hm aD hs hn;go_enter func139,ntmps139;go_wp2_with fail;refine n_.mono ?_;rintro e w1 ⟨r,rfl,hr,aa⟩;obtain rfl:r=0:=hr.2 iW.out;have JS:=(aa.block W.heap.size (by simp)).trans (heap_alloc_new W _);have eO:Below W.heap.size W w1:=((ab_ W.heap.size W).alloc (aa_ _) _).trans (aa.mono (by simp));have pr:=h_ JS;have ar:=h_ eO;clear JS eO hr aa n_;go_upto_region 7 with (fail)
 have fw:=xY6 w1;have bz:Below w1.heap.size w1 ((w1.alloc (.cells (encB (yG 32)).toArray 32)).alloc (.cells #[.int .i64 16] 3)):=((ab_ _ _).alloc (aa_ _) _).alloc (by simp) _;have dH:=h_ ((i_ pr.out).1);obtain⟨w2,aw⟩:∃w2,w2=(w1.alloc (.cells (encB (yG 32)).toArray 32)).alloc (.cells #[.int .i64 16] 3):=⟨_,rfl⟩;rw[<-aw]at fw bz;refine xr aw ?_;obtain⟨hd,EH⟩:∃q,q=w1.heap.size:=⟨_,rfl⟩;rw[<-EH]at fw bz dH⊢;have ZC:=h_ bz;have C8:=h_ ((bz.block _ dH.out).trans pr.out);have eU:=h_ fw;have au:=h_ (ar.trans ((EH▸bz).mono ar.size));clear fw bz aw EH;have c1:=cell_of_row w2 W.heap.size 1 _ _ _ C8.out;simp only[ah_,ay_,aC_]at c1;go_wp2_with fail;refine(ja hd (hd+1) (yG 32) 16 gn 4 w2 eU.out (by omega) (by omega) (by omega)).mono ?_;rintro e w3⟨rfl,ax,aG⟩;have Cw:=h_ ((aG.block _ dH.out).trans C8.out);have ay:=h_ (au.trans (aG.mono (bB_ dH.out)));have ej:=h_ ax;clear ax aG c1;have c1:=cell_of_row w3 W.heap.size 2 _ _ _ Cw.out;simp only[ah_,ay_,aC_]at c1;go_wp2_with fail;refine(ja hd (hd+1) (putB (yG 32) 16 (beB 4 gn)) 20 nn 4 w3 ej.out (by omega) (by omega) (by omega)).mono ?_
 rintro e w4⟨rfl,ax,aG⟩;have iG:=h_ ((aG.block _ dH.out).trans Cw.out);have bt:=h_ (ay.trans (aG.mono (bB_ dH.out)));have em:=h_ ax;clear ax aG c1;have c1:=cell_of_row w4 W.heap.size 0 _ _ _ iG.out;simp only[ah_,ay_,aC_]at c1;go_wp2_with fail;refine(ja hd (hd+1) (putB (putB (yG 32) 16 (beB 4 gn)) 20 (beB 4 nn)) 24 kn 2 w4 em.out (by omega) (by omega) (by omega)).mono ?_;rintro e w5⟨rfl,ax,aG⟩;have ED:=h_ ((aG.block _ dH.out).trans iG.out);have aU:=h_ (bt.trans (aG.mono (bB_ dH.out)));have Li:=h_ ax;clear ax aG c1;have c1:=cell_of_row w5 W.heap.size 3 _ _ _ ED.out;simp only[ah_,ay_,aC_]at c1;go_wp2_with fail;refine(ja hd (hd+1) (putB (putB (putB (yG 32) 16 (beB 4 gn)) 20 (beB 4 nn)) 24 (beB 2 kn)) 26 ix 2 w5 Li.out (by omega) (by omega) (by omega)).mono ?_;rintro e w6⟨rfl,ax,aG⟩;have EI:=h_ ((aG.block _ dH.out).trans ED.out);have fb:=h_ (aU.trans (aG.mono (bB_ dH.out)));have tr:=h_ ax;clear ax aG c1;have c1:=cell_of_row w6 W.heap.size 4 _ _ _ EI.out;simp only[ah_,ay_,aC_]at c1;go_wp2_with fail;refine(ja hd (hd+1) (putB (putB (putB (putB (yG 32) 16 (beB 4 gn)) 20 (beB 4 nn)) 24 (beB 2 kn)) 26 (beB 2 ix)) 28 cn 2 w6 tr.out (by omega) (by omega) (by omega)).mono ?_
 rintro e w7⟨rfl,ax,aG⟩;have Cy:=h_ ((aG.block _ dH.out).trans EI.out);have fA:=h_ (fb.trans (aG.mono (bB_ dH.out)));have lp:=h_ ax;clear ax aG c1;have c1:=cell_of_row w7 W.heap.size 5 _ _ _ Cy.out;simp only[ah_,ay_,aC_]at c1;go_wp2_with fail;refine(ja hd (hd+1) (putB (putB (putB (putB (putB (yG 32) 16 (beB 4 gn)) 20 (beB 4 nn)) 24 (beB 2 kn)) 26 (beB 2 ix)) 28 (beB 2 cn)) 30 m 2 w7 lp.out (by omega) (by omega) (by omega)).mono ?_;rintro e w8⟨rfl,ax,aG⟩;have Lj:=h_ ((aG.block _ dH.out).trans Cy.out);have gB:=h_ (fA.trans (aG.mono (bB_ dH.out)));rw[Lh.out]at ax;have m5:=h_ ax;clear ax aG c1 Lh pr C8 Cw iG ED EI Cy ar au ay bt aU fb fA eU ej em Li tr lp ZC b1 b2 b3 b4 b5;have Cx:=xJh 256 256 rfl (by omega) w8;go_upto_region 14 with (fail)
 clear Cx;obtain⟨w9,fV⟩:∃w9,w9=w8.alloc (.cells (encB (yG 256)).toArray 5):=⟨_,rfl⟩;refine xr fV ?_;obtain⟨g,hg⟩:∃g,g=w8.heap.size:=⟨_,rfl⟩;have ah:w9.heap[g]?=some (.cells (encB (yG 256)).toArray 5 (0,0)):=by rw[fV,hg];exact heap_alloc_new w8 _
 have fc:Below g w8 w9:=by rw[fV,hg];exact b_ _ _
 have Wm:w9.heap.size=g+1:=by rw[fV,hg,al_]
 have JU:hd+1<g:=by rw[hg];exact(i_ m5.cnt).1
 rw[<-hg];have Lk:=h_ ((fc.block _ (by have:=dH.out;omega)).trans Lj.out);have fW:=h_ (gB.trans (fc.mono (by have:=dH.out;omega)));have eR:w9.heap[hd]?=some (.cells (encB (yG 16++hdB p)).toArray 32 (0,0)):=(fc.block _ (by omega)).trans m5.row;have gt:=h_ eR;have bX:=h_ ah;have ZD:=h_ Wm;have Wn:=h_ JU;have HG:=h_ hg;clear fV hg ah fc Wm JU eR;have iz:0<(encB (yG 16++hdB p)).length->some (⟨g,0,none⟩:Addr)=some ⟨g,0,none⟩/\∃ad,some (⟨hd,0,none⟩:Addr)=some ad/\∀j v,(encB (yG 16++hdB p))[j]?=some v->w9.cell? (ad.add j)=some v:=λ_=>⟨rfl,_,rfl,λj v hj=>by
  rw[an_,aq_,cell_of_row _ _ _ _ _ _ gt.out,ah_];exact hj⟩
 have Ll:=h_ iz;have az:(encB (yG 16++hdB p)).length=Nat.min 32 256:=by rw[xF];simp[yG,j9]
 have cz:=h_ az;clear iz az;go_wp2_with (refine wpList_copy_splice (o:=⟨some 44,_,_,_,_,_⟩) rfl (.tmp 42) (.tmp 43) 31 31 rfl 5 underlying31 (by kernel_rfl) (some ⟨g,0,none⟩) (some ⟨hd,0,none⟩) 256 256 32 32 rfl rfl g 0 (encB (yG 256)) _ bX.out (encB (yG 16++hdB p)) cz.out Ll.out ?_ (ue _) g w9 (ab_ _ _) (aa_ _) ?_)
 ·rw[xF,xF];simp[yG,j9]
 intro bn l7 dT;rw[xDw]at l7;have JU:=Wn.out;have Ad:=dH.out;have Ae:=h_ ((dT.block W.heap.size (by omega)).trans Lk.out);have iI:=h_ (fW.trans (dT.mono (by omega)));obtain⟨L1,pL⟩:∃q,q=lay (yG 256) 0 (yG 16++hdB p):=⟨_,rfl⟩;rw[<-pL]at l7;have Lm:L1.length=256:=by rw[pL,xAx (by simp[yG,j9])];simp[yG]
 have Da:=h_ pL;have Db:=h_ l7.out;have Af:∀q,a=some q->SlB bn q p.bytes:=λq hq=>⟨λj c hj=>(dT.cell (by rw[ya];have:=(HS.out q hq).2;omega)).trans ((fW.cell (by rw[ya];exact(HS.out q hq).2)).trans ((HS.out q hq).1.cell j c hj))⟩
 have Dc:=h_ Af;have Gm:=h_ Lm;have RU:=h_ (show g<bn.heap.size by have:=dT.size;have:=ZD.out;omega);clear l7 dT JU Ad pL Af Lm gt bX Ll cz Lk fW Lj gB m5;go_upto_region 15 with (fail)
 have c1:=cell_of_row bn W.heap.size 5 _ _ _ Ae.out;simp only[ah_,ay_,aC_]at c1;refine xp [0,1,2,3] [4] (λw'=>w'=bn.drew) (by kernel_rfl) (by kernel_rfl) (by kernel_rfl) rfl ?_;simp only[o_]
 repeat (go_big_quiet_step (fail))
 refine wpQuiet_nil ?_;refine xB [4] _ _ (by kernel_rfl) ?_;simp only[o_];clear c1;have aA:=h_ (show (encB p.bytes).length=Nat.min m 224 by rw[xF,<-HM.out];exact(cd_ nQ).symm);refine wpList_copy_splice rfl (.tmp 46) (.tmp 48) 31 31 rfl 5 underlying31 (by kernel_rfl) (some ⟨g,32,none⟩) a 224 224 m cap rfl rfl g 32 (encB L1) _ Db.out (encB p.bytes) aA.out (yBk (w:=bn.drew) (λq hq=>⟨(Dc.out q hq).cell⟩) HN.out) ?_ (ue _) g bn.drew (ab_ _ _) (aa_ _) ?_
 ·rw[xF,xF,Gm.out,<-HM.out];omega
 intro aW l9 Ag;rw[xDw]at l9;have Ah:Below g bn aW:=(ab_ g bn).drew.trans Ag;have Gn:(lay L1 32 p.bytes).length=256:=by rw[xAx (by rw[Gm.out,<-HM.out];omega)];exact Gm.out
 have gu:=h_ (show W.heap.size<g by have:=Wn.out;have:=dH.out;omega);have ic:=h_ (iI.trans (Ah.mono (bB_ gu.out)));obtain⟨L2,my⟩:∃q,q=lay L1 32 p.bytes:=⟨_,rfl⟩;rw[<-my]at l9 Gn;have Gp:=h_ (show g<aW.heap.size by have:=Ah.size;have:=RU.out;omega);have EJ:SlB aW ⟨g,16,none⟩ (L2.drop 16):=⟨λj c hj=>by
  rw[an_,cell_of_row _ _ _ _ _ _ l9.out,ah_];rw[cg_]at hj;unfold encB;rw[bk_,hj];rfl⟩
 have pP:=xGu ⟨g,16,none⟩ (L2.drop 16) 240 aW EJ (HK.below ic.out (aa_ _)) (by rw[ao_];omega) (by rw[ao_];omega) Gp.out;rw[show (L2.drop 16).length=240 by rw[ao_];omega]at pP;have Ai:=h_ pP;have Ln:=h_ l9.out;have wk:=h_ my;have RV:=h_ Gn;clear pP l9 my Gn Ag Ah EJ aA Db iI Ae Dc;go_wp2;refine ag_ ?_;go_wp2_with fail;refine Ai.mono ?_;rintro e w12 ⟨rfl,ak⟩;obtain⟨D,hD⟩:∃q,q=sha (L2.drop 16):=⟨_,rfl⟩;rw[<-hD];have wq:D.length=16:=by rw[hD];exact yZ _
 have HD:=h_ hD;have Qo:=h_ wq;have bJ:=xKb wq;have dU:=h_ (ic.trans (ak.mono ic.size));have Lo:=h_ ((ak.block _ Gp.out).trans Ln.out);have su:=ak.size;have Lp:=Gp.out;clear hD wq Ai Ln ic ak;go_upto_region 17 with (fail)
 obtain⟨dA,eI⟩:∃dA,dA=w12.alloc (.cells (encB D).toArray 222):=⟨_,rfl⟩;refine xr eI ?_;obtain⟨hh,gT⟩:∃hh,hh=w12.heap.size:=⟨_,rfl⟩;rw[<-gT];have Aj:dA.heap[hh]?=some (.cells (encB D).toArray 222 (0,0)):=by rw[eI,gT];exact heap_alloc_new w12 _
 have lq:Below w12.heap.size w12 dA:=by rw[eI];exact b_ _ _
 have RW:=h_ ((lq.block g (by omega)).trans Lo.out);have Dd:=h_ (dU.trans (lq.mono dU.size));have Gq:=h_ Aj;have iX:0<(encB D).length->some (⟨g,0,none⟩:Addr)=some ⟨g,0,none⟩/\∃ad,some (⟨hh,0,none⟩:Addr)=some ad/\∀j v,(encB D)[j]?=some v->dA.cell? (ad.add j)=some v:=λ_=>⟨rfl,_,rfl,λj v hj=>by
  rw[an_,aq_,cell_of_row _ _ _ _ _ _ Gq.out,ah_];exact hj⟩
 have RX:=h_ iX;have bK:(encB D).length=Nat.min 16 256:=by rw[xF,Qo.out];rfl
 have dV:=h_ bK;clear eI gT Aj lq iX bK bJ Lo dU su Lp;go_wp2_with (refine wpList_copy_splice (o:=⟨some 55,_,_,_,_,_⟩) rfl (.tmp 53) (.tmp 54) 31 31 rfl 5 underlying31 (by kernel_rfl) (some ⟨g,0,none⟩) (some ⟨hh,0,none⟩) 256 256 16 16 rfl rfl g 0 (encB L2) _ RW.out (encB D) dV.out RX.out ?_ (ue _) g dA (ab_ _ _) (aa_ _) ?_)
 ·rw[xF,xF,Qo.out,RV.out];omega
 intro Gr De gC;rw[xDw]at De;have bN:lay L2 0 D=encP sha p:=by rw[HD.out,wk.out,Da.out];exact iH.out
 rw[bN]at De;have RY:=h_ De.out;have Gs:=h_ (Dd.trans (gC.mono (bB_ gu.out)));clear De gC bN;go_wp2;go_ret2;exact⟨g,rfl,bB_ gu.out,RY.out,Gs.out⟩
end
section
attribute [local go_sem ↓] qR qz xB8 xAb
attribute [local go_sem] xCx xCq xP6 xOc xG8 xG5 xMj xh xf xa x9 xu xv xk xj xq xx xt
def cutA (a:Addr)(cap k:Nat):Addr:=if cap=k then a else a.add k
theorem ky (a cap k):(cutA a cap k).block=a.block:=by unfold cutA;split <;> simp[ya]
theorem SlB.cut {w a c}(h:SlB w a c){cap}(hc:c.length<=cap)(k):SlB w (cutA a cap k) (c.drop k):=by
 unfold cutA;split
 ·refine⟨λj u hj=>?_⟩;rw[aO_ (by omega)]at hj;cases hj
 ·exact h.drop k
theorem SlB.take {w a c}(h:SlB w a c)(k):SlB w a (c.take k):=⟨λj u hj=>h.cell j u (by
 have fS:j<k:=by
  rcases bi_ j k with h|h
  ·exact h
  ·rw[aI_ (by rw[ai_];omega)]at hj;cases hj
 rwa [bx_ fS]at hj)⟩
theorem xBb:prog.elem 31=5:=by kernel_rfl
theorem kh (a)(len cap k:Nat)(z:Int)(hz:z=k)(hk:k<=len)(w):Sem.run prog (Instr.sliceAt 31 (.slice (some a) len cap) (some (.int .i64 z)) none none) w=.ok (.slice (some (cutA a cap k)) (len-k) (cap-k)) w:=by
 subst hz;rw[run_sliceAt_slice w 31 _ _ _ _ (by kernel_rfl),run_slice_l w 31 (some a) len cap (by kernel_rfl) .i64 k (by omega) (by omega),xBb,sizeOf5];simp only[aw_,sliced,be_,bz_,aU_];unfold cutA;split <;> rfl
theorem xEj (a)(len cap k h:Nat)(z y:Int)(hz:z=k)(hy:y=h)(hk:k<=h)(hh:h<=cap)(w):Sem.run prog (Instr.sliceAt 31 (.slice (some a) len cap) (some (.int .i64 z)) (some (.int .i64 y)) none) w=.ok (.slice (some (cutA a cap k)) (h-k) (cap-k)) w:=by
 subst hz;subst hy;rw[run_sliceAt_slice w 31 _ _ _ _ (by kernel_rfl),run_slice_lh w 31 (some a) len cap (by kernel_rfl) .i64 .i64 k h (by omega) (by omega) (by omega),xBb,sizeOf5];simp only[aw_,sliced,be_,bz_,aU_];unfold cutA;split <;> rfl
def xX3 (c:List UInt8)(W:World)(e:Ending)(W':World):Prop:=
 Below W.heap.size W W' /\
 ((∃p v,decP sha c=some p/\e=.returned (.tuple #[.agg (zg p.kind p.gen p.num p.idx p.cnt v).toArray,.int .i64 0])/\OwnB W' W.heap.size v p.bytes/\v≠.slice none 0 0) \/
   (∃r,decP sha c=none/\r≠0/\e=.returned (.tuple #[.agg (zg 0 0 0 0 0 (.slice none 0 0)).toArray,.int .i64 r])))
theorem xQ1 {H:By->By}{c}(h:¬ (H (c.drop 16)=c.take 16/\deB (((c.drop 16).drop 14).take 2)<=224/\((c.drop 16).drop (16+deB (((c.drop 16).drop 14).take 2))).all (· == 0)=true/\(rawP (c.drop 16)).Ok)):decP H c=none:=by
 unfold decP decC;exact if_neg h
theorem yDd {H:By->By}{c}(h:H (c.drop 16)=c.take 16/\deB (((c.drop 16).drop 14).take 2)<=224/\((c.drop 16).drop (16+deB (((c.drop 16).drop 14).take 2))).all (· == 0)=true/\(rawP (c.drop 16)).Ok):decP H c=some (rawP (c.drop 16)):=by
 unfold decP decC;exact if_pos h
theorem xFn {c W W' r}(hb:Below W.heap.size W W')(h:decP sha c=none)(hr:r≠0):xX3 c W (.returned (.tuple #[.agg (zg 0 0 0 0 0 (.slice none 0 0)).toArray,.int .i64 r])) W':=⟨hb,.inr ⟨r,h,hr,rfl⟩⟩
structure DcSt (W0:World)(a:Nat)(c:List UInt8)(W:World):Prop where
 bel:Below W0.heap.size W0 W
 box:W.heap[W0.heap.size]?=some (.cells #[.slice (some ⟨a,0,none⟩) 256 256] 31 (0,0))
 res:W.heap[W0.heap.size+1]?=some (.cells #[.int .i64 0,.int .i64 0,.int .i64 0,.int .i64 0,.int .i64 0,.slice none 0 0] 167 (0,0))
 sl:SlB W ⟨a,0,none⟩ c
theorem DcSt.later {W0 a c W W'}(s:DcSt W0 a c W){B}(hb:Below B W W')(hB:W0.heap.size+2<=B)(ha:a<W0.heap.size):DcSt W0 a c W':=
 ⟨s.bel.trans (hb.mono (by omega)),(hb.block _ (by omega)).trans s.box,(hb.block _ (by omega)).trans s.res,⟨λj u hj=>(hb.cell (by rw[ya];show a<B;omega)).trans (s.sl.cell j u hj)⟩⟩
theorem DcSt.lt {W0 a c W}(s:DcSt W0 a c W):W0.heap.size+2<=W.heap.size:=(i_ s.res).1
theorem qV {P fn p t ty n}(h:fn.results=#[.cell p ty,.tmp t])(hA:∀w,Sem.run P (isAgg ty) w=.ok true w)(hs:∀w,Sem.run P (Go.sizeOf ty) w=.ok n w)
  (tmps) (w) (a) (cs) (v) (hp:tmps.getD p undef=.pointer (some a)) (hv:tmps.getD t undef=v) (aD:xo w a n=true) (eR:xm w a n=cs):
  (results fn tmps).run P w=.ok (.tuple #[.agg cs,v]) w:=by
 have nW:tmps[p]?.getD undef=.pointer (some a):=by simpa using hp
 have mX:tmps[t]?.getD undef=v:=by simpa using hv
 have hl:(loadVar ty a).run P w=.ok (.agg cs) w:=by
  simp[loadVar,hA,hs,zf w a n aD,eR]
 simp[results,h,nW,mX,asAddr,hl]
def uC:Array Value:=#[.int .i64 0,.int .i64 0,.int .i64 0,.int .i64 0,.int .i64 0,.slice none 0 0]
theorem xCe:xy 6 #[.int .i64 0,.int .i64 0,.int .i64 0,.int .i64 0,.int .i64 0,.slice none 0 0]=true:=by simp[xy,Value.oneCell']
theorem DcSt.ro {W0 a c W}(s:DcSt W0 a c W):xM W (W0.heap.size+1) 6=true:=by
 unfold xM;rw[s.res];rfl
theorem DcSt.drewN {W0 a c W}(s:DcSt W0 a c W)(n):DcSt W0 a c (W.drewN n):=⟨xS s.bel n,s.box,s.res,⟨λj u hj=>s.sl.cell j u hj⟩⟩
structure DcP (W0:World)(a:Nat)(c:List UInt8)(ab k:Nat)(pk pg pn pi pc:Int)(pv:Value)(W:World):Prop where
 st:DcSt W0 a c W
 cnt:W.heap[ab]?=some (.cells #[.int .i64 k] 3 (0,0))
 prt:W.heap[ab+1]?=some (.cells #[.int .i64 pk,.int .i64 pg,.int .i64 pn,.int .i64 pi,.int .i64 pc,pv] 167 (0,0))
 hab:W0.heap.size+2<=ab
theorem DcP.next {W0 a c}{ab k k':Nat}{pk pg pn pi pc pv W W'}(s:DcP W0 a c ab k pk pg pn pi pc pv W)(hg:W.grownBy W' (some ab))(hc:W'.heap[ab]?=some (.cells #[.int .i64 k'] 3 (0,0)))(ha:a<W0.heap.size):
  DcP W0 a c ab k' pk pg pn pi pc pv W':=by
 have hl:=s.st.lt;have hh:=s.hab;have sk:ab<W.heap.size:=(i_ s.cnt).1;refine⟨s.st.later (B:=ab) ⟨hg.os,hg.tape,hg.output,hg.size,λj hj=>hg.block j (by omega) (λe=>by injection e with e;omega)⟩ s.hab ha,hc,?_,s.hab⟩;exact(hg.block _ (i_ s.prt).1 (λe=>by injection e with e;omega)).trans s.prt
theorem DcP.later {W0 a c ab k pk pg pn pi pc pv W W'}(s:DcP W0 a c ab k pk pg pn pi pc pv W)(hb:Below W.heap.size W W')(ha:a<W0.heap.size):DcP W0 a c ab k pk pg pn pi pc pv W':=
 ⟨s.st.later hb s.st.lt ha,(hb.block _ (i_ s.cnt).1).trans s.cnt,(hb.block _ (i_ s.prt).1).trans s.prt,s.hab⟩
theorem DcP.setP {W0 a c ab k pk pg pn pi pc pv W}(s:DcP W0 a c ab k pk pg pn pi pc pv W)(ha:a<W0.heap.size)(j v qk qg qn qi qc qv)
  (he:(#[.int .i64 pk,.int .i64 pg,.int .i64 pn,.int .i64 pi,.int .i64 pc,pv]:Array Value).setIfInBounds j v=#[.int .i64 qk,.int .i64 qg,.int .i64 qn,.int .i64 qi,.int .i64 qc,qv]):
  DcP W0 a c ab k qk qg qn qi qc qv (W.setCell ⟨ab+1,j,none⟩ v):=by
 have hl:=s.st.lt;have hh:=s.hab;refine⟨s.st.later (B:=ab+1) ⟨rfl,rfl,rfl,by simp[World.setCell],λi hi=>heap_setCell_other W ⟨ab+1,j,none⟩ i v (by simp;omega)⟩ (by omega) ha,?_,?_,s.hab⟩
 ·rw[heap_setCell_other W ⟨ab+1,j,none⟩ ab v (by simp)];exact s.cnt
 ·rw[heap_setCell_same W (ab+1) j _ _ v s.prt,he]
theorem DcP.get {W0 a c ab k pk pg pn pi pc pv W}(s:DcP W0 a c ab k pk pg pn pi pc pv W)(hc:c.length=256)(ha:a<W0.heap.size)(sz)(aI:sz<=4)(hk:k+sz<=256):
  Calls prog 106 #[.int .i64 sz,.pointer (some ⟨W0.heap.size,0,none⟩),.pointer (some ⟨ab,0,none⟩)] W λe W'=>e=.returned (.int .i64 (deB ((c.drop k).take sz):Nat))/\DcP W0 a c ab (k+sz) pk pg pn pi pc pv W':=
 (xVk W0.heap.size ab ⟨a,0,none⟩ c 256 k sz W hc (aa_ _) s.st.box s.cnt s.st.sl (by have:=s.hab;omega) (by have:=s.hab;show a≠ab;omega) aI hk).mono λ_ _ ⟨he,hg,hn⟩=>⟨he,s.next hg hn ha⟩
theorem vT (a c W)(hK:qU W)(hs:SlB W ⟨a,0,none⟩ c)(hc:c.length=256)(ha:a<W.heap.size):
  Calls prog 72 #[.slice (some ⟨a,0,none⟩) 256 256] W (xX3 c W):=by
 have ax:DcSt W a c ((W.alloc (.cells #[.slice (some ⟨a,0,none⟩) 256 256] 31)).alloc (.cells #[.int .i64 0,.int .i64 0,.int .i64 0,.int .i64 0,.int .i64 0,.slice none 0 0] 167)):=by
  refine⟨((ab_ _ _).alloc (aa_ _) _).alloc (by simp) _,?_,?_,⟨λj u hj=>bv_ _ (bv_ _ (hs.cell j u hj))⟩⟩
  ·simp only[yA,al_];rw[if_neg (by omega),if_pos trivial]
  ·simp only[yA,al_];rw[if_pos trivial]
 have aO:=h_ ax;have HK:=h_ hK;clear ax hK hs;go_enter func72,ntmps72;go_upto_region 5 with (fail)
 obtain⟨w1,ai⟩:∃w1,w1=((W.alloc (.cells #[.slice (some ⟨a,0,none⟩) 256 256] 31)).alloc (.cells #[.int .i64 0,.int .i64 0,.int .i64 0,.int .i64 0,.int .i64 0,.slice none 0 0] 167)):=⟨_,rfl⟩;refine xr ai ?_;have h1:=aO.out;rw[<-ai]at h1;have pQ:=h_ h1;clear ai h1 aO;have c1:=cell_of_row w1 W.heap.size 0 _ _ _ pQ.box;simp only[v_]at c1;have pP:=xGu ⟨a,16,none⟩ (c.drop 16) 240 w1 ⟨λj u hj=>by have:=(pQ.sl.drop 16).cell j u hj;rwa [an_]at this⟩ (HK.below pQ.bel (aa_ _)) (by rw[ao_];omega) (by rw[ao_];omega) (by show a<_;have:=pQ.lt;omega);rw[show (c.drop 16).length=240 by rw[ao_];omega]at pP;have Ai:=h_ pP;clear pP;go_wp2_with fail;refine Ai.mono ?_;rintro e w2 ⟨rfl,aj⟩;obtain⟨D,hD⟩:∃q,q=sha (c.drop 16):=⟨_,rfl⟩;rw[<-hD];have wq:D.length=16:=by rw[hD];exact yZ _
 have HD:=h_ hD;have Qo:=h_ wq;have bJ:=xKb wq;have eU:=h_ (pQ.later aj pQ.lt ha);clear hD wq Ai aj c1;go_upto_region 6 with (fail)
 obtain⟨w3,bm⟩:∃w3,w3=w2.alloc (.cells (encB D).toArray 222):=⟨_,rfl⟩;refine xr bm ?_;have al:Below w2.heap.size w2 w3:=by rw[bm];exact b_ _ _
 have lr:w3.heap[w2.heap.size]?=some (.cells (encB D).toArray 222 (0,0)):=by rw[bm];exact heap_alloc_new w2 _
 obtain⟨hh,gT⟩:∃hh,hh=w2.heap.size:=⟨_,rfl⟩;rw[<-gT]at lr⊢;have ej:=h_ (eU.later al eU.lt ha);have og:=h_ lr;have ZE:=h_ (show W.heap.size+2<=hh by rw[gT];exact eU.lt);clear bm al lr gT bJ eU pQ;have c1:=cell_of_row w3 W.heap.size 0 _ _ _ ej.box;simp only[v_]at c1;have heq:∀n,Calls prog 105 #[.slice (some ⟨hh,0,none⟩) 16 16,.slice (some ⟨a,0,none⟩) 16 256] (w3.drewN n) λe w'=>e=.returned (.bool (decide (D=c.take 16)))/\∃m,w'=w3.drewN m:=λn=>by
  have h:=xKv ⟨hh,0,none⟩ ⟨a,0,none⟩ D (c.take 16) 16 256 (w3.drewN n) ⟨λj u hj=>by
   have fS:j<D.length:=by
    rcases bi_ j D.length with h|h
    ·exact h
    ·rw[aI_ h]at hj;cases hj
   rw[ak_ fS]at hj;cases hj;show w3.cell? _=_
   rw[an_,aq_,cell_of_row _ _ _ _ _ _ og.out,ah_,qZ D j fS]⟩ ⟨λj u hj=>by
   show w3.cell? _=_
   refine ej.sl.cell j u ?_;have fS:j<16:=by
    rcases bi_ j 16 with h|h
    ·exact h
    ·rw[aI_ (by rw[ai_];omega)]at hj;cases hj
   rwa [bx_ fS]at hj⟩
  rw[Qo.out,show (c.take 16).length=16 by rw[ai_];omega]at h;exact h.mono λ_ _ ⟨he,hw⟩=>⟨he,n,hw.symm⟩
 have tt:=h_ heq;clear heq;by_cases hq:D=c.take 16
 ·have Lq:decide (D=c.take 16)=true:=decide_eq_true hq;rw[Lq]at tt;have HQ:=h_ hq;clear hq Lq;go_quiet ((go_at_call 105;exact tt.out _));have di:=h_ (ej.drewN nq);generalize w3.drewN nq=w4 at di⊢;clear tt og ej ZE c1;go_upto_region 11 with (fail)
  obtain⟨ab,hab⟩:∃ab,ab=w4.heap.size:=⟨_,rfl⟩;have RZ:DcP W a c ab 16 0 0 0 0 0 (.slice none 0 0) ((w4.alloc (.cells #[.int .i64 16] 3)).alloc (.cells #[.int .i64 0,.int .i64 0,.int .i64 0,.int .i64 0,.int .i64 0,.slice none 0 0] 167)):=by
   refine⟨di.later (((ab_ _ _).alloc (aa_ w4.heap.size) _).alloc (by simp) _) di.lt ha,?_,?_,by rw[hab];exact di.lt⟩
   ·simp only[yA,al_,hab];rw[if_neg (by omega),if_pos trivial];rfl
   ·simp only[yA,al_,hab];rw[if_pos trivial]
  obtain⟨w5,aY⟩:∃w5,w5=((w4.alloc (.cells #[.int .i64 16] 3)).alloc (.cells #[.int .i64 0,.int .i64 0,.int .i64 0,.int .i64 0,.int .i64 0,.slice none 0 0] 167)):=⟨_,rfl⟩;refine xr aY ?_;rw[<-aY]at RZ;rw[<-hab];have ED:=h_ RZ;clear RZ aY hab di;go_wp2_with fail;refine(ED.get hc ha 4 (by omega) (by omega)).mono ?_;rintro e w6⟨rfl,hp⟩;obtain⟨gn,lZ⟩:∃q,q=deB ((c.drop 16).take 4):=⟨_,rfl⟩;rw[<-lZ];have R0:=jX ((c.drop 16).take 4) (by rw[ai_];omega);rw[<-lZ]at R0;have ZF:=h_ lZ;have EI:=h_ hp;clear lZ hp;go_wp2_with fail;refine(EI.get hc ha 4 (by omega) (by omega)).mono ?_;rintro e w7⟨rfl,hp⟩;obtain⟨nn,eW⟩:∃q,q=deB ((c.drop 20).take 4):=⟨_,rfl⟩;rw[<-eW];have R3:=jX ((c.drop 20).take 4) (by rw[ai_];omega);rw[<-eW]at R3;have ZG:=h_ eW;have Cy:=h_ hp;clear eW hp;have f1:=frozen_of_row w7 (ab+1) 1 _ _ Cy.prt;have g1:=cell_of_row w7 (ab+1) 1 _ _ _ Cy.prt;have f2:=frozen_of_row w7 (ab+1) 2 _ _ Cy.prt;have g2:=cell_of_row w7 (ab+1) 2 _ _ _ Cy.prt;simp only[ah_,ay_,aC_]at g1 g2;go_upto_region 12 with (fail)
  have R4:=(Cy.setP ha 1 (.int .i64 gn) 0 gn 0 0 0 (.slice none 0 0) rfl).setP ha 2 (.int .i64 nn) 0 gn nn 0 0 (.slice none 0 0) rfl;generalize (w7.setCell ⟨ab+1,1,none⟩ (.int .i64 gn)).setCell ⟨ab+1,2,none⟩ (.int .i64 nn)=w8 at R4⊢;have Lj:=h_ R4;clear f1 g1 f2 g2 R4;go_wp2_with fail;refine(Lj.get hc ha 2 (by omega) (by omega)).mono ?_;rintro e w9⟨rfl,hp⟩;obtain⟨kn,EG⟩:∃q,q=deB ((c.drop 24).take 2):=⟨_,rfl⟩;rw[<-EG];have R5:=jX ((c.drop 24).take 2) (by rw[ai_];omega);rw[<-EG]at R5;have ZH:=h_ EG;have Lk:=h_ hp;clear EG hp;go_wp2_with fail;refine(Lk.get hc ha 2 (by omega) (by omega)).mono ?_;rintro e bn⟨rfl,hp⟩;obtain⟨ix,tq⟩:∃q,q=deB ((c.drop 26).take 2):=⟨_,rfl⟩;rw[<-tq];have R6:=jX ((c.drop 26).take 2) (by rw[ai_];omega);rw[<-tq]at R6;have ZI:=h_ tq;have Ae:=h_ hp;clear tq hp;go_wp2_with fail;refine(Ae.get hc ha 2 (by omega) (by omega)).mono ?_;rintro e aW⟨rfl,hp⟩;obtain⟨cn,hcn⟩:∃q,q=deB ((c.drop 28).take 2):=⟨_,rfl⟩;rw[<-hcn];have R7:=jX ((c.drop 28).take 2) (by rw[ai_];omega)
  rw[<-hcn]at R7;have ZJ:=h_ hcn;have oh:=h_ hp;clear hcn hp;have f1:=frozen_of_row aW (ab+1) 0 _ _ oh.prt;have g1:=cell_of_row aW (ab+1) 0 _ _ _ oh.prt;have f2:=frozen_of_row aW (ab+1) 3 _ _ oh.prt;have g2:=cell_of_row aW (ab+1) 3 _ _ _ oh.prt;have f3:=frozen_of_row aW (ab+1) 4 _ _ oh.prt;have g3:=cell_of_row aW (ab+1) 4 _ _ _ oh.prt;simp only[ah_,ay_,aC_]at g1 g2 g3;go_upto_region 13 with (fail)
  have Gt:=((oh.setP ha 0 (.int .i64 kn) kn gn nn 0 0 (.slice none 0 0) rfl).setP ha 3 (.int .i64 ix) kn gn nn ix 0 (.slice none 0 0) rfl).setP ha 4 (.int .i64 cn) kn gn nn ix cn (.slice none 0 0) rfl;generalize ((aW.setCell ⟨ab+1,0,none⟩ (.int .i64 kn)).setCell ⟨ab+1,3,none⟩ (.int .i64 ix)).setCell ⟨ab+1,4,none⟩ (.int .i64 cn)=w12 at Gt⊢;have Lr:=h_ Gt;clear f1 g1 f2 g2 f3 g3 Gt;go_wp2_with fail;refine(Lr.get hc ha 2 (by omega) (by omega)).mono ?_;rintro e dA⟨rfl,hp⟩;obtain⟨sz,aI⟩:∃q,q=deB ((c.drop 30).take 2):=⟨_,rfl⟩;rw[<-aI];have R8:=jX ((c.drop 30).take 2) (by rw[ai_];omega);rw[<-aI]at R8;have Wo:=h_ aI;have ol:=h_ hp;clear aI hp;have Ls:rawP (c.drop 16)=⟨kn,gn,nn,ix,cn,((c.drop 16).drop 16).take sz⟩:=by
   unfold rawP;rw[ZF.out,ZG.out,ZH.out,ZI.out,ZJ.out,Wo.out];simp only[bP_,Nat.reduceAdd]
  have Lt:deB (((c.drop 16).drop 14).take 2)=sz:=by rw[Wo.out];simp only[bP_,Nat.reduceAdd]
  have Df:=h_ Ls;have eX:=h_ Lt;clear Ls Lt ED EI Cy Lj Lk Ae oh Lr;have c1:=cell_of_row dA W.heap.size 0 _ _ _ ol.st.box;simp only[v_]at c1;by_cases q1:sz<=224
  ·have q1z:(sz:Int)<=224:=by omega
   have C7:(sz:Int)<=256:=by omega
   have cu:=kh ⟨a,0,none⟩ 256 256 (32+sz) (32+(sz:Int)) (by omega) (by omega);have bO:=xS8 (some (cutA ⟨a,0,none⟩ 256 (32+sz))) (c.drop (32+sz)) (256-(32+sz)) dA (λq hq=>by cases hq;exact ol.st.sl.cut (by omega) _) (λhq=>by cases hq) (by rw[ao_];omega);rw[ao_,hc]at bO;obtain⟨bl,aG⟩:∃bl,bl=xEa (c.drop (32+sz)):=⟨_,rfl⟩;rw[<-aG]at bO;have tk:=h_ bO;have lY:=h_ aG;clear bO aG;cases bl with
   |false=>
    have m6:=h_ (ol.st);have bu:=m6.ro;have gw:=xCe;have b7:=h_ (xK m6.bel (show W.heap.size<=W.heap.size+1 by omega) uC);have hr:=xD (setRow_heap dA (W.heap.size+1) _ uC _ _ m6.res) (rfl:uC.size=6);have HR:=h_ hr;have bp:=h_ (show decP sha c=none from xQ1 λh=>by have h2:=h.2.2.1;rw[eX.out,bP_,show 16+(16+sz)=32+sz by omega]at h2;have h3:=lY.out;unfold xEa at h3;rw[h2]at h3;cases h3)
    clear hr;unfold uC at HR b7;go_wp2_with (go_at_call 107;refine tk.mono ?_;rintro e w' ⟨rfl,rfl⟩);refine bodyPost_ret (v:=.tuple #[.agg uC,.int .i64 3]) ?_ rfl (xFn b7.out bp.out (by decide));exact qV rfl isAgg167 sizeOf167 _ _ ⟨W.heap.size+1,0,none⟩ _ _ rfl rfl HR.1 HR.2
   |true=>
    go_upto_region 16 with (go_at_call 107;refine tk.mono ?_;rintro e w' ⟨rfl,rfl⟩)
    clear cu;have lk:=xEj ⟨a,0,none⟩ 256 256 32 (32+sz) 32 (32+(sz:Int)) rfl (by omega) (by omega) (by omega);rw[show 32+sz-32=sz by omega]at lk;obtain⟨ca,JV⟩:∃q,q=cutA ⟨a,0,none⟩ 256 32:=⟨_,rfl⟩;have aT:=kB ca ((c.drop 32).take sz) 224 dA (by rw[JV];exact(ol.st.sl.cut (by omega) 32).take sz) (by rw[ai_];omega);have Ak:((c.drop 32).take sz).length=sz:=by rw[ai_,ao_];omega
    rw[Ak]at aT;rw[<-JV]at lk;have bF:=h_ aT;have Al:=h_ Ak;have Lu:=ol.prt;clear JV aT Ak;simp only[Nat.reduceSub]at lk;go_wp2_with fail;refine bF.mono ?_;rintro e Gr ⟨v,rfl,ae,pt,gC⟩;have ZK:ab+1<dA.heap.size:=(i_ Lu).1;have Dh:=ol.later gC ha;have R9:W.heap.size<=dA.heap.size:=ol.st.bel.size;obtain⟨vg,vc,hv,hvg,mB,-,-⟩:∃g cap,v=.slice (some ⟨g,0,none⟩) ((c.drop 32).take sz).length cap/\dA.heap.size<=g/\((c.drop 32).take sz).length<=cap/\cap<=maxLen/\SlB Gr ⟨g,0,none⟩ ((c.drop 32).take sz):=by
     rcases ae.at with⟨h,_⟩|h
     ·exact absurd h pt
     ·exact h
    rw[Al.out]at hv mB;have f5:=frozen_of_row Gr (ab+1) 5 _ _ Dh.prt;have g5:=cell_of_row Gr (ab+1) 5 _ _ _ Dh.prt;simp only[ah_,ay_,aC_]at g5;have Lv:=Dh.setP ha 5 v kn gn nn ix cn v rfl;have Am:OwnB (Gr.setCell ⟨ab+1,5,none⟩ v) dA.heap.size v ((c.drop 32).take sz):=ae.grown (xK4 Gr (ab+1) 5 v) (λk e=>by cases e;rw[hv];simp[Value.ownBlock];omega);subst hv;have dl:=h_ Am;have Gu:=h_ Lv;have Gv:=h_ mB;clear ae Dh Lv Am mB gC bF Lu lk c1 pt;go_upto_region 17 with (fail)
    clear f5 g5;generalize Gr.setCell ⟨ab+1,5,none⟩ (.slice (some ⟨vg,0,none⟩) sz vc)=w15 at Gu dl⊢;have Gw:=xD (n:=6) Gu.prt rfl;have r1:=Gw.1;have r2:=Gw.2;have pe:=xNm (rawP (c.drop 16)) (some ⟨vg,0,none⟩) vc w15 (by rw[Df.out];simp only;rw[bP_,Al.out];exact Gv.out);rw[Df.out]at pe;simp only[bP_,Nat.reduceAdd,Al.out]at pe;unfold zg at pe;have Gx:(⟨kn,gn,nn,ix,cn,(c.drop 32).take sz⟩:qP)=rawP (c.drop 16):=by rw[Df.out];simp only[bP_,Nat.reduceAdd]
    rw[Gx]at pe;have R_:=h_ Gx;have n_:=h_ pe;clear Gw pe Gx;go_wp2_with fail;refine n_.mono ?_;rintro e Sa ⟨r,rfl,aD,Gy⟩;have tu:=h_ (Gu.later Gy ha);have Gz:=h_ (dl.below Gy);have Lw:=h_ aD;clear r1 r2 n_ Gy aD;by_cases hr0:r=0
    ·subst hr0;have GA:=xD (n:=6) tu.prt rfl;have r1:=GA.1;have r2:=GA.2;have bu:=tu.st.ro;have gw:xy 6 #[Value.int .i64 kn,.int .i64 gn,.int .i64 nn,.int .i64 ix,.int .i64 cn,.slice (some ⟨vg,0,none⟩) sz vc]=true:=by simp[xy,Value.oneCell']
     have b7:=h_ (xK tu.st.bel (show W.heap.size<=W.heap.size+1 by omega) #[Value.int .i64 kn,.int .i64 gn,.int .i64 nn,.int .i64 ix,.int .i64 cn,.slice (some ⟨vg,0,none⟩) sz vc]);have hr:=xD (n:=6) (setRow_heap Sa (W.heap.size+1) _ #[Value.int .i64 kn,.int .i64 gn,.int .i64 nn,.int .i64 ix,.int .i64 cn,.slice (some ⟨vg,0,none⟩) sz vc] _ _ tu.st.res) rfl;have HR:=h_ hr;have Sb:=h_ (show decP sha c=some (rawP (c.drop 16))from yDd ⟨HD.symm.trans HQ.out,by rw[eX.out];exact q1,by rw[eX.out,bP_,show 16+(16+sz)=32+sz by omega];have h3:=lY.out;unfold xEa at h3;exact h3.symm,Lw.1 rfl⟩);have An:=h_ (Gz.grown (xB3 Sa (W.heap.size+1) #[Value.int .i64 kn,.int .i64 gn,.int .i64 nn,.int .i64 ix,.int .i64 cn,.slice (some ⟨vg,0,none⟩) sz vc]) (λk e=>by cases e;simp[Value.ownBlock];have:=tu.hab;omega));clear GA hr;go_wp2;refine bodyPost_ret (v:=.tuple #[.agg #[Value.int .i64 kn,.int .i64 gn,.int .i64 nn,.int .i64 ix,.int .i64 cn,.slice (some ⟨vg,0,none⟩) sz vc],.int .i64 0]) ?_ rfl ⟨b7.out,.inl ⟨rawP (c.drop 16),.slice (some ⟨vg,0,none⟩) sz vc,Sb.out,?_,?_,by simp⟩⟩
     ·exact qV rfl isAgg167 sizeOf167 _ _ ⟨W.heap.size+1,0,none⟩ _ _ rfl rfl HR.1 HR.2
     ·rw[Df.out];rfl
     ·rw[<-R_.out];exact An.base R9
    ·have aV:(r==0)=false:=by rw[beq_eq_false_iff_ne];exact hr0
     have aP:(r != 0)=true:=by rw[bne_iff_ne];exact hr0
     have JW:=h_ hr0;clear hr0;have m6:=h_ (tu.st);have bu:=m6.ro;have gw:=xCe;have b7:=h_ (xK m6.bel (show W.heap.size<=W.heap.size+1 by omega) uC);have hr:=xD (n:=6) (setRow_heap Sa (W.heap.size+1) _ uC _ _ m6.res) (rfl:uC.size=6);have HR:=h_ hr;have bp:=h_ (show decP sha c=none from xQ1 λh=>JW.out (Lw.2 h.2.2.2));clear hr;unfold uC at HR b7;go_wp2;refine bodyPost_ret (v:=.tuple #[.agg uC,.int .i64 3]) ?_ rfl (xFn b7.out bp.out (by decide));exact qV rfl isAgg167 sizeOf167 _ _ ⟨W.heap.size+1,0,none⟩ _ _ rfl rfl HR.1 HR.2
  ·have q1z:¬ (sz:Int)<=224:=by omega
   have m6:=h_ (ol.st);have bu:=m6.ro;have gw:=xCe;have b7:=h_ (xK m6.bel (show W.heap.size<=W.heap.size+1 by omega) uC);have hr:=xD (setRow_heap dA (W.heap.size+1) _ uC _ _ m6.res) (rfl:uC.size=6);have HR:=h_ hr;have bp:=h_ (show decP sha c=none from xQ1 λh=>q1 (by have:=h.2.1;rw[eX.out]at this;exact this));clear hr;unfold uC at HR b7;go_wp2;refine bodyPost_ret (v:=.tuple #[.agg uC,.int .i64 3]) ?_ rfl (xFn b7.out bp.out (by decide));exact qV rfl isAgg167 sizeOf167 _ _ ⟨W.heap.size+1,0,none⟩ _ _ rfl rfl HR.1 HR.2
 ·have Lq:decide (D=c.take 16)=false:=decide_eq_false hq;rw[Lq]at tt;have HQ:=h_ hq;clear hq Lq;go_quiet ((go_at_call 105;exact tt.out _));have di:=h_ (ej.drewN nq);generalize w3.drewN nq=w4 at di⊢;have bu:=di.ro;have gw:=xCe;have b7:=h_ (xK di.bel (show W.heap.size<=W.heap.size+1 by omega) uC);have hr:=xD (setRow_heap w4 (W.heap.size+1) _ uC _ _ di.res) (rfl:uC.size=6);have HR:=h_ hr;have bp:=h_ (show decP sha c=none from xQ1 λh=>HQ.out (HD.trans h.1));clear hr;unfold uC at HR b7;go_wp2;refine bodyPost_ret (v:=.tuple #[.agg uC,.int .i64 22]) ?_ rfl (xFn b7.out bp.out (by decide));exact qV rfl isAgg167 sizeOf167 _ _ ⟨W.heap.size+1,0,none⟩ _ _ rfl rfl HR.1 HR.2
end
theorem Tryz.info_slb:(prog.info? 31).map (λi=>(i.zero,i.size,i.bytes))=some (some (.slice none 0 0),1,24):=by kernel_rfl
def xBm (w:World)(B:Nat)(v x:Value)(l:List UInt8):Prop:=∃g,x=.slice (some ⟨g,0,none⟩) 256 256/\l.length=256/\B<=g/\g<w.heap.size/\v.ownBlock≠some g/\SlB w ⟨g,0,none⟩ l
structure ScAt (w:World)(B:Nat)(v:Value)(L:List (List UInt8))(vs:List Value):Prop where
 own:w.ownsRow B 31 1 v L.length vs
 len:vs.length=L.length
 el:∀i (hi:i<L.length),xBm w B v (vs[i]'(by rw[len];exact hi)) L[i]
theorem xBm.same {w w' B v x l}(h:xBm w B v x l)(hs:w.heap.size<=w'.heap.size)(hb:∀g,B<=g->v.ownBlock≠some g->g<w.heap.size->w'.heap[g]?=w.heap[g]?):xBm w' B v x l:=by
 obtain⟨g,h1,h2,h3,h4,h5,h6⟩:=h;refine⟨g,h1,h2,h3,by omega,h5,⟨λj c hj=>?_⟩⟩;have:=h6.cell j c hj;rw[an_]at this⊢;unfold World.cell? at this⊢;rw[hb g h3 h5 h4];exact this
theorem ScAt.nil (w B):ScAt w B (.slice none 0 0) [] []:=⟨aP_ _ _ _ _,rfl,λi hi=>by cases hi⟩
theorem ScAt.later {w w' B v L vs}(h:ScAt w B v L vs)(hb:Below w.heap.size w w'):ScAt w' B v L vs:=
 ⟨dc_ (row:=none) h.own (zp hb none) (by cases v.ownBlock <;> simp),h.len,λi hi=>(h.el i hi).same hb.size (λg _ _ hg=>hb.block g hg)⟩
theorem ScAt.app {w w' B v v' x L vs l}(h:ScAt w B v L vs)(ho:w'.ownsRow B 31 1 v' (L.length+1) (vs++[x]))(hg:w.grownBy w' v.ownBlock)
  (hx:xBm w B v x l) (fB:∀k,v'.ownBlock=some k->v.ownBlock=some k\/w.heap.size<=k):ScAt w' B v' (L++[l]) (vs++[x]):=by
 have conv:∀y m,xBm w B v y m->xBm w' B v' y m:=λy m ⟨g,h1,h2,h3,h4,h5,h6⟩=>by
  refine⟨g,h1,h2,h3,ap_ h4 hg.size,λe=>?_,⟨λj c hj=>?_⟩⟩
  ·rcases fB g e with h|h
   ·exact h5 h
   ·omega
  ·have:=h6.cell j c hj;rw[an_]at this⊢;unfold World.cell? at this⊢;rw[hg.block g h4 (λe=>h5 e.symm)];exact this
 refine⟨by simpa using ho,by simp[h.len],λi hi=>?_⟩;by_cases hlt:i<L.length
 ·rw[ci_ hlt,ci_ (by rw[h.len];exact hlt)];exact conv _ _ (h.el i hlt)
 ·have hi2:i=L.length:=by simp at hi;omega
  subst hi2;rw[cS_ (aa_ _),cS_ (by rw[h.len];exact aa_ _)];simp only[ee_,h.len,List.getElem_singleton];exact conv _ _ hx
theorem ScAt.base {w B B' v L vs}(h:ScAt w B v L vs)(hb:B'<=B):ScAt w B' v L vs:=
 ⟨⟨h.own.1,h.own.2.imp (λh=>h) λ⟨g,cap,cur,hv,hg,r⟩=>⟨g,cap,cur,hv,ad_ hb hg,r⟩⟩,h.len,λi hi=>by
  obtain⟨g,h1,h2,h3,h4⟩:=h.el i hi;exact⟨g,h1,h2,ad_ hb h3,h4⟩⟩
theorem ScAt.at {w B v L vs}(h:ScAt w B v L vs)(hne:L≠[]):∃g cap,v=.slice (some ⟨g,0,none⟩) L.length cap/\B<=g/\g<w.heap.size/\L.length<=cap/\cap<=maxLen/\∀i (hi:i<L.length),w.cell? ⟨g,i,none⟩=some (vs[i]'(by rw[h.len];exact hi)):=by
 rcases h.own.2 with⟨_,h0⟩|⟨g,cap,cur,hv,hg,aq,hle,dC,aJ,eG⟩
 ·exact absurd (bn_ h0) hne
 ·refine⟨g,cap,hv,hg,(i_ aq).1,hle,dC,λi hi=>?_⟩;subst hv;have:=cM_ h.own i (by omega);rw[this,ak_ (by rw[h.len];exact hi)]
theorem xBm.later {w w' B v x l}(h:xBm w B v x l)(hb:Below w.heap.size w w'):xBm w' B v x l:=h.same hb.size (λg _ _ hg=>hb.block g hg)
theorem xW4 {w g T c fr}(ah:w.heap[g]?=some (.cells (encB c).toArray T fr)):SlB w ⟨g,0,none⟩ c:=⟨λj u hj=>by
 rw[an_,aq_,cell_of_row _ _ _ _ _ _ ah,ah_];have fS:j<c.length:=by
  rcases bi_ j c.length with h|h
  ·exact h
  ·rw[aI_ h]at hj;cases hj
 rw[qZ _ j fS];rw[ak_ fS]at hj;cases hj;rfl⟩
theorem xTa {w B g T v c fr}(ah:w.heap[g]?=some (.cells (encB c).toArray T fr))(hc:c.length=256)(hB:B<=g)(hv:v.ownBlock≠some g):xBm w B v (.slice (some ⟨g,0,none⟩) 256 256) c:=
 ⟨g,rfl,hc,hB,(i_ ah).1,hv,xW4 ah⟩
theorem zw {rest ops o a}{Q:Exit->Act->World->Prop}{w}(fT:o.guard=none)(s x)
  (ho:o.op=.call { callee:=.builtin .append,args:=#[s,x],argTypes:=#[31,31] }) (B) (v) (l) (hs:a.eval s=v) (ae:OwnB w B v l)
  (ad) (r) (c) (hx:a.eval x=.slice (some ad) r.length c) (hr:SlB w ad r) (ao:l.length+r.length<=1000000000000) (hB:B<=w.heap.size)
  (h:∀v' w',OwnB w' B v' (l++r)->w.grownBy w' v.ownBlock->(v'=.slice none 0 0↔v=.slice none 0 0/\r.length=0)->(v'.ownBlock=v.ownBlock\/v'.ownBlock=some w.heap.size)->wpList prog ops Q rest (a.put o.dst v') w'):wpList prog ops Q (o :: rest) a w:=by
 obtain⟨i0,hi,bd,aL,bk⟩:=info_parts Tryz.info_byte;refine wpList_append_own_at w fT s x 31 ho B 5 i0 (.int .u8 0) 1 1 underlying31 hi bd aL bk rfl (by decide) v l.length (encB l) hs ae ad r.length c (encB r) hx (by rw[xF,bz_]) (λj u hj=>?_) (ue r) (by unfold maxLen;omega) (by omega) hB λv' w' h1 h2 h3 h4=>?_
 ·have fS:j<r.length:=by
   rcases bi_ j r.length with h|h
   ·exact h
   ·rw[aI_ (by rw[xF];exact h)]at hj;cases hj
  rw[qZ r j fS]at hj;cases hj;exact hr.cell j _ (ak_ fS)
 ·refine h v' w' ?_ h2 h3 h4;unfold OwnB;rw[xCl,af_];exact h1
theorem xBq {rest ops o a}{Q:Exit->Act->World->Prop}{w}(fT:o.guard=none)(s x)
  (ho:o.op=.call { callee:=.builtin .append,args:=#[s,x],argTypes:=#[116,116] }) (B) (v) (L) (vs) (hs:a.eval s=v) (fd:ScAt w B v L vs)
  (y) (l) (hy:xBm w B v y l) (ad) (hx:a.eval x=.slice (some ad) 1 1) (hc:w.cell? ad=some y) (ao:L.length<=1000000) (hB:B<=w.heap.size)
  (h:∀v' w',ScAt w' B v' (L++[l]) (vs++[y])->w.grownBy w' v.ownBlock->(v'.ownBlock=v.ownBlock\/v'.ownBlock=some w.heap.size)->wpList prog ops Q rest (a.put o.dst v') w'):wpList prog ops Q (o :: rest) a w:=by
 obtain⟨i0,hi,bd,aL,bk⟩:=info_parts Tryz.info_slb;have ZL:y.oneCell'=true:=by obtain⟨g,rfl,_⟩:=hy;rfl
 refine wpList_append_own_at w fT s x 116 ho B 31 i0 (.slice none 0 0) 1 24 underlying116 hi bd aL bk rfl (by decide) v L.length vs hs fd.own ad 1 1 [y] hx rfl (λj u hj=>?_) (λu hu=>by simp at hu;rw[hu];exact ZL) (by unfold maxLen;omega) (by omega) hB λv' w' h1 h2 _ h4=>?_
 ·match j,hj with
  |0,hj=>
   simp only[aC_,aR_]at hj;subst hj;simpa[Addr.add]using hc
 ·refine h v' w' (fd.app h1 h2 hy λk hk=>?_) h2 h4;rcases h4 with h|h
  ·exact .inl (h▸hk)
  ·right;rw[h]at hk;injection hk with hk;omega
end Go.Proofs.YtegfbhdkenkkdaaGreatDoor
