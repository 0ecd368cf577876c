/- Parts of the proofs about bulletinlaw29: Shelf3, Region, Mix, Text, Mem, Sha1, Sha2, Sha3, Sha4, Sha5, Sha6, Bytes, Sha7, Shelf, Refs, Line, Hex, Num, Sha8, PRec, Rec1, Rec2, Rec3, Rec4, Rec5, Secs. -/
import Derived.Shelf.SlGeneric
import Derived.Shelf.SlicesE.Clone
import Derived.Ground.SlgnProg
import Derived.Test.YthiafifdiaplaaaGreatDoorProg
import Derived.StillTail
import Derived.Deep.Quiet
import Derived.Below
import Derived.WalkKit
import Derived.BigQuiet
import Derived.Deep.RegionHeld3
import Derived.WalkLawsBesides
import Derived.WalkSpells
import Derived.LoopTactic
import Derived.Outline
import Derived.Lib.Hide
import Derived.Deep.QuietTactic
import Derived.Laws.StructEq
import Derived.Laws.NewBlocks
import Derived.Shelf.SlicesE.Kit
import Derived.IntWalk
import Derived.Deep.Cut
import Derived.Deep.CutBlock
import Derived.Carry
import Derived.Laws.CopyOwn
import Derived.Shelf.Strings.Builder1
import Derived.Shelf.Strings.Builder2
import Derived.Shelf.Strings.OnBuilder
import Derived.Shelf.Small.Bits
import Derived.Shelf.Small.Strs
import Derived.Shelf.Small.Wraps
import Derived.Shelf.Strings.BuilderF
import Derived.Shelf.Strings.BuilderK
import Derived.Shelf.Strings.Builder2Cap
import Derived.Shelf.Strconv.Itoa0
import Derived.Shelf.Strconv.Itoa1
import Derived.Shelf.LaysM
import Derived.Shelf.Strconv.Itoa2
import Derived.Shelf.Strconv.Itoa3
import Derived.Shelf.Strings.Search1
import Derived.Shelf.Strings.Search2
import Derived.Shelf.Strings.Search3
import Derived.Shelf.Strings.Cut
import Derived.Shelf.Strings.Count
import Derived.Shelf.Strings.Shaped
import Derived.Shelf.Strings.Split
import Derived.Shelf.Strings.SplitShaped
import Derived.Shelf.Unicode.DecodeSlow
import Derived.Shelf.Unicode.DecodeAny
import Derived.Shelf.Strings.BuilderCap
import Derived.Ground.Names2Prog
import Derived.Shelf.Slices.SearchI
import Derived.Ground.SlgfProg
import Derived.Shelf.SlicesE.IndexFunc
import Derived.Ground.SlsfProg
import Derived.Shelf.SlSortCmp.Insertion
import Derived.Shelf.SlSortCmp.SiftDown1
import Derived.Shelf.SlSortCmp.HeapSort1
import Derived.Shelf.SlSortCmp.Insertion1
import Derived.Shelf.SlSortCmp.Median1
import Derived.Shelf.SlSortCmp.Pivot1
import Derived.Shelf.SlSortCmp.ReverseRange1
import Derived.Shelf.SlSortCmp.PartialInsertion1
import Derived.Shelf.SlSortCmp.PartitionEqual1
import Derived.Shelf.SlSortCmp.Partition1
import Derived.Shelf.SlSortCmp.Pdq1
import Derived.Shelf.SlSortCmp.Whole1
import Derived.Shelf.SlSortCmp.NoneTotal
import Derived.Shelf.SlicesQ.Contains
import Derived.Ground.SlgqProg
import Derived.Deep.LoopGhost
import Derived.Deep.RegionWith
import Derived.Deep.DeepFit
import Derived.StillTailTactics
import Derived.Lib.ItoaNum
import Derived.Laws.IdiomCopy
import Derived.Lib.BufferMore
import Derived.Maps.AppendAt
set_option maxRecDepth 100000
set_option maxHeartbeats 8000000
namespace Go.Proofs.YthiafifdiaplaaaGreatDoor
open Go Go.RowKit Go.Proofs
theorem h_ {p:Prop}(h:p):Hid p:=Lib.hid h
theorem b_ (w:World)(o:Obj):Below w.heap.size w (w.alloc o):=(Below.refl _ _).alloc (Nat.le_refl _) o
theorem v_ {α:Type}:(∀ (l:List α) (i:Nat),l.toArray[i]?=l[i]?)∧(∀ (a:α) (l:List α),(a :: l)[0]?=some a)∧(∀ (a:α) (l:List α) (i:Nat),(a :: l)[i+1]?=l[i]?):=⟨fun _ _=>List.getElem?_toArray ..,fun _ _=>rfl,fun _ _ _=>rfl⟩
theorem i_ {α:Type}{xs:Array α}{i:Nat}{b:α}(h:xs[i]?=some b):∃ h:i<xs.size,xs[i]=b:=Array.getElem?_eq_some_iff.1 h
end Go.Proofs.YthiafifdiaplaaaGreatDoor
namespace Go.Proofs
open Go.Shelf
def Tryz.cloneIvl_ren:Go.Shelf.Ren:=⟨fun | 41=>88 | n=>n,fun | 22=>185 | 23=>190 | 4=>4 | n=>n,fun | n=>n⟩
theorem Tryz.cloneIvl:Go.Proofs.SlLaysE0.n41 Tryz.prog Tryz.cloneIvl_ren:={
 mixed:=by kernel_rfl
 f41:=⟨Tryz.f88.name,by decide,Tryz.func88.trans (congrArg some (by kernel_rfl))⟩
 t4:=Tryz.underlying4
 a4:=Tryz.isAgg4
 z4:=Tryz.sizeOf4
 v4:=Tryz.zeroValue4
 t22:=Tryz.underlying185
 a22:=Tryz.isAgg185
 z22:=Tryz.sizeOf185
 v22:=Tryz.zeroValue185 }
end Go.Proofs
namespace Go.Proofs.YthiafifdiaplaaaGreatDoor
open Go Go.RowKit
section
variable {P:Program}
def xHx (ops:Array Oper)(n:Nat):Bool :=
 (List.range n).all fun i=>match ops[i]? with
  | some o=>(o.after.all fun e=>!Region.binds .any e || decide (e.on<i)) && (match o.guard with | none=>true | some (j,_)=>decide (j<n))
  | none=>false
theorem xGe {md:Region.Mode}{ops:Array Oper}{Q:Exit→Act→World→Prop}:∀ (f:Nat) (listed:Array Bool) (a:Act) (w:World),wpAny P md ops Q f listed a w→wpAny P md ops Q (f+1) listed a w
 | 0,_,_,_,h=>⟨fun _=>h.2,fun i hi=>by rw[h.1] at hi;cases hi⟩
 | f+1,_,_,_,h=>⟨h.1,fun i hi=>wpOp_mono (fun a' w' h'=>xGe f _ a' w' h') (h.2 i hi)⟩
theorem xGd {md:Region.Mode}{ops:Array Oper}{Q:Exit→Act→World→Prop}{listed:Array Bool}{a:Act}{w:World}{f:Nat}(h:wpAny P md ops Q f listed a w):∀ k,wpAny P md ops Q (k+f) listed a w
 | 0=>by simpa using h
 | k+1=>by rw[show k+1+f=(k+f)+1 by omega];exact xGe _ _ _ _ (xGd h k)
theorem kN {ops:Array Oper}{n i:Nat}(h:xHx ops n=true)(hi:i<n):∃ o,ops[i]?=some o∧(∀ e∈o.after,Region.binds .any e=true→e.on<i)∧(∀ j b,o.guard=some (j,b)→j<n):=by
 have h1:=List.all_eq_true.1 h i (List.mem_range.2 hi)
 split at h1
 ·rename_i o ho
  simp only[Bool.and_eq_true,Array.all_eq_true_iff_forall_mem,Bool.or_eq_true,Bool.not_eq_true',decide_eq_true_eq] at h1
  refine⟨o,ho,fun e he hb=>?_,fun j b hg=>?_⟩
  ·rcases h1.1 e he with h2 | h2
   ·rw[hb] at h2;cases h2
   ·exact h2
  ·have h2:=h1.2
   rw[hg] at h2
   simpa using h2
 ·cases h1
theorem kR {x y:Array Bool}{i:Nat}{d:Bool}(h:x[i]?=y[i]?):x.getD i d=y.getD i d:=by simp[h]
theorem xP5 {ops:Array Oper}{n:Nat}{listed:Array Bool}(hB:xHx ops n=true)(hsz:listed.size=n):∀ (m:Nat),m<n→listed.getD m true=false→∃ i,i<n∧i∈Region.ready .any ops listed:=by
 intro m
 induction m using Nat.strongRecOn with
 | _ m ih =>
  intro hm hun
  obtain⟨o,ho,he,_⟩:=kN hB hm
  by_cases hall:∀ e∈o.after,Region.binds .any e=true→listed.getD e.on false=true
  ·exact⟨m,hm,mem_ready.2 ⟨hun,o,ho,hall⟩⟩
  ·obtain⟨e,hx⟩:=Classical.not_forall.1 hall
   obtain⟨hin,hx⟩:=Classical.not_imp.1 hx
   obtain⟨hb,hx⟩:=Classical.not_imp.1 hx
   have hlt:=he e hin hb
   refine ih e.on hlt (by omega) (getD_in (by omega) (by simpa using hx))
variable {C:World→Prop}
theorem xGy {l:List Oper}{n i:Nat}{listed listed':Array Bool}(hB:xHx l.toArray n=true)(hag:∀ j,j<n→listed'[j]?=listed[j]?)(hi:i<n) :
  i∈Region.ready .any (l.take n).toArray listed'↔i∈Region.ready .any l.toArray listed:=by
 have e1:(l.take n).toArray[i]?=l.toArray[i]?:=by simp[hi]
 have e2:listed'.getD i true=listed.getD i true:=kR (hag i hi)
 rw[mem_ready,mem_ready,e1,e2]
 obtain⟨o,ho,he,_⟩:=kN hB hi
 constructor
 ·rintro ⟨h1,o',ho',hall⟩
  refine⟨h1,o',ho',fun e hin hb=>?_⟩
  have:o'=o:=Option.some.inj (ho'.symm.trans ho)
  subst this
  rw[←kR (hag e.on (by have:=he e hin hb;omega))]
  exact hall e hin hb
 ·rintro ⟨h1,o',ho',hall⟩
  refine⟨h1,o',ho',fun e hin hb=>?_⟩
  have:o'=o:=Option.some.inj (ho'.symm.trans ho)
  subst this
  rw[kR (hag e.on (by have:=he e hin hb;omega))]
  exact hall e hin hb
theorem xNr {l:List Oper}{n i:Nat}{o:Oper}(hB:xHx l.toArray n=true)(hi:i<n)(ho:l.toArray[i]?=some o)(t:Array Value) :
  Region.wanted o (yielded (l.take n).toArray t)=Region.wanted o (yielded l.toArray t):=by
 obtain⟨o',ho',_,hg⟩:=kN hB hi
 have:o'=o:=Option.some.inj (ho'.symm.trans ho)
 subst this
 unfold Region.wanted
 cases hq:o'.guard with
 | none=>rfl
 | some x =>
  obtain⟨j,b⟩:=x
  have hj:=hg j b hq
  have e1:(l.take n).toArray[j]?=l.toArray[j]?:=by simp[hj]
  simp only[yielded,e1]
theorem yB0 {l:List Oper}{n:Nat}{Q:Exit→Act→World→Prop}(hn:n<l.length)(hs:Region.sinkB .any l.toArray n=true)(hc:Region.chainB .any l.toArray n=true)(hB:xHx l.toArray n=true)
  (hseq:Region.seqB .any l.toArray (l.length-n) n ((Array.replicate n true)++(Array.replicate (l.length-n) false))=true) :
  ∀ (f:Nat) (listed listed':Array Bool) (a:Act) (w:World),HeadInv .any l.toArray n listed→listed'.size=n→(∀ j,j<n→listed'[j]?=listed[j]?)→C w →
   wpAnyQ P .any (l.take n).toArray C (fun a'=>∀ w',C w'→wpList P l.toArray Q (l.drop n) a' w') f listed' a→wpAny P .any l.toArray Q (f+(l.length-n)) listed a w:=by
 have done:∀ (listed listed':Array Bool) (a:Act) (w:World),HeadInv .any l.toArray n listed→listed'.size=n→(∀ j,j<n→listed'[j]?=listed[j]?)→Region.ready .any (l.take n).toArray listed'=[] →
   wpList P l.toArray Q (l.drop n) a w→wpAny P .any l.toArray Q (l.length-n) listed a w:=by
  intro listed listed' a w inv hsz hag hr h
  have hB':xHx (l.take n).toArray n=true:=by
   refine List.all_eq_true.2 fun i hi=>?_
   have hi':i<n:=List.mem_range.1 hi
   have h1:=List.all_eq_true.1 hB i hi
   have e1:(l.take n).toArray[i]?=l.toArray[i]?:=by simp[hi']
   rw[e1];exact h1
  have hall:∀ i,i<n→listed[i]?=some true:=by
   intro i hi
   have hlt:i<listed.size:=by rw[inv.size];simp;omega
   cases hv:listed[i] with
   | true=>rw[Array.getElem?_eq_getElem hlt,hv]
   | false =>
    have hun:listed'.getD i true=false:=by rw[kR (hag i hi)];simp[hlt,hv]
    obtain⟨j,_,hj⟩:=xP5 hB' hsz i hi hun
    rw[hr] at hj;cases hj
  have heq:listed=(Array.replicate n true)++(Array.replicate (l.length-n) false):=by
   apply Array.ext_getElem?
   intro i
   by_cases hi:i<n
   ·rw[hall i hi,Array.getElem?_append_left (by simpa using hi)];simp[hi]
   ·by_cases hi2:i<l.length
    ·have h1:=inv.tail i (by omega) (by simpa using hi2)
     have hlt:i<listed.size:=by rw[inv.size];simpa using hi2
     have h2:listed[i]=false:=by simpa[hlt] using h1
     rw[Array.getElem?_append_right (by simp;omega),Array.getElem?_eq_getElem hlt,h2,Array.size_replicate,Array.getElem?_eq_getElem (by simp;omega)]
     simp
    ·rw[Array.getElem?_eq_none (by rw[inv.size];simp;omega),Array.getElem?_eq_none (by simp;omega)]
  have:=wpAny_of_seq (P:=P) (md:=.any) (ops:=l.toArray) (Q':=Q) (l.drop n) n listed a w (fun j=>by simp[List.getElem?_drop]) (by rw[List.length_drop,heq];exact hseq) h
  rwa [List.length_drop] at this
 intro f
 induction f with
 | zero =>
  intro listed listed' a w inv hsz hag hw h
  rw[Nat.zero_add]
  exact done listed listed' a w inv hsz hag h.1 (h.2 w hw)
 | succ f ih =>
  intro listed listed' a w inv hsz hag hw h
  by_cases hr:Region.ready .any (l.take n).toArray listed'=[]
  ·exact xGd (done listed listed' a w inv hsz hag hr (h.1 hr w hw)) (f+1)
  ·obtain⟨i0,hi0⟩:=List.exists_mem_of_ne_nil _ hr
   have hi0n:i0<n:=by
    obtain⟨_,o,ho,_⟩:=mem_ready.1 hi0
    have:=(i_ ho).1
    simp at this;omega
   have hmem:=(xGy hB hag hi0n).1 hi0
   rw[show f+1+(l.length-n)=(f+(l.length-n))+1 by omega]
   refine⟨fun he=>(by rw[he] at hmem;cases hmem),fun i hi=>?_⟩
   have hin:i<n:=by
    rcases Nat.lt_or_ge i n with h1 | h1
    ·exact h1
    ·exact absurd hi (tail_waits hs hc (by simpa using hn) inv (n-i0) i0 rfl hi0n (mem_ready.1 hmem).1 i h1)
   have hq:=h.2 i ((xGy hB hag hin).2 hi)
   obtain⟨o,ho,_,_⟩:=kN hB hin
   have e1:(l.take n).toArray[i]?=some o:=by rw[←ho];simp[hin]
   unfold qOp at hq
   unfold wpOp
   simp only[e1] at hq
   simp only[ho]
   rw[xNr hB hin ho] at hq
   have next:∀ (a':Act) (w':World),C w'→wpAnyQ P .any (l.take n).toArray C (fun a'=>∀ w',C w'→wpList P l.toArray Q (l.drop n) a' w') f (listed'.setIfInBounds i true) a' →
     wpAny P .any l.toArray Q (f+(l.length-n)) (listed.setIfInBounds i true) a' w':=fun a' w' hw' h' =>
    ih (listed.setIfInBounds i true) (listed'.setIfInBounds i true) a' w' (inv.set hi hin) (by simpa using hsz) (fun j hj=>by
     have h1:=hag j hj
     have s1:i<listed'.size:=by omega
     have s2:i<listed.size:=by rw[inv.size];simp;omega
     simp only[Array.getElem?_setIfInBounds,s1,s2,if_true,h1]) hw' h'
   split
   ·rename_i hwant
    rw[if_pos hwant] at hq
    exact .inl (Oper.wp_of_quiet hw next hq)
   ·rename_i hwant
    rw[if_neg hwant] at hq
    exact next _ _ hw hq
def htB (l:List Oper)(n:Nat):Bool :=
 decide (n<l.length) && Region.sinkB .any l.toArray n && Region.chainB .any l.toArray n && xHx l.toArray n && Region.lexB .any (l.take n).toArray
  && Region.seqB .any l.toArray (l.length-n) n ((Array.replicate n true)++(Array.replicate (l.length-n) false))
theorem kG {id:Nat}{Q:Exit→Act→World→Prop}{a:Act}{w:World}{l:List Oper}(n:Nat)(C:World→Prop)(hm:P.follows .mixedOrders=true)(hB:htB l n=true)(hC:C w.drew)
  (h:wpQuiet P (l.take n).toArray C (fun a'=>∀ w',C w'→wpList P l.toArray Q (l.drop n) a' w') (l.take n) a):(Code.region id l.toArray true).wp P Q a w:=by
 simp only[htB,Bool.and_eq_true,decide_eq_true_eq] at hB
 obtain⟨⟨⟨⟨⟨hn,hs⟩,hc⟩,hh⟩,hl⟩,hq⟩:=hB
 simp only[Region.lexB,Bool.and_eq_true] at hl
 have hlen:(l.take n).length=n:=by simp;omega
 refine wp_region_any hm ?_
 have h1:=wpAnyQ_lex (P:=P) (C:=C) (md:=.any) hl.1 (l.take n) 0 (Array.replicate (l.take n).toArray.size false) a (by simp) (by simpa using hl.2) h
 have h2:=yB0 (P:=P) (C:=C) (Q:=Q) hn hs hc hh hq (l.take n).length (Array.replicate l.toArray.size false) (Array.replicate (l.take n).toArray.size false) a w.drew
  ⟨by simp,fun j oj _ hl=>(by rw[getD_replicate_false] at hl;cases hl),fun t _ ht=>getD_in (by simpa using ht) (getD_replicate_false _ _)⟩
  (by simp;omega) (fun j hj=>by simp[show j<min n l.length by omega,show j<l.length by omega]) hC h1
 rw[hlen,show n+(l.length-n)=l.toArray.size by simp;omega] at h2
 exact h2
end
def xf (w:World):Type:={ w':World // Below w.heap.size w w' }
instance {w:World}:CoeOut (xf w) World:=⟨Subtype.val⟩
instance {w:World}:Nonempty (xf w):=⟨⟨w,Below.refl _ _⟩⟩
theorem xf.cell {w:World}{a:Addr}{v:Value}(h:w.cell? a=some v)(z:xf w):z.1.cell? a=some v:=(z.2.cell (block_lt_of_cell h)).trans h
theorem xf.call {P:Program}{f:FuncId}{args:Array Value}{w:World}{z:xf w}{v:Value}
  (h:Calls P f args z.1 fun e w'=>e=.returned v∧Below z.1.heap.size z.1 w'):Calls P f args z.1 fun e w''=>e=.returned v∧∃ z':xf w,w''=z'.1 :=
 h.mono fun _ _ ⟨he,hb⟩=>⟨he,⟨⟨_,z.2.trans (hb.mono z.2.size)⟩,rfl⟩⟩
theorem xf.call_same {P:Program}{f:FuncId}{args:Array Value}{w:World}{z:xf w}{v:Value}
  (h:Calls P f args z.1 fun e w'=>e=.returned v∧z.1=w'):Calls P f args z.1 fun e w''=>e=.returned v∧∃ z':xf w,w''=z'.1 :=
 h.mono fun _ _ ⟨he,hb⟩=>⟨he,z,hb.symm⟩
end Go.Proofs.YthiafifdiaplaaaGreatDoor
namespace Go.Proofs.YthiafifdiaplaaaGreatDoor
open Go Go.RowKit
section
variable {P:Program} {ops:Array Oper} {C:World→Prop} {Q:Exit→Act→World→Prop}
theorem xTw {j:Nat}{oi oj:Oper}{v:Value}(hj:ops[j]?=some oj)(hap:oi.apart ops oj=true)(hsi:∀ cs b,oi.op≠.select cs b)(hsj:∀ cs b,oj.op≠.select cs b)
  {K:Act→World→Prop} {a:Act} {w:World} (hy:YieldsIn P ops C oi v a) (h:wpOp P ops (NoPanic Q) j K (a.put oi.dst v) w) :
  wpOp P ops (NoPanic Q) j (fun a' w'=>YieldsIn P ops C oi v a'∧K (a'.put oi.dst v) w') a w:=by
 obtain⟨h1,h2,h3⟩:=Oper.apart_spec hap
 have keep:∀ (a:Act),YieldsIn P ops C oi v a→∀ u,YieldsIn P ops C oi v (a.put oj.dst u):=fun a hy u =>
  hy.of_same (execOp_put oi hsi a oj.dst u h3) (wanted_put oi a oj.dst u h3)
 have keepD:∀ d,YieldsIn P ops C oi v { a with defers:=d :: a.defers }:=fun d=>hy.of_same rfl rfl
 unfold wpOp at *
 simp only[hj] at *
 rw[wanted_put oj a oi.dst v h1] at h
 split
 ·rename_i hw
  simp only[hw,if_true] at h
  rcases h with h | ⟨hasks,hlets⟩
  case inr=>exact .inr ⟨by unfold Oper.asks at *;rw[execOp_put oj hsj a oi.dst v h1] at hasks;exact hasks,hlets⟩
  refine .inl ?_
  unfold Oper.wp at *
  rw[execOp_put oj hsj a oi.dst v h1] at h
  generalize (execOp a.eval oj).run P w=r at *
  cases r with
  | ok n w' =>
   cases n <;> simp only[Oper.upon] at h ⊢
   case value u=>exact⟨keep a hy u,by rw[←Act.put_comm a v u h2];exact h⟩
   case skip=>exact⟨keep a hy _,by rw[←Act.put_comm a v undef h2];exact h⟩
   case defer d =>
    refine⟨keep _ (keepD d) _,?_⟩
    rw[←Act.put_comm _ v undef h2,←Act.put_defers]
    exact h
   case enter f args =>
    refine Calls.mono h fun e w'' he=>?_
    cases e with
    | returned u=>exact⟨keep a hy u,by rw[←Act.put_comm a v u h2];exact he⟩
    | panicked c=>exact he.elim
    | outgrown=>exact he
   case row row args=>exact Rows.mono h fun u w'' he=>⟨keep a hy u,by rw[←Act.put_comm a v u h2];exact he⟩
  | halt x w' =>
   cases x <;> simp only[Oper.upon] at h ⊢
   case panic u=>exact h.elim
 ·rename_i hw
  simp only[hw] at h
  exact⟨keep a hy _,by rw[←Act.put_comm a v undef h2];exact h⟩
def zp (ops:Array Oper)(E:List Nat):List Oper:=E.map fun i=>ops.getD i default
theorem xEd {i:Nat}{o:Oper}(h:ops[i]?=some o):ops.getD i default=o:=by simp[h]
theorem yP {K K':Act→Prop}(hk:∀ a,K a→K' a):∀ (l:List Oper) (a:Act),wpQuiet P ops C K l a→wpQuiet P ops C K' l a
 | [],_,h=>hk _ h
 | o :: l,a,h=>by
  unfold wpQuiet at *
  split
  ·rename_i hw
   rw[if_pos hw] at h
   exact Oper.quiet_mono (yP hk l) h
  ·rename_i hw
   rw[if_neg hw] at h
   exact yP hk l _ h
theorem xH2 {i:Nat}{o:Oper}{K:Act→Prop}{l:List Oper}{a:Act}(hi:ops[i]?=some o)(h:wpQuiet P ops C K (o :: l) a):∃ v,YieldsIn P ops C o v a∧wpQuiet P ops C K l (a.put o.dst v) :=
 yieldsIn_of_qOp hi (by unfold qOp;simp only[hi];exact h)
theorem xIg {i:Nat}{o:Oper}{K:Act→Prop}{l:List Oper}{a:Act}{v:Value}(hi:ops[i]?=some o)(hy:YieldsIn P ops C o v a)(h:wpQuiet P ops C K l (a.put o.dst v)):wpQuiet P ops C K (o :: l) a:=by
 have:=hy.qOp hi (K:=wpQuiet P ops C K l) h
 unfold qOp at this
 simp only[hi] at this
 exact this
theorem vV {e:Nat}{oe:Oper}(he:ops[e]?=some oe)(hsel:∀ (j:Nat) (o:Oper) cs b,ops[j]?=some o→o.op≠.select cs b){K:Act→Prop} :
  ∀ (E1 E2:List Nat) (a:Act),(∀ x∈E1,∃ ox,ops[x]?=some ox∧ox.apart ops oe=true)→wpQuiet P ops C K (zp ops (E1++e :: E2)) a→qOp P ops C e (wpQuiet P ops C K (zp ops (E1++E2))) a
 | [],E2,a,_,h=>by
  have hd:zp ops (e :: E2)=oe :: zp ops E2:=by unfold zp;rw[List.map_cons,xEd he]
  rw[List.nil_append,hd] at h
  rw[List.nil_append]
  unfold qOp
  simp only[he]
  exact h
 | x :: E1,E2,a,hx,h=>by
  obtain⟨ox,hox,hap⟩:=hx x (by simp)
  have hd:∀ T,zp ops (x :: T)=ox :: zp ops T:=fun T=>by unfold zp;rw[List.map_cons,xEd hox]
  rw[List.cons_append,hd] at h
  obtain⟨v,hy,h2⟩:=xH2 hox h
  have ih:=vV he hsel E1 E2 _ (fun y hy=>hx y (by simp[hy])) h2
  have:=qOp_put he hap (fun cs b=>hsel x ox cs b hox) (fun cs b=>hsel e oe cs b he) hy ih
  refine qOp_mono (fun a' h3=>?_) this
  rw[List.cons_append,hd]
  exact xIg hox h3.1 h3.2
theorem kz {r:Nat}{orr:Oper}(hr:ops[r]?=some orr)(hsel:∀ (j:Nat) (o:Oper) cs b,ops[j]?=some o→o.op≠.select cs b){K:Act→World→Prop}{w:World} :
  ∀ (E:List Nat) (a:Act),(∀ x∈E,∃ ox,ops[x]?=some ox∧ox.apart ops orr=true)→wpQuiet P ops C (fun a'=>wpOp P ops (NoPanic Q) r K a' w) (zp ops E) a →
   wpOp P ops (NoPanic Q) r (fun a' w'=>wpQuiet P ops C (fun a''=>K a'' w') (zp ops E) a') a w
 | [],_,_,h=>h
 | x :: E,a,hx,h=>by
  obtain⟨ox,hox,hap⟩:=hx x (by simp)
  have hd:zp ops (x :: E)=ox :: zp ops E:=by unfold zp;rw[List.map_cons,xEd hox]
  rw[hd] at h
  obtain⟨v,hy,h2⟩:=xH2 hox h
  have ih:=kz hr hsel E _ (fun y hy=>hx y (by simp[hy])) h2
  refine wpOp_mono (fun a' w' h3=>?_) (xTw hr hap (fun cs b=>hsel x ox cs b hox) (fun cs b=>hsel r orr cs b hr) hy ih)
  rw[hd]
  exact xIg hox h3.1 h3.2
def ancB (ops:Array Oper):Nat→Nat→Nat→Bool
 | 0,_,_=>false
 | f+1,r,e=>match ops[r]? with
  | some o=>o.after.any fun x=>Region.binds .any x && (x.on == e || ancB ops f x.on e)
  | none=>false
def kl (ops:Array Oper)(L:Array Bool):Prop:=∀ j oj,ops[j]?=some oj→L.getD j false=true→∀ e∈oj.after,Region.binds .any e=true→L.getD e.on false=true
theorem qM {L:Array Bool}(hc:kl ops L):∀ (f r e:Nat),(∀ o,ops[r]?=some o→∀ x∈o.after,Region.binds .any x=true→L.getD x.on false=true)→ancB ops f r e=true→L.getD e false=true
 | 0,_,_,_,h=>by simp[ancB] at h
 | f+1,r,e,hr,h=>by
  unfold ancB at h
  split at h
  ·rename_i o ho
   obtain⟨x,hx,hb⟩:=Array.any_eq_true'.1 h
   simp only[Bool.and_eq_true,Bool.or_eq_true,beq_iff_eq] at hb
   have h1:=hr o ho x hx hb.1
   rcases hb.2 with rfl | h2
   ·exact h1
   ·exact qM hc f x.on e (fun o' ho'=>hc x.on o' ho' h1) h2
  ·cases h
def zQ (ops:Array Oper)(E:List Nat)(r:Nat):Bool:=!(E.all fun e=>ancB ops ops.size r e)
def wpR (P:Program)(ops:Array Oper)(Q:Exit→Act→World→Prop)(C:World→Prop)(E:List Nat):List Nat→Act→World→Prop
 | [],a,w=>Q .normal a w
 | r :: rest,a,w=>wpOp P ops (NoPanic Q) r (fun a' w'=>(zQ ops E r=true→C w')∧wpR P ops Q C E rest a' w') a w
def jb (o:Oper):Bool:=match o.op with
 | .move _ | .assign _ | .pick .. | .convert .. | .load .. | .fieldAddr .. | .field .. | .index .. | .indexAddr .. | .binOp .. | .unOp .. | .slice .. | .extract .. | .build .. | .lookup .. | .nilCheck _=>false
 | _=>true
theorem ja {s:Sem Value}{w w':World}{f:FuncId}{args:Array Value}(h:Sem.run P (do pure (Next.value (←s))) w=.ok (.enter f args) w'):False:=by
 rw[Sem.run_bind] at h
 generalize s.run P w=r at h
 cases r with
 | ok v w1=>simp[Result.andThen] at h
 | halt x w1=>simp[Result.andThen] at h
theorem vP {w w':World}{f:FuncId}{args:Array Value}(h:Sem.run P (runtimePanic (α:=Next) .nilDeref) w=.ok (.enter f args) w'):False:=by
 simp[runtimePanic,goPanic,Sem.run_bind,run_program] at h
theorem xC7 {o:Oper}{ρ:Operand→Value}{w w':World}{f:FuncId}{args:Array Value}(hc:jb o=false)(h:(execOp ρ o).run P w=.ok (.enter f args) w'):False:=by
 obtain⟨d,op,ty,pos,af,g⟩:=o
 cases op <;> simp only[jb,Bool.true_eq_false] at hc
 case move x=>simp[execOp] at h
 case assign x=>simp[execOp] at h
 case pick c a b =>
  simp only[execOp,Sem.run_bind] at h
  generalize (asBool (ρ c)).run P w=r at h
  cases r with
  | ok v w1=>simp[Result.andThen] at h
  | halt x w1=>simp[Result.andThen] at h
 case nilCheck x =>
  simp only[execOp] at h
  split at h
  ·exact vP h
  ·exact vP h
  ·exact vP h
  ·split at h
   ·exact vP h
   ·rename_i t v
    simp only[Sem.run_bind,run_program,Result.andThen_ok] at h
    generalize (nilAhead _ _ _ _).run P w=r at h
    cases r with
    | ok b w1 =>
     simp only[Result.andThen_ok] at h
     by_cases hb:(b != some false)=true
     ·rw[if_pos hb] at h
      simp[unsupported] at h
     ·rw[if_neg hb] at h
      simp at h
    | halt x w1=>simp[Result.andThen] at h
   ·simp at h
  ·simp at h
 all_goals exact ja h
def jS (f:Nat→Nat→Bool):List Nat→Bool
 | []=>true
 | x :: l=>l.all (f x) && jS f l
theorem uH {f:Nat→Nat→Bool}:∀ {l:List Nat},jS f l=true→l.Pairwise fun x y=>f x y=true
 | [],_=>.nil
 | x :: l,h=>by
  simp only[jS,Bool.and_eq_true,List.all_eq_true] at h
  exact .cons h.1 (uH h.2)
def jG (ops:Array Oper):List Nat→Bool
 | r :: s :: l=>Region.waitsFor .any ops s r && jG ops (s :: l)
 | _=>true
def qy (ops:Array Oper)(y e:Nat):Bool:=Region.waitsFor .any ops e y || (match ops[y]?,ops[e]? with | some oy,some oe=>oy.apart ops oe | _,_=>false)
def ze (ops:Array Oper)(l:List Nat)(e:Nat):Bool:=match ops[e]? with
 | some o=>o.after.all fun x=>!Region.binds .any x || (l.contains x.on && x.on != e)
 | none=>false
def mixB (ops:Array Oper)(E R:List Nat):Bool :=
 Region.noSelect ops && decide ((E++R).Nodup) && decide (E.length+R.length=ops.size) && ((List.range ops.size).all fun i=>E.contains i || R.contains i)
 && E.all (ze ops E) && jS (fun y e=>!Region.waitsFor .any ops y e && qy ops y e) E
 && R.all (ze ops (E++R)) && jS (fun r s=>!Region.waitsFor .any ops r s) R && jG ops R
 && (R.all fun r=>E.all fun y=>qy ops y r)
 && (E.all fun e=>match ops[e]? with | some o=>!jb o || (match R with | r :: _=>ancB ops ops.size r e | []=>true) | none=>false)
def unl (L:Array Bool)(i:Nat):Bool:=!L.getD i true
def Zf (P:Program)(ops:Array Oper)(Q:Exit→Act→World→Prop)(C:World→Prop)(E:List Nat)(ph:Bool)(w:World)(R:List Nat)(a:Act):Prop :=
 if ph=true then wpR P ops Q C E R a w else ∀ w',C w'→wpR P ops Q C E R a w'
theorem uF {r e:Nat}{o:Oper}(ho:ops[r]?=some o){x:Edge}(hx:x∈o.after)(hb:Region.binds .any x=true)(hon:x.on=e):Region.waitsFor .any ops r e=true:=by
 unfold Region.waitsFor
 rw[ho]
 exact Array.any_eq_true'.2 ⟨x,hx,by simp[hb,hon]⟩
theorem yu {L:Array Bool}{i x:Nat}(hi:i∈Region.ready .any ops L)(hx:L.getD x true=false):Region.waitsFor .any ops i x=false:=by
 cases h:Region.waitsFor .any ops i x with
 | false=>rfl
 | true =>
  obtain⟨o,ho,e,he,hb,hon⟩:=Region.waitsFor_spec h
  obtain⟨_,o',ho',hall⟩:=mem_ready.1 hi
  have:o'=o:=Option.some.inj (ho'.symm.trans ho)
  subst this
  have h1:=hall e he hb
  rw[hon,getD_both hx] at h1
  cases h1
theorem xA1:∀ {r:Nat} {l:List Nat},jG ops (r :: l)=true→∀ i∈l,∃ p∈r :: l,Region.waitsFor .any ops i p=true
 | _,[],_,i,hi=>by cases hi
 | r,s :: l,h,i,hi=>by
  simp only[jG,Bool.and_eq_true] at h
  rcases List.mem_cons.1 hi with rfl | hi
  ·exact⟨r,by simp,h.1⟩
  ·obtain⟨p,hp,hw⟩:=xA1 h.2 i hi
   exact⟨p,by simp at hp ⊢;rcases hp with hp | hp <;> simp[hp],hw⟩
theorem jq:∀ (Rd R':List Nat),jG ops (Rd++R')=true→jG ops R'=true
 | [],_,h=>h
 | [r],[],_=>rfl
 | [r],s :: l,h=>by simp only[List.cons_append,List.nil_append,jG,Bool.and_eq_true] at h;exact h.2
 | r :: s :: Rd,R',h=>by
  simp only[List.cons_append,jG,Bool.and_eq_true] at h
  exact jq (s :: Rd) R' h.2
theorem vF {L:Array Bool}{e:Nat}{E E1 E2:List Nat}(hsz:e<L.size)(hnd:E.Nodup)(h:E.filter (unl L)=E1++e :: E2):E.filter (unl (L.setIfInBounds e true))=E1++E2:=by
 have h1:E.filter (unl (L.setIfInBounds e true))=(E.filter (unl L)).filter (fun i=>i != e):=by
  rw[List.filter_filter]
  apply List.filter_congr
  intro i _
  by_cases hie:i=e
  ·subst hie;simp[unl,hsz]
  ·have:(L.setIfInBounds e true).getD i true=L.getD i true:=getD_set_ne true (Ne.symm hie)
   simp only[unl,this]
   simp[hie]
 have hnd':(E1++e :: E2).Nodup:=h ▸ hnd.filter _
 rw[h1,h,List.filter_append,List.filter_cons]
 simp only[bne_self_eq_false,Bool.false_eq_true,if_false]
 rw[List.nodup_append] at hnd'
 obtain⟨n1,n2,n3⟩:=hnd'
 rw[List.filter_eq_self.2,List.filter_eq_self.2]
 ·intro x hx;simp only[bne_iff_ne];rintro rfl;exact(List.nodup_cons.1 n2).1 hx
 ·intro x hx;simp only[bne_iff_ne];rintro rfl;exact n3 x hx x (by simp) rfl
theorem uC {L:Array Bool}{r:Nat}{E:List Nat}(hr:r ∉ E):E.filter (unl (L.setIfInBounds r true))=E.filter (unl L):=by
 apply List.filter_congr
 intro i hi
 have:(L.setIfInBounds r true).getD i true=L.getD i true:=getD_set_ne true (by rintro rfl;exact hr hi)
 simp only[unl,this]
theorem qO {X:Prop}{Y:Act→Prop}:∀ (l:List Oper) (a:Act),wpQuiet P ops C (fun a=>X∧Y a) l a→X
 | [],_,h=>h.1
 | o :: l,a,h=>by
  unfold wpQuiet at h
  split at h
  ·obtain⟨v,_,h2⟩:=h
   exact qO l _ h2
  ·exact qO l _ h
theorem jx {e:Nat}{o:Oper}{K:Act→Prop}{K':Act→World→Prop}{a:Act}{w:World}(he:ops[e]?=some o)(hcall:jb o=false)(hC:C w)(hk:∀ a',K a'→K' a' w)(h:qOp P ops C e K a) :
  wpOp P ops (NoPanic Q) e K' a w:=by
 unfold qOp at h
 unfold wpOp
 simp only[he] at h ⊢
 split
 ·rename_i hw
  rw[if_pos hw] at h
  refine .inl ?_
  obtain⟨v,hv,hn⟩:=h
  have h1:=hv w hC
  unfold Oper.quietAt at h1
  unfold Oper.wp
  generalize hr:(execOp a.eval o).run P w=r at *
  cases r with
  | ok n w' =>
   cases n <;> simp only[Oper.quietUpon] at h1 <;> simp only[Oper.upon]
   case value u=>obtain⟨rfl,rfl⟩:=h1;exact hk _ hn
   case skip=>obtain⟨rfl,rfl⟩:=h1;exact hk _ hn
   case enter f args =>
    exfalso
    exact xC7 hcall hr
  | halt x w'=>exact h1.elim
 ·rename_i hw
  rw[if_neg hw] at h
  exact hk _ h
theorem xWv {E R:List Nat}(hB:mixB ops E R=true):∀ (n:Nat) (L:Array Bool) (Rd R':List Nat) (a:Act) (w:World) (ph:Bool),R=Rd++R'→L.size=ops.size→kl ops L→(∀ r∈Rd,L.getD r true=true)→(∀ r∈R',L.getD r true=false) →
  (E.filter (unl L)).length+R'.length=n→(E.filter (unl L)≠[]→C w)→(ph=false→C w∧Rd=[])→(ph=true→∀ e∈E.filter (unl L),∀ o,ops[e]?=some o→jb o=false) →
  wpQuiet P ops C (Zf P ops Q C E ph w R') (zp ops (E.filter (unl L))) a→wpAny P .any ops (NoPanic Q) n L a w:=by
 simp only[mixB,Bool.and_eq_true,decide_eq_true_eq,List.all_eq_true] at hB
 obtain⟨⟨⟨⟨⟨⟨⟨⟨⟨⟨hns,hnd⟩,hlen⟩,hcov⟩,hpE⟩,hpair⟩,hpR⟩,hpairR⟩,hchain⟩,hapR⟩,hcalls⟩:=hB
 have hsel:=Region.noSelect_spec hns
 have hpair':=uH hpair
 have hpairR':=uH hpairR
 have hndE:E.Nodup:=(List.nodup_append.1 hnd).1
 have hdis:∀ x,x∈E→x∈R→False:=fun x h1 h2=>(List.nodup_append.1 hnd).2.2 x h1 x h2 rfl
 have hget:∀ (l:List Nat) (e:Nat),ze ops l e=true→∃ o,ops[e]?=some o∧∀ x∈o.after,Region.binds .any x=true→x.on∈l∧x.on≠e:=by
  intro l e h
  unfold ze at h
  split at h
  ·rename_i o ho
   refine⟨o,ho,fun x hx hb=>?_⟩
   have h1:=(Array.all_eq_true_iff_forall_mem.1 h) x hx
   simp only[hb,Bool.not_true,Bool.false_or,Bool.and_eq_true,List.contains_iff_mem,bne_iff_ne] at h1
   exact h1
  ·cases h
 have hapart:∀ y e,qy ops y e=true→Region.waitsFor .any ops e y=false→∃ oy oe,ops[y]?=some oy∧ops[e]?=some oe∧oy.apart ops oe=true:=by
  intro y e h hw
  unfold qy at h
  rw[hw,Bool.false_or] at h
  split at h
  ·rename_i oy oe h1 h2
   exact⟨oy,oe,h1,h2,h⟩
  ·cases h
 intro n
 induction n with
 | zero =>
  intro L Rd R' a w ph hR hsz hcl hRd hR' hn _ hphC _ h
  have hE0:E.filter (unl L)=[]:=List.eq_nil_of_length_eq_zero (by omega)
  have hR0:R'=[]:=List.eq_nil_of_length_eq_zero (by omega)
  subst hR0
  rw[List.append_nil] at hR
  subst hR
  rw[hE0] at h
  refine⟨?_,?_⟩
  ·rw[List.eq_nil_iff_forall_not_mem]
   intro i hi
   obtain⟨h1,o,ho,_⟩:=mem_ready.1 hi
   have hlt:=(i_ ho).1
   have hc:=hcov i (List.mem_range.2 hlt)
   simp only[Bool.or_eq_true,List.contains_iff_mem] at hc
   rcases hc with hc | hc
   ·have:i∈E.filter (unl L):=List.mem_filter.2 ⟨hc,by simp only[unl,h1,Bool.not_false]⟩
    rw[hE0] at this;cases this
   ·rw[hRd i hc] at h1;cases h1
  ·have h':Zf P ops Q C E ph w [] a:=h
   unfold Zf at h'
   split at h'
   ·exact h'
   ·rename_i hf
    exact h' w (hphC (by simpa using hf)).1
 | succ n ih =>
  intro L Rd R' a w ph hR hsz hcl hRd hR' hn hCw hphC hphE h
  have hunE:∀ x,x∈E.filter (unl L)↔x∈E∧L.getD x true=false:=fun x=>by
   rw[List.mem_filter];simp only[unl,Bool.not_eq_true']
  have hsome:Region.ready .any ops L≠[]:=by
   cases hE':E.filter (unl L) with
   | cons e T =>
    have he:=(hunE e).1 (by rw[hE'];simp)
    obtain⟨o,ho,hpre⟩:=hget E e (hpE e he.1)
    have hpw:=hpair'.filter (p:=unl L)
    rw[hE'] at hpw
    have:e∈Region.ready .any ops L:=mem_ready.2 ⟨he.2,o,ho,fun x hx hb=>by
     obtain⟨hxE,hxe⟩:=hpre x hx hb
     cases hlx:L.getD x.on false with
     | true=>rfl
     | false =>
      exfalso
      have hin:x.on<L.size:=by
       obtain⟨ox,hox,_⟩:=hget E x.on (hpE _ hxE)
       rw[hsz];exact(i_ hox).1
      have hxm:x.on∈E.filter (unl L):=(hunE _).2 ⟨hxE,getD_in hin hlx⟩
      rw[hE'] at hxm
      rcases List.mem_cons.1 hxm with h1 | h1
      ·exact hxe h1
      ·have h2:=(List.pairwise_cons.1 hpw).1 _ h1
       simp only[Bool.and_eq_true,Bool.not_eq_true'] at h2
       rw[uF ho hx hb rfl] at h2
       cases h2.1⟩
    intro h0;rw[h0] at this;cases this
   | nil =>
    cases R' with
    | nil=>rw[hE'] at hn;simp at hn
    | cons r rest =>
     have hrR:r∈R:=by rw[hR];simp
     obtain⟨o,ho,hpre⟩:=hget (E++R) r (hpR r hrR)
     have:r∈Region.ready .any ops L:=mem_ready.2 ⟨hR' r (by simp),o,ho,fun x hx hb=>by
      obtain⟨hxE,hxe⟩:=hpre x hx hb
      cases hlx:L.getD x.on false with
      | true=>rfl
      | false =>
       exfalso
       rcases List.mem_append.1 hxE with h1 | h1
       ·have hin:x.on<L.size:=by
         obtain⟨ox,hox,_⟩:=hget E x.on (hpE _ h1)
         rw[hsz];exact(i_ hox).1
        have:x.on∈E.filter (unl L):=(hunE _).2 ⟨h1,getD_in hin hlx⟩
        rw[hE'] at this;cases this
       ·have hin:x.on<L.size:=by
         obtain⟨ox,hox,_⟩:=hget (E++R) x.on (hpR _ h1)
         rw[hsz];exact(i_ hox).1
        rw[hR] at h1
        rcases List.mem_append.1 h1 with h2 | h2
        ·have:=hRd _ h2
         rw[getD_in hin hlx] at this;cases this
        ·rcases List.mem_cons.1 h2 with h3 | h3
         ·exact hxe h3
         ·rw[hR] at hpairR'
          have h4:=(List.pairwise_cons.1 (List.pairwise_append.1 hpairR').2.1).1 _ h3
          simp only[Bool.not_eq_true'] at h4
          rw[uF ho hx hb rfl] at h4
          cases h4⟩
     intro h0;rw[h0] at this;cases this
  refine⟨fun h0=>absurd h0 hsome,fun i hi=>?_⟩
  obtain⟨hiu,oi,hoi,hall⟩:=mem_ready.1 hi
  have hilt:=(i_ hoi).1
  have hcl':kl ops (L.setIfInBounds i true):=fun j oj hj hl e he hb=>by
   by_cases hij:i=j
   ·subst hij
    have:oj=oi:=Option.some.inj (hj.symm.trans hoi)
    subst this
    exact getD_set_true (hall e he hb)
   ·rw[getD_set_ne false hij] at hl
    exact getD_set_true (hcl j oj hj hl e he hb)
  have hc:=hcov i (List.mem_range.2 hilt)
  simp only[Bool.or_eq_true,List.contains_iff_mem] at hc
  rcases hc with hc | hc
  ·
   have himem:i∈E.filter (unl L):=(hunE i).2 ⟨hc,hiu⟩
   obtain⟨E1,E2,hsplit⟩:=List.append_of_mem himem
   have hiR:i ∉ R:=fun h'=>hdis i hc h'
   have hpw:=hpair'.filter (p:=unl L)
   rw[hsplit] at hpw h
   have hap:∀ x∈E1,∃ ox,ops[x]?=some ox∧ox.apart ops oi=true:=by
    intro x hx
    have h2:=(List.pairwise_append.1 hpw).2.2 x hx i (by simp)
    simp only[Bool.and_eq_true,Bool.not_eq_true'] at h2
    have hxu:L.getD x true=false:=((hunE x).1 (by rw[hsplit];simp[hx])).2
    obtain⟨oy,oe,h3,h4,h5⟩:=hapart x i h2.2 (yu hi hxu)
    have:oe=oi:=Option.some.inj (h4.symm.trans hoi)
    subst this
    exact⟨oy,h3,h5⟩
   have hq:=vV hoi hsel E1 E2 a hap h
   have hfs:=vF (by rw[hsz];exact hilt) hndE hsplit
   have next:∀ (a':Act) (w':World),(ph=true→w'=w)→C w'→wpQuiet P ops C (Zf P ops Q C E ph w R') (zp ops (E1++E2)) a'→wpAny P .any ops (NoPanic Q) n (L.setIfInBounds i true) a' w':=by
    intro a' w' hw' hC' h'
    refine ih (L.setIfInBounds i true) Rd R' a' w' ph hR (by simpa using hsz) hcl' (fun r hr=>?_) (fun r hr=>?_) ?_ (fun _=>hC') (fun hp=>⟨hC',(hphC hp).2⟩) (fun hp e he o ho=>?_) ?_
    ·rw[getD_set_ne true (by rintro rfl;exact hiR (by rw[hR];simp[hr]))];exact hRd r hr
    ·rw[getD_set_ne true (by rintro rfl;exact hiR (by rw[hR];simp[hr]))];exact hR' r hr
    ·rw[hfs];rw[hsplit] at hn;simp only[List.length_append,List.length_cons] at hn ⊢;omega
    ·rw[hfs] at he
     exact hphE hp e (by rw[hsplit];simp at he ⊢;rcases he with he | he <;> simp[he]) o ho
    ·rw[hfs]
     refine yP (fun a'' h''=>?_) _ _ h'
     unfold Zf at *
     split
     ·rename_i hp
      rw[if_pos hp] at h''
      rw[hw' hp];exact h''
     ·rename_i hp
      rw[if_neg hp] at h''
      exact h''
   have hCw':C w:=hCw (by rw[hsplit];simp)
   cases ph with
   | false=>exact wpOp_of_qOp hCw' (fun a' w' hC' h'=>next a' w' (by simp) hC' h') hq
   | true =>
    exact jx hoi (hphE rfl i himem oi hoi) hCw' (fun a' h'=>next a' w (fun _=>rfl) hCw' h') hq
  ·
   have hiE:i ∉ E:=fun h'=>hdis i h' hc
   have hiR':i∈R':=by
    rw[hR] at hc
    rcases List.mem_append.1 hc with h1 | h1
    ·rw[hRd i h1] at hiu;cases hiu
    ·exact h1
   cases R' with
   | nil=>cases hiR'
   | cons r rest =>
    have hir:i=r:=by
     rcases List.mem_cons.1 hiR' with h1 | h1
     ·exact h1
     ·exfalso
      have hch:=jq Rd (r :: rest) (by rw[←hR];exact hchain)
      obtain⟨p,hp,hw⟩:=xA1 hch i h1
      rw[yu hi (hR' p hp)] at hw
      cases hw
    subst hir
    have hap:∀ x∈E.filter (unl L),∃ ox,ops[x]?=some ox∧ox.apart ops oi=true:=by
     intro x hx
     have hx':=(hunE x).1 hx
     have h2:=hapR i hc x hx'.1
     obtain⟨oy,oe,h3,h4,h5⟩:=hapart x i h2 (yu hi hx'.2)
     have:oe=oi:=Option.some.inj (h4.symm.trans hoi)
     subst this
     exact⟨oy,h3,h5⟩
    have h1:wpQuiet P ops C (fun a'=>wpOp P ops (NoPanic Q) i (fun a' w'=>(zQ ops E i=true→C w')∧wpR P ops Q C E rest a' w') a' w) (zp ops (E.filter (unl L))) a:=by
     refine yP (fun a'' h''=>?_) _ _ h
     unfold Zf at h''
     split at h''
     ·exact h''
     ·rename_i hp
      exact h'' w (hphC (by simpa using hp)).1
    have h2:=kz hoi hsel (E.filter (unl L)) a hap h1
    have hfs:=uC (L:=L) hiE
    have hneed:E.filter (unl L)≠[]→zQ ops E i=true:=by
     intro hne
     cases hq:zQ ops E i with
     | true=>rfl
     | false =>
      exfalso
      unfold zQ at hq
      simp only[Bool.not_eq_false',List.all_eq_true] at hq
      obtain⟨e,he⟩:=List.exists_mem_of_ne_nil _ hne
      have he':=(hunE e).1 he
      have h4:=qM hcl ops.size i e (fun o ho=>by
       have:o=oi:=Option.some.inj (ho.symm.trans hoi)
       subst this;exact hall) (hq e he'.1)
      rw[getD_both he'.2] at h4
      cases h4
    refine wpOp_mono (fun a' w' h3=>?_) h2
    refine ih (L.setIfInBounds i true) (Rd++[i]) rest a' w' true (by rw[hR];simp) (by simpa using hsz) hcl' (fun r hr=>?_) (fun r hr=>?_) ?_ (fun hne=>?_) (by simp) (fun _ e he o ho=>?_) ?_
    ·by_cases hri:i=r
     ·subst hri;rw[hsz.symm] at hilt;simp[hilt]
     ·rw[getD_set_ne true hri]
      rcases List.mem_append.1 hr with h4 | h4
      ·exact hRd r h4
      ·simp at h4;exact absurd h4.symm hri
    ·have hri:i≠r:=by
      rintro rfl
      have:(Rd++i :: rest).Nodup:=hR ▸ (List.nodup_append.1 hnd).2.1
      exact(List.nodup_cons.1 (List.nodup_append.1 this).2.1).1 hr
     rw[getD_set_ne true hri];exact hR' r (by simp[hr])
    ·rw[hfs];simp only[List.length_cons] at hn;omega
    ·rw[hfs] at hne
     exact(qO _ _ h3) (hneed hne)
    ·rw[hfs] at he
     cases ph with
     | true=>exact hphE rfl e he o ho
     | false =>
      have he':=(hunE e).1 he
      have h4:=hcalls e he'.1
      rw[ho] at h4
      simp only[Bool.or_eq_true,Bool.not_eq_true'] at h4
      rcases h4 with h4 | h4
      ·exact h4
      ·exfalso
       have hRd0:=(hphC rfl).2
       subst hRd0
       rw[List.nil_append] at hR
       rw[hR] at h4
       have h5:=qM hcl ops.size i e (fun o ho=>by
        have:o=oi:=Option.some.inj (ho.symm.trans hoi)
        subst this;exact hall) h4
       rw[getD_both he'.2] at h5
       cases h5
    ·rw[hfs]
     refine yP (fun a'' h''=>?_) _ _ h3
     unfold Zf
     rw[if_pos rfl]
     exact h''.2
theorem xw {id:Nat}{a:Act}{w:World}(E R:List Nat)(C:World→Prop)(hm:P.follows .mixedOrders=true)(hB:mixB ops E R=true)(hE:(E.all fun e=>match ops[e]? with | some o=>!jb o | none=>false)=true)(hC:C w.drew)
  (h:wpQuiet P ops C (fun a'=>wpR P ops Q C E R a' w.drew) (zp ops E) a):(Code.region id ops true).wp P Q a w:=by
 refine wp_region_noPanic (wp_region_any hm ?_)
 have hlen:E.length+R.length=ops.size:=by
  simp only[mixB,Bool.and_eq_true,decide_eq_true_eq] at hB
  exact hB.1.1.1.1.1.1.1.1.2
 have hall:E.filter (unl (Array.replicate ops.size false))=E:=by
  rw[List.filter_eq_self]
  intro i hi
  have hcov:ze ops E i=true:=by
   simp only[mixB,Bool.and_eq_true,List.all_eq_true] at hB
   exact hB.1.1.1.1.1.1.2 i hi
  have:i<ops.size:=by
   unfold ze at hcov
   split at hcov
   ·rename_i o ho;exact(i_ ho).1
   ·cases hcov
  simp[unl,this]
 have hRlt:∀ r∈R,r<ops.size:=by
  intro r hr
  have hcov:ze ops (E++R) r=true:=by
   simp only[mixB,Bool.and_eq_true,List.all_eq_true] at hB
   exact hB.1.1.1.1.2 r hr
  unfold ze at hcov
  split at hcov
  ·rename_i o ho;exact(i_ ho).1
  ·cases hcov
 refine xWv hB ops.size (Array.replicate ops.size false) [] R a w.drew true rfl (by simp) (fun j oj _ hl=>by rw[getD_replicate_false] at hl;cases hl) (fun r hr=>by cases hr)
  (fun r hr=>by simp[hRlt r hr]) (by rw[hall];exact hlen) (fun _=>hC) (fun h=>by cases h) (fun _ e he o ho=>?_) ?_
 ·rw[hall] at he
  have h1:=List.all_eq_true.1 hE e he
  rw[ho] at h1
  simpa using h1
 ·rw[hall]
  exact yP (fun a' h'=>by unfold Zf;rw[if_pos rfl];exact h') _ _ h
def Qn (P:Program)(ops:Array Oper)(Q:Exit→Act→World→Prop)(C:World→Prop)(E rest:List Nat)(b:Bool):Exit→Act→World→Prop
 | .normal,a,w=>(b=true→C w)∧wpR P ops Q C E rest a w
 | .panic _,_,_=>False
 | e,a,w=>Q e a w
theorem uw {E rest:List Nat}{r:Nat}{o:Oper}{a:Act}{w:World}(b:Bool)(hr:ops[r]?=some o)(hb:zQ ops E r=b)(h:wpList P ops (Qn P ops Q C E rest b) [o] a w):wpR P ops Q C E (r :: rest) a w:=by
 unfold wpR wpOp
 simp only[hr]
 unfold wpList at h
 have hl:LetsOut (Qn P ops Q C E rest b)→LetsOut (NoPanic Q):=fun⟨a,w,h⟩=>⟨a,w,h⟩
 have hk:∀ a' w',wpList P ops (Qn P ops Q C E rest b) [] a' w'→(zQ ops E r=true→C w')∧wpR P ops Q C E rest a' w':=fun a' w' h'=>by
  rw[hb];exact h'
 split
 ·rename_i hw
  rw[if_pos hw] at h
  rcases h with h | ⟨h1,h2⟩
  ·refine .inl ?_
   unfold Oper.wp at *
   generalize (execOp a.eval o).run P w=r at *
   cases r with
   | ok n w' =>
    cases n <;> simp only[Oper.upon] at h ⊢
    case value u=>exact hk _ _ h
    case skip=>exact hk _ _ h
    case defer d=>exact hk _ _ h
    case enter f args =>
     refine Calls.mono h fun e w'' he=>?_
     cases e with
     | returned u=>exact hk _ _ he
     | panicked c=>exact he
     | outgrown=>exact hl he
    case row row args=>exact Rows.mono h fun u w'' he=>hk _ _ he
   | halt x w'=>cases x <;> simp only[Oper.upon] at h ⊢ <;> exact h
  ·exact .inr ⟨h1,hl h2⟩
 ·rename_i hw
  rw[if_neg hw] at h
  exact hk _ _ h
theorem xG {E:List Nat}:∀ (R:List Nat) (a:Act) (w:World),(R.all fun r=>!zQ ops E r && decide (r<ops.size))=true→wpList P ops (NoPanic Q) (zp ops R) a w→wpR P ops Q C E R a w
 | [],_,_,_,h=>h
 | r :: R,a,w,hn,h=>by
  rw[List.all_cons,Bool.and_eq_true] at hn
  obtain⟨hn1,hn2⟩:=hn
  rw[Bool.and_eq_true,Bool.not_eq_true',decide_eq_true_eq] at hn1
  have hr:ops[r]?=some (ops.getD r default):=by simp[hn1.2]
  unfold wpR wpOp
  simp only[hr]
  unfold zp at h
  rw[List.map_cons] at h
  unfold wpList at h
  have hk:∀ a' w',wpList P ops (NoPanic Q) (zp ops R) a' w'→(zQ ops E r=true→C w')∧wpR P ops Q C E R a' w':=fun a' w' h' =>
   ⟨(fun h1=>by rw[hn1.1] at h1;cases h1),xG R a' w' hn2 h'⟩
  split
  ·rename_i hw
   rw[if_pos hw] at h
   exact h.imp (fun h=>Oper.wp_mono hk h) id
  ·rename_i hw
   rw[if_neg hw] at h
   exact hk _ _ h
end
theorem o_:(∀ (ops:Array Oper) (R:List Nat),zp ops R=R.map fun i=>ops.getD i default)∧(∀ (f:Nat→Oper) (a:Nat) (l:List Nat),(a :: l).map f=f a :: l.map f)∧(∀ f:Nat→Oper,([]:List Nat).map f=[])∧(∀ (xs:Array Oper) (i:Nat) (d:Oper),xs.getD i d=xs[i]?.getD d)∧(∀ (l:List Oper) (i:Nat),l.toArray[i]?=l[i]?)∧(∀ (a:Oper) (l:List Oper),(a :: l)[0]?=some a)∧(∀ (a:Oper) (l:List Oper) (i:Nat),(a :: l)[i+1]?=l[i]?)∧(∀ a b:Oper,(some a).getD b=a) :=
 ⟨fun _ _=>rfl,fun _ _ _=>rfl,fun _=>rfl,fun _ _ _=>Array.getD_eq_getD_getElem? ..,fun _ _=>List.getElem?_toArray ..,fun _ _=>rfl,fun _ _ _=>rfl,fun _ _=>rfl⟩
end Go.Proofs.YthiafifdiaplaaaGreatDoor
namespace Go.Proofs.YthiafifdiaplaaaGreatDoor
open Go Go.RowKit Go.Proofs
def uY (c:UInt8):Bool:=decide ((c.toNat:Int)<32) || decide ((c.toNat:Int)=127)
def qH (s:List UInt8)(most:Int):Int:=if most<(s.length:Int) then 5 else if s.any uY then 6 else 0
def uO (n lo hi e:Int):Int:=if n<lo∨hi<n then e else 0
theorem zU {k:IntKind}{a b:Int}(h:a=b):Ending.returned (.int k a)=.returned (.int k b):=by rw[h]
theorem qN (s:ByteArray):s.data.toList.length=s.size:=rfl
theorem xU2 (s:ByteArray)(k:Nat)(h:k<s.size):s.data.toList.take (k+1)=s.data.toList.take k++[s[k]]:=by
 rw[List.take_succ_eq_append_getElem (by simpa using h)];rfl
theorem xWw (s:ByteArray)(k:Nat)(h:k<s.size):s[k]∈s.data.toList:=by
 have e:s[k]=s.data.toList[k]'(by simpa using h):=rfl
 rw[e];exact List.getElem_mem _
theorem xLh {s:List UInt8}{most:Int}(h:most<(s.length:Int)):qH s most=5:=if_pos h
theorem xEx {s:List UInt8}{most:Int}(h:(s.length:Int)≤most)(b:s.any uY=true):qH s most=6:=by
 unfold qH;rw[if_neg (by omega),if_pos b]
theorem xQv {s:List UInt8}{most:Int}(h:(s.length:Int)≤most)(b:s.any uY=false):qH s most=0:=by
 unfold qH;rw[if_neg (by omega),if_neg (by simp[b])]
theorem xIl (n lo hi e:Int)(w:World) :
  Calls Tryz.prog 297 #[.int .i64 n,.int .i64 lo,.int .i64 hi,.int .i64 e] w fun r w'=>r=.returned (.int .i64 (uO n lo hi e))∧w=w':=by
 by_cases h1:n<lo
 ·have hf:=h_ (show uO n lo hi e=e from if_pos (.inl h1))
  go_enter Tryz.func297,Tryz.ntmps297
  go_wp2
  go_ret
  exact⟨zU hf.out.symm,rfl⟩
 ·by_cases h2:hi<n
  ·have hf:=h_ (show uO n lo hi e=e from if_pos (.inr h2))
   go_enter Tryz.func297,Tryz.ntmps297
   go_wp2
   go_ret
   exact⟨zU hf.out.symm,rfl⟩
  ·have hf:=h_ (show uO n lo hi e=0 from if_neg (by omega))
   go_enter Tryz.func297,Tryz.ntmps297
   go_wp2
   go_ret
   exact⟨zU hf.out.symm,rfl⟩
theorem xFr (c:UInt8):uY c=true↔(c.toNat:Int)<32∨(c.toNat:Int)=127:=by simp[uY]
theorem xYf {s:ByteArray}{k:Nat}(hlt:k<s.size)(hb:(s.data.toList.take k).any uY=false)(hc:¬ ((s[k].toNat:Int)<32∨(s[k].toNat:Int)=127)) :
  (s.data.toList.take (k+1)).any uY=false:=by
 have:uY s[k]=false:=by
  cases h:uY s[k] with
  | false=>rfl
  | true=>exact absurd ((xFr _).1 h) hc
 rw[xU2 s k hlt,List.any_append,hb];simp[this]
theorem xYg {s:ByteArray}{k:Nat}(hlt:k<s.size)(hc:(s[k].toNat:Int)<32∨(s[k].toNat:Int)=127):s.data.toList.any uY=true :=
 List.any_eq_true.2 ⟨s[k],xWw s k hlt,(xFr _).2 hc⟩
theorem xZq {s:ByteArray}{k:Nat}(hlt:¬ k<s.size)(hb:(s.data.toList.take k).any uY=false):s.data.toList.any uY=false:=by
 rwa [List.take_of_length_le (by rw[qN];omega)] at hb
theorem xJs (s:ByteArray)(most:Int)(w:World)(hs:s.size≤maxLen) :
  Calls Tryz.prog 294 #[.string s,.int .i64 most] w fun r w'=>r=.returned (.int .i64 (qH s.data.toList most))∧w=w':=by
 unfold maxLen at hs
 by_cases hm:most<(s.size:Int)
 ·have hf:=h_ (xLh (s:=s.data.toList) hm)
  go_enter Tryz.func294,Tryz.ntmps294
  go_wp2
  go_ret
  exact⟨zU hf.out.symm,rfl⟩
 ·go_enter Tryz.func294,Tryz.ntmps294
  go_wp2
  go_loop [12] (fun i=>∃ k:Nat,k≤s.size∧i=.int .i64 k∧(s.data.toList.take k).any uY=false) (fun i=>s.size-(intOf i).toNat)
  case atStart=>exact⟨0,Nat.zero_le _,rfl,rfl⟩
  case round =>
   obtain⟨k,hk,rfl,hb⟩:=hrel
   by_cases hlt:k<s.size
   ·have HB:=h_ hb
    clear hb
    by_cases h1:(s[k].toNat:Int)<32
    ·have hf:=h_ (xEx (s:=s.data.toList) hm (xYg hlt (.inl h1)))
     go_wp2
     go_ret
     exact⟨zU hf.out.symm,rfl⟩
    ·by_cases h2:(s[k].toNat:Int)=127
     ·have hf:=h_ (xEx (s:=s.data.toList) hm (xYg hlt (.inr h2)))
      have h2':((s[k].toNat:Int) == 127)=true:=beq_iff_eq.2 h2
      have H2:=h_ h2
      clear h2
      go_wp2
      go_ret
      exact⟨zU hf.out.symm,rfl⟩
     ·have hn:=h_ (xYf hlt HB.out (by omega))
      have h2':((s[k].toNat:Int) == 127)=false:=beq_eq_false_iff_ne.2 h2
      clear h2
      go_wp2
      go_round
      case rel=>exact⟨k+1,by omega,by go_num,hn.out⟩
      case measure=>simp[intOf];omega
   ·have hf:=h_ (xQv (s:=s.data.toList) hm (xZq hlt hb))
    clear hb
    go_wp2
    go_ret
    exact⟨zU hf.out.symm,rfl⟩
def Id32:Type:={ l:List UInt8 // l.length=32 }
instance:Inhabited Id32:=⟨⟨List.replicate 32 0,by simp⟩⟩
instance:DecidableEq Id32:=inferInstanceAs (DecidableEq { l:List UInt8 // l.length=32 })
def xB (x:Id32):List Value:=x.1.map fun b=>.int .u8 b.toNat
theorem xF (x:Id32):(xB x).length=32:=by simp[xB,x.2]
theorem xL0 (x:Id32)(i:Nat)(h:i<32):(xB x)[i]?=some (.int .u8 (x.1[i]'(by rw[x.2];exact h)).toNat):=by
 simp[xB,List.getElem?_eq_getElem (show i<x.1.length by rw[x.2];exact h)]
theorem uS (x:Id32):∀ v∈xB x,v.oneCell'=true:=by
 intro v hv
 simp only[xB,List.mem_map] at hv
 obtain⟨b,_,rfl⟩:=hv
 rfl
def xp (w:World)(a:Addr)(n:Nat):Array Value:=((List.range n).map fun j=>(w.cell? (a.add j)).getD undef).toArray
def xq (w:World)(a:Addr)(n:Nat):Bool:=(List.range n).all fun j=>(w.cell? (a.add j)).isSome
theorem uf (w:World)(a:Addr)(n:Nat):xq w a n=true↔∀ j,j<n→∃ v,w.cell? (a.add j)=some v:=by
 simp[xq,Option.isSome_iff_exists]
theorem zv {P:Program}(w:World)(a:Addr)(n:Nat)(h:xq w a n=true):Sem.run P (loadCells a n) w=.ok (xp w a n) w:=by
 have:=run_loadCells_list (P:=P) w a ((List.range n).map fun j=>(w.cell? (a.add j)).getD undef) (fun j v hj=>by
  rw[List.getElem?_map] at hj
  by_cases hlt:j<n
  ·rw[List.getElem?_range hlt] at hj
   obtain⟨u,hu⟩:=(uf w a n).1 h j hlt
   simp only[Option.map_some,hu,Option.getD_some,Option.some.injEq] at hj
   rw[hu,hj]
  ·rw[List.getElem?_eq_none (by simp;omega)] at hj
   simp at hj)
 simpa[xp] using this
theorem xJ5 {P:Program}(t n:Nat)(hA:∀ w,Sem.run P (isAgg t) w=.ok true w)(hs:∀ w,Sem.run P (Go.sizeOf t) w=.ok n w)(w:World)(a:Addr)(h:xq w a n=true) :
  Sem.run P (Instr.loadAt t (.pointer (some a))) w=.ok (.agg (xp w a n)) w:=by
 simp[Instr.loadAt,Instr.sureAddr,loadVar,hA,hs,zv w a n h]
theorem y7 {w:World}{a:Addr}{cs:List Value}(h:∀ j v,cs[j]?=some v→w.cell? (a.add j)=some v) :
  xq w a cs.length=true∧xp w a cs.length=cs.toArray:=by
 have hj:∀ j (hlt:j<cs.length),w.cell? (a.add j)=some cs[j]:=fun j hlt=>h j _ (List.getElem?_eq_getElem hlt)
 refine⟨(uf _ _ _).2 fun j hlt=>⟨_,hj j hlt⟩,?_⟩
 unfold xp
 congr 1
 apply List.ext_getElem
 ·simp
 ·intro i h1 h2
  simp[hj i h2]
@[simp] theorem xj (w:World) (a:Addr) (n:Nat):xq w.drew a n=xq w a n:=rfl
@[simp] theorem xh (w:World) (a:Addr) (n:Nat):xp w.drew a n=xp w a n:=rfl
@[simp] theorem xe (w:World) (a:Addr) (n k:Nat):xq (w.drewN k) a n=xq w a n:=by
 simp only[xq,World.cell?_drewN]
@[simp] theorem xd (w:World) (a:Addr) (n k:Nat):xp (w.drewN k) a n=xp w a n:=by
 simp only[xp,World.cell?_drewN]
theorem xYz {w w':World}{a:Addr}{n:Nat}(hc:∀ j,j<n→w'.cell? (a.add j)=w.cell? (a.add j)):xq w' a n=xq w a n∧xp w' a n=xp w a n:=by
 constructor
 ·rw[Bool.eq_iff_iff,uf,uf]
  exact⟨fun h j hj=>by obtain⟨v,hv⟩:=h j hj;exact⟨v,by rw[←hc j hj];exact hv⟩,fun h j hj=>by obtain⟨v,hv⟩:=h j hj;exact⟨v,by rw[hc j hj];exact hv⟩⟩
 ·unfold xp
  congr 1
  apply List.map_congr_left
  intro j hj
  rw[hc j (by simpa using hj)]
theorem xAp {w:World}{a:Addr}{n:Nat}(o:Obj)(h:xq w a n=true):xq (w.alloc o) a n=true:=by
 rw[uf] at h ⊢
 intro j hj
 obtain⟨v,hv⟩:=h j hj
 exact⟨v,Lib.cell?_alloc_some _ hv⟩
theorem xAj {w:World}{a:Addr}{n:Nat}(o:Obj)(h:xq w a n=true):xp (w.alloc o) a n=xp w a n:=by
 rw[uf] at h
 unfold xp
 congr 1
 apply List.map_congr_left
 intro j hj
 obtain⟨v,hv⟩:=h j (by simpa using hj)
 rw[hv,Lib.cell?_alloc_some _ hv]
theorem yy (w:World)(cs:Array Value)(t:Nat)(j:Nat):(w.alloc (.cells cs t)).cell? ⟨w.heap.size,j,none⟩=cs[j]?:=World.cell?_alloc_mark w cs t (0,0) j
theorem xH8 (w:World)(cs:Array Value)(t off n:Nat)(h:off+n≤cs.size):xq (w.alloc (.cells cs t)) ⟨w.heap.size,off,none⟩ n=true:=by
 rw[uf]
 intro j hj
 rw[Addr.add_lit,yy]
 exact⟨cs[off+j]'(by omega),Array.getElem?_eq_getElem (by omega)⟩
theorem xGz (w:World)(cs:Array Value)(t off n:Nat)(h:off+n≤cs.size):xp (w.alloc (.cells cs t)) ⟨w.heap.size,off,none⟩ n=cs.extract off (off+n):=by
 unfold xp
 apply Array.ext
 ·simp;omega
 ·intro i h1 h2
  have hi:i<n:=by simpa using h1
  have hlt:off+i<cs.size:=by omega
  simp only[List.getElem_toArray,List.getElem_map,List.getElem_range,Array.getElem_extract]
  rw[Addr.add_lit,yy,Array.getElem?_eq_getElem hlt]
  rfl
theorem xf.ok {w:World}{a:Addr}{n:Nat}(h:xq w a n=true)(z:xf w):xq z.1 a n=true:=by
 rw[uf] at h ⊢
 intro j hj
 obtain⟨v,hv⟩:=h j hj
 exact⟨v,z.cell hv⟩
theorem xf.rd {w:World}{a:Addr}{n:Nat}(h:xq w a n=true)(z:xf w):xp z.1 a n=xp w a n:=by
 rw[uf] at h
 unfold xp
 congr 1
 apply List.map_congr_left
 intro j hj
 obtain⟨v,hv⟩:=h j (by simpa using hj)
 rw[hv,z.cell hv]
def xP (w:World)(g n:Nat):Bool:=match w.heap[g]? with
 | some (.cells c _ fr)=>c.size == n && fr == (0,0)
 | _=>false
theorem uz {w:World}{g n:Nat}(h:xP w g n=true):∃ c t,w.heap[g]?=some (.cells c t (0,0))∧c.size=n:=by
 unfold xP at h
 split at h
 ·rename_i c t fr hg
  simp only[Bool.and_eq_true,beq_iff_eq] at h
  obtain⟨h1,rfl⟩:=h
  exact⟨c,t,hg,h1⟩
 ·simp at h
theorem xFx {P:Program}(t n:Nat)(hi:(P.info? t).map (·.size)=some n)(w:World)(g:Nat)(cells:Array Value)(h:xP w g n=true)(hn:cells.size=n)(h1:cells.all (·.oneCell')=true) :
  Sem.run P (Instr.storeAt t (.pointer (some ⟨g,0,none⟩)) (.agg cells)) w=.ok () (w.setRow g cells):=by
 obtain⟨c,t',hg,hc⟩:=uz h
 simp[Instr.storeAt,Instr.sureAddr,run_storeVar_row w g t' t c cells hg (by rw[hn];exact hi) (by omega) h1]
@[simp] theorem xA (w:World) (g n:Nat):xP w.drew g n=xP w g n:=rfl
theorem u9 (w:World)(c:Array Value)(t g n:Nat)(hg:g=w.heap.size)(hn:c.size=n):xP (w.alloc (.cells c t)) g n=true:=by
 subst hg
 unfold xP
 rw[heap_alloc_new]
 simp[hn]
theorem qa {w:World}{g n:Nat}(o:Obj)(h:xP w g n=true):xP (w.alloc o) g n=true:=by
 obtain⟨c,t,hg,hc⟩:=uz h
 have hlt:g<w.heap.size:=(i_ hg).1
 unfold xP
 rw[heap_alloc_old (w:=w) (o:=o) (h:=hlt),hg]
 simp[hc]
@[simp] theorem xt (w:World) (g:Nat) (cs:Array Value):w.drew.setRow g cs=(w.setRow g cs).drew:=rfl
theorem xC (w:World)(c cs:Array Value)(t g:Nat)(hg:g=w.heap.size):(w.alloc (.cells c t)).setRow g cs=w.alloc (.cells cs t):=by
 subst hg
 unfold World.setRow World.alloc
 congr 1
 apply Array.ext_getElem?
 intro k
 simp only[Array.getElem?_modify,Array.getElem?_push]
 by_cases hk:k=w.heap.size
 ·subst hk;simp
 ·have hk':¬ w.heap.size=k:=fun h=>hk h.symm
  simp[hk,hk']
theorem xx (w:World)(o:Obj)(cs:Array Value)(g:Nat)(hg:g<w.heap.size):(w.alloc o).setRow g cs=(w.setRow g cs).alloc o:=by
 unfold World.setRow World.alloc
 congr 1
 apply Array.ext_getElem?
 intro k
 simp only[Array.getElem?_modify,Array.getElem?_push,Array.size_modify]
 by_cases hk:k=w.heap.size
 ·subst hk;simp[Nat.ne_of_lt hg]
 ·simp[hk]
theorem xM7 (xs:List UInt8)(i:Nat)(h:i<xs.length)(w:World):Sem.run Tryz.prog (part 5 (xs.map fun b=>Value.int .u8 b.toNat).toArray i) w=.ok (.int .u8 (xs[i]'h).toNat) w:=by
 simp[part,Tryz.isAgg5,h]
theorem xXy (xs ys:List UInt8)(e:Nat)(hin:∀ (a b:Int) (w:World),(Op.equalIn e 5 (.int .u8 a) (.int .u8 b)).run Tryz.prog w=.ok (a == b) w) :
  ∀ (l:List Nat) (w:World),(∀ i∈l,i<xs.length∧i<ys.length) →
  Sem.run Tryz.prog (forIn l ((none,()):Option Bool × Unit) fun i __s=>do
   let a ←part 5 (xs.map fun b=>Value.int .u8 b.toNat).toArray (i*1)
   let b ←part 5 (ys.map fun b=>Value.int .u8 b.toNat).toArray (i*1)
   let r ←Op.equalIn e 5 a b
   if (!r)=true then pure (ForInStep.done (some false,())) else pure (ForInStep.yield (none,()))) w
  = .ok (if l.all (fun i=>xs[i]! == ys[i]!) then (none,()) else (some false,())) w
 | [],w,_=>by simp
 | i :: l,w,h=>by
  obtain⟨h1,h2⟩:=h i (by simp)
  rw[List.forIn_cons]
  simp only[Sem.run_bind,Nat.mul_one,xM7 xs i h1,xM7 ys i h2,Result.andThen_ok,hin]
  have e1:xs[i]! = xs[i]:=by simp[h1]
  have e2:ys[i]! = ys[i]:=by simp[h2]
  by_cases hq:xs[i]=ys[i]
  ·have ih:=xXy xs ys e hin l w (fun j hj=>h j (by simp[hj]))
   simp only[hq,beq_self_eq_true,Bool.not_true,Bool.false_eq_true,if_false,Sem.run_pure,Result.andThen_ok]
   simp only[Nat.mul_one] at ih
   rw[ih,List.all_cons,e1,e2,hq]
   simp
  ·have hz:((xs[i].toNat:Int) == (ys[i].toNat:Int))=false:=by
    rw[beq_eq_false_iff_ne]
    intro hh
    exact hq (UInt8.toNat_inj.1 (by exact_mod_cast hh))
   simp only[hz,Bool.not_false,if_true,Sem.run_pure,Result.andThen_ok]
   rw[List.all_cons,e1,e2]
   simp[hq]
theorem xNk (xs ys:List UInt8)(hx:xs.length=32)(hy:ys.length=32):((List.range' 0 32 1).all (fun i=>xs[i]! == ys[i]!))=decide (xs=ys):=by
 rw[Bool.eq_iff_iff]
 simp only[List.all_eq_true,List.mem_range'_1,beq_iff_eq,decide_eq_true_eq]
 constructor
 ·intro h
  apply List.ext_getElem (by omega)
  intro i h1 h2
  have:=h i (by omega)
  simpa[h1,h2] using this
 ·rintro rfl i _;rfl
theorem eqArr (xs ys:List UInt8)(hx:xs.length=32)(hy:ys.length=32)(e:Nat)(hin:∀ (a b:Int) (w:World),(Op.equalIn e 5 (.int .u8 a) (.int .u8 b)).run Tryz.prog w=.ok (a == b) w)(w:World) :
  (Op.equalIn (e+1) 39 (.agg (xs.map fun b=>Value.int .u8 b.toNat).toArray) (.agg (ys.map fun b=>Value.int .u8 b.toNat).toArray)).run Tryz.prog w=.ok (decide (xs=ys)) w:=by
 have hu:Tryz.prog.underlying 39=some (.array 32 5):=by kernel_rfl
 have:=xXy xs ys e hin (List.range' 0 32 1) w (fun i hi=>by simp only[List.mem_range'_1] at hi;omega)
 rw[xNk xs ys hx hy] at this
 simp only[Op.equalIn,Sem.run_bind,run_underlying hu,Result.andThen_ok,Tryz.sizeOf5,Std.Legacy.Range.forIn_eq_forIn_range',Std.Legacy.Range.size]
 simp only[Nat.sub_zero,Nat.add_one_sub_one,Nat.div_one,Nat.reduceAdd]
 rw[this]
 by_cases h:xs=ys <;> simp[h]
theorem xG7 (x y:Id32)(w:World):(Op.equalIn 10000 39 (.agg (xB x).toArray) (.agg (xB y).toArray)).run Tryz.prog w=.ok (decide (x=y)) w:=by
 have hin:∀ (a b:Int) (w:World),(Op.equalIn 9999 5 (.int .u8 a) (.int .u8 b)).run Tryz.prog w=.ok (a == b) w:=fun a b w=>run_equalIn_int w 9998 5 .u8 .u8 a b Tryz.underlying5
 have h:=eqArr x.1 y.1 x.2 y.2 9999 hin w
 have hd:decide (x.1=y.1)=decide (x=y):=decide_eq_decide.2 ⟨fun h=>Subtype.ext h,fun h=>congrArg _ h⟩
 rw[hd] at h
 exact h
theorem xCe (x y:Id32)(w:World):(binOp .eql 39 (.agg (xB x).toArray) (.agg (xB y).toArray)).run Tryz.prog w=.ok (.bool (decide (x=y))) w:=by
 rw[run_eql_struct,xG7];rfl
theorem yAj (x y:Id32)(w:World):(binOp .neq 39 (.agg (xB x).toArray) (.agg (xB y).toArray)).run Tryz.prog w=.ok (.bool (!decide (x=y))) w:=by
 rw[run_neq_struct,xG7];rfl
theorem yW:Tryz.prog.eqGuardType Tryz.prog.depth 39=false:=by kernel_rfl
theorem eqId:EqlAt Tryz.prog 39 (fun x:Id32=>.agg (xB x).toArray) (fun x y=>decide (x=y)):=⟨xCe,GuardAt.agg _ yW⟩
def yx (P:Program)(t:Nat)(w:World)(v:Value):Result Next:=Sem.run P (do pure (Next.value (←Instr.loadAt t v))) w
def ym (P:Program)(t:Nat)(w:World)(p v:Value):Result Next:=Sem.run P (do Instr.storeAt t p v;pure Next.skip) w
theorem yo {P:Program}{t n:Nat}(hA:∀ w,Sem.run P (isAgg t) w=.ok true w)(hs:∀ w,Sem.run P (Go.sizeOf t) w=.ok n w)(w:World)(a:Addr)(h:xq w a n=true) :
  yx P t w (.pointer (some a))=.ok (.value (.agg (xp w a n))) w:=by
 unfold yx
 rw[Sem.run_bind,xJ5 t n hA hs w a h]
 rfl
def xy (n:Nat)(cells:Array Value):Bool:=cells.size == n && cells.all (·.oneCell')
theorem zT {n:Nat}{cells:Array Value}(hn:cells.size=n)(h1:cells.all (·.oneCell')=true):xy n cells=true:=by
 unfold xy;rw[h1,hn];simp
theorem yr {P:Program}{t n:Nat}(hi:(P.info? t).map (·.size)=some n)(w:World)(g:Nat)(cells:Array Value)(h:xP w g n=true)(h2:xy n cells=true) :
  ym P t w (.pointer (some ⟨g,0,none⟩)) (.agg cells)=.ok .skip (w.setRow g cells):=by
 unfold ym
 unfold xy at h2
 rw[Bool.and_eq_true,beq_iff_eq] at h2
 rw[Sem.run_bind,xFx t n hi w g cells h h2.1 h2.2]
 rfl
theorem xV (ρ:Operand→Value)(d:Option Tmp)(x:Operand)(ty:TypeId)(pos:String)(af:Array Edge)(g:Option (Nat × Bool))(w:World) :
  Sem.run Tryz.prog (execOp ρ ⟨d,.load 39 x,ty,pos,af,g⟩) w=yx Tryz.prog 39 w (ρ x):=rfl
theorem xO (ρ:Operand→Value)(d:Option Tmp)(x y:Operand)(ty:TypeId)(pos:String)(af:Array Edge)(g:Option (Nat × Bool))(w:World) :
  Sem.run Tryz.prog (execOp ρ ⟨d,.store 39 x y,ty,pos,af,g⟩) w=ym Tryz.prog 39 w (ρ x) (ρ y):=rfl
theorem zx (w:World)(a:Addr)(h:xq w a 32=true):yx Tryz.prog 39 w (.pointer (some a))=.ok (.value (.agg (xp w a 32))) w :=
 yo Tryz.isAgg39 Tryz.sizeOf39 w a h
theorem zA (w:World)(g:Nat)(cells:Array Value)(h:xP w g 32=true)(h2:xy 32 cells=true) :
  ym Tryz.prog 39 w (.pointer (some ⟨g,0,none⟩)) (.agg cells)=.ok .skip (w.setRow g cells):=yr (by kernel_rfl) w g cells h h2
theorem qL (x:Id32):(xB x).toArray.size=32:=by simp[xF]
theorem xV0 (x:Id32):(xB x).toArray.all (·.oneCell')=true:=by
 rw[Array.all_eq_true_iff_forall_mem]
 intro v hv
 exact uS x v (by simpa using hv)
theorem kS (x:Id32):xy 32 (xB x).toArray=true:=zT (qL x) (xV0 x)
theorem js (w:World)(x:Id32)(t:Nat):xp (w.alloc (.cells (xB x).toArray t)) ⟨w.heap.size,0,none⟩ 32=(xB x).toArray:=by
 rw[xGz w _ t 0 32 (by rw[qL];omega)]
 apply Array.ext'
 simp[List.take_of_length_le (Nat.le_of_eq (xF x))]
theorem vC (w:World)(x:Id32)(t:Nat):xq (w.alloc (.cells (xB x).toArray t)) ⟨w.heap.size,0,none⟩ 32=true:=xH8 w _ t 0 32 (by rw[qL];omega)
def uG:Id32:=⟨List.replicate 32 0,by simp⟩
theorem xB6 (ρ:Operand→Value)(d:Option Tmp)(ty:TypeId)(pos:String)(af:Array Edge)(g:Option (Nat × Bool))(w:World) :
  Sem.run Tryz.prog (execOp ρ ⟨d,.alloc 39,ty,pos,af,g⟩) w=.ok (.value (.pointer (some ⟨w.heap.size,0,none⟩))) (w.alloc (.cells (xB uG).toArray 39)):=by kernel_rfl
theorem j7 (ρ:Operand→Value)(d:Option Tmp)(ty:TypeId)(pos:String)(af:Array Edge)(g:Option (Nat × Bool))(w:World) :
  Sem.run Tryz.prog (execOp ρ ⟨d,.build 39 #[],ty,pos,af,g⟩) w=.ok (.value (.agg (xB uG).toArray)) w:=by kernel_rfl
theorem xz (w:World)(c:Array Value)(t g n:Nat):xP (w.alloc (.cells c t)) g n=if g=w.heap.size then c.size == n else xP w g n:=by
 by_cases h:g=w.heap.size
 ·rw[if_pos h];subst h;unfold xP;rw[heap_alloc_new];simp
 ·rw[if_neg h]
  have e:(w.alloc (.cells c t)).heap[g]?=w.heap[g]?:=by
   show (w.heap.push _)[g]?=_
   rw[Array.getElem?_push,if_neg h]
  unfold xP
  rw[e]
def jP (c:Array Value)(off n:Nat):Array Value:=((List.range n).map fun j=>(c[off+j]?).getD undef).toArray
def jU (c:Array Value)(off n:Nat):Bool:=(List.range n).all fun j=>(c[off+j]?).isSome
theorem xo (w:World)(c:Array Value)(t b off n:Nat):xq (w.alloc (.cells c t)) ⟨b,off,none⟩ n=if b=w.heap.size then jU c off n else xq w ⟨b,off,none⟩ n:=by
 split
 ·rename_i h;subst h
  unfold xq jU
  simp only[Addr.add_lit,yy]
 ·rename_i h
  unfold xq
  have e:∀ j,(w.alloc (.cells c t)).cell? ⟨b,off+j,none⟩=w.cell? ⟨b,off+j,none⟩:=fun j=>by
   unfold World.cell?
   have e1:(w.alloc (.cells c t)).heap[b]?=w.heap[b]?:=by
    show (w.heap.push _)[b]?=_
    rw[Array.getElem?_push,if_neg h]
   rw[e1]
  simp only[Addr.add_lit,e]
theorem xl (w:World)(c:Array Value)(t b off n:Nat):xp (w.alloc (.cells c t)) ⟨b,off,none⟩ n=if b=w.heap.size then jP c off n else xp w ⟨b,off,none⟩ n:=by
 split
 ·rename_i h;subst h
  unfold xp jP
  simp only[Addr.add_lit,yy]
 ·rename_i h
  unfold xp
  have e:∀ j,(w.alloc (.cells c t)).cell? ⟨b,off+j,none⟩=w.cell? ⟨b,off+j,none⟩:=fun j=>by
   unfold World.cell?
   have e1:(w.alloc (.cells c t)).heap[b]?=w.heap[b]?:=by
    show (w.heap.push _)[b]?=_
    rw[Array.getElem?_push,if_neg h]
   rw[e1]
  simp only[Addr.add_lit,e]
theorem xDa {c:Array Value}{off n:Nat}(h:off+n≤c.size):jU c off n=true:=by
 unfold jU
 rw[List.all_eq_true]
 intro j hj
 rw[Array.getElem?_eq_getElem (by have:=List.mem_range.1 hj;omega)];rfl
theorem vO {c:Array Value}{off n:Nat}(h:off+n≤c.size):jP c off n=c.extract off (off+n):=by
 unfold jP
 apply Array.ext
 ·simp;omega
 ·intro i h1 h2
  have hi:i<n:=by simpa using h1
  simp only[List.getElem_toArray,List.getElem_map,List.getElem_range,Array.getElem_extract]
  rw[Array.getElem?_eq_getElem (by omega)];rfl
theorem xHa (x:Id32):jU (xB x).toArray 0 32=true:=xDa (by rw[qL];omega)
theorem xH1 (x:Id32):jP (xB x).toArray 0 32=(xB x).toArray:=by
 rw[vO (by rw[qL];omega)]
 apply Array.ext'
 simp[List.take_of_length_le (Nat.le_of_eq (xF x))]
section
theorem and31 (x:Int):0≤bits .and .u64 x 31∧bits .and .u64 x 31≤31:=by
 have h:((BitVec.ofInt 64 x &&& BitVec.ofInt 64 31).toNat)≤31:=by
  rw[BitVec.toNat_and]
  exact Nat.le_trans Nat.and_le_right (by decide)
 have e:bits .and .u64 x 31=IntKind.u64.wrap ((BitVec.ofInt 64 x &&& BitVec.ofInt 64 31).toNat:Int):=rfl
 rw[e,IntKind.wrap_u64]
 omega
theorem xT1 (x k:Int):∃ r:Int,∀ W:World,Calls Tryz.prog 318 #[.int .u32 x,.int .i64 k] W fun e W'=>e=.returned (.int .u32 r)∧W=W':=by
 apply Exists.intro
 intro W
 obtain⟨h0,h1⟩:=and31 (IntKind.u64.wrap k)
 have h2:(0:Int)≤32-bits .and .u64 (IntKind.u64.wrap k) 31:=by omega
 have h3:(32-bits .and .u64 (IntKind.u64.wrap k) 31)≤32:=by omega
 have h4:(bits .and .u64 (IntKind.u64.wrap k) 31)≤32:=by omega
 go_enter Tryz.func318,Tryz.ntmps318
 go_wp2
 go_ret
 exact⟨rfl,rfl⟩
noncomputable def xF1 (x k:Int):Int:=Classical.choose (xT1 x k)
theorem xWj (x k:Int)(W:World):Calls Tryz.prog 318 #[.int .u32 x,.int .i64 k] W fun e W'=>e=.returned (.int .u32 (xF1 x k))∧W=W':=Classical.choose_spec (xT1 x k) W
theorem xLz (x k:Int)(hk:0≤k∧k≤100)(W:World):Calls Tryz.prog 301 #[.int .u32 x,.int .i64 k] W fun e W'=>e=.returned (.int .u32 (xF1 x (-k)))∧W=W':=by
 obtain⟨hk0,hk1⟩:=hk
 go_enter Tryz.func301,Tryz.ntmps301
 go_wp2_with (go_at_call 318;refine(xWj _ _ _).mono ?_;rintro e w' ⟨rfl,rfl⟩)
 go_ret
 exact⟨rfl,rfl⟩
theorem rot_q (x k:Int)(hk:0≤k∧k≤100)(n:Nat)(W:World):Calls Tryz.prog 301 #[.int .u32 x,.int .i64 k] (W.drewN n) fun e W'=>e=.returned (.int .u32 (xF1 x (-k)))∧∃ m,W'=W.drewN m :=
 (xLz x k hk (W.drewN n)).mono fun _ _ ⟨he,hm⟩=>⟨he,n,hm.symm⟩
theorem yAk (x k:Int)(hk:0≤k∧k≤100)(n m:Nat)(W:World):Calls Tryz.prog 301 #[.int .u32 x,.int .i64 k] (W.drewN (n+m)) fun e W'=>e=.returned (.int .u32 (xF1 x (-k)))∧∃ j,W'=W.drewN (n+j) :=
 (xLz x k hk (W.drewN (n+m))).mono fun _ _ ⟨he,hm⟩=>⟨he,m,hm.symm⟩
@[simp] theorem vU (w:World) (k g n:Nat):xP (w.drewN k) g n=xP w g n:=rfl
@[simp] theorem vb (w:World) (k g:Nat) (cs:Array Value):(w.drewN k).setRow g cs=(w.setRow g cs).drewN k:=rfl
theorem xU {B:Nat}{a w:World}(h:Below B a w)(n:Nat):Below B a (w.drewN n):=⟨h.os,h.tape,h.output,h.size,h.block⟩
structure W8 where
 a:Int
 b:Int
 c:Int
 d:Int
 e:Int
 f:Int
 g:Int
 i:Int
def encW (v:W8):List Value:=[.int .u32 v.a,.int .u32 v.b,.int .u32 v.c,.int .u32 v.d,.int .u32 v.e,.int .u32 v.f,.int .u32 v.g,.int .u32 v.i]
theorem jD (ρ:Operand→Value)(d:Option Tmp)(x:Operand)(ty:TypeId)(pos:String)(af:Array Edge)(g:Option (Nat × Bool))(w:World) :
  Sem.run Tryz.prog (execOp ρ ⟨d,.load 391 x,ty,pos,af,g⟩) w=yx Tryz.prog 391 w (ρ x):=rfl
theorem k8 (ρ:Operand→Value)(d:Option Tmp)(x y:Operand)(ty:TypeId)(pos:String)(af:Array Edge)(g:Option (Nat × Bool))(w:World) :
  Sem.run Tryz.prog (execOp ρ ⟨d,.store 391 x y,ty,pos,af,g⟩) w=ym Tryz.prog 391 w (ρ x) (ρ y):=rfl
theorem xP6 (w:World)(a:Addr)(h:xq w a 8=true):yx Tryz.prog 391 w (.pointer (some a))=.ok (.value (.agg (xp w a 8))) w :=
 yo Tryz.isAgg391 Tryz.sizeOf391 w a h
theorem xW0 (w:World)(g:Nat)(cells:Array Value)(h:xP w g 8=true)(h2:xy 8 cells=true) :
  ym Tryz.prog 391 w (.pointer (some ⟨g,0,none⟩)) (.agg cells)=.ok .skip (w.setRow g cells):=yr (by kernel_rfl) w g cells h h2
theorem xRp (a b c d e f g i:Value):jU #[a,b,c,d,e,f,g,i] 0 8=true:=rfl
theorem xRk (a b c d e f g i:Value):jP #[a,b,c,d,e,f,g,i] 0 8=#[a,b,c,d,e,f,g,i]:=rfl
theorem xW9 (a b c d e f g i:Value):((#[a,b,c,d,e,f,g,i]:Array Value).size == 8)=true:=rfl
theorem xTi (a b c d e f g i:Int):xy 8 #[.int .u32 a,.int .u32 b,.int .u32 c,.int .u32 d,.int .u32 e,.int .u32 f,.int .u32 g,.int .u32 i]=true:=by simp[xy,Value.oneCell']
attribute [local go_sem ↓] jD k8
attribute [local go_sem] xP6 xW0 xRp xRk xW9 xTi xj xh xe xd xA xz xo xl xt xC xx vU vb
theorem zM {P:Program}{fn:Func}{p:Tmp}{ty n:Nat}(h:fn.results=#[.cell p ty])(hA:∀ w,Sem.run P (isAgg ty) w=.ok true w)(hs:∀ w,Sem.run P (Go.sizeOf ty) w=.ok n w)
  (tmps:Array Value) (w:World) (a:Addr) (cs:Array Value) (hp:tmps.getD p undef=.pointer (some a)) (hok:xq w a n=true) (hrd:xp w a n=cs) :
  (results fn tmps).run P w=.ok (.agg cs) w:=by
 have hp':tmps[p]?.getD undef=.pointer (some a):=by simpa using hp
 have hl:(loadVar ty a).run P w=.ok (.agg cs) w:=by
  simp[loadVar,hA,hs,zv w a n hok,hrd]
 simp[results,h,hp',asAddr,hl]
theorem ex8 {Q:W8→Prop}{a b c d e f g i:Int}(h:Q ⟨a,b,c,d,e,f,g,i⟩):∃ r,Q r:=⟨_,h⟩
theorem xOi (v:W8)(k x:Int):∃ r:W8,∀ W:World,Calls Tryz.prog 302 #[.agg (encW v).toArray,.int .u32 k,.int .u32 x] W fun e W'=>e=.returned (.agg (encW r).toArray)∧Below W.heap.size W W':=by
 obtain⟨a,b,c,d,e,f,g,i⟩:=v
 apply ex8
 intro W
 have hs:IntKind.u32.signed=false:=rfl
 unfold encW
 go_enter Tryz.func302,Tryz.ntmps302
 go_wp2
 go_quiet ((go_at_call 301;exact rot_q _ _ (by decide) _ _))
 go_wp2
 go_quiet ((go_at_call 301;exact yAk _ _ (by decide) _ _ _))
 go_wp2
 refine bodyPost_ret (zM rfl Tryz.isAgg391 Tryz.sizeOf391 _ _ ⟨W.heap.size+1,0,none⟩ _ rfl ?_ ?_) rfl ⟨rfl,?_⟩
 ·go_simp
 ·go_simp
  exact⟨rfl,rfl,rfl,rfl,rfl,rfl,rfl,rfl⟩
 ·exact xU (((Below.refl _ _).alloc (Nat.le_refl _) _).alloc (by simp) _) _
end
section
attribute [local go_sem ↓] jD k8
attribute [local go_sem] xP6 xW0 xRp xRk xW9 xTi xj xh xe xd xA xz xo xl xt xC xx vU vb
noncomputable def xAh (v:W8)(k x:Int):W8:=Classical.choose (xOi v k x)
theorem xKb (v:W8)(k x:Int)(W:World):Calls Tryz.prog 302 #[.agg (encW v).toArray,.int .u32 k,.int .u32 x] W fun e W'=>e=.returned (.agg (encW (xAh v k x)).toArray)∧Below W.heap.size W W':=Classical.choose_spec (xOi v k x) W
theorem xT5 (v u:W8):∃ r:W8,∀ W:World,Calls Tryz.prog 303 #[.agg (encW v).toArray,.agg (encW u).toArray] W fun e W'=>e=.returned (.agg (encW r).toArray)∧Below W.heap.size W W':=by
 obtain⟨a,b,c,d,e,f,g,i⟩:=v
 obtain⟨a',b',c',d',e',f',g',i'⟩:=u
 apply ex8
 intro W
 unfold encW
 go_enter Tryz.func303,Tryz.ntmps303
 go_wp2
 refine bodyPost_ret (zM rfl Tryz.isAgg391 Tryz.sizeOf391 _ _ ⟨W.heap.size+2,0,none⟩ _ rfl ?_ ?_) rfl ⟨rfl,?_⟩
 ·go_simp
 ·go_simp
  exact⟨rfl,rfl,rfl,rfl,rfl,rfl,rfl,rfl⟩
 ·exact((((Below.refl _ _).alloc (Nat.le_refl _) _).alloc (by simp) _).alloc (by simp;omega) _)
noncomputable def xT6 (v u:W8):W8:=Classical.choose (xT5 v u)
theorem xWr (v u:W8)(W:World):Calls Tryz.prog 303 #[.agg (encW v).toArray,.agg (encW u).toArray] W fun e W'=>e=.returned (.agg (encW (xT6 v u)).toArray)∧Below W.heap.size W W':=Classical.choose_spec (xT5 v u) W
theorem xTb:∃ r:W8,∀ W:World,Calls Tryz.prog 261 #[] W fun e W'=>e=.returned (.agg (encW r).toArray)∧Below W.heap.size W W':=by
 apply ex8
 intro W
 unfold encW
 go_enter Tryz.func261,Tryz.ntmps261
 go_wp2
 refine bodyPost_ret (zM rfl Tryz.isAgg391 Tryz.sizeOf391 _ _ ⟨W.heap.size,0,none⟩ _ rfl ?_ ?_) rfl ⟨rfl,?_⟩
 ·go_simp
 ·go_simp
  exact⟨rfl,rfl,rfl,rfl,rfl,rfl,rfl,rfl⟩
 ·exact b_ _ _
noncomputable def xDg:W8:=Classical.choose xTb
theorem xX9 (W:World):Calls Tryz.prog 261 #[] W fun e W'=>e=.returned (.agg (encW xDg).toArray)∧Below W.heap.size W W':=Classical.choose_spec xTb W
end
section
structure Sk (K:Nat→Int)(w:World):Prop where
 tab:∀ t,t<64→w.cell? ⟨2,t,none⟩=some (.int .u32 (K t))
theorem Sk.lt {K:Nat→Int}{w:World}(h:Sk K w):2<w.heap.size:=block_lt_of_cell (h.tab 0 (by omega))
theorem Sk.below {K:Nat→Int}{B:Nat}{w w':World}(h:Sk K w)(hb:Below B w w')(hB:w.heap.size≤B):Sk K w' :=
 ⟨fun t ht=>(hb.cell (p:=⟨2,t,none⟩) (by have:=h.lt;simp;omega)).trans (h.tab t ht)⟩
theorem fitsI {ws:List Int}{n:Nat}(h:ws.length=n):xy n (ws.map fun x=>Value.int .u32 x).toArray=true :=
 zT (by simp[h]) (by rw[Array.all_eq_true_iff_forall_mem];intro v hv;simp at hv;obtain⟨x,_,rfl⟩:=hv;rfl)
def encX (ws:List Int):List Value:=ws.map fun x=>.int .u32 x
structure PrSt (K:Nat→Int)(W0:World)(h v:W8)(ws:List Int)(W:World):Prop where
 bel:Below W0.heap.size W0 W
 bh:W.heap[W0.heap.size]?=some (.cells (encW h).toArray 391 (0,0))
 bw:W.heap[W0.heap.size+1]?=some (.cells (encX ws).toArray 397 (0,0))
 br:xP W (W0.heap.size+2) 8=true
 bv:W.heap[W0.heap.size+3]?=some (.cells (encW v).toArray 391 (0,0))
 len:ws.length=16
 k:Sk K W
 gl:2<W0.heap.size
theorem yAp (v:W8):jU (encW v).toArray 0 8=true:=rfl
theorem yAm (v:W8):jP (encW v).toArray 0 8=(encW v).toArray:=rfl
theorem sizeW (v:W8):((encW v).toArray.size == 8)=true:=rfl
theorem fitsW (v:W8):xy 8 (encW v).toArray=true:=xTi _ _ _ _ _ _ _ _
attribute [local go_sem] yAp yAm sizeW fitsW
attribute [local go_sem ↓] jD k8
attribute [local go_sem] xP6 xW0 xRp xRk xW9 xTi xj xh xe xd xA xz xo xl xt xC xx vU vb
noncomputable def mixF (x y z c:Int):Int:=(c+(bits BinOp.xor IntKind.u32 (bits BinOp.xor IntKind.u32 (xF1 x (-7)) (xF1 x (-18))) (x / 8)+bits BinOp.xor IntKind.u32 (bits BinOp.xor IntKind.u32 (xF1 y (-17)) (xF1 y (-19))) (y / 1024)+z)) % 4294967296
noncomputable def xBu (K:Nat→Int)(v:W8)(ws:List Int):Nat→W8 × List Int
 | 0=>(v,ws)
 | t+1 =>
  let p:=xBu K v ws t
  let xs:=if t<16 then p.2 else p.2.set (t % 16) (mixF (p.2.getD ((t-15) % 16) 0) (p.2.getD ((t-2) % 16) 0) (p.2.getD ((t-7) % 16) 0) (p.2.getD (t % 16) 0))
  (xAh p.1 (K t) (xs.getD (t % 16) 0),xs)
theorem ks {W:World}{b T:Nat}{ws:List Int}(h:W.heap[b]?=some (.cells (encX ws).toArray T (0,0)))(i:Nat)(hi:i<ws.length):W.cell? ⟨b,i,none⟩=some (.int .u32 (ws.getD i 0)):=by
 rw[cell_of_row W b i _ _ _ h]
 simp[encX,hi]
theorem PrSt.drew {K:Nat→Int}{W0:World}{h v:W8}{ws:List Int}{W:World}(s:PrSt K W0 h v ws W):PrSt K W0 h v ws W.drew:=⟨s.bel.drew,s.bh,s.bw,s.br,s.bv,s.len,⟨s.k.tab⟩,s.gl⟩
theorem PrSt.drewN {K:Nat→Int}{W0:World}{h v:W8}{ws:List Int}{W:World}(s:PrSt K W0 h v ws W)(n:Nat):PrSt K W0 h v ws (W.drewN n):=⟨xU s.bel n,s.bh,s.bw,s.br,s.bv,s.len,⟨fun t ht=>s.k.tab t ht⟩,s.gl⟩
theorem PrSt.setW {K:Nat→Int}{W0:World}{h v:W8}{ws:List Int}{W:World}(s:PrSt K W0 h v ws W)(i:Nat)(x:Int):PrSt K W0 h v (ws.set i x) (W.setCell ⟨W0.heap.size+1,i,none⟩ (.int .u32 x)):=by
 have ho:∀ k,k≠W0.heap.size+1→(W.setCell ⟨W0.heap.size+1,i,none⟩ (.int .u32 x)).heap[k]?=W.heap[k]?:=fun k hk=>heap_setCell_other W ⟨W0.heap.size+1,i,none⟩ k _ hk
 refine⟨s.bel.setCell (by simp) _,(ho _ (by omega)).trans s.bh,?_,?_,(ho _ (by omega)).trans s.bv,by simp[s.len],⟨fun t ht=>?_⟩,s.gl⟩
 ·rw[heap_setCell_same W _ i _ _ _ s.bw]
  simp[encX]
 ·have:=s.br
  unfold xP at this ⊢
  rw[ho _ (by omega)];exact this
 ·have:=s.k.tab t ht
  unfold World.cell? at this ⊢
  rw[ho _ (by have:=s.bel.size;have:=s.k.lt;have hl:2<W0.heap.size:=s.gl;simp;omega)];exact this
theorem xJ {B:Nat}{a w:World}(h:Below B a w){g:Nat}(hg:B≤g)(cs:Array Value):Below B a (w.setRow g cs) :=
 ⟨h.os,h.tape,h.output,by have:=h.size;simpa[World.setRow] using this,fun k hk=>(setRow_other _ _ _ _ (by omega)).trans (h.block k hk)⟩
theorem PrSt.round {K:Nat→Int}{W0:World}{h v u:W8}{ws:List Int}{W W':World}(s:PrSt K W0 h v ws W)(hb:Below W.heap.size W W'):PrSt K W0 h u ws (W'.setRow (W0.heap.size+3) (encW u).toArray):=by
 have hlt:W0.heap.size+3<W.heap.size:=(i_ s.bv).1
 have e:∀ k,k<W.heap.size→W'.heap[k]?=W.heap[k]?:=fun k hk=>hb.block k hk
 have ho:∀ k,k<W.heap.size→k≠W0.heap.size+3→(W'.setRow (W0.heap.size+3) (encW u).toArray).heap[k]?=W.heap[k]?:=fun k hk hn=>(setRow_other _ _ _ _ hn).trans (e k hk)
 refine⟨xJ (s.bel.trans (hb.mono s.bel.size)) (by omega) _,(ho _ (by omega) (by omega)).trans s.bh,(ho _ (by omega) (by omega)).trans s.bw,?_,?_,s.len,⟨fun t ht=>?_⟩,s.gl⟩
 ·have:=s.br
  unfold xP at this ⊢
  rw[ho _ (by omega) (by omega)];exact this
 ·exact setRow_heap _ _ _ _ _ _ ((e _ hlt).trans s.bv)
 ·have h1:=s.k.tab t ht
  have h2:=s.k.lt
  have h3:=s.gl
  unfold World.cell? at h1 ⊢
  rw[ho _ h2 (by omega)];exact h1
theorem xI {W:World}{b T n:Nat}{cs:Array Value}{fr:Nat × Nat}(h:W.heap[b]?=some (.cells cs T fr))(hn:cs.size=n):xq W ⟨b,0,none⟩ n=true∧xp W ⟨b,0,none⟩ n=cs:=by
 have:=y7 (w:=W) (a:=⟨b,0,none⟩) (cs:=cs.toList) (fun j v hj=>by
  rw[Addr.add_lit,Nat.zero_add,cell_of_row W b j _ _ _ h];simpa using hj)
 simpa[hn] using this
theorem PrSt.rowV {K:Nat→Int}{W0:World}{h v:W8}{ws:List Int}{W W':World}(s:PrSt K W0 h v ws W)(hb:Below W.heap.size W W'):xP W' (W0.heap.size+3) 8=true:=by
 have hlt:W0.heap.size+3<W.heap.size:=(i_ s.bv).1
 unfold xP
 rw[hb.block _ hlt,s.bv];rfl
theorem PrSt.rowR {K:Nat→Int}{W0:World}{h v:W8}{ws:List Int}{W W':World}(s:PrSt K W0 h v ws W)(hb:Below W.heap.size W W'):xP W' (W0.heap.size+2) 8=true:=by
 have hlt:W0.heap.size+3<W.heap.size:=(i_ s.bv).1
 have:=s.br
 unfold xP at this ⊢
 rw[hb.block _ (by omega)];exact this
theorem yt (w:World)(o:Obj)(k:Nat):(w.alloc o).heap[k]?=if k=w.heap.size then some o else w.heap[k]?:=by
 show (w.heap.push o)[k]?=_
 rw[Array.getElem?_push]
theorem xRl (K:Nat→Int)(v:W8)(ws:List Int)(hws:ws.length=16)(W:World)(hK:Sk K W)(zs:Array Value)(hz:zs.size=8) :
  PrSt K W v v ws ((((W.alloc (.cells (encW v).toArray 391)).alloc (.cells (encX ws).toArray 397)).alloc (.cells zs 391)).alloc (.cells (encW v).toArray 391)):=by
 have hb:Below W.heap.size W ((((W.alloc (.cells (encW v).toArray 391)).alloc (.cells (encX ws).toArray 397)).alloc (.cells zs 391)).alloc (.cells (encW v).toArray 391)) :=
  ((((Below.refl _ _).alloc (Nat.le_refl _) _).alloc (by simp) _).alloc (by simp;omega) _).alloc (by simp;omega) _
 refine⟨hb,?_,?_,?_,?_,hws,hK.below hb (Nat.le_refl _),hK.lt⟩
 ·simp only[yt,World.size_alloc]
  rw[if_neg (by omega),if_neg (by omega),if_neg (by omega),if_pos trivial]
 ·simp only[yt,World.size_alloc]
  rw[if_neg (by omega),if_neg (by omega),if_pos trivial]
 ·unfold xP
  simp only[yt,World.size_alloc]
  rw[if_neg (by omega),if_pos trivial]
  simp[hz]
 ·simp only[yt,World.size_alloc]
  rw[if_pos trivial]
theorem xF5 (K:Nat→Int)(v:W8)(ws:List Int)(hws:ws.length=16)(W:World)(hK:Sk K W):Calls Tryz.prog 262 #[.agg (encW v).toArray,.agg (encX ws).toArray] W fun e W'=>e=.returned (.agg (encW (xT6 v (xBu K v ws 64).1)).toArray)∧Below W.heap.size W W':=by
 have HK:=h_ hK
 clear hK
 go_enter Tryz.func262,Tryz.ntmps262
 go_wp2
 go_loopw [12] (fun t wr=>∃ k:Nat,k≤64∧t=.int .i64 k∧PrSt K W v (xBu K v ws k).1 (xBu K v ws k).2 wr) (fun t _=>64-(intOf t).toNat)
 case atStart =>
  refine⟨0,by omega,rfl,?_⟩
  exact xRl K v ws hws W HK.out _ rfl
 case round =>
  obtain⟨k,hk,rfl,hs⟩:=hrel
  generalize hst:xBu K v ws k=st at hs
  obtain⟨u,xs⟩:=st
  have HST:=h_ hst
  clear hst
  by_cases hlt:k<64
  ·by_cases h16:k<16
   ·have a1:(k:Int)<64:=by omega
    have a2:(k:Int)<16:=by omega
    obtain⟨xs3,hxs3⟩:∃ q,q=xs:=⟨_,rfl⟩
    obtain⟨w3,hw3⟩:∃ q,q=wr:=⟨_,rfl⟩
    rw[←hw3,←hxs3] at hs
    have HXS3:=h_ hxs3
    have HS3:=h_ hs
    rw[←hw3]
    clear hs hxs3 hw3
    go_upto_region 10 with (fail)
    have g1:=ks HS3.out.bw (k % 16) (by rw[HS3.out.len];omega)
    obtain⟨x3,hx3⟩:∃ x,x=xs3.getD (k % 16) 0:=⟨_,rfl⟩
    rw[←hx3] at g1
    have HX3:=h_ hx3
    have g2:=HS3.out.k.tab k hlt
    have f3:((k:Int)).tmod 16=((k % 16:Nat):Int):=by rw[Int.tmod_eq_emod_of_nonneg (by omega)];omega
    have r1:=xI HS3.out.bv (by rfl:(encW u).toArray.size=8)
    have HR1:=h_ r1
    have r2:=r1.1
    have r3:=r1.2
    clear hx3 r1
    refine xw [0,1,2,3,4,5,6,7] [8,9] (fun w'=>w'=w3.drew) (by kernel_rfl) (by kernel_rfl) (by kernel_rfl) rfl ?_
    simp only[o_]
    repeat (go_big_quiet_step (fail))
    refine wpQuiet_nil ?_
    refine xG [8,9] _ _ (by kernel_rfl) ?_
    simp only[o_]
    clear g1 g2 f3 r2 r3
    have hs3:=HS3.out.drew
    generalize w3.drew=w4 at hs3 ⊢
    have HS4:=h_ hs3
    clear hs3
    go_wp2_with (go_at_call 302;refine(xKb _ _ _ _).mono ?_;rintro e w5 ⟨rfl,hb5⟩;have hro:=HS4.out.rowV hb5)
    refine NoPanic.normal ?_
    have hs6:=HS4.out.round (u:=xAh u (K k) x3) (by assumption)
    have HB5:=h_ hb5
    have HS6:=h_ hs6
    clear hb5 hs6 hro
    generalize w5.setRow (W.heap.size+3) (encW (xAh u (K k) x3)).toArray=w6 at HS6 ⊢
    go_wp2
    go_roundw
    case rel =>
     refine⟨k+1,by omega,by go_num,?_⟩
     have e:xBu K v ws (k+1)=(xAh u (K k) x3,xs3):=by
      rw[xBu,HST.out,HX3.out]
      simp only[if_pos h16,HXS3.out]
     rw[e];exact HS6.out
    case measure=>simp[intOf];omega
   ·have a1:(k:Int)<64:=by omega
    have a2:¬ (k:Int)<16:=by omega
    have c1:∀ i,i<16→wr.cell? ⟨W.heap.size+1,i,none⟩=some (.int .u32 (xs.getD i 0)):=fun i hi=>ks hs.bw i (by rw[hs.len];omega)
    have d1:=c1 ((k-15) % 16) (by omega)
    have d2:=c1 ((k-2) % 16) (by omega)
    have e1:IntKind.i64.wrap ((k:Int)-15)=((k-15:Nat):Int):=by rw[IntWalk.i64_in _ (by omega)];omega
    have e2:IntKind.i64.wrap ((k:Int)-2)=((k-2:Nat):Int):=by rw[IntWalk.i64_in _ (by omega)];omega
    have f1:(((k-15:Nat):Int)).tmod 16=(((k-15) % 16:Nat):Int):=by rw[Int.tmod_eq_emod_of_nonneg (by omega)];omega
    have f2:(((k-2:Nat):Int)).tmod 16=(((k-2) % 16:Nat):Int):=by rw[Int.tmod_eq_emod_of_nonneg (by omega)];omega
    obtain⟨x,hx⟩:∃ x,x=xs.getD ((k-15) % 16) 0:=⟨_,rfl⟩
    obtain⟨y,hy⟩:∃ x,x=xs.getD ((k-2) % 16) 0:=⟨_,rfl⟩
    obtain⟨z,hz⟩:∃ x,x=xs.getD ((k-7) % 16) 0:=⟨_,rfl⟩
    obtain⟨c,hc⟩:∃ x,x=xs.getD (k % 16) 0:=⟨_,rfl⟩
    rw[←hx] at d1
    rw[←hy] at d2
    have HXS:=h_ (And.intro hx (And.intro hy (And.intro hz hc)))
    clear hx hy hz hc
    have HS:=h_ hs
    clear hs c1
    go_upto_region 6 with (fail)
    go_quiet (fail)
    go_upto_region 9 with (go_at_call 301;refine(xLz _ _ (by decide) _).mono ?_;rintro e w' ⟨rfl,rfl⟩)
    have hs2:=HS.out.drewN nq
    generalize wr.drewN nq=w2 at hs2 ⊢
    clear d1 d2 e1 e2 f1 f2
    have c1:∀ i,i<16→w2.cell? ⟨W.heap.size+1,i,none⟩=some (.int .u32 (xs.getD i 0)):=fun i hi=>ks hs2.bw i (by rw[hs2.len];omega)
    have d1:=c1 ((k-7) % 16) (by omega)
    have d2:=c1 (k % 16) (by omega)
    have d3:=frozen_of_row w2 (W.heap.size+1) (k % 16) _ _ hs2.bw
    rw[←HXS.out.2.2.1] at d1
    rw[←HXS.out.2.2.2] at d2
    have e1:IntKind.i64.wrap ((k:Int)-7)=((k-7:Nat):Int):=by rw[IntWalk.i64_in _ (by omega)];omega
    have f1:(((k-7:Nat):Int)).tmod 16=(((k-7) % 16:Nat):Int):=by rw[Int.tmod_eq_emod_of_nonneg (by omega)];omega
    have f2:((k:Int)).tmod 16=((k % 16:Nat):Int):=by rw[Int.tmod_eq_emod_of_nonneg (by omega)];omega
    have HS2:=h_ hs2
    clear hs2 c1
    refine xw [0,1,2,3,4,5,6,7,8,9,10,11,12,13,14] [15] (fun w'=>w'=w2.drew) (by kernel_rfl) (by kernel_rfl) (by kernel_rfl) rfl ?_
    simp only[o_]
    repeat (go_big_quiet_step (fail))
    refine wpQuiet_nil ?_
    refine xG [15] _ _ (by kernel_rfl) ?_
    simp only[o_]
    go_wp2
    refine NoPanic.normal ?_
    have hs3:=(HS2.out.setW (k % 16) (mixF x y z c)).drew
    unfold mixF at hs3
    generalize (w2.setCell _ _).drew=w3 at hs3 ⊢
    obtain⟨xs3,hxs3⟩:∃ q,q=xs.set (k % 16) (mixF x y z c):=⟨_,rfl⟩
    have HXS3:=h_ hxs3
    unfold mixF at hxs3
    rw[←hxs3] at hs3
    have HS3:=h_ hs3
    clear d1 d2 d3 e1 f1 f2 hs3 hxs3
    go_upto_region 10 with (fail)
    have g1:=ks HS3.out.bw (k % 16) (by rw[HS3.out.len];omega)
    obtain⟨x3,hx3⟩:∃ x,x=xs3.getD (k % 16) 0:=⟨_,rfl⟩
    rw[←hx3] at g1
    have HX3:=h_ hx3
    have g2:=HS3.out.k.tab k hlt
    have f3:((k:Int)).tmod 16=((k % 16:Nat):Int):=by rw[Int.tmod_eq_emod_of_nonneg (by omega)];omega
    have r1:=xI HS3.out.bv (by rfl:(encW u).toArray.size=8)
    have HR1:=h_ r1
    have r2:=r1.1
    have r3:=r1.2
    clear hx3 r1
    refine xw [0,1,2,3,4,5,6,7] [8,9] (fun w'=>w'=w3.drew) (by kernel_rfl) (by kernel_rfl) (by kernel_rfl) rfl ?_
    simp only[o_]
    repeat (go_big_quiet_step (fail))
    refine wpQuiet_nil ?_
    refine xG [8,9] _ _ (by kernel_rfl) ?_
    simp only[o_]
    clear g1 g2 f3 r2 r3
    have hs3:=HS3.out.drew
    generalize w3.drew=w4 at hs3 ⊢
    have HS4:=h_ hs3
    clear hs3
    go_wp2_with (go_at_call 302;refine(xKb _ _ _ _).mono ?_;rintro e w5 ⟨rfl,hb5⟩;have hro:=HS4.out.rowV hb5)
    refine NoPanic.normal ?_
    have hs6:=HS4.out.round (u:=xAh u (K k) x3) (by assumption)
    have HB5:=h_ hb5
    have HS6:=h_ hs6
    clear hb5 hs6 hro
    generalize w5.setRow (W.heap.size+3) (encW (xAh u (K k) x3)).toArray=w6 at HS6 ⊢
    go_wp2
    go_roundw
    case rel =>
     refine⟨k+1,by omega,by go_num,?_⟩
     have e:xBu K v ws (k+1)=(xAh u (K k) x3,xs3):=by
      rw[xBu,HST.out,HX3.out]
      simp only[if_neg h16,HXS3.out]
      rw[HXS.out.1,HXS.out.2.1,HXS.out.2.2.1,HXS.out.2.2.2]
     rw[e];exact HS6.out
    case measure=>simp[intOf];omega
  ·obtain rfl:k=64:=by omega
   have r1:=xI hs.bh (by rfl:(encW v).toArray.size=8)
   have r2:=xI hs.bv (by rfl:(encW u).toArray.size=8)
   have HRS:=h_ r1
   have HRV:=h_ r2
   have q1:=r1.1
   have q2:=r1.2
   have q3:=r2.1
   have q4:=r2.2
   have HS:=h_ hs
   clear hs r1 r2
   go_wp2_with (go_at_call 303;refine(xWr _ _ _).mono ?_;rintro e w5 ⟨rfl,hb5⟩;have hro:=HS.out.rowR hb5)
   have hlt2:W.heap.size+3<wr.heap.size:=(i_ HS.out.bv).1
   have hb6:Below W.heap.size W (w5.setRow (W.heap.size+2) (encW (xT6 v u)).toArray):=xJ (HS.out.bel.trans (hb5.mono HS.out.bel.size)) (by omega) _
   obtain⟨cs,T,hcs,_⟩:=uz hro
   refine bodyPost_ret (zM rfl Tryz.isAgg391 Tryz.sizeOf391 _ _ ⟨W.heap.size+2,0,none⟩ _ rfl (xI (setRow_heap _ _ _ _ _ _ hcs) rfl).1 (xI (setRow_heap _ _ _ _ _ _ hcs) rfl).2) rfl ⟨?_,hb6⟩
   rw[HST.out]
end
section
theorem xFh (ρ:Operand→Value)(d:Option Tmp)(x:Operand)(ty:TypeId)(pos:String)(af:Array Edge)(g:Option (Nat × Bool))(w:World) :
  Sem.run Tryz.prog (execOp ρ ⟨d,.load 392 x,ty,pos,af,g⟩) w=yx Tryz.prog 392 w (ρ x):=rfl
theorem xX4 (w:World)(a:Addr)(h:xq w a 64=true):yx Tryz.prog 392 w (.pointer (some a))=.ok (.value (.agg (xp w a 64))) w :=
 yo Tryz.isAgg392 Tryz.sizeOf392 w a h
theorem xPt (ρ:Operand→Value)(d:Option Tmp)(x:Operand)(ty:TypeId)(pos:String)(af:Array Edge)(g:Option (Nat × Bool))(w:World) :
  Sem.run Tryz.prog (execOp ρ ⟨d,.load 397 x,ty,pos,af,g⟩) w=yx Tryz.prog 397 w (ρ x):=rfl
theorem xMq (ρ:Operand→Value)(d:Option Tmp)(x y:Operand)(ty:TypeId)(pos:String)(af:Array Edge)(g:Option (Nat × Bool))(w:World) :
  Sem.run Tryz.prog (execOp ρ ⟨d,.store 397 x y,ty,pos,af,g⟩) w=ym Tryz.prog 397 w (ρ x) (ρ y):=rfl
theorem yAs (w:World)(a:Addr)(h:xq w a 16=true):yx Tryz.prog 397 w (.pointer (some a))=.ok (.value (.agg (xp w a 16))) w :=
 yo Tryz.isAgg397 Tryz.sizeOf397 w a h
theorem yAa (w:World)(g:Nat)(cells:Array Value)(h:xP w g 16=true)(h2:xy 16 cells=true) :
  ym Tryz.prog 397 w (.pointer (some ⟨g,0,none⟩)) (.agg cells)=.ok .skip (w.setRow g cells):=yr (by kernel_rfl) w g cells h h2
theorem xB4 (ρ:Operand→Value)(d:Option Tmp)(x:Operand)(ty:TypeId)(pos:String)(af:Array Edge)(g:Option (Nat × Bool))(w:World) :
  Sem.run Tryz.prog (execOp ρ ⟨d,.load 321 x,ty,pos,af,g⟩) w=yx Tryz.prog 321 w (ρ x):=rfl
theorem kU (ρ:Operand→Value)(d:Option Tmp)(x y:Operand)(ty:TypeId)(pos:String)(af:Array Edge)(g:Option (Nat × Bool))(w:World) :
  Sem.run Tryz.prog (execOp ρ ⟨d,.store 321 x y,ty,pos,af,g⟩) w=ym Tryz.prog 321 w (ρ x) (ρ y):=rfl
theorem xRs (w:World)(a:Addr)(h:xq w a 32=true):yx Tryz.prog 321 w (.pointer (some a))=.ok (.value (.agg (xp w a 32))) w :=
 yo Tryz.isAgg321 Tryz.sizeOf321 w a h
theorem xR2 (w:World)(g:Nat)(cells:Array Value)(h:xP w g 32=true)(h2:xy 32 cells=true) :
  ym Tryz.prog 321 w (.pointer (some ⟨g,0,none⟩)) (.agg cells)=.ok .skip (w.setRow g cells):=yr (by kernel_rfl) w g cells h h2
theorem kW (ρ:Operand→Value)(d:Option Tmp)(x:Operand)(ty:TypeId)(pos:String)(af:Array Edge)(g:Option (Nat × Bool))(w:World) :
  Sem.run Tryz.prog (execOp ρ ⟨d,.load 276 x,ty,pos,af,g⟩) w=yx Tryz.prog 276 w (ρ x):=rfl
theorem kh (ρ:Operand→Value)(d:Option Tmp)(x y:Operand)(ty:TypeId)(pos:String)(af:Array Edge)(g:Option (Nat × Bool))(w:World) :
  Sem.run Tryz.prog (execOp ρ ⟨d,.store 276 x y,ty,pos,af,g⟩) w=ym Tryz.prog 276 w (ρ x) (ρ y):=rfl
theorem xMg (w:World)(a:Addr)(h:xq w a 16=true):yx Tryz.prog 276 w (.pointer (some a))=.ok (.value (.agg (xp w a 16))) w :=
 yo Tryz.isAgg276 Tryz.sizeOf276 w a h
theorem xLo (w:World)(g:Nat)(cells:Array Value)(h:xP w g 16=true)(h2:xy 16 cells=true) :
  ym Tryz.prog 276 w (.pointer (some ⟨g,0,none⟩)) (.agg cells)=.ok .skip (w.setRow g cells):=yr (by kernel_rfl) w g cells h h2
theorem xMw (ρ:Operand→Value)(d:Option Tmp)(x:Operand)(ty:TypeId)(pos:String)(af:Array Edge)(g:Option (Nat × Bool))(w:World) :
  Sem.run Tryz.prog (execOp ρ ⟨d,.load 394 x,ty,pos,af,g⟩) w=yx Tryz.prog 394 w (ρ x):=rfl
theorem xJk (ρ:Operand→Value)(d:Option Tmp)(x y:Operand)(ty:TypeId)(pos:String)(af:Array Edge)(g:Option (Nat × Bool))(w:World) :
  Sem.run Tryz.prog (execOp ρ ⟨d,.store 394 x y,ty,pos,af,g⟩) w=ym Tryz.prog 394 w (ρ x) (ρ y):=rfl
theorem xZ6 (w:World)(a:Addr)(h:xq w a 73=true):yx Tryz.prog 394 w (.pointer (some a))=.ok (.value (.agg (xp w a 73))) w :=
 yo Tryz.isAgg394 Tryz.sizeOf394 w a h
theorem xYu (w:World)(g:Nat)(cells:Array Value)(h:xP w g 73=true)(h2:xy 73 cells=true) :
  ym Tryz.prog 394 w (.pointer (some ⟨g,0,none⟩)) (.agg cells)=.ok .skip (w.setRow g cells):=yr (by kernel_rfl) w g cells h h2
theorem xZh (n:Nat):(n=n+1+1)=False:=by simp;omega
theorem xZg (n:Nat):(n=n+1+1+1)=False:=by simp;omega
theorem xZf (n:Nat):(n=n+1+1+1+1)=False:=by simp;omega
theorem xZe (n:Nat):(n=n+1+1+1+1+1)=False:=by simp;omega
theorem xZv (n:Nat):(n+1+1=n)=False:=by simp;omega
theorem xZu (n:Nat):(n+1+1+1=n)=False:=by simp;omega
theorem xZt (n:Nat):(n+1+1+1+1=n)=False:=by simp;omega
theorem xZs (n:Nat):(n+1+1+1+1+1=n)=False:=by simp;omega
attribute [go_sem] xZh xZg xZf xZe xZv xZu xZt xZs
def encB (l:List UInt8):List Value:=l.map fun b=>.int .u8 b.toNat
theorem xM (l:List UInt8):(encB l).length=l.length:=by simp[encB]
theorem qu (l:List UInt8):(encB l).toArray.size=l.length:=by simp[encB]
theorem xY1 (l:List UInt8):(encB l).toArray.all (·.oneCell')=true:=by
 rw[Array.all_eq_true_iff_forall_mem]
 intro v hv
 simp only[encB,List.mem_toArray,List.mem_map] at hv
 obtain⟨b,_,rfl⟩:=hv
 rfl
theorem xI4 {l:List UInt8}{n:Nat}(h:l.length=n):xy n (encB l).toArray=true:=zT (by rw[qu,h]) (xY1 l)
theorem yAq {l:List UInt8}{n:Nat}(h:l.length=n):jU (encB l).toArray 0 n=true:=xDa (by rw[qu];omega)
theorem yAn {l:List UInt8}{n:Nat}(h:l.length=n):jP (encB l).toArray 0 n=(encB l).toArray:=by
 rw[vO (by rw[qu];omega)]
 apply Array.ext'
 simp[List.take_of_length_le (show (encB l).length≤n by rw[xM];omega)]
theorem fitsX {l:List Int}{n:Nat}(h:l.length=n):xy n (encX l).toArray=true:=fitsI h
theorem xKz (l:List Int):(encX l).toArray.size=l.length:=by simp[encX]
theorem xLx (l:List UInt8)(k:Nat)(h:k<64)(hl:l.length=64)(w:World):Sem.run Tryz.prog (Instr.index 392 (.agg (encB l).toArray) (.int .i64 k)) w=.ok (.int .u8 (l[k]'(by omega)).toNat) w:=by
 have hu:Tryz.prog.underlying 392=some (.array 64 5):=by kernel_rfl
 have hp:=xM7 l k (by omega) w
 simp only[Instr.index,asIntOf,Sem.run_bind,Sem.run_pure,Result.andThen_ok,run_underlying hu]
 rw[if_pos ⟨by omega,by omega⟩]
 simp only[Sem.run_bind,Tryz.sizeOf5,Result.andThen_ok,Nat.mul_one,Int.toNat_natCast]
 exact hp
noncomputable def jV (cs:List UInt8):Nat→List Int
 | 0=>List.replicate 16 0
 | i+1=>(jV cs i).set (i / 4) (bits BinOp.or IntKind.u32 ((jV cs i).getD (i / 4) 0*256 % 4294967296) (((cs.getD i 0).toNat:Nat):Int))
theorem vd (cs:List UInt8):∀ i,(jV cs i).length=16
 | 0=>by simp[jV]
 | i+1=>by simp[jV,vd cs i]
structure LdSt (W0:World)(ws:List Int)(W:World):Prop where
 bel:Below W0.heap.size W0 W
 br:xP W (W0.heap.size+1) 16=true
 bw:W.heap[W0.heap.size+2]?=some (.cells (encX ws).toArray 397 (0,0))
theorem LdSt.set {W0:World}{ws:List Int}{W:World}(s:LdSt W0 ws W)(i:Nat)(x:Int):LdSt W0 (ws.set i x) (W.setCell ⟨W0.heap.size+2,i,none⟩ (.int .u32 x)):=by
 have ho:∀ k,k≠W0.heap.size+2→(W.setCell ⟨W0.heap.size+2,i,none⟩ (.int .u32 x)).heap[k]?=W.heap[k]?:=fun k hk=>heap_setCell_other W ⟨W0.heap.size+2,i,none⟩ k _ hk
 refine⟨s.bel.setCell (by simp) _,?_,?_⟩
 ·have:=s.br
  unfold xP at this ⊢
  rw[ho _ (by omega)];exact this
 ·rw[heap_setCell_same W _ i _ _ _ s.bw]
  simp[encX]
theorem xRu (W:World)(cs zs:Array Value)(T:Nat)(hz:zs.size=16) :
  LdSt W (List.replicate 16 0) (((W.alloc (.cells cs T)).alloc (.cells zs 397)).alloc (.cells (encX (List.replicate 16 0)).toArray 397)):=by
 refine⟨(((Below.refl _ _).alloc (Nat.le_refl _) _).alloc (by simp) _).alloc (by simp;omega) _,?_,?_⟩
 ·unfold xP
  simp only[yt,World.size_alloc]
  rw[if_neg (by omega),if_pos trivial]
  simp[hz]
 ·simp only[yt,World.size_alloc]
  rw[if_pos trivial]
attribute [local go_sem ↓] xFh xPt xMq
attribute [local go_sem] xX4 yAs yAa xj xh xe xd xA xz xo xl xt xC xx vU vb
theorem xP1 (cs:List UInt8)(hcs:cs.length=64)(W:World):Calls Tryz.prog 263 #[.agg (encB cs).toArray] W fun e W'=>e=.returned (.agg (encX (jV cs 64)).toArray)∧Below W.heap.size W W':=by
 have h1:=yAq hcs
 have h2:=yAn hcs
 have hx:=xLx cs
 go_enter Tryz.func263,Tryz.ntmps263
 go_wp2
 go_loopw [7] (fun t wr=>∃ k:Nat,k≤64∧t=.int .i64 k∧LdSt W (jV cs k) wr) (fun t _=>64-(intOf t).toNat)
 case atStart=>exact⟨0,by omega,rfl,xRu W _ _ _ rfl⟩
 case round =>
  obtain⟨k,hk,rfl,hs⟩:=hrel
  by_cases hlt:k<64
  ·have a1:(k:Int)<64:=by omega
   have hx1:=hx k hlt hcs
   have q:=cs[k].toNat_lt
   generalize hb:cs[k]=b at hx1 q
   have hl:=vd cs k
   have hn:=h_ (show jV cs (k+1)=(jV cs k).set (k / 4) (bits BinOp.or IntKind.u32 ((jV cs k).getD (k / 4) 0*256 % 4294967296) (b.toNat:Int)) by rw[jV];simp[hcs,hlt,hb])
   obtain⟨ws,hws⟩:∃ q,q=jV cs k:=⟨_,rfl⟩
   rw[←hws] at hs hl hn
   have d1:=ks hs.bw (k / 4) (by omega)
   have d2:=frozen_of_row wr (W.heap.size+2) (k / 4) _ _ hs.bw
   have HS:=h_ hs
   clear hs hb hx hws hl
   go_wp2
   go_roundw
   case rel =>
    refine⟨k+1,by omega,by go_num,?_⟩
    rw[hn.out]
    have:=HS.out.set (k / 4) (bits BinOp.or IntKind.u32 (ws.getD (k / 4) 0*256 % 4294967296) (b.toNat:Int))
    simpa using this
   case measure=>simp[intOf];omega
  ·obtain rfl:k=64:=by omega
   clear hx
   have hl:=vd cs 64
   obtain⟨ws,hws⟩:∃ q,q=jV cs 64:=⟨_,rfl⟩
   rw[←hws] at hs hl
   have HWS:=h_ hws
   clear hws
   have r1:=xI hs.bw (by rw[xKz,hl]:(encX ws).toArray.size=16)
   have q1:=r1.1
   have q2:=r1.2
   have q3:=hs.br
   have q4:=fitsX hl
   have HS:=h_ hs
   clear r1 hs
   go_wp2
   obtain⟨zs,T,hzs,_⟩:=uz q3
   have hlt2:W.heap.size+2<wr.heap.size:=(i_ HS.out.bw).1
   have r:=xI (setRow_heap wr (W.heap.size+1) zs (encX ws).toArray T (0,0) hzs) (show (encX ws).toArray.size=16 by rw[xKz,hl])
   have hb:=xJ HS.out.bel (show W.heap.size≤W.heap.size+1 by omega) (encX ws).toArray
   refine bodyPost_ret (zM rfl Tryz.isAgg397 Tryz.sizeOf397 _ _ ⟨W.heap.size+1,0,none⟩ (encX ws).toArray rfl ?_ ?_) rfl ⟨by rw[HWS.out],hb⟩
   ·exact r.1
   ·exact r.2
end
section
theorem xWs (xs:List Int)(i:Nat)(h:i<xs.length)(w:World):Sem.run Tryz.prog (part 364 (xs.map fun x=>Value.int .u32 x).toArray i) w=.ok (.int .u32 (xs[i]'h)) w:=by
 simp[part,Tryz.isAgg364,h]
theorem xOh (a b c d e f g i:Int)(k:Nat)(h:k<8)(w:World) :
  Sem.run Tryz.prog (Instr.index 429 (.agg #[.int .u32 a,.int .u32 b,.int .u32 c,.int .u32 d,.int .u32 e,.int .u32 f,.int .u32 g,.int .u32 i]) (.int .i64 k)) w=.ok (.int .u32 ([a,b,c,d,e,f,g,i][k]'h)) w:=by
 have hu:Tryz.prog.underlying 429=some (.array 8 364):=by kernel_rfl
 have hp:=xWs [a,b,c,d,e,f,g,i] k h w
 simp only[Instr.index,asIntOf,Sem.run_bind,Sem.run_pure,Result.andThen_ok,run_underlying hu]
 rw[if_pos ⟨by omega,by omega⟩]
 simp only[Sem.run_bind,Tryz.sizeOf364,Result.andThen_ok,Nat.mul_one,Int.toNat_natCast]
 exact hp
def xLf (v:W8)(k:Nat):Int:=[v.a,v.b,v.c,v.d,v.e,v.f,v.g,v.i].getD k 0
def digB (x:Int)(j:Nat):UInt8:=UInt8.ofNat ((x / 2 ^ (24-8*j)) % 256).toNat
def digL (v:W8):Nat→List UInt8
 | 0=>List.replicate 32 0
 | j+1=>(digL v j).set j (digB (xLf v (j / 4)) (j % 4))
theorem qT (v:W8):∀ j,(digL v j).length=32
 | 0=>by simp[digL]
 | j+1=>by simp[digL,qT v j]
theorem xY3 (x:Int)(j:Nat):((digB x j).toNat:Int)=(x / 2 ^ (24-8*j)) % 256:=by
 unfold digB
 rw[UInt8.toNat_ofNat']
 have h1:0≤(x / 2 ^ (24-8*j)) % 256:=Int.emod_nonneg _ (by decide)
 have h2:(x / 2 ^ (24-8*j)) % 256<256:=Int.emod_lt_of_pos _ (by decide)
 omega
structure DgSt (W0:World)(ds:List UInt8)(W:World):Prop where
 bel:Below W0.heap.size W0 W
 br:xP W (W0.heap.size+1) 32=true
 bw:W.heap[W0.heap.size+2]?=some (.cells (encB ds).toArray 321 (0,0))
theorem DgSt.set {W0:World}{ds:List UInt8}{W:World}(s:DgSt W0 ds W)(i:Nat)(x:UInt8):DgSt W0 (ds.set i x) (W.setCell ⟨W0.heap.size+2,i,none⟩ (.int .u8 x.toNat)):=by
 have ho:∀ k,k≠W0.heap.size+2→(W.setCell ⟨W0.heap.size+2,i,none⟩ (.int .u8 x.toNat)).heap[k]?=W.heap[k]?:=fun k hk=>heap_setCell_other W ⟨W0.heap.size+2,i,none⟩ k _ hk
 refine⟨s.bel.setCell (by simp) _,?_,?_⟩
 ·have:=s.br
  unfold xP at this ⊢
  rw[ho _ (by omega)];exact this
 ·rw[heap_setCell_same W _ i _ _ _ s.bw]
  simp[encB]
theorem xSc (W:World)(cs zs:Array Value)(T:Nat)(hz:zs.size=32) :
  DgSt W (List.replicate 32 0) (((W.alloc (.cells cs T)).alloc (.cells zs 321)).alloc (.cells (encB (List.replicate 32 0)).toArray 321)):=by
 refine⟨(((Below.refl _ _).alloc (Nat.le_refl _) _).alloc (by simp) _).alloc (by simp;omega) _,?_,?_⟩
 ·unfold xP
  simp only[yt,World.size_alloc]
  rw[if_neg (by omega),if_pos trivial]
  simp[hz]
 ·simp only[yt,World.size_alloc]
  rw[if_pos trivial]
attribute [local go_sem ↓] xB4 kU
attribute [local go_sem] xRs xR2 xj xh xe xd xA xz xo xl xt xC xx vU vb
theorem xSb (v:W8)(W:World):Calls Tryz.prog 264 #[.agg (encW v).toArray] W fun e W'=>e=.returned (.agg (encB (digL v 32)).toArray)∧Below W.heap.size W W':=by
 obtain⟨a,b,c,d,e,f,g,i⟩:=v
 obtain⟨v,hv⟩:∃ v,v=W8.mk a b c d e f g i:=⟨_,rfl⟩
 rw[←hv]
 have HV:=h_ hv
 rw[hv]
 clear hv
 have hx:=xOh a b c d e f g i
 unfold encW
 go_enter Tryz.func264,Tryz.ntmps264
 go_wp2
 go_loopw [24] (fun t wr=>∃ k:Nat,k≤8∧t=.int .i64 k∧DgSt W (digL v (4*k)) wr) (fun t _=>8-(intOf t).toNat)
 case atStart=>exact⟨0,by omega,rfl,xSc W _ _ _ rfl⟩
 case round =>
  obtain⟨k,hk,rfl,hs⟩:=hrel
  by_cases hlt:k<8
  ·have a1:(k:Int)<8:=by omega
   have hx1:=hx k hlt
   have hw:xLf v k=[a,b,c,d,e,f,g,i][k]:=by rw[HV.out];simp[xLf,hlt]
   rw[←hw] at hx1
   obtain⟨x,hxx⟩:∃ x,x=xLf v k:=⟨_,rfl⟩
   rw[←hxx] at hx1
   have HX:=h_ hxx
   have HS:=h_ hs
   clear hs hw hx hxx
   go_wp2
   go_loopw [28] (fun t wr=>∃ m:Nat,m≤4∧t=.int .i64 m∧DgSt W (digL v (4*k+m)) wr) (fun t _=>4-(intOf t).toNat)
   case atStart=>exact⟨0,by omega,rfl,HS.out⟩
   case round =>
    obtain⟨m,hm,rfl,hs⟩:=hrel
    by_cases hlt2:m<4
    ·have ds1:=qT v (4*k+m)
     have hn:=h_ (show digL v (4*k+m+1)=(digL v (4*k+m)).set (4*k+m) (digB x m) by rw[digL,HX.out,show (4*k+m) / 4=k by omega,show (4*k+m) % 4=m by omega])
     obtain⟨ds,hds⟩:∃ q,q=digL v (4*k+m):=⟨_,rfl⟩
     rw[←hds] at hs hn ds1
     clear hds
     have d2:=frozen_of_row wr (W.heap.size+2) (4*k+m) _ _ hs.bw
     have d1:wr.cell? ⟨W.heap.size+2,4*k+m,none⟩=some (.int .u8 (ds[4*k+m]'(by omega)).toNat):=by
      rw[cell_of_row _ _ _ _ _ _ hs.bw]
      simp[encB,show 4*k+m<ds.length by omega]
     have hset:=hs.set (4*k+m) (digB x m)
     rw[xY3] at hset
     rw[←hn.out] at hset
     have h4:m=0∨m=1∨m=2∨m=3:=by omega
     have HSET:=h_ hset
     clear hs hset
     rcases h4 with rfl | rfl | rfl | rfl
     ·simp only[Nat.add_zero] at d1 d2
      go_wp2
      go_roundw
      case rel=>exact⟨1,by omega,rfl,by simpa using HSET.out⟩
      case measure=>simp[intOf]
     ·go_wp2
      go_roundw
      case rel=>exact⟨2,by omega,rfl,by simpa using HSET.out⟩
      case measure=>simp[intOf]
     ·go_wp2
      go_roundw
      case rel=>exact⟨3,by omega,rfl,by simpa using HSET.out⟩
      case measure=>simp[intOf]
     ·go_wp2
      go_roundw
      case rel=>exact⟨4,by omega,rfl,by simpa using HSET.out⟩
      case measure=>simp[intOf]
    ·obtain rfl:m=4:=by omega
     have HS2:=h_ hs
     clear hs
     go_wp2
     go_roundw
     case rel=>exact⟨k+1,by omega,by go_num,by have:=HS2.out;rw[show 4*(k+1)=4*k+4 by omega];exact this⟩
     case measure=>simp[intOf];omega
  ·obtain rfl:k=8:=by omega
   clear hx
   have hl:=qT v 32
   obtain⟨ds,hds⟩:∃ q,q=digL v 32:=⟨_,rfl⟩
   rw[show 4*8=32 from rfl,←hds] at hs
   rw[←hds] at hl
   have HDS:=h_ hds
   clear hds
   have r1:=xI hs.bw (by rw[qu,hl]:(encB ds).toArray.size=32)
   have q1:=r1.1
   have q2:=r1.2
   have q3:=hs.br
   have q4:=xI4 hl
   have HS:=h_ hs
   clear r1 hs
   go_wp2
   obtain⟨zs,T,hzs,_⟩:=uz q3
   have r:=xI (setRow_heap wr (W.heap.size+1) zs (encB ds).toArray T (0,0) hzs) (show (encB ds).toArray.size=32 by rw[qu,hl])
   have hb:=xJ HS.out.bel (show W.heap.size≤W.heap.size+1 by omega) (encB ds).toArray
   refine bodyPost_ret (zM rfl Tryz.isAgg321 Tryz.sizeOf321 _ _ ⟨W.heap.size+1,0,none⟩ (encB ds).toArray rfl ?_ ?_) rfl ⟨by rw[HDS.out,HV.out],hb⟩
   ·exact r.1
   ·exact r.2
end
section
theorem kQ (w:World)(lb:Nat)(cs:Array Value):w.grownBy (w.setRow lb cs) (some lb) :=
 ⟨rfl,rfl,rfl,by simp[World.setRow],fun k _ hne=>by
  unfold World.setRow
  simp only[Array.getElem?_modify]
  rw[if_neg (fun e=>hne (by rw[e]))]⟩
theorem xI0 (w:World)(lb j:Nat)(v:Value):w.grownBy (w.setCell ⟨lb,j,none⟩ v) (some lb) :=
 ⟨rfl,rfl,rfl,by simp[World.setCell],fun k _ hne=>heap_setCell_other w ⟨lb,j,none⟩ k v (fun e=>hne (by rw[e]))⟩
theorem zR {a b c:World}{r:Option Nat}(h:a.grownBy b r)(k:b.grownBy c r):a.grownBy c r :=
 ⟨k.os.trans h.os,k.tape.trans h.tape,k.output.trans h.output,Nat.le_trans h.size k.size,fun i hi hne=>(k.block i (Nat.lt_of_lt_of_le hi h.size) hne).trans (h.block i hi hne)⟩
theorem ui {w w':World}(h:Below w.heap.size w w')(r:Option Nat):w.grownBy w' r:=⟨h.os,h.tape,h.output,h.size,fun k hk _=>h.block k hk⟩
theorem xTe (w:World)(r:Option Nat):w.grownBy w r:=⟨rfl,rfl,rfl,Nat.le_refl _,fun _ _ _=>rfl⟩
theorem xI1 {a b:World}{r:Option Nat}(h:a.drew.grownBy b r):a.grownBy b r:=⟨h.os,h.tape,h.output,h.size,h.block⟩
theorem xQi {w W w':World}{B lb:Nat}(h:Below B w W)(hg:W.grownBy w' (some lb))(hB:B≤W.heap.size)(hlb:B≤lb):Below B w w':=h.grown hg hB (fun k e=>by cases e;exact hlb)
theorem xMn {w w':World}{hb:Nat}{a:Addr}{v:Value}(hg:w.grownBy w' (some hb))(hne:a.block≠hb)(h:w.cell? a=some v):w'.cell? a=some v:=by
 have hl:=block_lt_of_cell h
 have hb2:=hg.block a.block hl (fun e=>hne (by cases e;rfl))
 unfold World.cell? at h ⊢
 rw[hb2];exact h
structure HS where
 st:W8
 blk:List UInt8
 n:Nat
def xQ (s:HS):List Value:=encW s.st++(encB s.blk++[.int .i64 s.n])
structure zm (w:World)(hb:Nat)(s:HS):Prop where
 row:w.heap[hb]?=some (.cells (xQ s).toArray 394 (0,0))
 len:s.blk.length=64
theorem uA {s:HS}(h:s.blk.length=64):(xQ s).length=73:=by simp[xQ,xM,encW,h]
theorem zm.lt {w:World}{hb:Nat}{s:HS}(h:zm w hb s):hb<w.heap.size:=(i_ h.row).1
theorem zm.same {w w':World}{hb:Nat}{s:HS}(h:zm w hb s)(e:w'.heap[hb]?=w.heap[hb]?):zm w' hb s:=⟨e.trans h.row,h.len⟩
theorem jr {P:Program}{t n:Nat}(hs:∀ w,Sem.run P (Go.sizeOf t) w=.ok n w)(w:World)(g off:Nat)(cur:List Value)(T:Nat)(hg:w.heap[g]?=some (.cells cur.toArray T (0,0)))(cs:List Value)
  (hn:cs.length=n) (hfit:off+n≤cur.length) (h1:∀ v∈cs,v.oneCell'=true):ym P t w (.pointer (some ⟨g,off,none⟩)) (.agg cs.toArray)=.ok .skip (w.setRow g (cur.take off++cs++cur.drop (off+n)).toArray):=by
 have h:=run_storeCells_at P g off T cs 0 cur.toArray w hg (by simpa[hn] using hfit) h1
 simp only[Nat.add_zero,hn] at h
 unfold ym
 rw[Sem.run_bind]
 have h2:Sem.run P (Instr.storeAt t (.pointer (some ⟨g,off,none⟩)) (.agg cs.toArray)) w=.ok () (w.setRow g (cur.take off++cs++cur.drop (off+n)).toArray):=by
  simp[Instr.storeAt,Instr.sureAddr,storeVar,hs,Value.cells,hn,h]
 rw[h2];rfl
theorem xQ3 (v:W8):∀ x∈encW v,x.oneCell'=true:=by
 intro x hx
 simp only[encW,List.mem_cons,List.not_mem_nil,or_false] at hx
 rcases hx with rfl | rfl | rfl | rfl | rfl | rfl | rfl | rfl <;> rfl
theorem xGj (w:World)(hb:Nat)(s:HS)(v:W8)(h:zm w hb s):ym Tryz.prog 391 w (.pointer (some ⟨hb,0,none⟩)) (.agg (encW v).toArray)=.ok .skip (w.setRow hb (xQ { s with st:=v }).toArray):=by
 have:=jr Tryz.sizeOf391 w hb 0 (xQ s) _ h.row (encW v) rfl (by rw[uA h.len];omega) (xQ3 v)
 rw[this];rfl
theorem zm.setState {w:World}{hb:Nat}{s:HS}(h:zm w hb s)(v:W8):zm (w.setRow hb (xQ { s with st:=v }).toArray) hb { s with st:=v }:=⟨setRow_heap _ _ _ _ _ _ h.row,h.len⟩
theorem xS2 (s:HS)(h:s.blk.length=64)(m:Nat):(xQ s).toArray.setIfInBounds 72 (.int .i64 m)=(xQ { s with n:=m }).toArray:=by
 rw[List.setIfInBounds_toArray]
 congr 1
 unfold xQ
 rw[List.set_append_right _ _ (by simp[encW]),List.set_append_right _ _ (by simp[encW,xM,h])]
 simp[encW,xM,h]
theorem zm.setN {w:World}{hb:Nat}{s:HS}(h:zm w hb s)(m:Nat):zm (w.setCell ⟨hb,72,none⟩ (.int .i64 m)) hb { s with n:=m }:=by
 refine⟨?_,h.len⟩
 rw[heap_setCell_same w hb 72 _ _ _ h.row,xS2 s h.len]
theorem zm.cellN {w:World}{hb:Nat}{s:HS}(h:zm w hb s):w.cell? ⟨hb,72,none⟩=some (.int .i64 s.n):=by
 rw[cell_of_row _ _ _ _ _ _ h.row]
 unfold xQ
 rw[List.getElem?_toArray,List.getElem?_append_right (by simp[encW]),List.getElem?_append_right (by simp[encW,xM,h.len])]
 simp[encW,xM,h.len]
theorem zm.rdState {w:World}{hb:Nat}{s:HS}(h:zm w hb s):xq w ⟨hb,0,none⟩ 8=true∧xp w ⟨hb,0,none⟩ 8=(encW s.st).toArray:=by
 have:=y7 (w:=w) (a:=⟨hb,0,none⟩) (cs:=encW s.st) (fun j v hj=>by
  rw[Addr.add_lit,Nat.zero_add,cell_of_row _ _ _ _ _ _ h.row,List.getElem?_toArray]
  unfold xQ
  have hl:j<(encW s.st).length:=by
   rcases Nat.lt_or_ge j (encW s.st).length with h | h
   ·exact h
   ·rw[List.getElem?_eq_none h] at hj;cases hj
  rw[List.getElem?_append_left hl];exact hj)
 simpa[encW] using this
theorem zm.rdBlk {w:World}{hb:Nat}{s:HS}(h:zm w hb s):xq w ⟨hb,8,none⟩ 64=true∧xp w ⟨hb,8,none⟩ 64=(encB s.blk).toArray:=by
 have:=y7 (w:=w) (a:=⟨hb,8,none⟩) (cs:=encB s.blk) (fun j v hj=>by
  rw[Addr.add_lit,cell_of_row _ _ _ _ _ _ h.row,List.getElem?_toArray]
  unfold xQ
  have hl:j<(encB s.blk).length:=by
   rcases Nat.lt_or_ge j (encB s.blk).length with h | h
   ·exact h
   ·rw[List.getElem?_eq_none h] at hj;cases hj
  rw[List.getElem?_append_right (by simp[encW]),List.getElem?_append_left (by simp[encW];exact hl)]
  simpa[encW] using hj)
 simpa[xM,h.len] using this
def lay (blk:List UInt8)(k:Nat)(cs:List UInt8):List UInt8:=blk.take k++cs++blk.drop (k+cs.length)
theorem kK {blk:List UInt8}{k:Nat}{cs:List UInt8}(h:k+cs.length≤blk.length):(lay blk k cs).length=blk.length:=by
 simp[lay];omega
theorem xPe (s:HS)(h:s.blk.length=64)(k:Nat)(cs:List UInt8)(hf:k+cs.length≤64) :
  (xQ s).take (8+k)++(encB cs++(xQ s).drop (8+k+cs.length))=xQ { s with blk:=lay s.blk k cs }:=by
 unfold xQ lay
 have e8:(encW s.st).length=8:=rfl
 have eb:(encB s.blk).length=64:=by rw[xM,h]
 rw[List.take_append,List.take_of_length_le (by omega),List.take_append,List.drop_append,List.drop_of_length_le (by omega),List.drop_append,e8,eb]
 rw[show 8+k-8=k by omega,show k-64=0 by omega,show 8+k+cs.length-8=k+cs.length by omega,show k+cs.length-64=0 by omega]
 simp[encB,List.append_assoc]
noncomputable def xAl (K:Nat→Int)(st:W8)(blk:List UInt8):W8:=xT6 st (xBu K st (jV blk 64) 64).1
noncomputable def kc (K:Nat→Int)(s:HS)(cs:List UInt8):HS :=
 let m:=min (64-s.n % 64) cs.length
 let blk:=lay s.blk (s.n % 64) (cs.take m)
 ⟨if (s.n+m) % 64=0 then xAl K s.st blk else s.st,blk,s.n+m⟩
noncomputable def wrGo (K:Nat→Int):Nat→HS→List UInt8→HS
 | 0,s,_=>s
 | f+1,s,cs=>if cs.length=0 then s else wrGo K f (kc K s cs) (cs.drop (min (64-s.n % 64) cs.length))
noncomputable def jK (K:Nat→Int)(s:HS)(cs:List UInt8):HS:=wrGo K cs.length (if s.n=0 then { s with st:=xDg } else s) cs
theorem y9 (a:Addr)(j:Nat):(a.add j).block=a.block:=by unfold Addr.add;split <;> rfl
theorem xDw (a:Addr)(m j:Nat):(a.add m).add j=a.add (m+j):=by
 unfold Addr.add
 by_cases hi:m=0 <;> by_cases hj:j=0 <;> simp[hi,hj,Nat.add_assoc]
def xBw:Value→Nat
 | .slice _ n _=>n
 | _=>0
structure SlB (w:World)(a:Addr)(cs:List UInt8):Prop where
 cell:∀ j c,cs[j]?=some c→w.cell? (a.add j)=some (.int .u8 c.toNat)
theorem SlB.keep {w w':World}{a:Addr}{cs:List UInt8}(h:SlB w a cs){hb:Nat}(hg:w.grownBy w' (some hb))(hne:a.block≠hb):SlB w' a cs :=
 ⟨fun j c hj=>xMn hg (by rw[y9];exact hne) (h.cell j c hj)⟩
theorem SlB.drop {w:World}{a:Addr}{cs:List UInt8}(h:SlB w a cs)(m:Nat):SlB w (a.add m) (cs.drop m) :=
 ⟨fun j c hj=>by rw[xDw];exact h.cell (m+j) c (by simpa using hj)⟩
structure WrSt (K:Nat→Int)(R:HS)(W0:World)(hb:Nat)(s:HS)(cs:List UInt8)(a:Addr)(cap:Nat)(f:Nat)(W:World):Prop where
 gr:W0.grownBy W (some hb)
 hash:zm W hb s
 sl:SlB W a cs
 ne:a.block≠hb
 le:cs.length≤cap
 fuel:cs.length≤f
 go:wrGo K f s cs=R
 bound:s.n+cs.length≤4611686018427387904
 k:Sk K W
 gl:2<W0.heap.size
 gh:hb≠2
theorem Sk.grown {K:Nat→Int}{w w':World}(h:Sk K w){hb:Nat}(hg:w.grownBy w' (some hb))(hne:hb≠2):Sk K w' :=
 ⟨fun t ht=>xMn hg (fun e=>hne e.symm) (h.tab t ht)⟩
attribute [local go_sem ↓] jD k8 xFh
attribute [local go_sem] xP6 xX4 xj xh xe xd
theorem xSy (hb k:Nat)(hk:k<64)(w:World):Sem.run Tryz.prog (Instr.sliceAt 392 (.pointer (some ⟨hb,8,none⟩)) (some (.int .i64 (k:Int))) none none) w=.ok (.slice (some ⟨hb,8+k,none⟩) (64-k) (64-k)) w:=by
 have e1:Tryz.prog.arrayLen 392=64:=by kernel_rfl
 have e2:Tryz.prog.elem 392=5:=by kernel_rfl
 rw[run_sliceAt_array_l w 392 ⟨hb,8,none⟩ (by kernel_rfl) .i64 (k:Int) (by omega) (by rw[e1];omega)]
 rw[e1,e2,Tryz.sizeOf5]
 simp only[Result.andThen_ok,slicedAt,Int.toNat_natCast,Nat.mul_one,Addr.add_lit]
 rw[if_neg (by omega)]
theorem xJv (K:Nat→Int)(hb:Nat)(s:HS)(a:Addr)(cs:List UInt8)(cap:Nat)(W:World)(h:zm W hb s)(hs:SlB W a cs)(hne:a.block≠hb)(hcap:cs.length≤cap)(hbd:s.n+cs.length≤4611686018427387904)(hK:Sk K W)(hgh:hb≠2) :
  Calls Tryz.prog 211 #[.pointer (some ⟨hb,0,none⟩),.slice (some a) cs.length cap] W fun e W'=>e=.returned (.int .i64 0)∧W.grownBy W' (some hb)∧zm W' hb (jK K s cs):=by
 have start:∀ W1,W.grownBy W1 (some hb)→zm W1 hb (if s.n=0 then { s with st:=xDg } else s)→WrSt K (jK K s cs) W hb (if s.n=0 then { s with st:=xDg } else s) cs a cap cs.length W1:=fun W1 hg h1 =>
  ⟨hg,h1,hs.keep hg hne,hne,hcap,Nat.le_refl _,rfl,by split <;> exact hbd,hK.grown hg hgh,hK.lt,hgh⟩
 have HST:=h_ start
 have HH:=h_ h
 have c1:=h.cellN
 by_cases h0:s.n=0
 ·have HH0:=h_ h0
  rw[h0] at c1
  clear start h hs h0
  go_enter Tryz.func211,Tryz.ntmps211
  go_wp2_with (go_at_call 261;refine(xX9 _).mono ?_;rintro e w1 ⟨rfl,hb1⟩;have hsr:=xGj w1 hb s xDg (HH.out.same (hb1.block _ HH.out.lt)))
  have hst:=HST.out _ (zR (ui hb1 (some hb)) (kQ w1 hb _)) (by rw[if_pos HH0.out];exact(HH.out.same (hb1.block _ HH.out.lt)).setState xDg)
  generalize w1.setRow hb (xQ { st:=xDg,blk:=s.blk,n:=s.n }).toArray=w2 at hst ⊢
  clear hsr hb1 c1 HST HH HH0 hK hne hcap hbd
  obtain⟨R,hR⟩:∃ R,R=jK K s cs:=⟨_,rfl⟩
  have HR:=h_ hR
  rw[←hR] at hst
  clear hR
  generalize hs0:(if s.n=0 then { s with st:=xDg } else s)=s0 at hst
  clear hs0
  have HST2:=h_ hst
  clear hst
  go_loopw [1] (fun v wr=>∃ s cs a cap f,v=.slice (some a) cs.length cap∧WrSt K R W hb s cs a cap f wr) (fun v _=>xBw v)
  case atStart=>exact⟨s0,cs,a,cap,cs.length,rfl,HST2.out⟩
  case round =>
   obtain⟨s,cs,a,cap,f,rfl,hw⟩:=hrel
   by_cases hz:cs.length=0
   ·have hR2:s=R:=by
     have:=hw.go
     cases f with
     | zero=>exact this
     | succ f=>rw[wrGo,if_pos hz] at this;exact this
    have hz2:(cs.length:Int)=0:=by omega
    have HW:=h_ hw
    have HRR:=h_ hR2
    clear hw hR2
    go_wp2
    go_ret
    exact⟨rfl,HW.out.gr,by rw[←HR.out,←HRR.out];exact HW.out.hash⟩
   ·have hz1:0<cs.length:=by omega
    have hz2:(0:Int)<cs.length:=by omega
    obtain⟨k,hk⟩:∃ k,k=s.n % 64:=⟨_,rfl⟩
    obtain⟨m,hm⟩:∃ m,m=min (64-s.n % 64) cs.length:=⟨_,rfl⟩
    have hk64:k<64:=by omega
    have hm1:0<m:=by omega
    have hm2:m≤cs.length:=by omega
    have hm3:k+m≤64:=by omega
    have hmc:=hw.le
    have hbd:=hw.bound
    have f1:((s.n:Int)).tmod 64=(k:Int):=by rw[Int.tmod_eq_emod_of_nonneg (by omega)];omega
    have d1:=hw.hash.cellN
    have HW:=h_ hw
    have HK:=h_ hk
    have HM:=h_ hm
    clear hw hk hm hz
    have hsl:=xSy hb k hk64
    go_upto_region 6 with (fail)
    refine xw [0,1,2,3,4,5,6,7,8,9] [10,11] (fun w'=>w'=wr.drew) (by kernel_rfl) (by kernel_rfl) (by kernel_rfl) rfl ?_
    simp only[o_]
    repeat (go_big_quiet_step (fail))
    refine wpQuiet_nil ?_
    refine xG [10,11] _ _ (by kernel_rfl) ?_
    simp only[o_]
    clear f1 d1
    have hcl:(encB (cs.take m)).length=m:=by rw[xM,List.length_take];omega
    have HCL:=h_ hcl
    clear hcl
    refine wpList_copy_own rfl (.tmp 28) (.tmp 29) 66 66 rfl 5 Tryz.underlying66 (by kernel_rfl) hb (8+k) (64-k) (64-k) a cs.length cap rfl rfl (xQ s).toArray _ HW.out.hash.row (encB (cs.take m)) ?h1 ?h2 ?h3 ?h4 ?_
    case h1=>rw[HCL.out,HM.out,HK.out];exact(Nat.min_comm _ _)
    case h2 =>
     intro j u hj
     show wr.cell? _=_
     have hl:j<(cs.take m).length:=by
      rcases Nat.lt_or_ge j (cs.take m).length with h | h
      ·exact h
      ·rw[List.getElem?_eq_none (by rw[xM];exact h)] at hj;cases hj
     have hl2:j<m:=by rw[List.length_take] at hl;omega
     simp only[encB,List.getElem?_map,List.getElem?_take_of_lt hl2] at hj
     cases hq:cs[j]? with
     | none=>rw[hq] at hj;cases hj
     | some c =>
      rw[hq] at hj
      simp only[Option.map_some,Option.some.injEq] at hj
      rw[←hj]
      exact HW.out.sl.cell j c hq
    case h3=>rw[HCL.out];simp only[List.size_toArray,uA HW.out.hash.len];omega
    case h4 =>
     intro u hu
     simp only[encB,List.mem_map] at hu
     obtain⟨b,_,rfl⟩:=hu
     rfl
    have HL:=h_ (show ((xQ s).toArray.toList.take (8+k)++(encB (cs.take m)++(xQ s).toArray.toList.drop (8+k+(encB (cs.take m)).length))).toArray=(xQ { s with blk:=lay s.blk k (cs.take m) }).toArray by
     rw[HCL.out]
     have:=xPe s HW.out.hash.len k (cs.take m) (by rw[List.length_take];omega)
     rw[List.length_take,Nat.min_eq_left hm2] at this
     exact congrArg List.toArray this)
    rw[HL.out,HCL.out]
    clear HL
    have hlen2:(lay s.blk k (cs.take m)).length=64:=by rw[kK (by rw[List.length_take,HW.out.hash.len];omega),HW.out.hash.len]
    have hg3:wr.grownBy (wr.drew.setRow hb (xQ { s with blk:=lay s.blk k (cs.take m) }).toArray) (some hb):=xI1 (kQ wr.drew hb _)
    have hh3:zm (wr.drew.setRow hb (xQ { s with blk:=lay s.blk k (cs.take m) }).toArray) hb { s with blk:=lay s.blk k (cs.take m) }:=⟨setRow_heap _ _ _ _ _ _ HW.out.hash.row,hlen2⟩
    obtain⟨blk,hblk⟩:∃ q,q=lay s.blk k (cs.take m):=⟨_,rfl⟩
    rw[←hblk] at hg3 hh3 hlen2 ⊢
    generalize wr.drew.setRow hb (xQ { s with blk:=blk }).toArray=w3 at hg3 hh3 ⊢
    have c3:=hh3.cellN
    have d3:=frozen_of_row w3 hb 72 _ _ hh3.row
    have HBLK:=h_ hblk
    have HG3:=h_ hg3
    have HH3:=h_ hh3
    clear hblk hg3 hh3 hlen2 HCL
    have hm2z:(m:Int)≤cs.length:=by omega
    have hmcz:(m:Int)≤cap:=by omega
    unfold goInt
    go_wp2
    refine NoPanic.normal ?_
    go_upto_region 9 with (fail)
    clear hsl c3 d3 hm2z hmcz
    have hh4:=HH3.out.setN (s.n+m)
    have e4:((s.n+m:Nat):Int)=(s.n:Int)+m:=by omega
    rw[e4] at hh4
    have hg4:=zR HG3.out (xI0 w3 hb 72 (.int .i64 ((s.n:Int)+m)))
    generalize w3.setCell ⟨hb,72,none⟩ (.int .i64 ((s.n:Int)+m))=w4 at hh4 hg4 ⊢
    obtain⟨a2,ha2,hb2,hs2⟩:∃ a2,(if cap=m then some a else some (a.add m))=some a2∧a2.block=a.block∧SlB wr a2 (cs.drop m):=by
     by_cases hcm:cap=m
     ·refine⟨a,if_pos hcm,rfl,⟨fun j c hj=>?_⟩⟩
      rw[List.drop_eq_nil_of_le (by omega)] at hj
      cases hj
     ·exact⟨a.add m,if_neg hcm,y9 _ _,HW.out.sl.drop m⟩
    rw[ha2]
    have hs4:=hs2.keep hg4 (by rw[hb2];exact HW.out.ne)
    have c4:=hh4.cellN
    rw[e4] at c4
    have hfuel:∃ f2,f=f2+1:=⟨f-1,by have:=HW.out.fuel;omega⟩
    obtain⟨f2,rfl⟩:=hfuel
    have hgo:=HW.out.go
    rw[wrGo,if_neg (by omega),←HM.out] at hgo
    have hwr:WrSt K R W hb s cs a cap (f2+1) wr:=HW.out
    have fin:∀ w5 s5,wr.grownBy w5 (some hb)→zm w5 hb s5→s5=kc K s cs→SlB w5 a2 (cs.drop m)→WrSt K R W hb s5 (cs.drop m) a2 (cap-m) f2 w5:=fun w5 s5 hg hh he hsl=>by
     refine⟨zR hwr.gr hg,hh,hsl,by rw[hb2];exact hwr.ne,by rw[List.length_drop];omega,by rw[List.length_drop];have:=hwr.fuel;omega,by rw[he];exact hgo,?_,hwr.k.grown hg hwr.gh,hwr.gl,hwr.gh⟩
     have:s5.n=s.n+m:=by rw[he,kc,HM.out]
     rw[this,List.length_drop];omega
    have FIN:=h_ fin
    have hst4:s.n % 64=k:=HK.out.symm
    have hws:∀ st,(if (s.n+m) % 64=0 then xAl K s.st blk else s.st)=st→(⟨st,blk,s.n+m⟩:HS)=kc K s cs:=fun st h=>by
     have hm':min (64-k) cs.length=m:=by rw[HM.out,hst4]
     rw[kc];simp only[hst4,hm',←HBLK.out];rw[h]
    have HWS:=h_ hws
    have HS4:=h_ hs4
    have HH4:=h_ hh4
    have HG4:=h_ hg4
    have hnb:(s.n:Int)+m≤4611686018427387904:=by omega
    have hrl:(((cs.drop m).length:Nat))=cs.length-m:=by rw[List.length_drop]
    have HRL:=h_ hrl
    clear hh4 hg4 ha2 hs2 hs4 hgo hwr fin hst4 hws hrl e4
    by_cases hz:(s.n+m) % 64=0
    ·have f2':((s.n:Int)+m).tmod 64=0:=by rw[Int.tmod_eq_emod_of_nonneg (by omega)];omega
     have HZ:=h_ hz
     clear hz
     go_upto_region 10 with (fail)
     clear f2' c4
     have q1:∀ z:xf w4,xq z.1 ⟨hb,0,none⟩ 8=true:=fun z=>(HH4.out.same (z.2.block _ HH4.out.lt)).rdState.1
     have q2:∀ z:xf w4,xp z.1 ⟨hb,0,none⟩ 8=(encW s.st).toArray:=fun z=>(HH4.out.same (z.2.block _ HH4.out.lt)).rdState.2
     have q3:∀ z:xf w4,xq z.1 ⟨hb,8,none⟩ 64=true:=fun z=>(HH4.out.same (z.2.block _ HH4.out.lt)).rdBlk.1
     have q4:∀ z:xf w4,xp z.1 ⟨hb,8,none⟩ 64=(encB blk).toArray:=fun z=>(HH4.out.same (z.2.block _ HH4.out.lt)).rdBlk.2
     refine xw [0,1,2,3,4,5,6,7,8] [9,10,11,12,13] (fun w'=>∃ z:xf w4,w'=z.1) (by kernel_rfl) (by kernel_rfl) (by kernel_rfl) ⟨⟨_,(Below.refl _ _).drew⟩,rfl⟩ ?_
     simp only[o_]
     repeat (go_big_quiet_step (fail))
     refine wpQuiet_nil ?_
     clear q1 q2 q3 q4
     refine uw true rfl (by kernel_rfl) ?_
     go_wp2_with (go_at_call 263;refine(xP1 _ HH4.out.len _).mono ?_;rintro e w5 ⟨rfl,hb5⟩)
     refine⟨fun _=>⟨⟨w5,(Below.refl w4.heap.size w4).drew.trans hb5⟩,rfl⟩,?_⟩
     refine uw true rfl (by kernel_rfl) ?_
     have hk5:Sk K w5:=((HW.out.k.grown HG4.out HW.out.gh).below (Below.refl w4.heap.size _).drew (Nat.le_refl _)).below hb5 (Nat.le_refl _)
     have HK5:=h_ hk5
     have HB5:=h_ hb5
     clear hk5 hb5
     go_wp2_with (go_at_call 262;refine(xF5 K _ _ (vd _ _) _ HK5.out).mono ?_;rintro e w6 ⟨rfl,hb6⟩)
     have hb46:Below w4.heap.size w4 w6:=((Below.refl w4.heap.size w4).drew.trans HB5.out).trans (hb6.mono HB5.out.size)
     refine⟨fun _=>⟨⟨w6,hb46⟩,rfl⟩,xG [11,12,13] _ _ (by kernel_rfl) ?_⟩
     simp only[o_]
     have hh6:=HH4.out.same (hb46.block _ HH4.out.lt)
     have hst6:=xGj w6 hb _ (xAl K s.st blk) hh6
     have hh7:=hh6.setState (xAl K s.st blk)
     have hg7:=zR HG4.out (zR (ui hb46 (some hb)) (kQ w6 hb (xQ { st:=xAl K s.st blk,blk:=blk,n:=s.n+m }).toArray))
     have hnx:=FIN.out _ _ hg7 hh7 (HWS.out _ (if_pos HZ.out)) (HS4.out.keep (zR (ui hb46 (some hb)) (kQ w6 hb _)) (by rw[hb2];exact HW.out.ne))
     have HNX:=h_ hnx
     unfold xAl at hst6
     clear hh6 hh7 hg7 hb46 hb6 hnx
     go_wp2
     refine NoPanic.normal ?_
     clear hst6
     go_wp2
     go_roundw
     case rel=>exact⟨_,cs.drop m,a2,cap-m,f2,by rw[HRL.out],HNX.out⟩
     case measure=>simp[xBw];omega
    ·obtain⟨r,hr⟩:∃ r:Nat,r=(s.n+m) % 64:=⟨_,rfl⟩
     have f2':((s.n:Int)+m).tmod 64=(r:Int):=by rw[Int.tmod_eq_emod_of_nonneg (by omega)];omega
     have f3':((r:Int) == 0)=false:=by rw[beq_eq_false_iff_ne];omega
     have HZ:=h_ hz
     clear hz hr
     go_wp2
     clear f2' f3' c4
     go_roundw
     case rel=>exact⟨_,cs.drop m,a2,cap-m,f2,by rw[HRL.out],FIN.out _ _ HG4.out HH4.out (HWS.out _ (if_neg HZ.out)) HS4.out⟩
     case measure=>simp[xBw];omega
 ·have HH0:=h_ h0
  have h0b:((s.n:Int) == 0)=false:=by rw[beq_eq_false_iff_ne];omega
  clear start h hs h0
  go_enter Tryz.func211,Tryz.ntmps211
  go_wp2
  have hst:=HST.out W (xTe W _) (by rw[if_neg HH0.out];exact HH.out)
  clear c1 h0b HST HH HH0 hK hne hcap hbd
  obtain⟨R,hR⟩:∃ R,R=jK K s cs:=⟨_,rfl⟩
  have HR:=h_ hR
  rw[←hR] at hst
  clear hR
  generalize hs0:(if s.n=0 then { s with st:=xDg } else s)=s0 at hst
  clear hs0
  have HST2:=h_ hst
  clear hst
  go_loopw [1] (fun v wr=>∃ s cs a cap f,v=.slice (some a) cs.length cap∧WrSt K R W hb s cs a cap f wr) (fun v _=>xBw v)
  case atStart=>exact⟨s0,cs,a,cap,cs.length,rfl,HST2.out⟩
  case round =>
   obtain⟨s,cs,a,cap,f,rfl,hw⟩:=hrel
   by_cases hz:cs.length=0
   ·have hR2:s=R:=by
     have:=hw.go
     cases f with
     | zero=>exact this
     | succ f=>rw[wrGo,if_pos hz] at this;exact this
    have hz2:(cs.length:Int)=0:=by omega
    have HW:=h_ hw
    have HRR:=h_ hR2
    clear hw hR2
    go_wp2
    go_ret
    exact⟨rfl,HW.out.gr,by rw[←HR.out,←HRR.out];exact HW.out.hash⟩
   ·have hz1:0<cs.length:=by omega
    have hz2:(0:Int)<cs.length:=by omega
    obtain⟨k,hk⟩:∃ k,k=s.n % 64:=⟨_,rfl⟩
    obtain⟨m,hm⟩:∃ m,m=min (64-s.n % 64) cs.length:=⟨_,rfl⟩
    have hk64:k<64:=by omega
    have hm1:0<m:=by omega
    have hm2:m≤cs.length:=by omega
    have hm3:k+m≤64:=by omega
    have hmc:=hw.le
    have hbd:=hw.bound
    have f1:((s.n:Int)).tmod 64=(k:Int):=by rw[Int.tmod_eq_emod_of_nonneg (by omega)];omega
    have d1:=hw.hash.cellN
    have HW:=h_ hw
    have HK:=h_ hk
    have HM:=h_ hm
    clear hw hk hm hz
    have hsl:=xSy hb k hk64
    go_upto_region 6 with (fail)
    refine xw [0,1,2,3,4,5,6,7,8,9] [10,11] (fun w'=>w'=wr.drew) (by kernel_rfl) (by kernel_rfl) (by kernel_rfl) rfl ?_
    simp only[o_]
    repeat (go_big_quiet_step (fail))
    refine wpQuiet_nil ?_
    refine xG [10,11] _ _ (by kernel_rfl) ?_
    simp only[o_]
    clear f1 d1
    have hcl:(encB (cs.take m)).length=m:=by rw[xM,List.length_take];omega
    have HCL:=h_ hcl
    clear hcl
    refine wpList_copy_own rfl (.tmp 28) (.tmp 29) 66 66 rfl 5 Tryz.underlying66 (by kernel_rfl) hb (8+k) (64-k) (64-k) a cs.length cap rfl rfl (xQ s).toArray _ HW.out.hash.row (encB (cs.take m)) ?h1 ?h2 ?h3 ?h4 ?_
    case h1=>rw[HCL.out,HM.out,HK.out];exact(Nat.min_comm _ _)
    case h2 =>
     intro j u hj
     show wr.cell? _=_
     have hl:j<(cs.take m).length:=by
      rcases Nat.lt_or_ge j (cs.take m).length with h | h
      ·exact h
      ·rw[List.getElem?_eq_none (by rw[xM];exact h)] at hj;cases hj
     have hl2:j<m:=by rw[List.length_take] at hl;omega
     simp only[encB,List.getElem?_map,List.getElem?_take_of_lt hl2] at hj
     cases hq:cs[j]? with
     | none=>rw[hq] at hj;cases hj
     | some c =>
      rw[hq] at hj
      simp only[Option.map_some,Option.some.injEq] at hj
      rw[←hj]
      exact HW.out.sl.cell j c hq
    case h3=>rw[HCL.out];simp only[List.size_toArray,uA HW.out.hash.len];omega
    case h4 =>
     intro u hu
     simp only[encB,List.mem_map] at hu
     obtain⟨b,_,rfl⟩:=hu
     rfl
    have HL:=h_ (show ((xQ s).toArray.toList.take (8+k)++(encB (cs.take m)++(xQ s).toArray.toList.drop (8+k+(encB (cs.take m)).length))).toArray=(xQ { s with blk:=lay s.blk k (cs.take m) }).toArray by
     rw[HCL.out]
     have:=xPe s HW.out.hash.len k (cs.take m) (by rw[List.length_take];omega)
     rw[List.length_take,Nat.min_eq_left hm2] at this
     exact congrArg List.toArray this)
    rw[HL.out,HCL.out]
    clear HL
    have hlen2:(lay s.blk k (cs.take m)).length=64:=by rw[kK (by rw[List.length_take,HW.out.hash.len];omega),HW.out.hash.len]
    have hg3:wr.grownBy (wr.drew.setRow hb (xQ { s with blk:=lay s.blk k (cs.take m) }).toArray) (some hb):=xI1 (kQ wr.drew hb _)
    have hh3:zm (wr.drew.setRow hb (xQ { s with blk:=lay s.blk k (cs.take m) }).toArray) hb { s with blk:=lay s.blk k (cs.take m) }:=⟨setRow_heap _ _ _ _ _ _ HW.out.hash.row,hlen2⟩
    obtain⟨blk,hblk⟩:∃ q,q=lay s.blk k (cs.take m):=⟨_,rfl⟩
    rw[←hblk] at hg3 hh3 hlen2 ⊢
    generalize wr.drew.setRow hb (xQ { s with blk:=blk }).toArray=w3 at hg3 hh3 ⊢
    have c3:=hh3.cellN
    have d3:=frozen_of_row w3 hb 72 _ _ hh3.row
    have HBLK:=h_ hblk
    have HG3:=h_ hg3
    have HH3:=h_ hh3
    clear hblk hg3 hh3 hlen2 HCL
    have hm2z:(m:Int)≤cs.length:=by omega
    have hmcz:(m:Int)≤cap:=by omega
    unfold goInt
    go_wp2
    refine NoPanic.normal ?_
    go_upto_region 9 with (fail)
    clear hsl c3 d3 hm2z hmcz
    have hh4:=HH3.out.setN (s.n+m)
    have e4:((s.n+m:Nat):Int)=(s.n:Int)+m:=by omega
    rw[e4] at hh4
    have hg4:=zR HG3.out (xI0 w3 hb 72 (.int .i64 ((s.n:Int)+m)))
    generalize w3.setCell ⟨hb,72,none⟩ (.int .i64 ((s.n:Int)+m))=w4 at hh4 hg4 ⊢
    obtain⟨a2,ha2,hb2,hs2⟩:∃ a2,(if cap=m then some a else some (a.add m))=some a2∧a2.block=a.block∧SlB wr a2 (cs.drop m):=by
     by_cases hcm:cap=m
     ·refine⟨a,if_pos hcm,rfl,⟨fun j c hj=>?_⟩⟩
      rw[List.drop_eq_nil_of_le (by omega)] at hj
      cases hj
     ·exact⟨a.add m,if_neg hcm,y9 _ _,HW.out.sl.drop m⟩
    rw[ha2]
    have hs4:=hs2.keep hg4 (by rw[hb2];exact HW.out.ne)
    have c4:=hh4.cellN
    rw[e4] at c4
    have hfuel:∃ f2,f=f2+1:=⟨f-1,by have:=HW.out.fuel;omega⟩
    obtain⟨f2,rfl⟩:=hfuel
    have hgo:=HW.out.go
    rw[wrGo,if_neg (by omega),←HM.out] at hgo
    have hwr:WrSt K R W hb s cs a cap (f2+1) wr:=HW.out
    have fin:∀ w5 s5,wr.grownBy w5 (some hb)→zm w5 hb s5→s5=kc K s cs→SlB w5 a2 (cs.drop m)→WrSt K R W hb s5 (cs.drop m) a2 (cap-m) f2 w5:=fun w5 s5 hg hh he hsl=>by
     refine⟨zR hwr.gr hg,hh,hsl,by rw[hb2];exact hwr.ne,by rw[List.length_drop];omega,by rw[List.length_drop];have:=hwr.fuel;omega,by rw[he];exact hgo,?_,hwr.k.grown hg hwr.gh,hwr.gl,hwr.gh⟩
     have:s5.n=s.n+m:=by rw[he,kc,HM.out]
     rw[this,List.length_drop];omega
    have FIN:=h_ fin
    have hst4:s.n % 64=k:=HK.out.symm
    have hws:∀ st,(if (s.n+m) % 64=0 then xAl K s.st blk else s.st)=st→(⟨st,blk,s.n+m⟩:HS)=kc K s cs:=fun st h=>by
     have hm':min (64-k) cs.length=m:=by rw[HM.out,hst4]
     rw[kc];simp only[hst4,hm',←HBLK.out];rw[h]
    have HWS:=h_ hws
    have HS4:=h_ hs4
    have HH4:=h_ hh4
    have HG4:=h_ hg4
    have hnb:(s.n:Int)+m≤4611686018427387904:=by omega
    have hrl:(((cs.drop m).length:Nat))=cs.length-m:=by rw[List.length_drop]
    have HRL:=h_ hrl
    clear hh4 hg4 ha2 hs2 hs4 hgo hwr fin hst4 hws hrl e4
    by_cases hz:(s.n+m) % 64=0
    ·have f2':((s.n:Int)+m).tmod 64=0:=by rw[Int.tmod_eq_emod_of_nonneg (by omega)];omega
     have HZ:=h_ hz
     clear hz
     go_upto_region 10 with (fail)
     clear f2' c4
     have q1:∀ z:xf w4,xq z.1 ⟨hb,0,none⟩ 8=true:=fun z=>(HH4.out.same (z.2.block _ HH4.out.lt)).rdState.1
     have q2:∀ z:xf w4,xp z.1 ⟨hb,0,none⟩ 8=(encW s.st).toArray:=fun z=>(HH4.out.same (z.2.block _ HH4.out.lt)).rdState.2
     have q3:∀ z:xf w4,xq z.1 ⟨hb,8,none⟩ 64=true:=fun z=>(HH4.out.same (z.2.block _ HH4.out.lt)).rdBlk.1
     have q4:∀ z:xf w4,xp z.1 ⟨hb,8,none⟩ 64=(encB blk).toArray:=fun z=>(HH4.out.same (z.2.block _ HH4.out.lt)).rdBlk.2
     refine xw [0,1,2,3,4,5,6,7,8] [9,10,11,12,13] (fun w'=>∃ z:xf w4,w'=z.1) (by kernel_rfl) (by kernel_rfl) (by kernel_rfl) ⟨⟨_,(Below.refl _ _).drew⟩,rfl⟩ ?_
     simp only[o_]
     repeat (go_big_quiet_step (fail))
     refine wpQuiet_nil ?_
     clear q1 q2 q3 q4
     refine uw true rfl (by kernel_rfl) ?_
     go_wp2_with (go_at_call 263;refine(xP1 _ HH4.out.len _).mono ?_;rintro e w5 ⟨rfl,hb5⟩)
     refine⟨fun _=>⟨⟨w5,(Below.refl w4.heap.size w4).drew.trans hb5⟩,rfl⟩,?_⟩
     refine uw true rfl (by kernel_rfl) ?_
     have hk5:Sk K w5:=((HW.out.k.grown HG4.out HW.out.gh).below (Below.refl w4.heap.size _).drew (Nat.le_refl _)).below hb5 (Nat.le_refl _)
     have HK5:=h_ hk5
     have HB5:=h_ hb5
     clear hk5 hb5
     go_wp2_with (go_at_call 262;refine(xF5 K _ _ (vd _ _) _ HK5.out).mono ?_;rintro e w6 ⟨rfl,hb6⟩)
     have hb46:Below w4.heap.size w4 w6:=((Below.refl w4.heap.size w4).drew.trans HB5.out).trans (hb6.mono HB5.out.size)
     refine⟨fun _=>⟨⟨w6,hb46⟩,rfl⟩,xG [11,12,13] _ _ (by kernel_rfl) ?_⟩
     simp only[o_]
     have hh6:=HH4.out.same (hb46.block _ HH4.out.lt)
     have hst6:=xGj w6 hb _ (xAl K s.st blk) hh6
     have hh7:=hh6.setState (xAl K s.st blk)
     have hg7:=zR HG4.out (zR (ui hb46 (some hb)) (kQ w6 hb (xQ { st:=xAl K s.st blk,blk:=blk,n:=s.n+m }).toArray))
     have hnx:=FIN.out _ _ hg7 hh7 (HWS.out _ (if_pos HZ.out)) (HS4.out.keep (zR (ui hb46 (some hb)) (kQ w6 hb _)) (by rw[hb2];exact HW.out.ne))
     have HNX:=h_ hnx
     unfold xAl at hst6
     clear hh6 hh7 hg7 hb46 hb6 hnx
     go_wp2
     refine NoPanic.normal ?_
     clear hst6
     go_wp2
     go_roundw
     case rel=>exact⟨_,cs.drop m,a2,cap-m,f2,by rw[HRL.out],HNX.out⟩
     case measure=>simp[xBw];omega
    ·obtain⟨r,hr⟩:∃ r:Nat,r=(s.n+m) % 64:=⟨_,rfl⟩
     have f2':((s.n:Int)+m).tmod 64=(r:Int):=by rw[Int.tmod_eq_emod_of_nonneg (by omega)];omega
     have f3':((r:Int) == 0)=false:=by rw[beq_eq_false_iff_ne];omega
     have HZ:=h_ hz
     clear hz hr
     go_wp2
     clear f2' f3' c4
     go_roundw
     case rel=>exact⟨_,cs.drop m,a2,cap-m,f2,by rw[HRL.out],FIN.out _ _ HG4.out HH4.out (HWS.out _ (if_neg HZ.out)) HS4.out⟩
     case measure=>simp[xBw];omega
end
theorem xFk (l r:List UInt8):encB (l++r)=encB l++encB r:=by simp[encB]
theorem vr (l:List UInt8)(j:Nat)(h:j<l.length):(encB l)[j]?=some (.int .u8 (l[j]'h).toNat):=by simp[encB,h]
theorem uk (l:List UInt8):∀ v∈encB l,v.oneCell'=true:=by
 intro v hv
 simp only[encB,List.mem_map] at hv
 obtain⟨b,_,rfl⟩:=hv
 rfl
def OwnB (w:World)(B:Nat)(v:Value)(l:List UInt8):Prop:=w.ownsRow B 5 1 v l.length (encB l)
theorem Tryz.info_byte:(Tryz.prog.info? 5).map (fun i=>(i.zero,i.size,i.bytes))=some (some (.int .u8 0),1,1):=by kernel_rfl
theorem OwnB.grown {w w':World}{B:Nat}{v:Value}{l:List UInt8}(h:OwnB w B v l){r:Option Nat}(hg:w.grownBy w' r)(hr:∀ k,r=some k→v.ownBlock≠some k):OwnB w' B v l :=
 World.ownsRow.kept (row:=r) h hg (by
  cases hv:v.ownBlock with
  | none=>simp
  | some b =>
   right
   intro e
   exact hr b e.symm hv)
theorem OwnB.below {w w':World}{B:Nat}{v:Value}{l:List UInt8}(h:OwnB w B v l)(hb:Below w.heap.size w w'):OwnB w' B v l :=
 h.grown (ui hb none) (fun k e=>by cases e)
theorem OwnB.nil (w:World)(B:Nat):OwnB w B (.slice none 0 0) []:=World.ownsRow_nil _ _ _ _
theorem OwnB.lt {w:World}{B:Nat}{v:Value}{l:List UInt8}(h:OwnB w B v l){k:Nat}(hk:v.ownBlock=some k):B≤k∧k<w.heap.size:=World.ownsRow.lt h k hk
theorem OwnB.base {w:World}{B B':Nat}{v:Value}{l:List UInt8}(h:OwnB w B v l)(hb:B'≤B):OwnB w B' v l :=
 ⟨h.1,h.2.imp (fun h=>h) fun⟨g,cap,cur,hv,hg,r⟩=>⟨g,cap,cur,hv,Nat.le_trans hb hg,r⟩⟩
theorem OwnB.at {w:World}{B:Nat}{v:Value}{l:List UInt8}(h:OwnB w B v l):(v=.slice none 0 0∧l=[])∨∃ g cap,v=.slice (some ⟨g,0,none⟩) l.length cap∧B≤g∧l.length≤cap∧cap≤maxLen∧SlB w ⟨g,0,none⟩ l:=by
 rcases h.2 with⟨hv,h0⟩ | ⟨g,cap,cur,hv,hg,hcur,hle,hmx,hcs,htk⟩
 ·exact .inl ⟨hv,List.eq_nil_of_length_eq_zero h0⟩
 ·refine .inr ⟨g,cap,hv,hg,hle,hmx,⟨fun j c hj=>?_⟩⟩
  have hj2:j<l.length:=by
   rcases Nat.lt_or_ge j l.length with h | h
   ·exact h
   ·rw[List.getElem?_eq_none h] at hj;cases hj
  subst hv
  have:=World.ownsRow.cellAt h j (by omega)
  rw[Addr.add_lit,Nat.zero_add,this,vr l j hj2]
  rw[List.getElem?_eq_getElem hj2] at hj
  cases hj;rfl
theorem OwnB.new (w:World)(B:Nat)(l:List UInt8)(hB:B≤w.heap.size)(hl:l.length≤maxLen):OwnB (w.alloc (.cells (encB l).toArray 5)) B (.slice (some ⟨w.heap.size,0,none⟩) l.length l.length) l :=
 ⟨by rw[xM,Nat.mul_one],.inr ⟨w.heap.size,l.length,(encB l).toArray,rfl,hB,heap_alloc_new w _,Nat.le_refl _,hl,by rw[qu,Nat.mul_one],by rw[Nat.mul_one];simp[List.take_of_length_le (show (encB l).length≤l.length by rw[xM];omega)]⟩⟩
theorem zu {rest:List Oper}{ops:Array Oper}{o:Oper}{a:Act}{Q:Exit→Act→World→Prop}{w:World}(hgd:o.guard=none)(s x:Operand)
  (ho:o.op=.call { callee:=.builtin .append,args:=#[s,x],argTypes:=#[66,66] }) (B:Nat) (v:Value) (l:List UInt8) (hs:a.eval s=v) (hown:OwnB w B v l)
  (ad:Addr) (r:List UInt8) (c:Nat) (hx:a.eval x=.slice (some ad) r.length c) (hr:SlB w ad r) (hlen:l.length+r.length≤1000000000000) (hB:B≤w.heap.size)
  (h:∀ v' w',OwnB w' B v' (l++r)→w.grownBy w' v.ownBlock→(v'=.slice none 0 0↔v=.slice none 0 0∧r.length=0)→wpList Tryz.prog ops Q rest (a.put o.dst v') w'):wpList Tryz.prog ops Q (o :: rest) a w:=by
 obtain⟨i0,hi,hz0,hz1,hz2⟩:=info_parts Tryz.info_byte
 refine wpList_append_own w hgd s x 66 ho B 5 i0 (.int .u8 0) 1 1 Tryz.underlying66 hi hz0 hz1 hz2 rfl (by decide) v l.length (encB l) hs hown ad r.length c (encB r) hx (by rw[xM,Nat.mul_one]) (fun j u hj=>?_) (uk r) (by unfold maxLen;omega) (by omega) hB fun v' w' h1 h2 h3=>?_
 ·have hj2:j<r.length:=by
   rcases Nat.lt_or_ge j r.length with h | h
   ·exact h
   ·rw[List.getElem?_eq_none (by rw[xM];exact h)] at hj;cases hj
  rw[vr r j hj2] at hj
  cases hj
  exact hr.cell j _ (List.getElem?_eq_getElem hj2)
 ·refine h v' w' ?_ h2 h3
  unfold OwnB
  rw[xFk,List.length_append]
  exact h1
section
def zeroW:W8:=⟨0,0,0,0,0,0,0,0⟩
def vA:HS:=⟨zeroW,List.replicate 64 0,0⟩
theorem xXi (w:World):zm (w.alloc (.cells (xQ vA).toArray 394)) w.heap.size vA:=⟨heap_alloc_new w _,by simp[vA]⟩
theorem xC6 (ρ:Operand→Value)(d:Option Tmp)(ty:TypeId)(pos:String)(af:Array Edge)(g:Option (Nat × Bool))(w:World) :
  Sem.run Tryz.prog (execOp ρ ⟨d,.alloc 394,ty,pos,af,g⟩) w=.ok (.value (.pointer (some ⟨w.heap.size,0,none⟩))) (w.alloc (.cells (xQ vA).toArray 394)):=by kernel_rfl
theorem xXd (W:World):Calls Tryz.prog 210 #[] W fun e W'=>e=.returned (.pointer (some ⟨W.heap.size,0,none⟩))∧W'=W.alloc (.cells (xQ vA).toArray 394):=by
 go_enter Tryz.func210,Tryz.ntmps210
 go_wp2_with (simp only[xC6])
 go_ret
 exact⟨rfl,rfl⟩
def padZ (n:Nat):Nat:=(119-n % 64) % 64
def cntB (c k:Nat):UInt8:=UInt8.ofNat (c / 2 ^ (56-8*k))
theorem xY7 (c k:Nat):((cntB c k).toNat:Int)=(c:Int) / 2 ^ (56-8*k) % 256:=by
 unfold cntB
 rw[UInt8.toNat_ofNat']
 simp
def padL (n:Nat)(k:Nat):List UInt8:=128 :: (List.replicate (padZ n) 0++(List.range k).map (cntB (8*n)))
theorem xOs (n k:Nat):(padL n k).length=1+padZ n+k:=by simp[padL];omega
theorem xUi (n k:Nat):padL n (k+1)=padL n k++[cntB (8*n) k]:=by simp[padL,List.range_succ]
noncomputable def sumF (K:Nat→Int)(s:HS):List UInt8:=digL (jK K s (padL s.n 8)).st 32
attribute [local go_sem ↓] jD xB4 kU xMw xJk
attribute [local go_sem] xP6 xRs xR2 xZ6 xYu xj xh xe xd xA xz xo xl xt xC xx
structure xA7 (W0:World)(v:Value)(l:List UInt8)(W:World):Prop where
 own:OwnB W (W0.heap.size+1) v l
 bel:Below W0.heap.size W0 W
 ro:xP W W0.heap.size 32=true
 ne:l≠[]
theorem xA7.at {W0:World}{v:Value}{l:List UInt8}{W:World}(h:xA7 W0 v l W):∃ g cap,v=.slice (some ⟨g,0,none⟩) l.length cap∧W0.heap.size+1≤g∧l.length≤cap∧cap≤maxLen∧SlB W ⟨g,0,none⟩ l:=by
 rcases h.own.at with⟨_,h0⟩ | h1
 ·exact absurd h0 h.ne
 ·exact h1
theorem xA7.later {W0:World}{v:Value}{l:List UInt8}{W W':World}(h:xA7 W0 v l W)(hb:Below W.heap.size W W'):xA7 W0 v l W':=by
 have hl:W0.heap.size<W.heap.size:=by
  obtain⟨c,T,hc,_⟩:=uz h.ro
  exact(i_ hc).1
 refine⟨h.own.below hb,h.bel.trans (hb.mono h.bel.size),?_,h.ne⟩
 have:=h.ro
 unfold xP at this ⊢
 rw[hb.block _ hl];exact this
theorem xA7.app {W0:World}{v v':Value}{l r:List UInt8}{W W':World}(h:xA7 W0 v l W)(ho:OwnB W' (W0.heap.size+1) v' (l++r))(hg:W.grownBy W' v.ownBlock):xA7 W0 v' (l++r) W':=by
 have hl:W0.heap.size<W.heap.size:=by
  obtain⟨c,T,hc,_⟩:=uz h.ro
  exact(i_ hc).1
 have hk:∀ k,v.ownBlock=some k→W0.heap.size+1≤k:=fun k e=>(h.own.lt e).1
 refine⟨ho,h.bel.grown hg h.bel.size (fun k e=>by have:=hk k e;omega),?_,by simp[h.ne]⟩
 have:=h.ro
 unfold xP at this ⊢
 rw[hg.block _ hl (fun e=>by have:=hk _ e.symm;omega)];exact this
theorem xOr (W:World)(zs:Array Value)(hz:zs.size=32):xA7 W (.slice (some ⟨W.heap.size+1,0,none⟩) 1 1) (128 :: List.replicate 0 0) ((W.alloc (.cells zs 321)).alloc (.cells #[.int .u8 128] 5)):=by
 have h1:=OwnB.new (W.alloc (.cells zs 321)) (W.heap.size+1) [128] (by simp) (by unfold maxLen;simp)
 rw[World.size_alloc] at h1
 exact⟨h1,((Below.refl _ _).alloc (Nat.le_refl _) _).alloc (by simp) _,qa _ (u9 _ _ _ _ _ rfl hz),by simp⟩
theorem vK (w:World)(T:Nat)(l:List UInt8):SlB (w.alloc (.cells (encB l).toArray T)) ⟨w.heap.size,0,none⟩ l :=
 ⟨fun j c hj=>by
  have hl:j<l.length:=by
   rcases Nat.lt_or_ge j l.length with h | h
   ·exact h
   ·rw[List.getElem?_eq_none h] at hj;cases hj
  rw[Addr.add_lit,Nat.zero_add,yy,List.getElem?_toArray,vr l j hl]
  rw[List.getElem?_eq_getElem hl] at hj
  cases hj;rfl⟩
theorem xXj (s:HS):(xQ s).toArray.all (·.oneCell')=true:=by
 rw[Array.all_eq_true_iff_forall_mem]
 intro v hv
 simp only[xQ,List.mem_toArray,List.mem_append,List.mem_singleton] at hv
 rcases hv with h | h | h
 ·exact xQ3 _ v h
 ·exact uk _ v h
 ·rw[h];rfl
theorem yAi:((xQ vA).toArray.size == 73)=true:=rfl
attribute [local go_sem ↓] xC6
theorem lenH0:(xQ vA).length=73:=rfl
attribute [local go_sem] yAi lenH0
theorem xXb (K:Nat→Int)(hb:Nat)(s:HS)(W:World)(h:zm W hb s)(hK:Sk K W)(hn:s.n≤1000000) :
  Calls Tryz.prog 212 #[.pointer (some ⟨hb,0,none⟩)] W fun e W'=>e=.returned (.agg (encB (sumF K s)).toArray)∧Below W.heap.size W W':=by
 have HH:=h_ h
 have HK:=h_ hK
 have hlt:=h.lt
 clear h hK
 have hcl:∀ wr,Below W.heap.size W wr→wr.cell? ⟨hb,72,none⟩=some (.int .i64 s.n):=fun wr hbel=>(HH.out.same (hbel.block _ hlt)).cellN
 have HC:=h_ hcl
 clear hcl
 go_enter Tryz.func212,Tryz.ntmps212
 go_wp2
 go_loopw [3] (fun v wr=>∃ z,z≤padZ s.n∧xA7 W v (128 :: List.replicate z 0) wr) (fun v _=>padZ s.n+1-xBw v)
 case atStart =>
  exact⟨0,by omega,xOr W _ rfl⟩
 case round =>
  obtain⟨z,hz,hp⟩:=hrel
  obtain⟨g,cap,hv,hg,hle,hmx,hsl⟩:=hp.at
  obtain⟨L,hL⟩:∃ L,L=(128 :: List.replicate z (0:UInt8)).length:=⟨_,rfl⟩
  rw[←hL] at hv hle
  have hL1:L=z+1:=by rw[hL];simp
  have c1:=HC.out _ hp.bel
  have hpz:padZ s.n=(119-s.n % 64) % 64:=rfl
  subst hv
  by_cases hlt2:z<padZ s.n
  ·obtain⟨q,hq⟩:∃ q:Nat,q=(s.n+L) % 64:=⟨_,rfl⟩
   have f1:((s.n:Int)+(L:Int)).tmod 64=(q:Int):=by rw[Int.tmod_eq_emod_of_nonneg (by omega)];omega
   have f2:((q:Int) == 56)=false:=by rw[beq_eq_false_iff_ne];omega
   have f3:((q:Int) != 56)=true:=by rw[bne_iff_ne];omega
   have HL:=h_ hL1
   have HP:=h_ hp
   have b1:(L:Int)≤100:=by omega
   clear hL hL1 hq hpz hp hsl
   unfold maxLen at hmx
   have ho1:OwnB (wr.alloc (.cells #[.int .u8 0] 5)) (W.heap.size+1) (.slice (some ⟨g,0,none⟩) L cap) (128 :: List.replicate z 0):=HP.out.own.below ((Below.refl _ _).alloc (Nat.le_refl _) _)
   have hs1:SlB (wr.alloc (.cells #[.int .u8 0] 5)) ⟨wr.heap.size,0,none⟩ [0]:=vK wr 5 [0]
   have HO1:=h_ ho1
   have HS1:=h_ hs1
   clear ho1 hs1
   have hpz:padZ s.n≤63:=by unfold padZ;omega
   go_wp2_with (at_builtin;refine zu rfl (.tmp 20) (.tmp 21) rfl (W.heap.size+1) _ (128 :: List.replicate z 0) rfl HO1.out ⟨wr.heap.size,0,none⟩ [0] 1 rfl HS1.out ?cA ?cB ?_)
   case cA=>simp;omega
   case cB=>have:=HP.out.bel.size;simp;omega
   intro v' w' ho hg2 _
   have hp2:=(HP.out.later (W':=wr.alloc (.cells #[.int .u8 0] 5)) ((Below.refl _ _).alloc (Nat.le_refl _) _)).app ho hg2
   have hr2:128 :: List.replicate z (0:UInt8)++[0]=128 :: List.replicate (z+1) 0:=by rw[List.replicate_succ'];rfl
   rw[hr2] at hp2
   obtain⟨g2,cap2,hv2,_,_,_,_⟩:=hp2.at
   have hl2:xBw v'=z+2:=by rw[hv2];simp[xBw]
   have HP2:=h_ hp2
   have HL2:=h_ hl2
   clear hp2 hr2 hv2 hl2 ho hg2 f1 f2 f3 c1 HO1 HS1
   go_wp2
   go_roundw
   case rel=>exact⟨z+1,by omega,HP2.out⟩
   case measure =>
    show padZ s.n+1-xBw v' < padZ s.n+1-L
    rw[HL2.out,HL.out];omega
  ·obtain rfl:z=padZ s.n:=by omega
   have f1:((s.n:Int)+(L:Int)).tmod 64=56:=by rw[Int.tmod_eq_emod_of_nonneg (by omega)];omega
   have b1:(L:Int)≤100:=by omega
   have HL:=h_ hL1
   have HP:=h_ hp
   have hn2:(s.n:Int)≤1000000:=by omega
   clear hL hL1 hpz hp hsl hlt2 hz
   unfold maxLen at hmx
   go_wp2
   clear f1 c1
   go_loopw [3,29] (fun v t wr=>∃ k:Nat,k≤8∧t=.int .i64 k∧xA7 W v (padL s.n k) wr) (fun _ t _=>8-(intOf t).toNat)
   case atStart=>exact⟨0,by omega,rfl,by have:=HP.out;simpa[padL] using this⟩
   case round =>
    obtain⟨k,hk,rfl,hp⟩:=hrel
    obtain⟨g,cap,hv,hg,hle,hmx,hsl⟩:=hp.at
    have hpl:=xOs s.n k
    have hpz:padZ s.n≤63:=by unfold padZ;omega
    obtain⟨L2,hL2⟩:∃ L2,L2=(padL s.n k).length:=⟨_,rfl⟩
    rw[←hL2] at hv hle hpl
    subst hv
    have HL2:=h_ hL2
    have HPL:=h_ hpl
    by_cases hlt3:k<8
    ·have HP3:=h_ hp
     have a1:(k:Int)<8:=by omega
     have hcb:=xY7 (8*s.n) k
     have hk8:k=0∨k=1∨k=2∨k=3∨k=4∨k=5∨k=6∨k=7:=by omega
     obtain⟨b,hb8⟩:∃ b,b=cntB (8*s.n) k:=⟨_,rfl⟩
     rw[←hb8] at hcb
     have hsn:=h_ (show padL s.n k++[b]=padL s.n (k+1) by rw[hb8,xUi])
     have ho1:OwnB (wr.alloc (.cells #[.int .u8 b.toNat] 5)) (W.heap.size+1) (.slice (some ⟨g,0,none⟩) L2 cap) (padL s.n k):=HP3.out.own.below ((Below.refl _ _).alloc (Nat.le_refl _) _)
     have hs1:SlB (wr.alloc (.cells #[.int .u8 b.toNat] 5)) ⟨wr.heap.size,0,none⟩ [b]:=vK wr 5 [b]
     have HO1:=h_ ho1
     have HS1:=h_ hs1
     have nxt:∀ v' w',OwnB w' (W.heap.size+1) v' (padL s.n k++[b])→(wr.alloc (.cells #[.int .u8 b.toNat] 5)).grownBy w' (Value.slice (some ⟨g,0,none⟩) L2 cap).ownBlock→xA7 W v' (padL s.n (k+1)) w':=fun v' w' ho hg2=>by
      have:=(HP3.out.later (W':=wr.alloc (.cells #[.int .u8 b.toNat] 5)) ((Below.refl _ _).alloc (Nat.le_refl _) _)).app ho hg2
      rw[hsn.out] at this;exact this
     have NXT:=h_ nxt
     have hB2:=h_ (show W.heap.size+1≤(wr.alloc (.cells #[.int .u8 b.toNat] 5)).heap.size by have:=HP3.out.bel.size;simp;omega)
     have hlen:=h_ (show (padL s.n k).length+[b].length≤1000000000000 by rw[HL2.out.symm,HPL.out];simp;omega)
     clear hb8 hp hsl hL2 hpl ho1 hs1 nxt hpz
     rcases hk8 with rfl | rfl | rfl | rfl | rfl | rfl | rfl | rfl
     ·have hcb':8*(s.n:Int) / 72057594037927936=(b.toNat:Int):=by
       have h:8*(s.n:Int) / 72057594037927936 % 256=(b.toNat:Int):=by simpa using hcb.symm
       omega
      clear hcb
      go_wp2_with (at_builtin;refine zu rfl (.tmp 32) (.tmp 39) rfl (W.heap.size+1) _ (padL s.n 0) rfl HO1.out ⟨wr.heap.size,0,none⟩ [b] 1 rfl HS1.out hlen.out hB2.out ?_)
      intro v' w' ho hg2 _
      have HP4:=h_ (NXT.out v' w' ho hg2)
      clear ho hg2 hcb'
      go_wp2
      go_roundw
      case rel=>exact⟨1,by omega,rfl,HP4.out⟩
      case measure=>simp[intOf]
     ·have hcb':8*(s.n:Int) / 281474976710656=(b.toNat:Int):=by
       have h:8*(s.n:Int) / 281474976710656 % 256=(b.toNat:Int):=by simpa using hcb.symm
       omega
      clear hcb
      go_wp2_with (at_builtin;refine zu rfl (.tmp 32) (.tmp 39) rfl (W.heap.size+1) _ (padL s.n 1) rfl HO1.out ⟨wr.heap.size,0,none⟩ [b] 1 rfl HS1.out hlen.out hB2.out ?_)
      intro v' w' ho hg2 _
      have HP4:=h_ (NXT.out v' w' ho hg2)
      clear ho hg2 hcb'
      go_wp2
      go_roundw
      case rel=>exact⟨2,by omega,rfl,HP4.out⟩
      case measure=>simp[intOf]
     ·have hcb':8*(s.n:Int) / 1099511627776=(b.toNat:Int):=by
       have h:8*(s.n:Int) / 1099511627776 % 256=(b.toNat:Int):=by simpa using hcb.symm
       omega
      clear hcb
      go_wp2_with (at_builtin;refine zu rfl (.tmp 32) (.tmp 39) rfl (W.heap.size+1) _ (padL s.n 2) rfl HO1.out ⟨wr.heap.size,0,none⟩ [b] 1 rfl HS1.out hlen.out hB2.out ?_)
      intro v' w' ho hg2 _
      have HP4:=h_ (NXT.out v' w' ho hg2)
      clear ho hg2 hcb'
      go_wp2
      go_roundw
      case rel=>exact⟨3,by omega,rfl,HP4.out⟩
      case measure=>simp[intOf]
     ·have hcb':8*(s.n:Int) / 4294967296=(b.toNat:Int):=by
       have h:8*(s.n:Int) / 4294967296 % 256=(b.toNat:Int):=by simpa using hcb.symm
       omega
      clear hcb
      go_wp2_with (at_builtin;refine zu rfl (.tmp 32) (.tmp 39) rfl (W.heap.size+1) _ (padL s.n 3) rfl HO1.out ⟨wr.heap.size,0,none⟩ [b] 1 rfl HS1.out hlen.out hB2.out ?_)
      intro v' w' ho hg2 _
      have HP4:=h_ (NXT.out v' w' ho hg2)
      clear ho hg2 hcb'
      go_wp2
      go_roundw
      case rel=>exact⟨4,by omega,rfl,HP4.out⟩
      case measure=>simp[intOf]
     ·have hcb':8*(s.n:Int) / 16777216=(b.toNat:Int):=by
       have h:8*(s.n:Int) / 16777216 % 256=(b.toNat:Int):=by simpa using hcb.symm
       omega
      clear hcb
      go_wp2_with (at_builtin;refine zu rfl (.tmp 32) (.tmp 39) rfl (W.heap.size+1) _ (padL s.n 4) rfl HO1.out ⟨wr.heap.size,0,none⟩ [b] 1 rfl HS1.out hlen.out hB2.out ?_)
      intro v' w' ho hg2 _
      have HP4:=h_ (NXT.out v' w' ho hg2)
      clear ho hg2 hcb'
      go_wp2
      go_roundw
      case rel=>exact⟨5,by omega,rfl,HP4.out⟩
      case measure=>simp[intOf]
     ·have hcb':8*(s.n:Int) / 65536=(b.toNat:Int):=by
       have h:8*(s.n:Int) / 65536 % 256=(b.toNat:Int):=by simpa using hcb.symm
       omega
      clear hcb
      go_wp2_with (at_builtin;refine zu rfl (.tmp 32) (.tmp 39) rfl (W.heap.size+1) _ (padL s.n 5) rfl HO1.out ⟨wr.heap.size,0,none⟩ [b] 1 rfl HS1.out hlen.out hB2.out ?_)
      intro v' w' ho hg2 _
      have HP4:=h_ (NXT.out v' w' ho hg2)
      clear ho hg2 hcb'
      go_wp2
      go_roundw
      case rel=>exact⟨6,by omega,rfl,HP4.out⟩
      case measure=>simp[intOf]
     ·have hcb':8*(s.n:Int) / 256 % 256=(b.toNat:Int):=by simpa using hcb.symm
      clear hcb
      go_wp2_with (at_builtin;refine zu rfl (.tmp 32) (.tmp 39) rfl (W.heap.size+1) _ (padL s.n 6) rfl HO1.out ⟨wr.heap.size,0,none⟩ [b] 1 rfl HS1.out hlen.out hB2.out ?_)
      intro v' w' ho hg2 _
      have HP4:=h_ (NXT.out v' w' ho hg2)
      clear ho hg2 hcb'
      go_wp2
      go_roundw
      case rel=>exact⟨7,by omega,rfl,HP4.out⟩
      case measure=>simp[intOf]
     ·have hcb':8*(s.n:Int) % 256=(b.toNat:Int):=by simpa using hcb.symm
      clear hcb
      go_wp2_with (at_builtin;refine zu rfl (.tmp 32) (.tmp 39) rfl (W.heap.size+1) _ (padL s.n 7) rfl HO1.out ⟨wr.heap.size,0,none⟩ [b] 1 rfl HS1.out hlen.out hB2.out ?_)
      intro v' w' ho hg2 _
      have HP4:=h_ (NXT.out v' w' ho hg2)
      clear ho hg2 hcb'
      go_wp2
      go_roundw
      case rel=>exact⟨8,by omega,rfl,HP4.out⟩
      case measure=>simp[intOf]
    ·obtain rfl:k=8:=by omega
     subst hL2
     have hg73:=HH.out.same (hp.bel.block _ hlt)
     have q:=xI hg73.row (show (xQ s).toArray.size=73 by simpa using uA hg73.len)
     have q1:=q.1
     have q2:=q.2
     have q3:xy 73 (xQ s).toArray=true:=zT (by simpa using uA hg73.len) (xXj s)
     have hsz:=hp.bel.size
     have hro:=hp.ro
     have hnh:zm (wr.alloc (.cells (xQ s).toArray 394)) wr.heap.size s:=⟨heap_alloc_new wr _,hg73.len⟩
     have hbw:Below wr.heap.size wr (wr.alloc (.cells (xQ s).toArray 394)):=(Below.refl _ _).alloc (Nat.le_refl _) _
     have hgl:=HK.out.lt
     have hsl2:SlB (wr.alloc (.cells (xQ s).toArray 394)) ⟨g,0,none⟩ (padL s.n 8):=⟨fun j c hj=>Lib.cell?_alloc_some _ (hsl.cell j c hj)⟩
     have hgw:g<wr.heap.size:=by
      have h0:0<(padL s.n 8).length:=by omega
      have:=block_lt_of_cell (hsl.cell 0 _ (List.getElem?_eq_getElem h0))
      rwa [y9] at this
     have hW:=xJv K wr.heap.size s ⟨g,0,none⟩ (padL s.n 8) cap _ hnh hsl2 (by simp;omega) hle (by omega) ((HK.out.below hp.bel (Nat.le_refl _)).below hbw (by have:=(HK.out.below hp.bel (Nat.le_refl _)).lt;omega)) (by omega)
     have HWW:=h_ hW
     have HP5:=h_ hp
     have HQ:=h_ hbw
     clear hW hnh hbw hsl2 hg73 q hp hsl hpl hpz HL2 HPL hlt3 hk hle
     go_wp2_with (go_at_call 211;refine HWW.out.mono ?_;rintro e w5 ⟨rfl,hg5,hh5⟩;have hr5:=hh5.rdState)
     have c1:=hr5.1
     have c2:=hr5.2
     have hb5:Below wr.heap.size wr w5:=xQi HQ.out hg5 (by simp) (Nat.le_refl _)
     have hro5:∀ w6,Below w5.heap.size w5 w6→xP w6 W.heap.size 32=true:=fun w6 h6=>by
      have hl:W.heap.size<wr.heap.size:=by omega
      have:=hro
      unfold xP at this ⊢
      rw[h6.block _ (by have:=hb5.size;omega),hb5.block _ hl];exact this
     have HB5:=h_ (HP5.out.bel.trans (hb5.mono hsz))
     have HRO5:=h_ hro5
     have HR5:=h_ hr5
     clear hb5 hro5 hr5 hg5 hh5 HWW HQ hro
     go_wp2_with (go_at_call 264;refine(xSb _ _).mono ?_;rintro e w6 ⟨rfl,hb6⟩;have hro6:=HRO5.out w6 hb6;have hft:=xI4 (qT (jK K s (padL s.n 8)).st 32))
     obtain⟨cs,T,hcs,_⟩:=uz hro6
     have hd32:(encB (digL (jK K s (padL s.n 8)).st 32)).toArray.size=32:=by rw[qu,qT]
     have r:=xI (setRow_heap w6 W.heap.size cs (encB (digL (jK K s (padL s.n 8)).st 32)).toArray T (0,0) hcs) hd32
     have hb7:=xJ (HB5.out.trans (hb6.mono HB5.out.size)) (Nat.le_refl _) (encB (digL (jK K s (padL s.n 8)).st 32)).toArray
     refine bodyPost_ret (zM rfl Tryz.isAgg321 Tryz.sizeOf321 _ _ ⟨W.heap.size,0,none⟩ (encB (digL (jK K s (padL s.n 8)).st 32)).toArray rfl ?_ ?_) rfl ⟨rfl,hb7⟩
     ·exact r.1
     ·exact r.2
end
end Go.Proofs.YthiafifdiaplaaaGreatDoor
namespace Go.Proofs
open Go.Shelf
def Tryz.lays169_ren:Go.Shelf.Ren:=⟨fun | 169=>118 | n=>n,fun | 70=>231 | 9=>9 | 0=>0 | 72=>233 | 37=>66 | 127=>287 | 3=>3 | 5=>5 | n=>n,fun | n=>n⟩
theorem Tryz.lays169:Go.Proofs.Lays.n169 Tryz.prog Tryz.lays169_ren:={
 mixed:=by kernel_rfl
 f169:=Tryz.func118.trans (congrArg some (by kernel_rfl))
 t0:=Tryz.underlying0
 a0:=Tryz.isAgg0
 z0:=Tryz.sizeOf0
 v0:=Tryz.zeroValue0
 t3:=Tryz.underlying3
 a3:=Tryz.isAgg3
 z3:=Tryz.sizeOf3
 v3:=Tryz.zeroValue3
 t9:=Tryz.underlying9
 a9:=Tryz.isAgg9
 z9:=Tryz.sizeOf9
 v9:=Tryz.zeroValue9
 t37:=Tryz.underlying66
 a37:=Tryz.isAgg66
 z37:=Tryz.sizeOf66
 v37:=Tryz.zeroValue66
 t70:=Tryz.underlying231
 a70:=Tryz.isAgg231
 z70:=Tryz.sizeOf231
 v70:=Tryz.zeroValue231
 t72:=Tryz.underlying233
 a72:=Tryz.isAgg233
 z72:=Tryz.sizeOf233
 v72:=Tryz.zeroValue233
 t127:=Tryz.underlying287
 a127:=Tryz.isAgg287
 z127:=Tryz.sizeOf287
 v127:=Tryz.zeroValue287 }
theorem Tryz.Builder_Extra_169:Builder.Extra Tryz.prog Tryz.lays169_ren:={
 sizeBuilder:=by kernel_rfl
 liesBuilder:=by kernel_rfl
 t5:=Tryz.underlying5
 a5:=Tryz.isAgg5
 z5:=Tryz.sizeOf5
 v5:=Tryz.zeroValue5
 infoByte:=by kernel_rfl
 cellsByte:=by kernel_rfl
 sizeByte:=by kernel_rfl
 neB5:=by decide }
def Tryz.lays125_ren:Go.Shelf.Ren:=⟨fun | 125=>188 | 128=>222 | 129=>223 | n=>n,fun | 46=>27 | 3=>3 | 51=>364 | 53=>303 | 4=>4 | 5=>5 | 9=>9 | n=>n,fun | n=>n⟩
theorem Tryz.lays125:Go.Proofs.Lays.n125 Tryz.prog Tryz.lays125_ren:={
 mixed:=by kernel_rfl
 f125:=Tryz.func188.trans (congrArg some (by kernel_rfl))
 f128:=Tryz.func222.trans (congrArg some (by kernel_rfl))
 f129:=Tryz.func223.trans (congrArg some (by kernel_rfl))
 t3:=Tryz.underlying3
 a3:=Tryz.isAgg3
 z3:=Tryz.sizeOf3
 v3:=Tryz.zeroValue3
 t4:=Tryz.underlying4
 a4:=Tryz.isAgg4
 z4:=Tryz.sizeOf4
 v4:=Tryz.zeroValue4
 t5:=Tryz.underlying5
 a5:=Tryz.isAgg5
 z5:=Tryz.sizeOf5
 v5:=Tryz.zeroValue5
 t9:=Tryz.underlying9
 a9:=Tryz.isAgg9
 z9:=Tryz.sizeOf9
 v9:=Tryz.zeroValue9
 t46:=Tryz.underlying27
 a46:=Tryz.isAgg27
 z46:=Tryz.sizeOf27
 v46:=Tryz.zeroValue27
 t51:=Tryz.underlying364
 a51:=Tryz.isAgg364
 z51:=Tryz.sizeOf364
 v51:=Tryz.zeroValue364
 t53:=Tryz.underlying303
 a53:=Tryz.isAgg303
 z53:=Tryz.sizeOf303
 v53:=Tryz.zeroValue303 }
theorem Tryz.bits_Len (x:Int)(w:World)(h0:0≤x)(h1:x≤18446744073709551615) :
  Calls Tryz.prog 188 #[.int .u64 x] w fun e w'=>e=.returned (.int .i64 (Lib.bitLen x.toNat))∧w'=w:=Any.bits_Len Tryz.lays125 x w h0 h1
open Go.RowKit in
theorem Tryz.Builder_String_empty_f (B b:Nat)(w:World)(h:Lib.IsBuilderF 233 5 B b [] w)(hBw:B≤w.heap.size) :
  Calls Tryz.prog 118 #[.pointer (some ⟨b,0,none⟩)] w fun e w'=>e=.returned (.string ⟨#[]⟩)∧(Lib.IsBuilderF 233 5 B b [] w'∧Below B w w'):=Any.Builder_String_empty_f Tryz.lays169 Tryz.Builder_Extra_169 B b w h hBw
def Tryz.lays221_ren:Go.Shelf.Ren:=⟨fun | 221=>249 | 268=>285 | 138=>286 | 143=>287 | 195=>311 | 197=>312 | 218=>313 | 219=>248 | 260=>319 | 217=>281 | 225=>282 | 224=>283 | 267=>284 | 266=>309 | 314=>310 | n=>n,fun | 9=>9 | 3=>3 | 31=>40 | 4=>4 | 0=>0 | 105=>438 | 21=>21 | 5=>5 | 46=>27 | 119=>122 | 139=>447 | 138=>446 | 146=>435 | 51=>364 | n=>n,fun | 1=>0 | 3=>5 | 4=>6 | n=>n⟩
def Tryz.lays146_ren:Go.Shelf.Ren:=⟨fun | 146=>201 | 221=>249 | 268=>285 | 138=>286 | 143=>287 | 195=>311 | 197=>312 | 218=>313 | 219=>248 | 260=>319 | 217=>281 | 225=>282 | 224=>283 | 267=>284 | 266=>309 | 314=>310 | n=>n,fun | 9=>9 | 31=>40 | 3=>3 | 4=>4 | 0=>0 | 105=>438 | 21=>21 | 5=>5 | 46=>27 | 119=>122 | 139=>447 | 138=>446 | 146=>435 | 51=>364 | n=>n,fun | 1=>0 | 3=>5 | 4=>6 | n=>n⟩
theorem Tryz.lays146:Go.Proofs.Lays.n146 Tryz.prog Tryz.lays146_ren:={
 mixed:=by kernel_rfl
 f138:=Tryz.func286.trans (congrArg some (by kernel_rfl))
 f143:=Tryz.func287.trans (congrArg some (by kernel_rfl))
 f146:=Tryz.func201.trans (congrArg some (by kernel_rfl))
 f195:=Tryz.func311.trans (congrArg some (by kernel_rfl))
 f197:=Tryz.func312.trans (congrArg some (by kernel_rfl))
 f217:=Tryz.func281.trans (congrArg some (by kernel_rfl))
 f218:=Tryz.func313.trans (congrArg some (by kernel_rfl))
 f219:=Tryz.func248.trans (congrArg some (by kernel_rfl))
 f221:=Tryz.func249.trans (congrArg some (by kernel_rfl))
 f224:=Tryz.func283.trans (congrArg some (by kernel_rfl))
 f225:=Tryz.func282.trans (congrArg some (by kernel_rfl))
 f260:=Tryz.func319.trans (congrArg some (by kernel_rfl))
 f266:=Tryz.func309.trans (congrArg some (by kernel_rfl))
 f267:=Tryz.func284.trans (congrArg some (by kernel_rfl))
 f268:=Tryz.func285.trans (congrArg some (by kernel_rfl))
 f314:=Tryz.func310.trans (congrArg some (by kernel_rfl))
 t0:=Tryz.underlying0
 a0:=Tryz.isAgg0
 z0:=Tryz.sizeOf0
 v0:=Tryz.zeroValue0
 t3:=Tryz.underlying3
 a3:=Tryz.isAgg3
 z3:=Tryz.sizeOf3
 v3:=Tryz.zeroValue3
 t4:=Tryz.underlying4
 a4:=Tryz.isAgg4
 z4:=Tryz.sizeOf4
 v4:=Tryz.zeroValue4
 t5:=Tryz.underlying5
 a5:=Tryz.isAgg5
 z5:=Tryz.sizeOf5
 v5:=Tryz.zeroValue5
 t9:=Tryz.underlying9
 a9:=Tryz.isAgg9
 z9:=Tryz.sizeOf9
 v9:=Tryz.zeroValue9
 t21:=Tryz.underlying21
 a21:=Tryz.isAgg21
 z21:=Tryz.sizeOf21
 v21:=Tryz.zeroValue21
 t31:=Tryz.underlying40
 a31:=Tryz.isAgg40
 z31:=Tryz.sizeOf40
 v31:=Tryz.zeroValue40
 t46:=Tryz.underlying27
 a46:=Tryz.isAgg27
 z46:=Tryz.sizeOf27
 v46:=Tryz.zeroValue27
 t51:=Tryz.underlying364
 a51:=Tryz.isAgg364
 z51:=Tryz.sizeOf364
 v51:=Tryz.zeroValue364
 t105:=Tryz.underlying438
 a105:=Tryz.isAgg438
 z105:=Tryz.sizeOf438
 v105:=Tryz.zeroValue438
 t119:=Tryz.underlying122
 a119:=Tryz.isAgg122
 z119:=Tryz.sizeOf122
 t138:=Tryz.underlying446
 a138:=Tryz.isAgg446
 z138:=Tryz.sizeOf446
 v138:=Tryz.zeroValue446
 t139:=Tryz.underlying447
 a139:=Tryz.isAgg447
 z139:=Tryz.sizeOf447
 v139:=Tryz.zeroValue447
 t146:=Tryz.underlying435
 a146:=Tryz.isAgg435
 z146:=Tryz.sizeOf435
 v146:=Tryz.zeroValue435
 g1:=by kernel_rfl
 g3:=by kernel_rfl
 g4:=by kernel_rfl }
open Go.RowKit Go.Lib in
theorem Tryz.strings_Split (s sep:ByteArray)(m:Int)(w:World)(hs:s.size<4294967281)(hm:w.cell? ⟨0,0,none⟩=some (.int .i64 m))(h1:1≤sep.size) :
  Calls Tryz.prog 201 #[.string s,.string sep] w fun e w' =>
   e=.returned (.slice (some ⟨w.heap.size,0,none⟩) (Lib.countB s sep+1) (Lib.countB s sep+1))∧w'=w.alloc (.cells ((Lib.splitB sep 0 (Lib.countB s sep) s).map Value.string).toArray 9):=Any.strings_Split Tryz.lays146 (by kernel_rfl) s sep m w hs hm h1
def Tryz.laysSlH8_f251_ren:Go.Shelf.Ren:=⟨fun | 8=>251 | 6=>288 | n=>n,fun | 22=>40 | 23=>9 | 25=>334 | 4=>4 | 3=>3 | 0=>0 | n=>n,fun | n=>n⟩
def Tryz.containsId_ren:Go.Shelf.Ren:=⟨fun | 7=>316 | 6=>320 | n=>n,fun | 22=>41 | 24=>39 | 4=>4 | 0=>0 | 3=>3 | n=>n,fun | n=>n⟩
theorem Tryz.containsId:Go.Proofs.SlLaysQ.n7 Tryz.prog Tryz.containsId_ren:={
 mixed:=by kernel_rfl
 f6:=⟨Tryz.f320.name,by decide,Tryz.func320.trans (congrArg some (by kernel_rfl))⟩
 f7:=⟨Tryz.f316.name,by decide,Tryz.func316.trans (congrArg some (by kernel_rfl))⟩
 t0:=Tryz.underlying0
 a0:=Tryz.isAgg0
 z0:=Tryz.sizeOf0
 v0:=Tryz.zeroValue0
 t3:=Tryz.underlying3
 a3:=Tryz.isAgg3
 z3:=Tryz.sizeOf3
 v3:=Tryz.zeroValue3
 t4:=Tryz.underlying4
 a4:=Tryz.isAgg4
 z4:=Tryz.sizeOf4
 v4:=Tryz.zeroValue4
 t22:=Tryz.underlying41
 a22:=Tryz.isAgg41
 z22:=Tryz.sizeOf41
 v22:=Tryz.zeroValue41 }
def Tryz.cloneId_ren:Go.Shelf.Ren:=⟨fun | 41=>129 | n=>n,fun | 22=>41 | 23=>39 | 4=>4 | n=>n,fun | n=>n⟩
theorem Tryz.cloneId:Go.Proofs.SlLaysE0.n41 Tryz.prog Tryz.cloneId_ren:={
 mixed:=by kernel_rfl
 f41:=⟨Tryz.f129.name,by decide,Tryz.func129.trans (congrArg some (by kernel_rfl))⟩
 t4:=Tryz.underlying4
 a4:=Tryz.isAgg4
 z4:=Tryz.sizeOf4
 v4:=Tryz.zeroValue4
 t22:=Tryz.underlying41
 a22:=Tryz.isAgg41
 z22:=Tryz.sizeOf41
 v22:=Tryz.zeroValue41 }
def Tryz.containsFuncByte_ren:Go.Shelf.Ren:=⟨fun | 8=>290 | 6=>314 | n=>n,fun | 22=>66 | 23=>5 | 25=>385 | 4=>4 | 3=>3 | 0=>0 | n=>n,fun | n=>n⟩
theorem Tryz.containsFuncByte:Go.Proofs.SlLaysH.n8 Tryz.prog Tryz.containsFuncByte_ren:={
 mixed:=by kernel_rfl
 f6:=⟨Tryz.f314.name,by decide,Tryz.func314.trans (congrArg some (by kernel_rfl))⟩
 f8:=⟨Tryz.f290.name,by decide,Tryz.func290.trans (congrArg some (by kernel_rfl))⟩
 t0:=Tryz.underlying0
 a0:=Tryz.isAgg0
 z0:=Tryz.sizeOf0
 v0:=Tryz.zeroValue0
 t3:=Tryz.underlying3
 a3:=Tryz.isAgg3
 z3:=Tryz.sizeOf3
 v3:=Tryz.zeroValue3
 t4:=Tryz.underlying4
 a4:=Tryz.isAgg4
 z4:=Tryz.sizeOf4
 v4:=Tryz.zeroValue4
 t22:=Tryz.underlying66
 a22:=Tryz.isAgg66
 z22:=Tryz.sizeOf66
 v22:=Tryz.zeroValue66
 a23:=Tryz.isAgg5
 z23:=Tryz.sizeOf5
 t25:=Tryz.underlying385
 a25:=Tryz.isAgg385
 z25:=Tryz.sizeOf385
 v25:=Tryz.zeroValue385 }
end Go.Proofs
namespace Go.Proofs.YthiafifdiaplaaaGreatDoor
open Go Go.RowKit Go.Proofs
section
attribute [local go_sem ↓] xV xO
attribute [local go_sem 2000] xCe
attribute [local go_sem] zx zA yW xj xh xe xd xAp xAj
def xC9 (w:World)(b off:Nat)(ids:List Id32):Prop:=∀ j,j<ids.length→∀ i v,(xB ids[j]!)[i]?=some v→w.cell? ⟨b,off+j*32+i,none⟩=some v
def xDz (w:World)(v:Value)(ids:List Id32):Prop :=
 ∃ a c,v=.slice a ids.length c∧ids.length≤c∧(ids≠[]→∃ b off,a=some ⟨b,off,none⟩∧xC9 w b off ids)
theorem xC9.rd {w:World}{b off:Nat}{ids:List Id32}(h:xC9 w b off ids){j:Nat}(hj:j<ids.length) :
  xq w ⟨b,off+j*32,none⟩ 32=true∧xp w ⟨b,off+j*32,none⟩ 32=(xB ids[j]!).toArray:=by
 have:=y7 (w:=w) (a:=⟨b,off+j*32,none⟩) (cs:=xB ids[j]!) (fun i v hi=>by rw[Addr.add_lit];exact h j hj i v hi)
 rwa [xF] at this
theorem xC9.lt {w:World}{b off:Nat}{ids:List Id32}(h:xC9 w b off ids)(hne:ids≠[]):b<w.heap.size:=by
 have h0:0<ids.length:=List.length_pos_iff.2 hne
 have:=h 0 h0 0 _ (xL0 _ 0 (by omega))
 exact block_lt_of_cell this
theorem xC9.below {w w':World}{b off:Nat}{ids:List Id32}(h:xC9 w b off ids){B:Nat}(hb:Below B w w')(hB:b<B):xC9 w' b off ids :=
 fun j hj i v hi=>(hb.cell (p:=⟨b,_,none⟩) hB).trans (h j hj i v hi)
theorem xDz.below {w w':World}{v:Value}{ids:List Id32}(h:xDz w v ids)(hb:Below w.heap.size w w'):xDz w' v ids:=by
 obtain⟨a,c,e,hc,hr⟩:=h
 exact⟨a,c,e,hc,fun hne=>let ⟨b,off,e2,hrow⟩:=hr hne;⟨b,off,e2,hrow.below hb (hrow.lt hne)⟩⟩
def xTp (ids:List Id32)(k:Nat)(x:Id32):Bool:=(ids.take k).any fun y=>decide (x=y)
def qJ (ids:List Id32)(k:Nat):Bool:=(List.range k).any fun i=>xTp ids i ids[i]!
def vN (ids:List Id32):Int:=if 20<ids.length then 9 else if qJ ids ids.length then 7 else 0
theorem xDr (ids:List Id32)(k:Nat):qJ ids (k+1)=(qJ ids k || xTp ids k ids[k]!):=by
 unfold qJ
 rw[List.range_succ,List.any_append]
 simp
theorem xN5 {ids:List Id32}{k n:Nat}(h:k≤n)(hd:qJ ids k=true):qJ ids n=true:=by
 unfold qJ at *
 rw[List.any_eq_true] at *
 obtain⟨i,hi,hx⟩:=hd
 exact⟨i,by simp at hi ⊢;omega,hx⟩
theorem xM4 {ids:List Id32}(h:20<ids.length):vN ids=9:=if_pos h
theorem xOl {ids:List Id32}(h:ids.length≤20)(hd:qJ ids ids.length=true):vN ids=7:=by
 unfold vN;rw[if_neg (by omega),if_pos hd]
theorem xRf {ids:List Id32}(h:ids.length≤20)(hd:qJ ids ids.length=false):vN ids=0:=by
 unfold vN;rw[if_neg (by omega),if_neg (by simp[hd])]
theorem xFl (b off n c:Nat)(ids:List Id32)(x:Id32)(w:World)(hz:n≤ids.length)(hm:n≤9223372036854775807)(h:xC9 w b off ids) :
  Calls Tryz.prog 316 #[.slice (some ⟨b,off,none⟩) n c,.agg (xB x).toArray] w fun e w'=>e=.returned (.bool (xTp ids n x))∧Below w.heap.size w w' :=
 AnyQ.slices_Contains Tryz.containsId 32 Tryz.isAgg39 Tryz.sizeOf39 xB xF _ eqId b off n c ids x w hz hm h
attribute [local go_sem] xA u9 qa xt xC xx kS vC js
theorem xBr (v:Value)(ids:List Id32)(w:World)(h:xDz w v ids)(hm:ids.length≤maxLen) :
  Calls Tryz.prog 298 #[v] w fun r w'=>r=.returned (.int .i64 (vN ids))∧Below w.heap.size w w':=by
 unfold maxLen at hm
 obtain⟨a,c,rfl,hc,hr⟩:=h
 by_cases hlong:20<ids.length
 ·have hf:=h_ (xM4 hlong)
  have hlong':(20:Int)<(ids.length:Int):=by omega
  clear hr
  go_enter Tryz.func298,Tryz.ntmps298
  go_wp2
  go_ret
  exact⟨zU hf.out.symm,Below.refl _ _⟩
 ·have HR:=h_ hr
  clear hr
  have hshort:(ids.length:Int)≤20:=by omega
  go_enter Tryz.func298,Tryz.ntmps298
  go_wp2
  go_loopw [10] (fun i wr=>∃ k:Nat,k≤ids.length∧i=.int .i64 k∧qJ ids k=false∧Below w.heap.size w wr) (fun i _=>ids.length-(intOf i).toNat)
  case atStart=>exact⟨0,Nat.zero_le _,rfl,rfl,Below.refl _ _⟩
  case round =>
   obtain⟨k,hk,rfl,hd,hb⟩:=hrel
   have HD:=h_ hd
   clear hd
   by_cases hlt:k<ids.length
   ·obtain⟨b,off,rfl,hrow⟩:=HR.out (by intro e;rw[e] at hlt;simp at hlt)
    have hltz:(k:Int)<(ids.length:Int):=by omega
    have hcz:(k:Int)≤(c:Int):=by omega
    have hne:ids≠[]:=by intro e;rw[e] at hlt;simp at hlt
    have HW:=h_ (hrow.below hb (hrow.lt hne))
    clear hrow hne
    obtain⟨o1,d1⟩:=HW.out.rd hlt
    generalize hx:ids[k]! = x at d1
    have HX:=h_ hx
    clear hx
    go_wp2
    have oz:∀ z:xf (wr.alloc (.cells (xB x).toArray 39)),xq z.1 ⟨wr.heap.size,0,none⟩ 32=true:=fun z=>z.ok (vC _ _ _)
    have dz:∀ z:xf (wr.alloc (.cells (xB x).toArray 39)),xp z.1 ⟨wr.heap.size,0,none⟩ 32=(xB x).toArray:=fun z=>(z.rd (vC _ _ _)).trans (js _ _ _)
    refine kG 4 (fun w'=>∃ z:xf (wr.alloc (.cells (xB x).toArray 39)),w'=z.1) (by kernel_rfl) (by kernel_rfl) ⟨⟨_,(Below.refl _ _).drew⟩,rfl⟩ ?_
    simp only[List.take_succ_cons,List.take_zero,List.drop_succ_cons,List.drop_zero]
    repeat (go_big_quiet_step (fail))
    refine wpQuiet_nil ?_
    rintro _ ⟨z,rfl⟩
    have hz:=z.2
    generalize z.1=wz at hz ⊢
    clear oz dz o1 d1
    have hzr:Below wr.heap.size wr wz:=((Below.refl _ _).alloc (Nat.le_refl _) _).trans (hz.mono (by simp))
    have hbz:Below w.heap.size w wz:=hb.trans (hzr.mono hb.size)
    have hrz:xC9 wz b off ids:=HW.out.below hzr (HW.out.lt (by intro e;rw[e] at hlt;simp at hlt))
    have hmk:k≤9223372036854775807:=by omega
    clear hz hzr
    cases hq:xTp ids k x with
    | true =>
     have hc94:=xFl b off k c ids x wz hk hmk hrz
     rw[hq] at hc94
     have hf:=h_ (xOl (show ids.length≤20 by omega) (xN5 (show k+1≤ids.length from hlt) (by rw[xDr,HX.out,hq];simp)))
     clear hq hrz
     have H94:=h_ hc94
     clear hc94
     go_wp2_with fail
     refine H94.out.mono ?_
     rintro e w1 ⟨rfl,hb1⟩
     go_wp2
     go_ret
     exact⟨zU hf.out.symm,hbz.trans (hb1.mono hbz.size)⟩
    | false =>
     have hc94:=xFl b off k c ids x wz hk hmk hrz
     rw[hq] at hc94
     have hn:=h_ (show qJ ids (k+1)=false by rw[xDr,HX.out,hq,HD.out];rfl)
     clear hq hrz
     have H94:=h_ hc94
     clear hc94
     go_wp2_with fail
     refine H94.out.mono ?_
     rintro e w1 ⟨rfl,hb1⟩
     go_wp2
     go_roundw
     case rel=>exact⟨k+1,by omega,by go_num,hn.out,hbz.trans (hb1.mono hbz.size)⟩
     case measure=>simp[intOf];omega
   ·have hf:=h_ (xRf (show ids.length≤20 by omega) (by rw[show ids.length=k by omega];exact HD.out))
    go_wp2
    go_ret
    exact⟨zU hf.out.symm,hb⟩
end
section
structure yd where
 number:Int
 id:Id32
 name:ByteArray
 date:Int
 subject:ByteArray
 refs:Value
 bytes:Int
def xK (g:yd):List Value:=.int .i64 g.number :: (xB g.id++[.string g.name,.int .i64 g.date,.string g.subject,g.refs,.int .i64 g.bytes])
def x9 (g:yd):Array Value:=(xK g).toArray
def yN (grp:ByteArray)(g:yd):Array Value:=(.string grp :: xK g).toArray
theorem yw (g:yd):(xK g).length=38:=by simp[xK,xF]
theorem xN (g:yd):(x9 g).size=38:=by simp[x9,yw]
theorem zI (s:ByteArray)(g:yd):(yN s g).size=39:=by simp[yN,yw]
theorem vY (g:yd)(j:Nat):(xK g)[33+j]?=[Value.string g.name,.int .i64 g.date,.string g.subject,g.refs,.int .i64 g.bytes][j]?:=by
 unfold xK
 rw[show 33+j=(32+j)+1 by omega,List.getElem?_cons_succ,List.getElem?_append_right (by rw[xF];omega),xF,show 32+j-32=j by omega]
theorem lc0 (g:yd):(x9 g)[0]?=some (.int .i64 g.number):=rfl
theorem lc33 (g:yd):(x9 g)[33]?=some (.string g.name):=by simpa[x9] using vY g 0
theorem lc34 (g:yd):(x9 g)[34]?=some (.int .i64 g.date):=by simpa[x9] using vY g 1
theorem lc35 (g:yd):(x9 g)[35]?=some (.string g.subject):=by simpa[x9] using vY g 2
theorem lc36 (g:yd):(x9 g)[36]?=some g.refs:=by simpa[x9] using vY g 3
theorem lc37 (g:yd):(x9 g)[37]?=some (.int .i64 g.bytes):=by simpa[x9] using vY g 4
theorem xD3 (s:ByteArray)(g:yd)(j:Nat):(yN s g)[j+1]?=(x9 g)[j]?:=by simp[yN,x9]
theorem rc0 (s:ByteArray)(g:yd):(yN s g)[0]?=some (.string s):=rfl
theorem rc1 (s:ByteArray)(g:yd):(yN s g)[1]?=some (.int .i64 g.number):=rfl
theorem rc34 (s:ByteArray)(g:yd):(yN s g)[34]?=some (.string g.name):=(xD3 s g 33).trans (lc33 g)
theorem rc35 (s:ByteArray)(g:yd):(yN s g)[35]?=some (.int .i64 g.date):=(xD3 s g 34).trans (lc34 g)
theorem rc36 (s:ByteArray)(g:yd):(yN s g)[36]?=some (.string g.subject):=(xD3 s g 35).trans (lc35 g)
theorem rc37 (s:ByteArray)(g:yd):(yN s g)[37]?=some g.refs:=(xD3 s g 36).trans (lc36 g)
theorem rc38 (s:ByteArray)(g:yd):(yN s g)[38]?=some (.int .i64 g.bytes):=(xD3 s g 37).trans (lc37 g)
def jk (g:yd):Prop:=g.refs.oneCell'=true
theorem uI {g:yd}(h:jk g):∀ v∈xK g,v.oneCell'=true:=by
 intro v hv
 simp only[xK,List.mem_cons,List.mem_append,List.mem_nil_iff,or_false] at hv
 rcases hv with rfl | hv | rfl | rfl | rfl | rfl | rfl
 ·rfl
 ·exact uS _ v hv
 ·rfl
 ·rfl
 ·rfl
 ·exact h
 ·rfl
theorem ub {g:yd}(h:jk g):xy 38 (x9 g)=true:=zT (xN g) (by
 rw[Array.all_eq_true_iff_forall_mem];intro v hv;exact uI h v (by simpa[x9] using hv))
theorem xPs {cs:Array Value}{n:Nat}(h:cs.size=n):cs.extract 0 (0+n)=cs:=by subst h;simp
theorem xAo (w:World)(g:yd)(t:Nat):xq (w.alloc (.cells (x9 g) t)) ⟨w.heap.size,0,none⟩ 38=true:=xH8 w _ t 0 38 (by rw[xN];omega)
theorem xAi (w:World)(g:yd)(t:Nat):xp (w.alloc (.cells (x9 g) t)) ⟨w.heap.size,0,none⟩ 38=x9 g:=by
 rw[xGz w _ t 0 38 (by rw[xN];omega)];exact xPs (xN g)
theorem xD9 (w:World)(s:ByteArray)(g:yd)(t:Nat):xq (w.alloc (.cells (yN s g) t)) ⟨w.heap.size,0,none⟩ 39=true:=xH8 w _ t 0 39 (by rw[zI];omega)
theorem xD2 (w:World)(s:ByteArray)(g:yd)(t:Nat):xp (w.alloc (.cells (yN s g) t)) ⟨w.heap.size,0,none⟩ 39=yN s g:=by
 rw[xGz w _ t 0 39 (by rw[zI];omega)];exact xPs (zI s g)
theorem xI6 (g:yd):(x9 g).extract 1 (1+32)=(xB g.id).toArray:=by
 apply Array.ext'
 simp[x9,xK,xF]
theorem xFe (s:ByteArray)(g:yd):(yN s g).extract 2 (2+32)=(xB g.id).toArray:=by
 apply Array.ext'
 simp[yN,xK,xF]
theorem xH9 (w:World)(g:yd)(t:Nat):xq (w.alloc (.cells (x9 g) t)) ⟨w.heap.size,1,none⟩ 32=true:=xH8 w _ t 1 32 (by rw[xN];omega)
theorem xH0 (w:World)(g:yd)(t:Nat):xp (w.alloc (.cells (x9 g) t)) ⟨w.heap.size,1,none⟩ 32=(xB g.id).toArray:=by
 rw[xGz w _ t 1 32 (by rw[xN];omega)];exact xI6 g
theorem xF7 (w:World)(s:ByteArray)(g:yd)(t:Nat):xq (w.alloc (.cells (yN s g) t)) ⟨w.heap.size,2,none⟩ 32=true:=xH8 w _ t 2 32 (by rw[zI];omega)
theorem xF2 (w:World)(s:ByteArray)(g:yd)(t:Nat):xp (w.alloc (.cells (yN s g) t)) ⟨w.heap.size,2,none⟩ 32=(xB g.id).toArray:=by
 rw[xGz w _ t 2 32 (by rw[zI];omega)];exact xFe s g
theorem yp (ρ:Operand→Value)(d:Option Tmp)(x:Operand)(ty:TypeId)(pos:String)(af:Array Edge)(g:Option (Nat × Bool))(w:World) :
  Sem.run Tryz.prog (execOp ρ ⟨d,.load 49 x,ty,pos,af,g⟩) w=yx Tryz.prog 49 w (ρ x):=rfl
theorem yh (ρ:Operand→Value)(d:Option Tmp)(x y:Operand)(ty:TypeId)(pos:String)(af:Array Edge)(g:Option (Nat × Bool))(w:World) :
  Sem.run Tryz.prog (execOp ρ ⟨d,.store 49 x y,ty,pos,af,g⟩) w=ym Tryz.prog 49 w (ρ x) (ρ y):=rfl
theorem zG (w:World)(a:Addr)(h:xq w a 38=true):yx Tryz.prog 49 w (.pointer (some a))=.ok (.value (.agg (xp w a 38))) w :=
 yo Tryz.isAgg49 Tryz.sizeOf49 w a h
theorem zF (w:World)(g:Nat)(cells:Array Value)(h:xP w g 38=true)(h2:xy 38 cells=true) :
  ym Tryz.prog 49 w (.pointer (some ⟨g,0,none⟩)) (.agg cells)=.ok .skip (w.setRow g cells):=yr (by kernel_rfl) w g cells h h2
def xH:yd:=⟨0,uG,⟨#[]⟩,0,⟨#[]⟩,.slice none 0 0,0⟩
theorem yq (ρ:Operand→Value)(d:Option Tmp)(ty:TypeId)(pos:String)(af:Array Edge)(g:Option (Nat × Bool))(w:World) :
  Sem.run Tryz.prog (execOp ρ ⟨d,.alloc 49,ty,pos,af,g⟩) w=.ok (.value (.pointer (some ⟨w.heap.size,0,none⟩))) (w.alloc (.cells (x9 xH) 49)):=by kernel_rfl
theorem yB (ρ:Operand→Value)(d:Option Tmp)(ty:TypeId)(pos:String)(af:Array Edge)(g:Option (Nat × Bool))(w:World) :
  Sem.run Tryz.prog (execOp ρ ⟨d,.build 49 #[],ty,pos,af,g⟩) w=.ok (.value (.agg (x9 xH))) w:=by kernel_rfl
attribute [local go_sem ↓] xV xO yp yh
attribute [local go_sem] zx zA zG zF yW xj xh xe xd xAp xAj xA u9 qa xt xC xx kS vC js
attribute [local go_sem] lc0 lc33 lc34 lc35 lc36 lc37 rc0 rc1 rc34 rc35 rc36 rc37 rc38 xAo xAi xD9 xD2 xH9 xH0 xF7 xF2
def jT:List Int→Int
 | []=>0
 | e :: r=>if e=0 then jT r else e
theorem xAm:∀ (l:List Int),(∀ e∈l,e=0)→∀ r,jT (l++r)=jT r
 | [],_,_=>rfl
 | e :: l,h,r=>by
  have h0:e=0:=h e (by simp)
  rw[List.cons_append,jT,if_pos h0]
  exact xAm l (fun x hx=>h x (by simp[hx])) r
theorem xUk {es:List Int}{k:Nat}(hlt:k<es.length)(hz:∀ j,j<k→es[j]! = 0)(hk:es[k]!≠0):jT es=es[k]!:=by
 have e1:es=es.take k++es[k] :: es.drop (k+1):=by simp
 rw[e1,xAm (es.take k) (fun x hx=>by
  obtain⟨j,hj,rfl⟩:=List.mem_take_iff_getElem.1 hx
  have:=hz j (by omega)
  simpa[show j<es.length by omega] using this)]
 have:es[k]! = es[k]:=by simp[hlt]
 rw[←e1,this]
 rw[this] at hk
 simp[jT,hk]
theorem xRo {es:List Int}(hz:∀ j,j<es.length→es[j]! = 0):jT es=0:=by
 have:=xAm es (fun x hx=>by
  obtain⟨j,hj,rfl⟩:=List.mem_iff_getElem.1 hx
  simpa[hj] using hz j hj) []
 simpa[jT] using this
theorem yAo (b:Nat)(c:Nat)(es:List Int)(w:World)(hm:es.length≤1000)(h:∀ j,j<es.length→w.cell? ⟨b,j,none⟩=some (.int .i64 es[j]!)) :
  Calls Tryz.prog 296 #[.slice (some ⟨b,0,none⟩) es.length c] w fun r w'=>r=.returned (.int .i64 (jT es))∧w=w':=by
 have H:=h_ h
 clear h
 go_enter Tryz.func296,Tryz.ntmps296
 go_wp2
 go_loop [8] (fun i=>∃ k:Nat,k≤es.length∧i=.int .i64 k∧∀ j,j<k→es[j]! = 0) (fun i=>es.length-(intOf i).toNat)
 case atStart=>exact⟨0,Nat.zero_le _,rfl,fun j hj=>absurd hj (Nat.not_lt_zero _)⟩
 case round =>
  obtain⟨k,hk,rfl,hz⟩:=hrel
  have HZ:=h_ hz
  clear hz
  by_cases hlt:k<es.length
  ·have hltz:(k:Int)<(es.length:Int):=by omega
   have hc:=H.out k hlt
   generalize hx:es[k]! = x at hc
   have HX:=h_ hx
   clear hx
   by_cases h0:x=0
   ·have h0':(x != 0)=false:=by simp[h0]
    have hn:=h_ (show ∀ j,j<k+1→es[j]! = 0 from fun j hj=>by
     by_cases e:j=k
     ·rw[e,HX.out,h0]
     ·exact HZ.out j (by omega))
    clear h0
    go_wp2
    go_round
    case rel=>exact⟨k+1,by omega,by go_num,hn.out⟩
    case measure=>simp[intOf];omega
   ·have h0':(x != 0)=true:=by simp[h0]
    have hf:=h_ (show jT es=x by rw[xUk hlt HZ.out (by rw[HX.out];exact h0),HX.out])
    clear h0
    go_wp2
    go_ret
    exact⟨zU hf.out.symm,rfl⟩
  ·have hf:=h_ (xRo (es:=es) (by rw[show es.length=k by omega];exact HZ.out))
   go_wp2
   go_ret
   exact⟨zU hf.out.symm,rfl⟩
def xG4 (g:yd)(ids:List Id32):Int :=
 jT [uO g.number 1 2147483646 2,qH g.name.data.toList 60,uO g.date 0 105190559 13,qH g.subject.data.toList 200,vN ids,uO g.bytes 0 65536 2]
theorem or6 (a b c d e f:Int)(w:World) :
  Calls Tryz.prog 296 #[.slice (some ⟨w.heap.size,0,none⟩) 6 6] (w.alloc (.cells #[.int .i64 a,.int .i64 b,.int .i64 c,.int .i64 d,.int .i64 e,.int .i64 f] 24))
   fun r w'=>r=.returned (.int .i64 (jT [a,b,c,d,e,f]))∧w.alloc (.cells #[.int .i64 a,.int .i64 b,.int .i64 c,.int .i64 d,.int .i64 e,.int .i64 f] 24)=w' :=
 yAo w.heap.size 6 [a,b,c,d,e,f] _ (by simp) (fun j hj=>by
  rw[yy]
  have:j=0∨j=1∨j=2∨j=3∨j=4∨j=5:=by simp at hj;omega
  rcases this with rfl | rfl | rfl | rfl | rfl | rfl <;> rfl)
structure xEr (w:World)(g:yd)(ids:List Id32):Prop where
 refs:xDz w g.refs ids
 len:ids.length≤maxLen
 name:g.name.size≤maxLen
 subject:g.subject.size≤maxLen
theorem xEr.below {w w':World}{g:yd}{ids:List Id32}(h:xEr w g ids)(hb:Below w.heap.size w w'):xEr w' g ids:=⟨h.refs.below hb,h.len,h.name,h.subject⟩
theorem xDz.one {w:World}{v:Value}{ids:List Id32}(h:xDz w v ids):v.oneCell'=true:=by
 obtain⟨a,c,rfl,_⟩:=h;rfl
theorem xJc (g:yd)(ids:List Id32)(w:World)(h:xEr w g ids) :
  Calls Tryz.prog 257 #[.agg (x9 g)] w fun r w'=>r=.returned (.int .i64 (xG4 g ids))∧Below w.heap.size w w':=by
 have hbw:Below w.heap.size w (w.alloc (.cells (x9 g) 49)):=(Below.refl _ _).alloc (Nat.le_refl _) _
 have hok:=h_ (h.below hbw)
 have HBW:=h_ hbw
 clear hbw
 obtain⟨W,hW⟩:∃ W,w.alloc (.cells (x9 g) 49)=W:=⟨_,rfl⟩
 have c0:∀ z:xf W,z.1.cell? ⟨w.heap.size,0,none⟩=some (.int .i64 g.number):=fun z=>z.cell (by rw[←hW,yy];exact lc0 g)
 have c33:∀ z:xf W,z.1.cell? ⟨w.heap.size,33,none⟩=some (.string g.name):=fun z=>z.cell (by rw[←hW,yy];exact lc33 g)
 have c34:∀ z:xf W,z.1.cell? ⟨w.heap.size,34,none⟩=some (.int .i64 g.date):=fun z=>z.cell (by rw[←hW,yy];exact lc34 g)
 have c35:∀ z:xf W,z.1.cell? ⟨w.heap.size,35,none⟩=some (.string g.subject):=fun z=>z.cell (by rw[←hW,yy];exact lc35 g)
 have c36:∀ z:xf W,z.1.cell? ⟨w.heap.size,36,none⟩=some g.refs:=fun z=>z.cell (by rw[←hW,yy];exact lc36 g)
 have c37:∀ z:xf W,z.1.cell? ⟨w.heap.size,37,none⟩=some (.int .i64 g.bytes):=fun z=>z.cell (by rw[←hW,yy];exact lc37 g)
 have HW:=h_ hW
 go_enter Tryz.func257,Tryz.ntmps257
 go_wp2
 clear hW
 refine kG 18 (fun w'=>∃ z:xf W,w'=z.1) (by kernel_rfl) (by kernel_rfl) ⟨⟨_,(Below.refl _ _).drew⟩,rfl⟩ ?_
 simp only[List.take_succ_cons,List.take_zero,List.drop_succ_cons,List.drop_zero]
 repeat (go_big_quiet_step (first | (go_at_call 297;exact xf.call_same (xIl _ _ _ _ _)) | (go_at_call 294;exact xf.call_same (xJs _ _ _ (by first | exact h.name | exact h.subject))) | (go_at_call 298;exact xf.call (xBr _ _ _ ((HW.out ▸ hok.out:xEr W g ids).refs.below (Subtype.property _)) h.len))))
 refine wpQuiet_nil ?_
 rintro _ ⟨z,rfl⟩
 have hz:=z.2
 generalize z.1=wz at hz ⊢
 clear c0 c33 c34 c35 c36 c37
 go_wp2_with fail
 refine(or6 _ _ _ _ _ _ _).mono ?_
 rintro e w1 ⟨rfl,rfl⟩
 go_wp2
 go_ret
 refine⟨rfl,?_⟩
 have h1:Below w.heap.size w wz:=HBW.out.trans (by rw[HW.out];exact hz.mono (by rw[←HW.out];simp))
 exact h1.alloc h1.size _
end
section
attribute [local go_sem ↓] xV xO
attribute [local go_sem] zx zA yW xj xh xe xd xAp xAj xA u9 qa xt xC xx kS vC js
def str (l:List UInt8):ByteArray:=⟨l.toArray⟩
theorem xVx (l:List UInt8):(str l).size=l.length:=by simp[str,ByteArray.size]
theorem yA8 (s:ByteArray):str s.data.toList=s:=rfl
end
def jJ (w:World)(b off:Nat)(xs:List ByteArray):Prop:=∀ (j:Nat) (x:ByteArray),xs[j]?=some x→w.cell? ⟨b,off+j,none⟩=some (.string x)
def xLv:List Int:=[1116352408,1899447441,3049323471,3921009573,961987163,1508970993,2453635748,2870763221,3624381080,310598401,607225278,1426881987,1925078388,2162078206,2614888103,3248222580,3835390401,4022224774,264347078,604807628,770255983,1249150122,1555081692,1996064986,2554220882,2821834349,2952996808,3210313671,3336571891,3584528711,113926993,338241895,666307205,773529912,1294757372,1396182291,1695183700,1986661051,2177026350,2456956037,2730485921,2820302411,3259730800,3345764771,3516065817,3600352804,4094571909,275423344,430227734,506948616,659060556,883997877,958139571,1322822218,1537002063,1747873779,1955562222,2024104815,2227730452,2361852424,2428436474,2756734187,3204031479,3329325298]
theorem xJ1:xLv.length=64:=by decide +kernel
structure Gl (w:World):Prop where
 tab : Lib.TabIs Tryz.prog w "internal/strconv.uint64pow10" .u64 Lib.pow10Tab
 len:∃ m:Int,w.cell? ⟨0,0,none⟩=some (.int .i64 m)
 sha : Lib.TabIs Tryz.prog w "bulletin/sha256.constants" .u32 xLv
 size:Tryz.prog.globals.size≤w.heap.size
theorem xXo:1<Tryz.prog.globals.size:=by decide +kernel
theorem xXp:0<Tryz.prog.globals.size:=by decide +kernel
theorem xAv:2<Tryz.prog.globals.size:=by decide +kernel
theorem Gl.below {w w':World}(h:Gl w){B:Nat}(hb:Below B w w')(hB:Tryz.prog.globals.size≤B):Gl w' where
 tab:=by
  have hg : Tryz.prog.globalNamed "internal/strconv.uint64pow10" = some 1 := by kernel_rfl
  unfold Lib.TabIs
  refine var?_below hb hg ?_ h.tab
  have:=xXo
  omega
 len:=by
  obtain⟨m,hm⟩:=h.len
  refine⟨m,(hb.cell (p:=⟨0,0,none⟩) ?_).trans hm⟩
  have:=xXp
  show 0<B
  omega
 sha:=by
  have hg : Tryz.prog.globalNamed "bulletin/sha256.constants" = some 2 := by kernel_rfl
  unfold Lib.TabIs
  refine var?_below hb hg ?_ h.sha
  have:=xAv
  omega
 size:=Nat.le_trans h.size hb.size
theorem Gl.later {w w':World}(h:Gl w)(hb:Below w.heap.size w w'):Gl w':=h.below hb h.size
section
theorem xVs (K:Nat→Int):∀ (f:Nat) (s:HS) (cs:List UInt8),cs.length≤f→(wrGo K f s cs).n=s.n+cs.length
 | 0,s,cs,h=>by
  have:cs.length=0:=by omega
  rw[wrGo,this];rfl
 | f+1,s,cs,h=>by
  rw[wrGo]
  split
  ·omega
  ·rw[xVs K f _ _ (by rw[List.length_drop];omega),List.length_drop]
   simp only[kc]
   omega
theorem xYr (K:Nat→Int)(s:HS)(cs:List UInt8):(jK K s cs).n=s.n+cs.length:=by
 unfold jK
 rw[xVs K _ _ _ (Nat.le_refl _)]
 split <;> rfl
noncomputable def sumB (K:Nat→Int)(c:List UInt8):List UInt8:=sumF K (jK K vA c)
theorem jM (K:Nat→Int)(c:List UInt8):(sumB K c).length=32:=qT _ _
attribute [local go_sem ↓] xB4 kU kW kh
attribute [local go_sem] xRs xR2 xMg xLo xj xh xe xd xA xz xo xl xt xC xx
theorem xF0 {w w':World}{g n:Nat}(h:xP w g n=true)(hb:Below w.heap.size w w'):xP w' g n=true:=by
 obtain⟨c,T,hc,_⟩:=uz h
 have hl:=(i_ hc).1
 unfold xP at h ⊢
 rw[hb.block _ hl];exact h
theorem xYs (K:Nat→Int)(a:Addr)(c:List UInt8)(cap:Nat)(W:World)(hs:SlB W a c)(hK:Sk K W)(hc:c.length≤1000000)(hcap:c.length≤cap)(ha:a.block<W.heap.size) :
  Calls Tryz.prog 184 #[.slice (some a) c.length cap] W fun e W'=>e=.returned (.agg (encB (sumB K c)).toArray)∧Below W.heap.size W W':=by
 have HSL:=h_ hs
 have HK:=h_ hK
 have hgl:=hK.lt
 clear hs hK
 go_enter Tryz.func184,Tryz.ntmps184
 go_wp2_with (go_at_call 210;refine(xXd _).mono ?_;rintro e w1 ⟨rfl,hw1⟩)
 have hb1:Below W.heap.size W w1:=by rw[hw1];exact((Below.refl _ _).alloc (Nat.le_refl _) _).alloc (by simp) _
 have hh1:zm w1 (W.heap.size+1) vA:=by
  have:=xXi (W.alloc (.cells (encB (List.replicate 32 0)).toArray 321))
  rw[World.size_alloc] at this
  rw[hw1];exact this
 have hr1:xP w1 W.heap.size 32=true:=by
  rw[hw1]
  exact qa _ (u9 _ _ _ _ _ rfl rfl)
 rw[←hw1]
 clear hw1
 have hsl1:SlB w1 a c:=⟨fun j u hj=>(hb1.cell (by rw[y9];exact ha)).trans (HSL.out.cell j u hj)⟩
 refine(xJv K (W.heap.size+1) vA a c cap w1 hh1 hsl1 (by omega) hcap (by simp[vA];omega) (HK.out.below hb1 (Nat.le_refl _)) (by omega)).mono ?_
 rintro e w2 ⟨rfl,hg2,hh2⟩
 have hb2:Below W.heap.size W w2:=xQi hb1 hg2 hb1.size (by omega)
 have hr2:xP w2 W.heap.size 32=true:=by
  have hl:W.heap.size<w1.heap.size:=by have:=hh1.lt;omega
  have:=hr1
  unfold xP at this ⊢
  rw[hg2.block _ hl (fun e=>by injection e with e;omega)];exact this
 have HB2:=h_ hb2
 have HH2:=h_ hh2
 have HR2:=h_ hr2
 clear hb2 hh2 hr2 hg2 hb1 hh1 hr1 hsl1
 have hn:(jK K vA c).n≤1000000:=by rw[xYr];simp[vA];omega
 have HN:=h_ hn
 clear hn
 go_wp2_with (go_at_call 212;refine(xXb K _ _ _ HH2.out (HK.out.below HB2.out (Nat.le_refl _)) HN.out).mono ?_;rintro e w3 ⟨rfl,hb3⟩;have hro3:=xF0 HR2.out hb3;have hft:=xI4 (jM K c);unfold sumB at hft)
 obtain⟨cs,T,hcs,_⟩:=uz hro3
 have r:=xI (setRow_heap w3 W.heap.size cs (encB (sumB K c)).toArray T (0,0) hcs) (show (encB (sumB K c)).toArray.size=32 by rw[qu,jM])
 have hb7:=xJ (HB2.out.trans (hb3.mono HB2.out.size)) (Nat.le_refl _) (encB (sumB K c)).toArray
 refine bodyPost_ret (zM rfl Tryz.isAgg321 Tryz.sizeOf321 _ _ ⟨W.heap.size,0,none⟩ (encB (sumB K c)).toArray rfl ?_ ?_) rfl ⟨rfl,hb7⟩
 ·exact r.1
 ·exact r.2
def shaK (t:Nat):Int:=xLv.getD t 0
noncomputable def sha (c:List UInt8):List UInt8:=(sumB shaK c).take 16
theorem yV (c:List UInt8):(sha c).length=16:=by unfold sha;rw[List.length_take,jM];rfl
def qF (w:World):Prop:=Sk shaK w
theorem xEy (a:Addr)(c:List UInt8)(cap:Nat)(W:World)(hs:SlB W a c)(hK:qF W)(hc:c.length≤1000000)(hcap:c.length≤cap)(ha:a.block<W.heap.size) :
  Calls Tryz.prog 147 #[.slice (some a) c.length cap] W fun e W'=>e=.returned (.agg (encB (sha c)).toArray)∧Below W.heap.size W W':=by
 have HSL:=h_ hs
 have HK:=h_ hK
 clear hs hK
 have hft:=xI4 (jM shaK c)
 go_enter Tryz.func147,Tryz.ntmps147
 go_wp2_with (go_at_call 184;refine(xYs shaK a c cap _ ⟨fun j u hj=>Lib.cell?_alloc_some _ (HSL.out.cell j u hj)⟩ (Sk.below HK.out ((Below.refl _ _).alloc (Nat.le_refl _) _) (Nat.le_refl _)) hc hcap (by simp;omega)).mono ?_;rintro e w1 ⟨rfl,hb1⟩)
 have hb0:Below W.heap.size W w1:=((Below.refl W.heap.size W).alloc (Nat.le_refl _) _).trans (hb1.mono (by simp))
 have hr1:xP w1 W.heap.size 16=true:=xF0 (u9 W _ 276 W.heap.size 16 rfl rfl) hb1
 have hat:∀ w,Sem.run Tryz.prog (Instr.arrayAt 276 (.slice (some ⟨w1.heap.size,0,none⟩) 16 32)) w=.ok (.pointer (some ⟨w1.heap.size,0,none⟩)) w:=fun w=>by
  have hu:Tryz.prog.underlying 276=some (.array 16 5):=by kernel_rfl
  simp[Instr.arrayAt,run_underlying hu]
 have hnew:(w1.alloc (.cells (encB (sumB shaK c)).toArray 321)).heap[w1.heap.size]?=some (.cells (encB (sumB shaK c)).toArray 321 (0,0)):=heap_alloc_new w1 _
 have rd:xq (w1.alloc (.cells (encB (sumB shaK c)).toArray 321)) ⟨w1.heap.size,0,none⟩ 16=true∧xp (w1.alloc (.cells (encB (sumB shaK c)).toArray 321)) ⟨w1.heap.size,0,none⟩ 16=(encB (sha c)).toArray:=by
  have:=y7 (w:=w1.alloc (.cells (encB (sumB shaK c)).toArray 321)) (a:=⟨w1.heap.size,0,none⟩) (cs:=encB (sha c)) (fun j v hj=>by
   rw[Addr.add_lit,Nat.zero_add,cell_of_row _ _ _ _ _ _ hnew,List.getElem?_toArray]
   have hj2:j<16:=by
    rcases Nat.lt_or_ge j 16 with h | h
    ·exact h
    ·rw[List.getElem?_eq_none (by rw[xM,yV];exact h)] at hj;cases hj
   unfold sha encB at hj
   rw[List.getElem?_map,List.getElem?_take_of_lt hj2] at hj
   unfold encB
   rw[List.getElem?_map];exact hj)
  rwa [xM,yV] at this
 have r1:=rd.1
 have r2:=rd.2
 have hb2:Below W.heap.size W (w1.alloc (.cells (encB (sumB shaK c)).toArray 321)):=hb0.alloc hb0.size _
 have hr2:xP (w1.alloc (.cells (encB (sumB shaK c)).toArray 321)) W.heap.size 16=true:=qa _ hr1
 have hfh:=xI4 (yV c)
 obtain⟨w2,hw2⟩:∃ w2,w2=w1.alloc (.cells (encB (sumB shaK c)).toArray 321):=⟨_,rfl⟩
 rw[←hw2] at r1 r2 hb2 hr2 ⊢
 have HB2:=h_ hb2
 clear hb1 hb0 hr1 rd hnew hw2 hb2
 rw[hat]
 go_simp
 go_wp2
 obtain⟨cs,T,hcs,_⟩:=uz hr2
 have r:=xI (setRow_heap w2 W.heap.size cs (encB (sha c)).toArray T (0,0) hcs) (show (encB (sha c)).toArray.size=16 by rw[qu,yV])
 have hb7:=xJ HB2.out (Nat.le_refl _) (encB (sha c)).toArray
 refine bodyPost_ret (zM rfl Tryz.isAgg276 Tryz.sizeOf276 _ _ ⟨W.heap.size,0,none⟩ (encB (sha c)).toArray rfl ?_ ?_) rfl ⟨rfl,hb7⟩
 ·exact r.1
 ·exact r.2
theorem qZ {w:World}(h:Gl w):qF w:=⟨fun t ht=>by
 have hg : Tryz.prog.globalNamed "bulletin/sha256.constants" = some 2 := by kernel_rfl
 exact h.sha.cell hg t (by rw[xJ1];exact ht)⟩
end
end Go.Proofs.YthiafifdiaplaaaGreatDoor
namespace Go.Proofs.YthiafifdiaplaaaGreatDoor
abbrev By:=List UInt8
def beB:Nat→Nat→By
 | 0,_=>[]
 | k+1,n=>UInt8.ofNat (n / 256 ^ k) :: beB k n
def deB (l:By):Nat:=l.foldl (fun n b=>n*256+b.toNat) 0
theorem xv:∀ (k n:Nat),(beB k n).length=k
 | 0,_=>rfl
 | k+1,n=>by simp[beB,xv k n]
theorem jI (k n x:Nat)(h:k≤n):(beB k x).drop n=[]:=List.drop_eq_nil_of_le (by rw[xv];exact h)
theorem xIe:∀ (l:By) (a:Nat),l.foldl (fun n b=>n*256+b.toNat) a=a*256 ^ l.length+deB l
 | [],a=>by simp[deB]
 | b :: l,a=>by
  have h1:=xIe l (a*256+b.toNat)
  have h2:=xIe l (0*256+b.toNat)
  unfold deB at *
  simp only[List.foldl_cons,List.length_cons]
  rw[h1,h2,Nat.pow_succ,Nat.zero_mul,Nat.zero_add,Nat.add_mul,Nat.mul_assoc,Nat.mul_comm 256 (256 ^ l.length),Nat.add_assoc]
theorem xQ8 (b:UInt8)(l:By):deB (b :: l)=b.toNat*256 ^ l.length+deB l:=by
 have:=xIe l b.toNat
 simpa[deB] using this
theorem xN9:∀ (l:By),deB l<256 ^ l.length
 | []=>by simp[deB]
 | b :: l=>by
  rw[xQ8,List.length_cons,Nat.pow_succ]
  have h1:=xN9 l
  have h2:=b.toNat_lt
  have h3:b.toNat*256 ^ l.length≤255*256 ^ l.length:=Nat.mul_le_mul_right _ (by omega)
  omega
theorem k9:∀ (k n:Nat),deB (beB k n)=n % 256 ^ k
 | 0,n=>by simp[beB,deB,Nat.mod_one]
 | k+1,n=>by
  rw[beB,xQ8,xv,k9 k n]
  have h:(UInt8.ofNat (n / 256 ^ k)).toNat=n / 256 ^ k % 256:=by simp
  rw[h,Nat.pow_succ,Nat.mod_mul,Nat.mul_comm,Nat.add_comm]
structure zk where
 kind:Int
 gen:Int
 num:Int
 idx:Int
 cnt:Int
 bytes:By
def kE (kind gen num:Int):Prop:=0≤kind∧kind≤65535∧0≤gen∧gen≤2147483647∧0≤num∧num≤2147483647
def zk.Ok (p:zk):Prop :=
 kE p.kind p.gen p.num∧1≤p.cnt∧p.cnt≤586∧0≤p.idx∧p.idx<p.cnt∧p.bytes.length≤224 ∧
 (p.idx=p.cnt-1→(p.cnt≤1∨0<p.bytes.length)∧p.idx*224+p.bytes.length≤131072)∧(p.idx≠p.cnt-1→p.bytes.length=224)
variable (H:By→By)
def hdB (p:zk):By:=beB 4 p.gen.toNat++beB 4 p.num.toNat++beB 2 p.kind.toNat++beB 2 p.idx.toNat++beB 2 p.cnt.toNat++beB 2 p.bytes.length
def um (p:zk):By:=hdB p++p.bytes++List.replicate (224-p.bytes.length) 0
def encP (p:zk):By:=H (um p)++um p
def rawP (c:By):zk:=⟨deB ((c.drop 8).take 2),deB (c.take 4),deB ((c.drop 4).take 4),deB ((c.drop 10).take 2),deB ((c.drop 12).take 2),(c.drop 16).take (deB ((c.drop 14).take 2))⟩
open Classical in
noncomputable def decC (d c:By):Option zk :=
 if H c=d∧deB ((c.drop 14).take 2)≤224∧(c.drop (16+deB ((c.drop 14).take 2))).all (· == 0)=true∧(rawP c).Ok then some (rawP c) else none
noncomputable def decP (b:By):Option zk:=decC H (b.take 16) (b.drop 16)
theorem vD (p:zk):(hdB p).length=16:=by simp[hdB,xv]
theorem xNd {p:zk}(h:p.bytes.length≤224):(um p).length=240:=by simp[um,vD];omega
theorem xQ4 (hH:∀ c,(H c).length=16){p:zk}(h:p.bytes.length≤224):(encP H p).length=256:=by simp[encP,hH,xNd h]
theorem xWo {p:zk}(h:p.Ok):rawP (um p)=p:=by
 obtain⟨⟨h1,h3,h4,h5,h6,h7⟩,h8,h9,h10,h11,hl,_⟩:=h
 have e1:(um p).take 4=beB 4 p.gen.toNat:=by simp[um,hdB,xv]
 have e2:((um p).drop 4).take 4=beB 4 p.num.toNat:=by simp[um,hdB,xv]
 have e3:((um p).drop 8).take 2=beB 2 p.kind.toNat:=by simp[um,hdB,xv,jI,List.drop_append]
 have e4:((um p).drop 10).take 2=beB 2 p.idx.toNat:=by simp[um,hdB,xv,jI,List.drop_append]
 have e5:((um p).drop 12).take 2=beB 2 p.cnt.toNat:=by simp[um,hdB,xv,jI,List.drop_append]
 have e6:((um p).drop 14).take 2=beB 2 p.bytes.length:=by simp[um,hdB,xv,jI,List.drop_append]
 have e7:((um p).drop 16).take p.bytes.length=p.bytes:=by simp[um,hdB,xv,jI,List.drop_append]
 have f6:deB (beB 2 p.bytes.length)=p.bytes.length:=by rw[k9];omega
 unfold rawP
 rw[e1,e2,e3,e4,e5,e6,f6,e7]
 simp only[k9]
 cases p
 simp only[zk.mk.injEq,and_true]
 simp only at *
 refine⟨?_,?_,?_,?_,?_⟩ <;> omega
theorem xG8 (hH:∀ c,(H c).length=16){p:zk}(h:p.Ok):decP H (encP H p)=some p:=by
 have hl:=h.2.2.2.2.2.1
 have hr:=xWo h
 have e0:(encP H p).drop 16=um p:=by simp[encP,hH]
 have e1:(encP H p).take 16=H (um p):=by simp[encP,hH]
 have e6:((um p).drop 14).take 2=beB 2 p.bytes.length:=by simp[um,hdB,xv,jI,List.drop_append]
 have f6:deB (beB 2 p.bytes.length)=p.bytes.length:=by rw[k9];omega
 have hz:(um p).drop (16+p.bytes.length)=List.replicate (224-p.bytes.length) 0:=by
  rw[←List.drop_drop]
  simp[um,hdB,xv,jI,List.drop_append]
 unfold decP
 rw[e0,e1]
 unfold decC
 rw[if_pos,hr]
 rw[e6,f6,hr,hz]
 exact⟨rfl,hl,by simp,h⟩
theorem xY4:decP H (List.replicate 256 0)=none:=by
 unfold decP decC
 refine if_neg ?_
 rintro ⟨_,_,_,h⟩
 have h1:=h.2.1
 have h2:(rawP ((List.replicate 256 (0:UInt8)).drop 16)).cnt=0:=by decide
 omega
structure PRec where
 kind:Int
 gen:Int
 num:Int
 pay:By
def xY (n:Nat):Nat:=max 1 ((n+223) / 224)
def yX (r:PRec)(i:Nat):zk:=⟨r.kind,r.gen,r.num,i,xY r.pay.length,(r.pay.drop (i*224)).take 224⟩
def yf (r:PRec):List By:=(List.range (xY r.pay.length)).map fun i=>encP H (yX r i)
def PRec.Ok (r:PRec):Prop:=kE r.kind r.gen r.num∧r.pay.length≤131072
theorem zy (r:PRec):(yf H r).length=xY r.pay.length:=by simp[yf]
theorem xBc {r:PRec}(h:r.Ok){i:Nat}(hi:i<xY r.pay.length):(yX r i).Ok:=by
 obtain⟨h1,h2⟩:=h
 have hn:xY r.pay.length≤586:=by unfold xY;omega
 have hl:((r.pay.drop (i*224)).take 224).length=min 224 (r.pay.length-i*224):=by simp
 unfold xY at hi hn
 refine⟨h1,?_,?_,?_,?_,?_,fun h3=>⟨?_,?_⟩,fun h3=>?_⟩
 all_goals (try simp only[yX,xY] at h3)
 all_goals simp only[yX,xY,hl]
 all_goals omega
noncomputable def zB (p0:zk):Nat→List By→Option By
 | 0,_=>some []
 | _+1,[]=>none
 | n+1,b :: rest=>match decP H b with
  | none=>none
  | some p=>if p.kind=p0.kind∧p.gen=p0.gen∧p.num=p0.num∧p.cnt=p0.cnt∧p.idx=p0.cnt-(n+1:Nat) then (zB p0 n rest).map (p.bytes ++ ·) else none
noncomputable def uh:List By→Option (PRec × Nat)
 | []=>none
 | b :: rest=>match decP H b with
  | none=>none
  | some p=>if p.idx=0 then (zB H p (p.cnt.toNat-1) rest).map fun l=>(⟨p.kind,p.gen,p.num,p.bytes++l⟩,p.cnt.toNat) else none
theorem xC8 (l:By)(a n:Nat):(l.drop a).take n++l.drop (a+n)=l.drop a:=by
 rw[←List.drop_drop]
 exact List.take_append_drop n (l.drop a)
theorem xDe (hH:∀ c,(H c).length=16){r:PRec}(h:r.Ok)(rest:List By):∀ (n i:Nat),i+n=xY r.pay.length →
  zB H (yX r 0) n (((List.range' i n).map fun i=>encP H (yX r i))++rest)=some (r.pay.drop (i*224))
 | 0,i,hi=>by
  have:r.pay.length≤i*224:=by unfold xY at hi;omega
  simp[zB,List.drop_eq_nil_of_le this]
 | n+1,i,hi=>by
  have hp:decP H (encP H (yX r i))=some (yX r i):=xG8 H hH (xBc h (by omega))
  simp only[List.range'_succ,List.map_cons,List.cons_append,zB,hp]
  rw[if_pos ⟨rfl,rfl,rfl,rfl,by simp only[yX];omega⟩,xDe hH h rest n (i+1) (by omega)]
  simp only[Option.map_some,yX,Option.some.injEq]
  have e:(i+1)*224=i*224+224:=by omega
  rw[e]
  exact xC8 _ _ _
theorem xMj (hH:∀ c,(H c).length=16){r:PRec}(h:r.Ok)(rest:List By):uh H (yf H r++rest)=some (r,xY r.pay.length):=by
 have hn:1≤xY r.pay.length:=by unfold xY;omega
 obtain⟨m,hm⟩:∃ m,xY r.pay.length=m+1:=⟨xY r.pay.length-1,by omega⟩
 have hp:decP H (encP H (yX r 0))=some (yX r 0):=xG8 H hH (xBc h (by omega))
 have hs:yf H r=encP H (yX r 0) :: (List.range' 1 m).map fun i=>encP H (yX r i):=by
  unfold yf
  rw[hm,List.range_eq_range',List.range'_succ]
  rfl
 have hg:=xDe H hH h rest m 1 (by omega)
 rw[hs,List.cons_append]
 simp only[uh,hp]
 rw[if_pos (show (yX r 0).idx=0 from rfl)]
 have e1:(yX r 0).cnt.toNat-1=m:=by simp only[yX];omega
 rw[e1,hg]
 simp only[Option.map_some,yX,Option.some.injEq,Prod.mk.injEq]
 refine⟨?_,by omega⟩
 cases r
 simp only[PRec.mk.injEq,true_and]
 exact xC8 _ 0 224
noncomputable def zX (gen:Int):Nat→Int→List By→List PRec
 | 0,_,_=>[]
 | f+1,num,l=>match uh H l with
  | none=>[]
  | some (r,n)=>if l=[] then [] else if r.gen=gen∧r.num=num then r :: zX gen f (num+1) (l.drop n) else []
end Go.Proofs.YthiafifdiaplaaaGreatDoor
namespace Go.Proofs.YthiafifdiaplaaaGreatDoor
open Go Go.RowKit Go.Proofs
section
def xCo (l:List UInt8):Bool:=l.all (· == 0)
theorem xT3 {a b:Bool}(h:a=b):Ending.returned (.bool a)=.returned (.bool b):=by rw[h]
theorem xSk {l:List UInt8}{k:Nat}(h:k<l.length)(hb:(l.take k).all (· == 0)=true)(hc:l[k]=0):(l.take (k+1)).all (· == 0)=true:=by
 rw[List.take_succ_eq_append_getElem h,List.all_append,hb];simp[hc]
theorem xY9 {l:List UInt8}{k:Nat}(h:k<l.length)(hc:l[k]≠0):xCo l=false:=by
 rw[←Bool.not_eq_true]
 intro hb
 unfold xCo at hb
 rw[List.all_eq_true] at hb
 have:=hb l[k] (List.getElem_mem h)
 exact hc (by simpa using this)
theorem xPb (a:Option Addr)(l:List UInt8)(cap:Nat)(w:World)(hs:∀ p,a=some p→SlB w p l)(hn:a=none→l=[])(hl:l.length≤1000000) :
  Calls Tryz.prog 150 #[.slice a l.length cap] w fun e w'=>e=.returned (.bool (xCo l))∧w=w':=by
 have HS:=h_ hs
 have HN:=h_ hn
 clear hs hn
 go_enter Tryz.func150,Tryz.ntmps150
 go_wp2
 go_loop [7] (fun i=>∃ k:Nat,k≤l.length∧i=.int .i64 k∧(l.take k).all (· == 0)=true) (fun i=>l.length-(intOf i).toNat)
 case atStart=>exact⟨0,by omega,rfl,by simp⟩
 case round =>
  obtain⟨k,hk,rfl,hb⟩:=hrel
  by_cases hlt:k<l.length
  ·obtain⟨p,rfl⟩:∃ p,a=some p:=by
    cases a with
    | none=>have:=HN.out rfl;subst this;simp at hlt
    | some p=>exact⟨p,rfl⟩
   have hc:=(HS.out p rfl).cell k _ (List.getElem?_eq_getElem hlt)
   have HB:=h_ hb
   clear hb
   generalize hx:l[k]=x at hc
   have HX:=h_ hx
   clear hx
   by_cases h0:x=0
   ·subst h0
    have hn:=h_ (xSk hlt HB.out HX.out)
    go_wp2
    go_round
    case rel=>exact⟨k+1,by omega,by go_num,hn.out⟩
    case measure=>simp[intOf];omega
   ·have hf:=h_ (xY9 hlt (by rw[HX.out];exact h0))
    have hx1:((x.toNat:Int) == 0)=false:=by
     rw[beq_eq_false_iff_ne];intro e;exact h0 (UInt8.toNat_inj.1 (by simpa using e))
    have hx2:((x.toNat:Int) != 0)=true:=by rw[bne,hx1];rfl
    go_wp2
    go_ret
    exact⟨xT3 hf.out.symm,rfl⟩
  ·have hf:=h_ (show xCo l=true by rw[List.take_of_length_le (by omega)] at hb;exact hb)
   clear hb
   go_wp2
   go_ret
   exact⟨xT3 hf.out.symm,rfl⟩
theorem qs (ρ:Operand→Value)(d:Option Tmp)(x:Operand)(ty:TypeId)(pos:String)(af:Array Edge)(g:Option (Nat × Bool))(w:World) :
  Sem.run Tryz.prog (execOp ρ ⟨d,.load 217 x,ty,pos,af,g⟩) w=yx Tryz.prog 217 w (ρ x):=rfl
theorem uR (ρ:Operand→Value)(d:Option Tmp)(x y:Operand)(ty:TypeId)(pos:String)(af:Array Edge)(g:Option (Nat × Bool))(w:World) :
  Sem.run Tryz.prog (execOp ρ ⟨d,.store 217 x y,ty,pos,af,g⟩) w=ym Tryz.prog 217 w (ρ x) (ρ y):=rfl
theorem xBf (w:World)(a:Addr)(h:xq w a 6=true):yx Tryz.prog 217 w (.pointer (some a))=.ok (.value (.agg (xp w a 6))) w :=
 yo Tryz.isAgg217 Tryz.sizeOf217 w a h
theorem xB9 (w:World)(g:Nat)(cells:Array Value)(h:xP w g 6=true)(h2:xy 6 cells=true) :
  ym Tryz.prog 217 w (.pointer (some ⟨g,0,none⟩)) (.agg cells)=.ok .skip (w.setRow g cells):=yr (by kernel_rfl) w g cells h h2
theorem kj (ρ:Operand→Value)(d:Option Tmp)(x:Operand)(ty:TypeId)(pos:String)(af:Array Edge)(g:Option (Nat × Bool))(w:World) :
  Sem.run Tryz.prog (execOp ρ ⟨d,.load 300 x,ty,pos,af,g⟩) w=yx Tryz.prog 300 w (ρ x):=rfl
theorem xB2 (ρ:Operand→Value)(d:Option Tmp)(x y:Operand)(ty:TypeId)(pos:String)(af:Array Edge)(g:Option (Nat × Bool))(w:World) :
  Sem.run Tryz.prog (execOp ρ ⟨d,.store 300 x y,ty,pos,af,g⟩) w=ym Tryz.prog 300 w (ρ x) (ρ y):=rfl
theorem xHo (w:World)(a:Addr)(h:xq w a 3=true):yx Tryz.prog 300 w (.pointer (some a))=.ok (.value (.agg (xp w a 3))) w :=
 yo Tryz.isAgg300 Tryz.sizeOf300 w a h
theorem xO0 (w:World)(g:Nat)(cells:Array Value)(h:xP w g 3=true)(h2:xy 3 cells=true) :
  ym Tryz.prog 300 w (.pointer (some ⟨g,0,none⟩)) (.agg cells)=.ok .skip (w.setRow g cells):=yr (by kernel_rfl) w g cells h h2
theorem ki (ρ:Operand→Value)(d:Option Tmp)(x:Operand)(ty:TypeId)(pos:String)(af:Array Edge)(g:Option (Nat × Bool))(w:World) :
  Sem.run Tryz.prog (execOp ρ ⟨d,.load 324 x,ty,pos,af,g⟩) w=yx Tryz.prog 324 w (ρ x):=rfl
theorem jC (ρ:Operand→Value)(d:Option Tmp)(x y:Operand)(ty:TypeId)(pos:String)(af:Array Edge)(g:Option (Nat × Bool))(w:World) :
  Sem.run Tryz.prog (execOp ρ ⟨d,.store 324 x y,ty,pos,af,g⟩) w=ym Tryz.prog 324 w (ρ x) (ρ y):=rfl
theorem xHn (w:World)(a:Addr)(h:xq w a 5=true):yx Tryz.prog 324 w (.pointer (some a))=.ok (.value (.agg (xp w a 5))) w :=
 yo Tryz.isAgg324 Tryz.sizeOf324 w a h
theorem xGm (w:World)(g:Nat)(cells:Array Value)(h:xP w g 5=true)(h2:xy 5 cells=true) :
  ym Tryz.prog 324 w (.pointer (some ⟨g,0,none⟩)) (.agg cells)=.ok .skip (w.setRow g cells):=yr (by kernel_rfl) w g cells h h2
def zb (k g n i c:Int)(v:Value):List Value:=[.int .i64 k,.int .i64 g,.int .i64 n,.int .i64 i,.int .i64 c,v]
theorem xEe (a b c d e f:Value):jU #[a,b,c,d,e,f] 0 6=true:=rfl
theorem xE9 (a b c d e f:Value):jP #[a,b,c,d,e,f] 0 6=#[a,b,c,d,e,f]:=rfl
theorem xWu (a b c d e:Value):jU #[a,b,c,d,e] 0 5=true:=rfl
theorem xWm (a b c d e:Value):jP #[a,b,c,d,e] 0 5=#[a,b,c,d,e]:=rfl
theorem xZ4 (a b c d e:Value):jU #[a,b,c,d,e] 0 3=true:=rfl
theorem xZ0 (a b c d e:Value):jP #[a,b,c,d,e] 0 3=#[a,b,c]:=rfl
theorem yA0 (a b c d e:Value):((#[a,b,c,d,e]:Array Value).size == 5)=true:=rfl
theorem xK5 (a b c d e f:Value):((#[a,b,c,d,e,f]:Array Value).size == 6)=true:=rfl
theorem xXt (a b c d e:Int):xy 5 #[.int .i64 a,.int .i64 b,.int .i64 c,.int .i64 d,.int .i64 e]=true:=by simp[xy,Value.oneCell']
attribute [local go_sem ↓] qs kj ki jC uR
attribute [local go_sem] xBf xHo xHn xGm xB9 xEe xE9 xWu xWm xZ4 xZ0 yA0 xK5 xXt xj xh xe xd xA xz xo xl xt xC xx
theorem xEb (k g n i c:Int)(v:Value)(W:World) :
  Calls Tryz.prog 185 #[.agg (zb k g n i c v).toArray] W fun e W'=>e=.returned (.agg #[.int .i64 k,.int .i64 g,.int .i64 n,.int .i64 i,.int .i64 c])∧Below W.heap.size W W':=by
 unfold zb
 go_enter Tryz.func185,Tryz.ntmps185
 go_wp2
 refine bodyPost_ret (zM rfl Tryz.isAgg324 Tryz.sizeOf324 _ _ ⟨W.heap.size+1,0,none⟩ _ rfl ?_ ?_) rfl ⟨rfl,?_⟩
 ·go_simp
 ·go_simp
 ·exact((Below.refl _ _).alloc (Nat.le_refl _) _).alloc (by simp) _
def xL6 (k g n:Int)(W:World)(e:Ending)(W':World):Prop:=∃ b,e=.returned (.bool b)∧(b=true↔kE k g n)∧Below W.heap.size W W'
theorem jw {k g n:Int}{W W':World}{b:Bool}(h:b=true↔kE k g n)(hb:Below W.heap.size W W'):xL6 k g n W (.returned (.bool b)) W':=⟨b,rfl,h,hb⟩
theorem xE1 (k g n:Int)(W:World):Calls Tryz.prog 169 #[.agg #[.int .i64 k,.int .i64 g,.int .i64 n]] W (xL6 k g n W):=by
 have hb:=h_ (show Below W.heap.size W (W.alloc (.cells #[.int .i64 k,.int .i64 g,.int .i64 n] 300)) from (Below.refl _ _).alloc (Nat.le_refl _) _)
 by_cases h1:0≤k
 ·by_cases h2:k≤65535
  ·by_cases h3:0≤g
   ·by_cases h4:g≤2147483647
    ·by_cases h5:0≤n
     ·by_cases h6:n≤2147483647
      ·have hok:=h_ (show kE k g n from ⟨h1,h2,h3,h4,h5,h6⟩)
       go_enter Tryz.func169,Tryz.ntmps169
       go_wp2
       go_ret
       exact jw (by simp[hok.out]) hb.out
      ·have hok:=h_ (show ¬ kE k g n from fun h=>h6 h.2.2.2.2.2)
       go_enter Tryz.func169,Tryz.ntmps169
       go_wp2
       go_ret
       exact jw (by simp[hok.out]) hb.out
     ·have hok:=h_ (show ¬ kE k g n from fun h=>h5 h.2.2.2.2.1)
      go_enter Tryz.func169,Tryz.ntmps169
      go_wp2
      go_ret
      exact jw (by simp[hok.out]) hb.out
    ·have hok:=h_ (show ¬ kE k g n from fun h=>h4 h.2.2.2.1)
     go_enter Tryz.func169,Tryz.ntmps169
     go_wp2
     go_ret
     exact jw (by simp[hok.out]) hb.out
   ·have hok:=h_ (show ¬ kE k g n from fun h=>h3 h.2.2.1)
    go_enter Tryz.func169,Tryz.ntmps169
    go_wp2
    go_ret
    exact jw (by simp[hok.out]) hb.out
  ·have hok:=h_ (show ¬ kE k g n from fun h=>h2 h.2.1)
   go_enter Tryz.func169,Tryz.ntmps169
   go_wp2
   go_ret
   exact jw (by simp[hok.out]) hb.out
 ·have hok:=h_ (show ¬ kE k g n from fun h=>h1 h.1)
  go_enter Tryz.func169,Tryz.ntmps169
  go_wp2
  go_ret
  exact jw (by simp[hok.out]) hb.out
def xEu (p:zk)(W:World)(e:Ending)(W':World):Prop:=∃ r:Int,e=.returned (.int .i64 r)∧(r=0↔p.Ok)∧Below W.heap.size W W'
theorem xEo {p:zk}{W W':World}(h:p.Ok)(hb:Below W.heap.size W W'):xEu p W (.returned (.int .i64 0)) W':=⟨0,rfl,by simp[h],hb⟩
theorem vu {p:zk}{W W':World}{r:Int}(h:¬ p.Ok)(hr:r≠0)(hb:Below W.heap.size W W'):xEu p W (.returned (.int .i64 r)) W':=⟨r,rfl,by simp[h,hr],hb⟩
theorem xL2 (p:zk)(a:Option Addr)(cap:Nat)(W:World)(hl:p.bytes.length≤cap) :
  Calls Tryz.prog 151 #[.agg (zb p.kind p.gen p.num p.idx p.cnt (.slice a p.bytes.length cap)).toArray] W (xEu p W):=by
 obtain⟨k,g,n,i,c,bs⟩:=p
 simp only at hl ⊢
 obtain⟨m,hm⟩:∃ m,m=bs.length:=⟨_,rfl⟩
 have HM:=h_ hm
 rw[←hm] at hl ⊢
 clear hm
 have hok:(⟨k,g,n,i,c,bs⟩:zk).Ok↔kE k g n∧1≤c∧c≤586∧0≤i∧i<c∧m≤224∧(i=c-1→(c≤1∨0<m)∧i*224+m≤131072)∧(i≠c-1→m=224):=by rw[HM.out];rfl
 generalize (⟨k,g,n,i,c,bs⟩:zk)=P at hok ⊢
 have HOK:=h_ hok
 clear hok HM
 unfold zb
 have hbW:Below W.heap.size W (W.alloc (.cells #[.int .i64 k,.int .i64 g,.int .i64 n,.int .i64 i,.int .i64 c,.slice a m cap] 217)):=(Below.refl _ _).alloc (Nat.le_refl _) _
 have HBW:=h_ hbW
 clear hbW
 go_enter Tryz.func151,Tryz.ntmps151
 go_wp2_with (go_at_call 185;refine(xEb _ _ _ _ _ _ _).mono ?_;rintro e w1 ⟨rfl,hb1⟩)
 have hB1:=HBW.out.trans (hb1.mono (by simp))
 have hP1:w1.heap[W.heap.size]?=some (.cells #[.int .i64 k,.int .i64 g,.int .i64 n,.int .i64 i,.int .i64 c,.slice a m cap] 217 (0,0)):=(hb1.block _ (by simp)).trans (heap_alloc_new W _)
 have hlt1:W.heap.size<w1.heap.size:=(i_ hP1).1
 have hb2:Below w1.heap.size w1 (w1.alloc (.cells #[.int .i64 k,.int .i64 g,.int .i64 n,.int .i64 i,.int .i64 c] 324)):=(Below.refl _ _).alloc (Nat.le_refl _) _
 have hP2:=hb2.block _ hlt1 |>.trans hP1
 have hQ2:(w1.alloc (.cells #[.int .i64 k,.int .i64 g,.int .i64 n,.int .i64 i,.int .i64 c] 324)).heap[w1.heap.size]?=some (.cells #[.int .i64 k,.int .i64 g,.int .i64 n,.int .i64 i,.int .i64 c] 324 (0,0)):=heap_alloc_new w1 _
 have hB2:=hB1.trans (hb2.mono hB1.size)
 refine(xE1 _ _ _ _).mono ?_
 rintro e w2 ⟨b,rfl,hbv,hb3⟩
 have hsz2:w1.heap.size<(w1.alloc (.cells #[.int .i64 k,.int .i64 g,.int .i64 n,.int .i64 i,.int .i64 c] 324)).heap.size:=by simp
 have hP3:=(hb3.block _ (by omega)).trans hP2
 have hQ3:=(hb3.block _ hsz2).trans hQ2
 have hB3:=h_ (hB2.trans (hb3.mono hB2.size))
 have c5:=cell_of_row w2 W.heap.size 5 _ _ _ hP3
 have c3:=cell_of_row w2 w1.heap.size 3 _ _ _ hQ3
 have c4:=cell_of_row w2 w1.heap.size 4 _ _ _ hQ3
 simp only[List.getElem?_toArray,List.getElem?_cons_succ,List.getElem?_cons_zero] at c5 c3 c4
 have HBV:=h_ hbv
 clear hbv hb1 hB1 hP1 hb2 hP2 hQ2 hB2 hb3 hP3 hQ3 HBW hlt1 hsz2
 cases b with
 | false =>
  have hno:=h_ (show ¬ P.Ok from fun h=>by have h:=HOK.out.1 h;have:=HBV.out.2 h.1;cases this)
  go_wp2
  go_ret
  exact vu hno.out (by decide) hB3.out
 | true =>
  by_cases q0:1≤c
  ·by_cases q1:c≤586
   ·by_cases q2:0≤i
    ·by_cases q3:i<c
     ·by_cases q4:(m:Int)≤224
      ·by_cases q5:i=c-1
       ·subst q5
        have q6:(c-1 == c-1)=true:=by simp
        by_cases q7:1<c
        ·by_cases q8:m=0
         ·subst q8
          have hno:=h_ (show ¬ P.Ok from fun h=>by have h:=HOK.out.1 h;have:=(h.2.2.2.2.2.2.1 rfl).1;omega)
          go_wp2
          go_ret
          exact vu hno.out (by decide) hB3.out
         ·have q9:((m:Int) == 0)=false:=by rw[beq_eq_false_iff_ne];omega
          by_cases q10:(c-1)*224+m≤131072
          ·have hy:=h_ (show P.Ok from HOK.out.2 ⟨HBV.out.1 rfl,q0,q1,q2,q3,by omega,fun _=>⟨.inr (by omega),q10⟩,fun h=>absurd rfl h⟩)
           go_wp2
           go_ret
           exact xEo hy.out hB3.out
          ·skip
           have hno:=h_ (show ¬ P.Ok from fun h=>by have h:=HOK.out.1 h;exact q10 (h.2.2.2.2.2.2.1 rfl).2)
           go_wp2
           go_ret
           exact vu hno.out (by decide) hB3.out
        ·obtain rfl:c=1:=by omega
         have hy:=h_ (show P.Ok from HOK.out.2 ⟨HBV.out.1 rfl,q0,q1,q2,q3,by omega,fun _=>⟨.inl (by omega),by omega⟩,fun h=>absurd rfl h⟩)
         go_wp2
         go_ret
         exact xEo hy.out hB3.out
       ·have q6:(i == c-1)=false:=by rw[beq_eq_false_iff_ne];exact q5
        by_cases q7:(m:Int)<224
        ·skip
         have hno:=h_ (show ¬ P.Ok from fun h=>by have h:=HOK.out.1 h;have:=h.2.2.2.2.2.2.2 q5;omega)
         go_wp2
         go_ret
         exact vu hno.out (by decide) hB3.out
        ·have hy:=h_ (show P.Ok from HOK.out.2 ⟨HBV.out.1 rfl,q0,q1,q2,q3,by omega,fun h=>absurd h q5,fun _=>by omega⟩)
         clear q5
         go_wp2
         go_ret
         exact xEo hy.out hB3.out
      ·have hno:=h_ (show ¬ P.Ok from fun h=>by have h:=HOK.out.1 h;have:=h.2.2.2.2.2.1;omega)
       go_wp2
       go_ret
       exact vu hno.out (by decide) hB3.out
     ·have hno:=h_ (show ¬ P.Ok from fun h=>by have h:=HOK.out.1 h;exact q3 h.2.2.2.2.1)
      go_wp2
      go_ret
      exact vu hno.out (by decide) hB3.out
    ·have hno:=h_ (show ¬ P.Ok from fun h=>by have h:=HOK.out.1 h;exact q2 h.2.2.2.1)
     go_wp2
     go_ret
     exact vu hno.out (by decide) hB3.out
   ·have hno:=h_ (show ¬ P.Ok from fun h=>by have h:=HOK.out.1 h;exact q1 h.2.2.1)
    go_wp2
    go_ret
    exact vu hno.out (by decide) hB3.out
  ·have hno:=h_ (show ¬ P.Ok from fun h=>by have h:=HOK.out.1 h;exact q0 h.2.1)
   go_wp2
   go_ret
   exact vu hno.out (by decide) hB3.out
end
theorem yAl {a b c d:Int}(h:a=b)(h2:c=d):Ending.returned (.tuple #[.int .i64 a,.int .i64 c])=.returned (.tuple #[.int .i64 b,.int .i64 d]):=by rw[h,h2]
theorem xOw (n:Nat)(W:World)(hn:n≤131072) :
  Calls Tryz.prog 107 #[.int .i64 n] W fun e W'=>e=.returned (.tuple #[.int .i64 (xY n:Nat),.int .i64 0])∧W=W':=by
 have h1:(n:Int)≤131072:=by omega
 have hN:=h_ (show max 1 (((n:Int)+224-1) / 224)=((xY n:Nat):Int) by unfold xY;omega)
 by_cases h0:n=0
 ·subst h0
  go_enter Tryz.func107,Tryz.ntmps107
  go_wp2
  go_ret2
  exact⟨rfl,rfl⟩
 have h2:1≤((n:Int)+223) / 224:=by omega
 go_enter Tryz.func107,Tryz.ntmps107
 go_wp2
 go_ret2
 exact⟨yAl hN.out rfl,rfl⟩
theorem yA9 {l r:List UInt8}:(str l=str r)↔l=r:=by
 unfold str
 constructor
 ·intro h
  injection h with h
  injection h
 ·rintro rfl;rfl
theorem xIm (a b:Addr)(l r:List UInt8)(ca cb:Nat)(W:World)(h1:SlB W a l)(h2:SlB W b r) :
  Calls Tryz.prog 148 #[.slice (some a) l.length ca,.slice (some b) r.length cb] W fun e W'=>e=.returned (.bool (decide (l=r)))∧W=W':=by
 have hc1:=run_convert_bytes_back (P:=Tryz.prog) W 66 9 5 a ca l Tryz.underlying66 Tryz.underlying5 Tryz.underlying9 (fun j hj=>h1.cell j _ (List.getElem?_eq_getElem hj))
 have hc2:=run_convert_bytes_back (P:=Tryz.prog) W 66 9 5 b cb r Tryz.underlying66 Tryz.underlying5 Tryz.underlying9 (fun j hj=>h2.cell j _ (List.getElem?_eq_getElem hj))
 have hr:=h_ (show decide (str l=str r)=decide (l=r) from decide_eq_decide.2 yA9)
 clear h1 h2
 go_enter Tryz.func148,Tryz.ntmps148
 go_wp2
 go_ret
 exact⟨xT3 (by rw[Bool.eq_iff_iff];simp),rfl⟩
theorem newB0 (w:World)(B:Nat)(hB:B≤w.heap.size):OwnB (w.alloc (.cells #[] 5)) B (.slice (some ⟨w.heap.size,0,none⟩) 0 0) []:=OwnB.new w B [] hB (by simp[maxLen])
theorem jH (a:Addr)(l:List UInt8)(cap:Nat)(W:World)(h:SlB W a l)(hl:l.length≤1000000000) :
  Calls Tryz.prog 57 #[.slice (some a) l.length cap] W fun e W'=>∃ v,e=.returned v∧OwnB W' W.heap.size v l∧v≠.slice none 0 0∧Below W.heap.size W W':=by
 have ho1:=newB0 W W.heap.size (Nat.le_refl _)
 have hb1:Below W.heap.size W (W.alloc (.cells #[] 5)):=(Below.refl _ _).alloc (Nat.le_refl _) _
 have hs1:SlB (W.alloc (.cells #[] 5)) a l:=⟨fun j c hj=>Lib.cell?_alloc_some _ (h.cell j c hj)⟩
 have HO:=h_ ho1
 have HS:=h_ hs1
 have HB:=h_ hb1
 clear ho1 hs1 h hb1
 have heq:∀ w,Sem.run Tryz.prog (binOp .eql 66 (.slice (some a) l.length cap) (.slice none 0 0)) w=.ok (.bool false) w:=fun w=>Lib.run_eql_slice_some_nil w a _ _ Tryz.underlying66
 go_enter Tryz.func57,Tryz.ntmps57
 go_wp2_with (at_builtin;refine zu rfl (.tmp 5) (.tmp 6) rfl W.heap.size _ [] rfl HO.out a l cap rfl HS.out ?cA ?cB ?_)
 case cA=>simp;omega
 case cB=>simp
 intro v' w' ho hg hn
 have hne:v'≠.slice none 0 0:=hn
 have hb:=HB.out.grown hg (by simp) (fun k e=>(HO.out.lt e).1)
 have HR:=h_ (And.intro ho (And.intro hne hb))
 clear ho hg hn hne hb
 go_wp2
 go_ret
 exact⟨v',rfl,HR.out⟩
structure kF (w:World)(hb ab:Nat)(h:List UInt8)(k:Nat):Prop where
 row:w.heap[hb]?=some (.cells (encB h).toArray 38 (0,0))
 len:h.length=32
 cnt:w.heap[ab]?=some (.cells #[.int .i64 k] 3 (0,0))
 ne:hb<ab
theorem kF.setB {w:World}{hb ab:Nat}{h:List UInt8}{k:Nat}(s:kF w hb ab h k)(i:Nat)(x:UInt8):kF (w.setCell ⟨hb,i,none⟩ (.int .u8 x.toNat)) hb ab (h.set i x) k:=by
 refine⟨?_,by simp[s.len],?_,s.ne⟩
 ·rw[heap_setCell_same w hb i _ _ _ s.row];simp[encB]
 ·rw[heap_setCell_other w ⟨hb,i,none⟩ ab _ (by have:=s.ne;simp;omega)];exact s.cnt
theorem kF.setK {w:World}{hb ab:Nat}{h:List UInt8}{k:Nat}(s:kF w hb ab h k)(m:Nat):kF (w.setCell ⟨ab,0,none⟩ (.int .i64 m)) hb ab h m:=by
 refine⟨?_,s.len,?_,s.ne⟩
 ·rw[heap_setCell_other w ⟨ab,0,none⟩ hb _ (by have:=s.ne;simp;omega)];exact s.row
 ·rw[heap_setCell_same w ab 0 _ _ _ s.cnt];rfl
theorem kF.drew' {w:World}{hb ab:Nat}{h:List UInt8}{k:Nat}(s:kF w hb ab h k):kF w.drew hb ab h k:=⟨s.row,s.len,s.cnt,s.ne⟩
def putB (h:List UInt8)(k:Nat):List UInt8→List UInt8
 | []=>h
 | b :: l=>putB (h.set k b) (k+1) l
theorem xUh (h:List UInt8)(k:Nat)(l:List UInt8)(b:UInt8):putB h k (l++[b])=(putB h k l).set (k+l.length) b:=by
 induction l generalizing h k with
 | nil=>simp[putB]
 | cons c l ih=>simp only[List.cons_append,putB,ih,List.length_cons];congr 1;omega
theorem vR (k n j:Nat)(h:j<k):(beB k n)[j]'(by rw[xv];exact h)=UInt8.ofNat (n / 256 ^ (k-1-j)):=by
 induction k generalizing j with
 | zero=>omega
 | succ k ih =>
  cases j with
  | zero=>simp[beB]
  | succ j =>
   simp only[beB,List.getElem_cons_succ]
   rw[ih j (by omega)]
   congr 3;omega
theorem vv (n i:Nat):((UInt8.ofNat (n / 256 ^ i)).toNat:Int)=(n:Int) / 2 ^ (8*i) % 256:=by
 rw[UInt8.toNat_ofNat']
 have e2:(2:Nat) ^ (8*i)=256 ^ i:=by rw[Nat.pow_mul]
 have e3:(2:Int) ^ (8*i)=((256 ^ i:Nat):Int):=by rw[←e2];simp
 rw[e3]
 omega
theorem vG (hb ab:Nat)(h:List UInt8)(k n sz:Nat)(W:World)(hs:kF W hb ab h k)(hsz:sz≤8)(hk:k+sz≤32)(hn:n≤4611686018427387904) :
  Calls Tryz.prog 213 #[.int .i64 n,.int .i64 sz,.pointer (some ⟨hb,0,none⟩),.pointer (some ⟨ab,0,none⟩)] W fun e W'=>e=.returned (.tuple #[])∧kF W' hb ab (putB h k (beB sz n)) (k+sz)∧Below hb W W':=by
 have HS:=h_ hs
 clear hs
 go_enter Tryz.func213,Tryz.ntmps213
 go_wp2
 go_loopw [6] (fun i wr=>∃ j:Nat,j≤sz∧i=.int .i64 ((sz:Int)-1-j)∧kF wr hb ab (putB h k ((beB sz n).take j)) (k+j)∧Below hb W wr) (fun i _=>(intOf i+1).toNat)
 case atStart=>exact⟨0,by omega,by go_num,HS.out,Below.refl _ _⟩
 case round =>
  obtain⟨j,hj,rfl,hst,hbel⟩:=hrel
  by_cases hlt:j<sz
  ·obtain⟨i,hi⟩:∃ i:Nat,i=sz-1-j:=⟨_,rfl⟩
   have hi2:(sz:Int)-1-j=(i:Int):=by omega
   rw[hi2]
   have hx:=vv n i
   generalize hbx:UInt8.ofNat (n / 256 ^ i)=b at hx
   have hnx:putB h k ((beB sz n).take (j+1))=(putB h k ((beB sz n).take j)).set (k+j) b:=by
    have hlen:((beB sz n).take j).length=j:=by rw[List.length_take,xv];omega
    rw[List.take_succ_eq_append_getElem (by rw[xv];exact hlt),xUh,hlen,vR sz n j hlt,←hi,hbx]
   obtain⟨hh,hhe⟩:∃ q,q=putB h k ((beB sz n).take j):=⟨_,rfl⟩
   rw[←hhe] at hst hnx
   have c1:=cell_of_row wr ab 0 _ _ _ hst.cnt
   have c2:=frozen_of_row wr ab 0 _ _ hst.cnt
   have d0:=cell_of_row wr hb (k+j) _ _ _ hst.row
   have d2:=frozen_of_row wr hb (k+j) _ _ hst.row
   rw[List.getElem?_toArray,vr hh (k+j) (by rw[hst.len];omega)] at d0
   simp only[v_] at c1
   obtain⟨od,d1⟩:∃ od:Value,wr.cell? ⟨hb,k+j,none⟩=some od:=⟨_,d0⟩
   clear d0
   have e1:(((k+j:Nat)):Int)=(k:Int)+j:=by omega
   have b1:(0:Int)≤8*(i:Int):=by omega
   have b2:8*(i:Int)≤64:=by omega
   have b3:(n:Int)≤4611686018427387904:=by omega
   have hset:=(hst.setB (k+j) b).drew'
   rw[hx] at hset
   have hbel2:=h_ hbel
   have HX:=h_ hx
   have HNX:=h_ hnx
   have HST:=h_ hst
   have HSET:=h_ hset
   have HI:=h_ hi
   clear hx hnx hst hset hbel hi hbx hhe
   go_upto_region 3 with (fail)
   refine xw [0,1,2,3,4,5,6] [7] (fun w'=>w'=wr.drew) (by kernel_rfl) (by kernel_rfl) (by kernel_rfl) rfl ?_
   simp only[o_]
   repeat (go_big_quiet_step (fail))
   refine wpQuiet_nil ?_
   refine xG [7] _ _ (by kernel_rfl) ?_
   simp only[o_]
   go_wp2
   refine NoPanic.normal ?_
   have hset2:=HSET.out.setK (k+j+1)
   have hb3:Below hb W (wr.setCell ⟨hb,k+j,none⟩ (.int .u8 ((n:Int) / 2 ^ (8*i) % 256))).drew:=(hbel2.out.setCell (Nat.le_refl _) _).drew
   have hc1:=cell_of_row _ ab 0 _ _ _ HSET.out.cnt
   have hc2:=frozen_of_row _ ab 0 _ _ HSET.out.cnt
   simp only[v_] at hc1
   rw[e1] at hc1
   generalize (wr.setCell ⟨hb,k+j,none⟩ (.int .u8 ((n:Int) / 2 ^ (8*i) % 256))).drew=w5 at hset2 hb3 hc1 hc2 ⊢
   rw[show (((k+j+1:Nat)):Int)=(k:Int)+j+1 by omega] at hset2
   have HS2:=h_ hset2
   have HB3:=h_ hb3
   have hkz:(k:Int)+j≤32:=by omega
   clear c1 c2 d1 d2 hset2 hb3
   go_wp2
   go_roundw
   case rel =>
    refine⟨j+1,by omega,?_,?_,HB3.out.setCell (Nat.le_of_lt HST.out.ne) _⟩
    ·go_num
    ·rw[HNX.out];exact HS2.out
   case measure=>simp[intOf]
  ·obtain rfl:j=sz:=by omega
   have HST:=h_ hst
   have HBL:=h_ hbel
   have hi2:(j:Int)-1-j=-1:=by omega
   rw[hi2]
   clear hst hbel
   go_wp2
   go_end0
   refine⟨rfl,?_,HBL.out⟩
   have:=HST.out
   rw[List.take_of_length_le (by rw[xv];omega)] at this
   exact this
theorem xM9 (n c:Nat)(hn:n<1099511627776)(hc:c<256):bits .or .i64 ((n:Int)*256) (c:Int)=((n*256+c:Nat):Int):=by
 have hx:n*256 ||| c=n*256+c:=by
  have:=Nat.two_pow_add_eq_or_of_lt (i:=8) (b:=c) (by omega) n
  rw[show (2:Nat) ^ 8*n=n*256 by omega] at this
  exact this.symm
 have h1:(BitVec.ofInt 64 ((n:Int)*256)).toNat=n*256:=by
  rw[show (n:Int)*256=((n*256:Nat):Int) by omega,BitVec.ofInt_natCast,BitVec.toNat_ofNat];exact Nat.mod_eq_of_lt (by omega)
 have h2:(BitVec.ofInt 64 (c:Int)).toNat=c:=by
  rw[BitVec.ofInt_natCast,BitVec.toNat_ofNat];exact Nat.mod_eq_of_lt (by omega)
 show IntKind.i64.wrap ((BitVec.ofInt 64 ((n:Int)*256) ||| BitVec.ofInt 64 (c:Int)).toNat:Int)=_
 rw[BitVec.toNat_or,h1,h2,hx]
 exact IntWalk.i64_in _ (by omega)
theorem kv (l:By)(b:UInt8):deB (l++[b])=deB l*256+b.toNat:=by simp[deB,List.foldl_append]
theorem jp (l:By)(h:l.length≤4):deB l<4294967296:=by
 have h1:=xN9 l
 have h2:256 ^ l.length≤256 ^ 4:=Nat.pow_le_pow_right (by decide) h
 have h3:(256:Nat) ^ 4=4294967296:=by decide
 omega
theorem xSe (sb ab:Nat)(a:Addr)(c:List UInt8)(cap k sz:Nat)(W:World)(hc:c.length=256)(hcap:256≤cap)(hsb:W.heap[sb]?=some (.cells #[.slice (some a) 256 cap] 66 (0,0)))
  (hab:W.heap[ab]?=some (.cells #[.int .i64 k] 3 (0,0))) (hs:SlB W a c) (hne:sb≠ab) (hna:a.block≠ab) (hsz:sz≤4) (hk:k+sz≤256) :
  Calls Tryz.prog 149 #[.int .i64 sz,.pointer (some ⟨sb,0,none⟩),.pointer (some ⟨ab,0,none⟩)] W fun e W'=>e=.returned (.int .i64 (deB ((c.drop k).take sz):Nat))∧W.grownBy W' (some ab)∧W'.heap[ab]?=some (.cells #[.int .i64 ((k+sz:Nat):Int)] 3 (0,0)):=by
 have HAB:=h_ hab
 have HSB:=h_ hsb
 have HS:=h_ hs
 clear hab hsb hs
 go_enter Tryz.func149,Tryz.ntmps149
 go_wp2
 go_loopw [5,7] (fun n i wr=>∃ j:Nat,j≤sz∧i=.int .i64 j∧n=.int .i64 (deB ((c.drop k).take j):Nat)∧W.grownBy wr (some ab)∧wr.heap[ab]?=some (.cells #[.int .i64 ((k+j:Nat):Int)] 3 (0,0))) (fun _ i _=>sz-(intOf i).toNat)
 case atStart=>exact⟨0,by omega,rfl,by simp[deB],xTe _ _,HAB.out⟩
 case round =>
  obtain⟨j,hj,rfl,rfl,hg,hcnt⟩:=hrel
  by_cases hlt:j<sz
  ·have hjz:(j:Int)<sz:=by omega
   have c1:=cell_of_row wr ab 0 _ _ _ hcnt
   have c2:=frozen_of_row wr ab 0 _ _ hcnt
   have hsb1:=(hg.block sb (i_ HSB.out).1 (fun e=>hne (by cases e;rfl))).trans HSB.out
   have c3:=cell_of_row wr sb 0 _ _ _ hsb1
   simp only[v_] at c1 c3
   have hkj:k+j<c.length:=by omega
   have c4:=xMn hg (by rw[y9];exact hna) (HS.out.cell (k+j) _ (List.getElem?_eq_getElem hkj))
   have hd:deB ((c.drop k).take (j+1))=deB ((c.drop k).take j)*256+(c[k+j]'hkj).toNat:=by
    rw[List.take_succ_eq_append_getElem (by rw[List.length_drop];omega),kv,List.getElem_drop]
   have hdl:=jp ((c.drop k).take j) (by rw[List.length_take];omega)
   generalize c[k+j]'hkj=b at c4 hd
   have hb256:=b.toNat_lt
   obtain⟨n,hn⟩:∃ n,n=deB ((c.drop k).take j):=⟨_,rfl⟩
   rw[←hn] at hd hdl ⊢
   have hor:=xM9 n b.toNat (by omega) (by omega)
   rw[←hd] at hor
   have HN:=h_ hn
   have HG:=h_ hg
   have HC:=h_ hcnt
   have e1:(((k+j:Nat)):Int)=(k:Int)+j:=by omega
   have b0:(n:Int)<4294967296:=by omega
   have b1:(k:Int)+j<256:=by omega
   have b2:k+j<256:=by omega
   have b3:(256:Int)≤cap:=by omega
   clear hn hg hcnt hd hsb1 hdl
   rw[e1] at c1
   go_wp2
   go_roundw
   case rel =>
    refine⟨j+1,by omega,by go_num,rfl,zR HG.out (xI0 wr ab 0 _),?_⟩
    rw[heap_setCell_same wr ab 0 _ _ _ HC.out,show (((k+(j+1):Nat)):Int)=(k:Int)+j+1 by omega]
    rfl
   case measure=>simp[intOf];omega
  ·obtain rfl:j=sz:=by omega
   have HG:=h_ hg
   have HC:=h_ hcnt
   clear hg hcnt
   go_wp2
   go_ret
   exact⟨rfl,HG.out,HC.out⟩
section
theorem xWp (h:List UInt8)(k:Nat)(l:List UInt8)(hk:k+l.length≤h.length):putB h k l=lay h k l:=by
 induction l generalizing h k with
 | nil=>simp[putB,lay]
 | cons b l ih =>
  rw[List.length_cons] at hk
  rw[putB,ih _ _ (by simp;omega)]
  unfold lay
  rw[List.take_succ_eq_append_getElem (by simp;omega),List.take_set_of_le (by omega),List.drop_set_of_lt (by omega)]
  simp[Nat.add_comm,Nat.add_left_comm]
theorem vW (h:List UInt8)(k:Nat)(l r:List UInt8):putB (putB h k l) (k+l.length) r=putB h k (l++r):=by
 induction l generalizing h k with
 | nil=>rfl
 | cons b l ih =>
  simp only[putB,List.cons_append,List.length_cons]
  rw[←ih,show k+1+l.length=k+(l.length+1) by omega]
def yI (n:Nat):List UInt8:=List.replicate n 0
theorem xCc (L cs:List UInt8)(off:Nat):splice (encB L) off (encB cs)=encB (lay L off cs):=by
 simp[splice,lay,encB]
theorem xLw (p:zk)(_h:p.bytes.length≤224):lay (lay (lay (yI 256) 0 (yI 16++hdB p)) 32 p.bytes) 0 (sha ((lay (lay (yI 256) 0 (yI 16++hdB p)) 32 p.bytes).drop 16))=encP sha p:=by
 have e1:lay (yI 256) 0 (yI 16++hdB p)=yI 16++hdB p++yI 224:=by
  simp[lay,yI,vD]
 have e2:lay (yI 16++hdB p++yI 224) 32 p.bytes=yI 16++um p:=by
  have hA:(yI 16++hdB p).length=32:=by simp[yI,vD]
  have hz:List.drop (32+p.bytes.length) (yI 16++hdB p++yI 224)=List.replicate (224-p.bytes.length) 0:=by
   rw[←List.drop_drop,List.drop_left' hA]
   unfold yI
   rw[List.drop_replicate]
  unfold lay
  rw[hz,List.take_left' hA]
  simp[um]
 rw[e1,e2]
 have e3:(yI 16++um p).drop 16=um p:=by simp[yI]
 rw[e3]
 simp[lay,encP,yV,yI]
theorem xUs (p:zk):putB (putB (putB (putB (putB (putB (yI 32) 16 (beB 4 p.gen.toNat)) 20 (beB 4 p.num.toNat)) 24 (beB 2 p.kind.toNat)) 26 (beB 2 p.idx.toNat)) 28 (beB 2 p.cnt.toNat)) 30 (beB 2 p.bytes.length)=yI 16++hdB p:=by
 have h1:=vW (yI 32) 16 (beB 4 p.gen.toNat) (beB 4 p.num.toNat)
 have h2:=vW (yI 32) 16 (beB 4 p.gen.toNat++beB 4 p.num.toNat) (beB 2 p.kind.toNat)
 have h3:=vW (yI 32) 16 (beB 4 p.gen.toNat++beB 4 p.num.toNat++beB 2 p.kind.toNat) (beB 2 p.idx.toNat)
 have h4:=vW (yI 32) 16 (beB 4 p.gen.toNat++beB 4 p.num.toNat++beB 2 p.kind.toNat++beB 2 p.idx.toNat) (beB 2 p.cnt.toNat)
 have h5:=vW (yI 32) 16 (beB 4 p.gen.toNat++beB 4 p.num.toNat++beB 2 p.kind.toNat++beB 2 p.idx.toNat++beB 2 p.cnt.toNat) (beB 2 p.bytes.length)
 simp only[List.length_append,xv,Nat.reduceAdd] at h1 h2 h3 h4 h5
 rw[h1,h2,h3,h4,h5,xWp _ _ _ (by simp[yI,xv])]
 simp[lay,yI,hdB,xv]
theorem xUr (w:World):kF ((w.alloc (.cells (encB (yI 32)).toArray 38)).alloc (.cells #[.int .i64 16] 3)) w.heap.size (w.heap.size+1) (yI 32) 16:=by
 refine⟨?_,by simp[yI],?_,by omega⟩
 ·simp only[yt,World.size_alloc]
  rw[if_neg (by omega),if_pos trivial]
 ·simp only[yt,World.size_alloc]
  rw[if_pos trivial];rfl
theorem xRq (n:Nat)(z:Int)(hz:z=n)(hn:n≤1099511627776)(w:World):Sem.run Tryz.prog (Instr.makeSlice 66 (.int .i64 z) (.int .i64 z)) w=.ok (.slice (some ⟨w.heap.size,0,none⟩) n n) (w.alloc (.cells (encB (yI n)).toArray 5)):=by
 obtain⟨i0,hi,hz0,hz1,hz2⟩:=info_parts Tryz.info_byte
 subst hz
 rw[run_make w 66 5 i0 (.int .u8 0) Tryz.underlying66 hi hz0 .i64 .i64 n n (by omega) (by omega) (by rw[hz2];omega) (by omega)]
 rw[Int.toNat_natCast,hz1,Nat.mul_one]
 congr 3
 apply Array.ext
 ·simp[size_madeCells,yI,encB]
 ·intro k h1 h2
  simp[madeCells,Value.cells,encB,yI,Nat.mod_one]
theorem xXz {w:World}{a:Option Addr}{l:List UInt8}{g off:Nat}(h:∀ q,a=some q→SlB w q l)(hn:a=none→l=[]) :
  0<(encB l).length→some (⟨g,off,none⟩:Addr)=some ⟨g,off,none⟩∧∃ ad,a=some ad∧∀ j v,(encB l)[j]?=some v→w.cell? (ad.add j)=some v:=by
 intro h0
 refine⟨rfl,?_⟩
 cases a with
 | none=>rw[hn rfl] at h0;simp[encB] at h0
 | some q =>
  refine⟨q,rfl,fun j v hj=>?_⟩
  have hl:j<l.length:=by
   rcases Nat.lt_or_ge j l.length with h | h
   ·exact h
   ·rw[List.getElem?_eq_none (by rw[xM];exact h)] at hj;cases hj
  rw[vr l j hl] at hj
  cases hj
  exact(h q rfl).cell j _ (List.getElem?_eq_getElem hl)
theorem xu {P:Program}{c:Code}{Q:Exit→Act→World→Prop}{a:Act}{w w':World}(h:w'=w)(hw:c.wp P Q a w'):c.wp P Q a w:=h ▸ hw
attribute [local go_sem ↓] qs uR kW kh
attribute [local go_sem] xBf xB9 xMg xLo xEe xE9 xK5 xj xh xe xd xA xz xo xl xt xC xx
theorem xIc (p:zk)(hok:p.Ok)(a:Option Addr)(cap:Nat)(W:World)(hK:qF W)(hl:p.bytes.length≤cap)(hs:∀ q,a=some q→SlB W q p.bytes∧q.block<W.heap.size)(hn:a=none→p.bytes=[]) :
  Calls Tryz.prog 186 #[.agg (zb p.kind p.gen p.num p.idx p.cnt (.slice a p.bytes.length cap)).toArray] W fun e W'=>∃ g,e=.returned (.tuple #[.slice (some ⟨g,0,none⟩) 256 256,.int .i64 0])∧W.heap.size≤g∧W'.heap[g]?=some (.cells (encB (encP sha p)).toArray 5 (0,0))∧Below W.heap.size W W':=by
 have hsec:=xLw p hok.2.2.2.2.2.1
 have hhdr:=xUs p
 have hl0:=hok.2.2.2.2.2.1
 obtain⟨kn,hkn⟩:∃ n:Nat,p.kind=n:=⟨p.kind.toNat,by have:=hok.1.1;omega⟩
 obtain⟨gn,hgn⟩:∃ n:Nat,p.gen=n:=⟨p.gen.toNat,by have:=hok.1.2.2.1;omega⟩
 obtain⟨nn,hnn⟩:∃ n:Nat,p.num=n:=⟨p.num.toNat,by have:=hok.1.2.2.2.2.1;omega⟩
 obtain⟨ix,hix⟩:∃ n:Nat,p.idx=n:=⟨p.idx.toNat,by have:=hok.2.2.2.1;omega⟩
 obtain⟨cn,hcn⟩:∃ n:Nat,p.cnt=n:=⟨p.cnt.toNat,by have:=hok.2.1;omega⟩
 have hch:=xL2 p a cap (W.alloc (.cells #[.int .i64 p.kind,.int .i64 p.gen,.int .i64 p.num,.int .i64 p.idx,.int .i64 p.cnt,.slice a p.bytes.length cap] 217)) hl
 unfold zb at hch ⊢
 have b1:gn≤2147483647:=by have:=hok.1.2.2.2.1;omega
 have b2:nn≤2147483647:=by have:=hok.1.2.2.2.2.2;omega
 have b3:kn≤65535:=by have:=hok.1.2.1;omega
 have b4:cn≤586:=by have:=hok.2.2.1;omega
 have b5:ix≤586:=by have:=hok.2.2.2.2.1;omega
 rw[hkn,hgn,hnn,hix,hcn] at hch ⊢
 rw[hkn,hgn,hnn,hix,hcn] at hhdr
 simp only[Int.toNat_natCast] at hhdr
 obtain⟨m,hm⟩:∃ m,m=p.bytes.length:=⟨_,rfl⟩
 rw[←hm] at hch hhdr hl hl0 ⊢
 have HSEC:=h_ hsec
 have HHDR:=h_ hhdr
 have HCH:=h_ hch
 have HK:=h_ hK
 have HM:=h_ hm
 have HOK:=h_ hok
 have HS:=h_ hs
 have HN:=h_ hn
 clear hsec hhdr hkn hgn hnn hix hcn hch hK hm hok hs hn
 go_enter Tryz.func186,Tryz.ntmps186
 go_wp2_with fail
 refine HCH.out.mono ?_
 rintro e w1 ⟨r,rfl,hr,hb1⟩
 obtain rfl:r=0:=hr.2 HOK.out
 have hP1:=(hb1.block W.heap.size (by simp)).trans (heap_alloc_new W _)
 have hB1:Below W.heap.size W w1:=((Below.refl W.heap.size W).alloc (Nat.le_refl _) _).trans (hb1.mono (by simp))
 have HP1:=h_ hP1
 have HB1:=h_ hB1
 clear hP1 hB1 hr hb1 HCH
 go_upto_region 7 with (fail)
 have hst0:=xUr w1
 have hbz:Below w1.heap.size w1 ((w1.alloc (.cells (encB (yI 32)).toArray 38)).alloc (.cells #[.int .i64 16] 3)):=((Below.refl _ _).alloc (Nat.le_refl _) _).alloc (by simp) _
 have hlt1:=h_ ((i_ HP1.out).1)
 obtain⟨w2,hw2⟩:∃ w2,w2=(w1.alloc (.cells (encB (yI 32)).toArray 38)).alloc (.cells #[.int .i64 16] 3):=⟨_,rfl⟩
 rw[←hw2] at hst0 hbz
 refine xu hw2 ?_
 obtain⟨hd,hhd⟩:∃ q,q=w1.heap.size:=⟨_,rfl⟩
 rw[←hhd] at hst0 hbz hlt1 ⊢
 have HBZ:=h_ hbz
 have HP2:=h_ ((hbz.block _ hlt1.out).trans HP1.out)
 have HST2:=h_ hst0
 have HB2:=h_ (HB1.out.trans ((hhd ▸ hbz).mono HB1.out.size))
 clear hst0 hbz hw2 hhd
 have c1:=cell_of_row w2 W.heap.size 1 _ _ _ HP2.out
 simp only[List.getElem?_toArray,List.getElem?_cons_succ,List.getElem?_cons_zero] at c1
 go_wp2_with fail
 refine(vG hd (hd+1) (yI 32) 16 gn 4 w2 HST2.out (by omega) (by omega) (by omega)).mono ?_
 rintro e w3 ⟨rfl,hst,hbl⟩
 have HP3:=h_ ((hbl.block _ hlt1.out).trans HP2.out)
 have HB3:=h_ (HB2.out.trans (hbl.mono (Nat.le_of_lt hlt1.out)))
 have HST3:=h_ hst
 clear hst hbl c1
 have c1:=cell_of_row w3 W.heap.size 2 _ _ _ HP3.out
 simp only[List.getElem?_toArray,List.getElem?_cons_succ,List.getElem?_cons_zero] at c1
 go_wp2_with fail
 refine(vG hd (hd+1) (putB (yI 32) 16 (beB 4 gn)) 20 nn 4 w3 HST3.out (by omega) (by omega) (by omega)).mono ?_
 rintro e w4 ⟨rfl,hst,hbl⟩
 have HP4:=h_ ((hbl.block _ hlt1.out).trans HP3.out)
 have HB4:=h_ (HB3.out.trans (hbl.mono (Nat.le_of_lt hlt1.out)))
 have HST4:=h_ hst
 clear hst hbl c1
 have c1:=cell_of_row w4 W.heap.size 0 _ _ _ HP4.out
 simp only[List.getElem?_toArray,List.getElem?_cons_zero] at c1
 go_wp2_with fail
 refine(vG hd (hd+1) (putB (putB (yI 32) 16 (beB 4 gn)) 20 (beB 4 nn)) 24 kn 2 w4 HST4.out (by omega) (by omega) (by omega)).mono ?_
 rintro e w5 ⟨rfl,hst,hbl⟩
 have HP5:=h_ ((hbl.block _ hlt1.out).trans HP4.out)
 have HB5:=h_ (HB4.out.trans (hbl.mono (Nat.le_of_lt hlt1.out)))
 have HST5:=h_ hst
 clear hst hbl c1
 have c1:=cell_of_row w5 W.heap.size 3 _ _ _ HP5.out
 simp only[List.getElem?_toArray,List.getElem?_cons_succ,List.getElem?_cons_zero] at c1
 go_wp2_with fail
 refine(vG hd (hd+1) (putB (putB (putB (yI 32) 16 (beB 4 gn)) 20 (beB 4 nn)) 24 (beB 2 kn)) 26 ix 2 w5 HST5.out (by omega) (by omega) (by omega)).mono ?_
 rintro e w6 ⟨rfl,hst,hbl⟩
 have HP6:=h_ ((hbl.block _ hlt1.out).trans HP5.out)
 have HB6:=h_ (HB5.out.trans (hbl.mono (Nat.le_of_lt hlt1.out)))
 have HST6:=h_ hst
 clear hst hbl c1
 have c1:=cell_of_row w6 W.heap.size 4 _ _ _ HP6.out
 simp only[List.getElem?_toArray,List.getElem?_cons_succ,List.getElem?_cons_zero] at c1
 go_wp2_with fail
 refine(vG hd (hd+1) (putB (putB (putB (putB (yI 32) 16 (beB 4 gn)) 20 (beB 4 nn)) 24 (beB 2 kn)) 26 (beB 2 ix)) 28 cn 2 w6 HST6.out (by omega) (by omega) (by omega)).mono ?_
 rintro e w7 ⟨rfl,hst,hbl⟩
 have HP7:=h_ ((hbl.block _ hlt1.out).trans HP6.out)
 have HB7:=h_ (HB6.out.trans (hbl.mono (Nat.le_of_lt hlt1.out)))
 have HST7:=h_ hst
 clear hst hbl c1
 have c1:=cell_of_row w7 W.heap.size 5 _ _ _ HP7.out
 simp only[List.getElem?_toArray,List.getElem?_cons_succ,List.getElem?_cons_zero] at c1
 go_wp2_with fail
 refine(vG hd (hd+1) (putB (putB (putB (putB (putB (yI 32) 16 (beB 4 gn)) 20 (beB 4 nn)) 24 (beB 2 kn)) 26 (beB 2 ix)) 28 (beB 2 cn)) 30 m 2 w7 HST7.out (by omega) (by omega) (by omega)).mono ?_
 rintro e w8 ⟨rfl,hst,hbl⟩
 have HP8:=h_ ((hbl.block _ hlt1.out).trans HP7.out)
 have HB8:=h_ (HB7.out.trans (hbl.mono (Nat.le_of_lt hlt1.out)))
 rw[HHDR.out] at hst
 have HST8:=h_ hst
 clear hst hbl c1 HHDR HP1 HP2 HP3 HP4 HP5 HP6 HP7 HB1 HB2 HB3 HB4 HB5 HB6 HB7 HST2 HST3 HST4 HST5 HST6 HST7 HBZ b1 b2 b3 b4 b5
 have hmk:=xRq 256 256 rfl (by omega) w8
 go_upto_region 14 with (fail)
 clear hmk
 obtain⟨w9,hw9⟩:∃ w9,w9=w8.alloc (.cells (encB (yI 256)).toArray 5):=⟨_,rfl⟩
 refine xu hw9 ?_
 obtain⟨g,hg⟩:∃ g,g=w8.heap.size:=⟨_,rfl⟩
 have hrow:w9.heap[g]?=some (.cells (encB (yI 256)).toArray 5 (0,0)):=by rw[hw9,hg];exact heap_alloc_new w8 _
 have hb9:Below g w8 w9:=by rw[hw9,hg];exact b_ _ _
 have hs9:w9.heap.size=g+1:=by rw[hw9,hg,World.size_alloc]
 have hlg:hd+1<g:=by rw[hg];exact(i_ HST8.out.cnt).1
 rw[←hg]
 have HP9:=h_ ((hb9.block _ (by have:=hlt1.out;omega)).trans HP8.out)
 have HB9:=h_ (HB8.out.trans (hb9.mono (by have:=hlt1.out;omega)))
 have hrd:w9.heap[hd]?=some (.cells (encB (yI 16++hdB p)).toArray 38 (0,0)):=(hb9.block _ (by omega)).trans HST8.out.row
 have HRD:=h_ hrd
 have HROW:=h_ hrow
 have HS9:=h_ hs9
 have HLG:=h_ hlg
 have HG:=h_ hg
 clear hw9 hg hrow hb9 hs9 hlg hrd
 have hp1:0<(encB (yI 16++hdB p)).length→some (⟨g,0,none⟩:Addr)=some ⟨g,0,none⟩∧∃ ad,some (⟨hd,0,none⟩:Addr)=some ad∧∀ j v,(encB (yI 16++hdB p))[j]?=some v→w9.cell? (ad.add j)=some v:=fun _=>⟨rfl,_,rfl,fun j v hj=>by
  rw[Addr.add_lit,Nat.zero_add,cell_of_row _ _ _ _ _ _ HRD.out,List.getElem?_toArray];exact hj⟩
 have HPP1:=h_ hp1
 have hn1:(encB (yI 16++hdB p)).length=Nat.min 32 256:=by rw[xM];simp[yI,vD]
 have HN1:=h_ hn1
 clear hp1 hn1
 go_wp2_with (refine wpList_copy_splice (o:=⟨some 44,_,_,_,_,_⟩) rfl (.tmp 42) (.tmp 43) 66 66 rfl 5 Tryz.underlying66 (by kernel_rfl) (some ⟨g,0,none⟩) (some ⟨hd,0,none⟩) 256 256 32 32 rfl rfl g 0 (encB (yI 256)) _ HROW.out (encB (yI 16++hdB p)) HN1.out HPP1.out ?_ (uk _) g w9 (Below.refl _ _) (Nat.le_refl _) ?_)
 ·rw[xM,xM];simp[yI,vD]
 intro w10 hr10 hb10
 rw[xCc] at hr10
 have hlg:=HLG.out
 have hl1:=hlt1.out
 have HP10:=h_ ((hb10.block W.heap.size (by omega)).trans HP9.out)
 have HB10:=h_ (HB9.out.trans (hb10.mono (by omega)))
 obtain⟨L1,hL1⟩:∃ q,q=lay (yI 256) 0 (yI 16++hdB p):=⟨_,rfl⟩
 rw[←hL1] at hr10
 have hL1l:L1.length=256:=by rw[hL1,kK (by simp[yI,vD])];simp[yI]
 have HL1:=h_ hL1
 have HR10:=h_ hr10.out
 have hs10:∀ q,a=some q→SlB w10 q p.bytes:=fun q hq=>⟨fun j c hj=>(hb10.cell (by rw[y9];have:=(HS.out q hq).2;omega)).trans ((HB9.out.cell (by rw[y9];exact(HS.out q hq).2)).trans ((HS.out q hq).1.cell j c hj))⟩
 have HS10:=h_ hs10
 have HL1L:=h_ hL1l
 have hz10:=h_ (show g<w10.heap.size by have:=hb10.size;have:=HS9.out;omega)
 clear hr10 hb10 hlg hl1 hL1 hs10 hL1l HRD HROW HPP1 HN1 HP9 HB9 HP8 HB8 HST8
 go_upto_region 15 with (fail)
 have c1:=cell_of_row w10 W.heap.size 5 _ _ _ HP10.out
 simp only[List.getElem?_toArray,List.getElem?_cons_succ,List.getElem?_cons_zero] at c1
 refine xw [0,1,2,3] [4] (fun w'=>w'=w10.drew) (by kernel_rfl) (by kernel_rfl) (by kernel_rfl) rfl ?_
 simp only[o_]
 repeat (go_big_quiet_step (fail))
 refine wpQuiet_nil ?_
 refine xG [4] _ _ (by kernel_rfl) ?_
 simp only[o_]
 clear c1
 have hn2:=h_ (show (encB p.bytes).length=Nat.min m 224 by rw[xM,←HM.out];exact(Nat.min_eq_left hl0).symm)
 refine wpList_copy_splice rfl (.tmp 46) (.tmp 48) 66 66 rfl 5 Tryz.underlying66 (by kernel_rfl) (some ⟨g,32,none⟩) a 224 224 m cap rfl rfl g 32 (encB L1) _ HR10.out (encB p.bytes) hn2.out (xXz (w:=w10.drew) (fun q hq=>⟨(HS10.out q hq).cell⟩) HN.out) ?_ (uk _) g w10.drew (Below.refl _ _) (Nat.le_refl _) ?_
 ·rw[xM,xM,HL1L.out,←HM.out];omega
 intro w11 hr11 hb11
 rw[xCc] at hr11
 have hb11':Below g w10 w11:=(Below.refl g w10).drew.trans hb11
 have hL2l:(lay L1 32 p.bytes).length=256:=by rw[kK (by rw[HL1L.out,←HM.out];omega)];exact HL1L.out
 have hhl:=h_ (show W.heap.size<g by have:=HLG.out;have:=hlt1.out;omega)
 have HB11:=h_ (HB10.out.trans (hb11'.mono (Nat.le_of_lt hhl.out)))
 obtain⟨L2,hL2⟩:∃ q,q=lay L1 32 p.bytes:=⟨_,rfl⟩
 rw[←hL2] at hr11 hL2l
 have hz11:=h_ (show g<w11.heap.size by have:=hb11'.size;have:=hz10.out;omega)
 have hsl11:SlB w11 ⟨g,16,none⟩ (L2.drop 16):=⟨fun j c hj=>by
  rw[Addr.add_lit,cell_of_row _ _ _ _ _ _ hr11.out,List.getElem?_toArray]
  rw[List.getElem?_drop] at hj
  unfold encB
  rw[List.getElem?_map,hj];rfl⟩
 have hsum:=xEy ⟨g,16,none⟩ (L2.drop 16) 240 w11 hsl11 (HK.out.below HB11.out (Nat.le_refl _)) (by rw[List.length_drop];omega) (by rw[List.length_drop];omega) hz11.out
 rw[show (L2.drop 16).length=240 by rw[List.length_drop];omega] at hsum
 have HSUM:=h_ hsum
 have HR11:=h_ hr11.out
 have HL2:=h_ hL2
 have HL2L:=h_ hL2l
 clear hsum hr11 hL2 hL2l hb11 hb11' hsl11 hn2 HR10 HB10 HP10 HS10
 go_wp2
 refine NoPanic.normal ?_
 go_wp2_with fail
 refine HSUM.out.mono ?_
 rintro e w12 ⟨rfl,hb12⟩
 obtain⟨D,hD⟩:∃ q,q=sha (L2.drop 16):=⟨_,rfl⟩
 rw[←hD]
 have hDl:D.length=16:=by rw[hD];exact yV _
 have HD:=h_ hD
 have HDL:=h_ hDl
 have hft:=xI4 hDl
 have HB12:=h_ (HB11.out.trans (hb12.mono HB11.out.size))
 have HR12:=h_ ((hb12.block _ hz11.out).trans HR11.out)
 have hsz12:=hb12.size
 have hz11':=hz11.out
 clear hD hDl HSUM HR11 HB11 hb12
 go_upto_region 17 with (fail)
 obtain⟨w13,hw13⟩:∃ w13,w13=w12.alloc (.cells (encB D).toArray 276):=⟨_,rfl⟩
 refine xu hw13 ?_
 obtain⟨hh,hhe⟩:∃ hh,hh=w12.heap.size:=⟨_,rfl⟩
 rw[←hhe]
 have hrow13:w13.heap[hh]?=some (.cells (encB D).toArray 276 (0,0)):=by rw[hw13,hhe];exact heap_alloc_new w12 _
 have hb13:Below w12.heap.size w12 w13:=by rw[hw13];exact b_ _ _
 have HR13:=h_ ((hb13.block g (by omega)).trans HR12.out)
 have HB13:=h_ (HB12.out.trans (hb13.mono HB12.out.size))
 have HROW13:=h_ hrow13
 have hp3:0<(encB D).length→some (⟨g,0,none⟩:Addr)=some ⟨g,0,none⟩∧∃ ad,some (⟨hh,0,none⟩:Addr)=some ad∧∀ j v,(encB D)[j]?=some v→w13.cell? (ad.add j)=some v:=fun _=>⟨rfl,_,rfl,fun j v hj=>by
  rw[Addr.add_lit,Nat.zero_add,cell_of_row _ _ _ _ _ _ HROW13.out,List.getElem?_toArray];exact hj⟩
 have HPP3:=h_ hp3
 have hn3:(encB D).length=Nat.min 16 256:=by rw[xM,HDL.out];rfl
 have HN3:=h_ hn3
 clear hw13 hhe hrow13 hb13 hp3 hn3 hft HR12 HB12 hsz12 hz11'
 go_wp2_with (refine wpList_copy_splice (o:=⟨some 55,_,_,_,_,_⟩) rfl (.tmp 53) (.tmp 54) 66 66 rfl 5 Tryz.underlying66 (by kernel_rfl) (some ⟨g,0,none⟩) (some ⟨hh,0,none⟩) 256 256 16 16 rfl rfl g 0 (encB L2) _ HR13.out (encB D) HN3.out HPP3.out ?_ (uk _) g w13 (Below.refl _ _) (Nat.le_refl _) ?_)
 ·rw[xM,xM,HDL.out,HL2L.out];omega
 intro w14 hr14 hb14
 rw[xCc] at hr14
 have hfin:lay L2 0 D=encP sha p:=by rw[HD.out,HL2.out,HL1.out];exact HSEC.out
 rw[hfin] at hr14
 have HR14:=h_ hr14.out
 have HB14:=h_ (HB13.out.trans (hb14.mono (Nat.le_of_lt hhl.out)))
 clear hr14 hb14 hfin
 go_wp2
 go_ret2
 exact⟨g,rfl,Nat.le_of_lt hhl.out,HR14.out,HB14.out⟩
end
section
attribute [local go_sem ↓] qs uR kW kh
attribute [local go_sem] xBf xB9 xMg xLo xEe xE9 xK5 xj xh xe xd xA xz xo xl xt xC xx
def cutA (a:Addr)(cap k:Nat):Addr:=if cap=k then a else a.add k
theorem jF (a:Addr)(cap k:Nat):(cutA a cap k).block=a.block:=by unfold cutA;split <;> simp[y9]
theorem SlB.cut {w:World}{a:Addr}{c:List UInt8}(h:SlB w a c){cap:Nat}(hc:c.length≤cap)(k:Nat):SlB w (cutA a cap k) (c.drop k):=by
 unfold cutA
 split
 ·refine⟨fun j u hj=>?_⟩
  rw[List.drop_eq_nil_of_le (by omega)] at hj;cases hj
 ·exact h.drop k
theorem SlB.take {w:World}{a:Addr}{c:List UInt8}(h:SlB w a c)(k:Nat):SlB w a (c.take k):=⟨fun j u hj=>h.cell j u (by
 have hj2:j<k:=by
  rcases Nat.lt_or_ge j k with h | h
  ·exact h
  ·rw[List.getElem?_eq_none (by rw[List.length_take];omega)] at hj;cases hj
 rwa [List.getElem?_take_of_lt hj2] at hj)⟩
theorem kZ:Tryz.prog.elem 66=5:=by kernel_rfl
theorem jy (a:Addr)(len cap k:Nat)(z:Int)(hz:z=k)(hk:k≤len)(w:World):Sem.run Tryz.prog (Instr.sliceAt 66 (.slice (some a) len cap) (some (.int .i64 z)) none none) w=.ok (.slice (some (cutA a cap k)) (len-k) (cap-k)) w:=by
 subst hz
 rw[run_sliceAt_slice w 66 _ _ _ _ (by kernel_rfl),run_slice_l w 66 (some a) len cap (by kernel_rfl) .i64 k (by omega) (by omega),kZ,Tryz.sizeOf5]
 simp only[Result.andThen_ok,sliced,Int.toNat_natCast,Nat.mul_one,Option.map_some]
 unfold cutA
 split <;> rfl
theorem xCw (a:Addr)(len cap k h:Nat)(z y:Int)(hz:z=k)(hy:y=h)(hk:k≤h)(hh:h≤cap)(w:World):Sem.run Tryz.prog (Instr.sliceAt 66 (.slice (some a) len cap) (some (.int .i64 z)) (some (.int .i64 y)) none) w=.ok (.slice (some (cutA a cap k)) (h-k) (cap-k)) w:=by
 subst hz
 subst hy
 rw[run_sliceAt_slice w 66 _ _ _ _ (by kernel_rfl),run_slice_lh w 66 (some a) len cap (by kernel_rfl) .i64 .i64 k h (by omega) (by omega) (by omega),kZ,Tryz.sizeOf5]
 simp only[Result.andThen_ok,sliced,Int.toNat_natCast,Nat.mul_one,Option.map_some]
 unfold cutA
 split <;> rfl
def xTr (c:List UInt8)(W:World)(e:Ending)(W':World):Prop :=
 Below W.heap.size W W' ∧
 ((∃ p v,decP sha c=some p∧e=.returned (.tuple #[.agg (zb p.kind p.gen p.num p.idx p.cnt v).toArray,.int .i64 0])∧OwnB W' W.heap.size v p.bytes∧v≠.slice none 0 0) ∨
   (∃ r,decP sha c=none∧r≠0∧e=.returned (.tuple #[.agg (zb 0 0 0 0 0 (.slice none 0 0)).toArray,.int .i64 r])))
theorem xN7 {H:By→By}{c:By}(h:¬ (H (c.drop 16)=c.take 16∧deB (((c.drop 16).drop 14).take 2)≤224∧((c.drop 16).drop (16+deB (((c.drop 16).drop 14).take 2))).all (· == 0)=true∧(rawP (c.drop 16)).Ok)):decP H c=none:=by
 unfold decP decC
 exact if_neg h
theorem xZi {H:By→By}{c:By}(h:H (c.drop 16)=c.take 16∧deB (((c.drop 16).drop 14).take 2)≤224∧((c.drop 16).drop (16+deB (((c.drop 16).drop 14).take 2))).all (· == 0)=true∧(rawP (c.drop 16)).Ok):decP H c=some (rawP (c.drop 16)):=by
 unfold decP decC
 exact if_pos h
theorem xDu {c:List UInt8}{W W':World}{r:Int}(hb:Below W.heap.size W W')(h:decP sha c=none)(hr:r≠0):xTr c W (.returned (.tuple #[.agg (zb 0 0 0 0 0 (.slice none 0 0)).toArray,.int .i64 r])) W':=⟨hb,.inr ⟨r,h,hr,rfl⟩⟩
structure DcSt (W0:World)(a:Nat)(c:List UInt8)(W:World):Prop where
 bel:Below W0.heap.size W0 W
 box:W.heap[W0.heap.size]?=some (.cells #[.slice (some ⟨a,0,none⟩) 256 256] 66 (0,0))
 res:W.heap[W0.heap.size+1]?=some (.cells #[.int .i64 0,.int .i64 0,.int .i64 0,.int .i64 0,.int .i64 0,.slice none 0 0] 217 (0,0))
 sl:SlB W ⟨a,0,none⟩ c
theorem DcSt.later {W0:World}{a:Nat}{c:List UInt8}{W W':World}(s:DcSt W0 a c W){B:Nat}(hb:Below B W W')(hB:W0.heap.size+2≤B)(ha:a<W0.heap.size):DcSt W0 a c W' :=
 ⟨s.bel.trans (hb.mono (by omega)),(hb.block _ (by omega)).trans s.box,(hb.block _ (by omega)).trans s.res,⟨fun j u hj=>(hb.cell (by rw[y9];show a<B;omega)).trans (s.sl.cell j u hj)⟩⟩
theorem DcSt.lt {W0:World}{a:Nat}{c:List UInt8}{W:World}(s:DcSt W0 a c W):W0.heap.size+2≤W.heap.size:=(i_ s.res).1
theorem uN {P:Program}{fn:Func}{p t:Tmp}{ty n:Nat}(h:fn.results=#[.cell p ty,.tmp t])(hA:∀ w,Sem.run P (isAgg ty) w=.ok true w)(hs:∀ w,Sem.run P (Go.sizeOf ty) w=.ok n w)
  (tmps:Array Value) (w:World) (a:Addr) (cs:Array Value) (v:Value) (hp:tmps.getD p undef=.pointer (some a)) (hv:tmps.getD t undef=v) (hok:xq w a n=true) (hrd:xp w a n=cs) :
  (results fn tmps).run P w=.ok (.tuple #[.agg cs,v]) w:=by
 have hp':tmps[p]?.getD undef=.pointer (some a):=by simpa using hp
 have hv2:tmps[t]?.getD undef=v:=by simpa using hv
 have hl:(loadVar ty a).run P w=.ok (.agg cs) w:=by
  simp[loadVar,hA,hs,zv w a n hok,hrd]
 simp[results,h,hp',hv2,asAddr,hl]
def ud:Array Value:=#[.int .i64 0,.int .i64 0,.int .i64 0,.int .i64 0,.int .i64 0,.slice none 0 0]
theorem xAz:xy 6 #[.int .i64 0,.int .i64 0,.int .i64 0,.int .i64 0,.int .i64 0,.slice none 0 0]=true:=by simp[xy,Value.oneCell']
theorem DcSt.ro {W0:World}{a:Nat}{c:List UInt8}{W:World}(s:DcSt W0 a c W):xP W (W0.heap.size+1) 6=true:=by
 unfold xP;rw[s.res];rfl
theorem DcSt.drewN {W0:World}{a:Nat}{c:List UInt8}{W:World}(s:DcSt W0 a c W)(n:Nat):DcSt W0 a c (W.drewN n):=⟨xU s.bel n,s.box,s.res,⟨fun j u hj=>s.sl.cell j u hj⟩⟩
structure DcP (W0:World)(a:Nat)(c:List UInt8)(ab k:Nat)(pk pg pn pi pc:Int)(pv:Value)(W:World):Prop where
 st:DcSt W0 a c W
 cnt:W.heap[ab]?=some (.cells #[.int .i64 k] 3 (0,0))
 prt:W.heap[ab+1]?=some (.cells #[.int .i64 pk,.int .i64 pg,.int .i64 pn,.int .i64 pi,.int .i64 pc,pv] 217 (0,0))
 hab:W0.heap.size+2≤ab
theorem DcP.next {W0:World}{a:Nat}{c:List UInt8}{ab k k':Nat}{pk pg pn pi pc:Int}{pv:Value}{W W':World}(s:DcP W0 a c ab k pk pg pn pi pc pv W)(hg:W.grownBy W' (some ab))(hc:W'.heap[ab]?=some (.cells #[.int .i64 k'] 3 (0,0)))(ha:a<W0.heap.size) :
  DcP W0 a c ab k' pk pg pn pi pc pv W':=by
 have hl:=s.st.lt
 have hh:=s.hab
 have hl2:ab<W.heap.size:=(i_ s.cnt).1
 refine⟨s.st.later (B:=ab) ⟨hg.os,hg.tape,hg.output,hg.size,fun j hj=>hg.block j (by omega) (fun e=>by injection e with e;omega)⟩ s.hab ha,hc,?_,s.hab⟩
 exact(hg.block _ (i_ s.prt).1 (fun e=>by injection e with e;omega)).trans s.prt
theorem DcP.later {W0:World}{a:Nat}{c:List UInt8}{ab k:Nat}{pk pg pn pi pc:Int}{pv:Value}{W W':World}(s:DcP W0 a c ab k pk pg pn pi pc pv W)(hb:Below W.heap.size W W')(ha:a<W0.heap.size):DcP W0 a c ab k pk pg pn pi pc pv W' :=
 ⟨s.st.later hb s.st.lt ha,(hb.block _ (i_ s.cnt).1).trans s.cnt,(hb.block _ (i_ s.prt).1).trans s.prt,s.hab⟩
theorem DcP.setP {W0:World}{a:Nat}{c:List UInt8}{ab k:Nat}{pk pg pn pi pc:Int}{pv:Value}{W:World}(s:DcP W0 a c ab k pk pg pn pi pc pv W)(ha:a<W0.heap.size)(j:Nat)(v:Value)(qk qg qn qi qc:Int)(qv:Value)
  (he:(#[.int .i64 pk,.int .i64 pg,.int .i64 pn,.int .i64 pi,.int .i64 pc,pv]:Array Value).setIfInBounds j v=#[.int .i64 qk,.int .i64 qg,.int .i64 qn,.int .i64 qi,.int .i64 qc,qv]) :
  DcP W0 a c ab k qk qg qn qi qc qv (W.setCell ⟨ab+1,j,none⟩ v):=by
 have hl:=s.st.lt
 have hh:=s.hab
 refine⟨s.st.later (B:=ab+1) ⟨rfl,rfl,rfl,by simp[World.setCell],fun i hi=>heap_setCell_other W ⟨ab+1,j,none⟩ i v (by simp;omega)⟩ (by omega) ha,?_,?_,s.hab⟩
 ·rw[heap_setCell_other W ⟨ab+1,j,none⟩ ab v (by simp)];exact s.cnt
 ·rw[heap_setCell_same W (ab+1) j _ _ v s.prt,he]
theorem DcP.get {W0:World}{a:Nat}{c:List UInt8}{ab k:Nat}{pk pg pn pi pc:Int}{pv:Value}{W:World}(s:DcP W0 a c ab k pk pg pn pi pc pv W)(hc:c.length=256)(ha:a<W0.heap.size)(sz:Nat)(hsz:sz≤4)(hk:k+sz≤256) :
  Calls Tryz.prog 149 #[.int .i64 sz,.pointer (some ⟨W0.heap.size,0,none⟩),.pointer (some ⟨ab,0,none⟩)] W fun e W'=>e=.returned (.int .i64 (deB ((c.drop k).take sz):Nat))∧DcP W0 a c ab (k+sz) pk pg pn pi pc pv W' :=
 (xSe W0.heap.size ab ⟨a,0,none⟩ c 256 k sz W hc (Nat.le_refl _) s.st.box s.cnt s.st.sl (by have:=s.hab;omega) (by have:=s.hab;show a≠ab;omega) hsz hk).mono fun _ _ ⟨he,hg,hn⟩=>⟨he,s.next hg hn ha⟩
theorem vt (a:Nat)(c:List UInt8)(W:World)(hK:qF W)(hs:SlB W ⟨a,0,none⟩ c)(hc:c.length=256)(ha:a<W.heap.size) :
  Calls Tryz.prog 104 #[.slice (some ⟨a,0,none⟩) 256 256] W (xTr c W):=by
 have hst:DcSt W a c ((W.alloc (.cells #[.slice (some ⟨a,0,none⟩) 256 256] 66)).alloc (.cells #[.int .i64 0,.int .i64 0,.int .i64 0,.int .i64 0,.int .i64 0,.slice none 0 0] 217)):=by
  refine⟨((Below.refl _ _).alloc (Nat.le_refl _) _).alloc (by simp) _,?_,?_,⟨fun j u hj=>Lib.cell?_alloc_some _ (Lib.cell?_alloc_some _ (hs.cell j u hj))⟩⟩
  ·simp only[yt,World.size_alloc]
   rw[if_neg (by omega),if_pos trivial]
  ·simp only[yt,World.size_alloc]
   rw[if_pos trivial]
 have HST:=h_ hst
 have HK:=h_ hK
 clear hst hK hs
 go_enter Tryz.func104,Tryz.ntmps104
 go_upto_region 5 with (fail)
 obtain⟨w1,hw1⟩:∃ w1,w1=((W.alloc (.cells #[.slice (some ⟨a,0,none⟩) 256 256] 66)).alloc (.cells #[.int .i64 0,.int .i64 0,.int .i64 0,.int .i64 0,.int .i64 0,.slice none 0 0] 217)):=⟨_,rfl⟩
 refine xu hw1 ?_
 have h1:=HST.out
 rw[←hw1] at h1
 have HST1:=h_ h1
 clear hw1 h1 HST
 have c1:=cell_of_row w1 W.heap.size 0 _ _ _ HST1.out.box
 simp only[v_] at c1
 have hsum:=xEy ⟨a,16,none⟩ (c.drop 16) 240 w1 ⟨fun j u hj=>by have:=(HST1.out.sl.drop 16).cell j u hj;rwa [Addr.add_lit] at this⟩ (HK.out.below HST1.out.bel (Nat.le_refl _)) (by rw[List.length_drop];omega) (by rw[List.length_drop];omega) (by show a<_;have:=HST1.out.lt;omega)
 rw[show (c.drop 16).length=240 by rw[List.length_drop];omega] at hsum
 have HSUM:=h_ hsum
 clear hsum
 go_wp2_with fail
 refine HSUM.out.mono ?_
 rintro e w2 ⟨rfl,hb2⟩
 obtain⟨D,hD⟩:∃ q,q=sha (c.drop 16):=⟨_,rfl⟩
 rw[←hD]
 have hDl:D.length=16:=by rw[hD];exact yV _
 have HD:=h_ hD
 have HDL:=h_ hDl
 have hft:=xI4 hDl
 have HST2:=h_ (HST1.out.later hb2 HST1.out.lt ha)
 clear hD hDl HSUM hb2 c1
 go_upto_region 6 with (fail)
 obtain⟨w3,hw3⟩:∃ w3,w3=w2.alloc (.cells (encB D).toArray 276):=⟨_,rfl⟩
 refine xu hw3 ?_
 have hb3:Below w2.heap.size w2 w3:=by rw[hw3];exact b_ _ _
 have hrow3:w3.heap[w2.heap.size]?=some (.cells (encB D).toArray 276 (0,0)):=by rw[hw3];exact heap_alloc_new w2 _
 obtain⟨hh,hhe⟩:∃ hh,hh=w2.heap.size:=⟨_,rfl⟩
 rw[←hhe] at hrow3 ⊢
 have HST3:=h_ (HST2.out.later hb3 HST2.out.lt ha)
 have HROW3:=h_ hrow3
 have HLH:=h_ (show W.heap.size+2≤hh by rw[hhe];exact HST2.out.lt)
 clear hw3 hb3 hrow3 hhe hft HST2 HST1
 have c1:=cell_of_row w3 W.heap.size 0 _ _ _ HST3.out.box
 simp only[v_] at c1
 have heq:∀ n,Calls Tryz.prog 148 #[.slice (some ⟨hh,0,none⟩) 16 16,.slice (some ⟨a,0,none⟩) 16 256] (w3.drewN n) fun e w'=>e=.returned (.bool (decide (D=c.take 16)))∧∃ m,w'=w3.drewN m:=fun n=>by
  have h:=xIm ⟨hh,0,none⟩ ⟨a,0,none⟩ D (c.take 16) 16 256 (w3.drewN n) ⟨fun j u hj=>by
   have hj2:j<D.length:=by
    rcases Nat.lt_or_ge j D.length with h | h
    ·exact h
    ·rw[List.getElem?_eq_none h] at hj;cases hj
   rw[List.getElem?_eq_getElem hj2] at hj
   cases hj
   show w3.cell? _=_
   rw[Addr.add_lit,Nat.zero_add,cell_of_row _ _ _ _ _ _ HROW3.out,List.getElem?_toArray,vr D j hj2]⟩ ⟨fun j u hj=>by
   show w3.cell? _=_
   refine HST3.out.sl.cell j u ?_
   have hj2:j<16:=by
    rcases Nat.lt_or_ge j 16 with h | h
    ·exact h
    ·rw[List.getElem?_eq_none (by rw[List.length_take];omega)] at hj;cases hj
   rwa [List.getElem?_take_of_lt hj2] at hj⟩
  rw[HDL.out,show (c.take 16).length=16 by rw[List.length_take];omega] at h
  exact h.mono fun _ _ ⟨he,hw⟩=>⟨he,n,hw.symm⟩
 have HEQ:=h_ heq
 clear heq
 by_cases hq:D=c.take 16
 ·have hqd:decide (D=c.take 16)=true:=decide_eq_true hq
  rw[hqd] at HEQ
  have HQ:=h_ hq
  clear hq hqd
  go_quiet ((go_at_call 148;exact HEQ.out _))
  have HS4:=h_ (HST3.out.drewN nq)
  generalize w3.drewN nq=w4 at HS4 ⊢
  clear HEQ HROW3 HST3 HLH c1
  go_upto_region 11 with (fail)
  obtain⟨ab,hab⟩:∃ ab,ab=w4.heap.size:=⟨_,rfl⟩
  have hp5:DcP W a c ab 16 0 0 0 0 0 (.slice none 0 0) ((w4.alloc (.cells #[.int .i64 16] 3)).alloc (.cells #[.int .i64 0,.int .i64 0,.int .i64 0,.int .i64 0,.int .i64 0,.slice none 0 0] 217)):=by
   refine⟨HS4.out.later (((Below.refl _ _).alloc (Nat.le_refl w4.heap.size) _).alloc (by simp) _) HS4.out.lt ha,?_,?_,by rw[hab];exact HS4.out.lt⟩
   ·simp only[yt,World.size_alloc,hab]
    rw[if_neg (by omega),if_pos trivial];rfl
   ·simp only[yt,World.size_alloc,hab]
    rw[if_pos trivial]
  obtain⟨w5,hw5⟩:∃ w5,w5=((w4.alloc (.cells #[.int .i64 16] 3)).alloc (.cells #[.int .i64 0,.int .i64 0,.int .i64 0,.int .i64 0,.int .i64 0,.slice none 0 0] 217)):=⟨_,rfl⟩
  refine xu hw5 ?_
  rw[←hw5] at hp5
  rw[←hab]
  have HP5:=h_ hp5
  clear hp5 hw5 hab HS4
  go_wp2_with fail
  refine(HP5.out.get hc ha 4 (by omega) (by omega)).mono ?_
  rintro e w6 ⟨rfl,hp⟩
  obtain⟨gn,hgn⟩:∃ q,q=deB ((c.drop 16).take 4):=⟨_,rfl⟩
  rw[←hgn]
  have hlgn:=jp ((c.drop 16).take 4) (by rw[List.length_take];omega)
  rw[←hgn] at hlgn
  have Hgn:=h_ hgn
  have HP6:=h_ hp
  clear hgn hp
  go_wp2_with fail
  refine(HP6.out.get hc ha 4 (by omega) (by omega)).mono ?_
  rintro e w7 ⟨rfl,hp⟩
  obtain⟨nn,hnn⟩:∃ q,q=deB ((c.drop 20).take 4):=⟨_,rfl⟩
  rw[←hnn]
  have hlnn:=jp ((c.drop 20).take 4) (by rw[List.length_take];omega)
  rw[←hnn] at hlnn
  have Hnn:=h_ hnn
  have HP7:=h_ hp
  clear hnn hp
  have f1:=frozen_of_row w7 (ab+1) 1 _ _ HP7.out.prt
  have g1:=cell_of_row w7 (ab+1) 1 _ _ _ HP7.out.prt
  have f2:=frozen_of_row w7 (ab+1) 2 _ _ HP7.out.prt
  have g2:=cell_of_row w7 (ab+1) 2 _ _ _ HP7.out.prt
  simp only[List.getElem?_toArray,List.getElem?_cons_succ,List.getElem?_cons_zero] at g1 g2
  go_upto_region 12 with (fail)
  have hp8:=(HP7.out.setP ha 1 (.int .i64 gn) 0 gn 0 0 0 (.slice none 0 0) rfl).setP ha 2 (.int .i64 nn) 0 gn nn 0 0 (.slice none 0 0) rfl
  generalize (w7.setCell ⟨ab+1,1,none⟩ (.int .i64 gn)).setCell ⟨ab+1,2,none⟩ (.int .i64 nn)=w8 at hp8 ⊢
  have HP8:=h_ hp8
  clear f1 g1 f2 g2 hp8
  go_wp2_with fail
  refine(HP8.out.get hc ha 2 (by omega) (by omega)).mono ?_
  rintro e w9 ⟨rfl,hp⟩
  obtain⟨kn,hkn⟩:∃ q,q=deB ((c.drop 24).take 2):=⟨_,rfl⟩
  rw[←hkn]
  have hlkn:=jp ((c.drop 24).take 2) (by rw[List.length_take];omega)
  rw[←hkn] at hlkn
  have Hkn:=h_ hkn
  have HP9:=h_ hp
  clear hkn hp
  go_wp2_with fail
  refine(HP9.out.get hc ha 2 (by omega) (by omega)).mono ?_
  rintro e w10 ⟨rfl,hp⟩
  obtain⟨ix,hix⟩:∃ q,q=deB ((c.drop 26).take 2):=⟨_,rfl⟩
  rw[←hix]
  have hlix:=jp ((c.drop 26).take 2) (by rw[List.length_take];omega)
  rw[←hix] at hlix
  have Hix:=h_ hix
  have HP10:=h_ hp
  clear hix hp
  go_wp2_with fail
  refine(HP10.out.get hc ha 2 (by omega) (by omega)).mono ?_
  rintro e w11 ⟨rfl,hp⟩
  obtain⟨cn,hcn⟩:∃ q,q=deB ((c.drop 28).take 2):=⟨_,rfl⟩
  rw[←hcn]
  have hlcn:=jp ((c.drop 28).take 2) (by rw[List.length_take];omega)
  rw[←hcn] at hlcn
  have Hcn:=h_ hcn
  have HP11:=h_ hp
  clear hcn hp
  have f1:=frozen_of_row w11 (ab+1) 0 _ _ HP11.out.prt
  have g1:=cell_of_row w11 (ab+1) 0 _ _ _ HP11.out.prt
  have f2:=frozen_of_row w11 (ab+1) 3 _ _ HP11.out.prt
  have g2:=cell_of_row w11 (ab+1) 3 _ _ _ HP11.out.prt
  have f3:=frozen_of_row w11 (ab+1) 4 _ _ HP11.out.prt
  have g3:=cell_of_row w11 (ab+1) 4 _ _ _ HP11.out.prt
  simp only[List.getElem?_toArray,List.getElem?_cons_succ,List.getElem?_cons_zero] at g1 g2 g3
  go_upto_region 13 with (fail)
  have hp12:=((HP11.out.setP ha 0 (.int .i64 kn) kn gn nn 0 0 (.slice none 0 0) rfl).setP ha 3 (.int .i64 ix) kn gn nn ix 0 (.slice none 0 0) rfl).setP ha 4 (.int .i64 cn) kn gn nn ix cn (.slice none 0 0) rfl
  generalize ((w11.setCell ⟨ab+1,0,none⟩ (.int .i64 kn)).setCell ⟨ab+1,3,none⟩ (.int .i64 ix)).setCell ⟨ab+1,4,none⟩ (.int .i64 cn)=w12 at hp12 ⊢
  have HP12:=h_ hp12
  clear f1 g1 f2 g2 f3 g3 hp12
  go_wp2_with fail
  refine(HP12.out.get hc ha 2 (by omega) (by omega)).mono ?_
  rintro e w13 ⟨rfl,hp⟩
  obtain⟨sz,hsz⟩:∃ q,q=deB ((c.drop 30).take 2):=⟨_,rfl⟩
  rw[←hsz]
  have hlsz:=jp ((c.drop 30).take 2) (by rw[List.length_take];omega)
  rw[←hsz] at hlsz
  have Hsz:=h_ hsz
  have HP13:=h_ hp
  clear hsz hp
  have hraw:rawP (c.drop 16)=⟨kn,gn,nn,ix,cn,((c.drop 16).drop 16).take sz⟩:=by
   unfold rawP
   rw[Hgn.out,Hnn.out,Hkn.out,Hix.out,Hcn.out,Hsz.out]
   simp only[List.drop_drop,Nat.reduceAdd]
  have hsz0:deB (((c.drop 16).drop 14).take 2)=sz:=by rw[Hsz.out];simp only[List.drop_drop,Nat.reduceAdd]
  have HRAW:=h_ hraw
  have HSZ:=h_ hsz0
  clear hraw hsz0 HP5 HP6 HP7 HP8 HP9 HP10 HP11 HP12
  have c1:=cell_of_row w13 W.heap.size 0 _ _ _ HP13.out.st.box
  simp only[v_] at c1
  by_cases q1:sz≤224
  ·have q1z:(sz:Int)≤224:=by omega
   have hpz:(sz:Int)≤256:=by omega
   have hsl:=jy ⟨a,0,none⟩ 256 256 (32+sz) (32+(sz:Int)) (by omega) (by omega)
   have hblk:=xPb (some (cutA ⟨a,0,none⟩ 256 (32+sz))) (c.drop (32+sz)) (256-(32+sz)) w13 (fun q hq=>by cases hq;exact HP13.out.st.sl.cut (by omega) _) (fun hq=>by cases hq) (by rw[List.length_drop];omega)
   rw[List.length_drop,hc] at hblk
   obtain⟨bl,hbl⟩:∃ bl,bl=xCo (c.drop (32+sz)):=⟨_,rfl⟩
   rw[←hbl] at hblk
   have HBLK:=h_ hblk
   have HBL:=h_ hbl
   clear hblk hbl
   cases bl with
   | false =>
    have HSE:=h_ (HP13.out.st)
    have hro:=HSE.out.ro
    have hfz:=xAz
    have hbf:=h_ (xJ HSE.out.bel (show W.heap.size≤W.heap.size+1 by omega) ud)
    have hr:=xI (setRow_heap w13 (W.heap.size+1) _ ud _ _ HSE.out.res) (rfl:ud.size=6)
    have HR:=h_ hr
    have hno:=h_ (show decP sha c=none from xN7 fun h=>by have h2:=h.2.2.1;rw[HSZ.out,List.drop_drop,show 16+(16+sz)=32+sz by omega] at h2;have h3:=HBL.out;unfold xCo at h3;rw[h2] at h3;cases h3)
    clear hr
    unfold ud at HR hbf
    go_wp2_with (go_at_call 150;refine HBLK.out.mono ?_;rintro e w' ⟨rfl,rfl⟩)
    refine bodyPost_ret (v:=.tuple #[.agg ud,.int .i64 3]) ?_ rfl (xDu hbf.out hno.out (by decide))
    exact uN rfl Tryz.isAgg217 Tryz.sizeOf217 _ _ ⟨W.heap.size+1,0,none⟩ _ _ rfl rfl HR.out.1 HR.out.2
   | true =>
    go_upto_region 16 with (go_at_call 150;refine HBLK.out.mono ?_;rintro e w' ⟨rfl,rfl⟩)
    clear hsl
    have hsl2:=xCw ⟨a,0,none⟩ 256 256 32 (32+sz) 32 (32+(sz:Int)) rfl (by omega) (by omega) (by omega)
    rw[show 32+sz-32=sz by omega] at hsl2
    obtain⟨ca,hca⟩:∃ q,q=cutA ⟨a,0,none⟩ 256 32:=⟨_,rfl⟩
    have hcl:=jH ca ((c.drop 32).take sz) 224 w13 (by rw[hca];exact(HP13.out.st.sl.cut (by omega) 32).take sz) (by rw[List.length_take];omega)
    have hbl32:((c.drop 32).take sz).length=sz:=by rw[List.length_take,List.length_drop];omega
    rw[hbl32] at hcl
    rw[←hca] at hsl2
    have HCL:=h_ hcl
    have HBL32:=h_ hbl32
    have hprt:=HP13.out.prt
    clear hca hcl hbl32
    simp only[Nat.reduceSub] at hsl2
    go_wp2_with fail
    refine HCL.out.mono ?_
    rintro e w14 ⟨v,rfl,hown,hvn,hb14⟩
    have hl13:ab+1<w13.heap.size:=(i_ hprt).1
    have hp14:=HP13.out.later hb14 ha
    have hB14:W.heap.size≤w13.heap.size:=HP13.out.st.bel.size
    obtain⟨vg,vc,hv,hvg,hvl,-,-⟩:∃ g cap,v=.slice (some ⟨g,0,none⟩) ((c.drop 32).take sz).length cap∧w13.heap.size≤g∧((c.drop 32).take sz).length≤cap∧cap≤maxLen∧SlB w14 ⟨g,0,none⟩ ((c.drop 32).take sz):=by
     rcases hown.at with⟨h,_⟩ | h
     ·exact absurd h hvn
     ·exact h
    rw[HBL32.out] at hv hvl
    have f5:=frozen_of_row w14 (ab+1) 5 _ _ hp14.prt
    have g5:=cell_of_row w14 (ab+1) 5 _ _ _ hp14.prt
    simp only[List.getElem?_toArray,List.getElem?_cons_succ,List.getElem?_cons_zero] at g5
    have hp15:=hp14.setP ha 5 v kn gn nn ix cn v rfl
    have hown15:OwnB (w14.setCell ⟨ab+1,5,none⟩ v) w13.heap.size v ((c.drop 32).take sz):=hown.grown (xI0 w14 (ab+1) 5 v) (fun k e=>by cases e;rw[hv];simp[Value.ownBlock];omega)
    subst hv
    have HOWN:=h_ hown15
    have HP15:=h_ hp15
    have HVL:=h_ hvl
    clear hown hp14 hp15 hown15 hvl hb14 HCL hprt hsl2 c1 hvn
    go_upto_region 17 with (fail)
    clear f5 g5
    generalize w14.setCell ⟨ab+1,5,none⟩ (.slice (some ⟨vg,0,none⟩) sz vc)=w15 at HP15 HOWN ⊢
    have hr15:=xI (n:=6) HP15.out.prt rfl
    have r1:=hr15.1
    have r2:=hr15.2
    have hch:=xL2 (rawP (c.drop 16)) (some ⟨vg,0,none⟩) vc w15 (by rw[HRAW.out];simp only;rw[List.drop_drop,HBL32.out];exact HVL.out)
    rw[HRAW.out] at hch
    simp only[List.drop_drop,Nat.reduceAdd,HBL32.out] at hch
    unfold zb at hch
    have hp32:(⟨kn,gn,nn,ix,cn,(c.drop 32).take sz⟩:zk)=rawP (c.drop 16):=by rw[HRAW.out];simp only[List.drop_drop,Nat.reduceAdd]
    rw[hp32] at hch
    have HP32:=h_ hp32
    have HCH:=h_ hch
    clear hr15 hch hp32
    go_wp2_with fail
    refine HCH.out.mono ?_
    rintro e w16 ⟨r,rfl,hok,hb16⟩
    have HP16:=h_ (HP15.out.later hb16 ha)
    have HOWN16:=h_ (HOWN.out.below hb16)
    have HOKR:=h_ hok
    clear r1 r2 HCH hb16 hok
    by_cases hr0:r=0
    ·subst hr0
     have hr16:=xI (n:=6) HP16.out.prt rfl
     have r1:=hr16.1
     have r2:=hr16.2
     have hro:=HP16.out.st.ro
     have hfz:xy 6 #[Value.int .i64 kn,.int .i64 gn,.int .i64 nn,.int .i64 ix,.int .i64 cn,.slice (some ⟨vg,0,none⟩) sz vc]=true:=by simp[xy,Value.oneCell']
     have hbf:=h_ (xJ HP16.out.st.bel (show W.heap.size≤W.heap.size+1 by omega) #[Value.int .i64 kn,.int .i64 gn,.int .i64 nn,.int .i64 ix,.int .i64 cn,.slice (some ⟨vg,0,none⟩) sz vc])
     have hr:=xI (n:=6) (setRow_heap w16 (W.heap.size+1) _ #[Value.int .i64 kn,.int .i64 gn,.int .i64 nn,.int .i64 ix,.int .i64 cn,.slice (some ⟨vg,0,none⟩) sz vc] _ _ HP16.out.st.res) rfl
     have HR:=h_ hr
     have hyes:=h_ (show decP sha c=some (rawP (c.drop 16)) from xZi ⟨HD.out.symm.trans HQ.out,by rw[HSZ.out];exact q1,by rw[HSZ.out,List.drop_drop,show 16+(16+sz)=32+sz by omega];have h3:=HBL.out;unfold xCo at h3;exact h3.symm,HOKR.out.1 rfl⟩)
     have hownf:=h_ (HOWN16.out.grown (kQ w16 (W.heap.size+1) #[Value.int .i64 kn,.int .i64 gn,.int .i64 nn,.int .i64 ix,.int .i64 cn,.slice (some ⟨vg,0,none⟩) sz vc]) (fun k e=>by cases e;simp[Value.ownBlock];have:=HP16.out.hab;omega))
     clear hr16 hr
     go_wp2
     refine bodyPost_ret (v:=.tuple #[.agg #[Value.int .i64 kn,.int .i64 gn,.int .i64 nn,.int .i64 ix,.int .i64 cn,.slice (some ⟨vg,0,none⟩) sz vc],.int .i64 0]) ?_ rfl ⟨hbf.out,.inl ⟨rawP (c.drop 16),.slice (some ⟨vg,0,none⟩) sz vc,hyes.out,?_,?_,by simp⟩⟩
     ·exact uN rfl Tryz.isAgg217 Tryz.sizeOf217 _ _ ⟨W.heap.size+1,0,none⟩ _ _ rfl rfl HR.out.1 HR.out.2
     ·rw[HRAW.out];rfl
     ·rw[←HP32.out]
      exact hownf.out.base hB14
    ·have hr1:(r == 0)=false:=by rw[beq_eq_false_iff_ne];exact hr0
     have hr2:(r != 0)=true:=by rw[bne_iff_ne];exact hr0
     have HR0:=h_ hr0
     clear hr0
     have HSE:=h_ (HP16.out.st)
     have hro:=HSE.out.ro
     have hfz:=xAz
     have hbf:=h_ (xJ HSE.out.bel (show W.heap.size≤W.heap.size+1 by omega) ud)
     have hr:=xI (n:=6) (setRow_heap w16 (W.heap.size+1) _ ud _ _ HSE.out.res) (rfl:ud.size=6)
     have HR:=h_ hr
     have hno:=h_ (show decP sha c=none from xN7 fun h=>HR0.out (HOKR.out.2 h.2.2.2))
     clear hr
     unfold ud at HR hbf
     go_wp2
     refine bodyPost_ret (v:=.tuple #[.agg ud,.int .i64 3]) ?_ rfl (xDu hbf.out hno.out (by decide))
     exact uN rfl Tryz.isAgg217 Tryz.sizeOf217 _ _ ⟨W.heap.size+1,0,none⟩ _ _ rfl rfl HR.out.1 HR.out.2
  ·have q1z:¬ (sz:Int)≤224:=by omega
   have HSE:=h_ (HP13.out.st)
   have hro:=HSE.out.ro
   have hfz:=xAz
   have hbf:=h_ (xJ HSE.out.bel (show W.heap.size≤W.heap.size+1 by omega) ud)
   have hr:=xI (setRow_heap w13 (W.heap.size+1) _ ud _ _ HSE.out.res) (rfl:ud.size=6)
   have HR:=h_ hr
   have hno:=h_ (show decP sha c=none from xN7 fun h=>q1 (by have:=h.2.1;rw[HSZ.out] at this;exact this))
   clear hr
   unfold ud at HR hbf
   go_wp2
   refine bodyPost_ret (v:=.tuple #[.agg ud,.int .i64 3]) ?_ rfl (xDu hbf.out hno.out (by decide))
   exact uN rfl Tryz.isAgg217 Tryz.sizeOf217 _ _ ⟨W.heap.size+1,0,none⟩ _ _ rfl rfl HR.out.1 HR.out.2
 ·have hqd:decide (D=c.take 16)=false:=decide_eq_false hq
  rw[hqd] at HEQ
  have HQ:=h_ hq
  clear hq hqd
  go_quiet ((go_at_call 148;exact HEQ.out _))
  have HS4:=h_ (HST3.out.drewN nq)
  generalize w3.drewN nq=w4 at HS4 ⊢
  have hro:=HS4.out.ro
  have hfz:=xAz
  have hbf:=h_ (xJ HS4.out.bel (show W.heap.size≤W.heap.size+1 by omega) ud)
  have hr:=xI (setRow_heap w4 (W.heap.size+1) _ ud _ _ HS4.out.res) (rfl:ud.size=6)
  have HR:=h_ hr
  have hno:=h_ (show decP sha c=none from xN7 fun h=>HQ.out (HD.out.trans h.1))
  clear hr
  unfold ud at HR hbf
  go_wp2
  refine bodyPost_ret (v:=.tuple #[.agg ud,.int .i64 22]) ?_ rfl (xDu hbf.out hno.out (by decide))
  exact uN rfl Tryz.isAgg217 Tryz.sizeOf217 _ _ ⟨W.heap.size+1,0,none⟩ _ _ rfl rfl HR.out.1 HR.out.2
end
theorem Tryz.info_slb:(Tryz.prog.info? 66).map (fun i=>(i.zero,i.size,i.bytes))=some (some (.slice none 0 0),1,24):=by kernel_rfl
def xA8 (w:World)(B:Nat)(v x:Value)(l:List UInt8):Prop:=∃ g,x=.slice (some ⟨g,0,none⟩) 256 256∧l.length=256∧B≤g∧g<w.heap.size∧v.ownBlock≠some g∧SlB w ⟨g,0,none⟩ l
structure ScAt (w:World)(B:Nat)(v:Value)(L:List (List UInt8))(vs:List Value):Prop where
 own:w.ownsRow B 66 1 v L.length vs
 len:vs.length=L.length
 el:∀ i (hi:i<L.length),xA8 w B v (vs[i]'(by rw[len];exact hi)) L[i]
theorem xA8.same {w w':World}{B:Nat}{v x:Value}{l:List UInt8}(h:xA8 w B v x l)(hs:w.heap.size≤w'.heap.size)(hb:∀ g,B≤g→v.ownBlock≠some g→g<w.heap.size→w'.heap[g]?=w.heap[g]?):xA8 w' B v x l:=by
 obtain⟨g,h1,h2,h3,h4,h5,h6⟩:=h
 refine⟨g,h1,h2,h3,by omega,h5,⟨fun j c hj=>?_⟩⟩
 have:=h6.cell j c hj
 rw[Addr.add_lit] at this ⊢
 unfold World.cell? at this ⊢
 rw[hb g h3 h5 h4];exact this
theorem ScAt.nil (w:World)(B:Nat):ScAt w B (.slice none 0 0) [] []:=⟨World.ownsRow_nil _ _ _ _,rfl,fun i hi=>by cases hi⟩
theorem ScAt.later {w w':World}{B:Nat}{v:Value}{L:List (List UInt8)}{vs:List Value}(h:ScAt w B v L vs)(hb:Below w.heap.size w w'):ScAt w' B v L vs :=
 ⟨World.ownsRow.kept (row:=none) h.own (ui hb none) (by cases v.ownBlock <;> simp),h.len,fun i hi=>(h.el i hi).same hb.size (fun g _ _ hg=>hb.block g hg)⟩
theorem ScAt.app {w w':World}{B:Nat}{v v' x:Value}{L:List (List UInt8)}{vs:List Value}{l:List UInt8}(h:ScAt w B v L vs)(ho:w'.ownsRow B 66 1 v' (L.length+1) (vs++[x]))(hg:w.grownBy w' v.ownBlock)
  (hx:xA8 w B v x l) (hv':∀ k,v'.ownBlock=some k→v.ownBlock=some k∨w.heap.size≤k):ScAt w' B v' (L++[l]) (vs++[x]):=by
 have conv:∀ y m,xA8 w B v y m→xA8 w' B v' y m:=fun y m ⟨g,h1,h2,h3,h4,h5,h6⟩=>by
  refine⟨g,h1,h2,h3,Nat.lt_of_lt_of_le h4 hg.size,fun e=>?_,⟨fun j c hj=>?_⟩⟩
  ·rcases hv' g e with h | h
   ·exact h5 h
   ·omega
  ·have:=h6.cell j c hj
   rw[Addr.add_lit] at this ⊢
   unfold World.cell? at this ⊢
   rw[hg.block g h4 (fun e=>h5 e.symm)];exact this
 refine⟨by simpa using ho,by simp[h.len],fun i hi=>?_⟩
 by_cases hlt:i<L.length
 ·rw[List.getElem_append_left hlt,List.getElem_append_left (by rw[h.len];exact hlt)]
  exact conv _ _ (h.el i hlt)
 ·have hi2:i=L.length:=by simp at hi;omega
  subst hi2
  rw[List.getElem_append_right (Nat.le_refl _),List.getElem_append_right (by rw[h.len];exact Nat.le_refl _)]
  simp only[Nat.sub_self,h.len,List.getElem_singleton]
  exact conv _ _ hx
theorem ScAt.base {w:World}{B B':Nat}{v:Value}{L:List (List UInt8)}{vs:List Value}(h:ScAt w B v L vs)(hb:B'≤B):ScAt w B' v L vs :=
 ⟨⟨h.own.1,h.own.2.imp (fun h=>h) fun⟨g,cap,cur,hv,hg,r⟩=>⟨g,cap,cur,hv,Nat.le_trans hb hg,r⟩⟩,h.len,fun i hi=>by
  obtain⟨g,h1,h2,h3,h4⟩:=h.el i hi
  exact⟨g,h1,h2,Nat.le_trans hb h3,h4⟩⟩
theorem ScAt.at {w:World}{B:Nat}{v:Value}{L:List (List UInt8)}{vs:List Value}(h:ScAt w B v L vs)(hne:L≠[]):∃ g cap,v=.slice (some ⟨g,0,none⟩) L.length cap∧B≤g∧g<w.heap.size∧L.length≤cap∧cap≤maxLen∧∀ i (hi:i<L.length),w.cell? ⟨g,i,none⟩=some (vs[i]'(by rw[h.len];exact hi)):=by
 rcases h.own.2 with⟨_,h0⟩ | ⟨g,cap,cur,hv,hg,hcur,hle,hmx,hcs,htk⟩
 ·exact absurd (List.eq_nil_of_length_eq_zero h0) hne
 ·refine⟨g,cap,hv,hg,(i_ hcur).1,hle,hmx,fun i hi=>?_⟩
  subst hv
  have:=World.ownsRow.cellAt h.own i (by omega)
  rw[this,List.getElem?_eq_getElem (by rw[h.len];exact hi)]
theorem xA8.later {w w':World}{B:Nat}{v x:Value}{l:List UInt8}(h:xA8 w B v x l)(hb:Below w.heap.size w w'):xA8 w' B v x l:=h.same hb.size (fun g _ _ hg=>hb.block g hg)
theorem xYw {w:World}{g T:Nat}{c:List UInt8}{fr:Nat × Nat}(hrow:w.heap[g]?=some (.cells (encB c).toArray T fr)):SlB w ⟨g,0,none⟩ c:=⟨fun j u hj=>by
 rw[Addr.add_lit,Nat.zero_add,cell_of_row _ _ _ _ _ _ hrow,List.getElem?_toArray]
 have hj2:j<c.length:=by
  rcases Nat.lt_or_ge j c.length with h | h
  ·exact h
  ·rw[List.getElem?_eq_none h] at hj;cases hj
 rw[vr _ j hj2]
 rw[List.getElem?_eq_getElem hj2] at hj;cases hj;rfl⟩
theorem xQ5 {w:World}{B g T:Nat}{v:Value}{c:List UInt8}{fr:Nat × Nat}(hrow:w.heap[g]?=some (.cells (encB c).toArray T fr))(hc:c.length=256)(hB:B≤g)(hv:v.ownBlock≠some g):xA8 w B v (.slice (some ⟨g,0,none⟩) 256 256) c :=
 ⟨g,rfl,hc,hB,(i_ hrow).1,hv,xYw hrow⟩
theorem uq {rest:List Oper}{ops:Array Oper}{o:Oper}{a:Act}{Q:Exit→Act→World→Prop}{w:World}(hgd:o.guard=none)(s x:Operand)
  (ho:o.op=.call { callee:=.builtin .append,args:=#[s,x],argTypes:=#[66,66] }) (B:Nat) (v:Value) (l:List UInt8) (hs:a.eval s=v) (hown:OwnB w B v l)
  (ad:Addr) (r:List UInt8) (c:Nat) (hx:a.eval x=.slice (some ad) r.length c) (hr:SlB w ad r) (hlen:l.length+r.length≤1000000000000) (hB:B≤w.heap.size)
  (h:∀ v' w',OwnB w' B v' (l++r)→w.grownBy w' v.ownBlock→(v'=.slice none 0 0↔v=.slice none 0 0∧r.length=0)→(v'.ownBlock=v.ownBlock∨v'.ownBlock=some w.heap.size)→wpList Tryz.prog ops Q rest (a.put o.dst v') w'):wpList Tryz.prog ops Q (o :: rest) a w:=by
 obtain⟨i0,hi,hz0,hz1,hz2⟩:=info_parts Tryz.info_byte
 refine wpList_append_own_at w hgd s x 66 ho B 5 i0 (.int .u8 0) 1 1 Tryz.underlying66 hi hz0 hz1 hz2 rfl (by decide) v l.length (encB l) hs hown ad r.length c (encB r) hx (by rw[xM,Nat.mul_one]) (fun j u hj=>?_) (uk r) (by unfold maxLen;omega) (by omega) hB fun v' w' h1 h2 h3 h4=>?_
 ·have hj2:j<r.length:=by
   rcases Nat.lt_or_ge j r.length with h | h
   ·exact h
   ·rw[List.getElem?_eq_none (by rw[xM];exact h)] at hj;cases hj
  rw[vr r j hj2] at hj
  cases hj
  exact hr.cell j _ (List.getElem?_eq_getElem hj2)
 ·refine h v' w' ?_ h2 h3 h4
  unfold OwnB
  rw[xFk,List.length_append]
  exact h1
theorem xAd {rest:List Oper}{ops:Array Oper}{o:Oper}{a:Act}{Q:Exit→Act→World→Prop}{w:World}(hgd:o.guard=none)(s x:Operand)
  (ho:o.op=.call { callee:=.builtin .append,args:=#[s,x],argTypes:=#[129,129] }) (B:Nat) (v:Value) (L:List (List UInt8)) (vs:List Value) (hs:a.eval s=v) (hsc:ScAt w B v L vs)
  (y:Value) (l:List UInt8) (hy:xA8 w B v y l) (ad:Addr) (hx:a.eval x=.slice (some ad) 1 1) (hc:w.cell? ad=some y) (hlen:L.length≤1000000) (hB:B≤w.heap.size)
  (h:∀ v' w',ScAt w' B v' (L++[l]) (vs++[y])→w.grownBy w' v.ownBlock→(v'.ownBlock=v.ownBlock∨v'.ownBlock=some w.heap.size)→wpList Tryz.prog ops Q rest (a.put o.dst v') w'):wpList Tryz.prog ops Q (o :: rest) a w:=by
 obtain⟨i0,hi,hz0,hz1,hz2⟩:=info_parts Tryz.info_slb
 have hyo:y.oneCell'=true:=by obtain⟨g,rfl,_⟩:=hy;rfl
 refine wpList_append_own_at w hgd s x 129 ho B 66 i0 (.slice none 0 0) 1 24 Tryz.underlying129 hi hz0 hz1 hz2 rfl (by decide) v L.length vs hs hsc.own ad 1 1 [y] hx rfl (fun j u hj=>?_) (fun u hu=>by simp at hu;rw[hu];exact hyo) (by unfold maxLen;omega) (by omega) hB fun v' w' h1 h2 _ h4=>?_
 ·match j,hj with
  | 0,hj =>
   simp only[List.getElem?_cons_zero,Option.some.injEq] at hj
   subst hj
   simpa[Addr.add] using hc
 ·refine h v' w' (hsc.app h1 h2 hy fun k hk=>?_) h2 h4
  rcases h4 with h | h
  ·exact .inl (h ▸ hk)
  ·right;rw[h] at hk;injection hk with hk;omega
end Go.Proofs.YthiafifdiaplaaaGreatDoor
