/- Parts of the proofs about bulletinlaw29: Rec7, Rec8, Print, ScanId, Split, Set, SetRefs, Part, Parse, Build, Back, Own, Plain, Inv, LawCheck, Check, Clone, Insert, Add0, Knows, Search, MapLaw, Index, Get, InsertMid, AddLaw, PJour, Dsk1, Dsk2, Dsk3, Add, Delete, RemoveLaw, Remove, NameOrd, Names, RNames, TQ, Round. -/
import Derived.Test.YtdhapkeimaljfaaGreatDoorRL1
import Derived.WalkMore
import Derived.Lib.SplitLaws
import Derived.Great.BuildSlice
import Derived.Deep.QuietTactic
import Derived.WalkSpells
import Derived.Outline
import Derived.Carry
import Derived.WideMake
import Derived.RangeFuncRecord
import Derived.Deep.CutBlock
import Derived.Shelf.Spec.SlicesInsertGrow
import Derived.Laws.CopyRow
import Derived.Maps.AppendAt
import Derived.RangeFuncNested
import Derived.RangeFuncBound
import Derived.RangeFuncCalls
import Derived.RangeFuncLeaves
import Derived.Shelf.Abstract
import Derived.Shelf.AbstractIn
import Derived.Shelf.RegionOpen
import Derived.OwnWalkIn
import Derived.TacticsInMore
import Derived.RegionIn
import Derived.LoopNIn
import Derived.LoopIn
import Derived.Deep.CutRange
import Derived.Deep.LoopGhost
import Derived.Deep.RegionWith
import Derived.Shelf.SlGeneric
import Derived.Shelf.SlIter.Nil
import Derived.Shelf.SlSortCmp.NoneTotal
import Derived.Ground.GgzProg
import Derived.Ground.SlsfProg
import Derived.Test.YtdhapkeimaljfaaGreatDoorProg
set_option maxRecDepth 100000
set_option linter.all false
set_option maxHeartbeats 8000000
namespace Go.Proofs.YtdhapkeimaljfaaGreatDoor
open Go Go.RowKit Go.Proofs Tryz
def bw_:=@List.getElem_drop
def M3:=@List.drop_eq_getElem_cons
def bx_:=@List.getElem_cons_zero
def G5:=@List.append_nil
def T7:=@List.map_map
def as_:=@List.flatMap_cons
def ap_:=@List.length_eq_zero_iff
def bI_:=@World.cell?_drew
def L3:=@List.getElem_mem
def ae_:=@World.ownsRow.cells
def by_:=@MapKept.bytes_beq
def aU_:=@List.eraseIdx_cons_succ
def bz_:=@MapKept.run_setObj_map
def aE_:=@List.find?_cons
def aJ_:=@List.mem_flatMap
def R2:=@Option.mem_toList
def L7:=@List.getElem?_eq_some_iff
def ab_:=@List.mem_of_getElem?
def bP_:=@Prod.mk.inj
def bF_:=@Lib.wpList_append_run
def L8:=@List.map_append
def aA_:=@List.map_nil
def aI_:=@List.map_take
def cd_:=@List.pairwise_map
def cb_:=@List.mem_cons_self
def V0:=@List.mem_cons_of_mem
def bA_:=@List.ext_getElem?
def bb_:=@List.length_replicate
def an_:=@Oper.semAt_eq
def L1:=@List.length_nil
def aO_:=@Array.replicate_succ
def aP_:=@Array.replicate_zero
def bd_:=@List.push_toArray
def aR_:=@List.append_toArray
def ce_:=@List.any_eq_false
def cj_:=@List.map_toArray
def bc_:=@List.eraseIdx_sublist
def aw_:=@Option.getD_some
section
theorem uy {P fn p t u ty n}(h:fn.results=#[.cell p ty,.tmp t,.tmp u])(f:∀w,Sem.run P (isAgg ty) w=.ok true w)(hs:∀w,Sem.run P (Go.sizeOf ty) w=.ok n w)
  (tmps) (w) (a) (cs) (v b) (e:tmps.getD p undef=.pointer (some a)) (hv:tmps.getD t undef=v) (d:tmps.getD u undef=b) (j:xp w a n=true) (i:xo w a n=cs):
  (results fn tmps).run P w=.ok (.tuple #[.agg cs,v,b]) w:=by
 have c:tmps[p]?.getD undef=.pointer (some a):=by simpa using e
 have g:tmps[t]?.getD undef=v:=by simpa using hv
 have k:tmps[u]?.getD undef=b:=by simpa using d
 have hl:(loadVar ty a).run P w=.ok (.agg cs) w:=by
  simp[loadVar,f,hs,yY w a n j,i]
 simp[results,h,c,g,k,asAddr,hl]
structure xDr (w:World)(a:Addr)(L:List (List UInt8)):Prop where
 at':∀i (hi:i<L.length),∃g,w.cell? (a.add i)=some (.slice (some ⟨g,0,none⟩) 256 256)/\L[i].length=256/\g<w.heap.size/\SlB w ⟨g,0,none⟩ L[i]
theorem xDr.below {w w' a L}(h:xDr w a L)(b:Below w.heap.size w w'):xDr w' a L:=
 ⟨λi e=>by
  obtain⟨g,h1,h2,h3,h4⟩:=h.at' i e;exact⟨g,(b.cell (block_lt_of_cell h1)).trans h1,h2,b7 h3 b.size,⟨λj c d=>(b.cell (by rw[xY];exact h3)).trans (h4.cell j c d)⟩⟩⟩
theorem xDr.drop {w a L}(h:xDr w a L)(n):xDr w (a.add n) (L.drop n):=
 ⟨λi b=>by
  obtain⟨g,h1,h2,h3,h4⟩:=h.at' (n+i) (by rw[E0]at b;omega);refine⟨g,by rw[xH2];exact h1,?_,h3,?_⟩
  ·grind
  ·rw[bw_];exact h4⟩
def yGp (L:List (List UInt8))(W:World)(e:Ending)(W':World):Prop:=
 Below W.heap.size W W' /\
 ((∃r n v,uh sha L=some (r,n)/\e=.returned (.tuple #[.agg (ye r.kind r.gen r.num v).toArray,.int .i64 (n:Nat),.int .i64 0])/\OwnB W' W.heap.size v r.pay/\v≠.slice none 0 0) \/
   (∃x,uh sha L=none/\x≠0/\e=.returned (.tuple #[.agg (ye 0 0 0 (.slice none 0 0)).toArray,.int .i64 0,.int .i64 x])))
structure JnSt (W0:World)(a:Addr)(L:List (List UInt8))(W:World):Prop where
 bel:Below W0.heap.size W0 W
 res:W.heap[W0.heap.size]?=some (.cells #[.int .i64 0,.int .i64 0,.int .i64 0,.slice none 0 0] 238 (0,0))
 sec:xDr W a L
theorem JnSt.lt {b a L W}(s:JnSt b a L W):b.heap.size<W.heap.size:=(i_ s.res).1
theorem JnSt.later {c a L W W'}(s:JnSt c a L W)(b:Below W.heap.size W W'):JnSt c a L W':=⟨s.bel.trans (b.mono s.bel.size),(b.block _ s.lt).trans s.res,s.sec.below b⟩
def vO:=lx_ 238
def qT:=sx_ 238
def xHv:=@yh prog 238 4 isAgg238 sizeOf238
def xHg:=@yk prog 238 4 (by kernel_rfl)
def zRec:Array Value:=#[.int .i64 0,.int .i64 0,.int .i64 0,.slice none 0 0]
theorem xI2:xt 4 #[.int .i64 0,.int .i64 0,.int .i64 0,.slice none 0 0]=true:=by simp[xt,Value.oneCell']
theorem JnSt.ro {b a L W}(s:JnSt b a L W):xN W b.heap.size 4=true:=by unfold xN;rw[s.res];rfl
theorem xLu {H:By->By}{b rest}(h:decP H b=none):uh H (b :: rest)=none:=by simp only[uh,h]
theorem xNk {H:By->By}{b rest p}(h:decP H b=some p)(a:p.idx≠0):uh H (b :: rest)=none:=by simp only[uh,h,if_neg a]
theorem xE3 {H:By->By}{b rest p}(h:decP H b=some p)(a:p.idx=0):uh H (b :: rest)=(zt H p (p.cnt.toNat-1) rest).map λl=>(⟨p.kind,p.gen,p.num,p.bytes++l⟩,p.cnt.toNat):=by simp only[uh,h,if_pos a]
attribute [local go_sem ↓] qW qr xAt kS vO qT
attribute [local go_sem] xHv xHg zx
attribute [local go_sem] xE0 xDt xLn xKo xHq xHm yEe yE3 yIj xOd yFk xh xg xe xd xx xy xk xj xq xB xw
theorem xY5 (a b c d e v)(hv:v.oneCell'=true):xt 6 #[.int .i64 a,.int .i64 b,.int .i64 c,.int .i64 d,.int .i64 e,v]=true:=zY rfl (by rw[B3];intro x hx;simp at hx;rcases hx with rfl|rfl|rfl|rfl|rfl|rfl <;> first|rfl|exact hv)
theorem xE9 {H:By->By}{b p}(h:decP H b=some p):p.Ok:=by grind [decP,decC]
structure JlSt (W0:World)(f x:Nat)(p:qJ)(v0:Value)(i:Int)(W:World):Prop where
 bel:Below W0.heap.size W0 W
 res:W.heap[W0.heap.size]?=some (.cells #[.int .i64 0,.int .i64 0,.int .i64 0,.slice none 0 0] 238 (0,0))
 fst:W.heap[f]?=some (.cells #[.int .i64 p.kind,.int .i64 p.gen,.int .i64 p.num,.int .i64 p.idx,.int .i64 p.cnt,v0] 233 (0,0))
 exp:W.heap[x]?=some (.cells #[.int .i64 p.kind,.int .i64 p.gen,.int .i64 p.num,.int .i64 i,.int .i64 p.cnt] 344 (0,0))
 lf:W0.heap.size<f
 fx:f<x
theorem JlSt.lt {a f x p v0 i W}(s:JlSt a f x p v0 i W):x<W.heap.size:=(i_ s.exp).1
theorem JlSt.grown {c f x p v0 i W W'}(s:JlSt c f x p v0 i W){r}(b:W.grownBy W' r)(a:∀k,r=some k->c.heap.size<k/\k≠f/\k≠x):JlSt c f x p v0 i W':=by
 have h1:=s.lt;have h2:=s.fx;have h3:=s.lf;refine⟨s.bel.grown b s.bel.size (λk e=>T8 (a k e).1),?_,?_,?_,s.lf,s.fx⟩
 ·exact(b.block _ (by omega) (λe=>by have:=(a _ e.symm).1;omega)).trans s.res
 ·exact(b.block _ (by omega) (λe=>(a _ e.symm).2.1 rfl)).trans s.fst
 ·exact(b.block _ (by omega) (λe=>(a _ e.symm).2.2 rfl)).trans s.exp
theorem JlSt.later {a f x p v0 i W W'}(s:JlSt a f x p v0 i W)(b:Below W.heap.size W W'):JlSt a f x p v0 i W':=s.grown (ql b none) (λk e=>by cases e)
theorem JlSt.setI {a f x p v0 i W}(s:JlSt a f x p v0 i W)(j):JlSt a f x p v0 j (W.setCell ⟨x,3,none⟩ (.int .i64 j)):=by
 have h2:=s.fx;have h3:=s.lf;refine⟨s.bel.setCell (by simp;omega) _,?_,?_,?_,s.lf,s.fx⟩
 ·rw[heap_setCell_other W ⟨x,3,none⟩ _ _ (by simp;omega)];exact s.res
 ·rw[heap_setCell_other W ⟨x,3,none⟩ _ _ (by simp;omega)];exact s.fst
 ·rw[heap_setCell_same W x 3 _ _ _ s.exp];rfl
theorem JlSt.jn {b f x p v0 i W a L}(s:JlSt b f x p v0 i W)(h:xDr b a L):JnSt b a L W:=⟨s.bel,s.res,h.below s.bel⟩
theorem xW5 (w):Below w.heap.size w w.drew:=(z_ _ _).drew
theorem yo {P ops}{Q:Exit->Act->World->Prop}{C:World->Prop}{E rest r a w}(b)(h:wpList P ops (Qn P ops Q C E rest b) (zy ops [r]) a w)(c:decide (r<ops.size)=true:=by kernel_rfl)(d:uH ops E r=b:=by kernel_rfl):wpR P ops Q C E (r :: rest) a w:=
 jI b (o:=ops.getD r default) (by simp[of_decide_eq_true c]) d h
def FCls (f:Nat)(cs:Array Value):Type:={ w:World // w.heap[f]?=some (.cells cs 233 (0,0)) }
structure yGq (W0:World)(f x B:Nat)(p:qJ)(v0:Value)(rest:List (List UInt8))(cn i:Nat)(pv:Value)(W:World):Prop where
 st:∃ii,JlSt W0 f x p v0 ii W
 ge:1<=i
 le:i<=cn
 nn:pv≠.slice none 0 0
 ap:∀k,pv.ownBlock=some k->W0.heap.size<k/\k≠f/\k≠x
 sz:B<=W.heap.size
 go:∃pre,OwnB W B pv (p.bytes++pre)/\pre.length<=i*224/\zt sha p (cn-1) rest=(zt sha p (cn-i) (rest.drop (i-1))).map (pre ++ ·)
theorem yHn {H:By->By}{p n}:zt H p (n+1) []=none:=rfl
theorem yJv {H:By->By}{p n b r}(h:decP H b=none):zt H p (n+1) (b :: r)=none:=by simp only[zt,h]
theorem xZq {H:By->By}{p q n b r}(h:decP H b=some q):zt H p (n+1) (b :: r)=if q.kind=p.kind/\q.gen=p.gen/\q.num=p.num/\q.cnt=p.cnt/\q.idx=p.cnt-(n+1:Nat)then (zt H p n r).map (q.bytes ++ ·)else none:=by simp only[zt,h]
theorem yHm {H:By->By}{p q n b r pre X}(h:decP H b=some q)(a:q.kind=p.kind/\q.gen=p.gen/\q.num=p.num/\q.cnt=p.cnt/\q.idx=p.cnt-(n+1:Nat))
  (c:X=(zt H p (n+1) (b :: r)).map (pre ++ ·)):X=(zt H p n r).map ((pre++q.bytes) ++ ·):=by
 rw[c,xZq h,if_pos a];cases zt H p n r with
 |none=>rfl
 |some l=>simp only[aa_,B8]
theorem xO0 {L:List By}{i}(h:i<L.length):L.drop i=L[i] :: L.drop (i+1):=M3 h
theorem yEy (a L cap W)(hK:qI W)(hs:xDr W a L)(V:L≠[])(bE:L.length<=cap)(hl:L.length<=100000):
  Calls prog 165 #[.slice (some a) L.length cap] W (yGp L W):=by
 cases L with
 |nil=>exact absurd rfl V
 |cons b0 rest=>
 have KS:JnSt W a (b0 :: rest) (W.alloc (.cells #[.int .i64 0,.int .i64 0,.int .i64 0,.slice none 0 0] 238)):=⟨(z_ _ _).alloc (w_ _) _,heap_alloc_new W _,hs.below ((z_ _ _).alloc (w_ _) _)⟩;obtain⟨N,hN⟩:∃N,N=(b0 :: rest).length:=⟨_,rfl⟩;have Zv:0<N:=by grind
 rw[<-hN]at bE hl⊢;have Fe:=h_ KS;have HK:=h_ hK;have HN:=h_ hN;have KT:((N:Int)==0)=false:=by grind
 have K:=h_ hs;clear KS hs V hK hN;go_enter func165,ntmps165;go_upto_region 3 with (fail)
 obtain⟨s,aj⟩:∃s,s=W.alloc (.cells #[.int .i64 0,.int .i64 0,.int .i64 0,.slice none 0 0] 238):=⟨_,rfl⟩;refine xm aj ?_;have S:=Fe.out;rw[<-aj]at S;have My:=h_ S;obtain⟨g0,tG,oB,Mz,H5⟩:=S.sec.at' 0 (by simp);simp only[bx_]at oB H5;have c1:s.cell? a=some (.slice (some ⟨g0,0,none⟩) 256 256):=by simpa[Addr.add]using tG
 have eD:=jg g0 b0 s (HK.below S.bel (w_ _)) H5 oB Mz;have iF:=h_ eD;clear aj S tG oB Mz H5 eD Fe KT;go_wp2_with fail;refine iF.mono ?_;rintro e R ⟨ai,bn⟩;have RQ:=h_ (My.later ai);have sF:=ai.size;rcases bn with⟨p,v,Y,rfl,w,lW⟩|⟨x,Y,hx,rfl⟩
 ·unfold zc;have T:v.oneCell'=true:=by
   rcases w.at with⟨h,_⟩|⟨g,c,h,_⟩ <;> rw[h] <;> rfl
  have aU:=xY5 p.kind p.gen p.num p.idx p.cnt v T;have F:=h_ Y;have du:=h_ w;have TR:=h_ lW;have KU:=h_ T;clear Y w lW ai c1 iF T;go_upto_region 6 with (fail)
  obtain⟨f,X⟩:∃f,f=R.heap.size:=⟨_,rfl⟩;have rC:=h_ (show s.heap.size<=f by rw[X];exact sF);clear sF;obtain⟨G,bQ⟩:∃G,G=R.alloc (.cells #[.int .i64 p.kind,.int .i64 p.gen,.int .i64 p.num,.int .i64 p.idx,.int .i64 p.cnt,v] 233):=⟨_,rfl⟩;refine xm bQ ?_;have ao:Below R.heap.size R G:=by grind
  have mr:G.heap[f]?=some (.cells #[.int .i64 p.kind,.int .i64 p.gen,.int .i64 p.num,.int .i64 p.idx,.int .i64 p.cnt,v] 233 (0,0)):=by grind
  have hq:=xF (n:=6) mr rfl;have q1:=hq.1;have q2:=hq.2;have AD:=h_ (RQ.later ao);have Ff:=h_ (du.below ao);have TS:=h_ mr;have DC:=h_ (show W.heap.size<f by rw[X];exact RQ.lt);have RR:=h_ (show ∀k,v.ownBlock=some k->W.heap.size<k/\k<f from λk e=>by have h:=du.lt e;rw[X];have:=My.lt;omega);rw[<-X];clear hq ao mr bQ aU du RQ X;go_wp2_with fail;refine(xHn _ _ _ _ _ _ _).mono ?_;rintro e Q ⟨rfl,aQ⟩;have TT:=yFk p.kind p.gen p.num p.idx p.cnt;have RS:=h_ (AD.later aQ);have Fg:=h_ (Ff.below aQ);have KV:=h_ ((aQ.block _ (i_ TS.out).1).trans TS.out);clear aQ q1 q2 AD Ff TS;go_upto_region 7 with (fail)
  obtain⟨x,hx⟩:∃x,x=Q.heap.size:=⟨_,rfl⟩;obtain⟨A,cC⟩:∃A,A=Q.alloc (.cells #[.int .i64 p.kind,.int .i64 p.gen,.int .i64 p.num,.int .i64 p.idx,.int .i64 p.cnt] 344):=⟨_,rfl⟩;refine xm cC ?_;have aO:Below Q.heap.size Q A:=by grind
  have rD:=RS.later aO;have ir:f<x:=by grind
  have iu:JlSt W f x p v p.idx A:=⟨rD.bel,rD.res,(aO.block _ (by rw[<-hx];exact ir)).trans KV.out,by rw[cC,hx];exact heap_alloc_new Q _,DC.out,ir⟩;have sH:=h_ (Fg.below aO);rw[<-hx];have I:=h_ iu;have c3:=cell_of_row A x 3 _ _ _ iu.exp;simp only[l7,m8,t1]at c3;clear aO rD ir iu cC hx TT RS Fg KV;by_cases hi0:p.idx=0
  ·have fp:(p.idx != 0)=false:=by grind
   have AE:=h_ hi0;have c5:=cell_of_row A f 5 _ _ _ I.fst;simp only[l7,m8,t1]at c5;clear hi0;have AF:=xE9 F.out;obtain⟨cn,Z⟩:∃cn:Nat,p.cnt=cn:=⟨p.cnt.toNat,by have:=AF.2.1;omega⟩;have cH:1<=cn:=by have:=AF.2.1;omega
   have dE:cn<=586:=by have:=AF.2.2.1;omega
   have az:=AF.2.2.2.2.2.1;have TU:s.heap.size<=A.heap.size:=by grind
   have Fh:yGq W f x s.heap.size p v rest cn 1 v A:=⟨⟨_,I.out⟩,w_ _,cH,TR.out,λk e=>by have h:=RR.out k e;have:=I.fx;omega,TU,⟨[],by rw[G5];exact sH.out,by simp,by simp⟩⟩;have MA:=h_ Fh;have P:=h_ Z;have gQ:=h_ az;have KN:=h_ My.bel.size;clear Fh Z AF az sH;go_wp2;go_loopw [7,8] (λpv iv wr=>∃i:Nat,iv=.int .i64 i/\yGq W f x s.heap.size p v rest cn i pv wr) (λ_ iv _=>cn-(intOf iv).toNat)
   case atStart=>exact⟨1,rfl,MA.out⟩
   case round=>
    obtain⟨i,rfl,bk⟩:=hrel;have hge:=bk.ge;have bj:=bk.le;obtain⟨ii,E⟩:=bk.st;have f4:=cell_of_row wr f 4 _ _ _ E.fst;simp only[l7,m8,t1]at f4;rw[P.out]at f4;have r:=h_ E;have o:=h_ bk;clear E bk;by_cases hlt:i<cn
    ·have aM:(i:Int)<cn:=by omega
     by_cases KT:N<=i
     ·have TV:(N:Int)<=i:=by omega
      have dm:=h_ (show uh sha (b0 :: rest)=none by
       rw[xE3 F.out AE.out,P.out,U6];obtain⟨pre,_,_,t⟩:=o.go;rw[t,M0 (by have:=HN.out;simp at this;omega),show cn-i=(cn-i-1)+1 by omega,yHn];rfl)
      have d:=h_ (r.jn K.out);have O:=d.ro;have fo:=xI2;have l:=h_ (xH d.bel (w_ _) zRec);have j:=xF (n:=4) (setRow_heap wr W.heap.size _ zRec _ _ d.res) rfl;have b:=h_ j;have B:=h_ (show uh sha (b0 :: rest)=none from dm.out);clear j;unfold zRec at b l;go_wp2;refine bodyPost_ret (v:=.tuple #[.agg zRec,.int .i64 0,.int .i64 23]) ?_ rfl ⟨l.out,.inr ⟨23,B.out,(by decide),rfl⟩⟩;exact uy rfl isAgg238 sizeOf238 _ _ ⟨W.heap.size,0,none⟩ _ _ _ rfl rfl rfl b.1 b.2
     ·have TV:¬ (N:Int)<=i:=by omega
      have MC:i<(b0 :: rest).length:=by grind
      have LN:i-1<rest.length:=by grind
      obtain⟨gi,Fi,rE,ME,DD⟩:=(K.below r.bel).at' i MC;have CU:(b0 :: rest)[i]=rest[i-1]:=by grind
      rw[CU]at rE DD;obtain⟨bi,Zw⟩:∃bi,bi=rest[i-1]:=⟨_,rfl⟩;rw[<-Zw]at rE DD;have fh:∀pre,zt sha p (cn-1) rest=(zt sha p (cn-i) (rest.drop (i-1))).map (pre ++ ·)->zt sha p (cn-1) rest=(zt sha p ((cn-i-1)+1) (bi :: rest.drop i)).map (pre ++ ·):=λpre h=>by grind [xO0]
      have eD:=jg gi bi wr (HK.below r.bel (w_ _)) DD rE ME;have AH:=h_ eD;have tH:=h_ fh;clear eD fh Zw CU DD rE ME LN MC;go_wp2_with fail;refine AH.mono ?_;rintro e D ⟨M,bn⟩;have tB:=h_ (r.later M);rcases bn with⟨q,vq,MF,rfl,AI,MH⟩|⟨y,MF,hy,rfl⟩
      ·unfold zc;have T:vq.oneCell'=true:=by
        rcases AI.at with⟨h,_⟩|⟨g,c,h,_⟩ <;> rw[h] <;> rfl
       have aU:=xY5 q.kind q.gen q.num q.idx q.cnt vq T;have TW:=h_ MF;have Zx:=h_ AI;have TX:=h_ MH;clear MF AI MH Fi AH;go_upto_region 18 with (fail)
       obtain⟨u,db⟩:∃u,u=D.heap.size:=⟨_,rfl⟩;obtain⟨m,fK⟩:∃m,m=D.alloc (.cells #[.int .i64 q.kind,.int .i64 q.gen,.int .i64 q.num,.int .i64 q.idx,.int .i64 q.cnt,vq] 233):=⟨_,rfl⟩;refine xm fK ?_;have co:Below D.heap.size D m:=by grind
       have MI:m.heap[u]?=some (.cells #[.int .i64 q.kind,.int .i64 q.gen,.int .i64 q.num,.int .i64 q.idx,.int .i64 q.cnt,vq] 233 (0,0)):=by grind
       have J:=h_ (tB.later co);have MJ:x<u:=by rw[db];exact tB.lt
       have c3x:=cell_of_row m x 3 _ _ _ J.exp;have d3x:=frozen_of_row m x 3 _ _ J.exp;simp only[l7,m8,t1]at c3x;have HF7:=h_ MI;have TY:=h_ (M.trans (co.mono M.size));have MK:=h_ (Zx.below co);have TZ:=h_ MJ;have HSZ6:=h_ (show u=D.heap.size/\wr.heap.size<=D.heap.size from ⟨db,M.size⟩);rw[<-db];clear co MI fK db aU MJ M Zx;go_upto_region 19 with (fail)
       have tI:=J.setI (i:Int);have MM:(m.setCell ⟨x,3,none⟩ (.int .i64 (i:Int))).heap[u]?=_:=(heap_setCell_other m ⟨x,3,none⟩ u _ (by have:=TZ.out;simp;omega)).trans HF7.out;have oJ:=xRe m x 3 (.int .i64 (i:Int));generalize m.setCell ⟨x,3,none⟩ (.int .i64 (i:Int))=w8 at tI MM oJ⊢;have U:=h_ tI;have H:=h_ MM;have H6:=h_ oJ;clear tI MM oJ c3x d3x;have r1:∀z:xf w8,xp z.1 ⟨u,0,none⟩ 6=true:=λz=>(xF (n:=6) ((z.2.block _ (i_ H.out).1).trans H.out) rfl).1
       have r2:∀z:xf w8,xo z.1 ⟨u,0,none⟩ 6=#[.int .i64 q.kind,.int .i64 q.gen,.int .i64 q.num,.int .i64 q.idx,.int .i64 q.cnt,vq]:=λz=>(xF (n:=6) ((z.2.block _ (i_ H.out).1).trans H.out) rfl).2
       have r3:∀z:xf w8,xp z.1 ⟨x,0,none⟩ 5=true:=λz=>(xF (n:=5) ((z.2.block _ U.lt).trans U.exp) rfl).1
       have r4:∀z:xf w8,xo z.1 ⟨x,0,none⟩ 5=#[.int .i64 p.kind,.int .i64 p.gen,.int .i64 p.num,.int .i64 (i:Int),.int .i64 p.cnt]:=λz=>(xF (n:=5) ((z.2.block _ U.lt).trans U.exp) rfl).2
       refine xz [0,2] [1,3] (λw'=>∃z:xf w8,w'=z.1) ⟨⟨_,(z_ _ _).drew⟩,rfl⟩ ?_;simp only[o_]
       repeat (go_big_quiet_step (fail))
       refine wpQuiet_nil ?_;clear r1 r2 r3 r4;refine jI true rfl (by kernel_rfl) ?_;go_wp2_with (go_at_call 191;refine(xHn _ _ _ _ _ _ _).mono ?_;rintro e C ⟨rfl,gU⟩);have rG:Below w8.heap.size w8 C:=(z_ w8.heap.size w8).drew.trans gU;have H7:=h_ (U.later rG);have H8:=h_ rG;refine⟨λ_=>⟨⟨C,rG⟩,rfl⟩,yE ?_⟩;simp only[o_];clear gU rG;by_cases hpl:q.kind=p.kind/\q.gen=p.gen/\q.num=p.num/\q.idx=(i:Int)/\q.cnt=p.cnt
       ·have heq:=xQz hpl;have dR:=h_ hpl;clear hpl;go_wp2;refine T_ ?_;clear heq;obtain⟨pre,w,AJ,t⟩:=o.go;have nC:wr.grownBy C (some x):=vl (vl (ql TY.out (some x)) H6.out) (ql H8.out (some x));have mR:=w.grown nC (λk e=>by cases e;intro h;exact(o.ap _ h).2.2 rfl);have MN:OwnB C wr.heap.size vq q.bytes:=MK.grown (vl H6.out (ql H8.out (some x))) (λk e=>by cases e;intro h;have h1:=(MK.lt h).1;have h2:=r.lt;omega);obtain⟨gq,cq,hvq,_,hcq,_,MO⟩:∃g cap,vq=.slice (some ⟨g,0,none⟩) q.bytes.length cap/\wr.heap.size<=g/\q.bytes.length<=cap/\cap<=maxLen/\SlB C ⟨g,0,none⟩ q.bytes:=by
         rcases MN.at with⟨h,_⟩|h
         ·exact absurd h TX.out
         ·exact h
        have c5q:=cell_of_row C u 5 _ _ _ ((H8.block _ (i_ H.out).1).trans H.out);simp only[l7,m8,t1]at c5q;have T0:=(xE9 TW.out).2.2.2.2.2.1;have fO:=h_ (show (p.bytes++pre).length+q.bytes.length<=1000000000000 by rw[b6];have:=gQ.out;omega);have Fj:=h_ (show s.heap.size<=C.heap.size from R_ o.sz nC.size);have gV:q.idx=p.cnt-((cn-i-1)+1:Nat):=by rw[dR.2.2.2.1,P.out];omega
        have H9:=yHm TW.out ⟨dR.1,dR.2.1,dR.2.2.1,dR.2.2.2.2,gV⟩ (tH.out pre t);rw[show cn-i-1=cn-(i+1) by omega]at H9;have T1:=h_ H9;clear gV H9;have rH:=h_ (show (pre++q.bytes).length<=(i+1)*224 by rw[b6];omega);have AK:=h_ mR;have T2:=h_ MO;have rI:=h_ o.ap;have CV:=h_ o.nn;have Fk:=h_ H7.lt;subst hvq;clear w AJ t nC mR MN hcq MO T0;go_wp2_with (at_builtin;refine zQ rfl (.tmp 64) (.tmp 66) rfl s.heap.size _ (p.bytes++pre) rfl AK.out ⟨gq,0,none⟩ q.bytes cq rfl T2.out fO.out Fj.out ?_);intro v' cS AL dX tJ sI;have Fl:yGq W f x s.heap.size p v rest cn (i+1) v' cS:=by
         refine⟨⟨_,H7.grown dX (λk e=>rI.out k e)⟩,by omega,by omega,?_,?_,R_ Fj.out dX.size,⟨pre++q.bytes,AL,rH.out,T1.out⟩⟩
         ·first|exact tJ|exact λe=>CV.out (tJ.1 e).1
         ·intro k e;rcases sI with h|h
          ·exact rI.out k (h▸e)
          ·rw[h]at e;injection e with e
           have h1:=Fk.out;have h2:=I.fx;have h3:=I.lf;omega
        have MP:=h_ Fl;clear Fl AL dX tJ sI c5q;go_wp2;go_roundw
        case rel=>exact⟨i+1,by go_num,MP.out⟩
        case measure=>simp[intOf];omega
       ·have heq:=xNg hpl
        have dm:=h_ (show uh sha (b0 :: rest)=none by
         rw[xE3 F.out AE.out,P.out,U6];obtain⟨pre,_,_,t⟩:=o.go;rw[tH.out pre t,xZq TW.out,if_neg (λh=>hpl ⟨h.1,h.2.1,h.2.2.1,by rw[h.2.2.2.2,P.out];omega,h.2.2.2.1⟩)];rfl)
        clear hpl;go_wp2;refine T_ ?_;clear heq;have d:=h_ (H7.jn K.out);have O:=d.ro;have fo:=xI2;have l:=h_ (xH d.bel (w_ _) zRec);have j:=xF (n:=4) (setRow_heap C W.heap.size _ zRec _ _ d.res) rfl;have b:=h_ j;have B:=h_ (show uh sha (b0 :: rest)=none from dm.out);clear j;unfold zRec at b l;go_wp2;refine bodyPost_ret (v:=.tuple #[.agg zRec,.int .i64 0,.int .i64 30]) ?_ rfl ⟨l.out,.inr ⟨30,B.out,(by decide),rfl⟩⟩;exact uy rfl isAgg238 sizeOf238 _ _ ⟨W.heap.size,0,none⟩ _ _ _ rfl rfl rfl b.1 b.2
      ·unfold zc;have aU:=xDe;have H_:(y==0)=false:=by grind
       have nD:(y != 0)=true:=by grind
       have HY:=h_ hy
       have dm:=h_ (show uh sha (b0 :: rest)=none by
        rw[xE3 F.out AE.out,P.out,U6];obtain⟨pre,_,_,t⟩:=o.go;rw[tH.out pre t,yJv MF];rfl)
       clear MF hy M Fi AH;go_upto_region 17 with (fail)
       have J:=h_ (tB.later ((z_ _ _).alloc (w_ _) (.cells #[.int .i64 0,.int .i64 0,.int .i64 0,.int .i64 0,.int .i64 0,.slice none 0 0] 233)));generalize D.alloc (.cells #[.int .i64 0,.int .i64 0,.int .i64 0,.int .i64 0,.int .i64 0,.slice none 0 0] 233)=m at J⊢;have d:=h_ (J.jn K.out);have O:=d.ro;have fo:=xI2;have l:=h_ (xH d.bel (w_ _) zRec);have j:=xF (n:=4) (setRow_heap m W.heap.size _ zRec _ _ d.res) rfl;have b:=h_ j;have B:=h_ (show uh sha (b0 :: rest)=none from dm.out);clear j;unfold zRec at b l;go_wp2;refine bodyPost_ret (v:=.tuple #[.agg zRec,.int .i64 0,.int .i64 y]) ?_ rfl ⟨l.out,.inr ⟨y,B.out,HY.out,rfl⟩⟩;exact uy rfl isAgg238 sizeOf238 _ _ ⟨W.heap.size,0,none⟩ _ _ _ rfl rfl rfl b.1 b.2
    ·obtain rfl:i=cn:=by omega
     obtain⟨pre,w,AJ,t⟩:=o.go;obtain⟨gp,np,cp,hu⟩:∃g n c,u7=.slice (some ⟨g,0,none⟩) n c:=by
      rcases w.at with⟨h,_⟩|⟨g,c,h,_⟩
      ·exact absurd h o.nn
      ·exact⟨g,_,c,h⟩
     subst hu;rw[Nat.sub_self]at t;have Fm:uh sha (b0 :: rest)=some (⟨p.kind,p.gen,p.num,p.bytes++pre⟩,i):=by grind [xE3,Int.toNat_natCast,zt]
     have MQ:=h_ Fm;have MR:=h_ w;have CV:=h_ o.nn;have rI:=h_ o.ap;have MS:(Value.slice (some ⟨gp,0,none⟩) np cp).oneCell'=true:=rfl;have CW:xt 4 #[.int .i64 p.kind,.int .i64 p.gen,.int .i64 p.num,(.slice (some ⟨gp,0,none⟩) np cp)]=true:=zY rfl (by rw[B3];intro y hy;simp at hy;rcases hy with rfl|rfl|rfl|rfl <;> first|rfl|exact MS);have T3:¬ (i:Int)<i:=by omega
     clear Fm w AJ t MS;go_upto_region 22 with (fail)
     have q0:∀z:FCls f #[.int .i64 p.kind,.int .i64 p.gen,.int .i64 p.num,.int .i64 p.idx,.int .i64 p.cnt,v],z.1.cell? ⟨f,0,none⟩=some (.int .i64 p.kind):=by grind
     have q1:∀z:FCls f #[.int .i64 p.kind,.int .i64 p.gen,.int .i64 p.num,.int .i64 p.idx,.int .i64 p.cnt,v],z.1.cell? ⟨f,1,none⟩=some (.int .i64 p.gen):=by grind
     have q2:∀z:FCls f #[.int .i64 p.kind,.int .i64 p.gen,.int .i64 p.num,.int .i64 p.idx,.int .i64 p.cnt,v],z.1.cell? ⟨f,2,none⟩=some (.int .i64 p.num):=by grind
     have q4:∀z:FCls f #[.int .i64 p.kind,.int .i64 p.gen,.int .i64 p.num,.int .i64 p.idx,.int .i64 p.cnt,v],z.1.cell? ⟨f,4,none⟩=some (.int .i64 (i:Int)):=by grind
     haveI:Nonempty (FCls f #[.int .i64 p.kind,.int .i64 p.gen,.int .i64 p.num,.int .i64 p.idx,.int .i64 p.cnt,v]):=⟨⟨wr,r.fst⟩⟩
     refine xz [0,1,2,3,4,5,6,7,8,9] [10,11,12] (λw'=>∃z:FCls f #[.int .i64 p.kind,.int .i64 p.gen,.int .i64 p.num,.int .i64 p.idx,.int .i64 p.cnt,v],w'=z.1) ⟨⟨wr.drew,r.fst⟩,rfl⟩ ?_;simp only[o_]
     repeat (go_big_quiet_step (fail))
     refine wpQuiet_nil ?_;clear q0 q1 q2 q4;have O:xN wr W.heap.size 4=true:=(r.jn K.out).ro;clear T3 f4;refine yo true ?_;simp only[o_];go_wp2_with fail;refine⟨λ_=>⟨⟨_,?_⟩,rfl⟩,yE ?_⟩
     ·exact(setRow_other _ _ _ _ (by have:=r.lf;omega)).trans r.fst
     simp only[o_];have l:=h_ (xH r.bel.drew (w_ _) #[.int .i64 p.kind,.int .i64 p.gen,.int .i64 p.num,(.slice (some ⟨gp,0,none⟩) np cp)]);have j:=xF (n:=4) (setRow_heap wr.drew W.heap.size _ #[.int .i64 p.kind,.int .i64 p.gen,.int .i64 p.num,(.slice (some ⟨gp,0,none⟩) np cp)] _ _ r.res) rfl;have b:=h_ j;have lp:=h_ ((MR.below (xW5 wr)).grown (xHz wr.drew W.heap.size #[.int .i64 p.kind,.int .i64 p.gen,.int .i64 p.num,(.slice (some ⟨gp,0,none⟩) np cp)]) (λk e=>by cases e;intro h;have:=(rI.out _ h).1;omega));clear j CW O;go_wp2;refine T_ ?_;go_wp2;refine bodyPost_ret (v:=.tuple #[.agg #[.int .i64 p.kind,.int .i64 p.gen,.int .i64 p.num,(.slice (some ⟨gp,0,none⟩) np cp)],.int .i64 i,.int .i64 0]) ?_ rfl ⟨l.out,.inl ⟨_,i,(.slice (some ⟨gp,0,none⟩) np cp),MQ.out,rfl,lp.base KN.out,CV.out⟩⟩;exact uy rfl isAgg238 sizeOf238 _ _ ⟨W.heap.size,0,none⟩ _ _ _ rfl rfl rfl b.1 b.2
  ·have fp:(p.idx != 0)=true:=by grind
   have AE:=h_ hi0;clear hi0;have d:=h_ (I.jn K.out);have O:=d.ro;have fo:=xI2;have l:=h_ (xH d.bel (w_ _) zRec);have j:=xF (n:=4) (setRow_heap A W.heap.size _ zRec _ _ d.res) rfl;have b:=h_ j;have B:=h_ (show uh sha (b0 :: rest)=none from xNk F.out AE.out);clear j;unfold zRec at b l;go_wp2;refine bodyPost_ret (v:=.tuple #[.agg zRec,.int .i64 0,.int .i64 30]) ?_ rfl ⟨l.out,.inr ⟨30,B.out,(by decide),rfl⟩⟩;exact uy rfl isAgg238 sizeOf238 _ _ ⟨W.heap.size,0,none⟩ _ _ _ rfl rfl rfl b.1 b.2
 ·unfold zc;have aU:=xDe;have fM:(x==0)=false:=by grind
  have eo:(x != 0)=true:=by grind
  have F:=h_ Y;have HX:=h_ hx;clear Y hx ai c1 iF;go_upto_region 5 with (fail)
  have AD:=h_ (RQ.later ((z_ _ _).alloc (w_ _) (.cells #[.int .i64 0,.int .i64 0,.int .i64 0,.int .i64 0,.int .i64 0,.slice none 0 0] 233)));generalize R.alloc (.cells #[.int .i64 0,.int .i64 0,.int .i64 0,.int .i64 0,.int .i64 0,.slice none 0 0] 233)=G at AD⊢;have d:=h_ (AD.out);have O:=d.ro;have fo:=xI2;have l:=h_ (xH d.bel (w_ _) zRec);have j:=xF (n:=4) (setRow_heap G W.heap.size _ zRec _ _ d.res) rfl;have b:=h_ j;have B:=h_ (show uh sha (b0 :: rest)=none from xLu F.out);clear j;unfold zRec at b l;go_wp2;refine bodyPost_ret (v:=.tuple #[.agg zRec,.int .i64 0,.int .i64 x]) ?_ rfl ⟨l.out,.inr ⟨x,B.out,HX.out,rfl⟩⟩;exact uy rfl isAgg238 sizeOf238 _ _ ⟨W.heap.size,0,none⟩ _ _ _ rfl rfl rfl b.1 b.2
end
section
theorem yFc {H:By->By}{p}:∀(n:Nat) (l:List By) (x:By),zt H p n l=some x->n<=l.length
 |0,_,_,_=>n3 _
 |n+1,[],_,h=>by cases h
 |n+1,b :: r,x,h=>by
  simp only[zt]at h;cases hd:decP H b with
  |none=>rw[hd]at h;cases h
  |some q=>
   rw[hd]at h;simp only at h;split at h
   ·cases hg:zt H p n r with
    |none=>rw[hg]at h;cases h
    |some y=>have:=yFc n r y hg;simp;omega
   ·cases h
theorem xXt {H:By->By}{l r n}(h:uh H l=some (r,n)):1<=n/\n<=l.length:=by
 cases l with
 |nil=>cases h
 |cons b rest=>
  simp only[uh]at h;cases hd:decP H b with
  |none=>rw[hd]at h;cases h
  |some p=>
   rw[hd]at h;simp only at h;have a:=xE9 hd;split at h
   ·cases hg:zt H p (p.cnt.toNat-1) rest with
    |none=>rw[hg]at h;cases h
    |some y=>
     rw[hg]at h;simp only[aa_,ag_,Prod.mk.injEq]at h;have h1:=yFc _ _ _ hg;have h2:=a.2.1;grind
   ·cases h
theorem Tryz.info_rec:(prog.info? 238).map (λi=>(i.zero,i.size,i.bytes))=some (some (.agg #[.int .i64 0,.int .i64 0,.int .i64 0,.slice none 0 0]),4,48):=by kernel_rfl
def zX:List (PRec×Value)->List Value:=List.flatMap λx=>ye x.1.kind x.1.gen x.1.num x.2
theorem xNq (l x):zX (l++[x])=zX l++ye x.1.kind x.1.gen x.1.num x.2:=by simp[zX]
structure RcAt (w:World)(B:Nat)(v:Value)(l:List (PRec×Value)):Prop where
 own:w.ownsRow B 238 4 v l.length (zX l)
 el:∀x∈l,OwnB w B x.2 x.1.pay/\x.2≠.slice none 0 0/\∀k,x.2.ownBlock=some k->v.ownBlock≠some k
theorem RcAt.nil (w B):RcAt w B (.slice none 0 0) []:=⟨D1 _ _ _ _,λx hx=>by cases hx⟩
theorem RcAt.later {w w' B v l}(h:RcAt w B v l)(a:Below w.heap.size w w'):RcAt w' B v l:=
 ⟨bt_ (row:=none) h.own (ql a none) (by cases v.ownBlock <;> simp),λx hx=>⟨(h.el x hx).1.below a,(h.el x hx).2⟩⟩
theorem RcAt.app {w w' B v v' l}{x:PRec×Value}(h:RcAt w B v l)(ho:w'.ownsRow B 238 4 v' (l.length+1) (zX l++ye x.1.kind x.1.gen x.1.num x.2))(c:w.grownBy w' v.ownBlock)
  (hx:OwnB w B x.2 x.1.pay/\x.2≠.slice none 0 0/\∀k,x.2.ownBlock=some k->v.ownBlock≠some k) (d:∀k,v'.ownBlock=some k->v.ownBlock=some k\/w.heap.size<=k):RcAt w' B v' (l++[x]):=by
 refine⟨by rw[xNq];simpa using ho,λy hy=>?_⟩;have a:OwnB w B y.2 y.1.pay/\y.2≠.slice none 0 0/\∀k,y.2.ownBlock=some k->v.ownBlock≠some k:=by
  rcases m3.1 hy with h1|h1
  ·exact h.el y h1
  grind
 refine⟨a.1.grown c (λk e b=>a.2.2 k b e),a.2.1,λk e b=>?_⟩;rcases d k b with h1|h1
 ·exact a.2.2 k e h1
 ·have:=(a.1.lt e).2;omega
def yGi (gen num:Int)(L:List (List UInt8))(W:World)(e:Ending)(W':World):Prop:=
 Below W.heap.size W W'/\∃v l c x,e=.returned (.tuple #[v,.int .i64 c,.int .i64 x])/\RcAt W' W.heap.size v l/\l.map Prod.fst=zL sha gen (L.length+1) num L
attribute [local go_sem ↓] xAu xDh vO qT
attribute [local go_sem] xLo xT9 xHv xHg zr zx yA yz yIn xh xg xe xd xx xy xk xj xq xB xw
theorem yC6:prog.elem 157=23:=by kernel_rfl
theorem xX1 (a)(len cap k:Nat)(z:Int)(b:z=k)(c:k<=len)(d:k<cap)(w):Sem.run prog (Instr.sliceAt 157 (.slice (some a) len cap) (some (.int .i64 z)) none none) w=.ok (.slice (some (a.add k)) (len-k) (cap-k)) w:=by
 subst b;rw[run_sliceAt_slice w 157 _ _ _ _ (by kernel_rfl),run_slice_l w 157 (some a) len cap (by kernel_rfl) .i64 k (by omega) (by omega),yC6,sizeOf23];simp only[t2,sliced,U6,ai_,aa_];rw[if_neg (by omega)]
theorem xOg {H:By->By}{gen num F l}(h:uh H l=none):zL H gen F num l=[]:=by
 cases F with
 |zero=>rfl
 |succ F=>simp only[zL,h]
theorem xTn {H:By->By}{gen num F n l r}(h:uh H l=some (r,n))(a:¬ (r.gen=gen/\r.num=num)):zL H gen F num l=[]:=by
 cases F with
 |zero=>rfl
 |succ F=>simp only[zL,h,if_neg a,ite_self]
theorem yAz {H:By->By}{gen num F n l r}(h:uh H l=some (r,n))(a:r.gen=gen/\r.num=num)(hl:l≠[]):zL H gen (F+1) num l=r :: zL H gen F (num+1) (l.drop n):=by grind [zL]
theorem yJw (a b c g n k):xt 4 #[.int .i64 a,.int .i64 b,.int .i64 c,.slice (some ⟨g,0,none⟩) n k]=true:=by simp[xt,Value.oneCell']
structure yIp (W0:World)(gen num:Int)(L:List (List UInt8))(c:Nat)(v:Value)(W:World):Prop where
 bel:Below W0.heap.size W0 W
 le:c<=L.length
 go:∃l F,RcAt W W0.heap.size v l/\(L.drop c).length<F/\l.length<=c/\zL sha gen (L.length+1) num L=l.map Prod.fst++zL sha gen F (num+l.length) (L.drop c)
theorem yDt (gen num a L cap W)(hK:qI W)(hs:xDr W a L)(S:xBk 0 gen num)(bE:L.length<=cap)(hl:L.length<=100000):
  Calls prog 127 #[.int .i64 gen,.int .i64 num,.slice (some a) L.length cap] W (yGi gen num L W):=by
 obtain⟨N,X⟩:∃N,N=L.length:=⟨_,rfl⟩;rw[<-X]at bE hl⊢;have z:=h_ X;have HS:=h_ hs;have HK:=h_ hK;have HL:=h_ S;have Zy:=S.2.2.2.2.1;have Zz:=S.2.2.2.2.2;clear X hs hK S;go_enter func127,ntmps127;go_wp2_with fail;go_step3;go_wp2_with fail;refine(xHb _ _ _ _).mono ?_;rintro e w1 ⟨b,rfl,CO,aa⟩;obtain rfl:b=true:=CO.2 HL.out;have ez:Below W.heap.size W w1:=by grind
 have aq:=h_ ez;clear CO aa ez;go_wp2;go_step3;go_wp2;go_loopw [6,7,8] (λv cv ev wr=>∃c:Nat,∃x:Int,cv=.int .i64 c/\ev=.int .i64 x/\yIp W gen num L c v wr) (λ_ cv _ _=>N-(intOf cv).toNat)
 case atStart=>exact⟨0,0,rfl,rfl,aq.out,n3 _,[],L.length+1,RcAt.nil _ _,by simp,by simp,by simp⟩
 case round=>
  obtain⟨c,x,rfl,rfl,bk⟩:=hrel;have hcle:=bk.le;have m:=h_ bk;clear bk;by_cases hlt:c<N
  ·have aM:(c:Int)<N:=by omega
   have cm:=xX1 a N cap c (c:Int) rfl (by omega) (by omega);have q:L.drop c≠[]:=λh=>by grind [List.length,List.length_drop]
   have G:=yEy (a.add c) (L.drop c) (cap-c) wr (HK.below m.bel (w_ _)) ((HS.below m.bel).drop c) q (by rw[E0,<-z.out];omega) (by rw[E0,<-z.out];omega);rw[E0,<-z.out]at G;have MQ:=h_ G;have nX:=h_ q;obtain⟨l,F,D,I,A,C⟩:=m.go;have s:=h_ D;have HF:=h_ I;have HLC:=h_ A;have H:=h_ C;clear G q D I A C;go_wp2_with fail;refine MQ.mono ?_;rintro e f ⟨E,bn⟩;have AM:=h_ (s.later E);have J:=h_ (m.bel.trans (E.mono m.bel.size));have T4:=h_ E.size;rcases bn with⟨r,n,v,i,rfl,O,V⟩|⟨y,i,hy,rfl⟩
   ·obtain⟨oa,oc,B⟩:∃oa oc,u6=.slice oa l.length oc:=by
     rcases s.own.2 with⟨h,h0⟩|⟨g,cap',cur,h,_⟩
     ·grind
     ·exact⟨_,_,h⟩
    obtain⟨vg,vn,vc,hv⟩:∃g n c,v=.slice (some ⟨g,0,none⟩) n c:=by
     rcases O.at with⟨h,_⟩|⟨g,c,h,_⟩
     ·exact absurd h V
     ·exact⟨g,_,c,h⟩
    subst hv;obtain⟨M,Y⟩:∃M,M=l.length:=⟨_,rfl⟩;rw[<-Y]at B;subst B;have hMc:M<=100000:=by grind
    have hMz:(M:Int)<=100000:=by omega
    unfold ye;have aU:=yJw r.kind r.gen r.num vg vn vc;have o:Below f.heap.size f (f.alloc (.cells #[.int .i64 r.kind,.int .i64 r.gen,.int .i64 r.num,.slice (some ⟨vg,0,none⟩) vn vc] 238)):=by grind
    have t:=h_ (AM.later o);have w:=h_ (J.trans (o.mono J.size));have Fn:=h_ (O.below o);have sH:=h_ O;have P:=h_ Y;have TR:=h_ V;have HJ:=h_ i;have G:=h_ (xXt i);clear o E i cm MQ O V Y;by_cases hg:r.gen=gen
    ·by_cases hm:r.num=num+M
     ·have Z:(r.gen != gen)=false:=by grind
      have lT:(r.num != num+M)=false:=by grind
      have ZA:=h_ (And.intro hg hm);clear hg hm;go_upto_region 10 with (fail)
      clear Z lT;obtain⟨d,dS⟩:∃d,d=f.alloc (.cells #[.int .i64 r.kind,.int .i64 r.gen,.int .i64 r.num,.slice (some ⟨vg,0,none⟩) vn vc] 238):=⟨_,rfl⟩;refine xm dS ?_;have Ia:=t.out;have K:=w.out;have AN:=Fn.out;have Fo:d.heap[f.heap.size]?=some (.cells #[.int .i64 r.kind,.int .i64 r.gen,.int .i64 r.num,.slice (some ⟨vg,0,none⟩) vn vc] 238 (0,0)):=by grind
      have MT:d.heap.size=f.heap.size+1:=by grind
      rw[<-dS]at Ia K AN;have hq:=xF (n:=4) Fo rfl;have q1:=hq.1;have q2:=hq.2;have R:Below d.heap.size d (d.alloc (.cells #[.int .i64 r.kind,.int .i64 r.gen,.int .i64 r.num,.slice (some ⟨vg,0,none⟩) vn vc] 238)):=by grind
      have MU:=h_ (Ia.later R);have T:=h_ (K.trans (R.mono K.size));have MV:=h_ (AN.below R);have Ib:=h_ (show ∀k,(Value.slice oa M oc).ownBlock=some k->k<wr.heap.size from λk e=>(s5 s.own k e).2);have T5:=h_ (show ∀k,(Value.slice (some ⟨vg,0,none⟩) vn vc).ownBlock=some k->wr.heap.size<=k/\k<f.heap.size from λk e=>sH.lt e);have HS56:=h_ (And.intro T4.out MT);have fQ:=h_ (show W.heap.size<=(d.alloc (.cells #[.int .i64 r.kind,.int .i64 r.gen,.int .i64 r.num,.slice (some ⟨vg,0,none⟩) vn vc] 238)).heap.size from T.size)
      have lq:=h_ (show ∀j u,(ye r.kind r.gen r.num (.slice (some ⟨vg,0,none⟩) vn vc))[j]?=some u->(d.alloc (.cells #[.int .i64 r.kind,.int .i64 r.gen,.int .i64 r.num,.slice (some ⟨vg,0,none⟩) vn vc] 238)).cell? ((⟨d.heap.size,0,none⟩:Addr).add j)=some u from λj u i=>by
       rw[l8,m0,yD];simpa[ye]using i)
      have bG:=h_ (show ∀u∈ye r.kind r.gen r.num (.slice (some ⟨vg,0,none⟩) vn vc),u.oneCell'=true from λu B=>by
       simp only[ye,g8,ak_,or_false]at B;rcases B with rfl|rfl|rfl|rfl <;> rfl)
      have ed:=MU.own;rw[<-P.out]at ed;have sJ:=h_ ed;obtain⟨i0,hi,bf,aP,be⟩:=info_parts Tryz.info_rec;have Q:=h_ (And.intro hi (And.intro bf (And.intro aP be)));clear Ia K AN Fo MT hq R dS ed hi bf aP be t w Fn;go_wp2_with (at_builtin;refine wpList_append_own_at _ rfl (.tmp 49) (.tmp 51) 239 rfl W.heap.size 238 i0 (.agg #[.int .i64 0,.int .i64 0,.int .i64 0,.slice none 0 0]) 4 48 underlying239 Q.1 Q.2.1 Q.2.2.1 Q.2.2.2 rfl (by decide) _ M (zX l) rfl sJ.out ⟨d.heap.size,0,none⟩ 1 1 (ye r.kind r.gen r.num (.slice (some ⟨vg,0,none⟩) vn vc)) rfl rfl lq.out bG.out ?cA ?cB fQ.out ?_)
      case cA=>unfold maxLen;omega
      case cB=>omega
      intro v' w8 nY U _ MW;have ZB:OwnB _ W.heap.size (Value.slice (some ⟨vg,0,none⟩) vn vc) r.pay/\_/\∀k,(Value.slice (some ⟨vg,0,none⟩) vn vc).ownBlock=some k->(Value.slice oa M oc).ownBlock≠some k:=⟨MV.base m.bel.size,TR.out,λk e e2=>by have h1:=T5.out k e;have h2:=Ib.out k e2;omega⟩;have Ic:=nY;rw[P.out]at Ic
      have MX:=MU.app (x:=(r,.slice (some ⟨vg,0,none⟩) vn vc)) Ic U ZB (λk e=>by
       rcases MW with h|h
       ·exact .inl (h▸e)
       ·exact .inr (by rw[h]at e;rw[U7];exact bk_ (G0 e)))
      have gM:Below W.heap.size W w8:=T.grown U T.size (λk e=>(s5 s.own k e).1);have Id:=G.out;have KX:=HF.out;have hNN:=z.out;have A:=HLC.out;rw[E0]at Id;have Fp:yIp W gen num L (c+n) v' w8:=by
       refine⟨gM,by omega,l++[(r,.slice (some ⟨vg,0,none⟩) vn vc)],F-1,MX,?_,?_,?_⟩
       ·rw[E0]at KX⊢;omega
       ·rw[b6,List.length_singleton];omega
       ·obtain⟨F',rfl⟩:∃F',F=F'+1:=⟨F-1,by omega⟩;rw[H.out,yAz HJ.out ⟨ZA.1,by rw[ZA.2,P.out]⟩ nX.out,aj_];simp[Int.add_assoc]
      have MY:=h_ Fp;have hcn:c+n<=100000:=by omega
      have aH:=Id.1;have hcnz:(c:Int)+n<=100000:=by omega
      clear nY U MW ZB Ic MX gM Id KX Fp q1 q2;go_wp2;go_roundw
      case rel=>exact⟨c+n,x,by go_num,rfl,MY.out⟩
      case measure=>simp[intOf];omega
     ·have Z:(r.gen != gen)=false:=by grind
      have lT:(r.num != num+M)=true:=by grind
      have p:=h_ (show l.map Prod.fst=zL sha gen (L.length+1) num L by rw[H.out,xTn HJ.out (λh=>hm (by rw[h.2,P.out])),G5]);clear hm hg;go_wp2;refine bodyPost_ret (results_tmp3 rfl _ _ _) rfl ?_;refine⟨w.out,.slice oa M oc,l,c,30,rfl,t.out,p.out⟩
    ·have Z:(r.gen != gen)=true:=by grind
     have p:=h_ (show l.map Prod.fst=zL sha gen (L.length+1) num L by rw[H.out,xTn HJ.out (λh=>hg h.1),G5]);clear hg;go_wp2;refine bodyPost_ret (results_tmp3 rfl _ _ _) rfl ?_;refine⟨w.out,.slice oa M oc,l,c,30,rfl,t.out,p.out⟩
   ·unfold ye;have aU:=xI2;have H_:(y==0)=false:=by grind
    have nD:(y != 0)=true:=by grind
    have o:Below f.heap.size f (f.alloc (.cells #[.int .i64 0,.int .i64 0,.int .i64 0,.slice none 0 0] 238)):=by grind
    have t:=h_ (AM.later o);have w:=h_ (J.trans (o.mono J.size));have p:=h_ (show l.map Prod.fst=zL sha gen (L.length+1) num L by rw[H.out,xOg i,G5]);clear o hy E i cm MQ;go_wp2;refine bodyPost_ret (results_tmp3 rfl _ _ _) rfl ?_;refine⟨w.out,u6,l,c,y,rfl,t.out,p.out⟩
  ·obtain rfl:c=N:=by have:=z.out;omega
   obtain⟨l,F,D,I,A,C⟩:=m.go;have p:=h_ (show l.map Prod.fst=zL sha gen (L.length+1) num L by rw[C,M0 (by have:=z.out;omega),xOg rfl,G5]);have s:=h_ D;clear D I A C;go_wp2;refine bodyPost_ret (results_tmp3 rfl _ _ _) rfl ?_;refine⟨m.bel,u6,l,c,x,rfl,s.out,p.out⟩
end
section
attribute [local go_sem ↓] xP xI yp y8
attribute [local go_sem] zg zj zC zA yM xh xg xe xd xD3 xCy xx zV qB xq xB xw j8 ju ku
attribute [local go_sem] lc0 lc33 lc34 lc35 lc36 lc37 rc0 rc1 rc34 rc35 rc36 rc37 rc38 jN jL xG8 xG3 xLb xL1 xJ0 xIt
theorem xAo {n lo a e}(b:e≠0)(h:uS n lo a e=0):lo<=n/\n<=a:=by grind [uS]
theorem xFs {s m}(h:vx s m=0):(s.length:Int)<=m/\s.any qu=false:=by grind [vx]
theorem xQi {ids}(h:jA ids=0):ids.length<=20/\vB ids ids.length=false:=by grind [jA]
theorem xL7:∀{l:List Int},kJ l=0->∀e∈l,e=0
 |[],_,e,a=>by cases a
 |x :: l,h,e,a=>by
  unfold kJ at h;split at h
  ·rename_i hx;rcases g8.1 a with rfl|a
   ·exact hx
   ·exact xL7 h e a
  omega
theorem xR4 {g ids}(h:xGd g ids=0):(1<=g.number/\g.number<=2147483646)/\g.name.size<=60/\(0<=g.date/\g.date<=105190559)/\g.subject.size<=200/\ids.length<=20/\(0<=g.bytes/\g.bytes<=65536):=by
 have a:=xL7 h;have h1:=xAo (by decide) (a (uS g.number 1 2147483646 2) (by simp));have h2:=xFs (a (vx g.name.data.toList 60) (by simp));have h3:=xAo (by decide) (a (uS g.date 0 105190559 13) (by simp));have h4:=xFs (a (vx g.subject.data.toList 200) (by simp));have c:=xQi (a (jA ids) (by simp));have b:=xAo (by decide) (a (uS g.bytes 0 65536 2) (by simp));grind [vG]
end
section
attribute [local go_sem ↓] xP xI vQ xAf
attribute [local go_sem] zg zj yM xh xg xe xd xx xy xk xj xLc xL2 xq xB xw j8 xD
def hv (c:UInt8):Nat:=if 48<=c.toNat/\c.toNat<=57 then c.toNat-48 else if 97<=c.toNat/\c.toNat<=102 then c.toNat-87 else 16
theorem kd {P fn p t ty n}(h:fn.results=#[.cell p ty,.tmp t])(e:∀w,Sem.run P (isAgg ty) w=.ok true w)(hs:∀w,Sem.run P (Go.sizeOf ty) w=.ok n w)
  (tmps) (w) (a) (cs) (v) (d:tmps.getD p undef=.pointer (some a)) (hv:tmps.getD t undef=v) (g:xp w a n=true) (f:xo w a n=cs):
  (results fn tmps).run P w=.ok (.tuple #[.agg cs,v]) w:=by
 have b:tmps[p]?.getD undef=.pointer (some a):=by simpa using d
 have c:tmps[t]?.getD undef=v:=by simpa using hv
 have hl:(loadVar ty a).run P w=.ok (.agg cs) w:=by
  simp[loadVar,e,hs,yY w a n g,f]
 simp[results,h,b,c,asAddr,hl]
end
def uP (c:UInt8):List UInt8->List (List UInt8)
 |[]=>[[]]
 |b :: l=>if b=c then [] :: uP c l else match uP c l with
  |h :: t=>(b :: h) :: t
  |[]=>[[b]]
theorem yAv (c l):uP c l≠[]:=by
 cases l with
 |nil=>simp[uP]
 |cons b l=>
  grind [uP]
theorem xTc (c b l)(h:b≠c)(k):Lib.splitK [c] 0 k (b :: l)=match Lib.splitK [c] 0 k l with|h :: t=>(b :: h) :: t|[]=>[[b]]:=by
 have e:([c]:List UInt8).isPrefixOf (b :: l)=false:=by grind
 have i:Lib.index (b :: l) [c]=if Lib.index l [c] == -1 then -1 else Lib.index l [c]+1:=by rw[Lib.index,e];simp
 cases k with
 |zero=>rfl
 |succ k=>
  by_cases hm:Lib.index l [c]=-1
  ·have d:Lib.index (b :: l) [c]=-1:=by grind
   simp[Lib.splitK,hm,d]
  ·have g:=Lib.index_ge l [c];obtain⟨j,f⟩:∃j:Nat,Lib.index l [c]=j:=⟨(Lib.index l [c]).toNat,by omega⟩;have d:Lib.index (b :: l) [c]=((j+1:Nat):Int):=by grind
   have a:∀n:Nat,((n:Int) == -1)=false:=by simp
   unfold Lib.splitK;rw[d,f,a,a];simp
theorem xTb (c):∀l:List UInt8,Lib.split l [c]=uP c l
 |[]=>by
  have:Lib.count [] [c]=0:=by rw[Lib.count_one];rfl
  unfold Lib.split;rw[this];rfl
 |b :: l=>by
  have ih:=xTb c l;unfold Lib.split at ih⊢;by_cases h:b=c
  ·subst h;rw[Lib.count_cons_eq,cn_ 1];have a:Lib.index (b :: l) [b]=((0:Nat):Int):=by rw[Lib.index];simp[List.isPrefixOf]
   unfold Lib.splitK uP;rw[a,if_pos rfl,if_neg (by decide)];simp[ih]
  ·rw[Lib.count_cons_ne b c l h,xTc c b l h,ih]
   conv=>rhs;rw[uP]
   rw[if_neg h]
def yL (c:UInt8)(s:ByteArray):List ByteArray:=(uP c s.data.toList).map str
theorem xOb (c s):Lib.splitB ⟨#[c]⟩ 0 (Lib.countB s ⟨#[c]⟩) s=yL c s:=by
 have h:=Lib.splitB_data ⟨#[c]⟩ 0 (Lib.countB s ⟨#[c]⟩) s;have h2:Lib.splitK [c] 0 (Lib.countB s ⟨#[c]⟩) s.data.toList=uP c s.data.toList:=by
  rw[<-xTb];rfl
 have h3:(Lib.splitB ⟨#[c]⟩ 0 (Lib.countB s ⟨#[c]⟩) s).map (λx=>str x.data.toList)=(uP c s.data.toList).map str:=by
  rw[<-h2,<-h,T7];rfl
 unfold yL;rw[<-h3];simp[yIw]
theorem xEn (c s):(yL c s).length=Lib.countB s ⟨#[c]⟩+1:=by
 rw[<-xOb];exact Lib.splitB_all ⟨#[c]⟩ (w_ 1) 0 _ s rfl
theorem xF5 (c s):1<=(yL c s).length/\(yL c s).length<=s.size+1:=by
 rw[xEn];have:=Lib.countB_le ⟨#[c]⟩ (w_ 1) s.size s (w_ _);omega
theorem yAt (c s w)(b:Gl w)(hs:s.size<4294967281):
  Calls prog 103 #[.string s,.string ⟨#[c]⟩] w λr w'=>r=.returned (.slice (some ⟨w.heap.size,0,none⟩) (yL c s).length (yL c s).length)/\w.alloc (.cells ((yL c s).map Value.string).toArray 9)=w':=by
 obtain⟨m,a⟩:=b.len;refine(Tryz.strings_Split s ⟨#[c]⟩ m w hs a (w_ 1)).mono ?_;rintro e w' ⟨rfl,rfl⟩;rw[xEn,xOb];exact⟨rfl,rfl⟩
theorem xHj (w:World)(t xs):uk (w.alloc (.cells (xs.map Value.string).toArray t)) w.heap.size 0 xs:=by
 intro j x hx;grind
section
attribute [local go_sem ↓] xP xI vQ xAf
attribute [local go_sem] zg zj yM xh xg xe xd xx xy xk xj xLc xL2 xq xB xw j8 xD
def y4 (w:World)(lb:Nat)(g:jp):Prop:=w.heap[lb]?=some (.cells (x9 g) 70 (0,0))
theorem y4.lt {w lb g}(h:y4 w lb g):lb<w.heap.size:=(i_ h).1
theorem y4.cell {w lb g}(h:y4 w lb g)(j):w.cell? ⟨lb,j,none⟩=(x9 g)[j]?:=cell_of_row w lb j _ _ _ h
theorem y4.free {w lb g}(h:y4 w lb g)(j):w.frozen? ⟨lb,j,none⟩=false:=frozen_of_row w lb j _ _ h
theorem y4.grown {w w' lb g row}(h:y4 w lb g)(b:w.grownBy w' row)(a:some lb≠row):y4 w' lb g:=(b.block lb h.lt a).trans h
theorem xR3 (g j v)(a:j<5):(xL g).set (33+j) v=.int .i64 g.number :: (xl g.id++[Value.string g.name,.int .i64 g.date,.string g.subject,g.refs,.int .i64 g.bytes].set j v):=by grind [xL,List.set_append_right,xD]
theorem yDr (g v):(x9 g).setIfInBounds 36 v=x9 { g with refs:=v }:=by
 unfold x9;rw[U1,xR3 g 3 _ (by omega)];rfl
theorem y4.set {w lb g g'}(h:y4 w lb g)(j v)(e:(x9 g).setIfInBounds j v=x9 g'):y4 (w.setCell ⟨lb,j,none⟩ v) lb g':=by grind [y4]
theorem yBv (w:World)(lb j v):w.grownBy (w.setCell ⟨lb,j,none⟩ v) (some lb):=
 ⟨rfl,rfl,rfl,by simp[World.setCell],λk _ a=>heap_setCell_other w ⟨lb,j,none⟩ k v (λe=>a (by rw[e]))⟩
theorem xAa {a b c:World}{r}(h:a.grownBy b r)(k:b.grownBy c r):a.grownBy c r:=
 ⟨k.os.trans h.os,k.tape.trans h.tape,k.output.trans h.output,R_ h.size k.size,λi e d=>(k.block i (b7 e h.size) d).trans (h.block i e d)⟩
theorem xV0 {w w'}(h:Below w.heap.size w w')(r):w.grownBy w' r:=⟨h.os,h.tape,h.output,h.size,λk a _=>h.block k a⟩
theorem xAj {w W w' B lb}(h:Below B w W)(a:W.grownBy w' (some lb))(b:B<=W.heap.size)(c:B<=lb):Below B w w':=h.grown a b (λk e=>by cases e;exact c)
end
theorem Tryz.info_id:(prog.info? 42).map (λi=>(i.zero,i.size,i.bytes))=some (some (.agg (xl yI).toArray),32,32):=by kernel_rfl
theorem xG5:∀(cs:List Value) (k off:Nat) (pre mid post:List Value),pre.length=off+k->mid.length=cs.length ->
  (cs.zipIdx k).foldl (λacc (c:Value×Nat)=>acc.setIfInBounds (off+c.2) c.1) (pre++(mid++post)).toArray=(pre++(cs++post)).toArray
 |[],k,off,pre,mid,post,_,a=>by simp_all
 |c :: cs,k,off,pre,mid,post,b,a=>by
  cases mid with
  |nil=>simp at a
  |cons m mid=>
   have ih:=xG5 cs (k+1) off (pre++[c]) mid post (by simp[b];omega) (by simpa using a);rw[List.zipIdx_cons,cq_];have e:((pre++(m :: mid++post)).toArray).setIfInBounds (off+k) c=(pre++[c]++(mid++post)).toArray:=by grind
   grind
theorem yHb (cs cur:Array Value)(h:cur.size=cs.size):cs.zipIdx.foldl (λacc (c:Value×Nat)=>acc.setIfInBounds (0+c.2) c.1) cur=cs:=by
 have:=xG5 cs.toList 0 0 [] cur.toList [] rfl (by simpa using h);simp only[E8,G5,Array.toArray_toList]at this;grind [Array.toList_zipIdx]
theorem xDg (cs cur n)(a:cs.size=n)(h:cur.size=n):Instr.fill (λi=>some (i*n,n)) cur [(0,.agg cs)]=some cs:=by
 have e:=yHb cs cur (by omega);simp only[m0]at e;simp only[Instr.fill,Value.cells,a,h,az_,m0];grind
def xCl (P:Program)(t:Nat)(w:World)(v:Value):Result Next:=Sem.run P (do pure (Next.value (<-Instr.buildSlice t 1 #[(0,v)]))) w
theorem xVk (ρ:Operand->Value)(d x)(ty:TypeId)(pos af g w):
  Sem.run prog (execOp ρ ⟨d,.buildSlice 44 1 #[(0,x)],ty,pos,af,g⟩) w=xCl prog 44 w (ρ x):=by kernel_rfl
theorem yIo (w x):xCl prog 44 w (.agg (xl x).toArray)=.ok (.value (.slice (some ⟨w.heap.size,0,none⟩) 1 1)) (w.alloc (.cells (xl x).toArray 42)):=by
 obtain⟨b,c,d,a,e⟩:=info_parts Tryz.info_id;unfold xCl
 rw[G9,run_buildSlice w 44 42 1 _ (xl x).toArray b _ underlying44 c d (by rw[a];decide) (by rw[a];decide) (by
  rw[a];exact xDg _ _ 32 (uG x) (by simp))]
 rfl
def zH (ids:List Id32):List Value:=ids.flatMap xl
theorem xM3:∀(ids:List Id32) (j i:Nat),j<ids.length->i<32->(zH ids)[j*32+i]?=(xl ids[j]!)[i]?
 |[],j,i,a,_=>by simp at a
 |x :: r,0,i,_,b=>by
  unfold zH;rw[as_,az_,m0,I3 (by rw[xD];exact b)];rfl
 |x :: r,j+1,i,a,b=>by
  have ih:=xM3 r j i (by simpa using a) b;grind [zH,List.getElem?_append_right,xD]
theorem yBo {w B v ids}(h:w.ownsRow B 42 32 v ids.length (zH ids)):xH6 w v ids:=by
 rcases h.2 with⟨rfl,b⟩|⟨g,cap,cur,rfl,k,n,e,m,o,l⟩
 ·exact⟨none,0,by rw[b],by omega,λa=>absurd (ap_.1 b) a⟩
 ·refine⟨_,cap,rfl,e,λ_=>⟨g,0,rfl,λj c i v d=>?_⟩⟩;have f:i<32:=by grind [List.getElem?_eq_some_iff.1,xD]
  have h1:=h.cellAt (j*32+i) (by omega);rw[m0,h1,xM3 ids j i c f];exact d
section
attribute [local go_sem ↓] xP xI vQ xAf
attribute [local go_sem] zg zj yM xh xg xe xd xx xy xk xj xLc xL2 xq xB xw j8 xD
def xSp (w:World)(lb:Nat):Prop:=∃cs,w.heap[lb]?=some (.cells cs 70 (0,0))/\cs.size=38
theorem y4.row {w lb g}(h:y4 w lb g):xN w lb 38=true:=by
 unfold xN;rw[h];simp[xO]
theorem y4.blk {w lb g}(h:y4 w lb g):xSp w lb:=⟨_,h,xO g⟩
theorem uV (w:World)(lb cs):w.grownBy (w.setRow lb cs) (some lb):=
 ⟨rfl,rfl,rfl,by simp[World.setRow],λk _ a=>by
  unfold World.setRow;simp only[ba_];rw[if_neg (λe=>a (by rw[e]))]⟩
end
theorem y4.rd {w lb g}(h:y4 w lb g):xp w ⟨lb,0,none⟩ 38=true/\xo w ⟨lb,0,none⟩ 38=x9 g:=by
 have:=yl (w:=w) (a:=⟨lb,0,none⟩) (cs:=xL g) (λj v b=>by rw[l8,m0,h.cell j];simpa[x9]using b)
 rwa [yr]at this
theorem xSp.setRow {w lb g'}(h:xSp w lb):y4 (w.setRow lb (x9 g')) lb g':=by
 obtain⟨cs,h1,_⟩:=h;exact setRow_heap w lb _ _ _ _ h1
def zl (P:Program)(t:Nat)(w:World)(parts:Array (Nat×Value)):Result Next:=Sem.run P (do pure (Next.value (<-Instr.build t parts))) w
theorem kU (ρ:Operand->Value)(d h g f e c b a)(ty:TypeId)(pos af gd w):
  Sem.run prog (execOp ρ ⟨d,.build 70 #[(0,h),(1,g),(2,f),(3,e),(4,c),(5,b),(6,a)],ty,pos,af,gd⟩) w=zl prog 70 w #[(0,ρ h),(1,ρ g),(2,ρ f),(3,ρ e),(4,ρ c),(5,ρ b),(6,ρ a)]:=by kernel_rfl
section
attribute [local go_sem ↓] xP xI yp y8 ym yw kU
attribute [local go_sem] zg zj zC zA yM xh xg xe xd xx xy xk xj xq xB xw
attribute [local go_sem] lc0 lc33 lc34 lc35 lc36 lc37 rc0 rc1 rc34 rc35 rc36 rc37 rc38
theorem xOu (g):xA8 (x9 g) 1 32=true:=xG9 (by rw[xO];omega)
theorem xOn (g):xA3 (x9 g) 1 32=(xl g.id).toArray:=by rw[jB (by rw[xO];omega)];exact xMb g
theorem xOt (s g):xA8 (yS s g) 2 32=true:=xG9 (by rw[um];omega)
theorem xOm (s g):xA3 (yS s g) 2 32=(xl g.id).toArray:=by rw[jB (by rw[um];omega)];exact xJf s g
attribute [local go_sem] xOu xOn xOt xOm
theorem vZ {P fn p ty n}(h:fn.results=#[.cell p ty])(d:∀w,Sem.run P (isAgg ty) w=.ok true w)(hs:∀w,Sem.run P (Go.sizeOf ty) w=.ok n w)
  (tmps) (w) (a) (cs) (c:tmps.getD p undef=.pointer (some a)) (f:xp w a n=true) (e:xo w a n=cs):
  (results fn tmps).run P w=.ok (.agg cs) w:=by
 have b:tmps[p]?.getD undef=.pointer (some a):=by simpa using c
 have hl:(loadVar ty a).run P w=.ok (.agg cs) w:=by
  simp[loadVar,d,hs,yY w a n f,e]
 simp[results,h,b,asAddr,hl]
end
section
attribute [local go_sem ↓] xP xI yp y8 ym yw kU
attribute [local go_sem] zg zj zC zA yM xh xg xe xd xx xy xk xj xq xB xw
attribute [local go_sem] lc0 lc33 lc34 lc35 lc36 lc37 rc0 rc1 rc34 rc35 rc36 rc37 rc38 xOu xOn xOt xOm
theorem xYa (ρ:Operand->Value)(d)(ty:TypeId)(pos af g w):
  Sem.run prog (execOp ρ ⟨d,.buildSlice 44 0 #[],ty,pos,af,g⟩) w=.ok (.value (.slice (some ⟨w.heap.size,0,none⟩) 0 0)) (w.alloc (.cells #[] 42)):=by kernel_rfl
attribute [local go_sem ↓] xYa
theorem yFh (ids):∀u∈zH ids,u.oneCell'=true:=by grind [zH,zT]
end
theorem xUs (x y r sep):Lib.join (x :: y :: r) sep=x++sep++Lib.join (y :: r) sep:=by
 simp[Lib.join,List.intercalate,List.intersperse]
theorem xLt (c):∀l:List UInt8,Lib.join (uP c l) [c]=l
 |[]=>by rw[uP,Lib.join_one]
 |b :: l=>by
  have ih:=xLt c l;have a:=yAv c l;unfold uP;cases hq:uP c l with
  |nil=>exact absurd hq a
  |cons y t=>
   rw[hq]at ih;split
   ·grind [xUs]
   ·cases t with
    |nil=>rw[Lib.join_one]at ih⊢;rw[ih]
    |cons z t=>rw[xUs]at ih⊢;rw[L2,L2,ih]
theorem yDb (l):(str l).data.toList=l:=by simp[str]
section
attribute [local go_sem ↓] xP xI yp y8 ym yw
attribute [local go_sem] zg zj zC zA yM xh xg xe xd xx xy xk xj xq xB xw
theorem y4.below {w w' lb B g}(h:y4 w lb g)(b:Below B w w')(a:lb<B):y4 w' lb g:=(b.block lb a).trans h
end
def lowB (c:UInt8):Bool:=decide (97<=c.toNat)&&decide (c.toNat<=122)
def badB (c:UInt8):Bool:=!lowB c&&(decide (c.toNat<48)||decide (57<c.toNat))&&c.toNat != 45&&c.toNat != 43&&c.toNat != 95
def xBf (l:List UInt8):Bool:=match l with
 |[]=>false
 |c :: r=>decide ((c :: r).length<=20)&&lowB c&&!(c :: r).any badB
def zB (s:ByteArray):Int:=if 80<s.size then 5 else if (yL 46 s).any (λx=>!xBf x.data.toList)then 12 else if 10<(yL 46 s).length then 9 else 0
theorem xJ5 (c w):Calls prog 269 #[.int .u8 c.toNat] w λr w'=>r=.returned (.bool (lowB c))/\w=w':=by
 unfold lowB;by_cases h1:97<=c.toNat
 ·by_cases h2:c.toNat<=122
  ·rw[decide_eq_true h1,decide_eq_true h2];have a:(97:Int)<=(c.toNat:Int):=by omega
   have b:(c.toNat:Int)<=122:=by omega
   go_enter func269,ntmps269;go_wp2;go_ret;exact⟨by simp,rfl⟩
  ·rw[decide_eq_true h1,decide_eq_false h2];have a:(97:Int)<=(c.toNat:Int):=by omega
   have b:decide ((c.toNat:Int)<=122)=false:=by simp;omega
   go_enter func269,ntmps269;go_wp2;go_ret;exact⟨by simp,rfl⟩
 ·rw[decide_eq_false h1];have a:decide ((97:Int)<=(c.toNat:Int))=false:=by simp;omega
  go_enter func269,ntmps269;go_wp2;go_ret;exact⟨by simp,rfl⟩
theorem yBa (c w):Calls prog 271 #[.int .u8 c.toNat] w λr w'=>r=.returned (.bool (badB c))/\w=w':=by
 unfold badB;have g:=xJ5 c w;generalize lowB c=b at g;have f:=h_ g;clear g;cases b with
 |true=>
  go_enter func271,ntmps271;go_wp2_with fail;refine f.mono ?_;rintro r w' ⟨rfl,rfl⟩;go_wp2;go_ret;exact⟨rfl,rfl⟩
 |false=>
  by_cases h1:c.toNat<48
  case pos=>
   have a:((c.toNat:Int) != 45)=(c.toNat != 45):=by grind
   have e:((c.toNat:Int) != 43)=(c.toNat != 43):=by grind
   have d:((c.toNat:Int) != 95)=(c.toNat != 95):=by grind
   have h:(c.toNat:Int)<48:=by omega
   rw[decide_eq_true h1,<-a,<-e,<-d];cases e45:((c.toNat:Int) != 45) <;> cases e43:((c.toNat:Int) != 43) <;> cases e95:((c.toNat:Int) != 95) <;>
   ·clear a e d;go_enter func271,ntmps271;go_wp2_with fail;refine f.mono ?_;rintro r w' ⟨rfl,rfl⟩;go_wp2;go_ret;exact⟨rfl,rfl⟩
  by_cases h2:57<c.toNat
  case neg=>
   have h:decide ((c.toNat:Int)<48)=false:=by simp;omega
   have i:decide (57<(c.toNat:Int))=false:=by simp;omega
   rw[decide_eq_false h1,decide_eq_false h2];go_enter func271,ntmps271;go_wp2_with fail;refine f.mono ?_;rintro r w' ⟨rfl,rfl⟩;go_wp2;go_ret;exact⟨rfl,rfl⟩
  have a:((c.toNat:Int) != 45)=(c.toNat != 45):=by grind
  have e:((c.toNat:Int) != 43)=(c.toNat != 43):=by grind
  have d:((c.toNat:Int) != 95)=(c.toNat != 95):=by grind
  have h:decide ((c.toNat:Int)<48)=false:=by simp;omega
  have i:57<(c.toNat:Int):=by omega
  rw[decide_eq_false h1,decide_eq_true h2,<-a,<-e,<-d];cases e45:((c.toNat:Int) != 45) <;> cases e43:((c.toNat:Int) != 43) <;> cases e95:((c.toNat:Int) != 95) <;>
  ·clear a e d;go_enter func271,ntmps271;go_wp2_with fail;refine f.mono ?_;rintro r w' ⟨rfl,rfl⟩;go_wp2;go_ret;exact⟨rfl,rfl⟩
def yFq (x:UInt8):Value:=.int .u8 x.toNat
theorem yE7 (w):PredAt prog 271 #[] yFq badB w:=λW x _=>
 (yBa x W).mono λ_ _ ⟨b,a⟩=>⟨b,0,a.symm⟩
theorem xS9 (s cap j)(h:j<s.size):(bytesRow s cap)[j]?=some (.int .u8 (s.data.toList[j]!).toNat):=by
 unfold bytesRow;have a:j<s.data.size:=h;grind
theorem yFw {s:ByteArray}(a:0<s.size):xBf s.data.toList=(decide (s.size<=20)&&lowB s[0]&&!s.data.toList.any badB):=by
 obtain⟨⟨l⟩⟩:=s;cases l with
 |nil=>exact absurd a (by simp[ByteArray.size])
 |cons c r=>rfl
theorem xK3 (s w)(hs:s.size<=maxLen):Calls prog 231 #[.string s] w λr w'=>r=.returned (.bool (xBf s.data.toList))/\Below w.heap.size w w':=by
 unfold maxLen at hs;by_cases h0:0<s.size
 case neg=>
  obtain⟨⟨l⟩⟩:=s;cases l with
  |nil=>
   go_enter func231,ntmps231;go_wp2;go_ret;exact⟨rfl,z_ _ _⟩
  |cons c r=>exact absurd h0 (by simp[ByteArray.size])
 have f:=yFw h0;have m:s.toList.isEmpty=false:=by grind [ByteArray.toList_eq,List.isEmpty_eq_false_iff,List.length_pos_iff,vG]
 rw[f];clear f;by_cases h20:s.size<=20
 case neg=>
  rw[decide_eq_false h20];have n:(20:Int)<(s.size:Int):=by omega
  go_enter func231,ntmps231;go_wp2;go_ret;exact⟨rfl,z_ _ _⟩
 rw[decide_eq_true h20];have n:decide ((20:Int)<(s.size:Int))=false:=by simp;omega
 have e:=xJ5 s[0] w;generalize lowB s[0]=b at e;have o:=h_ e;clear e;generalize h:s.data.toList.any badB=bb;have g:=h_ h;clear h;go_enter func231,ntmps231;go_wp2_with fail;refine o.mono ?_;rintro r w' ⟨rfl,rfl⟩;cases b with
 |false=>
  go_wp2;go_ret;exact⟨rfl,z_ _ _⟩
 |true=>
  have k:=run_bytes_of_string (P:=prog) w 9 23 5 s underlying9 underlying23 underlying5;go_wp2_with fail
  have d:=AnyE.slices_ContainsFunc Tryz.containsFuncByte yFq badB 271 #[] (enters_of func271 (by decide) rfl) w.heap.size 0 s.size (grownCap w s.size 0 5) s.data.toList (w.alloc (.cells (bytesRow s (grownCap w s.size 0 5)) 5 ((bytesRow s (grownCap w s.size 0 5)).size,(bytesRow s (grownCap w s.size 0 5)).size+1))).drew (yE7 _) (bk_ (vG s).symm) (by omega) (λj t=>by
   have i:j<s.size:=by grind [vG]
   have:=xS9 s (grownCap w s.size 0 5) j i;rw[bI_,World.cell?_alloc_mark,m0];exact this)
  have a:(s.data.toList.take s.size).any badB=s.data.toList.any badB:=by rw[v6 (bk_ (vG s))]
  rw[a]at d;rw[g.out]at d;have p:=h_ d;clear d k a g;refine p.mono ?_;rintro r w' ⟨rfl,q,rfl⟩;go_wp2;go_ret;exact⟨by simp,below_drewN' ((z_ _ _).alloc (w_ _) _) (1+q)⟩
theorem xUf (s w)(hs:s.size<=maxLen):Calls prog 230 #[.string s] w λr w'=>r=.returned (.bool (!xBf s.data.toList))/\Below w.heap.size w w':=by
 have a:=xK3 s w hs;generalize xBf s.data.toList=b at a⊢;have d:=h_ a;clear a;go_enter func230,ntmps230;go_wp2_with fail;refine d.mono ?_;rintro r w' ⟨rfl,c⟩;go_wp2;go_ret;exact⟨by simp,c⟩
def xBi:List ByteArray->Nat->Int
 |[],_=>-1
 |x :: r,k=>if xBf x.data.toList then xBi r (k+1)else k
theorem xPj:∀(xs:List ByteArray) (k:Nat),(0<=xBi xs k)↔xs.any (λx=>!xBf x.data.toList)=true
 |[],k=>by simp[xBi]
 |x :: r,k=>by
  have:=xPj r (k+1);by_cases h:xBf x.data.toList=true
  ·simp only[xBi,h,if_true,List.any_cons,Bool.not_true,Bool.false_or];exact this
  grind [xBi]
theorem xRc (b c xs w)(hx:uk w b 0 xs)(v:xs.length<=1000000)(n:∀x∈xs,x.size<=maxLen):
  Calls prog 268 #[.slice (some ⟨b,0,none⟩) xs.length c,.func (.func 230) #[] #[]] w λr w'=>r=.returned (.int .i64 (xBi xs 0))/\Below w.heap.size w w':=by
 have t:=h_ hx;have u:=h_ n;clear hx n;go_enter func268,ntmps268;go_wp2;go_loopw [5,8] (λ_ i wr=>∃k:Nat,k<=xs.length/\i=.int .i64 k/\Hid (xBi xs 0=xBi (xs.drop k) k)/\Below w.heap.size w wr) (λ_ i _=>xs.length-(intOf i).toNat)
 case atStart=>exact⟨0,by omega,rfl,h_ rfl,z_ _ _⟩
 case round=>
  obtain⟨k,y,rfl,g,h⟩:=hrel;by_cases hlt:k<xs.length
  ·have z:(k:Int)<(xs.length:Int):=by omega
   have m:xs[k]?=some xs[k]:=by simp
   have d:=t.out k _ m;rw[m0]at d;have s:wr.cell? ⟨b,k,none⟩=some (.string xs[k]):=by grind
   have o:=u.out xs[k] (L3 hlt)
   have a:Hid (xBi xs 0=if xBf xs[k].data.toList then xBi (xs.drop (k+1)) (k+1)else k):=h_ (by
    rw[g.out,M3 hlt];rfl)
   have f:=xUf xs[k] wr o;have e:=h_ h;clear g d m o h;generalize xs[k]=x at s a f;generalize xBf x.data.toList=bb at f a;have p:=h_ f;clear f;cases bb with
   |true=>
    go_wp2_with fail;refine p.mono ?_;rintro r w' ⟨rfl,l⟩;have j:=e.trans (l.mono e.size);go_wp2;go_roundw
    case rel=>exact⟨k+1,by omega,by go_num,h_ (by rw[a.out];rfl),j⟩
    case measure=>simp[intOf];omega
   |false=>
    go_wp2_with fail;refine p.mono ?_;rintro r w' ⟨rfl,l⟩;have j:=e.trans (l.mono e.size);go_wp2;go_ret;exact⟨ud (by rw[a.out];rfl),j⟩
  ·have q:Hid (xBi xs 0=-1):=h_ (by rw[g.out,M0 (by omega)];rfl);clear g;go_wp2;go_ret;exact⟨ud (by rw[q.out]),h⟩
theorem xYs (b c xs w)(hx:uk w b 0 xs)(f:xs.length<=1000000)(d:∀x∈xs,x.size<=maxLen):
  Calls prog 229 #[.slice (some ⟨b,0,none⟩) xs.length c,.func (.func 230) #[] #[]] w λr w'=>r=.returned (.bool (xs.any λx=>!xBf x.data.toList))/\Below w.heap.size w w':=by
 have e:=h_ (xRc b c xs w hx f d);have h:=xPj xs 0;have a:(xs.any λx=>!xBf x.data.toList)=decide (0<=xBi xs 0):=by grind
 rw[a];clear h a hx d;generalize xBi xs 0=n at e⊢;go_enter func229,ntmps229;go_wp2_with fail;refine e.mono ?_;rintro r w' ⟨rfl,g⟩;go_wp2;go_ret;exact⟨by simp,g⟩
theorem xMg (s w)(a:Gl w)(hs:s.size<4294967281):
  Calls prog 64 #[.string s] w λr w'=>r=.returned (.slice (some ⟨w.heap.size,0,none⟩) (yL 46 s).length (yL 46 s).length)/\w.alloc (.cells ((yL 46 s).map Value.string).toArray 9)=w':=by
 go_enter func64,ntmps64;go_wp2_with fail;refine(yAt 46 s w a hs).mono ?_;rintro r w' ⟨rfl,rfl⟩;go_wp2;go_ret;exact⟨rfl,rfl⟩
theorem xOa (c):∀l:List UInt8,∀x∈uP c l,x.length<=l.length
 |[],x,hx=>by simp[uP]at hx;simp[hx]
 |b :: l,x,hx=>by
  have ih:=xOa c l;grind [uP]
theorem yAu (c s):∀x∈yL c s,x.size<=s.size:=by
 intro x hx;unfold yL at hx;obtain⟨l,hl,rfl⟩:=D4.1 hx;rw[yDa,<-vG];exact xOa c _ l hl
theorem xEr (s w)(j:Gl w)(hs:s.size<=maxLen):
  Calls prog 204 #[.string s] w λr w'=>r=.returned (.int .i64 (zB s))/\Below w.heap.size w w':=by
 unfold maxLen at hs;unfold zB;by_cases h80:80<s.size
 ·rw[if_pos h80];have m:(80:Int)<(s.size:Int):=by omega
  go_enter func204,ntmps204;go_wp2;go_ret;exact⟨rfl,z_ _ _⟩
 ·rw[if_neg h80];have m:¬ (80:Int)<(s.size:Int):=by omega
  have i:=yAu 46 s;have k:=xF5 46 s;have e:=h_ (xMg s w j (by omega));have a:Below w.heap.size w (w.alloc (.cells ((yL 46 s).map Value.string).toArray 9)):=by grind
  have f:=xYs w.heap.size (yL 46 s).length (yL 46 s) (w.alloc (.cells ((yL 46 s).map Value.string).toArray 9)) (xHj w _ _) (by omega) (λx hx=>by have:=i x hx;unfold maxLen;omega);have h:(yL 46 s).length<=81:=by omega
  generalize yL 46 s=xs at e f a h⊢;generalize (xs.any λx=>!xBf x.data.toList)=b at f⊢;generalize xs.length=n at e f h⊢;have g:=h_ f;have c:=h_ a;clear f a i k;cases b with
  |true=>
   go_enter func204,ntmps204;go_wp2_with fail;refine e.mono ?_;rintro r w' ⟨rfl,rfl⟩;go_wp2_with fail;refine g.mono ?_;rintro r w' ⟨rfl,d⟩;go_wp2;go_ret;exact⟨rfl,c.trans (d.mono c.size)⟩
  |false=>
   by_cases h10:10<n
   ·have l:(10:Int)<(n:Int):=by omega
    rw[if_pos h10];go_enter func204,ntmps204;go_wp2_with fail;refine e.mono ?_;rintro r w' ⟨rfl,rfl⟩;go_wp2_with fail;refine g.mono ?_;rintro r w' ⟨rfl,d⟩;go_wp2;go_ret;exact⟨rfl,c.trans (d.mono c.size)⟩
   ·have l:¬ (10:Int)<(n:Int):=by omega
    rw[if_neg h10];go_enter func204,ntmps204;go_wp2_with fail;refine e.mono ?_;rintro r w' ⟨rfl,rfl⟩;go_wp2_with fail;refine g.mono ?_;rintro r w' ⟨rfl,d⟩;go_wp2;go_ret;exact⟨rfl,c.trans (d.mono c.size)⟩
section
attribute [local go_sem ↓] xP xI yp y8 ym yw
attribute [local go_sem] zg zj zC zA yM xh xg xe xd xx xy xk xj xq xB xw
def yJ (B:Nat)(w:World)(v:Value)(ids:List Id32):Prop:=w.ownsRow B 42 32 v ids.length (zH ids)
theorem yJ.at {B w v ids}(h:yJ B w v ids):xH6 w v ids:=yBo h
theorem yJ.mono {B B' w v ids}(h:yJ B w v ids)(c:B'<=B):yJ B' w v ids:=by
 refine⟨h.1,?_⟩;rcases h.2 with d|⟨g,cap,cur,e,b,a⟩
 ·exact .inl d
 ·exact .inr ⟨g,cap,cur,e,R_ c b,a⟩
theorem yJ.block {B w w' v ids}(h:yJ B w v ids)(b:∀k,v.ownBlock=some k->w'.heap[k]?=w.heap[k]?):yJ B w' v ids:=by
 refine⟨h.1,?_⟩;rcases h.2 with d|⟨g,cap,cur,e,c,f,a⟩
 ·exact .inl d
 ·exact .inr ⟨g,cap,cur,e,c,(b g (by rw[e];rfl)).trans f,a⟩
theorem yJ.lt {B w v ids}(h:yJ B w v ids){k}(a:v.ownBlock=some k):B<=k/\k<w.heap.size:=s5 h k a
theorem yJ.below {B w w' v ids}(h:yJ B w v ids)(b:Below w.heap.size w w'):yJ B w' v ids:=h.block λk a=>b.block k (h.lt a).2
theorem yJ.one {B w v ids}(h:yJ B w v ids):v.oneCell'=true:=h.at.one
theorem xS7 (B v ids w)(h:yJ B w v ids)(l:ids.length<=1000000):
  Calls prog 68 #[v] w λr w'=>∃v',r=.returned v'/\yJ w.heap.size w' v' ids/\Below w.heap.size w w':=by
 obtain⟨a,b,e,k,f⟩:=info_parts Tryz.info_id;rcases h.2 with⟨rfl,d⟩|⟨g,cap,cur,rfl,n,s,q,p,t,o⟩
 ·refine(AnyE.slices_Clone_nil Tryz.cloneId 0 0 w).mono ?_;rintro r w'⟨rfl,rfl⟩;obtain rfl:ids=[]:=ap_.1 d;exact⟨_,rfl,D1 _ _ _ _,z_ _ _⟩
 ·refine(AnyE.slices_Clone Tryz.cloneId a (.agg (xl yI).toArray) 32 32 b e k f (uG yI) (by decide) sizeOf42 g 0 ids.length cap (zH ids) w h.1 (by unfold maxLen;omega) (by omega) (λj u m=>?_) (yFh ids)).mono ?_
  ·grind
  ·rintro r w' ⟨v',rfl,i,_,c⟩;exact⟨v',rfl,i,c⟩
theorem xEc (B g ids w)(h:yJ B w g.refs ids)(I:ids.length<=1000000):
  Calls prog 42 #[.agg (x9 g)] w λr w'=>∃v,r=.returned (.agg (x9 { g with refs:=v }))/\yJ w.heap.size w' v ids/\Below w.heap.size w w':=by
 obtain⟨b,m⟩:∃b,b=(w.alloc (.cells (x9 g) 70)).alloc (.cells (x9 xK) 70):=⟨_,rfl⟩;have N:b.heap.size=w.heap.size+2:=by grind
 have p:Below w.heap.size w b:=by grind
 have D:y4 b w.heap.size g:=by grind [y4]
 have C:y4 b (w.heap.size+1) xK:=by grind [y4,x9,xK]
 have z:=xS7 B g.refs ids b (h.below p) I;have x:b.cell? ⟨w.heap.size,36,none⟩=some g.refs:=by grind [lc36]
 have G:=h_ z;have F:=h_ D;have E:=h_ C;have M:=h_ p;clear z D C p;go_enter func42,ntmps42;rw[m]at x;go_wp2_with fail;rw[<-m];clear x m;refine G.mono ?_;rintro r d ⟨v,rfl,f,q⟩;have K:=f.one;obtain⟨va,vn,vc,hv⟩:∃a n c,v=.slice a n c:=by obtain⟨a,c,e,_⟩:=f.at;exact⟨a,_,c,e⟩
 have l:y4 d w.heap.size g:=F.below q (by omega);have t:y4 d (w.heap.size+1) xK:=E.below q (by omega);have J:Below w.heap.size w d:=by grind
 have j:=l.set 36 v (yDr g v);have s:y4 (d.setCell ⟨w.heap.size,36,none⟩ v) (w.heap.size+1) xK:=t.grown (yBv d w.heap.size 36 v) (by simp);have u:yJ b.heap.size (d.setCell ⟨w.heap.size,36,none⟩ v) v ids:=f.block λk i=>heap_setCell_other d ⟨w.heap.size,36,none⟩ k v (by have:=(f.lt i).1;simp;omega)
 have y:Below w.heap.size w (d.setCell ⟨w.heap.size,36,none⟩ v):=by grind
 have P:=(l.cell 36).trans (lc36 g);have O:=l.free 36;have Q:=j.rd.1;have T:=j.rd.2;have R:=s.row;have S:=zJ (g:={ g with refs:=v }) K;have L:=h_ j;have H:=h_ s;have o:=h_ u;have A:=h_ y;clear l t J j s u y f q G F E M h;subst hv;go_wp2;refine bodyPost_ret (v:=.agg (x9 { g with refs:=.slice va vn vc })) ?_ rfl ⟨_,rfl,?_,xAj A.out (uV _ _ _) A.size (by omega)⟩
 ·exact vZ rfl isAgg70 sizeOf70 _ _ ⟨w.heap.size+1,0,none⟩ _ rfl (H.blk.setRow.rd.1) (H.blk.setRow.rd.2)
 ·refine(o.mono (by omega)).block λk i=>(uV _ (w.heap.size+1) _).block k (o.lt i).2 ?_
  intro e;have:=(o.lt i).1;cases e;omega
end
theorem Tryz.info_line:(prog.info? 70).map (λi=>(i.zero,i.size,i.bytes))=some (some (.agg (x9 xK)),38,112):=by kernel_rfl
section
attribute [local go_sem ↓] xP xI yp y8 ym yw
attribute [local go_sem] zg zj zC zA yM xh xg xe xd xx xy xk xj xq xB xw
def three:jp:={ xK with number:=3 }
theorem y4.idAt {w lb g}(h:y4 w lb g):xp w ⟨lb,1,none⟩ 32=true/\xo w ⟨lb,1,none⟩ 32=(xl g.id).toArray:=by
 have:=yl (w:=w) (a:=⟨lb,1,none⟩) (cs:=xl g.id) (λj v b=>by
  have c:j<32:=by grind [List.getElem?_eq_some_iff.1,xD]
  rw[l8,h.cell,<-b];simp only[x9,xL,l7];rw[show 1+j=j+1 by omega,m8,I3 (by rw[xD];exact c)])
 rwa [xD]at this
end
section
attribute [local go_sem ↓] xP xI yp y8 ym yw
attribute [local go_sem] zg zj zC zA yM xh xg xe xd xx xy xk xj xq xB xw
def seven:jp:={ xK with number:=7,name:=⟨#[65,110,110]⟩,subject:=⟨#[82,101,58,32,116,101,97]⟩,bytes:=120 }
theorem xVi (ρ:Operand->Value)(d e c b a)(ty:TypeId)(pos af gd w):
  Sem.run prog (execOp ρ ⟨d,.build 70 #[(0,e),(2,c),(4,b),(6,a)],ty,pos,af,gd⟩) w=zl prog 70 w #[(0,ρ e),(2,ρ c),(4,ρ b),(6,ρ a)]:=by kernel_rfl
theorem xVj (ρ:Operand->Value)(d a)(ty:TypeId)(pos af gd w):
  Sem.run prog (execOp ρ ⟨d,.build 70 #[(0,a)],ty,pos,af,gd⟩) w=zl prog 70 w #[(0,ρ a)]:=by kernel_rfl
theorem yG4 (w):zl prog 70 w #[(0,.int .i64 7),(2,.string ⟨#[65,110,110]⟩),(4,.string ⟨#[82,101,58,32,116,101,97]⟩),(6,.int .i64 120)]=.ok (.value (.agg (x9 seven))) w:=by kernel_rfl
theorem yG3 (w):zl prog 70 w #[(0,.int .i64 3)]=.ok (.value (.agg (x9 three))) w:=by kernel_rfl
attribute [local go_sem ↓] xVi xVj
attribute [local go_sem] yG4 yG3
theorem xZi (w):Calls prog 72 #[] w λr w'=>r=.returned (.pointer (some ⟨w.heap.size+1,0,none⟩))/\(w.alloc (.map #[] 0)).alloc (.cells #[.map (some w.heap.size),.int .i64 0] 129)=w':=by
 have a:=@run_makeMap prog;go_enter func72,ntmps72;go_wp2;go_ret;exact⟨rfl,rfl⟩
end
section
attribute [local go_sem ↓] xP xI yp y8 ym yw
attribute [local go_sem] zg zj zC zA yM xh xg xe xd xx xy xk xj xq xB xw
structure qx where
 number:Int
 id:Id32
 name:ByteArray
 date:Int
 subject:ByteArray
 ids:List Id32
 bytes:Int
structure ML where
 p:qx
 v:Value
def ML.g (m:ML):jp:=⟨m.p.number,m.p.id,m.p.name,m.p.date,m.p.subject,m.v,m.p.bytes⟩
instance:Inhabited ML:=⟨⟨⟨0,default,⟨#[]⟩,0,⟨#[]⟩,[],0⟩,.slice none 0 0⟩⟩
def yy (ms:List ML):List Value:=ms.flatMap λm=>xL m.g
theorem qQ (ms):(yy ms).length=ms.length*38:=by
 induction ms with
 |nil=>rfl
 |cons m ms ih=>simp[yy,yr]at ih⊢;omega
theorem xEv:∀(ms:List ML) (j i:Nat) (b:j<ms.length),i<38->(yy ms)[j*38+i]?=(xL ms[j].g)[i]?
 |m :: ms,0,i,_,a=>by
  show ((xL m.g)++yy ms)[0*38+i]?=_
  rw[az_,m0,I3 (by rw[yr];exact a)];rfl
 |m :: ms,j+1,i,b,a=>by
  show ((xL m.g)++yy ms)[(j+1)*38+i]?=_
  rw[M1 (by rw[yr];omega),yr,show (j+1)*38+i-38=j*38+i by omega];exact xEv ms j i (by simpa using b) a
structure zp (B:Nat)(w:World)(v:Value)(ms:List ML):Prop where
 row:w.ownsRow B 70 38 v ms.length (yy ms)
 refs:∀m∈ms,yJ B w m.v m.p.ids
theorem zp.head {B w v ms}(h:zp B w v ms):(v=.slice none 0 0/\ms=[])\/∃g cap,v=.slice (some ⟨g,0,none⟩) ms.length cap/\B<=g/\g<w.heap.size/\ms.length<=cap/\cap<=maxLen /\
  ∀j (a:j<ms.length) i u,(xL ms[j].g)[i]?=some u->w.cell? ⟨g,j*38+i,none⟩=some u:=by
 rcases h.row.2 with⟨rfl,l⟩|⟨g,cap,cur,rfl,d,k,f,e,n,m⟩
 ·grind
 ·refine .inr ⟨g,cap,rfl,d,(i_ k).1,f,e,λj a i u b=>?_⟩;have c:i<38:=by grind [List.getElem?_eq_some_iff.1,yr]
  have:=ae_ h.row (g:=g) rfl (j*38+i) u (by rw[xEv ms j i a c];exact b)
  rwa [l8,m0]at this
theorem jv {w g off l}(h:∀i u,(xL l)[i]?=some u->w.cell? ⟨g,off+i,none⟩=some u):xp w ⟨g,off,none⟩ 38=true/\xo w ⟨g,off,none⟩ 38=x9 l:=by
 have:=yl (w:=w) (a:=⟨g,off,none⟩) (cs:=xL l) (λj v b=>by rw[l8];exact h j v b);rw[yr]at this;exact this
theorem kz (a w):Calls prog 104 #[.int .i64 a] w λr w'=>r=.returned (.bool false)/\w=w':=by
 have h:((a:Int) != a)=false:=by simp
 go_enter func104,ntmps104;go_wp2;go_ret;exact⟨rfl,rfl⟩
def cmpZ (a b:Int):Int:=if a<b then -1 else if b<a then 1 else 0
theorem xYh (a b w):Calls prog 67 #[.int .i64 a,.int .i64 b] w λr w'=>r=.returned (.int .i64 (cmpZ a b))/\w=w':=by
 unfold cmpZ;by_cases h1:a<b
 ·rw[if_pos h1];go_enter func67,ntmps67;go_wp2_with fail;refine(kz a w).mono ?_;rintro r w' ⟨rfl,rfl⟩;go_wp2_with fail;refine(kz b w).mono ?_;rintro r w' ⟨rfl,rfl⟩;go_wp2;go_ret;exact⟨rfl,rfl⟩
 ·rw[if_neg h1];by_cases h2:b<a
  ·rw[if_pos h2];go_enter func67,ntmps67;go_wp2_with fail;refine(kz a w).mono ?_;rintro r w' ⟨rfl,rfl⟩;go_wp2_with fail;refine(kz b w).mono ?_;rintro r w' ⟨rfl,rfl⟩;go_wp2;go_ret;exact⟨rfl,rfl⟩
  ·rw[if_neg h2];go_enter func67,ntmps67;go_wp2_with fail;refine(kz a w).mono ?_;rintro r w' ⟨rfl,rfl⟩;go_wp2_with fail;refine(kz b w).mono ?_;rintro r w' ⟨rfl,rfl⟩;go_wp2;go_ret;exact⟨rfl,rfl⟩
theorem xJn (g n w):Calls prog 66 #[.agg (x9 g),.int .i64 n] w λr w'=>r=.returned (.int .i64 (cmpZ g.number n))/\w.alloc (.cells (x9 g) 70)=w':=by
 have a:(w.alloc (.cells (x9 g) 70)).cell? ⟨w.heap.size,0,none⟩=some (.int .i64 g.number):=by simp[yD,lc0]
 go_enter func66,ntmps66;go_wp2_with fail;refine(xYh g.number n _).mono ?_;rintro r w' ⟨rfl,rfl⟩;go_wp2;go_ret;exact⟨rfl,rfl⟩
def nums (ms:List ML):List Int:=ms.map (·.p.number)
def uU (ms:List ML)(n:Int):Bool:=(nums ms).contains n
theorem yV (ms):(nums ms).length=ms.length:=by simp[nums]
def uM (ns:List Int)(n:Int)(i j:Nat):Prop:=i<=j/\j<=ns.length/\(∀k (h:k<ns.length),k<i->ns[k]<n)/\(∀k (h:k<ns.length),j<=k->n<=ns[k])
theorem xYq {ns n i j k}(hs:ns.Pairwise (· < ·))(h:uM ns n i j)(c:k<ns.length)(f:i<=k)(e:k<j)(d:ns[k]<n):uM ns n (k+1) j:=by
 obtain⟨h1,h2,h3,h4⟩:=h;refine⟨by omega,h2,λm b a=>?_,h4⟩;grind [Int.lt_trans,List.pairwise_iff_getElem.1]
theorem xSd {ns n i j k}(hs:ns.Pairwise (· < ·))(h:uM ns n i j)(d:k<ns.length)(a:i<=k)(f:k<j)(e:¬ ns[k]<n):uM ns n i k:=by
 obtain⟨h1,h2,h3,h4⟩:=h;refine⟨a,by omega,h3,λm c b=>?_⟩;grind [List.pairwise_iff_getElem.1]
theorem xPd {a b}:(cmpZ a b==0)=decide (a=b):=by grind [cmpZ]
theorem xJs {ns n i}(hs:ns.Pairwise (· < ·))(h:uM ns n i i):ns.contains n=if h:i<ns.length then (cmpZ ns[i] n==0)else false:=by
 obtain⟨h1,h2,h3,h4⟩:=h;grind [List.contains_iff_mem,List.mem_iff_getElem.1,xPd,List.pairwise_iff_getElem.1,List.getElem_mem]
theorem xW1 (B v ms n w)(h:zp B w v ms)(N:ms.length<=65536)(hs:(nums ms).Pairwise (· < ·)):
  Calls prog 65 #[v,.int .i64 n,.func (.func 66) #[] #[]] w λr w'=>∃i:Nat,uM (nums ms) n i i/\r=.returned (.tuple #[.int .i64 i,.bool (uU ms n)])/\Below w.heap.size w w':=by
 rcases h.head with⟨rfl,rfl⟩|⟨g,cap,rfl,S,H,P,O,I⟩
 ·go_enter func65,ntmps65;go_wp2;go_loop [9,10] (λa b=>a=.int .i64 0/\b=.int .i64 0) (λ_ _=>0)
  case atStart=>exact⟨rfl,rfl⟩
  case round=>
   obtain⟨rfl,rfl⟩:=hrel;go_wp2;go_ret2;exact⟨0,⟨w_ _,n3 _,λk h=>absurd h (by simp[nums]),λk h=>absurd h (by simp[nums])⟩,rfl,z_ _ _⟩
 ·have J:=h_ I;have HS:=h_ hs;clear I hs h;go_enter func65,ntmps65;go_wp2;go_loopw [9,10,11] (λa b _ wr=>∃i j:Nat,a=.int .i64 i/\b=.int .i64 j/\Hid (uM (nums ms) n i j)/\Below w.heap.size w wr) (λa b _ _=>(intOf b).toNat-(intOf a).toNat)
  case atStart=>exact⟨0,ms.length,rfl,rfl,h_ ⟨n3 _,by rw[yV];exact w_ _,λk h F=>absurd F (aY_ _),λk h F=>absurd h (by rw[yV];omega)⟩,z_ _ _⟩
  case round=>
   obtain⟨i,j,rfl,rfl,m,q⟩:=hrel;obtain⟨L,K,_,_⟩:=m.out;rw[yV]at K;by_cases hlt:i<j
   ·have R:(i:Int)<(j:Int):=by omega
    have d:(i+j)/2<ms.length:=by omega
    obtain⟨o1,d1⟩:=jv (w:=wr) (g:=g) (off:=(i+j)/2*38) (l:=ms[(i+j)/2].g) (λk u x=>(q.cell (p:=⟨g,(i+j)/2*38+k,none⟩) H).trans (J.out _ d k u x));have c:=xJn ms[(i+j)/2].g n wr;have s:ms[(i+j)/2].g.number=(nums ms)[(i+j)/2]'(by rw[yV];exact d):=by simp[ML.g,nums]
    have o:Below w.heap.size w (wr.alloc (.cells (x9 ms[(i+j)/2].g) 70)):=by grind
    have e:=h_ o;clear q o;rw[s]at c;clear s;generalize ms[(i+j)/2].g=l at c o1 d1 e;have f:=h_ c;clear c;by_cases hc:(nums ms)[(i+j)/2]'(by rw[yV];exact d)<n
    ·have A:Hid (uM (nums ms) n ((i+j)/2+1) j):=h_ (xYq HS.out m.out (by rw[yV];exact d) (by omega) (by omega) hc);have C:cmpZ ((nums ms)[(i+j)/2]'(by rw[yV];exact d)) n=-1:=by grind [cmpZ]
     rw[C]at f;clear C hc;go_wp2_with fail;refine f.mono ?_;rintro r w' ⟨rfl,rfl⟩;go_wp2;go_roundw
     case rel=>exact⟨(i+j)/2+1,j,by have:(((i+j)/2+1:Nat):Int)=((i:Int)+j)/2+1:=(by omega);rw[this],rfl,A,e.out⟩
     case measure=>simp[intOf];omega
    ·have A:Hid (uM (nums ms) n i ((i+j)/2)):=h_ (xSd HS.out m.out (by rw[yV];exact d) (by omega) (by omega) hc);obtain⟨z,E,Q⟩:∃z,z=cmpZ ((nums ms)[(i+j)/2]'(by rw[yV];exact d)) n/\0<=z:=⟨_,rfl,by unfold cmpZ;rw[if_neg hc];split <;> omega⟩;rw[<-E]at f;clear E hc;go_wp2_with fail;refine f.mono ?_;rintro r w' ⟨rfl,rfl⟩;have D:¬ z<0:=by omega
     go_wp2;go_roundw
     case rel=>exact⟨i,(i+j)/2,rfl,by have:(((i+j)/2:Nat):Int)=((i:Int)+j)/2:=(by omega);rw[this],A,e.out⟩
     case measure=>simp[intOf];omega
   ·obtain rfl:j=i:=by omega
    have y:Hid (uU ms n=_):=h_ (xJs HS.out m.out);by_cases hin:j<ms.length
    ·have M:(j:Int)<(ms.length:Int):=by omega
     obtain⟨o1,d1⟩:=jv (w:=wr) (g:=g) (off:=j*38) (l:=ms[j].g) (λk u x=>(q.cell (p:=⟨g,j*38+k,none⟩) H).trans (J.out _ hin k u x));have c:=xJn ms[j].g n wr;have s:ms[j].g.number=(nums ms)[j]'(by rw[yV];exact hin):=by simp[ML.g,nums]
     have o:Below w.heap.size w (wr.alloc (.cells (x9 ms[j].g) 70)):=by grind
     have e:=h_ o;have G:uU ms n=(cmpZ ((nums ms)[j]'(by rw[yV];exact hin)) n==0):=by grind
     clear q o y;rw[s]at c;clear s;have t:=h_ G;clear G;generalize ms[j].g=l at c o1 d1 e;generalize cmpZ ((nums ms)[j]'(by rw[yV];exact hin)) n=z at c t;have f:=h_ c;clear c;go_wp2_with fail;refine f.mono ?_;rintro r w' ⟨rfl,rfl⟩;go_wp2;go_ret2;exact⟨j,m.out,by rw[t.out];first|rfl|simp,e.out⟩
    ·have M:decide ((j:Int)<(ms.length:Int))=false:=by simp;omega
     have t:Hid (uU ms n=false):=h_ (by rw[y.out,dif_neg (by rw[yV];exact hin)]);clear y;go_wp2;go_ret2;exact⟨j,m.out,by rw[t.out];first|rfl|simp,q⟩
theorem xF6 (B v ms n w)(h:zp B w v ms)(c:ms.length<=65536)(hs:(nums ms).Pairwise (· < ·)):
  Calls prog 41 #[v,.int .i64 n] w λr w'=>∃i:Nat,uM (nums ms) n i i/\r=.returned (.tuple #[.int .i64 i,.bool (uU ms n)])/\Below w.heap.size w w':=by
 have b:=h_ (xW1 B v ms n w h c hs);clear h hs;go_enter func41,ntmps41;go_wp2_with fail;refine b.mono ?_;rintro r w' ⟨i,a,rfl,d⟩;have e:=h_ a;clear a b;go_wp2;go_ret2;exact⟨i,e.out,rfl,d⟩
end
structure KE (K:Type) where
 k:K
 v:Value
 b:Nat
def enE {K:Type}(ek:K->Value)(e:KE K):MapEntry:={ key:=ek e.k,val:=e.v,born:=e.b }
def yG {K:Type}[DecidableEq K](k:K):List (KE K)->Nat->Option (Nat×Value)
 |[],_=>none
 |e :: es,i=>if k=e.k then some (i,e.v)else yG k es (i+1)
def xV {K:Type}(ek:K->Value)(w:World)(M:Nat)(l:List (KE K))(c:Nat):Prop:=w.heap[M]?=some (.map (l.map (enE ek)).toArray c)
theorem xV.lt {K:Type}{ek:K->Value}{w:World}{M:Nat}{l:List (KE K)}{c:Nat}(h:xV ek w M l c):M<w.heap.size:=(i_ h).1
structure xH5 {K:Type}[DecidableEq K](kt:TypeId)(ek:K->Value):Prop where
 check:∀(e:Bool) (k:K) (w:World),(Instr.checkKey e 10000 kt (ek k)).run prog w=.ok () w
 find:∀(k:K) (l:List (KE K)) (w:World),(Instr.findKey kt (ek k) (l.map (enE ek))).run prog w=.ok (yG k l 0) w
 bits:∀k:K,Instr.sameBits 10000 (ek k) (ek k)=true
abbrev ekS (s:ByteArray):Value:=.string s
abbrev ekI (x:Id32):Value:=.agg (xl x).toArray
theorem xJc (k:ByteArray):∀(l:List (KE ByteArray)) (i:Nat),Instr.findNow .string (.string k) (l.map (enE ekS)) i=some (yG k l i)
 |[],i=>rfl
 |e :: l,i=>by
  rw[t8];unfold Instr.findNow yG;simp only[enE,Instr.sameNow];by_cases h:k=e.k
  ·rw[(by_ k e.k).2 h,if_pos h]
  ·have a:(k==e.k)=false:=by
    cases hx:(k==e.k) with
    |false=>rfl
    |true=>exact absurd ((by_ k e.k).1 hx) h
   rw[a,if_neg h];exact xJc k l (i+1)
theorem keyS:xH5 9 ekS where
 check e k w:=MapKept.run_checkKey (k:=.string k) underlying9 (by simp[MapKept.IsKey]) e 9999
 find k l w:=by
  unfold Instr.findKey;simp[xJc]
 bits k:=by
  unfold Instr.sameBits;exact(by_ k k).2 rfl
theorem eq_id (x y:Id32)(w:World):(Op.equal 42 (ekI x) (ekI y)).run prog w=.ok (decide (x=y)) w:=xE7 x y w
theorem xEx (k:Id32)(w:World):∀(l:List (KE Id32)) (i:Nat),(Instr.findAsking 42 (ekI k) (l.map (enE ekI)) i).run prog w=.ok (yG k l i) w
 |[],i=>rfl
 |e :: l,i=>by
  rw[t8];unfold Instr.findAsking yG;rw[G9];have:(enE ekI e).key=ekI e.k:=rfl;rw[this,eq_id];simp only[t2];by_cases h:k=e.k
  ·rw[decide_eq_true h,if_pos h];rfl
  ·rw[decide_eq_false h,if_neg h];exact xEx k w l (i+1)
theorem xYj (e:Bool)(v:Value)(w:World):(Instr.checkKey e 9999 5 v).run prog w=.ok () w:=by
 unfold Instr.checkKey;simp
theorem xTo:∀(l:List UInt8),((l.map λb=>Value.int .u8 b.toNat).zip (l.map λb=>Value.int .u8 b.toNat)).all (λ(x,y)=>Instr.sameBits 9999 x y)=true
 |[]=>rfl
 |b :: l=>by
  simp only[t8,List.zip_cons_cons,cg_,xTo l,Bool.and_true];unfold Instr.sameBits;simp
theorem keyI:xH5 42 ekI where
 check e k w:=by
  unfold Instr.checkKey;rw[G9,run_underlying underlying42];simp only[t2];simp only[bf_,Std.Legacy.Range.size,cm_,Nat.add_one_sub_one,Nat.div_one];have each:∀j∈List.range' 0 32,j<32:=λj hj=>by grind
  generalize List.range' 0 32=is at each⊢;induction is with
  |nil=>rfl
  |cons j is ih=>
   have hj:=each j (by simp);have hp:(part 5 (xl k).toArray j).run prog w=.ok (.int .u8 (k.1[j]'(by rw[k.2];exact hj)).toNat) w:=by
    unfold part;rw[G9,isAgg5];simp only[t2];rw[l7,xI4 k j hj];rfl
   have hs:=sizeOf5 w;simp only[List.forIn_cons,G9,hs,ai_,hp,xYj,t2,ay_];have:=ih (λy hy=>each y (by simp[hy]));simp only[G9]at this;exact this
 find k l w:=by
  unfold Instr.findKey;rw[G9,run_underlying underlying42];simp only[t2];cases l with
  |nil=>rfl
  |cons e l=>
   have:Instr.findNow (.array 32 5) (ekI k) ((e :: l).map (enE ekI)) 0=none:=rfl;grind [xEx]
 bits k:=by
  unfold Instr.sameBits;simp only[beq_self_eq_true,Bool.true_and];exact xTo k.1
theorem xGb {α β:Type}(f:α->β):∀(l:List α) (i:Nat),(l.map f).eraseIdx i=(l.eraseIdx i).map f
 |[],_=>rfl
 |_ :: _,0=>rfl
 |a :: l,i+1=>by simp only[t8,aU_,xGb f l i]
section
variable {K:Type} [DecidableEq K] {ek:K->Value} {kt:TypeId} {mt et:TypeId}
omit [DecidableEq K] in
theorem kN {w:World}{M:Nat}{l:List (KE K)}{c:Nat}(h:xV ek w M l c):(getObj M).run prog w=.ok (.map (l.map (enE ek)).toArray c) w:=MapKept.run_getObj_map h
theorem xGc (a:xH5 kt ek)(d:prog.underlying mt=some (.map kt et))(z:Value)(b:∀w,(zeroValue et).run prog w=.ok z w)(w:World)(M:Nat)(l:List (KE K))(c:Nat)(h:xV ek w M l c)(k:K):
  (Instr.lookup mt (.map (some M)) (ek k) false).run prog w=.ok (((yG k l 0).map (·.2)).getD z) w:=by
 unfold Instr.lookup;rw[G9,run_underlying d];simp only[t2,G9,kN h,a.check,a.find,ay_];cases yG k l 0 with
 |none=>simp only[G9,b,t2,ay_];rfl
 |some x=>rfl
theorem xDz (a:xH5 kt ek)(d:prog.underlying mt=some (.map kt et))(z:Value)(b:∀w,(zeroValue et).run prog w=.ok z w)(w:World)(M:Nat)(l:List (KE K))(c:Nat)(h:xV ek w M l c)(k:K):
  (Instr.lookup mt (.map (some M)) (ek k) true).run prog w=.ok (.tuple #[((yG k l 0).map (·.2)).getD z,.bool (yG k l 0).isSome]) w:=by
 unfold Instr.lookup;rw[G9,run_underlying d];simp only[t2,G9,kN h,a.check,a.find,ay_];cases yG k l 0 with
 |none=>simp only[G9,b,t2,ay_];rfl
 |some x=>rfl
theorem xK8 (a:xH5 kt ek)(d:prog.underlying mt=some (.map kt et))(w:World)(M:Nat)(l:List (KE K))(c:Nat)(h:xV ek w M l c)(k:K)(v:Value)(b:yG k l 0=none):
  (Instr.mapUpdate mt (.map (some M)) (ek k) v).run prog w=.ok () (w.putObj M (.map ((l++[(⟨k,v,c⟩:KE K)]).map (enE ek)).toArray (c+1))):=by
 unfold Instr.mapUpdate;rw[G9,run_underlying d];simp only[t2,G9,kN h,a.check,a.find,b];rw[bz_ _ h];simp[World.putObj,enE]
theorem xS3 (a:xH5 kt ek)(b:prog.underlying mt=some (.map kt et))(ty:TypeId)(w:World)(M:Nat)(l:List (KE K))(c:Nat)(h:xV ek w M l c)(k:K)(i:Nat)(v:Value)(e:yG k l 0=some (i,v))(d:i<l.length):
  (Builtin.delete_ #[mt,kt] ty #[.map (some M),ek k]).run prog w=.ok (.tuple #[]) (w.putObj M (.map ((l.eraseIdx i).map (enE ek)).toArray c)):=by
 unfold Builtin.delete_;simp only[v_];rw[G9,run_underlying b];simp only[t2,G9,kN h,a.check,a.find,e];rw[bz_ _ h];have f:(l.map (enE ek)).eraseIdx i=(l.eraseIdx i).map (enE ek):=xGb (enE ek) l i;simp[World.putObj,Array.eraseIdxIfInBounds,d,f]
end
theorem xV.put {K:Type}{ek:K->Value}{w:World}{M:Nat}{l l':List (KE K)}{c c':Nat}(h:xV ek w M l c):xV ek (w.putObj M (.map (l'.map (enE ek)).toArray c')) M l' c':=aX_ h.lt
section
attribute [local go_sem ↓] xP xI yp y8 ym yw
attribute [local go_sem] zg zj zC zA yM xh xg xe xd xx xy xk xj xq xB xw
structure MG where
 name:ByteArray
 born:Nat
 gb:Nat
 nb:Nat
 v:Value
 ms:List ML
 nl:List (KE Id32)
 nc:Nat
def pErr (p:qx):Int:=xGd (ML.g ⟨p,.slice none 0 0⟩) p.ids
structure ui (B:Nat)(w:World)(G:MG):Prop where
 blk:w.heap[G.gb]?=some (.cells #[G.v,.map (some G.nb)] 176 (0,0))
 lines:zp B w G.v G.ms
 nums:xV ekI w G.nb G.nl G.nc
 agree:(G.nl.map λe=>(e.k,e.v)).Perm (G.ms.map λm=>(m.p.id,Value.int .i64 m.p.number))
 ids:(G.ms.map λm=>m.p.id).Nodup
 sorted:(Go.Proofs.YtdhapkeimaljfaaGreatDoor.nums G.ms).Pairwise (· < ·)
 good:∀m∈G.ms,pErr m.p=0
 named:zB G.name=0
 some':G.ms≠[]
 gbB:B<=G.gb
 nbB:B<=G.nb
def MG.e (G:MG):KE ByteArray:=⟨G.name,.pointer (some ⟨G.gb,0,none⟩),G.born⟩
def MG.foot (G:MG):List Nat:=[G.gb,G.nb]++G.v.ownBlock.toList
def total (gs:List MG):Nat:=(gs.map λG=>G.ms.length).sum
def foot (ib M:Nat)(gs:List MG):List Nat:=ib :: M :: gs.flatMap MG.foot
structure y5 (B:Nat)(w:World)(ib M:Nat)(gs:List MG)(mc:Nat):Prop where
 blk:w.heap[ib]?=some (.cells #[.map (some M),.int .i64 (total gs)] 129 (0,0))
 map:xV ekS w M (gs.map MG.e) mc
 names:(gs.map λG=>G.name).Nodup
 grps:∀G∈gs,ui B w G
 apart:(foot ib M gs).Nodup
 born:(gs.map λG=>G.born).Nodup
 young:∀G∈gs,G.born<mc
 few:total gs<=65536
 ibB:B<=ib
 MB:B<=M
def yd (gs:List MG)(s:ByteArray):Option MG:=gs.find? λG=>decide (G.name=s)
def qM (gs:List MG)(s:ByteArray):Value:=match yd gs s with|some G=>G.v|none=>.slice none 0 0
def xC (gs:List MG)(s:ByteArray):List ML:=match yd gs s with|some G=>G.ms|none=>[]
theorem yH {gs s G}(h:yd gs s=some G):G∈gs/\G.name=s:=by grind [yd,List.mem_of_find?_eq_some]
theorem xDf (s):∀(gs:List MG) (i:Nat),(yG s (gs.map MG.e) i).map (·.2)=(yd gs s).map λG=>Value.pointer (some ⟨G.gb,0,none⟩)
 |[],i=>rfl
 |G :: gs,i=>by
  unfold yd;rw[t8];unfold yG;by_cases h:s=G.name
  ·grind [MG.e]
  ·have:decide (G.name=s)=false:=by grind
   rw[aE_,this];have a:¬ s=G.e.k:=h;simp only[a,if_false];exact xDf s gs (i+1)
theorem yCz (w):(zeroValue 127).run prog w=.ok (.pointer none) w:=by kernel_rfl
theorem xSr (w):(zeroValue 3).run prog w=.ok (.int .i64 0) w:=by kernel_rfl
theorem y5.look {B w ib M mc gs}(h:y5 B w ib M gs mc)(s):
  (Instr.lookup 126 (.map (some M)) (.string s) false).run prog w=.ok (((yd gs s).map λG=>Value.pointer (some ⟨G.gb,0,none⟩)).getD (.pointer none)) w:=by
 have:=xGc keyS underlying126 (.pointer none) yCz w M _ mc h.map s;rw[xDf]at this;exact this
theorem y5.cell0 {B w ib M mc gs}(h:y5 B w ib M gs mc):w.cell? ⟨ib,0,none⟩=some (.map (some M)):=cell_of_row w ib 0 _ _ _ h.blk
theorem y5.cell1 {B w ib M mc gs}(h:y5 B w ib M gs mc):w.cell? ⟨ib,1,none⟩=some (.int .i64 (total gs)):=cell_of_row w ib 1 _ _ _ h.blk
theorem y5.lines {B w ib M mc gs}(h:y5 B w ib M gs mc)(s):zp B w (qM gs s) (xC gs s):=by
 unfold qM xC;cases hg:yd gs s with
 |none=>exact⟨D1 _ _ _ _,λm a=>by cases a⟩
 |some G=>exact(h.grps G (yH hg).1).lines
theorem vz:∀{gs:List MG} {G:MG},G∈gs->G.ms.length<=total gs
 |H :: gs,G,a=>by
  unfold total;rw[t8,List.sum_cons];rcases g8.1 a with rfl|a
  ·omega
  ·have:=vz a;grind [total]
theorem y5.len {B w ib M mc gs}(h:y5 B w ib M gs mc)(s):(xC gs s).length<=65536:=by
 unfold xC;cases hg:yd gs s with
 |none=>simp
 |some G=>exact R_ (vz (yH hg).1) h.few
theorem y5.sorted {B w ib M mc gs}(h:y5 B w ib M gs mc)(s):(nums (xC gs s)).Pairwise (· < ·):=by
 unfold xC;cases hg:yd gs s with
 |none=>exact .nil
 |some G=>exact(h.grps G (yH hg).1).sorted
theorem vJ (B ib M mc gs s w)(h:y5 B w ib M gs mc):
  Calls prog 40 #[.pointer (some ⟨ib,0,none⟩),.string s] w λr w'=>r=.returned (qM gs s)/\w=w':=by
 have d:=h.cell0;have hl:=h.look s;unfold qM;cases hg:yd gs s with
 |none=>
  rw[hg]at hl;clear h hg;go_enter func40,ntmps40;go_wp2;go_ret;exact⟨rfl,rfl⟩
 |some G=>
  rw[hg]at hl;have b:w.cell? ⟨G.gb,0,none⟩=some G.v:=cell_of_row w G.gb 0 _ _ _ (h.grps G (yH hg).1).blk;have hv:∃a n c,G.v=.slice a n c:=by
   rcases (h.grps G (yH hg).1).lines.head with⟨e,_⟩|⟨g,cap,e,_⟩
   ·exact⟨_,_,_,e⟩
   ·exact⟨_,_,_,e⟩
  obtain⟨a,n,c,hv⟩:=hv;simp only;rw[hv]at b⊢;clear h hg hv;go_enter func40,ntmps40;go_wp2;go_ret;exact⟨rfl,rfl⟩
theorem jy {B w ib M mc gs}(h:y5 B w ib M gs mc)(s):∃a c,qM gs s=.slice a (xC gs s).length c:=by
 rcases (h.lines s).head with⟨e,b⟩|⟨g,cap,e,_⟩
 ·grind
 ·exact⟨_,_,e⟩
theorem zp.keep {B:Nat}{w w':World}{v:Value}{ms:List ML}(h:zp B w v ms)(hv:∀k,v.ownBlock=some k->w'.heap[k]?=w.heap[k]?)(hr:∀m∈ms,∀k,m.v.ownBlock=some k->w'.heap[k]?=w.heap[k]?):zp B w' v ms where
 row:=by
  refine⟨h.row.1,?_⟩;rcases h.row.2 with h0|⟨g,cap,cur,e,hg,aw,hx⟩
  ·exact .inl h0
  ·exact .inr ⟨g,cap,cur,e,hg,(hv g (by rw[e];rfl)).trans aw,hx⟩
 refs m hm:=(h.refs m hm).block (hr m hm)
theorem zp.below {B w w' v ms}(h:zp B w v ms)(b:Below w.heap.size w w'):zp B w' v ms:=
 h.keep (λk a=>b.block k (s5 h.row k a).2) (λm c k a=>b.block k ((h.refs m c).lt a).2)
theorem ui.keep {B:Nat}{w w':World}{G:MG}(h:ui B w G)(hf:∀k∈G.foot,w'.heap[k]?=w.heap[k]?)(hr:∀m∈G.ms,∀k,m.v.ownBlock=some k->w'.heap[k]?=w.heap[k]?):ui B w' G where
 blk:=(hf G.gb (by simp[MG.foot])).trans h.blk
 lines:=h.lines.keep (λk hk=>hf k (by simp[MG.foot,hk])) hr
 nums:=(hf G.nb (by simp[MG.foot])).trans h.nums
 agree:=h.agree
 ids:=h.ids
 sorted:=h.sorted
 good:=h.good
 named:=h.named
 some':=h.some'
 gbB:=h.gbB
 nbB:=h.nbB
theorem y5.keep {B:Nat}{w w':World}{ib M mc:Nat}{gs:List MG}(h:y5 B w ib M gs mc)(hf:∀k∈foot ib M gs,w'.heap[k]?=w.heap[k]?)(hr:∀G∈gs,∀m∈G.ms,∀k,m.v.ownBlock=some k->w'.heap[k]?=w.heap[k]?):y5 B w' ib M gs mc where
 blk:=(hf ib (by simp[foot])).trans h.blk
 map:=(hf M (by simp[foot])).trans h.map
 names:=h.names
 grps G hG:=(h.grps G hG).keep (λk hk=>hf k (by unfold foot;simp only[g8,aJ_];exact .inr (.inr ⟨G,hG,hk⟩))) (hr G hG)
 apart:=h.apart
 born:=h.born
 young:=h.young
 few:=h.few
 ibB:=h.ibB
 MB:=h.MB
theorem ui.foot_lt {B w G}(h:ui B w G):∀k∈G.foot,B<=k/\k<w.heap.size:=by
 intro k a;unfold MG.foot at a;simp only[m3,g8,aT_,or_false,R2]at a;rcases a with (rfl|rfl)|a
 ·exact⟨h.gbB,(i_ h.blk).1⟩
 ·exact⟨h.nbB,h.nums.lt⟩
 ·exact s5 h.lines.row k a
theorem y5.foot_lt {B w ib M mc gs}(h:y5 B w ib M gs mc):∀k∈foot ib M gs,B<=k/\k<w.heap.size:=by
 intro k a;unfold foot at a;simp only[g8,aJ_]at a;rcases a with rfl|rfl|⟨G,b,a⟩
 ·exact⟨h.ibB,(i_ h.blk).1⟩
 ·exact⟨h.MB,h.map.lt⟩
 ·exact(h.grps G b).foot_lt k a
theorem y5.below {B w w' ib M mc gs}(h:y5 B w ib M gs mc)(b:Below w.heap.size w w'):y5 B w' ib M gs mc:=
 h.keep (λk a=>b.block k (h.foot_lt k a).2) (λG d m c k a=>b.block k (((h.grps G d).lines.refs m c).lt a).2)
theorem xYr {ns:List Int}{n i j}(hs:ns.Pairwise (· < ·))(h:uM ns n j j)(c:ns[i]?=some n):j=i:=by
 obtain⟨_,h2,h3,h4⟩:=h;obtain⟨b,e⟩:=L7.1 c;rcases Nat.lt_trichotomy j i with a|a|a
 ·have d:=h4 j (by omega) (w_ _);grind [List.pairwise_iff_getElem.1]
 ·exact a
 grind
theorem xUc {ms}{i:Nat}{m}(h:ms[i]?=some m):(nums ms)[i]?=some m.p.number:=by grind [nums]
theorem yBu {ms}{i:Nat}{m n}(h:ms[i]?=some m)(a:m.p.number=n):uU ms n=true:=by
 unfold uU;rw[Y2];exact ab_ (a▸xUc h)
theorem xG1 {p}(h:pErr p=0):p.ids.length<=20:=by
 have:=(xR4 h);omega
theorem yHo (B ib M mc gs s n)(i:Nat)(m w)(h:y5 B w ib M gs mc)(b:(xC gs s)[i]?=some m)(K:m.p.number=n)(V:pErr m.p=0):
  Calls prog 279 #[.pointer (some ⟨ib,0,none⟩),.string s,.int .i64 n] w λr w'=>∃v,r=.returned (.tuple #[.agg (x9 { m.g with refs:=v }),.bool true])/\yJ w.heap.size w' v m.p.ids/\Below w.heap.size w w':=by
 have D:Below w.heap.size w (w.alloc (.cells (x9 xK) 70)):=by grind
 have a:=h.below D;have fj:=xG1 V;have q:=h_ (vJ B ib M mc gs s _ a);have z:=a.sorted s;have HS:=h_ (xF6 B (qM gs s) (xC gs s) n _ (a.lines s) (a.len s) z);rw[yBu b K]at HS;have L:=h_ (λj (o:uM (nums (xC gs s)) n j j)=>xYr z o (K▸xUc b));have G:Hid (y4 (w.alloc (.cells (x9 xK) 70)) w.heap.size xK):=h_ (heap_alloc_new _ _);have H:=h_ D;have W:=a.len s;obtain⟨t,N⟩:=L7.1 b;rcases (a.lines s).head with⟨_,e⟩|⟨g,cap,hv,KY,X,Y,dH,P⟩
 ·rw[e]at t;cases t
 have x:=P i t;rw[N]at x;have S:=h_ x;have R:=h_ ((a.lines s).refs m (ab_ b));rw[hv]at q HS;have Ub:(i:Int)<((xC gs s).length:Int):=by omega
 clear D a h P x b N z hv;generalize (xC gs s).length=len at q HS Ub W Y t;have aU:xt 38 (x9 xK)=true:=zJ rfl;have lS:((x9 xK).size==38)=true:=by rw[xO];rfl
 go_enter func279,ntmps279;go_wp2_with fail;refine q.mono ?_;rintro r w' ⟨rfl,rfl⟩;go_wp2_with fail;refine HS.mono ?_;rintro r d ⟨j,o,rfl,c⟩;obtain rfl:=L.out j o;have y:y4 d w.heap.size xK:=G.below c G.lt;obtain⟨o1,d1⟩:=jv (w:=d) (g:=g) (off:=j*38) (l:=m.g) (λk u f=>(c.cell (p:=⟨g,j*38+k,none⟩) X).trans (S.out k u f));have Q:=h_ (xEc B m.g m.p.ids d (R.below c) (by omega));have J:=h_ y;have E:=h_ (H.trans (c.mono H.size));have aL:w.heap.size<d.heap.size:=y.lt;clear y c G H HS q L o S R;go_wp2_with fail;refine Q.mono ?_;rintro r U ⟨v,rfl,A,F⟩;have Z:=A.one;have I:y4 U w.heap.size xK:=J.below F aL;have aY:=I.row;have iI:=zJ (g:={ m.g with refs:=v }) Z;have C:=h_ A;have T:=h_ I;have O:=h_ (E.trans (F.mono E.size));clear I A F Q J E;go_wp2;refine bodyPost_ret (v:=.tuple #[.agg (x9 { m.g with refs:=v }),.bool true]) ?_ rfl ⟨v,rfl,?_,xAj O.out (uV _ _ _) O.size (w_ _)⟩
 ·exact kd rfl isAgg70 sizeOf70 _ _ ⟨w.heap.size,0,none⟩ _ _ rfl rfl (T.blk.setRow.rd.1) (T.blk.setRow.rd.2)
 ·refine(C.mono (by omega)).block λk f=>(uV _ w.heap.size _).block k (C.lt f).2 ?_
  intro e;have:=(C.lt f).1;cases e;omega
theorem xFe {K:Type}[DecidableEq K]{k}:∀{l:List (KE K)} {i:Nat},(∀e∈l,e.k≠k)->yG k l i=none
 |[],_,_=>rfl
 |e :: l,i,h=>by
  unfold yG;rw[if_neg (λe'=>h e (by simp) e'.symm)];exact xFe (λe a=>h e (by simp[a]))
theorem xM9 {K:Type}[DecidableEq K]{e}:∀{l:List (KE K)} {i:Nat},e∈l->(l.map λe=>e.k).Nodup->∃j,yG e.k l i=some (i+j,e.v)/\l[j]?=some e
 |d :: l,i,f,b=>by
  unfold yG;by_cases h:e.k=d.k
  ·have a:e=d:=by grind
   subst a;exact⟨0,by rw[if_pos rfl];rfl,rfl⟩
  ·rw[if_neg h];have c:e∈l:=by grind
   rw[t8,U0]at b;obtain⟨j,h1,h2⟩:=xM9 (i:=i+1) c b.2;exact⟨j+1,by rw[h1];congr 2;omega,h2⟩
theorem ui.keys {B w G}(h:ui B w G):(G.nl.map λe=>e.k).Nodup:=by
 have h1:=h.agree.map Prod.fst;rw[T7,T7]at h1;exact h1.nodup_iff.2 h.ids
theorem ui.find_no {B w G}(h:ui B w G){x}(b:∀m∈G.ms,m.p.id≠x):yG x G.nl 0=none:=xFe λe a hx=>by
 have:(e.k,e.v)∈G.ms.map λm=>(m.p.id,Value.int .i64 m.p.number):=h.agree.subset (D4.2 ⟨e,a,rfl⟩)
 grind
theorem ui.find_yes {B w G}(h:ui B w G){m}(a:m∈G.ms):∃j,yG m.p.id G.nl 0=some (j,.int .i64 m.p.number)/\∃b,G.nl[j]?=some ⟨m.p.id,.int .i64 m.p.number,b⟩:=by
 have:(m.p.id,Value.int .i64 m.p.number)∈G.nl.map λe=>(e.k,e.v):=h.agree.symm.subset (D4.2 ⟨m,a,rfl⟩)
 obtain⟨e,c,g⟩:=D4.1 this;obtain⟨f,d⟩:=bP_ g;obtain⟨j,h1,h2⟩:=xM9 (i:=0) c h.keys;refine⟨j,?_,e.b,?_⟩
 ·grind
 ·rw[h2,<-f,<-d]
theorem vD {gs s}(h:xC gs s≠[]):∃G,yd gs s=some G/\xC gs s=G.ms/\qM gs s=G.v:=by grind [xC,qM,yd]
theorem xY6 (B ib M mc gs s x w)(h:y5 B w ib M gs mc)(e:xC gs s=[]):
  Calls prog 236 #[.pointer (some ⟨ib,0,none⟩),.string s,.agg (xl x).toArray] w λr w'=>r=.returned (.tuple #[.agg (x9 xK),.bool false])/\Below w.heap.size w w':=by
 have d:Below w.heap.size w ((w.alloc (.cells (xl x).toArray 42)).alloc (.cells (x9 xK) 70)):=by grind
 have b:=h.below d;have f:=h_ (vJ B ib M mc gs s _ b);obtain⟨a,c,hv⟩:=jy b s;rw[hv,e]at f;have g:=h_ d;have j:xt 38 (x9 xK)=true:=zJ rfl;have i:((x9 xK).size==38)=true:=by rw[xO];rfl
 clear d b h e hv;go_enter func236,ntmps236;go_wp2_with fail;refine f.mono ?_;rintro r w' ⟨rfl,rfl⟩;go_wp2;refine bodyPost_ret (v:=.tuple #[.agg (x9 xK),.bool false]) ?_ rfl ⟨rfl,g.out⟩;exact kd rfl isAgg70 sizeOf70 _ _ ⟨w.heap.size+1,0,none⟩ _ _ rfl rfl (by simpa using jN (w.alloc (.cells (xl x).toArray 42)) xK _) (by simpa using jL (w.alloc (.cells (xl x).toArray 42)) xK 70)
def xWh (ms:List ML)(x:Id32)(w:World)(r:Ending)(w':World):Prop:=
 (((∀m∈ms,m.p.id≠x)/\r=.returned (.tuple #[.agg (x9 xK),.bool false]))\/(∃m∈ms,m.p.id=x/\∃v,r=.returned (.tuple #[.agg (x9 { m.g with refs:=v }),.bool true])/\yJ w.heap.size w' v m.p.ids))/\Below w.heap.size w w'
theorem yFl (B ib M mc gs s x w)(h:y5 B w ib M gs mc)(b:xC gs s≠[]):
  Calls prog 236 #[.pointer (some ⟨ib,0,none⟩),.string s,.agg (xl x).toArray] w λr w'=>
   xWh (xC gs s) x w r w':=by
 obtain⟨G,E,z,Fr⟩:=vD b;obtain⟨W,f⟩:∃W,W=(w.alloc (.cells (xl x).toArray 42)).alloc (.cells (x9 xK) 70):=⟨_,rfl⟩;have A:Below w.heap.size w W:=by rw[f];exact((z_ _ _).alloc (w_ _) _).alloc (by simp) _
 have nu:W.heap.size=w.heap.size+2:=by rw[f];simp
 have l:=h.below A;have t:=l.grps G (yH E).1;have C:=h_ (vJ B ib M mc gs s _ l);obtain⟨a,c,hv⟩:=jy l s;rw[hv]at C;have an:=l.len s;have fT:0<(xC gs s).length:=List.length_pos_iff.2 b;have X:(((xC gs s).length:Int)==0)=false:=by rw[beq_eq_false_iff_ne];omega
 have hid:xp W ⟨w.heap.size,0,none⟩ 32=true/\xo W ⟨w.heap.size,0,none⟩ 32=(xl x).toArray:=by
  rw[f];have h1:=ju w x 42;have h2:=ku w x 42;exact⟨xD3 _ h1,(xCy _ h1).trans h2⟩
 have L:y4 W (w.heap.size+1) xK:=by
  unfold y4;have:=heap_alloc_new (w.alloc (.cells (xl x).toArray 42)) (.cells (x9 xK) 70);rw[f];simpa using this
 have V:∀n,(W.drewN n).cell? ⟨ib,0,none⟩=some (.map (some M)):=λn=>by rw[aD_];exact l.cell0
 have U:∀n,(Instr.lookup 126 (.map (some M)) (.string s) false).run prog (W.drewN n)=.ok (.pointer (some ⟨G.gb,0,none⟩)) (W.drewN n):=λn=>by
  have:=(h.below (below_drewN' A n)).look s;rw[E]at this;exact this
 have T:∀n,(W.drewN n).cell? ⟨G.gb,1,none⟩=some (.map (some G.nb)):=λn=>by rw[aD_];exact cell_of_row W G.gb 1 _ _ _ t.blk
 have D:∀n,(Instr.lookup 173 (.map (some G.nb)) (.agg (xl x).toArray) true).run prog (W.drewN n)=.ok (.tuple #[((yG x G.nl 0).map (·.2)).getD (.int .i64 0),.bool (yG x G.nl 0).isSome]) (W.drewN n):=λn=>
  xDz keyI underlying173 (.int .i64 0) xSr (W.drewN n) G.nb G.nl G.nc t.nums x
 have S:∀n,xp (W.drewN n) ⟨w.heap.size,0,none⟩ 32=true:=λn=>by rw[xe];exact hid.1
 have R:∀n,xo (W.drewN n) ⟨w.heap.size,0,none⟩ 32=(xl x).toArray:=λn=>by rw[xd];exact hid.2
 have aU:xt 38 (x9 xK)=true:=zJ rfl;have lS:((x9 xK).size==38)=true:=by rw[xO];rfl
 have P:=h_ l;have H:=h_ A;have F:=h_ L;by_cases hin:∃m∈G.ms,m.p.id=x
 ·obtain⟨m,o,rfl⟩:=hin;obtain⟨j,Z,_⟩:=t.find_yes o;rw[Z]at D;obtain⟨i,hi,Fi⟩:=bN_.1 (z▸o);have S5:(xC gs s)[i]?=some m:=by rw[U_ hi,Fi]
  have dp:=t.good m o;have aW:m∈xC gs s:=z▸o;have Uc:=h_ aW;have HI:=h_ S5;clear Z l A L hid t h z Fr hv hi Fi S5 E o aW b;generalize (xC gs s).length=len at C an fT X
  go_enter func236,ntmps236;go_wp2_with fail;rw[<-f];refine C.mono ?_;rintro r w' ⟨rfl,rfl⟩;clear f;go_wp2_with fail;go_quiet (fail);clear V U T D S R;have d:y4 (W.drewN nq) (w.heap.size+1) xK:=F.out;have q:Below w.heap.size w (W.drewN nq):=below_drewN' H.out nq;have aL:(W.drewN nq).heap.size=w.heap.size+2:=nu;have J:y5 B (W.drewN nq) ib M gs mc:=P.below (below_drewN' (z_ _ _) nq);generalize W.drewN nq=W1 at d q J aL⊢;have HG:=h_ (yHo B ib M mc gs s m.p.number i m W1 J HI.out rfl dp);have y:=h_ d;have u:=h_ q;clear d q J F H P HI;go_wp2_with fail;refine HG.mono ?_;rintro r W2 ⟨v,rfl,I,O⟩;have bG:=I.one;have Q:y4 W2 (w.heap.size+1) xK:=y.below O (by omega);have aY:=Q.row;have iI:=zJ (g:={ m.g with refs:=v }) bG;have K:=h_ I;have CX:=h_ Q;have ax:=h_ (u.trans (O.mono u.size));clear Q I O HG y u;go_wp2;refine bodyPost_ret (v:=.tuple #[.agg (x9 { m.g with refs:=v }),.bool true]) ?_ rfl ⟨.inr ⟨m,Uc.out,rfl,v,rfl,?_⟩,xAj ax.out (uV _ _ _) ax.size (by omega)⟩
  ·exact kd rfl isAgg70 sizeOf70 _ _ ⟨w.heap.size+1,0,none⟩ _ _ rfl rfl (CX.blk.setRow.rd.1) (CX.blk.setRow.rd.2)
  ·refine(K.mono (by omega)).block λk Y=>(uV _ (w.heap.size+1) _).block k (K.lt Y).2 ?_
   intro e;have:=(K.lt Y).1;cases e;omega
 ·have N:∀m∈G.ms,m.p.id≠x:=λm o e=>hin ⟨m,o,e⟩
  rw[t.find_no N]at D;have Ig:=h_ (z.symm▸N);clear hin N l A L hid t h z Fr hv E b;generalize (xC gs s).length=len at C an fT X;go_enter func236,ntmps236;go_wp2_with fail;rw[<-f];refine C.mono ?_;rintro r w' ⟨rfl,rfl⟩;clear f;go_wp2_with fail;go_quiet (fail);clear V U T D S R;have d:y4 (W.drewN nq) (w.heap.size+1) xK:=F.out;have q:Below w.heap.size w (W.drewN nq):=below_drewN' H.out nq;generalize W.drewN nq=W1 at d q⊢;have aY:=d.row;have y:=h_ d;have u:=h_ q;clear d q F H P;go_wp2;refine bodyPost_ret (v:=.tuple #[.agg (x9 xK),.bool false]) ?_ rfl ⟨.inl ⟨Ig.out,rfl⟩,xAj u.out (uV _ _ _) u.size (by omega)⟩;exact kd rfl isAgg70 sizeOf70 _ _ ⟨w.heap.size+1,0,none⟩ _ _ rfl rfl (y.blk.setRow.rd.1) (y.blk.setRow.rd.2)
end
theorem jz (w)(ty:TypeId)(g o dLen dCap a sLen sCap cur)(t:TypeId)(cs)
  (e:w.heap[g]?=some (.cells cur t (0,0))) (d:cs.length=Nat.min sLen dLen*38)
  (h:∀j v,cs[j]?=some v->w.cell? (a.add j)=some v) (f:o+cs.length<=cur.size) (h1:∀v∈cs,v.oneCell'=true):
  (Builtin.copy_ #[132,132] ty #[.slice (some ⟨g,o,none⟩) dLen dCap,.slice (some a) sLen sCap]).run prog w =
   .ok (goInt (Nat.min sLen dLen)) (w.setRow g (cur.toList.take o++cs++cur.toList.drop (o+cs.length)).toArray):=by
 have hl:=run_loadCells_list (P:=prog) w a cs h;have b:=run_storeCells_at prog g o t cs 0 cur w e (by simpa using f) h1;have c:=sizeOf70 w;rw[d]at hl;simp[Builtin.copy_,run_underlying underlying132,Builtin.lenOf,Builtin.firstCells,c,hl,b]
theorem xTg {w:World}{g t cur fr}(h:w.heap[g]?=some (.cells cur t fr)):w.shape? g=some (t,cur.size):=by grind [World.shape?]
theorem yB0 (cur:List Value)(i n cap xs vs)(b:cur.length=cap*38)(hx:cur.take (n*38)=xs)(a:i<n)(hroom:n+1<=cap):
  (((cur.take ((i+1)*38)++xs.drop (i*38)++cur.drop ((n+1)*38)).take (i*38))++vs++(cur.take ((i+1)*38)++xs.drop (i*38)++cur.drop ((n+1)*38)).drop ((i+1)*38))=xs.take (i*38)++vs++xs.drop (i*38)++cur.drop ((n+1)*38):=by
 have h1:(cur.take ((i+1)*38)).length=(i+1)*38:=by grind
 rw[B8 (cur.take ((i+1)*38)),List.take_append_of_le_length (by rw[h1];omega),List.take_take,aL_ (by omega),List.drop_append_of_le_length (by rw[h1];omega),M0 (by rw[h1];omega),E8];have h2:xs.take (i*38)=cur.take (i*38):=by grind
 rw[h2];simp[B8]
theorem xRb (B g cap n i sb xs l w)(Q:xA2 l)(s:∀u∈xs,u.oneCell'=true)(f:w.ownsRow B 70 38 (.slice (some ⟨g,0,none⟩) n cap) n xs)(S:n<=65536)(T:i<n)(hroom:n+1<=cap)
  (d:w.heap[sb]?=some (.cells (x9 l) 70 (0,0))) (k:sb≠g):
  Calls prog 237 #[.slice (some ⟨g,0,none⟩) n cap,.int .i64 i,.slice (some ⟨sb,0,none⟩) 1 1] w λr w'=>∃v',r=.returned v'/\w'.ownsRow B 70 38 v' (n+1) (xs.take (i*38)++xL l++xs.drop (i*38))/\w.grownBy w' (some g)/\(v'.ownBlock=some g\/v'.ownBlock=some w.heap.size):=by
 rcases f.2 with⟨e,_⟩|⟨g',cap',cur,e,R,o,U,P,q,O⟩
 ·cases e
 cases e
 have h:=f.1;unfold maxLen at P;have I:=yr l;have C:∀lb cb,(callFunc 280 #[.slice (some ⟨sb,0,none⟩) 1 1,.slice (some ⟨g,(i+1)*38,none⟩) lb cb]).run prog w=.ok (.value (.bool false)) w:=λlb cb=>by
  rw[run_callFunc_extern func280 (by kernel_rfl) (by kernel_rfl) (by kernel_rfl) (e:=Extern.SlicesOverlaps.overlaps #[132,132] #[4]) (by kernel_rfl),
   Lib.run_overlaps_apart w 132 4 70 underlying132 38 sizeOf70 ⟨sb,0,none⟩ ⟨g,(i+1)*38,none⟩ 1 1 lb cb k _ _ _ _ (xTg d) (xTg o) (by rw[q];omega) (frozen_of_row w sb 0 _ _ d) (frozen_of_row w sb _ _ _ d)]
  rfl
 go_enter func237,ntmps237;have L:((i:Int)==(n:Int))=false:=by grind
 have W:(i:Int)<=(n:Int):=by omega
 have V:¬ (cap:Int)<(n:Int)+1:=by omega
 have X:¬ cap=i:=by omega
 have t:¬ cap=i+1:=by omega
 go_wp2_with (simp only[C]);clear C;have H:∀ty dc sc,(Builtin.copy_ #[132,132] ty #[.slice (some ⟨g,(i+1)*38,none⟩) (n-i) dc,.slice (some ⟨g,i*38,none⟩) (n+1-i) sc]).run prog w.drew=.ok (goInt (Nat.min (n+1-i) (n-i))) (w.drew.setRow g (cur.toList.take ((i+1)*38)++xs.drop (i*38)++cur.toList.drop ((n+1)*38)).toArray):=λty dc sc=>by
  have h1:(xs.drop (i*38)).length=(n-i)*38:=by grind
  have:=jz w.drew ty g ((i+1)*38) (n-i) dc ⟨g,i*38,none⟩ (n+1-i) sc cur 70 (xs.drop (i*38)) o (by rw[h1,show Nat.min (n+1-i) (n-i)=n-i from Nat.min_eq_right (by omega)])
   (λj u c=>by
    rw[ao_]at c;have h2:=ae_ f (g:=g) rfl (i*38+j) u c;rw[l8,m0]at h2;rw[l8,bI_];exact h2) (by rw[h1,q];have:(n+1)*38<=cap*38:=bO_ _ hroom;omega) (λu J=>s u (List.mem_of_mem_drop J))
  grind
 obtain⟨a,m⟩:∃a,a=w.drew.setRow g (cur.toList.take ((i+1)*38)++xs.drop (i*38)++cur.toList.drop ((n+1)*38)).toArray:=⟨_,rfl⟩;rw[<-m]at H;have v:w.grownBy a (some g):=by rw[m];exact xAa (b:=w.drew) ⟨rfl,rfl,rfl,w_ _,λ_ _ _=>rfl⟩ (uV w.drew g _)
 have p:a.heap[g]?=some (.cells (cur.toList.take ((i+1)*38)++xs.drop (i*38)++cur.toList.drop ((n+1)*38)).toArray 70 (0,0)):=by grind
 have A:a.heap[sb]?=some (.cells (x9 l) 70 (0,0)):=by grind
 have K:(n+1)*38<=cap*38:=by omega
 have x:(cur.toList.take ((i+1)*38)++xs.drop (i*38)++cur.toList.drop ((n+1)*38)).length=cap*38:=by grind
 have G:∀ty dc,(Builtin.copy_ #[132,132] ty #[.slice (some ⟨g,i*38,none⟩) (n+1-i) dc,.slice (some ⟨sb,0,none⟩) 1 1]).run prog a=.ok (goInt (Nat.min 1 (n+1-i))) (a.setRow g (xs.take (i*38)++xL l++xs.drop (i*38)++cur.toList.drop ((n+1)*38)).toArray):=λty dc=>by
  have:=jz a ty g (i*38) (n+1-i) dc ⟨sb,0,none⟩ 1 1 _ 70 (xL l) p (by rw[I,show Nat.min 1 (n+1-i)=1 from aL_ (by omega)])
   (λj u c=>by rw[l8,m0,cell_of_row a sb j _ _ _ A];simpa[x9]using c) (by rw[I,T9,x];omega) (uA Q)
  grind [yB0,xL,Array.length_toList]
 have y:(a.setRow g (xs.take (i*38)++xL l++xs.drop (i*38)++cur.toList.drop ((n+1)*38)).toArray).ownsRow B 70 38 (.slice (some ⟨g,0,none⟩) (n+1) cap) (n+1) (xs.take (i*38)++xL l++xs.drop (i*38)):=by
  have M:(xs.take (i*38)++xL l++xs.drop (i*38)).length=(n+1)*38:=by grind
  refine⟨M,.inr ⟨g,cap,_,rfl,R,setRow_heap a g _ _ _ _ p,hroom,by unfold maxLen;omega,?_,?_⟩⟩
  ·grind
  grind
 have D:w.grownBy (a.setRow g (xs.take (i*38)++xL l++xs.drop (i*38)++cur.toList.drop ((n+1)*38)).toArray) (some g):=xAa v (uV a g _);have F:=h_ y;have E:=h_ D;generalize N:a.setRow g (xs.take (i*38)++xL l++xs.drop (i*38)++cur.toList.drop ((n+1)*38)).toArray=W2 at G F E;clear y D N x K A p v m f s h q d o O;refine xz [0,1,2,3,4,5,6,7] [8] (λw'=>∃z:xf w,w'=z.1) ⟨⟨_,(z_ _ _).drew⟩,rfl⟩ ?_;simp only[o_]
 repeat (go_big_quiet_step (fail))
 refine wpQuiet_nil ?_;refine yE ?_;simp only[o_];refine wpList_copy_runI _ rfl (.tmp 73) (.tmp 76) 132 132 rfl _ _ rfl rfl (H _ _ _) ?_;go_wp2;refine T_ ?_;go_wp2_with (refine wpList_copy_runI _ rfl (.tmp 80) (.tmp 81) 132 132 rfl _ _ rfl rfl (G _ _) ?_);go_ret;exact⟨_,rfl,F.out,E.out,.inl rfl⟩
theorem xKc (k):(Builtin.zeroCells (Value.agg (x9 xK)).cells k).size=k*38:=by
 have h:(Value.agg (x9 xK)).cells.size=38:=xO _;simp[Builtin.zeroCells,h]
theorem yDv (xs vs Z:List Value)(i n:Nat)(b:xs.length=n*38)(hv:vs.length=38)(g:i<n):
  let a:=(xs.take (i*38)++Z).take (i*38)++vs++(xs.take (i*38)++Z).drop (i*38+38)
  a.take ((i+1)*38)++xs.drop (i*38)++a.drop ((i+1)*38+(n-i)*38)=xs.take (i*38)++vs++xs.drop (i*38)++Z.drop ((n+1-i)*38):=by
 have h1:(xs.take (i*38)).length=i*38:=by grind
 have f:(xs.take (i*38)++Z).take (i*38)=xs.take (i*38):=by grind
 have e:(xs.take (i*38)++Z).drop (i*38+38)=Z.drop 38:=by
  rw[ad_,h1,M0 (by rw[h1];omega),E8,show i*38+38-i*38=38 by omega]
 simp only;rw[f,e];have h2:(xs.take (i*38)++vs).length=(i+1)*38:=by grind
 have d:(xs.take (i*38)++vs++Z.drop 38).take ((i+1)*38)=xs.take (i*38)++vs:=by grind
 have c:(xs.take (i*38)++vs++Z.drop 38).drop ((i+1)*38+(n-i)*38)=Z.drop ((n+1-i)*38):=by
  rw[ad_,h2,M0 (by rw[h2];omega),E8,aj_];congr 1;omega
 rw[d,c]
theorem xUw (B g cap n i sb xs l w)(bG:xA2 l)(C:∀u∈xs,u.oneCell'=true)(k:w.ownsRow B 70 38 (.slice (some ⟨g,0,none⟩) n cap) n xs)(hB:B<=w.heap.size)(hn:n<=65536)(hi:i<n)(hroom:cap<n+1)
  (d_:w.heap[sb]?=some (.cells (x9 l) 70 (0,0))):
  Calls prog 237 #[.slice (some ⟨g,0,none⟩) n cap,.int .i64 i,.slice (some ⟨sb,0,none⟩) 1 1] w λr w'=>∃v',r=.returned v'/\w'.ownsRow B 70 38 v' (n+1) (xs.take (i*38)++xL l++xs.drop (i*38))/\w.grownBy w' (some g)/\(v'.ownBlock=some g\/v'.ownBlock=some w.heap.size):=by
 obtain⟨H,f,J,y,x⟩:=info_parts Tryz.info_line;rcases k.2 with⟨e,_⟩|⟨g',cap',cur,e,KY,aw,bj,dH,aB,dW⟩
 ·cases e
 cases e
 have d:=k.1;obtain rfl:cap=n:=by omega
 have T:=yr l;have U:g<w.heap.size:=by grind
 have F:(Builtin.firstCells H.size i (.slice (some ⟨g,0,none⟩) i cap)).run prog w.drew=.ok (xs.take (i*38)).toArray w.drew:=by
  rw[y];refine run_firstCells_some w.drew 38 i ⟨g,0,none⟩ i cap (xs.take (i*38)) (by rw[x8,d];omega) (λj u c=>?_);rw[List.getElem?_take]at c;split at c
  ·have h2:=ae_ k (g:=g) rfl j u c;grind [World.cell?_drew]
  ·cases c
 obtain⟨G,v⟩:∃G,G=grownCap w (cap+1) cap 70:=⟨_,rfl⟩;have K4:cap+1<=G:=by rw[v];exact grownCap_ge w _ _ _
 have P:G<=maxLen:=by rw[v];exact grownCap_le_maxLen w (cap+1) cap _ (by unfold maxLen;omega)
 obtain⟨Z,X⟩:∃Z:Array Value,Z=Builtin.zeroCells (Value.agg (x9 xK)).cells (cap+1-i)++Builtin.zeroCells (Value.agg (x9 xK)).cells (G-(cap+1)):=⟨_,rfl⟩;have s:Z.size=(G-i)*38:=by grind [Array.size_append,xKc]
 have AS:(cap:Int)+1-(i:Int)=((cap+1-i:Nat):Int):=by omega
 obtain⟨b,cJ⟩:∃b,b=w.drew.alloc (.cells ((xs.take (i*38)).toArray++Z) 70):=⟨_,rfl⟩;have S:∀ty,(Builtin.append_ #[132,3] ty #[.slice (some ⟨g,0,none⟩) i cap,.int .i64 ((cap:Int)+1-(i:Int))]).run prog w=.ok (.slice (some ⟨w.heap.size,0,none⟩) (cap+1) G) b:=λty=>by
  have h:=Lib.run_append_grow_zeros w 132 3 ty 70 H _ .i64 .i64 underlying132 underlying3 f J (some ⟨g,0,none⟩) i cap (xs.take (i*38)) F (cap+1-i) (by omega) (by rw[y];omega) (by omega) (by omega) (by rw[x];omega) (by rw[x,show i+(cap+1-i)=cap+1 by omega];exact growslice_fits (by omega) (by omega));grind
 obtain⟨N,t⟩:∃N,N=w.heap.size:=⟨_,rfl⟩;rw[<-t]at S;have Q:b.heap[N]?=some (.cells ((xs.take (i*38)).toArray++Z) 70 (0,0)):=by grind
 have aa:Below w.heap.size w b:=by grind
 have O:b.heap[sb]?=some (.cells (x9 l) 70 (0,0)):=by grind
 have q:(xs.take (i*38)).length=i*38:=by grind
 have R:((xs.take (i*38)).toArray++Z).size=G*38:=by grind
 have ZF:(cap+1)*38<=G*38:=by omega
 obtain⟨o,RW⟩:∃o:List Value,o=(xs.take (i*38)++Z.toList).take (i*38)++xL l++(xs.take (i*38)++Z.toList).drop (i*38+38):=⟨_,rfl⟩;have E:o.length=G*38:=by grind
 obtain⟨a,fU⟩:∃a,a=b.setRow N o.toArray:=⟨_,rfl⟩;have DJ:∀ty dc,(Builtin.copy_ #[132,132] ty #[.slice (some ⟨N,i*38,none⟩) (cap+1-i) dc,.slice (some ⟨sb,0,none⟩) 1 1]).run prog b=.ok (goInt (Nat.min 1 (cap+1-i))) a:=λty dc=>by
  have:=jz b ty N (i*38) (cap+1-i) dc ⟨sb,0,none⟩ 1 1 _ 70 (xL l) Q (by rw[T,show Nat.min 1 (cap+1-i)=1 from aL_ (by omega)])
   (λj u c=>by rw[l8,m0,cell_of_row b sb j _ _ _ O];simpa[x9]using c) (by rw[T,R];omega) (uA bG)
  grind
 have A:a.heap[N]?=some (.cells o.toArray 70 (0,0)):=by grind
 have M:Below w.heap.size w a:=by grind
 obtain⟨m,D⟩:∃m,m=a.drew.setRow N (xs.take (i*38)++xL l++xs.drop (i*38)++Z.toList.drop ((cap+1-i)*38)).toArray:=⟨_,rfl⟩;have DK:∀ty dc sc,(Builtin.copy_ #[132,132] ty #[.slice (some ⟨N,(i+1)*38,none⟩) (cap-i) dc,.slice (some ⟨g,i*38,none⟩) (cap-i) sc]).run prog a.drew=.ok (goInt (Nat.min (cap-i) (cap-i))) m:=λty dc sc=>by
  have h1:(xs.drop (i*38)).length=(cap-i)*38:=by grind
  have:=jz a.drew ty N ((i+1)*38) (cap-i) dc ⟨g,i*38,none⟩ (cap-i) sc _ 70 (xs.drop (i*38)) A (by rw[h1,show Nat.min (cap-i) (cap-i)=cap-i from Nat.min_self _])
   (λj u c=>by
    rw[ao_]at c;have h2:=ae_ k (g:=g) rfl (i*38+j) u c;rw[l8,m0]at h2;rw[l8,bI_,M.cell (p:=⟨g,i*38+j,none⟩) U];exact h2) (by rw[h1,T9,E];omega) (λu V=>C u (List.mem_of_mem_drop V))
  grind [yDv,xL]
 have K:m.ownsRow B 70 38 (.slice (some ⟨N,0,none⟩) (cap+1) G) (cap+1) (xs.take (i*38)++xL l++xs.drop (i*38)):=by
  have h5:(xs.take (i*38)++xL l++xs.drop (i*38)).length=(cap+1)*38:=by grind
  refine⟨h5,.inr ⟨N,G,_,rfl,by omega,by rw[D];exact setRow_heap a.drew N _ _ _ _ A,K4,P,?_,?_⟩⟩
  ·grind
  grind
 have L:Below w.heap.size w m:=by grind
 have HN:=h_ t;have HF:=h_ K;have HG:=h_ (xV0 L (some g));have W:((i:Int)==(cap:Int))=false:=by grind
 have Ud:(i:Int)<=(cap:Int):=by omega
 have AR:¬ cap=i:=by omega
 have hGi:¬ G=i:=by omega
 have I:¬ G=i+1:=by omega
 have ZG:G<=9223372036854775807:=by unfold maxLen at P;omega
 have Y:(cap:Int)+1<=(G:Int):=by omega
 clear K L D M A fU E RW R q O aa Q t cJ s X v F k C d_ aw aB dW d ZF J y x f AS;go_enter func237,ntmps237
 go_wp2_with (first
  |(at_builtin;refine bF_ _ rfl _ _ _ _ rfl _ _ rfl rfl _ _ (S _) ?_)
  |(refine wpList_copy_runI _ rfl (.tmp 43) (.tmp 44) 132 132 rfl _ _ rfl rfl (DJ _ _) ?_))
 generalize goInt ((Nat.min 1 (cap+1-i):Nat):Int)=vmin;go_simp;refine xz [0,1,2,3,4,5,6,7] [8] (λw'=>∃z:xf a,w'=z.1) ⟨⟨_,(z_ _ _).drew⟩,rfl⟩ ?_;simp only[o_]
 repeat (go_big_quiet_step (fail))
 refine wpQuiet_nil ?_;refine yE ?_;simp only[o_];refine wpList_copy_runI _ rfl (.tmp 50) (.tmp 53) 132 132 rfl _ _ rfl rfl (DK _ _ _) ?_;go_wp2;refine T_ ?_;go_wp2;go_ret;exact⟨_,rfl,HF.out,HG.out,.inr (by rw[<-HN.out];rfl)⟩
theorem xNl (B v n sb xs g)(w:World)(x:xA2 g)(e:w.ownsRow B 70 38 v n xs)(i:B<=w.heap.size)(z:n<=65536)(s:∀j u,(xL g)[j]?=some u->w.cell? ((⟨sb,0,none⟩:Addr).add j)=some u):
  Calls prog 237 #[v,.int .i64 n,.slice (some ⟨sb,0,none⟩) 1 1] w λr w'=>∃v',r=.returned v'/\w'.ownsRow B 70 38 v' (n+1) (xs++xL g)/\w.grownBy w' v.ownBlock/\(v'.ownBlock=v.ownBlock\/v'.ownBlock=some w.heap.size):=by
 obtain⟨f,h,k,m,l⟩:=info_parts Tryz.info_line;have HS:=h_ s;clear s;have p:=h_ (uA x);have a:=yr g;have o:=h_ e;rcases e.2 with⟨rfl,rfl⟩|⟨gb,cap,cur,rfl,A,E,D,t,F,C⟩
 ·clear e;go_enter func237,ntmps237;go_wp2_with (at_builtin;refine wpList_append_own_at _ rfl (.tmp 23) (.tmp 24) 132 rfl B 70 f (.agg (x9 xK)) 38 112 underlying132 h k m l (xO _) (by decide) _ _ _ rfl o.out ⟨sb,0,none⟩ 1 1 (xL g) rfl a HS.out p.out ?c3 ?c4 i ?_)
  case c3=>unfold maxLen;omega
  case c4=>omega
  intro v' q b d _ c;go_wp2;go_ret;exact⟨v',rfl,b,d,c⟩
 ·clear e;unfold maxLen at t;have heq:((n:Int)==(n:Int))=true:=by simp
  have G:(n:Int)<=(cap:Int):=by omega
  by_cases hcn:cap=n
  ·subst hcn;go_enter func237,ntmps237;go_wp2_with (at_builtin;refine wpList_append_own_at _ rfl (.tmp 23) (.tmp 24) 132 rfl B 70 f (.agg (x9 xK)) 38 112 underlying132 h k m l (xO _) (by decide) _ _ _ rfl o.out ⟨sb,0,none⟩ 1 1 (xL g) rfl a HS.out p.out (by unfold maxLen;omega) (by omega) i ?_);intro v' q b d _ c;go_wp2;go_ret;exact⟨v',rfl,b,d,c⟩
  ·have y:¬ (cap:Int)=(n:Int):=by omega
   go_enter func237,ntmps237;go_wp2_with (at_builtin;refine wpList_append_own_at _ rfl (.tmp 23) (.tmp 24) 132 rfl B 70 f (.agg (x9 xK)) 38 112 underlying132 h k m l (xO _) (by decide) _ _ _ rfl o.out ⟨sb,0,none⟩ 1 1 (xL g) rfl a HS.out p.out (by unfold maxLen;omega) (by omega) i ?_);intro v' q b d _ c;go_wp2;go_ret;exact⟨v',rfl,b,d,c⟩
theorem xXx (B v n i sb xs l)(w:World)(f:xA2 l)(k:∀u∈xs,u.oneCell'=true)(a:w.ownsRow B 70 38 v n xs)(m:B<=w.heap.size)(c:n<=65536)(q:i<=n)
  (d:w.heap[sb]?=some (.cells (x9 l) 70 (0,0))) (b:v.ownBlock≠some sb):
  Calls prog 237 #[v,.int .i64 i,.slice (some ⟨sb,0,none⟩) 1 1] w λr w'=>∃v',r=.returned v'/\w'.ownsRow B 70 38 v' (n+1) (xs.take (i*38)++xL l++xs.drop (i*38))/\w.grownBy w' v.ownBlock/\(v'.ownBlock=v.ownBlock\/v'.ownBlock=some w.heap.size):=by
 by_cases h:i=n
 ·subst h;rw[v6 (by rw[a.1];exact w_ _),M0 (by rw[a.1];exact w_ _),G5];exact xNl B v i sb xs l w f a m c (λj u o=>by rw[l8,m0,cell_of_row w sb j _ _ _ d];simpa[x9]using o)
 ·rcases a.2 with⟨_,s⟩|⟨g,cap,cur,rfl,p⟩
  ·omega
  ·by_cases hroom:n+1<=cap
   ·exact xRb B g cap n i sb xs l w f k a c (by omega) hroom d (λe=>b (by rw[e];rfl))
   ·exact xUw B g cap n i sb xs l w f k a m c (by omega) (by omega) d
def posN (ns:List Int)(n:Int):Nat:=ns.countP λk=>decide (k<n)
theorem xU3 {ns n i}(h:uM ns n i i):i=posN ns n:=by
 obtain⟨_,h2,h3,h4⟩:=h;unfold posN;rw[<-Q0 i ns,List.countP_append];have a:(ns.take i).countP (λk=>decide (k<n))=(ns.take i).length:=by grind [List.countP_eq_length,List.mem_iff_getElem.1,List.length_take]
 grind [List.countP_eq_zero,List.mem_iff_getElem.1,List.length_drop,List.length_take]
def qw (ms:List ML)(i:Nat)(m:ML):List ML:=ms.take i++m :: ms.drop i
theorem jS (a b):yy (a++b)=yy a++yy b:=by simp[yy]
theorem xP9 (ms i):(yy ms).take (i*38)=yy (ms.take i):=by
 by_cases h:i<=ms.length
 ·conv=>lhs;rw[<-Q0 i ms,jS]
  grind [qQ,List.length_take,List.take_of_length_le]
 grind [List.take_of_length_le,qQ]
theorem xPa (ms i):(yy ms).drop (i*38)=yy (ms.drop i):=by
 by_cases h:i<=ms.length
 ·conv=>lhs;rw[<-Q0 i ms,jS]
  grind [qQ,List.length_take,List.drop_eq_nil_of_le]
 ·rw[M0 (by rw[qQ];omega),M0 (by omega)];rfl
theorem yFi (ms i m):yy (qw ms i m)=(yy ms).take (i*38)++xL m.g++(yy ms).drop (i*38):=by
 unfold qw;rw[jS,xP9,xPa,B8];rfl
theorem xCe {ms i m}(h:i<=ms.length):(qw ms i m).length=ms.length+1:=by grind [qw,List.length_append,List.length_take,List.length_cons,List.length_drop]
theorem xFo (ms i m):(qw ms i m).Perm (m :: ms):=by simp[qw,List.perm_middle.trans,Q0]
theorem xPn {ms i m x}:x∈qw ms i m↔x=m\/x∈ms:=by rw[(xFo ms i m).mem_iff,g8]
structure jH (ms:List ML)(nl:List (KE Id32)):Prop where
 agree:(nl.map λe=>(e.k,e.v)).Perm (ms.map λm=>(m.p.id,Value.int .i64 m.p.number))
 ids:(ms.map λm=>m.p.id).Nodup
 sorted:(nums ms).Pairwise (· < ·)
 good:∀m∈ms,pErr m.p=0
theorem ui.pure {B w G}(h:ui B w G):jH G.ms G.nl:=⟨h.agree,h.ids,h.sorted,h.good⟩
theorem jH.nil:jH [] []:=⟨.nil,.nil,.nil,λ_ h=>by cases h⟩
theorem jH.add {ms:List ML}{nl:List (KE Id32)}(h:jH ms nl){i:Nat}{m:ML}(c:Nat)(hb:uM (nums ms) m.p.number i i)(hn:uU ms m.p.number=false)(hi:∀x∈ms,x.p.id≠m.p.id)(hg:pErr m.p=0):
  jH (qw ms i m) (nl++[⟨m.p.id,.int .i64 m.p.number,c⟩]) where
 agree:=by
  rw[L8];refine(List.perm_append_comm).trans ?_;refine List.Perm.trans ?_ ((xFo ms i m).symm.map _);simp only[t8,aA_,List.singleton_append];exact h.agree.cons _
 ids:=by
  rw[((xFo ms i m).map _).nodup_iff,t8,U0];refine⟨λhm=>?_,h.ids⟩;grind
 sorted:=by
  obtain⟨_,h2,h3,h4⟩:=hb;have hs:=h.sorted;have e:nums (qw ms i m)=(nums ms).take i++m.p.number :: (nums ms).drop i:=by simp[nums,qw,aI_,List.map_drop]
  have C0:m.p.number∉nums ms:=λhm=>by grind [uU,List.contains_iff_mem.2]
  have ht:∀a∈(nums ms).take i,a<m.p.number:=λa ha=>by grind [List.mem_iff_getElem.1,List.length_take]
  have hd:∀a∈(nums ms).drop i,m.p.number<a:=λa ha=>by grind [List.mem_of_mem_drop,List.mem_iff_getElem.1,List.length_drop]
  grind [List.pairwise_cons,List.take_sublist,List.drop_sublist,List.mem_cons.1]
 good x hx:=by
  rcases xPn.1 hx with rfl|hx
  ·exact hg
  ·exact h.good x hx
theorem uX {ib M gs}:(foot ib M gs).Nodup↔ib≠M/\(∀G∈gs,ib∉G.foot/\M∉G.foot/\G.foot.Nodup)/\gs.Pairwise (λG H=>∀x∈G.foot,∀y∈H.foot,x≠y):=by
 unfold foot;grind
def qz (gs:List MG)(s:ByteArray)(G':MG):List MG:=gs.map λH=>if H.name=s then G' else H
theorem xS {B}{w:World}{t size n v xs}(h:w.ownsRow B t size v n xs){k}(a:v.ownBlock=some k):∃cur,w.heap[k]?=some (.cells cur t (0,0)):=by
 rcases h.2 with⟨rfl,_⟩|⟨g,cap,cur,rfl,_,b,_⟩
 ·cases a
 ·cases a
  exact⟨cur,b⟩
theorem ui.not_id {B w G}(h:ui B w G){k cur}(a:w.heap[k]?=some (.cells cur 42 (0,0))):k∉G.foot:=by
 intro b;unfold MG.foot at b;simp only[m3,g8,aT_,or_false,R2]at b;rcases b with (rfl|rfl)|b
 ·rw[h.blk]at a;cases a
 ·have:=h.nums;unfold xV at this;rw[this]at a;cases a
 ·obtain⟨c2,h2⟩:=xS h.lines.row b;rw[h2]at a;cases a
theorem y5.not_id {B w ib M mc gs}(h:y5 B w ib M gs mc){k cur}(a:w.heap[k]?=some (.cells cur 42 (0,0))):k∉foot ib M gs:=by
 intro b;unfold foot at b;simp only[g8,aJ_]at b;rcases b with rfl|rfl|⟨G,c,b⟩
 ·rw[h.blk]at a;cases a
 ·have:=h.map;unfold xV at this;rw[this]at a;cases a
 ·exact(h.grps G c).not_id a b
theorem y5.refs_out {B w ib M mc gs}(h:y5 B w ib M gs mc){G}(c:G∈gs){m}(b:m∈G.ms){k}(a:m.v.ownBlock=some k):k<w.heap.size/\k∉foot ib M gs:=by
 have h1:=(h.grps G c).lines.refs m b;obtain⟨cur,h2⟩:=xS h1 a;exact⟨(h1.lt a).2,h.not_id h2⟩
structure Kept (F:List Nat)(w w':World):Prop where
 os:w'.os=w.os
 tape:w'.tape=w.tape
 output:w'.output=w.output
 size:w.heap.size<=w'.heap.size
 block:∀k,k<w.heap.size->k∉F->w'.heap[k]?=w.heap[k]?
theorem Kept.mono {F F' w w'}(h:Kept F w w')(hs:∀k∈F,k<w.heap.size->k∈F'):Kept F' w w':=⟨h.os,h.tape,h.output,h.size,λk a b=>h.block k a λc=>b (hs k c a)⟩
theorem Kept.of_below {F w w'}(h:Below w.heap.size w w'):Kept F w w':=⟨h.os,h.tape,h.output,h.size,λk a _=>h.block k a⟩
theorem Kept.trans {F F' a b c}(h:Kept F a b)(d:Kept F' b c)(hs:∀k∈F',k∈F\/a.heap.size<=k):Kept F a c:=
 ⟨d.os.trans h.os,d.tape.trans h.tape,d.output.trans h.output,R_ h.size d.size,λk f e=>(d.block k (b7 f h.size) λg=>by rcases hs k g with h1|h1;exact e h1;omega).trans (h.block k f e)⟩
theorem Kept.below {F w w' B}(h:Kept F w w')(d:B<=w.heap.size)(b:∀k∈F,B<=k):Below B w w':=⟨h.os,h.tape,h.output,h.size,λk c=>h.block k (by omega) λa=>by have:=b k a;omega⟩
theorem kq {F w w'}(h:Kept F w w'):w.heap.size<=w'.heap.size/\w'.os=w.os/\w'.tape=w.tape/\w'.output=w.output/\∀k,k<w.heap.size->k∉F->w'.heap[k]?=w.heap[k]?:=⟨h.size,h.os,h.tape,h.output,h.block⟩
theorem ki {F w w'}(h:w.heap.size<=w'.heap.size/\w'.os=w.os/\w'.tape=w.tape/\w'.output=w.output/\∀k,k<w.heap.size->k∉F->w'.heap[k]?=w.heap[k]?):Kept F w w':=⟨h.2.1,h.2.2.1,h.2.2.2.1,h.1,h.2.2.2.2⟩
attribute [grind →] kq
attribute [grind ←] ki
def xFq (F F':List Nat)(w:World):Prop:=∀k∈F',k∈F\/w.heap.size<=k
theorem xCr:∀{gs:List MG} {s:ByteArray} {G G':MG},(gs.map λG=>G.name).Nodup->yd gs s=some G->total (qz gs s G')+G.ms.length=total gs+G'.ms.length
 |H :: gs,s,G,G',b,a=>by
  unfold yd at a;rw[aE_]at a;rw[t8,U0]at b;by_cases h:H.name=s
  ·rw[decide_eq_true h]at a;cases a
   have:qz gs s G'=gs:=by
    unfold qz
    conv=>rhs;rw[<-List.map_id gs]
    grind [List.map_congr_left,List.mem_map.2]
   grind [total,qz]
  ·rw[decide_eq_false h]at a;have ih:=xCr (G':=G') b.2 a;grind [total,qz]
theorem xEt:∀{gs:List MG} {s:ByteArray} {G G':MG} (t:ByteArray),yd gs s=some G->G'.name=s->yd (qz gs s G') t=if t=s then some G' else yd gs t
 |H :: gs,s,G,G',t,a,b=>by
  unfold yd at a⊢;unfold qz;rw[aE_]at a;rw[t8,aE_];by_cases h:H.name=s
  ·rw[decide_eq_true h]at a;rw[if_pos h];by_cases ht:t=s
   ·grind
   ·rw[if_neg ht,decide_eq_false (λe=>ht (e.symm.trans b)),aE_,decide_eq_false (λe=>ht (e.symm.trans h))];simp only;clear a;induction gs with
    |nil=>rfl
    |cons K gs ih=>
     grind
  ·rw[decide_eq_false h]at a;rw[if_neg h,aE_];have ih:=xEt (gs:=gs) t a b;grind [yd,qz]
theorem xEs {gs s G G'}(t)(b:yd gs s=some G)(a:G'.name=s):xC (qz gs s G') t=if t=s then G'.ms else xC gs t:=by grind [xC,xEt]
theorem xD6:∀{l:List MG},(l.map λG=>G.name).Nodup->∀A∈l,∀C∈l,A.name=C.name->A=C:=by
 intro l hl;induction l with
 |nil=>intro A a;cases a
 |cons D l ih=>
  grind
theorem y5.upd {B w w' ib M mc gs}(h:y5 B w ib M gs mc){s G G'}(O:yd gs s=some G)(h1:G'.name=G.name)(h2:G'.born=G.born)(h3:G'.gb=G.gb)(h4:G'.nb=G.nb)
  (d:G'.v.ownBlock=G.v.ownBlock\/∃k,G'.v.ownBlock=some k/\w.heap.size<=k) (F:ui B w' G') (E:w'.heap[ib]?=some (.cells #[.map (some M),.int .i64 (total (qz gs s G'))] 129 (0,0)))
  (j:Kept (ib :: G.foot) w w') (Q:total (qz gs s G')<=65536):y5 B w' ib M (qz gs s G') mc/\xFq (foot ib M gs) (foot ib M (qz gs s G')) w:=by
 obtain⟨c,u⟩:=yH O;obtain⟨r,i,a3⟩:=uX.1 h.apart;have R:gs.Pairwise (λG H=>G.name≠H.name):=by
  have:=h.names;grind
 have f:∀k∈G'.foot,k∈G.foot\/w.heap.size<=k:=by grind [MG.foot,List.mem_nil_iff]
 have q:∀H∈qz gs s G',H=G'\/(H∈gs/\H.name≠s):=by
  intro H a;obtain⟨K,hK,rfl⟩:=D4.1 a;grind
 have p:∀H∈gs,H.name≠s->∀x∈H.foot,x∉G.foot:=by
  intro H a t x hx J;have S:∀{l:List MG},l.Pairwise (λG H=>∀x∈G.foot,∀y∈H.foot,x≠y)->∀A∈l,∀C∈l,A.name≠C.name->∀x∈A.foot,x∉C.foot:=by
   intro l hl;induction l with
   |nil=>intro A g;cases g
   |cons D l ih=>
    grind [List.pairwise_cons,List.mem_cons.1]
  grind
 have V:ib∉G'.foot:=λhx=>by
  rcases f ib hx with b|b
  ·exact(i G c).1 b
  ·have:=(h.foot_lt ib (by simp[foot])).2;omega
 have o:M∉G'.foot:=λhx=>by
  rcases f M hx with b|b
  ·exact(i G c).2.1 b
  ·have:=(h.foot_lt M (by simp[foot])).2;omega
 have n:G'.foot.Nodup:=by
  have b:=(i G c).2.2;unfold MG.foot at b⊢;rw[h3,h4];rcases d with d|⟨k',d,T⟩
  ·rw[d];exact b
  ·rw[d];have g1:=(i_ (h.grps G c).blk).1;have P:=(h.grps G c).nums.lt;grind
 refine⟨{ blk:=E,map:=?_,names:=?_,grps:=?_,apart:=?_,born:=?_,young:=?_,few:=Q,ibB:=h.ibB,MB:=h.MB },?_⟩
 ·have e:(qz gs s G').map MG.e=gs.map MG.e:=by
   unfold qz;rw[T7];refine am_ λH a=>?_
   simp only[Function.comp];by_cases e:H.name=s
   ·rw[if_pos e];have:H=G:=by
     exact xD6 h.names H a G c (e.trans u.symm)
    grind [MG.e]
   ·rw[if_neg e]
  unfold xV;rw[e,j.block M h.map.lt (by rw[g8,not_or];exact⟨λe=>r e.symm,(i G c).2.1⟩)];exact h.map
 ·grind [qz,List.map_map,List.map_congr_left]
 ·intro H a;rcases q H a with rfl|⟨a,t⟩
  ·exact F
  ·refine(h.grps H a).keep (λk z=>j.block k ((h.grps H a).foot_lt k z).2 ?_) (λm N k I=>?_)
   ·grind
   ·obtain⟨g1,P⟩:=h.refs_out a N I;grind [foot,List.mem_cons.2,List.mem_flatMap.2]
 ·rw[uX];refine⟨r,λH a=>?_,?_⟩
  ·grind
  ·unfold qz;rw[cd_];refine(List.Pairwise.and a3 R).imp_of_mem λ{A C} g hC hAC=>?_
   obtain⟨hAC,L⟩:=hAC;by_cases eA:A.name=s
   ·by_cases eC:C.name=s
    ·grind
    ·rw[if_pos eA,if_neg eC];intro x hx y hy e;subst e;rcases f x hx with b|b
     ·exact p C hC eC x hy b
     ·have:=((h.grps C hC).foot_lt x hy).2;omega
   ·by_cases eC:C.name=s
    ·rw[if_neg eA,if_pos eC];intro x hx y hy e;subst e;rcases f x hy with b|b
     ·exact p A g eA x hx b
     ·have:=((h.grps A g).foot_lt x hx).2;omega
    grind
 ·have e:(qz gs s G').map (λG=>G.born)=gs.map (λG=>G.born):=by
   unfold qz;rw[T7];refine am_ λH a=>?_
   simp only[Function.comp];by_cases e:H.name=s
   ·rw[if_pos e,h2];exact(congrArg MG.born (xD6 h.names H a G c (e.trans u.symm))).symm
   ·rw[if_neg e]
  rw[e];exact h.born
 ·intro H a;rcases q H a with rfl|⟨a,t⟩
  ·rw[h2];exact h.young G c
  ·exact h.young H a
 ·intro k U;grind [foot,List.mem_cons.2,List.mem_flatMap.2]
theorem kh {gs s}(h:yd gs s=none):∀G∈gs,G.name≠s:=by grind [yd,List.find?_eq_none]
theorem xUl {gs s}{G':MG}(t)(b:yd gs s=none)(a:G'.name=s):xC (gs++[G']) t=if t=s then G'.ms else xC gs t:=by grind [xC,yd]
theorem y5.new {B w w' ib M mc gs}(h:y5 B w ib M gs mc){s G'}(f:yd gs s=none)(h1:G'.name=s)(h2:G'.born=mc)
  (u:∀k∈G'.foot,w.heap.size<=k) (E:G'.foot.Nodup) (D:ui B w' G') (j:w'.heap[ib]?=some (.cells #[.map (some M),.int .i64 (total (gs++[G']))] 129 (0,0)))
  (q:xV ekS w' M ((gs++[G']).map MG.e) (mc+1))
  (o:Kept [ib,M] w w') (v:total (gs++[G'])<=65536):y5 B w' ib M (gs++[G']) (mc+1)/\xFq (foot ib M gs) (foot ib M (gs++[G'])) w:=by
 obtain⟨z,J,a3⟩:=uX.1 h.apart;have I:=kh f;have g:=(h.foot_lt ib (by simp[foot])).2;have K:=(h.foot_lt M (by simp[foot])).2;refine⟨{ blk:=j,map:=q,names:=?_,grps:=?_,apart:=?_,born:=?_,young:=?_,few:=v,ibB:=h.ibB,MB:=h.MB },?_⟩
 ·rw[L8];refine M6.2 ⟨h.names,by simp,?_⟩;grind
 ·intro H c;rcases m3.1 c with c|c
  ·refine(h.grps H c).keep (λk i=>o.block k ((h.grps H c).foot_lt k i).2 ?_) (λm n k l=>?_)
   ·grind
   ·obtain⟨g1,F⟩:=h.refs_out c n l;grind [List.mem_nil_iff,foot]
  grind
 ·rw[uX];refine⟨z,λH c=>?_,?_⟩
  ·grind
  ·rw[aM_];refine⟨a3,List.pairwise_singleton _ _,λA t C r x hx y hy e=>?_⟩;cases S_.1 r
   have:=((h.grps A t).foot_lt x hx).2;have:=u y hy;omega
 ·rw[L8];refine M6.2 ⟨h.born,by simp,?_⟩;intro a ha b p e;obtain⟨G,f,rfl⟩:=D4.1 ha;simp only[t8,aA_,S_]at p;have:=h.young G f;omega
 ·intro H c;rcases m3.1 c with c|c
  ·have:=h.young H c;omega
  grind
 ·intro k d;unfold foot at d;simp only[g8,aJ_]at d;rcases d with rfl|rfl|⟨H,c,d⟩
  ·exact .inl (by simp[foot])
  ·exact .inl (by simp[foot])
  ·rcases m3.1 c with c|c
   ·grind [foot,List.mem_cons.2,List.mem_flatMap.2]
   grind
theorem yAl (gs G'):total (gs++[G'])=total gs+G'.ms.length:=by
 unfold total;simp
end Go.Proofs.YtdhapkeimaljfaaGreatDoor
namespace Go.Proofs.YtdhapkeimaljfaaGreatDoor
structure PD where
 n:Nat
 dur:Nat->By
 pend:List (Nat×By)
 lim:Option Nat
 down:Bool
def PD.vis (d:PD)(s:Nat):By:=match d.pend.reverse.find? (λp=>p.1==s) with
 |some p=>p.2
 |none=>d.dur s
def PD.fresh (n:Nat):PD:=⟨n,λ_=>List.replicate 256 0,[],none,false⟩
def PD.oper (d:PD):PD×Bool:=match d.lim with
 |some 0=>({ d with down:=true },false)
 |some (k+1)=>({ d with lim:=some k },true)
 |none=>(d,true)
def PD.write (d:PD)(s:Nat)(b:By):PD×Bool:=if d.down then (d,false)else match d.oper with
 |(d',true)=>({ d' with pend:=d'.pend++[(s,b)] },true)
 |(d',false)=>(d',false)
def PD.flushed (d:PD):PD:={ d with dur:=d.vis,pend:=[] }
def PD.flush (d:PD):PD×Bool:=if d.down then (d,false)else match d.oper with
 |(d',true)=>(d'.flushed,true)
 |(d',false)=>(d',false)
def PD.puts (d:PD):Nat->List By->PD×Bool
 |_,[]=>(d,true)
 |at_,b :: l=>match d.write at_ b with
  |(d',true)=>d'.puts (at_+1) l
  |(d',false)=>(d',false)
variable (H:By->By)
structure PJ where
 area:Nat
 gen:Nat
 first:Nat
 carried:Nat
 entries:List By
def vk (gen first carried:Nat):PRec:=⟨1,gen,0,beB 8 first++beB 8 carried⟩
def qs (gen:Nat):Nat->List By->List PRec
 |_,[]=>[]
 |k,b :: l=>⟨2,gen,k,b⟩ :: qs gen (k+1) l
def js (gen first carried:Nat)(l:List By):List PRec:=vk gen first carried :: qs gen 1 l
def xHl (gen first carried:Nat)(l:List By):List By:=(js gen first carried l).flatMap (xJ H)
def PJ.secs (j:PJ):List By:=xHl H j.gen j.first j.carried j.entries
def xB7 (b:By):Option (Nat×Nat):=if b.length=16/\deB (b.take 8)<=2147483647/\deB (b.drop 8)<=2147483647 then some (deB (b.take 8),deB (b.drop 8))else none
noncomputable def zk (area:Nat)(l:List By):Option PJ:=
 match l with
 |[]=>none
 |b :: _=>match decP H b with
  |none=>none
  |some p=>if p.gen.toNat%2≠area then none else
   match zL H p.gen l.length 0 l with
   |[]=>none
   |r :: rs=>if r.kind≠1 then none else
    match xB7 r.pay with
    |none=>none
    |some (first,carried)=>
     let es:=(rs.takeWhile λr=>r.kind==2).map (·.pay)
     if carried<=es.length then some ⟨area,p.gen.toNat,first,carried,es⟩else none
theorem jF (gen:Nat):∀(k:Nat) (l:List By),(qs gen k l).length=l.length
 |_,[]=>rfl
 |k,b :: l=>by simp[qs,jF gen (k+1) l]
theorem xJr (gen:Nat):∀(k:Nat) (l:List By),(qs gen k l).all (λr=>r.kind==2)=true
 |_,[]=>rfl
 |k,b :: l=>by simp[qs];simpa using xJr gen (k+1) l
theorem xMq (gen:Nat):∀(k:Nat) (l:List By),(qs gen k l).map (·.pay)=l
 |_,[]=>rfl
 |k,b :: l=>by simp[qs,xMq gen (k+1) l]
def xPw (gen:Int):Int->List PRec->Prop
 |_,[]=>True
 |k,r :: rs=>r.Ok/\r.gen=gen/\r.num=k/\xPw gen (k+1) rs
theorem xMp (gen:Nat)(c:gen<=2147483647):∀(k:Nat) (l:List By),k+l.length<=2147483647->(∀b∈l,b.length<=131072)->xPw gen k (qs gen k l)
 |_,[],_,_=>trivial
 |k,b :: l,a,hl=>by
  simp only[x5]at a;refine⟨?_,rfl,rfl,?_⟩
  ·have:=hl b (cb_ ..);refine⟨⟨?_,?_,?_,?_,?_,?_⟩,this⟩ <;> simp only <;> omega
  ·have:=xMp gen c (k+1) l (by omega) (λb d=>hl b (V0 _ d));exact this
theorem xTl {gen:Int}{f:Nat}{num:Int}{l:List By}(h:∀b,l.head? = some b->∀p,decP H b=some p->p.gen≠gen):zL H gen f num l=[]:=by
 cases f with
 |zero=>rfl
 |succ f=>
  cases l with
  |nil=>rfl
  |cons b rest=>
   grind [zL,uh,decP,Option.map_eq_some_iff]
theorem xTk (d:∀c,(H c).length=16){gen:Int}(rest:List By):∀(rs:List PRec) (num:Int) (f:Nat),rs.length<=f->xPw gen num rs ->
  zL H gen f num (rs.flatMap (xJ H)++rest)=rs++zL H gen (f-rs.length) (num+rs.length) rest
 |[],num,f,_,_=>by simp
 |r :: rs,num,f,b,e=>by
  obtain⟨h1,h2,h3,h4⟩:=e;obtain⟨g,rfl⟩:∃g,f=g+1:=⟨f-1,by simp at b;omega⟩;have h:=xR9 H d h1 (rs.flatMap (xJ H)++rest);have hs:(xJ H r).length=y6 r.pay.length:=zq H r;have j:1<=y6 r.pay.length:=by grind [y6]
  have a:xJ H r++(rs.flatMap (xJ H)++rest)≠[]:=by grind [List.append_eq_nil_iff]
  rw[as_,B8];simp only[zL,h];rw[if_neg a,if_pos ⟨h2,h3⟩];have i:(xJ H r++(rs.flatMap (xJ H)++rest)).drop (y6 r.pay.length)=rs.flatMap (xJ H)++rest:=by
   rw[<-hs];simp
  rw[i,xTk d rest rs (num+1) g (by simp at b;omega) h4];grind
theorem xO9 (r:PRec):∃t,xJ H r=encP H (yO r 0) :: t:=by
 have a:1<=y6 r.pay.length:=by grind [y6]
 obtain⟨m,b⟩:∃m,y6 r.pay.length=m+1:=⟨y6 r.pay.length-1,by omega⟩;refine⟨(List.range' 1 m).map λi=>encP H (yO r i),?_⟩;grind [xJ,List.range_eq_range',List.range'_succ]
theorem xV4:∀(rs:List PRec),rs.length<=(rs.flatMap (xJ H)).length
 |[]=>by simp
 |r :: rs=>by
  obtain⟨t,ht⟩:=xO9 H r;have:=xV4 rs;grind
theorem xT2 {α:Type}(f:α->Bool):∀(l:List α),l.all f=true->l.takeWhile f=l
 |[],_=>rfl
 |a :: l,h=>by
  simp only[cg_,A0]at h;rw[List.takeWhile_cons,if_pos h.1,xT2 f l h.2]
structure PJ.Ok (j:PJ):Prop where
 par:j.gen%2=j.area
 gen:j.gen<=2147483647
 first:j.first<=2147483647
 len:j.entries.length<2147483647
 carried:j.carried<=j.entries.length
 ents:∀b∈j.entries,b.length<=131072
theorem xKy {j:PJ}(h:j.Ok):xPw j.gen 0 (js j.gen j.first j.carried j.entries):=by
 have h1:=h.gen;have h2:=h.len;refine⟨⟨⟨?_,?_,?_,?_,?_,?_⟩,?_⟩,rfl,rfl,?_⟩
 ·simp[vk]
 ·simp[vk]
 ·simp[vk]
 ·simp only[vk];omega
 ·simp[vk]
 ·simp[vk]
 ·simp[vk,xu]
 ·exact xMp j.gen h.gen 1 j.entries (by omega) h.ents
theorem xXy {j:PJ}(h:j.Ok):xB7 (vk j.gen j.first j.carried).pay=some (j.first,j.carried):=by
 have h1:=h.first;have h2:=h.len;have h3:=h.carried;have b:deB (beB 8 j.first)=j.first:=by grind [xAh]
 have a:deB (beB 8 j.carried)=j.carried:=by grind [xAh]
 grind [beB,xu,xB7,vk]
theorem xOy (d:∀c,(H c).length=16){j:PJ}(h:j.Ok)(rest:List By)(k:∀f num,zL H j.gen f num rest=[]):
  zk H j.area (j.secs H++rest)=some j:=by
 have g:=xKy h;have o:=xV4 H (js j.gen j.first j.carried j.entries);have b:=xTk H d rest (js j.gen j.first j.carried j.entries) 0 (j.secs H++rest).length (by rw[b6];unfold PJ.secs xHl;omega) g;rw[k,G5]at b;obtain⟨t,ht⟩:=xO9 H (vk j.gen j.first j.carried);have hs:∃a,j.secs H++rest=encP H (yO (vk j.gen j.first j.carried) 0) :: a:=by grind [qs,xJ,PJ.secs,xHl,js]
 obtain⟨a,i⟩:=hs;have m:decP H (encP H (yO (vk j.gen j.first j.carried) 0))=some (yO (vk j.gen j.first j.carried) 0):=xEa H d (xA7 g.1 (by unfold y6;omega));have e:zL H (j.gen:Int) (j.secs H++rest).length 0 (j.secs H++rest)=js j.gen j.first j.carried j.entries:=b;have n:((qs j.gen 1 j.entries).takeWhile λr=>r.kind==2)=qs j.gen 1 j.entries:=by simp[xT2,xJr]
 rw[i]at e⊢;unfold zk;simp only[m];rw[if_neg (by simp[yO,vk,h.par])];have l:(yO (vk j.gen j.first j.carried) 0).gen=(j.gen:Int):=rfl;rw[l,e];simp only[js];rw[if_neg (by simp[vk]),xXy h,n,xMq];simp only;rw[if_pos h.carried];cases j;simp
def PD.area (d:PD)(n area:Nat):List By:=(List.range (n/2)).map λi=>d.vis (area*(n/2)+i)
noncomputable def curP (n:Nat)(d:PD):Option PJ:=
 match zk H 0 (d.area n 0),zk H 1 (d.area n 1) with
 |none,none=>none
 |some a,none=>some a
 |none,some b=>some b
 |some a,some b=>if a.gen<b.gen then some b else some a
noncomputable def zO (area g:Nat)(b:By):Nat:=match decP H b with
 |none=>g
 |some p=>if (g:Int)<=p.gen then (if (p.gen.toNat+1)%2≠area then p.gen.toNat+2 else p.gen.toNat+1)else g
noncomputable def xJ2 (n:Nat)(d:PD)(area:Nat):Nat:=(List.range n).foldl (λg s=>zO H area g (d.vis s)) area
theorem yJy {b:By}{p:qJ}(h:decP H b=some p):p.Ok:=by grind [decP,decC,Option.some.inj]
theorem xV3 {area g:Nat}(ha:area<2)(a:g%2=area)(b:By):
  zO H area g b%2=area/\g<=zO H area g b/\(∀p,decP H b=some p->p.gen<zO H area g b)/\∀m:Nat,g<=m+2->(∀p,decP H b=some p->p.gen<=m)->zO H area g b<=m+2:=by
 unfold zO;cases hp:decP H b with
 |none=>exact⟨a,w_ _,λp h=>by simp at h,λm h _=>h⟩
 |some p=>
  grind
theorem xJ8 {area:Nat}(ha:area<2):∀(l:List By) (g:Nat),g%2=area ->
  (l.foldl (zO H area) g)%2=area/\g<=l.foldl (zO H area) g/\(∀b∈l,∀p,decP H b=some p->p.gen<l.foldl (zO H area) g) /\
  ∀m:Nat,g<=m+2->(∀b∈l,∀p,decP H b=some p->p.gen<=m)->l.foldl (zO H area) g<=m+2
 |[],g,a=>⟨a,w_ _,λb c=>by simp at c,λm h _=>h⟩
 |b :: l,g,a=>by
  obtain⟨s1,s2,i,f⟩:=xV3 H ha a b;obtain⟨e,d,t3,t4⟩:=xJ8 ha l (zO H area g b) s1;grind
theorem xHr (n:Nat)(d:PD){area:Nat}(ha:area<2):
  xJ2 H n d area%2=area/\(∀s,s<n->∀p,decP H (d.vis s)=some p->p.gen<xJ2 H n d area)/\∀m:Nat,(∀s,s<n->∀p,decP H (d.vis s)=some p->p.gen<=m)->xJ2 H n d area<=m+2:=by
 have h:=xJ8 H ha ((List.range n).map d.vis) area (by omega);rw[List.foldl_map]at h;obtain⟨h1,_,h3,h4⟩:=h;refine⟨h1,λs hs p a=>h3 _ (D4.2 ⟨s,aB_.2 hs,rfl⟩) p a,λm c=>h4 m (by omega) λb e=>?_⟩;obtain⟨s,hs,rfl⟩:=D4.1 e;exact c s (aB_.1 hs)
structure JInv (n:Nat)(d:PD)(j:PJ):Prop where
 ok:j.Ok
 fit:(j.secs H).length<=n/2
 at_:∀i b,(j.secs H)[i]?=some b->d.vis (j.area*(n/2)+i)=b
 old:∀s,s<n->∀p,decP H (d.vis s)=some p->p.gen<=j.gen/\(p.gen=j.gen->j.area*(n/2)<=s/\s<j.area*(n/2)+(j.secs H).length)
theorem PJ.Ok.area {j:PJ}(h:j.Ok):j.area<2:=by have:=h.par;omega
theorem xUj {area:Nat}{l:List By}{x:PJ}(h:zk H area l=some x):x.area=area/\∃b p,l.head? = some b/\decP H b=some p/\(x.gen:Int)=p.gen:=by
 unfold zk at h;split at h
 ·simp at h
 ·rename_i b t;split at h
  ·simp at h
  ·rename_i p a;split at h
   ·simp at h
   ·split at h
    ·simp at h
    ·split at h
     ·simp at h
     ·split at h
      ·simp at h
      ·simp only at h;split at h
       ·rw[<-G0 h];have:=(yJy H a).1.2.2.1;exact⟨rfl,b,p,rfl,a,by simp only;omega⟩
       ·simp at h
theorem JInv.load (o:∀c,(H c).length=16){n:Nat}{d:PD}{j:PJ}(h:JInv H n d j):zk H j.area (d.area n j.area)=some j:=by
 have q:=h.fit;have ha:=h.ok.area;have hs:d.area n j.area=j.secs H++(d.area n j.area).drop (j.secs H).length:=by
  apply bA_;intro i;by_cases a:i<(j.secs H).length
  ·rw[I3 a];have:=h.at_ i _ (U_ a);grind [List.getElem?_eq_getElem,PD.area,List.getElem?_range]
  grind
 rw[hs];refine xOy H o h.ok _ λf num=>xTl H λb m p g=>?_
 rw[List.head?_drop]at m;have l:(j.secs H).length<n/2:=by grind [Nat.lt_or_ge,List.getElem?_eq_none,PD.area]
 have hv:d.vis (j.area*(n/2)+(j.secs H).length)=b:=by grind [PD.area,List.getElem?_range]
 have k:j.area*(n/2)+(j.secs H).length<n:=by
  have:j.area=0\/j.area=1:=by omega
  rcases this with e|e <;> rw[e] <;> omega
 have:=h.old _ k p (by rw[hv];exact g);omega
def j1 (l:List By):Nat:=(l.map λb=>y6 b.length).sum
theorem xJq (gen:Nat):∀(k:Nat) (l:List By),((qs gen k l).flatMap (xJ H)).length=j1 l
 |_,[]=>rfl
 |k,b :: l=>by
  rw[qs,as_,b6,xJq gen (k+1) l,zq];simp[j1]
theorem uv (j:PJ):(j.secs H).length=1+j1 j.entries:=by
 unfold PJ.secs xHl js;rw[as_,b6,xJq,zq];have:(vk j.gen j.first j.carried).pay.length=16:=by simp[vk,xu]
 rw[this];rfl
structure JRec (n:Nat)(d:PD)(j:PJ):Prop where
 ok:j.Ok
 fit:1+j1 j.entries<=n/2
 load:zk H j.area (d.area n j.area)=some j
 le:∀s,s<n->∀p,decP H (d.vis s)=some p->p.gen<=j.gen
 oth:∀s,s<n->(s<j.area*(n/2)\/j.area*(n/2)+n/2<=s)->∀p,decP H (d.vis s)=some p->p.gen≠j.gen
theorem JInv.toRec (b:∀c,(H c).length=16){n:Nat}{d:PD}{j:PJ}(h:JInv H n d j):JRec H n d j:=
 ⟨h.ok,by rw[<-uv H];exact h.fit,h.load H b,λs hs p a=>(h.old s hs p a).1,λs hs ho p a e=>by
  have:=(h.old s hs p a).2 e;have:=h.fit;omega⟩
theorem JRec.cur {n:Nat}{d:PD}{j:PJ}(h:JRec H n d j):curP H n d=some j:=by
 have hl:=h.load;have ha:=h.ok.area;have l:=h.fit;have other:∀a x,a<2->a≠j.area->zk H a (d.area n a)=some x->x.gen<j.gen:=by
  intro a x m g hx;obtain⟨_,b,p,k,e,i⟩:=xUj H hx;have c:0<n/2:=by omega
  have hv:d.vis (a*(n/2))=b:=by grind [List.head?_eq_getElem?,PD.area,List.getElem?_range]
  have f:a*(n/2)<n:=by
   have:a=0\/a=1:=by omega
   rcases this with h1|h1 <;> rw[h1] <;> omega
  have h1:=h.le _ f p (by rw[hv];exact e)
  have h2:=h.oth _ f (by
   have:a=0\/a=1:=by omega
   have:j.area=0\/j.area=1:=by omega
   grind) p (by rw[hv];exact e)
  omega
 unfold curP;have:j.area=0\/j.area=1:=by omega
 rcases this with c|c
 ·rw[c]at hl;rw[hl];cases hx:zk H 1 (d.area n 1) with
  |none=>rfl
  |some x=>
   have:=other 1 x (by omega) (by omega) hx;grind
 grind
def PD.Up (d:PD):Prop:=d.down=false/\d.lim=none
theorem PD.write_up {d:PD}(h:d.Up)(s:Nat)(b:By):d.write s b=({ d with pend:=d.pend++[(s,b)] },true):=by
 simp[PD.write,PD.oper,h.1,h.2]
theorem PD.vis_snoc (d:PD)(s:Nat)(b:By)(k:Nat):PD.vis { d with pend:=d.pend++[(s,b)] } k=if k=s then b else d.vis k:=by
 unfold PD.vis;grind
theorem PD.vis_flushed (d:PD)(k:Nat):d.flushed.vis k=d.vis k:=by simp[PD.flushed,PD.vis]
theorem PD.puts_up:∀(l:List By) (d:PD) (a:Nat),d.Up->(d.puts a l).2=true/\(d.puts a l).1.Up/\(d.puts a l).1.n=d.n/\∀k,(d.puts a l).1.vis k=if a<=k then (l[k-a]?).getD (d.vis k)else d.vis k
 |[],d,a,h=>⟨rfl,h,rfl,λk=>by simp[PD.puts]⟩
 |b :: l,d,a,h=>by
  obtain⟨h1,h2,h3,h4⟩:=PD.puts_up l { d with pend:=d.pend++[(a,b)] } (a+1) h;grind [PD.puts,PD.write_up,PD.vis_snoc]
theorem xDo (gen:Nat):∀(k:Nat) (l:List By) (b:By),qs gen k (l++[b])=qs gen k l++[⟨2,gen,((k+l.length:Nat):Int),b⟩]
 |k,[],b=>rfl
 |k,c :: l,b=>by
  have:=xDo gen (k+1) l b;grind [qs,List.length_cons]
def PJ.add (j:PJ)(b:By):PJ:={ j with entries:=j.entries++[b] }
def PJ.body (j:PJ)(b:By):PRec:=⟨2,j.gen,((1+j.entries.length:Nat):Int),b⟩
theorem kG (j:PJ)(b:By):(j.add b).secs H=j.secs H++xJ H (j.body b):=by
 simp[PJ.secs,PJ.add,xHl,js,xDo,PJ.body]
theorem xHk (e:∀c,(H c).length=16){r:PRec}(h:r.Ok){b:By}(a:b∈xJ H r):∃p,decP H b=some p/\p.gen=r.gen:=by
 unfold xJ at a;obtain⟨i,d,rfl⟩:=D4.1 a;exact⟨_,xEa H e (xA7 h (aB_.1 d)),rfl⟩
theorem xSb {j:PJ}(h:j.Ok)(b:By)(a:b.length<=131072)(c:j.entries.length+1<2147483647):(j.body b).Ok:=by
 have:=h.gen;refine⟨⟨?_,?_,?_,?_,?_,?_⟩,a⟩ <;> simp only[PJ.body] <;> omega
theorem xZ3 (d:∀c,(H c).length=16){gen:Int}:∀(rs:List PRec) (num:Int),xPw gen num rs->∀b∈rs.flatMap (xJ H),∃p,decP H b=some p/\p.gen=gen
 |[],_,_,b,a=>by simp at a
 |r :: rs,num,h,b,a=>by
  rw[as_,m3]at a;rcases a with a|a
  ·obtain⟨p,e,f⟩:=xHk H d h.1 a;exact⟨p,e,f.trans h.2.1⟩
  ·exact xZ3 d rs (num+1) h.2.2.2 b a
theorem JInv.add (m:∀c,(H c).length=16){n:Nat}{d:PD}{j:PJ}(h:JInv H n d j)(l:d.Up)(b:By)(g:b.length<=131072)(k:j.entries.length+1<2147483647)
  (v:(j.secs H).length+y6 b.length<=n/2):
  (d.puts (j.area*(n/2)+(j.secs H).length) (xJ H (j.body b))).2=true/\(d.puts (j.area*(n/2)+(j.secs H).length) (xJ H (j.body b))).1.Up /\
  (d.puts (j.area*(n/2)+(j.secs H).length) (xJ H (j.body b))).1.n=d.n/\JInv H n (d.puts (j.area*(n/2)+(j.secs H).length) (xJ H (j.body b))).1 (j.add b):=by
 obtain⟨h1,h2,h3,h4⟩:=PD.puts_up (xJ H (j.body b)) d (j.area*(n/2)+(j.secs H).length) l;refine⟨h1,h2,h3,?_⟩;have o:(xJ H (j.body b)).length=y6 b.length:=zq H _;have r:=xSb h.ok b g k;refine⟨⟨h.ok.par,h.ok.gen,h.ok.first,?_,?_,?_⟩,?_,?_,?_⟩
 ·simp[PJ.add];omega
 ·have:=h.ok.carried;simp[PJ.add];omega
 ·intro c e;simp only[PJ.add,m3,S_]at e;rcases e with e|rfl
  ·exact h.ok.ents c e
  ·exact g
 ·grind [kG,List.length_append]
 ·intro i c f;rw[kG]at f;rw[h4];show (if j.area*(n/2)+(j.secs H).length<=j.area*(n/2)+i then _ else d.vis (j.area*(n/2)+i))=c
  by_cases hlt:i<(j.secs H).length
  ·rw[if_neg (by omega)];rw[I3 hlt]at f;exact h.at_ i c f
  grind [List.getElem?_append_right,PJ.add]
 ·intro s hs p a;rw[h4]at a;show p.gen<=j.gen/\(p.gen=j.gen->j.area*(n/2)<=s/\s<j.area*(n/2)+((j.add b).secs H).length)
  rw[kG,b6,o];have keep:decP H (d.vis s)=some p->p.gen<=j.gen/\(p.gen=j.gen->j.area*(n/2)<=s/\s<j.area*(n/2)+((j.secs H).length+y6 b.length)):=by
   intro hq;have:=h.old s hs p hq;omega
  split at a
  ·rename_i u;cases hx:(xJ H (j.body b))[s-(j.area*(n/2)+(j.secs H).length)]? with
   |none=>rw[hx]at a;exact keep a
   |some c=>
    rw[hx]at a;obtain⟨q,hq,t⟩:=xHk H m r (ab_ hx);grind [List.getElem?_eq_some_iff.1,PJ.body]
  ·exact keep a
theorem JInv.flushed {n:Nat}{d:PD}{j:PJ}(h:JInv H n d j):JInv H n d.flushed j:=
 ⟨h.ok,h.fit,λi b c=>by rw[PD.vis_flushed];exact h.at_ i b c,λs hs p a=>h.old s hs p (by rw[PD.vis_flushed]at a;exact a)⟩
theorem JInv.fresh (f:∀c,(H c).length=16){n:Nat}{d:PD}(e:d.Up)(j:PJ)(b:j.Ok)(g:(j.secs H).length<=n/2)(h:∀s,s<n->∀p,decP H (d.vis s)=some p->p.gen<j.gen):
  (d.puts (j.area*(n/2)) (j.secs H)).2=true/\(d.puts (j.area*(n/2)) (j.secs H)).1.Up/\(d.puts (j.area*(n/2)) (j.secs H)).1.n=d.n/\JInv H n (d.puts (j.area*(n/2)) (j.secs H)).1 j:=by
 obtain⟨h1,h2,h3,h4⟩:=PD.puts_up (j.secs H) d (j.area*(n/2)) e;refine⟨h1,h2,h3,b,g,?_,?_⟩
 ·grind
 ·intro s hs p a;rw[h4]at a;have keep:decP H (d.vis s)=some p->p.gen<=j.gen/\(p.gen=j.gen->j.area*(n/2)<=s/\s<j.area*(n/2)+(j.secs H).length):=by grind
  split at a
  ·cases hx:(j.secs H)[s-j.area*(n/2)]? with
   |none=>rw[hx]at a;exact keep a
   |some c=>
    rw[hx]at a;obtain⟨q,hq,i⟩:=xZ3 H f _ _ (xKy b) c (ab_ hx);grind
  ·exact keep a
noncomputable def kK (n:Nat)(d:PD)(j:PJ):PJ:=⟨1-j.area,xJ2 H n d (1-j.area),j.first,j.entries.length,j.entries⟩
theorem xL8 {n:Nat}{d:PD}{j:PJ}(h:JRec H n d j)(a:j.gen+2<=2147483647):(kK H n d j).Ok/\(kK H n d j).gen<=j.gen+2:=by
 have ha:=h.ok.area;obtain⟨g1,_,g3⟩:=xHr H n d (show 1-j.area<2 by omega);have g4:=g3 j.gen h.le;exact⟨⟨g1,R_ g4 a,h.ok.first,h.ok.len,w_ _,h.ok.ents⟩,g4⟩
theorem JRec.reopen (f:∀c,(H c).length=16){n:Nat}{d:PD}{j:PJ}(h:JRec H n d j)(e:d.Up)(b:j.gen+2<=2147483647):
  curP H n d=some j/\(d.puts ((1-j.area)*(n/2)) ((kK H n d j).secs H)).2=true/\(d.puts ((1-j.area)*(n/2)) ((kK H n d j).secs H)).1.Up /\
  (d.puts ((1-j.area)*(n/2)) ((kK H n d j).secs H)).1.n=d.n/\JInv H n (d.puts ((1-j.area)*(n/2)) ((kK H n d j).secs H)).1 (kK H n d j):=by
 have ha:=h.ok.area;obtain⟨ho,_⟩:=xL8 H h b;obtain⟨_,g,_⟩:=xHr H n d (show 1-j.area<2 by omega);refine⟨h.cur H,?_⟩;refine JInv.fresh H f e (kK H n d j) ho ?_ λs hs p a=>?_
 ·rw[uv];exact h.fit
 ·exact g s hs p a
def zK:PJ:=⟨0,0,0,0,[]⟩
theorem xJ1 (n:Nat)(d:PD)(area:Nat)(b:∀s,s<n->decP H (d.vis s)=none):xJ2 H n d area=area:=by
 unfold xJ2;have:∀(l:List Nat),(∀s∈l,s<n)->l.foldl (λg s=>zO H area g (d.vis s)) area=area:=by
  intro l;induction l with
  |nil=>intro _;rfl
  |cons a l ih=>
   grind [zO,List.mem_cons_self,List.mem_cons_of_mem]
 grind
theorem JInv.format (h:∀c,(H c).length=16){n:Nat}{d:PD}(f:d.Up)(j:2<=n)(a:∀s,s<n->decP H (d.vis s)=none):
  xJ2 H n d 0=0/\(d.puts 0 (zK.secs H)).2=true/\(d.puts 0 (zK.secs H)).1.Up/\(d.puts 0 (zK.secs H)).1.n=d.n/\JInv H n (d.puts 0 (zK.secs H)).1 zK:=by
 have i:zK.Ok:=⟨rfl,by decide,by decide,by decide,by decide,λb g=>by simp[zK]at g⟩;refine⟨xJ1 H n d 0 a,?_⟩;have:=JInv.fresh H h (n:=n) f zK i (by rw[uv];simp[zK,j1];omega) λs hs p e=>by rw[a s hs]at e;simp at e
 simpa[zK]using this
theorem xJ9 (n s:Nat):decP H ((PD.fresh n).vis s)=none:=yFv H
end Go.Proofs.YtdhapkeimaljfaaGreatDoor
namespace Go.Proofs.YtdhapkeimaljfaaGreatDoor
open Go Go.RowKit Go.Proofs Tryz
abbrev ekN (k:Int):Value:=.int .i64 k
theorem xJd (k:Int):∀(l:List (KE Int)) (i:Nat),Instr.findNow (.int .i64) (.int .i64 k) (l.map (enE ekN)) i=some (yG k l i)
 |[],i=>rfl
 |e :: l,i=>by
  rw[t8];unfold Instr.findNow yG;simp only[enE,Instr.sameNow,if_true];by_cases h:k=e.k
  ·grind
  ·have a:(k==e.k)=false:=by grind
   rw[a,if_neg h];exact xJd k l (i+1)
theorem keyN:xH5 3 ekN where
 check e k w:=MapKept.run_checkKey (k:=.int .i64 k) underlying3 (by simp[MapKept.IsKey]) e 9999
 find k l w:=by
  unfold Instr.findKey;simp[xJd]
 bits k:=by
  unfold Instr.sameBits;simp
section
variable {K:Type} [DecidableEq K]
def getK (k:K)(l:List (KE K)):Option Value:=(yG k l 0).map (·.2)
def updL (k:K)(v:Value):List (KE K)->List (KE K)
 |[]=>[]
 |e :: es=>if k=e.k then { e with v:=v } :: es else e :: updL k v es
def putL (k:K)(v:Value)(c:Nat)(l:List (KE K)):List (KE K):=if (getK k l).isSome then updL k v l else l++[⟨k,v,c⟩]
def putC (k:K)(c:Nat)(l:List (KE K)):Nat:=if (getK k l).isSome then c else c+1
theorem xV9 (k:K):∀(l:List (KE K)) (i j:Nat),(yG k l i).map (·.2)=(yG k l j).map (·.2)
 |[],_,_=>rfl
 |e :: l,i,j=>by
  unfold yG;by_cases h:k=e.k
  ·simp[h]
  ·rw[if_neg h,if_neg h];exact xV9 k l (i+1) (j+1)
theorem xY7 (k:K)(l:List (KE K))(i:Nat):(yG k l i).map (·.2)=getK k l:=xV9 k l i 0
theorem vK (k:K)(e:KE K)(l:List (KE K)):getK k (e :: l)=if k=e.k then some e.v else getK k l:=by grind [getK,yG,xY7]
theorem xDd (k:K):getK k ([]:List (KE K))=none:=rfl
theorem xV1 (j k:K)(v:Value):∀(l:List (KE K)),getK j (updL k v l)=if j=k/\(getK k l).isSome then some v else getK j l
 |[]=>by simp[updL,xDd]
 |e :: l=>by
  unfold updL;by_cases h:k=e.k
  ·grind [vK]
  ·rw[if_neg h,vK,xV1 j k v l,vK,vK,if_neg h];grind
theorem xP7 (j:K)(e:KE K):∀(l:List (KE K)),getK j (l++[e])=match getK j l with|some x=>some x|none=>if j=e.k then some e.v else none
 |[]=>by rw[E8,vK];rfl
 |a :: l=>by
  rw[L2,vK,xP7 j e l,vK];grind
theorem xDc (j k:K)(v:Value)(c:Nat)(l:List (KE K)):getK j (putL k v c l)=if j=k then some v else getK j l:=by grind [putL,getK,xV1,xP7]
theorem xV6 (k:K)(v:Value):∀(l:List (KE K)) (i j:Nat) (u:Value),yG k l i=some (j,u)->∃n e,j=i+n/\l[n]?=some e/\e.k=k/\l.modify n (λe=>{ e with v:=v })=updL k v l
 |[],i,j,u,h=>by cases h
 |e :: l,i,j,u,h=>by
  unfold yG at h;by_cases hk:k=e.k
  ·rw[if_pos hk]at h;cases h
   grind [updL]
  ·rw[if_neg hk]at h;obtain⟨n,e',h1,h2,h3,h4⟩:=xV6 k v l (i+1) j u h;refine⟨n+1,e',by omega,h2,h3,?_⟩;simp[updL,hk,h4]
end
section
variable {K:Type} [DecidableEq K] {ek:K->Value} {kt:TypeId} {mt et:TypeId}
theorem xBu (b:xH5 kt ek)(d:prog.underlying mt=some (.map kt et))(w:World)(M:Nat)(l:List (KE K))(c:Nat)(h:xV ek w M l c)(k:K)(v:Value):
  (Instr.mapUpdate mt (.map (some M)) (ek k) v).run prog w=.ok () (w.putObj M (.map ((putL k v c l).map (enE ek)).toArray (putC k c l))):=by
 cases hf:yG k l 0 with
 |none=>
  grind [getK,putL,putC,xK8]
 |some x=>
  obtain⟨j,u⟩:=x;have f:getK k l=some u:=by grind [getK]
  obtain⟨n,e,rfl,h2,h3,h4⟩:=xV6 k v l 0 j u hf;rw[m0]at hf;unfold putL putC;rw[f];simp only[Option.isSome_some,if_true];rw[<-h4];unfold Instr.mapUpdate;rw[G9,run_underlying d];simp only[t2,G9,kN h,b.check,b.find,hf];have i:((((l.map (enE ek)).toArray[n]?).map (·.key)).getD (ek k))=ek k:=by grind [enE]
  rw[i];have a:(Instr.keyThatStays (ek k) (ek k)).run prog w=.ok (ek k) w:=by
   unfold Instr.keyThatStays;rw[b.bits];rfl
  rw[a];simp only[t2];rw[bz_ _ h];have g:((l.map (enE ek)).toArray.modify n λe=>{ e with key:=ek k,val:=v })=((l.modify n λe=>{ e with v:=v }).map (enE ek)).toArray:=by
   apply Array.ext_getElem?;grind [enE]
  simp[World.putObj,g]
end
def xE (b:By):Array Value:=(encB b).toArray
def zer:By:=List.replicate 256 0
def zF (s:Nat)(b:By):List Value:=.int .i64 s :: encB b
def xW (s:Nat)(b:By):Array Value:=(zF s b).toArray
def vP:=lx_ 111
def qV:=sx_ 111
def xLp:=@yh prog 111 256 isAgg111 sizeOf111
def xKp:=@yk prog 111 256 (by kernel_rfl)
def vM:=lx_ 115
def qR:=sx_ 115
def xHt:=@yh prog 115 257 isAgg115 sizeOf115
def xKm:=@yk prog 115 257 (by kernel_rfl)
theorem jb (ρ:Operand->Value)(d:Option Tmp)(ty:TypeId)(pos:String)(af:Array Edge)(g:Option (Nat×Bool))(w:World):
  Sem.run prog (execOp ρ ⟨d,.alloc 111,ty,pos,af,g⟩) w=.ok (.value (.pointer (some ⟨w.heap.size,0,none⟩))) (w.alloc (.cells (xE zer) 111)):=by kernel_rfl
theorem qX (ρ:Operand->Value)(d:Option Tmp)(ty:TypeId)(pos:String)(af:Array Edge)(g:Option (Nat×Bool))(w:World):
  Sem.run prog (execOp ρ ⟨d,.alloc 115,ty,pos,af,g⟩) w=.ok (.value (.pointer (some ⟨w.heap.size,0,none⟩))) (w.alloc (.cells (xW 0 zer) 115)):=by kernel_rfl
theorem Tryz.info_wri:(prog.info? 115).map (λi=>(i.zero,i.size,i.bytes))=some (some (.agg (xW 0 zer)),257,264):=by kernel_rfl
theorem xSs (w:World):(zeroValue 111).run prog w=.ok (.agg (xE zer)) w:=by kernel_rfl
theorem uN {s:Nat}{b:By}(h:b.length=256):(zF s b).length=257:=by simp[zF,xQ,h]
theorem xSu (s:Nat)(b:By)(i:Nat):(zF s b)[i]?=if i=0 then some (.int .i64 s)else (encB b)[i-1]?:=by grind [zF]
theorem xIi (s:Nat)(b:By):∀v∈zF s b,v.oneCell'=true:=by
 intro v hv;rcases g8.1 hv with rfl|hv
 ·rfl
 ·exact zP b v hv
theorem xM6 (s:Nat){b:By}(h:b.length=256):xt 257 (xW s b)=true:=by
 unfold xt xW;rw[A0];grind [uN,Array.all_eq_true,xIi]
theorem kO {b:By}(h:b.length=256):xt 256 (xE b)=true:=by
 unfold xt xE;rw[A0];grind [xQ,Array.all_eq_true,zP]
def xEu (l:List (Nat×By)):List Value:=l.flatMap λx=>zF x.1 x.2
structure PnAt (w:World)(B:Nat)(v:Value)(l:List (Nat×By)):Prop where
 own:w.ownsRow B 115 257 v l.length (xEu l)
 len:∀x∈l,x.2.length=256
theorem yK {w:World}{B t s n:Nat}{v:Value}{xs:List Value}(h:w.ownsRow B t s v n xs):∃a c,v=.slice a n c:=by
 rcases h.2 with⟨h,b⟩|⟨g,cap,cur,h,_⟩
 ·grind
 ·exact⟨_,_,h⟩
structure Dev where
 p:Nat
 M:Nat
 pv:Value
 es:List (KE Int)
 mc:Nat
 ops:Int
 lim:Int
def yB (v:Dev)(d:PD):Array Value:=#[.int .i64 d.n,.map (some v.M),v.pv,.int .i64 v.ops,.bool d.lim.isSome,.int .i64 v.lim,.bool d.down]
structure yj (B:Nat)(w:World)(v:Dev)(d:PD):Prop where
 blk:w.heap[v.p]?=some (.cells (yB v d) 90 (0,0))
 lim:∀k:Nat,d.lim=some k->v.lim=k/\k<=4611686018427387904
 nilp:d.pend=[]->v.pv=.slice none 0 0
 map:xV ekN w v.M v.es v.mc
 dur:∀s:Nat,(getK (s:Int) v.es).getD (.agg (xE zer))=.agg (xE (d.dur s))
 durL:∀s,(d.dur s).length=256
 pend:PnAt w B v.pv d.pend
 n1:1<=d.n
 n2:d.n<=4096
 few:d.pend.length<=1000000
 pB:B<=v.p
 MB:B<=v.M
def Dev.foot (v:Dev):List Nat:=[v.p,v.M]++v.pv.ownBlock.toList
theorem Dev.p_foot (v:Dev):v.p∈v.foot:=by simp[Dev.foot]
theorem Dev.M_foot (v:Dev):v.M∈v.foot:=by simp[Dev.foot]
theorem Dev.pv_foot (v:Dev){k:Nat}(h:v.pv.ownBlock=some k):k∈v.foot:=by simp[Dev.foot,h]
theorem yj.foot_lt {B:Nat}{w:World}{v:Dev}{d:PD}(h:yj B w v d):∀k∈v.foot,B<=k/\k<w.heap.size:=by
 intro k a;simp only[Dev.foot,L2,E8,g8,R2]at a;rcases a with rfl|rfl|a
 ·exact⟨h.pB,(i_ h.blk).1⟩
 ·exact⟨h.MB,h.map.lt⟩
 ·exact s5 h.pend.own k a
theorem PnAt.at {w:World}{B:Nat}{v:Value}{l:List (Nat×By)}(h:PnAt w B v l):(v=.slice none 0 0/\l=[])\/∃g cap,v=.slice (some ⟨g,0,none⟩) l.length cap/\B<=g/\g<w.heap.size/\l.length<=cap/\cap<=maxLen /\
  ∀j (a:j<l.length) i u,(zF l[j].1 l[j].2)[i]?=some u->w.cell? ⟨g,j*257+i,none⟩=some u:=by
 rcases h.own.2 with⟨rfl,o⟩|⟨g,cap,cur,rfl,d,m,k,f,q,p⟩
 ·grind
 ·refine .inr ⟨g,cap,rfl,d,(i_ m).1,k,f,λj a i u b=>?_⟩;have n:∀(l:List (Nat×By)),(∀x∈l,x.2.length=256)->∀j (a:j<l.length),∀i,i<257->(xEu l)[j*257+i]?=(zF l[j].1 l[j].2)[i]?:=by
   intro l;induction l with
   |nil=>intro _ j a;cases a
   |cons x l ih=>
    intro hl j a i c;have e:xEu (x :: l)=zF x.1 x.2++xEu l:=rfl;have hx:=uN (s:=x.1) (hl x (by simp));cases j with
    |zero=>rw[e,az_,m0,I3 (by omega)];rfl
    |succ j=>
     grind
  have c:i<257:=by have:=(L7.1 b).1;rwa [uN (h.len _ (L3 a))]at this
  have:=ae_ h.own (g:=g) rfl (j*257+i) u (by rw[n l h.len j a i c];exact b)
  rwa [l8,m0]at this
theorem PnAt.same {w w':World}{B:Nat}{v:Value}{l:List (Nat×By)}(h:PnAt w B v l)(_hs:w.heap.size<=w'.heap.size)(b:∀k,v.ownBlock=some k->w'.heap[k]?=w.heap[k]?):PnAt w' B v l:=by
 refine⟨⟨h.own.1,?_⟩,h.len⟩;rcases h.own.2 with c|⟨g,cap,cur,hv,a,d,r⟩
 ·exact .inl c
 ·exact .inr ⟨g,cap,cur,hv,a,by rw[b g (by rw[hv];rfl)];exact d,r⟩
theorem yj.keep {B:Nat}{w w':World}{v:Dev}{d:PD}(h:yj B w v d)(hs:w.heap.size<=w'.heap.size)(a:∀k∈v.foot,w'.heap[k]?=w.heap[k]?):yj B w' v d:=
 ⟨by rw[a _ v.p_foot];exact h.blk,h.lim,h.nilp,by have:=h.map;unfold xV at this⊢;rw[a _ v.M_foot];exact this,h.dur,h.durL,h.pend.same hs λk b=>a k (v.pv_foot b),h.n1,h.n2,h.few,h.pB,h.MB⟩
theorem yj.below {B:Nat}{w w':World}{v:Dev}{d:PD}(h:yj B w v d)(a:Below w.heap.size w w'):yj B w' v d:=h.keep a.size λk b=>a.block k (h.foot_lt k b).2
theorem yj.kept {B:Nat}{w w':World}{v:Dev}{d:PD}{F:List Nat}(h:yj B w v d)(a:Kept F w w')(c:∀k∈v.foot,k∉F):yj B w' v d:=h.keep a.size λk b=>a.block k (h.foot_lt k b).2 (c k b)
theorem yj.p_ne {B w v d}(h:yj B w v d):v.p≠v.M/\∀k,v.pv.ownBlock=some k->v.p≠k/\v.M≠k:=by
 have b:=h.map;unfold xV at b;refine⟨λe=>?_,λk a=>?_⟩
 ·have h2:=h.blk;grind
 rcases h.pend.own.2 with⟨c,_⟩|⟨g,cap,cur,hv,_,f,_⟩
 ·rw[c]at a;cases a
 ·rw[hv]at a;cases a
  refine⟨λe=>?_,λe=>?_⟩
  ·have:=h.blk;grind
  grind
theorem yj.fld {B w w' v d}(h:yj B w v d)(b:Kept [v.p] w w')(ops lim:Int)(lm dn)(hl:∀k:Nat,lm=some k->lim=k/\k<=4611686018427387904)
  (g:w'.heap[v.p]?=some (.cells (yB { v with ops:=ops,lim:=lim } { d with lim:=lm,down:=dn }) 90 (0,0))):yj B w' { v with ops:=ops,lim:=lim } { d with lim:=lm,down:=dn }:=
 have a:=h.p_ne
 ⟨g,hl,h.nilp,by have c:=h.map;unfold xV at c⊢;exact(b.block v.M h.map.lt (by simp;exact λe=>a.1 e.symm)).trans c,h.dur,h.durL,
  h.pend.same b.size λk f=>b.block k (s5 h.pend.own k f).2 (by simp;exact λe=>(a.2 k f).1 e.symm),h.n1,h.n2,h.few,h.pB,h.MB⟩
theorem qC (w g j v):Kept [g] w (w.setCell ⟨g,j,none⟩ v):=
 ⟨rfl,rfl,rfl,by simp[World.setCell],λk _ a=>heap_setCell_other w ⟨g,j,none⟩ k v (by simpa using a)⟩
def xQy (w:World):Dev:=⟨w.heap.size+1,w.heap.size,.slice none 0 0,[],0,0,0⟩
theorem yHf (n w)(a:1<=n/\n<=4096):yj w.heap.size ((w.alloc (.map #[] 0)).alloc (.cells #[.int .i64 n,.map (some w.heap.size),.slice none 0 0,.int .i64 0,.bool false,.int .i64 0,.bool false] 90)) (xQy w) (PD.fresh n):=by
 refine⟨?_,?_,?_,?_,?_,?_,?_,?_,?_,?_,?_,?_⟩
 ·have:=heap_alloc_new (w.alloc (.map #[] 0)) (.cells #[.int .i64 n,.map (some w.heap.size),.slice none 0 0,.int .i64 0,.bool false,.int .i64 0,.bool false] 90);rw[U7]at this;exact this
 ·intro k b;cases b
 ·intro _;rfl
 ·unfold xV;show ((w.alloc (.map #[] 0)).alloc _).heap[w.heap.size]?=_
  rw[heap_alloc_old _ _ (by simp),heap_alloc_new];rfl
 ·intro s;rfl
 ·intro s;exact bb_
 ·exact⟨D1 _ _ _ _,λx hx=>by cases hx⟩
 ·exact a.1
 ·exact a.2
 ·exact n3 _
 ·exact Nat.le_succ _
 ·exact w_ _
theorem xVr (n:Nat)(w)(a:1<=n/\n<=4096):Calls prog 19 #[.int .i64 n] w λe w'=>
  e=.returned (.tuple #[.pointer (some ⟨w.heap.size+1,0,none⟩),.int .i64 0])/\Below w.heap.size w w'/\yj w.heap.size w' (xQy w) (PD.fresh n):=by
 have f:=@run_makeMap prog;have b:=((z_ w.heap.size w).alloc (w_ _) (.map #[] 0)).alloc (by simp) (.cells #[.int .i64 n,.map (some w.heap.size),.slice none 0 0,.int .i64 0,.bool false,.int .i64 0,.bool false] 90);have d:=h_ b;have c:=h_ (yHf n w a);have h1:¬ (n:Int)<1:=by omega
 have h2:¬ (n:Int)>4096:=by omega
 clear b a;go_enter func19,ntmps19;go_wp2;go_ret2;exact⟨rfl,d.out,c.out⟩
theorem qA {B w v d}(h:yj B w v d):Calls prog 30 #[.pointer (some ⟨v.p,0,none⟩)] w λe w'=>e=.returned (.int .i64 d.n)/\w=w':=by
 have c0:=cell_of_row w v.p 0 _ _ _ h.blk;simp only[yB]at c0;obtain⟨n,a⟩:∃n:Int,n=d.n:=⟨_,rfl⟩;rw[<-a]at c0⊢;clear h a;go_enter func30,ntmps30;go_wp2;go_ret;exact⟨rfl,rfl⟩
theorem xVq {B w v d}(h:yj B w v d):Calls prog 31 #[.pointer (some ⟨v.p,0,none⟩)] w λe w'=>e=.returned (.bool d.down)/\w=w':=by
 have b:=cell_of_row w v.p 6 _ _ _ h.blk;simp only[yB]at b;obtain⟨n,a⟩:∃n,n=d.down:=⟨_,rfl⟩;rw[<-a]at b⊢;clear h a;go_enter func31,ntmps31;go_wp2;go_ret;exact⟨rfl,rfl⟩
theorem xZo {B w v d}(h:yj B w v d)(s):Calls prog 188 #[.pointer (some ⟨v.p,0,none⟩),.int .i64 s] w λe w'=>e=.returned (.bool (decide (0<=s/\s<d.n)))/\w=w':=by
 have c0:=cell_of_row w v.p 0 _ _ _ h.blk;simp only[yB]at c0;obtain⟨n,a⟩:∃n:Int,n=d.n:=⟨_,rfl⟩;rw[<-a]at c0⊢;clear h a;by_cases h0:0<=s
 ·by_cases h1:s<n
  ·rw[decide_eq_true ⟨h0,h1⟩];go_enter func188,ntmps188;go_wp2;go_ret;exact⟨rfl,rfl⟩
  ·rw[decide_eq_false (λh=>h1 h.2)];go_enter func188,ntmps188;go_wp2;go_ret;exact⟨rfl,rfl⟩
 ·rw[decide_eq_false (λh=>h0 h.1)];go_enter func188,ntmps188;go_wp2;go_ret;exact⟨rfl,rfl⟩
theorem xLq {w b a g}(h:Kept [g] w b)(d:Kept [g] b a):Kept [g] w a:=h.trans d λ_ c=>.inl c
theorem xN7 {B w v d}(h:yj B w v d):Calls prog 7 #[.pointer (some ⟨v.p,0,none⟩),.int .i64 (-1)] w λe w'=>e=.returned (.tuple #[])/\Kept [v.p] w w'/\yj B w' { v with lim:=0 } { d with lim:=none }:=by
 have c4:=cell_of_row w v.p 4 _ _ _ h.blk;have n:=frozen_of_row w v.p 4 _ _ h.blk;have f:=heap_setCell_same w v.p 4 _ _ (.bool false) h.blk;obtain⟨a,g⟩:∃a,a=w.setCell ⟨v.p,4,none⟩ (.bool false):=⟨_,rfl⟩;have c:Kept [v.p] w a:=by grind
 rw[<-g]at f;have c5:=cell_of_row a v.p 5 _ _ _ f;have m:=frozen_of_row a v.p 5 _ _ f;have j:=heap_setCell_same a v.p 5 _ _ (.int .i64 0) f;have b:=xLq c (qC a v.p 5 (.int .i64 0));have i:=h.fld b v.ops 0 none d.down (λ_ e=>by cases e) (by rw[j];rfl);have k:=h_ b;have l:=h_ i;simp only[yB]at c4 c5;rw[g]at c5 m k l;clear h f j c b i g a;go_enter func7,ntmps7;go_wp2;go_end0;exact⟨rfl,k.out,l.out⟩
def xH4 (B:Nat)(v:Dev)(d:PD)(w:World)(e:Ending)(w':World):Prop:=e=.returned (.bool d.oper.2)/\Kept [v.p] w w'/\∃ops lim,yj B w' { v with ops:=ops,lim:=lim } d.oper.1
theorem xIx {B w v d}(h:yj B w v d):Calls prog 124 #[.pointer (some ⟨v.p,0,none⟩)] w (xH4 B v d w):=by
 have c3:=cell_of_row w v.p 3 _ _ _ h.blk;have c4:=cell_of_row w v.p 4 _ _ _ h.blk;have c5:=cell_of_row w v.p 5 _ _ _ h.blk;have n:=cell_of_row w v.p 6 _ _ _ h.blk;have r:=frozen_of_row w v.p 3 _ _ h.blk;have q:=frozen_of_row w v.p 5 _ _ h.blk;have f6:=frozen_of_row w v.p 6 _ _ h.blk;cases hl:d.lim with
 |none=>
  have ho:d.oper=(d,true):=by grind [PD.oper]
  have a:=heap_setCell_same w v.p 3 _ _ (.int .i64 (wrap64 (v.ops+1))) h.blk;have c:=h.fld (qC w v.p 3 (.int .i64 (wrap64 (v.ops+1)))) (wrap64 (v.ops+1)) v.lim d.lim d.down h.lim (by rw[a];rfl);have g:=h_ (show xH4 B v d w (.returned (.bool true)) (w.setCell ⟨v.p,3,none⟩ (.int .i64 (wrap64 (v.ops+1))))from ⟨by rw[ho],qC w v.p 3 _,_,_,by rw[ho];exact c⟩);simp only[yB,hl]at c3 c4;clear h a c ho hl c5 n q f6;go_enter func124,ntmps124;go_wp2;go_ret;exact g.out
 |some k=>
  obtain⟨l,u⟩:=h.lim k hl;cases k with
  |zero=>
   have ho:d.oper=({ d with down:=true },false):=by unfold PD.oper;rw[hl]
   have a:=heap_setCell_same w v.p 6 _ _ (.bool true) h.blk;have c:=h.fld (qC w v.p 6 (.bool true)) v.ops v.lim d.lim true h.lim (by rw[a];rfl);have g:=h_ (show xH4 B v d w (.returned (.bool false)) (w.setCell ⟨v.p,6,none⟩ (.bool true))from ⟨by rw[ho],qC w v.p 6 _,_,_,by rw[ho];exact c⟩);simp only[yB,hl,l]at c4 c5 n;clear h a c ho hl c3 r q l u;go_enter func124,ntmps124;go_wp2;go_ret;exact g.out
  |succ k=>
   have ho:d.oper=({ d with lim:=some k },true):=by unfold PD.oper;rw[hl]
   have a:=heap_setCell_same w v.p 5 _ _ (.int .i64 k) h.blk;obtain⟨b,m⟩:∃b,b=w.setCell ⟨v.p,5,none⟩ (.int .i64 k):=⟨_,rfl⟩;have i:Kept [v.p] w b:=by grind
   rw[<-m]at a;have t:=cell_of_row b v.p 3 _ _ _ a;have A:=frozen_of_row b v.p 3 _ _ a;have s:=heap_setCell_same b v.p 3 _ _ (.int .i64 (wrap64 (v.ops+1))) a;have f:=xLq i (qC b v.p 3 (.int .i64 (wrap64 (v.ops+1))));have c:=h.fld f (wrap64 (v.ops+1)) k (some k) d.down (λj e=>by cases e;exact⟨rfl,by omega⟩) (by rw[s];unfold yB;rw[hl];rfl);have g:=h_ (show xH4 B v d w (.returned (.bool true)) (b.setCell ⟨v.p,3,none⟩ (.int .i64 (wrap64 (v.ops+1))))from ⟨by rw[ho],f,_,_,by rw[ho];exact c⟩);obtain⟨z,o⟩:∃z:Int,z=((k+1:Nat):Int):=⟨_,rfl⟩;obtain⟨y,hy⟩:∃y:Int,y=(k:Int):=⟨_,rfl⟩;have x:(z==0)=false:=by grind
   have D:z-1=y:=by omega
   have E:z<=4611686018427387904:=by omega
   have C:0<=z:=by omega
   rw[<-o]at l;rw[<-hy]at m;simp only[yB,hl,l]at t c4 c5;rw[m]at t A g;clear h a s i f c ho hl c3 n r f6 l u m o hy;go_enter func124,ntmps124;go_wp2;go_ret;exact g.out
section
abbrev Sec:Type:={ b:By // b.length=256 }
abbrev Yl:Type:=Int×Nat×Sec
def xPy (x:Yl):Array Value:=#[.int .i64 x.1,.agg (xW x.2.1 x.2.2.1)]
def plain (x:Yl):Nat×By:=(x.2.1,x.2.2.1)
def secZ:Sec:=⟨zer,bb_⟩
def typed (l:List (Nat×By)):List (Nat×Sec):=l.map λx=>(x.1,if h:x.2.length=256 then ⟨x.2,h⟩else secZ)
def kc (l:List (Nat×By)):List Yl:=(List.range l.length).map λk=>(((l.length-1-k:Nat):Int),(typed l).getD (l.length-1-k) (0,secZ))
theorem vd (l):(kc l).length=l.length:=by simp[kc]
theorem yAk (l)(hl:∀x∈l,x.2.length=256)(k)(a:k<l.length):((typed l).getD k (0,secZ)).1=l[k].1/\((typed l).getD k (0,secZ)).2.1=l[k].2:=by
 have h1:(typed l)[k]?=some (l[k].1,if h:l[k].2.length=256 then ⟨l[k].2,h⟩else secZ):=by grind [typed,List.getElem?_eq_getElem]
 grind
theorem xPk (l)(hl:∀x∈l,x.2.length=256)(k)(a:k<l.length):
  ((kc l)[k]'(by rw[vd];exact a)).1=((l.length-1-k:Nat):Int)/\plain ((kc l)[k]'(by rw[vd];exact a))=l[l.length-1-k]'(by omega):=by
 have h2:=yAk l hl (l.length-1-k) (by omega);unfold kc plain;simp only[bj_,List.getElem_range];exact⟨trivial,Prod.ext h2.1 h2.2⟩
theorem xJu (l)(hl:∀x∈l,x.2.length=256):(kc l).map plain=l.reverse:=by
 apply ci_
 ·simp[vd]
 grind [vd,xPk]
theorem xGv (ro)(ρ:Operand->Value)(d x)(ty:TypeId)(pos af g w):
  Sem.run prog (Oper.semAt ro ρ ⟨d,.load 115 x,ty,pos,af,g⟩) w=yq prog 115 w (ρ x):=by
 rw[an_ _ _ _ (by intro c h;cases h)]
 exact vM ..
theorem xNx (ro)(ρ:Operand->Value)(d x y)(ty:TypeId)(pos af g w):
  Sem.run prog (Oper.semAt ro ρ ⟨d,.store 115 x y,ty,pos,af,g⟩) w=yi prog 115 w (ρ x) (ρ y):=by
 rw[an_ _ _ _ (by intro c h;cases h)]
 exact qR ..
theorem xS0 (ro)(ρ:Operand->Value)(d x)(ty:TypeId)(pos af g w):
  Sem.run prog (Oper.semAt ro ρ ⟨d,.load 111 x,ty,pos,af,g⟩) w=yq prog 111 w (ρ x):=by
 rw[an_ _ _ _ (by intro c h;cases h)]
 exact vP ..
theorem xNy (ro)(ρ:Operand->Value)(d x y)(ty:TypeId)(pos af g w):
  Sem.run prog (Oper.semAt ro ρ ⟨d,.store 111 x y,ty,pos,af,g⟩) w=yi prog 111 w (ρ x) (ρ y):=by
 rw[an_ _ _ _ (by intro c h;cases h)]
 exact qV ..
theorem xNz (ro)(ρ:Operand->Value)(d)(ty:TypeId)(pos af g w):
  Sem.run prog (Oper.semAt ro ρ ⟨d,.alloc 115,ty,pos,af,g⟩) w=.ok (.value (.pointer (some ⟨w.heap.size,0,none⟩))) (w.alloc (.cells (xW 0 zer) 115)):=by
 rw[an_ _ _ _ (by intro c h;cases h)]
 exact qX ..
theorem xSe (va vn vc w):Calls prog 215 #[.slice va vn vc] w λr w'=>r=.returned (.func (.func 243) #[] #[.pointer (some ⟨w.heap.size,0,none⟩)])/\w.alloc (.cells #[.slice va vn vc] 88)=w':=by
 go_enter func215,ntmps215;go_wp2;go_ret;exact⟨rfl,rfl⟩
attribute [local go_sem ↓] xGv
attribute [local go_sem] xHt xh xg xe xd
theorem xWk {w g off s b}(d:b.length=256)(h:∀i u,(zF s b)[i]?=some u->w.cell? ⟨g,off+i,none⟩=some u):xp w ⟨g,off,none⟩ 257=true/\xo w ⟨g,off,none⟩ 257=xW s b:=by
 have:=yl (w:=w) (a:=⟨g,off,none⟩) (cs:=zF s b) (λj v c=>by rw[l8];exact h j v c);rw[uN d]at this;exact this
theorem yI4 (n a B v l w)(H:w.cell? ⟨a,0,none⟩=some v)(o:PnAt w B v l)(hl:l.length<=1000000)(hn:1<=n):
  SeqStopsK Fence.wide n prog 243 #[.pointer (some ⟨a,0,none⟩)] xPy (Below w.heap.size) (λxs=>xs.map plain=l.reverse) (λpre=>∃k,pre.map plain=l.reverse.take k) l.length w:=λy J Jx W G hJ Ug F d=>by
 have P:=o.len;have O:a<w.heap.size:=by grind
 have HP:=h_ o;have S:=h_ G;have R:=h_ F;have U:=h_ d;have c0:W.cell? ⟨a,0,none⟩=some v:=by grind
 clear o G F d hJ Ug;refine callsIn_of_wp func243 rfl trivial ?_ rfl;simp only[ntmps243,T9,x5,L1,Nat.reduceAdd,Nat.reduceSub,aO_,aP_,bd_,aR_,E8,L2];rcases HP.at with⟨rfl,rfl⟩|⟨g,cap,rfl,wN,dI,bj,dH,Q⟩
 ·gi_wp2
  gi_loopw [3] (λu wr=>u=.int .i64 (-1)/\J [] wr) (λ_ _=>0)
  case atStart=>exact⟨rfl,U.out⟩
  case round=>
   obtain⟨rfl,RY⟩:=hrel
   gi_wp2
   go_end0;exact⟨⟨_,rfl⟩,.inl ⟨[],rfl,RY⟩⟩
 ·have hg:g<W.heap.size:=by grind
  have HC:Hid (∀j (d:j<l.length) i u,(zF l[j].1 l[j].2)[i]?=some u->w.cell? ⟨g,j*257+i,none⟩=some u):=h_ Q;have h:=h_ P;obtain⟨N,r⟩:∃N,N=l.length:=⟨_,rfl⟩;rw[<-r]at hl bj c0 R H;have T:=h_ r;have TV:(N:Int)<=1000000:=by omega
  clear Q P r H
  gi_wp2
  gi_loopw [3] (λu wr=>∃k:Nat,u=.int .i64 ((N:Int)-1-k)/\k<=N/\Hid (J ((kc l).take k) wr)/\Hid (Below w.heap.size w wr)) (λu _=>(intOf u+1).toNat)
  case atStart=>exact⟨0,by go_num,n3 _,U,S⟩
  case round=>
   obtain⟨k,rfl,hk,z,t⟩:=hrel;have C:=(t.cell (p:=⟨a,0,none⟩) O).trans ((S.cell (p:=⟨a,0,none⟩) O).symm.trans c0);by_cases hlt:k<N
   ·have f:(0:Int)<=(N:Int)-1-k:=by omega
    obtain⟨j,d⟩:∃j:Nat,j=N-1-k:=⟨_,rfl⟩;have Zp:(N:Int)-1-k=(j:Int):=by omega
    have Y:j<N:=by omega
    have m:j<l.length:=by grind
    obtain⟨o1,d1⟩:=xWk (w:=wr) (g:=g) (off:=j*257) (s:=l[j].1) (b:=l[j].2) (h.out _ (L3 m)) (λi u X=>(t.cell (p:=⟨g,j*257+i,none⟩) dI).trans (HC.out j m i u X));have A:k<(kc l).length:=by grind [vd]
    have bT:=xPk l h.out k (by rw[<-T.out];exact hlt);obtain⟨x,hx⟩:∃x,x=(kc l)[k]:=⟨_,rfl⟩;have Z:N-1-k<l.length:=by omega
    have I:x.1=(j:Int):=by grind
    have K:xW x.2.1 x.2.2.1=xW l[j].1 l[j].2:=by grind [plain]
    rw[<-K]at d1;have L:Hid ((kc l).take (k+1)=(kc l).take k++[x]):=h_ (by rw[d0 A,hx]);have c:((kc l).take k).length<N:=by grind
    obtain⟨fn,tmps,assign,body,hy,q⟩:=R.out _ x wr z.out c;unfold xPy at hy;rw[I]at hy;rw[Zp];have E:(j:Int)<(N:Int):=by omega
    clear bT I K c hx Z A m d z f;generalize xW x.2.1 x.2.2.1=cs at d1 hy
    gi_wp2
    refine q.mono ?_;rintro e W3 (⟨rfl,V,M⟩|⟨rfl,D⟩)
    ·have aJ:=h_ (t.trans (M.mono (w_ _)));have AD:=h_ V;clear hy q d1 o1 C M V
     gi_wp2
     go_roundw
     case rel=>exact⟨k+1,by congr 1;omega,by omega,by rw[L.out];exact AD,aJ⟩
     case measure=>simp only[intOf];omega
    ·have AV:=h_ D;clear hy q d1 o1 C D
     gi_wp2
     refine bodyPost_ret (results_none rfl _ _ _) rfl ?_;refine⟨⟨_,rfl⟩,.inr ⟨(kc l).take k++[x],⟨k+1,?_⟩,AV.out⟩⟩;rw[<-L.out,aI_,xJu l h.out]
   ·obtain rfl:k=N:=by omega
    have f:¬ (0:Int)<=(k:Int)-1-k:=by omega
    gi_wp2
    go_end0;have HT:(kc l).take k=kc l:=v6 (by rw[vd,<-T.out];exact w_ _);exact⟨⟨_,rfl⟩,.inl ⟨kc l,xJu l h.out,HT▸z.out⟩⟩
end
section
attribute [local go_sem ↓] xP xI yp y8 ym yw
attribute [local go_sem] zg zj zC zA yM xh xg xe xd xx xy xk xj xq xB xw
theorem xOe (B v ms n w)(h:zp B w v ms)(a:ms.length<=65536)(hs:(nums ms).Pairwise (· < ·)):
  Calls prog 41 #[v,.int .i64 n] w λr w'=>r=.returned (.tuple #[.int .i64 (posN (nums ms) n),.bool (uU ms n)])/\Below w.heap.size w w':=by
 refine(xF6 B v ms n w h a hs).mono ?_;rintro r w' ⟨i,b,rfl,c⟩;rw[xU3 b];exact⟨rfl,c⟩
theorem xAi {ns}(hs:ns.Pairwise (· < ·))(n):uM ns n (posN ns n) (posN ns n):=by
 unfold posN;induction ns with
 |nil=>exact⟨w_ _,w_ _,λk h=>absurd h (by simp),λk h=>absurd h (by simp)⟩
 |cons a ns ih=>
  rw[aV_]at hs;obtain⟨_,h2,h3,h4⟩:=ih hs.2;by_cases ha:a<n
  ·rw[List.countP_cons_of_pos (by simpa using ha)];refine⟨w_ _,by simpa using h2,λk b c=>?_,λk b c=>?_⟩
   ·grind
   grind
  ·rw[List.countP_cons_of_neg (by simpa using ha)];have d:ns.countP (λk=>decide (k<n))=0:=by grind
   rw[d];refine⟨w_ _,n3 _,λk _ b=>absurd b (aY_ _),λk b _=>?_⟩;cases k with
   |zero=>simp;omega
   |succ k=>
    grind
theorem yFm (B ib M mc gs s x w)(h:y5 B w ib M gs mc):
  Calls prog 236 #[.pointer (some ⟨ib,0,none⟩),.string s,.agg (xl x).toArray] w λr w'=>xWh (xC gs s) x w r w':=by
 by_cases hne:xC gs s=[]
 ·refine(xY6 B ib M mc gs s x w h hne).mono ?_;rintro r w'⟨rfl,b⟩;exact⟨.inl ⟨λm a=>absurd (hne▸a) (by simp),rfl⟩,b⟩
 ·grind [yFl]
def xDb (ms:List ML)(x:Id32):Bool:=ms.any λm=>decide (m.p.id=x)
def jl (ms:List ML)(s:ByteArray)(p:qx):Int:=if zB s≠0 then zB s else if pErr p≠0 then pErr p else if uU ms p.number||xDb ms p.id then 7 else 0
structure xJz (B ib M:Nat)(gs:List MG)(s:ByteArray)(p:qx)(w w':World)(gs':List MG)(mc':Nat):Prop where
 idx:y5 B w' ib M gs' mc'
 kept:Kept (foot ib M gs) w w'
 foot:xFq (Go.Proofs.YtdhapkeimaljfaaGreatDoor.foot ib M gs) (Go.Proofs.YtdhapkeimaljfaaGreatDoor.foot ib M gs') w
 lines:∃v,(∀k,v.ownBlock=some k->w.heap.size<=k)/\∀t,xC gs' t=if t=s then qw (xC gs s) (posN (nums (xC gs s)) p.number) ⟨p,v⟩else xC gs t
 tot:total gs'=total gs+1
def yIh (B ib M:Nat)(gs:List MG)(s:ByteArray)(p:qx)(w:World)(r:Ending)(w':World):Prop:=
 r=.returned (.int .i64 (jl (xC gs s) s p))/\((jl (xC gs s) s p≠0/\Below w.heap.size w w')\/(jl (xC gs s) s p=0/\∃gs' mc',xJz B ib M gs s p w w' gs' mc'))
theorem xM4 {ms}(h:∀m∈ms,m.v.oneCell'=true):∀u∈yy ms,u.oneCell'=true:=by
 intro u a;unfold yy at a;obtain⟨m,b,a⟩:=aJ_.1 a;exact uA (g:=m.g) (h m b) u a
structure S21 (B ib gb nb lb tot M:Nat)(vL:Value)(ms:List ML)(nl:List (KE Id32))(nc:Nat)(g:jp)(ids:List Id32)(w:World):Prop where
 grp:w.heap[gb]?=some (.cells #[vL,.map (some nb)] 176 (0,0))
 num:xV ekI w nb nl nc
 lines:zp B w vL ms
 line:y4 w lb g
 idx:w.heap[ib]?=some (.cells #[.map (some M),.int .i64 tot] 129 (0,0))
 vlb:vL.ownBlock≠some lb
 refs:yJ 0 w g.refs ids
def Cls (gb lb:Nat)(vL:Value)(g:jp):Type:={ w:World // w.cell? ⟨gb,0,none⟩=some vL/\y4 w lb g }
theorem xBh {a b}{s t:TypeId}{f f'}(h:some (Obj.cells a s f)=some (.cells b t f')):s=t:=by cases h;rfl
theorem S21.lts {B ib gb nb lb tot M vL ms nl nc g ids w}(h:S21 B ib gb nb lb tot M vL ms nl nc g ids w):gb<w.heap.size/\nb<w.heap.size/\lb<w.heap.size/\ib<w.heap.size:=
 ⟨(i_ h.grp).1,h.num.lt,h.line.lt,(i_ h.idx).1⟩
theorem S21.cls {B ib gb nb lb tot M vL ms nl nc g ids w w'}(h:S21 B ib gb nb lb tot M vL ms nl nc g ids w)(a:Below w.heap.size w w'):w'.cell? ⟨gb,0,none⟩=some vL/\y4 w' lb g:=
 ⟨cell_of_row w' gb 0 _ _ _ ((a.block gb h.lts.1).trans h.grp),h.line.below a h.lts.2.2.1⟩
theorem S21.apart {B ib gb nb lb tot M vL ms nl nc g ids w}(h:S21 B ib gb nb lb tot M vL ms nl nc g ids w):
  vL.ownBlock≠some gb/\nb≠gb/\lb≠gb/\lb≠nb/\vL.ownBlock≠some nb/\vL.ownBlock≠some ib/\ib≠gb/\ib≠nb/\lb≠ib:=by
 have a:=h.num;have hl:=h.line;unfold xV at a;unfold y4 at hl;refine⟨λe=>?_,λe=>?_,λe=>?_,λe=>?_,λe=>?_,λe=>?_,λe=>?_,λe=>?_,λe=>?_⟩
 ·obtain⟨c,h1⟩:=xS h.lines.row e;rw[h.grp]at h1;cases h1
 ·rw[e,h.grp]at a;cases a
 ·rw[e,h.grp]at hl;exact absurd (xBh hl) (by decide)
 ·rw[e,a]at hl;cases hl
 ·obtain⟨c,h1⟩:=xS h.lines.row e;rw[a]at h1;cases h1
 ·obtain⟨c,h1⟩:=xS h.lines.row e;rw[h.idx]at h1;cases h1
 ·have:=h.idx;rw[e,h.grp]at this;cases this
 ·have:=h.idx;rw[e,a]at this;cases this
 ·rw[e,h.idx]at hl;exact absurd (xBh hl) (by decide)
structure S24 (B ib gb nb tot M:Nat)(vL v':Value)(ms':List ML)(nl:List (KE Id32))(nc:Nat)(w6 w':World):Prop where
 grp:w'.heap[gb]?=some (.cells #[v',.map (some nb)] 176 (0,0))
 num:xV ekI w' nb nl nc
 lines:zp B w' v' ms'
 idx:w'.heap[ib]?=some (.cells #[.map (some M),.int .i64 ((tot+1:Nat):Int)] 129 (0,0))
 own:v'.ownBlock=vL.ownBlock\/∃k,v'.ownBlock=some k/\w6.heap.size<=k
 kept:Kept (ib :: ([gb,nb]++vL.ownBlock.toList)) w6 w'
theorem yJ.typed {B w v ids}(h:yJ B w v ids){k}(a:v.ownBlock=some k):∃cur,w.heap[k]?=some (.cells cur 42 (0,0)):=xS h a
theorem yCt {B ib M mc gs s p w l w'}(h:y5 B w ib M gs mc)(o:Below w.heap.size w l){G}(g:yd gs s=some G){v' v}(hv:∀k,v.ownBlock=some k->w.heap.size<=k)(n:uU (xC gs s) p.number=false)(c:xDb (xC gs s) p.id=false)(u:pErr p=0)(C:total gs<65536)
  (hs:S24 B ib G.gb G.nb (total gs) M G.v v' (qw G.ms (posN (nums (xC gs s)) p.number) ⟨p,v⟩) (G.nl++[⟨p.id,.int .i64 p.number,G.nc⟩]) (G.nc+1) l w'):∃gs' mc',xJz B ib M gs s p w w' gs' mc':=by
 obtain⟨r,E⟩:=yH g;have y:xC gs s=G.ms:=by grind [xC]
 have f:=h.grps G r;have j:=xAi (h.sorted s) p.number;rw[y]at n c j hs;have A:posN (nums G.ms) p.number<=G.ms.length:=by have:=j.2.1;rwa [yV]at this
 have d:=f.pure.add (i:=posN (nums G.ms) p.number) (m:=⟨p,v⟩) G.nc j n (λx hx e=>by
  unfold xDb at c;rw[ce_]at c;exact c x hx (by simpa using e)) u
 obtain⟨G',a⟩:∃G':MG,G'=⟨G.name,G.born,G.gb,G.nb,v',qw G.ms (posN (nums G.ms) p.number) ⟨p,v⟩,G.nl++[⟨p.id,.int .i64 p.number,G.nc⟩],G.nc+1⟩:=⟨_,rfl⟩;have z:ui B w' G':=by
  rw[a];exact⟨hs.grp,hs.lines,hs.num,d.agree,d.ids,d.sorted,d.good,f.named,by unfold qw;simp,f.gbB,f.nbB⟩
 have ht:=xCr (G':=G') h.names g;have D:G'.ms.length=G.ms.length+1:=by grind [xCe]
 have q:total (qz gs s G')=total gs+1:=by omega
 have b:Kept (ib :: G.foot) w w':=by
  refine Kept.trans (F:=ib :: G.foot) (F':=ib :: G.foot) (Kept.of_below o) ?_ (λk b=>.inl b);exact hs.kept
 have:=h.upd (w':=w') (G':=G') g (by rw[a]) (by rw[a]) (by rw[a]) (by rw[a]) (by
   rw[a];rcases hs.own with h1|⟨k,h1,h2⟩
   ·exact .inl h1
   ·exact .inr ⟨k,h1,by have:=o.size;omega⟩) z (by rw[q];exact hs.idx) b (by omega)
 refine⟨_,mc,this.1,b.mono λk b _=>?_,this.2,⟨v,hv,λt=>?_⟩,q⟩
 ·grind [foot,List.mem_cons.1,List.mem_cons.2,List.mem_flatMap.2]
 ·grind [xEs]
theorem yCu {B ib M mc gb nb gs s p w b w'}(h:y5 B w ib M gs mc)(q:yd gs s=none){v' v}(hv:∀k,v.ownBlock=some k->w.heap.size<=k)(o:zB s=0)(n:pErr p=0)(I:total gs<65536)
  (g:Kept [M] w b) (f:xV ekS b M (gs.map MG.e++[⟨s,.pointer (some ⟨gb,0,none⟩),mc⟩]) (mc+1)) (L:w.heap.size<=gb) (C:w.heap.size<=nb) (E:gb≠nb) (H:gb<b.heap.size) (G:nb<b.heap.size) (l:ib≠M)
  (hs:S24 B ib gb nb (total gs) M (.slice none 0 0) v' (qw [] (posN (nums (xC gs s)) p.number) ⟨p,v⟩) ([]++[⟨p.id,.int .i64 p.number,0⟩]) (0+1) b w'):∃gs' mc',xJz B ib M gs s p w w' gs' mc':=by
 have r:xC gs s=[]:=by grind [xC]
 have D:B<=w.heap.size:=by have:=h.foot_lt ib (by simp[foot]);omega
 have K:=h.map.lt;rw[r]at hs;have d:=jH.nil.add (i:=0) (m:=⟨p,v⟩) 0 ⟨w_ _,w_ _,λk h=>absurd h (by simp[nums]),λk h=>absurd h (by simp[nums])⟩ rfl (λx hx=>by cases hx) n;obtain⟨G',c⟩:∃G':MG,G'=⟨s,mc,gb,nb,v',qw [] (posN (nums []) p.number) ⟨p,v⟩,[]++[⟨p.id,.int .i64 p.number,0⟩],0+1⟩:=⟨_,rfl⟩;have u:ui B w' G':=by
  rw[c];exact⟨hs.grp,hs.lines,hs.num,d.agree,d.ids,d.sorted,d.good,o,by unfold qw;simp,by simp;omega,by simp;omega⟩
 have J:∀k,v'.ownBlock=some k->b.heap.size<=k:=by
  intro k a;rcases hs.own with h1|⟨k',h1,h2⟩
  ·rw[h1]at a;cases a
  grind
 have A:∀k∈G'.foot,w.heap.size<=k:=by grind [MG.foot,List.mem_nil_iff]
 have z:G'.foot.Nodup:=by grind [MG.foot,hv]
 have j:total (gs++[G'])=total gs+1:=by rw[yAl,c];rfl
 have a:Kept [ib,M] w w':=by
  refine Kept.trans (F:=[ib,M]) (g.mono λk a _=>by simp at a⊢;exact .inr a) hs.kept (λk a=>?_);grind [Value.ownBlock,Option.toList_none,List.mem_nil_iff]
 have y:xV ekS w' M ((gs++[G']).map MG.e) (mc+1):=by
  unfold xV at f⊢;rw[hs.kept.block M (by have:=g.size;omega) (by simp[Value.ownBlock];exact⟨λe=>l e.symm,by omega,by omega⟩),f,c];simp only[L8];rfl
 have:=h.new (w':=w') (G':=G') q (by rw[c]) (by rw[c]) A z u (by rw[j];exact hs.idx) y a (by omega);refine⟨_,mc+1,this.1,a.mono λk a _=>?_,this.2,⟨v,hv,λt=>?_⟩,j⟩
 ·grind [foot,List.mem_nil_iff]
 ·grind [xUl]
theorem yI8 (B ib M mc gs s p v0 w)(hG:Gl w)(h:y5 B w ib M gs mc)(hs:s.size<=maxLen)(hO:xId w (ML.g ⟨p,v0⟩) p.ids)(hI:yJ 0 w v0 p.ids)(bO:total gs<65536):
  Calls prog 209 #[.pointer (some ⟨ib,0,none⟩),.string s,.agg (x9 (ML.g ⟨p,v0⟩))] w λr w'=>yIh B ib M gs s p w r w':=by
 obtain⟨g,I⟩:∃g,g=ML.g ⟨p,v0⟩:=⟨_,rfl⟩;have gB:g.number=p.number:=by rw[I];rfl
 have Fi:g.id=p.id:=by rw[I];rfl
 have N:g.refs=v0:=by rw[I];rfl
 have hge:xGd g p.ids=pErr p:=by rw[I];rfl
 have U:∀v,{ g with refs:=v }=ML.g ⟨p,v⟩:=λv=>by rw[I];rfl
 rw[<-I]at hO⊢;rw[<-N]at hI;have bu:Below w.heap.size w (w.alloc (.cells (x9 g) 70)):=by grind
 have ZJ:y4 (w.alloc (.cells (x9 g) 70)) w.heap.size g:=heap_alloc_new _ _;have Ui:=h_ ZJ;have ei:=h_ bu;have F:=h_ h;have HO:=h_ hO;have HI:=h_ hI;have tP:=h_ U;have V:=h_ gB;have HGI:=h_ Fi;have M8:=h_ hge;clear ZJ bu h hO hI U gB Fi hge I N;go_enter func209,ntmps209;go_wp2_with fail;refine(xEr s _ (hG.later ei.out) hs).mono ?_;rintro r w1 ⟨rfl,aa⟩;have Z:y4 w1 w.heap.size g:=Ui.below aa (by simp);have ez:Below w.heap.size w w1:=by grind
 have aL:w.heap.size<w1.heap.size:=Z.lt;by_cases hne:zB s=0
 case neg=>
  have q:Hid (jl (xC gs s) s p=zB s):=h_ (by unfold jl;rw[if_pos hne]);have aq:=h_ ez;clear aa Z ez Ui ei;generalize zB s=e at hne q⊢;have CU:(e != 0)=true:=by grind
  have Uj:(e==0)=false:=by grind
  go_wp2;go_ret;exact⟨by rw[q.out];try rfl,.inl ⟨by rw[q.out];exact hne,aq.out⟩⟩
 have nX:=h_ hne;rw[hne];obtain⟨o1,d1⟩:=Z.rd;have Me:=h_ Z;have aq:=h_ ez;clear aa Z ez Ui ei;go_wp2_with fail;refine(xNj g p.ids w1 (HO.below aq.out)).mono ?_;rintro r H ⟨rfl,ai⟩;rw[M8.out];have mN:y4 H w.heap.size g:=Me.below ai aL;have dD:Below w.heap.size w H:=by grind
 have dB:w.heap.size<H.heap.size:=mN.lt;clear o1 d1 ai Me aq aL;by_cases hpe:pErr p=0
 case neg=>
  have q:Hid (jl (xC gs s) s p=pErr p):=h_ (by unfold jl;rw[if_neg (by simpa using nX.out),if_pos hpe]);have ax:=h_ dD;clear mN dD;clear hne;generalize pErr p=e at hpe q⊢;have CU:(e != 0)=true:=by grind
  have Uj:(e==0)=false:=by grind
  go_wp2;go_ret;exact⟨by rw[q.out];try rfl,.inl ⟨by rw[q.out];exact hpe,ax.out⟩⟩
 have DN:=h_ hpe;rw[hpe];clear hpe hne;have T:=F.below dD;have n2:∀z:xf H,z.1.cell? ⟨w.heap.size,0,none⟩=some (.int .i64 g.number):=λz=>z.cell ((mN.cell 0).trans (lc0 g))
 have tz:=h_ mN;have ax:=h_ dD;have c1:∀z:xf H,Calls prog 40 #[.pointer (some ⟨ib,0,none⟩),.string s] z.1 λr w'=>r=.returned (qM gs s)/\∃z':xf H,w'=z'.1:=λz=>xf.call ((vJ B ib M mc gs s z.1 (T.below z.2)).mono λ_ _ ⟨a,b⟩=>⟨a,b▸z_ _ _⟩)
 have c2:∀z:xf H,Calls prog 41 #[qM gs s,.int .i64 g.number] z.1 λr w'=>r=.returned (.tuple #[.int .i64 (posN (nums (xC gs s)) g.number),.bool (uU (xC gs s) g.number)])/\∃z':xf H,w'=z'.1:=λz=>xf.call (xOe B _ _ _ z.1 ((T.below z.2).lines s) (T.len s) (T.sorted s))
 obtain⟨va,vc,gW⟩:=jy T s;have tQ:=h_ gW;have C1:=h_ c1;have C2:=h_ c2;clear c1 c2 mN dD T gW;rw[tQ.out]at C1 C2;obtain⟨pos,fT⟩:∃i:Nat,i=posN (nums (xC gs s)) g.number:=⟨_,rfl⟩;rw[<-fT]at C2;have AX:=h_ fT;clear fT;generalize (xC gs s).length=len at C1 C2 tQ;go_wp2_with fail;refine xBo 10 (λw'=>∃z:xf H,w'=z.1) ⟨⟨_,(z_ _ _).drew⟩,rfl⟩ ?_;simp only[aH_,bg_,bR_,aS_]
 repeat (go_big_quiet_step (first|(go_at_call 40;exact C1.out _)|(go_at_call 41;exact C2.out _)))
 refine wpQuiet_nil ?_;rintro _ ⟨z,rfl⟩;clear n2 C1 C2;obtain⟨w3,ao⟩:=z;simp only;have R0:y4 w3 w.heap.size g:=tz.below ao dB;have dl:Below w.heap.size w w3:=by grind
 have iq:w.heap.size<w3.heap.size:=R0.lt;clear tz ax dB ao;obtain⟨o3,d3⟩:=R0.idAt;have HF:=h_ (yFm B ib M mc gs s g.id w3 (F.below dl));have ZK:=h_ R0;have aJ:=h_ dl;have aU:xt 38 (x9 xK)=true:=zJ rfl;have lS:((x9 xK).size==38)=true:=by rw[xO];rfl
 clear R0 dl;go_wp2_with fail;refine HF.mono ?_;rintro r D ⟨fS,aQ⟩;have K5:y4 D w.heap.size g:=ZK.below aQ iq;have K6:Below w.heap.size w D:=by grind
 have fF:w.heap.size<D.heap.size:=K5.lt;clear o3 d3 HF ZK aJ aQ iq;have Ii:∃fl:jp,xA2 fl/\r=.returned (.tuple #[.agg (x9 fl),.bool (xDb (xC gs s) p.id)]):=by
  rcases fS with⟨bH,rfl⟩|⟨m,E,hid,v,rfl,hIv⟩
  ·refine⟨xK,rfl,?_⟩;grind [xDb,xC,List.any_eq_false]
  ·refine⟨{ m.g with refs:=v },hIv.one,?_⟩;grind [xDb,xC,List.any_eq_true]
 obtain⟨fl,hfl,rfl⟩:=Ii;clear fS;have aO:Below D.heap.size D (D.alloc (.cells (x9 fl) 70)):=by grind
 have Uk:y4 (D.alloc (.cells (x9 fl) 70)) w.heap.size g:=K5.below aO fF;have sG:Below w.heap.size w (D.alloc (.cells (x9 fl) 70)):=by grind
 have sO:w.heap.size<(D.alloc (.cells (x9 fl) 70)).heap.size:=Uk.lt;have K7:=h_ Uk;have A:=h_ sG;have iI:=zJ (g:=fl) hfl;have Ul:((x9 fl).size==38)=true:=by rw[xO];rfl
 clear aO Uk sG K5 K6 fF;rw[V.out];go_upto_region 11 with (fail)
 generalize D.alloc (.cells (x9 fl) 70)=w5 at K7 A sO⊢;clear aU lS iI Ul;by_cases hdup:(uU (xC gs s) p.number||xDb (xC gs s) p.id)=true
 ·have q:Hid (jl (xC gs s) s p=7):=h_ (by unfold jl;rw[if_neg (by simpa using nX.out),if_neg (by simpa using DN.out),if_pos hdup]);generalize uU (xC gs s) p.number=b1 at hdup⊢;generalize xDb (xC gs s) p.id=b2 at hdup⊢;cases b1 with
  |true=>
   go_wp2;go_ret;exact⟨by rw[q.out];try rfl,.inl ⟨by rw[q.out];decide,A.out⟩⟩
  |false=>
   obtain rfl:b2=true:=by simpa using hdup
   go_wp2;go_ret;exact⟨by rw[q.out];try rfl,.inl ⟨by rw[q.out];decide,A.out⟩⟩
 have q:Hid (jl (xC gs s) s p=0):=h_ (by unfold jl;rw[if_neg (by simpa using nX.out),if_neg (by simpa using DN.out),if_neg hdup]);obtain⟨aH,aF⟩:uU (xC gs s) p.number=false/\xDb (xC gs s) p.id=false:=by simpa using hdup
 have eu:=h_ aH;have dw:=h_ aF;rw[aH,aF];clear hdup aH aF;have o:=F.below A.out;have hc0:=o.cell0;have cH:=o.cell1;have hlk:=o.look s;have fO:¬ (65536:Int)<=(total gs:Int):=by omega
 have AY:decide ((total gs:Int)>=65536)=false:=by simp;omega
 have R:=λ(u:World)=>run_eql_map_nil (P:=prog) u 126 9 127 (some M) underlying126
 generalize U:Option.getD _ _=gv at hlk;have C4:Hid ((∀G,yd gs s=some G->gv=.pointer (some ⟨G.gb,0,none⟩))/\(yd gs s=none->gv=.pointer none)):=h_ ⟨λG h=>by rw[<-U,h];rfl,λh=>by rw[<-U,h];rfl⟩;clear U;go_upto_region 18 with (fail)
 clear hlk;go_cut [68]from 52 to 104 (λc wx=>c=.bool (yd gs s).isNone/\w5=wx)
 case first=>
  rename_i J K' hJ hK;cases x:yd gs s with
  |some G=>
   obtain rfl:=C4.1 G x;go_wp2;go_meet;exact⟨by rw[x];rfl,rfl⟩
  |none=>
   obtain rfl:=C4.2 x;go_wp2;go_meet;exact⟨by rw[x];rfl,rfl⟩
 case rest=>
 obtain⟨rfl,rfl⟩:=hcut;go_upto_if 68 with (fail)
 go_cut [13]from 52 to 104 (λgp wx=>∃(gb nb:Nat) (vL:Value) (ms:List ML) (nl:List (KE Id32)) (nc:Nat),gp=.pointer (some ⟨gb,0,none⟩)/\Hid (S21 B ib gb nb w.heap.size (total gs) M vL ms nl nc g p.ids wx)/\Hid (w.heap.size<=wx.heap.size)/\Hid (∀w' v' v,(∀k,v.ownBlock=some k->w.heap.size<=k)->S24 B ib gb nb (total gs) M vL v' (qw ms pos ⟨p,v⟩) (nl++[⟨p.id,.int .i64 p.number,nc⟩]) (nc+1) wx w'->∃gs' mc',xJz B ib M gs s p w w' gs' mc')/\Hid (yG p.id nl 0=none)/\Hid (pos<=ms.length)/\Hid (ms.length<=65536)/\Hid (B<=wx.heap.size))
 case first=>
  rename_i J K' hJ hK;cases x:yd gs s with
  |some G=>
   obtain⟨lx,C3⟩:=yH x;have N:=o.grps G lx;have K:xC gs s=G.ms:=by grind [xC]
   have HS:Hid (S21 B ib G.gb G.nb w.heap.size (total gs) M G.v G.ms G.nl G.nc g p.ids w5):=h_ {
    grp:=N.blk
    num:=N.nums
    lines:=N.lines
    line:=K7.out
    idx:=o.blk
    vlb:=λe=>by have:=(s5 (F.grps G lx).lines.row _ e).2;omega
    refs:=HI.below A.out }
   have Y:Hid (w.heap.size<=w5.heap.size):=h_ A.size;have AZ:Hid (∀w' v' v,(∀k,v.ownBlock=some k->w.heap.size<=k)->S24 B ib G.gb G.nb (total gs) M G.v v' (qw G.ms pos ⟨p,v⟩) (G.nl++[⟨p.id,.int .i64 p.number,G.nc⟩]) (G.nc+1) w5 w'->∃gs' mc',xJz B ib M gs s p w w' gs' mc'):=h_ (λw' v' v hv M9=>yCt F.out A.out x hv eu.out dw.out DN.out bO (by rw[<-V.out,<-AX.out];rw[V.out];exact M9))
   have A4:Hid (yG p.id G.nl 0=none):=h_ (N.find_no λm E e=>by
    have:=dw.out;unfold xDb at this;rw[ce_]at this;exact this m (K▸E) (by simpa using e))
   have S:Hid (pos<=G.ms.length):=h_ (by
    have:=(xAi (o.sorted s) g.number).2.1;rw[yV,K]at this;rw[AX.out,K];exact this)
   have fV:Hid (G.ms.length<=65536):=h_ (by rw[<-K];exact o.len s);have X:Hid (B<=w5.heap.size):=h_ (by have:=(o.foot_lt ib (by simp[foot]));omega);obtain rfl:=C4.1 G x;clear o N K lx C3 hc0 cH fO AY R;go_wp2;go_meet;exact⟨_,_,_,_,_,_,rfl,HS,Y,AZ,A4,S,fV,X⟩
  |none=>
   have K:xC gs s=[]:=by grind [xC]
   have RZ:=o.map.lt;have ZL:=(i_ o.blk).1;have hMw:=F.map.lt;have hIw:=(i_ F.blk).1;have mz:ib≠M:=(uX.1 F.apart).1;have lY:=@run_makeMap prog;obtain⟨W,hW⟩:∃W,W=(w5.alloc (.map #[] 0)).alloc (.cells #[.slice none 0 0,.map (some w5.heap.size)] 176):=⟨_,rfl⟩;have Um:xV ekS W M (gs.map MG.e) mc:=by
    unfold xV;rw[hW,heap_alloc_old _ _ (by simp;omega),heap_alloc_old _ _ RZ];exact o.map
   have C5:yG s (gs.map MG.e) 0=none:=xFe λe he=>by
    obtain⟨G,hG,rfl⟩:=D4.1 he;exact kh x G hG
   obtain⟨arr,Ij⟩:∃arr:Value->Array MapEntry,∀v,arr v=((gs.map MG.e++[(⟨s,v,mc⟩:KE ByteArray)]).map (enE ekS)).toArray:=⟨_,λ_=>rfl⟩;have ci:∀v,(Instr.mapUpdate 126 (.map (some M)) (.string s) v).run prog ((w5.alloc (.map #[] 0)).alloc (.cells #[.slice none 0 0,.map (some w5.heap.size)] 176))=.ok () (((w5.alloc (.map #[] 0)).alloc (.cells #[.slice none 0 0,.map (some w5.heap.size)] 176)).putObj M (.map (arr v) (mc+1))):=λv=>by
    rw[<-hW,Ij];exact xK8 keyS underlying126 W M (gs.map MG.e) mc Um s v C5
   have K8:((w5.alloc (.map #[] 0)).alloc (.cells #[.slice none 0 0,.map (some w5.heap.size)] 176)).cell? ⟨ib,0,none⟩=some (.map (some M)):=by grind
   have oO:=h_ o;have HWM:=h_ Um;have Un:=h_ Ij;clear o Um Ij;obtain⟨gb,Fu⟩:∃gb,gb=w5.heap.size+1:=⟨_,rfl⟩;obtain⟨nb,lU⟩:∃nb,nb=w5.heap.size:=⟨_,rfl⟩;obtain⟨t,dS⟩:∃t,t=((w5.alloc (.map #[] 0)).alloc (.cells #[.slice none 0 0,.map (some w5.heap.size)] 176)).putObj M (.map (arr (.pointer (some ⟨w5.heap.size+1,0,none⟩))) (mc+1)):=⟨_,rfl⟩;have p8:t.heap.size=w5.heap.size+2:=by grind
   have DO:∀k,k<w5.heap.size->k≠M->t.heap[k]?=w5.heap[k]?:=λk f A5=>by grind
   have sL:xV ekS t M (gs.map MG.e++[⟨s,.pointer (some ⟨gb,0,none⟩),mc⟩]) (mc+1):=by
    rw[dS,Fu,<-hW,Un.out];exact HWM.put
   have DP:t.heap[gb]?=some (.cells #[.slice none 0 0,.map (some nb)] 176 (0,0)):=by grind
   have eE:xV ekI t nb [] 0:=by grind [xV,World.putObj_heap_other]
   have cr:Kept [M] w t:=by grind
   have HS:Hid (S21 B ib gb nb w.heap.size (total gs) M (.slice none 0 0) [] [] 0 g p.ids t):=h_ {
    grp:=DP
    num:=eE
    lines:=⟨D1 _ _ _ _,λm E=>by cases E⟩
    line:=(DO _ sO (by omega)).trans K7.out
    idx:=(DO _ ZL mz).trans oO.blk
    vlb:=by simp[Value.ownBlock]
    refs:=(HI.below A.out).block λk f=>by
     have h1:=HI.below A.out;obtain⟨cur,h2⟩:=h1.typed f;refine DO k (h1.lt f).2 ?_;rintro rfl;have h3:=oO.map;unfold xV at h3;rw[h3]at h2;cases h2 }
   have aV:=A.size;have Y:Hid (w.heap.size<=t.heap.size):=h_ cr.size;have AZ:Hid (∀w' v' v,(∀k,v.ownBlock=some k->w.heap.size<=k)->S24 B ib gb nb (total gs) M (.slice none 0 0) v' (qw [] pos ⟨p,v⟩) ([]++[⟨p.id,.int .i64 p.number,0⟩]) (0+1) t w'->∃gs' mc',xJz B ib M gs s p w w' gs' mc'):=by
    exact h_ (λw' v' v hv M9=>yCu (nb:=nb) F.out x hv nX.out DN.out bO cr sL (by omega) (by omega) (by omega) (by omega) (by omega) mz (by rw[<-V.out,<-AX.out];rw[V.out];exact M9))
   have A4:Hid (yG p.id [] 0=none):=h_ rfl
   have S:Hid (pos<=([]:List ML).length):=h_ (by
    have:=(xAi (oO.sorted s) g.number).2.1;rw[yV,K]at this;rw[AX.out,K];exact this)
   have fV:Hid (([]:List ML).length<=65536):=h_ (by simp);have X:Hid (B<=t.heap.size):=h_ (by have:=(oO.foot_lt ib (by simp[foot]));omega);have Ik:=h_ (And.intro dS (And.intro Fu lU));clear dS Fu lU p8 DO sL DP eE cr fO AY R aV K RZ ZL hMw hIw mz hW C5;obtain rfl:=C4.2 x;go_wp2;go_meet;rw[<-Ik.1,<-Ik.2.1];exact⟨_,_,_,_,_,_,rfl,HS,Y,AZ,A4,S,fV,X⟩
 case rest=>
 obtain⟨gb,nb,vL,ms,nl,nc,rfl,HS,Y,AZ,A4,S,fV,X⟩:=hcut;go_upto_region 21 with (fail)
 clear hc0 cH fO AY R K7 A F eu dw tQ AX sO o C4;obtain⟨vla,vln,vlc,KR⟩:∃a n c,vL=.slice a n c:=by
  rcases HS.lines.head with⟨e,_⟩|⟨_,cap,e,_⟩
  ·exact⟨_,_,_,e⟩
  ·exact⟨_,_,_,e⟩
 have TI:=h_ KR
 haveI:Nonempty (Cls gb w.heap.size vL g):=⟨⟨wc,HS.cls (z_ _ _)⟩⟩
 have q1:∀z:Cls gb w.heap.size vL g,z.1.cell? ⟨gb,0,none⟩=some (.slice vla vln vlc):=by grind
 have q2:∀z:Cls gb w.heap.size vL g,xp z.1 ⟨w.heap.size,0,none⟩ 38=true:=λz=>z.2.2.rd.1
 have q3:∀z:Cls gb w.heap.size vL g,xo z.1 ⟨w.heap.size,0,none⟩ 38=x9 g:=λz=>z.2.2.rd.2
 clear KR;refine xz [0,1,2,3,4,5,6] [7,8,9,10,11,12] (λw'=>∃z:Cls gb w.heap.size vL g,w'=z.1) ⟨⟨_,HS.cls (z_ _ _).drew⟩,rfl⟩ ?_;simp only[o_]
 repeat (go_big_quiet_step (fail))
 refine wpQuiet_nil ?_;clear q1 q2 q3;have cG:Below wc.heap.size wc wc.drew:=by grind
 generalize wc.drew=w7 at cG⊢;refine jI true rfl (by kernel_rfl) ?_;go_wp2_with fail;refine(xEc 0 g p.ids w7 (HS.refs.below cG) (by have:=xG1 DN.out;omega)).mono ?_;rintro r O⟨v,rfl,Uo,gM⟩;have bG:=Uo.one;have Il:Below wc.heap.size wc O:=by grind
 have ZM:=HS.cls Il;obtain⟨L,oJ⟩:∃L:jp,L=ML.g ⟨p,v⟩:=⟨_,rfl⟩;have M_:xA2 L:=by rw[oJ];exact bG
 rw[tP.out v,<-oJ];have H6:=h_ oJ;clear oJ;have DQ:=h_ (Uo.mono cG.size);obtain⟨i0,hi,bf,aP,be⟩:=info_parts Tryz.info_line;go_wp2_with fail;refine⟨λ_=>⟨⟨_,ZM⟩,rfl⟩,jI true rfl (by kernel_rfl) ?_⟩;refine wpList_buildSlice rfl 132 70 1 _ rfl (x9 L) i0 _ underlying132 hi bf (by rw[aP];decide) (by rw[aP];decide) (by rw[aP];simp only[cj_,t8,aA_];refine xDg _ _ 38 (xO _) ?_;rw[Array.size_map,Array.size_range]) ?_;obtain⟨C,gC⟩:∃C,C=O.alloc (.cells (x9 L) 70):=⟨_,rfl⟩;have rG:Below O.heap.size O C:=by grind
 have gU:Below wc.heap.size wc C:=by grind
 have Fv:C.heap[O.heap.size]?=some (.cells (x9 L) 70 (0,0)):=by grind
 have Uq:=HS.lines.below gU;have Na:Calls prog 237 #[.slice vla vln vlc,.int .i64 pos,.slice (some ⟨O.heap.size,0,none⟩) 1 1] C λr w'=>∃v',r=.returned v'/\w'.ownsRow B 70 38 v' (ms.length+1) ((yy ms).take (pos*38)++xL L++(yy ms).drop (pos*38))/\C.grownBy w' vL.ownBlock/\(v'.ownBlock=vL.ownBlock\/v'.ownBlock=some C.heap.size):=by
  have:=xXx B vL ms.length pos O.heap.size (yy ms) L C M_ (xM4 λm E=>(Uq.refs m E).one) Uq.row (by have:=X.out;have:=gU.size;omega) fV.out S.out Fv (λe=>by have:=(s5 HS.lines.row _ e).2;have:=Il.size;omega);grind
 rw[<-gC];have Nb:=h_ Na;have gE:=h_ gU;have R3:=h_ (DQ.below rG);have ZN:=HS.cls gU;clear Na gU rG gC Uq Fv DQ Uo gM Il ZM cG;go_wp2_with fail;refine⟨λ_=>⟨⟨_,ZN⟩,rfl⟩,jI true rfl (by kernel_rfl) ?_⟩;clear ZN;go_wp2_with fail;refine Nb.mono ?_;rintro r l ⟨v',rfl,ae,aG,au⟩;have R4:∀k,k<wc.heap.size->vL.ownBlock≠some k->l.heap[k]?=wc.heap[k]?:=λk f hv=>(aG.block k (by have:=gE.size;omega) (λe=>hv e.symm)).trans (gE.block k f)
 obtain⟨d1,d2,d3,d4,d5,d6,d7,d8,d9⟩:=HS.apart;obtain⟨l1,l2,l3,l4⟩:=HS.lts;have dX:=(R4 gb l1 d1).trans HS.grp;have DR:l.cell? ⟨gb,0,none⟩=some vL/\y4 l w.heap.size g:=⟨cell_of_row l gb 0 _ _ _ dX,(R4 _ l3 HS.vlb).trans HS.line⟩;obtain⟨va,vc,eB⟩:∃va vc,v'=.slice (some ⟨va,0,none⟩) (ms.length+1) vc:=by
  rcases ae.2 with⟨_,h0⟩|⟨g',cap',_,e,_⟩
  ·omega
  ·exact⟨g',cap',e⟩
 go_wp2_with fail;refine⟨λ_=>⟨⟨_,DR⟩,rfl⟩,yE ?_⟩;simp only[o_];have Fw:=DR.1;rw[TI.out]at Fw;have hfg:=frozen_of_row l gb 0 _ _ dX;obtain⟨j,rO⟩:∃j,j=l.setCell ⟨gb,0,none⟩ v':=⟨_,rfl⟩;have A6:j.heap[gb]?=some (.cells #[v',.map (some nb)] 176 (0,0)):=by grind
 have K9:∀k,k≠gb->j.heap[k]?=l.heap[k]?:=λk f=>by rw[rO];exact heap_setCell_other l ⟨gb,0,none⟩ k _ f
 have Nc:j.heap.size=l.heap.size:=by grind
 have Nd:j.os=l.os/\j.tape=l.tape/\j.output=l.output:=by grind
 have du:=h_ ae;have oP:=h_ aG;have ee:=h_ au;have Q:=h_ R4;have Ur:=h_ A6;have Im:=h_ K9;have In:=h_ Nd;have Us:=h_ DR;have HV':=h_ eB;have DS:=h_ rO;have Ut:=h_ Nc;clear ae aG au R4 A6 K9 Nd dX DR rO Nc;subst eB;go_wp2;refine T_ ?_;go_upto_region 22 with (fail)
 rw[<-DS.out];clear Fw hfg DS Nb;have A7:y4 j w.heap.size g:=(Im.out _ d3).trans Us.2;have Nf:xV ekI j nb nl nc:=((Im.out _ d2).trans (Q.out nb l2 d5)).trans HS.num;have sP:=A7.lt;have q1:∀z:xf j,z.1.cell? ⟨gb,1,none⟩=some (.map (some nb)):=by grind
 have q2:∀z:xf j,xp z.1 ⟨w.heap.size,1,none⟩ 32=true:=λz=>(A7.below z.2 sP).idAt.1
 have q3:∀z:xf j,xo z.1 ⟨w.heap.size,1,none⟩ 32=(xl p.id).toArray:=λz=>(A7.below z.2 sP).idAt.2.trans (by rw[HGI.out])
 have q4:∀z:xf j,z.1.cell? ⟨w.heap.size,0,none⟩=some (.int .i64 p.number):=λz=>((A7.below z.2 sP).cell 0).trans ((lc0 g).trans (by rw[V.out]))
 have Ng:=h_ Nf;clear Nf A7 sP;refine xz [0,1,2,3,4,5,6,7] [8] (λw'=>∃z:xf j,w'=z.1) ⟨⟨_,(z_ _ _).drew⟩,rfl⟩ ?_;simp only[o_]
 repeat (go_big_quiet_step (fail))
 refine wpQuiet_nil ?_;clear q1 q2 q3 q4
 have ci:(Instr.mapUpdate 173 (.map (some nb)) (.agg (xl p.id).toArray) (.int .i64 p.number)).run prog j.drew=.ok () (j.drew.putObj nb (.map ((nl++[(⟨p.id,.int .i64 p.number,nc⟩:KE Id32)]).map (enE ekI)).toArray (nc+1))):=
  xK8 keyI underlying173 j.drew nb nl nc Ng.out p.id _ A4.out
 obtain⟨d,oQ⟩:∃d,d=j.drew.putObj nb (.map ((nl++[(⟨p.id,.int .i64 p.number,nc⟩:KE Id32)]).map (enE ekI)).toArray (nc+1)):=⟨_,rfl⟩;have Io:∀k,k≠nb->d.heap[k]?=j.heap[k]?:=λk f=>by rw[oQ,x6 f];rfl
 have tR:d.heap.size=j.heap.size:=by grind
 have Nh:xV ekI d nb (nl++[⟨p.id,.int .i64 p.number,nc⟩]) (nc+1):=by rw[oQ];exact xV.put (w:=j.drew) Ng.out
 have Ni:d.os=j.os/\d.tape=j.tape/\d.output=j.output:=by grind
 rw[<-oQ]at ci;have Uu:=h_ Io;have Nj:=h_ tR;have Uv:=h_ Nh;have Ip:=h_ Ni;have Nk:=(Io ib d8).trans ((Im.out ib d7).trans ((Q.out ib l4 d6).trans HS.idx));have Nl:=h_ Nk;clear oQ Io tR Nh Ni Nk;refine yE ?_;simp only[o_];go_wp2;refine T_ ?_;have AR:=cell_of_row d ib 1 _ _ _ Nl.out;have rQ:=frozen_of_row d ib 1 _ _ Nl.out;clear ci;go_wp2;obtain⟨y,tD⟩:∃y,y=d.setCell ⟨ib,1,none⟩ (.int .i64 ((total gs:Int)+1)):=⟨_,rfl⟩;have Nn:y.heap[ib]?=some (.cells #[.map (some M),.int .i64 ((total gs+1:Nat):Int)] 129 (0,0)):=by grind
 have Iq:∀k,k≠ib->y.heap[k]?=d.heap[k]?:=λk f=>by rw[tD];exact heap_setCell_other d ⟨ib,1,none⟩ k _ f
 have Uw:y.heap.size=d.heap.size:=by grind
 have DT:y.os=d.os/\y.tape=d.tape/\y.output=d.output:=by grind
 rw[<-tD];have eAll:∀k,k≠ib->k≠gb->k≠nb->y.heap[k]?=l.heap[k]?:=by grind
 have M9:S24 B ib gb nb (total gs) M vL (.slice (some ⟨va,0,none⟩) (ms.length+1) vc) (qw ms pos ⟨p,v⟩) (nl++[⟨p.id,.int .i64 p.number,nc⟩]) (nc+1) wc y:=by
  have hid:∀{k:Nat} {cur:Array Value},l.heap[k]?=some (Obj.cells cur 42 (0,0))->y.heap[k]?=l.heap[k]?:=λ{k cur} f=>eAll k
   (λe=>by rw[e,Q.out ib l4 d6,HS.idx]at f;cases f) (λe=>by rw[e,Q.out gb l1 d1,HS.grp]at f;cases f)
   (λe=>by have h1:=HS.num;unfold xV at h1;rw[e,Q.out nb l2 d5,h1]at f;cases f)
  refine⟨(Iq gb (λe=>d7 e.symm)).trans ((Uu.out gb (λe=>d2 e.symm)).trans Ur.out),(Iq nb (λe=>d8 e.symm)).trans Uv.out,⟨?_,?_⟩,Nn,?_,?_⟩
  ·have h1:=du.out;rw[H6.out,<-yFi,<-xCe S.out]at h1;have h2:(qw ms pos ⟨p,v⟩).length=ms.length+1:=xCe S.out;rw[<-h2];rw[h2]at h1⊢;refine⟨h1.1,?_⟩;rcases h1.2 with h0|⟨g',cap',cur,e,I,aw,hx⟩
   ·exact .inl h0
   ·refine .inr ⟨g',cap',cur,e,I,(eAll g' (λe=>?_) (λe=>?_) (λe=>?_)).trans aw,hx⟩
    ·grind
    ·rw[e,Q.out gb l1 d1,HS.grp]at aw;cases aw
    grind [xV]
  ·intro m E;rcases xPn.1 E with rfl|E
   ·have h1:=R3.out;refine(h1.mono (B':=B) X.out).block λk f=>?_
    obtain⟨cur,h2⟩:=h1.typed f
    have h3:l.heap[k]?=C.heap[k]?:=oP.block k (h1.lt f).2 (λe=>by
     have h4:=(h1.lt f).1;have h5:=(s5 HS.lines.row k e.symm).2;omega)
    rw[hid (h3.trans h2),h3]
   ·have h1:=HS.lines.refs m E;refine h1.block λk f=>?_
    obtain⟨cur,h2⟩:=h1.typed f
    have h3:l.heap[k]?=wc.heap[k]?:=Q.out k (h1.lt f).2 (λe=>by
     obtain⟨c3,h4⟩:=xS HS.lines.row e;rw[h4]at h2;cases h2)
    rw[hid (h3.trans h2),h3]
  ·grind
  ·refine⟨?_,?_,?_,?_,λk f hn=>?_⟩
   ·exact DT.1.trans (Ip.1.trans (In.1.trans (oP.os.trans gE.os)))
   ·exact DT.2.1.trans (Ip.2.1.trans (In.2.1.trans (oP.tape.trans gE.tape)))
   ·exact DT.2.2.trans (Ip.2.2.trans (In.2.2.trans (oP.output.trans gE.output)))
   ·have h1:=Nj.out;have h2:=Ut.out;have h3:=oP.size;grind
   grind
 clear tD Nn Iq Uw DT eAll AR rQ;go_ret;exact⟨by rw[q.out];try rfl,.inr ⟨q.out,AZ.out _ _ v (λk f=>R_ Y.out (R3.lt f).1) M9⟩⟩
end
theorem yAa (w):(zeroValue 70).run prog w=.ok (.agg (x9 xK)) w:=by kernel_rfl
theorem yD0:(Builtin.zeroCells (x9 xK) 1).toList=xL xK:=by kernel_rfl
theorem xNc (z cs)(hv:∀w,(zeroValue 70).run prog w=.ok z w)(b:(Builtin.zeroCells z.cells 1).toList=cs)(hl:cs.length=38)(h1:∀u∈cs,u.oneCell'=true)(w)(ty:TypeId)(g o c cur)(t:TypeId)(d:w.heap[g]?=some (.cells cur t (0,0)))(e:o+38<=cur.size):
  (Builtin.clear_ #[132] ty #[.slice (some ⟨g,o,none⟩) 1 c]).run prog w=.ok (.tuple #[]) (w.setRow g (cur.toList.take o++cs++cur.toList.drop (o+38)).toArray):=by
 have a:=run_storeCells_at prog g o t cs 0 cur w d (by rw[hl];simpa using e) h1;rw[hl]at a;simp only[aN_]at a;simp[Builtin.clear_,run_underlying underlying132,hv,b,a]
theorem xKw (w)(ty:TypeId)(g o c cur)(t:TypeId)(a:w.heap[g]?=some (.cells cur t (0,0)))(b:o+38<=cur.size):
  (Builtin.clear_ #[132] ty #[.slice (some ⟨g,o,none⟩) 1 c]).run prog w=.ok (.tuple #[]) (w.setRow g (cur.toList.take o++xL xK++cur.toList.drop (o+38)).toArray):=
 xNc (.agg (x9 xK)) (xL xK) yAa yD0 (yr _) (uA rfl) w ty g o c cur t a b
theorem xB1 {P}(w){ops rest o a}{Q:Exit->Act->World->Prop}(b:o.guard=none)(x)(t:TypeId)
  (ho:o.op=.call { callee:=.builtin .clear,args:=#[x],argTypes:=#[t] }) (v) (hx:a.eval x=v) {v'} {w'}
  (c:(Builtin.clear_ #[t] o.type #[v]).run P w=.ok v' w') (h:wpList P ops Q rest (a.put o.dst v') w'):wpList P ops Q (o :: rest) a w:=by
 refine wpList_plain b λK hK=>?_
 unfold Oper.wp execOp;simp only[ho,resolve,invoke,builtin,G9,ay_,t2,cj_,t8,aA_,hx,c];exact hK _ _ h
theorem xYe (B g cap n i xs w)(U:∀u∈xs,u.oneCell'=true)(o:w.ownsRow B 70 38 (.slice (some ⟨g,0,none⟩) n cap) n xs)(hn:n<=65536)(hi:i<n):
  Calls prog 341 #[.slice (some ⟨g,0,none⟩) n cap,.int .i64 i,.int .i64 ((i:Int)+1)] w λr w'=>r=.returned (.slice (some ⟨g,0,none⟩) (n-1) cap)/\w'.ownsRow B 70 38 (.slice (some ⟨g,0,none⟩) (n-1) cap) (n-1) (xs.take (i*38)++xs.drop ((i+1)*38))/\w.grownBy w' (some g):=by
 obtain⟨V,f,bf,p,be⟩:=info_parts Tryz.info_line;rcases o.2 with⟨e,_⟩|⟨g',cap',cur,e,KY,J,bj,dH,N,dW⟩
 ·cases e
 cases e
 have s:=o.1;unfold maxLen at dH;have X:n*38<=cap*38:=by omega
 obtain⟨news,D⟩:∃news,news=xs.drop ((i+1)*38):=⟨_,rfl⟩;have v:news.length=(n-(i+1))*38:=by grind
 have L:∀u∈news,u.oneCell'=true:=by grind
 obtain⟨A,l,T⟩:∃A:Addr,(if cap=i+1 then (⟨g,0,none⟩:Addr)else ⟨g,(i+1)*38,none⟩)=A/\∀t u,news[t]?=some u->w.drew.cell? (A.add t)=some u:=by
  by_cases h:cap=i+1
  ·grind
  ·refine⟨⟨g,(i+1)*38,none⟩,by simp[h],λt u E=>?_⟩;rw[D,ao_]at E;have h2:=ae_ o (g:=g) rfl ((i+1)*38+t) u E;rw[l8,m0]at h2;rw[l8,bI_];exact h2
 obtain⟨a,O⟩:∃a:List Value,a=cur.toList.take (i*38)++news++cur.toList.drop (i*38+news.length):=⟨_,rfl⟩;have q:a.length=cap*38:=by grind
 obtain⟨c,y⟩:∃c,c=w.drew.setRow g a.toArray:=⟨_,rfl⟩;obtain⟨m,k⟩:∃m,m=n-1:=⟨_,rfl⟩;have x:∀ty sc,(Builtin.append_ #[132,132] ty #[.slice (some ⟨g,0,none⟩) i cap,.slice (some A) (n-(i+1)) sc]).run prog w.drew=.ok (.slice (some ⟨g,0,none⟩) m cap) c:=λty sc=>by
  have h:=run_append_room (P:=prog) w.drew 132 ty 70 V underlying132 f g i cap cur J A (n-(i+1)) sc news (by rw[p];exact v) T L (by omega) (by rw[p,v,N];omega);rw[h,y,O,p,k,show i+(n-(i+1))=n-1 by omega]
 have K:c.heap[g]?=some (.cells a.toArray 70 (0,0)):=by grind
 have Z:w.grownBy c (some g):=by rw[y];exact xAa (b:=w.drew) ⟨rfl,rfl,rfl,w_ _,λ_ _ _=>rfl⟩ (uV w.drew g _)
 obtain⟨d,G⟩:∃d,d=c.setRow g (a.take ((n-1)*38)++xL xK++a.drop ((n-1)*38+38)).toArray:=⟨_,rfl⟩;have I:∀ty sc,(Builtin.clear_ #[132] ty #[.slice (some ⟨g,(n-1)*38,none⟩) 1 sc]).run prog c=.ok (.tuple #[]) d:=λty sc=>by
  rw[xKw c ty g ((n-1)*38) sc _ _ K (by rw[T9,q];omega),G]
 have M:d.heap[g]?=some (.cells (a.take ((n-1)*38)++xL xK++a.drop ((n-1)*38+38)).toArray 70 (0,0)):=by grind
 have j:w.grownBy d (some g):=by grind [xAa,uV]
 have R:a.take ((n-1)*38)=xs.take (i*38)++xs.drop ((i+1)*38):=by
  have h1:(cur.toList.take (i*38)).length=i*38:=by grind
  have h2:xs.take (i*38)=cur.toList.take (i*38):=by grind
  have h3:(cur.toList.take (i*38)++news).length=(n-1)*38:=by grind
  grind
 have H:d.ownsRow B 70 38 (.slice (some ⟨g,0,none⟩) (n-1) cap) (n-1) (xs.take (i*38)++xs.drop ((i+1)*38)):=by
  refine⟨by rw[<-R,x8,q];omega,.inr ⟨g,cap,_,rfl,KY,M,by omega,by unfold maxLen;omega,?_,?_⟩⟩
  ·grind [List.size_toArray,List.length_append,List.length_take,List.length_drop,yr]
  grind
 have C:=h_ H;have S:=h_ j;have F:∀ty sc,(Builtin.clear_ #[132] ty #[.slice (some ⟨g,m*38,none⟩) (n-m) sc]).run prog c=.ok (.tuple #[]) d:=λty sc=>by
  rw[show n-m=1 by omega,k];exact I ty sc
 rw[<-k]at C⊢;have n4:(m:Int)<=(n:Int):=by omega
 have W:m<=n:=by omega
 have Y:¬ cap=m:=by omega
 clear k;have h1:(i:Int)<=(i:Int)+1:=by omega
 have h2:(i:Int)+1<=(n:Int):=by omega
 have h3:(n:Int)<=(cap:Int):=by omega
 have h4:((i:Int)==(i:Int)+1)=false:=by grind
 clear H j M G Z K y q O R T L v D o U s N J dW bf p be f X I;go_enter func341,ntmps341;go_wp2_with fail;refine xz [0,1,2,3,4,5] [6,7] (λw'=>∃z:xf w,w'=z.1) ⟨⟨_,(z_ _ _).drew⟩,rfl⟩ ?_;simp only[o_];by_cases hcj:cap=i+1
 ·rw[if_pos hcj]at l;subst l;subst hcj;have Q:=λty=>x ty 0
  rw[show n-(i+1)=0 by omega]at Q;clear x
  repeat (go_big_quiet_step (fail))
  refine wpQuiet_nil ?_;refine yE ?_;simp only[o_];go_wp2_with (at_builtin;refine bF_ _ rfl _ _ _ _ rfl _ _ rfl rfl _ _ (Q _) ?_);refine T_ ?_;go_wp2_with (at_builtin;refine xB1 _ rfl (.tmp 31) 132 rfl _ rfl (F _ _) ?_);go_ret;exact⟨rfl,C.out,S.out⟩
 ·rw[if_neg hcj]at l;subst l;have AR:¬ cap=i:=by omega
  repeat (go_big_quiet_step (fail))
  refine wpQuiet_nil ?_;refine yE ?_;simp only[o_];go_wp2_with (at_builtin;refine bF_ _ rfl _ _ _ _ rfl _ _ rfl rfl _ _ (x _ _) ?_);refine T_ ?_;go_wp2_with (at_builtin;refine xB1 _ rfl (.tmp 31) 132 rfl _ rfl (F _ _) ?_);go_ret;exact⟨rfl,C.out,S.out⟩
theorem xF8 {α:Type}:∀{l:List α} {i:Nat} {x:α},l[i]?=some x->l.Perm (x :: l.eraseIdx i)
 |a :: l,0,x,h=>by cases h;exact .refl _
 |a :: l,i+1,x,h=>by
  rw[aU_];exact((xF8 (l:=l) (i:=i) (by simpa using h)).cons a).trans (List.Perm.swap x a _)
theorem xOx {α:Type}{l:List α}{i}{x:α}(h:x∈l.eraseIdx i):x∈l:=List.mem_of_mem_eraseIdx h
theorem xY4 (ms i):yy (ms.eraseIdx i)=(yy ms).take (i*38)++(yy ms).drop ((i+1)*38):=by
 rw[xP9,xPa,<-jS,List.eraseIdx_eq_take_drop_succ]
theorem jH.del {ms:List ML}{nl:List (KE Id32)}(h:jH ms nl){i j b:Nat}{m:ML}(hi:ms[i]?=some m)(hj:nl[j]?=some ⟨m.p.id,.int .i64 m.p.number,b⟩):jH (ms.eraseIdx i) (nl.eraseIdx j) where
 agree:=by
  have h1:=(xF8 hj).map λe=>(e.k,e.v)
  have h2:=(xF8 hi).map λm=>(m.p.id,Value.int .i64 m.p.number)
  rw[t8]at h1 h2;exact(h1.symm.trans (h.agree.trans h2)).cons_inv
 ids:=h.ids.sublist ((bc_ ms i).map _)
 sorted:=h.sorted.sublist ((bc_ ms i).map _)
 good x hx:=h.good x (xOx hx)
def jf (gs:List MG)(s:ByteArray):List MG:=gs.filter λH=>decide (H.name≠s)
theorem xNi (gs s t):xC (jf gs s) t=if t=s then []else xC gs t:=by grind [xC,yd,jf,List.find?_eq_none]
theorem xZt (s):∀{gs:List MG} {G:MG} (i:Nat),yd gs s=some G->(gs.map λG=>G.name).Nodup->∃j,yG s (gs.map MG.e) i=some (i+j,.pointer (some ⟨G.gb,0,none⟩))/\j<gs.length/\(gs.map MG.e).eraseIdx j=(jf gs s).map MG.e
 |H :: gs,G,i,a,b=>by
  unfold yd at a;rw[aE_]at a;rw[t8,U0]at b;rw[t8];unfold yG;by_cases h:H.name=s
  ·rw[decide_eq_true h]at a;cases a
   have h2:s=H.e.k:=h.symm;refine⟨0,by rw[if_pos h2];rfl,by simp,?_⟩;grind [jf,List.filter_cons_of_neg,List.filter_eq_self.2,List.mem_map.2]
  ·rw[decide_eq_false h]at a;have h2:¬ s=H.e.k:=λe=>h e.symm
   obtain⟨j,h3,h4,c⟩:=xZt s (i+1) a b.2;refine⟨j+1,by rw[if_neg h2,h3];congr 2;omega,by simpa using h4,?_⟩;grind [jf,List.filter_cons_of_pos]
theorem xCs:∀{gs:List MG} {s:ByteArray} {G:MG},(gs.map λG=>G.name).Nodup->yd gs s=some G->total (jf gs s)+G.ms.length=total gs
 |H :: gs,s,G,b,a=>by
  unfold yd at a;rw[aE_]at a;rw[t8,U0]at b;by_cases h:H.name=s
  ·rw[decide_eq_true h]at a;cases a
   have:jf (H :: gs) s=gs:=by grind [jf,List.filter_cons_of_neg,List.filter_eq_self.2,List.mem_map.2]
   grind [total]
  ·rw[decide_eq_false h]at a;have ih:=xCs b.2 a;grind [jf,List.filter_cons_of_pos,total]
theorem y5.cut {B w w' ib M mc gs}(h:y5 B w ib M gs mc){s G}(c:yd gs s=some G)
  (g:w'.heap[ib]?=some (.cells #[.map (some M),.int .i64 (total (jf gs s))] 129 (0,0))) (p:xV ekS w' M ((jf gs s).map MG.e) mc)
  (o:Kept (ib :: M :: G.foot) w w'):y5 B w' ib M (jf gs s) mc/\xFq (foot ib M gs) (foot ib M (jf gs s)) w:=by
 obtain⟨u,J⟩:=yH c;obtain⟨I,F,a3⟩:=uX.1 h.apart;have b:(jf gs s).Sublist gs:=List.filter_sublist;have d:∀H∈jf gs s,H∈gs/\H.name≠s:=λH a=>by grind [jf]
 have z:∀H∈gs,H.name≠s->∀x∈H.foot,x∉G.foot:=by
  intro H a r x hx j;have t:∀{l:List MG},l.Pairwise (λG H=>∀x∈G.foot,∀y∈H.foot,x≠y)->∀A∈l,∀C∈l,A.name≠C.name->∀x∈A.foot,x∉C.foot:=by
   intro l hl;induction l with
   |nil=>intro A q;cases q
   |cons D l ih=>
    grind [List.pairwise_cons,List.mem_cons.1]
  grind
 refine⟨{ blk:=g,map:=p,names:=h.names.sublist (b.map _),grps:=?_,apart:=?_,born:=h.born.sublist (b.map _),young:=λH a=>h.young H (d H a).1,few:=?_,ibB:=h.ibB,MB:=h.MB },?_⟩
 ·intro H a;obtain⟨a,r⟩:=d H a;refine(h.grps H a).keep (λk f=>o.block k ((h.grps H a).foot_lt k f).2 ?_) (λm n k i=>?_)
  ·grind
  ·obtain⟨g1,v⟩:=h.refs_out a n i;grind [foot,List.mem_flatMap.2]
 ·grind [uX]
 ·have:=xCs h.names c;have:=h.few;omega
 ·intro k E;grind [foot]
section
attribute [local go_sem ↓] xP xI yp y8 ym yw
attribute [local go_sem] zg zj zC zA yM xh xg xe xd xx xy xk xj xq xB xw
theorem yBk {w g off l}(h:∀i u,(xL l)[i]?=some u->w.cell? ⟨g,off+i,none⟩=some u):xp w ⟨g,off+1,none⟩ 32=true/\xo w ⟨g,off+1,none⟩ 32=(xl l.id).toArray:=by
 have:=yl (w:=w) (a:=⟨g,off+1,none⟩) (cs:=xl l.id) (λj v b=>by
  have c:j<32:=by grind [List.getElem?_eq_some_iff.1,xD]
  rw[l8,show off+1+j=off+(j+1) by omega];refine h (j+1) v ?_;simp only[xL];rw[m8,I3 (by rw[xD];exact c),b])
 rwa [xD]at this
theorem vU {P}(w){ops rest o a}{Q:Exit->Act->World->Prop}(b:o.guard=none)(x y)(t t':TypeId)
  (ho:o.op=.call { callee:=.builtin .delete,args:=#[x,y],argTypes:=#[t,t'] }) (v u) (hx:a.eval x=v) (hy:a.eval y=u) {v'} {w'}
  (c:(Builtin.delete_ #[t,t'] o.type #[v,u]).run P w=.ok v' w') (h:wpList P ops Q rest (a.put o.dst v') w'):wpList P ops Q (o :: rest) a w:=by
 refine wpList_plain b λK hK=>?_
 unfold Oper.wp execOp;simp only[ho,resolve,invoke,builtin,G9,ay_,t2,cj_,t8,aA_,hx,hy,c];exact hK _ _ h
structure yIg (B ib M:Nat)(gs:List MG)(s:ByteArray)(i:Nat)(w w':World)(gs':List MG)(mc':Nat):Prop where
 idx:y5 B w' ib M gs' mc'
 kept:Kept (foot ib M gs) w w'
 foot:xFq (Go.Proofs.YtdhapkeimaljfaaGreatDoor.foot ib M gs) (Go.Proofs.YtdhapkeimaljfaaGreatDoor.foot ib M gs') w
 lines:∀t,xC gs' t=if t=s then (xC gs s).eraseIdx i else xC gs t
 tot:total gs'+1=total gs
def xMw (B ib M:Nat)(gs:List MG)(s:ByteArray)(n:Int)(w:World)(r:Ending)(w':World):Prop:=
 (uU (xC gs s) n=false/\r=.returned (.int .i64 8)/\Below w.heap.size w w')\/(∃i m,(xC gs s)[i]?=some m/\m.p.number=n/\r=.returned (.int .i64 0)/\∃gs' mc',yIg B ib M gs s i w w' gs' mc')
theorem xX7 (B ib M mc gs s n w)(h:y5 B w ib M gs mc):
  Calls prog 338 #[.pointer (some ⟨ib,0,none⟩),.string s,.int .i64 n] w λr w'=>xMw B ib M gs s n w r w':=by
 have A:=h_ h;have C:=h_ (vJ B ib M mc gs s w h);have HS:=h_ (xOe B (qM gs s) (xC gs s) n w (h.lines s) (h.len s) (h.sorted s));obtain⟨va,vc,gW⟩:=jy h s;have tQ:=h_ gW;rw[gW]at C HS;clear gW h;cases hhas:uU (xC gs s) n with
 |false=>
  rw[hhas]at HS;have HH:=h_ hhas;clear hhas;generalize (xC gs s).length=len at C HS tQ;generalize posN (nums (xC gs s)) n=pos at HS;go_enter func338,ntmps338;go_wp2_with fail;refine C.mono ?_;rintro r w' ⟨rfl,rfl⟩;go_wp2_with fail;refine HS.mono ?_;rintro r c ⟨rfl,N⟩;have aq:=h_ N;clear N HS C;go_wp2;go_ret;exact .inl ⟨HH.out,rfl,aq.out⟩
 |true=>
  have HH:=h_ hhas;rw[hhas]at HS;have h:=A.out;have U:xC gs s≠[]:=λe=>by rw[e]at hhas;cases hhas
  obtain⟨G,hG,ef,Fr⟩:=vD U;obtain⟨lx,C3⟩:=yH hG;have fT:=xAi (h.sorted s) n;obtain⟨pos,T⟩:∃i,i=posN (nums (xC gs s)) n:=⟨_,rfl⟩;rw[<-T]at HS fT;have Fx:(nums (xC gs s)).contains n=true:=hhas;rw[xJs (h.sorted s) fT]at Fx;obtain⟨m,Ux,V⟩:∃m,(xC gs s)[pos]?=some m/\m.p.number=n:=by grind [yV,xPd,xC,List.getElem?_eq_getElem,nums]
  have E:pos<(xC gs s).length:=by grind
  have L:=h.grps G lx;have Uy:G.ms[pos]?=some m:=ef▸Ux;obtain⟨j,ZO,b,Fy⟩:=L.find_yes (ab_ Uy);have iu:j<G.nl.length:=by grind
  have eh:=L.pure.del Uy Fy;obtain⟨lb,cap,hv,hBl,cZ,bj,dH,ak⟩:∃lb cap,G.v=.slice (some ⟨lb,0,none⟩) G.ms.length cap/\B<=lb/\lb<w.heap.size/\G.ms.length<=cap/\cap<=maxLen/\∀j (hj:j<G.ms.length) i u,(xL G.ms[j].g)[i]?=some u->w.cell? ⟨lb,j*38+i,none⟩=some u:=by
   rcases L.lines.head with⟨_,e⟩|⟨g,cap,hx⟩
   ·exact absurd e L.some'
   ·exact⟨g,cap,hx⟩
  have W:∀i u,(xL m.g)[i]?=some u->w.cell? ⟨lb,pos*38+i,none⟩=some u:=by grind
  have Uz:va=some ⟨lb,0,none⟩/\vc=cap:=by grind
  obtain⟨rfl,rfl⟩:=Uz;have an:=h.len s;rw[ef]at C HS E an;obtain⟨a1,a2,a3⟩:=uX.1 h.apart;obtain⟨f1,f2,f3⟩:=a2 G lx;have hd:lb≠G.gb/\lb≠G.nb/\G.gb≠G.nb/\ib≠G.gb/\ib≠G.nb/\ib≠lb/\M≠G.gb/\M≠G.nb/\M≠lb:=by grind [MG.foot,hv,Value.ownBlock]
  obtain⟨d1,d2,d3,d4,d5,d6,d7,d8,d9⟩:=hd;have UA:=h_ L;have Nq:=h_ eh;have HFJ:=h_ ZO;have HCM:=h_ W;have P:=h_ hG;have HMS:=h_ ef;have HV:=h_ hv;have R5:=h_ Ux;have ZP:=h_ V;have aM:(pos:Int)<(G.ms.length:Int):=by omega
  clear L eh ZO W hG ef hv Ux V h hhas Fx fT T U Fr ak tQ a1 a2 a3 f1 f2 f3 Uy Fy HH;obtain⟨len,A8⟩:∃k,k=G.ms.length:=⟨_,rfl⟩;rw[<-A8]at C HS E an aM bj;have J:=h_ A8;clear A8;go_enter func338,ntmps338;go_wp2_with fail;refine C.mono ?_;rintro r w' ⟨rfl,rfl⟩;go_wp2_with fail;refine HS.mono ?_;rintro r c ⟨rfl,N⟩;have S:=A.below N;have Nr:=S.grps G lx;have hc0:=S.cell0;have F:=S.look s;rw[P.out]at F;simp only[aa_,aw_]at F;have aq:=h_ N;have DU:=h_ S;have D:=h_ Nr;clear N S Nr HS C;go_upto_region 7 with (fail)
  clear hc0 F;have q1:∀z:xf c,z.1.cell? ⟨G.gb,1,none⟩=some (.map (some G.nb)):=λz=>z.cell (cell_of_row c G.gb 1 _ _ _ D.blk)
  have q2:∀z:xf c,z.1.cell? ⟨G.gb,0,none⟩=some (.slice (some ⟨lb,0,none⟩) len vc):=λz=>z.cell ((cell_of_row c G.gb 0 _ _ _ D.blk).trans (by rw[HV.out,J.out];rfl))
  have hid:xp c ⟨lb,pos*38+1,none⟩ 32=true/\xo c ⟨lb,pos*38+1,none⟩ 32=(xl m.p.id).toArray:=yBk (l:=m.g) λi u hu=>(aq.cell (p:=⟨lb,pos*38+i,none⟩) cZ).trans (HCM.out i u hu)
  have q3:∀z:xf c,xp z.1 ⟨lb,pos*38+1,none⟩ 32=true:=λz=>z.ok hid.1
  have q4:∀z:xf c,xo z.1 ⟨lb,pos*38+1,none⟩ 32=(xl m.p.id).toArray:=λz=>(z.rd hid.1).trans hid.2
  clear hid;refine xz [0,1,2,3,4,5,6,7,8,9,10,11] [12] (λw'=>∃z:xf c,w'=z.1) ⟨⟨_,(z_ _ _).drew⟩,rfl⟩ ?_;simp only[o_]
  repeat (go_big_quiet_step (fail))
  refine wpQuiet_nil ?_;clear q1 q2 q3 q4;obtain⟨o,aR⟩:∃o,o=c.drew.putObj G.nb (.map ((G.nl.eraseIdx j).map (enE ekI)).toArray G.nc):=⟨_,rfl⟩;have A9:∀ty,(Builtin.delete_ #[173,42] ty #[.map (some G.nb),.agg (xl m.p.id).toArray]).run prog c.drew=.ok (.tuple #[]) o:=λty=>by
   rw[aR];exact xS3 keyI underlying173 ty c.drew G.nb G.nl G.nc D.nums m.p.id j _ HFJ.out iu
  have Z:∀k,k≠G.nb->o.heap[k]?=c.heap[k]?:=λk f=>by rw[aR,x6 f];rfl
  have dB:o.heap.size=c.heap.size:=by grind
  have AT:xV ekI o G.nb (G.nl.eraseIdx j) G.nc:=by rw[aR];exact xV.put (w:=c.drew) D.nums
  have gF:o.os=c.os/\o.tape=c.tape/\o.output=c.output:=by grind
  have H:=(Z G.gb d3).trans D.blk;have R:zp B o (.slice (some ⟨lb,0,none⟩) len vc) G.ms:=by
   have h1:=D.lines;rw[HV.out,<-J.out]at h1;refine h1.keep (λk f=>Z k ?_) (λx hx k f=>Z k ?_)
   ·cases f;exact d2
   ·rintro rfl;obtain⟨cur,h2⟩:=(h1.refs x hx).typed f;have h3:=D.nums;grind [xV]
  have dE:o.cell? ⟨G.gb,0,none⟩=some (.slice (some ⟨lb,0,none⟩) len vc):=by grind
  have UB:=frozen_of_row o G.gb 0 _ _ H;have UC:=h_ (xYe B lb vc len pos (yy G.ms) o (xM4 λx hx=>(R.refs x hx).one) (by rw[J.out];rw[J.out]at R;exact R.row) an E);have ly:=h_ Z;have dU:=h_ dB;have dw:=h_ AT;have iw:=h_ gF;have HG2:=h_ H;have tz:=h_ R;clear Z dB AT gF H R aR;refine yE ?_;simp only[o_];refine vU _ rfl (.tmp 31) (.tmp 39) 173 42 rfl _ _ rfl rfl (A9 _) ?_;go_wp2;refine T_ ?_;clear A9;go_wp2_with fail;refine UC.mono ?_;rintro r q ⟨rfl,ae,O⟩;have l1:G.gb<c.heap.size:=by grind
  have l2:ib<c.heap.size:=(i_ DU.blk).1;have l3:M<c.heap.size:=DU.map.lt;have l4:G.nb<c.heap.size:=D.nums.lt;have dB:=dU.out;have Y:∀k,k<c.heap.size->k≠lb->q.heap[k]?=o.heap[k]?:=λk f aT=>O.block k (by omega) (λe=>aT (G0 e))
  have i9:=(Y G.gb l1 (λe=>d1 e.symm)).trans HG2.out;have oR:q.cell? ⟨G.gb,0,none⟩=some (.slice (some ⟨lb,0,none⟩) len vc):=by grind
  have hfg3:=frozen_of_row q G.gb 0 _ _ i9;obtain⟨a,cY⟩:∃a,a=q.setCell ⟨G.gb,0,none⟩ (.slice (some ⟨lb,0,none⟩) (len-1) vc):=⟨_,rfl⟩;have pL:a.heap[G.gb]?=some (.cells #[.slice (some ⟨lb,0,none⟩) (len-1) vc,.map (some G.nb)] 176 (0,0)):=by grind
  have X:∀k,k≠G.gb->a.heap[k]?=q.heap[k]?:=λk f=>by rw[cY];exact heap_setCell_other q ⟨G.gb,0,none⟩ k _ f
  have fF:a.heap.size=q.heap.size:=by grind
  have C7:a.os=q.os/\a.tape=q.tape/\a.output=q.output:=by grind
  have n9:a.cell? ⟨G.gb,0,none⟩=some (.slice (some ⟨lb,0,none⟩) (len-1) vc):=by grind
  have UD:a.heap[ib]?=some (.cells #[.map (some M),.int .i64 (total gs)] 129 (0,0)):=(X ib d4).trans ((Y ib l2 d6).trans ((ly.out ib d5).trans DU.blk));have sQ:xV ekS a M (gs.map MG.e) mc:=(X M d7).trans ((Y M l3 d9).trans ((ly.out M d8).trans DU.map));have ZQ:xV ekI a G.nb (G.nl.eraseIdx j) G.nc:=(X G.nb (λe=>d3 e.symm)).trans ((Y G.nb l4 (λe=>d2 e.symm)).trans dw.out);have bO:=A.few;have UE:1<=total gs:=by grind [vz]
  have K5:zp B a (.slice (some ⟨lb,0,none⟩) (len-1) vc) (G.ms.eraseIdx pos):=by
   have ej:(G.ms.eraseIdx pos).length=len-1:=by grind
   refine⟨?_,λx hx=>?_⟩
   ·rw[ej,xY4];refine⟨ae.1,?_⟩;rcases ae.2 with h0|⟨g',cap',cur,e,hg,aw,hx⟩
    ·exact .inl h0
    ·refine .inr ⟨g',cap',cur,e,hg,(X g' ?_).trans aw,hx⟩;cases e
     exact d1
   ·have h1:=tz.refs x (xOx hx);refine h1.block λk f=>?_
    obtain⟨cur,h2⟩:=h1.typed f;have aT:k≠lb:=λe=>by
     obtain⟨c3,h4⟩:=xS tz.row (k:=lb) rfl;rw[e,h4]at h2;cases h2
    grind
  have dd:Kept G.foot w a:=by
   have h1:=aq.out;refine⟨?_,?_,?_,?_,λk f hn=>?_⟩
   ·exact C7.1.trans (O.os.trans (iw.1.trans h1.os))
   ·exact C7.2.1.trans (O.tape.trans (iw.2.1.trans h1.tape))
   ·exact C7.2.2.trans (O.output.trans (iw.2.2.trans h1.output))
   ·have:=O.size;have:=h1.size;omega
   grind [MG.foot,Value.ownBlock]
  have He:=h_ pL;have R6:=h_ UD;have UF:=h_ sQ;have K_:=h_ ZQ;have ZR:=h_ K5;have wO:=h_ dd;have A_:=h_ cY;have tS:=cell_of_row a ib 0 _ _ _ UD;clear i9 Y pL X fF C7 UD sQ ZQ K5 dd cY ae O dE UB dB;by_cases h1:len=1
  ·obtain⟨jm,iZ,db,mr⟩:=xZt s 0 P.out A.names;rw[m0]at iZ;obtain⟨d,cC⟩:∃d,d=a.putObj M (.map (((gs.map MG.e).eraseIdx jm).map (enE ekS)).toArray mc):=⟨_,rfl⟩;have Ns:∀ty,(Builtin.delete_ #[126,9] ty #[.map (some M),.string s]).run prog a=.ok (.tuple #[]) d:=λty=>by
    rw[cC];exact xS3 keyS underlying126 ty a M (gs.map MG.e) mc UF.out s jm _ iZ (by simpa using db)
   have C8:xV ekS d M ((jf gs s).map MG.e) mc:=by rw[cC,mr];exact UF.put
   have e5:∀k,k≠M->d.heap[k]?=a.heap[k]?:=by grind
   have sO:d.heap.size=a.heap.size:=by grind
   have DV:d.os=a.os/\d.tape=a.tape/\d.output=a.output:=by grind
   have mz:ib≠M:=(uX.1 A.apart).1;have R7:=(e5 ib mz).trans R6.out;have AR:=cell_of_row d ib 1 _ _ _ R7;have rQ:=frozen_of_row d ib 1 _ _ R7;have HI5:=h_ R7;have HM5:=h_ C8;have UG:=h_ e5;have C9:=h_ sO;have UH:=h_ DV;have Nt:(((len-1:Nat):Int)==0)=true:=by rw[h1];rfl
   have H1:=h_ h1;clear R7 C8 e5 sO DV cC iZ db mr h1;go_upto_region 9 with (fail)
   rw[<-A_.out];go_wp2_with (at_builtin;refine vU _ rfl (.tmp 60) (.tmp 61) 126 9 rfl _ _ rfl rfl (Ns _) ?_);have ht:=xCs A.names P.out;rw[<-J.out,H1.out]at ht;have I:(d.setCell ⟨ib,1,none⟩ (.int .i64 ((total gs:Int)-1))).heap[ib]?=some (.cells #[.map (some M),.int .i64 (total (jf gs s))] 129 (0,0)):=by
    have h2:=heap_setCell_same d ib 1 _ _ (.int .i64 ((total gs:Int)-1)) HI5.out;rw[h2,show ((total gs:Int)-1)=((total (jf gs s):Nat):Int) by omega];rfl
   have y:∀k,k≠ib->(d.setCell ⟨ib,1,none⟩ (.int .i64 ((total gs:Int)-1))).heap[k]?=d.heap[k]?:=λk f=>heap_setCell_other d ⟨ib,1,none⟩ k _ f
   have Q:(d.setCell ⟨ib,1,none⟩ (.int .i64 ((total gs:Int)-1))).heap.size=d.heap.size:=by simp
   generalize dS:d.setCell ⟨ib,1,none⟩ (.int .i64 ((total gs:Int)-1))=w6 at I y Q⊢;have UI:w6.os=d.os/\w6.tape=d.tape/\w6.output=d.output:=by grind
   have cr:Kept (ib :: M :: G.foot) w w6:=by grind
   have hcut:=A.cut P.out I ((y M (λe=>mz e.symm)).trans HM5.out) cr;clear I y Q dS UI AR rQ;go_ret;refine .inr ⟨pos,m,R5.out,ZP.out,rfl,_,mc,hcut.1,cr.mono λk f _=>?_,hcut.2,λt=>?_,by omega⟩
   ·grind [foot,List.mem_flatMap.2]
   grind [xNi,xC,List.length_eq_zero_iff,List.length_eraseIdx]
  ·have Nt:(((len-1:Nat):Int)==0)=false:=by grind
   go_upto_region 9 with (fail)
   rw[<-A_.out];have AR:=cell_of_row a ib 1 _ _ _ R6.out;have rQ:=frozen_of_row a ib 1 _ _ R6.out;have H1:=h_ h1;clear h1;go_wp2;obtain⟨G',K⟩:∃G':MG,G'=⟨G.name,G.born,G.gb,G.nb,.slice (some ⟨lb,0,none⟩) (len-1) vc,G.ms.eraseIdx pos,G.nl.eraseIdx j,G.nc⟩:=⟨_,rfl⟩;have ht:=xCr (G':=G') A.names P.out;have ej:G'.ms.length=len-1:=by grind
   rw[ej,<-J.out]at ht;have I:(a.setCell ⟨ib,1,none⟩ (.int .i64 ((total gs:Int)-1))).heap[ib]?=some (.cells #[.map (some M),.int .i64 (total (qz gs s G'))] 129 (0,0)):=by
    have h2:=heap_setCell_same a ib 1 _ _ (.int .i64 ((total gs:Int)-1)) R6.out;rw[h2,show ((total gs:Int)-1)=((total (qz gs s G'):Nat):Int) by omega];rfl
   have y:∀k,k≠ib->(a.setCell ⟨ib,1,none⟩ (.int .i64 ((total gs:Int)-1))).heap[k]?=a.heap[k]?:=λk f=>heap_setCell_other a ⟨ib,1,none⟩ k _ f
   have Q:(a.setCell ⟨ib,1,none⟩ (.int .i64 ((total gs:Int)-1))).heap.size=a.heap.size:=by simp
   generalize dS:a.setCell ⟨ib,1,none⟩ (.int .i64 ((total gs:Int)-1))=w6 at I y Q⊢;have UI:w6.os=a.os/\w6.tape=a.tape/\w6.output=a.output:=by grind
   have cr:Kept (ib :: G.foot) w w6:=by grind
   have au:ui B w6 G':=by
    rw[K];have hp:=Nq.out;refine⟨(y G.gb (λe=>d4 e.symm)).trans He.out,?_,(y G.nb (λe=>d5 e.symm)).trans K_.out,hp.agree,hp.ids,hp.sorted,hp.good,UA.named,?_,UA.gbB,UA.nbB⟩
    ·refine ZR.keep (λk f=>y k ?_) (λx hx k f=>y k ?_)
     ·cases f;exact λe=>d6 e.symm
     ·rintro rfl;obtain⟨cur,h2⟩:=(ZR.refs x hx).typed f;grind
    grind
   have Nu:=A.upd (w':=w6) (G':=G') P.out (by rw[K]) (by rw[K]) (by rw[K]) (by rw[K]) (.inl (by rw[K,HV.out];rfl)) au I cr (by omega);clear I y Q dS UI AR rQ;go_ret;refine .inr ⟨pos,m,R5.out,ZP.out,rfl,_,mc,Nu.1,cr.mono λk f _=>?_,Nu.2,λt=>?_,by omega⟩
   ·grind [foot,List.mem_cons.1,List.mem_cons.2,List.mem_flatMap.2]
   grind [xEs]
end
theorem xLk:∀a:List UInt8,Op.bytesLess a a=false
 |[]=>rfl
 |a :: x=>by
  unfold Op.bytesLess;rw[xLk x];simp
theorem xF9:∀a b c:List UInt8,Op.bytesLess a b=true->Op.bytesLess b c=true->Op.bytesLess a c=true
 |_,_,[],_,h=>by cases ‹List UInt8› <;> simp[Op.bytesLess]at h
 |[],_,_ :: _,_,_=>rfl
 |_ :: _,[],_ :: _,h,_=>by simp[Op.bytesLess]at h
 |a :: x,b :: y,c :: z,h1,h2=>by
  unfold Op.bytesLess at h1 h2⊢;simp only[ac_,decide_eq_true_eq,A0,beq_iff_eq]at h1 h2⊢;rcases h1 with h1|⟨h1,g1⟩
  ·grind
  ·rcases h2 with h2|⟨h2,d⟩
   ·exact .inl (h1▸h2)
   ·exact .inr ⟨h1.trans h2,xF9 x y z g1 d⟩
theorem kL:∀a b:List UInt8,Op.bytesLess a b=false->Op.bytesLess b a=false->a=b
 |[],[],_,_=>rfl
 |[],_ :: _,h,_=>by simp[Op.bytesLess]at h
 |_ :: _,[],_,h=>by simp[Op.bytesLess]at h
 |a :: x,b :: y,h1,h2=>by
  unfold Op.bytesLess at h1 h2;simp only[Bool.or_eq_false_iff,decide_eq_false_iff_not]at h1 h2;have e:a=b:=by grind
  subst e;simp only[beq_self_eq_true,Bool.true_and]at h1 h2;rw[kL x y h1.2 h2.2]
theorem xLl {a b}(h:Op.bytesLess a b=true):Op.bytesLess b a=false:=by grind [xF9,xLk]
def cmpL:List (List UInt8)->List (List UInt8)->Int
 |[],[]=>0
 |[],_ :: _=>-1
 |_ :: _,[]=>1
 |a :: x,b :: y=>if Op.bytesLess a b then -1 else if Op.bytesLess b a then 1 else cmpL x y
def cmpN (a b:ByteArray):Int:=cmpL (uP 46 a.data.toList) (uP 46 b.data.toList)
theorem xI5:∀x y,cmpL y x=- cmpL x y
 |[],[]=>rfl
 |[],_ :: _=>rfl
 |_ :: _,[]=>rfl
 |a :: x,b :: y=>by
  unfold cmpL;cases h1:Op.bytesLess a b with
  |true=>simp[xLl h1]
  |false=>
   cases h2:Op.bytesLess b a with
   |true=>simp
   |false=>simpa using xI5 x y
theorem yCe (x):cmpL x x=0:=by have:=xI5 x x;omega
theorem xPe:∀x y,cmpL x y=0->x=y
 |[],[],_=>rfl
 |[],_ :: _,h=>by simp[cmpL]at h
 |_ :: _,[],h=>by simp[cmpL]at h
 |a :: x,b :: y,h=>by
  unfold cmpL at h;cases h1:Op.bytesLess a b with
  |true=>simp[h1]at h
  |false=>
   cases h2:Op.bytesLess b a with
   |true=>simp[h1,h2]at h
   |false=>
    simp[h1,h2]at h;rw[kL a b h1 h2,xPe x y h]
theorem xMm:∀x y z,cmpL x y<0->cmpL y z<0->cmpL x z<0
 |[],[],_,h,_=>by simp[cmpL]at h
 |_ :: _,[],_,h,_=>by simp[cmpL]at h
 |_,_ :: _,[],_,h=>by simp[cmpL]at h
 |[],_ :: _,_ :: _,_,_=>by simp[cmpL]
 |a :: x,b :: y,c :: z,h1,h2=>by
  unfold cmpL at h1 h2⊢;cases ab:Op.bytesLess a b with
  |true=>
   grind [xF9,kL]
  |false=>
   cases ba:Op.bytesLess b a with
   |true=>simp[ab,ba]at h1
   |false=>
    obtain rfl:=kL a b ab ba;cases bc:Op.bytesLess a c with
    |true=>simp
    |false=>
     cases cb:Op.bytesLess c a with
     |true=>simp[bc,cb]at h2
     |false=>
      simp[ab]at h1;simp[bc,cb]at h2;simpa using xMm x y z h1 h2
theorem yCd (a b):cmpN b a=- cmpN a b:=xI5 _ _
theorem xBg (a):cmpN a a=0:=yCe _
theorem yCc {a b}(h:cmpN a b=0):a=b:=by
 have:=xPe _ _ h;have h2:=congrArg (λl=>Lib.join l [46]) this;simp only[xLt]at h2;cases a;cases b
 grind [Array.toList_inj]
theorem xMk {a b c}(h1:cmpN a b<0)(h2:cmpN b c<0):cmpN a c<0:=xMm _ _ _ h1 h2
theorem xMl {a b}(h1:¬ cmpN a b<0)(h2:¬ cmpN b a<0):a=b:=by grind [yCd,yCc]
def ordN (l:List ByteArray):Prop:=l.Pairwise λa b=>cmpN a b<0
theorem kw (a w):Calls prog 144 #[.string a] w λr w'=>r=.returned (.bool false)/\w=w':=by
 have h:(a.toList==a.toList)=true:=by simp
 go_enter func144,ntmps144;go_wp2;go_ret;exact⟨rfl,rfl⟩
def cmpS (a b:ByteArray):Int:=if Op.bytesLess a.toList b.toList then -1 else if Op.bytesLess b.toList a.toList then 1 else 0
theorem yHl (a b:ByteArray):(!(Op.bytesLess a.toList b.toList||a.toList==b.toList))=(Op.bytesLess b.toList a.toList):=by grind [xLl,xLk,kL]
theorem xYg (a b w):Calls prog 102 #[.string a,.string b] w λr w'=>r=.returned (.int .i64 (cmpS a b))/\w=w':=by
 have c:=yHl a b;unfold cmpS;generalize h1:Op.bytesLess a.toList b.toList=x at c;generalize h2:Op.bytesLess b.toList a.toList=y at c;generalize h3:(a.toList==b.toList)=z at c;cases x with
 |true=>
  go_enter func102,ntmps102;go_wp2_with fail;refine(kw a w).mono ?_;rintro r w' ⟨rfl,rfl⟩;go_wp2_with fail;refine(kw b w).mono ?_;rintro r w' ⟨rfl,rfl⟩;go_wp2;go_ret;exact⟨rfl,rfl⟩
 |false=>
  cases y with
  |true=>
   obtain rfl:z=false:=by cases z with|false=>rfl|true=>simp at c
   clear c;go_enter func102,ntmps102;go_wp2_with fail;refine(kw a w).mono ?_;rintro r w' ⟨rfl,rfl⟩;go_wp2_with fail;refine(kw b w).mono ?_;rintro r w' ⟨rfl,rfl⟩;go_wp2;go_ret;exact⟨rfl,rfl⟩
  |false=>
   obtain rfl:z=true:=by cases z with|true=>rfl|false=>simp at c
   clear c;go_enter func102,ntmps102;go_wp2_with fail;refine(kw a w).mono ?_;rintro r w' ⟨rfl,rfl⟩;go_wp2_with fail;refine(kw b w).mono ?_;rintro r w' ⟨rfl,rfl⟩;go_wp2;go_ret;exact⟨rfl,rfl⟩
theorem xGy {α:Type}(l:List α)(k)(h:l.length<=k):l.drop k=[]:=M0 h
def cmpB (xs ys:List ByteArray):Int:=cmpL (xs.map (·.data.toList)) (ys.map (·.data.toList))
theorem yCf {xs ys:List ByteArray}{k}(hx:k<xs.length)(hy:k<ys.length):cmpB (xs.drop k) (ys.drop k)=if cmpS xs[k] ys[k]≠0 then cmpS xs[k] ys[k]else cmpB (xs.drop (k+1)) (ys.drop (k+1)):=by
 rw[M3 hx,M3 hy];grind [cmpB,cmpS,ByteArray.toList_eq,cmpL]
theorem yHw (a b):cmpN a b=cmpB (yL 46 a) (yL 46 b):=by
 unfold cmpN cmpB yL;simp only[T7];have:((λx:ByteArray=>x.data.toList)∘str)=id:=by grind [yDb]
 grind [List.map_id]
theorem xVz (b1 b2 c1 c2 xs ys w)(hx:uk w b1 0 xs)(hy:uk w b2 0 ys)(h1:xs.length<=1000000)(h2:ys.length<=1000000):
  Calls prog 63 #[.slice (some ⟨b1,0,none⟩) xs.length c1,.slice (some ⟨b2,0,none⟩) ys.length c2] w λr w'=>r=.returned (.int .i64 (cmpB xs ys))/\w=w':=by
 have o:=h_ hx;have n:=h_ hy;clear hx hy;go_enter func63,ntmps63;go_wp2;go_loop [11] (λi=>∃k:Nat,k<=xs.length/\k<=ys.length/\i=.int .i64 k/\Hid (cmpB xs ys=cmpB (xs.drop k) (ys.drop k))) (λi=>xs.length-(intOf i).toNat)
 case atStart=>exact⟨0,by omega,by omega,rfl,h_ rfl⟩
 case round=>
  obtain⟨k,p,m,rfl,a⟩:=hrel;by_cases hlt:k<xs.length
  ·have q:(k:Int)<(xs.length:Int):=by omega
   have j:=o.out k _ (U_ hlt);rw[m0]at j;by_cases hlt2:k<ys.length
   ·have l:¬ ((ys.length:Int)<=(k:Int)):=by omega
    have s:((k:Int)<(ys.length:Int)):=by omega
    have h:=n.out k _ (U_ hlt2);rw[m0]at h;have e:=h_ (a.trans (yCf hlt hlt2));have d:=h_ (xYg xs[k] ys[k] w);clear a;generalize cmpS xs[k] ys[k]=c at e d;generalize xs[k]=x at j d;generalize ys[k]=y at h d;go_wp2_with fail;refine d.mono ?_;rintro r w' ⟨rfl,rfl⟩;by_cases hc0:c=0
    ·subst hc0;go_wp2;go_round
     case rel=>exact⟨k+1,by omega,by omega,by go_num,h_ (by rw[e.out];simp)⟩
     case measure=>simp[intOf];omega
    ·have g:(c != 0)=true:=by grind
     have f:(c==0)=false:=by grind
     go_wp2;go_ret;exact⟨ud (by rw[e.out,if_pos hc0]),rfl⟩
   ·have l:((ys.length:Int)<=(k:Int)):=by omega
    have b:Hid (cmpB xs ys=1):=h_ (by
     rw[a.out,M3 hlt,xGy ys k (by omega)];rfl)
    clear a;go_wp2;go_ret;exact⟨ud b.symm,rfl⟩
  ·by_cases hlt2:k<ys.length
   ·have hl:(xs.length:Int)<(ys.length:Int):=by omega
    have b:Hid (cmpB xs ys=-1):=h_ (by
     rw[a.out,M3 hlt2,xGy xs k (by omega)];rfl)
    clear a;go_wp2;go_ret;exact⟨ud b.symm,rfl⟩
   ·have hl:¬ (xs.length:Int)<(ys.length:Int):=by omega
    have b:Hid (cmpB xs ys=0):=h_ (by
     rw[a.out,xGy xs k (by omega),xGy ys k (by omega)];rfl)
    clear a;go_wp2;go_ret;exact⟨ud b.symm,rfl⟩
theorem xVy (a b w)(c:Gl w)(ha:a.size<=100000)(l:b.size<=100000):
  Calls prog 38 #[.string a,.string b] w λr w'=>r=.returned (.int .i64 (cmpN a b))/\Below w.heap.size w w'/\(w.alloc (.cells ((yL 46 a).map Value.string).toArray 9)).alloc (.cells ((yL 46 b).map Value.string).toArray 9)=w':=by
 have i:=(xF5 46 a).2;have h:=(xF5 46 b).2;have d:Below w.heap.size w ((w.alloc (.cells ((yL 46 a).map Value.string).toArray 9)).alloc (.cells ((yL 46 b).map Value.string).toArray 9)):=by grind
 have j:=h_ d;clear d;have e:uk ((w.alloc (.cells ((yL 46 a).map Value.string).toArray 9)).alloc (.cells ((yL 46 b).map Value.string).toArray 9)) w.heap.size 0 (yL 46 a):=λk x hx=>T6 _ (xHj w 9 (yL 46 a) k x hx)
 have f:uk ((w.alloc (.cells ((yL 46 a).map Value.string).toArray 9)).alloc (.cells ((yL 46 b).map Value.string).toArray 9)) (w.heap.size+1) 0 (yL 46 b):=by
  have:=xHj (w.alloc (.cells ((yL 46 a).map Value.string).toArray 9)) 9 (yL 46 b);simpa using this
 have g:=h_ (xVz w.heap.size (w.heap.size+1) (yL 46 a).length (yL 46 b).length (yL 46 a) (yL 46 b) _ e f (by omega) (by omega));clear e f;rw[<-yHw]at g;go_enter func38,ntmps38;go_wp2_with fail;refine(xMg a w c (by omega)).mono ?_;rintro r w'⟨rfl,rfl⟩;go_wp2_with fail;refine(xMg b _ (c.later ((z_ _ _).alloc (w_ _) _)) (by omega)).mono ?_;rintro r w'⟨rfl,rfl⟩;go_wp2_with fail;refine g.mono ?_;rintro r w' ⟨rfl,rfl⟩;go_wp2;go_ret;exact⟨rfl,j.out,rfl⟩
theorem uk.below' {w w' b off xs}(h:uk w b off xs){B}(a:Below B w w')(c:b<B):uk w' b off xs:=λk x hx=>(a.cell (p:=⟨b,_,none⟩) c).trans (h k x hx)
end Go.Proofs.YtdhapkeimaljfaaGreatDoor
namespace Go.Proofs
open Go.Shelf
def Tryz.keysA_ren:Go.Shelf.Ren:=⟨λ| 7=>37|10=>62|n=>n,λ| 23=>126|26=>9|3=>127|28=>124|0=>0|27=>123|33=>179|4=>4|n=>n,λ| n=>n⟩
theorem Tryz.keysA:Go.Proofs.SlLaysZ.n7 prog Tryz.keysA_ren:={
 mixed:=by kernel_rfl
 f7:=⟨Tryz.f37.name,by decide,func37.trans (congrArg some (by kernel_rfl))⟩
 f10:=⟨f62.name,by decide,func62.trans (congrArg some (by kernel_rfl))⟩
 t0:=underlying0
 a0:=isAgg0
 z0:=sizeOf0
 v0:=zeroValue0
 t4:=underlying4
 a4:=isAgg4
 z4:=sizeOf4
 v4:=zeroValue4
 t23:=underlying126
 a23:=isAgg126
 z23:=sizeOf126
 v23:=zeroValue126
 t26:=underlying9
 a26:=isAgg9
 z26:=sizeOf9
 v26:=zeroValue9
 t27:=underlying123
 a27:=isAgg123
 z27:=sizeOf123
 v27:=zeroValue123
 t28:=underlying124
 a28:=isAgg124
 z28:=sizeOf124
 v28:=zeroValue124
 t33:=underlying179
 a33:=isAgg179
 z33:=sizeOf179
 v33:=zeroValue179 }
def Tryz.collectA_ren:Go.Shelf.Ren:=⟨λ| 8=>60|11=>99|n=>n,λ| 26=>9|28=>124|24=>43|0=>0|33=>179|4=>4|n=>n,λ| n=>n⟩
theorem Tryz.collectA:Go.Proofs.SlLaysZ.n8 prog Tryz.collectA_ren:={
 mixed:=by kernel_rfl
 f8:=⟨f60.name,by decide,func60.trans (congrArg some (by kernel_rfl))⟩
 f11:=⟨f99.name,by decide,func99.trans (congrArg some (by kernel_rfl))⟩
 t0:=underlying0
 a0:=isAgg0
 z0:=sizeOf0
 v0:=zeroValue0
 t24:=underlying43
 a24:=isAgg43
 z24:=sizeOf43
 v24:=zeroValue43
 t26:=underlying9
 a26:=isAgg9
 z26:=sizeOf9
 v26:=zeroValue9
 t28:=underlying124
 a28:=isAgg124
 z28:=sizeOf124
 v28:=zeroValue124
 i26:=by kernel_rfl }
def Tryz.sortA_ren:Go.Shelf.Ren:=⟨λ| 6=>61|15=>101|14=>100|28=>142|29=>143|20=>134|21=>135|22=>136|23=>137|24=>138|25=>139|26=>140|27=>141|46=>180|47=>181|48=>182|49=>183|50=>184|57=>210|n=>n,λ| 22=>43|24=>9|25=>130|3=>3|39=>221|0=>0|53=>290|55=>292|4=>4|46=>284|45=>283|50=>134|5=>5|9=>9|66=>334|70=>337|76=>364|77=>365|n=>n,λ| n=>n⟩
theorem Tryz.sortA:Go.Proofs.SlLaysF.n6 prog Tryz.sortA_ren:={
 mixed:=by kernel_rfl
 f6:=⟨f61.name,by decide,func61.trans (congrArg some (by kernel_rfl))⟩
 f14:=⟨f100.name,by decide,func100.trans (congrArg some (by kernel_rfl))⟩
 f15:=func101.trans (congrArg some (by kernel_rfl))
 f20:=⟨f134.name,by decide,func134.trans (congrArg some (by kernel_rfl))⟩
 f21:=⟨f135.name,by decide,func135.trans (congrArg some (by kernel_rfl))⟩
 f22:=⟨f136.name,by decide,func136.trans (congrArg some (by kernel_rfl))⟩
 f23:=⟨f137.name,by decide,func137.trans (congrArg some (by kernel_rfl))⟩
 f24:=⟨Tryz.f138.name,by decide,func138.trans (congrArg some (by kernel_rfl))⟩
 f25:=⟨f139.name,by decide,func139.trans (congrArg some (by kernel_rfl))⟩
 f26:=⟨f140.name,by decide,func140.trans (congrArg some (by kernel_rfl))⟩
 f27:=⟨f141.name,by decide,func141.trans (congrArg some (by kernel_rfl))⟩
 f28:=func142.trans (congrArg some (by kernel_rfl))
 f29:=func143.trans (congrArg some (by kernel_rfl))
 f46:=⟨f180.name,by decide,func180.trans (congrArg some (by kernel_rfl))⟩
 f47:=func181.trans (congrArg some (by kernel_rfl))
 f48:=func182.trans (congrArg some (by kernel_rfl))
 f49:=⟨f183.name,by decide,func183.trans (congrArg some (by kernel_rfl))⟩
 f50:=⟨f184.name,by decide,func184.trans (congrArg some (by kernel_rfl))⟩
 f57:=⟨f210.name,by decide,func210.trans (congrArg some (by kernel_rfl))⟩
 t0:=underlying0
 a0:=isAgg0
 z0:=sizeOf0
 v0:=zeroValue0
 t3:=underlying3
 a3:=isAgg3
 z3:=sizeOf3
 v3:=zeroValue3
 t4:=underlying4
 a4:=isAgg4
 z4:=sizeOf4
 v4:=zeroValue4
 t5:=underlying5
 a5:=isAgg5
 z5:=sizeOf5
 v5:=zeroValue5
 t9:=underlying9
 a9:=isAgg9
 z9:=sizeOf9
 v9:=zeroValue9
 t22:=underlying43
 a22:=isAgg43
 z22:=sizeOf43
 v22:=zeroValue43
 a24:=isAgg9
 z24:=sizeOf9
 t25:=underlying130
 a25:=isAgg130
 z25:=sizeOf130
 v25:=zeroValue130
 t39:=underlying221
 a39:=isAgg221
 z39:=sizeOf221
 v39:=zeroValue221
 t45:=underlying283
 a45:=isAgg283
 z45:=sizeOf283
 v45:=zeroValue283
 t46:=underlying284
 a46:=isAgg284
 z46:=sizeOf284
 v46:=zeroValue284
 t50:=underlying134
 a50:=isAgg134
 z50:=sizeOf134
 v50:=zeroValue134
 t53:=underlying290
 a53:=isAgg290
 z53:=sizeOf290
 v53:=zeroValue290
 t55:=underlying292
 a55:=isAgg292
 z55:=sizeOf292
 v55:=zeroValue292
 t66:=underlying334
 a66:=isAgg334
 z66:=sizeOf334
 v66:=zeroValue334
 t70:=underlying337
 a70:=isAgg337
 z70:=sizeOf337
 v70:=zeroValue337
 t76:=underlying364
 a76:=isAgg364
 z76:=sizeOf364
 v76:=zeroValue364
 t77:=underlying365
 a77:=isAgg365
 z77:=sizeOf365
 v77:=zeroValue365 }
end Go.Proofs
namespace Go.Proofs.YtdhapkeimaljfaaGreatDoor
open Go Go.RowKit Go.Proofs Tryz
structure zw (A B:Nat)(X Y:World):Prop where
 os:Y.os=X.os
 tape:Y.tape=X.tape
 output:Y.output=X.output
 size:X.heap.size<=Y.heap.size
 block:∀k,k<X.heap.size->(k<A\/B<=k)->Y.heap[k]?=X.heap[k]?
theorem zw.refl (A B:Nat)(X:World):zw A B X X:=⟨rfl,rfl,rfl,w_ _,λ_ _ _=>rfl⟩
theorem zw.mono {A A' B B':Nat}{X Y:World}(h:zw A B X Y)(d:A'<=A)(c:B<=B'):zw A' B' X Y:=
 ⟨h.os,h.tape,h.output,h.size,λk b a=>h.block k b (by rcases a with a|a;exact .inl (by omega);exact .inr (by omega))⟩
theorem zw.of_below {A B:Nat}{X Y:World}(h:Below X.heap.size X Y):zw A B X Y:=⟨h.os,h.tape,h.output,h.size,λk a _=>h.block k a⟩
theorem zw.grown {A B:Nat}{X Y Z:World}{row:Option Nat}(h:zw A B X Y)(a:Y.grownBy Z row)(c:∀k,row=some k->(A<=k/\k<B)\/X.heap.size<=k):zw A B X Z:=
 ⟨a.os.trans h.os,a.tape.trans h.tape,a.output.trans h.output,R_ h.size a.size,λk b d=>(a.block k (b7 b h.size) (λe=>by rcases c k e.symm with h1|h1 <;> omega)).trans (h.block k b d)⟩
theorem zw.putObj {A B:Nat}(X:World)(l:Nat)(o:Obj)(h:A<=l/\l<B):zw A B X (X.putObj l o):=(zw.refl A B X).grown (grownBy_putObj' X l o) (λk e=>by cases e;exact .inl h)
section
variable {F:Fence} {n:Nat} {P:Program}
end
end Go.Proofs.YtdhapkeimaljfaaGreatDoor
