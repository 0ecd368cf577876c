/- Parts of the proofs about bulletinlaw29: Rec6, Rec7a, ZM, ZN, Print, ScanId, Split, Set, SetRefs, Part, Parse, Build, Back, Own, Plain, Inv, LawCheck, Check, Clone, Insert, ZO, Knows, Search, MapLaw, Index, Get, InsertMid, AddLaw, PJour, ZP, ZQ, ZR, ZS, ZT, ZU, ZV. -/
import Derived.Test.YtegfbhdkenkkdaaGreatDoorRL1
import Derived.Laws.StructEq
import Derived.WalkMore
import Derived.Lib.SplitLaws
import Derived.Great.BuildSlice
import Derived.Deep.QuietTactic
import Derived.WalkSpells
import Derived.Outline
import Derived.Carry
import Derived.WideMake
import Derived.RangeFuncRecord
import Derived.Deep.CutBlock
import Derived.Shelf.Spec.SlicesInsertGrow
import Derived.Laws.CopyRow
import Derived.Maps.AppendAt
import Derived.RangeFuncNested
import Derived.RangeFuncBound
import Derived.RangeFuncCalls
import Derived.RangeFuncLeaves
import Derived.Shelf.Abstract
import Derived.Shelf.AbstractIn
import Derived.Shelf.RegionOpen
import Derived.OwnWalkIn
import Derived.TacticsInMore
import Derived.RegionIn
import Derived.LoopNIn
import Derived.LoopIn
set_option maxRecDepth 100000
set_option linter.all false
set_option maxHeartbeats 8000000
namespace Go.Proofs.YtegfbhdkenkkdaaGreatDoor
open Go Go.RowKit Go.Proofs Tryz
def bX_:=@Nat.lt_irrefl
def bG_:=@List.drop_eq_getElem_cons
def aG_:=@List.append_nil
def bU_:=@List.length_singleton
def bt_:=@List.map_map
def br_:=@List.length_eq_zero_iff
def dR_:=@Array.foldl_toList
def dD_:=@Array.toList_zipIdx
def bw_:=@List.flatMap_cons
def ax_:=@List.getElem?_eq_some_iff
def bg_:=@List.mem_flatMap
def dE_:=@ByteArray.toList_eq
def cO_:=@World.cell?_drew
def bc_:=@World.ownsRow.cells
def bH_:=@List.pairwise_iff_getElem
def dT_:=@MapKept.bytes_beq
def cB_:=@List.eraseIdx_cons_succ
def dg_:=@MapKept.run_setObj_map
def ct_:=@List.mem_of_find?_eq_some
def eg_:=@List.find?_some
def bu_:=@List.find?_cons
def cb_:=@List.sum_cons
def aT_:=@Option.mem_toList
def ck_:=@List.mem_of_getElem?
def bo_:=@List.take_append_of_le_length
def dx_:=@List.drop_append_of_le_length
def bp_:=@List.mem_of_mem_drop
def bs_:=@Array.length_toList
def dm_:=@Lib.wpList_append_run
def dh_:=@List.getElem_take
def bl_:=@List.map_append
def cq_:=@List.map_nil
def du_:=@List.map_take
def di_:=@List.pairwise_map
def cs_:=@List.find?_eq_none
def dU_:=@List.find?_append
def bf_:=@List.mem_cons_self
def aY_:=@List.mem_cons_of_mem
def dj_:=@Option.map_eq_some_iff
def dF_:=@List.takeWhile_cons
def dV_:=@List.ext_getElem?
def dW_:=@Array.all_eq_true
def bN_:=@List.length_replicate
def by_:=@Oper.semAt_eq
def bm_:=@List.length_nil
def cl_:=@Array.replicate_succ
def cm_:=@Array.replicate_zero
def cv_:=@List.push_toArray
def cp_:=@List.append_toArray
def dk_:=@Array.size_map
def cP_:=@Array.size_range
def ea_:=@List.take_length
section
def y9 (k g n:Int)(v:Value):List Value:=[.int .i64 k,.int .i64 g,.int .i64 n,v]
theorem zn (a b c):((#[a,b,c]:Array Value).size==3)=true:=rfl
theorem zu (a b c d):((#[a,b,c,d]:Array Value).size==4)=true:=rfl
theorem yx (a b c):kO #[a,b,c] 0 3=true:=rfl
theorem yw (a b c):kK #[a,b,c] 0 3=#[a,b,c]:=rfl
theorem yDz (a b c):xy 3 #[.int .i64 a,.int .i64 b,.int .i64 c]=true:=by simp[xy,Value.oneCell']
attribute [local go_sem ↓] xAc xCg
attribute [local go_sem] xJo xQs zn zu yx yw yDz xh xf xa x9 xu xv xk xj xq xx xt
structure SpSt (W0:World)(r:PRec)(a:Addr)(cap:Nat)(k:Nat)(v:Value)(W:World):Prop where
 bel:Below W0.heap.size W0 W
 box:W.heap[W0.heap.size]?=some (.cells #[.int .i64 r.kind,.int .i64 r.gen,.int .i64 r.num,.slice (some a) r.pay.length cap] 172 (0,0))
 sc:∃vs,ScAt W (W0.heap.size+2) v ((yk sha r).take k) vs
 sz:W0.heap.size+2<=W.heap.size
theorem SpSt.lt {W0 r a cap k v W}(s:SpSt W0 r a cap k v W):W0.heap.size<W.heap.size:=(i_ s.box).1
theorem xU9 (r)(aD:r.Ok)(a cap W)(hK:qU W)(hl:r.pay.length<=cap)(hs:SlB W a r.pay)(ha:a.block<W.heap.size):
  Calls prog 109 #[.agg (y9 r.kind r.gen r.num (.slice (some a) r.pay.length cap)).toArray] W λe W'=>∃v vs,e=.returned (.tuple #[v,.int .i64 0])/\ScAt W' W.heap.size v (yk sha r) vs/\Below W.heap.size W W':=by
 have hN:xO r.pay.length<=586:=by have:=aD.2;unfold xO;omega
 have Lx:=aD.1;have ey:=aD.2;obtain⟨m,hm⟩:∃m,m=r.pay.length:=⟨_,rfl⟩;have HM:=h_ hm;have iW:=h_ aD;have Sc:=h_ Lx;have HS:=h_ hs;have HK:=h_ hK;rw[<-hm]at hl hN ey⊢;have bZ:=xRq m;have wt:=h_ bZ;have c_:(W.alloc (.cells #[.int .i64 r.kind,.int .i64 r.gen,.int .i64 r.num,.slice (some a) m cap] 172)).heap[W.heap.size]?=some (.cells #[.int .i64 r.kind,.int .i64 r.gen,.int .i64 r.num,.slice (some a) m cap] 172 (0,0)):=heap_alloc_new W _;have mC:=h_ c_;clear hm aD Lx hs hK bZ c_;unfold y9;go_enter func109,ntmps109;go_wp2_with fail;refine(xFy _ _ _ _).mono ?_;rintro e w1 ⟨b,rfl,EF,aa⟩;obtain rfl:b=true:=EF.2 Sc.out;have Ao:=(aa.block W.heap.size (by simp;omega)).trans ((heap_alloc_old (w:=W.alloc (.cells #[.int .i64 r.kind,.int .i64 r.gen,.int .i64 r.num,.slice (some a) m cap] 172)) (o:=.cells #[.int .i64 r.kind,.int .i64 r.gen,.int .i64 r.num] 272) (h:=by simp)).trans mC.out);have eO:Below W.heap.size W w1:=(((ab_ W.heap.size W).alloc (aa_ _) _).alloc (by simp) _).trans (aa.mono (by simp;omega));have Ly:W.heap.size+2<=w1.heap.size:=by have:=aa.size;simp at this;omega
 have Lz:=h_ Ao;have ar:=h_ eO;have Sd:=h_ Ly;have c3:=cell_of_row w1 W.heap.size 3 _ _ _ Ao;simp only[ah_,ay_,aC_]at c3;clear EF aa Ao eO Ly;go_wp2_with (go_at_call 76;refine(wt.out _ (by omega)).mono ?_;rintro e w' ⟨rfl,rfl⟩);clear c3;go_loopw [7,32] (λv i wr=>∃k:Nat,k<=xO m/\i=.int .i64 k/\SpSt W r a cap k v wr) (λ_ i _=>xO m-(intOf i).toNat)
 case atStart=>exact⟨0,by omega,rfl,⟨ar.out,by have:=Lz.out;rw[<-HM.out];exact this,⟨[],ScAt.nil _ _⟩,Sd.out⟩⟩
 case round=>
  obtain⟨k,hk,rfl,ax⟩:=hrel;by_cases hlt:k<xO m
  ·have cr:(k:Int)<(xO m:Nat):=by omega
   have Wp:k<586:=by omega
   have C9:(k:Int)<586:=by omega
   have sv:k*224<=m:=by unfold xO at hlt;omega
   have pR:=ax.box;rw[<-HM.out]at pR;have c0:=cell_of_row wr W.heap.size 0 _ _ _ pR;have c1:=cell_of_row wr W.heap.size 1 _ _ _ pR;have c2:=cell_of_row wr W.heap.size 2 _ _ _ pR;have c3:=cell_of_row wr W.heap.size 3 _ _ _ pR;simp only[ah_,ay_,aC_]at c0 c1 c2 c3;obtain⟨vs,fd⟩:=ax.sc;obtain⟨h,hh⟩:∃h,h=min ((k+1)*224) m:=⟨_,rfl⟩;have ZW:k*224<=h:=by omega
   have cu:=xEj a m cap (k*224) h ((k:Int)*224) (min (((k:Int)+1)*224) (m:Int)) (by omega) (by omega) ZW (by omega);have Qp:=xCt iW.out (i:=k) (by rw[<-HM.out];exact hlt);have aG:(zc r k).bytes.length=h-k*224:=by simp only[zc,ai_,ao_,<-HM.out];omega
   have Aq:SlB wr (cutA a cap (k*224)) (zc r k).bytes:=by
    have h0:SlB wr a r.pay:=⟨λj c hj=>(ax.bel.cell (by rw[ya];exact ha)).trans (HS.cell j c hj)⟩;exact(h0.cut (by rw[<-HM.out];exact hl) (k*224)).take 224
   have Ar:=xKk (zc r k) Qp (some (cutA a cap (k*224))) (cap-k*224) wr (HK.below ax.bel (aa_ _)) (by rw[aG];omega) (λq hq=>by cases hq;exact⟨Aq,by rw[ky];have:=ax.bel.size;omega⟩) (λhq=>by cases hq);rw[aG]at Ar;have m9:(zc r k).idx=(k:Int):=rfl;have mY:(zc r k).cnt=((xO m:Nat):Int):=by rw[HM.out];rfl
   have sw:(zc r k).kind=r.kind:=rfl;have pS:(zc r k).gen=r.gen:=rfl;have gE:(zc r k).num=r.num:=rfl;rw[m9,mY,sw,pS,gE]at Ar;unfold zg at Ar;have tv:=h_ Ar;have aO:=h_ ax;have pu:=h_ fd;have ZX:=h_ pR;clear pR fd ax Ar m9 mY sw pS gE Qp aG Aq hh;go_wp2_with fail;refine tv.mono ?_;rintro e w5 ⟨g,rfl,hge,ah,aF⟩;have EK:(encP sha (zc r k)).length=256:=xT9 sha yZ (xCt iW.out (i:=k) (by rw[<-HM.out];exact hlt)).2.2.2.2.2.1;have eH:g<w5.heap.size:=(i_ ah).1;have ia:=aO.sz;have LA:=xTa (B:=W.heap.size+2) (v:=u7) ah EK (ad_ ia hge) (λe=>bX_ _ (ap_ (aL_ pu.own g e).2 hge));have LB:=pu.later aF;have aM:Below w5.heap.size w5 (w5.alloc (.cells #[.slice (some ⟨g,0,none⟩) 256 256] 31)):=(ab_ _ _).alloc (aa_ _) _;have Se:=h_ (LA.later aM);have Sf:=h_ (LB.later aM);have bj:(yk sha r).take (k+1)=(yk sha r).take k++[encP sha (zc r k)]:=by
    have hl:k<(yk sha r).length:=by rw[zx,<-HM.out];exact hlt
    rw[am_ hl];simp[yk]
   have ed:=h_ bj;have pT:Below W.heap.size W w5:=aO.bel.trans (aF.mono aO.bel.size);have fb:=h_ (pT.trans (aM.mono pT.size));have LC:=h_ ((aM.block _ (by have:=aO.lt;have:=aF.size;omega)).trans ((aF.block _ aO.lt).trans aO.box));have ie:((yk sha r).take k).length<=1000000:=by rw[ai_];omega
   have Sg:=h_ ie;have As:(w5.alloc (.cells #[.slice (some ⟨g,0,none⟩) 256 256] 31)).cell? ⟨w5.heap.size,0,none⟩=some (.slice (some ⟨g,0,none⟩) 256 256):=by rw[yz];rfl
   have GB:=h_ As;have wu:=h_ (show W.heap.size+2<=(w5.alloc (.cells #[.slice (some ⟨g,0,none⟩) 256 256] 31)).heap.size by rw[al_];have:=aF.size;omega);have sx:=h_ (show ∀k2,u7.ownBlock=some k2->W.heap.size+2<=k2 from λk2 e=>(aL_ pu.own k2 e).1);clear LA LB aM bj pT ie As ah hge eH EK aF pu tv c0 c1 c2 c3 cu ia;go_wp2_with (at_builtin;refine xBq rfl (.tmp 64) (.tmp 66) rfl (W.heap.size+2) _ ((yk sha r).take k) vs rfl Sf.out _ _ Se.out ⟨w5.heap.size,0,none⟩ rfl GB.out Sg.out wu.out ?_);intro v' w7 GC Cv _;rw[<-ed.out]at GC;have At:SpSt W r a cap (k+1) v' w7:=⟨fb.grown Cv (by have:=fb.size;omega) (λk2 e=>by have:=sx.out k2 e;omega),(Cv.block _ (by have:=wu.out;omega) (λe=>by have:=sx.out _ e.symm;omega)).trans LC.out,⟨_,GC⟩,ad_ wu.out Cv.size⟩;have lp:=h_ At;clear GC Cv At;go_wp2;go_roundw
   case rel=>exact⟨k+1,by omega,by go_num,lp.out⟩
   case measure=>simp[intOf];omega
  ·obtain rfl:k=xO m:=by omega
   obtain⟨vs,fd⟩:=ax.sc;rw[ar_ (by rw[zx,<-HM.out];exact aa_ _)]at fd;have pu:=h_ (fd.base (B':=W.heap.size) (by omega));have HB:=h_ ax.bel;clear ax fd;go_wp2;go_ret2;exact⟨_,vs,rfl,pu.out,HB.out⟩
end
theorem map3 {α β:Type}{f:α->β}{l}{x y z:β}(h:l.map f=[x,y,z]):∃a b c,l=[a,b,c]/\f a=x/\f b=y/\f c=z:=by
 cases l with
 |nil=>simp at h
 |cons a l=>cases l with
  |nil=>simp at h
  |cons b l=>cases l with
   |nil=>simp at h
   |cons c l=>cases l with
    |nil=>simp at h;exact⟨a,b,c,rfl,h.1,h.2.1,h.2.2⟩
    |cons d l=>simp at h
def fKey (f : Field) : Bool×TypeId×Nat := (decide (f.name ≠ "_"), f.type, f.offset)
theorem xAi {d xs ys f fs t o}(h:fKey f=(true,t,o)){P w a b r}
  (h1:Sem.run P (part t xs o) w=.ok a w) (h2:Sem.run P (part t ys o) w=.ok b w) (h3:Sem.run P (Op.equalIn d t a b) w=.ok r w):
  Sem.run P (Op.eqFields d xs ys (f :: fs)) w=if r then Sem.run P (Op.eqFields d xs ys fs) w else .ok false w:=by
 simp only[fKey,cw_,decide_eq_true_eq]at h;obtain⟨hn,rfl,rfl⟩:=h;rw[Op.eqFields,if_pos hn];simp only[aE_,h1,h2,h3,aw_];cases r <;> simp
theorem qW (xs i v)(h:xs[i]?=some v)(w):Sem.run prog (part 3 xs i) w=.ok v w:=by
 simp[part,isAgg3,h]
theorem yBi (a b c a' b' c' d w):Sem.run prog (Op.equalIn (d+2) 272 (.agg #[.int .i64 a,.int .i64 b,.int .i64 c]) (.agg #[.int .i64 a',.int .i64 b',.int .i64 c'])) w=.ok (a==a'&&(b==b'&&c==c')) w:=by
 rw[run_equalIn_struct w (d+1) 272 _ _ (by kernel_rfl) (by kernel_rfl)];have hm:(prog.fieldsOf 272).toList.map fKey=[(true,3,0),(true,3,1),(true,3,2)]:=by kernel_rfl
 obtain⟨f1,f2,f3,hl,h1,h2,h3⟩:=map3 hm;rw[hl];have hi:∀x y:Int,Sem.run prog (Op.equalIn (d+1) 3 (.int .i64 x) (.int .i64 y)) w=.ok (x==y) w:=λx y=>run_equalIn_int w d 3 .i64 .i64 x y underlying3
 rw[xAi h1 (qW _ 0 _ rfl w) (qW _ 0 _ rfl w) (hi a a'),xAi h2 (qW _ 1 _ rfl w) (qW _ 1 _ rfl w) (hi b b'),xAi h3 (qW _ 2 _ rfl w) (qW _ 2 _ rfl w) (hi c c')];cases (a==a') <;> cases (b==b') <;> cases (c==c') <;> simp[Op.eqFields]
theorem xRk (a b c d e w):Sem.run prog (part 272 #[a,b,c,d,e] 0) w=.ok (.agg #[a,b,c]) w:=by
 simp[part,isAgg272,sizeOf272]
theorem xMy (a b c d e a' b' c' d' e' w):Sem.run prog (binOp .neq 274 (.agg #[.int .i64 a,.int .i64 b,.int .i64 c,.int .i64 d,.int .i64 e]) (.agg #[.int .i64 a',.int .i64 b',.int .i64 c',.int .i64 d',.int .i64 e'])) w
  = .ok (.bool (!((a==a'&&(b==b'&&c==c'))&&(d==d'&&e==e')))) w:=by
 rw[run_neq_struct,run_equalIn_struct w 9999 274 _ _ (by kernel_rfl) (by kernel_rfl)];have hm:(prog.fieldsOf 274).toList.map fKey=[(true,272,0),(true,3,3),(true,3,4)]:=by kernel_rfl
 obtain⟨f1,f2,f3,hl,h1,h2,h3⟩:=map3 hm;rw[hl];have hi:∀x y:Int,Sem.run prog (Op.equalIn 9999 3 (.int .i64 x) (.int .i64 y)) w=.ok (x==y) w:=λx y=>run_equalIn_int w 9998 3 .i64 .i64 x y underlying3
 rw[xAi h1 (xRk _ _ _ _ _ w) (xRk _ _ _ _ _ w) (yBi a b c a' b' c' 9997 w),xAi h2 (qW _ 3 _ rfl w) (qW _ 3 _ rfl w) (hi d d'),xAi h3 (qW _ 4 _ rfl w) (qW _ 4 _ rfl w) (hi e e')];cases (a==a'&&(b==b'&&c==c')) <;> cases (d==d') <;> cases (e==e') <;> simp[Op.eqFields]
theorem xP0 {a b c d e a' b' c' d' e'}(h:a=a'/\b=b'/\c=c'/\d=d'/\e=e')(w):Sem.run prog (binOp .neq 274 (.agg #[.int .i64 a,.int .i64 b,.int .i64 c,.int .i64 d,.int .i64 e]) (.agg #[.int .i64 a',.int .i64 b',.int .i64 c',.int .i64 d',.int .i64 e'])) w=.ok (.bool false) w:=by
 obtain⟨rfl,rfl,rfl,rfl,rfl⟩:=h;rw[xMy];simp
theorem xLj {a b c d e a' b' c' d' e'}(h:¬ (a=a'/\b=b'/\c=c'/\d=d'/\e=e'))(w):Sem.run prog (binOp .neq 274 (.agg #[.int .i64 a,.int .i64 b,.int .i64 c,.int .i64 d,.int .i64 e]) (.agg #[.int .i64 a',.int .i64 b',.int .i64 c',.int .i64 d',.int .i64 e'])) w=.ok (.bool true) w:=by
 rw[xMy];congr 2;rw[bj_,<-Bool.not_eq_true];intro hh;simp only[aA_,beq_iff_eq]at hh;exact h ⟨hh.1.1,hh.1.2.1,hh.1.2.2,hh.2.1,hh.2.2⟩
section
theorem uF {P fn p t u ty n}(h:fn.results=#[.cell p ty,.tmp t,.tmp u])(hA:∀w,Sem.run P (isAgg ty) w=.ok true w)(hs:∀w,Sem.run P (Go.sizeOf ty) w=.ok n w)
  (tmps) (w) (a) (cs) (v v2) (hp:tmps.getD p undef=.pointer (some a)) (hv:tmps.getD t undef=v) (mX:tmps.getD u undef=v2) (aD:xo w a n=true) (eR:xm w a n=cs):
  (results fn tmps).run P w=.ok (.tuple #[.agg cs,v,v2]) w:=by
 have nW:tmps[p]?.getD undef=.pointer (some a):=by simpa using hp
 have fB:tmps[t]?.getD undef=v:=by simpa using hv
 have GD:tmps[u]?.getD undef=v2:=by simpa using mX
 have hl:(loadVar ty a).run P w=.ok (.agg cs) w:=by
  simp[loadVar,hA,hs,zf w a n aD,eR]
 simp[results,h,nW,fB,GD,asAddr,hl]
structure xCn (w:World)(a:Addr)(L:List (List UInt8)):Prop where
 at':∀i (hi:i<L.length),∃g,w.cell? (a.add i)=some (.slice (some ⟨g,0,none⟩) 256 256)/\L[i].length=256/\g<w.heap.size/\SlB w ⟨g,0,none⟩ L[i]
theorem xCn.below {w w' a L}(h:xCn w a L)(hb:Below w.heap.size w w'):xCn w' a L:=
 ⟨λi hi=>by
  obtain⟨g,h1,h2,h3,h4⟩:=h.at' i hi;exact⟨g,(hb.cell (block_lt_of_cell h1)).trans h1,h2,ap_ h3 hb.size,⟨λj c hj=>(hb.cell (by rw[ya];exact h3)).trans (h4.cell j c hj)⟩⟩⟩
theorem xCn.drop {w a L}(h:xCn w a L)(n):xCn w (a.add n) (L.drop n):=
 ⟨λi hi=>by
  obtain⟨g,h1,h2,h3,h4⟩:=h.at' (n+i) (by rw[ao_]at hi;omega);refine⟨g,by rw[xFs];exact h1,?_,h3,?_⟩
  ·rw[cn_];exact h2
  ·rw[cn_];exact h4⟩
def yCa (L:List (List UInt8))(W:World)(e:Ending)(W':World):Prop:=
 Below W.heap.size W W' /\
 ((∃r n v,uH sha L=some (r,n)/\e=.returned (.tuple #[.agg (y9 r.kind r.gen r.num v).toArray,.int .i64 (n:Nat),.int .i64 0])/\OwnB W' W.heap.size v r.pay/\v≠.slice none 0 0) \/
   (∃x,uH sha L=none/\x≠0/\e=.returned (.tuple #[.agg (y9 0 0 0 (.slice none 0 0)).toArray,.int .i64 0,.int .i64 x])))
structure JnSt (W0:World)(a:Addr)(L:List (List UInt8))(W:World):Prop where
 bel:Below W0.heap.size W0 W
 res:W.heap[W0.heap.size]?=some (.cells #[.int .i64 0,.int .i64 0,.int .i64 0,.slice none 0 0] 172 (0,0))
 sec:xCn W a L
theorem JnSt.lt {W0 a L W}(s:JnSt W0 a L W):W0.heap.size<W.heap.size:=(i_ s.res).1
theorem JnSt.later {W0 a L W W'}(s:JnSt W0 a L W)(hb:Below W.heap.size W W'):JnSt W0 a L W':=⟨s.bel.trans (hb.mono s.bel.size),(hb.block _ s.lt).trans s.res,s.sec.below hb⟩
theorem vx (ρ:Operand->Value)(d x)(ty:TypeId)(pos af g w):
  Sem.run prog (execOp ρ ⟨d,.load 172 x,ty,pos,af,g⟩) w=yp prog 172 w (ρ x):=rfl
theorem qQ (ρ:Operand->Value)(d x y)(ty:TypeId)(pos af g w):
  Sem.run prog (execOp ρ ⟨d,.store 172 x y,ty,pos,af,g⟩) w=yi prog 172 w (ρ x) (ρ y):=rfl
theorem xGa (w a)(h:xo w a 4=true):yp prog 172 w (.pointer (some a))=.ok (.value (.agg (xm w a 4))) w:=
 yf isAgg172 sizeOf172 w a h
theorem xG0 (w g cells)(h:xM w g 4=true)(h2:xy 4 cells=true):
  yi prog 172 w (.pointer (some ⟨g,0,none⟩)) (.agg cells)=.ok .skip (w.setRow g cells):=yo (by kernel_rfl) w g cells h h2
def zRec:Array Value:=#[.int .i64 0,.int .i64 0,.int .i64 0,.slice none 0 0]
theorem xGe:xy 4 #[.int .i64 0,.int .i64 0,.int .i64 0,.slice none 0 0]=true:=by simp[xy,Value.oneCell']
theorem JnSt.ro {W0 a L W}(s:JnSt W0 a L W):xM W W0.heap.size 4=true:=by unfold xM;rw[s.res];rfl
theorem xJv {H:By->By}{b rest}(h:decP H b=none):uH H (b :: rest)=none:=by simp only[uH,h]
theorem xLn {H:By->By}{b rest p}(h:decP H b=some p)(hi:p.idx≠0):uH H (b :: rest)=none:=by simp only[uH,h,if_neg hi]
theorem xCz {H:By->By}{b rest p}(h:decP H b=some p)(hi:p.idx=0):uH H (b :: rest)=(zO H p (p.cnt.toNat-1) rest).map λl=>(⟨p.kind,p.gen,p.num,p.bytes++l⟩,p.cnt.toNat):=by simp only[uH,h,if_pos hi]
attribute [local go_sem ↓] qR qz jk vM vx qQ
attribute [local go_sem] xGa xG0 zu
attribute [local go_sem] xCx xCq xF7 xEi xG8 xG5 yA7 xZz yDx xMj yBf xh xf xa x9 xu xv xk xj xq xx xt
theorem xVa (a b c d e v)(hv:v.oneCell'=true):xy 6 #[.int .i64 a,.int .i64 b,.int .i64 c,.int .i64 d,.int .i64 e,v]=true:=zU rfl (by rw[aD_];intro x hx;simp at hx;rcases hx with rfl|rfl|rfl|rfl|rfl|rfl <;> first|rfl|exact hv)
theorem xD3 {H:By->By}{b p}(h:decP H b=some p):p.Ok:=by
 unfold decP decC at h;split at h
 ·rename_i hc;injection h with h
  rw[<-h];exact hc.2.2.2
 ·cases h
structure JlSt (W0:World)(f x:Nat)(p:qP)(v0:Value)(i:Int)(W:World):Prop where
 bel:Below W0.heap.size W0 W
 res:W.heap[W0.heap.size]?=some (.cells #[.int .i64 0,.int .i64 0,.int .i64 0,.slice none 0 0] 172 (0,0))
 fst:W.heap[f]?=some (.cells #[.int .i64 p.kind,.int .i64 p.gen,.int .i64 p.num,.int .i64 p.idx,.int .i64 p.cnt,v0] 167 (0,0))
 exp:W.heap[x]?=some (.cells #[.int .i64 p.kind,.int .i64 p.gen,.int .i64 p.num,.int .i64 i,.int .i64 p.cnt] 274 (0,0))
 lf:W0.heap.size<f
 fx:f<x
theorem JlSt.lt {W0 f x p v0 i W}(s:JlSt W0 f x p v0 i W):x<W.heap.size:=(i_ s.exp).1
theorem JlSt.grown {W0 f x p v0 i W W'}(s:JlSt W0 f x p v0 i W){r}(hg:W.grownBy W' r)(hr:∀k,r=some k->W0.heap.size<k/\k≠f/\k≠x):JlSt W0 f x p v0 i W':=by
 have h1:=s.lt;have h2:=s.fx;have h3:=s.lf;refine⟨s.bel.grown hg s.bel.size (λk e=>bB_ (hr k e).1),?_,?_,?_,s.lf,s.fx⟩
 ·exact(hg.block _ (by omega) (λe=>by have:=(hr _ e.symm).1;omega)).trans s.res
 ·exact(hg.block _ (by omega) (λe=>(hr _ e.symm).2.1 rfl)).trans s.fst
 ·exact(hg.block _ (by omega) (λe=>(hr _ e.symm).2.2 rfl)).trans s.exp
theorem JlSt.later {W0 f x p v0 i W W'}(s:JlSt W0 f x p v0 i W)(hb:Below W.heap.size W W'):JlSt W0 f x p v0 i W':=s.grown (zp hb none) (λk e=>by cases e)
theorem JlSt.setI {W0 f x p v0 i W}(s:JlSt W0 f x p v0 i W)(j):JlSt W0 f x p v0 j (W.setCell ⟨x,3,none⟩ (.int .i64 j)):=by
 have h2:=s.fx;have h3:=s.lf;refine⟨s.bel.setCell (by simp;omega) _,?_,?_,?_,s.lf,s.fx⟩
 ·rw[heap_setCell_other W ⟨x,3,none⟩ _ _ (by simp;omega)];exact s.res
 ·rw[heap_setCell_other W ⟨x,3,none⟩ _ _ (by simp;omega)];exact s.fst
 ·rw[heap_setCell_same W x 3 _ _ _ s.exp];rfl
theorem JlSt.jn {W0 f x p v0 i W a L}(s:JlSt W0 f x p v0 i W)(h:xCn W0 a L):JnSt W0 a L W:=⟨s.bel,s.res,h.below s.bel⟩
theorem xTl (w):Below w.heap.size w w.drew:=(ab_ _ _).drew
theorem yb {P ops}{Q:Exit->Act->World->Prop}{C:World->Prop}{E rest r a w}(b)(hlt:decide (r<ops.size)=true)(hb:qK ops E r=b)(h:wpList P ops (Qn P ops Q C E rest b) (zW ops [r]) a w):wpR P ops Q C E (r :: rest) a w:=
 uW b (o:=ops.getD r default) (by simp[of_decide_eq_true hlt]) hb h
def FCls (f:Nat)(cs:Array Value):Type:={ w:World // w.heap[f]?=some (.cells cs 167 (0,0)) }
theorem FCls.cell {f cs}(z:FCls f cs)(j):z.1.cell? ⟨f,j,none⟩=cs[j]?:=cell_of_row _ _ _ _ _ _ z.2
structure yCb (W0:World)(f x B:Nat)(p:qP)(v0:Value)(rest:List (List UInt8))(cn i:Nat)(pv:Value)(W:World):Prop where
 st:∃ii,JlSt W0 f x p v0 ii W
 ge:1<=i
 le:i<=cn
 nn:pv≠.slice none 0 0
 ap:∀k,pv.ownBlock=some k->W0.heap.size<k/\k≠f/\k≠x
 sz:B<=W.heap.size
 go:∃pre,OwnB W B pv (p.bytes++pre)/\pre.length<=i*224/\zO sha p (cn-1) rest=(zO sha p (cn-i) (rest.drop (i-1))).map (pre ++ ·)
theorem yD4 {H:By->By}{p n}:zO H p (n+1) []=none:=rfl
theorem yF0 {H:By->By}{p n b r}(h:decP H b=none):zO H p (n+1) (b :: r)=none:=by simp only[zO,h]
theorem xWm {H:By->By}{p q n b r}(h:decP H b=some q):zO H p (n+1) (b :: r)=if q.kind=p.kind/\q.gen=p.gen/\q.num=p.num/\q.cnt=p.cnt/\q.idx=p.cnt-(n+1:Nat)then (zO H p n r).map (q.bytes ++ ·)else none:=by simp only[zO,h]
theorem yD3 {H:By->By}{p q n b r pre X}(h:decP H b=some q)(hc:q.kind=p.kind/\q.gen=p.gen/\q.num=p.num/\q.cnt=p.cnt/\q.idx=p.cnt-(n+1:Nat))
  (hX:X=(zO H p (n+1) (b :: r)).map (pre ++ ·)):X=(zO H p n r).map ((pre++q.bytes) ++ ·):=by
 rw[hX,xWm h,if_pos hc];cases zO H p n r with
 |none=>rfl
 |some l=>simp only[aU_,aH_]
theorem xM5 {L:List By}{i}(h:i<L.length):L.drop i=L[i] :: L.drop (i+1):=bG_ h
theorem yAq (a L cap W)(hK:qU W)(hs:xCn W a L)(hne:L≠[])(dy:L.length<=cap)(hl:L.length<=100000):
  Calls prog 140 #[.slice (some a) L.length cap] W (yCa L W):=by
 cases L with
 |nil=>exact absurd rfl hne
 |cons b0 rest=>
 have Qq:JnSt W a (b0 :: rest) (W.alloc (.cells #[.int .i64 0,.int .i64 0,.int .i64 0,.slice none 0 0] 172)):=⟨(ab_ _ _).alloc (aa_ _) _,heap_alloc_new W _,hs.below ((ab_ _ _).alloc (aa_ _) _)⟩;obtain⟨N,hN⟩:∃N,N=(b0 :: rest).length:=⟨_,rfl⟩;have Wq:0<N:=by rw[hN];simp
 rw[<-hN]at dy hl⊢;have Wr:=h_ Qq;have HK:=h_ hK;have HN:=h_ hN;have JX:((N:Int)==0)=false:=by rw[beq_eq_false_iff_ne];omega
 have iH:=h_ hs;clear Qq hs hne hK hN;go_enter func140,ntmps140;go_upto_region 3 with (fail)
 obtain⟨w1,ai⟩:∃w1,w1=W.alloc (.cells #[.int .i64 0,.int .i64 0,.int .i64 0,.slice none 0 0] 172):=⟨_,rfl⟩;refine xr ai ?_;have sA:=Wr.out;rw[<-ai]at sA;have Di:=h_ sA;obtain⟨g0,tw,nQ,LD,GE⟩:=sA.sec.at' 0 (by simp);simp only[List.getElem_cons_zero]at nQ GE;have c1:w1.cell? a=some (.slice (some ⟨g0,0,none⟩) 256 256):=by simpa[Addr.add]using tw
 have eJ:=vT g0 b0 w1 (HK.below sA.bel (aa_ _)) GE nQ LD;have iJ:=h_ eJ;clear ai sA tw nQ LD GE eJ Wr JX;go_wp2_with fail;refine iJ.mono ?_;rintro e w2 ⟨aj,ch⟩;have Qr:=h_ (Di.later aj);have su:=aj.size;rcases ch with⟨p,v,hd,rfl,ae,pt⟩|⟨x,hd,hx,rfl⟩
 ·unfold zg;have wv:v.oneCell'=true:=by
   rcases ae.at with⟨h,_⟩|⟨g,c,h,_⟩ <;> rw[h] <;> rfl
  have bJ:=xVa p.kind p.gen p.num p.idx p.cnt v wv;have HD:=h_ hd;have dl:=h_ ae;have Sh:=h_ pt;have JY:=h_ wv;clear hd ae pt aj c1 iJ wv;go_upto_region 6 with (fail)
  obtain⟨f,hf⟩:∃f,f=w2.heap.size:=⟨_,rfl⟩;have tz:=h_ (show w1.heap.size<=f by rw[hf];exact su);clear su;obtain⟨w3,bm⟩:∃w3,w3=w2.alloc (.cells #[.int .i64 p.kind,.int .i64 p.gen,.int .i64 p.num,.int .i64 p.idx,.int .i64 p.cnt,v] 167):=⟨_,rfl⟩;refine xr bm ?_;have al:Below w2.heap.size w2 w3:=by rw[bm];exact b_ _ _
  have py:w3.heap[f]?=some (.cells #[.int .i64 p.kind,.int .i64 p.gen,.int .i64 p.num,.int .i64 p.idx,.int .i64 p.cnt,v] 167 (0,0)):=by rw[bm,hf];exact heap_alloc_new w2 _
  have hq:=xD (n:=6) py rfl;have q1:=hq.1;have q2:=hq.2;have Au:=h_ (Qr.later al);have EL:=h_ (dl.below al);have Si:=h_ py;have fK:=h_ (show W.heap.size<f by rw[hf];exact Qr.lt);have GF:=h_ (show ∀k,v.ownBlock=some k->W.heap.size<k/\k<f from λk e=>by have h:=dl.lt e;rw[hf];have:=Di.lt;omega);rw[<-hf];clear hq al py bm bJ dl Qr hf;go_wp2_with fail;refine(xG6 _ _ _ _ _ _ _).mono ?_;rintro e w4 ⟨rfl,aQ⟩;have Sj:=yBf p.kind p.gen p.num p.idx p.cnt;have Cz:=h_ (Au.later aQ);have EM:=h_ (EL.below aQ);have EN:=h_ ((aQ.block _ (i_ Si.out).1).trans Si.out);clear aQ q1 q2 Au EL Si;go_upto_region 7 with (fail)
  obtain⟨x,hx⟩:∃x,x=w4.heap.size:=⟨_,rfl⟩;obtain⟨w5,aY⟩:∃w5,w5=w4.alloc (.cells #[.int .i64 p.kind,.int .i64 p.gen,.int .i64 p.num,.int .i64 p.idx,.int .i64 p.cnt] 274):=⟨_,rfl⟩;refine xr aY ?_;have aF:Below w4.heap.size w4 w5:=by rw[aY];exact b_ _ _
  have sB:=Cz.later aF;have iA:f<x:=by rw[hx];exact(i_ EN.out).1
  have sC:JlSt W f x p v p.idx w5:=⟨sB.bel,sB.res,(aF.block _ (by rw[<-hx];exact iA)).trans EN.out,by rw[aY,hx];exact heap_alloc_new w4 _,fK.out,iA⟩;have sD:=h_ (EM.below aF);rw[<-hx];have iY:=h_ sC;have c3:=cell_of_row w5 x 3 _ _ _ sC.exp;simp only[ah_,ay_,aC_]at c3;clear aF sB iA sC aY hx Sj Cz EM EN;by_cases hi0:p.idx=0
  ·have gU:(p.idx != 0)=false:=by rw[hi0];rfl
   have ww:=h_ hi0;have c5:=cell_of_row w5 f 5 _ _ _ iY.fst;simp only[ah_,ay_,aC_]at c5;clear hi0;have Av:=xD3 HD.out;obtain⟨cn,hcn⟩:∃cn:Nat,p.cnt=cn:=⟨p.cnt.toNat,by have:=Av.2.1;omega⟩;have dO:1<=cn:=by have:=Av.2.1;omega
   have gm:cn<=586:=by have:=Av.2.2.1;omega
   have aG:=Av.2.2.2.2.2.1;have Sl:w1.heap.size<=w5.heap.size:=by have:=tz.out;have h1:=iY.lt;have h2:=iY.fx;omega
   have EO:yCb W f x w1.heap.size p v rest cn 1 v w5:=⟨⟨_,iY.out⟩,aa_ _,dO,Sh.out,λk e=>by have h:=GF.out k e;have:=iY.fx;omega,Sl,⟨[],by rw[aG_];exact sD.out,by simp,by simp⟩⟩;have LE:=h_ EO;have Aw:=h_ hcn;have lY:=h_ aG;have C4:=h_ Di.bel.size;clear EO hcn Av aG sD;go_wp2;go_loopw [7,8] (λpv iv wr=>∃i:Nat,iv=.int .i64 i/\yCb W f x w1.heap.size p v rest cn i pv wr) (λ_ iv _=>cn-(intOf iv).toNat)
   case atStart=>exact⟨1,rfl,LE.out⟩
   case round=>
    obtain⟨i,rfl,aZ⟩:=hrel;have hge:=aZ.ge;have hle:=aZ.le;obtain⟨ii,ax⟩:=aZ.st;have f4:=cell_of_row wr f 4 _ _ _ ax.fst;simp only[ah_,ay_,aC_]at f4;rw[Aw.out]at f4;have aO:=h_ ax;have dI:=h_ aZ;clear ax aZ;by_cases hlt:i<cn
    ·have cr:(i:Int)<cn:=by omega
     by_cases JX:N<=i
     ·have Qs:(N:Int)<=i:=by omega
      have dE:=h_ (show uH sha (b0 :: rest)=none by
       rw[xCz HD.out ww.out,Aw.out,be_];obtain⟨pre,_,_,hg⟩:=dI.go;rw[hg,aO_ (by have:=HN.out;simp at this;omega),show cn-i=(cn-i-1)+1 by omega,yD4];rfl)
      have iZ:=h_ (aO.jn iH.out);have bu:=iZ.ro;have gw:=xGe;have b7:=h_ (xK iZ.bel (aa_ _) zRec);have hr:=xD (n:=4) (setRow_heap wr W.heap.size _ zRec _ _ iZ.res) rfl;have HR:=h_ hr;have bp:=h_ (show uH sha (b0 :: rest)=none from dE.out);clear hr;unfold zRec at HR b7;go_wp2;refine bodyPost_ret (v:=.tuple #[.agg zRec,.int .i64 0,.int .i64 23]) ?_ rfl ⟨b7.out,.inr ⟨23,bp.out,(by decide),rfl⟩⟩;exact uF rfl isAgg172 sizeOf172 _ _ ⟨W.heap.size,0,none⟩ _ _ _ rfl rfl rfl HR.1 HR.2
     ·have Qs:¬ (N:Int)<=i:=by omega
      have Sm:i<(b0 :: rest).length:=by rw[<-HN.out];omega
      have JR:i-1<rest.length:=by simp at Sm;omega
      obtain⟨gi,EP,sE,LG,Dj⟩:=(iH.below aO.bel).at' i Sm;have CA:(b0 :: rest)[i]=rest[i-1]:=by
       obtain⟨i',rfl⟩:∃i',i=i'+1:=⟨i-1,by omega⟩;simp
      rw[CA]at sE Dj;obtain⟨bi,JZ⟩:∃bi,bi=rest[i-1]:=⟨_,rfl⟩;rw[<-JZ]at sE Dj;have hgo:∀pre,zO sha p (cn-1) rest=(zO sha p (cn-i) (rest.drop (i-1))).map (pre ++ ·)->zO sha p (cn-1) rest=(zO sha p ((cn-i-1)+1) (bi :: rest.drop i)).map (pre ++ ·):=λpre h=>by
       rw[h,xM5 JR,<-JZ,show i-1+1=i by omega,show cn-i-1+1=cn-i by omega]
      have eJ:=vT gi bi wr (HK.below aO.bel (aa_ _)) Dj sE LG;have Ax:=h_ eJ;have EQ:=h_ hgo;clear eJ hgo JZ CA Dj sE LG JR Sm;go_wp2_with fail;refine Ax.mono ?_;rintro e w6 ⟨bV,ch⟩;have tr:=h_ (aO.later bV);rcases ch with⟨q,vq,LH,rfl,Ay,LI⟩|⟨y,LH,hy,rfl⟩
      ·unfold zg;have wv:vq.oneCell'=true:=by
        rcases Ay.at with⟨h,_⟩|⟨g,c,h,_⟩ <;> rw[h] <;> rfl
       have bJ:=xVa q.kind q.gen q.num q.idx q.cnt vq wv;have Sn:=h_ LH;have Ws:=h_ Ay;have So:=h_ LI;clear LH Ay LI EP Ax;go_upto_region 18 with (fail)
       obtain⟨f2,dP⟩:∃f2,f2=w6.heap.size:=⟨_,rfl⟩;obtain⟨w7,da⟩:∃w7,w7=w6.alloc (.cells #[.int .i64 q.kind,.int .i64 q.gen,.int .i64 q.num,.int .i64 q.idx,.int .i64 q.cnt,vq] 167):=⟨_,rfl⟩;refine xr da ?_;have cY:Below w6.heap.size w6 w7:=by rw[da];exact b_ _ _
       have LJ:w7.heap[f2]?=some (.cells #[.int .i64 q.kind,.int .i64 q.gen,.int .i64 q.num,.int .i64 q.idx,.int .i64 q.cnt,vq] 167 (0,0)):=by rw[da,dP];exact heap_alloc_new w6 _
       have lp:=h_ (tr.later cY);have LK:x<f2:=by rw[dP];exact tr.lt
       have c3x:=cell_of_row w7 x 3 _ _ _ lp.exp;have d3x:=frozen_of_row w7 x 3 _ _ lp.exp;simp only[ah_,ay_,aC_]at c3x;have ZY:=h_ LJ;have Sp:=h_ (bV.trans (cY.mono bV.size));have LL:=h_ (Ws.below cY);have Sq:=h_ LK;have ZZ:=h_ (show f2=w6.heap.size/\wr.heap.size<=w6.heap.size from ⟨dP,bV.size⟩);rw[<-dP];clear cY LJ da dP bJ LK bV Ws;go_upto_region 19 with (fail)
       have tA:=lp.setI (i:Int);have J0:(w7.setCell ⟨x,3,none⟩ (.int .i64 (i:Int))).heap[f2]?=_:=(heap_setCell_other w7 ⟨x,3,none⟩ f2 _ (by have:=Sq.out;simp;omega)).trans ZY.out;have m_:=xK4 w7 x 3 (.int .i64 (i:Int));generalize w7.setCell ⟨x,3,none⟩ (.int .i64 (i:Int))=w8 at tA J0 m_⊢;have m5:=h_ tA;have J1:=h_ J0;have J2:=h_ m_;clear tA J0 m_ c3x d3x;have r1:∀z:x8 w8,xo z.1 ⟨f2,0,none⟩ 6=true:=λz=>(xD (n:=6) ((z.2.block _ (i_ J1.out).1).trans J1.out) rfl).1
       have r2:∀z:x8 w8,xm z.1 ⟨f2,0,none⟩ 6=#[.int .i64 q.kind,.int .i64 q.gen,.int .i64 q.num,.int .i64 q.idx,.int .i64 q.cnt,vq]:=λz=>(xD (n:=6) ((z.2.block _ (i_ J1.out).1).trans J1.out) rfl).2
       have r3:∀z:x8 w8,xo z.1 ⟨x,0,none⟩ 5=true:=λz=>(xD (n:=5) ((z.2.block _ m5.lt).trans m5.exp) rfl).1
       have r4:∀z:x8 w8,xm z.1 ⟨x,0,none⟩ 5=#[.int .i64 p.kind,.int .i64 p.gen,.int .i64 p.num,.int .i64 (i:Int),.int .i64 p.cnt]:=λz=>(xD (n:=5) ((z.2.block _ m5.lt).trans m5.exp) rfl).2
       refine xp [0,2] [1,3] (λw'=>∃z:x8 w8,w'=z.1) (by kernel_rfl) (by kernel_rfl) (by kernel_rfl) ⟨⟨_,(ab_ _ _).drew⟩,rfl⟩ ?_;simp only[o_]
       repeat (go_big_quiet_step (fail))
       refine wpQuiet_nil ?_;clear r1 r2 r3 r4;refine uW true rfl (by kernel_rfl) ?_;go_wp2_with (go_at_call 137;refine(xG6 _ _ _ _ _ _ _).mono ?_;rintro e w9 ⟨rfl,fc⟩);have iK:Below w8.heap.size w8 w9:=(ab_ w8.heap.size w8).drew.trans fc;have GG:=h_ (m5.later iK);have GH:=h_ iK;refine⟨λ_=>⟨⟨w9,iK⟩,rfl⟩,xB [3] _ _ (by kernel_rfl) ?_⟩;simp only[o_];clear fc iK;by_cases hpl:q.kind=p.kind/\q.gen=p.gen/\q.num=p.num/\q.idx=(i:Int)/\q.cnt=p.cnt
       ·have heq:=xP0 hpl;have ft:=h_ hpl;clear hpl;go_wp2;refine ag_ ?_;clear heq;obtain⟨pre,ae,Az,hg⟩:=dI.go;have na:wr.grownBy w9 (some x):=ut (ut (zp Sp.out (some x)) J2.out) (zp GH.out (some x));have mD:=ae.grown na (λk e=>by cases e;intro h;exact(dI.ap _ h).2.2 rfl);have LM:OwnB w9 wr.heap.size vq q.bytes:=LL.grown (ut J2.out (zp GH.out (some x))) (λk e=>by cases e;intro h;have h1:=(LL.lt h).1;have h2:=aO.lt;omega);obtain⟨gq,cq,Z0,_,Z1,_,LN⟩:∃g cap,vq=.slice (some ⟨g,0,none⟩) q.bytes.length cap/\wr.heap.size<=g/\q.bytes.length<=cap/\cap<=maxLen/\SlB w9 ⟨g,0,none⟩ q.bytes:=by
         rcases LM.at with⟨h,_⟩|h
         ·exact absurd h So.out
         ·exact h
        have c5q:=cell_of_row w9 f2 5 _ _ _ ((GH.block _ (i_ J1.out).1).trans J1.out);simp only[ah_,ay_,aC_]at c5q;have Sr:=(xD3 Sn.out).2.2.2.2.2.1;have ie:=h_ (show (p.bytes++pre).length+q.bytes.length<=1000000000000 by rw[af_];have:=lY.out;omega);have ER:=h_ (show w1.heap.size<=w9.heap.size from ad_ dI.sz na.size);have m9:q.idx=p.cnt-((cn-i-1)+1:Nat):=by rw[ft.2.2.2.1,Aw.out];omega
        have GI:=yD3 Sn.out ⟨ft.1,ft.2.1,ft.2.2.1,ft.2.2.2.2,m9⟩ (EQ.out pre hg);rw[show cn-i-1=cn-(i+1) by omega]at GI;have Ss:=h_ GI;clear m9 GI;have pU:=h_ (show (pre++q.bytes).length<=(i+1)*224 by rw[af_];omega);have AA:=h_ mD;have St:=h_ LN;have ES:=h_ dI.ap;have tB:=h_ dI.nn;have ET:=h_ GG.lt;subst Z0;clear ae Az hg na mD LM Z1 LN Sr;go_wp2_with (at_builtin;refine zw rfl (.tmp 64) (.tmp 66) rfl w1.heap.size _ (p.bytes++pre) rfl AA.out ⟨gq,0,none⟩ q.bytes cq rfl St.out ie.out ER.out ?_);intro v' bn tC cJ tD mE;have EU:yCb W f x w1.heap.size p v rest cn (i+1) v' bn:=by
         refine⟨⟨_,GG.grown cJ (λk e=>ES.out k e)⟩,by omega,by omega,?_,?_,ad_ ER.out cJ.size,⟨pre++q.bytes,tC,pU.out,Ss.out⟩⟩
         ·first|exact tD|exact λe=>tB.out (tD.1 e).1
         ·intro k e;rcases mE with h|h
          ·exact ES.out k (h▸e)
          ·rw[h]at e;injection e with e
           have h1:=ET.out;have h2:=iY.fx;have h3:=iY.lf;omega
        have LO:=h_ EU;clear EU tC cJ tD mE c5q;go_wp2;go_roundw
        case rel=>exact⟨i+1,by go_num,LO.out⟩
        case measure=>simp[intOf];omega
       ·have heq:=xLj hpl;have dE:=h_ (show uH sha (b0 :: rest)=none by
         rw[xCz HD.out ww.out,Aw.out,be_];obtain⟨pre,_,_,hg⟩:=dI.go;rw[EQ.out pre hg,xWm Sn.out,if_neg (λh=>hpl ⟨h.1,h.2.1,h.2.2.1,by rw[h.2.2.2.2,Aw.out];omega,h.2.2.2.1⟩)];rfl)
        clear hpl;go_wp2;refine ag_ ?_;clear heq;have iZ:=h_ (GG.jn iH.out);have bu:=iZ.ro;have gw:=xGe;have b7:=h_ (xK iZ.bel (aa_ _) zRec);have hr:=xD (n:=4) (setRow_heap w9 W.heap.size _ zRec _ _ iZ.res) rfl;have HR:=h_ hr;have bp:=h_ (show uH sha (b0 :: rest)=none from dE.out);clear hr;unfold zRec at HR b7;go_wp2;refine bodyPost_ret (v:=.tuple #[.agg zRec,.int .i64 0,.int .i64 30]) ?_ rfl ⟨b7.out,.inr ⟨30,bp.out,(by decide),rfl⟩⟩;exact uF rfl isAgg172 sizeOf172 _ _ ⟨W.heap.size,0,none⟩ _ _ _ rfl rfl rfl HR.1 HR.2
      ·unfold zg;have bJ:=xCe;have nR:(y==0)=false:=by rw[beq_eq_false_iff_ne];exact hy
       have iL:(y != 0)=true:=by rw[bne_iff_ne];exact hy
       have HY:=h_ hy;have dE:=h_ (show uH sha (b0 :: rest)=none by
        rw[xCz HD.out ww.out,Aw.out,be_];obtain⟨pre,_,_,hg⟩:=dI.go;rw[EQ.out pre hg,yF0 LH];rfl)
       clear LH hy bV EP Ax;go_upto_region 17 with (fail)
       have lp:=h_ (tr.later ((ab_ _ _).alloc (aa_ _) (.cells #[.int .i64 0,.int .i64 0,.int .i64 0,.int .i64 0,.int .i64 0,.slice none 0 0] 167)));generalize w6.alloc (.cells #[.int .i64 0,.int .i64 0,.int .i64 0,.int .i64 0,.int .i64 0,.slice none 0 0] 167)=w7 at lp⊢;have iZ:=h_ (lp.jn iH.out);have bu:=iZ.ro;have gw:=xGe;have b7:=h_ (xK iZ.bel (aa_ _) zRec);have hr:=xD (n:=4) (setRow_heap w7 W.heap.size _ zRec _ _ iZ.res) rfl;have HR:=h_ hr;have bp:=h_ (show uH sha (b0 :: rest)=none from dE.out);clear hr;unfold zRec at HR b7;go_wp2;refine bodyPost_ret (v:=.tuple #[.agg zRec,.int .i64 0,.int .i64 y]) ?_ rfl ⟨b7.out,.inr ⟨y,bp.out,HY.out,rfl⟩⟩;exact uF rfl isAgg172 sizeOf172 _ _ ⟨W.heap.size,0,none⟩ _ _ _ rfl rfl rfl HR.1 HR.2
    ·obtain rfl:i=cn:=by omega
     obtain⟨pre,ae,Az,hg⟩:=dI.go;obtain⟨gp,np,cp,hu⟩:∃g n c,u7=.slice (some ⟨g,0,none⟩) n c:=by
      rcases ae.at with⟨h,_⟩|⟨g,c,h,_⟩
      ·exact absurd h dI.nn
      ·exact⟨g,_,c,h⟩
     subst hu;rw[ee_]at hg;have EV:uH sha (b0 :: rest)=some (⟨p.kind,p.gen,p.num,p.bytes++pre⟩,i):=by
      rw[xCz HD.out ww.out,Aw.out,be_,hg];simp[zO]
     have LP:=h_ EV;have LQ:=h_ ae;have tB:=h_ dI.nn;have ES:=h_ dI.ap;have LT:(Value.slice (some ⟨gp,0,none⟩) np cp).oneCell'=true:=rfl;have mF:xy 4 #[.int .i64 p.kind,.int .i64 p.gen,.int .i64 p.num,(.slice (some ⟨gp,0,none⟩) np cp)]=true:=zU rfl (by rw[aD_];intro y hy;simp at hy;rcases hy with rfl|rfl|rfl|rfl <;> first|rfl|exact LT);have Su:¬ (i:Int)<i:=by omega
     clear EV ae Az hg LT;go_upto_region 22 with (fail)
     have q0:∀z:FCls f #[.int .i64 p.kind,.int .i64 p.gen,.int .i64 p.num,.int .i64 p.idx,.int .i64 p.cnt,v],z.1.cell? ⟨f,0,none⟩=some (.int .i64 p.kind):=λz=>z.cell 0
     have q1:∀z:FCls f #[.int .i64 p.kind,.int .i64 p.gen,.int .i64 p.num,.int .i64 p.idx,.int .i64 p.cnt,v],z.1.cell? ⟨f,1,none⟩=some (.int .i64 p.gen):=λz=>z.cell 1
     have q2:∀z:FCls f #[.int .i64 p.kind,.int .i64 p.gen,.int .i64 p.num,.int .i64 p.idx,.int .i64 p.cnt,v],z.1.cell? ⟨f,2,none⟩=some (.int .i64 p.num):=λz=>z.cell 2
     have q4:∀z:FCls f #[.int .i64 p.kind,.int .i64 p.gen,.int .i64 p.num,.int .i64 p.idx,.int .i64 p.cnt,v],z.1.cell? ⟨f,4,none⟩=some (.int .i64 (i:Int)):=λz=>(z.cell 4).trans (by rw[Aw.out];rfl)
     haveI:Nonempty (FCls f #[.int .i64 p.kind,.int .i64 p.gen,.int .i64 p.num,.int .i64 p.idx,.int .i64 p.cnt,v]):=⟨⟨wr,aO.fst⟩⟩
     refine xp [0,1,2,3,4,5,6,7,8,9] [10,11,12] (λw'=>∃z:FCls f #[.int .i64 p.kind,.int .i64 p.gen,.int .i64 p.num,.int .i64 p.idx,.int .i64 p.cnt,v],w'=z.1) (by kernel_rfl) (by kernel_rfl) (by kernel_rfl) ⟨⟨wr.drew,aO.fst⟩,rfl⟩ ?_;simp only[o_]
     repeat (go_big_quiet_step (fail))
     refine wpQuiet_nil ?_;clear q0 q1 q2 q4;have bu:xM wr W.heap.size 4=true:=(aO.jn iH.out).ro;clear Su f4;refine yb true (by kernel_rfl) (by kernel_rfl) ?_;simp only[o_];go_wp2_with fail;refine⟨λ_=>⟨⟨_,?_⟩,rfl⟩,xB [11,12] _ _ (by kernel_rfl) ?_⟩
     ·exact(setRow_other _ _ _ _ (by have:=aO.lf;omega)).trans aO.fst
     simp only[o_];have b7:=h_ (xK aO.bel.drew (aa_ _) #[.int .i64 p.kind,.int .i64 p.gen,.int .i64 p.num,(.slice (some ⟨gp,0,none⟩) np cp)]);have hr:=xD (n:=4) (setRow_heap wr.drew W.heap.size _ #[.int .i64 p.kind,.int .i64 p.gen,.int .i64 p.num,(.slice (some ⟨gp,0,none⟩) np cp)] _ _ aO.res) rfl;have HR:=h_ hr;have An:=h_ ((LQ.below (xTl wr)).grown (xB3 wr.drew W.heap.size #[.int .i64 p.kind,.int .i64 p.gen,.int .i64 p.num,(.slice (some ⟨gp,0,none⟩) np cp)]) (λk e=>by cases e;intro h;have:=(ES.out _ h).1;omega));clear hr mF bu;go_wp2;refine ag_ ?_;go_wp2;refine bodyPost_ret (v:=.tuple #[.agg #[.int .i64 p.kind,.int .i64 p.gen,.int .i64 p.num,(.slice (some ⟨gp,0,none⟩) np cp)],.int .i64 i,.int .i64 0]) ?_ rfl ⟨b7.out,.inl ⟨_,i,(.slice (some ⟨gp,0,none⟩) np cp),LP.out,rfl,An.base C4.out,tB.out⟩⟩;exact uF rfl isAgg172 sizeOf172 _ _ ⟨W.heap.size,0,none⟩ _ _ _ rfl rfl rfl HR.1 HR.2
  ·have gU:(p.idx != 0)=true:=by rw[bne_iff_ne];exact hi0
   have ww:=h_ hi0;clear hi0;have iZ:=h_ (iY.jn iH.out);have bu:=iZ.ro;have gw:=xGe;have b7:=h_ (xK iZ.bel (aa_ _) zRec);have hr:=xD (n:=4) (setRow_heap w5 W.heap.size _ zRec _ _ iZ.res) rfl;have HR:=h_ hr;have bp:=h_ (show uH sha (b0 :: rest)=none from xLn HD.out ww.out);clear hr;unfold zRec at HR b7;go_wp2;refine bodyPost_ret (v:=.tuple #[.agg zRec,.int .i64 0,.int .i64 30]) ?_ rfl ⟨b7.out,.inr ⟨30,bp.out,(by decide),rfl⟩⟩;exact uF rfl isAgg172 sizeOf172 _ _ ⟨W.heap.size,0,none⟩ _ _ _ rfl rfl rfl HR.1 HR.2
 ·unfold zg;have bJ:=xCe;have fP:(x==0)=false:=by rw[beq_eq_false_iff_ne];exact hx
  have eN:(x != 0)=true:=by rw[bne_iff_ne];exact hx
  have HD:=h_ hd;have HX:=h_ hx;clear hd hx aj c1 iJ;go_upto_region 5 with (fail)
  have Au:=h_ (Qr.later ((ab_ _ _).alloc (aa_ _) (.cells #[.int .i64 0,.int .i64 0,.int .i64 0,.int .i64 0,.int .i64 0,.slice none 0 0] 167)));generalize w2.alloc (.cells #[.int .i64 0,.int .i64 0,.int .i64 0,.int .i64 0,.int .i64 0,.slice none 0 0] 167)=w3 at Au⊢;have iZ:=h_ (Au.out);have bu:=iZ.ro;have gw:=xGe;have b7:=h_ (xK iZ.bel (aa_ _) zRec);have hr:=xD (n:=4) (setRow_heap w3 W.heap.size _ zRec _ _ iZ.res) rfl;have HR:=h_ hr;have bp:=h_ (show uH sha (b0 :: rest)=none from xJv HD.out);clear hr;unfold zRec at HR b7;go_wp2;refine bodyPost_ret (v:=.tuple #[.agg zRec,.int .i64 0,.int .i64 x]) ?_ rfl ⟨b7.out,.inr ⟨x,bp.out,HX.out,rfl⟩⟩;exact uF rfl isAgg172 sizeOf172 _ _ ⟨W.heap.size,0,none⟩ _ _ _ rfl rfl rfl HR.1 HR.2
end
section
theorem yB8 {H:By->By}{p}:∀(n:Nat) (l:List By) (x:By),zO H p n l=some x->n<=l.length
 |0,_,_,_=>aV_ _
 |n+1,[],_,h=>by cases h
 |n+1,b :: r,x,h=>by
  simp only[zO]at h;cases hd:decP H b with
  |none=>rw[hd]at h;cases h
  |some q=>
   rw[hd]at h;simp only at h;split at h
   ·cases hg:zO H p n r with
    |none=>rw[hg]at h;cases h
    |some y=>have:=yB8 n r y hg;simp;omega
   ·cases h
theorem xV0 {H:By->By}{l r n}(h:uH H l=some (r,n)):1<=n/\n<=l.length:=by
 cases l with
 |nil=>cases h
 |cons b rest=>
  simp only[uH]at h;cases hd:decP H b with
  |none=>rw[hd]at h;cases h
  |some p=>
   rw[hd]at h;simp only at h;have aD:=xD3 hd;split at h
   ·cases hg:zO H p (p.cnt.toNat-1) rest with
    |none=>rw[hg]at h;cases h
    |some y=>
     rw[hg]at h;simp only[aU_,aR_,cw_]at h;have h1:=yB8 _ _ _ hg;have h2:=aD.2.1;simp only[av_];omega
   ·cases h
theorem Tryz.info_rec:(prog.info? 172).map (λi=>(i.zero,i.size,i.bytes))=some (some (.agg #[.int .i64 0,.int .i64 0,.int .i64 0,.slice none 0 0]),4,48):=by kernel_rfl
def uu:List (PRec×Value)->List Value:=List.flatMap λx=>y9 x.1.kind x.1.gen x.1.num x.2
theorem xLt (l x):uu (l++[x])=uu l++y9 x.1.kind x.1.gen x.1.num x.2:=by simp[uu]
structure RcAt (w:World)(B:Nat)(v:Value)(l:List (PRec×Value)):Prop where
 own:w.ownsRow B 172 4 v l.length (uu l)
 el:∀x∈l,OwnB w B x.2 x.1.pay/\x.2≠.slice none 0 0/\∀k,x.2.ownBlock=some k->v.ownBlock≠some k
theorem RcAt.nil (w B):RcAt w B (.slice none 0 0) []:=⟨aP_ _ _ _ _,λx hx=>by cases hx⟩
theorem RcAt.later {w w' B v l}(h:RcAt w B v l)(hb:Below w.heap.size w w'):RcAt w' B v l:=
 ⟨dc_ (row:=none) h.own (zp hb none) (by cases v.ownBlock <;> simp),λx hx=>⟨(h.el x hx).1.below hb,(h.el x hx).2⟩⟩
theorem RcAt.app {w w' B v v' l}{x:PRec×Value}(h:RcAt w B v l)(ho:w'.ownsRow B 172 4 v' (l.length+1) (uu l++y9 x.1.kind x.1.gen x.1.num x.2))(hg:w.grownBy w' v.ownBlock)
  (hx:OwnB w B x.2 x.1.pay/\x.2≠.slice none 0 0/\∀k,x.2.ownBlock=some k->v.ownBlock≠some k) (fB:∀k,v'.ownBlock=some k->v.ownBlock=some k\/w.heap.size<=k):RcAt w' B v' (l++[x]):=by
 refine⟨by rw[xLt];simpa using ho,λy hy=>?_⟩;have iL:OwnB w B y.2 y.1.pay/\y.2≠.slice none 0 0/\∀k,y.2.ownBlock=some k->v.ownBlock≠some k:=by
  rcases aj_.1 hy with h1|h1
  ·exact h.el y h1
  ·rw[ac_.1 h1];exact hx
 refine⟨iL.1.grown hg (λk e e2=>iL.2.2 k e2 e),iL.2.1,λk e e2=>?_⟩;rcases fB k e2 with h1|h1
 ·exact iL.2.2 k e h1
 ·have:=(iL.1.lt e).2;omega
def yC5 (gen num:Int)(L:List (List UInt8))(W:World)(e:Ending)(W':World):Prop:=
 Below W.heap.size W W'/\∃v l c x,e=.returned (.tuple #[v,.int .i64 c,.int .i64 x])/\RcAt W' W.heap.size v l/\l.map Prod.fst=ux sha gen (L.length+1) num L
attribute [local go_sem ↓] xAc xCg vx qQ
attribute [local go_sem] xJo xQs xGa xG0 zn zu yx yw yDz xh xf xa x9 xu xv xk xj xq xx xt
theorem xYi:prog.elem 116=31:=by kernel_rfl
theorem xUc (a)(len cap k:Nat)(z:Int)(hz:z=k)(hk:k<=len)(hc:k<cap)(w):Sem.run prog (Instr.sliceAt 116 (.slice (some a) len cap) (some (.int .i64 z)) none none) w=.ok (.slice (some (a.add k)) (len-k) (cap-k)) w:=by
 subst hz;rw[run_sliceAt_slice w 116 _ _ _ _ (by kernel_rfl),run_slice_l w 116 (some a) len cap (by kernel_rfl) .i64 k (by omega) (by omega),xYi,sizeOf31];simp only[aw_,sliced,be_,bz_,aU_];rw[if_neg (by omega)]
theorem xMm {H:By->By}{gen num F l}(h:uH H l=none):ux H gen F num l=[]:=by
 cases F with
 |zero=>rfl
 |succ F=>simp only[ux,h]
theorem xR4 {H:By->By}{gen num F n l r}(h:uH H l=some (r,n))(hb:¬ (r.gen=gen/\r.num=num)):ux H gen F num l=[]:=by
 cases F with
 |zero=>rfl
 |succ F=>simp only[ux,h,if_neg hb,ite_self]
theorem xXq {H:By->By}{gen num F n l r}(h:uH H l=some (r,n))(hb:r.gen=gen/\r.num=num)(hl:l≠[]):ux H gen (F+1) num l=r :: ux H gen F (num+1) (l.drop n):=by
 simp only[ux,h,if_pos hb,if_neg hl]
theorem yF1 (a b c g n k):xy 4 #[.int .i64 a,.int .i64 b,.int .i64 c,.slice (some ⟨g,0,none⟩) n k]=true:=by simp[xy,Value.oneCell']
structure yE1 (W0:World)(gen num:Int)(L:List (List UInt8))(c:Nat)(v:Value)(W:World):Prop where
 bel:Below W0.heap.size W0 W
 le:c<=L.length
 go:∃l F,RcAt W W0.heap.size v l/\(L.drop c).length<F/\l.length<=c/\ux sha gen (L.length+1) num L=l.map Prod.fst++ux sha gen F (num+l.length) (L.drop c)
theorem xZu (gen num a L cap W)(hK:qU W)(hs:xCn W a L)(Dk:xAr 0 gen num)(dy:L.length<=cap)(hl:L.length<=100000):
  Calls prog 111 #[.int .i64 gen,.int .i64 num,.slice (some a) L.length cap] W (yC5 gen num L W):=by
 obtain⟨N,hN⟩:∃N,N=L.length:=⟨_,rfl⟩;rw[<-hN]at dy hl⊢;have HN:=h_ hN;have HS:=h_ hs;have HK:=h_ hK;have HL:=h_ Dk;have Wt:=Dk.2.2.2.2.1;have Wu:=Dk.2.2.2.2.2;clear hN hs hK Dk;go_enter func111,ntmps111;go_wp2_with fail
 go_step3
 go_wp2_with fail;refine(xFy _ _ _ _).mono ?_;rintro e w1 ⟨b,rfl,EF,aa⟩;obtain rfl:b=true:=EF.2 HL.out;have eO:Below W.heap.size W w1:=((ab_ W.heap.size W).alloc (aa_ _) _).trans (aa.mono (by simp));have ar:=h_ eO;clear EF aa eO;go_wp2
 go_step3
 go_wp2;go_loopw [6,7,8] (λv cv ev wr=>∃c:Nat,∃x:Int,cv=.int .i64 c/\ev=.int .i64 x/\yE1 W gen num L c v wr) (λ_ cv _ _=>N-(intOf cv).toNat)
 case atStart=>exact⟨0,0,rfl,rfl,ar.out,aV_ _,[],L.length+1,RcAt.nil _ _,by simp,by simp,by simp⟩
 case round=>
  obtain⟨c,x,rfl,rfl,aZ⟩:=hrel;have Z2:=aZ.le;have dI:=h_ aZ;clear aZ;by_cases hlt:c<N
  ·have cr:(c:Int)<N:=by omega
   have cu:=xUc a N cap c (c:Int) rfl (by omega) (by omega);have hne:L.drop c≠[]:=λh=>by
    have:=congrArg List.length h;rw[ao_,<-HN.out]at this;simp at this;omega
   have EV:=yAq (a.add c) (L.drop c) (cap-c) wr (HK.below dI.bel (aa_ _)) ((HS.below dI.bel).drop c) hne (by rw[ao_,<-HN.out];omega) (by rw[ao_,<-HN.out];omega);rw[ao_,<-HN.out]at EV;have LP:=h_ EV;have pz:=h_ hne;obtain⟨l,F,i3,hF,wA,hgo⟩:=dI.go;have EW:=h_ i3;have HF:=h_ hF;have Wv:=h_ wA;have EQ:=h_ hgo;clear EV hne i3 hF wA hgo;go_wp2_with fail;refine LP.mono ?_;rintro e w5 ⟨aF,ch⟩;have AB:=h_ (EW.later aF);have aU:=h_ (dI.bel.trans (aF.mono dI.bel.size));have Sv:=h_ aF.size;rcases ch with⟨r,n,v,hj,rfl,ae,pt⟩|⟨y,hj,hy,rfl⟩
   ·obtain⟨oa,oc,hu⟩:∃oa oc,u6=.slice oa l.length oc:=by
     rcases EW.own.2 with⟨h,h0⟩|⟨g,cap',cur,h,_⟩
     ·exact⟨none,0,by rw[h,h0]⟩
     ·exact⟨_,_,h⟩
    obtain⟨vg,vn,vc,hv⟩:∃g n c,v=.slice (some ⟨g,0,none⟩) n c:=by
     rcases ae.at with⟨h,_⟩|⟨g,c,h,_⟩
     ·exact absurd h pt
     ·exact⟨g,_,c,h⟩
    subst hv;obtain⟨M,hM⟩:∃M,M=l.length:=⟨_,rfl⟩;rw[<-hM]at hu;subst hu;have hMc:M<=100000:=by have:=Wv.out;have:=HN.out;omega
    have hMz:(M:Int)<=100000:=by omega
    unfold y9;have bJ:=yF1 r.kind r.gen r.num vg vn vc;have aM:Below w5.heap.size w5 (w5.alloc (.cells #[.int .i64 r.kind,.int .i64 r.gen,.int .i64 r.num,.slice (some ⟨vg,0,none⟩) vn vc] 172)):=(ab_ _ _).alloc (aa_ _) _;have l_:=h_ (AB.later aM);have fb:=h_ (aU.trans (aM.mono aU.size));have EX:=h_ (ae.below aM);have sD:=h_ ae;have GJ:=h_ hM;have Sh:=h_ pt;have HJ:=h_ hj;have EV:=h_ (xV0 hj);clear aM aF hj cu LP ae pt hM;by_cases hg:r.gen=gen
    ·by_cases hm:r.num=num+M
     ·have du:(r.gen != gen)=false:=by rw[hg];simp
      have lX:(r.num != num+M)=false:=by rw[hm];simp
      have Ww:=h_ (And.intro hg hm);clear hg hm;go_upto_region 10 with (fail)
      clear du lX;obtain⟨w6,b8⟩:∃w6,w6=w5.alloc (.cells #[.int .i64 r.kind,.int .i64 r.gen,.int .i64 r.num,.slice (some ⟨vg,0,none⟩) vn vc] 172):=⟨_,rfl⟩;refine xr b8 ?_;have GK:=l_.out;have bV:=fb.out;have AC:=EX.out;have EY:w6.heap[w5.heap.size]?=some (.cells #[.int .i64 r.kind,.int .i64 r.gen,.int .i64 r.num,.slice (some ⟨vg,0,none⟩) vn vc] 172 (0,0)):=by rw[b8];exact heap_alloc_new w5 _
      have LU:w6.heap.size=w5.heap.size+1:=by rw[b8,al_]
      rw[<-b8]at GK bV AC;have hq:=xD (n:=4) EY rfl;have q1:=hq.1;have q2:=hq.2;have Dl:Below w6.heap.size w6 (w6.alloc (.cells #[.int .i64 r.kind,.int .i64 r.gen,.int .i64 r.num,.slice (some ⟨vg,0,none⟩) vn vc] 172)):=(ab_ _ _).alloc (aa_ _) _;have LV:=h_ (GK.later Dl);have fA:=h_ (bV.trans (Dl.mono bV.size));have LW:=h_ (AC.below Dl);have GL:=h_ (show ∀k,(Value.slice oa M oc).ownBlock=some k->k<wr.heap.size from λk e=>(aL_ EW.own k e).2);have Sw:=h_ (show ∀k,(Value.slice (some ⟨vg,0,none⟩) vn vc).ownBlock=some k->wr.heap.size<=k/\k<w5.heap.size from λk e=>sD.lt e);have Z3:=h_ (And.intro Sv.out LU);have gF:=h_ (show W.heap.size<=(w6.alloc (.cells #[.int .i64 r.kind,.int .i64 r.gen,.int .i64 r.num,.slice (some ⟨vg,0,none⟩) vn vc] 172)).heap.size from fA.size);have fL:=h_ (show ∀j u,(y9 r.kind r.gen r.num (.slice (some ⟨vg,0,none⟩) vn vc))[j]?=some u->(w6.alloc (.cells #[.int .i64 r.kind,.int .i64 r.gen,.int .i64 r.num,.slice (some ⟨vg,0,none⟩) vn vc] 172)).cell? ((⟨w6.heap.size,0,none⟩:Addr).add j)=some u from λj u hj=>by
       rw[an_,aq_,yz];simpa[y9]using hj)
      have bP:=h_ (show ∀u∈y9 r.kind r.gen r.num (.slice (some ⟨vg,0,none⟩) vn vc),u.oneCell'=true from λu hu=>by
       simp only[y9,ae_,ch_,or_false]at hu;rcases hu with rfl|rfl|rfl|rfl <;> rfl)
      have dW:=LV.own;rw[<-GJ.out]at dW;have sF:=h_ dW;obtain⟨i0,hi,bd,aL,bk⟩:=info_parts Tryz.info_rec;have HI:=h_ (And.intro hi (And.intro bd (And.intro aL bk)));clear GK bV AC EY LU hq Dl b8 dW hi bd aL bk l_ fb EX;go_wp2_with (at_builtin;refine wpList_append_own_at _ rfl (.tmp 49) (.tmp 51) 173 rfl W.heap.size 172 i0 (.agg #[.int .i64 0,.int .i64 0,.int .i64 0,.slice none 0 0]) 4 48 underlying173 HI.1 HI.2.1 HI.2.2.1 HI.2.2.2 rfl (by decide) _ M (uu l) rfl sF.out ⟨w6.heap.size,0,none⟩ 1 1 (y9 r.kind r.gen r.num (.slice (some ⟨vg,0,none⟩) vn vc)) rfl rfl fL.out bP.out ?cA ?cB gF.out ?_)
      case cA=>unfold maxLen;omega
      case cB=>omega
      intro v' w8 nS m_ _ LX;have Wx:OwnB _ W.heap.size (Value.slice (some ⟨vg,0,none⟩) vn vc) r.pay/\_/\∀k,(Value.slice (some ⟨vg,0,none⟩) vn vc).ownBlock=some k->(Value.slice oa M oc).ownBlock≠some k:=⟨LW.base dI.bel.size,Sh.out,λk e e2=>by have h1:=Sw.out k e;have h2:=GL.out k e2;omega⟩;have GM:=nS;rw[GJ.out]at GM;have LY:=LV.app (x:=(r,.slice (some ⟨vg,0,none⟩) vn vc)) GM m_ Wx (λk e=>by
       rcases LX with h|h
       ·exact .inl (h▸e)
       ·exact .inr (by rw[h]at e;rw[al_];exact dJ_ (as_ e)))
      have dj:Below W.heap.size W w8:=fA.grown m_ fA.size (λk e=>(aL_ EW.own k e).1);have GN:=EV.out;have Wy:=HF.out;have hNN:=HN.out;have wA:=Wv.out;rw[ao_]at GN;have EZ:yE1 W gen num L (c+n) v' w8:=by
       refine⟨dj,by omega,l++[(r,.slice (some ⟨vg,0,none⟩) vn vc)],F-1,LY,?_,?_,?_⟩
       ·rw[ao_]at Wy⊢;omega
       ·rw[af_,bU_];omega
       ·obtain⟨F',rfl⟩:∃F',F=F'+1:=⟨F-1,by omega⟩;rw[EQ.out,xXq HJ.out ⟨Ww.1,by rw[Ww.2,GJ.out]⟩ pz.out,bP_];simp[Int.add_assoc]
      have LZ:=h_ EZ;have hcn:c+n<=100000:=by omega
      have az:=GN.1;have Z4:(c:Int)+n<=100000:=by omega
      clear nS m_ LX Wx GM LY dj GN Wy EZ q1 q2;go_wp2;go_roundw
      case rel=>exact⟨c+n,x,by go_num,rfl,LZ.out⟩
      case measure=>simp[intOf];omega
     ·have du:(r.gen != gen)=false:=by rw[hg];simp
      have lX:(r.num != num+M)=true:=by rw[bne_iff_ne];exact hm
      have tt:=h_ (show l.map Prod.fst=ux sha gen (L.length+1) num L by rw[EQ.out,xR4 HJ.out (λh=>hm (by rw[h.2,GJ.out])),aG_]);clear hm hg;go_wp2;refine bodyPost_ret (results_tmp3 rfl _ _ _) rfl ?_;refine⟨fb.out,.slice oa M oc,l,c,30,rfl,l_.out,tt.out⟩
    ·have du:(r.gen != gen)=true:=by rw[bne_iff_ne];exact hg
     have tt:=h_ (show l.map Prod.fst=ux sha gen (L.length+1) num L by rw[EQ.out,xR4 HJ.out (λh=>hg h.1),aG_]);clear hg;go_wp2;refine bodyPost_ret (results_tmp3 rfl _ _ _) rfl ?_;refine⟨fb.out,.slice oa M oc,l,c,30,rfl,l_.out,tt.out⟩
   ·unfold y9;have bJ:=xGe;have nR:(y==0)=false:=by rw[beq_eq_false_iff_ne];exact hy
    have iL:(y != 0)=true:=by rw[bne_iff_ne];exact hy
    have aM:Below w5.heap.size w5 (w5.alloc (.cells #[.int .i64 0,.int .i64 0,.int .i64 0,.slice none 0 0] 172)):=(ab_ _ _).alloc (aa_ _) _;have l_:=h_ (AB.later aM);have fb:=h_ (aU.trans (aM.mono aU.size));have tt:=h_ (show l.map Prod.fst=ux sha gen (L.length+1) num L by rw[EQ.out,xMm hj,aG_]);clear aM hy aF hj cu LP;go_wp2;refine bodyPost_ret (results_tmp3 rfl _ _ _) rfl ?_;refine⟨fb.out,u6,l,c,y,rfl,l_.out,tt.out⟩
  ·obtain rfl:c=N:=by have:=HN.out;omega
   obtain⟨l,F,i3,hF,wA,hgo⟩:=dI.go;have tt:=h_ (show l.map Prod.fst=ux sha gen (L.length+1) num L by rw[hgo,aO_ (by have:=HN.out;omega),xMm rfl,aG_]);have EW:=h_ i3;clear i3 hF wA hgo;go_wp2;refine bodyPost_ret (results_tmp3 rfl _ _ _) rfl ?_;refine⟨dI.bel,u6,l,c,x,rfl,EW.out,tt.out⟩
end
section
attribute [local go_sem ↓] xL xI yy yr
attribute [local go_sem] zm zA u1 zX zb xh xf xa x9 xC8 xBz xu zQ qJ xq xx xt kX j7 k9
attribute [local go_sem] lc0 lc33 lc34 lc35 lc36 lc37 rc0 rc1 rc34 rc35 rc36 rc37 rc38 xC7 xBy xF0 xEr xJb xJ2 xH6 xH0
theorem xA8 {n lo hi e}(he:e≠0)(h:qw n lo hi e=0):lo<=n/\n<=hi:=by
 unfold qw at h;split at h
 ·exact absurd h he
 ·omega
theorem xEf {s m}(h:vh s m=0):(s.length:Int)<=m/\s.any qG=false:=by
 unfold vh at h;split at h
 ·cases h
 ·split at h
  ·cases h
  ·rename_i h1 h2;exact⟨by omega,by simpa using h2⟩
theorem xOo {ids}(h:jf ids=0):ids.length<=20/\vk ids ids.length=false:=by
 unfold jf at h;split at h
 ·cases h
 ·split at h
  ·cases h
  ·rename_i h1 h2;exact⟨by omega,by simpa using h2⟩
theorem xJ7:∀{l:List Int},kN l=0->∀e∈l,e=0
 |[],_,e,he=>by cases he
 |x :: l,h,e,he=>by
  unfold kN at h;split at h
  ·rename_i hx;rcases ae_.1 he with rfl|he
   ·exact hx
   ·exact xJ7 h e he
  ·rename_i hx;exact absurd h hx
theorem xP3 {g ids}(h:xI7 g ids=0):(1<=g.number/\g.number<=2147483646)/\g.name.size<=60/\(0<=g.date/\g.date<=105190559)/\g.subject.size<=200/\ids.length<=20/\(0<=g.bytes/\g.bytes<=65536):=by
 have hz:=xJ7 h;have h1:=xA8 (by decide) (hz (qw g.number 1 2147483646 2) (by simp));have h2:=xEf (hz (vh g.name.data.toList 60) (by simp));have h3:=xA8 (by decide) (hz (qw g.date 0 105190559 13) (by simp));have h4:=xEf (hz (vh g.subject.data.toList 200) (by simp));have h5:=xOo (hz (jf ids) (by simp));have h6:=xA8 (by decide) (hz (qw g.bytes 0 65536 2) (by simp));have e2:=h2.1;have e4:=h4.1;rw[vu]at e2 e4;exact⟨h1,by omega,h3,by omega,h5.1,h6⟩
end
section
attribute [local go_sem ↓] xL xI xCk xA1
attribute [local go_sem] zm zA zb xh xf xa x9 xu xv xk xj xJc xJ3 xq xx xt kX xz
def hv (c:UInt8):Nat:=if 48<=c.toNat/\c.toNat<=57 then c.toNat-48 else if 97<=c.toNat/\c.toNat<=102 then c.toNat-87 else 16
theorem jM {P fn p t ty n}(h:fn.results=#[.cell p ty,.tmp t])(hA:∀w,Sem.run P (isAgg ty) w=.ok true w)(hs:∀w,Sem.run P (Go.sizeOf ty) w=.ok n w)
  (tmps) (w) (a) (cs) (v) (hp:tmps.getD p undef=.pointer (some a)) (hv:tmps.getD t undef=v) (aD:xo w a n=true) (eR:xm w a n=cs):
  (results fn tmps).run P w=.ok (.tuple #[.agg cs,v]) w:=by
 have nW:tmps[p]?.getD undef=.pointer (some a):=by simpa using hp
 have mX:tmps[t]?.getD undef=v:=by simpa using hv
 have hl:(loadVar ty a).run P w=.ok (.agg cs) w:=by
  simp[loadVar,hA,hs,zf w a n aD,eR]
 simp[results,h,nW,mX,asAddr,hl]
end
def uX (c:UInt8):List UInt8->List (List UInt8)
 |[]=>[[]]
 |b :: l=>if b=c then [] :: uX c l else match uX c l with
  |h :: t=>(b :: h) :: t
  |[]=>[[b]]
theorem xXm (c l):uX c l≠[]:=by
 cases l with
 |nil=>simp[uX]
 |cons b l=>
  unfold uX;split
  ·simp
  ·split <;> simp
theorem xQv (c b l)(h:b≠c)(k):Lib.splitK [c] 0 k (b :: l)=match Lib.splitK [c] 0 k l with|h :: t=>(b :: h) :: t|[]=>[[b]]:=by
 have hp:([c]:List UInt8).isPrefixOf (b :: l)=false:=by simp[List.isPrefixOf,ds_ h]
 have tq:Lib.index (b :: l) [c]=if Lib.index l [c] == -1 then -1 else Lib.index l [c]+1:=by rw[Lib.index,hp];simp
 cases k with
 |zero=>rfl
 |succ k=>
  by_cases hm:Lib.index l [c]=-1
  ·have e1:Lib.index (b :: l) [c]=-1:=by rw[tq,if_pos (beq_iff_eq.2 hm)]
   simp[Lib.splitK,hm,e1]
  ·have hge:=Lib.index_ge l [c];obtain⟨j,hj⟩:∃j:Nat,Lib.index l [c]=j:=⟨(Lib.index l [c]).toNat,by omega⟩;have e1:Lib.index (b :: l) [c]=((j+1:Nat):Int):=by rw[tq,if_neg (λe=>hm (beq_iff_eq.1 e)),hj];omega
   have hne:∀n:Nat,((n:Int) == -1)=false:=λn=>beq_eq_false_iff_ne.2 (by omega)
   unfold Lib.splitK;rw[e1,hj,hne,hne];simp
theorem xQu (c):∀l:List UInt8,Lib.split l [c]=uX c l
 |[]=>by
  have:Lib.count [] [c]=0:=by rw[Lib.count_one];rfl
  unfold Lib.split;rw[this];rfl
 |b :: l=>by
  have ih:=xQu c l;unfold Lib.split at ih⊢;by_cases h:b=c
  ·subst h;rw[Lib.count_cons_eq,ed_ 1];have tq:Lib.index (b :: l) [b]=((0:Nat):Int):=by rw[Lib.index];simp[List.isPrefixOf]
   unfold Lib.splitK uX;rw[tq,if_pos rfl,if_neg (by decide)];simp[ih]
  ·rw[Lib.count_cons_ne b c l h,xQv c b l h,ih]
   conv=>rhs;rw[uX]
   rw[if_neg h]
def yI (c:UInt8)(s:ByteArray):List ByteArray:=(uX c s.data.toList).map str
theorem xMi (c s):Lib.splitB ⟨#[c]⟩ 0 (Lib.countB s ⟨#[c]⟩) s=yI c s:=by
 have h:=Lib.splitB_data ⟨#[c]⟩ 0 (Lib.countB s ⟨#[c]⟩) s;have h2:Lib.splitK [c] 0 (Lib.countB s ⟨#[c]⟩) s.data.toList=uX c s.data.toList:=by
  rw[<-xQu];rfl
 have h3:(Lib.splitB ⟨#[c]⟩ 0 (Lib.countB s ⟨#[c]⟩) s).map (λx=>str x.data.toList)=(uX c s.data.toList).map str:=by
  rw[<-h2,<-h,bt_];rfl
 unfold yI;rw[<-h3];simp[yE4]
theorem xDe (c s):(yI c s).length=Lib.countB s ⟨#[c]⟩+1:=by
 rw[<-xMi];exact Lib.splitB_all ⟨#[c]⟩ (aa_ 1) 0 _ s rfl
theorem xDv (c s):1<=(yI c s).length/\(yI c s).length<=s.size+1:=by
 rw[xDe];have:=Lib.countB_le ⟨#[c]⟩ (aa_ 1) s.size s (aa_ _);omega
theorem xXk (c s w)(hG:Gl w)(hs:s.size<4294967281):
  Calls prog 188 #[.string s,.string ⟨#[c]⟩] w λr w'=>r=.returned (.slice (some ⟨w.heap.size,0,none⟩) (yI c s).length (yI c s).length)/\w.alloc (.cells ((yI c s).map Value.string).toArray 9)=w':=by
 obtain⟨m,hm⟩:=hG.len;refine(Tryz.strings_Split s ⟨#[c]⟩ m w hs hm (aa_ 1)).mono ?_;rintro e w' ⟨rfl,rfl⟩;rw[xDe,xMi];exact⟨rfl,rfl⟩
theorem xG1 (w:World)(t xs):kE (w.alloc (.cells (xs.map Value.string).toArray t)) w.heap.size 0 xs:=by
 intro j x hx;rw[aq_,yz,ah_,bk_,hx];rfl
section
attribute [local go_sem ↓] xL xI xCk xA1
attribute [local go_sem] zm zA zb xh xf xa x9 xu xv xk xj xJc xJ3 xq xx xt kX xz
def xZ (w:World)(lb:Nat)(g:j0):Prop:=w.heap[lb]?=some (.cells (xd g) 204 (0,0))
theorem xZ.lt {w lb g}(h:xZ w lb g):lb<w.heap.size:=(i_ h).1
theorem xZ.cell {w lb g}(h:xZ w lb g)(j):w.cell? ⟨lb,j,none⟩=(xd g)[j]?:=cell_of_row w lb j _ _ _ h
theorem xZ.free {w lb g}(h:xZ w lb g)(j):w.frozen? ⟨lb,j,none⟩=false:=frozen_of_row w lb j _ _ h
theorem xZ.grown {w w' lb g row}(h:xZ w lb g)(hg:w.grownBy w' row)(hne:some lb≠row):xZ w' lb g:=(hg.block lb h.lt hne).trans h
theorem xP2 (g j v)(hj:j<5):(xH g).set (33+j) v=.int .i64 g.number :: (xl g.id++[Value.string g.name,.int .i64 g.date,.string g.subject,g.refs,.int .i64 g.bytes].set j v):=by
 unfold xH;rw[show 33+j=(32+j)+1 by omega,List.set_cons_succ,bL_ _ _ (by rw[xz];omega),xz,show 32+j-32=j by omega]
theorem xZr (g v):(xd g).setIfInBounds 36 v=xd { g with refs:=v }:=by
 unfold xd;rw[bD_,xP2 g 3 _ (by omega)];rfl
theorem xZ.set {w lb g g'}(h:xZ w lb g)(j v)(e:(xd g).setIfInBounds j v=xd g'):xZ (w.setCell ⟨lb,j,none⟩ v) lb g':=by
 unfold xZ at *;rw[heap_setCell_same w lb j _ _ v h,e]
theorem xYa (w:World)(lb j v):w.grownBy (w.setCell ⟨lb,j,none⟩ v) (some lb):=
 ⟨rfl,rfl,rfl,by simp[World.setCell],λk _ hne=>heap_setCell_other w ⟨lb,j,none⟩ k v (λe=>hne (by rw[e]))⟩
theorem kV {a b c:World}{r}(h:a.grownBy b r)(k:b.grownBy c r):a.grownBy c r:=
 ⟨k.os.trans h.os,k.tape.trans h.tape,k.output.trans h.output,ad_ h.size k.size,λi hi hne=>(k.block i (ap_ hi h.size) hne).trans (h.block i hi hne)⟩
theorem xSi {w w'}(h:Below w.heap.size w w')(r):w.grownBy w' r:=⟨h.os,h.tape,h.output,h.size,λk hk _=>h.block k hk⟩
theorem vz {w W w' B lb}(h:Below B w W)(hg:W.grownBy w' (some lb))(hB:B<=W.heap.size)(RF:B<=lb):Below B w w':=h.grown hg hB (λk e=>by cases e;exact RF)
end
theorem Tryz.info_id:(prog.info? 33).map (λi=>(i.zero,i.size,i.bytes))=some (some (.agg (xl uq).toArray),32,32):=by kernel_rfl
theorem xEu:∀(cs:List Value) (k off:Nat) (pre mid post:List Value),pre.length=off+k->mid.length=cs.length ->
  (cs.zipIdx k).foldl (λacc (c:Value×Nat)=>acc.setIfInBounds (off+c.2) c.1) (pre++(mid++post)).toArray=(pre++(cs++post)).toArray
 |[],k,off,pre,mid,post,_,hm=>by
  obtain rfl:mid=[]:=br_.1 (by simpa using hm);simp
 |c :: cs,k,off,pre,mid,post,hp,hm=>by
  cases mid with
  |nil=>simp at hm
  |cons m mid=>
   have ih:=xEu cs (k+1) off (pre++[c]) mid post (by simp[hp];omega) (by simpa using hm);rw[List.zipIdx_cons,cY_];have e:((pre++(m :: mid++post)).toArray).setIfInBounds (off+k) c=(pre++[c]++(mid++post)).toArray:=by
    rw[bD_,<-hp,bL_ _ _ (aa_ _)];simp
   show List.foldl _ (((pre++(m :: mid++post)).toArray).setIfInBounds (off+k) c) _=_
   rw[e,ih];simp
theorem yCp (cs cur:Array Value)(h:cur.size=cs.size):cs.zipIdx.foldl (λacc (c:Value×Nat)=>acc.setIfInBounds (0+c.2) c.1) cur=cs:=by
 have:=xEu cs.toList 0 0 [] cur.toList [] rfl (by simpa using h);simp only[aM_,aG_,Array.toArray_toList]at this;rw[<-dR_,dD_];exact this
theorem kv (cs cur n)(hc:cs.size=n)(h:cur.size=n):Instr.fill (λi=>some (i*n,n)) cur [(0,.agg cs)]=some cs:=by
 have e:=yCp cs cur (by omega);simp only[aq_]at e;simp only[Instr.fill,Value.cells,hc,h,bZ_,aq_];rw[if_neg (by simp)];exact congrArg some e
def kC (P:Program)(t:Nat)(w:World)(v:Value):Result Next:=Sem.run P (do pure (Next.value (<-Instr.buildSlice t 1 #[(0,v)]))) w
theorem ex_bs_id (ρ:Operand->Value)(d x)(ty:TypeId)(pos af g w):
  Sem.run prog (execOp ρ ⟨d,.buildSlice 35 1 #[(0,x)],ty,pos,af,g⟩) w=kC prog 35 w (ρ x):=by kernel_rfl
theorem bs_id (w x):kC prog 35 w (.agg (xl x).toArray)=.ok (.value (.slice (some ⟨w.heap.size,0,none⟩) 1 1)) (w.alloc (.cells (xl x).toArray 33)):=by
 obtain⟨i0,hi,bd,aL,bk⟩:=info_parts Tryz.info_id;unfold kC;rw[aE_,run_buildSlice w 35 33 1 _ (xl x).toArray i0 _ underlying35 hi bd (by rw[aL];decide) (by rw[aL];decide) (by
  rw[aL];exact kv _ _ 32 (vo x) (by simp))]
 rfl
def kW (ids:List Id32):List Value:=ids.flatMap xl
theorem xSo:∀(ids:List Id32) (j i:Nat),j<ids.length->i<32->(kW ids)[j*32+i]?=(xl ids[j]!)[i]?
 |[],j,i,hj,_=>by simp at hj
 |x :: r,0,i,_,hi=>by
  unfold kW;rw[bw_,bZ_,aq_,aJ_ (by rw[xz];exact hi)];rfl
 |x :: r,j+1,i,hj,hi=>by
  have ih:=xSo r j i (by simpa using hj) hi;unfold kW at *;rw[bw_,aF_ (by rw[xz];omega),xz,show (j+1)*32+i-32=j*32+i by omega,ih];simp
theorem xY3 {w B v ids}(h:w.ownsRow B 33 32 v ids.length (kW ids)):xFv w v ids:=by
 rcases h.2 with⟨rfl,h0⟩|⟨g,cap,cur,rfl,hg,aq,hle,dC,aJ,eG⟩
 ·exact⟨none,0,by rw[h0],by omega,λhne=>absurd (br_.1 h0) hne⟩
 ·refine⟨_,cap,rfl,hle,λ_=>⟨g,0,rfl,λj hj i v hi=>?_⟩⟩;have Sx:i<32:=by have:=(ax_.1 hi).1;rwa [xz]at this
  have h1:=h.cellAt (j*32+i) (by omega);rw[aq_,h1,xSo ids j i hj Sx];exact hi
section
attribute [local go_sem ↓] xL xI xCk xA1
attribute [local go_sem] zm zA zb xh xf xa x9 xu xv xk xj xJc xJ3 xq xx xt kX xz
def xQh (w:World)(lb:Nat):Prop:=∃cs,w.heap[lb]?=some (.cells cs 204 (0,0))/\cs.size=38
theorem xZ.row {w lb g}(h:xZ w lb g):xM w lb 38=true:=by
 unfold xM;rw[h];simp[xP]
theorem xZ.blk {w lb g}(h:xZ w lb g):xQh w lb:=⟨_,h,xP g⟩
theorem uj (w:World)(lb cs):w.grownBy (w.setRow lb cs) (some lb):=
 ⟨rfl,rfl,rfl,by simp[World.setRow],λk _ hne=>by
  unfold World.setRow;simp only[bK_];rw[if_neg (λe=>hne (by rw[e]))]⟩
end
theorem xZ.rd {w lb g}(h:xZ w lb g):xo w ⟨lb,0,none⟩ 38=true/\xm w ⟨lb,0,none⟩ 38=xd g:=by
 have:=xW (w:=w) (a:=⟨lb,0,none⟩) (cs:=xH g) (λj v hj=>by rw[an_,aq_,h.cell j];simpa[xd]using hj)
 rwa [yC]at this
theorem xQh.setRow {w lb g'}(h:xQh w lb):xZ (w.setRow lb (xd g')) lb g':=by
 obtain⟨cs,h1,_⟩:=h;exact setRow_heap w lb _ _ _ _ h1
def zB (P:Program)(t:Nat)(w:World)(parts:Array (Nat×Value)):Result Next:=Sem.run P (do pure (Next.value (<-Instr.build t parts))) w
theorem vQ (ρ:Operand->Value)(d x0 x1 x2 x3 x4 x5 x6)(ty:TypeId)(pos af gd w):
  Sem.run prog (execOp ρ ⟨d,.build 204 #[(0,x0),(1,x1),(2,x2),(3,x3),(4,x4),(5,x5),(6,x6)],ty,pos,af,gd⟩) w=zB prog 204 w #[(0,ρ x0),(1,ρ x1),(2,ρ x2),(3,ρ x3),(4,ρ x4),(5,ρ x5),(6,ρ x6)]:=by kernel_rfl
section
attribute [local go_sem ↓] xL xI yy yr yB yJ vQ
attribute [local go_sem] zm zA u1 zX zb xh xf xa x9 xu xv xk xj xq xx xt
attribute [local go_sem] lc0 lc33 lc34 lc35 lc36 lc37 rc0 rc1 rc34 rc35 rc36 rc37 rc38
theorem xMx (g):kO (xd g) 1 32=true:=xF1 (by rw[xP];omega)
theorem xMr (g):kK (xd g) 1 32=(xl g.id).toArray:=by rw[jg (by rw[xP];omega)];exact xKd g
theorem xMw (s g):kO (yP s g) 2 32=true:=xF1 (by rw[zT];omega)
theorem xMq (s g):kK (yP s g) 2 32=(xl g.id).toArray:=by rw[jg (by rw[zT];omega)];exact xHi s g
attribute [local go_sem] xMx xMr xMw xMq
theorem xEn {P fn p ty n}(h:fn.results=#[.cell p ty])(hA:∀w,Sem.run P (isAgg ty) w=.ok true w)(hs:∀w,Sem.run P (Go.sizeOf ty) w=.ok n w)
  (tmps) (w) (a) (cs) (hp:tmps.getD p undef=.pointer (some a)) (aD:xo w a n=true) (eR:xm w a n=cs):
  (results fn tmps).run P w=.ok (.agg cs) w:=by
 have nW:tmps[p]?.getD undef=.pointer (some a):=by simpa using hp
 have hl:(loadVar ty a).run P w=.ok (.agg cs) w:=by
  simp[loadVar,hA,hs,zf w a n aD,eR]
 simp[results,h,nW,asAddr,hl]
end
section
attribute [local go_sem ↓] xL xI yy yr yB yJ vQ
attribute [local go_sem] zm zA u1 zX zb xh xf xa x9 xu xv xk xj xq xx xt
attribute [local go_sem] lc0 lc33 lc34 lc35 lc36 lc37 rc0 rc1 rc34 rc35 rc36 rc37 rc38 xMx xMr xMw xMq
theorem xVe (ρ:Operand->Value)(d)(ty:TypeId)(pos af g w):
  Sem.run prog (execOp ρ ⟨d,.buildSlice 35 0 #[],ty,pos,af,g⟩) w=.ok (.value (.slice (some ⟨w.heap.size,0,none⟩) 0 0)) (w.alloc (.cells #[] 33)):=by kernel_rfl
attribute [local go_sem ↓] xVe
theorem yBc (ids):∀u∈kW ids,u.oneCell'=true:=by
 intro u hu;unfold kW at hu;rw[bg_]at hu;obtain⟨x,_,hx⟩:=hu;exact uS x u hx
end
theorem xS6 (x y r sep):Lib.join (x :: y :: r) sep=x++sep++Lib.join (y :: r) sep:=by
 simp[Lib.join,List.intercalate,List.intersperse]
theorem xJu (c):∀l:List UInt8,Lib.join (uX c l) [c]=l
 |[]=>by rw[uX,Lib.join_one]
 |b :: l=>by
  have ih:=xJu c l;have hne:=xXm c l;unfold uX;cases hq:uX c l with
  |nil=>exact absurd hq hne
  |cons y t=>
   rw[hq]at ih;split
   ·rename_i e;rw[xS6,ih,e];rfl
   ·cases t with
    |nil=>rw[Lib.join_one]at ih⊢;rw[ih]
    |cons z t=>rw[xS6]at ih⊢;rw[aK_,aK_,ih]
theorem xZc (l):(str l).data.toList=l:=by simp[str]
section
attribute [local go_sem ↓] xL xI yy yr yB yJ
attribute [local go_sem] zm zA u1 zX zb xh xf xa x9 xu xv xk xj xq xx xt
theorem xZ.below {w w' lb B g}(h:xZ w lb g)(hb:Below B w w')(hlt:lb<B):xZ w' lb g:=(hb.block lb hlt).trans h
end
def lowB (c:UInt8):Bool:=decide (97<=c.toNat)&&decide (c.toNat<=122)
def badB (c:UInt8):Bool:=!lowB c&&(decide (c.toNat<48)||decide (57<c.toNat))&&c.toNat != 45&&c.toNat != 43&&c.toNat != 95
def xAn (l:List UInt8):Bool:=match l with
 |[]=>false
 |c :: r=>decide ((c :: r).length<=20)&&lowB c&&!(c :: r).any badB
def uw (s:ByteArray):Int:=if 80<s.size then 5 else if (yI 46 s).any (λx=>!xAn x.data.toList)then 12 else if 10<(yI 46 s).length then 9 else 0
theorem xHc (c w):Calls prog 269 #[.int .u8 c.toNat] w λr w'=>r=.returned (.bool (lowB c))/\w=w':=by
 unfold lowB;by_cases h1:97<=c.toNat
 ·by_cases h2:c.toNat<=122
  ·rw[decide_eq_true h1,decide_eq_true h2];have CB:(97:Int)<=(c.toNat:Int):=by omega
   have C5:(c.toNat:Int)<=122:=by omega
   go_enter func269,ntmps269;go_wp2;go_ret;exact⟨by simp,rfl⟩
  ·rw[decide_eq_true h1,decide_eq_false h2];have CB:(97:Int)<=(c.toNat:Int):=by omega
   have C5:decide ((c.toNat:Int)<=122)=false:=by simp;omega
   go_enter func269,ntmps269;go_wp2;go_ret;exact⟨by simp,rfl⟩
 ·rw[decide_eq_false h1];have CB:decide ((97:Int)<=(c.toNat:Int))=false:=by simp;omega
  go_enter func269,ntmps269;go_wp2;go_ret;exact⟨by simp,rfl⟩
theorem xXy (c w):Calls prog 271 #[.int .u8 c.toNat] w λr w'=>r=.returned (.bool (badB c))/\w=w':=by
 unfold badB;have pV:=xHc c w;generalize lowB c=b at pV;have HL:=h_ pV;clear pV;cases b with
 |true=>
  go_enter func271,ntmps271;go_wp2_with fail;refine HL.mono ?_;rintro r w' ⟨rfl,rfl⟩;go_wp2;go_ret;exact⟨rfl,rfl⟩
 |false=>
  by_cases h1:c.toNat<48
  case pos=>
   have L0:((c.toNat:Int) != 45)=(c.toNat != 45):=by
    rw[bR_];simp;omega
   have L3:((c.toNat:Int) != 43)=(c.toNat != 43):=by
    rw[bR_];simp;omega
   have L4:((c.toNat:Int) != 95)=(c.toNat != 95):=by
    rw[bR_];simp;omega
   have CB:(c.toNat:Int)<48:=by omega
   rw[decide_eq_true h1,<-L0,<-L3,<-L4];cases e45:((c.toNat:Int) != 45) <;> cases e43:((c.toNat:Int) != 43) <;> cases e95:((c.toNat:Int) != 95) <;>
   ·clear L0 L3 L4;go_enter func271,ntmps271;go_wp2_with fail;refine HL.mono ?_;rintro r w' ⟨rfl,rfl⟩;go_wp2;go_ret;exact⟨rfl,rfl⟩
  by_cases h2:57<c.toNat
  case neg=>
   have CB:decide ((c.toNat:Int)<48)=false:=by simp;omega
   have C5:decide (57<(c.toNat:Int))=false:=by simp;omega
   rw[decide_eq_false h1,decide_eq_false h2];go_enter func271,ntmps271;go_wp2_with fail;refine HL.mono ?_;rintro r w' ⟨rfl,rfl⟩;go_wp2;go_ret;exact⟨rfl,rfl⟩
  have L0:((c.toNat:Int) != 45)=(c.toNat != 45):=by
   rw[bR_];simp;omega
  have L3:((c.toNat:Int) != 43)=(c.toNat != 43):=by
   rw[bR_];simp;omega
  have L4:((c.toNat:Int) != 95)=(c.toNat != 95):=by
   rw[bR_];simp;omega
  have CB:decide ((c.toNat:Int)<48)=false:=by simp;omega
  have C5:57<(c.toNat:Int):=by omega
  rw[decide_eq_false h1,decide_eq_true h2,<-L0,<-L3,<-L4];cases e45:((c.toNat:Int) != 45) <;> cases e43:((c.toNat:Int) != 43) <;> cases e95:((c.toNat:Int) != 95) <;>
  ·clear L0 L3 L4;go_enter func271,ntmps271;go_wp2_with fail;refine HL.mono ?_;rintro r w' ⟨rfl,rfl⟩;go_wp2;go_ret;exact⟨rfl,rfl⟩
def yBl (x:UInt8):Value:=.int .u8 x.toNat
theorem yA3 (w):PredAt prog 271 #[] yBl badB w:=λW x _=>
 (xXy x W).mono λ_ _ ⟨he,hw⟩=>⟨he,0,hw.symm⟩
theorem xQ6 (s cap j)(h:j<s.size):(bytesRow s cap)[j]?=some (.int .u8 (s.data.toList[j]!).toNat):=by
 unfold bytesRow;have h':j<s.data.size:=h;rw[Array.getElem?_append_left (by simpa using h'),Array.getElem?_map,bd_ h'];simp only[aU_];have:s.data.toList[j]! = s.data[j]:=by rw[getElem!_pos s.data.toList j (by simpa using h')];rfl
 rw[this]
theorem yBs {s:ByteArray}(h0:0<s.size):xAn s.data.toList=(decide (s.size<=20)&&lowB s[0]&&!s.data.toList.any badB):=by
 obtain⟨⟨l⟩⟩:=s;cases l with
 |nil=>exact absurd h0 (by simp[ByteArray.size])
 |cons c r=>rfl
theorem xI1 (s w)(hs:s.size<=maxLen):Calls prog 241 #[.string s] w λr w'=>r=.returned (.bool (xAn s.data.toList))/\Below w.heap.size w w':=by
 unfold maxLen at hs;by_cases h0:0<s.size
 case neg=>
  obtain⟨⟨l⟩⟩:=s;cases l with
  |nil=>
   go_enter func241,ntmps241;go_wp2;go_ret;exact⟨rfl,ab_ _ _⟩
  |cons c r=>exact absurd h0 (by simp[ByteArray.size])
 have hc:=yBs h0;have hpe:s.toList.isEmpty=false:=by
  rw[dE_,List.isEmpty_eq_false_iff,<-cy_,vu];omega
 rw[hc];clear hc;by_cases h20:s.size<=20
 case neg=>
  rw[decide_eq_false h20];have Sy:(20:Int)<(s.size:Int):=by omega
  go_enter func241,ntmps241;go_wp2;go_ret;exact⟨rfl,ab_ _ _⟩
 rw[decide_eq_true h20];have Sy:decide ((20:Int)<(s.size:Int))=false:=by simp;omega
 have pV:=xHc s[0] w;generalize lowB s[0]=b at pV;have HL:=h_ pV;clear pV;generalize CC:s.data.toList.any badB=bb;have fX:=h_ CC;clear CC;go_enter func241,ntmps241;go_wp2_with fail;refine HL.mono ?_;rintro r w' ⟨rfl,rfl⟩;cases b with
 |false=>
  go_wp2;go_ret;exact⟨rfl,ab_ _ _⟩
 |true=>
  have gV:=run_bytes_of_string (P:=prog) w 9 31 5 s underlying9 underlying31 underlying5;go_wp2_with fail;have Qt:=AnyE.slices_ContainsFunc Tryz.containsFuncByte yBl badB 271 #[] (enters_of func271 (by decide) rfl) w.heap.size 0 s.size (grownCap w s.size 0 5) s.data.toList (w.alloc (.cells (bytesRow s (grownCap w s.size 0 5)) 5 ((bytesRow s (grownCap w s.size 0 5)).size,(bytesRow s (grownCap w s.size 0 5)).size+1))).drew (yA3 _) (dJ_ (vu s).symm) (by omega) (λj hj=>by
   have E0:j<s.size:=by rw[vu]at hj;exact hj
   have:=xQ6 s (grownCap w s.size 0 5) j E0;rw[cO_,World.cell?_alloc_mark,aq_];exact this)
  have L5:(s.data.toList.take s.size).any badB=s.data.toList.any badB:=by rw[ar_ (dJ_ (vu s))]
  rw[L5]at Qt;rw[fX.out]at Qt;have HF:=h_ Qt;clear Qt gV L5 fX;refine HF.mono ?_;rintro r w' ⟨rfl,q,rfl⟩;go_wp2;go_ret;exact⟨by simp,below_drewN' ((ab_ _ _).alloc (aa_ _) _) (1+q)⟩
theorem xRp (s w)(hs:s.size<=maxLen):Calls prog 240 #[.string s] w λr w'=>r=.returned (.bool (!xAn s.data.toList))/\Below w.heap.size w w':=by
 have hc:=xI1 s w hs;generalize xAn s.data.toList=b at hc⊢;have HC:=h_ hc;clear hc;go_enter func240,ntmps240;go_wp2_with fail;refine HC.mono ?_;rintro r w' ⟨rfl,hb⟩;go_wp2;go_ret;exact⟨by simp,hb⟩
def xAo:List ByteArray->Nat->Int
 |[],_=>-1
 |x :: r,k=>if xAn x.data.toList then xAo r (k+1)else k
theorem xNn:∀(xs:List ByteArray) (k:Nat),(0<=xAo xs k)↔xs.any (λx=>!xAn x.data.toList)=true
 |[],k=>by simp[xAo]
 |x :: r,k=>by
  have:=xNn r (k+1);by_cases h:xAn x.data.toList=true
  ·simp only[xAo,h,if_true,List.any_cons,dt_,cV_];exact this
  ·simp only[xAo,h,List.any_cons];simp
theorem xPd (b c xs w)(hx:kE w b 0 xs)(hm:xs.length<=1000000)(ao:∀x∈xs,x.size<=maxLen):
  Calls prog 268 #[.slice (some ⟨b,0,none⟩) xs.length c,.func (.func 240) #[] #[]] w λr w'=>r=.returned (.int .i64 (xAo xs 0))/\Below w.heap.size w w':=by
 have HX:=h_ hx;have HL:=h_ ao;clear hx ao;go_enter func268,ntmps268;go_wp2;go_loopw [5,8] (λ_ i wr=>∃k:Nat,k<=xs.length/\i=.int .i64 k/\Hid (xAo xs 0=xAo (xs.drop k) k)/\Below w.heap.size w wr) (λ_ i _=>xs.length-(intOf i).toNat)
 case atStart=>exact⟨0,by omega,rfl,h_ rfl,ab_ _ _⟩
 case round=>
  obtain⟨k,hk,rfl,HB,hb⟩:=hrel;by_cases hlt:k<xs.length
  ·have cr:(k:Int)<(xs.length:Int):=by omega
   have bU:xs[k]?=some xs[k]:=ak_ hlt;have hc0:=HX.out k _ bU;rw[aq_]at hc0;have aE:wr.cell? ⟨b,k,none⟩=some (.string xs[k]):=(hb.cell (block_lt_of_cell hc0)).trans hc0;have aI:=HL.out xs[k] (bb_ hlt);have ax:Hid (xAo xs 0=if xAn xs[k].data.toList then xAo (xs.drop (k+1)) (k+1)else k):=h_ (by
    rw[HB.out,bG_ hlt];rfl)
   have bH:=xRp xs[k] wr aI;have fX:=h_ hb;clear HB hc0 bU aI hb;generalize xs[k]=x at aE ax bH;generalize xAn x.data.toList=bb at bH ax;have HC:=h_ bH;clear bH;cases bb with
   |true=>
    go_wp2_with fail;refine HC.mono ?_;rintro r w' ⟨rfl,aa⟩;have aj:=fX.trans (aa.mono fX.size);go_wp2;go_roundw
    case rel=>exact⟨k+1,by omega,by go_num,h_ (by rw[ax.out];rfl),aj⟩
    case measure=>simp[intOf];omega
   |false=>
    go_wp2_with fail;refine HC.mono ?_;rintro r w' ⟨rfl,aa⟩;have aj:=fX.trans (aa.mono fX.size);go_wp2;go_ret;exact⟨uv (by rw[ax.out];rfl),aj⟩
  ·have om:Hid (xAo xs 0=-1):=h_ (by rw[HB.out,aO_ (by omega)];rfl);clear HB;go_wp2;go_ret;exact⟨uv (by rw[om.out]),hb⟩
theorem xVt (b c xs w)(hx:kE w b 0 xs)(hm:xs.length<=1000000)(ao:∀x∈xs,x.size<=maxLen):
  Calls prog 239 #[.slice (some ⟨b,0,none⟩) xs.length c,.func (.func 240) #[] #[]] w λr w'=>r=.returned (.bool (xs.any λx=>!xAn x.data.toList))/\Below w.heap.size w w':=by
 have HI:=h_ (xPd b c xs w hx hm ao);have L6:=xNn xs 0;have hd:(xs.any λx=>!xAn x.data.toList)=decide (0<=xAo xs 0):=by
  rw[bR_,decide_eq_true_eq];exact L6.symm
 rw[hd];clear L6 hd hx ao;generalize xAo xs 0=n at HI⊢;go_enter func239,ntmps239;go_wp2_with fail;refine HI.mono ?_;rintro r w' ⟨rfl,hb⟩;go_wp2;go_ret;exact⟨by simp,hb⟩
theorem xKl (s w)(hG:Gl w)(hs:s.size<4294967281):
  Calls prog 149 #[.string s] w λr w'=>r=.returned (.slice (some ⟨w.heap.size,0,none⟩) (yI 46 s).length (yI 46 s).length)/\w.alloc (.cells ((yI 46 s).map Value.string).toArray 9)=w':=by
 go_enter func149,ntmps149;go_wp2_with fail;refine(xXk 46 s w hG hs).mono ?_;rintro r w' ⟨rfl,rfl⟩;go_wp2;go_ret;exact⟨rfl,rfl⟩
theorem xMh (c):∀l:List UInt8,∀x∈uX c l,x.length<=l.length
 |[],x,hx=>by simp[uX]at hx;simp[hx]
 |b :: l,x,hx=>by
  have ih:=xMh c l;unfold uX at hx;split at hx
  ·simp only[ae_]at hx;rcases hx with rfl|hx
   ·simp
   ·have:=ih x hx;simp;omega
  ·split at hx
   ·rename_i h t e;rw[e]at ih;simp only[ae_]at hx;rcases hx with rfl|hx
    ·have:=ih h (by simp);simp;omega
    ·have:=ih x (by simp[hx]);simp;omega
   ·simp at hx;subst hx;simp
theorem xXl (c s):∀x∈yI c s,x.size<=s.size:=by
 intro x hx;unfold yI at hx;obtain⟨l,hl,rfl⟩:=az_.1 hx;rw[xZb,<-vu];exact xMh c _ l hl
theorem xDh (s w)(hG:Gl w)(hs:s.size<=maxLen):
  Calls prog 198 #[.string s] w λr w'=>r=.returned (.int .i64 (uw s))/\Below w.heap.size w w':=by
 unfold maxLen at hs;unfold uw;by_cases h80:80<s.size
 ·rw[if_pos h80];have Sz:(80:Int)<(s.size:Int):=by omega
  go_enter func198,ntmps198;go_wp2;go_ret;exact⟨rfl,ab_ _ _⟩
 ·rw[if_neg h80];have Sz:¬ (80:Int)<(s.size:Int):=by omega
  have hle:=xXl 46 s;have cX:=xDv 46 s;have hD:=h_ (xKl s w hG (by omega));have gk:Below w.heap.size w (w.alloc (.cells ((yI 46 s).map Value.string).toArray 9)):=(ab_ _ _).alloc (aa_ _) _;have hA:=xVt w.heap.size (yI 46 s).length (yI 46 s) (w.alloc (.cells ((yI 46 s).map Value.string).toArray 9)) (xG1 w _ _) (by omega) (λx hx=>by have:=hle x hx;unfold maxLen;omega);have hm:(yI 46 s).length<=81:=by omega
  generalize yI 46 s=xs at hD hA gk hm⊢;generalize (xs.any λx=>!xAn x.data.toList)=b at hA⊢;generalize xs.length=n at hD hA hm⊢;have HA:=h_ hA;have HB:=h_ gk;clear hA gk hle cX;cases b with
  |true=>
   go_enter func198,ntmps198;go_wp2_with fail;refine hD.mono ?_;rintro r w' ⟨rfl,rfl⟩;go_wp2_with fail;refine HA.mono ?_;rintro r w' ⟨rfl,hb⟩;go_wp2;go_ret;exact⟨rfl,HB.trans (hb.mono HB.size)⟩
  |false=>
   by_cases h10:10<n
   ·have SA:(10:Int)<(n:Int):=by omega
    rw[if_pos h10];go_enter func198,ntmps198;go_wp2_with fail;refine hD.mono ?_;rintro r w' ⟨rfl,rfl⟩;go_wp2_with fail;refine HA.mono ?_;rintro r w' ⟨rfl,hb⟩;go_wp2;go_ret;exact⟨rfl,HB.trans (hb.mono HB.size)⟩
   ·have SA:¬ (10:Int)<(n:Int):=by omega
    rw[if_neg h10];go_enter func198,ntmps198;go_wp2_with fail;refine hD.mono ?_;rintro r w' ⟨rfl,rfl⟩;go_wp2_with fail;refine HA.mono ?_;rintro r w' ⟨rfl,hb⟩;go_wp2;go_ret;exact⟨rfl,HB.trans (hb.mono HB.size)⟩
section
attribute [local go_sem ↓] xL xI yy yr yB yJ
attribute [local go_sem] zm zA u1 zX zb xh xf xa x9 xu xv xk xj xq xx xt
def zj (B:Nat)(w:World)(v:Value)(ids:List Id32):Prop:=w.ownsRow B 33 32 v ids.length (kW ids)
theorem zj.at {B w v ids}(h:zj B w v ids):xFv w v ids:=xY3 h
theorem zj.mono {B B' w v ids}(h:zj B w v ids)(hB:B'<=B):zj B' w v ids:=by
 refine⟨h.1,?_⟩;rcases h.2 with h0|⟨g,cap,cur,e,hg,hr⟩
 ·exact .inl h0
 ·exact .inr ⟨g,cap,cur,e,ad_ hB hg,hr⟩
theorem zj.block {B w w' v ids}(h:zj B w v ids)(hk:∀k,v.ownBlock=some k->w'.heap[k]?=w.heap[k]?):zj B w' v ids:=by
 refine⟨h.1,?_⟩;rcases h.2 with h0|⟨g,cap,cur,e,hg,aq,hr⟩
 ·exact .inl h0
 ·exact .inr ⟨g,cap,cur,e,hg,(hk g (by rw[e];rfl)).trans aq,hr⟩
theorem zj.lt {B w v ids}(h:zj B w v ids){k}(hk:v.ownBlock=some k):B<=k/\k<w.heap.size:=aL_ h k hk
theorem zj.below {B w w' v ids}(h:zj B w v ids)(hb:Below w.heap.size w w'):zj B w' v ids:=h.block λk hk=>hb.block k (h.lt hk).2
theorem zj.one {B w v ids}(h:zj B w v ids):v.oneCell'=true:=h.at.one
theorem xQ5 (B v ids w)(h:zj B w v ids)(hn:ids.length<=1000000):
  Calls prog 167 #[v] w λr w'=>∃v',r=.returned v'/\zj w.heap.size w' v' ids/\Below w.heap.size w w':=by
 obtain⟨i0,hi,bd,aL,bk⟩:=info_parts Tryz.info_id;rcases h.2 with⟨rfl,h0⟩|⟨g,cap,cur,rfl,hg,aq,hle,dC,aJ,eG⟩
 ·refine(AnyE.slices_Clone_nil Tryz.cloneId 0 0 w).mono ?_;rintro r w'⟨rfl,rfl⟩;obtain rfl:ids=[]:=br_.1 h0;exact⟨_,rfl,aP_ _ _ _ _,ab_ _ _⟩
 ·refine(AnyE.slices_Clone Tryz.cloneId i0 (.agg (xl uq).toArray) 32 32 hi bd aL bk (vo uq) (by decide) sizeOf33 g 0 ids.length cap (kW ids) w h.1 (by unfold maxLen;omega) (by omega) (λj u hj=>?_) (yBc ids)).mono ?_
  ·have:=bc_ h (g:=g) rfl j u hj
   rwa [an_]at this
  ·rintro r w' ⟨v',rfl,ae,_,hb⟩;exact⟨v',rfl,ae,hb⟩
theorem xD5 (B g ids w)(h:zj B w g.refs ids)(hn:ids.length<=1000000):
  Calls prog 133 #[.agg (xd g)] w λr w'=>∃v,r=.returned (.agg (xd { g with refs:=v }))/\zj w.heap.size w' v ids/\Below w.heap.size w w':=by
 obtain⟨W0,fC⟩:∃W0,W0=(w.alloc (.cells (xd g) 204)).alloc (.cells (xd xJ) 204):=⟨_,rfl⟩;have lh:W0.heap.size=w.heap.size+2:=by rw[fC];simp
 have bf:Below w.heap.size w W0:=by rw[fC];exact((ab_ _ _).alloc (aa_ _) _).alloc (by simp) _
 have SB:xZ W0 w.heap.size g:=by
  unfold xZ;rw[fC,heap_alloc_old _ _ (by simp),heap_alloc_new]
 have Wz:xZ W0 (w.heap.size+1) xJ:=by
  unfold xZ;have:=heap_alloc_new (w.alloc (.cells (xd g) 204)) (.cells (xd xJ) 204);rw[fC];simpa using this
 have aT:=xQ5 B g.refs ids W0 (h.below bf) hn;have pO:W0.cell? ⟨w.heap.size,36,none⟩=some g.refs:=(SB.cell 36).trans (lc36 g);have HC:=h_ aT;have HV:=h_ SB;have HZ:=h_ Wz;have HB:=h_ bf;clear aT SB Wz bf;go_enter func133,ntmps133;rw[fC]at pO;go_wp2_with fail;rw[<-fC];clear pO fC;refine HC.mono ?_;rintro r w1 ⟨v,rfl,hI,aa⟩;have bP:=hI.one;obtain⟨va,vn,vc,hv⟩:∃a n c,v=.slice a n c:=by obtain⟨a,c,e,_⟩:=hI.at;exact⟨a,_,c,e⟩
 have Qu:xZ w1 w.heap.size g:=HV.below aa (by omega);have pW:xZ w1 (w.heap.size+1) xJ:=HZ.below aa (by omega);have eO:Below w.heap.size w w1:=HB.trans (aa.mono HB.size);have Qv:=Qu.set 36 v (xZr g v);have AD:xZ (w1.setCell ⟨w.heap.size,36,none⟩ v) (w.heap.size+1) xJ:=pW.grown (xYa w1 w.heap.size 36 v) (by simp);have tE:zj W0.heap.size (w1.setCell ⟨w.heap.size,36,none⟩ v) v ids:=hI.block λk hk=>heap_setCell_other w1 ⟨w.heap.size,36,none⟩ k v (by have:=(hI.lt hk).1;simp;omega)
 have dh:Below w.heap.size w (w1.setCell ⟨w.heap.size,36,none⟩ v):=eO.setCell (aa_ _) v;have hc:=(Qu.cell 36).trans (lc36 g);have hf:=Qu.free 36;have dX:=Qv.rd.1;have aP:=Qv.rd.2;have bu:=AD.row;have bJ:=qy (g:={ g with refs:=v }) bP;have WA:=h_ Qv;have AE:=h_ AD;have mG:=h_ tE;have au:=h_ dh;clear Qu pW eO Qv AD tE dh hI aa HC HV HZ HB h;subst hv;go_wp2;refine bodyPost_ret (v:=.agg (xd { g with refs:=.slice va vn vc })) ?_ rfl ⟨_,rfl,?_,vz au.out (uj _ _ _) au.size (by omega)⟩
 ·exact xEn rfl isAgg204 sizeOf204 _ _ ⟨w.heap.size+1,0,none⟩ _ rfl (AE.blk.setRow.rd.1) (AE.blk.setRow.rd.2)
 ·refine(mG.mono (by omega)).block λk hk=>(uj _ (w.heap.size+1) _).block k (mG.lt hk).2 ?_
  intro e;have:=(mG.lt hk).1;cases e;omega
end
theorem Tryz.info_line:(prog.info? 204).map (λi=>(i.zero,i.size,i.bytes))=some (some (.agg (xd xJ)),38,112):=by kernel_rfl
section
attribute [local go_sem ↓] xL xI yy yr yB yJ
attribute [local go_sem] zm zA u1 zX zb xh xf xa x9 xu xv xk xj xq xx xt
def three:j0:={ xJ with number:=3 }
theorem xZ.idAt {w lb g}(h:xZ w lb g):xo w ⟨lb,1,none⟩ 32=true/\xm w ⟨lb,1,none⟩ 32=(xl g.id).toArray:=by
 have:=xW (w:=w) (a:=⟨lb,1,none⟩) (cs:=xl g.id) (λj v hj=>by
  have GO:j<32:=by have:=(ax_.1 hj).1;rwa [xz]at this
  rw[an_,h.cell,<-hj];simp only[xd,xH,ah_];rw[show 1+j=j+1 by omega,ay_,aJ_ (by rw[xz];exact GO)])
 rwa [xz]at this
end
section
attribute [local go_sem ↓] xL xI yy yr yB yJ
attribute [local go_sem] zm zA u1 zX zb xh xf xa x9 xu xv xk xj xq xx xt
def seven:j0:={ xJ with number:=7,name:=⟨#[65,110,110]⟩,subject:=⟨#[82,101,58,32,116,101,97]⟩,bytes:=120 }
theorem xT3 (ρ:Operand->Value)(d x0 x2 x4 x6)(ty:TypeId)(pos af gd w):
  Sem.run prog (execOp ρ ⟨d,.build 204 #[(0,x0),(2,x2),(4,x4),(6,x6)],ty,pos,af,gd⟩) w=zB prog 204 w #[(0,ρ x0),(2,ρ x2),(4,ρ x4),(6,ρ x6)]:=by kernel_rfl
theorem xT4 (ρ:Operand->Value)(d x0)(ty:TypeId)(pos af gd w):
  Sem.run prog (execOp ρ ⟨d,.build 204 #[(0,x0)],ty,pos,af,gd⟩) w=zB prog 204 w #[(0,ρ x0)]:=by kernel_rfl
theorem yBz (w):zB prog 204 w #[(0,.int .i64 7),(2,.string ⟨#[65,110,110]⟩),(4,.string ⟨#[82,101,58,32,116,101,97]⟩),(6,.int .i64 120)]=.ok (.value (.agg (xd seven))) w:=by kernel_rfl
theorem yBy (w):zB prog 204 w #[(0,.int .i64 3)]=.ok (.value (.agg (xd three))) w:=by kernel_rfl
attribute [local go_sem ↓] xT3 xT4
attribute [local go_sem] yBz yBy
theorem xWg (w):Calls prog 44 #[] w λr w'=>r=.returned (.pointer (some ⟨w.heap.size+1,0,none⟩))/\(w.alloc (.map #[] 0)).alloc (.cells #[.map (some w.heap.size),.int .i64 0] 163)=w':=by
 have lQ:=@run_makeMap prog;go_enter func44,ntmps44;go_wp2;go_ret;exact⟨rfl,rfl⟩
end
section
attribute [local go_sem ↓] xL xI yy yr yB yJ
attribute [local go_sem] zm zA u1 zX zb xh xf xa x9 xu xv xk xj xq xx xt
structure xDs where
 number:Int
 id:Id32
 name:ByteArray
 date:Int
 subject:ByteArray
 ids:List Id32
 bytes:Int
structure ML where
 p:xDs
 v:Value
def ML.g (m:ML):j0:=⟨m.p.number,m.p.id,m.p.name,m.p.date,m.p.subject,m.v,m.p.bytes⟩
instance:Inhabited ML:=⟨⟨⟨0,default,⟨#[]⟩,0,⟨#[]⟩,[],0⟩,.slice none 0 0⟩⟩
def yq (ms:List ML):List Value:=ms.flatMap λm=>xH m.g
theorem um (ms):(yq ms).length=ms.length*38:=by
 induction ms with
 |nil=>rfl
 |cons m ms ih=>simp[yq,yC]at ih⊢;omega
theorem xDl:∀(ms:List ML) (j i:Nat) (hj:j<ms.length),i<38->(yq ms)[j*38+i]?=(xH ms[j].g)[i]?
 |m :: ms,0,i,_,hi=>by
  show ((xH m.g)++yq ms)[0*38+i]?=_
  rw[bZ_,aq_,aJ_ (by rw[yC];exact hi)];rfl
 |m :: ms,j+1,i,hj,hi=>by
  show ((xH m.g)++yq ms)[(j+1)*38+i]?=_
  rw[aF_ (by rw[yC];omega),yC,show (j+1)*38+i-38=j*38+i by omega];exact xDl ms j i (by simpa using hj) hi
structure zq (B:Nat)(w:World)(v:Value)(ms:List ML):Prop where
 row:w.ownsRow B 204 38 v ms.length (yq ms)
 refs:∀m∈ms,zj B w m.v m.p.ids
theorem zq.head {B w v ms}(h:zq B w v ms):(v=.slice none 0 0/\ms=[])\/∃g cap,v=.slice (some ⟨g,0,none⟩) ms.length cap/\B<=g/\g<w.heap.size/\ms.length<=cap/\cap<=maxLen /\
  ∀j (hj:j<ms.length) i u,(xH ms[j].g)[i]?=some u->w.cell? ⟨g,j*38+i,none⟩=some u:=by
 rcases h.row.2 with⟨rfl,h0⟩|⟨g,cap,cur,rfl,hg,aq,hle,dC,aJ,eG⟩
 ·exact .inl ⟨rfl,br_.1 h0⟩
 ·refine .inr ⟨g,cap,rfl,hg,(i_ aq).1,hle,dC,λj hj i u hu=>?_⟩;have hi:i<38:=by have:=(ax_.1 hu).1;rwa [yC]at this
  have:=bc_ h.row (g:=g) rfl (j*38+i) u (by rw[xDl ms j i hj hi];exact hu)
  rwa [an_,aq_]at this
theorem xCw {w g off l}(h:∀i u,(xH l)[i]?=some u->w.cell? ⟨g,off+i,none⟩=some u):xo w ⟨g,off,none⟩ 38=true/\xm w ⟨g,off,none⟩ 38=xd l:=by
 have:=xW (w:=w) (a:=⟨g,off,none⟩) (cs:=xH l) (λj v hj=>by rw[an_];exact h j v hj);rw[yC]at this;exact this
theorem kc (a w):Calls prog 176 #[.int .i64 a] w λr w'=>r=.returned (.bool false)/\w=w':=by
 have h:((a:Int) != a)=false:=by simp
 go_enter func176,ntmps176;go_wp2;go_ret;exact⟨rfl,rfl⟩
def cmpZ (a b:Int):Int:=if a<b then -1 else if b<a then 1 else 0
theorem xVm (a b w):Calls prog 145 #[.int .i64 a,.int .i64 b] w λr w'=>r=.returned (.int .i64 (cmpZ a b))/\w=w':=by
 unfold cmpZ;by_cases h1:a<b
 ·rw[if_pos h1];go_enter func145,ntmps145;go_wp2_with fail;refine(kc a w).mono ?_;rintro r w' ⟨rfl,rfl⟩;go_wp2_with fail;refine(kc b w).mono ?_;rintro r w' ⟨rfl,rfl⟩;go_wp2;go_ret;exact⟨rfl,rfl⟩
 ·rw[if_neg h1];by_cases h2:b<a
  ·rw[if_pos h2];go_enter func145,ntmps145;go_wp2_with fail;refine(kc a w).mono ?_;rintro r w' ⟨rfl,rfl⟩;go_wp2_with fail;refine(kc b w).mono ?_;rintro r w' ⟨rfl,rfl⟩;go_wp2;go_ret;exact⟨rfl,rfl⟩
  ·rw[if_neg h2];go_enter func145,ntmps145;go_wp2_with fail;refine(kc a w).mono ?_;rintro r w' ⟨rfl,rfl⟩;go_wp2_with fail;refine(kc b w).mono ?_;rintro r w' ⟨rfl,rfl⟩;go_wp2;go_ret;exact⟨rfl,rfl⟩
theorem xHp (g n w):Calls prog 280 #[.agg (xd g),.int .i64 n] w λr w'=>r=.returned (.int .i64 (cmpZ g.number n))/\w.alloc (.cells (xd g) 204)=w':=by
 have hc:(w.alloc (.cells (xd g) 204)).cell? ⟨w.heap.size,0,none⟩=some (.int .i64 g.number):=(yz w _ _ 0).trans (lc0 g);go_enter func280,ntmps280;go_wp2_with fail;refine(xVm g.number n _).mono ?_;rintro r w' ⟨rfl,rfl⟩;go_wp2;go_ret;exact⟨rfl,rfl⟩
def nums (ms:List ML):List Int:=ms.map (·.p.number)
def qe (ms:List ML)(n:Int):Bool:=(nums ms).contains n
theorem yL (ms):(nums ms).length=ms.length:=by simp[nums]
def qu (ns:List Int)(n:Int)(i j:Nat):Prop:=i<=j/\j<=ns.length/\(∀k (h:k<ns.length),k<i->ns[k]<n)/\(∀k (h:k<ns.length),j<=k->n<=ns[k])
theorem xVr {ns n i j k}(hs:ns.Pairwise (· < ·))(h:qu ns n i j)(hk:k<ns.length)(L7:i<=k)(Lg:k<j)(hc:ns[k]<n):qu ns n (k+1) j:=by
 obtain⟨h1,h2,h3,h4⟩:=h;refine⟨by omega,h2,λm hm Cx=>?_,h4⟩;by_cases e:m=k
 ·subst e;exact hc
 ·exact Int.lt_trans (bH_.1 hs m k hm hk (by omega)) hc
theorem xQ9 {ns n i j k}(hs:ns.Pairwise (· < ·))(h:qu ns n i j)(hk:k<ns.length)(L7:i<=k)(Lg:k<j)(hc:¬ ns[k]<n):qu ns n i k:=by
 obtain⟨h1,h2,h3,h4⟩:=h;refine⟨L7,by omega,h3,λm hm Cx=>?_⟩;by_cases e:m=k
 ·subst e;omega
 ·have:=bH_.1 hs k m hk hm (by omega);omega
theorem xGf {a b}:(cmpZ a b==0)=decide (a=b):=by
 unfold cmpZ;split
 ·have:a≠b:=by omega
  simp[this]
 ·split
  ·have:a≠b:=by omega
   simp[this]
  ·have:a=b:=by omega
   simp[this]
theorem xHt {ns n i}(hs:ns.Pairwise (· < ·))(h:qu ns n i i):ns.contains n=if h:i<ns.length then (cmpZ ns[i] n==0)else false:=by
 obtain⟨h1,h2,h3,h4⟩:=h;rw[bR_,ba_];constructor
 ·intro hm;obtain⟨k,hk,rfl⟩:=bF_.1 hm;have WB:¬ k<i:=λhx=>by have:=h3 k hk hx;omega
  have hi:i<ns.length:=by omega
  rw[dif_pos hi,xGf];have h5:=h4 i hi (aa_ _);by_cases e:k=i
  ·subst e;simp
  ·have:=bH_.1 hs i k hi hk (by omega);omega
 ·intro hx;split at hx
  ·rename_i hi;rw[xGf,decide_eq_true_eq]at hx;rw[<-hx];exact bb_ hi
  ·cases hx
theorem xTh (B v ms n w)(h:zq B w v ms)(hn:ms.length<=65536)(hs:(nums ms).Pairwise (· < ·)):
  Calls prog 279 #[v,.int .i64 n,.func (.func 280) #[] #[]] w λr w'=>∃i:Nat,qu (nums ms) n i i/\r=.returned (.tuple #[.int .i64 i,.bool (qe ms n)])/\Below w.heap.size w w':=by
 rcases h.head with⟨rfl,rfl⟩|⟨g,cap,rfl,J3,eH,hle,dC,aE⟩
 ·go_enter func279,ntmps279;go_wp2;go_loop [9,10] (λa b=>a=.int .i64 0/\b=.int .i64 0) (λ_ _=>0)
  case atStart=>exact⟨rfl,rfl⟩
  case round=>
   obtain⟨rfl,rfl⟩:=hrel;go_wp2;go_ret2;exact⟨0,⟨aa_ _,aV_ _,λk h=>absurd h (by simp[nums]),λk h=>absurd h (by simp[nums])⟩,rfl,ab_ _ _⟩
 ·have HC:=h_ aE;have HS:=h_ hs;clear aE hs h;go_enter func279,ntmps279;go_wp2;go_loopw [9,10,11] (λa b _ wr=>∃i j:Nat,a=.int .i64 i/\b=.int .i64 j/\Hid (qu (nums ms) n i j)/\Below w.heap.size w wr) (λa b _ _=>(intOf b).toNat-(intOf a).toNat)
  case atStart=>exact⟨0,ms.length,rfl,rfl,h_ ⟨aV_ _,by rw[yL];exact aa_ _,λk h h'=>absurd h' (ef_ _),λk h h'=>absurd h (by rw[yL];omega)⟩,ab_ _ _⟩
  case round=>
   obtain⟨i,j,rfl,rfl,HB,hb⟩:=hrel;obtain⟨hij,hj,_,_⟩:=HB.out;rw[yL]at hj;by_cases hlt:i<j
   ·have cr:(i:Int)<(j:Int):=by omega
    have hm:(i+j)/2<ms.length:=by omega
    obtain⟨o1,d1⟩:=xCw (w:=wr) (g:=g) (off:=(i+j)/2*38) (l:=ms[(i+j)/2].g) (λk u hk=>(hb.cell (p:=⟨g,(i+j)/2*38+k,none⟩) eH).trans (HC.out _ hm k u hk));have bH:=xHp ms[(i+j)/2].g n wr;have gE:ms[(i+j)/2].g.number=(nums ms)[(i+j)/2]'(by rw[yL];exact hm):=by simp[ML.g,nums]
    have E3:Below w.heap.size w (wr.alloc (.cells (xd ms[(i+j)/2].g) 204)):=hb.alloc hb.size _;have fX:=h_ E3;clear hb E3;rw[gE]at bH;clear gE;generalize ms[(i+j)/2].g=l at bH o1 d1 fX;have HX:=h_ bH;clear bH;by_cases hc:(nums ms)[(i+j)/2]'(by rw[yL];exact hm)<n
    ·have Dm:Hid (qu (nums ms) n ((i+j)/2+1) j):=h_ (xVr HS.out HB.out (by rw[yL];exact hm) (by omega) (by omega) hc);have Aa:cmpZ ((nums ms)[(i+j)/2]'(by rw[yL];exact hm)) n=-1:=by unfold cmpZ;rw[if_pos hc]
     rw[Aa]at HX;clear Aa hc;go_wp2_with fail;refine HX.mono ?_;rintro r w' ⟨rfl,rfl⟩;go_wp2;go_roundw
     case rel=>exact⟨(i+j)/2+1,j,by have:(((i+j)/2+1:Nat):Int)=((i:Int)+j)/2+1:=(by omega);rw[this],rfl,Dm,fX.out⟩
     case measure=>simp[intOf];omega
    ·have Dm:Hid (qu (nums ms) n i ((i+j)/2)):=h_ (xQ9 HS.out HB.out (by rw[yL];exact hm) (by omega) (by omega) hc);obtain⟨z,hz,bd⟩:∃z,z=cmpZ ((nums ms)[(i+j)/2]'(by rw[yL];exact hm)) n/\0<=z:=⟨_,rfl,by unfold cmpZ;rw[if_neg hc];split <;> omega⟩;rw[<-hz]at HX;clear hz hc;go_wp2_with fail;refine HX.mono ?_;rintro r w' ⟨rfl,rfl⟩;have Z5:¬ z<0:=by omega
     go_wp2;go_roundw
     case rel=>exact⟨i,(i+j)/2,rfl,by have:(((i+j)/2:Nat):Int)=((i:Int)+j)/2:=(by omega);rw[this],Dm,fX.out⟩
     case measure=>simp[intOf];omega
   ·obtain rfl:j=i:=by omega
    have eJ:Hid (qe ms n=_):=h_ (xHt HS.out HB.out);by_cases hin:j<ms.length
    ·have SC:(j:Int)<(ms.length:Int):=by omega
     obtain⟨o1,d1⟩:=xCw (w:=wr) (g:=g) (off:=j*38) (l:=ms[j].g) (λk u hk=>(hb.cell (p:=⟨g,j*38+k,none⟩) eH).trans (HC.out _ hin k u hk));have bH:=xHp ms[j].g n wr;have gE:ms[j].g.number=(nums ms)[j]'(by rw[yL];exact hin):=by simp[ML.g,nums]
     have E3:Below w.heap.size w (wr.alloc (.cells (xd ms[j].g) 204)):=hb.alloc hb.size _;have fX:=h_ E3;have oo:qe ms n=(cmpZ ((nums ms)[j]'(by rw[yL];exact hin)) n==0):=by
      rw[eJ.out,dif_pos (by rw[yL];exact hin)]
     clear hb E3 eJ;rw[gE]at bH;clear gE;have HR:=h_ oo;clear oo;generalize ms[j].g=l at bH o1 d1 fX;generalize cmpZ ((nums ms)[j]'(by rw[yL];exact hin)) n=z at bH HR;have HX:=h_ bH;clear bH;go_wp2_with fail;refine HX.mono ?_;rintro r w' ⟨rfl,rfl⟩;go_wp2;go_ret2;exact⟨j,HB.out,by rw[HR.out];first|rfl|simp,fX.out⟩
    ·have SC:decide ((j:Int)<(ms.length:Int))=false:=by simp;omega
     have HR:Hid (qe ms n=false):=h_ (by rw[eJ.out,dif_neg (by rw[yL];exact hin)]);clear eJ;go_wp2;go_ret2;exact⟨j,HB.out,by rw[HR.out];first|rfl|simp,hb⟩
theorem xIu (B v ms n w)(h:zq B w v ms)(hn:ms.length<=65536)(hs:(nums ms).Pairwise (· < ·)):
  Calls prog 246 #[v,.int .i64 n] w λr w'=>∃i:Nat,qu (nums ms) n i i/\r=.returned (.tuple #[.int .i64 i,.bool (qe ms n)])/\Below w.heap.size w w':=by
 have HX:=h_ (xTh B v ms n w h hn hs);clear h hs;go_enter func246,ntmps246;go_wp2_with fail;refine HX.mono ?_;rintro r w' ⟨i,hi,rfl,hb⟩;have HI:=h_ hi;clear hi HX;go_wp2;go_ret2;exact⟨i,HI.out,rfl,hb⟩
end
structure KE (K:Type) where
 k:K
 v:Value
 b:Nat
def enE {K:Type}(ek:K->Value)(e:KE K):MapEntry:={ key:=ek e.k,val:=e.v,born:=e.b }
def yN {K:Type}[DecidableEq K](k:K):List (KE K)->Nat->Option (Nat×Value)
 |[],_=>none
 |e :: es,i=>if k=e.k then some (i,e.v)else yN k es (i+1)
def y4 {K:Type}(ek:K->Value)(w:World)(M:Nat)(l:List (KE K))(c:Nat):Prop:=w.heap[M]?=some (.map (l.map (enE ek)).toArray c)
theorem y4.lt {K:Type}{ek:K->Value}{w:World}{M:Nat}{l:List (KE K)}{c:Nat}(h:y4 ek w M l c):M<w.heap.size:=(i_ h).1
structure xHw {K:Type}[DecidableEq K](kt:TypeId)(ek:K->Value):Prop where
 check:∀(e:Bool) (k:K) (w:World),(Instr.checkKey e 10000 kt (ek k)).run prog w=.ok () w
 find:∀(k:K) (l:List (KE K)) (w:World),(Instr.findKey kt (ek k) (l.map (enE ek))).run prog w=.ok (yN k l 0) w
 bits:∀k:K,Instr.sameBits 10000 (ek k) (ek k)=true
abbrev ekS (s:ByteArray):Value:=.string s
abbrev ekI (x:Id32):Value:=.agg (xl x).toArray
theorem xHg (k:ByteArray):∀(l:List (KE ByteArray)) (i:Nat),Instr.findNow .string (.string k) (l.map (enE ekS)) i=some (yN k l i)
 |[],i=>rfl
 |e :: l,i=>by
  rw[au_];unfold Instr.findNow yN;simp only[enE,Instr.sameNow];by_cases h:k=e.k
  ·rw[(dT_ k e.k).2 h,if_pos h]
  ·have hf:(k==e.k)=false:=by
    cases hx:(k==e.k) with
    |false=>rfl
    |true=>exact absurd ((dT_ k e.k).1 hx) h
   rw[hf,if_neg h];exact xHg k l (i+1)
theorem keyS:xHw 9 ekS where
 check e k w:=MapKept.run_checkKey (k:=.string k) underlying9 (by simp[MapKept.IsKey]) e 9999
 find k l w:=by
  unfold Instr.findKey;rw[aE_,run_underlying underlying9];simp only[aw_,xHg];rfl
 bits k:=by
  unfold Instr.sameBits;exact(dT_ k k).2 rfl
theorem eq_id (x y:Id32)(w:World):(Op.equal 33 (ekI x) (ekI y)).run prog w=.ok (decide (x=y)) w:=xI8 x y w
theorem xDm (k:Id32)(w:World):∀(l:List (KE Id32)) (i:Nat),(Instr.findAsking 33 (ekI k) (l.map (enE ekI)) i).run prog w=.ok (yN k l i) w
 |[],i=>rfl
 |e :: l,i=>by
  rw[au_];unfold Instr.findAsking yN;rw[aE_];have:(enE ekI e).key=ekI e.k:=rfl;rw[this,eq_id];simp only[aw_];by_cases h:k=e.k
  ·rw[decide_eq_true h,if_pos h];rfl
  ·rw[decide_eq_false h,if_neg h];exact xDm k w l (i+1)
theorem xVo (e:Bool)(v:Value)(w:World):(Instr.checkKey e 9999 5 v).run prog w=.ok () w:=by
 unfold Instr.checkKey;rw[aE_,run_underlying underlying5];rfl
theorem xR5:∀(l:List UInt8),((l.map λb=>Value.int .u8 b.toNat).zip (l.map λb=>Value.int .u8 b.toNat)).all (λ(x,y)=>Instr.sameBits 9999 x y)=true
 |[]=>rfl
 |b :: l=>by
  simp only[au_,List.zip_cons_cons,cW_,xR5 l,Bool.and_true];unfold Instr.sameBits;simp
theorem keyI:xHw 33 ekI where
 check e k w:=by
  unfold Instr.checkKey;rw[aE_,run_underlying underlying33];simp only[aw_];simp only[cL_,Std.Legacy.Range.size,dI_,Nat.add_one_sub_one,Nat.div_one];have each:∀j∈List.range' 0 32,j<32:=λj hj=>by
   have:=dS_.1 hj;omega
  generalize List.range' 0 32=is at each⊢;induction is with
  |nil=>rfl
  |cons j is ih=>
   have hj:=each j (by simp);have hp:(part 5 (xl k).toArray j).run prog w=.ok (.int .u8 (k.1[j]'(by rw[k.2];exact hj)).toNat) w:=by
    unfold part;rw[aE_,isAgg5];simp only[aw_];rw[ah_,xNk k j hj];rfl
   have hs:=sizeOf5 w;simp only[List.forIn_cons,aE_,hs,bz_,hp,xVo,aw_,bY_];have:=ih (λy hy=>each y (by simp[hy]));simp only[aE_]at this;exact this
 find k l w:=by
  unfold Instr.findKey;rw[aE_,run_underlying underlying33];simp only[aw_];cases l with
  |nil=>rfl
  |cons e l=>
   have:Instr.findNow (.array 32 5) (ekI k) ((e :: l).map (enE ekI)) 0=none:=rfl;rw[this];exact xDm k w (e :: l) 0
 bits k:=by
  unfold Instr.sameBits;simp only[beq_self_eq_true,Bool.true_and];exact xR5 k.1
theorem xF2 {α β:Type}(f:α->β):∀(l:List α) (i:Nat),(l.map f).eraseIdx i=(l.eraseIdx i).map f
 |[],_=>rfl
 |_ :: _,0=>rfl
 |a :: l,i+1=>by simp only[au_,cB_,xF2 f l i]
section
variable {K:Type} [DecidableEq K] {ek:K->Value} {kt:TypeId} {mt et:TypeId}
omit [DecidableEq K] in
theorem ks {w:World}{M:Nat}{l:List (KE K)}{c:Nat}(h:y4 ek w M l c):(getObj M).run prog w=.ok (.map (l.map (enE ek)).toArray c) w:=MapKept.run_getObj_map h
theorem xF4 (hk:xHw kt ek)(hm:prog.underlying mt=some (.map kt et))(z:Value)(hz:∀w,(zeroValue et).run prog w=.ok z w)(w:World)(M:Nat)(l:List (KE K))(c:Nat)(h:y4 ek w M l c)(k:K):
  (Instr.lookup mt (.map (some M)) (ek k) false).run prog w=.ok (((yN k l 0).map (·.2)).getD z) w:=by
 unfold Instr.lookup;rw[aE_,run_underlying hm];simp only[aw_,aE_,ks h,hk.check,hk.find,bY_];cases yN k l 0 with
 |none=>simp only[aE_,hz,aw_,bY_];rfl
 |some x=>rfl
theorem xCv (hk:xHw kt ek)(hm:prog.underlying mt=some (.map kt et))(z:Value)(hz:∀w,(zeroValue et).run prog w=.ok z w)(w:World)(M:Nat)(l:List (KE K))(c:Nat)(h:y4 ek w M l c)(k:K):
  (Instr.lookup mt (.map (some M)) (ek k) true).run prog w=.ok (.tuple #[((yN k l 0).map (·.2)).getD z,.bool (yN k l 0).isSome]) w:=by
 unfold Instr.lookup;rw[aE_,run_underlying hm];simp only[aw_,aE_,ks h,hk.check,hk.find,bY_];cases yN k l 0 with
 |none=>simp only[aE_,hz,aw_,bY_];rfl
 |some x=>rfl
theorem xEt (hk:xHw kt ek)(hm:prog.underlying mt=some (.map kt et))(w:World)(M:Nat)(l:List (KE K))(c:Nat)(h:y4 ek w M l c)(k:K)(v:Value)(hn:yN k l 0=none):
  (Instr.mapUpdate mt (.map (some M)) (ek k) v).run prog w=.ok () (w.putObj M (.map ((l++[(⟨k,v,c⟩:KE K)]).map (enE ek)).toArray (c+1))):=by
 unfold Instr.mapUpdate;rw[aE_,run_underlying hm];simp only[aw_,aE_,ks h,hk.check,hk.find,hn];rw[dg_ _ h];simp[World.putObj,enE]
theorem xQ0 (hk:xHw kt ek)(hm:prog.underlying mt=some (.map kt et))(ty:TypeId)(w:World)(M:Nat)(l:List (KE K))(c:Nat)(h:y4 ek w M l c)(k:K)(i:Nat)(v:Value)(hf:yN k l 0=some (i,v))(hi:i<l.length):
  (Builtin.delete_ #[mt,kt] ty #[.map (some M),ek k]).run prog w=.ok (.tuple #[]) (w.putObj M (.map ((l.eraseIdx i).map (enE ek)).toArray c)):=by
 unfold Builtin.delete_;simp only[v_];rw[aE_,run_underlying hm];simp only[aw_,aE_,ks h,hk.check,hk.find,hf];rw[dg_ _ h];have he:(l.map (enE ek)).eraseIdx i=(l.eraseIdx i).map (enE ek):=xF2 (enE ek) l i;simp[World.putObj,Array.eraseIdxIfInBounds,hi,he]
end
theorem y4.put {K:Type}{ek:K->Value}{w:World}{M:Nat}{l l':List (KE K)}{c c':Nat}(h:y4 ek w M l c):y4 ek (w.putObj M (.map (l'.map (enE ek)).toArray c')) M l' c':=World.putObj_heap_same h.lt
section
attribute [local go_sem ↓] xL xI yy yr yB yJ
attribute [local go_sem] zm zA u1 zX zb xh xf xa x9 xu xv xk xj xq xx xt
structure MG where
 name:ByteArray
 born:Nat
 gb:Nat
 nb:Nat
 v:Value
 ms:List ML
 nl:List (KE Id32)
 nc:Nat
def pErr (p:xDs):Int:=xI7 (ML.g ⟨p,.slice none 0 0⟩) p.ids
structure uz (B:Nat)(w:World)(G:MG):Prop where
 blk:w.heap[G.gb]?=some (.cells #[G.v,.map (some G.nb)] 253 (0,0))
 lines:zq B w G.v G.ms
 nums:y4 ekI w G.nb G.nl G.nc
 agree:(G.nl.map λe=>(e.k,e.v)).Perm (G.ms.map λm=>(m.p.id,Value.int .i64 m.p.number))
 ids:(G.ms.map λm=>m.p.id).Nodup
 sorted:(Go.Proofs.YtegfbhdkenkkdaaGreatDoor.nums G.ms).Pairwise (· < ·)
 good:∀m∈G.ms,pErr m.p=0
 named:uw G.name=0
 some':G.ms≠[]
 gbB:B<=G.gb
 nbB:B<=G.nb
def MG.e (G:MG):KE ByteArray:=⟨G.name,.pointer (some ⟨G.gb,0,none⟩),G.born⟩
def MG.foot (G:MG):List Nat:=[G.gb,G.nb]++G.v.ownBlock.toList
def xR (gs:List MG):Nat:=(gs.map λG=>G.ms.length).sum
def foot (ib M:Nat)(gs:List MG):List Nat:=ib :: M :: gs.flatMap MG.foot
structure ye (B:Nat)(w:World)(ib M:Nat)(gs:List MG)(mc:Nat):Prop where
 blk:w.heap[ib]?=some (.cells #[.map (some M),.int .i64 (xR gs)] 163 (0,0))
 map:y4 ekS w M (gs.map MG.e) mc
 names:(gs.map λG=>G.name).Nodup
 grps:∀G∈gs,uz B w G
 apart:(foot ib M gs).Nodup
 born:(gs.map λG=>G.born).Nodup
 young:∀G∈gs,G.born<mc
 few:xR gs<=65536
 ibB:B<=ib
 MB:B<=M
def ym (gs:List MG)(s:ByteArray):Option MG:=gs.find? λG=>decide (G.name=s)
def vD (gs:List MG)(s:ByteArray):Value:=match ym gs s with|some G=>G.v|none=>.slice none 0 0
def xA (gs:List MG)(s:ByteArray):List ML:=match ym gs s with|some G=>G.ms|none=>[]
theorem yM {gs s G}(h:ym gs s=some G):G∈gs/\G.name=s:=by
 unfold ym at h;exact⟨ct_ h,by simpa using eg_ h⟩
theorem xCf (s):∀(gs:List MG) (i:Nat),(yN s (gs.map MG.e) i).map (·.2)=(ym gs s).map λG=>Value.pointer (some ⟨G.gb,0,none⟩)
 |[],i=>rfl
 |G :: gs,i=>by
  unfold ym;rw[au_];unfold yN;by_cases h:s=G.name
  ·have:decide (G.name=s)=true:=by simp[h]
   rw[bu_,this];simp[MG.e,h]
  ·have:decide (G.name=s)=false:=by simp[ds_ h]
   rw[bu_,this];have hne:¬ s=G.e.k:=h;simp only[hne,if_false];exact xCf s gs (i+1)
theorem xZ2 (w):(zeroValue 250).run prog w=.ok (.pointer none) w:=by kernel_rfl
theorem xQj (w):(zeroValue 3).run prog w=.ok (.int .i64 0) w:=by kernel_rfl
theorem ye.look {B w ib M mc gs}(h:ye B w ib M gs mc)(s):
  (Instr.lookup 161 (.map (some M)) (.string s) false).run prog w=.ok (((ym gs s).map λG=>Value.pointer (some ⟨G.gb,0,none⟩)).getD (.pointer none)) w:=by
 have:=xF4 keyS underlying161 (.pointer none) xZ2 w M _ mc h.map s;rw[xCf]at this;exact this
theorem ye.cell0 {B w ib M mc gs}(h:ye B w ib M gs mc):w.cell? ⟨ib,0,none⟩=some (.map (some M)):=cell_of_row w ib 0 _ _ _ h.blk
theorem ye.cell1 {B w ib M mc gs}(h:ye B w ib M gs mc):w.cell? ⟨ib,1,none⟩=some (.int .i64 (xR gs)):=cell_of_row w ib 1 _ _ _ h.blk
theorem ye.lines {B w ib M mc gs}(h:ye B w ib M gs mc)(s):zq B w (vD gs s) (xA gs s):=by
 unfold vD xA;cases hg:ym gs s with
 |none=>exact⟨aP_ _ _ _ _,λm hm=>by cases hm⟩
 |some G=>exact(h.grps G (yM hg).1).lines
theorem vj:∀{gs:List MG} {G:MG},G∈gs->G.ms.length<=xR gs
 |H :: gs,G,hG=>by
  unfold xR;rw[au_,cb_];rcases ae_.1 hG with rfl|hG
  ·omega
  ·have:=vj hG;unfold xR at this;omega
theorem ye.len {B w ib M mc gs}(h:ye B w ib M gs mc)(s):(xA gs s).length<=65536:=by
 unfold xA;cases hg:ym gs s with
 |none=>simp
 |some G=>exact ad_ (vj (yM hg).1) h.few
theorem ye.sorted {B w ib M mc gs}(h:ye B w ib M gs mc)(s):(nums (xA gs s)).Pairwise (· < ·):=by
 unfold xA;cases hg:ym gs s with
 |none=>exact .nil
 |some G=>exact(h.grps G (yM hg).1).sorted
theorem js (B ib M mc gs s w)(h:ye B w ib M gs mc):
  Calls prog 89 #[.pointer (some ⟨ib,0,none⟩),.string s] w λr w'=>r=.returned (vD gs s)/\w=w':=by
 have hc:=h.cell0;have hl:=h.look s;unfold vD;cases hg:ym gs s with
 |none=>
  rw[hg]at hl;clear h hg;go_enter func89,ntmps89;go_wp2;go_ret;exact⟨rfl,rfl⟩
 |some G=>
  rw[hg]at hl;have wB:w.cell? ⟨G.gb,0,none⟩=some G.v:=cell_of_row w G.gb 0 _ _ _ (h.grps G (yM hg).1).blk;have hv:∃a n c,G.v=.slice a n c:=by
   rcases (h.grps G (yM hg).1).lines.head with⟨e,_⟩|⟨g,cap,e,_⟩
   ·exact⟨_,_,_,e⟩
   ·exact⟨_,_,_,e⟩
  obtain⟨a,n,c,hv⟩:=hv;simp only;rw[hv]at wB⊢;clear h hg hv;go_enter func89,ntmps89;go_wp2;go_ret;exact⟨rfl,rfl⟩
theorem jc {B w ib M mc gs}(h:ye B w ib M gs mc)(s):∃a c,vD gs s=.slice a (xA gs s).length c:=by
 rcases (h.lines s).head with⟨e,e2⟩|⟨g,cap,e,_⟩
 ·exact⟨none,0,by rw[e,e2];rfl⟩
 ·exact⟨_,_,e⟩
theorem zq.keep {B:Nat}{w w':World}{v:Value}{ms:List ML}(h:zq B w v ms)(hv:∀k,v.ownBlock=some k->w'.heap[k]?=w.heap[k]?)(hr:∀m∈ms,∀k,m.v.ownBlock=some k->w'.heap[k]?=w.heap[k]?):zq B w' v ms where
 row:=by
  refine⟨h.row.1,?_⟩;rcases h.row.2 with h0|⟨g,cap,cur,e,hg,aq,hx⟩
  ·exact .inl h0
  ·exact .inr ⟨g,cap,cur,e,hg,(hv g (by rw[e];rfl)).trans aq,hx⟩
 refs m hm:=(h.refs m hm).block (hr m hm)
theorem zq.below {B w w' v ms}(h:zq B w v ms)(hb:Below w.heap.size w w'):zq B w' v ms:=
 h.keep (λk hk=>hb.block k (aL_ h.row k hk).2) (λm hm k hk=>hb.block k ((h.refs m hm).lt hk).2)
theorem uz.keep {B:Nat}{w w':World}{G:MG}(h:uz B w G)(hf:∀k∈G.foot,w'.heap[k]?=w.heap[k]?)(hr:∀m∈G.ms,∀k,m.v.ownBlock=some k->w'.heap[k]?=w.heap[k]?):uz B w' G where
 blk:=(hf G.gb (by simp[MG.foot])).trans h.blk
 lines:=h.lines.keep (λk hk=>hf k (by simp[MG.foot,hk])) hr
 nums:=(hf G.nb (by simp[MG.foot])).trans h.nums
 agree:=h.agree
 ids:=h.ids
 sorted:=h.sorted
 good:=h.good
 named:=h.named
 some':=h.some'
 gbB:=h.gbB
 nbB:=h.nbB
theorem ye.keep {B:Nat}{w w':World}{ib M mc:Nat}{gs:List MG}(h:ye B w ib M gs mc)(hf:∀k∈foot ib M gs,w'.heap[k]?=w.heap[k]?)(hr:∀G∈gs,∀m∈G.ms,∀k,m.v.ownBlock=some k->w'.heap[k]?=w.heap[k]?):ye B w' ib M gs mc where
 blk:=(hf ib (by simp[foot])).trans h.blk
 map:=(hf M (by simp[foot])).trans h.map
 names:=h.names
 grps G hG:=(h.grps G hG).keep (λk hk=>hf k (by unfold foot;simp only[ae_,bg_];exact .inr (.inr ⟨G,hG,hk⟩))) (hr G hG)
 apart:=h.apart
 born:=h.born
 young:=h.young
 few:=h.few
 ibB:=h.ibB
 MB:=h.MB
theorem uz.foot_lt {B w G}(h:uz B w G):∀k∈G.foot,B<=k/\k<w.heap.size:=by
 intro k hk;unfold MG.foot at hk;simp only[aj_,ae_,bq_,or_false,aT_]at hk;rcases hk with (rfl|rfl)|hk
 ·exact⟨h.gbB,(i_ h.blk).1⟩
 ·exact⟨h.nbB,h.nums.lt⟩
 ·exact aL_ h.lines.row k hk
theorem ye.foot_lt {B w ib M mc gs}(h:ye B w ib M gs mc):∀k∈foot ib M gs,B<=k/\k<w.heap.size:=by
 intro k hk;unfold foot at hk;simp only[ae_,bg_]at hk;rcases hk with rfl|rfl|⟨G,hG,hk⟩
 ·exact⟨h.ibB,(i_ h.blk).1⟩
 ·exact⟨h.MB,h.map.lt⟩
 ·exact(h.grps G hG).foot_lt k hk
theorem ye.below {B w w' ib M mc gs}(h:ye B w ib M gs mc)(hb:Below w.heap.size w w'):ye B w' ib M gs mc:=
 h.keep (λk hk=>hb.block k (h.foot_lt k hk).2) (λG hG m hm k hk=>hb.block k (((h.grps G hG).lines.refs m hm).lt hk).2)
theorem xVs {ns:List Int}{n i j}(hs:ns.Pairwise (· < ·))(h:qu ns n j j)(hi:ns[i]?=some n):j=i:=by
 obtain⟨_,h2,h3,h4⟩:=h;obtain⟨hlt,bU⟩:=ax_.1 hi;rcases Nat.lt_trichotomy j i with L8|L8|L8
 ·have h5:=h4 j (by omega) (aa_ _);have h6:=bH_.1 hs j i (by omega) hlt L8;omega
 ·exact L8
 ·have:=h3 i hlt L8;omega
theorem xRo {ms}{i:Nat}{m}(h:ms[i]?=some m):(nums ms)[i]?=some m.p.number:=by
 unfold nums;rw[bk_,h];rfl
theorem xY9 {ms}{i:Nat}{m n}(h:ms[i]?=some m)(hn:m.p.number=n):qe ms n=true:=by
 unfold qe;rw[ba_];exact ck_ (hn▸xRo h)
theorem xEp {p}(h:pErr p=0):p.ids.length<=20:=by
 have:=(xP3 h);obtain⟨f1,f2,f3,f4,f5,f6⟩:=this;exact f5
theorem get_yes (B ib M mc gs s n)(i:Nat)(m w)(h:ye B w ib M gs mc)(hi:(xA gs s)[i]?=some m)(hn:m.p.number=n)(hg:pErr m.p=0):
  Calls prog 281 #[.pointer (some ⟨ib,0,none⟩),.string s,.int .i64 n] w λr w'=>∃v,r=.returned (.tuple #[.agg (xd { m.g with refs:=v }),.bool true])/\zj w.heap.size w' v m.p.ids/\Below w.heap.size w w':=by
 have bf:Below w.heap.size w (w.alloc (.cells (xd xJ) 204)):=(ab_ _ _).alloc (aa_ _) _;have dJ:=h.below bf;have gz:=xEp hg;have HL:=h_ (js B ib M mc gs s _ dJ);have wC:=dJ.sorted s;have HS:=h_ (xIu B (vD gs s) (xA gs s) n _ (dJ.lines s) (dJ.len s) wC);rw[xY9 hi hn]at HS;have pA:=h_ (λj (hj:qu (nums (xA gs s)) n j j)=>xVs wC hj (hn▸xRo hi));have HZ:Hid (xZ (w.alloc (.cells (xd xJ) 204)) w.heap.size xJ):=h_ (heap_alloc_new _ _);have HB:=h_ bf;have cX:=dJ.len s;obtain⟨Qw,bU⟩:=ax_.1 hi;rcases (dJ.lines s).head with⟨_,e⟩|⟨g,cap,hv,J3,eH,hle,dC,aE⟩
 ·rw[e]at Qw;cases Qw
 have pX:=aE i Qw;rw[bU]at pX;have HC:=h_ pX;have HI:=h_ ((dJ.lines s).refs m (ck_ hi));rw[hv]at HL HS;have SD:(i:Int)<((xA gs s).length:Int):=by omega
 clear bf dJ h aE pX hi bU wC hv;generalize (xA gs s).length=len at HL HS SD cX hle Qw;have bJ:xy 38 (xd xJ)=true:=qy rfl;have pH:((xd xJ).size==38)=true:=by rw[xP];rfl
 go_enter func281,ntmps281;go_wp2_with fail;refine HL.mono ?_;rintro r w' ⟨rfl,rfl⟩;go_wp2_with fail;refine HS.mono ?_;rintro r w1 ⟨j,hj,rfl,aa⟩;obtain rfl:=pA.out j hj;have pW:xZ w1 w.heap.size xJ:=HZ.below aa HZ.lt;obtain⟨o1,d1⟩:=xCw (w:=w1) (g:=g) (off:=j*38) (l:=m.g) (λk u hk=>(aa.cell (p:=⟨g,j*38+k,none⟩) eH).trans (HC.out k u hk));have HX:=h_ (xD5 B m.g m.p.ids w1 (HI.below aa) (by omega));have wD:=h_ pW;have ar:=h_ (HB.trans (aa.mono HB.size));have aK:w.heap.size<w1.heap.size:=pW.lt;clear pW aa HZ HB HS HL pA hj HC HI;go_wp2_with fail;refine HX.mono ?_;rintro r w2 ⟨v,rfl,tE,aj⟩;have bP:=tE.one;have AD:xZ w2 w.heap.size xJ:=wD.below aj aK;have bu:=AD.row;have ma:=qy (g:={ m.g with refs:=v }) bP;have mG:=h_ tE;have AE:=h_ AD;have au:=h_ (ar.trans (aj.mono ar.size));clear AD tE aj HX wD ar;go_wp2;refine bodyPost_ret (v:=.tuple #[.agg (xd { m.g with refs:=v }),.bool true]) ?_ rfl ⟨v,rfl,?_,vz au.out (uj _ _ _) au.size (aa_ _)⟩
 ·exact jM rfl isAgg204 sizeOf204 _ _ ⟨w.heap.size,0,none⟩ _ _ rfl rfl (AE.blk.setRow.rd.1) (AE.blk.setRow.rd.2)
 ·refine(mG.mono (by omega)).block λk hk=>(uj _ w.heap.size _).block k (mG.lt hk).2 ?_
  intro e;have:=(mG.lt hk).1;cases e;omega
theorem xE5 {K:Type}[DecidableEq K]{k}:∀{l:List (KE K)} {i:Nat},(∀e∈l,e.k≠k)->yN k l i=none
 |[],_,_=>rfl
 |e :: l,i,h=>by
  unfold yN;rw[if_neg (λe'=>h e (by simp) e'.symm)];exact xE5 (λe he=>h e (by simp[he]))
theorem xKc {K:Type}[DecidableEq K]{e}:∀{l:List (KE K)} {i:Nat},e∈l->(l.map λe=>e.k).Nodup->∃j,yN e.k l i=some (i+j,e.v)/\l[j]?=some e
 |d :: l,i,he,hn=>by
  unfold yN;by_cases h:e.k=d.k
  ·have Z6:e=d:=by
    rcases ae_.1 he with h1|h1
    ·exact h1
    ·exfalso;rw[au_,bh_]at hn;exact hn.1 (by rw[<-h];exact az_.2 ⟨e,h1,rfl⟩)
   subst Z6;exact⟨0,by rw[if_pos rfl];rfl,rfl⟩
  ·rw[if_neg h];have wi:e∈l:=by
    rcases ae_.1 he with h1|h1
    ·exact absurd (by rw[h1]) h
    ·exact h1
   rw[au_,bh_]at hn;obtain⟨j,h1,h2⟩:=xKc (i:=i+1) wi hn.2;exact⟨j+1,by rw[h1];congr 2;omega,h2⟩
theorem uz.keys {B w G}(h:uz B w G):(G.nl.map λe=>e.k).Nodup:=by
 have h1:=h.agree.map Prod.fst;rw[bt_,bt_]at h1;exact h1.nodup_iff.2 h.ids
theorem uz.find_no {B w G}(h:uz B w G){x}(bp:∀m∈G.ms,m.p.id≠x):yN x G.nl 0=none:=xE5 λe he hx=>by
 have:(e.k,e.v)∈G.ms.map λm=>(m.p.id,Value.int .i64 m.p.number):=h.agree.subset (az_.2 ⟨e,he,rfl⟩)
 obtain⟨m,hm,e2⟩:=az_.1 this;exact bp m hm ((Prod.mk.inj e2).1.trans hx)
theorem uz.find_yes {B w G}(h:uz B w G){m}(hm:m∈G.ms):∃j,yN m.p.id G.nl 0=some (j,.int .i64 m.p.number)/\∃b,G.nl[j]?=some ⟨m.p.id,.int .i64 m.p.number,b⟩:=by
 have:(m.p.id,Value.int .i64 m.p.number)∈G.nl.map λe=>(e.k,e.v):=h.agree.symm.subset (az_.2 ⟨m,hm,rfl⟩)
 obtain⟨e,he,e2⟩:=az_.1 this;obtain⟨e3,e4⟩:=Prod.mk.inj e2;obtain⟨j,h1,h2⟩:=xKc (i:=0) he h.keys;refine⟨j,?_,e.b,?_⟩
 ·rw[<-e3,h1,e4,aq_]
 ·rw[h2,<-e3,<-e4]
theorem kl {gs s}(h:xA gs s≠[]):∃G,ym gs s=some G/\xA gs s=G.ms/\vD gs s=G.v:=by
 unfold xA vD at *;cases hg:ym gs s with
 |none=>rw[hg]at h;exact absurd rfl h
 |some G=>exact⟨G,rfl,rfl,rfl⟩
theorem xVb (B ib M mc gs s x w)(h:ye B w ib M gs mc)(bp:xA gs s=[]):
  Calls prog 247 #[.pointer (some ⟨ib,0,none⟩),.string s,.agg (xl x).toArray] w λr w'=>r=.returned (.tuple #[.agg (xd xJ),.bool false])/\Below w.heap.size w w':=by
 have bf:Below w.heap.size w ((w.alloc (.cells (xl x).toArray 33)).alloc (.cells (xd xJ) 204)):=((ab_ _ _).alloc (aa_ _) _).alloc (by simp) _;have dJ:=h.below bf;have HL:=h_ (js B ib M mc gs s _ dJ);obtain⟨a,c,hv⟩:=jc dJ s;rw[hv,bp]at HL;have HB:=h_ bf;have bJ:xy 38 (xd xJ)=true:=qy rfl;have pH:((xd xJ).size==38)=true:=by rw[xP];rfl
 clear bf dJ h bp hv;go_enter func247,ntmps247;go_wp2_with fail;refine HL.mono ?_;rintro r w' ⟨rfl,rfl⟩;go_wp2;refine bodyPost_ret (v:=.tuple #[.agg (xd xJ),.bool false]) ?_ rfl ⟨rfl,HB.out⟩;exact jM rfl isAgg204 sizeOf204 _ _ ⟨w.heap.size+1,0,none⟩ _ _ rfl rfl (by simpa using xC7 (w.alloc (.cells (xl x).toArray 33)) xJ _) (by simpa using xBy (w.alloc (.cells (xl x).toArray 33)) xJ 204)
def xTx (ms:List ML)(x:Id32)(w:World)(r:Ending)(w':World):Prop:=
 (((∀m∈ms,m.p.id≠x)/\r=.returned (.tuple #[.agg (xd xJ),.bool false]))\/(∃m∈ms,m.p.id=x/\∃v,r=.returned (.tuple #[.agg (xd { m.g with refs:=v }),.bool true])/\zj w.heap.size w' v m.p.ids))/\Below w.heap.size w w'
theorem yBg (B ib M mc gs s x w)(h:ye B w ib M gs mc)(hne:xA gs s≠[]):
  Calls prog 247 #[.pointer (some ⟨ib,0,none⟩),.string s,.agg (xl x).toArray] w λr w'=>
   xTx (xA gs s) x w r w':=by
 obtain⟨G,hG,ig,Dn⟩:=kl hne;obtain⟨W,hW⟩:∃W,W=(w.alloc (.cells (xl x).toArray 33)).alloc (.cells (xd xJ) 204):=⟨_,rfl⟩;have bf:Below w.heap.size w W:=by rw[hW];exact((ab_ _ _).alloc (aa_ _) _).alloc (by simp) _
 have lh:W.heap.size=w.heap.size+2:=by rw[hW];simp
 have dJ:=h.below bf;have cV:=dJ.grps G (yM hG).1;have HL:=h_ (js B ib M mc gs s _ dJ);obtain⟨a,c,hv⟩:=jc dJ s;rw[hv]at HL;have ao:=dJ.len s;have gG:0<(xA gs s).length:=cy_.2 hne;have pC:(((xA gs s).length:Int)==0)=false:=by rw[beq_eq_false_iff_ne];omega
 have hid:xo W ⟨w.heap.size,0,none⟩ 32=true/\xm W ⟨w.heap.size,0,none⟩ 32=(xl x).toArray:=by
  rw[hW];have h1:=j7 w x 33;have h2:=k9 w x 33;exact⟨xC8 _ h1,(xBz _ h1).trans h2⟩
 have hZ:xZ W (w.heap.size+1) xJ:=by
  unfold xZ;have:=heap_alloc_new (w.alloc (.cells (xl x).toArray 33)) (.cells (xd xJ) 204);rw[hW];simpa using this
 have q1:∀n,(W.drewN n).cell? ⟨ib,0,none⟩=some (.map (some M)):=λn=>by rw[bT_];exact dJ.cell0
 have q2:∀n,(Instr.lookup 161 (.map (some M)) (.string s) false).run prog (W.drewN n)=.ok (.pointer (some ⟨G.gb,0,none⟩)) (W.drewN n):=λn=>by
  have:=(h.below (below_drewN' bf n)).look s;rw[hG]at this;exact this
 have q3:∀n,(W.drewN n).cell? ⟨G.gb,1,none⟩=some (.map (some G.nb)):=λn=>by rw[bT_];exact cell_of_row W G.gb 1 _ _ _ cV.blk
 have q4:∀n,(Instr.lookup 251 (.map (some G.nb)) (.agg (xl x).toArray) true).run prog (W.drewN n)=.ok (.tuple #[((yN x G.nl 0).map (·.2)).getD (.int .i64 0),.bool (yN x G.nl 0).isSome]) (W.drewN n):=λn=>
  xCv keyI underlying251 (.int .i64 0) xQj (W.drewN n) G.nb G.nl G.nc cV.nums x
 have q5:∀n,xo (W.drewN n) ⟨w.heap.size,0,none⟩ 32=true:=λn=>by rw[xa];exact hid.1
 have q6:∀n,xm (W.drewN n) ⟨w.heap.size,0,none⟩ 32=(xl x).toArray:=λn=>by rw[x9];exact hid.2
 have bJ:xy 38 (xd xJ)=true:=qy rfl;have pH:((xd xJ).size==38)=true:=by rw[xP];rfl
 have HX:=h_ dJ;have HB:=h_ bf;have HZ:=h_ hZ;by_cases hin:∃m∈G.ms,m.p.id=x
 ·obtain⟨m,hm,rfl⟩:=hin;obtain⟨j,hj,_⟩:=cV.find_yes hm;rw[hj]at q4;obtain⟨i,hi,EP⟩:=bF_.1 (ig▸hm);have Eu:(xA gs s)[i]?=some m:=by rw[ak_ hi,EP]
  have L9:=cV.good m hm;have aX:m∈xA gs s:=ig▸hm;have SE:=h_ aX;have HI:=h_ Eu;clear hj dJ bf hZ hid cV h ig Dn hv hi EP Eu hG hm aX hne;generalize (xA gs s).length=len at HL ao gG pC
  go_enter func247,ntmps247;go_wp2_with fail;rw[<-hW];refine HL.mono ?_;rintro r w' ⟨rfl,rfl⟩;clear hW;go_wp2_with fail;go_quiet (fail);clear q1 q2 q3 q4 q5 q6;have pW:xZ (W.drewN nq) (w.heap.size+1) xJ:=HZ.out;have eO:Below w.heap.size w (W.drewN nq):=below_drewN' HB.out nq;have aK:(W.drewN nq).heap.size=w.heap.size+2:=lh;have dm:ye B (W.drewN nq) ib M gs mc:=HX.below (below_drewN' (ab_ _ _) nq);generalize W.drewN nq=W1 at pW eO dm aK⊢;have HG:=h_ (get_yes B ib M mc gs s m.p.number i m W1 dm HI.out rfl L9);have wD:=h_ pW;have ar:=h_ eO;clear pW eO dm HZ HB HX HI;go_wp2_with fail;refine HG.mono ?_;rintro r W2 ⟨v,rfl,tE,aj⟩;have bP:=tE.one;have AD:xZ W2 (w.heap.size+1) xJ:=wD.below aj (by omega);have bu:=AD.row;have ma:=qy (g:={ m.g with refs:=v }) bP;have mG:=h_ tE;have AE:=h_ AD;have au:=h_ (ar.trans (aj.mono ar.size));clear AD tE aj HG wD ar;go_wp2;refine bodyPost_ret (v:=.tuple #[.agg (xd { m.g with refs:=v }),.bool true]) ?_ rfl ⟨.inr ⟨m,SE.out,rfl,v,rfl,?_⟩,vz au.out (uj _ _ _) au.size (by omega)⟩
  ·exact jM rfl isAgg204 sizeOf204 _ _ ⟨w.heap.size+1,0,none⟩ _ _ rfl rfl (AE.blk.setRow.rd.1) (AE.blk.setRow.rd.2)
  ·refine(mG.mono (by omega)).block λk hk=>(uj _ (w.heap.size+1) _).block k (mG.lt hk).2 ?_
   intro e;have:=(mG.lt hk).1;cases e;omega
 ·have bp:∀m∈G.ms,m.p.id≠x:=λm hm e=>hin ⟨m,hm,e⟩
  rw[cV.find_no bp]at q4;have sG:=h_ (ig.symm▸bp);clear hin bp dJ bf hZ hid cV h ig Dn hv hG hne;generalize (xA gs s).length=len at HL ao gG pC;go_enter func247,ntmps247;go_wp2_with fail;rw[<-hW];refine HL.mono ?_;rintro r w' ⟨rfl,rfl⟩;clear hW;go_wp2_with fail;go_quiet (fail);clear q1 q2 q3 q4 q5 q6;have pW:xZ (W.drewN nq) (w.heap.size+1) xJ:=HZ.out;have eO:Below w.heap.size w (W.drewN nq):=below_drewN' HB.out nq;generalize W.drewN nq=W1 at pW eO⊢;have bu:=pW.row;have wD:=h_ pW;have ar:=h_ eO;clear pW eO HZ HB HX;go_wp2;refine bodyPost_ret (v:=.tuple #[.agg (xd xJ),.bool false]) ?_ rfl ⟨.inl ⟨sG.out,rfl⟩,vz ar.out (uj _ _ _) ar.size (by omega)⟩;exact jM rfl isAgg204 sizeOf204 _ _ ⟨w.heap.size+1,0,none⟩ _ _ rfl rfl (wD.blk.setRow.rd.1) (wD.blk.setRow.rd.2)
end
theorem jd (w)(ty:TypeId)(g o dLen dCap a sLen sCap cur)(t:TypeId)(cs)
  (hg:w.heap[g]?=some (.cells cur t (0,0))) (hn:cs.length=Nat.min sLen dLen*38)
  (Do:∀j v,cs[j]?=some v->w.cell? (a.add j)=some v) (bM:o+cs.length<=cur.size) (h1:∀v∈cs,v.oneCell'=true):
  (Builtin.copy_ #[201,201] ty #[.slice (some ⟨g,o,none⟩) dLen dCap,.slice (some a) sLen sCap]).run prog w =
   .ok (goInt (Nat.min sLen dLen)) (w.setRow g (cur.toList.take o++cs++cur.toList.drop (o+cs.length)).toArray):=by
 have hl:=run_loadCells_list (P:=prog) w a cs Do;have ax:=run_storeCells_at prog g o t cs 0 cur w hg (by simpa using bM) h1;have hz:=sizeOf204 w;rw[hn]at hl;simp[Builtin.copy_,run_underlying underlying201,Builtin.lenOf,Builtin.firstCells,hz,hl,ax]
theorem xQz {w:World}{g t cur fr}(h:w.heap[g]?=some (.cells cur t fr)):w.shape? g=some (t,cur.size):=by
 unfold World.shape?;rw[h]
theorem xXr (cur:List Value)(i n cap xs vs)(hc:cur.length=cap*38)(hx:cur.take (n*38)=xs)(hi:i<n)(hroom:n+1<=cap):
  (((cur.take ((i+1)*38)++xs.drop (i*38)++cur.drop ((n+1)*38)).take (i*38))++vs++(cur.take ((i+1)*38)++xs.drop (i*38)++cur.drop ((n+1)*38)).drop ((i+1)*38))=xs.take (i*38)++vs++xs.drop (i*38)++cur.drop ((n+1)*38):=by
 have h1:(cur.take ((i+1)*38)).length=(i+1)*38:=by rw[ai_];omega
 rw[aH_ (cur.take ((i+1)*38)),bo_ (by rw[h1];omega),List.take_take,cd_ (by omega),dx_ (by rw[h1];omega),aO_ (by rw[h1];omega),aM_];have h2:xs.take (i*38)=cur.take (i*38):=by rw[<-hx,List.take_take,cd_ (by omega)]
 rw[h2];simp[aH_]
theorem xPc (B g cap n i sb xs l w)(bP:jN l)(tF:∀u∈xs,u.oneCell'=true)(ae:w.ownsRow B 204 38 (.slice (some ⟨g,0,none⟩) n cap) n xs)(hn:n<=65536)(hi:i<n)(hroom:n+1<=cap)
  (cZ:w.heap[sb]?=some (.cells (xd l) 204 (0,0))) (hne:sb≠g):
  Calls prog 248 #[.slice (some ⟨g,0,none⟩) n cap,.int .i64 i,.slice (some ⟨sb,0,none⟩) 1 1] w λr w'=>∃v',r=.returned v'/\w'.ownsRow B 204 38 v' (n+1) (xs.take (i*38)++xH l++xs.drop (i*38))/\w.grownBy w' (some g)/\(v'.ownBlock=some g\/v'.ownBlock=some w.heap.size):=by
 rcases ae.2 with⟨e,_⟩|⟨g',cap',cur,e,J3,aq,hle,dC,aJ,eG⟩
 ·cases e
 cases e
 have hxl:=ae.1;unfold maxLen at dC;have lw:=yC l;have WC:∀lb cb,(callFunc 282 #[.slice (some ⟨sb,0,none⟩) 1 1,.slice (some ⟨g,(i+1)*38,none⟩) lb cb]).run prog w=.ok (.value (.bool false)) w:=λlb cb=>by
  rw[run_callFunc_extern func282 (by kernel_rfl) (by kernel_rfl) (by kernel_rfl) (e:=Extern.SlicesOverlaps.overlaps #[201,201] #[4]) (by kernel_rfl),
   Lib.run_overlaps_apart w 201 4 204 underlying201 38 sizeOf204 ⟨sb,0,none⟩ ⟨g,(i+1)*38,none⟩ 1 1 lb cb hne _ _ _ _ (xQz cZ) (xQz aq) (by rw[aJ];omega) (frozen_of_row w sb 0 _ _ cZ) (frozen_of_row w sb _ _ _ cZ)]
  rfl
 go_enter func248,ntmps248;have hin:((i:Int)==(n:Int))=false:=by rw[beq_eq_false_iff_ne];omega
 have SF:(i:Int)<=(n:Int):=by omega
 have SG:¬ (cap:Int)<(n:Int)+1:=by omega
 have CD:¬ cap=i:=by omega
 have Z7:¬ cap=i+1:=by omega
 go_wp2_with (simp only[WC]);clear WC;have Dp:∀ty dc sc,(Builtin.copy_ #[201,201] ty #[.slice (some ⟨g,(i+1)*38,none⟩) (n-i) dc,.slice (some ⟨g,i*38,none⟩) (n+1-i) sc]).run prog w.drew=.ok (goInt (Nat.min (n+1-i) (n-i))) (w.drew.setRow g (cur.toList.take ((i+1)*38)++xs.drop (i*38)++cur.toList.drop ((n+1)*38)).toArray):=λty dc sc=>by
  have h1:(xs.drop (i*38)).length=(n-i)*38:=by rw[ao_,hxl];omega
  have:=jd w.drew ty g ((i+1)*38) (n-i) dc ⟨g,i*38,none⟩ (n+1-i) sc cur 204 (xs.drop (i*38)) aq (by rw[h1,show Nat.min (n+1-i) (n-i)=n-i from Nat.min_eq_right (by omega)])
   (λj u hj=>by
    rw[cg_]at hj;have h2:=bc_ ae (g:=g) rfl (i*38+j) u hj;rw[an_,aq_]at h2;rw[an_,cO_];exact h2) (by rw[h1,aJ];have:(n+1)*38<=cap*38:=cj_ _ hroom;omega) (λu hu=>tF u (bp_ hu))
  rw[this,h1,show (i+1)*38+(n-i)*38=(n+1)*38 by omega]
 obtain⟨W1,c_⟩:∃W1,W1=w.drew.setRow g (cur.toList.take ((i+1)*38)++xs.drop (i*38)++cur.toList.drop ((n+1)*38)).toArray:=⟨_,rfl⟩;rw[<-c_]at Dp;have du:w.grownBy W1 (some g):=by rw[c_];exact kV (b:=w.drew) ⟨rfl,rfl,rfl,aa_ _,λ_ _ _=>rfl⟩ (uj w.drew g _)
 have aV:W1.heap[g]?=some (.cells (cur.toList.take ((i+1)*38)++xs.drop (i*38)++cur.toList.drop ((n+1)*38)).toArray 204 (0,0)):=by rw[c_];exact setRow_heap w.drew g _ _ _ _ aq
 have aK:W1.heap[sb]?=some (.cells (xd l) 204 (0,0)):=(du.block sb (i_ cZ).1 (λe=>hne (as_ e))).trans cZ;have hk:(n+1)*38<=cap*38:=cj_ _ hroom;have gW:(cur.toList.take ((i+1)*38)++xs.drop (i*38)++cur.toList.drop ((n+1)*38)).length=cap*38:=by
  simp only[af_,ai_,ao_,hxl,bs_,aJ];omega
 have Dq:∀ty dc,(Builtin.copy_ #[201,201] ty #[.slice (some ⟨g,i*38,none⟩) (n+1-i) dc,.slice (some ⟨sb,0,none⟩) 1 1]).run prog W1=.ok (goInt (Nat.min 1 (n+1-i))) (W1.setRow g (xs.take (i*38)++xH l++xs.drop (i*38)++cur.toList.drop ((n+1)*38)).toArray):=λty dc=>by
  have:=jd W1 ty g (i*38) (n+1-i) dc ⟨sb,0,none⟩ 1 1 _ 204 (xH l) aV (by rw[lw,show Nat.min 1 (n+1-i)=1 from cd_ (by omega)])
   (λj u hj=>by rw[an_,aq_,cell_of_row W1 sb j _ _ _ aK];simpa[xd]using hj) (by rw[lw,aW_,gW];omega) (qq bP)
  rw[this,lw];simp only;rw[show i*38+38=(i+1)*38 by omega,xXr cur.toList i n cap xs (xH l) (by rw[bs_,aJ]) eG hi hroom]
 have bN:(W1.setRow g (xs.take (i*38)++xH l++xs.drop (i*38)++cur.toList.drop ((n+1)*38)).toArray).ownsRow B 204 38 (.slice (some ⟨g,0,none⟩) (n+1) cap) (n+1) (xs.take (i*38)++xH l++xs.drop (i*38)):=by
  have h5:(xs.take (i*38)++xH l++xs.drop (i*38)).length=(n+1)*38:=by
   simp only[af_,ai_,ao_,hxl,lw];omega
  refine⟨h5,.inr ⟨g,cap,_,rfl,J3,setRow_heap W1 g _ _ _ _ aV,hroom,by unfold maxLen;omega,?_,?_⟩⟩
  ·rw[aW_,af_,h5,ao_,bs_,aJ];omega
  ·rw[bo_ (by rw[h5];exact aa_ _),ar_ (by rw[h5];exact aa_ _)]
 have SH:w.grownBy (W1.setRow g (xs.take (i*38)++xH l++xs.drop (i*38)++cur.toList.drop ((n+1)*38)).toArray) (some g):=kV du (uj W1 g _);have HF:=h_ bN;have HG:=h_ SH;generalize ff:W1.setRow g (xs.take (i*38)++xH l++xs.drop (i*38)++cur.toList.drop ((n+1)*38)).toArray=W2 at Dq HF HG;clear bN SH ff gW hk aK aV du c_ ae tF hxl aJ cZ aq eG;refine xp [0,1,2,3,4,5,6,7] [8] (λw'=>∃z:x8 w,w'=z.1) (by kernel_rfl) (by kernel_rfl) (by kernel_rfl) ⟨⟨_,(ab_ _ _).drew⟩,rfl⟩ ?_;simp only[o_]
 repeat (go_big_quiet_step (fail))
 refine wpQuiet_nil ?_;refine xB [8] _ _ (by kernel_rfl) ?_;simp only[o_];refine wpList_copy_runI _ rfl (.tmp 73) (.tmp 76) 201 201 rfl _ _ rfl rfl (Dp _ _ _) ?_;go_wp2;refine ag_ ?_;go_wp2_with (refine wpList_copy_runI _ rfl (.tmp 80) (.tmp 81) 201 201 rfl _ _ rfl rfl (Dq _ _) ?_);go_ret;exact⟨_,rfl,HF.out,HG.out,.inl rfl⟩
theorem xBn (k):(Builtin.zeroCells (Value.agg (xd xJ)).cells k).size=k*38:=by
 have h:(Value.agg (xd xJ)).cells.size=38:=xP _;simp[Builtin.zeroCells,h]
theorem xZv (xs vs Z:List Value)(i n:Nat)(hxl:xs.length=n*38)(hv:vs.length=38)(hi:i<n):
  let R1:=(xs.take (i*38)++Z).take (i*38)++vs++(xs.take (i*38)++Z).drop (i*38+38)
  R1.take ((i+1)*38)++xs.drop (i*38)++R1.drop ((i+1)*38+(n-i)*38)=xs.take (i*38)++vs++xs.drop (i*38)++Z.drop ((n+1-i)*38):=by
 have h1:(xs.take (i*38)).length=i*38:=by rw[ai_,hxl];omega
 have e1:(xs.take (i*38)++Z).take (i*38)=xs.take (i*38):=by rw[bo_ (by rw[h1];exact aa_ _),ar_ (by rw[h1];exact aa_ _)]
 have e2:(xs.take (i*38)++Z).drop (i*38+38)=Z.drop 38:=by
  rw[bE_,h1,aO_ (by rw[h1];omega),aM_,show i*38+38-i*38=38 by omega]
 simp only;rw[e1,e2];have h2:(xs.take (i*38)++vs).length=(i+1)*38:=by rw[af_,h1,hv];omega
 have e3:(xs.take (i*38)++vs++Z.drop 38).take ((i+1)*38)=xs.take (i*38)++vs:=by
  rw[bo_ (by rw[h2];exact aa_ _),ar_ (by rw[h2];exact aa_ _)]
 have e4:(xs.take (i*38)++vs++Z.drop 38).drop ((i+1)*38+(n-i)*38)=Z.drop ((n+1-i)*38):=by
  rw[bE_,h2,aO_ (by rw[h2];omega),aM_,bP_];congr 1;omega
 rw[e3,e4]
theorem xS9 (B g cap n i sb xs l w)(bP:jN l)(tF:∀u∈xs,u.oneCell'=true)(ae:w.ownsRow B 204 38 (.slice (some ⟨g,0,none⟩) n cap) n xs)(hB:B<=w.heap.size)(hn:n<=65536)(hi:i<n)(hroom:cap<n+1)
  (cZ:w.heap[sb]?=some (.cells (xd l) 204 (0,0))):
  Calls prog 248 #[.slice (some ⟨g,0,none⟩) n cap,.int .i64 i,.slice (some ⟨sb,0,none⟩) 1 1] w λr w'=>∃v',r=.returned v'/\w'.ownsRow B 204 38 v' (n+1) (xs.take (i*38)++xH l++xs.drop (i*38))/\w.grownBy w' (some g)/\(v'.ownBlock=some g\/v'.ownBlock=some w.heap.size):=by
 obtain⟨i0,hi0,bd,aL,bk⟩:=info_parts Tryz.info_line;rcases ae.2 with⟨e,_⟩|⟨g',cap',cur,e,J3,aq,hle,dC,aJ,eG⟩
 ·cases e
 cases e
 have hxl:=ae.1;obtain rfl:cap=n:=by omega
 have lw:=yC l;have nf:g<w.heap.size:=(i_ aq).1;have fD:(Builtin.firstCells i0.size i (.slice (some ⟨g,0,none⟩) i cap)).run prog w.drew=.ok (xs.take (i*38)).toArray w.drew:=by
  rw[aL];refine run_firstCells_some w.drew 38 i ⟨g,0,none⟩ i cap (xs.take (i*38)) (by rw[ai_,hxl];omega) (λj u hj=>?_);rw[List.getElem?_take]at hj;split at hj
  ·have h2:=bc_ ae (g:=g) rfl j u hj;rw[cO_];exact h2
  ·cases hj
 obtain⟨G,hG⟩:∃G,G=grownCap w (cap+1) cap 204:=⟨_,rfl⟩;have Dr:cap+1<=G:=by rw[hG];exact grownCap_ge w _ _ _
 have L_:G<=maxLen:=by rw[hG];exact grownCap_le_maxLen w (cap+1) cap _ (by unfold maxLen;omega)
 obtain⟨Z,hZ⟩:∃Z:Array Value,Z=Builtin.zeroCells (Value.agg (xd xJ)).cells (cap+1-i)++Builtin.zeroCells (Value.agg (xd xJ)).cells (G-(cap+1)):=⟨_,rfl⟩;have Qx:Z.size=(G-i)*38:=by rw[hZ,Array.size_append,xBn,xBn];omega
 have tG:(cap:Int)+1-(i:Int)=((cap+1-i:Nat):Int):=by omega
 obtain⟨W1,c_⟩:∃W1,W1=w.drew.alloc (.cells ((xs.take (i*38)).toArray++Z) 204):=⟨_,rfl⟩;have Gh:∀ty,(Builtin.append_ #[201,3] ty #[.slice (some ⟨g,0,none⟩) i cap,.int .i64 ((cap:Int)+1-(i:Int))]).run prog w=.ok (.slice (some ⟨w.heap.size,0,none⟩) (cap+1) G) W1:=λty=>by
  have h:=Lib.run_append_grow_zeros w 201 3 ty 204 i0 _ .i64 .i64 underlying201 underlying3 hi0 bd (some ⟨g,0,none⟩) i cap (xs.take (i*38)) fD (cap+1-i) (by omega) (by rw[aL];omega) (by omega) (by omega) (by rw[bk];omega) (by rw[bk,show i+(cap+1-i)=cap+1 by omega];exact growslice_fits (by omega) (by omega));rw[show i+(cap+1-i)=cap+1 by omega,<-hG,Array.append_assoc,<-hZ,<-c_]at h;rw[tG];exact h
 obtain⟨N,hN⟩:∃N,N=w.heap.size:=⟨_,rfl⟩;rw[<-hN]at Gh;have JX:W1.heap[N]?=some (.cells ((xs.take (i*38)).toArray++Z) 204 (0,0)):=by rw[c_,hN];exact heap_alloc_new w.drew _
 have aa:Below w.heap.size w W1:=by rw[c_];exact((ab_ _ _).drew).alloc (aa_ _) _
 have aK:W1.heap[sb]?=some (.cells (xd l) 204 (0,0)):=(aa.block sb (i_ cZ).1).trans cZ;have WD:(xs.take (i*38)).length=i*38:=by rw[ai_,hxl];omega
 have F9:((xs.take (i*38)).toArray++Z).size=G*38:=by rw[Array.size_append,aW_,WD,Qx];omega
 have WE:(cap+1)*38<=G*38:=cj_ _ Dr;obtain⟨R1,ng⟩:∃R1:List Value,R1=(xs.take (i*38)++Z.toList).take (i*38)++xH l++(xs.take (i*38)++Z.toList).drop (i*38+38):=⟨_,rfl⟩;have oq:R1.length=G*38:=by
  rw[ng];simp only[af_,ai_,ao_,hxl,lw,bs_,Qx];omega
 obtain⟨W2,ff⟩:∃W2,W2=W1.setRow N R1.toArray:=⟨_,rfl⟩;have Dp:∀ty dc,(Builtin.copy_ #[201,201] ty #[.slice (some ⟨N,i*38,none⟩) (cap+1-i) dc,.slice (some ⟨sb,0,none⟩) 1 1]).run prog W1=.ok (goInt (Nat.min 1 (cap+1-i))) W2:=λty dc=>by
  have:=jd W1 ty N (i*38) (cap+1-i) dc ⟨sb,0,none⟩ 1 1 _ 204 (xH l) JX (by rw[lw,show Nat.min 1 (cap+1-i)=1 from cd_ (by omega)])
   (λj u hj=>by rw[an_,aq_,cell_of_row W1 sb j _ _ _ aK];simpa[xd]using hj) (by rw[lw,F9];omega) (qq bP)
  rw[this,lw,ff,ng];simp
 have J4:W2.heap[N]?=some (.cells R1.toArray 204 (0,0)):=by rw[ff];exact setRow_heap W1 N _ _ _ _ JX
 have aj:Below w.heap.size w W2:=by rw[ff];exact vz aa (uj W1 N _) aa.size (by omega)
 obtain⟨W3,pY⟩:∃W3,W3=W2.drew.setRow N (xs.take (i*38)++xH l++xs.drop (i*38)++Z.toList.drop ((cap+1-i)*38)).toArray:=⟨_,rfl⟩;have Dq:∀ty dc sc,(Builtin.copy_ #[201,201] ty #[.slice (some ⟨N,(i+1)*38,none⟩) (cap-i) dc,.slice (some ⟨g,i*38,none⟩) (cap-i) sc]).run prog W2.drew=.ok (goInt (Nat.min (cap-i) (cap-i))) W3:=λty dc sc=>by
  have h1:(xs.drop (i*38)).length=(cap-i)*38:=by rw[ao_,hxl];omega
  have:=jd W2.drew ty N ((i+1)*38) (cap-i) dc ⟨g,i*38,none⟩ (cap-i) sc _ 204 (xs.drop (i*38)) J4 (by rw[h1,show Nat.min (cap-i) (cap-i)=cap-i from Nat.min_self _])
   (λj u hj=>by
    rw[cg_]at hj;have h2:=bc_ ae (g:=g) rfl (i*38+j) u hj;rw[an_,aq_]at h2;rw[an_,cO_,aj.cell (p:=⟨g,i*38+j,none⟩) nf];exact h2) (by rw[h1,aW_,oq];omega) (λu hu=>tF u (bp_ hu))
  rw[this,h1,pY];have h6:=xZv xs (xH l) Z.toList i cap hxl lw hi;simp only at h6;rw[<-ng]at h6;simp only;rw[h6]
 have bN:W3.ownsRow B 204 38 (.slice (some ⟨N,0,none⟩) (cap+1) G) (cap+1) (xs.take (i*38)++xH l++xs.drop (i*38)):=by
  have h5:(xs.take (i*38)++xH l++xs.drop (i*38)).length=(cap+1)*38:=by
   simp only[af_,ai_,ao_,hxl,lw];omega
  refine⟨h5,.inr ⟨N,G,_,rfl,by omega,by rw[pY];exact setRow_heap W2.drew N _ _ _ _ J4,Dr,L_,?_,?_⟩⟩
  ·rw[aW_,af_,h5,ao_,bs_,Qx];omega
  ·rw[bo_ (by rw[h5];exact aa_ _),ar_ (by rw[h5];exact aa_ _)]
 have al:Below w.heap.size w W3:=by rw[pY];exact vz (aj.drew) (uj W2.drew N _) aj.size (by omega)
 have HN:=h_ hN;have HF:=h_ bN;have HG:=h_ (xSi al (some g));have hin:((i:Int)==(cap:Int))=false:=by rw[beq_eq_false_iff_ne];omega
 have SF:(i:Int)<=(cap:Int):=by omega
 have CD:¬ cap=i:=by omega
 have hGi:¬ G=i:=by omega
 have Z8:¬ G=i+1:=by omega
 have WF:G<=9223372036854775807:=by unfold maxLen at L_;omega
 have Z9:(cap:Int)+1<=(G:Int):=by omega
 clear bN al pY aj J4 ff oq ng F9 WD aK aa JX hN c_ Qx hZ hG fD ae tF cZ aq aJ eG hxl WE bd aL bk hi0 tG;go_enter func248,ntmps248;go_wp2_with (first
  |(at_builtin;refine dm_ _ rfl _ _ _ _ rfl _ _ rfl rfl _ _ (Gh _) ?_)
  |(refine wpList_copy_runI _ rfl (.tmp 43) (.tmp 44) 201 201 rfl _ _ rfl rfl (Dp _ _) ?_))
 generalize goInt ((Nat.min 1 (cap+1-i):Nat):Int)=vmin;go_simp;refine xp [0,1,2,3,4,5,6,7] [8] (λw'=>∃z:x8 W2,w'=z.1) (by kernel_rfl) (by kernel_rfl) (by kernel_rfl) ⟨⟨_,(ab_ _ _).drew⟩,rfl⟩ ?_;simp only[o_]
 repeat (go_big_quiet_step (fail))
 refine wpQuiet_nil ?_;refine xB [8] _ _ (by kernel_rfl) ?_;simp only[o_];refine wpList_copy_runI _ rfl (.tmp 50) (.tmp 53) 201 201 rfl _ _ rfl rfl (Dq _ _ _) ?_;go_wp2;refine ag_ ?_;go_wp2;go_ret;exact⟨_,rfl,HF.out,HG.out,.inr (by rw[<-HN.out];rfl)⟩
theorem xLo (B v n sb xs g)(w:World)(bP:jN g)(ae:w.ownsRow B 204 38 v n xs)(hB:B<=w.heap.size)(hn:n<=65536)(cZ:∀j u,(xH g)[j]?=some u->w.cell? ((⟨sb,0,none⟩:Addr).add j)=some u):
  Calls prog 248 #[v,.int .i64 n,.slice (some ⟨sb,0,none⟩) 1 1] w λr w'=>∃v',r=.returned v'/\w'.ownsRow B 204 38 v' (n+1) (xs++xH g)/\w.grownBy w' v.ownBlock/\(v'.ownBlock=v.ownBlock\/v'.ownBlock=some w.heap.size):=by
 obtain⟨i0,hi,bd,aL,bk⟩:=info_parts Tryz.info_line;have HS:=h_ cZ;clear cZ;have AF:=h_ (qq bP);have Ad:=yC g;have HW:=h_ ae;rcases ae.2 with⟨rfl,rfl⟩|⟨gb,cap,cur,rfl,hg,aq,hle,dC,aJ,eG⟩
 ·clear ae;go_enter func248,ntmps248;go_wp2_with (at_builtin;refine wpList_append_own_at _ rfl (.tmp 23) (.tmp 24) 201 rfl B 204 i0 (.agg (xd xJ)) 38 112 underlying201 hi bd aL bk (xP _) (by decide) _ _ _ rfl HW.out ⟨sb,0,none⟩ 1 1 (xH g) rfl Ad HS.out AF.out ?c3 ?c4 hB ?_)
  case c3=>unfold maxLen;omega
  case c4=>omega
  intro v' w2 fM aR _ aB;go_wp2;go_ret;exact⟨v',rfl,fM,aR,aB⟩
 ·clear ae;unfold maxLen at dC;have heq:((n:Int)==(n:Int))=true:=by simp
  have Z_:(n:Int)<=(cap:Int):=by omega
  by_cases hcn:cap=n
  ·subst hcn;go_enter func248,ntmps248;go_wp2_with (at_builtin;refine wpList_append_own_at _ rfl (.tmp 23) (.tmp 24) 201 rfl B 204 i0 (.agg (xd xJ)) 38 112 underlying201 hi bd aL bk (xP _) (by decide) _ _ _ rfl HW.out ⟨sb,0,none⟩ 1 1 (xH g) rfl Ad HS.out AF.out (by unfold maxLen;omega) (by omega) hB ?_);intro v' w2 fM aR _ aB;go_wp2;go_ret;exact⟨v',rfl,fM,aR,aB⟩
  ·have Aa:¬ (cap:Int)=(n:Int):=by omega
   go_enter func248,ntmps248;go_wp2_with (at_builtin;refine wpList_append_own_at _ rfl (.tmp 23) (.tmp 24) 201 rfl B 204 i0 (.agg (xd xJ)) 38 112 underlying201 hi bd aL bk (xP _) (by decide) _ _ _ rfl HW.out ⟨sb,0,none⟩ 1 1 (xH g) rfl Ad HS.out AF.out (by unfold maxLen;omega) (by omega) hB ?_);intro v' w2 fM aR _ aB;go_wp2;go_ret;exact⟨v',rfl,fM,aR,aB⟩
theorem xJx (B v n i sb xs l)(w:World)(bP:jN l)(tF:∀u∈xs,u.oneCell'=true)(ae:w.ownsRow B 204 38 v n xs)(hB:B<=w.heap.size)(hn:n<=65536)(hi:i<=n)
  (cZ:w.heap[sb]?=some (.cells (xd l) 204 (0,0))) (hne:v.ownBlock≠some sb):
  Calls prog 248 #[v,.int .i64 i,.slice (some ⟨sb,0,none⟩) 1 1] w λr w'=>∃v',r=.returned v'/\w'.ownsRow B 204 38 v' (n+1) (xs.take (i*38)++xH l++xs.drop (i*38))/\w.grownBy w' v.ownBlock/\(v'.ownBlock=v.ownBlock\/v'.ownBlock=some w.heap.size):=by
 by_cases h:i=n
 ·subst h;rw[ar_ (by rw[ae.1];exact aa_ _),aO_ (by rw[ae.1];exact aa_ _),aG_];exact xLo B v i sb xs l w bP ae hB hn (λj u hj=>by rw[an_,aq_,cell_of_row w sb j _ _ _ cZ];simpa[xd]using hj)
 ·rcases ae.2 with⟨_,h0⟩|⟨g,cap,cur,rfl,WG⟩
  ·omega
  ·by_cases hroom:n+1<=cap
   ·exact xPc B g cap n i sb xs l w bP tF ae hn (by omega) hroom cZ (λe=>hne (by rw[e];rfl))
   ·exact xS9 B g cap n i sb xs l w bP tF ae hB hn (by omega) (by omega) cZ
def posN (ns:List Int)(n:Int):Nat:=ns.countP λk=>decide (k<n)
theorem xRh {ns n i}(h:qu ns n i i):i=posN ns n:=by
 obtain⟨_,h2,h3,h4⟩:=h;unfold posN;rw[<-bM_ i ns,List.countP_append];have e1:(ns.take i).countP (λk=>decide (k<n))=(ns.take i).length:=by
  rw[List.countP_eq_length];intro k hk;obtain⟨j,hj,rfl⟩:=bF_.1 hk;rw[ai_]at hj;rw[dh_];simpa using h3 j (by omega) (by omega)
 have e2:(ns.drop i).countP (λk=>decide (k<n))=0:=by
  rw[List.countP_eq_zero];intro k hk;obtain⟨j,hj,rfl⟩:=bF_.1 hk;rw[ao_]at hj;rw[cn_];have:=h4 (i+j) (by omega) (by omega);simp;omega
 rw[e1,e2,ai_];omega
def qO (ms:List ML)(i:Nat)(m:ML):List ML:=ms.take i++m :: ms.drop i
theorem jv (a b):yq (a++b)=yq a++yq b:=by simp[yq]
theorem xNd (ms i):(yq ms).take (i*38)=yq (ms.take i):=by
 by_cases h:i<=ms.length
 ·conv=>lhs;rw[<-bM_ i ms,jv]
  rw[bo_ (by rw[um,ai_];omega),ar_ (by rw[um,ai_];omega)]
 ·rw[ar_ (by rw[um];omega),ar_ (by omega)]
theorem xNe (ms i):(yq ms).drop (i*38)=yq (ms.drop i):=by
 by_cases h:i<=ms.length
 ·conv=>lhs;rw[<-bM_ i ms,jv]
  rw[dx_ (by rw[um,ai_];omega),aO_ (by rw[um,ai_];omega),aM_]
 ·rw[aO_ (by rw[um];omega),aO_ (by omega)];rfl
theorem xSp (ms i m):yq (qO ms i m)=(yq ms).take (i*38)++xH m.g++(yq ms).drop (i*38):=by
 unfold qO;rw[jv,xNd,xNe,aH_];rfl
theorem vY {ms i m}(h:i<=ms.length):(qO ms i m).length=ms.length+1:=by
 unfold qO;simp only[af_,ai_,av_,ao_];omega
theorem xEb (ms i m):(qO ms i m).Perm (m :: ms):=by
 unfold qO;refine List.perm_middle.trans ?_;rw[bM_]
theorem xGj {ms i m x}:x∈qO ms i m↔x=m\/x∈ms:=by rw[(xEb ms i m).mem_iff,ae_]
structure jo (ms:List ML)(nl:List (KE Id32)):Prop where
 agree:(nl.map λe=>(e.k,e.v)).Perm (ms.map λm=>(m.p.id,Value.int .i64 m.p.number))
 ids:(ms.map λm=>m.p.id).Nodup
 sorted:(nums ms).Pairwise (· < ·)
 good:∀m∈ms,pErr m.p=0
theorem uz.pure {B w G}(h:uz B w G):jo G.ms G.nl:=⟨h.agree,h.ids,h.sorted,h.good⟩
theorem jo.nil:jo [] []:=⟨.nil,.nil,.nil,λ_ h=>by cases h⟩
theorem jo.add {ms:List ML}{nl:List (KE Id32)}(h:jo ms nl){i:Nat}{m:ML}(c:Nat)(hb:qu (nums ms) m.p.number i i)(hn:qe ms m.p.number=false)(hi:∀x∈ms,x.p.id≠m.p.id)(hg:pErr m.p=0):
  jo (qO ms i m) (nl++[⟨m.p.id,.int .i64 m.p.number,c⟩]) where
 agree:=by
  rw[bl_];refine(List.perm_append_comm).trans ?_;refine List.Perm.trans ?_ ((xEb ms i m).symm.map _);simp only[au_,cq_,List.singleton_append];exact h.agree.cons _
 ids:=by
  rw[((xEb ms i m).map _).nodup_iff,au_,bh_];refine⟨λhm=>?_,h.ids⟩;obtain⟨x,hx,e⟩:=az_.1 hm;exact hi x hx e
 sorted:=by
  obtain⟨_,h2,h3,h4⟩:=hb;have hs:=h.sorted;have e:nums (qO ms i m)=(nums ms).take i++m.p.number :: (nums ms).drop i:=by simp[nums,qO,du_,List.map_drop]
  have nh:m.p.number∉nums ms:=λhm=>by
   unfold qe at hn;rw[ba_.2 hm]at hn;cases hn
  have ht:∀a∈(nums ms).take i,a<m.p.number:=λa ha=>by
   obtain⟨j,hj,rfl⟩:=bF_.1 ha;rw[ai_]at hj;rw[dh_];exact h3 j (by omega) (by omega)
  have hd:∀a∈(nums ms).drop i,m.p.number<a:=λa ha=>by
   have hne:a≠m.p.number:=λe=>nh (e▸bp_ ha)
   obtain⟨j,hj,rfl⟩:=bF_.1 ha;rw[ao_]at hj;rw[cn_]at hne⊢;have:=h4 (i+j) (by omega) (by omega);omega
  rw[e,cu_,ca_];exact⟨hs.sublist (List.take_sublist _ _),⟨hd,hs.sublist (List.drop_sublist _ _)⟩,λa ha b hb=>by
   have h5:=ht a ha;rcases ae_.1 hb with rfl|hb
   ·exact h5
   ·have:=hd b hb;omega⟩
 good x hx:=by
  rcases xGj.1 hx with rfl|hx
  ·exact hg
  ·exact h.good x hx
theorem qh {ib M gs}:(foot ib M gs).Nodup↔ib≠M/\(∀G∈gs,ib∉G.foot/\M∉G.foot/\G.foot.Nodup)/\gs.Pairwise (λG H=>∀x∈G.foot,∀y∈H.foot,x≠y):=by
 unfold foot;rw[bh_,bh_,ae_,bg_,bg_];unfold List.Nodup;rw[List.pairwise_flatMap];constructor
 ·rintro ⟨h1,h2,h3,h4⟩;exact⟨λe=>h1 (.inl e),λG hG=>⟨λhx=>h1 (.inr ⟨G,hG,hx⟩),λhx=>h2 ⟨G,hG,hx⟩,h3 G hG⟩,h4⟩
 ·rintro ⟨h1,h2,h3⟩;refine⟨?_,?_,λG hG=>(h2 G hG).2.2,h3⟩
  ·rintro (e|⟨G,hG,hx⟩)
   ·exact h1 e
   ·exact(h2 G hG).1 hx
  ·rintro ⟨G,hG,hx⟩;exact(h2 G hG).2.1 hx
def qD (gs:List MG)(s:ByteArray)(G':MG):List MG:=gs.map λH=>if H.name=s then G' else H
theorem yR {B}{w:World}{t size n v xs}(h:w.ownsRow B t size v n xs){k}(hk:v.ownBlock=some k):∃cur,w.heap[k]?=some (.cells cur t (0,0)):=by
 rcases h.2 with⟨rfl,_⟩|⟨g,cap,cur,rfl,_,aq,_⟩
 ·cases hk
 ·cases hk
  exact⟨cur,aq⟩
theorem uz.not_id {B w G}(h:uz B w G){k cur}(hk:w.heap[k]?=some (.cells cur 33 (0,0))):k∉G.foot:=by
 intro hf;unfold MG.foot at hf;simp only[aj_,ae_,bq_,or_false,aT_]at hf;rcases hf with (rfl|rfl)|hf
 ·rw[h.blk]at hk;cases hk
 ·have:=h.nums;unfold y4 at this;rw[this]at hk;cases hk
 ·obtain⟨c2,h2⟩:=yR h.lines.row hf;rw[h2]at hk;cases hk
theorem ye.not_id {B w ib M mc gs}(h:ye B w ib M gs mc){k cur}(hk:w.heap[k]?=some (.cells cur 33 (0,0))):k∉foot ib M gs:=by
 intro hf;unfold foot at hf;simp only[ae_,bg_]at hf;rcases hf with rfl|rfl|⟨G,hG,hf⟩
 ·rw[h.blk]at hk;cases hk
 ·have:=h.map;unfold y4 at this;rw[this]at hk;cases hk
 ·exact(h.grps G hG).not_id hk hf
theorem ye.refs_out {B w ib M mc gs}(h:ye B w ib M gs mc){G}(hG:G∈gs){m}(hm:m∈G.ms){k}(hk:m.v.ownBlock=some k):k<w.heap.size/\k∉foot ib M gs:=by
 have h1:=(h.grps G hG).lines.refs m hm;obtain⟨cur,h2⟩:=yR h1 hk;exact⟨(h1.lt hk).2,h.not_id h2⟩
structure Kept (F:List Nat)(w w':World):Prop where
 os:w'.os=w.os
 tape:w'.tape=w.tape
 output:w'.output=w.output
 size:w.heap.size<=w'.heap.size
 block:∀k,k<w.heap.size->k∉F->w'.heap[k]?=w.heap[k]?
theorem Kept.mono {F F' w w'}(h:Kept F w w')(hs:∀k∈F,k<w.heap.size->k∈F'):Kept F' w w':=⟨h.os,h.tape,h.output,h.size,λk hk hn=>h.block k hk λhf=>hn (hs k hf hk)⟩
theorem Kept.of_below {F w w'}(h:Below w.heap.size w w'):Kept F w w':=⟨h.os,h.tape,h.output,h.size,λk hk _=>h.block k hk⟩
theorem Kept.trans {F F' a b c}(h:Kept F a b)(h':Kept F' b c)(hs:∀k∈F',k∈F\/a.heap.size<=k):Kept F a c:=
 ⟨h'.os.trans h.os,h'.tape.trans h.tape,h'.output.trans h.output,ad_ h.size h'.size,λk hk hn=>(h'.block k (ap_ hk h.size) λhf=>by rcases hs k hf with h1|h1;exact hn h1;omega).trans (h.block k hk hn)⟩
theorem Kept.below {F w w' B}(h:Kept F w w')(hB:B<=w.heap.size)(hF:∀k∈F,B<=k):Below B w w':=⟨h.os,h.tape,h.output,h.size,λk hk=>h.block k (by omega) λhf=>by have:=hF k hf;omega⟩
theorem kq {F w w'}(h:Kept F w w'):w.heap.size<=w'.heap.size/\w'.os=w.os/\w'.tape=w.tape/\w'.output=w.output/\∀k,k<w.heap.size->k∉F->w'.heap[k]?=w.heap[k]?:=⟨h.size,h.os,h.tape,h.output,h.block⟩
theorem ki {F w w'}(h:w.heap.size<=w'.heap.size/\w'.os=w.os/\w'.tape=w.tape/\w'.output=w.output/\∀k,k<w.heap.size->k∉F->w'.heap[k]?=w.heap[k]?):Kept F w w':=⟨h.2.1,h.2.2.1,h.2.2.2.1,h.1,h.2.2.2.2⟩
attribute [grind →] kq
attribute [grind ←] ki
def xEc (F F':List Nat)(w:World):Prop:=∀k∈F',k∈F\/w.heap.size<=k
theorem xBr:∀{gs:List MG} {s:ByteArray} {G G':MG},(gs.map λG=>G.name).Nodup->ym gs s=some G->xR (qD gs s G')+G.ms.length=xR gs+G'.ms.length
 |H :: gs,s,G,G',hn,hg=>by
  unfold ym at hg;rw[bu_]at hg;rw[au_,bh_]at hn;by_cases h:H.name=s
  ·rw[decide_eq_true h]at hg;cases hg
   have:qD gs s G'=gs:=by
    unfold qD
    conv=>rhs;rw[<-List.map_id gs]
    refine bJ_ λK hK=>?_
    have:¬ K.name=s:=λe=>hn.1 (h▸e▸az_.2 ⟨K,hK,rfl⟩)
    rw[if_neg this];rfl
   unfold xR qD at *;rw[au_,if_pos h,au_,cb_,this,au_,cb_];omega
  ·rw[decide_eq_false h]at hg;have ih:=xBr (G':=G') hn.2 hg;unfold xR qD at *;rw[au_,if_neg h,au_,cb_,au_,cb_];omega
theorem xDj:∀{gs:List MG} {s:ByteArray} {G G':MG} (t:ByteArray),ym gs s=some G->G'.name=s->ym (qD gs s G') t=if t=s then some G' else ym gs t
 |H :: gs,s,G,G',t,hg,hn=>by
  unfold ym at hg⊢;unfold qD;rw[bu_]at hg;rw[au_,bu_];by_cases h:H.name=s
  ·rw[decide_eq_true h]at hg;rw[if_pos h];by_cases ht:t=s
   ·rw[if_pos ht,decide_eq_true (hn.trans ht.symm)]
   ·rw[if_neg ht,decide_eq_false (λe=>ht (e.symm.trans hn)),bu_,decide_eq_false (λe=>ht (e.symm.trans h))];simp only;clear hg;induction gs with
    |nil=>rfl
    |cons K gs ih=>
     rw[au_,bu_,bu_];by_cases hK:K.name=s
     ·rw[if_pos hK,decide_eq_false (λe=>ht (e.symm.trans hn)),decide_eq_false (λe=>ht (e.symm.trans hK))];exact ih
     ·rw[if_neg hK];cases decide (K.name=t) with
      |true=>rfl
      |false=>exact ih
  ·rw[decide_eq_false h]at hg;rw[if_neg h,bu_];have ih:=xDj (gs:=gs) t hg hn;unfold ym qD at ih;by_cases ht:t=s
   ·rw[if_pos ht]at ih⊢;rw[decide_eq_false (λe=>h (e.trans ht))];exact ih
   ·rw[if_neg ht]at ih⊢;cases decide (H.name=t) with
    |true=>rfl
    |false=>exact ih
theorem xDi {gs s G G'}(t)(hg:ym gs s=some G)(hn:G'.name=s):xA (qD gs s G') t=if t=s then G'.ms else xA gs t:=by
 unfold xA;rw[xDj t hg hn];by_cases h:t=s
 ·rw[if_pos h,if_pos h]
 ·rw[if_neg h,if_neg h]
theorem xCa:∀{l:List MG},(l.map λG=>G.name).Nodup->∀A∈l,∀C∈l,A.name=C.name->A=C:=by
 intro l hl;induction l with
 |nil=>intro A hA;cases hA
 |cons D l ih=>
  rw[au_,bh_]at hl;intro A hA C hC he;rcases ae_.1 hA with lx|lx
  ·rcases ae_.1 hC with eP|eP
   ·rw[lx,eP]
   ·exact absurd (lx▸he▸az_.2 ⟨C,eP,rfl⟩) hl.1
  ·rcases ae_.1 hC with eP|eP
   ·exact absurd (eP▸az_.2 ⟨A,lx,he⟩) hl.1
   ·exact ih hl.2 A lx C eP he
theorem ye.upd {B w w' ib M mc gs}(h:ye B w ib M gs mc){s G G'}(hG:ym gs s=some G)(h1:G'.name=G.name)(h2:G'.born=G.born)(h3:G'.gb=G.gb)(h4:G'.nb=G.nb)
  (h5:G'.v.ownBlock=G.v.ownBlock\/∃k,G'.v.ownBlock=some k/\w.heap.size<=k) (fg:uz B w' G') (mb:w'.heap[ib]?=some (.cells #[.map (some M),.int .i64 (xR (qD gs s G'))] 163 (0,0)))
  (hk:Kept (ib :: G.foot) w w') (ci:xR (qD gs s G')<=65536):ye B w' ib M (qD gs s G') mc/\xEc (foot ib M gs) (foot ib M (qD gs s G')) w:=by
 obtain⟨fh,pZ⟩:=yM hG;obtain⟨a1,a2,a3⟩:=qh.1 h.apart;have nh:gs.Pairwise (λG H=>G.name≠H.name):=by
  have:=h.names;unfold List.Nodup at this
  rwa [di_]at this
 have Ma:∀k∈G'.foot,k∈G.foot\/w.heap.size<=k:=by
  intro k bG;unfold MG.foot at bG⊢;rw[h3,h4]at bG;simp only[aj_,ae_,bq_,or_false,aT_]at bG⊢;rcases bG with bG|bG
  ·exact .inl (.inl bG)
  ·rcases h5 with h5|⟨k',h5,h6⟩
   ·rw[h5]at bG;exact .inl (.inr bG)
   ·rw[h5]at bG;cases bG;exact .inr h6
 have aX:∀H∈qD gs s G',H=G'\/(H∈gs/\H.name≠s):=by
  intro H hH;obtain⟨K,hK,rfl⟩:=az_.1 hH;by_cases e:K.name=s
  ·rw[if_pos e];exact .inl rfl
  ·rw[if_neg e];exact .inr ⟨hK,e⟩
 have cN:∀H∈gs,H.name≠s->∀x∈H.foot,x∉G.foot:=by
  intro H hH CE x hx SI;have lV:∀{l:List MG},l.Pairwise (λG H=>∀x∈G.foot,∀y∈H.foot,x≠y)->∀A∈l,∀C∈l,A.name≠C.name->∀x∈A.foot,x∉C.foot:=by
   intro l hl;induction l with
   |nil=>intro A hA;cases hA
   |cons D l ih=>
    rw[ca_]at hl;intro A hA C hC hne x GP GQ;rcases ae_.1 hA with lx|lx
    ·rcases ae_.1 hC with eP|eP
     ·exact hne (by rw[lx,eP])
     ·exact hl.1 C eP x (lx▸GP) x GQ rfl
    ·rcases ae_.1 hC with eP|eP
     ·exact hl.1 A lx x (eP▸GQ) x GP rfl
     ·exact ih hl.2 A lx C eP hne x GP GQ
  exact lV a3 H hH G fh (by rw[pZ];exact CE) x hx SI
 have Mb:ib∉G'.foot:=λhx=>by
  rcases Ma ib hx with h6|h6
  ·exact(a2 G fh).1 h6
  ·have:=(h.foot_lt ib (by simp[foot])).2;omega
 have SJ:M∉G'.foot:=λhx=>by
  rcases Ma M hx with h6|h6
  ·exact(a2 G fh).2.1 h6
  ·have:=(h.foot_lt M (by simp[foot])).2;omega
 have SK:G'.foot.Nodup:=by
  have h6:=(a2 G fh).2.2;unfold MG.foot at h6⊢;rw[h3,h4];rcases h5 with h5|⟨k',h5,h7⟩
  ·rw[h5];exact h6
  ·rw[h5];have g1:=(i_ (h.grps G fh).blk).1;have g2:=(h.grps G fh).nums.lt;simp only[aK_,aM_,bh_,ae_,aT_,Option.toList_some,bq_,or_false,not_or]at h6⊢;exact⟨⟨h6.1.1,by omega⟩,by omega,by simp⟩
 refine⟨{ blk:=mb,map:=?_,names:=?_,grps:=?_,apart:=?_,born:=?_,young:=?_,few:=ci,ibB:=h.ibB,MB:=h.MB },?_⟩
 ·have e:(qD gs s G').map MG.e=gs.map MG.e:=by
   unfold qD;rw[bt_];refine bJ_ λH hH=>?_
   simp only[Function.comp];by_cases e:H.name=s
   ·rw[if_pos e];have:H=G:=by
     exact xCa h.names H hH G fh (e.trans pZ.symm)
    subst this;simp only[MG.e,h1,h2,h3]
   ·rw[if_neg e]
  unfold y4;rw[e,hk.block M h.map.lt (by rw[ae_,not_or];exact⟨λe=>a1 e.symm,(a2 G fh).2.1⟩)];exact h.map
 ·have e:(qD gs s G').map (λG=>G.name)=gs.map (λG=>G.name):=by
   unfold qD;rw[bt_];refine bJ_ λH hH=>?_
   simp only[Function.comp];by_cases e:H.name=s
   ·rw[if_pos e,h1,pZ,e]
   ·rw[if_neg e]
  rw[e];exact h.names
 ·intro H hH;rcases aX H hH with rfl|⟨hH,CE⟩
  ·exact fg
  ·refine(h.grps H hH).keep (λk wE=>hk.block k ((h.grps H hH).foot_lt k wE).2 ?_) (λm hm k sv=>?_)
   ·rw[ae_,not_or];exact⟨λe=>(a2 H hH).1 (e▸wE),cN H hH CE k wE⟩
   ·obtain⟨g1,g2⟩:=h.refs_out hH hm sv;refine hk.block k g1 λhx=>g2 ?_
    unfold foot;rw[ae_]at hx⊢;rcases hx with hx|hx
    ·exact .inl hx
    ·exact .inr (ae_.2 (.inr (bg_.2 ⟨G,fh,hx⟩)))
 ·rw[qh];refine⟨a1,λH hH=>?_,?_⟩
  ·rcases aX H hH with rfl|⟨hH,CE⟩
   ·exact⟨Mb,SJ,SK⟩
   ·exact a2 H hH
  ·unfold qD;rw[di_];refine(List.Pairwise.and a3 nh).imp_of_mem λ{A C} hA hC hAC=>?_
   obtain⟨hAC,hne⟩:=hAC;by_cases eA:A.name=s
   ·by_cases eC:C.name=s
    ·exact absurd (eA.trans eC.symm) hne
    ·rw[if_pos eA,if_neg eC];intro x hx y hy e;subst e;rcases Ma x hx with h6|h6
     ·exact cN C hC eC x hy h6
     ·have:=((h.grps C hC).foot_lt x hy).2;omega
   ·by_cases eC:C.name=s
    ·rw[if_neg eA,if_pos eC];intro x hx y hy e;subst e;rcases Ma x hy with h6|h6
     ·exact cN A hA eA x hx h6
     ·have:=((h.grps A hA).foot_lt x hx).2;omega
    ·rw[if_neg eA,if_neg eC];exact hAC
 ·have e:(qD gs s G').map (λG=>G.born)=gs.map (λG=>G.born):=by
   unfold qD;rw[bt_];refine bJ_ λH hH=>?_
   simp only[Function.comp];by_cases e:H.name=s
   ·rw[if_pos e,h2];exact(congrArg MG.born (xCa h.names H hH G fh (e.trans pZ.symm))).symm
   ·rw[if_neg e]
  rw[e];exact h.born
 ·intro H hH;rcases aX H hH with rfl|⟨hH,CE⟩
  ·rw[h2];exact h.young G fh
  ·exact h.young H hH
 ·intro k bG;unfold foot at bG;simp only[ae_,bg_]at bG;rcases bG with rfl|rfl|⟨H,hH,bG⟩
  ·exact .inl (by simp[foot])
  ·exact .inl (by simp[foot])
  ·have hin:∀K∈gs,∀x∈K.foot,x∈foot ib M gs:=λK hK x hx=>by
    unfold foot;exact ae_.2 (.inr (ae_.2 (.inr (bg_.2 ⟨K,hK,hx⟩))))
   rcases aX H hH with rfl|⟨hH,CE⟩
   ·rcases Ma k bG with h6|h6
    ·exact .inl (hin G fh k h6)
    ·exact .inr h6
   ·exact .inl (hin H hH k bG)
theorem jQ {gs s}(h:ym gs s=none):∀G∈gs,G.name≠s:=by
 intro G hG e;unfold ym at h;rw[cs_]at h;exact h G hG (by simpa using e)
theorem xRw {gs s}{G':MG}(t)(hg:ym gs s=none)(hn:G'.name=s):xA (gs++[G']) t=if t=s then G'.ms else xA gs t:=by
 unfold xA ym at *;rw[dU_];by_cases h:t=s
 ·rw[if_pos h,h,hg];simp[hn]
 ·rw[if_neg h];cases hx:gs.find? (λG=>decide (G.name=t)) with
  |some K=>rfl
  |none=>
   have:decide (G'.name=t)=false:=decide_eq_false (λe=>h (e.symm.trans hn));simp[this]
theorem ye.new {B w w' ib M mc gs}(h:ye B w ib M gs mc){s G'}(hG:ym gs s=none)(h1:G'.name=s)(h2:G'.born=mc)
  (h5:∀k∈G'.foot,w.heap.size<=k) (h6:G'.foot.Nodup) (fg:uz B w' G') (mb:w'.heap[ib]?=some (.cells #[.map (some M),.int .i64 (xR (gs++[G']))] 163 (0,0)))
  (hM:y4 ekS w' M ((gs++[G']).map MG.e) (mc+1))
  (hk:Kept [ib,M] w w') (ci:xR (gs++[G'])<=65536):ye B w' ib M (gs++[G']) (mc+1)/\xEc (foot ib M gs) (foot ib M (gs++[G'])) w:=by
 obtain⟨a1,a2,a3⟩:=qh.1 h.apart;have bp:=jQ hG;have hib':=(h.foot_lt ib (by simp[foot])).2;have WH:=(h.foot_lt M (by simp[foot])).2;refine⟨{ blk:=mb,map:=hM,names:=?_,grps:=?_,apart:=?_,born:=?_,young:=?_,few:=ci,ibB:=h.ibB,MB:=h.MB },?_⟩
 ·rw[bl_];refine aZ_.2 ⟨h.names,by simp,?_⟩;intro a ha b hb e;obtain⟨G,hG,rfl⟩:=az_.1 ha;simp only[au_,cq_,ac_]at hb;exact bp G hG (e.trans (hb.trans h1))
 ·intro H hH;rcases aj_.1 hH with hH|hH
  ·refine(h.grps H hH).keep (λk wE=>hk.block k ((h.grps H hH).foot_lt k wE).2 ?_) (λm hm k sv=>?_)
   ·simp only[ae_,bq_,or_false,not_or];exact⟨λe=>(a2 H hH).1 (e▸wE),λe=>(a2 H hH).2.1 (e▸wE)⟩
   ·obtain⟨g1,g2⟩:=h.refs_out hH hm sv;refine hk.block k g1 λhx=>g2 ?_
    simp only[ae_,bq_,or_false]at hx;unfold foot;rcases hx with rfl|rfl
    ·simp
    ·simp
  ·cases ac_.1 hH
   exact fg
 ·rw[qh];refine⟨a1,λH hH=>?_,?_⟩
  ·rcases aj_.1 hH with hH|hH
   ·exact a2 H hH
   ·cases ac_.1 hH
    exact⟨λhx=>by have:=h5 ib hx;omega,λhx=>by have:=h5 M hx;omega,h6⟩
  ·rw[cu_];refine⟨a3,List.pairwise_singleton _ _,λA hA C hC x hx y hy e=>?_⟩;cases ac_.1 hC
   have:=((h.grps A hA).foot_lt x hx).2;have:=h5 y hy;omega
 ·rw[bl_];refine aZ_.2 ⟨h.born,by simp,?_⟩;intro a ha b hb e;obtain⟨G,hG,rfl⟩:=az_.1 ha;simp only[au_,cq_,ac_]at hb;have:=h.young G hG;omega
 ·intro H hH;rcases aj_.1 hH with hH|hH
  ·have:=h.young H hH;omega
  ·cases ac_.1 hH
   omega
 ·intro k bG;unfold foot at bG;simp only[ae_,bg_]at bG;rcases bG with rfl|rfl|⟨H,hH,bG⟩
  ·exact .inl (by simp[foot])
  ·exact .inl (by simp[foot])
  ·rcases aj_.1 hH with hH|hH
   ·left
    unfold foot;exact ae_.2 (.inr (ae_.2 (.inr (bg_.2 ⟨H,hH,bG⟩))))
   ·cases ac_.1 hH
    exact .inr (h5 k bG)
theorem xXd (gs G'):xR (gs++[G'])=xR gs+G'.ms.length:=by
 unfold xR;simp
end Go.Proofs.YtegfbhdkenkkdaaGreatDoor
namespace Go.Proofs.YtegfbhdkenkkdaaGreatDoor
structure PD where
 n:Nat
 dur:Nat->By
 pend:List (Nat×By)
 lim:Option Nat
 down:Bool
def PD.vis (d:PD)(s:Nat):By:=match d.pend.reverse.find? (λp=>p.1==s) with
 |some p=>p.2
 |none=>d.dur s
def PD.fresh (n:Nat):PD:=⟨n,λ_=>List.replicate 256 0,[],none,false⟩
def PD.oper (d:PD):PD×Bool:=match d.lim with
 |some 0=>({ d with down:=true },false)
 |some (k+1)=>({ d with lim:=some k },true)
 |none=>(d,true)
def PD.write (d:PD)(s:Nat)(b:By):PD×Bool:=if d.down then (d,false)else match d.oper with
 |(d',true)=>({ d' with pend:=d'.pend++[(s,b)] },true)
 |(d',false)=>(d',false)
def PD.flushed (d:PD):PD:={ d with dur:=d.vis,pend:=[] }
def PD.flush (d:PD):PD×Bool:=if d.down then (d,false)else match d.oper with
 |(d',true)=>(d'.flushed,true)
 |(d',false)=>(d',false)
def PD.puts (d:PD):Nat->List By->PD×Bool
 |_,[]=>(d,true)
 |at_,b :: l=>match d.write at_ b with
  |(d',true)=>d'.puts (at_+1) l
  |(d',false)=>(d',false)
variable (H:By->By)
structure PJ where
 area:Nat
 gen:Nat
 first:Nat
 carried:Nat
 entries:List By
def qY (gen first carried:Nat):PRec:=⟨1,gen,0,beB 8 first++beB 8 carried⟩
def qA (gen:Nat):Nat->List By->List PRec
 |_,[]=>[]
 |k,b :: l=>⟨2,gen,k,b⟩ :: qA gen (k+1) l
def j6 (gen first carried:Nat)(l:List By):List PRec:=qY gen first carried :: qA gen 1 l
def xG2 (gen first carried:Nat)(l:List By):List By:=(j6 gen first carried l).flatMap (yk H)
def PJ.secs (j:PJ):List By:=xG2 H j.gen j.first j.carried j.entries
def kU (b:By):Option (Nat×Nat):=if b.length=16/\deB (b.take 8)<=2147483647/\deB (b.drop 8)<=2147483647 then some (deB (b.take 8),deB (b.drop 8))else none
noncomputable def zl (area:Nat)(l:List By):Option PJ:=
 match l with
 |[]=>none
 |b :: _=>match decP H b with
  |none=>none
  |some p=>if p.gen.toNat%2≠area then none else
   match ux H p.gen l.length 0 l with
   |[]=>none
   |r :: rs=>if r.kind≠1 then none else
    match kU r.pay with
    |none=>none
    |some (first,carried)=>
     let es:=(rs.takeWhile λr=>r.kind==2).map (·.pay)
     if carried<=es.length then some ⟨area,p.gen.toNat,first,carried,es⟩else none
theorem jl (gen:Nat):∀(k:Nat) (l:List By),(qA gen k l).length=l.length
 |_,[]=>rfl
 |k,b :: l=>by simp[qA,jl gen (k+1) l]
theorem xHs (gen:Nat):∀(k:Nat) (l:List By),(qA gen k l).all (λr=>r.kind==2)=true
 |_,[]=>rfl
 |k,b :: l=>by simp[qA];simpa using xHs gen (k+1) l
theorem xKx (gen:Nat):∀(k:Nat) (l:List By),(qA gen k l).map (·.pay)=l
 |_,[]=>rfl
 |k,b :: l=>by simp[qA,xKx gen (k+1) l]
def xNy (gen:Int):Int->List PRec->Prop
 |_,[]=>True
 |k,r :: rs=>r.Ok/\r.gen=gen/\r.num=k/\xNy gen (k+1) rs
theorem xKw (gen:Nat)(hg:gen<=2147483647):∀(k:Nat) (l:List By),k+l.length<=2147483647->(∀b∈l,b.length<=131072)->xNy gen k (qA gen k l)
 |_,[],_,_=>trivial
 |k,b :: l,hk,hl=>by
  simp only[av_]at hk;refine⟨?_,rfl,rfl,?_⟩
  ·have:=hl b (bf_ ..);refine⟨⟨?_,?_,?_,?_,?_,?_⟩,this⟩ <;> simp only <;> omega
  ·have:=xKw gen hg (k+1) l (by omega) (λb hb=>hl b (aY_ _ hb));exact this
theorem xZt {gen:Int}{f:Nat}{num:Int}{l:List By}(h:∀b,l.head? = some b->∀p,decP H b=some p->p.gen≠gen):ux H gen f num l=[]:=by
 cases f with
 |zero=>rfl
 |succ f=>
  cases l with
  |nil=>rfl
  |cons b rest=>
   simp only[ux,uH];cases hp:decP H b with
   |none=>rfl
   |some p=>
    have hne:=h b rfl p hp;simp only;split
    ·rfl
    ·rename_i r n hj;split at hj
     ·simp only[dj_,cw_]at hj;obtain⟨_,_,rfl,_⟩:=hj;rw[if_neg (by simp),if_neg (λhc=>hne hc.1)]
     ·simp at hj
theorem xR2 (hH:∀c,(H c).length=16){gen:Int}(rest:List By):∀(rs:List PRec) (num:Int) (f:Nat),rs.length<=f->xNy gen num rs ->
  ux H gen f num (rs.flatMap (yk H)++rest)=rs++ux H gen (f-rs.length) (num+rs.length) rest
 |[],num,f,_,_=>by simp
 |r :: rs,num,f,hf,hr=>by
  obtain⟨h1,h2,h3,h4⟩:=hr;obtain⟨g,rfl⟩:∃g,f=g+1:=⟨f-1,by simp at hf;omega⟩;have hj:=xPa H hH h1 (rs.flatMap (yk H)++rest);have hs:(yk H r).length=xO r.pay.length:=zx H r;have hn:1<=xO r.pay.length:=by unfold xO;omega
  have hne:yk H r++(rs.flatMap (yk H)++rest)≠[]:=by
   intro h0;rw[List.append_eq_nil_iff]at h0;rw[h0.1]at hs;simp at hs;omega
  rw[bw_,aH_];simp only[ux,hj];rw[if_neg hne,if_pos ⟨h2,h3⟩];have hd:(yk H r++(rs.flatMap (yk H)++rest)).drop (xO r.pay.length)=rs.flatMap (yk H)++rest:=by
   rw[<-hs];simp
  rw[hd,xR2 hH rest rs (num+1) g (by simp at hf;omega) h4];simp only[aK_,av_];have e1:g+1-(rs.length+1)=g-rs.length:=by omega
  have e2:num+1+(rs.length:Int)=num+((rs.length+1:Nat):Int):=by omega
  rw[e1,e2]
theorem xMf (r:PRec):∃t,yk H r=encP H (zc r 0) :: t:=by
 have hn:1<=xO r.pay.length:=by unfold xO;omega
 obtain⟨m,hm⟩:∃m,xO r.pay.length=m+1:=⟨xO r.pay.length-1,by omega⟩;refine⟨(List.range' 1 m).map λi=>encP H (zc r i),?_⟩;unfold yk;rw[hm,List.range_eq_range',dZ_];rfl
theorem xSn:∀(rs:List PRec),rs.length<=(rs.flatMap (yk H)).length
 |[]=>by simp
 |r :: rs=>by
  obtain⟨t,ht⟩:=xMf H r;have:=xSn rs;rw[bw_,ht,af_,av_,av_];omega
theorem xQp {α:Type}(f:α->Bool):∀(l:List α),l.all f=true->l.takeWhile f=l
 |[],_=>rfl
 |a :: l,h=>by
  simp only[cW_,aA_]at h;rw[dF_,if_pos h.1,xQp f l h.2]
structure PJ.Ok (j:PJ):Prop where
 par:j.gen%2=j.area
 gen:j.gen<=2147483647
 first:j.first<=2147483647
 len:j.entries.length<2147483647
 carried:j.carried<=j.entries.length
 ents:∀b∈j.entries,b.length<=131072
theorem xIz {j:PJ}(h:j.Ok):xNy j.gen 0 (j6 j.gen j.first j.carried j.entries):=by
 have h1:=h.gen;have h2:=h.len;refine⟨⟨⟨?_,?_,?_,?_,?_,?_⟩,?_⟩,rfl,rfl,?_⟩
 ·simp[qY]
 ·simp[qY]
 ·simp[qY]
 ·simp only[qY];omega
 ·simp[qY]
 ·simp[qY]
 ·simp[qY,xe]
 ·exact xKw j.gen h.gen 1 j.entries (by omega) h.ents
theorem xV4 {j:PJ}(h:j.Ok):kU (qY j.gen j.first j.carried).pay=some (j.first,j.carried):=by
 have h1:=h.first;have h2:=h.len;have h3:=h.carried;have e1:deB (beB 8 j.first)=j.first:=by rw[xA2];omega
 have e2:deB (beB 8 j.carried)=j.carried:=by rw[xA2];omega
 have t1:(beB 8 j.first++beB 8 j.carried).take 8=beB 8 j.first:=by simp[xe]
 have t2:(beB 8 j.first++beB 8 j.carried).drop 8=beB 8 j.carried:=by simp[xe]
 unfold kU qY;simp only[t1,t2,e1,e2];rw[if_pos ⟨by simp[xe],h1,by omega⟩]
theorem xY0 (hH:∀c,(H c).length=16){j:PJ}(h:j.Ok)(rest:List By)(hr:∀b,rest.head? = some b->∀p,decP H b=some p->p.gen≠j.gen):
  zl H j.area (j.secs H++rest)=some j:=by
 have ah:=xIz h;have ao:=xSn H (j6 j.gen j.first j.carried j.entries);have mH:=xR2 H hH rest (j6 j.gen j.first j.carried j.entries) 0 (j.secs H++rest).length (by rw[af_];unfold PJ.secs xG2;omega) ah;rw[xZt H hr,aG_]at mH;obtain⟨t,ht⟩:=xMf H (qY j.gen j.first j.carried);have hs:∃t2,j.secs H++rest=encP H (zc (qY j.gen j.first j.carried) 0) :: t2:=by
  refine⟨t++((qA j.gen 1 j.entries).flatMap (yk H)++rest),?_⟩;simp[PJ.secs,xG2,j6,ht]
 obtain⟨t2,gX⟩:=hs;have hd:decP H (encP H (zc (qY j.gen j.first j.carried) 0))=some (zc (qY j.gen j.first j.carried) 0):=xI9 H hH (xCt ah.1 (by unfold xO;omega));have fd:ux H (j.gen:Int) (j.secs H++rest).length 0 (j.secs H++rest)=j6 j.gen j.first j.carried j.entries:=mH;have eG:((qA j.gen 1 j.entries).takeWhile λr=>r.kind==2)=qA j.gen 1 j.entries:=by
  exact xQp _ _ (xHs j.gen 1 j.entries)
 rw[gX]at fd⊢;unfold zl;simp only[hd];rw[if_neg (by simp[zc,qY,h.par])];have hg:(zc (qY j.gen j.first j.carried) 0).gen=(j.gen:Int):=rfl;rw[hg,fd];simp only[j6];rw[if_neg (by simp[qY]),xV4 h,eG,xKx];simp only;rw[if_pos h.carried];cases j;simp
def PD.area (d:PD)(n area:Nat):List By:=(List.range (n/2)).map λi=>d.vis (area*(n/2)+i)
noncomputable def curP (n:Nat)(d:PD):Option PJ:=
 match zl H 0 (d.area n 0),zl H 1 (d.area n 1) with
 |none,none=>none
 |some a,none=>some a
 |none,some b=>some b
 |some a,some b=>if a.gen<b.gen then some b else some a
noncomputable def zR (area g:Nat)(b:By):Nat:=match decP H b with
 |none=>g
 |some p=>if (g:Int)<=p.gen then (if (p.gen.toNat+1)%2≠area then p.gen.toNat+2 else p.gen.toNat+1)else g
noncomputable def xH8 (n:Nat)(d:PD)(area:Nat):Nat:=(List.range n).foldl (λg s=>zR H area g (d.vis s)) area
theorem yBr {b:By}{p:qP}(h:decP H b=some p):p.Ok:=by
 unfold decP decC at h;split at h
 ·rename_i hc;rw[<-as_ h];exact hc.2.2.2
 ·simp at h
theorem xSl {area g:Nat}(ha:area<2)(hg:g%2=area)(b:By):
  zR H area g b%2=area/\g<=zR H area g b/\(∀p,decP H b=some p->p.gen<zR H area g b)/\∀m:Nat,g<=m+2->(∀p,decP H b=some p->p.gen<=m)->zR H area g b<=m+2:=by
 unfold zR;cases hp:decP H b with
 |none=>exact⟨hg,aa_ _,λp h=>by simp at h,λm h _=>h⟩
 |some p=>
  have h0:=(yBr H hp).1.2.2.1;simp only;split
  ·split
   ·refine⟨by omega,by omega,λq hq=>?_,λm _ hm=>?_⟩
    ·rw[<-as_ hq];omega
    ·have:=hm p rfl;omega
   ·refine⟨by omega,by omega,λq hq=>?_,λm _ hm=>?_⟩
    ·rw[<-as_ hq];omega
    ·have:=hm p rfl;omega
  ·refine⟨hg,aa_ _,λq hq=>?_,λm h _=>h⟩;rw[<-as_ hq];omega
theorem xHd {area:Nat}(ha:area<2):∀(l:List By) (g:Nat),g%2=area ->
  (l.foldl (zR H area) g)%2=area/\g<=l.foldl (zR H area) g/\(∀b∈l,∀p,decP H b=some p->p.gen<l.foldl (zR H area) g) /\
  ∀m:Nat,g<=m+2->(∀b∈l,∀p,decP H b=some p->p.gen<=m)->l.foldl (zR H area) g<=m+2
 |[],g,hg=>⟨hg,aa_ _,λb hb=>by simp at hb,λm h _=>h⟩
 |b :: l,g,hg=>by
  obtain⟨s1,s2,s3,s4⟩:=xSl H ha hg b;obtain⟨t1,t2,t3,t4⟩:=xHd ha l (zR H area g b) s1;rw[cY_];refine⟨t1,ad_ s2 t2,λc hc p hp=>?_,λm hm hall=>t4 m (s4 m hm (hall b (bf_ ..))) λc hc=>hall c (aY_ _ hc)⟩;rcases ae_.1 hc with rfl|hc
  ·have:=s3 p hp;omega
  ·exact t3 c hc p hp
theorem xCu (n:Nat)(d:PD){area:Nat}(ha:area<2):
  xH8 H n d area%2=area/\(∀s,s<n->∀p,decP H (d.vis s)=some p->p.gen<xH8 H n d area)/\∀m:Nat,(∀s,s<n->∀p,decP H (d.vis s)=some p->p.gen<=m)->xH8 H n d area<=m+2:=by
 have h:=xHd H ha ((List.range n).map d.vis) area (by omega);rw[List.foldl_map]at h;obtain⟨h1,_,h3,h4⟩:=h;refine⟨h1,λs hs p hp=>h3 _ (az_.2 ⟨s,bW_.2 hs,rfl⟩) p hp,λm hm=>h4 m (by omega) λb hb=>?_⟩;obtain⟨s,hs,rfl⟩:=az_.1 hb;exact hm s (bW_.1 hs)
structure JInv (n:Nat)(d:PD)(j:PJ):Prop where
 ok:j.Ok
 fit:(j.secs H).length<=n/2
 at_:∀i b,(j.secs H)[i]?=some b->d.vis (j.area*(n/2)+i)=b
 old:∀s,s<n->∀p,decP H (d.vis s)=some p->p.gen<=j.gen/\(p.gen=j.gen->j.area*(n/2)<=s/\s<j.area*(n/2)+(j.secs H).length)
theorem PJ.Ok.area {j:PJ}(h:j.Ok):j.area<2:=by have:=h.par;omega
theorem xRt {area:Nat}{l:List By}{x:PJ}(h:zl H area l=some x):x.area=area/\∃b p,l.head? = some b/\decP H b=some p/\(x.gen:Int)=p.gen:=by
 unfold zl at h;split at h
 ·simp at h
 ·rename_i b t;split at h
  ·simp at h
  ·rename_i p hp;split at h
   ·simp at h
   ·split at h
    ·simp at h
    ·split at h
     ·simp at h
     ·split at h
      ·simp at h
      ·simp only at h;split at h
       ·rw[<-as_ h];have:=(yBr H hp).1.2.2.1;exact⟨rfl,b,p,rfl,hp,by simp only;omega⟩
       ·simp at h
theorem JInv.load (hH:∀c,(H c).length=16){n:Nat}{d:PD}{j:PJ}(h:JInv H n d j):zl H j.area (d.area n j.area)=some j:=by
 have bM:=h.fit;have ha:=h.ok.area;have hs:d.area n j.area=j.secs H++(d.area n j.area).drop (j.secs H).length:=by
  apply dV_;intro i;by_cases hi:i<(j.secs H).length
  ·rw[aJ_ hi];have:=h.at_ i _ (ak_ hi);rw[ak_ hi];simp[PD.area,cT_ (show i<n/2 by omega),this]
  ·rw[aF_ (by omega),cg_];congr 1;omega
 rw[hs];refine xY0 H hH h.ok _ λb hb p hp=>?_
 rw[List.head?_drop]at hb;have hlt:(j.secs H).length<n/2:=by
  rcases bi_ (j.secs H).length (n/2)with hc|hc
  ·exact hc
  ·rw[aI_ (by simp[PD.area];omega)]at hb;simp at hb
 have hv:d.vis (j.area*(n/2)+(j.secs H).length)=b:=by
  simpa[PD.area,cT_ hlt]using hb
 have hn:j.area*(n/2)+(j.secs H).length<n:=by
  have:j.area=0\/j.area=1:=by omega
  rcases this with h0|h0 <;> rw[h0] <;> omega
 have:=h.old _ hn p (by rw[hv];exact hp);intro hg;have:=this.2 hg;omega
theorem JInv.cur (hH:∀c,(H c).length=16){n:Nat}{d:PD}{j:PJ}(h:JInv H n d j):curP H n d=some j:=by
 have hl:=h.load H hH;have ha:=h.ok.area;have bM:=h.fit;have other:∀a x,a<2->a≠j.area->zl H a (d.area n a)=some x->x.gen<j.gen:=by
  intro a x gy hne hx;obtain⟨_,b,p,hb,hp,hg⟩:=xRt H hx;have h0:0<n/2:=by
   rcases Nat.eq_zero_or_pos (n/2)with h0|h0
   ·simp[PD.area,h0]at hb
   ·exact h0
  have hv:d.vis (a*(n/2))=b:=by
   rw[List.head?_eq_getElem?]at hb;simpa[PD.area,cT_ h0]using hb
  have hn:a*(n/2)<n:=by
   have:a=0\/a=1:=by omega
   rcases this with h1|h1 <;> rw[h1] <;> omega
  have ho:=h.old _ hn p (by rw[hv];exact hp);rcases Int.lt_or_eq_of_le ho.1 with h1|h1
  ·omega
  ·have:=ho.2 h1;have:a=0\/a=1:=by omega
   have:j.area=0\/j.area=1:=by omega
   rcases ‹a=0\/a=1› with h2|h2 <;> rcases this with h3|h3 <;> rw[h2,h3]at ho <;> first|omega|(have:=ho.2 h1;omega)
 unfold curP;have:j.area=0\/j.area=1:=by omega
 rcases this with h0|h0
 ·rw[h0]at hl;rw[hl];cases hx:zl H 1 (d.area n 1) with
  |none=>rfl
  |some x=>
   have:=other 1 x (by omega) (by omega) hx;simp only;rw[if_neg (by omega)]
 ·rw[h0]at hl;rw[hl];cases hx:zl H 0 (d.area n 0) with
  |none=>rfl
  |some x=>
   have:=other 0 x (by omega) (by omega) hx;simp only;rw[if_pos (by omega)]
def PD.Up (d:PD):Prop:=d.down=false/\d.lim=none
theorem PD.write_up {d:PD}(h:d.Up)(s:Nat)(b:By):d.write s b=({ d with pend:=d.pend++[(s,b)] },true):=by
 simp[PD.write,PD.oper,h.1,h.2]
theorem PD.vis_snoc (d:PD)(s:Nat)(b:By)(k:Nat):PD.vis { d with pend:=d.pend++[(s,b)] } k=if k=s then b else d.vis k:=by
 unfold PD.vis;simp only[List.reverse_append,List.reverse_cons,List.reverse_nil,aM_,aK_,bu_];by_cases hk:k=s
 ·subst hk;simp
 ·rw[if_neg hk];have:(s==k)=false:=by simp;omega
  simp only[this]
theorem PD.vis_flushed (d:PD)(k:Nat):d.flushed.vis k=d.vis k:=by simp[PD.flushed,PD.vis]
theorem PD.puts_up:∀(l:List By) (d:PD) (a:Nat),d.Up->(d.puts a l).2=true/\(d.puts a l).1.Up/\(d.puts a l).1.n=d.n/\∀k,(d.puts a l).1.vis k=if a<=k then (l[k-a]?).getD (d.vis k)else d.vis k
 |[],d,a,h=>⟨rfl,h,rfl,λk=>by simp[PD.puts]⟩
 |b :: l,d,a,h=>by
  obtain⟨h1,h2,h3,h4⟩:=PD.puts_up l { d with pend:=d.pend++[(a,b)] } (a+1) h;simp only[PD.puts,PD.write_up h];refine⟨h1,h2,h3,λk=>?_⟩;rw[h4 k,PD.vis_snoc];by_cases hk:k=a
  ·subst hk;rw[if_neg (by omega),if_pos rfl,if_pos (aa_ _),ee_];rfl
  ·rw[if_neg hk];by_cases hlt:a+1<=k
   ·rw[if_pos hlt,if_pos (by omega)];have:k-a=(k-(a+1))+1:=by omega
    rw[this,ay_]
   ·rw[if_neg hlt,if_neg (by omega)]
theorem xCm (gen:Nat):∀(k:Nat) (l:List By) (b:By),qA gen k (l++[b])=qA gen k l++[⟨2,gen,((k+l.length:Nat):Int),b⟩]
 |k,[],b=>rfl
 |k,c :: l,b=>by
  have:=xCm gen (k+1) l b;simp only[aK_,qA,this,av_];have e:k+1+l.length=k+(l.length+1):=by omega
  rw[e]
def PJ.add (j:PJ)(b:By):PJ:={ j with entries:=j.entries++[b] }
def PJ.body (j:PJ)(b:By):PRec:=⟨2,j.gen,((1+j.entries.length:Nat):Int),b⟩
theorem xEk (j:PJ)(b:By):(j.add b).secs H=j.secs H++yk H (j.body b):=by
 simp[PJ.secs,PJ.add,xG2,j6,xCm,PJ.body]
theorem xMg (hH:∀c,(H c).length=16){r:PRec}(h:r.Ok){b:By}(hb:b∈yk H r):∃p,decP H b=some p/\p.gen=r.gen:=by
 unfold yk at hb;obtain⟨i,hi,rfl⟩:=az_.1 hb;exact⟨_,xI9 H hH (xCt h (bW_.1 hi)),rfl⟩
theorem xWv {j:PJ}(h:j.Ok)(b:By)(hb:b.length<=131072)(hn:j.entries.length+1<2147483647):(j.body b).Ok:=by
 have:=h.gen;refine⟨⟨?_,?_,?_,?_,?_,?_⟩,hb⟩ <;> simp only[PJ.body] <;> omega
theorem xW7 (hH:∀c,(H c).length=16){gen:Int}:∀(rs:List PRec) (num:Int),xNy gen num rs->∀b∈rs.flatMap (yk H),∃p,decP H b=some p/\p.gen=gen
 |[],_,_,b,hb=>by simp at hb
 |r :: rs,num,h,b,hb=>by
  rw[bw_,aj_]at hb;rcases hb with hb|hb
  ·obtain⟨p,hp,hg⟩:=xMg H hH h.1 hb;exact⟨p,hp,hg.trans h.2.1⟩
  ·exact xW7 hH rs (num+1) h.2.2.2 b hb
theorem JInv.add (hH:∀c,(H c).length=16){n:Nat}{d:PD}{j:PJ}(h:JInv H n d j)(hd:d.Up)(b:By)(hb:b.length<=131072)(hn:j.entries.length+1<2147483647)
  (bM:(j.secs H).length+xO b.length<=n/2):
  (d.puts (j.area*(n/2)+(j.secs H).length) (yk H (j.body b))).2=true/\(d.puts (j.area*(n/2)+(j.secs H).length) (yk H (j.body b))).1.Up /\
  (d.puts (j.area*(n/2)+(j.secs H).length) (yk H (j.body b))).1.n=d.n/\JInv H n (d.puts (j.area*(n/2)+(j.secs H).length) (yk H (j.body b))).1 (j.add b):=by
 obtain⟨h1,h2,h3,h4⟩:=PD.puts_up (yk H (j.body b)) d (j.area*(n/2)+(j.secs H).length) hd;refine⟨h1,h2,h3,?_⟩;have ao:(yk H (j.body b)).length=xO b.length:=zx H _;have Mc:=xWv h.ok b hb hn;refine⟨⟨h.ok.par,h.ok.gen,h.ok.first,?_,?_,?_⟩,?_,?_,?_⟩
 ·simp[PJ.add];omega
 ·have:=h.ok.carried;simp[PJ.add];omega
 ·intro c hc;simp only[PJ.add,aj_,ac_]at hc;rcases hc with hc|rfl
  ·exact h.ok.ents c hc
  ·exact hb
 ·rw[xEk,af_,ao];exact bM
 ·intro i c hi;rw[xEk]at hi;rw[h4];show (if j.area*(n/2)+(j.secs H).length<=j.area*(n/2)+i then _ else d.vis (j.area*(n/2)+i))=c
  by_cases hlt:i<(j.secs H).length
  ·rw[if_neg (by omega)];rw[aJ_ hlt]at hi;exact h.at_ i c hi
  ·rw[if_pos (by omega)];rw[aF_ (by omega)]at hi;have:(j.add b).area*(n/2)+i-(j.area*(n/2)+(j.secs H).length)=i-(j.secs H).length:=by simp only[PJ.add];omega
   rw[this,hi];rfl
 ·intro s hs p hp;rw[h4]at hp;show p.gen<=j.gen/\(p.gen=j.gen->j.area*(n/2)<=s/\s<j.area*(n/2)+((j.add b).secs H).length)
  rw[xEk,af_,ao];have keep:decP H (d.vis s)=some p->p.gen<=j.gen/\(p.gen=j.gen->j.area*(n/2)<=s/\s<j.area*(n/2)+((j.secs H).length+xO b.length)):=by
   intro hq;have:=h.old s hs p hq;exact⟨this.1,λhg=>⟨(this.2 hg).1,by have:=(this.2 hg).2;omega⟩⟩
  split at hp
  ·rename_i hle;cases hx:(yk H (j.body b))[s-(j.area*(n/2)+(j.secs H).length)]? with
   |none=>rw[hx]at hp;exact keep hp
   |some c=>
    rw[hx]at hp;obtain⟨q,hq,hg⟩:=xMg H hH Mc (ck_ hx);have:q=p:=by rw[cr_,hq]at hp;exact as_ hp
    subst this;have hlt:=(ax_.1 hx).1;refine⟨by rw[hg];simp[PJ.body],λ_=>⟨by omega,by omega⟩⟩
  ·exact keep hp
theorem JInv.flushed {n:Nat}{d:PD}{j:PJ}(h:JInv H n d j):JInv H n d.flushed j:=
 ⟨h.ok,h.fit,λi b hi=>by rw[PD.vis_flushed];exact h.at_ i b hi,λs hs p hp=>h.old s hs p (by rw[PD.vis_flushed]at hp;exact hp)⟩
theorem JInv.fresh (hH:∀c,(H c).length=16){n:Nat}{d:PD}(hd:d.Up)(j:PJ)(aD:j.Ok)(bM:(j.secs H).length<=n/2)(fD:∀s,s<n->∀p,decP H (d.vis s)=some p->p.gen<j.gen):
  (d.puts (j.area*(n/2)) (j.secs H)).2=true/\(d.puts (j.area*(n/2)) (j.secs H)).1.Up/\(d.puts (j.area*(n/2)) (j.secs H)).1.n=d.n/\JInv H n (d.puts (j.area*(n/2)) (j.secs H)).1 j:=by
 obtain⟨h1,h2,h3,h4⟩:=PD.puts_up (j.secs H) d (j.area*(n/2)) hd;refine⟨h1,h2,h3,aD,bM,?_,?_⟩
 ·intro i b hi;rw[h4,if_pos (by omega)];have:j.area*(n/2)+i-j.area*(n/2)=i:=by omega
  rw[this,hi];rfl
 ·intro s hs p hp;rw[h4]at hp;have keep:decP H (d.vis s)=some p->p.gen<=j.gen/\(p.gen=j.gen->j.area*(n/2)<=s/\s<j.area*(n/2)+(j.secs H).length):=by
   intro hq;have:=fD s hs p hq;exact⟨by omega,λhg=>by omega⟩
  split at hp
  ·cases hx:(j.secs H)[s-j.area*(n/2)]? with
   |none=>rw[hx]at hp;exact keep hp
   |some c=>
    rw[hx]at hp;obtain⟨q,hq,hg⟩:=xW7 H hH _ _ (xIz aD) c (ck_ hx);have:q=p:=by rw[cr_,hq]at hp;exact as_ hp
    subst this;have hlt:=(ax_.1 hx).1;exact⟨by omega,λ_=>⟨by omega,by omega⟩⟩
  ·exact keep hp
def jF (l:List By):Nat:=(l.map λb=>xO b.length).sum
theorem xHr (gen:Nat):∀(k:Nat) (l:List By),((qA gen k l).flatMap (yk H)).length=jF l
 |_,[]=>rfl
 |k,b :: l=>by
  rw[qA,bw_,af_,xHr gen (k+1) l,zx];simp[jF]
theorem zM (j:PJ):(j.secs H).length=1+jF j.entries:=by
 unfold PJ.secs xG2 j6;rw[bw_,af_,xHr,zx];have:(qY j.gen j.first j.carried).pay.length=16:=by simp[qY,xe]
 rw[this];rfl
noncomputable def kk (n:Nat)(d:PD)(j:PJ):PJ:=⟨1-j.area,xH8 H n d (1-j.area),j.first,j.entries.length,j.entries⟩
theorem xJ8 {n:Nat}{d:PD}{j:PJ}(h:JInv H n d j)(hg:j.gen+2<=2147483647):(kk H n d j).Ok/\(kk H n d j).gen<=j.gen+2:=by
 have ha:=h.ok.area;obtain⟨g1,_,g3⟩:=xCu H n d (show 1-j.area<2 by omega);have g4:=g3 j.gen λs hs p hp=>(h.old s hs p hp).1
 exact⟨⟨g1,ad_ g4 hg,h.ok.first,h.ok.len,aa_ _,h.ok.ents⟩,g4⟩
theorem JInv.reopen (hH:∀c,(H c).length=16){n:Nat}{d:PD}{j:PJ}(h:JInv H n d j)(hd:d.Up)(hg:j.gen+2<=2147483647):
  curP H n d=some j/\(d.puts ((1-j.area)*(n/2)) ((kk H n d j).secs H)).2=true/\(d.puts ((1-j.area)*(n/2)) ((kk H n d j).secs H)).1.Up /\
  (d.puts ((1-j.area)*(n/2)) ((kk H n d j).secs H)).1.n=d.n/\JInv H n (d.puts ((1-j.area)*(n/2)) ((kk H n d j).secs H)).1 (kk H n d j):=by
 have ha:=h.ok.area;obtain⟨ho,_⟩:=xJ8 H h hg;obtain⟨_,g2,_⟩:=xCu H n d (show 1-j.area<2 by omega);refine⟨h.cur H hH,?_⟩;refine JInv.fresh H hH hd (kk H n d j) ho ?_ λs hs p hp=>?_
 ·have h1:=h.fit;rw[zM]at h1⊢;exact h1
 ·exact g2 s hs p hp
def zV:PJ:=⟨0,0,0,0,[]⟩
theorem xH7 (n:Nat)(d:PD)(area:Nat)(hz:∀s,s<n->decP H (d.vis s)=none):xH8 H n d area=area:=by
 unfold xH8;have:∀(l:List Nat),(∀s∈l,s<n)->l.foldl (λg s=>zR H area g (d.vis s)) area=area:=by
  intro l;induction l with
  |nil=>intro _;rfl
  |cons a l ih=>
   intro h;rw[cY_];have:zR H area area (d.vis a)=area:=by unfold zR;rw[hz a (h a (bf_ ..))]
   rw[this];exact ih λs hs=>h s (aY_ _ hs)
 exact this _ λs hs=>bW_.1 hs
theorem JInv.format (hH:∀c,(H c).length=16){n:Nat}{d:PD}(hd:d.Up)(hn:2<=n)(hz:∀s,s<n->decP H (d.vis s)=none):
  xH8 H n d 0=0/\(d.puts 0 (zV.secs H)).2=true/\(d.puts 0 (zV.secs H)).1.Up/\(d.puts 0 (zV.secs H)).1.n=d.n/\JInv H n (d.puts 0 (zV.secs H)).1 zV:=by
 have aD:zV.Ok:=⟨rfl,by decide,by decide,by decide,by decide,λb hb=>by simp[zV]at hb⟩;refine⟨xH7 H n d 0 hz,?_⟩;have:=JInv.fresh H hH (n:=n) hd zV aD (by rw[zM];simp[zV,jF];omega) λs hs p hp=>by rw[hz s hs]at hp;simp at hp
 simpa[zV]using this
theorem xHe (n s:Nat):decP H ((PD.fresh n).vis s)=none:=yBq H
end Go.Proofs.YtegfbhdkenkkdaaGreatDoor
namespace Go.Proofs.YtegfbhdkenkkdaaGreatDoor
open Go Go.RowKit Go.Proofs Tryz
abbrev ekN (k:Int):Value:=.int .i64 k
theorem xHh (k:Int):∀(l:List (KE Int)) (i:Nat),Instr.findNow (.int .i64) (.int .i64 k) (l.map (enE ekN)) i=some (yN k l i)
 |[],i=>rfl
 |e :: l,i=>by
  rw[au_];unfold Instr.findNow yN;simp only[enE,Instr.sameNow,if_true];by_cases h:k=e.k
  ·rw[(beq_iff_eq (a:=k) (b:=e.k)).2 h,if_pos h]
  ·have hf:(k==e.k)=false:=by rw[beq_eq_false_iff_ne];exact h
   rw[hf,if_neg h];exact xHh k l (i+1)
theorem keyN:xHw 3 ekN where
 check e k w:=MapKept.run_checkKey (k:=.int .i64 k) underlying3 (by simp[MapKept.IsKey]) e 9999
 find k l w:=by
  unfold Instr.findKey;rw[aE_,run_underlying underlying3];simp only[aw_,xHh];rfl
 bits k:=by
  unfold Instr.sameBits;simp
section
variable {K:Type} [DecidableEq K]
def getK (k:K)(l:List (KE K)):Option Value:=(yN k l 0).map (·.2)
def updL (k:K)(v:Value):List (KE K)->List (KE K)
 |[]=>[]
 |e :: es=>if k=e.k then { e with v:=v } :: es else e :: updL k v es
def putL (k:K)(v:Value)(c:Nat)(l:List (KE K)):List (KE K):=if (getK k l).isSome then updL k v l else l++[⟨k,v,c⟩]
def putC (k:K)(c:Nat)(l:List (KE K)):Nat:=if (getK k l).isSome then c else c+1
theorem xSv (k:K):∀(l:List (KE K)) (i j:Nat),(yN k l i).map (·.2)=(yN k l j).map (·.2)
 |[],_,_=>rfl
 |e :: l,i,j=>by
  unfold yN;by_cases h:k=e.k
  ·simp[h]
  ·rw[if_neg h,if_neg h];exact xSv k l (i+1) (j+1)
theorem xVc (k:K)(l:List (KE K))(i:Nat):(yN k l i).map (·.2)=getK k l:=xSv k l i 0
theorem qf (k:K)(e:KE K)(l:List (KE K)):getK k (e :: l)=if k=e.k then some e.v else getK k l:=by
 have e1:getK k (e :: l)=(if k=e.k then some (0,e.v)else yN k l (0+1)).map (·.2):=rfl;rw[e1];by_cases h:k=e.k
 ·simp[h]
 ·rw[if_neg h,if_neg h];exact xVc k l (0+1)
theorem xAh (k:K):getK k ([]:List (KE K))=none:=rfl
theorem xSj (j k:K)(v:Value):∀(l:List (KE K)),getK j (updL k v l)=if j=k/\(getK k l).isSome then some v else getK j l
 |[]=>by simp[updL,xAh]
 |e :: l=>by
  unfold updL;by_cases h:k=e.k
  ·rw[if_pos h,qf,qf,qf,if_pos h];subst h;by_cases h2:j=e.k <;> simp[h2]
  ·rw[if_neg h,qf,xSj j k v l,qf,qf,if_neg h];by_cases h2:j=e.k
   ·have:¬ j=k:=λe2=>h (e2▸h2)
    simp[h2];intro e2;exact absurd e2.symm h
   ·simp[h2]
theorem xN9 (j:K)(e:KE K):∀(l:List (KE K)),getK j (l++[e])=match getK j l with|some x=>some x|none=>if j=e.k then some e.v else none
 |[]=>by rw[aM_,qf];rfl
 |a :: l=>by
  rw[aK_,qf,xN9 j e l,qf];by_cases h:j=a.k <;> simp[h]
theorem xFb (j k:K)(v:Value)(c:Nat)(l:List (KE K)):getK j (putL k v c l)=if j=k then some v else getK j l:=by
 unfold putL;by_cases h:(getK k l).isSome
 ·rw[if_pos h,xSj];by_cases h2:j=k <;> simp[h,h2]
 ·rw[if_neg h,xN9];by_cases h2:j=k
  ·subst h2;cases hg:getK j l with
   |none=>simp
   |some x=>rw[hg]at h;exact absurd rfl h
  ·cases hg:getK j l with
   |none=>simp[h2]
   |some x=>simp[h2]
theorem xSs (k:K)(v:Value):∀(l:List (KE K)) (i j:Nat) (u:Value),yN k l i=some (j,u)->∃n e,j=i+n/\l[n]?=some e/\e.k=k/\l.modify n (λe=>{ e with v:=v })=updL k v l
 |[],i,j,u,h=>by cases h
 |e :: l,i,j,u,h=>by
  unfold yN at h;by_cases hk:k=e.k
  ·rw[if_pos hk]at h;cases h
   refine⟨0,e,rfl,rfl,hk.symm,?_⟩;simp[updL,hk]
  ·rw[if_neg hk]at h;obtain⟨n,e',h1,h2,h3,h4⟩:=xSs k v l (i+1) j u h;refine⟨n+1,e',by omega,h2,h3,?_⟩;simp[updL,hk,h4]
end
section
variable {K:Type} [DecidableEq K] {ek:K->Value} {kt:TypeId} {mt et:TypeId}
theorem xEv (hk:xHw kt ek)(hm:prog.underlying mt=some (.map kt et))(w:World)(M:Nat)(l:List (KE K))(c:Nat)(h:y4 ek w M l c)(k:K)(v:Value):
  (Instr.mapUpdate mt (.map (some M)) (ek k) v).run prog w=.ok () (w.putObj M (.map ((putL k v c l).map (enE ek)).toArray (putC k c l))):=by
 cases hf:yN k l 0 with
 |none=>
  have hg:getK k l=none:=by unfold getK;rw[hf];rfl
  unfold putL putC;rw[hg,if_neg (by simp),if_neg (by simp)];exact xEt hk hm w M l c h k v hf
 |some x=>
  obtain⟨j,u⟩:=x;have hg:getK k l=some u:=by unfold getK;rw[hf];rfl
  obtain⟨n,e,rfl,h2,h3,h4⟩:=xSs k v l 0 j u hf;rw[aq_]at hf;unfold putL putC;rw[hg];simp only[Option.isSome_some,if_true];rw[<-h4];unfold Instr.mapUpdate;rw[aE_,run_underlying hm];simp only[aw_,aE_,ks h,hk.check,hk.find,hf];have SL:((((l.map (enE ek)).toArray[n]?).map (·.key)).getD (ek k))=ek k:=by
   rw[ah_,bk_,h2];simp[enE,h3]
  rw[SL];have ax:(Instr.keyThatStays (ek k) (ek k)).run prog w=.ok (ek k) w:=by
   unfold Instr.keyThatStays;rw[hk.bits];rfl
  rw[ax];simp only[aw_];rw[dg_ _ h];have SM:((l.map (enE ek)).toArray.modify n λe=>{ e with key:=ek k,val:=v })=((l.modify n λe=>{ e with v:=v }).map (enE ek)).toArray:=by
   apply da_;intro i;rw[bK_,ah_,ah_,bk_,bk_,List.getElem?_modify];by_cases hi:n=i
   ·subst hi;rw[if_pos rfl,h2];simp[enE,h3]
   ·rw[if_neg hi];cases l[i]? <;> simp[hi]
  simp[World.putObj,SM]
end
def xU (b:By):Array Value:=(encB b).toArray
def zer:By:=List.replicate 256 0
def zP (s:Nat)(b:By):List Value:=.int .i64 s :: encB b
def y6 (s:Nat)(b:By):Array Value:=(zP s b).toArray
theorem lx_ (T:TypeId)(ρ:Operand->Value)(d:Option Tmp)(x:Operand)(ty:TypeId)(pos:String)(af:Array Edge)(g:Option (Nat×Bool))(w:World):Sem.run prog (execOp ρ ⟨d,.load T x,ty,pos,af,g⟩) w=yp prog T w (ρ x):=rfl
def jy:=lx_ 140
theorem sx_ (T:TypeId)(ρ:Operand->Value)(d:Option Tmp)(x y:Operand)(ty:TypeId)(pos:String)(af:Array Edge)(g:Option (Nat×Bool))(w:World):Sem.run prog (execOp ρ ⟨d,.store T x y,ty,pos,af,g⟩) w=yi prog T w (ρ x) (ρ y):=rfl
def vN:=sx_ 140
def xP7:=yf isAgg140 sizeOf140
theorem xOd (w:World)(g:Nat)(cells:Array Value)(h:xM w g 256=true)(h2:xy 256 cells=true):
  yi prog 140 w (.pointer (some ⟨g,0,none⟩)) (.agg cells)=.ok .skip (w.setRow g cells):=yo (by kernel_rfl) w g cells h h2
def jw:=lx_ 143
def vJ:=sx_ 143
def xJm:=yf isAgg143 sizeOf143
theorem xO9 (w:World)(g:Nat)(cells:Array Value)(h:xM w g 257=true)(h2:xy 257 cells=true):
  yi prog 143 w (.pointer (some ⟨g,0,none⟩)) (.agg cells)=.ok .skip (w.setRow g cells):=yo (by kernel_rfl) w g cells h h2
theorem jW (ρ:Operand->Value)(d:Option Tmp)(ty:TypeId)(pos:String)(af:Array Edge)(g:Option (Nat×Bool))(w:World):
  Sem.run prog (execOp ρ ⟨d,.alloc 140,ty,pos,af,g⟩) w=.ok (.value (.pointer (some ⟨w.heap.size,0,none⟩))) (w.alloc (.cells (xU zer) 140)):=by kernel_rfl
theorem vR (ρ:Operand->Value)(d:Option Tmp)(ty:TypeId)(pos:String)(af:Array Edge)(g:Option (Nat×Bool))(w:World):
  Sem.run prog (execOp ρ ⟨d,.alloc 143,ty,pos,af,g⟩) w=.ok (.value (.pointer (some ⟨w.heap.size,0,none⟩))) (w.alloc (.cells (y6 0 zer) 143)):=by kernel_rfl
theorem Tryz.info_wri:(prog.info? 143).map (λi=>(i.zero,i.size,i.bytes))=some (some (.agg (y6 0 zer)),257,264):=by kernel_rfl
theorem xZ4 (w:World):(zeroValue 140).run prog w=.ok (.agg (xU zer)) w:=by kernel_rfl
theorem uV {s:Nat}{b:By}(h:b.length=256):(zP s b).length=257:=by simp[zP,xF,h]
theorem xQl (s:Nat)(b:By)(i:Nat):(zP s b)[i]?=if i=0 then some (.int .i64 s)else (encB b)[i-1]?:=by
 cases i with
 |zero=>rfl
 |succ i=>simp[zP]
theorem xGr (s:Nat)(b:By):∀v∈zP s b,v.oneCell'=true:=by
 intro v hv;rcases ae_.1 hv with rfl|hv
 ·rfl
 ·exact ue b v hv
theorem xSq (s:Nat){b:By}(h:b.length=256):xy 257 (y6 s b)=true:=by
 unfold xy y6;rw[aA_];refine⟨by simp[uV h],?_⟩;rw[dW_];intro i hi;exact xGr s b _ (by simp)
theorem xK9 {b:By}(h:b.length=256):xy 256 (xU b)=true:=by
 unfold xy xU;rw[aA_];refine⟨by simp[xF,h],?_⟩;rw[dW_];intro i hi;exact ue b _ (by simp)
def xDk (l:List (Nat×By)):List Value:=l.flatMap λx=>zP x.1 x.2
structure PnAt (w:World)(B:Nat)(v:Value)(l:List (Nat×By)):Prop where
 own:w.ownsRow B 143 257 v l.length (xDk l)
 len:∀x∈l,x.2.length=256
theorem yd {w:World}{B t s n:Nat}{v:Value}{xs:List Value}(h:w.ownsRow B t s v n xs):∃a c,v=.slice a n c:=by
 rcases h.2 with⟨h,h0⟩|⟨g,cap,cur,h,_⟩
 ·exact⟨none,0,by rw[h,h0]⟩
 ·exact⟨_,_,h⟩
structure Dev where
 p:Nat
 M:Nat
 pv:Value
 es:List (KE Int)
 mc:Nat
 ops:Int
 lim:Int
def yK (v:Dev)(d:PD):Array Value:=#[.int .i64 d.n,.map (some v.M),v.pv,.int .i64 v.ops,.bool d.lim.isSome,.int .i64 v.lim,.bool d.down]
structure yu (B:Nat)(w:World)(v:Dev)(d:PD):Prop where
 blk:w.heap[v.p]?=some (.cells (yK v d) 66 (0,0))
 lim:∀k:Nat,d.lim=some k->v.lim=k/\k<=4611686018427387904
 nilp:d.pend=[]->v.pv=.slice none 0 0
 map:y4 ekN w v.M v.es v.mc
 dur:∀s:Nat,(getK (s:Int) v.es).getD (.agg (xU zer))=.agg (xU (d.dur s))
 durL:∀s,(d.dur s).length=256
 pend:PnAt w B v.pv d.pend
 n1:1<=d.n
 n2:d.n<=4096
 few:d.pend.length<=1000000
 pB:B<=v.p
 MB:B<=v.M
def Dev.foot (v:Dev):List Nat:=[v.p,v.M]++v.pv.ownBlock.toList
theorem Dev.p_foot (v:Dev):v.p∈v.foot:=by simp[Dev.foot]
theorem Dev.M_foot (v:Dev):v.M∈v.foot:=by simp[Dev.foot]
theorem Dev.pv_foot (v:Dev){k:Nat}(h:v.pv.ownBlock=some k):k∈v.foot:=by simp[Dev.foot,h]
theorem yu.foot_lt {B:Nat}{w:World}{v:Dev}{d:PD}(h:yu B w v d):∀k∈v.foot,B<=k/\k<w.heap.size:=by
 intro k hk;simp only[Dev.foot,aK_,aM_,ae_,aT_]at hk;rcases hk with rfl|rfl|hk
 ·exact⟨h.pB,(i_ h.blk).1⟩
 ·exact⟨h.MB,h.map.lt⟩
 ·exact aL_ h.pend.own k hk
theorem PnAt.at {w:World}{B:Nat}{v:Value}{l:List (Nat×By)}(h:PnAt w B v l):(v=.slice none 0 0/\l=[])\/∃g cap,v=.slice (some ⟨g,0,none⟩) l.length cap/\B<=g/\g<w.heap.size/\l.length<=cap/\cap<=maxLen /\
  ∀j (hj:j<l.length) i u,(zP l[j].1 l[j].2)[i]?=some u->w.cell? ⟨g,j*257+i,none⟩=some u:=by
 rcases h.own.2 with⟨rfl,h0⟩|⟨g,cap,cur,rfl,hg,aq,hle,dC,aJ,eG⟩
 ·exact .inl ⟨rfl,br_.1 h0⟩
 ·refine .inr ⟨g,cap,rfl,hg,(i_ aq).1,hle,dC,λj hj i u hu=>?_⟩;have Md:∀(l:List (Nat×By)),(∀x∈l,x.2.length=256)->∀j (hj:j<l.length),∀i,i<257->(xDk l)[j*257+i]?=(zP l[j].1 l[j].2)[i]?:=by
   intro l;induction l with
   |nil=>intro _ j hj;cases hj
   |cons x l ih=>
    intro hl j hj i hi;have e:xDk (x :: l)=zP x.1 x.2++xDk l:=rfl;have hx:=uV (s:=x.1) (hl x (by simp));cases j with
    |zero=>rw[e,bZ_,aq_,aJ_ (by omega)];rfl
    |succ j=>
     rw[e,aF_ (by omega),hx,show (j+1)*257+i-257=j*257+i by omega];exact ih (λy hy=>hl y (by simp[hy])) j (by simpa using hj) i hi
  have hi:i<257:=by have:=(ax_.1 hu).1;rwa [uV (h.len _ (bb_ hj))]at this
  have:=bc_ h.own (g:=g) rfl (j*257+i) u (by rw[Md l h.len j hj i hi];exact hu)
  rwa [an_,aq_]at this
theorem PnAt.same {w w':World}{B:Nat}{v:Value}{l:List (Nat×By)}(h:PnAt w B v l)(_hs:w.heap.size<=w'.heap.size)(hb:∀k,v.ownBlock=some k->w'.heap[k]?=w.heap[k]?):PnAt w' B v l:=by
 refine⟨⟨h.own.1,?_⟩,h.len⟩;rcases h.own.2 with h0|⟨g,cap,cur,hv,hg,aq,r⟩
 ·exact .inl h0
 ·exact .inr ⟨g,cap,cur,hv,hg,by rw[hb g (by rw[hv];rfl)];exact aq,r⟩
theorem yu.keep {B:Nat}{w w':World}{v:Dev}{d:PD}(h:yu B w v d)(hs:w.heap.size<=w'.heap.size)(hb:∀k∈v.foot,w'.heap[k]?=w.heap[k]?):yu B w' v d:=
 ⟨by rw[hb _ v.p_foot];exact h.blk,h.lim,h.nilp,by have:=h.map;unfold y4 at this⊢;rw[hb _ v.M_foot];exact this,h.dur,h.durL,h.pend.same hs λk hk=>hb k (v.pv_foot hk),h.n1,h.n2,h.few,h.pB,h.MB⟩
theorem yu.below {B:Nat}{w w':World}{v:Dev}{d:PD}(h:yu B w v d)(hb:Below w.heap.size w w'):yu B w' v d:=h.keep hb.size λk hk=>hb.block k (h.foot_lt k hk).2
theorem yu.kept {B:Nat}{w w':World}{v:Dev}{d:PD}{F:List Nat}(h:yu B w v d)(hk:Kept F w w')(hF:∀k∈v.foot,k∉F):yu B w' v d:=h.keep hk.size λk bG=>hk.block k (h.foot_lt k bG).2 (hF k bG)
theorem yu.p_ne {B w v d}(h:yu B w v d):v.p≠v.M/\∀k,v.pv.ownBlock=some k->v.p≠k/\v.M≠k:=by
 have hm:=h.map;unfold y4 at hm;refine⟨λe=>?_,λk hk=>?_⟩
 ·have h2:=h.blk;rw[e,hm]at h2;cases h2
 rcases h.pend.own.2 with⟨h0,_⟩|⟨g,cap,cur,hv,_,aq,_⟩
 ·rw[h0]at hk;cases hk
 ·rw[hv]at hk;cases hk
  refine⟨λe=>?_,λe=>?_⟩
  ·have:=h.blk;rw[e,aq]at this;cases this
  ·rw[e]at hm;rw[hm]at aq;cases aq
theorem yu.fld {B w w' v d}(h:yu B w v d)(hk:Kept [v.p] w w')(ops lim:Int)(lm dn)(hl:∀k:Nat,lm=some k->lim=k/\k<=4611686018427387904)
  (hb:w'.heap[v.p]?=some (.cells (yK { v with ops:=ops,lim:=lim } { d with lim:=lm,down:=dn }) 66 (0,0))):yu B w' { v with ops:=ops,lim:=lim } { d with lim:=lm,down:=dn }:=
 have hne:=h.p_ne
 ⟨hb,hl,h.nilp,by have hm:=h.map;unfold y4 at hm⊢;exact(hk.block v.M h.map.lt (by simp;exact λe=>hne.1 e.symm)).trans hm,h.dur,h.durL,
  h.pend.same hk.size λk bG=>hk.block k (aL_ h.pend.own k bG).2 (by simp;exact λe=>(hne.2 k bG).1 e.symm),h.n1,h.n2,h.few,h.pB,h.MB⟩
theorem zd (w g j v):Kept [g] w (w.setCell ⟨g,j,none⟩ v):=
 ⟨rfl,rfl,rfl,by simp[World.setCell],λk _ hn=>heap_setCell_other w ⟨g,j,none⟩ k v (by simpa using hn)⟩
def xOz (w:World):Dev:=⟨w.heap.size+1,w.heap.size,.slice none 0 0,[],0,0,0⟩
theorem yCs (n w)(hn:1<=n/\n<=4096):yu w.heap.size ((w.alloc (.map #[] 0)).alloc (.cells #[.int .i64 n,.map (some w.heap.size),.slice none 0 0,.int .i64 0,.bool false,.int .i64 0,.bool false] 66)) (xOz w) (PD.fresh n):=by
 refine⟨?_,?_,?_,?_,?_,?_,?_,?_,?_,?_,?_,?_⟩
 ·have:=heap_alloc_new (w.alloc (.map #[] 0)) (.cells #[.int .i64 n,.map (some w.heap.size),.slice none 0 0,.int .i64 0,.bool false,.int .i64 0,.bool false] 66);rw[al_]at this;exact this
 ·intro k hk;cases hk
 ·intro _;rfl
 ·unfold y4;show ((w.alloc (.map #[] 0)).alloc _).heap[w.heap.size]?=_
  rw[heap_alloc_old _ _ (by simp),heap_alloc_new];rfl
 ·intro s;rfl
 ·intro s;exact bN_
 ·exact⟨aP_ _ _ _ _,λx hx=>by cases hx⟩
 ·exact hn.1
 ·exact hn.2
 ·exact aV_ _
 ·exact Nat.le_succ _
 ·exact aa_ _
theorem xTc (n:Nat)(w)(hn:1<=n/\n<=4096):Calls prog 5 #[.int .i64 n] w λe w'=>
  e=.returned (.tuple #[.pointer (some ⟨w.heap.size+1,0,none⟩),.int .i64 0])/\Below w.heap.size w w'/\yu w.heap.size w' (xOz w) (PD.fresh n):=by
 have lQ:=@run_makeMap prog;have hb:=((ab_ w.heap.size w).alloc (aa_ _) (.map #[] 0)).alloc (by simp) (.cells #[.int .i64 n,.map (some w.heap.size),.slice none 0 0,.int .i64 0,.bool false,.int .i64 0,.bool false] 66);have HB:=h_ hb;have HD:=h_ (yCs n w hn);have h1:¬ (n:Int)<1:=by omega
 have h2:¬ (n:Int)>4096:=by omega
 clear hb hn;go_enter func5,ntmps5;go_wp2;go_ret2;exact⟨rfl,HB.out,HD.out⟩
theorem qI {B w v d}(h:yu B w v d):Calls prog 22 #[.pointer (some ⟨v.p,0,none⟩)] w λe w'=>e=.returned (.int .i64 d.n)/\w=w':=by
 have c0:=cell_of_row w v.p 0 _ _ _ h.blk;simp only[yK]at c0;obtain⟨n,hn⟩:∃n:Int,n=d.n:=⟨_,rfl⟩;rw[<-hn]at c0⊢;clear h hn;go_enter func22,ntmps22;go_wp2;go_ret;exact⟨rfl,rfl⟩
theorem xTb {B w v d}(h:yu B w v d):Calls prog 29 #[.pointer (some ⟨v.p,0,none⟩)] w λe w'=>e=.returned (.bool d.down)/\w=w':=by
 have c6:=cell_of_row w v.p 6 _ _ _ h.blk;simp only[yK]at c6;obtain⟨n,hn⟩:∃n,n=d.down:=⟨_,rfl⟩;rw[<-hn]at c6⊢;clear h hn;go_enter func29,ntmps29;go_wp2;go_ret;exact⟨rfl,rfl⟩
theorem xWk {B w v d}(h:yu B w v d)(s):Calls prog 134 #[.pointer (some ⟨v.p,0,none⟩),.int .i64 s] w λe w'=>e=.returned (.bool (decide (0<=s/\s<d.n)))/\w=w':=by
 have c0:=cell_of_row w v.p 0 _ _ _ h.blk;simp only[yK]at c0;obtain⟨n,hn⟩:∃n:Int,n=d.n:=⟨_,rfl⟩;rw[<-hn]at c0⊢;clear h hn;by_cases h0:0<=s
 ·by_cases h1:s<n
  ·rw[decide_eq_true ⟨h0,h1⟩];go_enter func134,ntmps134;go_wp2;go_ret;exact⟨rfl,rfl⟩
  ·rw[decide_eq_false (λh=>h1 h.2)];go_enter func134,ntmps134;go_wp2;go_ret;exact⟨rfl,rfl⟩
 ·rw[decide_eq_false (λh=>h0 h.1)];go_enter func134,ntmps134;go_wp2;go_ret;exact⟨rfl,rfl⟩
theorem xS4 {w w1 w2 g}(h:Kept [g] w w1)(h':Kept [g] w1 w2):Kept [g] w w2:=h.trans h' λ_ hk=>.inl hk
theorem xLb {B w v d}(h:yu B w v d):Calls prog 31 #[.pointer (some ⟨v.p,0,none⟩),.int .i64 (-1)] w λe w'=>e=.returned (.tuple #[])/\Kept [v.p] w w'/\yu B w' { v with lim:=0 } { d with lim:=none }:=by
 have c4:=cell_of_row w v.p 4 _ _ _ h.blk;have f4:=frozen_of_row w v.p 4 _ _ h.blk;have aV:=heap_setCell_same w v.p 4 _ _ (.bool false) h.blk;obtain⟨w1,ai⟩:∃w1,w1=w.setCell ⟨v.p,4,none⟩ (.bool false):=⟨_,rfl⟩;have hk1:Kept [v.p] w w1:=by rw[ai];exact zd w v.p 4 _
 rw[<-ai]at aV;have c5:=cell_of_row w1 v.p 5 _ _ _ aV;have f5:=frozen_of_row w1 v.p 5 _ _ aV;have aP:=heap_setCell_same w1 v.p 5 _ _ (.int .i64 0) aV;have hk2:=xS4 hk1 (zd w1 v.p 5 (.int .i64 0));have hD:=h.fld hk2 v.ops 0 none d.down (λ_ e=>by cases e) (by rw[aP];rfl);have HK:=h_ hk2;have HD:=h_ hD;simp only[yK]at c4 c5;rw[ai]at c5 f5 HK HD;clear h aV aP hk1 hk2 hD ai w1;go_enter func31,ntmps31;go_wp2;go_end0;exact⟨rfl,HK.out,HD.out⟩
def xFt (B:Nat)(v:Dev)(d:PD)(w:World)(e:Ending)(w':World):Prop:=e=.returned (.bool d.oper.2)/\Kept [v.p] w w'/\∃ops lim,yu B w' { v with ops:=ops,lim:=lim } d.oper.1
theorem xH5 {B w v d}(h:yu B w v d):Calls prog 92 #[.pointer (some ⟨v.p,0,none⟩)] w (xFt B v d w):=by
 have c3:=cell_of_row w v.p 3 _ _ _ h.blk;have c4:=cell_of_row w v.p 4 _ _ _ h.blk;have c5:=cell_of_row w v.p 5 _ _ _ h.blk;have c6:=cell_of_row w v.p 6 _ _ _ h.blk;have f3:=frozen_of_row w v.p 3 _ _ h.blk;have f5:=frozen_of_row w v.p 5 _ _ h.blk;have f6:=frozen_of_row w v.p 6 _ _ h.blk;cases hl:d.lim with
 |none=>
  have ho:d.oper=(d,true):=by unfold PD.oper;rw[hl]
  have aV:=heap_setCell_same w v.p 3 _ _ (.int .i64 (wrap64 (v.ops+1))) h.blk;have hD:=h.fld (zd w v.p 3 (.int .i64 (wrap64 (v.ops+1)))) (wrap64 (v.ops+1)) v.lim d.lim d.down h.lim (by rw[aV];rfl);have HP:=h_ (show xFt B v d w (.returned (.bool true)) (w.setCell ⟨v.p,3,none⟩ (.int .i64 (wrap64 (v.ops+1))))from ⟨by rw[ho],zd w v.p 3 _,_,_,by rw[ho];exact hD⟩);simp only[yK,hl]at c3 c4;clear h aV hD ho hl c5 c6 f5 f6;go_enter func92,ntmps92;go_wp2;go_ret;exact HP.out
 |some k=>
  obtain⟨ie,Me⟩:=h.lim k hl;cases k with
  |zero=>
   have ho:d.oper=({ d with down:=true },false):=by unfold PD.oper;rw[hl]
   have aV:=heap_setCell_same w v.p 6 _ _ (.bool true) h.blk;have hD:=h.fld (zd w v.p 6 (.bool true)) v.ops v.lim d.lim true h.lim (by rw[aV];rfl);have HP:=h_ (show xFt B v d w (.returned (.bool false)) (w.setCell ⟨v.p,6,none⟩ (.bool true))from ⟨by rw[ho],zd w v.p 6 _,_,_,by rw[ho];exact hD⟩);simp only[yK,hl,ie]at c4 c5 c6;clear h aV hD ho hl c3 f3 f5 ie Me;go_enter func92,ntmps92;go_wp2;go_ret;exact HP.out
  |succ k=>
   have ho:d.oper=({ d with lim:=some k },true):=by unfold PD.oper;rw[hl]
   have aV:=heap_setCell_same w v.p 5 _ _ (.int .i64 k) h.blk;obtain⟨w1,ai⟩:∃w1,w1=w.setCell ⟨v.p,5,none⟩ (.int .i64 k):=⟨_,rfl⟩;have hk1:Kept [v.p] w w1:=by rw[ai];exact zd w v.p 5 _
   rw[<-ai]at aV;have CF:=cell_of_row w1 v.p 3 _ _ _ aV;have Lc:=frozen_of_row w1 v.p 3 _ _ aV;have aP:=heap_setCell_same w1 v.p 3 _ _ (.int .i64 (wrap64 (v.ops+1))) aV;have hk2:=xS4 hk1 (zd w1 v.p 3 (.int .i64 (wrap64 (v.ops+1))));have hD:=h.fld hk2 (wrap64 (v.ops+1)) k (some k) d.down (λj e=>by cases e;exact⟨rfl,by omega⟩) (by rw[aP];unfold yK;rw[hl];rfl);have HP:=h_ (show xFt B v d w (.returned (.bool true)) (w1.setCell ⟨v.p,3,none⟩ (.int .i64 (wrap64 (v.ops+1))))from ⟨by rw[ho],hk2,_,_,by rw[ho];exact hD⟩);obtain⟨z,hz⟩:∃z:Int,z=((k+1:Nat):Int):=⟨_,rfl⟩;obtain⟨y,hy⟩:∃y:Int,y=(k:Int):=⟨_,rfl⟩;have hne:(z==0)=false:=by rw[beq_eq_false_iff_ne];omega
   have hw:z-1=y:=by omega
   have tG:z<=4611686018427387904:=by omega
   have Ga:0<=z:=by omega
   rw[<-hz]at ie;rw[<-hy]at ai;simp only[yK,hl,ie]at CF c4 c5;rw[ai]at CF Lc HP;clear h aV aP hk1 hk2 hD ho hl c3 c6 f3 f6 ie Me ai hz hy;go_enter func92,ntmps92;go_wp2;go_ret;exact HP.out
section
abbrev Sec:Type:={ b:By // b.length=256 }
abbrev Yl:Type:=Int×Nat×Sec
def xO0 (x:Yl):Array Value:=#[.int .i64 x.1,.agg (y6 x.2.1 x.2.2.1)]
def plain (x:Yl):Nat×By:=(x.2.1,x.2.2.1)
def secZ:Sec:=⟨zer,bN_⟩
def typed (l:List (Nat×By)):List (Nat×Sec):=l.map λx=>(x.1,if h:x.2.length=256 then ⟨x.2,h⟩else secZ)
def jH (l:List (Nat×By)):List Yl:=(List.range l.length).map λk=>(((l.length-1-k:Nat):Int),(typed l).getD (l.length-1-k) (0,secZ))
theorem qT (l):(jH l).length=l.length:=by simp[jH]
theorem xXc (l)(hl:∀x∈l,x.2.length=256)(k)(hk:k<l.length):((typed l).getD k (0,secZ)).1=l[k].1/\((typed l).getD k (0,secZ)).2.1=l[k].2:=by
 have h1:(typed l)[k]?=some (l[k].1,if h:l[k].2.length=256 then ⟨l[k].2,h⟩else secZ):=by
  unfold typed;rw[bk_,ak_ hk];rfl
 rw[List.getD_eq_getElem?_getD,h1];simp only[cr_];rw[dif_pos (hl _ (bb_ hk))];exact⟨trivial,rfl⟩
theorem xNo (l)(hl:∀x∈l,x.2.length=256)(k)(hk:k<l.length):
  ((jH l)[k]'(by rw[qT];exact hk)).1=((l.length-1-k:Nat):Int)/\plain ((jH l)[k]'(by rw[qT];exact hk))=l[l.length-1-k]'(by omega):=by
 have h2:=xXc l hl (l.length-1-k) (by omega);unfold jH plain;simp only[bS_,dM_];exact⟨trivial,Prod.ext h2.1 h2.2⟩
theorem xHv (l)(hl:∀x∈l,x.2.length=256):(jH l).map plain=l.reverse:=by
 apply dq_
 ·simp[qT]
 ·intro i h1 h2;have hi:i<l.length:=by simpa[qT]using h1
  rw[bS_,(xNo l hl i hi).2,List.getElem_reverse]
theorem xFk (ro)(ρ:Operand->Value)(d x)(ty:TypeId)(pos af g w):
  Sem.run prog (Oper.semAt ro ρ ⟨d,.load 143 x,ty,pos,af,g⟩) w=yp prog 143 w (ρ x):=by
 rw[by_ _ _ _ (by intro c h;cases h)]
 exact jw ..
theorem xLy (ro)(ρ:Operand->Value)(d x y)(ty:TypeId)(pos af g w):
  Sem.run prog (Oper.semAt ro ρ ⟨d,.store 143 x y,ty,pos,af,g⟩) w=yi prog 143 w (ρ x) (ρ y):=by
 rw[by_ _ _ _ (by intro c h;cases h)]
 exact vJ ..
theorem xPy (ro)(ρ:Operand->Value)(d x)(ty:TypeId)(pos af g w):
  Sem.run prog (Oper.semAt ro ρ ⟨d,.load 140 x,ty,pos,af,g⟩) w=yp prog 140 w (ρ x):=by
 rw[by_ _ _ _ (by intro c h;cases h)]
 exact jy ..
theorem xM0 (ro)(ρ:Operand->Value)(d x y)(ty:TypeId)(pos af g w):
  Sem.run prog (Oper.semAt ro ρ ⟨d,.store 140 x y,ty,pos,af,g⟩) w=yi prog 140 w (ρ x) (ρ y):=by
 rw[by_ _ _ _ (by intro c h;cases h)]
 exact vN ..
theorem xM3 (ro)(ρ:Operand->Value)(d)(ty:TypeId)(pos af g w):
  Sem.run prog (Oper.semAt ro ρ ⟨d,.alloc 143,ty,pos,af,g⟩) w=.ok (.value (.pointer (some ⟨w.heap.size,0,none⟩))) (w.alloc (.cells (y6 0 zer) 143)):=by
 rw[by_ _ _ _ (by intro c h;cases h)]
 exact vR ..
theorem xQb (va vn vc w):Calls prog 168 #[.slice va vn vc] w λr w'=>r=.returned (.func (.func 204) #[] #[.pointer (some ⟨w.heap.size,0,none⟩)])/\w.alloc (.cells #[.slice va vn vc] 64)=w':=by
 go_enter func168,ntmps168;go_wp2;go_ret;exact⟨rfl,rfl⟩
attribute [local go_sem ↓] xFk
attribute [local go_sem] xJm xh xf xa x9
theorem xZ5 {w g off s b}(hb:b.length=256)(h:∀i u,(zP s b)[i]?=some u->w.cell? ⟨g,off+i,none⟩=some u):xo w ⟨g,off,none⟩ 257=true/\xm w ⟨g,off,none⟩ 257=y6 s b:=by
 have:=xW (w:=w) (a:=⟨g,off,none⟩) (cs:=zP s b) (λj v hj=>by rw[an_];exact h j v hj);rw[uV hb]at this;exact this
theorem yDm (n b0 B v l w)(h0:w.cell? ⟨b0,0,none⟩=some v)(hp:PnAt w B v l)(hl:l.length<=1000000)(hn:1<=n):
  SeqStopsK Fence.wide n prog 204 #[.pointer (some ⟨b0,0,none⟩)] xO0 (Below w.heap.size) (λxs=>xs.map plain=l.reverse) (λpre=>∃k,pre.map plain=l.reverse.take k) l.length w:=λy J Jx W hW hJ Mf hY hj=>by
 have ao:=hp.len;have bf:b0<w.heap.size:=block_lt_of_cell h0;have HP:=h_ hp;have HW:=h_ hW;have HY:=h_ hY;have HJ:=h_ hj;have c0:W.cell? ⟨b0,0,none⟩=some v:=(hW.cell bf).trans h0;clear hp hW hY hj hJ Mf;refine callsIn_of_wp func204 rfl trivial ?_ rfl;simp only[ntmps204,aW_,av_,bm_,Nat.reduceAdd,Nat.reduceSub,cl_,cm_,cv_,cp_,aM_,aK_];rcases HP.at with⟨rfl,rfl⟩|⟨g,cap,rfl,pD,eH,hle,dC,aE⟩
 ·gi_wp2
  gi_loopw [3] (λu wr=>u=.int .i64 (-1)/\J [] wr) (λ_ _=>0)
  case atStart=>exact⟨rfl,HJ.out⟩
  case round=>
   obtain⟨rfl,hjr⟩:=hrel
   gi_wp2
   go_end0;exact⟨⟨_,rfl⟩,.inl ⟨[],rfl,hjr⟩⟩
 ·have hg:g<W.heap.size:=ap_ eH HW.size;have HC:Hid (∀j (hj:j<l.length) i u,(zP l[j].1 l[j].2)[i]?=some u->w.cell? ⟨g,j*257+i,none⟩=some u):=h_ aE;have ij:=h_ ao;obtain⟨N,hN⟩:∃N,N=l.length:=⟨_,rfl⟩;rw[<-hN]at hl hle c0 HY h0;have HN:=h_ hN;have Qs:(N:Int)<=1000000:=by omega
  clear aE ao hN h0
  gi_wp2
  gi_loopw [3] (λu wr=>∃k:Nat,u=.int .i64 ((N:Int)-1-k)/\k<=N/\Hid (J ((jH l).take k) wr)/\Hid (Below w.heap.size w wr)) (λu _=>(intOf u+1).toNat)
  case atStart=>exact⟨0,by go_num,aV_ _,HJ,HW⟩
  case round=>
   obtain⟨k,rfl,hk,AH,HB⟩:=hrel;have dN:=(HB.cell (p:=⟨b0,0,none⟩) bf).trans ((HW.cell (p:=⟨b0,0,none⟩) bf).symm.trans c0);by_cases hlt:k<N
   ·have hge:(0:Int)<=(N:Int)-1-k:=by omega
    obtain⟨j,hj⟩:∃j:Nat,j=N-1-k:=⟨_,rfl⟩;have Wl:(N:Int)-1-k=(j:Int):=by omega
    have hjN:j<N:=by omega
    have sC:j<l.length:=by rw[<-HN.out];exact hjN
    obtain⟨o1,d1⟩:=xZ5 (w:=wr) (g:=g) (off:=j*257) (s:=l[j].1) (b:=l[j].2) (ij.out _ (bb_ sC)) (λi u hu=>(HB.cell (p:=⟨g,j*257+i,none⟩) eH).trans (HC.out j sC i u hu));have WI:k<(jH l).length:=by rw[qT,<-HN.out];exact hlt
    have a_:=xNo l ij.out k (by rw[<-HN.out];exact hlt);obtain⟨x,hx⟩:∃x,x=(jH l)[k]:=⟨_,rfl⟩;have m9:N-1-k<l.length:=by rw[<-HN.out];omega
    have fP:x.1=(j:Int):=by rw[hx,a_.1,<-HN.out,hj]
    have eN:y6 x.2.1 x.2.2.1=y6 l[j].1 l[j].2:=by
     have h2:plain x=l[j]:=by
      rw[hx,a_.2];congr 1;rw[<-HN.out,hj]
     rw[<-h2];rfl
    rw[<-eN]at d1;have p8:Hid ((jH l).take (k+1)=(jH l).take k++[x]):=h_ (by rw[am_ WI,hx]);have hpl:((jH l).take k).length<N:=by rw[ai_];omega
    obtain⟨fn,tmps,assign,body,hy,hR⟩:=HY.out _ x wr AH.out hpl;unfold xO0 at hy;rw[fP]at hy;rw[Wl];have hjz':(j:Int)<(N:Int):=by omega
    clear a_ fP eN hpl hx m9 WI sC hj AH hge;generalize y6 x.2.1 x.2.2.1=cs at d1 hy
    gi_wp2
    refine hR.mono ?_;rintro e W3 (⟨rfl,E4,dp⟩|⟨rfl,ot⟩)
    ·have ay:=h_ (HB.trans (dp.mono (aa_ _)));have Au:=h_ E4;clear hy hR d1 o1 dN dp E4
     gi_wp2
     go_roundw
     case rel=>exact⟨k+1,by congr 1;omega,by omega,by rw[p8.out];exact Au,ay⟩
     case measure=>simp only[intOf];omega
    ·have AI:=h_ ot;clear hy hR d1 o1 dN ot
     gi_wp2
     refine bodyPost_ret (results_none rfl _ _ _) rfl ?_;refine⟨⟨_,rfl⟩,.inr ⟨(jH l).take k++[x],⟨k+1,?_⟩,AI.out⟩⟩;rw[<-p8.out,du_,xHv l ij.out]
   ·obtain rfl:k=N:=by omega
    have hge:¬ (0:Int)<=(k:Int)-1-k:=by omega
    gi_wp2
    go_end0;have HT:(jH l).take k=jH l:=ar_ (by rw[qT,<-HN.out];exact aa_ _);exact⟨⟨_,rfl⟩,.inl ⟨jH l,xHv l ij.out,HT▸AH.out⟩⟩
end
section
attribute [local go_sem ↓] xFk xLy xPy xM0 xM3 jy vN jw vJ vR jW
attribute [local go_sem] xJm xO9 xP7 xOd xh xf xa x9 xu zQ xq xx
attribute [local go_sem] Oper.semAt_some
structure VisI (w:World)(s b:Nat)(pre:List Yl)(X:World):Prop where
 sz:b<=X.heap.size
 i:X.heap[w.heap.size]?=some (.cells #[.int .i64 s] 3 (0,0))
 c:X.heap[w.heap.size+1]?=some (.cells (xU zer) 140 (0,0))
 bl:Below w.heap.size w X
 ne:∀x∈pre,x.2.1≠s
structure VisX (w:World)(s:Nat)(pre:List Yl)(X:World):Prop where
 bl:Below w.heap.size w X
 hit:∃p x,pre=p++[x]/\(∀y∈p,y.2.1≠s)/\x.2.1=s/\X.heap[w.heap.size+1]?=some (.cells (xU x.2.2.1) 140 (0,0))
theorem qN {A B:World}{b k:Nat}{o row}(hg:A.grownBy B row)(hr:∀r,row=some r->b<=r/\∃o:Obj,A.heap[r]?=some o/\o.isCells=false)(hk:A.heap[k]?=some o)(ho:o.isCells=true):B.heap[k]?=some o:=
 (hg.block k (i_ hk).1 (λe=>by
  obtain⟨_,o',cI,nT⟩:=hr k e.symm;rw[hk]at cI;cases cI;rw[ho]at nT;cases nT)).trans hk
theorem VisI.own (w s b)(hb:w.heap.size<=b):OwnFrom b (VisI w s b):=λpre A B row h hg hr=>
 ⟨ad_ h.sz hg.size,qN hg hr h.i rfl,qN hg hr h.c rfl,h.bl.grown hg h.bl.size (λk e=>by have:=(hr k e).1;omega),h.ne⟩
theorem VisX.own (w s b)(hb:w.heap.size<=b):OwnFrom b (VisX w s):=λpre A B row h hg hr=>
 ⟨h.bl.grown hg h.bl.size (λk e=>by have:=(hr k e).1;omega),by
  obtain⟨p,x,h1,h2,h3,h4⟩:=h.hit;exact⟨p,x,h1,h2,h3,qN hg hr h4 rfl⟩⟩
def visT (vp n0 s:Nat)(pa:Option Addr)(pn pc b0 g:Nat)(x:Yl):Array Value:=#[.pointer (some ⟨vp,0,none⟩),.int .i64 s,undef,.pointer (some ⟨n0,0,none⟩),.pointer (some ⟨n0+1,0,none⟩),undef,.pointer (some ⟨g,0,none⟩),.pointer (some ⟨vp,0,none⟩),.pointer (some ⟨vp,0,none⟩),.pointer (some ⟨vp,2,none⟩),.slice pa pn pc,
 .func (.func 204) #[] #[.pointer (some ⟨b0,0,none⟩)],.int .i64 x.1,.agg (y6 x.2.1 x.2.2.1),undef,undef,undef,undef,undef,undef,undef,undef,undef,undef,undef,undef]
def VisA (b vp n0 s:Nat)(pa:Option Addr)(pn pc b0:Nat)(x:Yl)(a:Act)(X:World):Prop:=∃g,b<=g/\a={ tmps:=visT vp n0 s pa pn pc b0 g x,defers:=[] }/\X.heap[g]?=some (.cells (y6 x.2.1 x.2.2.1) 143 (0,0))
theorem xYb (p q u v)(t:Array Value):(((#[p,q]:Array Tmp).zip #[u,v]).foldl (λt (p,v)=>t.setIfInBounds p v) t)=(t.setIfInBounds p u).setIfInBounds q v:=by
 simp
theorem xZ8 {d:PD}{s}{xs:List Yl}(hS:xs.map plain=d.pend.reverse)(hn:∀x∈xs,x.2.1≠s):d.vis s=d.dur s:=by
 unfold PD.vis;have:d.pend.reverse.find? (λp=>p.1==s)=none:=by
  rw[cs_,<-hS];intro y hy;obtain⟨x,hx,rfl⟩:=az_.1 hy;simpa[plain]using hn x hx
 rw[this]
theorem xZ7 {d:PD}{s k p x}(hS:(p++[x]).map plain=d.pend.reverse.take k)(hn:∀y∈p,y.2.1≠s)(hx:x.2.1=s):d.vis s=x.2.2.1:=by
 unfold PD.vis;have h1:d.pend.reverse=(p.map plain++[plain x])++d.pend.reverse.drop k:=by
  have:=bM_ k d.pend.reverse;rw[<-hS]at this;simpa using this.symm
 have h2:(p.map plain).find? (λp=>p.1==s)=none:=by
  rw[cs_];intro y hy;obtain⟨z,hz,rfl⟩:=az_.1 hy;simpa[plain]using hn z hz
 have:d.pend.reverse.find? (λp=>p.1==s)=some (plain x):=by
  rw[h1,dU_,dU_,h2];simp[plain,hx]
 rw[this];rfl
theorem zN {w g n T cs}(h:w.heap[g]?=some (.cells cs T (0,0)))(hn:cs.size=n):xM w g n=true:=by
 unfold xM;rw[h];simp[hn]
theorem xKq {w g T s b fr}(hb:b.length=256)(h:w.heap[g]?=some (.cells (y6 s b) T fr)):xo w ⟨g,1,none⟩ 256=true/\xm w ⟨g,1,none⟩ 256=xU b:=by
 have:=xW (w:=w) (a:=⟨g,1,none⟩) (cs:=encB b) (λj v hj=>by
  rw[an_,cell_of_row w g (1+j) _ _ _ h];unfold y6;rw[ah_,xQl,if_neg (by omega),<-hj];congr 1;omega)
 rw[xF,hb]at this;exact this
def yDt (d:PD)(s:Nat)(w:World)(e:Ending)(w':World):Prop:=e=.returned (.agg (xU (d.vis s)))/\Below w.heap.size w w'
theorem xQn {B w v d}(h:yu B w v d)(s)(hs:s<d.n):Calls prog 135 #[.pointer (some ⟨v.p,0,none⟩),.int .i64 s] w (yDt d s w):=by
 obtain⟨W0,fC⟩:∃W0,W0=(w.alloc (.cells #[.int .i64 s] 3)).alloc (.cells (xU zer) 140):=⟨_,rfl⟩;have bf:Below w.heap.size w W0:=by rw[fC];exact((ab_ _ _).alloc (aa_ _) _).alloc (by simp) _
 have lh:W0.heap.size=w.heap.size+2:=by rw[fC];simp
 have hi0:W0.heap[w.heap.size]?=some (.cells #[.int .i64 s] 3 (0,0)):=by rw[fC,heap_alloc_old _ _ (by simp),heap_alloc_new]
 have hc0:W0.heap[w.heap.size+1]?=some (.cells (xU zer) 140 (0,0)):=by
  have:=heap_alloc_new (w.alloc (.cells #[.int .i64 s] 3)) (.cells (xU zer) 140);rw[fC];simpa using this
 have cK:=h.below bf;have c2:=cell_of_row W0 v.p 2 _ _ _ cK.blk;simp only[yK]at c2;obtain⟨pn,gY⟩:∃n,n=d.pend.length:=⟨_,rfl⟩;obtain⟨pa,pc,me⟩:∃a c,v.pv=.slice a pn c:=by rw[gY];exact yd h.pend.own
 have mf:=h_ h.few;have ft:=h_ gY;clear gY;have E5:=h_ cK.pend;have HD:=h_ h;have ww:=h_ hi0;have AJ:=h_ hc0;have db:=h_ bf;have ee:=h_ lh;have nj:=h_ me;rw[me]at c2;have J5:W0.cell? ⟨v.p,2,none⟩=some (.slice pa pn pc):=c2;rw[fC]at J5;clear c2 h bf hi0 hc0 cK me lh;refine(callsIn_wide (n:=4)).1 (callsIn_of_wp_marks func135 rfl trivial ?_ rfl);simp only[ntmps135,aW_,av_,bm_,Nat.reduceAdd,Nat.reduceSub,cl_,cm_,cv_,cp_,aM_,aK_];refine wpIn_wide.2 ?_;go_wp2_with fail;rw[<-fC];clear fC J5;refine(xQb pa pn pc W0).mono ?_;rintro r w1 ⟨rfl,rfl⟩;go_wp2;obtain⟨b0,bf⟩:∃b0,b0=W0.heap.size:=⟨_,rfl⟩;have be:=heap_alloc_new W0 (.cells #[.slice pa pn pc] 64);have aM:Below W0.heap.size W0 (W0.alloc (.cells #[.slice pa pn pc] 64)):=(ab_ _ _).alloc (aa_ _) _;have aK:(W0.alloc (.cells #[.slice pa pn pc] 64)).heap.size=W0.heap.size+1:=al_ ..;generalize W0.alloc (.cells #[.slice pa pn pc] 64)=W1 at be aM aK⊢;have c0:=cell_of_row W1 W0.heap.size 0 _ _ _ be;rw[<-bf]at c0⊢;have Mg:PnAt W1 B (.slice pa pn pc) d.pend:=by
  have:=E5.out;rw[nj.out]at this;exact this.same aM.size λk hk=>aM.block k (aL_ this.own k hk).2
 have ax:=yDm 3 b0 B (.slice pa pn pc) d.pend W1 c0 Mg mf.out (by omega);have Mh:=h_ ax;have hI:VisI w s W1.heap.size [] W1:=⟨aa_ _,(aM.block _ (by have:=ee.out;omega)).trans ww.out,(aM.block _ (by have:=ee.out;omega)).trans AJ.out,db.trans (aM.mono db.size),λx hx=>by cases hx⟩;have HI:=h_ hI;have ai:w.heap.size<=W1.heap.size:=hI.bl.size;have nX:w.heap.size+1<W1.heap.size:=by have:=ee.out;omega
 have Ds:Hid (b0=W0.heap.size):=h_ bf;clear ax hI Mg c0 be aM bf;refine(wpIn_wide (n:=4)).1 (wpIn_rangeFunc_ownH rfl (by omega) (gf:=204) rfl trivial (enters_of func204 (by kernel_rfl) rfl) Mh.out belowK_t (belowK_b (aa_ _)) (ab_ _ _) (λ_=>rfl)
  (VisI w s W1.heap.size) (λc pre X=>c=.ret/\VisX w s pre X) (VisI.own w s _ ai) (λc pre A B row h hg hr=>⟨h.1,VisX.own w s _ ai pre A B row h.2 hg hr⟩) HI.out (VisA (w.heap.size+2) v.p w.heap.size s pa pn pc b0) (λx a' _ A B row ⟨g,h0,h1,h2⟩ hg hr=>⟨g,h0,h1,qN hg hr h2 rfl⟩) ?assign ?body ?done ?stop)
 case assign=>
  intro l pre x W K hI hK;obtain⟨xi,xs,xb⟩:=x;unfold xO0;rw[xYb]
  change Code.wpIn _ _ _ _ _ { tmps:=#[.pointer (some ⟨v.p,0,none⟩),.int .i64 s,undef,.pointer (some ⟨w.heap.size,0,none⟩),.pointer (some ⟨w.heap.size+1,0,none⟩),undef,undef,.pointer (some ⟨v.p,0,none⟩),.pointer (some ⟨v.p,0,none⟩),.pointer (some ⟨v.p,2,none⟩),.slice pa pn pc,
   .func (.func 204) #[] #[.pointer (some ⟨b0,0,none⟩)],.int .i64 xi,.agg (y6 xs xb.1),undef,undef,undef,undef,undef,undef,undef,undef,undef,undef,undef,undef],defers:=[] } W
  have aM:=(ab_ W1.heap.size W).alloc hI.sz (.cells (y6 xs xb.1) 143);have tw:w.heap.size+2<=W.heap.size:=by have:=(i_ hI.c).1;omega
  have AK:=hK { tmps:=visT v.p w.heap.size s pa pn pc b0 W.heap.size (xi,xs,xb),defers:=[] } (W.alloc (.cells (y6 xs xb.1) 143))
   ⟨aM.size,λk o _ hk _=>(heap_alloc_old _ _ (i_ hk).1).trans hk⟩ aM
   ⟨ad_ hI.sz aM.size,(heap_alloc_old _ _ (i_ hI.i).1).trans hI.i,(heap_alloc_old _ _ (i_ hI.c).1).trans hI.c,hI.bl.alloc hI.bl.size _,hI.ne⟩
   ⟨W.heap.size,tw,rfl,heap_alloc_new _ _⟩
  unfold visT at AK;have CG:=h_ AK;have hf:xy 257 (y6 xs xb.1)=true:=xSq xs xb.2;have hz:(y6 0 zer).size=257:=rfl;clear hK AK aM hI tw Mh HI nj HD E5 ww AJ db ee mf ft Ds
  gi_wp2
  exact CG.out
 case body=>
  intro l pre x a' W hl hL hI hA j_;obtain⟨xi,xs,xb⟩:=x;obtain⟨g,hg2,rfl,pM⟩:=hA;unfold visT;obtain⟨o1,d1⟩:=xKq (w:=W) (g:=g) xb.2 pM;have c6:W.cell? ⟨g,0,none⟩=some (.int .i64 xs):=cell_of_row W g 0 _ _ _ pM;have c3:=cell_of_row W w.heap.size 0 _ _ _ hI.i;have ah:=zN hI.c (show (xU zer).size=256 from rfl);have hf:xy 256 (xU xb.1)=true:=xK9 xb.2;have dx:=setRow_heap W (w.heap.size+1) _ (xU xb.1) _ _ hI.c;have fQ:=h_ dx;have AL:=h_ hI;have HL:=h_ hL;have nQ:=h_ hl;clear hL hl hI pM j_ Mh HI nj HD E5 ww AJ db ee mf ft Ds dx;simp only at c6 o1 d1 hf fQ⊢;by_cases hq:xs=s
  ·subst hq
   gi_wp2
   refine⟨⟨by simp[World.setRow],λk o hk ho _=>(setRow_other _ _ _ _ (by omega)).trans ho⟩,rfl,xK AL.bl (by omega) _,pre,(xi,xs,xb),rfl,AL.ne,rfl,fQ.out⟩
  ·have hqz:((xs:Int)==s)=false:=by rw[beq_eq_false_iff_ne];omega
   gi_wp2
   refine⟨KeepsFrom.refl _ _,ab_ _ _,AL.sz,AL.i,AL.c,AL.bl,λx hx=>?_⟩;rcases aj_.1 hx with hx|hx
   ·exact AL.ne x hx
   ·rw[ac_.1 hx];exact hq
 case done=>
  intro D xs W hD hS hI hK;have Qy:=HD.below hI.bl;have GR:d.vis s=d.dur s:=xZ8 hS hI.ne;have cW:∀z:x8 W,(Instr.lookup 63 (.map (some v.M)) (.int .i64 s) false).run prog z.1=.ok (.agg (xU (d.vis s))) z.1:=λz=>by
   have h1:=xF4 keyN underlying63 (.agg (xU zer)) xZ4 z.1 v.M v.es v.mc (by have:=Qy.map;unfold y4 at this⊢;exact(z.2.block _ (i_ this).1).trans this) (s:Int);have h2:((yN (s:Int) v.es 0).map (·.2)).getD (.agg (xU zer))=.agg (xU (d.vis s)):=by rw[GR];exact Qy.dur s
   rw[h2]at h1;exact h1
  have dO:∀z:x8 W,z.1.cell? ⟨v.p,1,none⟩=some (.map (some v.M)):=λz=>z.cell (cell_of_row W v.p 1 _ _ _ Qy.blk)
  have aJ:∀z:x8 W,z.1.cell? ⟨w.heap.size,0,none⟩=some (.int .i64 s):=λz=>z.cell (cell_of_row W w.heap.size 0 _ _ _ hI.i)
  have ah:xM W (w.heap.size+1) 256=true:=zN hI.c (show (xU zer).size=256 from rfl);have ao:(d.vis s).length=256:=by rw[GR];exact HD.durL s
  have hf:xy 256 (xU (d.vis s))=true:=xK9 ao;have AL:=h_ hI;have HK:=h_ hK;have tH:w.heap.size+1<D:=by omega
  generalize gV:xU (d.vis s)=cv at cW hf;have Qz:=h_ gV;have ij:=h_ ao;clear gV ao GR hI hK hS Qy Mh HI nj HD E5 ww AJ db ee mf ft Ds;go_wp2;refine xp [0,1,2,3,4,5] [6] (λw'=>∃z:x8 W,w'=z.1) (by kernel_rfl) (by kernel_rfl) (by kernel_rfl) ⟨⟨_,(ab_ _ _).drew⟩,rfl⟩ ?_;simp only[o_]
  repeat (go_big_quiet_step (fail))
  refine wpQuiet_nil ?_;clear cW dO aJ;refine xB [6] _ _ (by kernel_rfl) ?_;simp only[o_];go_wp2;refine ag_ ?_;go_wp2;have AM:(W.setRow (w.heap.size+1) cv).drew.heap[D]?=some (.deferred (some [])):=(setRow_other _ _ _ _ (by omega)).trans HK.out;refine⟨by simp,.inl ⟨_,_,rfl,run_takeDeferred AM,?_⟩⟩;have QA:(((W.setRow (w.heap.size+1) cv).drew).putObj D (.deferred none)).heap[w.heap.size+1]?=some (.cells cv 140 (0,0)):=(aB_ (by omega)).trans (setRow_heap W _ _ _ _ _ AL.c);have aG:Below w.heap.size w (((W.setRow (w.heap.size+1) cv).drew).putObj D (.deferred none)):=(xK AL.bl (by omega) cv).drew.grown (grownBy_putObj' _ D _) (xK AL.bl (by omega) cv).drew.size (λk e=>by cases e;omega);refine⟨.agg cv,results_cell_row results135 _ _ (w.heap.size+1) _ _ _ _ rfl QA underlying140 rfl (by rw[<-Qz.out];unfold xU;rw[aW_,xF,ij.out];kernel_rfl),by rw[Qz.out],aG⟩
 case stop=>
  rintro D c pre W hD SN⟨rfl,hX⟩ hK;obtain⟨p,x,rfl,hp,tF,ah⟩:=hX.hit;obtain⟨k,hk⟩:=SN;have HV:=h_ (xZ7 hk hp tF);have HK:=h_ hK;have HB:=h_ hX.bl;have HR:=h_ ah;have tH:w.heap.size+1<D:=by omega
  clear hk hK hX ah Mh HI nj HD E5 ww AJ db ee mf ft Ds;refine wpIn_wide.2 ?_;go_wp2;refine⟨by simp,.inl ⟨_,_,rfl,run_takeDeferred HK.out,?_⟩⟩;have QA:(W.putObj D (.deferred none)).heap[w.heap.size+1]?=some (.cells (xU x.2.2.1) 140 (0,0)):=(aB_ (by omega)).trans HR.out;have aG:Below w.heap.size w (W.putObj D (.deferred none)):=HB.grown (grownBy_putObj' _ D _) HB.size (λk e=>by cases e;omega);refine⟨.agg (xU x.2.2.1),results_cell_row results135 _ _ (w.heap.size+1) _ _ _ _ rfl QA underlying140 rfl (by unfold xU;rw[aW_,xF,x.2.2.2];kernel_rfl),by rw[HV.out],aG⟩
end
section
attribute [local go_sem ↓] jy vN jw vJ vR jW
attribute [local go_sem] xJm xO9 xP7 xOd xh xf xa x9 xu zQ xq xx
theorem xVz {B w v d}(h:yu B w v d)(s):(d.vis s).length=256:=by
 unfold PD.vis;cases hf:d.pend.reverse.find? (λp=>p.1==s) with
 |none=>exact h.durL s
 |some p=>exact h.pend.len p (List.mem_reverse.1 (ct_ hf))
def yC7 (d:PD)(s:Nat)(w:World)(e:Ending)(w':World):Prop:=Below w.heap.size w w'/\∃g,e=.returned (.tuple #[.slice (some ⟨g,0,none⟩) 256 256,.int .i64 0])/\w.heap.size<=g/\w'.heap[g]?=some (.cells (xU (d.vis s)) 140 (0,0))
theorem xZy {B w v d}(h:yu B w v d)(s)(hs:s<d.n)(hd:d.down=false):Calls prog 103 #[.pointer (some ⟨v.p,0,none⟩),.int .i64 s] w (yC7 d s w):=by
 have c6:=cell_of_row w v.p 6 _ _ _ h.blk;simp only[yK,hd]at c6;have hh:=xWk h (s:Int);rw[decide_eq_true (show (0:Int)<=s/\(s:Int)<d.n by omega)]at hh;have HH:=h_ hh;have HV:=h_ (xQn h s hs);have hf:=xK9 (xVz h s);clear h hh hs hd;go_enter func103,ntmps103;go_wp2_with fail;refine HH.mono ?_;rintro e w1 ⟨rfl,rfl⟩;go_wp2_with fail;refine HV.mono ?_;rintro e w1 ⟨rfl,aa⟩;have hz:(xU zer).size=256:=rfl;have HB:=h_ (aa.alloc aa.size (.cells (xU (d.vis s)) 140));have HG:=h_ aa.size;have HR:=h_ (heap_alloc_new w1 (.cells (xU (d.vis s)) 140));clear aa;obtain⟨cv,gV⟩:∃cv,cv=xU (d.vis s):=⟨_,rfl⟩;rw[<-gV]at hf HB HR⊢;have Qz:=h_ gV;clear gV;go_wp2;go_ret2;exact⟨HB.out,w1.heap.size,rfl,HG.out,by rw[<-Qz.out];exact HR.out⟩
end
section
theorem xE7 {place:Nat->Option (Nat×Nat)}{cells i off size v rest}(hp:place i=some (off,size))(hs:v.cells.size=size)(hf:off+size<=cells.size):
  Instr.fill place cells ((i,v) :: rest)=Instr.fill place (v.cells.zipIdx.foldl (λcs (c,j)=>cs.setIfInBounds (off+j) c) cells) rest:=by
 rw[Instr.fill,hp];simp only[hs];rw[if_neg];simp;omega
theorem zD {P t w parts cells}(h:P.built t parts.toList=some cells):zB P t w parts=.ok (.value (.agg cells)) w:=by
 unfold zB;rw[aE_,run_build w t parts cells h];rfl
theorem zerL:zer.length=256:=bN_
theorem yCj (a s:Nat)(b):(y6 a b).setIfInBounds 0 (.int .i64 s)=y6 s b:=by simp[y6,zP]
theorem yBb (A:Array Value)(z):(Value.int .i64 z).cells.zipIdx.foldl (λcs (c,j)=>cs.setIfInBounds (0+j) c) A=A.setIfInBounds 0 (.int .i64 z):=rfl
def yCq (i:Nat):Option (Nat×Nat):=#[(0,1),(1,256)][i]?
theorem yF2 (parts):prog.built 143 parts=Instr.fill yCq (y6 0 zer) parts:=by kernel_rfl
theorem yCo (s){b}(hb:b.length=256):(xU b).zipIdx.foldl (λcs (c,j)=>cs.setIfInBounds (1+j) c) (y6 s zer)=y6 s b:=by
 have h:=xEu (encB b) 0 1 [.int .i64 s] (encB zer) [] rfl (by rw[xF,xF,hb,zerL]);unfold xU;rw[<-dR_,dD_];simpa[y6,zP]using h
theorem xBo {s b}(h:b.length=256):(y6 s b).size=257:=by unfold y6;rw[aW_];exact uV h
theorem yFa (w)(s:Nat){b}(hb:b.length=256):zB prog 143 w #[(0,.int .i64 s),(1,.agg (xU b))]=.ok (.value (.agg (y6 s b))) w:=zD (by
 show prog.built 143 [(0,.int .i64 s),(1,.agg (xU b))]=_
 rw[yF2];rw[xE7 (off:=0) (size:=1) rfl rfl (by rw[xBo zerL];omega)];have e:=(yBb (y6 0 zer) (s:Int)).trans (yCj 0 s zer);rw[e];rw[xE7 (off:=1) (size:=256) (v:=.agg (xU b)) rfl (by unfold xU;rw[show (Value.agg (encB b).toArray).cells=(encB b).toArray from rfl,aW_,xF,hb]) (by rw[xBo zerL];omega)];show Instr.fill _ ((xU b).zipIdx.foldl (λcs (c,j)=>cs.setIfInBounds (1+j) c) _) _=_
 rw[yCo s hb];rfl)
theorem xFg (ρ:Operand->Value)(d x0 x1)(ty:TypeId)(pos af gd w):
  Sem.run prog (execOp ρ ⟨d,.build 143 #[(0,x0),(1,x1)],ty,pos,af,gd⟩) w=zB prog 143 w #[(0,ρ x0),(1,ρ x1)]:=by kernel_rfl
theorem yFg (w a c):(Instr.arrayAt 140 (.slice (some a) 256 c)).run prog w=.ok (.pointer (some a)) w:=by
 unfold Instr.arrayAt;rw[aE_,run_underlying underlying140];rfl
theorem xNi (ρ:Operand->Value)(d x)(ty:TypeId)(pos af g w):
  Sem.run prog (execOp ρ ⟨d,.buildSlice 64 1 #[(0,x)],ty,pos,af,g⟩) w=kC prog 64 w (ρ x):=by kernel_rfl
theorem yF8 (w s){b}(hb:b.length=256):kC prog 64 w (.agg (y6 s b))=.ok (.value (.slice (some ⟨w.heap.size,0,none⟩) 1 1)) (w.alloc (.cells (y6 s b) 143)):=by
 obtain⟨i0,hi,bd,aL,bk⟩:=info_parts Tryz.info_wri;unfold kC;rw[aE_,run_buildSlice w 64 143 1 _ (y6 s b) i0 _ underlying64 hi bd (by rw[aL];decide) (by rw[aL];decide) (by
  rw[aL];exact kv _ _ 257 (xBo hb) (by rw[dk_,cP_]))]
 rfl
attribute [local go_sem ↓] jy vN jw vJ vR jW xFg xNi
attribute [local go_sem] xJm xO9 xP7 xOd xh xf xa x9 xu zQ xq xx
theorem xMv (d:PD):d.oper.1.pend=d.pend:=by
 unfold PD.oper;split <;> rfl
theorem xX6 {B w w' v d v' n s b}(h:yu B w v d)(hg:w.grownBy w' v.pv.ownBlock)(hn:n=d.pend.length)(ho:w'.ownsRow B 143 257 v' (n+1) (xDk d.pend++zP s b))(aB:v'.ownBlock=v.pv.ownBlock\/v'.ownBlock=some w.heap.size)(hf:d.pend.length<1000000)(hb:b.length=256):
  (w'.heap[v.p]?=some (.cells (yK v d) 66 (0,0))/\w'.heap[v.M]?=w.heap[v.M]?/\w.heap.size<=w'.heap.size) /\
  yu B (w'.setCell ⟨v.p,2,none⟩ v') { v with pv:=v' } { d with pend:=d.pend++[(s,b)] }:=by
 subst hn;have hne:=h.p_ne;have hpl:v.p<w.heap.size:=(i_ h.blk).1;have hp:w'.heap[v.p]?=some (.cells (yK v d) 66 (0,0)):=(hg.block _ hpl (λe=>(hne.2 _ e.symm).1 rfl)).trans h.blk;have hM:w'.heap[v.M]?=w.heap[v.M]?:=hg.block _ h.map.lt (λe=>(hne.2 _ e.symm).2 rfl);have lR:∀k,v'.ownBlock=some k->k≠v.p:=λk hk e=>by
  rcases aB with h1|h1
  ·exact(hne.2 k (h1▸hk)).1 e.symm
  ·rw[h1]at hk;have:=as_ hk;omega
 refine⟨⟨hp,hM,hg.size⟩,?_,h.lim,?_,?_,h.dur,h.durL,⟨?_,?_⟩,h.n1,h.n2,?_,h.pB,h.MB⟩
 ·rw[heap_setCell_same w' v.p 2 _ _ v' hp];rfl
 ·intro e;exact absurd e (by simp)
 ·have hm:=h.map;unfold y4 at hm⊢;exact(heap_setCell_other w' ⟨v.p,2,none⟩ v.M v' (λe=>hne.1 e.symm)).trans (hM.trans hm)
 ·have e:xDk (d.pend++[(s,b)])=xDk d.pend++zP s b:=by simp[xDk]
  simp only[af_,bU_];rw[e];refine⟨ho.1,?_⟩;rcases ho.2 with h0|⟨g,cap,cur,hv,pD,aq,r⟩
  ·exact .inl h0
  ·exact .inr ⟨g,cap,cur,hv,pD,(heap_setCell_other w' ⟨v.p,2,none⟩ g v' (lR g (by rw[hv];rfl))).trans aq,r⟩
 ·intro x hx;rcases aj_.1 hx with hx|hx
  ·exact h.pend.len x hx
  ·rw[ac_.1 hx];exact hb
 ·simp only[af_,bU_];omega
def xGl (B:Nat)(v:Dev)(d:PD)(s:Nat)(b:By)(w:World)(e:Ending)(w':World):Prop:=
 e=.returned (.int .i64 (if (d.write s b).2 then 0 else 28))/\Kept v.foot w w'/\∃v',v'.p=v.p/\v'.M=v.M/\yu B w' v' (d.write s b).1/\∀k∈v'.foot,k∈v.foot\/w.heap.size<=k
def WrC (p:Nat)(pv:Value):Type:={ z:World // z.cell? ⟨p,2,none⟩=some pv }
theorem yEe {w a b}(h:SlB w a b)(hb:b.length=256):xo w a 256=true/\xm w a 256=xU b:=by
 have:=xW (w:=w) (a:=a) (cs:=encB b) (λj v hj=>by
  have fS:j<b.length:=by
   rcases bi_ j b.length with h|h
   ·exact h
   ·rw[aI_ (by rw[xF];exact h)]at hj;cases hj
  rw[qZ b j fS]at hj;cases hj;exact h.cell j _ (ak_ fS))
 rw[xF,hb]at this;exact this
theorem xX7 {B w v d}(h:yu B w v d)(s)(hs:s<d.n)(hd:d.down=false)(ci:d.pend.length<1000000)(a b c)(hb:b.length=256)(cu:SlB w a b)(ha:a.block≠v.p)(hB:B<=w.heap.size):
  Calls prog 110 #[.pointer (some ⟨v.p,0,none⟩),.int .i64 s,.slice (some a) 256 c] w (xGl B v d s b w):=by
 have c6:=cell_of_row w v.p 6 _ _ _ h.blk;simp only[yK,hd]at c6;have hh:=xWk h (s:Int);rw[decide_eq_true (show (0:Int)<=s/\(s:Int)<d.n by omega)]at hh;have HH:=h_ hh;have HO:=h_ (xH5 h);have HD:=h_ h;have pp:=h_ cu;have tI:=h_ hd;clear h hh hs cu hd;go_enter func110,ntmps110;go_wp2_with fail;refine HH.mono ?_;rintro e w1 ⟨rfl,rfl⟩;go_wp2_with fail;refine HO.mono ?_;rintro e w1 ⟨rfl,hk1,ops,lim,tH⟩;obtain⟨ok,aD⟩:∃ok,ok=d.oper.2:=⟨_,rfl⟩;rw[<-aD];cases ok with
 |false=>
  have hw:d.write s b=(d.oper.1,false):=by
   unfold PD.write;rw[tI.out];cases hop:d.oper with
   |mk d' o=>rw[hop]at aD;simp only at aD;subst aD;rfl
  have HP:=h_ (show xGl B v d s b w (.returned (.int .i64 28)) w1 from ⟨by rw[hw];rfl,hk1.mono (λk hk _=>by rw[ac_.1 hk];exact v.p_foot),{ v with ops:=ops,lim:=lim },rfl,rfl,by rw[hw];exact tH,λk hk=>.inl hk⟩);clear hw hk1 tH aD;go_wp2;go_ret;exact HP.out
 |true=>
  have hw:d.write s b=({ d.oper.1 with pend:=d.oper.1.pend++[(s,b)] },true):=by
   unfold PD.write;rw[tI.out];cases hop:d.oper with
   |mk d' o=>rw[hop]at aD;simp only at aD;subst aD;rfl
  have HW:=h_ hw;have iW:=h_ aD;have AN:=h_ hk1;have mg:=h_ tH;obtain⟨pn,gY⟩:∃n,n=d.oper.1.pend.length:=⟨_,rfl⟩;obtain⟨pa,pc,me⟩:∃a c,v.pv=.slice a pn c:=by rw[gY];exact yd tH.pend.own
  have gm:=cell_of_row w1 v.p 2 _ _ _ tH.blk;simp only[yK]at gm;have Dt:w1.cell? ⟨v.p,2,none⟩=some v.pv:=gm;have ll:SlB w1 a b:=⟨λj c hj=>by
   have:=pp.cell j c hj;have hl:=block_lt_of_cell this;rw[<-this];unfold World.cell?;have e:(a.add j).block=a.block:=ya ..;rw[hk1.block _ hl (by rw[e];simpa using ha)]⟩
  obtain⟨cd,aV⟩:=yEe ll hb;have z1:∀z:WrC v.p (.slice pa pn pc),z.1.cell? ⟨v.p,2,none⟩=some (.slice pa pn pc):=λz=>z.2
  have aG:∀u,zB prog 143 u #[(0,.int .i64 s),(1,.agg (xU b))]=.ok (.value (.agg (y6 s b))) u:=λu=>yFa u s hb
  have SP:=h_ gY;have nj:=h_ me;rw[me]at Dt;have AJ:=h_ Dt;have JW:=h_ (And.intro cd aV);clear hw aD hk1 tH gY gm Dt ll cd aV me;go_upto_region 11 with fail
  haveI:Nonempty (WrC v.p (.slice pa pn pc)):=⟨⟨w1,AJ.out⟩⟩
  refine xp [0,1,2,3,4,5,6] [7,8,9,10,11,12,13,14] (λw'=>∃z:WrC v.p (.slice pa pn pc),w'=z.1) (by kernel_rfl) (by kernel_rfl) (by kernel_rfl) ⟨⟨w1.drew,AJ.out⟩,rfl⟩ ?_;simp only[o_]
  repeat (go_big_quiet_step (fail))
  refine wpQuiet_nil ?_;clear z1;have cd:=JW.1;have aV:=JW.2;have cN:=yFg w1.drew a c;refine yb true (by kernel_rfl) (by kernel_rfl) ?_;simp only[o_];go_wp2;refine⟨λ_=>⟨⟨w1.drew,AJ.out⟩,rfl⟩,yb true (by kernel_rfl) (by kernel_rfl) ?_⟩;simp only[o_];go_wp2;refine⟨λ_=>⟨⟨w1.drew,AJ.out⟩,rfl⟩,yb true (by kernel_rfl) (by kernel_rfl) ?_⟩;simp only[o_];go_wp2;refine⟨λ_=>⟨⟨w1.drew,AJ.out⟩,rfl⟩,yb true (by kernel_rfl) (by kernel_rfl) ?_⟩;simp only[o_];have pE:=yF8 w1.drew s hb;go_wp2;clear cN pE cd aV aG;have aM:Below w1.heap.size w1 (w1.alloc (.cells (y6 s b) 143)).drew:=((ab_ _ _).alloc (aa_ _) _).drew;have dS:(w1.alloc (.cells (y6 s b) 143)).drew.heap[w1.heap.size]?=some (.cells (y6 s b) 143 (0,0)):=heap_alloc_new w1 _;generalize (w1.alloc (.cells (y6 s b) 143)).drew=w2 at aM dS⊢;have AM:=mg.below aM;have aH:=AM.blk;have aT:w2.cell? ⟨v.p,2,none⟩=some (.slice pa pn pc):=(cell_of_row w2 v.p 2 _ _ _ aH).trans (by unfold yK;rw[nj.out];rfl);have ae:=AM.pend.own;rw[<-SP.out]at ae;have fM:w2.ownsRow B 143 257 (.slice pa pn pc) pn (xDk d.oper.1.pend):=by rw[<-nj.out];exact ae
  obtain⟨i0,hi,bd,aL,bk⟩:=info_parts Tryz.info_wri;have fL:∀j u,(zP s b)[j]?=some u->w2.cell? ((⟨w1.heap.size,0,none⟩:Addr).add j)=some u:=λj u hj=>by
   rw[an_,aq_,cell_of_row w2 w1.heap.size j _ _ _ dS];simpa[y6]using hj
  have hpnl:pn<1000000:=by rw[SP.out];have:d.oper.1.pend=d.pend:=xMv d;rw[this];exact ci
  have Mi:d.oper.1.pend.length<1000000:=by rw[xMv];exact ci
  have dl:=h_ fM;have Mj:=h_ fL;have eQ:=h_ aM;have mI:=h_ AM;have dh:B<=w2.heap.size:=by have:=aM.size;have:=AN.size;omega
  have HI:=h_ (And.intro hi (And.intro bd (And.intro aL bk)));have bF:=h_ aT;clear ae fM fL aM AM dS aH hi bd aL bk aT;refine⟨λ_=>⟨⟨w2,bF.out⟩,rfl⟩,yb true (by kernel_rfl) (by kernel_rfl) ?_⟩;simp only[o_];go_wp2_with (at_builtin;refine wpList_append_own_at _ rfl (.tmp 32) (.tmp 38) 64 rfl B 143 i0 (.agg (y6 0 zer)) 257 264 underlying64 HI.1 HI.2.1 HI.2.2.1 HI.2.2.2 (xBo zerL) (by decide) _ pn (xDk d.oper.1.pend) rfl dl.out ⟨w1.heap.size,0,none⟩ 1 1 (zP s b) rfl (uV hb) Mj.out (xGr s b) ?cA ?cB dh ?_)
  case cA=>unfold maxLen;omega
  case cB=>omega
  intro v' w3 Mk fo bK nr;have aS:=h_ (xX6 mI.out (nj.out▸fo) SP.out Mk (nj.out▸nr) Mi hb);obtain⟨iX,J6,aR⟩:=aS.1;have CH:=cell_of_row w3 v.p 2 _ _ _ iX;have py:=frozen_of_row w3 v.p 2 _ _ iX;have Ml:w3.cell? ⟨v.p,2,none⟩=some (.slice pa pn pc):=CH.trans (by unfold yK;rw[nj.out];rfl);obtain⟨va,vc,rfl⟩:=yd Mk;have SQ:=h_ Ml;have tG:Kept v.foot w w3:=by
   have J7:=eQ.out;have hk1:=AN.out;refine⟨fo.os.trans (J7.os.trans hk1.os),fo.tape.trans (J7.tape.trans hk1.tape),fo.output.trans (J7.output.trans hk1.output),ad_ hk1.size (ad_ J7.size fo.size),λk hk hn=>?_⟩;have e1:=hk1.block k hk (λh=>hn (by rw[ac_.1 h];exact v.p_foot));have e2:=J7.block k (ap_ hk hk1.size);have e3:=fo.block k (ap_ hk (ad_ hk1.size J7.size)) (λe=>hn (v.pv_foot (by rw[nj.out];exact e.symm)));exact e3.trans (e2.trans e1)
  have HP:=h_ (show xGl B v d s b w (.returned (.int .i64 0)) (w3.setCell ⟨v.p,2,none⟩ (.slice va (pn+1) vc)) from
   ⟨by rw[HW.out];rfl,tG.trans (zd w3 v.p 2 _) (λk hk=>.inl (by rw[ac_.1 hk];exact v.p_foot)),{ v with pv:=.slice va (pn+1) vc,ops:=ops,lim:=lim },rfl,rfl,by rw[HW.out];exact aS.2,λk hk=>by
    simp only[Dev.foot,aK_,aM_,ae_,aT_]at hk;rcases hk with rfl|rfl|hk
    ·exact .inl v.p_foot
    ·exact .inl v.M_foot
    ·rcases nr with h|h
     ·exact .inl (v.pv_foot (by rw[nj.out,<-h];exact hk))
     ·have h2:k=w2.heap.size:=by rw[h]at hk;exact(as_ hk).symm
      have:=eQ.size;have:=AN.size;exact .inr (by omega)⟩)
  clear tG Ml nr bK fo Mk iX J6 aR;go_wp2_with fail;refine⟨λ_=>⟨⟨w3,SQ.out⟩,rfl⟩,xB [12,13,14] _ _ (by kernel_rfl) ?_⟩;simp only[o_];simp only[yK]at CH;go_wp2;refine ag_ ?_;go_wp2;go_ret;exact HP.out
end
section
attribute [local go_sem ↓] jy vN jw vJ vR jW xFg xNi
attribute [local go_sem] xJm xO9 xP7 xOd xh xf xa x9 xu zQ xq xx
def durK (d:PD)(k:Nat)(s:Nat):By:=match (d.pend.take k).reverse.find? (λp=>p.1==s) with
 |some p=>p.2
 |none=>d.dur s
theorem yBn (d):durK d d.pend.length=d.vis:=by
 funext s;unfold durK PD.vis;rw[ea_]
 all_goals (cases d.pend.reverse.find? (λp=>p.1==s) <;> rfl)
theorem xYm (d):durK d 0=d.dur:=by
 funext s;unfold durK;simp
theorem xYn (d k)(hk:k<d.pend.length)(s):durK d (k+1) s=if s=d.pend[k].1 then d.pend[k].2 else durK d k s:=by
 unfold durK;rw[am_ hk,List.reverse_append,List.reverse_singleton,List.singleton_append,bu_];by_cases h:s=d.pend[k].1
 ·rw[if_pos h,show (d.pend[k].1==s)=true by rw[beq_iff_eq];exact h.symm]
 ·rw[if_neg h,show (d.pend[k].1==s)=false by rw[beq_eq_false_iff_ne];exact λe=>h e.symm]
theorem yu.putM {B w v d}(h:yu B w v d)(k b)(hb:b.length=256)(f:Nat->By)(hf:∀s,f s=if s=k then b else d.dur s):
  yu B (w.putObj v.M (.map ((putL (k:Int) (.agg (xU b)) v.mc v.es).map (enE ekN)).toArray (putC (k:Int) v.mc v.es))) { v with es:=putL (k:Int) (.agg (xU b)) v.mc v.es,mc:=putC (k:Int) v.mc v.es } { d with dur:=f }:=by
 have hne:=h.p_ne;refine⟨(aB_ hne.1).trans h.blk,h.lim,h.nilp,h.map.put,λs=>?_,λs=>?_,h.pend.same (by simp[World.putObj]) (λj hj=>aB_ (λe=>(hne.2 j hj).2 e.symm)),h.n1,h.n2,h.few,h.pB,h.MB⟩
 ·show (getK (s:Int) (putL (k:Int) (.agg (xU b)) v.mc v.es)).getD _=.agg (xU (f s))
  rw[xFb,hf];by_cases e:s=k
  ·rw[if_pos (by omega),if_pos e];rfl
  ·rw[if_neg (by omega),if_neg e];exact h.dur s
 ·show (f s).length=256
  rw[hf];split
  ·exact hb
  ·exact h.durL s
theorem yu.noPend {B w v d}(h:yu B w v d):yu B (w.setCell ⟨v.p,2,none⟩ (.slice none 0 0)) { v with pv:=.slice none 0 0 } { d with pend:=[] }:=by
 have hne:=h.p_ne;refine⟨?_,h.lim,λ_=>rfl,?_,h.dur,h.durL,⟨aP_ _ _ _ _,λx hx=>by cases hx⟩,h.n1,h.n2,aV_ _,h.pB,h.MB⟩
 ·rw[heap_setCell_same w v.p 2 _ _ _ h.blk];rfl
 ·have hm:=h.map;unfold y4 at hm⊢;exact(heap_setCell_other w ⟨v.p,2,none⟩ v.M _ (λe=>hne.1 e.symm)).trans hm
def xGn (B:Nat)(v:Dev)(d:PD)(w:World)(e:Ending)(w':World):Prop:=
 e=.returned (.int .i64 (if d.flush.2 then 0 else 28))/\Kept v.foot w w'/\∃v',v'.p=v.p/\v'.M=v.M/\yu B w' v' d.flush.1/\∀k∈v'.foot,k∈v.foot\/w.heap.size<=k
structure FlSt (B:Nat)(w:World)(v:Dev)(d:PD)(v1:Dev)(d1:PD)(k:Nat)(W:World):Prop where
 kept:Kept v.foot w W
 at':∃es mc,yu B W { v1 with es:=es,mc:=mc } { d1 with dur:=durK d1 k }
theorem xNc {B w v d}(h:yu B w v d)(hd:d.down=false):
  Calls prog 61 #[.pointer (some ⟨v.p,0,none⟩)] w (xGn B v d w):=by
 have c6:=cell_of_row w v.p 6 _ _ _ h.blk;simp only[yK,hd]at c6;have HO:=h_ (xH5 h);have tI:=h_ hd;clear h hd;go_enter func61,ntmps61;go_wp2_with fail;refine HO.mono ?_;rintro e w1 ⟨rfl,hk1,ops,lim,tH⟩;obtain⟨ok,aD⟩:∃ok,ok=d.oper.2:=⟨_,rfl⟩;rw[<-aD];cases ok with
 |false=>
  have hw:d.flush=(d.oper.1,false):=by
   unfold PD.flush;rw[tI.out];cases hop:d.oper with
   |mk d' o=>rw[hop]at aD;simp only at aD;subst aD;rfl
  have HP:=h_ (show xGn B v d w (.returned (.int .i64 28)) w1 from ⟨by rw[hw];rfl,hk1.mono (λk hk _=>by rw[ac_.1 hk];exact v.p_foot),{ v with ops:=ops,lim:=lim },rfl,rfl,by rw[hw];exact tH,λk hk=>.inl hk⟩);clear hw hk1 tH aD;go_wp2;go_ret;exact HP.out
 |true=>
  have hw:d.flush=(d.oper.1.flushed,true):=by
   unfold PD.flush;rw[tI.out];cases hop:d.oper with
   |mk d' o=>rw[hop]at aD;simp only at aD;subst aD;rfl
  have HW:=h_ hw;have AN:=h_ hk1;have mg:=h_ tH;obtain⟨v1,wv⟩:∃v1:Dev,v1={ v with ops:=ops,lim:=lim }:=⟨_,rfl⟩;obtain⟨d1,bg⟩:∃d1,d1=d.oper.1:=⟨_,rfl⟩;rw[<-wv,<-bg]at mg;rw[<-bg]at HW;obtain⟨pn,gY⟩:∃n,n=d1.pend.length:=⟨_,rfl⟩;obtain⟨pa,pc,me⟩:∃a c,v1.pv=.slice a pn c:=by rw[gY];exact yd mg.pend.own
  have iz:v1.p=v.p:=by rw[wv]
  have gm:=cell_of_row w1 v1.p 2 _ _ _ mg.blk;simp only[yK]at gm;have Dt:w1.cell? ⟨v.p,2,none⟩=some (.slice pa pn pc):=by rw[<-iz,<-me];exact gm
  have hpl:pn<=1000000:=by rw[gY];exact mg.few
  have hplz:(pn:Int)<=1000000:=by omega
  have JY:=h_ wv;have E5:=h_ gY;have nj:=h_ me;have pr:=h_ iz;have aO:Hid (FlSt B w v d v1 d1 0 w1):=h_ ⟨hk1.mono (λk hk _=>by rw[ac_.1 hk];exact v.p_foot),v1.es,v1.mc,by rw[xYm];exact mg.out⟩;clear hw aD hk1 tH wv bg gY me iz gm;go_wp2;go_loopw [21] (λu wr=>∃k:Nat,u=.int .i64 k/\k<=pn/\Hid (FlSt B w v d v1 d1 k wr)) (λu _=>pn-(intOf u).toNat)
  case atStart=>exact⟨0,rfl,aV_ _,aO⟩
  case round=>
   obtain⟨k,rfl,hk,HS⟩:=hrel;by_cases hlt:k<pn
   ·have cr:(k:Int)<pn:=by omega
    obtain⟨es,mc,E6⟩:=HS.at';have ct:k<d1.pend.length:=by rw[<-E5.out];exact hlt
    obtain⟨g,hpa,eH,aE⟩:∃g,pa=some ⟨g,0,none⟩/\g<wr.heap.size/\∀i u,(zP d1.pend[k].1 d1.pend[k].2)[i]?=some u->wr.cell? ⟨g,k*257+i,none⟩=some u:=by
     rcases E6.pend.at with⟨_,h0⟩|⟨g,cap,h1,_,h2,_,_,h3⟩
     ·simp only at h0;rw[h0]at ct;simp at ct
     ·refine⟨g,?_,h2,λi u hu=>h3 k ct i u hu⟩;have:v1.pv=_:=h1;rw[nj.out]at this;cases this;rfl
    subst hpa;have aG:d1.pend[k].2.length=256:=mg.pend.len _ (bb_ ct);obtain⟨o1,r1⟩:=xZ5 (w:=wr) (g:=g) (off:=k*257) aG aE;have sH:=xYn d1 k ct;obtain⟨⟨xs,xb⟩,hx⟩:∃x,x=d1.pend[k]:=⟨_,rfl⟩;rw[<-hx]at aG r1 sH;simp only at aG r1 sH;have hfw:=xSq xs aG;have hz:(y6 0 zer).size=257:=xBo zerL;have bW:=h_ sH;have HDk:=h_ E6;have lY:=h_ aG;clear aE E6 sH hx ct aG;go_upto_region 9 with fail
    clear o1 r1 hfw hz;have dS:=heap_alloc_new wr (.cells (y6 xs xb) 143);have aM:Below wr.heap.size wr (wr.alloc (.cells (y6 xs xb) 143)):=(ab_ _ _).alloc (aa_ _) _;obtain⟨W2,ff⟩:∃W2,W2=wr.alloc (.cells (y6 xs xb) 143):=⟨_,rfl⟩;refine xr ff ?_;rw[<-ff]at dS aM;clear ff;have AM:=HDk.below aM;have z1:∀z:x8 W2,z.1.cell? ⟨v.p,1,none⟩=some (.map (some v1.M)):=λz=>z.cell (by rw[<-pr.out];exact cell_of_row W2 v1.p 1 _ _ _ AM.blk)
    have z2:∀z:x8 W2,z.1.cell? ⟨wr.heap.size,0,none⟩=some (.int .i64 xs):=λz=>z.cell (cell_of_row W2 wr.heap.size 0 _ _ _ dS)
    have GS:=xKq lY.out dS;have z3:∀z:x8 W2,xo z.1 ⟨wr.heap.size,1,none⟩ 256=true:=λz=>x8.ok GS.1 z
    have z4:∀z:x8 W2,xm z.1 ⟨wr.heap.size,1,none⟩ 256=xU xb:=λz=>(x8.rd GS.1 z).trans GS.2
    have dB:=xEv keyN underlying63 W2.drew v1.M es mc AM.map (xs:Int) (.agg (xU xb));have WJ:=(AM.below (ab_ _ W2).drew).putM xs xb lY.out (durK d1 (k+1)) bW.out;have ef:Kept v.foot w (W2.drew.putObj v1.M (.map ((putL (xs:Int) (.agg (xU xb)) mc es).map (enE ekN)).toArray (putC (xs:Int) mc es))):=by
     have hM:v1.M∈v.foot:=by rw[JY.out];exact v.M_foot
     have h2:Kept v.foot w W2:=HS.kept.trans (Kept.of_below (F:=[]) aM) (λ_ h=>by cases h);exact⟨h2.os,h2.tape,h2.output,by simpa[World.putObj]using h2.size,λj hj hn=>(aB_ (λe=>hn (by rw[e];exact hM))).trans (h2.block j hj hn)⟩
    have HN:Hid (FlSt B w v d v1 d1 (k+1) (W2.drew.putObj v1.M (.map ((putL (xs:Int) (.agg (xU xb)) mc es).map (enE ekN)).toArray (putC (xs:Int) mc es)))):=h_ ⟨ef,_,_,WJ⟩;clear ef WJ GS AM dS aM;refine xp [0,1,2,3,4,5,6,7] [8] (λw'=>∃z:x8 W2,w'=z.1) (by kernel_rfl) (by kernel_rfl) (by kernel_rfl) ⟨⟨_,(ab_ _ _).drew⟩,rfl⟩ ?_;simp only[o_]
    repeat (go_big_quiet_step (fail))
    refine wpQuiet_nil ?_;clear z1 z2 z3 z4;refine xB [8] _ _ (by kernel_rfl) ?_;simp only[o_];generalize W2.drew.putObj v1.M (.map ((putL (xs:Int) (.agg (xU xb)) mc es).map (enE ekN)).toArray (putC (xs:Int) mc es))=W3 at dB HN;go_wp2;refine ag_ ?_;clear dB;have hk1:k+1<=pn:=hlt;go_wp2;go_roundw
    case rel=>exact⟨k+1,by go_num,hk1,HN⟩
    case measure=>simp[intOf];omega
   ·obtain rfl:k=pn:=by omega
    obtain⟨es,mc,E6⟩:=HS.at';have WK:=E6.noPend;have SR:=cell_of_row wr v1.p 2 _ _ _ E6.blk;have SS:=frozen_of_row wr v1.p 2 _ _ E6.blk;simp only[yK]at SR;have ST:wr.cell? ⟨v.p,2,none⟩=some v1.pv:=by rw[<-pr.out];exact SR
    have hfp':wr.frozen? ⟨v.p,2,none⟩=false:=by rw[<-pr.out];exact SS
    have wF:({ d1 with dur:=durK d1 k,pend:=[] }:PD)=d1.flushed:=by unfold PD.flushed;rw[E5.out,yBn]
    have HP:=h_ (show xGn B v d w (.returned (.int .i64 0)) (wr.setCell ⟨v.p,2,none⟩ (.slice none 0 0)) from
     ⟨by rw[HW.out];rfl,HS.kept.trans (zd wr v.p 2 _) (λk hk=>.inl (by rw[ac_.1 hk];exact v.p_foot)),{ v1 with es:=es,mc:=mc,pv:=.slice none 0 0 },by rw[JY.out],by rw[JY.out],by rw[HW.out];rw[<-wF,<-pr.out];exact WK,λk hk=>by
      simp only[Dev.foot,aK_,aM_,ae_,aT_]at hk;rcases hk with rfl|rfl|hk
      ·rw[JY.out];exact .inl v.p_foot
      ·rw[JY.out];exact .inl v.M_foot
      ·cases hk⟩)
    rw[nj.out]at ST;clear E6 WK SR SS wF;go_wp2;go_ret;exact HP.out
end
end Go.Proofs.YtegfbhdkenkkdaaGreatDoor
