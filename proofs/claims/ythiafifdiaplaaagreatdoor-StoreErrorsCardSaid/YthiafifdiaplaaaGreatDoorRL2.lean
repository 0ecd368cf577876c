/- Parts of the proofs about bulletinlaw29: Rec6, Rec7a, Rec7, Rec8, Print, ScanId, Split, Set, SetRefs, Part, Parse, Build, Back, Own, Plain, Inv, LawCheck, Check, Clone, Insert, Add0, Knows, Search, MapLaw, Index, Get, InsertMid, AddLaw, PJour, Dsk1, Dsk2, Dsk3, Dsk4, Dsk5, Dsk6, Dsk7. -/
import Derived.Test.YthiafifdiaplaaaGreatDoorRL1
import Derived.Laws.StructEq
import Derived.WalkMore
import Derived.Lib.SplitLaws
import Derived.Great.BuildSlice
import Derived.Deep.QuietTactic
import Derived.WalkSpells
import Derived.Outline
import Derived.Carry
import Derived.WideMake
import Derived.RangeFuncRecord
import Derived.Deep.CutBlock
import Derived.Shelf.Spec.SlicesInsertGrow
import Derived.Laws.CopyRow
import Derived.Maps.AppendAt
import Derived.RangeFuncNested
import Derived.RangeFuncBound
import Derived.RangeFuncCalls
import Derived.RangeFuncLeaves
import Derived.Shelf.Abstract
import Derived.Shelf.AbstractIn
import Derived.Shelf.RegionOpen
import Derived.OwnWalkIn
import Derived.TacticsInMore
import Derived.RegionIn
import Derived.LoopNIn
import Derived.LoopIn
set_option maxRecDepth 100000
set_option maxHeartbeats 8000000
namespace Go.Proofs.YthiafifdiaplaaaGreatDoor
open Go Go.RowKit Go.Proofs
section
def y8 (k g n:Int)(v:Value):List Value:=[.int .i64 k,.int .i64 g,.int .i64 n,v]
theorem zt (a b c:Value):((#[a,b,c]:Array Value).size == 3)=true:=rfl
theorem zw (a b c d:Value):((#[a,b,c,d]:Array Value).size == 4)=true:=rfl
theorem yD (a b c:Value):jU #[a,b,c] 0 3=true:=rfl
theorem yC (a b c:Value):jP #[a,b,c] 0 3=#[a,b,c]:=rfl
theorem yA3 (a b c:Int):xy 3 #[.int .i64 a,.int .i64 b,.int .i64 c]=true:=by simp[xy,Value.oneCell']
attribute [local go_sem ↓] kj xB2
attribute [local go_sem] xHo xO0 zt zw yD yC yA3 xj xh xe xd xA xz xo xl xt xC xx
structure SpSt (W0:World)(r:PRec)(a:Addr)(cap:Nat)(k:Nat)(v:Value)(W:World):Prop where
 bel:Below W0.heap.size W0 W
 box:W.heap[W0.heap.size]?=some (.cells #[.int .i64 r.kind,.int .i64 r.gen,.int .i64 r.num,.slice (some a) r.pay.length cap] 222 (0,0))
 sc:∃ vs,ScAt W (W0.heap.size+2) v ((yf sha r).take k) vs
 sz:W0.heap.size+2≤W.heap.size
theorem SpSt.lt {W0:World}{r:PRec}{a:Addr}{cap k:Nat}{v:Value}{W:World}(s:SpSt W0 r a cap k v W):W0.heap.size<W.heap.size:=(i_ s.box).1
theorem xR6 (r:PRec)(hok:r.Ok)(a:Addr)(cap:Nat)(W:World)(hK:qF W)(hl:r.pay.length≤cap)(hs:SlB W a r.pay)(ha:a.block<W.heap.size) :
  Calls Tryz.prog 152 #[.agg (y8 r.kind r.gen r.num (.slice (some a) r.pay.length cap)).toArray] W fun e W'=>∃ v vs,e=.returned (.tuple #[v,.int .i64 0])∧ScAt W' W.heap.size v (yf sha r) vs∧Below W.heap.size W W':=by
 have hN:xY r.pay.length≤586:=by have:=hok.2;unfold xY;omega
 have hok1:=hok.1
 have hp2:=hok.2
 obtain⟨m,hm⟩:∃ m,m=r.pay.length:=⟨_,rfl⟩
 have HM:=h_ hm
 have HOK:=h_ hok
 have HOK1:=h_ hok1
 have HS:=h_ hs
 have HK:=h_ hK
 rw[←hm] at hl hN hp2 ⊢
 have hnd:=xOw m
 have HND:=h_ hnd
 have hW1:(W.alloc (.cells #[.int .i64 r.kind,.int .i64 r.gen,.int .i64 r.num,.slice (some a) m cap] 222)).heap[W.heap.size]?=some (.cells #[.int .i64 r.kind,.int .i64 r.gen,.int .i64 r.num,.slice (some a) m cap] 222 (0,0)):=heap_alloc_new W _
 have HW1:=h_ hW1
 clear hm hok hok1 hs hK hnd hW1
 unfold y8
 go_enter Tryz.func152,Tryz.ntmps152
 go_wp2_with fail
 refine(xE1 _ _ _ _).mono ?_
 rintro e w1 ⟨b,rfl,hbv,hb1⟩
 obtain rfl:b=true:=hbv.2 HOK1.out
 have hbox1:=(hb1.block W.heap.size (by simp;omega)).trans ((heap_alloc_old (w:=W.alloc (.cells #[.int .i64 r.kind,.int .i64 r.gen,.int .i64 r.num,.slice (some a) m cap] 222)) (o:=.cells #[.int .i64 r.kind,.int .i64 r.gen,.int .i64 r.num] 300) (h:=by simp)).trans HW1.out)
 have hB1:Below W.heap.size W w1:=(((Below.refl W.heap.size W).alloc (Nat.le_refl _) _).alloc (by simp) _).trans (hb1.mono (by simp;omega))
 have hsz1:W.heap.size+2≤w1.heap.size:=by have:=hb1.size;simp at this;omega
 have HBOX1:=h_ hbox1
 have HB1:=h_ hB1
 have HSZ1:=h_ hsz1
 have c3:=cell_of_row w1 W.heap.size 3 _ _ _ hbox1
 simp only[List.getElem?_toArray,List.getElem?_cons_succ,List.getElem?_cons_zero] at c3
 clear hbv hb1 hbox1 hB1 hsz1
 go_wp2_with (go_at_call 107;refine(HND.out _ (by omega)).mono ?_;rintro e w' ⟨rfl,rfl⟩)
 clear c3
 go_loopw [7,32] (fun v i wr=>∃ k:Nat,k≤xY m∧i=.int .i64 k∧SpSt W r a cap k v wr) (fun _ i _=>xY m-(intOf i).toNat)
 case atStart=>exact⟨0,by omega,rfl,⟨HB1.out,by have:=HBOX1.out;rw[←HM.out];exact this,⟨[],ScAt.nil _ _⟩,HSZ1.out⟩⟩
 case round =>
  obtain⟨k,hk,rfl,hst⟩:=hrel
  by_cases hlt:k<xY m
  ·have hltz:(k:Int)<(xY m:Nat):=by omega
   have hk586:k<586:=by omega
   have hkz:(k:Int)<586:=by omega
   have hkm:k*224≤m:=by unfold xY at hlt;omega
   have hbox:=hst.box
   rw[←HM.out] at hbox
   have c0:=cell_of_row wr W.heap.size 0 _ _ _ hbox
   have c1:=cell_of_row wr W.heap.size 1 _ _ _ hbox
   have c2:=cell_of_row wr W.heap.size 2 _ _ _ hbox
   have c3:=cell_of_row wr W.heap.size 3 _ _ _ hbox
   simp only[List.getElem?_toArray,List.getElem?_cons_succ,List.getElem?_cons_zero] at c0 c1 c2 c3
   obtain⟨vs,hsc⟩:=hst.sc
   obtain⟨h,hh⟩:∃ h,h=min ((k+1)*224) m:=⟨_,rfl⟩
   have hkh:k*224≤h:=by omega
   have hsl:=xCw a m cap (k*224) h ((k:Int)*224) (min (((k:Int)+1)*224) (m:Int)) (by omega) (by omega) hkh (by omega)
   have hpo:=xBc HOK.out (i:=k) (by rw[←HM.out];exact hlt)
   have hbl:(yX r k).bytes.length=h-k*224:=by simp only[yX,List.length_take,List.length_drop,←HM.out];omega
   have hslb:SlB wr (cutA a cap (k*224)) (yX r k).bytes:=by
    have h0:SlB wr a r.pay:=⟨fun j c hj=>(hst.bel.cell (by rw[y9];exact ha)).trans (HS.out.cell j c hj)⟩
    exact(h0.cut (by rw[←HM.out];exact hl) (k*224)).take 224
   have henc:=xIc (yX r k) hpo (some (cutA a cap (k*224))) (cap-k*224) wr (HK.out.below hst.bel (Nat.le_refl _)) (by rw[hbl];omega) (fun q hq=>by cases hq;exact⟨hslb,by rw[jF];have:=hst.bel.size;omega⟩) (fun hq=>by cases hq)
   rw[hbl] at henc
   have hidx:(yX r k).idx=(k:Int):=rfl
   have hcnt:(yX r k).cnt=((xY m:Nat):Int):=by rw[HM.out];rfl
   have hkind:(yX r k).kind=r.kind:=rfl
   have hgen:(yX r k).gen=r.gen:=rfl
   have hnum:(yX r k).num=r.num:=rfl
   rw[hidx,hcnt,hkind,hgen,hnum] at henc
   unfold zb at henc
   have HENC:=h_ henc
   have HST:=h_ hst
   have HSC:=h_ hsc
   have HBOX:=h_ hbox
   clear hbox hsc hst henc hidx hcnt hkind hgen hnum hpo hbl hslb hh
   go_wp2_with fail
   refine HENC.out.mono ?_
   rintro e w5 ⟨g,rfl,hge,hrow,hb5⟩
   have hlen5:(encP sha (yX r k)).length=256:=xQ4 sha yV (xBc HOK.out (i:=k) (by rw[←HM.out];exact hlt)).2.2.2.2.2.1
   have hgl:g<w5.heap.size:=(i_ hrow).1
   have hsz2:=HST.out.sz
   have hel5:=xQ5 (B:=W.heap.size+2) (v:=u7) hrow hlen5 (Nat.le_trans hsz2 hge) (fun e=>Nat.lt_irrefl _ (Nat.lt_of_lt_of_le (World.ownsRow.lt HSC.out.own g e).2 hge))
   have hsc5:=HSC.out.later hb5
   have hba:Below w5.heap.size w5 (w5.alloc (.cells #[.slice (some ⟨g,0,none⟩) 256 256] 66)):=(Below.refl _ _).alloc (Nat.le_refl _) _
   have HEL6:=h_ (hel5.later hba)
   have HSC6:=h_ (hsc5.later hba)
   have hnx:(yf sha r).take (k+1)=(yf sha r).take k++[encP sha (yX r k)]:=by
    have hl:k<(yf sha r).length:=by rw[zy,←HM.out];exact hlt
    rw[List.take_succ_eq_append_getElem hl]
    simp[yf]
   have HNX:=h_ hnx
   have hB5:Below W.heap.size W w5:=HST.out.bel.trans (hb5.mono HST.out.bel.size)
   have HB6:=h_ (hB5.trans (hba.mono hB5.size))
   have HBOX6:=h_ ((hba.block _ (by have:=HST.out.lt;have:=hb5.size;omega)).trans ((hb5.block _ HST.out.lt).trans HST.out.box))
   have hlim:((yf sha r).take k).length≤1000000:=by rw[List.length_take];omega
   have HLIM:=h_ hlim
   have hcx:(w5.alloc (.cells #[.slice (some ⟨g,0,none⟩) 256 256] 66)).cell? ⟨w5.heap.size,0,none⟩=some (.slice (some ⟨g,0,none⟩) 256 256):=by rw[yy];rfl
   have HCX:=h_ hcx
   have HBS:=h_ (show W.heap.size+2≤(w5.alloc (.cells #[.slice (some ⟨g,0,none⟩) 256 256] 66)).heap.size by rw[World.size_alloc];have:=hb5.size;omega)
   have HGW:=h_ (show ∀ k2,u7.ownBlock=some k2→W.heap.size+2≤k2 from fun k2 e=>(World.ownsRow.lt HSC.out.own k2 e).1)
   clear hel5 hsc5 hba hnx hB5 hlim hcx hrow hge hgl hlen5 hb5 HSC HENC c0 c1 c2 c3 hsl hsz2
   go_wp2_with (at_builtin;refine xAd rfl (.tmp 64) (.tmp 66) rfl (W.heap.size+2) _ ((yf sha r).take k) vs rfl HSC6.out _ _ HEL6.out ⟨w5.heap.size,0,none⟩ rfl HCX.out HLIM.out HBS.out ?_)
   intro v' w7 hsc7 hg7 _
   rw[←HNX.out] at hsc7
   have hst7:SpSt W r a cap (k+1) v' w7:=⟨HB6.out.grown hg7 (by have:=HB6.out.size;omega) (fun k2 e=>by have:=HGW.out k2 e;omega),(hg7.block _ (by have:=HBS.out;omega) (fun e=>by have:=HGW.out _ e.symm;omega)).trans HBOX6.out,⟨_,hsc7⟩,Nat.le_trans HBS.out hg7.size⟩
   have HST7:=h_ hst7
   clear hsc7 hg7 hst7
   go_wp2
   go_roundw
   case rel=>exact⟨k+1,by omega,by go_num,HST7.out⟩
   case measure=>simp[intOf];omega
  ·obtain rfl:k=xY m:=by omega
   obtain⟨vs,hsc⟩:=hst.sc
   rw[List.take_of_length_le (by rw[zy,←HM.out];exact Nat.le_refl _)] at hsc
   have HSC:=h_ (hsc.base (B':=W.heap.size) (by omega))
   have HB:=h_ hst.bel
   clear hst hsc
   go_wp2
   go_ret2
   exact⟨_,vs,rfl,HSC.out,HB.out⟩
end
theorem map3 {α β:Type}{f:α→β}{l:List α}{x y z:β}(h:l.map f=[x,y,z]):∃ a b c,l=[a,b,c]∧f a=x∧f b=y∧f c=z:=by
 cases l with
 | nil=>simp at h
 | cons a l=>cases l with
  | nil=>simp at h
  | cons b l=>cases l with
   | nil=>simp at h
   | cons c l=>cases l with
    | nil=>simp at h;exact⟨a,b,c,rfl,h.1,h.2.1,h.2.2⟩
    | cons d l=>simp at h
def fKey (f : Field) : Bool × TypeId × Nat := (decide (f.name ≠ "_"), f.type, f.offset)
theorem kr {d:Nat}{xs ys:Array Value}{f:Field}{fs:List Field}{t o:Nat}(h:fKey f=(true,t,o)){P:Program}{w:World}{a b:Value}{r:Bool}
  (h1:Sem.run P (part t xs o) w=.ok a w) (h2:Sem.run P (part t ys o) w=.ok b w) (h3:Sem.run P (Op.equalIn d t a b) w=.ok r w) :
  Sem.run P (Op.eqFields d xs ys (f :: fs)) w=if r then Sem.run P (Op.eqFields d xs ys fs) w else .ok false w:=by
 simp only[fKey,Prod.mk.injEq,decide_eq_true_eq] at h
 obtain⟨hn,rfl,rfl⟩:=h
 rw[Op.eqFields,if_pos hn]
 simp only[Sem.run_bind,h1,h2,h3,Result.andThen_ok]
 cases r <;> simp
theorem qA (xs:Array Value)(i:Nat)(v:Value)(h:xs[i]?=some v)(w:World):Sem.run Tryz.prog (part 3 xs i) w=.ok v w:=by
 simp[part,Tryz.isAgg3,h]
theorem xXx (a b c a' b' c':Int)(d:Nat)(w:World):Sem.run Tryz.prog (Op.equalIn (d+2) 300 (.agg #[.int .i64 a,.int .i64 b,.int .i64 c]) (.agg #[.int .i64 a',.int .i64 b',.int .i64 c'])) w=.ok (a == a' && (b == b' && c == c')) w:=by
 rw[run_equalIn_struct w (d+1) 300 _ _ (by kernel_rfl) (by kernel_rfl)]
 have hm:(Tryz.prog.fieldsOf 300).toList.map fKey=[(true,3,0),(true,3,1),(true,3,2)]:=by kernel_rfl
 obtain⟨f1,f2,f3,hl,h1,h2,h3⟩:=map3 hm
 rw[hl]
 have hi:∀ x y:Int,Sem.run Tryz.prog (Op.equalIn (d+1) 3 (.int .i64 x) (.int .i64 y)) w=.ok (x == y) w:=fun x y=>run_equalIn_int w d 3 .i64 .i64 x y Tryz.underlying3
 rw[kr h1 (qA _ 0 _ rfl w) (qA _ 0 _ rfl w) (hi a a'),kr h2 (qA _ 1 _ rfl w) (qA _ 1 _ rfl w) (hi b b'),kr h3 (qA _ 2 _ rfl w) (qA _ 2 _ rfl w) (hi c c')]
 cases (a == a') <;> cases (b == b') <;> cases (c == c') <;> simp[Op.eqFields]
theorem xOq (a b c d e:Value)(w:World):Sem.run Tryz.prog (part 300 #[a,b,c,d,e] 0) w=.ok (.agg #[a,b,c]) w:=by
 simp[part,Tryz.isAgg300,Tryz.sizeOf300]
theorem xKk (a b c d e a' b' c' d' e':Int)(w:World):Sem.run Tryz.prog (binOp .neq 324 (.agg #[.int .i64 a,.int .i64 b,.int .i64 c,.int .i64 d,.int .i64 e]) (.agg #[.int .i64 a',.int .i64 b',.int .i64 c',.int .i64 d',.int .i64 e'])) w
  = .ok (.bool (!((a == a' && (b == b' && c == c')) && (d == d' && e == e')))) w:=by
 rw[run_neq_struct,run_equalIn_struct w 9999 324 _ _ (by kernel_rfl) (by kernel_rfl)]
 have hm:(Tryz.prog.fieldsOf 324).toList.map fKey=[(true,300,0),(true,3,3),(true,3,4)]:=by kernel_rfl
 obtain⟨f1,f2,f3,hl,h1,h2,h3⟩:=map3 hm
 rw[hl]
 have hi:∀ x y:Int,Sem.run Tryz.prog (Op.equalIn 9999 3 (.int .i64 x) (.int .i64 y)) w=.ok (x == y) w:=fun x y=>run_equalIn_int w 9998 3 .i64 .i64 x y Tryz.underlying3
 rw[kr h1 (xOq _ _ _ _ _ w) (xOq _ _ _ _ _ w) (xXx a b c a' b' c' 9997 w),kr h2 (qA _ 3 _ rfl w) (qA _ 3 _ rfl w) (hi d d'),kr h3 (qA _ 4 _ rfl w) (qA _ 4 _ rfl w) (hi e e')]
 cases (a == a' && (b == b' && c == c')) <;> cases (d == d') <;> cases (e == e') <;> simp[Op.eqFields]
theorem xMd {a b c d e a' b' c' d' e':Int}(h:a=a'∧b=b'∧c=c'∧d=d'∧e=e')(w:World):Sem.run Tryz.prog (binOp .neq 324 (.agg #[.int .i64 a,.int .i64 b,.int .i64 c,.int .i64 d,.int .i64 e]) (.agg #[.int .i64 a',.int .i64 b',.int .i64 c',.int .i64 d',.int .i64 e'])) w=.ok (.bool false) w:=by
 obtain⟨rfl,rfl,rfl,rfl,rfl⟩:=h
 rw[xKk];simp
theorem xJ9 {a b c d e a' b' c' d' e':Int}(h:¬ (a=a'∧b=b'∧c=c'∧d=d'∧e=e'))(w:World):Sem.run Tryz.prog (binOp .neq 324 (.agg #[.int .i64 a,.int .i64 b,.int .i64 c,.int .i64 d,.int .i64 e]) (.agg #[.int .i64 a',.int .i64 b',.int .i64 c',.int .i64 d',.int .i64 e'])) w=.ok (.bool true) w:=by
 rw[xKk]
 congr 2
 rw[Bool.not_eq_true',←Bool.not_eq_true]
 intro hh
 simp only[Bool.and_eq_true,beq_iff_eq] at hh
 exact h ⟨hh.1.1,hh.1.2.1,hh.1.2.2,hh.2.1,hh.2.2⟩
section
theorem ue {P:Program}{fn:Func}{p t u:Tmp}{ty n:Nat}(h:fn.results=#[.cell p ty,.tmp t,.tmp u])(hA:∀ w,Sem.run P (isAgg ty) w=.ok true w)(hs:∀ w,Sem.run P (Go.sizeOf ty) w=.ok n w)
  (tmps:Array Value) (w:World) (a:Addr) (cs:Array Value) (v v2:Value) (hp:tmps.getD p undef=.pointer (some a)) (hv:tmps.getD t undef=v) (hv2:tmps.getD u undef=v2) (hok:xq w a n=true) (hrd:xp w a n=cs) :
  (results fn tmps).run P w=.ok (.tuple #[.agg cs,v,v2]) w:=by
 have hp':tmps[p]?.getD undef=.pointer (some a):=by simpa using hp
 have hv':tmps[t]?.getD undef=v:=by simpa using hv
 have hv2':tmps[u]?.getD undef=v2:=by simpa using hv2
 have hl:(loadVar ty a).run P w=.ok (.agg cs) w:=by
  simp[loadVar,hA,hs,zv w a n hok,hrd]
 simp[results,h,hp',hv',hv2',asAddr,hl]
structure xB8 (w:World)(a:Addr)(L:List (List UInt8)):Prop where
 at':∀ i (hi:i<L.length),∃ g,w.cell? (a.add i)=some (.slice (some ⟨g,0,none⟩) 256 256)∧L[i].length=256∧g<w.heap.size∧SlB w ⟨g,0,none⟩ L[i]
theorem xB8.below {w w':World}{a:Addr}{L:List (List UInt8)}(h:xB8 w a L)(hb:Below w.heap.size w w'):xB8 w' a L :=
 ⟨fun i hi=>by
  obtain⟨g,h1,h2,h3,h4⟩:=h.at' i hi
  exact⟨g,(hb.cell (block_lt_of_cell h1)).trans h1,h2,Nat.lt_of_lt_of_le h3 hb.size,⟨fun j c hj=>(hb.cell (by rw[y9];exact h3)).trans (h4.cell j c hj)⟩⟩⟩
theorem xB8.drop {w:World}{a:Addr}{L:List (List UInt8)}(h:xB8 w a L)(n:Nat):xB8 w (a.add n) (L.drop n) :=
 ⟨fun i hi=>by
  obtain⟨g,h1,h2,h3,h4⟩:=h.at' (n+i) (by rw[List.length_drop] at hi;omega)
  refine⟨g,by rw[xDw];exact h1,?_,h3,?_⟩
  ·rw[List.getElem_drop];exact h2
  ·rw[List.getElem_drop];exact h4⟩
def xYn (L:List (List UInt8))(W:World)(e:Ending)(W':World):Prop :=
 Below W.heap.size W W' ∧
 ((∃ r n v,uh sha L=some (r,n)∧e=.returned (.tuple #[.agg (y8 r.kind r.gen r.num v).toArray,.int .i64 (n:Nat),.int .i64 0])∧OwnB W' W.heap.size v r.pay∧v≠.slice none 0 0) ∨
   (∃ x,uh sha L=none∧x≠0∧e=.returned (.tuple #[.agg (y8 0 0 0 (.slice none 0 0)).toArray,.int .i64 0,.int .i64 x])))
structure JnSt (W0:World)(a:Addr)(L:List (List UInt8))(W:World):Prop where
 bel:Below W0.heap.size W0 W
 res:W.heap[W0.heap.size]?=some (.cells #[.int .i64 0,.int .i64 0,.int .i64 0,.slice none 0 0] 222 (0,0))
 sec:xB8 W a L
theorem JnSt.lt {W0:World}{a:Addr}{L:List (List UInt8)}{W:World}(s:JnSt W0 a L W):W0.heap.size<W.heap.size:=(i_ s.res).1
theorem JnSt.later {W0:World}{a:Addr}{L:List (List UInt8)}{W W':World}(s:JnSt W0 a L W)(hb:Below W.heap.size W W'):JnSt W0 a L W':=⟨s.bel.trans (hb.mono s.bel.size),(hb.block _ s.lt).trans s.res,s.sec.below hb⟩
theorem qQ (ρ:Operand→Value)(d:Option Tmp)(x:Operand)(ty:TypeId)(pos:String)(af:Array Edge)(g:Option (Nat × Bool))(w:World) :
  Sem.run Tryz.prog (execOp ρ ⟨d,.load 222 x,ty,pos,af,g⟩) w=yx Tryz.prog 222 w (ρ x):=rfl
theorem qq (ρ:Operand→Value)(d:Option Tmp)(x y:Operand)(ty:TypeId)(pos:String)(af:Array Edge)(g:Option (Nat × Bool))(w:World) :
  Sem.run Tryz.prog (execOp ρ ⟨d,.store 222 x y,ty,pos,af,g⟩) w=ym Tryz.prog 222 w (ρ x) (ρ y):=rfl
theorem xEh (w:World)(a:Addr)(h:xq w a 4=true):yx Tryz.prog 222 w (.pointer (some a))=.ok (.value (.agg (xp w a 4))) w :=
 yo Tryz.isAgg222 Tryz.sizeOf222 w a h
theorem xE4 (w:World)(g:Nat)(cells:Array Value)(h:xP w g 4=true)(h2:xy 4 cells=true) :
  ym Tryz.prog 222 w (.pointer (some ⟨g,0,none⟩)) (.agg cells)=.ok .skip (w.setRow g cells):=yr (by kernel_rfl) w g cells h h2
def zRec:Array Value:=#[.int .i64 0,.int .i64 0,.int .i64 0,.slice none 0 0]
theorem xEk:xy 4 #[.int .i64 0,.int .i64 0,.int .i64 0,.slice none 0 0]=true:=by simp[xy,Value.oneCell']
theorem JnSt.ro {W0:World}{a:Addr}{L:List (List UInt8)}{W:World}(s:JnSt W0 a L W):xP W W0.heap.size 4=true:=by unfold xP;rw[s.res];rfl
theorem xHu {H:By→By}{b:By}{rest:List By}(h:decP H b=none):uh H (b :: rest)=none:=by simp only[uh,h]
theorem xJd {H:By→By}{b:By}{rest:List By}{p:zk}(h:decP H b=some p)(hi:p.idx≠0):uh H (b :: rest)=none:=by simp only[uh,h,if_neg hi]
theorem xBi {H:By→By}{b:By}{rest:List By}{p:zk}(h:decP H b=some p)(hi:p.idx=0):uh H (b :: rest)=(zB H p (p.cnt.toNat-1) rest).map fun l=>(⟨p.kind,p.gen,p.num,p.bytes++l⟩,p.cnt.toNat):=by simp only[uh,h,if_pos hi]
attribute [local go_sem ↓] qs uR ki jC qQ qq
attribute [local go_sem] xEh xE4 zw
attribute [local go_sem] xBf xB9 xHn xGm xEe xE9 xWu xWm yA0 xK5 xXt xj xh xe xd xA xz xo xl xt xC xx
theorem xS6 (a b c d e:Int)(v:Value)(hv:v.oneCell'=true):xy 6 #[.int .i64 a,.int .i64 b,.int .i64 c,.int .i64 d,.int .i64 e,v]=true:=zT rfl (by rw[Array.all_eq_true_iff_forall_mem];intro x hx;simp at hx;rcases hx with rfl | rfl | rfl | rfl | rfl | rfl <;> first | rfl | exact hv)
theorem xBl {H:By→By}{b:By}{p:zk}(h:decP H b=some p):p.Ok:=by
 unfold decP decC at h
 split at h
 ·rename_i hc
  injection h with h
  rw[←h];exact hc.2.2.2
 ·cases h
structure JlSt (W0:World)(f x:Nat)(p:zk)(v0:Value)(i:Int)(W:World):Prop where
 bel:Below W0.heap.size W0 W
 res:W.heap[W0.heap.size]?=some (.cells #[.int .i64 0,.int .i64 0,.int .i64 0,.slice none 0 0] 222 (0,0))
 fst:W.heap[f]?=some (.cells #[.int .i64 p.kind,.int .i64 p.gen,.int .i64 p.num,.int .i64 p.idx,.int .i64 p.cnt,v0] 217 (0,0))
 exp:W.heap[x]?=some (.cells #[.int .i64 p.kind,.int .i64 p.gen,.int .i64 p.num,.int .i64 i,.int .i64 p.cnt] 324 (0,0))
 lf:W0.heap.size<f
 fx:f<x
theorem JlSt.lt {W0:World}{f x:Nat}{p:zk}{v0:Value}{i:Int}{W:World}(s:JlSt W0 f x p v0 i W):x<W.heap.size:=(i_ s.exp).1
theorem JlSt.grown {W0:World}{f x:Nat}{p:zk}{v0:Value}{i:Int}{W W':World}(s:JlSt W0 f x p v0 i W){r:Option Nat}(hg:W.grownBy W' r)(hr:∀ k,r=some k→W0.heap.size<k∧k≠f∧k≠x):JlSt W0 f x p v0 i W':=by
 have h1:=s.lt
 have h2:=s.fx
 have h3:=s.lf
 refine⟨s.bel.grown hg s.bel.size (fun k e=>Nat.le_of_lt (hr k e).1),?_,?_,?_,s.lf,s.fx⟩
 ·exact(hg.block _ (by omega) (fun e=>by have:=(hr _ e.symm).1;omega)).trans s.res
 ·exact(hg.block _ (by omega) (fun e=>(hr _ e.symm).2.1 rfl)).trans s.fst
 ·exact(hg.block _ (by omega) (fun e=>(hr _ e.symm).2.2 rfl)).trans s.exp
theorem JlSt.later {W0:World}{f x:Nat}{p:zk}{v0:Value}{i:Int}{W W':World}(s:JlSt W0 f x p v0 i W)(hb:Below W.heap.size W W'):JlSt W0 f x p v0 i W':=s.grown (ui hb none) (fun k e=>by cases e)
theorem JlSt.setI {W0:World}{f x:Nat}{p:zk}{v0:Value}{i:Int}{W:World}(s:JlSt W0 f x p v0 i W)(j:Int):JlSt W0 f x p v0 j (W.setCell ⟨x,3,none⟩ (.int .i64 j)):=by
 have h2:=s.fx
 have h3:=s.lf
 refine⟨s.bel.setCell (by simp;omega) _,?_,?_,?_,s.lf,s.fx⟩
 ·rw[heap_setCell_other W ⟨x,3,none⟩ _ _ (by simp;omega)];exact s.res
 ·rw[heap_setCell_other W ⟨x,3,none⟩ _ _ (by simp;omega)];exact s.fst
 ·rw[heap_setCell_same W x 3 _ _ _ s.exp];rfl
theorem JlSt.jn {W0:World}{f x:Nat}{p:zk}{v0:Value}{i:Int}{W:World}{a:Addr}{L:List (List UInt8)}(s:JlSt W0 f x p v0 i W)(h:xB8 W0 a L):JnSt W0 a L W:=⟨s.bel,s.res,h.below s.bel⟩
theorem xQj (w:World):Below w.heap.size w w.drew:=(Below.refl _ _).drew
theorem yz {P:Program}{ops:Array Oper}{Q:Exit→Act→World→Prop}{C:World→Prop}{E rest:List Nat}{r:Nat}{a:Act}{w:World}(b:Bool)(hlt:decide (r<ops.size)=true)(hb:zQ ops E r=b)(h:wpList P ops (Qn P ops Q C E rest b) (zp ops [r]) a w):wpR P ops Q C E (r :: rest) a w :=
 uw b (o:=ops.getD r default) (by simp[of_decide_eq_true hlt]) hb h
def FCls (f:Nat)(cs:Array Value):Type:={ w:World // w.heap[f]?=some (.cells cs 217 (0,0)) }
theorem FCls.cell {f:Nat}{cs:Array Value}(z:FCls f cs)(j:Nat):z.1.cell? ⟨f,j,none⟩=cs[j]?:=cell_of_row _ _ _ _ _ _ z.2
structure xYo (W0:World)(f x B:Nat)(p:zk)(v0:Value)(rest:List (List UInt8))(cn i:Nat)(pv:Value)(W:World):Prop where
 st:∃ ii,JlSt W0 f x p v0 ii W
 ge:1≤i
 le:i≤cn
 nn:pv≠.slice none 0 0
 ap:∀ k,pv.ownBlock=some k→W0.heap.size<k∧k≠f∧k≠x
 sz:B≤W.heap.size
 go:∃ pre,OwnB W B pv (p.bytes++pre)∧pre.length≤i*224∧zB sha p (cn-1) rest=(zB sha p (cn-i) (rest.drop (i-1))).map (pre ++ ·)
theorem xZd {H:By→By}{p:zk}{n:Nat}:zB H p (n+1) []=none:=rfl
theorem yB1 {H:By→By}{p:zk}{n:Nat}{b:By}{r:List By}(h:decP H b=none):zB H p (n+1) (b :: r)=none:=by simp only[zB,h]
theorem xTf {H:By→By}{p q:zk}{n:Nat}{b:By}{r:List By}(h:decP H b=some q):zB H p (n+1) (b :: r)=if q.kind=p.kind∧q.gen=p.gen∧q.num=p.num∧q.cnt=p.cnt∧q.idx=p.cnt-(n+1:Nat) then (zB H p n r).map (q.bytes ++ ·) else none:=by simp only[zB,h]
theorem xZc {H:By→By}{p q:zk}{n:Nat}{b:By}{r:List By}{pre:By}{X:Option By}(h:decP H b=some q)(hc:q.kind=p.kind∧q.gen=p.gen∧q.num=p.num∧q.cnt=p.cnt∧q.idx=p.cnt-(n+1:Nat))
  (hX:X=(zB H p (n+1) (b :: r)).map (pre ++ ·)):X=(zB H p n r).map ((pre++q.bytes) ++ ·):=by
 rw[hX,xTf h,if_pos hc]
 cases zB H p n r with
 | none=>rfl
 | some l=>simp only[Option.map_some,List.append_assoc]
theorem xJr {L:List By}{i:Nat}(h:i<L.length):L.drop i=L[i] :: L.drop (i+1):=List.drop_eq_getElem_cons h
theorem xX8 (a:Addr)(L:List (List UInt8))(cap:Nat)(W:World)(hK:qF W)(hs:xB8 W a L)(hne:L≠[])(hcap:L.length≤cap)(hl:L.length≤100000) :
  Calls Tryz.prog 170 #[.slice (some a) L.length cap] W (xYn L W):=by
 cases L with
 | nil=>exact absurd rfl hne
 | cons b0 rest =>
 have hj0:JnSt W a (b0 :: rest) (W.alloc (.cells #[.int .i64 0,.int .i64 0,.int .i64 0,.slice none 0 0] 222)):=⟨(Below.refl _ _).alloc (Nat.le_refl _) _,heap_alloc_new W _,hs.below ((Below.refl _ _).alloc (Nat.le_refl _) _)⟩
 obtain⟨N,hN⟩:∃ N,N=(b0 :: rest).length:=⟨_,rfl⟩
 have hNpos:0<N:=by rw[hN];simp
 rw[←hN] at hcap hl ⊢
 have HJ0:=h_ hj0
 have HK:=h_ hK
 have HN:=h_ hN
 have hN1:((N:Int) == 0)=false:=by rw[beq_eq_false_iff_ne];omega
 have HSEC:=h_ hs
 clear hj0 hs hne hK hN
 go_enter Tryz.func170,Tryz.ntmps170
 go_upto_region 3 with (fail)
 obtain⟨w1,hw1⟩:∃ w1,w1=W.alloc (.cells #[.int .i64 0,.int .i64 0,.int .i64 0,.slice none 0 0] 222):=⟨_,rfl⟩
 refine xu hw1 ?_
 have hj1:=HJ0.out
 rw[←hw1] at hj1
 have HJ1:=h_ hj1
 obtain⟨g0,hg0,hl0,hlt0,hsl0⟩:=hj1.sec.at' 0 (by simp)
 simp only[List.getElem_cons_zero] at hl0 hsl0
 have c1:w1.cell? a=some (.slice (some ⟨g0,0,none⟩) 256 256):=by simpa[Addr.add] using hg0
 have hdec:=vt g0 b0 w1 (HK.out.below hj1.bel (Nat.le_refl _)) hsl0 hl0 hlt0
 have HDEC:=h_ hdec
 clear hw1 hj1 hg0 hl0 hlt0 hsl0 hdec HJ0 hN1
 go_wp2_with fail
 refine HDEC.out.mono ?_
 rintro e w2 ⟨hb2,hpost⟩
 have HJ2:=h_ (HJ1.out.later hb2)
 have hsz12:=hb2.size
 rcases hpost with⟨p,v,hd,rfl,hown,hvn⟩ | ⟨x,hd,hx,rfl⟩
 ·unfold zb
  have hv1:v.oneCell'=true:=by
   rcases hown.at with⟨h,_⟩ | ⟨g,c,h,_⟩ <;> rw[h] <;> rfl
  have hft:=xS6 p.kind p.gen p.num p.idx p.cnt v hv1
  have HD:=h_ hd
  have HOWN:=h_ hown
  have HVN:=h_ hvn
  have HV1:=h_ hv1
  clear hd hown hvn hb2 c1 HDEC hv1
  go_upto_region 6 with (fail)
  obtain⟨f,hf⟩:∃ f,f=w2.heap.size:=⟨_,rfl⟩
  have HSZ2:=h_ (show w1.heap.size≤f by rw[hf];exact hsz12)
  clear hsz12
  obtain⟨w3,hw3⟩:∃ w3,w3=w2.alloc (.cells #[.int .i64 p.kind,.int .i64 p.gen,.int .i64 p.num,.int .i64 p.idx,.int .i64 p.cnt,v] 217):=⟨_,rfl⟩
  refine xu hw3 ?_
  have hb3:Below w2.heap.size w2 w3:=by rw[hw3];exact b_ _ _
  have hf3:w3.heap[f]?=some (.cells #[.int .i64 p.kind,.int .i64 p.gen,.int .i64 p.num,.int .i64 p.idx,.int .i64 p.cnt,v] 217 (0,0)):=by rw[hw3,hf];exact heap_alloc_new w2 _
  have hq:=xI (n:=6) hf3 rfl
  have q1:=hq.1
  have q2:=hq.2
  have HJ3:=h_ (HJ2.out.later hb3)
  have HOWN3:=h_ (HOWN.out.below hb3)
  have HF3:=h_ hf3
  have hlf:=h_ (show W.heap.size<f by rw[hf];exact HJ2.out.lt)
  have hvf:=h_ (show ∀ k,v.ownBlock=some k→W.heap.size<k∧k<f from fun k e=>by have h:=HOWN.out.lt e;rw[hf];have:=HJ1.out.lt;omega)
  rw[←hf]
  clear hq hb3 hf3 hw3 hft HOWN HJ2 hf
  go_wp2_with fail
  refine(xEb _ _ _ _ _ _ _).mono ?_
  rintro e w4 ⟨rfl,hb4⟩
  have hft5:=xXt p.kind p.gen p.num p.idx p.cnt
  have HJ4:=h_ (HJ3.out.later hb4)
  have HOWN4:=h_ (HOWN3.out.below hb4)
  have HF4:=h_ ((hb4.block _ (i_ HF3.out).1).trans HF3.out)
  clear hb4 q1 q2 HJ3 HOWN3 HF3
  go_upto_region 7 with (fail)
  obtain⟨x,hx⟩:∃ x,x=w4.heap.size:=⟨_,rfl⟩
  obtain⟨w5,hw5⟩:∃ w5,w5=w4.alloc (.cells #[.int .i64 p.kind,.int .i64 p.gen,.int .i64 p.num,.int .i64 p.idx,.int .i64 p.cnt] 324):=⟨_,rfl⟩
  refine xu hw5 ?_
  have hb5:Below w4.heap.size w4 w5:=by rw[hw5];exact b_ _ _
  have hj5:=HJ4.out.later hb5
  have hfx:f<x:=by rw[hx];exact(i_ HF4.out).1
  have hjl:JlSt W f x p v p.idx w5:=⟨hj5.bel,hj5.res,(hb5.block _ (by rw[←hx];exact hfx)).trans HF4.out,by rw[hw5,hx];exact heap_alloc_new w4 _,hlf.out,hfx⟩
  have HOWN5:=h_ (HOWN4.out.below hb5)
  rw[←hx]
  have HJL:=h_ hjl
  have c3:=cell_of_row w5 x 3 _ _ _ hjl.exp
  simp only[List.getElem?_toArray,List.getElem?_cons_succ,List.getElem?_cons_zero] at c3
  clear hb5 hj5 hfx hjl hw5 hx hft5 HJ4 HOWN4 HF4
  by_cases hi0:p.idx=0
  ·have hi1:(p.idx != 0)=false:=by rw[hi0];rfl
   have HI0:=h_ hi0
   have c5:=cell_of_row w5 f 5 _ _ _ HJL.out.fst
   simp only[List.getElem?_toArray,List.getElem?_cons_succ,List.getElem?_cons_zero] at c5
   clear hi0
   have hpok:=xBl HD.out
   obtain⟨cn,hcn⟩:∃ cn:Nat,p.cnt=cn:=⟨p.cnt.toNat,by have:=hpok.2.1;omega⟩
   have hc1:1≤cn:=by have:=hpok.2.1;omega
   have hc2:cn≤586:=by have:=hpok.2.2.1;omega
   have hbl:=hpok.2.2.2.2.2.1
   have hsz5:w1.heap.size≤w5.heap.size:=by have:=HSZ2.out;have h1:=HJL.out.lt;have h2:=HJL.out.fx;omega
   have hinv0:xYo W f x w1.heap.size p v rest cn 1 v w5:=⟨⟨_,HJL.out⟩,Nat.le_refl _,hc1,HVN.out,fun k e=>by have h:=hvf.out k e;have:=HJL.out.fx;omega,hsz5,⟨[],by rw[List.append_nil];exact HOWN5.out,by simp,by simp⟩⟩
   have HINV0:=h_ hinv0
   have HCN:=h_ hcn
   have HBL:=h_ hbl
   have hB0:=h_ HJ1.out.bel.size
   clear hinv0 hcn hpok hbl HOWN5
   go_wp2
   go_loopw [7,8] (fun pv iv wr=>∃ i:Nat,iv=.int .i64 i∧xYo W f x w1.heap.size p v rest cn i pv wr) (fun _ iv _=>cn-(intOf iv).toNat)
   case atStart=>exact⟨1,rfl,HINV0.out⟩
   case round =>
    obtain⟨i,rfl,hinv⟩:=hrel
    have hge:=hinv.ge
    have hle:=hinv.le
    obtain⟨ii,hst⟩:=hinv.st
    have f4:=cell_of_row wr f 4 _ _ _ hst.fst
    simp only[List.getElem?_toArray,List.getElem?_cons_succ,List.getElem?_cons_zero] at f4
    rw[HCN.out] at f4
    have HST:=h_ hst
    have HINV:=h_ hinv
    clear hst hinv
    by_cases hlt:i<cn
    ·have hltz:(i:Int)<cn:=by omega
     by_cases hN1:N≤i
     ·have hNz:(N:Int)≤i:=by omega
      have hnone:=h_ (show uh sha (b0 :: rest)=none by
       rw[xBi HD.out HI0.out,HCN.out,Int.toNat_natCast]
       obtain⟨pre,_,_,hg⟩:=HINV.out.go
       rw[hg,List.drop_eq_nil_of_le (by have:=HN.out;simp at this;omega),show cn-i=(cn-i-1)+1 by omega,xZd];rfl)
      have HJE:=h_ (HST.out.jn HSEC.out)
      have hro:=HJE.out.ro
      have hfz:=xEk
      have hbf:=h_ (xJ HJE.out.bel (Nat.le_refl _) zRec)
      have hr:=xI (n:=4) (setRow_heap wr W.heap.size _ zRec _ _ HJE.out.res) rfl
      have HR:=h_ hr
      have hno:=h_ (show uh sha (b0 :: rest)=none from hnone.out)
      clear hr
      unfold zRec at HR hbf
      go_wp2
      refine bodyPost_ret (v:=.tuple #[.agg zRec,.int .i64 0,.int .i64 23]) ?_ rfl ⟨hbf.out,.inr ⟨23,hno.out,(by decide),rfl⟩⟩
      exact ue rfl Tryz.isAgg222 Tryz.sizeOf222 _ _ ⟨W.heap.size,0,none⟩ _ _ _ rfl rfl rfl HR.out.1 HR.out.2
     ·have hNz:¬ (N:Int)≤i:=by omega
      have hiN:i<(b0 :: rest).length:=by rw[←HN.out];omega
      have hir:i-1<rest.length:=by simp at hiN;omega
      obtain⟨gi,hgi,hli,hlti,hsli⟩:=(HSEC.out.below HST.out.bel).at' i hiN
      have hbe:(b0 :: rest)[i]=rest[i-1]:=by
       obtain⟨i',rfl⟩:∃ i',i=i'+1:=⟨i-1,by omega⟩
       simp
      rw[hbe] at hli hsli
      obtain⟨bi,hbi⟩:∃ bi,bi=rest[i-1]:=⟨_,rfl⟩
      rw[←hbi] at hli hsli
      have hgo:∀ pre,zB sha p (cn-1) rest=(zB sha p (cn-i) (rest.drop (i-1))).map (pre ++ ·)→zB sha p (cn-1) rest=(zB sha p ((cn-i-1)+1) (bi :: rest.drop i)).map (pre ++ ·):=fun pre h=>by
       rw[h,xJr hir,←hbi,show i-1+1=i by omega,show cn-i-1+1=cn-i by omega]
      have hdec:=vt gi bi wr (HK.out.below HST.out.bel (Nat.le_refl _)) hsli hli hlti
      have HDEC2:=h_ hdec
      have HGO:=h_ hgo
      clear hdec hgo hbi hbe hsli hli hlti hir hiN
      go_wp2_with fail
      refine HDEC2.out.mono ?_
      rintro e w6 ⟨hb6,hpost⟩
      have HST6:=h_ (HST.out.later hb6)
      rcases hpost with⟨q,vq,hdq,rfl,hownq,hvnq⟩ | ⟨y,hdq,hy,rfl⟩
      ·unfold zb
       have hv1:vq.oneCell'=true:=by
        rcases hownq.at with⟨h,_⟩ | ⟨g,c,h,_⟩ <;> rw[h] <;> rfl
       have hft:=xS6 q.kind q.gen q.num q.idx q.cnt vq hv1
       have HDQ:=h_ hdq
       have HVQ:=h_ hownq
       have HVNQ:=h_ hvnq
       clear hdq hownq hvnq hgi HDEC2
       go_upto_region 18 with (fail)
       obtain⟨f2,hf2⟩:∃ f2,f2=w6.heap.size:=⟨_,rfl⟩
       obtain⟨w7,hw7⟩:∃ w7,w7=w6.alloc (.cells #[.int .i64 q.kind,.int .i64 q.gen,.int .i64 q.num,.int .i64 q.idx,.int .i64 q.cnt,vq] 217):=⟨_,rfl⟩
       refine xu hw7 ?_
       have hb7:Below w6.heap.size w6 w7:=by rw[hw7];exact b_ _ _
       have hf7:w7.heap[f2]?=some (.cells #[.int .i64 q.kind,.int .i64 q.gen,.int .i64 q.num,.int .i64 q.idx,.int .i64 q.cnt,vq] 217 (0,0)):=by rw[hw7,hf2];exact heap_alloc_new w6 _
       have HST7:=h_ (HST6.out.later hb7)
       have hxf2:x<f2:=by rw[hf2];exact HST6.out.lt
       have c3x:=cell_of_row w7 x 3 _ _ _ HST7.out.exp
       have d3x:=frozen_of_row w7 x 3 _ _ HST7.out.exp
       simp only[List.getElem?_toArray,List.getElem?_cons_succ,List.getElem?_cons_zero] at c3x
       have HF7:=h_ hf7
       have HB67:=h_ (hb6.trans (hb7.mono hb6.size))
       have HVQ7:=h_ (HVQ.out.below hb7)
       have HXF2:=h_ hxf2
       have HSZ6:=h_ (show f2=w6.heap.size∧wr.heap.size≤w6.heap.size from ⟨hf2,hb6.size⟩)
       rw[←hf2]
       clear hb7 hf7 hw7 hf2 hft hxf2 hb6 HVQ
       go_upto_region 19 with (fail)
       have hst8:=HST7.out.setI (i:Int)
       have hf8:(w7.setCell ⟨x,3,none⟩ (.int .i64 (i:Int))).heap[f2]?=_:=(heap_setCell_other w7 ⟨x,3,none⟩ f2 _ (by have:=HXF2.out;simp;omega)).trans HF7.out
       have hg8:=xI0 w7 x 3 (.int .i64 (i:Int))
       generalize w7.setCell ⟨x,3,none⟩ (.int .i64 (i:Int))=w8 at hst8 hf8 hg8 ⊢
       have HST8:=h_ hst8
       have HF8:=h_ hf8
       have HG8:=h_ hg8
       clear hst8 hf8 hg8 c3x d3x
       have r1:∀ z:xf w8,xq z.1 ⟨f2,0,none⟩ 6=true:=fun z=>(xI (n:=6) ((z.2.block _ (i_ HF8.out).1).trans HF8.out) rfl).1
       have r2:∀ z:xf w8,xp z.1 ⟨f2,0,none⟩ 6=#[.int .i64 q.kind,.int .i64 q.gen,.int .i64 q.num,.int .i64 q.idx,.int .i64 q.cnt,vq]:=fun z=>(xI (n:=6) ((z.2.block _ (i_ HF8.out).1).trans HF8.out) rfl).2
       have r3:∀ z:xf w8,xq z.1 ⟨x,0,none⟩ 5=true:=fun z=>(xI (n:=5) ((z.2.block _ HST8.out.lt).trans HST8.out.exp) rfl).1
       have r4:∀ z:xf w8,xp z.1 ⟨x,0,none⟩ 5=#[.int .i64 p.kind,.int .i64 p.gen,.int .i64 p.num,.int .i64 (i:Int),.int .i64 p.cnt]:=fun z=>(xI (n:=5) ((z.2.block _ HST8.out.lt).trans HST8.out.exp) rfl).2
       refine xw [0,2] [1,3] (fun w'=>∃ z:xf w8,w'=z.1) (by kernel_rfl) (by kernel_rfl) (by kernel_rfl) ⟨⟨_,(Below.refl _ _).drew⟩,rfl⟩ ?_
       simp only[o_]
       repeat (go_big_quiet_step (fail))
       refine wpQuiet_nil ?_
       clear r1 r2 r3 r4
       refine uw true rfl (by kernel_rfl) ?_
       go_wp2_with (go_at_call 185;refine(xEb _ _ _ _ _ _ _).mono ?_;rintro e w9 ⟨rfl,hb9⟩)
       have hb89:Below w8.heap.size w8 w9:=(Below.refl w8.heap.size w8).drew.trans hb9
       have HST9:=h_ (HST8.out.later hb89)
       have HB89:=h_ hb89
       refine⟨fun _=>⟨⟨w9,hb89⟩,rfl⟩,xG [3] _ _ (by kernel_rfl) ?_⟩
       simp only[o_]
       clear hb9 hb89
       by_cases hpl:q.kind=p.kind∧q.gen=p.gen∧q.num=p.num∧q.idx=(i:Int)∧q.cnt=p.cnt
       ·have heq:=xMd hpl
        have HPL:=h_ hpl
        clear hpl
        go_wp2
        refine NoPanic.normal ?_
        clear heq
        obtain⟨pre,hown,hprel,hg⟩:=HINV.out.go
        have hb79:wr.grownBy w9 (some x):=zR (zR (ui HB67.out (some x)) HG8.out) (ui HB89.out (some x))
        have hown9:=hown.grown hb79 (fun k e=>by cases e;intro h;exact(HINV.out.ap _ h).2.2 rfl)
        have hvq9:OwnB w9 wr.heap.size vq q.bytes:=HVQ7.out.grown (zR HG8.out (ui HB89.out (some x))) (fun k e=>by cases e;intro h;have h1:=(HVQ7.out.lt h).1;have h2:=HST.out.lt;omega)
        obtain⟨gq,cq,hvq,_,hcq,_,hslq⟩:∃ g cap,vq=.slice (some ⟨g,0,none⟩) q.bytes.length cap∧wr.heap.size≤g∧q.bytes.length≤cap∧cap≤maxLen∧SlB w9 ⟨g,0,none⟩ q.bytes:=by
         rcases hvq9.at with⟨h,_⟩ | h
         ·exact absurd h HVNQ.out
         ·exact h
        have c5q:=cell_of_row w9 f2 5 _ _ _ ((HB89.out.block _ (i_ HF8.out).1).trans HF8.out)
        simp only[List.getElem?_toArray,List.getElem?_cons_succ,List.getElem?_cons_zero] at c5q
        have hqok:=(xBl HDQ.out).2.2.2.2.2.1
        have hlim:=h_ (show (p.bytes++pre).length+q.bytes.length≤1000000000000 by rw[List.length_append];have:=HBL.out;omega)
        have hB9:=h_ (show w1.heap.size≤w9.heap.size from Nat.le_trans HINV.out.sz hb79.size)
        have hidx:q.idx=p.cnt-((cn-i-1)+1:Nat):=by rw[HPL.out.2.2.2.1,HCN.out];omega
        have hgo3:=xZc HDQ.out ⟨HPL.out.1,HPL.out.2.1,HPL.out.2.2.1,HPL.out.2.2.2.2,hidx⟩ (HGO.out pre hg)
        rw[show cn-i-1=cn-(i+1) by omega] at hgo3
        have hgo2:=h_ hgo3
        clear hidx hgo3
        have hpl2:=h_ (show (pre++q.bytes).length≤(i+1)*224 by rw[List.length_append];omega)
        have HOWN9:=h_ hown9
        have HSLQ:=h_ hslq
        have HAP:=h_ HINV.out.ap
        have HNN:=h_ HINV.out.nn
        have hx9:=h_ HST9.out.lt
        subst hvq
        clear hown hprel hg hb79 hown9 hvq9 hcq hslq hqok
        go_wp2_with (at_builtin;refine uq rfl (.tmp 64) (.tmp 66) rfl w1.heap.size _ (p.bytes++pre) rfl HOWN9.out ⟨gq,0,none⟩ q.bytes cq rfl HSLQ.out hlim.out hB9.out ?_)
        intro v' w10 ho10 hg10 hn10 hat10
        have hinv2:xYo W f x w1.heap.size p v rest cn (i+1) v' w10:=by
         refine⟨⟨_,HST9.out.grown hg10 (fun k e=>HAP.out k e)⟩,by omega,by omega,?_,?_,Nat.le_trans hB9.out hg10.size,⟨pre++q.bytes,ho10,hpl2.out,hgo2.out⟩⟩
         ·first | exact hn10 | exact fun e=>HNN.out (hn10.1 e).1
         ·intro k e
          rcases hat10 with h | h
          ·exact HAP.out k (h ▸ e)
          ·rw[h] at e
           injection e with e
           have h1:=hx9.out
           have h2:=HJL.out.fx
           have h3:=HJL.out.lf
           omega
        have HINV2:=h_ hinv2
        clear hinv2 ho10 hg10 hn10 hat10 c5q
        go_wp2
        go_roundw
        case rel=>exact⟨i+1,by go_num,HINV2.out⟩
        case measure=>simp[intOf];omega
       ·have heq:=xJ9 hpl
        have hnone:=h_ (show uh sha (b0 :: rest)=none by
         rw[xBi HD.out HI0.out,HCN.out,Int.toNat_natCast]
         obtain⟨pre,_,_,hg⟩:=HINV.out.go
         rw[HGO.out pre hg,xTf HDQ.out,if_neg (fun h=>hpl ⟨h.1,h.2.1,h.2.2.1,by rw[h.2.2.2.2,HCN.out];omega,h.2.2.2.1⟩)];rfl)
        clear hpl
        go_wp2
        refine NoPanic.normal ?_
        clear heq
        have HJE:=h_ (HST9.out.jn HSEC.out)
        have hro:=HJE.out.ro
        have hfz:=xEk
        have hbf:=h_ (xJ HJE.out.bel (Nat.le_refl _) zRec)
        have hr:=xI (n:=4) (setRow_heap w9 W.heap.size _ zRec _ _ HJE.out.res) rfl
        have HR:=h_ hr
        have hno:=h_ (show uh sha (b0 :: rest)=none from hnone.out)
        clear hr
        unfold zRec at HR hbf
        go_wp2
        refine bodyPost_ret (v:=.tuple #[.agg zRec,.int .i64 0,.int .i64 30]) ?_ rfl ⟨hbf.out,.inr ⟨30,hno.out,(by decide),rfl⟩⟩
        exact ue rfl Tryz.isAgg222 Tryz.sizeOf222 _ _ ⟨W.heap.size,0,none⟩ _ _ _ rfl rfl rfl HR.out.1 HR.out.2
      ·unfold zb
       have hft:=xAz
       have hy1:(y == 0)=false:=by rw[beq_eq_false_iff_ne];exact hy
       have hy2:(y != 0)=true:=by rw[bne_iff_ne];exact hy
       have HY:=h_ hy
       have hnone:=h_ (show uh sha (b0 :: rest)=none by
        rw[xBi HD.out HI0.out,HCN.out,Int.toNat_natCast]
        obtain⟨pre,_,_,hg⟩:=HINV.out.go
        rw[HGO.out pre hg,yB1 hdq];rfl)
       clear hdq hy hb6 hgi HDEC2
       go_upto_region 17 with (fail)
       have HST7:=h_ (HST6.out.later ((Below.refl _ _).alloc (Nat.le_refl _) (.cells #[.int .i64 0,.int .i64 0,.int .i64 0,.int .i64 0,.int .i64 0,.slice none 0 0] 217)))
       generalize w6.alloc (.cells #[.int .i64 0,.int .i64 0,.int .i64 0,.int .i64 0,.int .i64 0,.slice none 0 0] 217)=w7 at HST7 ⊢
       have HJE:=h_ (HST7.out.jn HSEC.out)
       have hro:=HJE.out.ro
       have hfz:=xEk
       have hbf:=h_ (xJ HJE.out.bel (Nat.le_refl _) zRec)
       have hr:=xI (n:=4) (setRow_heap w7 W.heap.size _ zRec _ _ HJE.out.res) rfl
       have HR:=h_ hr
       have hno:=h_ (show uh sha (b0 :: rest)=none from hnone.out)
       clear hr
       unfold zRec at HR hbf
       go_wp2
       refine bodyPost_ret (v:=.tuple #[.agg zRec,.int .i64 0,.int .i64 y]) ?_ rfl ⟨hbf.out,.inr ⟨y,hno.out,HY.out,rfl⟩⟩
       exact ue rfl Tryz.isAgg222 Tryz.sizeOf222 _ _ ⟨W.heap.size,0,none⟩ _ _ _ rfl rfl rfl HR.out.1 HR.out.2
    ·obtain rfl:i=cn:=by omega
     obtain⟨pre,hown,hprel,hg⟩:=HINV.out.go
     obtain⟨gp,np,cp,hu⟩:∃ g n c,u7=.slice (some ⟨g,0,none⟩) n c:=by
      rcases hown.at with⟨h,_⟩ | ⟨g,c,h,_⟩
      ·exact absurd h HINV.out.nn
      ·exact⟨g,_,c,h⟩
     subst hu
     rw[Nat.sub_self] at hg
     have hjn:uh sha (b0 :: rest)=some (⟨p.kind,p.gen,p.num,p.bytes++pre⟩,i):=by
      rw[xBi HD.out HI0.out,HCN.out,Int.toNat_natCast,hg]
      simp[zB]
     have HJN:=h_ hjn
     have HOWNP:=h_ hown
     have HNN:=h_ HINV.out.nn
     have HAP:=h_ HINV.out.ap
     have hpv1:(Value.slice (some ⟨gp,0,none⟩) np cp).oneCell'=true:=rfl
     have hf4:xy 4 #[.int .i64 p.kind,.int .i64 p.gen,.int .i64 p.num,(.slice (some ⟨gp,0,none⟩) np cp)]=true:=zT rfl (by rw[Array.all_eq_true_iff_forall_mem];intro y hy;simp at hy;rcases hy with rfl | rfl | rfl | rfl <;> first | rfl | exact hpv1)
     have hnlt:¬ (i:Int)<i:=by omega
     clear hjn hown hprel hg hpv1
     go_upto_region 22 with (fail)
     have q0:∀ z:FCls f #[.int .i64 p.kind,.int .i64 p.gen,.int .i64 p.num,.int .i64 p.idx,.int .i64 p.cnt,v],z.1.cell? ⟨f,0,none⟩=some (.int .i64 p.kind):=fun z=>z.cell 0
     have q1:∀ z:FCls f #[.int .i64 p.kind,.int .i64 p.gen,.int .i64 p.num,.int .i64 p.idx,.int .i64 p.cnt,v],z.1.cell? ⟨f,1,none⟩=some (.int .i64 p.gen):=fun z=>z.cell 1
     have q2:∀ z:FCls f #[.int .i64 p.kind,.int .i64 p.gen,.int .i64 p.num,.int .i64 p.idx,.int .i64 p.cnt,v],z.1.cell? ⟨f,2,none⟩=some (.int .i64 p.num):=fun z=>z.cell 2
     have q4:∀ z:FCls f #[.int .i64 p.kind,.int .i64 p.gen,.int .i64 p.num,.int .i64 p.idx,.int .i64 p.cnt,v],z.1.cell? ⟨f,4,none⟩=some (.int .i64 (i:Int)):=fun z=>(z.cell 4).trans (by rw[HCN.out];rfl)
     haveI:Nonempty (FCls f #[.int .i64 p.kind,.int .i64 p.gen,.int .i64 p.num,.int .i64 p.idx,.int .i64 p.cnt,v]):=⟨⟨wr,HST.out.fst⟩⟩
     refine xw [0,1,2,3,4,5,6,7,8,9] [10,11,12] (fun w'=>∃ z:FCls f #[.int .i64 p.kind,.int .i64 p.gen,.int .i64 p.num,.int .i64 p.idx,.int .i64 p.cnt,v],w'=z.1) (by kernel_rfl) (by kernel_rfl) (by kernel_rfl) ⟨⟨wr.drew,HST.out.fst⟩,rfl⟩ ?_
     simp only[o_]
     repeat (go_big_quiet_step (fail))
     refine wpQuiet_nil ?_
     clear q0 q1 q2 q4
     have hro:xP wr W.heap.size 4=true:=(HST.out.jn HSEC.out).ro
     clear hnlt f4
     refine yz true (by kernel_rfl) (by kernel_rfl) ?_
     simp only[o_]
     go_wp2_with fail
     refine⟨fun _=>⟨⟨_,?_⟩,rfl⟩,xG [11,12] _ _ (by kernel_rfl) ?_⟩
     ·exact(setRow_other _ _ _ _ (by have:=HST.out.lf;omega)).trans HST.out.fst
     simp only[o_]
     have hbf:=h_ (xJ HST.out.bel.drew (Nat.le_refl _) #[.int .i64 p.kind,.int .i64 p.gen,.int .i64 p.num,(.slice (some ⟨gp,0,none⟩) np cp)])
     have hr:=xI (n:=4) (setRow_heap wr.drew W.heap.size _ #[.int .i64 p.kind,.int .i64 p.gen,.int .i64 p.num,(.slice (some ⟨gp,0,none⟩) np cp)] _ _ HST.out.res) rfl
     have HR:=h_ hr
     have hownf:=h_ ((HOWNP.out.below (xQj wr)).grown (kQ wr.drew W.heap.size #[.int .i64 p.kind,.int .i64 p.gen,.int .i64 p.num,(.slice (some ⟨gp,0,none⟩) np cp)]) (fun k e=>by cases e;intro h;have:=(HAP.out _ h).1;omega))
     clear hr hf4 hro
     go_wp2
     refine NoPanic.normal ?_
     go_wp2
     refine bodyPost_ret (v:=.tuple #[.agg #[.int .i64 p.kind,.int .i64 p.gen,.int .i64 p.num,(.slice (some ⟨gp,0,none⟩) np cp)],.int .i64 i,.int .i64 0]) ?_ rfl ⟨hbf.out,.inl ⟨_,i,(.slice (some ⟨gp,0,none⟩) np cp),HJN.out,rfl,hownf.out.base hB0.out,HNN.out⟩⟩
     exact ue rfl Tryz.isAgg222 Tryz.sizeOf222 _ _ ⟨W.heap.size,0,none⟩ _ _ _ rfl rfl rfl HR.out.1 HR.out.2
  ·have hi1:(p.idx != 0)=true:=by rw[bne_iff_ne];exact hi0
   have HI0:=h_ hi0
   clear hi0
   have HJE:=h_ (HJL.out.jn HSEC.out)
   have hro:=HJE.out.ro
   have hfz:=xEk
   have hbf:=h_ (xJ HJE.out.bel (Nat.le_refl _) zRec)
   have hr:=xI (n:=4) (setRow_heap w5 W.heap.size _ zRec _ _ HJE.out.res) rfl
   have HR:=h_ hr
   have hno:=h_ (show uh sha (b0 :: rest)=none from xJd HD.out HI0.out)
   clear hr
   unfold zRec at HR hbf
   go_wp2
   refine bodyPost_ret (v:=.tuple #[.agg zRec,.int .i64 0,.int .i64 30]) ?_ rfl ⟨hbf.out,.inr ⟨30,hno.out,(by decide),rfl⟩⟩
   exact ue rfl Tryz.isAgg222 Tryz.sizeOf222 _ _ ⟨W.heap.size,0,none⟩ _ _ _ rfl rfl rfl HR.out.1 HR.out.2
 ·unfold zb
  have hft:=xAz
  have hx1:(x == 0)=false:=by rw[beq_eq_false_iff_ne];exact hx
  have hx2:(x != 0)=true:=by rw[bne_iff_ne];exact hx
  have HD:=h_ hd
  have HX:=h_ hx
  clear hd hx hb2 c1 HDEC
  go_upto_region 5 with (fail)
  have HJ3:=h_ (HJ2.out.later ((Below.refl _ _).alloc (Nat.le_refl _) (.cells #[.int .i64 0,.int .i64 0,.int .i64 0,.int .i64 0,.int .i64 0,.slice none 0 0] 217)))
  generalize w2.alloc (.cells #[.int .i64 0,.int .i64 0,.int .i64 0,.int .i64 0,.int .i64 0,.slice none 0 0] 217)=w3 at HJ3 ⊢
  have HJE:=h_ (HJ3.out)
  have hro:=HJE.out.ro
  have hfz:=xEk
  have hbf:=h_ (xJ HJE.out.bel (Nat.le_refl _) zRec)
  have hr:=xI (n:=4) (setRow_heap w3 W.heap.size _ zRec _ _ HJE.out.res) rfl
  have HR:=h_ hr
  have hno:=h_ (show uh sha (b0 :: rest)=none from xHu HD.out)
  clear hr
  unfold zRec at HR hbf
  go_wp2
  refine bodyPost_ret (v:=.tuple #[.agg zRec,.int .i64 0,.int .i64 x]) ?_ rfl ⟨hbf.out,.inr ⟨x,hno.out,HX.out,rfl⟩⟩
  exact ue rfl Tryz.isAgg222 Tryz.sizeOf222 _ _ ⟨W.heap.size,0,none⟩ _ _ _ rfl rfl rfl HR.out.1 HR.out.2
end
section
theorem xXn {H:By→By}{p:zk}:∀ (n:Nat) (l:List By) (x:By),zB H p n l=some x→n≤l.length
 | 0,_,_,_=>Nat.zero_le _
 | n+1,[],_,h=>by cases h
 | n+1,b :: r,x,h=>by
  simp only[zB] at h
  cases hd:decP H b with
  | none=>rw[hd] at h;cases h
  | some q =>
   rw[hd] at h
   simp only at h
   split at h
   ·cases hg:zB H p n r with
    | none=>rw[hg] at h;cases h
    | some y=>have:=xXn n r y hg;simp;omega
   ·cases h
theorem xRx {H:By→By}{l:List By}{r:PRec}{n:Nat}(h:uh H l=some (r,n)):1≤n∧n≤l.length:=by
 cases l with
 | nil=>cases h
 | cons b rest =>
  simp only[uh] at h
  cases hd:decP H b with
  | none=>rw[hd] at h;cases h
  | some p =>
   rw[hd] at h
   simp only at h
   have hok:=xBl hd
   split at h
   ·cases hg:zB H p (p.cnt.toNat-1) rest with
    | none=>rw[hg] at h;cases h
    | some y =>
     rw[hg] at h
     simp only[Option.map_some,Option.some.injEq,Prod.mk.injEq] at h
     have h1:=xXn _ _ _ hg
     have h2:=hok.2.1
     simp only[List.length_cons]
     omega
   ·cases h
theorem Tryz.info_rec:(Tryz.prog.info? 222).map (fun i=>(i.zero,i.size,i.bytes))=some (some (.agg #[.int .i64 0,.int .i64 0,.int .i64 0,.slice none 0 0]),4,48):=by kernel_rfl
def zS:List (PRec × Value)→List Value:=List.flatMap fun x=>y8 x.1.kind x.1.gen x.1.num x.2
theorem xJj (l:List (PRec × Value))(x:PRec × Value):zS (l++[x])=zS l++y8 x.1.kind x.1.gen x.1.num x.2:=by simp[zS]
structure RcAt (w:World)(B:Nat)(v:Value)(l:List (PRec × Value)):Prop where
 own:w.ownsRow B 222 4 v l.length (zS l)
 el:∀ x∈l,OwnB w B x.2 x.1.pay∧x.2≠.slice none 0 0∧∀ k,x.2.ownBlock=some k→v.ownBlock≠some k
theorem RcAt.nil (w:World)(B:Nat):RcAt w B (.slice none 0 0) []:=⟨World.ownsRow_nil _ _ _ _,fun x hx=>by cases hx⟩
theorem RcAt.later {w w':World}{B:Nat}{v:Value}{l:List (PRec × Value)}(h:RcAt w B v l)(hb:Below w.heap.size w w'):RcAt w' B v l :=
 ⟨World.ownsRow.kept (row:=none) h.own (ui hb none) (by cases v.ownBlock <;> simp),fun x hx=>⟨(h.el x hx).1.below hb,(h.el x hx).2⟩⟩
theorem RcAt.app {w w':World}{B:Nat}{v v':Value}{l:List (PRec × Value)}{x:PRec × Value}(h:RcAt w B v l)(ho:w'.ownsRow B 222 4 v' (l.length+1) (zS l++y8 x.1.kind x.1.gen x.1.num x.2))(hg:w.grownBy w' v.ownBlock)
  (hx:OwnB w B x.2 x.1.pay∧x.2≠.slice none 0 0∧∀ k,x.2.ownBlock=some k→v.ownBlock≠some k) (hv':∀ k,v'.ownBlock=some k→v.ownBlock=some k∨w.heap.size≤k):RcAt w' B v' (l++[x]):=by
 refine⟨by rw[xJj];simpa using ho,fun y hy=>?_⟩
 have hy2:OwnB w B y.2 y.1.pay∧y.2≠.slice none 0 0∧∀ k,y.2.ownBlock=some k→v.ownBlock≠some k:=by
  rcases List.mem_append.1 hy with h1 | h1
  ·exact h.el y h1
  ·rw[List.mem_singleton.1 h1];exact hx
 refine⟨hy2.1.grown hg (fun k e e2=>hy2.2.2 k e2 e),hy2.2.1,fun k e e2=>?_⟩
 rcases hv' k e2 with h1 | h1
 ·exact hy2.2.2 k e h1
 ·have:=(hy2.1.lt e).2;omega
def xYi (gen num:Int)(L:List (List UInt8))(W:World)(e:Ending)(W':World):Prop :=
 Below W.heap.size W W'∧∃ v l c x,e=.returned (.tuple #[v,.int .i64 c,.int .i64 x])∧RcAt W' W.heap.size v l∧l.map Prod.fst=zX sha gen (L.length+1) num L
attribute [local go_sem ↓] kj xB2 qQ qq
attribute [local go_sem] xHo xO0 xEh xE4 zt zw yD yC yA3 xj xh xe xd xA xz xo xl xt xC xx
theorem xV2:Tryz.prog.elem 129=66:=by kernel_rfl
theorem xR9 (a:Addr)(len cap k:Nat)(z:Int)(hz:z=k)(hk:k≤len)(hc:k<cap)(w:World):Sem.run Tryz.prog (Instr.sliceAt 129 (.slice (some a) len cap) (some (.int .i64 z)) none none) w=.ok (.slice (some (a.add k)) (len-k) (cap-k)) w:=by
 subst hz
 rw[run_sliceAt_slice w 129 _ _ _ _ (by kernel_rfl),run_slice_l w 129 (some a) len cap (by kernel_rfl) .i64 k (by omega) (by omega),xV2,Tryz.sizeOf66]
 simp only[Result.andThen_ok,sliced,Int.toNat_natCast,Nat.mul_one,Option.map_some]
 rw[if_neg (by omega)]
theorem xK9 {H:By→By}{gen num:Int}{F:Nat}{l:List By}(h:uh H l=none):zX H gen F num l=[]:=by
 cases F with
 | zero=>rfl
 | succ F=>simp only[zX,h]
theorem xOc {H:By→By}{gen num:Int}{F n:Nat}{l:List By}{r:PRec}(h:uh H l=some (r,n))(hb:¬ (r.gen=gen∧r.num=num)):zX H gen F num l=[]:=by
 cases F with
 | zero=>rfl
 | succ F=>simp only[zX,h,if_neg hb,ite_self]
theorem xUc {H:By→By}{gen num:Int}{F n:Nat}{l:List By}{r:PRec}(h:uh H l=some (r,n))(hb:r.gen=gen∧r.num=num)(hl:l≠[]):zX H gen (F+1) num l=r :: zX H gen F (num+1) (l.drop n):=by
 simp only[zX,h,if_pos hb,if_neg hl]
theorem yB2 (a b c:Int)(g n k:Nat):xy 4 #[.int .i64 a,.int .i64 b,.int .i64 c,.slice (some ⟨g,0,none⟩) n k]=true:=by simp[xy,Value.oneCell']
structure yA5 (W0:World)(gen num:Int)(L:List (List UInt8))(c:Nat)(v:Value)(W:World):Prop where
 bel:Below W0.heap.size W0 W
 le:c≤L.length
 go:∃ l F,RcAt W W0.heap.size v l∧(L.drop c).length<F∧l.length≤c∧zX sha gen (L.length+1) num L=l.map Prod.fst++zX sha gen F (num+l.length) (L.drop c)
theorem xWg (gen num:Int)(a:Addr)(L:List (List UInt8))(cap:Nat)(W:World)(hK:qF W)(hs:xB8 W a L)(hlbl:kE 0 gen num)(hcap:L.length≤cap)(hl:L.length≤100000) :
  Calls Tryz.prog 138 #[.int .i64 gen,.int .i64 num,.slice (some a) L.length cap] W (xYi gen num L W):=by
 obtain⟨N,hN⟩:∃ N,N=L.length:=⟨_,rfl⟩
 rw[←hN] at hcap hl ⊢
 have HN:=h_ hN
 have HS:=h_ hs
 have HK:=h_ hK
 have HL:=h_ hlbl
 have hnum0:=hlbl.2.2.2.2.1
 have hnum1:=hlbl.2.2.2.2.2
 clear hN hs hK hlbl
 go_enter Tryz.func138,Tryz.ntmps138
 go_wp2_with fail
 go_step3
 go_wp2_with fail
 refine(xE1 _ _ _ _).mono ?_
 rintro e w1 ⟨b,rfl,hbv,hb1⟩
 obtain rfl:b=true:=hbv.2 HL.out
 have hB1:Below W.heap.size W w1:=((Below.refl W.heap.size W).alloc (Nat.le_refl _) _).trans (hb1.mono (by simp))
 have HB1:=h_ hB1
 clear hbv hb1 hB1
 go_wp2
 go_step3
 go_wp2
 go_loopw [6,7,8] (fun v cv ev wr=>∃ c:Nat,∃ x:Int,cv=.int .i64 c∧ev=.int .i64 x∧yA5 W gen num L c v wr) (fun _ cv _ _=>N-(intOf cv).toNat)
 case atStart=>exact⟨0,0,rfl,rfl,HB1.out,Nat.zero_le _,[],L.length+1,RcAt.nil _ _,by simp,by simp,by simp⟩
 case round =>
  obtain⟨c,x,rfl,rfl,hinv⟩:=hrel
  have hcle:=hinv.le
  have HINV:=h_ hinv
  clear hinv
  by_cases hlt:c<N
  ·have hltz:(c:Int)<N:=by omega
   have hsl:=xR9 a N cap c (c:Int) rfl (by omega) (by omega)
   have hne:L.drop c≠[]:=fun h=>by
    have:=congrArg List.length h
    rw[List.length_drop,←HN.out] at this
    simp at this;omega
   have hjn:=xX8 (a.add c) (L.drop c) (cap-c) wr (HK.out.below HINV.out.bel (Nat.le_refl _)) ((HS.out.below HINV.out.bel).drop c) hne (by rw[List.length_drop,←HN.out];omega) (by rw[List.length_drop,←HN.out];omega)
   rw[List.length_drop,←HN.out] at hjn
   have HJN:=h_ hjn
   have HNE:=h_ hne
   obtain⟨l,F,hrc,hF,hlc,hgo⟩:=HINV.out.go
   have HRC:=h_ hrc
   have HF:=h_ hF
   have HLC:=h_ hlc
   have HGO:=h_ hgo
   clear hjn hne hrc hF hlc hgo
   go_wp2_with fail
   refine HJN.out.mono ?_
   rintro e w5 ⟨hb5,hpost⟩
   have HRC5:=h_ (HRC.out.later hb5)
   have HB5:=h_ (HINV.out.bel.trans (hb5.mono HINV.out.bel.size))
   have HSZ5:=h_ hb5.size
   rcases hpost with⟨r,n,v,hj,rfl,hown,hvn⟩ | ⟨y,hj,hy,rfl⟩
   ·obtain⟨oa,oc,hu⟩:∃ oa oc,u6=.slice oa l.length oc:=by
     rcases HRC.out.own.2 with⟨h,h0⟩ | ⟨g,cap',cur,h,_⟩
     ·exact⟨none,0,by rw[h,h0]⟩
     ·exact⟨_,_,h⟩
    obtain⟨vg,vn,vc,hv⟩:∃ g n c,v=.slice (some ⟨g,0,none⟩) n c:=by
     rcases hown.at with⟨h,_⟩ | ⟨g,c,h,_⟩
     ·exact absurd h hvn
     ·exact⟨g,_,c,h⟩
    subst hv
    obtain⟨M,hM⟩:∃ M,M=l.length:=⟨_,rfl⟩
    rw[←hM] at hu
    subst hu
    have hMc:M≤100000:=by have:=HLC.out;have:=HN.out;omega
    have hMz:(M:Int)≤100000:=by omega
    unfold y8
    have hft:=yB2 r.kind r.gen r.num vg vn vc
    have hba:Below w5.heap.size w5 (w5.alloc (.cells #[.int .i64 r.kind,.int .i64 r.gen,.int .i64 r.num,.slice (some ⟨vg,0,none⟩) vn vc] 222)):=(Below.refl _ _).alloc (Nat.le_refl _) _
    have HRC6:=h_ (HRC5.out.later hba)
    have HB6:=h_ (HB5.out.trans (hba.mono HB5.out.size))
    have HOWN6:=h_ (hown.below hba)
    have HOWN5:=h_ hown
    have HMM:=h_ hM
    have HVN:=h_ hvn
    have HJ:=h_ hj
    have hjn:=h_ (xRx hj)
    clear hba hb5 hj hsl HJN hown hvn hM
    by_cases hg:r.gen=gen
    ·by_cases hm:r.num=num+M
     ·have hg1:(r.gen != gen)=false:=by rw[hg];simp
      have hm1:(r.num != num+M)=false:=by rw[hm];simp
      have HGM:=h_ (And.intro hg hm)
      clear hg hm
      go_upto_region 10 with (fail)
      clear hg1 hm1
      obtain⟨w6,hw6⟩:∃ w6,w6=w5.alloc (.cells #[.int .i64 r.kind,.int .i64 r.gen,.int .i64 r.num,.slice (some ⟨vg,0,none⟩) vn vc] 222):=⟨_,rfl⟩
      refine xu hw6 ?_
      have hrc6:=HRC6.out
      have hb6:=HB6.out
      have hown6:=HOWN6.out
      have hrow6:w6.heap[w5.heap.size]?=some (.cells #[.int .i64 r.kind,.int .i64 r.gen,.int .i64 r.num,.slice (some ⟨vg,0,none⟩) vn vc] 222 (0,0)):=by rw[hw6];exact heap_alloc_new w5 _
      have hsz6:w6.heap.size=w5.heap.size+1:=by rw[hw6,World.size_alloc]
      rw[←hw6] at hrc6 hb6 hown6
      have hq:=xI (n:=4) hrow6 rfl
      have q1:=hq.1
      have q2:=hq.2
      have hba2:Below w6.heap.size w6 (w6.alloc (.cells #[.int .i64 r.kind,.int .i64 r.gen,.int .i64 r.num,.slice (some ⟨vg,0,none⟩) vn vc] 222)):=(Below.refl _ _).alloc (Nat.le_refl _) _
      have HRC7:=h_ (hrc6.later hba2)
      have HB7:=h_ (hb6.trans (hba2.mono hb6.size))
      have HOWN7:=h_ (hown6.below hba2)
      have hownlt:=h_ (show ∀ k,(Value.slice oa M oc).ownBlock=some k→k<wr.heap.size from fun k e=>(World.ownsRow.lt HRC.out.own k e).2)
      have hvlt:=h_ (show ∀ k,(Value.slice (some ⟨vg,0,none⟩) vn vc).ownBlock=some k→wr.heap.size≤k∧k<w5.heap.size from fun k e=>HOWN5.out.lt e)
      have HS56:=h_ (And.intro HSZ5.out hsz6)
      have hbase:=h_ (show W.heap.size≤(w6.alloc (.cells #[.int .i64 r.kind,.int .i64 r.gen,.int .i64 r.num,.slice (some ⟨vg,0,none⟩) vn vc] 222)).heap.size from HB7.out.size)
      have hnews:=h_ (show ∀ j u,(y8 r.kind r.gen r.num (.slice (some ⟨vg,0,none⟩) vn vc))[j]?=some u→(w6.alloc (.cells #[.int .i64 r.kind,.int .i64 r.gen,.int .i64 r.num,.slice (some ⟨vg,0,none⟩) vn vc] 222)).cell? ((⟨w6.heap.size,0,none⟩:Addr).add j)=some u from fun j u hj=>by
       rw[Addr.add_lit,Nat.zero_add,yy];simpa[y8] using hj)
      have hone:=h_ (show ∀ u∈y8 r.kind r.gen r.num (.slice (some ⟨vg,0,none⟩) vn vc),u.oneCell'=true from fun u hu=>by
       simp only[y8,List.mem_cons,List.not_mem_nil,or_false] at hu
       rcases hu with rfl | rfl | rfl | rfl <;> rfl)
      have hown8:=HRC7.out.own
      rw[←HMM.out] at hown8
      have HOWN8:=h_ hown8
      obtain⟨i0,hi,hz0,hz1,hz2⟩:=info_parts Tryz.info_rec
      have HI:=h_ (And.intro hi (And.intro hz0 (And.intro hz1 hz2)))
      clear hrc6 hb6 hown6 hrow6 hsz6 hq hba2 hw6 hown8 hi hz0 hz1 hz2 HRC6 HB6 HOWN6
      go_wp2_with (at_builtin;refine wpList_append_own_at _ rfl (.tmp 49) (.tmp 51) 223 rfl W.heap.size 222 i0 (.agg #[.int .i64 0,.int .i64 0,.int .i64 0,.slice none 0 0]) 4 48 Tryz.underlying223 HI.out.1 HI.out.2.1 HI.out.2.2.1 HI.out.2.2.2 rfl (by decide) _ M (zS l) rfl HOWN8.out ⟨w6.heap.size,0,none⟩ 1 1 (y8 r.kind r.gen r.num (.slice (some ⟨vg,0,none⟩) vn vc)) rfl rfl hnews.out hone.out ?cA ?cB hbase.out ?_)
      case cA=>unfold maxLen;omega
      case cB=>omega
      intro v' w8 ho8 hg8 _ hat8
      have hx8:OwnB _ W.heap.size (Value.slice (some ⟨vg,0,none⟩) vn vc) r.pay∧_∧∀ k,(Value.slice (some ⟨vg,0,none⟩) vn vc).ownBlock=some k→(Value.slice oa M oc).ownBlock≠some k:=⟨HOWN7.out.base HINV.out.bel.size,HVN.out,fun k e e2=>by have h1:=hvlt.out k e;have h2:=hownlt.out k e2;omega⟩
      have ho8':=ho8
      rw[HMM.out] at ho8'
      have hrc8:=HRC7.out.app (x:=(r,.slice (some ⟨vg,0,none⟩) vn vc)) ho8' hg8 hx8 (fun k e=>by
       rcases hat8 with h | h
       ·exact .inl (h ▸ e)
       ·exact .inr (by rw[h] at e;rw[World.size_alloc];exact Nat.le_of_eq (Option.some.inj e)))
      have hb8:Below W.heap.size W w8:=HB7.out.grown hg8 HB7.out.size (fun k e=>(World.ownsRow.lt HRC.out.own k e).1)
      have hn12:=hjn.out
      have hFF:=HF.out
      have hNN:=HN.out
      have hlc:=HLC.out
      rw[List.length_drop] at hn12
      have hinv8:yA5 W gen num L (c+n) v' w8:=by
       refine⟨hb8,by omega,l++[(r,.slice (some ⟨vg,0,none⟩) vn vc)],F-1,hrc8,?_,?_,?_⟩
       ·rw[List.length_drop] at hFF ⊢;omega
       ·rw[List.length_append,List.length_singleton];omega
       ·obtain⟨F',rfl⟩:∃ F',F=F'+1:=⟨F-1,by omega⟩
        rw[HGO.out,xUc HJ.out ⟨HGM.out.1,by rw[HGM.out.2,HMM.out]⟩ HNE.out,List.drop_drop]
        simp[Int.add_assoc]
      have HINV8:=h_ hinv8
      have hcn:c+n≤100000:=by omega
      have hn1:=hn12.1
      have hcnz:(c:Int)+n≤100000:=by omega
      clear ho8 hg8 hat8 hx8 ho8' hrc8 hb8 hn12 hFF hinv8 q1 q2
      go_wp2
      go_roundw
      case rel=>exact⟨c+n,x,by go_num,rfl,HINV8.out⟩
      case measure=>simp[intOf];omega
     ·have hg1:(r.gen != gen)=false:=by rw[hg];simp
      have hm1:(r.num != num+M)=true:=by rw[bne_iff_ne];exact hm
      have HEQ:=h_ (show l.map Prod.fst=zX sha gen (L.length+1) num L by rw[HGO.out,xOc HJ.out (fun h=>hm (by rw[h.2,HMM.out])),List.append_nil])
      clear hm hg
      go_wp2
      refine bodyPost_ret (results_tmp3 rfl _ _ _) rfl ?_
      refine⟨HB6.out,.slice oa M oc,l,c,30,rfl,HRC6.out,HEQ.out⟩
    ·have hg1:(r.gen != gen)=true:=by rw[bne_iff_ne];exact hg
     have HEQ:=h_ (show l.map Prod.fst=zX sha gen (L.length+1) num L by rw[HGO.out,xOc HJ.out (fun h=>hg h.1),List.append_nil])
     clear hg
     go_wp2
     refine bodyPost_ret (results_tmp3 rfl _ _ _) rfl ?_
     refine⟨HB6.out,.slice oa M oc,l,c,30,rfl,HRC6.out,HEQ.out⟩
   ·unfold y8
    have hft:=xEk
    have hy1:(y == 0)=false:=by rw[beq_eq_false_iff_ne];exact hy
    have hy2:(y != 0)=true:=by rw[bne_iff_ne];exact hy
    have hba:Below w5.heap.size w5 (w5.alloc (.cells #[.int .i64 0,.int .i64 0,.int .i64 0,.slice none 0 0] 222)):=(Below.refl _ _).alloc (Nat.le_refl _) _
    have HRC6:=h_ (HRC5.out.later hba)
    have HB6:=h_ (HB5.out.trans (hba.mono HB5.out.size))
    have HEQ:=h_ (show l.map Prod.fst=zX sha gen (L.length+1) num L by rw[HGO.out,xK9 hj,List.append_nil])
    clear hba hy hb5 hj hsl HJN
    go_wp2
    refine bodyPost_ret (results_tmp3 rfl _ _ _) rfl ?_
    refine⟨HB6.out,u6,l,c,y,rfl,HRC6.out,HEQ.out⟩
  ·obtain rfl:c=N:=by have:=HN.out;omega
   obtain⟨l,F,hrc,hF,hlc,hgo⟩:=HINV.out.go
   have HEQ:=h_ (show l.map Prod.fst=zX sha gen (L.length+1) num L by rw[hgo,List.drop_eq_nil_of_le (by have:=HN.out;omega),xK9 rfl,List.append_nil])
   have HRC:=h_ hrc
   clear hrc hF hlc hgo
   go_wp2
   refine bodyPost_ret (results_tmp3 rfl _ _ _) rfl ?_
   refine⟨HINV.out.bel,u6,l,c,x,rfl,HRC.out,HEQ.out⟩
end
section
attribute [local go_sem ↓] xV xO yp yh
attribute [local go_sem] zx zA zG zF yW xj xh xe xd xAp xAj xA u9 qa xt xC xx kS vC js
attribute [local go_sem] lc0 lc33 lc34 lc35 lc36 lc37 rc0 rc1 rc34 rc35 rc36 rc37 rc38 xAo xAi xD9 xD2 xH9 xH0 xF7 xF2
theorem kf {n lo hi e:Int}(he:e≠0)(h:uO n lo hi e=0):lo≤n∧n≤hi:=by
 unfold uO at h
 split at h
 ·exact absurd h he
 ·omega
theorem xCu {s:List UInt8}{m:Int}(h:qH s m=0):(s.length:Int)≤m∧s.any uY=false:=by
 unfold qH at h
 split at h
 ·cases h
 ·split at h
  ·cases h
  ·rename_i h1 h2
   exact⟨by omega,by simpa using h2⟩
theorem xM3 {ids:List Id32}(h:vN ids=0):ids.length≤20∧qJ ids ids.length=false:=by
 unfold vN at h
 split at h
 ·cases h
 ·split at h
  ·cases h
  ·rename_i h1 h2
   exact⟨by omega,by simpa using h2⟩
theorem xH5:∀ {l:List Int},jT l=0→∀ e∈l,e=0
 | [],_,e,he=>by cases he
 | x :: l,h,e,he=>by
  unfold jT at h
  split at h
  ·rename_i hx
   rcases List.mem_cons.1 he with rfl | he
   ·exact hx
   ·exact xH5 h e he
  ·rename_i hx;exact absurd h hx
theorem xMf {g:yd}{ids:List Id32}(h:xG4 g ids=0):(1≤g.number∧g.number≤2147483646)∧g.name.size≤60∧(0≤g.date∧g.date≤105190559)∧g.subject.size≤200∧ids.length≤20∧(0≤g.bytes∧g.bytes≤65536):=by
 have hz:=xH5 h
 have h1:=kf (by decide) (hz (uO g.number 1 2147483646 2) (by simp))
 have h2:=xCu (hz (qH g.name.data.toList 60) (by simp))
 have h3:=kf (by decide) (hz (uO g.date 0 105190559 13) (by simp))
 have h4:=xCu (hz (qH g.subject.data.toList 200) (by simp))
 have h5:=xM3 (hz (vN ids) (by simp))
 have h6:=kf (by decide) (hz (uO g.bytes 0 65536 2) (by simp))
 have e2:=h2.1
 have e4:=h4.1
 rw[qN] at e2 e4
 exact⟨h1,by omega,h3,by omega,h5.1,h6⟩
end
section
attribute [local go_sem ↓] xV xO xB6 j7
attribute [local go_sem] zx zA yW xj xh xe xd xA xz xo xl xHa xH1 xt xC xx kS xF
def hv (c:UInt8):Nat:=if 48≤c.toNat∧c.toNat≤57 then c.toNat-48 else if 97≤c.toNat∧c.toNat≤102 then c.toNat-87 else 16
theorem jj {P:Program}{fn:Func}{p t:Tmp}{ty n:Nat}(h:fn.results=#[.cell p ty,.tmp t])(hA:∀ w,Sem.run P (isAgg ty) w=.ok true w)(hs:∀ w,Sem.run P (Go.sizeOf ty) w=.ok n w)
  (tmps:Array Value) (w:World) (a:Addr) (cs:Array Value) (v:Value) (hp:tmps.getD p undef=.pointer (some a)) (hv:tmps.getD t undef=v) (hok:xq w a n=true) (hrd:xp w a n=cs) :
  (results fn tmps).run P w=.ok (.tuple #[.agg cs,v]) w:=by
 have hp':tmps[p]?.getD undef=.pointer (some a):=by simpa using hp
 have hv2:tmps[t]?.getD undef=v:=by simpa using hv
 have hl:(loadVar ty a).run P w=.ok (.agg cs) w:=by
  simp[loadVar,hA,hs,zv w a n hok,hrd]
 simp[results,h,hp',hv2,asAddr,hl]
end
def ux (c:UInt8):List UInt8→List (List UInt8)
 | []=>[[]]
 | b :: l=>if b=c then [] :: ux c l else match ux c l with
  | h :: t=>(b :: h) :: t
  | []=>[[b]]
theorem xU9 (c:UInt8)(l:List UInt8):ux c l≠[]:=by
 cases l with
 | nil=>simp[ux]
 | cons b l =>
  unfold ux
  split
  ·simp
  ·split <;> simp
theorem xO5 (c b:UInt8)(l:List UInt8)(h:b≠c)(k:Nat):Lib.splitK [c] 0 k (b :: l)=match Lib.splitK [c] 0 k l with | h :: t=>(b :: h) :: t | []=>[[b]]:=by
 have hp:([c]:List UInt8).isPrefixOf (b :: l)=false:=by simp[List.isPrefixOf,Ne.symm h]
 have hix:Lib.index (b :: l) [c]=if Lib.index l [c] == -1 then -1 else Lib.index l [c]+1:=by rw[Lib.index,hp];simp
 cases k with
 | zero=>rfl
 | succ k =>
  by_cases hm:Lib.index l [c]=-1
  ·have e1:Lib.index (b :: l) [c]=-1:=by rw[hix,if_pos (beq_iff_eq.2 hm)]
   simp[Lib.splitK,hm,e1]
  ·have hge:=Lib.index_ge l [c]
   obtain⟨j,hj⟩:∃ j:Nat,Lib.index l [c]=j:=⟨(Lib.index l [c]).toNat,by omega⟩
   have e1:Lib.index (b :: l) [c]=((j+1:Nat):Int):=by rw[hix,if_neg (fun e=>hm (beq_iff_eq.1 e)),hj];omega
   have hne:∀ n:Nat,((n:Int) == -1)=false:=fun n=>beq_eq_false_iff_ne.2 (by omega)
   unfold Lib.splitK
   rw[e1,hj,hne,hne]
   simp
theorem xO4 (c:UInt8):∀ l:List UInt8,Lib.split l [c]=ux c l
 | []=>by
  have:Lib.count [] [c]=0:=by rw[Lib.count_one];rfl
  unfold Lib.split;rw[this];rfl
 | b :: l=>by
  have ih:=xO4 c l
  unfold Lib.split at ih ⊢
  by_cases h:b=c
  ·subst h
   rw[Lib.count_cons_eq,Nat.add_comm 1]
   have hix:Lib.index (b :: l) [b]=((0:Nat):Int):=by rw[Lib.index];simp[List.isPrefixOf]
   unfold Lib.splitK ux
   rw[hix,if_pos rfl,if_neg (by decide)]
   simp[ih]
  ·rw[Lib.count_cons_ne b c l h,xO5 c b l h,ih]
   conv=>rhs;rw[ux]
   rw[if_neg h]
def yG (c:UInt8)(s:ByteArray):List ByteArray:=(ux c s.data.toList).map str
theorem xK4 (c:UInt8)(s:ByteArray):Lib.splitB ⟨#[c]⟩ 0 (Lib.countB s ⟨#[c]⟩) s=yG c s:=by
 have h:=Lib.splitB_data ⟨#[c]⟩ 0 (Lib.countB s ⟨#[c]⟩) s
 have h2:Lib.splitK [c] 0 (Lib.countB s ⟨#[c]⟩) s.data.toList=ux c s.data.toList:=by
  rw[←xO4];rfl
 have h3:(Lib.splitB ⟨#[c]⟩ 0 (Lib.countB s ⟨#[c]⟩) s).map (fun x=>str x.data.toList)=(ux c s.data.toList).map str:=by
  rw[←h2,←h,List.map_map];rfl
 unfold yG
 rw[←h3]
 simp[yA8]
theorem xBv (c:UInt8)(s:ByteArray):(yG c s).length=Lib.countB s ⟨#[c]⟩+1:=by
 rw[←xK4]
 exact Lib.splitB_all ⟨#[c]⟩ (Nat.le_refl 1) 0 _ s rfl
theorem xCb (c:UInt8)(s:ByteArray):1≤(yG c s).length∧(yG c s).length≤s.size+1:=by
 rw[xBv]
 have:=Lib.countB_le ⟨#[c]⟩ (Nat.le_refl 1) s.size s (Nat.le_refl _)
 omega
theorem xU7 (c:UInt8)(s:ByteArray)(w:World)(hG:Gl w)(hs:s.size<4294967281) :
  Calls Tryz.prog 201 #[.string s,.string ⟨#[c]⟩] w fun r w'=>r=.returned (.slice (some ⟨w.heap.size,0,none⟩) (yG c s).length (yG c s).length)∧w.alloc (.cells ((yG c s).map Value.string).toArray 9)=w':=by
 obtain⟨m,hm⟩:=hG.len
 refine(Tryz.strings_Split s ⟨#[c]⟩ m w hs hm (Nat.le_refl 1)).mono ?_
 rintro e w' ⟨rfl,rfl⟩
 rw[xBv,xK4]
 exact⟨rfl,rfl⟩
theorem xE7 (w:World)(t:Nat)(xs:List ByteArray):jJ (w.alloc (.cells (xs.map Value.string).toArray t)) w.heap.size 0 xs:=by
 intro j x hx
 rw[Nat.zero_add,yy,List.getElem?_toArray,List.getElem?_map,hx];rfl
section
attribute [local go_sem ↓] xV xO xB6 j7
attribute [local go_sem] zx zA yW xj xh xe xd xA xz xo xl xHa xH1 xt xC xx kS xF
def y2 (w:World)(lb:Nat)(g:yd):Prop:=w.heap[lb]?=some (.cells (x9 g) 49 (0,0))
theorem y2.lt {w:World}{lb:Nat}{g:yd}(h:y2 w lb g):lb<w.heap.size:=(i_ h).1
theorem y2.cell {w:World}{lb:Nat}{g:yd}(h:y2 w lb g)(j:Nat):w.cell? ⟨lb,j,none⟩=(x9 g)[j]?:=cell_of_row w lb j _ _ _ h
theorem y2.free {w:World}{lb:Nat}{g:yd}(h:y2 w lb g)(j:Nat):w.frozen? ⟨lb,j,none⟩=false:=frozen_of_row w lb j _ _ h
theorem y2.grown {w w':World}{lb:Nat}{g:yd}{row:Option Nat}(h:y2 w lb g)(hg:w.grownBy w' row)(hne:some lb≠row):y2 w' lb g:=(hg.block lb h.lt hne).trans h
theorem xMe (g:yd)(j:Nat)(v:Value)(hj:j<5):(xK g).set (33+j) v=.int .i64 g.number :: (xB g.id++[Value.string g.name,.int .i64 g.date,.string g.subject,g.refs,.int .i64 g.bytes].set j v):=by
 unfold xK
 rw[show 33+j=(32+j)+1 by omega,List.set_cons_succ,List.set_append_right _ _ (by rw[xF];omega),xF,show 32+j-32=j by omega]
theorem xWd (g:yd)(v:Value):(x9 g).setIfInBounds 36 v=x9 { g with refs:=v }:=by
 unfold x9;rw[List.setIfInBounds_toArray,xMe g 3 _ (by omega)];rfl
theorem y2.set {w:World}{lb:Nat}{g g':yd}(h:y2 w lb g)(j:Nat)(v:Value)(e:(x9 g).setIfInBounds j v=x9 g'):y2 (w.setCell ⟨lb,j,none⟩ v) lb g':=by
 unfold y2 at *
 rw[heap_setCell_same w lb j _ _ v h,e]
theorem xUv (w:World)(lb j:Nat)(v:Value):w.grownBy (w.setCell ⟨lb,j,none⟩ v) (some lb) :=
 ⟨rfl,rfl,rfl,by simp[World.setCell],fun k _ hne=>heap_setCell_other w ⟨lb,j,none⟩ k v (fun e=>hne (by rw[e]))⟩
theorem jY {a b c:World}{r:Option Nat}(h:a.grownBy b r)(k:b.grownBy c r):a.grownBy c r :=
 ⟨k.os.trans h.os,k.tape.trans h.tape,k.output.trans h.output,Nat.le_trans h.size k.size,fun i hi hne=>(k.block i (Nat.lt_of_lt_of_le hi h.size) hne).trans (h.block i hi hne)⟩
theorem xPg {w w':World}(h:Below w.heap.size w w')(r:Option Nat):w.grownBy w' r:=⟨h.os,h.tape,h.output,h.size,fun k hk _=>h.block k hk⟩
theorem qU {w W w':World}{B lb:Nat}(h:Below B w W)(hg:W.grownBy w' (some lb))(hB:B≤W.heap.size)(hlb:B≤lb):Below B w w':=h.grown hg hB (fun k e=>by cases e;exact hlb)
end
theorem Tryz.info_id:(Tryz.prog.info? 39).map (fun i=>(i.zero,i.size,i.bytes))=some (some (.agg (xB uG).toArray),32,32):=by kernel_rfl
theorem xD5:∀ (cs:List Value) (k off:Nat) (pre mid post:List Value),pre.length=off+k→mid.length=cs.length →
  (cs.zipIdx k).foldl (fun acc (c:Value × Nat)=>acc.setIfInBounds (off+c.2) c.1) (pre++(mid++post)).toArray=(pre++(cs++post)).toArray
 | [],k,off,pre,mid,post,_,hm=>by
  obtain rfl:mid=[]:=List.length_eq_zero_iff.1 (by simpa using hm)
  simp
 | c :: cs,k,off,pre,mid,post,hp,hm=>by
  cases mid with
  | nil=>simp at hm
  | cons m mid =>
   have ih:=xD5 cs (k+1) off (pre++[c]) mid post (by simp[hp];omega) (by simpa using hm)
   rw[List.zipIdx_cons,List.foldl_cons]
   have e:((pre++(m :: mid++post)).toArray).setIfInBounds (off+k) c=(pre++[c]++(mid++post)).toArray:=by
    rw[List.setIfInBounds_toArray,←hp,List.set_append_right _ _ (Nat.le_refl _)]
    simp
   show List.foldl _ (((pre++(m :: mid++post)).toArray).setIfInBounds (off+k) c) _=_
   rw[e,ih]
   simp
theorem xZ2 (cs cur:Array Value)(h:cur.size=cs.size):cs.zipIdx.foldl (fun acc (c:Value × Nat)=>acc.setIfInBounds (0+c.2) c.1) cur=cs:=by
 have:=xD5 cs.toList 0 0 [] cur.toList [] rfl (by simpa using h)
 simp only[List.nil_append,List.append_nil,Array.toArray_toList] at this
 rw[←Array.foldl_toList,Array.toList_zipIdx]
 exact this
theorem xB1 (cs cur:Array Value)(n:Nat)(hc:cs.size=n)(h:cur.size=n):Instr.fill (fun i=>some (i*n,n)) cur [(0,.agg cs)]=some cs:=by
 have e:=xZ2 cs cur (by omega)
 simp only[Nat.zero_add] at e
 simp only[Instr.fill,Value.cells,hc,h,Nat.zero_mul,Nat.zero_add]
 rw[if_neg (by simp)]
 exact congrArg some e
def xDv (P:Program)(t:Nat)(w:World)(v:Value):Result Next:=Sem.run P (do pure (Next.value (←Instr.buildSlice t 1 #[(0,v)]))) w
theorem ex_bs_id (ρ:Operand→Value)(d:Option Tmp)(x:Operand)(ty:TypeId)(pos:String)(af:Array Edge)(g:Option (Nat × Bool))(w:World) :
  Sem.run Tryz.prog (execOp ρ ⟨d,.buildSlice 41 1 #[(0,x)],ty,pos,af,g⟩) w=xDv Tryz.prog 41 w (ρ x):=by kernel_rfl
theorem bs_id (w:World)(x:Id32):xDv Tryz.prog 41 w (.agg (xB x).toArray)=.ok (.value (.slice (some ⟨w.heap.size,0,none⟩) 1 1)) (w.alloc (.cells (xB x).toArray 39)):=by
 obtain⟨i0,hi,hz0,hz1,hz2⟩:=info_parts Tryz.info_id
 unfold xDv
 rw[Sem.run_bind,run_buildSlice w 41 39 1 _ (xB x).toArray i0 _ Tryz.underlying41 hi hz0 (by rw[hz1];decide) (by rw[hz1];decide) (by
  rw[hz1]
  exact xB1 _ _ 32 (qL x) (by simp))]
 rfl
def jZ (ids:List Id32):List Value:=ids.flatMap xB
theorem xPl:∀ (ids:List Id32) (j i:Nat),j<ids.length→i<32→(jZ ids)[j*32+i]?=(xB ids[j]!)[i]?
 | [],j,i,hj,_=>by simp at hj
 | x :: r,0,i,_,hi=>by
  unfold jZ
  rw[List.flatMap_cons,Nat.zero_mul,Nat.zero_add,List.getElem?_append_left (by rw[xF];exact hi)]
  rfl
 | x :: r,j+1,i,hj,hi=>by
  have ih:=xPl r j i (by simpa using hj) hi
  unfold jZ at *
  rw[List.flatMap_cons,List.getElem?_append_right (by rw[xF];omega),xF,show (j+1)*32+i-32=j*32+i by omega,ih]
  simp
theorem xUo {w:World}{B:Nat}{v:Value}{ids:List Id32}(h:w.ownsRow B 39 32 v ids.length (jZ ids)):xDz w v ids:=by
 rcases h.2 with⟨rfl,h0⟩ | ⟨g,cap,cur,rfl,hg,hcur,hle,hmx,hcs,htk⟩
 ·exact⟨none,0,by rw[h0],by omega,fun hne=>absurd (List.length_eq_zero_iff.1 h0) hne⟩
 ·refine⟨_,cap,rfl,hle,fun _=>⟨g,0,rfl,fun j hj i v hi=>?_⟩⟩
  have hi32:i<32:=by have:=(List.getElem?_eq_some_iff.1 hi).1;rwa [xF] at this
  have h1:=h.cellAt (j*32+i) (by omega)
  rw[Nat.zero_add,h1,xPl ids j i hj hi32]
  exact hi
section
attribute [local go_sem ↓] xV xO xB6 j7
attribute [local go_sem] zx zA yW xj xh xe xd xA xz xo xl xHa xH1 xt xC xx kS xF
def xNm (w:World)(lb:Nat):Prop:=∃ cs,w.heap[lb]?=some (.cells cs 49 (0,0))∧cs.size=38
theorem y2.row {w:World}{lb:Nat}{g:yd}(h:y2 w lb g):xP w lb 38=true:=by
 unfold xP;rw[h];simp[xN]
theorem y2.blk {w:World}{lb:Nat}{g:yd}(h:y2 w lb g):xNm w lb:=⟨_,h,xN g⟩
theorem zO (w:World)(lb:Nat)(cs:Array Value):w.grownBy (w.setRow lb cs) (some lb) :=
 ⟨rfl,rfl,rfl,by simp[World.setRow],fun k _ hne=>by
  unfold World.setRow
  simp only[Array.getElem?_modify]
  rw[if_neg (fun e=>hne (by rw[e]))]⟩
end
theorem y2.rd {w:World}{lb:Nat}{g:yd}(h:y2 w lb g):xq w ⟨lb,0,none⟩ 38=true∧xp w ⟨lb,0,none⟩ 38=x9 g:=by
 have:=y7 (w:=w) (a:=⟨lb,0,none⟩) (cs:=xK g) (fun j v hj=>by rw[Addr.add_lit,Nat.zero_add,h.cell j];simpa[x9] using hj)
 rwa [yw] at this
theorem xNm.setRow {w:World}{lb:Nat}{g':yd}(h:xNm w lb):y2 (w.setRow lb (x9 g')) lb g':=by
 obtain⟨cs,h1,_⟩:=h
 exact setRow_heap w lb _ _ _ _ h1
def uo (P:Program)(t:Nat)(w:World)(parts:Array (Nat × Value)):Result Next:=Sem.run P (do pure (Next.value (←Instr.build t parts))) w
theorem jE (ρ:Operand→Value)(d:Option Tmp)(x0 x1 x2 x3 x4 x5 x6:Operand)(ty:TypeId)(pos:String)(af:Array Edge)(gd:Option (Nat × Bool))(w:World) :
  Sem.run Tryz.prog (execOp ρ ⟨d,.build 49 #[(0,x0),(1,x1),(2,x2),(3,x3),(4,x4),(5,x5),(6,x6)],ty,pos,af,gd⟩) w=uo Tryz.prog 49 w #[(0,ρ x0),(1,ρ x1),(2,ρ x2),(3,ρ x3),(4,ρ x4),(5,ρ x5),(6,ρ x6)]:=by kernel_rfl
section
attribute [local go_sem ↓] xV xO yp yh yq yB jE
attribute [local go_sem] zx zA zG zF yW xj xh xe xd xA xz xo xl xt xC xx
attribute [local go_sem] lc0 lc33 lc34 lc35 lc36 lc37 rc0 rc1 rc34 rc35 rc36 rc37 rc38
theorem xKi (g:yd):jU (x9 g) 1 32=true:=xDa (by rw[xN];omega)
theorem xKd (g:yd):jP (x9 g) 1 32=(xB g.id).toArray:=by rw[vO (by rw[xN];omega)];exact xI6 g
theorem xKh (s:ByteArray)(g:yd):jU (yN s g) 2 32=true:=xDa (by rw[zI];omega)
theorem xKc (s:ByteArray)(g:yd):jP (yN s g) 2 32=(xB g.id).toArray:=by rw[vO (by rw[zI];omega)];exact xFe s g
attribute [local go_sem] xKi xKd xKh xKc
theorem xCz {P:Program}{fn:Func}{p:Tmp}{ty n:Nat}(h:fn.results=#[.cell p ty])(hA:∀ w,Sem.run P (isAgg ty) w=.ok true w)(hs:∀ w,Sem.run P (Go.sizeOf ty) w=.ok n w)
  (tmps:Array Value) (w:World) (a:Addr) (cs:Array Value) (hp:tmps.getD p undef=.pointer (some a)) (hok:xq w a n=true) (hrd:xp w a n=cs) :
  (results fn tmps).run P w=.ok (.agg cs) w:=by
 have hp':tmps[p]?.getD undef=.pointer (some a):=by simpa using hp
 have hl:(loadVar ty a).run P w=.ok (.agg cs) w:=by
  simp[loadVar,hA,hs,zv w a n hok,hrd]
 simp[results,h,hp',asAddr,hl]
end
section
attribute [local go_sem ↓] xV xO yp yh yq yB jE
attribute [local go_sem] zx zA zG zF yW xj xh xe xd xA xz xo xl xt xC xx
attribute [local go_sem] lc0 lc33 lc34 lc35 lc36 lc37 rc0 rc1 rc34 rc35 rc36 rc37 rc38 xKi xKd xKh xKc
theorem xS9 (ρ:Operand→Value)(d:Option Tmp)(ty:TypeId)(pos:String)(af:Array Edge)(g:Option (Nat × Bool))(w:World) :
  Sem.run Tryz.prog (execOp ρ ⟨d,.buildSlice 41 0 #[],ty,pos,af,g⟩) w=.ok (.value (.slice (some ⟨w.heap.size,0,none⟩) 0 0)) (w.alloc (.cells #[] 39)):=by kernel_rfl
attribute [local go_sem ↓] xS9
theorem xXr (ids:List Id32):∀ u∈jZ ids,u.oneCell'=true:=by
 intro u hu
 unfold jZ at hu
 rw[List.mem_flatMap] at hu
 obtain⟨x,_,hx⟩:=hu
 exact uS x u hx
end
theorem xP9 (x y:List UInt8)(r:List (List UInt8))(sep:List UInt8):Lib.join (x :: y :: r) sep=x++sep++Lib.join (y :: r) sep:=by
 simp[Lib.join,List.intercalate,List.intersperse]
theorem xHt (c:UInt8):∀ l:List UInt8,Lib.join (ux c l) [c]=l
 | []=>by rw[ux,Lib.join_one]
 | b :: l=>by
  have ih:=xHt c l
  have hne:=xU9 c l
  unfold ux
  cases hq:ux c l with
  | nil=>exact absurd hq hne
  | cons y t =>
   rw[hq] at ih
   split
   ·rename_i e;rw[xP9,ih,e];rfl
   ·cases t with
    | nil=>rw[Lib.join_one] at ih ⊢;rw[ih]
    | cons z t=>rw[xP9] at ih ⊢;rw[List.cons_append,List.cons_append,ih]
theorem xVy (l:List UInt8):(str l).data.toList=l:=by simp[str]
section
attribute [local go_sem ↓] xV xO yp yh yq yB
attribute [local go_sem] zx zA zG zF yW xj xh xe xd xA xz xo xl xt xC xx
theorem y2.below {w w':World}{lb B:Nat}{g:yd}(h:y2 w lb g)(hb:Below B w w')(hlt:lb<B):y2 w' lb g:=(hb.block lb hlt).trans h
end
def lowB (c:UInt8):Bool:=decide (97≤c.toNat) && decide (c.toNat≤122)
def badB (c:UInt8):Bool:=!lowB c && (decide (c.toNat<48) || decide (57<c.toNat)) && c.toNat != 45 && c.toNat != 43 && c.toNat != 95
def kx (l:List UInt8):Bool:=match l with
 | []=>false
 | c :: r=>decide ((c :: r).length≤20) && lowB c && !(c :: r).any badB
def zV (s:ByteArray):Int:=if 80<s.size then 5 else if (yG 46 s).any (fun x=>!kx x.data.toList) then 12 else if 10<(yG 46 s).length then 9 else 0
theorem xF9 (c:UInt8)(w:World):Calls Tryz.prog 289 #[.int .u8 c.toNat] w fun r w'=>r=.returned (.bool (lowB c))∧w=w':=by
 unfold lowB
 by_cases h1:97≤c.toNat
 ·by_cases h2:c.toNat≤122
  ·rw[decide_eq_true h1,decide_eq_true h2]
   have h1':(97:Int)≤(c.toNat:Int):=by omega
   have h2':(c.toNat:Int)≤122:=by omega
   go_enter Tryz.func289,Tryz.ntmps289
   go_wp2
   go_ret
   exact⟨by simp,rfl⟩
  ·rw[decide_eq_true h1,decide_eq_false h2]
   have h1':(97:Int)≤(c.toNat:Int):=by omega
   have h2':decide ((c.toNat:Int)≤122)=false:=by simp;omega
   go_enter Tryz.func289,Tryz.ntmps289
   go_wp2
   go_ret
   exact⟨by simp,rfl⟩
 ·rw[decide_eq_false h1]
  have h1':decide ((97:Int)≤(c.toNat:Int))=false:=by simp;omega
  go_enter Tryz.func289,Tryz.ntmps289
  go_wp2
  go_ret
  exact⟨by simp,rfl⟩
theorem xUj (c:UInt8)(w:World):Calls Tryz.prog 291 #[.int .u8 c.toNat] w fun r w'=>r=.returned (.bool (badB c))∧w=w':=by
 unfold badB
 have hlow:=xF9 c w
 generalize lowB c=b at hlow
 have HL:=h_ hlow
 clear hlow
 cases b with
 | true =>
  go_enter Tryz.func291,Tryz.ntmps291
  go_wp2_with fail
  refine HL.out.mono ?_
  rintro r w' ⟨rfl,rfl⟩
  go_wp2
  go_ret
  exact⟨rfl,rfl⟩
 | false =>
  by_cases h1:c.toNat<48
  case pos =>
   have n45:((c.toNat:Int) != 45)=(c.toNat != 45):=by
    rw[Bool.eq_iff_iff];simp;omega
   have n43:((c.toNat:Int) != 43)=(c.toNat != 43):=by
    rw[Bool.eq_iff_iff];simp;omega
   have n95:((c.toNat:Int) != 95)=(c.toNat != 95):=by
    rw[Bool.eq_iff_iff];simp;omega
   have h1':(c.toNat:Int)<48:=by omega
   rw[decide_eq_true h1,←n45,←n43,←n95]
   cases e45:((c.toNat:Int) != 45) <;> cases e43:((c.toNat:Int) != 43) <;> cases e95:((c.toNat:Int) != 95) <;>
   ·clear n45 n43 n95
    go_enter Tryz.func291,Tryz.ntmps291
    go_wp2_with fail
    refine HL.out.mono ?_
    rintro r w' ⟨rfl,rfl⟩
    go_wp2
    go_ret
    exact⟨rfl,rfl⟩
  by_cases h2:57<c.toNat
  case neg =>
   have h1':decide ((c.toNat:Int)<48)=false:=by simp;omega
   have h2':decide (57<(c.toNat:Int))=false:=by simp;omega
   rw[decide_eq_false h1,decide_eq_false h2]
   go_enter Tryz.func291,Tryz.ntmps291
   go_wp2_with fail
   refine HL.out.mono ?_
   rintro r w' ⟨rfl,rfl⟩
   go_wp2
   go_ret
   exact⟨rfl,rfl⟩
  have n45:((c.toNat:Int) != 45)=(c.toNat != 45):=by
   rw[Bool.eq_iff_iff];simp;omega
  have n43:((c.toNat:Int) != 43)=(c.toNat != 43):=by
   rw[Bool.eq_iff_iff];simp;omega
  have n95:((c.toNat:Int) != 95)=(c.toNat != 95):=by
   rw[Bool.eq_iff_iff];simp;omega
  have h1':decide ((c.toNat:Int)<48)=false:=by simp;omega
  have h2':57<(c.toNat:Int):=by omega
  rw[decide_eq_false h1,decide_eq_true h2,←n45,←n43,←n95]
  cases e45:((c.toNat:Int) != 45) <;> cases e43:((c.toNat:Int) != 43) <;> cases e95:((c.toNat:Int) != 95) <;>
  ·clear n45 n43 n95
   go_enter Tryz.func291,Tryz.ntmps291
   go_wp2_with fail
   refine HL.out.mono ?_
   rintro r w' ⟨rfl,rfl⟩
   go_wp2
   go_ret
   exact⟨rfl,rfl⟩
def xY0 (x:UInt8):Value:=.int .u8 x.toNat
theorem xWq (w:World):PredAt Tryz.prog 291 #[] xY0 badB w:=fun W x _ =>
 (xUj x W).mono fun _ _ ⟨he,hw⟩=>⟨he,0,hw.symm⟩
theorem xNc (s:ByteArray)(cap j:Nat)(h:j<s.size):(bytesRow s cap)[j]?=some (.int .u8 (s.data.toList[j]!).toNat):=by
 unfold bytesRow
 have h':j<s.data.size:=h
 rw[Array.getElem?_append_left (by simpa using h'),Array.getElem?_map,Array.getElem?_eq_getElem h']
 simp only[Option.map_some]
 have:s.data.toList[j]! = s.data[j]:=by rw[getElem!_pos s.data.toList j (by simpa using h')];rfl
 rw[this]
theorem xY6 {s:ByteArray}(h0:0<s.size):kx s.data.toList=(decide (s.size≤20) && lowB s[0] && !s.data.toList.any badB):=by
 obtain⟨⟨l⟩⟩:=s
 cases l with
 | nil=>exact absurd h0 (by simp[ByteArray.size])
 | cons c r=>rfl
theorem xFy (s:ByteArray)(w:World)(hs:s.size≤maxLen):Calls Tryz.prog 253 #[.string s] w fun r w'=>r=.returned (.bool (kx s.data.toList))∧Below w.heap.size w w':=by
 unfold maxLen at hs
 by_cases h0:0<s.size
 case neg =>
  obtain⟨⟨l⟩⟩:=s
  cases l with
  | nil =>
   go_enter Tryz.func253,Tryz.ntmps253
   go_wp2
   go_ret
   exact⟨rfl,Below.refl _ _⟩
  | cons c r=>exact absurd h0 (by simp[ByteArray.size])
 have hc:=xY6 h0
 have hpe:s.toList.isEmpty=false:=by
  rw[ByteArray.toList_eq,List.isEmpty_eq_false_iff,←List.length_pos_iff,qN];omega
 rw[hc]
 clear hc
 by_cases h20:s.size≤20
 case neg =>
  rw[decide_eq_false h20]
  have h20':(20:Int)<(s.size:Int):=by omega
  go_enter Tryz.func253,Tryz.ntmps253
  go_wp2
  go_ret
  exact⟨rfl,Below.refl _ _⟩
 rw[decide_eq_true h20]
 have h20':decide ((20:Int)<(s.size:Int))=false:=by simp;omega
 have hlow:=xF9 s[0] w
 generalize lowB s[0]=b at hlow
 have HL:=h_ hlow
 clear hlow
 generalize hbb:s.data.toList.any badB=bb
 have HBB:=h_ hbb
 clear hbb
 go_enter Tryz.func253,Tryz.ntmps253
 go_wp2_with fail
 refine HL.out.mono ?_
 rintro r w' ⟨rfl,rfl⟩
 cases b with
 | false =>
  go_wp2
  go_ret
  exact⟨rfl,Below.refl _ _⟩
 | true =>
  have hcv:=run_bytes_of_string (P:=Tryz.prog) w 9 66 5 s Tryz.underlying9 Tryz.underlying66 Tryz.underlying5
  go_wp2_with fail
  have hcf:=AnyE.slices_ContainsFunc Tryz.containsFuncByte xY0 badB 291 #[] (enters_of Tryz.func291 (by decide) rfl) w.heap.size 0 s.size (grownCap w s.size 0 5) s.data.toList (w.alloc (.cells (bytesRow s (grownCap w s.size 0 5)) 5 ((bytesRow s (grownCap w s.size 0 5)).size,(bytesRow s (grownCap w s.size 0 5)).size+1))).drew (xWq _) (Nat.le_of_eq (qN s).symm) (by omega) (fun j hj=>by
   have hj':j<s.size:=by rw[qN] at hj;exact hj
   have:=xNc s (grownCap w s.size 0 5) j hj'
   rw[World.cell?_drew,World.cell?_alloc_mark,Nat.zero_add]
   exact this)
  have hany:(s.data.toList.take s.size).any badB=s.data.toList.any badB:=by rw[List.take_of_length_le (Nat.le_of_eq (qN s))]
  rw[hany] at hcf
  rw[HBB.out] at hcf
  have HF:=h_ hcf
  clear hcf hcv hany HBB
  refine HF.out.mono ?_
  rintro r w' ⟨rfl,q,rfl⟩
  go_wp2
  go_ret
  exact⟨by simp,below_drewN' ((Below.refl _ _).alloc (Nat.le_refl _) _) (1+q)⟩
theorem xOv (s:ByteArray)(w:World)(hs:s.size≤maxLen):Calls Tryz.prog 252 #[.string s] w fun r w'=>r=.returned (.bool (!kx s.data.toList))∧Below w.heap.size w w':=by
 have hc:=xFy s w hs
 generalize kx s.data.toList=b at hc ⊢
 have HC:=h_ hc
 clear hc
 go_enter Tryz.func252,Tryz.ntmps252
 go_wp2_with fail
 refine HC.out.mono ?_
 rintro r w' ⟨rfl,hb⟩
 go_wp2
 go_ret
 exact⟨by simp,hb⟩
def ky:List ByteArray→Nat→Int
 | [],_=>-1
 | x :: r,k=>if kx x.data.toList then ky r (k+1) else k
theorem xL3:∀ (xs:List ByteArray) (k:Nat),(0≤ky xs k)↔xs.any (fun x=>!kx x.data.toList)=true
 | [],k=>by simp[ky]
 | x :: r,k=>by
  have:=xL3 r (k+1)
  by_cases h:kx x.data.toList=true
  ·simp only[ky,h,if_true,List.any_cons,Bool.not_true,Bool.false_or];exact this
  ·simp only[ky,h,List.any_cons]
   simp
theorem xMm (b c:Nat)(xs:List ByteArray)(w:World)(hx:jJ w b 0 xs)(hm:xs.length≤1000000)(hlen:∀ x∈xs,x.size≤maxLen) :
  Calls Tryz.prog 288 #[.slice (some ⟨b,0,none⟩) xs.length c,.func (.func 252) #[] #[]] w fun r w'=>r=.returned (.int .i64 (ky xs 0))∧Below w.heap.size w w':=by
 have HX:=h_ hx
 have HL:=h_ hlen
 clear hx hlen
 go_enter Tryz.func288,Tryz.ntmps288
 go_wp2
 go_loopw [5,8] (fun _ i wr=>∃ k:Nat,k≤xs.length∧i=.int .i64 k∧Hid (ky xs 0=ky (xs.drop k) k)∧Below w.heap.size w wr) (fun _ i _=>xs.length-(intOf i).toNat)
 case atStart=>exact⟨0,by omega,rfl,h_ rfl,Below.refl _ _⟩
 case round =>
  obtain⟨k,hk,rfl,HB,hb⟩:=hrel
  by_cases hlt:k<xs.length
  ·have hltz:(k:Int)<(xs.length:Int):=by omega
   have hget:xs[k]?=some xs[k]:=List.getElem?_eq_getElem hlt
   have hc0:=HX.out k _ hget
   rw[Nat.zero_add] at hc0
   have hcell:wr.cell? ⟨b,k,none⟩=some (.string xs[k]):=(hb.cell (block_lt_of_cell hc0)).trans hc0
   have hsz:=HL.out xs[k] (List.getElem_mem hlt)
   have hst:Hid (ky xs 0=if kx xs[k].data.toList then ky (xs.drop (k+1)) (k+1) else k):=h_ (by
    rw[HB.out,List.drop_eq_getElem_cons hlt];rfl)
   have hcall:=xOv xs[k] wr hsz
   have HBB:=h_ hb
   clear HB hc0 hget hsz hb
   generalize xs[k]=x at hcell hst hcall
   generalize kx x.data.toList=bb at hcall hst
   have HC:=h_ hcall
   clear hcall
   cases bb with
   | true =>
    go_wp2_with fail
    refine HC.out.mono ?_
    rintro r w' ⟨rfl,hb1⟩
    have hb2:=HBB.out.trans (hb1.mono HBB.out.size)
    go_wp2
    go_roundw
    case rel=>exact⟨k+1,by omega,by go_num,h_ (by rw[hst.out];rfl),hb2⟩
    case measure=>simp[intOf];omega
   | false =>
    go_wp2_with fail
    refine HC.out.mono ?_
    rintro r w' ⟨rfl,hb1⟩
    have hb2:=HBB.out.trans (hb1.mono HBB.out.size)
    go_wp2
    go_ret
    exact⟨zU (by rw[hst.out];rfl),hb2⟩
  ·have hend:Hid (ky xs 0=-1):=h_ (by rw[HB.out,List.drop_eq_nil_of_le (by omega)];rfl)
   clear HB
   go_wp2
   go_ret
   exact⟨zU (by rw[hend.out]),hb⟩
theorem xSo (b c:Nat)(xs:List ByteArray)(w:World)(hx:jJ w b 0 xs)(hm:xs.length≤1000000)(hlen:∀ x∈xs,x.size≤maxLen) :
  Calls Tryz.prog 251 #[.slice (some ⟨b,0,none⟩) xs.length c,.func (.func 252) #[] #[]] w fun r w'=>r=.returned (.bool (xs.any fun x=>!kx x.data.toList))∧Below w.heap.size w w':=by
 have HI:=h_ (xMm b c xs w hx hm hlen)
 have hiff:=xL3 xs 0
 have hd:(xs.any fun x=>!kx x.data.toList)=decide (0≤ky xs 0):=by
  rw[Bool.eq_iff_iff,decide_eq_true_eq];exact hiff.symm
 rw[hd]
 clear hiff hd hx hlen
 generalize ky xs 0=n at HI ⊢
 go_enter Tryz.func251,Tryz.ntmps251
 go_wp2_with fail
 refine HI.out.mono ?_
 rintro r w' ⟨rfl,hb⟩
 go_wp2
 go_ret
 exact⟨by simp,hb⟩
theorem xId (s:ByteArray)(w:World)(hG:Gl w)(hs:s.size<4294967281) :
  Calls Tryz.prog 190 #[.string s] w fun r w'=>r=.returned (.slice (some ⟨w.heap.size,0,none⟩) (yG 46 s).length (yG 46 s).length)∧w.alloc (.cells ((yG 46 s).map Value.string).toArray 9)=w':=by
 go_enter Tryz.func190,Tryz.ntmps190
 go_wp2_with fail
 refine(xU7 46 s w hG hs).mono ?_
 rintro r w' ⟨rfl,rfl⟩
 go_wp2
 go_ret
 exact⟨rfl,rfl⟩
theorem xK3 (c:UInt8):∀ l:List UInt8,∀ x∈ux c l,x.length≤l.length
 | [],x,hx=>by simp[ux] at hx;simp[hx]
 | b :: l,x,hx=>by
  have ih:=xK3 c l
  unfold ux at hx
  split at hx
  ·simp only[List.mem_cons] at hx
   rcases hx with rfl | hx
   ·simp
   ·have:=ih x hx;simp;omega
  ·split at hx
   ·rename_i h t e
    rw[e] at ih
    simp only[List.mem_cons] at hx
    rcases hx with rfl | hx
    ·have:=ih h (by simp);simp;omega
    ·have:=ih x (by simp[hx]);simp;omega
   ·simp at hx;subst hx;simp
theorem xU8 (c:UInt8)(s:ByteArray):∀ x∈yG c s,x.size≤s.size:=by
 intro x hx
 unfold yG at hx
 obtain⟨l,hl,rfl⟩:=List.mem_map.1 hx
 rw[xVx,←qN]
 exact xK3 c _ l hl
theorem xC0 (s:ByteArray)(w:World)(hG:Gl w)(hs:s.size≤maxLen) :
  Calls Tryz.prog 203 #[.string s] w fun r w'=>r=.returned (.int .i64 (zV s))∧Below w.heap.size w w':=by
 unfold maxLen at hs
 unfold zV
 by_cases h80:80<s.size
 ·rw[if_pos h80]
  have h80':(80:Int)<(s.size:Int):=by omega
  go_enter Tryz.func203,Tryz.ntmps203
  go_wp2
  go_ret
  exact⟨rfl,Below.refl _ _⟩
 ·rw[if_neg h80]
  have h80':¬ (80:Int)<(s.size:Int):=by omega
  have hle:=xU8 46 s
  have hln:=xCb 46 s
  have hD:=h_ (xId s w hG (by omega))
  have hbw:Below w.heap.size w (w.alloc (.cells ((yG 46 s).map Value.string).toArray 9)):=(Below.refl _ _).alloc (Nat.le_refl _) _
  have hA:=xSo w.heap.size (yG 46 s).length (yG 46 s) (w.alloc (.cells ((yG 46 s).map Value.string).toArray 9)) (xE7 w _ _) (by omega) (fun x hx=>by have:=hle x hx;unfold maxLen;omega)
  have hm:(yG 46 s).length≤81:=by omega
  generalize yG 46 s=xs at hD hA hbw hm ⊢
  generalize (xs.any fun x=>!kx x.data.toList)=b at hA ⊢
  generalize xs.length=n at hD hA hm ⊢
  have HA:=h_ hA
  have HB:=h_ hbw
  clear hA hbw hle hln
  cases b with
  | true =>
   go_enter Tryz.func203,Tryz.ntmps203
   go_wp2_with fail
   refine hD.out.mono ?_
   rintro r w' ⟨rfl,rfl⟩
   go_wp2_with fail
   refine HA.out.mono ?_
   rintro r w' ⟨rfl,hb⟩
   go_wp2
   go_ret
   exact⟨rfl,HB.out.trans (hb.mono HB.out.size)⟩
  | false =>
   by_cases h10:10<n
   ·have h10':(10:Int)<(n:Int):=by omega
    rw[if_pos h10]
    go_enter Tryz.func203,Tryz.ntmps203
    go_wp2_with fail
    refine hD.out.mono ?_
    rintro r w' ⟨rfl,rfl⟩
    go_wp2_with fail
    refine HA.out.mono ?_
    rintro r w' ⟨rfl,hb⟩
    go_wp2
    go_ret
    exact⟨rfl,HB.out.trans (hb.mono HB.out.size)⟩
   ·have h10':¬ (10:Int)<(n:Int):=by omega
    rw[if_neg h10]
    go_enter Tryz.func203,Tryz.ntmps203
    go_wp2_with fail
    refine hD.out.mono ?_
    rintro r w' ⟨rfl,rfl⟩
    go_wp2_with fail
    refine HA.out.mono ?_
    rintro r w' ⟨rfl,hb⟩
    go_wp2
    go_ret
    exact⟨rfl,HB.out.trans (hb.mono HB.out.size)⟩
section
attribute [local go_sem ↓] xV xO yp yh yq yB
attribute [local go_sem] zx zA zG zF yW xj xh xe xd xA xz xo xl xt xC xx
def zd (B:Nat)(w:World)(v:Value)(ids:List Id32):Prop:=w.ownsRow B 39 32 v ids.length (jZ ids)
theorem zd.at {B:Nat}{w:World}{v:Value}{ids:List Id32}(h:zd B w v ids):xDz w v ids:=xUo h
theorem zd.mono {B B':Nat}{w:World}{v:Value}{ids:List Id32}(h:zd B w v ids)(hB:B'≤B):zd B' w v ids:=by
 refine⟨h.1,?_⟩
 rcases h.2 with h0 | ⟨g,cap,cur,e,hg,hr⟩
 ·exact .inl h0
 ·exact .inr ⟨g,cap,cur,e,Nat.le_trans hB hg,hr⟩
theorem zd.block {B:Nat}{w w':World}{v:Value}{ids:List Id32}(h:zd B w v ids)(hk:∀ k,v.ownBlock=some k→w'.heap[k]?=w.heap[k]?):zd B w' v ids:=by
 refine⟨h.1,?_⟩
 rcases h.2 with h0 | ⟨g,cap,cur,e,hg,hcur,hr⟩
 ·exact .inl h0
 ·exact .inr ⟨g,cap,cur,e,hg,(hk g (by rw[e];rfl)).trans hcur,hr⟩
theorem zd.lt {B:Nat}{w:World}{v:Value}{ids:List Id32}(h:zd B w v ids){k:Nat}(hk:v.ownBlock=some k):B≤k∧k<w.heap.size:=World.ownsRow.lt h k hk
theorem zd.below {B:Nat}{w w':World}{v:Value}{ids:List Id32}(h:zd B w v ids)(hb:Below w.heap.size w w'):zd B w' v ids:=h.block fun k hk=>hb.block k (h.lt hk).2
theorem zd.one {B:Nat}{w:World}{v:Value}{ids:List Id32}(h:zd B w v ids):v.oneCell'=true:=h.at.one
theorem xNb (B:Nat)(v:Value)(ids:List Id32)(w:World)(h:zd B w v ids)(hn:ids.length≤1000000) :
  Calls Tryz.prog 129 #[v] w fun r w'=>∃ v',r=.returned v'∧zd w.heap.size w' v' ids∧Below w.heap.size w w':=by
 obtain⟨i0,hi,hz0,hz1,hz2⟩:=info_parts Tryz.info_id
 rcases h.2 with⟨rfl,h0⟩ | ⟨g,cap,cur,rfl,hg,hcur,hle,hmx,hcs,htk⟩
 ·refine(AnyE.slices_Clone_nil Tryz.cloneId 0 0 w).mono ?_
  rintro r w' ⟨rfl,rfl⟩
  obtain rfl:ids=[]:=List.length_eq_zero_iff.1 h0
  exact⟨_,rfl,World.ownsRow_nil _ _ _ _,Below.refl _ _⟩
 ·refine(AnyE.slices_Clone Tryz.cloneId i0 (.agg (xB uG).toArray) 32 32 hi hz0 hz1 hz2 (qL uG) (by decide) Tryz.sizeOf39 g 0 ids.length cap (jZ ids) w h.1 (by unfold maxLen;omega) (by omega) (fun j u hj=>?_) (xXr ids)).mono ?_
  ·have:=World.ownsRow.cells h (g:=g) rfl j u hj
   rwa [Addr.add_lit] at this
  ·rintro r w' ⟨v',rfl,hown,_,hb⟩
   exact⟨v',rfl,hown,hb⟩
theorem xBn (B:Nat)(g:yd)(ids:List Id32)(w:World)(h:zd B w g.refs ids)(hn:ids.length≤1000000) :
  Calls Tryz.prog 84 #[.agg (x9 g)] w fun r w'=>∃ v,r=.returned (.agg (x9 { g with refs:=v }))∧zd w.heap.size w' v ids∧Below w.heap.size w w':=by
 obtain⟨W0,hW0⟩:∃ W0,W0=(w.alloc (.cells (x9 g) 49)).alloc (.cells (x9 xH) 49):=⟨_,rfl⟩
 have hs0:W0.heap.size=w.heap.size+2:=by rw[hW0];simp
 have hb0:Below w.heap.size w W0:=by rw[hW0];exact((Below.refl _ _).alloc (Nat.le_refl _) _).alloc (by simp) _
 have hV0:y2 W0 w.heap.size g:=by
  unfold y2
  rw[hW0,heap_alloc_old _ _ (by simp),heap_alloc_new]
 have hZ0:y2 W0 (w.heap.size+1) xH:=by
  unfold y2
  have:=heap_alloc_new (w.alloc (.cells (x9 g) 49)) (.cells (x9 xH) 49)
  rw[hW0]
  simpa using this
 have hcl:=xNb B g.refs ids W0 (h.below hb0) hn
 have c36:W0.cell? ⟨w.heap.size,36,none⟩=some g.refs:=(hV0.cell 36).trans (lc36 g)
 have HC:=h_ hcl
 have HV:=h_ hV0
 have HZ:=h_ hZ0
 have HB:=h_ hb0
 clear hcl hV0 hZ0 hb0
 go_enter Tryz.func84,Tryz.ntmps84
 rw[hW0] at c36
 go_wp2_with fail
 rw[←hW0]
 clear c36 hW0
 refine HC.out.mono ?_
 rintro r w1 ⟨v,rfl,hI,hb1⟩
 have hone:=hI.one
 obtain⟨va,vn,vc,hv⟩:∃ a n c,v=.slice a n c:=by obtain⟨a,c,e,_⟩:=hI.at;exact⟨a,_,c,e⟩
 have hV1:y2 w1 w.heap.size g:=HV.out.below hb1 (by omega)
 have hZ1:y2 w1 (w.heap.size+1) xH:=HZ.out.below hb1 (by omega)
 have hB1:Below w.heap.size w w1:=HB.out.trans (hb1.mono HB.out.size)
 have hV2:=hV1.set 36 v (xWd g v)
 have hZ2:y2 (w1.setCell ⟨w.heap.size,36,none⟩ v) (w.heap.size+1) xH:=hZ1.grown (xUv w1 w.heap.size 36 v) (by simp)
 have hI2:zd W0.heap.size (w1.setCell ⟨w.heap.size,36,none⟩ v) v ids:=hI.block fun k hk=>heap_setCell_other w1 ⟨w.heap.size,36,none⟩ k v (by have:=(hI.lt hk).1;simp;omega)
 have hB2:Below w.heap.size w (w1.setCell ⟨w.heap.size,36,none⟩ v):=hB1.setCell (Nat.le_refl _) v
 have hc:=(hV1.cell 36).trans (lc36 g)
 have hf:=hV1.free 36
 have ho2:=hV2.rd.1
 have hr2:=hV2.rd.2
 have hro:=hZ2.row
 have hft:=ub (g:={ g with refs:=v }) hone
 have HV2:=h_ hV2
 have HZ2:=h_ hZ2
 have HI2:=h_ hI2
 have HB2:=h_ hB2
 clear hV1 hZ1 hB1 hV2 hZ2 hI2 hB2 hI hb1 HC HV HZ HB h
 subst hv
 go_wp2
 refine bodyPost_ret (v:=.agg (x9 { g with refs:=.slice va vn vc })) ?_ rfl ⟨_,rfl,?_,qU HB2.out (zO _ _ _) HB2.out.size (by omega)⟩
 ·exact xCz rfl Tryz.isAgg49 Tryz.sizeOf49 _ _ ⟨w.heap.size+1,0,none⟩ _ rfl (HZ2.out.blk.setRow.rd.1) (HZ2.out.blk.setRow.rd.2)
 ·refine(HI2.out.mono (by omega)).block fun k hk=>(zO _ (w.heap.size+1) _).block k (HI2.out.lt hk).2 ?_
  intro e
  have:=(HI2.out.lt hk).1
  cases e
  omega
end
theorem Tryz.info_line:(Tryz.prog.info? 49).map (fun i=>(i.zero,i.size,i.bytes))=some (some (.agg (x9 xH)),38,112):=by kernel_rfl
section
attribute [local go_sem ↓] xV xO yp yh yq yB
attribute [local go_sem] zx zA zG zF yW xj xh xe xd xA xz xo xl xt xC xx
def three:yd:={ xH with number:=3 }
theorem y2.idAt {w:World}{lb:Nat}{g:yd}(h:y2 w lb g):xq w ⟨lb,1,none⟩ 32=true∧xp w ⟨lb,1,none⟩ 32=(xB g.id).toArray:=by
 have:=y7 (w:=w) (a:=⟨lb,1,none⟩) (cs:=xB g.id) (fun j v hj=>by
  have hj32:j<32:=by have:=(List.getElem?_eq_some_iff.1 hj).1;rwa [xF] at this
  rw[Addr.add_lit,h.cell,←hj]
  simp only[x9,xK,List.getElem?_toArray]
  rw[show 1+j=j+1 by omega,List.getElem?_cons_succ,List.getElem?_append_left (by rw[xF];exact hj32)])
 rwa [xF] at this
end
section
attribute [local go_sem ↓] xV xO yp yh yq yB
attribute [local go_sem] zx zA zG zF yW xj xh xe xd xA xz xo xl xt xC xx
def seven:yd:={ xH with number:=7,name:=⟨#[65,110,110]⟩,subject:=⟨#[82,101,58,32,116,101,97]⟩,bytes:=120 }
theorem xPz (ρ:Operand→Value)(d:Option Tmp)(x0 x2 x4 x6:Operand)(ty:TypeId)(pos:String)(af:Array Edge)(gd:Option (Nat × Bool))(w:World) :
  Sem.run Tryz.prog (execOp ρ ⟨d,.build 49 #[(0,x0),(2,x2),(4,x4),(6,x6)],ty,pos,af,gd⟩) w=uo Tryz.prog 49 w #[(0,ρ x0),(2,ρ x2),(4,ρ x4),(6,ρ x6)]:=by kernel_rfl
theorem xQ0 (ρ:Operand→Value)(d:Option Tmp)(x0:Operand)(ty:TypeId)(pos:String)(af:Array Edge)(gd:Option (Nat × Bool))(w:World) :
  Sem.run Tryz.prog (execOp ρ ⟨d,.build 49 #[(0,x0)],ty,pos,af,gd⟩) w=uo Tryz.prog 49 w #[(0,ρ x0)]:=by kernel_rfl
theorem xYb (w:World):uo Tryz.prog 49 w #[(0,.int .i64 7),(2,.string ⟨#[65,110,110]⟩),(4,.string ⟨#[82,101,58,32,116,101,97]⟩),(6,.int .i64 120)]=.ok (.value (.agg (x9 seven))) w:=by kernel_rfl
theorem xYa (w:World):uo Tryz.prog 49 w #[(0,.int .i64 3)]=.ok (.value (.agg (x9 three))) w:=by kernel_rfl
attribute [local go_sem ↓] xPz xQ0
attribute [local go_sem] xYb xYa
theorem xTa (w:World):Calls Tryz.prog 62 #[] w fun r w'=>r=.returned (.pointer (some ⟨w.heap.size+1,0,none⟩))∧(w.alloc (.map #[] 0)).alloc (.cells #[.map (some w.heap.size),.int .i64 0] 193)=w':=by
 have hmm:=@run_makeMap Tryz.prog
 go_enter Tryz.func62,Tryz.ntmps62
 go_wp2
 go_ret
 exact⟨rfl,rfl⟩
end
section
attribute [local go_sem ↓] xV xO yp yh yq yB
attribute [local go_sem] zx zA zG zF yW xj xh xe xd xA xz xo xl xt xC xx
structure vz where
 number:Int
 id:Id32
 name:ByteArray
 date:Int
 subject:ByteArray
 ids:List Id32
 bytes:Int
structure ML where
 p:vz
 v:Value
def ML.g (m:ML):yd:=⟨m.p.number,m.p.id,m.p.name,m.p.date,m.p.subject,m.v,m.p.bytes⟩
instance:Inhabited ML:=⟨⟨⟨0,default,⟨#[]⟩,0,⟨#[]⟩,[],0⟩,.slice none 0 0⟩⟩
def yl (ms:List ML):List Value:=ms.flatMap fun m=>xK m.g
theorem zP (ms:List ML):(yl ms).length=ms.length*38:=by
 induction ms with
 | nil=>rfl
 | cons m ms ih=>simp[yl,yw] at ih ⊢;omega
theorem xC4:∀ (ms:List ML) (j i:Nat) (hj:j<ms.length),i<38→(yl ms)[j*38+i]?=(xK ms[j].g)[i]?
 | m :: ms,0,i,_,hi=>by
  show ((xK m.g)++yl ms)[0*38+i]?=_
  rw[Nat.zero_mul,Nat.zero_add,List.getElem?_append_left (by rw[yw];exact hi)]
  rfl
 | m :: ms,j+1,i,hj,hi=>by
  show ((xK m.g)++yl ms)[(j+1)*38+i]?=_
  rw[List.getElem?_append_right (by rw[yw];omega),yw,show (j+1)*38+i-38=j*38+i by omega]
  exact xC4 ms j i (by simpa using hj) hi
structure zl (B:Nat)(w:World)(v:Value)(ms:List ML):Prop where
 row:w.ownsRow B 49 38 v ms.length (yl ms)
 refs:∀ m∈ms,zd B w m.v m.p.ids
theorem zl.head {B:Nat}{w:World}{v:Value}{ms:List ML}(h:zl B w v ms):(v=.slice none 0 0∧ms=[])∨∃ g cap,v=.slice (some ⟨g,0,none⟩) ms.length cap∧B≤g∧g<w.heap.size∧ms.length≤cap∧cap≤maxLen ∧
  ∀ j (hj:j<ms.length) i u,(xK ms[j].g)[i]?=some u→w.cell? ⟨g,j*38+i,none⟩=some u:=by
 rcases h.row.2 with⟨rfl,h0⟩ | ⟨g,cap,cur,rfl,hg,hcur,hle,hmx,hcs,htk⟩
 ·exact .inl ⟨rfl,List.length_eq_zero_iff.1 h0⟩
 ·refine .inr ⟨g,cap,rfl,hg,(i_ hcur).1,hle,hmx,fun j hj i u hu=>?_⟩
  have hi:i<38:=by have:=(List.getElem?_eq_some_iff.1 hu).1;rwa [yw] at this
  have:=World.ownsRow.cells h.row (g:=g) rfl (j*38+i) u (by rw[xC4 ms j i hj hi];exact hu)
  rwa [Addr.add_lit,Nat.zero_add] at this
theorem xBe {w:World}{g off:Nat}{l:yd}(h:∀ i u,(xK l)[i]?=some u→w.cell? ⟨g,off+i,none⟩=some u):xq w ⟨g,off,none⟩ 38=true∧xp w ⟨g,off,none⟩ 38=x9 l:=by
 have:=y7 (w:=w) (a:=⟨g,off,none⟩) (cs:=xK l) (fun j v hj=>by rw[Addr.add_lit];exact h j v hj)
 rw[yw] at this
 exact this
theorem jv (a:Int)(w:World):Calls Tryz.prog 165 #[.int .i64 a] w fun r w'=>r=.returned (.bool false)∧w=w':=by
 have h:((a:Int) != a)=false:=by simp
 go_enter Tryz.func165,Tryz.ntmps165
 go_wp2
 go_ret
 exact⟨rfl,rfl⟩
def cmpZ (a b:Int):Int:=if a<b then -1 else if b<a then 1 else 0
theorem xSh (a b:Int)(w:World):Calls Tryz.prog 128 #[.int .i64 a,.int .i64 b] w fun r w'=>r=.returned (.int .i64 (cmpZ a b))∧w=w':=by
 unfold cmpZ
 by_cases h1:a<b
 ·rw[if_pos h1]
  go_enter Tryz.func128,Tryz.ntmps128
  go_wp2_with fail
  refine(jv a w).mono ?_
  rintro r w' ⟨rfl,rfl⟩
  go_wp2_with fail
  refine(jv b w).mono ?_
  rintro r w' ⟨rfl,rfl⟩
  go_wp2
  go_ret
  exact⟨rfl,rfl⟩
 ·rw[if_neg h1]
  by_cases h2:b<a
  ·rw[if_pos h2]
   go_enter Tryz.func128,Tryz.ntmps128
   go_wp2_with fail
   refine(jv a w).mono ?_
   rintro r w' ⟨rfl,rfl⟩
   go_wp2_with fail
   refine(jv b w).mono ?_
   rintro r w' ⟨rfl,rfl⟩
   go_wp2
   go_ret
   exact⟨rfl,rfl⟩
  ·rw[if_neg h2]
   go_enter Tryz.func128,Tryz.ntmps128
   go_wp2_with fail
   refine(jv a w).mono ?_
   rintro r w' ⟨rfl,rfl⟩
   go_wp2_with fail
   refine(jv b w).mono ?_
   rintro r w' ⟨rfl,rfl⟩
   go_wp2
   go_ret
   exact⟨rfl,rfl⟩
theorem xFm (g:yd)(n:Int)(w:World):Calls Tryz.prog 127 #[.agg (x9 g),.int .i64 n] w fun r w'=>r=.returned (.int .i64 (cmpZ g.number n))∧w.alloc (.cells (x9 g) 49)=w':=by
 have hc:(w.alloc (.cells (x9 g) 49)).cell? ⟨w.heap.size,0,none⟩=some (.int .i64 g.number):=(yy w _ _ 0).trans (lc0 g)
 go_enter Tryz.func127,Tryz.ntmps127
 go_wp2_with fail
 refine(xSh g.number n _).mono ?_
 rintro r w' ⟨rfl,rfl⟩
 go_wp2
 go_ret
 exact⟨rfl,rfl⟩
def nums (ms:List ML):List Int:=ms.map (·.p.number)
def uB (ms:List ML)(n:Int):Bool:=(nums ms).contains n
theorem yK (ms:List ML):(nums ms).length=ms.length:=by simp[nums]
def uM (ns:List Int)(n:Int)(i j:Nat):Prop:=i≤j∧j≤ns.length∧(∀ k (h:k<ns.length),k<i→ns[k]<n)∧(∀ k (h:k<ns.length),j≤k→n≤ns[k])
theorem xSm {ns:List Int}{n:Int}{i j k:Nat}(hs:ns.Pairwise (· < ·))(h:uM ns n i j)(hk:k<ns.length)(hik:i≤k)(hkj:k<j)(hc:ns[k]<n):uM ns n (k+1) j:=by
 obtain⟨h1,h2,h3,h4⟩:=h
 refine⟨by omega,h2,fun m hm hmk=>?_,h4⟩
 by_cases e:m=k
 ·subst e;exact hc
 ·exact Int.lt_trans (List.pairwise_iff_getElem.1 hs m k hm hk (by omega)) hc
theorem xNe {ns:List Int}{n:Int}{i j k:Nat}(hs:ns.Pairwise (· < ·))(h:uM ns n i j)(hk:k<ns.length)(hik:i≤k)(hkj:k<j)(hc:¬ ns[k]<n):uM ns n i k:=by
 obtain⟨h1,h2,h3,h4⟩:=h
 refine⟨hik,by omega,h3,fun m hm hmk=>?_⟩
 by_cases e:m=k
 ·subst e;omega
 ·have:=List.pairwise_iff_getElem.1 hs k m hk hm (by omega)
  omega
theorem xEm {a b:Int}:(cmpZ a b == 0)=decide (a=b):=by
 unfold cmpZ
 split
 ·have:a≠b:=by omega
  simp[this]
 ·split
  ·have:a≠b:=by omega
   simp[this]
  ·have:a=b:=by omega
   simp[this]
theorem xFq {ns:List Int}{n:Int}{i:Nat}(hs:ns.Pairwise (· < ·))(h:uM ns n i i):ns.contains n=if h:i<ns.length then (cmpZ ns[i] n == 0) else false:=by
 obtain⟨h1,h2,h3,h4⟩:=h
 rw[Bool.eq_iff_iff,List.contains_iff_mem]
 constructor
 ·intro hm
  obtain⟨k,hk,rfl⟩:=List.mem_iff_getElem.1 hm
  have hki:¬ k<i:=fun hx=>by have:=h3 k hk hx;omega
  have hi:i<ns.length:=by omega
  rw[dif_pos hi,xEm]
  have h5:=h4 i hi (Nat.le_refl _)
  by_cases e:k=i
  ·subst e;simp
  ·have:=List.pairwise_iff_getElem.1 hs i k hi hk (by omega)
   omega
 ·intro hx
  split at hx
  ·rename_i hi
   rw[xEm,decide_eq_true_eq] at hx
   rw[←hx]
   exact List.getElem_mem hi
  ·cases hx
theorem xQf (B:Nat)(v:Value)(ms:List ML)(n:Int)(w:World)(h:zl B w v ms)(hn:ms.length≤65536)(hs:(nums ms).Pairwise (· < ·)) :
  Calls Tryz.prog 126 #[v,.int .i64 n,.func (.func 127) #[] #[]] w fun r w'=>∃ i:Nat,uM (nums ms) n i i∧r=.returned (.tuple #[.int .i64 i,.bool (uB ms n)])∧Below w.heap.size w w':=by
 rcases h.head with⟨rfl,rfl⟩ | ⟨g,cap,rfl,hBg,hgl,hle,hmx,hcell⟩
 ·go_enter Tryz.func126,Tryz.ntmps126
  go_wp2
  go_loop [9,10] (fun a b=>a=.int .i64 0∧b=.int .i64 0) (fun _ _=>0)
  case atStart=>exact⟨rfl,rfl⟩
  case round =>
   obtain⟨rfl,rfl⟩:=hrel
   go_wp2
   go_ret2
   exact⟨0,⟨Nat.le_refl _,Nat.zero_le _,fun k h=>absurd h (by simp[nums]),fun k h=>absurd h (by simp[nums])⟩,rfl,Below.refl _ _⟩
 ·have HC:=h_ hcell
  have HS:=h_ hs
  clear hcell hs h
  go_enter Tryz.func126,Tryz.ntmps126
  go_wp2
  go_loopw [9,10,11] (fun a b _ wr=>∃ i j:Nat,a=.int .i64 i∧b=.int .i64 j∧Hid (uM (nums ms) n i j)∧Below w.heap.size w wr) (fun a b _ _=>(intOf b).toNat-(intOf a).toNat)
  case atStart=>exact⟨0,ms.length,rfl,rfl,h_ ⟨Nat.zero_le _,by rw[yK];exact Nat.le_refl _,fun k h h'=>absurd h' (Nat.not_lt_zero _),fun k h h'=>absurd h (by rw[yK];omega)⟩,Below.refl _ _⟩
  case round =>
   obtain⟨i,j,rfl,rfl,HB,hb⟩:=hrel
   obtain⟨hij,hj,_,_⟩:=HB.out
   rw[yK] at hj
   by_cases hlt:i<j
   ·have hltz:(i:Int)<(j:Int):=by omega
    have hm:(i+j) / 2<ms.length:=by omega
    obtain⟨o1,d1⟩:=xBe (w:=wr) (g:=g) (off:=(i+j) / 2*38) (l:=ms[(i+j) / 2].g) (fun k u hk=>(hb.cell (p:=⟨g,(i+j) / 2*38+k,none⟩) hgl).trans (HC.out _ hm k u hk))
    have hcall:=xFm ms[(i+j) / 2].g n wr
    have hnum:ms[(i+j) / 2].g.number=(nums ms)[(i+j) / 2]'(by rw[yK];exact hm):=by simp[ML.g,nums]
    have hb':Below w.heap.size w (wr.alloc (.cells (x9 ms[(i+j) / 2].g) 49)):=hb.alloc hb.size _
    have HBB:=h_ hb'
    clear hb hb'
    rw[hnum] at hcall
    clear hnum
    generalize ms[(i+j) / 2].g=l at hcall o1 d1 HBB
    have HX:=h_ hcall
    clear hcall
    by_cases hc:(nums ms)[(i+j) / 2]'(by rw[yK];exact hm)<n
    ·have HX2:Hid (uM (nums ms) n ((i+j) / 2+1) j):=h_ (xSm HS.out HB.out (by rw[yK];exact hm) (by omega) (by omega) hc)
     have hcz:cmpZ ((nums ms)[(i+j) / 2]'(by rw[yK];exact hm)) n=-1:=by unfold cmpZ;rw[if_pos hc]
     rw[hcz] at HX
     clear hcz hc
     go_wp2_with fail
     refine HX.out.mono ?_
     rintro r w' ⟨rfl,rfl⟩
     go_wp2
     go_roundw
     case rel=>exact⟨(i+j) / 2+1,j,by have:(((i+j) / 2+1:Nat):Int)=((i:Int)+j) / 2+1:=(by omega);rw[this],rfl,HX2,HBB.out⟩
     case measure=>simp[intOf];omega
    ·have HX2:Hid (uM (nums ms) n i ((i+j) / 2)):=h_ (xNe HS.out HB.out (by rw[yK];exact hm) (by omega) (by omega) hc)
     obtain⟨z,hz,hz0⟩:∃ z,z=cmpZ ((nums ms)[(i+j) / 2]'(by rw[yK];exact hm)) n∧0≤z:=⟨_,rfl,by unfold cmpZ;rw[if_neg hc];split <;> omega⟩
     rw[←hz] at HX
     clear hz hc
     go_wp2_with fail
     refine HX.out.mono ?_
     rintro r w' ⟨rfl,rfl⟩
     have hz0':¬ z<0:=by omega
     go_wp2
     go_roundw
     case rel=>exact⟨i,(i+j) / 2,rfl,by have:(((i+j) / 2:Nat):Int)=((i:Int)+j) / 2:=(by omega);rw[this],HX2,HBB.out⟩
     case measure=>simp[intOf];omega
   ·obtain rfl:j=i:=by omega
    have hdec:Hid (uB ms n=_):=h_ (xFq HS.out HB.out)
    by_cases hin:j<ms.length
    ·have hinz:(j:Int)<(ms.length:Int):=by omega
     obtain⟨o1,d1⟩:=xBe (w:=wr) (g:=g) (off:=j*38) (l:=ms[j].g) (fun k u hk=>(hb.cell (p:=⟨g,j*38+k,none⟩) hgl).trans (HC.out _ hin k u hk))
     have hcall:=xFm ms[j].g n wr
     have hnum:ms[j].g.number=(nums ms)[j]'(by rw[yK];exact hin):=by simp[ML.g,nums]
     have hb':Below w.heap.size w (wr.alloc (.cells (x9 ms[j].g) 49)):=hb.alloc hb.size _
     have HBB:=h_ hb'
     have hres:uB ms n=(cmpZ ((nums ms)[j]'(by rw[yK];exact hin)) n == 0):=by
      rw[hdec.out,dif_pos (by rw[yK];exact hin)]
     clear hb hb' hdec
     rw[hnum] at hcall
     clear hnum
     have HR:=h_ hres
     clear hres
     generalize ms[j].g=l at hcall o1 d1 HBB
     generalize cmpZ ((nums ms)[j]'(by rw[yK];exact hin)) n=z at hcall HR
     have HX:=h_ hcall
     clear hcall
     go_wp2_with fail
     refine HX.out.mono ?_
     rintro r w' ⟨rfl,rfl⟩
     go_wp2
     go_ret2
     exact⟨j,HB.out,by rw[HR.out];first | rfl | simp,HBB.out⟩
    ·have hinz:decide ((j:Int)<(ms.length:Int))=false:=by simp;omega
     have HR:Hid (uB ms n=false):=h_ (by rw[hdec.out,dif_neg (by rw[yK];exact hin)])
     clear hdec
     go_wp2
     go_ret2
     exact⟨j,HB.out,by rw[HR.out];first | rfl | simp,hb⟩
theorem xGt (B:Nat)(v:Value)(ms:List ML)(n:Int)(w:World)(h:zl B w v ms)(hn:ms.length≤65536)(hs:(nums ms).Pairwise (· < ·)) :
  Calls Tryz.prog 83 #[v,.int .i64 n] w fun r w'=>∃ i:Nat,uM (nums ms) n i i∧r=.returned (.tuple #[.int .i64 i,.bool (uB ms n)])∧Below w.heap.size w w':=by
 have HX:=h_ (xQf B v ms n w h hn hs)
 clear h hs
 go_enter Tryz.func83,Tryz.ntmps83
 go_wp2_with fail
 refine HX.out.mono ?_
 rintro r w' ⟨i,hi,rfl,hb⟩
 have HI:=h_ hi
 clear hi HX
 go_wp2
 go_ret2
 exact⟨i,HI.out,rfl,hb⟩
end
structure KE (K:Type) where
 k:K
 v:Value
 b:Nat
def enE {K:Type}(ek:K→Value)(e:KE K):MapEntry:={ key:=ek e.k,val:=e.v,born:=e.b }
def yM {K:Type}[DecidableEq K](k:K):List (KE K)→Nat→Option (Nat × Value)
 | [],_=>none
 | e :: es,i=>if k=e.k then some (i,e.v) else yM k es (i+1)
def y3 {K:Type}(ek:K→Value)(w:World)(M:Nat)(l:List (KE K))(c:Nat):Prop:=w.heap[M]?=some (.map (l.map (enE ek)).toArray c)
theorem y3.lt {K:Type}{ek:K→Value}{w:World}{M:Nat}{l:List (KE K)}{c:Nat}(h:y3 ek w M l c):M<w.heap.size:=(i_ h).1
structure xFu {K:Type}[DecidableEq K](kt:TypeId)(ek:K→Value):Prop where
 check:∀ (e:Bool) (k:K) (w:World),(Instr.checkKey e 10000 kt (ek k)).run Tryz.prog w=.ok () w
 find:∀ (k:K) (l:List (KE K)) (w:World),(Instr.findKey kt (ek k) (l.map (enE ek))).run Tryz.prog w=.ok (yM k l 0) w
 bits:∀ k:K,Instr.sameBits 10000 (ek k) (ek k)=true
abbrev ekS (s:ByteArray):Value:=.string s
abbrev ekI (x:Id32):Value:=.agg (xB x).toArray
theorem xFc (k:ByteArray):∀ (l:List (KE ByteArray)) (i:Nat),Instr.findNow .string (.string k) (l.map (enE ekS)) i=some (yM k l i)
 | [],i=>rfl
 | e :: l,i=>by
  rw[List.map_cons]
  unfold Instr.findNow yM
  simp only[enE,Instr.sameNow]
  by_cases h:k=e.k
  ·rw[(MapKept.bytes_beq k e.k).2 h,if_pos h]
  ·have hf:(k == e.k)=false:=by
    cases hx:(k == e.k) with
    | false=>rfl
    | true=>exact absurd ((MapKept.bytes_beq k e.k).1 hx) h
   rw[hf,if_neg h]
   exact xFc k l (i+1)
theorem keyS:xFu 9 ekS where
 check e k w:=MapKept.run_checkKey (k:=.string k) Tryz.underlying9 (by simp[MapKept.IsKey]) e 9999
 find k l w:=by
  unfold Instr.findKey
  rw[Sem.run_bind,run_underlying Tryz.underlying9]
  simp only[Result.andThen_ok,xFc]
  rfl
 bits k:=by
  unfold Instr.sameBits
  exact(MapKept.bytes_beq k k).2 rfl
theorem eq_id (x y:Id32)(w:World):(Op.equal 39 (ekI x) (ekI y)).run Tryz.prog w=.ok (decide (x=y)) w:=xG7 x y w
theorem xC5 (k:Id32)(w:World):∀ (l:List (KE Id32)) (i:Nat),(Instr.findAsking 39 (ekI k) (l.map (enE ekI)) i).run Tryz.prog w=.ok (yM k l i) w
 | [],i=>rfl
 | e :: l,i=>by
  rw[List.map_cons]
  unfold Instr.findAsking yM
  rw[Sem.run_bind]
  have:(enE ekI e).key=ekI e.k:=rfl
  rw[this,eq_id]
  simp only[Result.andThen_ok]
  by_cases h:k=e.k
  ·rw[decide_eq_true h,if_pos h];rfl
  ·rw[decide_eq_false h,if_neg h]
   exact xC5 k w l (i+1)
theorem xSj (e:Bool)(v:Value)(w:World):(Instr.checkKey e 9999 5 v).run Tryz.prog w=.ok () w:=by
 unfold Instr.checkKey
 rw[Sem.run_bind,run_underlying Tryz.underlying5]
 rfl
theorem xOd:∀ (l:List UInt8),((l.map fun b=>Value.int .u8 b.toNat).zip (l.map fun b=>Value.int .u8 b.toNat)).all (fun (x,y)=>Instr.sameBits 9999 x y)=true
 | []=>rfl
 | b :: l=>by
  simp only[List.map_cons,List.zip_cons_cons,List.all_cons,xOd l,Bool.and_true]
  unfold Instr.sameBits
  simp
theorem keyI:xFu 39 ekI where
 check e k w:=by
  unfold Instr.checkKey
  rw[Sem.run_bind,run_underlying Tryz.underlying39]
  simp only[Result.andThen_ok]
  simp only[Std.Legacy.Range.forIn_eq_forIn_range',Std.Legacy.Range.size,Nat.sub_zero,Nat.add_one_sub_one,Nat.div_one]
  have each:∀ j∈List.range' 0 32,j<32:=fun j hj=>by
   have:=List.mem_range'_1.1 hj
   omega
  generalize List.range' 0 32=is at each ⊢
  induction is with
  | nil=>rfl
  | cons j is ih =>
   have hj:=each j (by simp)
   have hp:(part 5 (xB k).toArray j).run Tryz.prog w=.ok (.int .u8 (k.1[j]'(by rw[k.2];exact hj)).toNat) w:=by
    unfold part
    rw[Sem.run_bind,Tryz.isAgg5]
    simp only[Result.andThen_ok]
    rw[List.getElem?_toArray,xL0 k j hj]
    rfl
   have hs:=Tryz.sizeOf5 w
   simp only[List.forIn_cons,Sem.run_bind,hs,Nat.mul_one,hp,xSj,Result.andThen_ok,Sem.run_pure]
   have:=ih (fun y hy=>each y (by simp[hy]))
   simp only[Sem.run_bind] at this
   exact this
 find k l w:=by
  unfold Instr.findKey
  rw[Sem.run_bind,run_underlying Tryz.underlying39]
  simp only[Result.andThen_ok]
  cases l with
  | nil=>rfl
  | cons e l =>
   have:Instr.findNow (.array 32 5) (ekI k) ((e :: l).map (enE ekI)) 0=none:=rfl
   rw[this]
   exact xC5 k w (e :: l) 0
 bits k:=by
  unfold Instr.sameBits
  simp only[beq_self_eq_true,Bool.true_and]
  exact xOd k.1
theorem xDc {α β:Type}(f:α→β):∀ (l:List α) (i:Nat),(l.map f).eraseIdx i=(l.eraseIdx i).map f
 | [],_=>rfl
 | _ :: _,0=>rfl
 | a :: l,i+1=>by simp only[List.map_cons,List.eraseIdx_cons_succ,xDc f l i]
section
variable {K:Type} [DecidableEq K] {ek:K→Value} {kt:TypeId} {mt et:TypeId}
omit [DecidableEq K] in
theorem jB {w:World}{M:Nat}{l:List (KE K)}{c:Nat}(h:y3 ek w M l c):(getObj M).run Tryz.prog w=.ok (.map (l.map (enE ek)).toArray c) w:=MapKept.run_getObj_map h
theorem xHg (hk:xFu kt ek)(hm:Tryz.prog.underlying mt=some (.map kt et))(z:Value)(hz:∀ w,(zeroValue et).run Tryz.prog w=.ok z w)(w:World)(M:Nat)(l:List (KE K))(c:Nat)(h:y3 ek w M l c)(k:K) :
  (Instr.lookup mt (.map (some M)) (ek k) false).run Tryz.prog w=.ok (((yM k l 0).map (·.2)).getD z) w:=by
 unfold Instr.lookup
 rw[Sem.run_bind,run_underlying hm]
 simp only[Result.andThen_ok,Sem.run_bind,jB h,hk.check,hk.find,Sem.run_pure]
 cases yM k l 0 with
 | none=>simp only[Sem.run_bind,hz,Result.andThen_ok,Sem.run_pure];rfl
 | some x=>rfl
theorem xBd (hk:xFu kt ek)(hm:Tryz.prog.underlying mt=some (.map kt et))(z:Value)(hz:∀ w,(zeroValue et).run Tryz.prog w=.ok z w)(w:World)(M:Nat)(l:List (KE K))(c:Nat)(h:y3 ek w M l c)(k:K) :
  (Instr.lookup mt (.map (some M)) (ek k) true).run Tryz.prog w=.ok (.tuple #[((yM k l 0).map (·.2)).getD z,.bool (yM k l 0).isSome]) w:=by
 unfold Instr.lookup
 rw[Sem.run_bind,run_underlying hm]
 simp only[Result.andThen_ok,Sem.run_bind,jB h,hk.check,hk.find,Sem.run_pure]
 cases yM k l 0 with
 | none=>simp only[Sem.run_bind,hz,Result.andThen_ok,Sem.run_pure];rfl
 | some x=>rfl
theorem xD4 (hk:xFu kt ek)(hm:Tryz.prog.underlying mt=some (.map kt et))(w:World)(M:Nat)(l:List (KE K))(c:Nat)(h:y3 ek w M l c)(k:K)(v:Value)(hn:yM k l 0=none) :
  (Instr.mapUpdate mt (.map (some M)) (ek k) v).run Tryz.prog w=.ok () (w.putObj M (.map ((l++[(⟨k,v,c⟩:KE K)]).map (enE ek)).toArray (c+1))):=by
 unfold Instr.mapUpdate
 rw[Sem.run_bind,run_underlying hm]
 simp only[Result.andThen_ok,Sem.run_bind,jB h,hk.check,hk.find,hn]
 rw[MapKept.run_setObj_map _ h]
 simp[World.putObj,enE]
theorem xN6 (hk:xFu kt ek)(hm:Tryz.prog.underlying mt=some (.map kt et))(ty:TypeId)(w:World)(M:Nat)(l:List (KE K))(c:Nat)(h:y3 ek w M l c)(k:K)(i:Nat)(v:Value)(hf:yM k l 0=some (i,v))(hi:i<l.length) :
  (Builtin.delete_ #[mt,kt] ty #[.map (some M),ek k]).run Tryz.prog w=.ok (.tuple #[]) (w.putObj M (.map ((l.eraseIdx i).map (enE ek)).toArray c)):=by
 unfold Builtin.delete_
 simp only[v_]
 rw[Sem.run_bind,run_underlying hm]
 simp only[Result.andThen_ok,Sem.run_bind,jB h,hk.check,hk.find,hf]
 rw[MapKept.run_setObj_map _ h]
 have he:(l.map (enE ek)).eraseIdx i=(l.eraseIdx i).map (enE ek):=xDc (enE ek) l i
 simp[World.putObj,Array.eraseIdxIfInBounds,hi,he]
end
theorem y3.put {K:Type}{ek:K→Value}{w:World}{M:Nat}{l l':List (KE K)}{c c':Nat}(h:y3 ek w M l c):y3 ek (w.putObj M (.map (l'.map (enE ek)).toArray c')) M l' c':=World.putObj_heap_same h.lt
section
attribute [local go_sem ↓] xV xO yp yh yq yB
attribute [local go_sem] zx zA zG zF yW xj xh xe xd xA xz xo xl xt xC xx
structure MG where
 name:ByteArray
 born:Nat
 gb:Nat
 nb:Nat
 v:Value
 ms:List ML
 nl:List (KE Id32)
 nc:Nat
def pErr (p:vz):Int:=xG4 (ML.g ⟨p,.slice none 0 0⟩) p.ids
structure zY (B:Nat)(w:World)(G:MG):Prop where
 blk:w.heap[G.gb]?=some (.cells #[G.v,.map (some G.nb)] 198 (0,0))
 lines:zl B w G.v G.ms
 nums:y3 ekI w G.nb G.nl G.nc
 agree:(G.nl.map fun e=>(e.k,e.v)).Perm (G.ms.map fun m=>(m.p.id,Value.int .i64 m.p.number))
 ids:(G.ms.map fun m=>m.p.id).Nodup
 sorted:(Go.Proofs.YthiafifdiaplaaaGreatDoor.nums G.ms).Pairwise (· < ·)
 good:∀ m∈G.ms,pErr m.p=0
 named:zV G.name=0
 some':G.ms≠[]
 gbB:B≤G.gb
 nbB:B≤G.nb
def MG.e (G:MG):KE ByteArray:=⟨G.name,.pointer (some ⟨G.gb,0,none⟩),G.born⟩
def MG.foot (G:MG):List Nat:=[G.gb,G.nb]++G.v.ownBlock.toList
def xS (gs:List MG):Nat:=(gs.map fun G=>G.ms.length).sum
def foot (ib M:Nat)(gs:List MG):List Nat:=ib :: M :: gs.flatMap MG.foot
structure ye (B:Nat)(w:World)(ib M:Nat)(gs:List MG)(mc:Nat):Prop where
 blk:w.heap[ib]?=some (.cells #[.map (some M),.int .i64 (xS gs)] 193 (0,0))
 map:y3 ekS w M (gs.map MG.e) mc
 names:(gs.map fun G=>G.name).Nodup
 grps:∀ G∈gs,zY B w G
 apart:(foot ib M gs).Nodup
 born:(gs.map fun G=>G.born).Nodup
 young:∀ G∈gs,G.born<mc
 few:xS gs≤65536
 ibB:B≤ib
 MB:B≤M
def yk (gs:List MG)(s:ByteArray):Option MG:=gs.find? fun G=>decide (G.name=s)
def qX (gs:List MG)(s:ByteArray):Value:=match yk gs s with | some G=>G.v | none=>.slice none 0 0
def xD (gs:List MG)(s:ByteArray):List ML:=match yk gs s with | some G=>G.ms | none=>[]
theorem yL {gs:List MG}{s:ByteArray}{G:MG}(h:yk gs s=some G):G∈gs∧G.name=s:=by
 unfold yk at h
 exact⟨List.mem_of_find?_eq_some h,by simpa using List.find?_some h⟩
theorem xB0 (s:ByteArray):∀ (gs:List MG) (i:Nat),(yM s (gs.map MG.e) i).map (·.2)=(yk gs s).map fun G=>Value.pointer (some ⟨G.gb,0,none⟩)
 | [],i=>rfl
 | G :: gs,i=>by
  unfold yk
  rw[List.map_cons]
  unfold yM
  by_cases h:s=G.name
  ·have:decide (G.name=s)=true:=by simp[h]
   rw[List.find?_cons,this]
   simp[MG.e,h]
  ·have:decide (G.name=s)=false:=by simp[Ne.symm h]
   rw[List.find?_cons,this]
   have hne:¬ s=G.e.k:=h
   simp only[hne,if_false]
   exact xB0 s gs (i+1)
theorem xVn (w:World):(zeroValue 194).run Tryz.prog w=.ok (.pointer none) w:=by kernel_rfl
theorem xNo (w:World):(zeroValue 3).run Tryz.prog w=.ok (.int .i64 0) w:=by kernel_rfl
theorem ye.look {B:Nat}{w:World}{ib M mc:Nat}{gs:List MG}(h:ye B w ib M gs mc)(s:ByteArray) :
  (Instr.lookup 191 (.map (some M)) (.string s) false).run Tryz.prog w=.ok (((yk gs s).map fun G=>Value.pointer (some ⟨G.gb,0,none⟩)).getD (.pointer none)) w:=by
 have:=xHg keyS Tryz.underlying191 (.pointer none) xVn w M _ mc h.map s
 rw[xB0] at this
 exact this
theorem ye.cell0 {B:Nat}{w:World}{ib M mc:Nat}{gs:List MG}(h:ye B w ib M gs mc):w.cell? ⟨ib,0,none⟩=some (.map (some M)):=cell_of_row w ib 0 _ _ _ h.blk
theorem ye.cell1 {B:Nat}{w:World}{ib M mc:Nat}{gs:List MG}(h:ye B w ib M gs mc):w.cell? ⟨ib,1,none⟩=some (.int .i64 (xS gs)):=cell_of_row w ib 1 _ _ _ h.blk
theorem ye.lines {B:Nat}{w:World}{ib M mc:Nat}{gs:List MG}(h:ye B w ib M gs mc)(s:ByteArray):zl B w (qX gs s) (xD gs s):=by
 unfold qX xD
 cases hg:yk gs s with
 | none=>exact⟨World.ownsRow_nil _ _ _ _,fun m hm=>by cases hm⟩
 | some G=>exact(h.grps G (yL hg).1).lines
theorem qI:∀ {gs:List MG} {G:MG},G∈gs→G.ms.length≤xS gs
 | H :: gs,G,hG=>by
  unfold xS
  rw[List.map_cons,List.sum_cons]
  rcases List.mem_cons.1 hG with rfl | hG
  ·omega
  ·have:=qI hG
   unfold xS at this
   omega
theorem ye.len {B:Nat}{w:World}{ib M mc:Nat}{gs:List MG}(h:ye B w ib M gs mc)(s:ByteArray):(xD gs s).length≤65536:=by
 unfold xD
 cases hg:yk gs s with
 | none=>simp
 | some G=>exact Nat.le_trans (qI (yL hg).1) h.few
theorem ye.sorted {B:Nat}{w:World}{ib M mc:Nat}{gs:List MG}(h:ye B w ib M gs mc)(s:ByteArray):(nums (xD gs s)).Pairwise (· < ·):=by
 unfold xD
 cases hg:yk gs s with
 | none=>exact .nil
 | some G=>exact(h.grps G (yL hg).1).sorted
theorem vX (B ib M mc:Nat)(gs:List MG)(s:ByteArray)(w:World)(h:ye B w ib M gs mc) :
  Calls Tryz.prog 82 #[.pointer (some ⟨ib,0,none⟩),.string s] w fun r w'=>r=.returned (qX gs s)∧w=w':=by
 have hc:=h.cell0
 have hl:=h.look s
 unfold qX
 cases hg:yk gs s with
 | none =>
  rw[hg] at hl
  clear h hg
  go_enter Tryz.func82,Tryz.ntmps82
  go_wp2
  go_ret
  exact⟨rfl,rfl⟩
 | some G =>
  rw[hg] at hl
  have hgc:w.cell? ⟨G.gb,0,none⟩=some G.v:=cell_of_row w G.gb 0 _ _ _ (h.grps G (yL hg).1).blk
  have hv:∃ a n c,G.v=.slice a n c:=by
   rcases (h.grps G (yL hg).1).lines.head with⟨e,_⟩ | ⟨g,cap,e,_⟩
   ·exact⟨_,_,_,e⟩
   ·exact⟨_,_,_,e⟩
  obtain⟨a,n,c,hv⟩:=hv
  simp only
  rw[hv] at hgc ⊢
  clear h hg hv
  go_enter Tryz.func82,Tryz.ntmps82
  go_wp2
  go_ret
  exact⟨rfl,rfl⟩
theorem vJ {B:Nat}{w:World}{ib M mc:Nat}{gs:List MG}(h:ye B w ib M gs mc)(s:ByteArray):∃ a c,qX gs s=.slice a (xD gs s).length c:=by
 rcases (h.lines s).head with⟨e,e2⟩ | ⟨g,cap,e,_⟩
 ·exact⟨none,0,by rw[e,e2];rfl⟩
 ·exact⟨_,_,e⟩
theorem zl.keep {B:Nat}{w w':World}{v:Value}{ms:List ML}(h:zl B w v ms)(hv:∀ k,v.ownBlock=some k→w'.heap[k]?=w.heap[k]?)(hr:∀ m∈ms,∀ k,m.v.ownBlock=some k→w'.heap[k]?=w.heap[k]?):zl B w' v ms where
 row:=by
  refine⟨h.row.1,?_⟩
  rcases h.row.2 with h0 | ⟨g,cap,cur,e,hg,hcur,hx⟩
  ·exact .inl h0
  ·exact .inr ⟨g,cap,cur,e,hg,(hv g (by rw[e];rfl)).trans hcur,hx⟩
 refs m hm:=(h.refs m hm).block (hr m hm)
theorem zl.below {B:Nat}{w w':World}{v:Value}{ms:List ML}(h:zl B w v ms)(hb:Below w.heap.size w w'):zl B w' v ms :=
 h.keep (fun k hk=>hb.block k (World.ownsRow.lt h.row k hk).2) (fun m hm k hk=>hb.block k ((h.refs m hm).lt hk).2)
theorem zY.keep {B:Nat}{w w':World}{G:MG}(h:zY B w G)(hf:∀ k∈G.foot,w'.heap[k]?=w.heap[k]?)(hr:∀ m∈G.ms,∀ k,m.v.ownBlock=some k→w'.heap[k]?=w.heap[k]?):zY B w' G where
 blk:=(hf G.gb (by simp[MG.foot])).trans h.blk
 lines:=h.lines.keep (fun k hk=>hf k (by simp[MG.foot,hk])) hr
 nums:=(hf G.nb (by simp[MG.foot])).trans h.nums
 agree:=h.agree
 ids:=h.ids
 sorted:=h.sorted
 good:=h.good
 named:=h.named
 some':=h.some'
 gbB:=h.gbB
 nbB:=h.nbB
theorem ye.keep {B:Nat}{w w':World}{ib M mc:Nat}{gs:List MG}(h:ye B w ib M gs mc)(hf:∀ k∈foot ib M gs,w'.heap[k]?=w.heap[k]?)(hr:∀ G∈gs,∀ m∈G.ms,∀ k,m.v.ownBlock=some k→w'.heap[k]?=w.heap[k]?):ye B w' ib M gs mc where
 blk:=(hf ib (by simp[foot])).trans h.blk
 map:=(hf M (by simp[foot])).trans h.map
 names:=h.names
 grps G hG:=(h.grps G hG).keep (fun k hk=>hf k (by unfold foot;simp only[List.mem_cons,List.mem_flatMap];exact .inr (.inr ⟨G,hG,hk⟩))) (hr G hG)
 apart:=h.apart
 born:=h.born
 young:=h.young
 few:=h.few
 ibB:=h.ibB
 MB:=h.MB
theorem zY.foot_lt {B:Nat}{w:World}{G:MG}(h:zY B w G):∀ k∈G.foot,B≤k∧k<w.heap.size:=by
 intro k hk
 unfold MG.foot at hk
 simp only[List.mem_append,List.mem_cons,List.mem_nil_iff,or_false,Option.mem_toList] at hk
 rcases hk with (rfl | rfl) | hk
 ·exact⟨h.gbB,(i_ h.blk).1⟩
 ·exact⟨h.nbB,h.nums.lt⟩
 ·exact World.ownsRow.lt h.lines.row k hk
theorem ye.foot_lt {B:Nat}{w:World}{ib M mc:Nat}{gs:List MG}(h:ye B w ib M gs mc):∀ k∈foot ib M gs,B≤k∧k<w.heap.size:=by
 intro k hk
 unfold foot at hk
 simp only[List.mem_cons,List.mem_flatMap] at hk
 rcases hk with rfl | rfl | ⟨G,hG,hk⟩
 ·exact⟨h.ibB,(i_ h.blk).1⟩
 ·exact⟨h.MB,h.map.lt⟩
 ·exact(h.grps G hG).foot_lt k hk
theorem ye.below {B:Nat}{w w':World}{ib M mc:Nat}{gs:List MG}(h:ye B w ib M gs mc)(hb:Below w.heap.size w w'):ye B w' ib M gs mc :=
 h.keep (fun k hk=>hb.block k (h.foot_lt k hk).2) (fun G hG m hm k hk=>hb.block k (((h.grps G hG).lines.refs m hm).lt hk).2)
theorem xSn {ns:List Int}{n:Int}{i j:Nat}(hs:ns.Pairwise (· < ·))(h:uM ns n j j)(hi:ns[i]?=some n):j=i:=by
 obtain⟨_,h2,h3,h4⟩:=h
 obtain⟨hlt,hget⟩:=List.getElem?_eq_some_iff.1 hi
 rcases Nat.lt_trichotomy j i with hji | hji | hji
 ·have h5:=h4 j (by omega) (Nat.le_refl _)
  have h6:=List.pairwise_iff_getElem.1 hs j i (by omega) hlt hji
  omega
 ·exact hji
 ·have:=h3 i hlt hji
  omega
theorem xOu {ms:List ML}{i:Nat}{m:ML}(h:ms[i]?=some m):(nums ms)[i]?=some m.p.number:=by
 unfold nums
 rw[List.getElem?_map,h];rfl
theorem xUu {ms:List ML}{i:Nat}{m:ML}{n:Int}(h:ms[i]?=some m)(hn:m.p.number=n):uB ms n=true:=by
 unfold uB
 rw[List.contains_iff_mem]
 exact List.mem_of_getElem? (hn ▸ xOu h)
theorem xD0 {p:vz}(h:pErr p=0):p.ids.length≤20:=by
 have:=(xMf h)
 obtain⟨f1,f2,f3,f4,f5,f6⟩:=this
 exact f5
theorem get_yes (B ib M mc:Nat)(gs:List MG)(s:ByteArray)(n:Int)(i:Nat)(m:ML)(w:World)(h:ye B w ib M gs mc)(hi:(xD gs s)[i]?=some m)(hn:m.p.number=n)(hg:pErr m.p=0) :
  Calls Tryz.prog 43 #[.pointer (some ⟨ib,0,none⟩),.string s,.int .i64 n] w fun r w'=>∃ v,r=.returned (.tuple #[.agg (x9 { m.g with refs:=v }),.bool true])∧zd w.heap.size w' v m.p.ids∧Below w.heap.size w w':=by
 have hb0:Below w.heap.size w (w.alloc (.cells (x9 xH) 49)):=(Below.refl _ _).alloc (Nat.le_refl _) _
 have hx0:=h.below hb0
 have hrl:=xD0 hg
 have HL:=h_ (vX B ib M mc gs s _ hx0)
 have hso:=hx0.sorted s
 have HS:=h_ (xGt B (qX gs s) (xD gs s) n _ (hx0.lines s) (hx0.len s) hso)
 rw[xUu hi hn] at HS
 have HAT:=h_ (fun j (hj:uM (nums (xD gs s)) n j j)=>xSn hso hj (hn ▸ xOu hi))
 have HZ:Hid (y2 (w.alloc (.cells (x9 xH) 49)) w.heap.size xH):=h_ (heap_alloc_new _ _)
 have HB:=h_ hb0
 have hln:=hx0.len s
 obtain⟨hil,hget⟩:=List.getElem?_eq_some_iff.1 hi
 rcases (hx0.lines s).head with⟨_,e⟩ | ⟨g,cap,hv,hBg,hgl,hle,hmx,hcell⟩
 ·rw[e] at hil;cases hil
 have hcell':=hcell i hil
 rw[hget] at hcell'
 have HC:=h_ hcell'
 have HI:=h_ ((hx0.lines s).refs m (List.mem_of_getElem? hi))
 rw[hv] at HL HS
 have hilz:(i:Int)<((xD gs s).length:Int):=by omega
 clear hb0 hx0 h hcell hcell' hi hget hso hv
 generalize (xD gs s).length=len at HL HS hilz hln hle hil
 have hft:xy 38 (x9 xH)=true:=ub rfl
 have hzs:((x9 xH).size == 38)=true:=by rw[xN];rfl
 go_enter Tryz.func43,Tryz.ntmps43
 go_wp2_with fail
 refine HL.out.mono ?_
 rintro r w' ⟨rfl,rfl⟩
 go_wp2_with fail
 refine HS.out.mono ?_
 rintro r w1 ⟨j,hj,rfl,hb1⟩
 obtain rfl:=HAT.out j hj
 have hZ1:y2 w1 w.heap.size xH:=HZ.out.below hb1 HZ.out.lt
 obtain⟨o1,d1⟩:=xBe (w:=w1) (g:=g) (off:=j*38) (l:=m.g) (fun k u hk=>(hb1.cell (p:=⟨g,j*38+k,none⟩) hgl).trans (HC.out k u hk))
 have HX:=h_ (xBn B m.g m.p.ids w1 (HI.out.below hb1) (by omega))
 have HZ1:=h_ hZ1
 have HB1:=h_ (HB.out.trans (hb1.mono HB.out.size))
 have hs1:w.heap.size<w1.heap.size:=hZ1.lt
 clear hZ1 hb1 HZ HB HS HL HAT hj HC HI
 go_wp2_with fail
 refine HX.out.mono ?_
 rintro r w2 ⟨v,rfl,hI2,hb2⟩
 have hone:=hI2.one
 have hZ2:y2 w2 w.heap.size xH:=HZ1.out.below hb2 hs1
 have hro:=hZ2.row
 have hft2:=ub (g:={ m.g with refs:=v }) hone
 have HI2:=h_ hI2
 have HZ2:=h_ hZ2
 have HB2:=h_ (HB1.out.trans (hb2.mono HB1.out.size))
 clear hZ2 hI2 hb2 HX HZ1 HB1
 go_wp2
 refine bodyPost_ret (v:=.tuple #[.agg (x9 { m.g with refs:=v }),.bool true]) ?_ rfl ⟨v,rfl,?_,qU HB2.out (zO _ _ _) HB2.out.size (Nat.le_refl _)⟩
 ·exact jj rfl Tryz.isAgg49 Tryz.sizeOf49 _ _ ⟨w.heap.size,0,none⟩ _ _ rfl rfl (HZ2.out.blk.setRow.rd.1) (HZ2.out.blk.setRow.rd.2)
 ·refine(HI2.out.mono (by omega)).block fun k hk=>(zO _ w.heap.size _).block k (HI2.out.lt hk).2 ?_
  intro e
  have:=(HI2.out.lt hk).1
  cases e
  omega
theorem xCl {K:Type}[DecidableEq K]{k:K}:∀ {l:List (KE K)} {i:Nat},(∀ e∈l,e.k≠k)→yM k l i=none
 | [],_,_=>rfl
 | e :: l,i,h=>by
  unfold yM
  rw[if_neg (fun e'=>h e (by simp) e'.symm)]
  exact xCl (fun e he=>h e (by simp[he]))
theorem xI5 {K:Type}[DecidableEq K]{e:KE K}:∀ {l:List (KE K)} {i:Nat},e∈l→(l.map fun e=>e.k).Nodup→∃ j,yM e.k l i=some (i+j,e.v)∧l[j]?=some e
 | d :: l,i,he,hn=>by
  unfold yM
  by_cases h:e.k=d.k
  ·have hed:e=d:=by
    rcases List.mem_cons.1 he with h1 | h1
    ·exact h1
    ·exfalso
     rw[List.map_cons,List.nodup_cons] at hn
     exact hn.1 (by rw[←h];exact List.mem_map.2 ⟨e,h1,rfl⟩)
   subst hed
   exact⟨0,by rw[if_pos rfl];rfl,rfl⟩
  ·rw[if_neg h]
   have he':e∈l:=by
    rcases List.mem_cons.1 he with h1 | h1
    ·exact absurd (by rw[h1]) h
    ·exact h1
   rw[List.map_cons,List.nodup_cons] at hn
   obtain⟨j,h1,h2⟩:=xI5 (i:=i+1) he' hn.2
   exact⟨j+1,by rw[h1];congr 2;omega,h2⟩
theorem zY.keys {B:Nat}{w:World}{G:MG}(h:zY B w G):(G.nl.map fun e=>e.k).Nodup:=by
 have h1:=h.agree.map Prod.fst
 rw[List.map_map,List.map_map] at h1
 exact h1.nodup_iff.2 h.ids
theorem zY.find_no {B:Nat}{w:World}{G:MG}(h:zY B w G){x:Id32}(hno:∀ m∈G.ms,m.p.id≠x):yM x G.nl 0=none:=xCl fun e he hx=>by
 have:(e.k,e.v)∈G.ms.map fun m=>(m.p.id,Value.int .i64 m.p.number):=h.agree.subset (List.mem_map.2 ⟨e,he,rfl⟩)
 obtain⟨m,hm,e2⟩:=List.mem_map.1 this
 exact hno m hm ((Prod.mk.inj e2).1.trans hx)
theorem zY.find_yes {B:Nat}{w:World}{G:MG}(h:zY B w G){m:ML}(hm:m∈G.ms):∃ j,yM m.p.id G.nl 0=some (j,.int .i64 m.p.number)∧∃ b,G.nl[j]?=some ⟨m.p.id,.int .i64 m.p.number,b⟩:=by
 have:(m.p.id,Value.int .i64 m.p.number)∈G.nl.map fun e=>(e.k,e.v):=h.agree.symm.subset (List.mem_map.2 ⟨m,hm,rfl⟩)
 obtain⟨e,he,e2⟩:=List.mem_map.1 this
 obtain⟨e3,e4⟩:=Prod.mk.inj e2
 obtain⟨j,h1,h2⟩:=xI5 (i:=0) he h.keys
 refine⟨j,?_,e.b,?_⟩
 ·rw[←e3,h1,e4,Nat.zero_add]
 ·rw[h2,←e3,←e4]
theorem jz {gs:List MG}{s:ByteArray}(h:xD gs s≠[]):∃ G,yk gs s=some G∧xD gs s=G.ms∧qX gs s=G.v:=by
 unfold xD qX at *
 cases hg:yk gs s with
 | none=>rw[hg] at h;exact absurd rfl h
 | some G=>exact⟨G,rfl,rfl,rfl⟩
theorem xS7 (B ib M mc:Nat)(gs:List MG)(s:ByteArray)(x:Id32)(w:World)(h:ye B w ib M gs mc)(hno:xD gs s=[]) :
  Calls Tryz.prog 258 #[.pointer (some ⟨ib,0,none⟩),.string s,.agg (xB x).toArray] w fun r w'=>r=.returned (.tuple #[.agg (x9 xH),.bool false])∧Below w.heap.size w w':=by
 have hb0:Below w.heap.size w ((w.alloc (.cells (xB x).toArray 39)).alloc (.cells (x9 xH) 49)):=((Below.refl _ _).alloc (Nat.le_refl _) _).alloc (by simp) _
 have hx0:=h.below hb0
 have HL:=h_ (vX B ib M mc gs s _ hx0)
 obtain⟨a,c,hv⟩:=vJ hx0 s
 rw[hv,hno] at HL
 have HB:=h_ hb0
 have hft:xy 38 (x9 xH)=true:=ub rfl
 have hzs:((x9 xH).size == 38)=true:=by rw[xN];rfl
 clear hb0 hx0 h hno hv
 go_enter Tryz.func258,Tryz.ntmps258
 go_wp2_with fail
 refine HL.out.mono ?_
 rintro r w' ⟨rfl,rfl⟩
 go_wp2
 refine bodyPost_ret (v:=.tuple #[.agg (x9 xH),.bool false]) ?_ rfl ⟨rfl,HB.out⟩
 exact jj rfl Tryz.isAgg49 Tryz.sizeOf49 _ _ ⟨w.heap.size+1,0,none⟩ _ _ rfl rfl (by simpa using xAo (w.alloc (.cells (xB x).toArray 39)) xH _) (by simpa using xAi (w.alloc (.cells (xB x).toArray 39)) xH 49)
def xQr (ms:List ML)(x:Id32)(w:World)(r:Ending)(w':World):Prop :=
 (((∀ m∈ms,m.p.id≠x)∧r=.returned (.tuple #[.agg (x9 xH),.bool false]))∨(∃ m∈ms,m.p.id=x∧∃ v,r=.returned (.tuple #[.agg (x9 { m.g with refs:=v }),.bool true])∧zd w.heap.size w' v m.p.ids))∧Below w.heap.size w w'
theorem xXu (B ib M mc:Nat)(gs:List MG)(s:ByteArray)(x:Id32)(w:World)(h:ye B w ib M gs mc)(hne:xD gs s≠[]) :
  Calls Tryz.prog 258 #[.pointer (some ⟨ib,0,none⟩),.string s,.agg (xB x).toArray] w fun r w' =>
   xQr (xD gs s) x w r w':=by
 obtain⟨G,hG,hms,hGv⟩:=jz hne
 obtain⟨W,hW⟩:∃ W,W=(w.alloc (.cells (xB x).toArray 39)).alloc (.cells (x9 xH) 49):=⟨_,rfl⟩
 have hb0:Below w.heap.size w W:=by rw[hW];exact((Below.refl _ _).alloc (Nat.le_refl _) _).alloc (by simp) _
 have hs0:W.heap.size=w.heap.size+2:=by rw[hW];simp
 have hx0:=h.below hb0
 have hgr:=hx0.grps G (yL hG).1
 have HL:=h_ (vX B ib M mc gs s _ hx0)
 obtain⟨a,c,hv⟩:=vJ hx0 s
 rw[hv] at HL
 have hlen:=hx0.len s
 have hpos:0<(xD gs s).length:=List.length_pos_iff.2 hne
 have hnz:(((xD gs s).length:Int) == 0)=false:=by rw[beq_eq_false_iff_ne];omega
 have hid:xq W ⟨w.heap.size,0,none⟩ 32=true∧xp W ⟨w.heap.size,0,none⟩ 32=(xB x).toArray:=by
  rw[hW]
  have h1:=vC w x 39
  have h2:=js w x 39
  exact⟨xAp _ h1,(xAj _ h1).trans h2⟩
 have hZ:y2 W (w.heap.size+1) xH:=by
  unfold y2
  have:=heap_alloc_new (w.alloc (.cells (xB x).toArray 39)) (.cells (x9 xH) 49)
  rw[hW]
  simpa using this
 have q1:∀ n,(W.drewN n).cell? ⟨ib,0,none⟩=some (.map (some M)):=fun n=>by rw[World.cell?_drewN];exact hx0.cell0
 have q2:∀ n,(Instr.lookup 191 (.map (some M)) (.string s) false).run Tryz.prog (W.drewN n)=.ok (.pointer (some ⟨G.gb,0,none⟩)) (W.drewN n):=fun n=>by
  have:=(h.below (below_drewN' hb0 n)).look s
  rw[hG] at this
  exact this
 have q3:∀ n,(W.drewN n).cell? ⟨G.gb,1,none⟩=some (.map (some G.nb)):=fun n=>by rw[World.cell?_drewN];exact cell_of_row W G.gb 1 _ _ _ hgr.blk
 have q4:∀ n,(Instr.lookup 195 (.map (some G.nb)) (.agg (xB x).toArray) true).run Tryz.prog (W.drewN n)=.ok (.tuple #[((yM x G.nl 0).map (·.2)).getD (.int .i64 0),.bool (yM x G.nl 0).isSome]) (W.drewN n):=fun n =>
  xBd keyI Tryz.underlying195 (.int .i64 0) xNo (W.drewN n) G.nb G.nl G.nc hgr.nums x
 have q5:∀ n,xq (W.drewN n) ⟨w.heap.size,0,none⟩ 32=true:=fun n=>by rw[xe];exact hid.1
 have q6:∀ n,xp (W.drewN n) ⟨w.heap.size,0,none⟩ 32=(xB x).toArray:=fun n=>by rw[xd];exact hid.2
 have hft:xy 38 (x9 xH)=true:=ub rfl
 have hzs:((x9 xH).size == 38)=true:=by rw[xN];rfl
 have HX:=h_ hx0
 have HB:=h_ hb0
 have HZ:=h_ hZ
 by_cases hin:∃ m∈G.ms,m.p.id=x
 ·obtain⟨m,hm,rfl⟩:=hin
  obtain⟨j,hj,_⟩:=hgr.find_yes hm
  rw[hj] at q4
  obtain⟨i,hi,hgi⟩:=List.mem_iff_getElem.1 (hms ▸ hm)
  have hi':(xD gs s)[i]?=some m:=by rw[List.getElem?_eq_getElem hi,hgi]
  have hgood:=hgr.good m hm
  have hmem:m∈xD gs s:=hms ▸ hm
  have HMem:=h_ hmem
  have HI:=h_ hi'
  clear hj hx0 hb0 hZ hid hgr h hms hGv hv hi hgi hi' hG hm hmem hne
  generalize (xD gs s).length=len at HL hlen hpos hnz
  go_enter Tryz.func258,Tryz.ntmps258
  go_wp2_with fail
  rw[←hW]
  refine HL.out.mono ?_
  rintro r w' ⟨rfl,rfl⟩
  clear hW
  go_wp2_with fail
  go_quiet (fail)
  clear q1 q2 q3 q4 q5 q6
  have hZ1:y2 (W.drewN nq) (w.heap.size+1) xH:=HZ.out
  have hB1:Below w.heap.size w (W.drewN nq):=below_drewN' HB.out nq
  have hs1:(W.drewN nq).heap.size=w.heap.size+2:=hs0
  have hX1:ye B (W.drewN nq) ib M gs mc:=HX.out.below (below_drewN' (Below.refl _ _) nq)
  generalize W.drewN nq=W1 at hZ1 hB1 hX1 hs1 ⊢
  have HG:=h_ (get_yes B ib M mc gs s m.p.number i m W1 hX1 HI.out rfl hgood)
  have HZ1:=h_ hZ1
  have HB1:=h_ hB1
  clear hZ1 hB1 hX1 HZ HB HX HI
  go_wp2_with fail
  refine HG.out.mono ?_
  rintro r W2 ⟨v,rfl,hI2,hb2⟩
  have hone:=hI2.one
  have hZ2:y2 W2 (w.heap.size+1) xH:=HZ1.out.below hb2 (by omega)
  have hro:=hZ2.row
  have hft2:=ub (g:={ m.g with refs:=v }) hone
  have HI2:=h_ hI2
  have HZ2:=h_ hZ2
  have HB2:=h_ (HB1.out.trans (hb2.mono HB1.out.size))
  clear hZ2 hI2 hb2 HG HZ1 HB1
  go_wp2
  refine bodyPost_ret (v:=.tuple #[.agg (x9 { m.g with refs:=v }),.bool true]) ?_ rfl ⟨.inr ⟨m,HMem.out,rfl,v,rfl,?_⟩,qU HB2.out (zO _ _ _) HB2.out.size (by omega)⟩
  ·exact jj rfl Tryz.isAgg49 Tryz.sizeOf49 _ _ ⟨w.heap.size+1,0,none⟩ _ _ rfl rfl (HZ2.out.blk.setRow.rd.1) (HZ2.out.blk.setRow.rd.2)
  ·refine(HI2.out.mono (by omega)).block fun k hk=>(zO _ (w.heap.size+1) _).block k (HI2.out.lt hk).2 ?_
   intro e
   have:=(HI2.out.lt hk).1
   cases e
   omega
 ·have hno:∀ m∈G.ms,m.p.id≠x:=fun m hm e=>hin ⟨m,hm,e⟩
  rw[hgr.find_no hno] at q4
  have HNO:=h_ (hms.symm ▸ hno)
  clear hin hno hx0 hb0 hZ hid hgr h hms hGv hv hG hne
  generalize (xD gs s).length=len at HL hlen hpos hnz
  go_enter Tryz.func258,Tryz.ntmps258
  go_wp2_with fail
  rw[←hW]
  refine HL.out.mono ?_
  rintro r w' ⟨rfl,rfl⟩
  clear hW
  go_wp2_with fail
  go_quiet (fail)
  clear q1 q2 q3 q4 q5 q6
  have hZ1:y2 (W.drewN nq) (w.heap.size+1) xH:=HZ.out
  have hB1:Below w.heap.size w (W.drewN nq):=below_drewN' HB.out nq
  generalize W.drewN nq=W1 at hZ1 hB1 ⊢
  have hro:=hZ1.row
  have HZ1:=h_ hZ1
  have HB1:=h_ hB1
  clear hZ1 hB1 HZ HB HX
  go_wp2
  refine bodyPost_ret (v:=.tuple #[.agg (x9 xH),.bool false]) ?_ rfl ⟨.inl ⟨HNO.out,rfl⟩,qU HB1.out (zO _ _ _) HB1.out.size (by omega)⟩
  exact jj rfl Tryz.isAgg49 Tryz.sizeOf49 _ _ ⟨w.heap.size+1,0,none⟩ _ _ rfl rfl (HZ1.out.blk.setRow.rd.1) (HZ1.out.blk.setRow.rd.2)
end
theorem vM (w:World)(ty:TypeId)(g o dLen dCap:Nat)(a:Addr)(sLen sCap:Nat)(cur:Array Value)(t:TypeId)(cs:List Value)
  (hg:w.heap[g]?=some (.cells cur t (0,0))) (hn:cs.length=Nat.min sLen dLen*38)
  (hsrc:∀ j v,cs[j]?=some v→w.cell? (a.add j)=some v) (hfit:o+cs.length≤cur.size) (h1:∀ v∈cs,v.oneCell'=true) :
  (Builtin.copy_ #[173,173] ty #[.slice (some ⟨g,o,none⟩) dLen dCap,.slice (some a) sLen sCap]).run Tryz.prog w =
   .ok (goInt (Nat.min sLen dLen)) (w.setRow g (cur.toList.take o++cs++cur.toList.drop (o+cs.length)).toArray):=by
 have hl:=run_loadCells_list (P:=Tryz.prog) w a cs hsrc
 have hst:=run_storeCells_at Tryz.prog g o t cs 0 cur w hg (by simpa using hfit) h1
 have hz:=Tryz.sizeOf49 w
 rw[hn] at hl
 simp[Builtin.copy_,run_underlying Tryz.underlying173,Builtin.lenOf,Builtin.firstCells,hz,hl,hst]
theorem xO8 {w:World}{g t:Nat}{cur:Array Value}{fr:Nat × Nat}(h:w.heap[g]?=some (.cells cur t fr)):w.shape? g=some (t,cur.size):=by
 unfold World.shape?
 rw[h]
theorem xUd (cur:List Value)(i n cap:Nat)(xs vs:List Value)(hc:cur.length=cap*38)(hx:cur.take (n*38)=xs)(hi:i<n)(hroom:n+1≤cap) :
  (((cur.take ((i+1)*38)++xs.drop (i*38)++cur.drop ((n+1)*38)).take (i*38))++vs++(cur.take ((i+1)*38)++xs.drop (i*38)++cur.drop ((n+1)*38)).drop ((i+1)*38))=xs.take (i*38)++vs++xs.drop (i*38)++cur.drop ((n+1)*38):=by
 have h1:(cur.take ((i+1)*38)).length=(i+1)*38:=by rw[List.length_take];omega
 rw[List.append_assoc (cur.take ((i+1)*38)),List.take_append_of_le_length (by rw[h1];omega),List.take_take,Nat.min_eq_left (by omega),List.drop_append_of_le_length (by rw[h1];omega),List.drop_eq_nil_of_le (by rw[h1];omega),List.nil_append]
 have h2:xs.take (i*38)=cur.take (i*38):=by rw[←hx,List.take_take,Nat.min_eq_left (by omega)]
 rw[h2]
 simp[List.append_assoc]
theorem xMl (B:Nat)(g cap n i sb:Nat)(xs:List Value)(l:yd)(w:World)(hone:jk l)(hxs:∀ u∈xs,u.oneCell'=true)(hown:w.ownsRow B 49 38 (.slice (some ⟨g,0,none⟩) n cap) n xs)(hn:n≤65536)(hi:i<n)(hroom:n+1≤cap)
  (hsb:w.heap[sb]?=some (.cells (x9 l) 49 (0,0))) (hne:sb≠g) :
  Calls Tryz.prog 259 #[.slice (some ⟨g,0,none⟩) n cap,.int .i64 i,.slice (some ⟨sb,0,none⟩) 1 1] w fun r w'=>∃ v',r=.returned v'∧w'.ownsRow B 49 38 v' (n+1) (xs.take (i*38)++xK l++xs.drop (i*38))∧w.grownBy w' (some g)∧(v'.ownBlock=some g∨v'.ownBlock=some w.heap.size):=by
 rcases hown.2 with⟨e,_⟩ | ⟨g',cap',cur,e,hBg,hcur,hle,hmx,hcs,htk⟩
 ·cases e
 cases e
 have hxl:=hown.1
 unfold maxLen at hmx
 have hl38:=yw l
 have hov:∀ lb cb,(callFunc 299 #[.slice (some ⟨sb,0,none⟩) 1 1,.slice (some ⟨g,(i+1)*38,none⟩) lb cb]).run Tryz.prog w=.ok (.value (.bool false)) w:=fun lb cb=>by
  rw[run_callFunc_extern Tryz.func299 (by kernel_rfl) (by kernel_rfl) (by kernel_rfl) (e:=Extern.SlicesOverlaps.overlaps #[173,173] #[4]) (by kernel_rfl),
   Lib.run_overlaps_apart w 173 4 49 Tryz.underlying173 38 Tryz.sizeOf49 ⟨sb,0,none⟩ ⟨g,(i+1)*38,none⟩ 1 1 lb cb hne _ _ _ _ (xO8 hsb) (xO8 hcur) (by rw[hcs];omega) (frozen_of_row w sb 0 _ _ hsb) (frozen_of_row w sb _ _ _ hsb)]
  rfl
 go_enter Tryz.func259,Tryz.ntmps259
 have hin:((i:Int) == (n:Int))=false:=by rw[beq_eq_false_iff_ne];omega
 have hle1:(i:Int)≤(n:Int):=by omega
 have hroomz:¬ (cap:Int)<(n:Int)+1:=by omega
 have hci:¬ cap=i:=by omega
 have hci1:¬ cap=i+1:=by omega
 go_wp2_with (simp only[hov])
 clear hov
 have hcp1:∀ ty dc sc,(Builtin.copy_ #[173,173] ty #[.slice (some ⟨g,(i+1)*38,none⟩) (n-i) dc,.slice (some ⟨g,i*38,none⟩) (n+1-i) sc]).run Tryz.prog w.drew=.ok (goInt (Nat.min (n+1-i) (n-i))) (w.drew.setRow g (cur.toList.take ((i+1)*38)++xs.drop (i*38)++cur.toList.drop ((n+1)*38)).toArray):=fun ty dc sc=>by
  have h1:(xs.drop (i*38)).length=(n-i)*38:=by rw[List.length_drop,hxl];omega
  have:=vM w.drew ty g ((i+1)*38) (n-i) dc ⟨g,i*38,none⟩ (n+1-i) sc cur 49 (xs.drop (i*38)) hcur (by rw[h1,show Nat.min (n+1-i) (n-i)=n-i from Nat.min_eq_right (by omega)])
   (fun j u hj=>by
    rw[List.getElem?_drop] at hj
    have h2:=World.ownsRow.cells hown (g:=g) rfl (i*38+j) u hj
    rw[Addr.add_lit,Nat.zero_add] at h2
    rw[Addr.add_lit,World.cell?_drew]
    exact h2) (by rw[h1,hcs];have:(n+1)*38≤cap*38:=Nat.mul_le_mul_right _ hroom;omega) (fun u hu=>hxs u (List.mem_of_mem_drop hu))
  rw[this,h1,show (i+1)*38+(n-i)*38=(n+1)*38 by omega]
 obtain⟨W1,hW1⟩:∃ W1,W1=w.drew.setRow g (cur.toList.take ((i+1)*38)++xs.drop (i*38)++cur.toList.drop ((n+1)*38)).toArray:=⟨_,rfl⟩
 rw[←hW1] at hcp1
 have hg1:w.grownBy W1 (some g):=by rw[hW1];exact jY (b:=w.drew) ⟨rfl,rfl,rfl,Nat.le_refl _,fun _ _ _=>rfl⟩ (zO w.drew g _)
 have hr1:W1.heap[g]?=some (.cells (cur.toList.take ((i+1)*38)++xs.drop (i*38)++cur.toList.drop ((n+1)*38)).toArray 49 (0,0)):=by rw[hW1];exact setRow_heap w.drew g _ _ _ _ hcur
 have hs1:W1.heap[sb]?=some (.cells (x9 l) 49 (0,0)):=(hg1.block sb (i_ hsb).1 (fun e=>hne (Option.some.inj e))).trans hsb
 have hk:(n+1)*38≤cap*38:=Nat.mul_le_mul_right _ hroom
 have hll:(cur.toList.take ((i+1)*38)++xs.drop (i*38)++cur.toList.drop ((n+1)*38)).length=cap*38:=by
  simp only[List.length_append,List.length_take,List.length_drop,hxl,Array.length_toList,hcs]
  omega
 have hcp2:∀ ty dc,(Builtin.copy_ #[173,173] ty #[.slice (some ⟨g,i*38,none⟩) (n+1-i) dc,.slice (some ⟨sb,0,none⟩) 1 1]).run Tryz.prog W1=.ok (goInt (Nat.min 1 (n+1-i))) (W1.setRow g (xs.take (i*38)++xK l++xs.drop (i*38)++cur.toList.drop ((n+1)*38)).toArray):=fun ty dc=>by
  have:=vM W1 ty g (i*38) (n+1-i) dc ⟨sb,0,none⟩ 1 1 _ 49 (xK l) hr1 (by rw[hl38,show Nat.min 1 (n+1-i)=1 from Nat.min_eq_left (by omega)])
   (fun j u hj=>by rw[Addr.add_lit,Nat.zero_add,cell_of_row W1 sb j _ _ _ hs1];simpa[x9] using hj) (by rw[hl38,List.size_toArray,hll];omega) (uI hone)
  rw[this,hl38]
  simp only
  rw[show i*38+38=(i+1)*38 by omega,xUd cur.toList i n cap xs (xK l) (by rw[Array.length_toList,hcs]) htk hi hroom]
 have hfin:(W1.setRow g (xs.take (i*38)++xK l++xs.drop (i*38)++cur.toList.drop ((n+1)*38)).toArray).ownsRow B 49 38 (.slice (some ⟨g,0,none⟩) (n+1) cap) (n+1) (xs.take (i*38)++xK l++xs.drop (i*38)):=by
  have h5:(xs.take (i*38)++xK l++xs.drop (i*38)).length=(n+1)*38:=by
   simp only[List.length_append,List.length_take,List.length_drop,hxl,hl38]
   omega
  refine⟨h5,.inr ⟨g,cap,_,rfl,hBg,setRow_heap W1 g _ _ _ _ hr1,hroom,by unfold maxLen;omega,?_,?_⟩⟩
  ·rw[List.size_toArray,List.length_append,h5,List.length_drop,Array.length_toList,hcs];omega
  ·rw[List.take_append_of_le_length (by rw[h5];exact Nat.le_refl _),List.take_of_length_le (by rw[h5];exact Nat.le_refl _)]
 have hgf:w.grownBy (W1.setRow g (xs.take (i*38)++xK l++xs.drop (i*38)++cur.toList.drop ((n+1)*38)).toArray) (some g):=jY hg1 (zO W1 g _)
 have HF:=h_ hfin
 have HG:=h_ hgf
 generalize hW2:W1.setRow g (xs.take (i*38)++xK l++xs.drop (i*38)++cur.toList.drop ((n+1)*38)).toArray=W2 at hcp2 HF HG
 clear hfin hgf hW2 hll hk hs1 hr1 hg1 hW1 hown hxs hxl hcs hsb hcur htk
 refine xw [0,1,2,3,4,5,6,7] [8] (fun w'=>∃ z:xf w,w'=z.1) (by kernel_rfl) (by kernel_rfl) (by kernel_rfl) ⟨⟨_,(Below.refl _ _).drew⟩,rfl⟩ ?_
 simp only[o_]
 repeat (go_big_quiet_step (fail))
 refine wpQuiet_nil ?_
 refine xG [8] _ _ (by kernel_rfl) ?_
 simp only[o_]
 refine wpList_copy_runI _ rfl (.tmp 73) (.tmp 76) 173 173 rfl _ _ rfl rfl (hcp1 _ _ _) ?_
 go_wp2
 refine NoPanic.normal ?_
 go_wp2_with (refine wpList_copy_runI _ rfl (.tmp 80) (.tmp 81) 173 173 rfl _ _ rfl rfl (hcp2 _ _) ?_)
 go_ret
 exact⟨_,rfl,HF.out,HG.out,.inl rfl⟩
theorem xA9 (k:Nat):(Builtin.zeroCells (Value.agg (x9 xH)).cells k).size=k*38:=by
 have h:(Value.agg (x9 xH)).cells.size=38:=xN _
 simp[Builtin.zeroCells,h]
theorem xWi (xs vs Z:List Value)(i n:Nat)(hxl:xs.length=n*38)(hv:vs.length=38)(hi:i<n) :
  let R1:=(xs.take (i*38)++Z).take (i*38)++vs++(xs.take (i*38)++Z).drop (i*38+38)
  R1.take ((i+1)*38)++xs.drop (i*38)++R1.drop ((i+1)*38+(n-i)*38)=xs.take (i*38)++vs++xs.drop (i*38)++Z.drop ((n+1-i)*38):=by
 have h1:(xs.take (i*38)).length=i*38:=by rw[List.length_take,hxl];omega
 have e1:(xs.take (i*38)++Z).take (i*38)=xs.take (i*38):=by rw[List.take_append_of_le_length (by rw[h1];exact Nat.le_refl _),List.take_of_length_le (by rw[h1];exact Nat.le_refl _)]
 have e2:(xs.take (i*38)++Z).drop (i*38+38)=Z.drop 38:=by
  rw[List.drop_append,h1,List.drop_eq_nil_of_le (by rw[h1];omega),List.nil_append,show i*38+38-i*38=38 by omega]
 simp only
 rw[e1,e2]
 have h2:(xs.take (i*38)++vs).length=(i+1)*38:=by rw[List.length_append,h1,hv];omega
 have e3:(xs.take (i*38)++vs++Z.drop 38).take ((i+1)*38)=xs.take (i*38)++vs:=by
  rw[List.take_append_of_le_length (by rw[h2];exact Nat.le_refl _),List.take_of_length_le (by rw[h2];exact Nat.le_refl _)]
 have e4:(xs.take (i*38)++vs++Z.drop 38).drop ((i+1)*38+(n-i)*38)=Z.drop ((n+1-i)*38):=by
  rw[List.drop_append,h2,List.drop_eq_nil_of_le (by rw[h2];omega),List.nil_append,List.drop_drop]
  congr 1
  omega
 rw[e3,e4]
theorem xPc (B:Nat)(g cap n i sb:Nat)(xs:List Value)(l:yd)(w:World)(hone:jk l)(hxs:∀ u∈xs,u.oneCell'=true)(hown:w.ownsRow B 49 38 (.slice (some ⟨g,0,none⟩) n cap) n xs)(hB:B≤w.heap.size)(hn:n≤65536)(hi:i<n)(hroom:cap<n+1)
  (hsb:w.heap[sb]?=some (.cells (x9 l) 49 (0,0))) :
  Calls Tryz.prog 259 #[.slice (some ⟨g,0,none⟩) n cap,.int .i64 i,.slice (some ⟨sb,0,none⟩) 1 1] w fun r w'=>∃ v',r=.returned v'∧w'.ownsRow B 49 38 v' (n+1) (xs.take (i*38)++xK l++xs.drop (i*38))∧w.grownBy w' (some g)∧(v'.ownBlock=some g∨v'.ownBlock=some w.heap.size):=by
 obtain⟨i0,hi0,hz0,hz1,hz2⟩:=info_parts Tryz.info_line
 rcases hown.2 with⟨e,_⟩ | ⟨g',cap',cur,e,hBg,hcur,hle,hmx,hcs,htk⟩
 ·cases e
 cases e
 have hxl:=hown.1
 obtain rfl:cap=n:=by omega
 have hl38:=yw l
 have hglt:g<w.heap.size:=(i_ hcur).1
 have hold:(Builtin.firstCells i0.size i (.slice (some ⟨g,0,none⟩) i cap)).run Tryz.prog w.drew=.ok (xs.take (i*38)).toArray w.drew:=by
  rw[hz1]
  refine run_firstCells_some w.drew 38 i ⟨g,0,none⟩ i cap (xs.take (i*38)) (by rw[List.length_take,hxl];omega) (fun j u hj=>?_)
  rw[List.getElem?_take] at hj
  split at hj
  ·have h2:=World.ownsRow.cells hown (g:=g) rfl j u hj
   rw[World.cell?_drew];exact h2
  ·cases hj
 obtain⟨G,hG⟩:∃ G,G=grownCap w (cap+1) cap 49:=⟨_,rfl⟩
 have hGn:cap+1≤G:=by rw[hG];exact grownCap_ge w _ _ _
 have hG63:G≤maxLen:=by rw[hG];exact grownCap_le_maxLen w (cap+1) cap _ (by unfold maxLen;omega)
 obtain⟨Z,hZ⟩:∃ Z:Array Value,Z=Builtin.zeroCells (Value.agg (x9 xH)).cells (cap+1-i)++Builtin.zeroCells (Value.agg (x9 xH)).cells (G-(cap+1)):=⟨_,rfl⟩
 have hZs:Z.size=(G-i)*38:=by rw[hZ,Array.size_append,xA9,xA9];omega
 have hkk:(cap:Int)+1-(i:Int)=((cap+1-i:Nat):Int):=by omega
 obtain⟨W1,hW1⟩:∃ W1,W1=w.drew.alloc (.cells ((xs.take (i*38)).toArray++Z) 49):=⟨_,rfl⟩
 have hrz:∀ ty,(Builtin.append_ #[173,3] ty #[.slice (some ⟨g,0,none⟩) i cap,.int .i64 ((cap:Int)+1-(i:Int))]).run Tryz.prog w=.ok (.slice (some ⟨w.heap.size,0,none⟩) (cap+1) G) W1:=fun ty=>by
  have h:=Lib.run_append_grow_zeros w 173 3 ty 49 i0 _ .i64 .i64 Tryz.underlying173 Tryz.underlying3 hi0 hz0 (some ⟨g,0,none⟩) i cap (xs.take (i*38)) hold (cap+1-i) (by omega) (by rw[hz1];omega) (by omega) (by omega) (by rw[hz2];omega) (by rw[hz2,show i+(cap+1-i)=cap+1 by omega];exact growslice_fits (by omega) (by omega))
  rw[show i+(cap+1-i)=cap+1 by omega,←hG,Array.append_assoc,←hZ,←hW1] at h
  rw[hkk]
  exact h
 obtain⟨N,hN⟩:∃ N,N=w.heap.size:=⟨_,rfl⟩
 rw[←hN] at hrz
 have hN1:W1.heap[N]?=some (.cells ((xs.take (i*38)).toArray++Z) 49 (0,0)):=by rw[hW1,hN];exact heap_alloc_new w.drew _
 have hb1:Below w.heap.size w W1:=by rw[hW1];exact((Below.refl _ _).drew).alloc (Nat.le_refl _) _
 have hs1:W1.heap[sb]?=some (.cells (x9 l) 49 (0,0)):=(hb1.block sb (i_ hsb).1).trans hsb
 have hxt:(xs.take (i*38)).length=i*38:=by rw[List.length_take,hxl];omega
 have hR0:((xs.take (i*38)).toArray++Z).size=G*38:=by rw[Array.size_append,List.size_toArray,hxt,hZs];omega
 have hGk:(cap+1)*38≤G*38:=Nat.mul_le_mul_right _ hGn
 obtain⟨R1,hR1⟩:∃ R1:List Value,R1=(xs.take (i*38)++Z.toList).take (i*38)++xK l++(xs.take (i*38)++Z.toList).drop (i*38+38):=⟨_,rfl⟩
 have hR1l:R1.length=G*38:=by
  rw[hR1]
  simp only[List.length_append,List.length_take,List.length_drop,hxl,hl38,Array.length_toList,hZs]
  omega
 obtain⟨W2,hW2⟩:∃ W2,W2=W1.setRow N R1.toArray:=⟨_,rfl⟩
 have hcp1:∀ ty dc,(Builtin.copy_ #[173,173] ty #[.slice (some ⟨N,i*38,none⟩) (cap+1-i) dc,.slice (some ⟨sb,0,none⟩) 1 1]).run Tryz.prog W1=.ok (goInt (Nat.min 1 (cap+1-i))) W2:=fun ty dc=>by
  have:=vM W1 ty N (i*38) (cap+1-i) dc ⟨sb,0,none⟩ 1 1 _ 49 (xK l) hN1 (by rw[hl38,show Nat.min 1 (cap+1-i)=1 from Nat.min_eq_left (by omega)])
   (fun j u hj=>by rw[Addr.add_lit,Nat.zero_add,cell_of_row W1 sb j _ _ _ hs1];simpa[x9] using hj) (by rw[hl38,hR0];omega) (uI hone)
  rw[this,hl38,hW2,hR1]
  simp
 have hN2:W2.heap[N]?=some (.cells R1.toArray 49 (0,0)):=by rw[hW2];exact setRow_heap W1 N _ _ _ _ hN1
 have hb2:Below w.heap.size w W2:=by rw[hW2];exact qU hb1 (zO W1 N _) hb1.size (by omega)
 obtain⟨W3,hW3⟩:∃ W3,W3=W2.drew.setRow N (xs.take (i*38)++xK l++xs.drop (i*38)++Z.toList.drop ((cap+1-i)*38)).toArray:=⟨_,rfl⟩
 have hcp2:∀ ty dc sc,(Builtin.copy_ #[173,173] ty #[.slice (some ⟨N,(i+1)*38,none⟩) (cap-i) dc,.slice (some ⟨g,i*38,none⟩) (cap-i) sc]).run Tryz.prog W2.drew=.ok (goInt (Nat.min (cap-i) (cap-i))) W3:=fun ty dc sc=>by
  have h1:(xs.drop (i*38)).length=(cap-i)*38:=by rw[List.length_drop,hxl];omega
  have:=vM W2.drew ty N ((i+1)*38) (cap-i) dc ⟨g,i*38,none⟩ (cap-i) sc _ 49 (xs.drop (i*38)) hN2 (by rw[h1,show Nat.min (cap-i) (cap-i)=cap-i from Nat.min_self _])
   (fun j u hj=>by
    rw[List.getElem?_drop] at hj
    have h2:=World.ownsRow.cells hown (g:=g) rfl (i*38+j) u hj
    rw[Addr.add_lit,Nat.zero_add] at h2
    rw[Addr.add_lit,World.cell?_drew,hb2.cell (p:=⟨g,i*38+j,none⟩) hglt]
    exact h2) (by rw[h1,List.size_toArray,hR1l];omega) (fun u hu=>hxs u (List.mem_of_mem_drop hu))
  rw[this,h1,hW3]
  have h6:=xWi xs (xK l) Z.toList i cap hxl hl38 hi
  simp only at h6
  rw[←hR1] at h6
  simp only
  rw[h6]
 have hfin:W3.ownsRow B 49 38 (.slice (some ⟨N,0,none⟩) (cap+1) G) (cap+1) (xs.take (i*38)++xK l++xs.drop (i*38)):=by
  have h5:(xs.take (i*38)++xK l++xs.drop (i*38)).length=(cap+1)*38:=by
   simp only[List.length_append,List.length_take,List.length_drop,hxl,hl38]
   omega
  refine⟨h5,.inr ⟨N,G,_,rfl,by omega,by rw[hW3];exact setRow_heap W2.drew N _ _ _ _ hN2,hGn,hG63,?_,?_⟩⟩
  ·rw[List.size_toArray,List.length_append,h5,List.length_drop,Array.length_toList,hZs];omega
  ·rw[List.take_append_of_le_length (by rw[h5];exact Nat.le_refl _),List.take_of_length_le (by rw[h5];exact Nat.le_refl _)]
 have hb3:Below w.heap.size w W3:=by rw[hW3];exact qU (hb2.drew) (zO W2.drew N _) hb2.size (by omega)
 have HN:=h_ hN
 have HF:=h_ hfin
 have HG:=h_ (xPg hb3 (some g))
 have hin:((i:Int) == (cap:Int))=false:=by rw[beq_eq_false_iff_ne];omega
 have hle1:(i:Int)≤(cap:Int):=by omega
 have hci:¬ cap=i:=by omega
 have hGi:¬ G=i:=by omega
 have hGi1:¬ G=i+1:=by omega
 have hG63z:G≤9223372036854775807:=by unfold maxLen at hG63;omega
 have hGz:(cap:Int)+1≤(G:Int):=by omega
 clear hfin hb3 hW3 hb2 hN2 hW2 hR1l hR1 hR0 hxt hs1 hb1 hN1 hN hW1 hZs hZ hG hold hown hxs hsb hcur hcs htk hxl hGk hz0 hz1 hz2 hi0 hkk
 go_enter Tryz.func259,Tryz.ntmps259
 go_wp2_with (first
  | (at_builtin;refine Lib.wpList_append_run _ rfl _ _ _ _ rfl _ _ rfl rfl _ _ (hrz _) ?_)
  | (refine wpList_copy_runI _ rfl (.tmp 43) (.tmp 44) 173 173 rfl _ _ rfl rfl (hcp1 _ _) ?_))
 generalize goInt ((Nat.min 1 (cap+1-i):Nat):Int)=vmin
 go_simp
 refine xw [0,1,2,3,4,5,6,7] [8] (fun w'=>∃ z:xf W2,w'=z.1) (by kernel_rfl) (by kernel_rfl) (by kernel_rfl) ⟨⟨_,(Below.refl _ _).drew⟩,rfl⟩ ?_
 simp only[o_]
 repeat (go_big_quiet_step (fail))
 refine wpQuiet_nil ?_
 refine xG [8] _ _ (by kernel_rfl) ?_
 simp only[o_]
 refine wpList_copy_runI _ rfl (.tmp 50) (.tmp 53) 173 173 rfl _ _ rfl rfl (hcp2 _ _ _) ?_
 go_wp2
 refine NoPanic.normal ?_
 go_wp2
 go_ret
 exact⟨_,rfl,HF.out,HG.out,.inr (by rw[←HN.out];rfl)⟩
theorem xJe (B:Nat)(v:Value)(n sb:Nat)(xs:List Value)(g:yd)(w:World)(hone:jk g)(hown:w.ownsRow B 49 38 v n xs)(hB:B≤w.heap.size)(hn:n≤65536)(hsb:∀ j u,(xK g)[j]?=some u→w.cell? ((⟨sb,0,none⟩:Addr).add j)=some u) :
  Calls Tryz.prog 259 #[v,.int .i64 n,.slice (some ⟨sb,0,none⟩) 1 1] w fun r w'=>∃ v',r=.returned v'∧w'.ownsRow B 49 38 v' (n+1) (xs++xK g)∧w.grownBy w' v.ownBlock∧(v'.ownBlock=v.ownBlock∨v'.ownBlock=some w.heap.size):=by
 obtain⟨i0,hi,hz0,hz1,hz2⟩:=info_parts Tryz.info_line
 have HS:=h_ hsb
 clear hsb
 have hone2:=h_ (uI hone)
 have hl1:=yw g
 have HW:=h_ hown
 rcases hown.2 with⟨rfl,rfl⟩ | ⟨gb,cap,cur,rfl,hg,hcur,hle,hmx,hcs,htk⟩
 ·clear hown
  go_enter Tryz.func259,Tryz.ntmps259
  go_wp2_with (at_builtin;refine wpList_append_own_at _ rfl (.tmp 23) (.tmp 24) 173 rfl B 49 i0 (.agg (x9 xH)) 38 112 Tryz.underlying173 hi hz0 hz1 hz2 (xN _) (by decide) _ _ _ rfl HW.out ⟨sb,0,none⟩ 1 1 (xK g) rfl hl1 HS.out hone2.out ?c3 ?c4 hB ?_)
  case c3=>unfold maxLen;omega
  case c4=>omega
  intro v' w2 hown' hgrow _ hat
  go_wp2
  go_ret
  exact⟨v',rfl,hown',hgrow,hat⟩
 ·clear hown
  unfold maxLen at hmx
  have heq:((n:Int) == (n:Int))=true:=by simp
  have hle':(n:Int)≤(cap:Int):=by omega
  by_cases hcn:cap=n
  ·subst hcn
   go_enter Tryz.func259,Tryz.ntmps259
   go_wp2_with (at_builtin;refine wpList_append_own_at _ rfl (.tmp 23) (.tmp 24) 173 rfl B 49 i0 (.agg (x9 xH)) 38 112 Tryz.underlying173 hi hz0 hz1 hz2 (xN _) (by decide) _ _ _ rfl HW.out ⟨sb,0,none⟩ 1 1 (xK g) rfl hl1 HS.out hone2.out (by unfold maxLen;omega) (by omega) hB ?_)
   intro v' w2 hown' hgrow _ hat
   go_wp2
   go_ret
   exact⟨v',rfl,hown',hgrow,hat⟩
  ·have hcz:¬ (cap:Int)=(n:Int):=by omega
   go_enter Tryz.func259,Tryz.ntmps259
   go_wp2_with (at_builtin;refine wpList_append_own_at _ rfl (.tmp 23) (.tmp 24) 173 rfl B 49 i0 (.agg (x9 xH)) 38 112 Tryz.underlying173 hi hz0 hz1 hz2 (xN _) (by decide) _ _ _ rfl HW.out ⟨sb,0,none⟩ 1 1 (xK g) rfl hl1 HS.out hone2.out (by unfold maxLen;omega) (by omega) hB ?_)
   intro v' w2 hown' hgrow _ hat
   go_wp2
   go_ret
   exact⟨v',rfl,hown',hgrow,hat⟩
theorem xHv (B:Nat)(v:Value)(n i sb:Nat)(xs:List Value)(l:yd)(w:World)(hone:jk l)(hxs:∀ u∈xs,u.oneCell'=true)(hown:w.ownsRow B 49 38 v n xs)(hB:B≤w.heap.size)(hn:n≤65536)(hi:i≤n)
  (hsb:w.heap[sb]?=some (.cells (x9 l) 49 (0,0))) (hne:v.ownBlock≠some sb) :
  Calls Tryz.prog 259 #[v,.int .i64 i,.slice (some ⟨sb,0,none⟩) 1 1] w fun r w'=>∃ v',r=.returned v'∧w'.ownsRow B 49 38 v' (n+1) (xs.take (i*38)++xK l++xs.drop (i*38))∧w.grownBy w' v.ownBlock∧(v'.ownBlock=v.ownBlock∨v'.ownBlock=some w.heap.size):=by
 by_cases h:i=n
 ·subst h
  rw[List.take_of_length_le (by rw[hown.1];exact Nat.le_refl _),List.drop_eq_nil_of_le (by rw[hown.1];exact Nat.le_refl _),List.append_nil]
  exact xJe B v i sb xs l w hone hown hB hn (fun j u hj=>by rw[Addr.add_lit,Nat.zero_add,cell_of_row w sb j _ _ _ hsb];simpa[x9] using hj)
 ·rcases hown.2 with⟨_,h0⟩ | ⟨g,cap,cur,rfl,hrest⟩
  ·omega
  ·by_cases hroom:n+1≤cap
   ·exact xMl B g cap n i sb xs l w hone hxs hown hn (by omega) hroom hsb (fun e=>hne (by rw[e];rfl))
   ·exact xPc B g cap n i sb xs l w hone hxs hown hB hn (by omega) (by omega) hsb
def posN (ns:List Int)(n:Int):Nat:=ns.countP fun k=>decide (k<n)
theorem xOn {ns:List Int}{n:Int}{i:Nat}(h:uM ns n i i):i=posN ns n:=by
 obtain⟨_,h2,h3,h4⟩:=h
 unfold posN
 rw[←List.take_append_drop i ns,List.countP_append]
 have e1:(ns.take i).countP (fun k=>decide (k<n))=(ns.take i).length:=by
  rw[List.countP_eq_length]
  intro k hk
  obtain⟨j,hj,rfl⟩:=List.mem_iff_getElem.1 hk
  rw[List.length_take] at hj
  rw[List.getElem_take]
  simpa using h3 j (by omega) (by omega)
 have e2:(ns.drop i).countP (fun k=>decide (k<n))=0:=by
  rw[List.countP_eq_zero]
  intro k hk
  obtain⟨j,hj,rfl⟩:=List.mem_iff_getElem.1 hk
  rw[List.length_drop] at hj
  rw[List.getElem_drop]
  have:=h4 (i+j) (by omega) (by omega)
  simp
  omega
 rw[e1,e2,List.length_take]
 omega
def qh (ms:List ML)(i:Nat)(m:ML):List ML:=ms.take i++m :: ms.drop i
theorem vZ (a b:List ML):yl (a++b)=yl a++yl b:=by simp[yl]
theorem xKv (ms:List ML)(i:Nat):(yl ms).take (i*38)=yl (ms.take i):=by
 by_cases h:i≤ms.length
 ·conv=>lhs;rw[←List.take_append_drop i ms,vZ]
  rw[List.take_append_of_le_length (by rw[zP,List.length_take];omega),List.take_of_length_le (by rw[zP,List.length_take];omega)]
 ·rw[List.take_of_length_le (by rw[zP];omega),List.take_of_length_le (by omega)]
theorem xKw (ms:List ML)(i:Nat):(yl ms).drop (i*38)=yl (ms.drop i):=by
 by_cases h:i≤ms.length
 ·conv=>lhs;rw[←List.take_append_drop i ms,vZ]
  rw[List.drop_append_of_le_length (by rw[zP,List.length_take];omega),List.drop_eq_nil_of_le (by rw[zP,List.length_take];omega),List.nil_append]
 ·rw[List.drop_eq_nil_of_le (by rw[zP];omega),List.drop_eq_nil_of_le (by omega)]
  rfl
theorem xPm (ms:List ML)(i:Nat)(m:ML):yl (qh ms i m)=(yl ms).take (i*38)++xK m.g++(yl ms).drop (i*38):=by
 unfold qh
 rw[vZ,xKv,xKw,List.append_assoc]
 rfl
theorem vx {ms:List ML}{i:Nat}{m:ML}(h:i≤ms.length):(qh ms i m).length=ms.length+1:=by
 unfold qh
 simp only[List.length_append,List.length_take,List.length_cons,List.length_drop]
 omega
theorem xCp (ms:List ML)(i:Nat)(m:ML):(qh ms i m).Perm (m :: ms):=by
 unfold qh
 refine List.perm_middle.trans ?_
 rw[List.take_append_drop]
theorem xEp {ms:List ML}{i:Nat}{m x:ML}:x∈qh ms i m↔x=m∨x∈ms:=by rw[(xCp ms i m).mem_iff,List.mem_cons]
structure vS (ms:List ML)(nl:List (KE Id32)):Prop where
 agree:(nl.map fun e=>(e.k,e.v)).Perm (ms.map fun m=>(m.p.id,Value.int .i64 m.p.number))
 ids:(ms.map fun m=>m.p.id).Nodup
 sorted:(nums ms).Pairwise (· < ·)
 good:∀ m∈ms,pErr m.p=0
theorem zY.pure {B:Nat}{w:World}{G:MG}(h:zY B w G):vS G.ms G.nl:=⟨h.agree,h.ids,h.sorted,h.good⟩
theorem vS.nil:vS [] []:=⟨.nil,.nil,.nil,fun _ h=>by cases h⟩
theorem vS.add {ms:List ML}{nl:List (KE Id32)}(h:vS ms nl){i:Nat}{m:ML}(c:Nat)(hb:uM (nums ms) m.p.number i i)(hn:uB ms m.p.number=false)(hi:∀ x∈ms,x.p.id≠m.p.id)(hg:pErr m.p=0) :
  vS (qh ms i m) (nl++[⟨m.p.id,.int .i64 m.p.number,c⟩]) where
 agree:=by
  rw[List.map_append]
  refine(List.perm_append_comm).trans ?_
  refine List.Perm.trans ?_ ((xCp ms i m).symm.map _)
  simp only[List.map_cons,List.map_nil,List.singleton_append]
  exact h.agree.cons _
 ids:=by
  rw[((xCp ms i m).map _).nodup_iff,List.map_cons,List.nodup_cons]
  refine⟨fun hm=>?_,h.ids⟩
  obtain⟨x,hx,e⟩:=List.mem_map.1 hm
  exact hi x hx e
 sorted:=by
  obtain⟨_,h2,h3,h4⟩:=hb
  have hs:=h.sorted
  have e:nums (qh ms i m)=(nums ms).take i++m.p.number :: (nums ms).drop i:=by simp[nums,qh,List.map_take,List.map_drop]
  have hnm:m.p.number ∉ nums ms:=fun hm=>by
   unfold uB at hn
   rw[List.contains_iff_mem.2 hm] at hn
   cases hn
  have ht:∀ a∈(nums ms).take i,a<m.p.number:=fun a ha=>by
   obtain⟨j,hj,rfl⟩:=List.mem_iff_getElem.1 ha
   rw[List.length_take] at hj
   rw[List.getElem_take]
   exact h3 j (by omega) (by omega)
  have hd:∀ a∈(nums ms).drop i,m.p.number<a:=fun a ha=>by
   have hne:a≠m.p.number:=fun e=>hnm (e ▸ List.mem_of_mem_drop ha)
   obtain⟨j,hj,rfl⟩:=List.mem_iff_getElem.1 ha
   rw[List.length_drop] at hj
   rw[List.getElem_drop] at hne ⊢
   have:=h4 (i+j) (by omega) (by omega)
   omega
  rw[e,List.pairwise_append,List.pairwise_cons]
  exact⟨hs.sublist (List.take_sublist _ _),⟨hd,hs.sublist (List.drop_sublist _ _)⟩,fun a ha b hb=>by
   have h5:=ht a ha
   rcases List.mem_cons.1 hb with rfl | hb
   ·exact h5
   ·have:=hd b hb
    omega⟩
 good x hx:=by
  rcases xEp.1 hx with rfl | hx
  ·exact hg
  ·exact h.good x hx
theorem uE {ib M:Nat}{gs:List MG}:(foot ib M gs).Nodup↔ib≠M∧(∀ G∈gs,ib ∉ G.foot∧M ∉ G.foot∧G.foot.Nodup)∧gs.Pairwise (fun G H=>∀ x∈G.foot,∀ y∈H.foot,x≠y):=by
 unfold foot
 rw[List.nodup_cons,List.nodup_cons,List.mem_cons,List.mem_flatMap,List.mem_flatMap]
 unfold List.Nodup
 rw[List.pairwise_flatMap]
 constructor
 ·rintro ⟨h1,h2,h3,h4⟩
  exact⟨fun e=>h1 (.inl e),fun G hG=>⟨fun hx=>h1 (.inr ⟨G,hG,hx⟩),fun hx=>h2 ⟨G,hG,hx⟩,h3 G hG⟩,h4⟩
 ·rintro ⟨h1,h2,h3⟩
  refine⟨?_,?_,fun G hG=>(h2 G hG).2.2,h3⟩
  ·rintro (e | ⟨G,hG,hx⟩)
   ·exact h1 e
   ·exact(h2 G hG).1 hx
  ·rintro ⟨G,hG,hx⟩
   exact(h2 G hG).2.1 hx
def uV (gs:List MG)(s:ByteArray)(G':MG):List MG:=gs.map fun H=>if H.name=s then G' else H
theorem yO {B:Nat}{w:World}{t size n:Nat}{v:Value}{xs:List Value}(h:w.ownsRow B t size v n xs){k:Nat}(hk:v.ownBlock=some k):∃ cur,w.heap[k]?=some (.cells cur t (0,0)):=by
 rcases h.2 with⟨rfl,_⟩ | ⟨g,cap,cur,rfl,_,hcur,_⟩
 ·cases hk
 ·cases hk
  exact⟨cur,hcur⟩
theorem zY.not_id {B:Nat}{w:World}{G:MG}(h:zY B w G){k:Nat}{cur:Array Value}(hk:w.heap[k]?=some (.cells cur 39 (0,0))):k ∉ G.foot:=by
 intro hf
 unfold MG.foot at hf
 simp only[List.mem_append,List.mem_cons,List.mem_nil_iff,or_false,Option.mem_toList] at hf
 rcases hf with (rfl | rfl) | hf
 ·rw[h.blk] at hk;cases hk
 ·have:=h.nums;unfold y3 at this;rw[this] at hk;cases hk
 ·obtain⟨c2,h2⟩:=yO h.lines.row hf
  rw[h2] at hk;cases hk
theorem ye.not_id {B:Nat}{w:World}{ib M mc:Nat}{gs:List MG}(h:ye B w ib M gs mc){k:Nat}{cur:Array Value}(hk:w.heap[k]?=some (.cells cur 39 (0,0))):k ∉ foot ib M gs:=by
 intro hf
 unfold foot at hf
 simp only[List.mem_cons,List.mem_flatMap] at hf
 rcases hf with rfl | rfl | ⟨G,hG,hf⟩
 ·rw[h.blk] at hk;cases hk
 ·have:=h.map;unfold y3 at this;rw[this] at hk;cases hk
 ·exact(h.grps G hG).not_id hk hf
theorem ye.refs_out {B:Nat}{w:World}{ib M mc:Nat}{gs:List MG}(h:ye B w ib M gs mc){G:MG}(hG:G∈gs){m:ML}(hm:m∈G.ms){k:Nat}(hk:m.v.ownBlock=some k):k<w.heap.size∧k ∉ foot ib M gs:=by
 have h1:=(h.grps G hG).lines.refs m hm
 obtain⟨cur,h2⟩:=yO h1 hk
 exact⟨(h1.lt hk).2,h.not_id h2⟩
structure Kept (F:List Nat)(w w':World):Prop where
 os:w'.os=w.os
 tape:w'.tape=w.tape
 output:w'.output=w.output
 size:w.heap.size≤w'.heap.size
 block:∀ k,k<w.heap.size→k ∉ F→w'.heap[k]?=w.heap[k]?
theorem Kept.mono {F F':List Nat}{w w':World}(h:Kept F w w')(hs:∀ k∈F,k<w.heap.size→k∈F'):Kept F' w w':=⟨h.os,h.tape,h.output,h.size,fun k hk hn=>h.block k hk fun hf=>hn (hs k hf hk)⟩
theorem Kept.of_below {F:List Nat}{w w':World}(h:Below w.heap.size w w'):Kept F w w':=⟨h.os,h.tape,h.output,h.size,fun k hk _=>h.block k hk⟩
theorem Kept.trans {F F':List Nat}{a b c:World}(h:Kept F a b)(h':Kept F' b c)(hs:∀ k∈F',k∈F∨a.heap.size≤k):Kept F a c :=
 ⟨h'.os.trans h.os,h'.tape.trans h.tape,h'.output.trans h.output,Nat.le_trans h.size h'.size,fun k hk hn=>(h'.block k (Nat.lt_of_lt_of_le hk h.size) fun hf=>by rcases hs k hf with h1 | h1;exact hn h1;omega).trans (h.block k hk hn)⟩
theorem Kept.below {F:List Nat}{w w':World}{B:Nat}(h:Kept F w w')(hB:B≤w.heap.size)(hF:∀ k∈F,B≤k):Below B w w':=⟨h.os,h.tape,h.output,h.size,fun k hk=>h.block k (by omega) fun hf=>by have:=hF k hf;omega⟩
def xCq (F F':List Nat)(w:World):Prop:=∀ k∈F',k∈F∨w.heap.size≤k
theorem xAe:∀ {gs:List MG} {s:ByteArray} {G G':MG},(gs.map fun G=>G.name).Nodup→yk gs s=some G→xS (uV gs s G')+G.ms.length=xS gs+G'.ms.length
 | H :: gs,s,G,G',hn,hg=>by
  unfold yk at hg
  rw[List.find?_cons] at hg
  rw[List.map_cons,List.nodup_cons] at hn
  by_cases h:H.name=s
  ·rw[decide_eq_true h] at hg
   cases hg
   have:uV gs s G'=gs:=by
    unfold uV
    conv=>rhs;rw[←List.map_id gs]
    refine List.map_congr_left fun K hK=>?_
    have:¬ K.name=s:=fun e=>hn.1 (h ▸ e ▸ List.mem_map.2 ⟨K,hK,rfl⟩)
    rw[if_neg this];rfl
   unfold xS uV at *
   rw[List.map_cons,if_pos h,List.map_cons,List.sum_cons,this,List.map_cons,List.sum_cons]
   omega
  ·rw[decide_eq_false h] at hg
   have ih:=xAe (G':=G') hn.2 hg
   unfold xS uV at *
   rw[List.map_cons,if_neg h,List.map_cons,List.sum_cons,List.map_cons,List.sum_cons]
   omega
theorem xC2:∀ {gs:List MG} {s:ByteArray} {G G':MG} (t:ByteArray),yk gs s=some G→G'.name=s→yk (uV gs s G') t=if t=s then some G' else yk gs t
 | H :: gs,s,G,G',t,hg,hn=>by
  unfold yk at hg ⊢
  unfold uV
  rw[List.find?_cons] at hg
  rw[List.map_cons,List.find?_cons]
  by_cases h:H.name=s
  ·rw[decide_eq_true h] at hg
   rw[if_pos h]
   by_cases ht:t=s
   ·rw[if_pos ht,decide_eq_true (hn.trans ht.symm)]
   ·rw[if_neg ht,decide_eq_false (fun e=>ht (e.symm.trans hn)),List.find?_cons,decide_eq_false (fun e=>ht (e.symm.trans h))]
    simp only
    clear hg
    induction gs with
    | nil=>rfl
    | cons K gs ih =>
     rw[List.map_cons,List.find?_cons,List.find?_cons]
     by_cases hK:K.name=s
     ·rw[if_pos hK,decide_eq_false (fun e=>ht (e.symm.trans hn)),decide_eq_false (fun e=>ht (e.symm.trans hK))]
      exact ih
     ·rw[if_neg hK]
      cases decide (K.name=t) with
      | true=>rfl
      | false=>exact ih
  ·rw[decide_eq_false h] at hg
   rw[if_neg h,List.find?_cons]
   have ih:=xC2 (gs:=gs) t hg hn
   unfold yk uV at ih
   by_cases ht:t=s
   ·rw[if_pos ht] at ih ⊢
    rw[decide_eq_false (fun e=>h (e.trans ht))]
    exact ih
   ·rw[if_neg ht] at ih ⊢
    cases decide (H.name=t) with
    | true=>rfl
    | false=>exact ih
theorem xC1 {gs:List MG}{s:ByteArray}{G G':MG}(t:ByteArray)(hg:yk gs s=some G)(hn:G'.name=s):xD (uV gs s G') t=if t=s then G'.ms else xD gs t:=by
 unfold xD
 rw[xC2 t hg hn]
 by_cases h:t=s
 ·rw[if_pos h,if_pos h]
 ·rw[if_neg h,if_neg h]
theorem xAr:∀ {l:List MG},(l.map fun G=>G.name).Nodup→∀ A∈l,∀ C∈l,A.name=C.name→A=C:=by
 intro l hl
 induction l with
 | nil=>intro A hA;cases hA
 | cons D l ih =>
  rw[List.map_cons,List.nodup_cons] at hl
  intro A hA C hC he
  rcases List.mem_cons.1 hA with hA' | hA'
  ·rcases List.mem_cons.1 hC with hC' | hC'
   ·rw[hA',hC']
   ·exact absurd (hA' ▸ he ▸ List.mem_map.2 ⟨C,hC',rfl⟩) hl.1
  ·rcases List.mem_cons.1 hC with hC' | hC'
   ·exact absurd (hC' ▸ List.mem_map.2 ⟨A,hA',he⟩) hl.1
   ·exact ih hl.2 A hA' C hC' he
theorem ye.upd {B:Nat}{w w':World}{ib M mc:Nat}{gs:List MG}(h:ye B w ib M gs mc){s:ByteArray}{G G':MG}(hG:yk gs s=some G)(h1:G'.name=G.name)(h2:G'.born=G.born)(h3:G'.gb=G.gb)(h4:G'.nb=G.nb)
  (h5:G'.v.ownBlock=G.v.ownBlock∨∃ k,G'.v.ownBlock=some k∧w.heap.size≤k) (hG':zY B w' G') (hib:w'.heap[ib]?=some (.cells #[.map (some M),.int .i64 (xS (uV gs s G'))] 193 (0,0)))
  (hk:Kept (ib :: G.foot) w w') (hfew:xS (uV gs s G')≤65536):ye B w' ib M (uV gs s G') mc∧xCq (foot ib M gs) (foot ib M (uV gs s G')) w:=by
 obtain⟨hGm,hGs⟩:=yL hG
 obtain⟨a1,a2,a3⟩:=uE.1 h.apart
 have hnm:gs.Pairwise (fun G H=>G.name≠H.name):=by
  have:=h.names
  unfold List.Nodup at this
  rwa [List.pairwise_map] at this
 have hf':∀ k∈G'.foot,k∈G.foot∨w.heap.size≤k:=by
  intro k hk'
  unfold MG.foot at hk' ⊢
  rw[h3,h4] at hk'
  simp only[List.mem_append,List.mem_cons,List.mem_nil_iff,or_false,Option.mem_toList] at hk' ⊢
  rcases hk' with hk' | hk'
  ·exact .inl (.inl hk')
  ·rcases h5 with h5 | ⟨k',h5,h6⟩
   ·rw[h5] at hk';exact .inl (.inr hk')
   ·rw[h5] at hk';cases hk';exact .inr h6
 have hmem:∀ H∈uV gs s G',H=G'∨(H∈gs∧H.name≠s):=by
  intro H hH
  obtain⟨K,hK,rfl⟩:=List.mem_map.1 hH
  by_cases e:K.name=s
  ·rw[if_pos e];exact .inl rfl
  ·rw[if_neg e];exact .inr ⟨hK,e⟩
 have hap:∀ H∈gs,H.name≠s→∀ x∈H.foot,x ∉ G.foot:=by
  intro H hH hHs x hx hxG
  have hpw:∀ {l:List MG},l.Pairwise (fun G H=>∀ x∈G.foot,∀ y∈H.foot,x≠y)→∀ A∈l,∀ C∈l,A.name≠C.name→∀ x∈A.foot,x ∉ C.foot:=by
   intro l hl
   induction l with
   | nil=>intro A hA;cases hA
   | cons D l ih =>
    rw[List.pairwise_cons] at hl
    intro A hA C hC hne x hxA hxC
    rcases List.mem_cons.1 hA with hA' | hA'
    ·rcases List.mem_cons.1 hC with hC' | hC'
     ·exact hne (by rw[hA',hC'])
     ·exact hl.1 C hC' x (hA' ▸ hxA) x hxC rfl
    ·rcases List.mem_cons.1 hC with hC' | hC'
     ·exact hl.1 A hA' x (hC' ▸ hxC) x hxA rfl
     ·exact ih hl.2 A hA' C hC' hne x hxA hxC
  exact hpw a3 H hH G hGm (by rw[hGs];exact hHs) x hx hxG
 have hG'ib:ib ∉ G'.foot:=fun hx=>by
  rcases hf' ib hx with h6 | h6
  ·exact(a2 G hGm).1 h6
  ·have:=(h.foot_lt ib (by simp[foot])).2;omega
 have hG'M:M ∉ G'.foot:=fun hx=>by
  rcases hf' M hx with h6 | h6
  ·exact(a2 G hGm).2.1 h6
  ·have:=(h.foot_lt M (by simp[foot])).2;omega
 have hG'n:G'.foot.Nodup:=by
  have h6:=(a2 G hGm).2.2
  unfold MG.foot at h6 ⊢
  rw[h3,h4]
  rcases h5 with h5 | ⟨k',h5,h7⟩
  ·rw[h5];exact h6
  ·rw[h5]
   have g1:=(i_ (h.grps G hGm).blk).1
   have g2:=(h.grps G hGm).nums.lt
   simp only[List.cons_append,List.nil_append,List.nodup_cons,List.mem_cons,Option.mem_toList,Option.toList_some,List.mem_nil_iff,or_false,not_or] at h6 ⊢
   exact⟨⟨h6.1.1,by omega⟩,by omega,by simp⟩
 refine⟨{ blk:=hib,map:=?_,names:=?_,grps:=?_,apart:=?_,born:=?_,young:=?_,few:=hfew,ibB:=h.ibB,MB:=h.MB },?_⟩
 ·have e:(uV gs s G').map MG.e=gs.map MG.e:=by
   unfold uV
   rw[List.map_map]
   refine List.map_congr_left fun H hH=>?_
   simp only[Function.comp]
   by_cases e:H.name=s
   ·rw[if_pos e]
    have:H=G:=by
     exact xAr h.names H hH G hGm (e.trans hGs.symm)
    subst this
    simp only[MG.e,h1,h2,h3]
   ·rw[if_neg e]
  unfold y3
  rw[e,hk.block M h.map.lt (by rw[List.mem_cons,not_or];exact⟨fun e=>a1 e.symm,(a2 G hGm).2.1⟩)]
  exact h.map
 ·have e:(uV gs s G').map (fun G=>G.name)=gs.map (fun G=>G.name):=by
   unfold uV
   rw[List.map_map]
   refine List.map_congr_left fun H hH=>?_
   simp only[Function.comp]
   by_cases e:H.name=s
   ·rw[if_pos e,h1,hGs,e]
   ·rw[if_neg e]
  rw[e];exact h.names
 ·intro H hH
  rcases hmem H hH with rfl | ⟨hH,hHs⟩
  ·exact hG'
  ·refine(h.grps H hH).keep (fun k hkf=>hk.block k ((h.grps H hH).foot_lt k hkf).2 ?_) (fun m hm k hkm=>?_)
   ·rw[List.mem_cons,not_or]
    exact⟨fun e=>(a2 H hH).1 (e ▸ hkf),hap H hH hHs k hkf⟩
   ·obtain⟨g1,g2⟩:=h.refs_out hH hm hkm
    refine hk.block k g1 fun hx=>g2 ?_
    unfold foot
    rw[List.mem_cons] at hx ⊢
    rcases hx with hx | hx
    ·exact .inl hx
    ·exact .inr (List.mem_cons.2 (.inr (List.mem_flatMap.2 ⟨G,hGm,hx⟩)))
 ·rw[uE]
  refine⟨a1,fun H hH=>?_,?_⟩
  ·rcases hmem H hH with rfl | ⟨hH,hHs⟩
   ·exact⟨hG'ib,hG'M,hG'n⟩
   ·exact a2 H hH
  ·unfold uV
   rw[List.pairwise_map]
   refine(List.Pairwise.and a3 hnm).imp_of_mem fun {A C} hA hC hAC=>?_
   obtain⟨hAC,hne⟩:=hAC
   by_cases eA:A.name=s
   ·by_cases eC:C.name=s
    ·exact absurd (eA.trans eC.symm) hne
    ·rw[if_pos eA,if_neg eC]
     intro x hx y hy e
     subst e
     rcases hf' x hx with h6 | h6
     ·exact hap C hC eC x hy h6
     ·have:=((h.grps C hC).foot_lt x hy).2;omega
   ·by_cases eC:C.name=s
    ·rw[if_neg eA,if_pos eC]
     intro x hx y hy e
     subst e
     rcases hf' x hy with h6 | h6
     ·exact hap A hA eA x hx h6
     ·have:=((h.grps A hA).foot_lt x hx).2;omega
    ·rw[if_neg eA,if_neg eC]
     exact hAC
 ·have e:(uV gs s G').map (fun G=>G.born)=gs.map (fun G=>G.born):=by
   unfold uV
   rw[List.map_map]
   refine List.map_congr_left fun H hH=>?_
   simp only[Function.comp]
   by_cases e:H.name=s
   ·rw[if_pos e,h2]
    exact(congrArg MG.born (xAr h.names H hH G hGm (e.trans hGs.symm))).symm
   ·rw[if_neg e]
  rw[e];exact h.born
 ·intro H hH
  rcases hmem H hH with rfl | ⟨hH,hHs⟩
  ·rw[h2];exact h.young G hGm
  ·exact h.young H hH
 ·intro k hk'
  unfold foot at hk'
  simp only[List.mem_cons,List.mem_flatMap] at hk'
  rcases hk' with rfl | rfl | ⟨H,hH,hk'⟩
  ·exact .inl (by simp[foot])
  ·exact .inl (by simp[foot])
  ·have hin:∀ K∈gs,∀ x∈K.foot,x∈foot ib M gs:=fun K hK x hx=>by
    unfold foot
    exact List.mem_cons.2 (.inr (List.mem_cons.2 (.inr (List.mem_flatMap.2 ⟨K,hK,hx⟩))))
   rcases hmem H hH with rfl | ⟨hH,hHs⟩
   ·rcases hf' k hk' with h6 | h6
    ·exact .inl (hin G hGm k h6)
    ·exact .inr h6
   ·exact .inl (hin H hH k hk')
theorem jl {gs:List MG}{s:ByteArray}(h:yk gs s=none):∀ G∈gs,G.name≠s:=by
 intro G hG e
 unfold yk at h
 rw[List.find?_eq_none] at h
 exact h G hG (by simpa using e)
theorem xP2 {gs:List MG}{s:ByteArray}{G':MG}(t:ByteArray)(hg:yk gs s=none)(hn:G'.name=s):xD (gs++[G']) t=if t=s then G'.ms else xD gs t:=by
 unfold xD yk at *
 rw[List.find?_append]
 by_cases h:t=s
 ·rw[if_pos h,h,hg]
  simp[hn]
 ·rw[if_neg h]
  cases hx:gs.find? (fun G=>decide (G.name=t)) with
  | some K=>rfl
  | none =>
   have:decide (G'.name=t)=false:=decide_eq_false (fun e=>h (e.symm.trans hn))
   simp[this]
theorem ye.new {B:Nat}{w w':World}{ib M mc:Nat}{gs:List MG}(h:ye B w ib M gs mc){s:ByteArray}{G':MG}(hG:yk gs s=none)(h1:G'.name=s)(h2:G'.born=mc)
  (h5:∀ k∈G'.foot,w.heap.size≤k) (h6:G'.foot.Nodup) (hG':zY B w' G') (hib:w'.heap[ib]?=some (.cells #[.map (some M),.int .i64 (xS (gs++[G']))] 193 (0,0)))
  (hM:y3 ekS w' M ((gs++[G']).map MG.e) (mc+1))
  (hk:Kept [ib,M] w w') (hfew:xS (gs++[G'])≤65536):ye B w' ib M (gs++[G']) (mc+1)∧xCq (foot ib M gs) (foot ib M (gs++[G'])) w:=by
 obtain⟨a1,a2,a3⟩:=uE.1 h.apart
 have hno:=jl hG
 have hib':=(h.foot_lt ib (by simp[foot])).2
 have hM':=(h.foot_lt M (by simp[foot])).2
 refine⟨{ blk:=hib,map:=hM,names:=?_,grps:=?_,apart:=?_,born:=?_,young:=?_,few:=hfew,ibB:=h.ibB,MB:=h.MB },?_⟩
 ·rw[List.map_append]
  refine List.nodup_append.2 ⟨h.names,by simp,?_⟩
  intro a ha b hb e
  obtain⟨G,hG,rfl⟩:=List.mem_map.1 ha
  simp only[List.map_cons,List.map_nil,List.mem_singleton] at hb
  exact hno G hG (e.trans (hb.trans h1))
 ·intro H hH
  rcases List.mem_append.1 hH with hH | hH
  ·refine(h.grps H hH).keep (fun k hkf=>hk.block k ((h.grps H hH).foot_lt k hkf).2 ?_) (fun m hm k hkm=>?_)
   ·simp only[List.mem_cons,List.mem_nil_iff,or_false,not_or]
    exact⟨fun e=>(a2 H hH).1 (e ▸ hkf),fun e=>(a2 H hH).2.1 (e ▸ hkf)⟩
   ·obtain⟨g1,g2⟩:=h.refs_out hH hm hkm
    refine hk.block k g1 fun hx=>g2 ?_
    simp only[List.mem_cons,List.mem_nil_iff,or_false] at hx
    unfold foot
    rcases hx with rfl | rfl
    ·simp
    ·simp
  ·cases List.mem_singleton.1 hH
   exact hG'
 ·rw[uE]
  refine⟨a1,fun H hH=>?_,?_⟩
  ·rcases List.mem_append.1 hH with hH | hH
   ·exact a2 H hH
   ·cases List.mem_singleton.1 hH
    exact⟨fun hx=>by have:=h5 ib hx;omega,fun hx=>by have:=h5 M hx;omega,h6⟩
  ·rw[List.pairwise_append]
   refine⟨a3,List.pairwise_singleton _ _,fun A hA C hC x hx y hy e=>?_⟩
   cases List.mem_singleton.1 hC
   have:=((h.grps A hA).foot_lt x hx).2
   have:=h5 y hy
   omega
 ·rw[List.map_append]
  refine List.nodup_append.2 ⟨h.born,by simp,?_⟩
  intro a ha b hb e
  obtain⟨G,hG,rfl⟩:=List.mem_map.1 ha
  simp only[List.map_cons,List.map_nil,List.mem_singleton] at hb
  have:=h.young G hG
  omega
 ·intro H hH
  rcases List.mem_append.1 hH with hH | hH
  ·have:=h.young H hH;omega
  ·cases List.mem_singleton.1 hH
   omega
 ·intro k hk'
  unfold foot at hk'
  simp only[List.mem_cons,List.mem_flatMap] at hk'
  rcases hk' with rfl | rfl | ⟨H,hH,hk'⟩
  ·exact .inl (by simp[foot])
  ·exact .inl (by simp[foot])
  ·rcases List.mem_append.1 hH with hH | hH
   ·left
    unfold foot
    exact List.mem_cons.2 (.inr (List.mem_cons.2 (.inr (List.mem_flatMap.2 ⟨H,hH,hk'⟩))))
   ·cases List.mem_singleton.1 hH
    exact .inr (h5 k hk')
theorem xU1 (gs:List MG)(G':MG):xS (gs++[G'])=xS gs+G'.ms.length:=by
 unfold xS
 simp
end Go.Proofs.YthiafifdiaplaaaGreatDoor
namespace Go.Proofs.YthiafifdiaplaaaGreatDoor
structure PD where
 n:Nat
 dur:Nat→By
 pend:List (Nat × By)
 lim:Option Nat
 down:Bool
def PD.vis (d:PD)(s:Nat):By:=match d.pend.reverse.find? (fun p=>p.1 == s) with
 | some p=>p.2
 | none=>d.dur s
def PD.fresh (n:Nat):PD:=⟨n,fun _=>List.replicate 256 0,[],none,false⟩
def PD.oper (d:PD):PD × Bool:=match d.lim with
 | some 0=>({ d with down:=true },false)
 | some (k+1)=>({ d with lim:=some k },true)
 | none=>(d,true)
def PD.write (d:PD)(s:Nat)(b:By):PD × Bool:=if d.down then (d,false) else match d.oper with
 | (d',true)=>({ d' with pend:=d'.pend++[(s,b)] },true)
 | (d',false)=>(d',false)
def PD.flushed (d:PD):PD:={ d with dur:=d.vis,pend:=[] }
def PD.flush (d:PD):PD × Bool:=if d.down then (d,false) else match d.oper with
 | (d',true)=>(d'.flushed,true)
 | (d',false)=>(d',false)
def PD.puts (d:PD):Nat→List By→PD × Bool
 | _,[]=>(d,true)
 | at_,b :: l=>match d.write at_ b with
  | (d',true)=>d'.puts (at_+1) l
  | (d',false)=>(d',false)
variable (H:By→By)
structure PJ where
 area:Nat
 gen:Nat
 first:Nat
 carried:Nat
 entries:List By
def qC (gen first carried:Nat):PRec:=⟨1,gen,0,beB 8 first++beB 8 carried⟩
def uT (gen:Nat):Nat→List By→List PRec
 | _,[]=>[]
 | k,b :: l=>⟨2,gen,k,b⟩ :: uT gen (k+1) l
def vB (gen first carried:Nat)(l:List By):List PRec:=qC gen first carried :: uT gen 1 l
def xE8 (gen first carried:Nat)(l:List By):List By:=(vB gen first carried l).flatMap (yf H)
def PJ.secs (j:PJ):List By:=xE8 H j.gen j.first j.carried j.entries
def jX (b:By):Option (Nat × Nat):=if b.length=16∧deB (b.take 8)≤2147483647∧deB (b.drop 8)≤2147483647 then some (deB (b.take 8),deB (b.drop 8)) else none
noncomputable def zg (area:Nat)(l:List By):Option PJ :=
 match l with
 | []=>none
 | b :: _=>match decP H b with
  | none=>none
  | some p=>if p.gen.toNat % 2≠area then none else
   match zX H p.gen l.length 0 l with
   | []=>none
   | r :: rs=>if r.kind≠1 then none else
    match jX r.pay with
    | none=>none
    | some (first,carried) =>
     let es:=(rs.takeWhile fun r=>r.kind == 2).map (·.pay)
     if carried≤es.length then some ⟨area,p.gen.toNat,first,carried,es⟩ else none
theorem vQ (gen:Nat):∀ (k:Nat) (l:List By),(uT gen k l).length=l.length
 | _,[]=>rfl
 | k,b :: l=>by simp[uT,vQ gen (k+1) l]
theorem xFp (gen:Nat):∀ (k:Nat) (l:List By),(uT gen k l).all (fun r=>r.kind == 2)=true
 | _,[]=>rfl
 | k,b :: l=>by simp[uT];simpa using xFp gen (k+1) l
theorem xIo (gen:Nat):∀ (k:Nat) (l:List By),(uT gen k l).map (·.pay)=l
 | _,[]=>rfl
 | k,b :: l=>by simp[uT,xIo gen (k+1) l]
def xLb (gen:Int):Int→List PRec→Prop
 | _,[]=>True
 | k,r :: rs=>r.Ok∧r.gen=gen∧r.num=k∧xLb gen (k+1) rs
theorem xIn (gen:Nat)(hg:gen≤2147483647):∀ (k:Nat) (l:List By),k+l.length≤2147483647→(∀ b∈l,b.length≤131072)→xLb gen k (uT gen k l)
 | _,[],_,_=>trivial
 | k,b :: l,hk,hl=>by
  simp only[List.length_cons] at hk
  refine⟨?_,rfl,rfl,?_⟩
  ·have:=hl b (List.mem_cons_self ..)
   refine⟨⟨?_,?_,?_,?_,?_,?_⟩,this⟩ <;> simp only <;> omega
  ·have:=xIn gen hg (k+1) l (by omega) (fun b hb=>hl b (List.mem_cons_of_mem _ hb))
   exact this
theorem xWf {gen:Int}{f:Nat}{num:Int}{l:List By}(h:∀ b,l.head? = some b→∀ p,decP H b=some p→p.gen≠gen):zX H gen f num l=[]:=by
 cases f with
 | zero=>rfl
 | succ f =>
  cases l with
  | nil=>rfl
  | cons b rest =>
   simp only[zX,uh]
   cases hp:decP H b with
   | none=>rfl
   | some p =>
    have hne:=h b rfl p hp
    simp only
    split
    ·rfl
    ·rename_i r n hj
     split at hj
     ·simp only[Option.map_eq_some_iff,Prod.mk.injEq] at hj
      obtain⟨_,_,rfl,_⟩:=hj
      rw[if_neg (by simp),if_neg (fun hc=>hne hc.1)]
     ·simp at hj
theorem xOa (hH:∀ c,(H c).length=16){gen:Int}(rest:List By):∀ (rs:List PRec) (num:Int) (f:Nat),rs.length≤f→xLb gen num rs →
  zX H gen f num (rs.flatMap (yf H)++rest)=rs++zX H gen (f-rs.length) (num+rs.length) rest
 | [],num,f,_,_=>by simp
 | r :: rs,num,f,hf,hr=>by
  obtain⟨h1,h2,h3,h4⟩:=hr
  obtain⟨g,rfl⟩:∃ g,f=g+1:=⟨f-1,by simp at hf;omega⟩
  have hj:=xMj H hH h1 (rs.flatMap (yf H)++rest)
  have hs:(yf H r).length=xY r.pay.length:=zy H r
  have hn:1≤xY r.pay.length:=by unfold xY;omega
  have hne:yf H r++(rs.flatMap (yf H)++rest)≠[]:=by
   intro h0
   rw[List.append_eq_nil_iff] at h0
   rw[h0.1] at hs
   simp at hs
   omega
  rw[List.flatMap_cons,List.append_assoc]
  simp only[zX,hj]
  rw[if_neg hne,if_pos ⟨h2,h3⟩]
  have hd:(yf H r++(rs.flatMap (yf H)++rest)).drop (xY r.pay.length)=rs.flatMap (yf H)++rest:=by
   rw[←hs];simp
  rw[hd,xOa hH rest rs (num+1) g (by simp at hf;omega) h4]
  simp only[List.cons_append,List.length_cons]
  have e1:g+1-(rs.length+1)=g-rs.length:=by omega
  have e2:num+1+(rs.length:Int)=num+((rs.length+1:Nat):Int):=by omega
  rw[e1,e2]
theorem xK1 (r:PRec):∃ t,yf H r=encP H (yX r 0) :: t:=by
 have hn:1≤xY r.pay.length:=by unfold xY;omega
 obtain⟨m,hm⟩:∃ m,xY r.pay.length=m+1:=⟨xY r.pay.length-1,by omega⟩
 refine⟨(List.range' 1 m).map fun i=>encP H (yX r i),?_⟩
 unfold yf
 rw[hm,List.range_eq_range',List.range'_succ]
 rfl
theorem xPk:∀ (rs:List PRec),rs.length≤(rs.flatMap (yf H)).length
 | []=>by simp
 | r :: rs=>by
  obtain⟨t,ht⟩:=xK1 H r
  have:=xPk rs
  rw[List.flatMap_cons,ht,List.length_append,List.length_cons,List.length_cons]
  omega
theorem xNu {α:Type}(f:α→Bool):∀ (l:List α),l.all f=true→l.takeWhile f=l
 | [],_=>rfl
 | a :: l,h=>by
  simp only[List.all_cons,Bool.and_eq_true] at h
  rw[List.takeWhile_cons,if_pos h.1,xNu f l h.2]
structure PJ.Ok (j:PJ):Prop where
 par:j.gen % 2=j.area
 gen:j.gen≤2147483647
 first:j.first≤2147483647
 len:j.entries.length<2147483647
 carried:j.carried≤j.entries.length
 ents:∀ b∈j.entries,b.length≤131072
theorem xGx {j:PJ}(h:j.Ok):xLb j.gen 0 (vB j.gen j.first j.carried j.entries):=by
 have h1:=h.gen
 have h2:=h.len
 refine⟨⟨⟨?_,?_,?_,?_,?_,?_⟩,?_⟩,rfl,rfl,?_⟩
 ·simp[qC]
 ·simp[qC]
 ·simp[qC]
 ·simp only[qC];omega
 ·simp[qC]
 ·simp[qC]
 ·simp[qC,xv]
 ·exact xIn j.gen h.gen 1 j.entries (by omega) h.ents
theorem xS0 {j:PJ}(h:j.Ok):jX (qC j.gen j.first j.carried).pay=some (j.first,j.carried):=by
 have h1:=h.first
 have h2:=h.len
 have h3:=h.carried
 have e1:deB (beB 8 j.first)=j.first:=by rw[k9];omega
 have e2:deB (beB 8 j.carried)=j.carried:=by rw[k9];omega
 have t1:(beB 8 j.first++beB 8 j.carried).take 8=beB 8 j.first:=by simp[xv]
 have t2:(beB 8 j.first++beB 8 j.carried).drop 8=beB 8 j.carried:=by simp[xv]
 unfold jX qC
 simp only[t1,t2,e1,e2]
 rw[if_pos ⟨by simp[xv],h1,by omega⟩]
theorem xUl (hH:∀ c,(H c).length=16){j:PJ}(h:j.Ok)(rest:List By)(hr:∀ b,rest.head? = some b→∀ p,decP H b=some p→p.gen≠j.gen) :
  zg H j.area (j.secs H++rest)=some j:=by
 have hrow:=xGx h
 have hlen:=xPk H (vB j.gen j.first j.carried j.entries)
 have hscan:=xOa H hH rest (vB j.gen j.first j.carried j.entries) 0 (j.secs H++rest).length (by rw[List.length_append];unfold PJ.secs xE8;omega) hrow
 rw[xWf H hr,List.append_nil] at hscan
 obtain⟨t,ht⟩:=xK1 H (qC j.gen j.first j.carried)
 have hs:∃ t2,j.secs H++rest=encP H (yX (qC j.gen j.first j.carried) 0) :: t2:=by
  refine⟨t++((uT j.gen 1 j.entries).flatMap (yf H)++rest),?_⟩
  simp[PJ.secs,xE8,vB,ht]
 obtain⟨t2,ht2⟩:=hs
 have hd:decP H (encP H (yX (qC j.gen j.first j.carried) 0))=some (yX (qC j.gen j.first j.carried) 0):=xG8 H hH (xBc hrow.1 (by unfold xY;omega))
 have hsc:zX H (j.gen:Int) (j.secs H++rest).length 0 (j.secs H++rest)=vB j.gen j.first j.carried j.entries:=hscan
 have htk:((uT j.gen 1 j.entries).takeWhile fun r=>r.kind == 2)=uT j.gen 1 j.entries:=by
  exact xNu _ _ (xFp j.gen 1 j.entries)
 rw[ht2] at hsc ⊢
 unfold zg
 simp only[hd]
 rw[if_neg (by simp[yX,qC,h.par])]
 have hg:(yX (qC j.gen j.first j.carried) 0).gen=(j.gen:Int):=rfl
 rw[hg,hsc]
 simp only[vB]
 rw[if_neg (by simp[qC]),xS0 h,htk,xIo]
 simp only
 rw[if_pos h.carried]
 cases j
 simp
def PD.area (d:PD)(n area:Nat):List By:=(List.range (n / 2)).map fun i=>d.vis (area*(n / 2)+i)
noncomputable def curP (n:Nat)(d:PD):Option PJ :=
 match zg H 0 (d.area n 0),zg H 1 (d.area n 1) with
 | none,none=>none
 | some a,none=>some a
 | none,some b=>some b
 | some a,some b=>if a.gen<b.gen then some b else some a
noncomputable def zH (area g:Nat)(b:By):Nat:=match decP H b with
 | none=>g
 | some p=>if (g:Int)≤p.gen then (if (p.gen.toNat+1) % 2≠area then p.gen.toNat+2 else p.gen.toNat+1) else g
noncomputable def xHb (n:Nat)(d:PD)(area:Nat):Nat:=(List.range n).foldl (fun g s=>zH H area g (d.vis s)) area
theorem xY5 {b:By}{p:zk}(h:decP H b=some p):p.Ok:=by
 unfold decP decC at h
 split at h
 ·rename_i hc
  rw[←Option.some.inj h]
  exact hc.2.2.2
 ·simp at h
theorem xPi {area g:Nat}(ha:area<2)(hg:g % 2=area)(b:By) :
  zH H area g b % 2=area∧g≤zH H area g b∧(∀ p,decP H b=some p→p.gen<zH H area g b)∧∀ m:Nat,g≤m+2→(∀ p,decP H b=some p→p.gen≤m)→zH H area g b≤m+2:=by
 unfold zH
 cases hp:decP H b with
 | none=>exact⟨hg,Nat.le_refl _,fun p h=>by simp at h,fun m h _=>h⟩
 | some p =>
  have h0:=(xY5 H hp).1.2.2.1
  simp only
  split
  ·split
   ·refine⟨by omega,by omega,fun q hq=>?_,fun m _ hm=>?_⟩
    ·rw[←Option.some.inj hq];omega
    ·have:=hm p rfl;omega
   ·refine⟨by omega,by omega,fun q hq=>?_,fun m _ hm=>?_⟩
    ·rw[←Option.some.inj hq];omega
    ·have:=hm p rfl;omega
  ·refine⟨hg,Nat.le_refl _,fun q hq=>?_,fun m h _=>h⟩
   rw[←Option.some.inj hq];omega
theorem xFa {area:Nat}(ha:area<2):∀ (l:List By) (g:Nat),g % 2=area →
  (l.foldl (zH H area) g) % 2=area∧g≤l.foldl (zH H area) g∧(∀ b∈l,∀ p,decP H b=some p→p.gen<l.foldl (zH H area) g) ∧
  ∀ m:Nat,g≤m+2→(∀ b∈l,∀ p,decP H b=some p→p.gen≤m)→l.foldl (zH H area) g≤m+2
 | [],g,hg=>⟨hg,Nat.le_refl _,fun b hb=>by simp at hb,fun m h _=>h⟩
 | b :: l,g,hg=>by
  obtain⟨s1,s2,s3,s4⟩:=xPi H ha hg b
  obtain⟨t1,t2,t3,t4⟩:=xFa ha l (zH H area g b) s1
  rw[List.foldl_cons]
  refine⟨t1,Nat.le_trans s2 t2,fun c hc p hp=>?_,fun m hm hall=>t4 m (s4 m hm (hall b (List.mem_cons_self ..))) fun c hc=>hall c (List.mem_cons_of_mem _ hc)⟩
  rcases List.mem_cons.1 hc with rfl | hc
  ·have:=s3 p hp;omega
  ·exact t3 c hc p hp
theorem xKj (n:Nat)(d:PD){area:Nat}(ha:area<2) :
  xHb H n d area % 2=area∧(∀ s,s<n→∀ p,decP H (d.vis s)=some p→p.gen<xHb H n d area)∧∀ m:Nat,(∀ s,s<n→∀ p,decP H (d.vis s)=some p→p.gen≤m)→xHb H n d area≤m+2:=by
 have h:=xFa H ha ((List.range n).map d.vis) area (by omega)
 rw[List.foldl_map] at h
 obtain⟨h1,_,h3,h4⟩:=h
 refine⟨h1,fun s hs p hp=>h3 _ (List.mem_map.2 ⟨s,List.mem_range.2 hs,rfl⟩) p hp,fun m hm=>h4 m (by omega) fun b hb=>?_⟩
 obtain⟨s,hs,rfl⟩:=List.mem_map.1 hb
 exact hm s (List.mem_range.1 hs)
structure JInv (n:Nat)(d:PD)(j:PJ):Prop where
 ok:j.Ok
 fit:(j.secs H).length≤n / 2
 at_:∀ i b,(j.secs H)[i]?=some b→d.vis (j.area*(n / 2)+i)=b
 old:∀ s,s<n→∀ p,decP H (d.vis s)=some p→p.gen≤j.gen∧(p.gen=j.gen→j.area*(n / 2)≤s∧s<j.area*(n / 2)+(j.secs H).length)
theorem PJ.Ok.area {j:PJ}(h:j.Ok):j.area<2:=by have:=h.par;omega
theorem xOz {area:Nat}{l:List By}{x:PJ}(h:zg H area l=some x):x.area=area∧∃ b p,l.head? = some b∧decP H b=some p∧(x.gen:Int)=p.gen:=by
 unfold zg at h
 split at h
 ·simp at h
 ·rename_i b t
  split at h
  ·simp at h
  ·rename_i p hp
   split at h
   ·simp at h
   ·split at h
    ·simp at h
    ·split at h
     ·simp at h
     ·split at h
      ·simp at h
      ·simp only at h
       split at h
       ·rw[←Option.some.inj h]
        have:=(xY5 H hp).1.2.2.1
        exact⟨rfl,b,p,rfl,hp,by simp only;omega⟩
       ·simp at h
theorem JInv.load (hH:∀ c,(H c).length=16){n:Nat}{d:PD}{j:PJ}(h:JInv H n d j):zg H j.area (d.area n j.area)=some j:=by
 have hfit:=h.fit
 have ha:=h.ok.area
 have hs:d.area n j.area=j.secs H++(d.area n j.area).drop (j.secs H).length:=by
  apply List.ext_getElem?
  intro i
  by_cases hi:i<(j.secs H).length
  ·rw[List.getElem?_append_left hi]
   have:=h.at_ i _ (List.getElem?_eq_getElem hi)
   rw[List.getElem?_eq_getElem hi]
   simp[PD.area,List.getElem?_range (show i<n / 2 by omega),this]
  ·rw[List.getElem?_append_right (by omega),List.getElem?_drop]
   congr 1
   omega
 rw[hs]
 refine xUl H hH h.ok _ fun b hb p hp=>?_
 rw[List.head?_drop] at hb
 have hlt:(j.secs H).length<n / 2:=by
  rcases Nat.lt_or_ge (j.secs H).length (n / 2) with hc | hc
  ·exact hc
  ·rw[List.getElem?_eq_none (by simp[PD.area];omega)] at hb
   simp at hb
 have hv:d.vis (j.area*(n / 2)+(j.secs H).length)=b:=by
  simpa[PD.area,List.getElem?_range hlt] using hb
 have hn:j.area*(n / 2)+(j.secs H).length<n:=by
  have:j.area=0∨j.area=1:=by omega
  rcases this with h0 | h0 <;> rw[h0] <;> omega
 have:=h.old _ hn p (by rw[hv];exact hp)
 intro hg
 have:=this.2 hg
 omega
theorem JInv.cur (hH:∀ c,(H c).length=16){n:Nat}{d:PD}{j:PJ}(h:JInv H n d j):curP H n d=some j:=by
 have hl:=h.load H hH
 have ha:=h.ok.area
 have hfit:=h.fit
 have other:∀ a x,a<2→a≠j.area→zg H a (d.area n a)=some x→x.gen<j.gen:=by
  intro a x ha2 hne hx
  obtain⟨_,b,p,hb,hp,hg⟩:=xOz H hx
  have h0:0<n / 2:=by
   rcases Nat.eq_zero_or_pos (n / 2) with h0 | h0
   ·simp[PD.area,h0] at hb
   ·exact h0
  have hv:d.vis (a*(n / 2))=b:=by
   rw[List.head?_eq_getElem?] at hb
   simpa[PD.area,List.getElem?_range h0] using hb
  have hn:a*(n / 2)<n:=by
   have:a=0∨a=1:=by omega
   rcases this with h1 | h1 <;> rw[h1] <;> omega
  have ho:=h.old _ hn p (by rw[hv];exact hp)
  rcases Int.lt_or_eq_of_le ho.1 with h1 | h1
  ·omega
  ·have:=ho.2 h1
   have:a=0∨a=1:=by omega
   have:j.area=0∨j.area=1:=by omega
   rcases ‹a=0∨a=1› with h2 | h2 <;> rcases this with h3 | h3 <;> rw[h2,h3] at ho <;> first | omega | (have:=ho.2 h1;omega)
 unfold curP
 have:j.area=0∨j.area=1:=by omega
 rcases this with h0 | h0
 ·rw[h0] at hl
  rw[hl]
  cases hx:zg H 1 (d.area n 1) with
  | none=>rfl
  | some x =>
   have:=other 1 x (by omega) (by omega) hx
   simp only
   rw[if_neg (by omega)]
 ·rw[h0] at hl
  rw[hl]
  cases hx:zg H 0 (d.area n 0) with
  | none=>rfl
  | some x =>
   have:=other 0 x (by omega) (by omega) hx
   simp only
   rw[if_pos (by omega)]
def PD.Up (d:PD):Prop:=d.down=false∧d.lim=none
theorem PD.write_up {d:PD}(h:d.Up)(s:Nat)(b:By):d.write s b=({ d with pend:=d.pend++[(s,b)] },true):=by
 simp[PD.write,PD.oper,h.1,h.2]
theorem PD.vis_snoc (d:PD)(s:Nat)(b:By)(k:Nat):PD.vis { d with pend:=d.pend++[(s,b)] } k=if k=s then b else d.vis k:=by
 unfold PD.vis
 simp only[List.reverse_append,List.reverse_cons,List.reverse_nil,List.nil_append,List.cons_append,List.find?_cons]
 by_cases hk:k=s
 ·subst hk;simp
 ·rw[if_neg hk]
  have:(s == k)=false:=by simp;omega
  simp only[this]
theorem PD.vis_flushed (d:PD)(k:Nat):d.flushed.vis k=d.vis k:=by simp[PD.flushed,PD.vis]
theorem PD.puts_up:∀ (l:List By) (d:PD) (a:Nat),d.Up→(d.puts a l).2=true∧(d.puts a l).1.Up∧(d.puts a l).1.n=d.n∧∀ k,(d.puts a l).1.vis k=if a≤k then (l[k-a]?).getD (d.vis k) else d.vis k
 | [],d,a,h=>⟨rfl,h,rfl,fun k=>by simp[PD.puts]⟩
 | b :: l,d,a,h=>by
  obtain⟨h1,h2,h3,h4⟩:=PD.puts_up l { d with pend:=d.pend++[(a,b)] } (a+1) h
  simp only[PD.puts,PD.write_up h]
  refine⟨h1,h2,h3,fun k=>?_⟩
  rw[h4 k,PD.vis_snoc]
  by_cases hk:k=a
  ·subst hk
   rw[if_neg (by omega),if_pos rfl,if_pos (Nat.le_refl _),Nat.sub_self]
   rfl
  ·rw[if_neg hk]
   by_cases hlt:a+1≤k
   ·rw[if_pos hlt,if_pos (by omega)]
    have:k-a=(k-(a+1))+1:=by omega
    rw[this,List.getElem?_cons_succ]
   ·rw[if_neg hlt,if_neg (by omega)]
theorem xB7 (gen:Nat):∀ (k:Nat) (l:List By) (b:By),uT gen k (l++[b])=uT gen k l++[⟨2,gen,((k+l.length:Nat):Int),b⟩]
 | k,[],b=>rfl
 | k,c :: l,b=>by
  have:=xB7 gen (k+1) l b
  simp only[List.cons_append,uT,this,List.length_cons]
  have e:k+1+l.length=k+(l.length+1):=by omega
  rw[e]
def PJ.add (j:PJ)(b:By):PJ:={ j with entries:=j.entries++[b] }
def PJ.body (j:PJ)(b:By):PRec:=⟨2,j.gen,((1+j.entries.length:Nat):Int),b⟩
theorem xCx (j:PJ)(b:By):(j.add b).secs H=j.secs H++yf H (j.body b):=by
 simp[PJ.secs,PJ.add,xE8,vB,xB7,PJ.body]
theorem xK2 (hH:∀ c,(H c).length=16){r:PRec}(h:r.Ok){b:By}(hb:b∈yf H r):∃ p,decP H b=some p∧p.gen=r.gen:=by
 unfold yf at hb
 obtain⟨i,hi,rfl⟩:=List.mem_map.1 hb
 exact⟨_,xG8 H hH (xBc h (List.mem_range.1 hi)),rfl⟩
theorem xTo {j:PJ}(h:j.Ok)(b:By)(hb:b.length≤131072)(hn:j.entries.length+1<2147483647):(j.body b).Ok:=by
 have:=h.gen
 refine⟨⟨?_,?_,?_,?_,?_,?_⟩,hb⟩ <;> simp only[PJ.body] <;> omega
theorem xT0 (hH:∀ c,(H c).length=16){gen:Int}:∀ (rs:List PRec) (num:Int),xLb gen num rs→∀ b∈rs.flatMap (yf H),∃ p,decP H b=some p∧p.gen=gen
 | [],_,_,b,hb=>by simp at hb
 | r :: rs,num,h,b,hb=>by
  rw[List.flatMap_cons,List.mem_append] at hb
  rcases hb with hb | hb
  ·obtain⟨p,hp,hg⟩:=xK2 H hH h.1 hb
   exact⟨p,hp,hg.trans h.2.1⟩
  ·exact xT0 hH rs (num+1) h.2.2.2 b hb
theorem JInv.add (hH:∀ c,(H c).length=16){n:Nat}{d:PD}{j:PJ}(h:JInv H n d j)(hd:d.Up)(b:By)(hb:b.length≤131072)(hn:j.entries.length+1<2147483647)
  (hfit:(j.secs H).length+xY b.length≤n / 2) :
  (d.puts (j.area*(n / 2)+(j.secs H).length) (yf H (j.body b))).2=true∧(d.puts (j.area*(n / 2)+(j.secs H).length) (yf H (j.body b))).1.Up ∧
  (d.puts (j.area*(n / 2)+(j.secs H).length) (yf H (j.body b))).1.n=d.n∧JInv H n (d.puts (j.area*(n / 2)+(j.secs H).length) (yf H (j.body b))).1 (j.add b):=by
 obtain⟨h1,h2,h3,h4⟩:=PD.puts_up (yf H (j.body b)) d (j.area*(n / 2)+(j.secs H).length) hd
 refine⟨h1,h2,h3,?_⟩
 have hlen:(yf H (j.body b)).length=xY b.length:=zy H _
 have hbo:=xTo h.ok b hb hn
 refine⟨⟨h.ok.par,h.ok.gen,h.ok.first,?_,?_,?_⟩,?_,?_,?_⟩
 ·simp[PJ.add];omega
 ·have:=h.ok.carried
  simp[PJ.add];omega
 ·intro c hc
  simp only[PJ.add,List.mem_append,List.mem_singleton] at hc
  rcases hc with hc | rfl
  ·exact h.ok.ents c hc
  ·exact hb
 ·rw[xCx,List.length_append,hlen];exact hfit
 ·intro i c hi
  rw[xCx] at hi
  rw[h4]
  show (if j.area*(n / 2)+(j.secs H).length≤j.area*(n / 2)+i then _ else d.vis (j.area*(n / 2)+i))=c
  by_cases hlt:i<(j.secs H).length
  ·rw[if_neg (by omega)]
   rw[List.getElem?_append_left hlt] at hi
   exact h.at_ i c hi
  ·rw[if_pos (by omega)]
   rw[List.getElem?_append_right (by omega)] at hi
   have:(j.add b).area*(n / 2)+i-(j.area*(n / 2)+(j.secs H).length)=i-(j.secs H).length:=by simp only[PJ.add];omega
   rw[this,hi]
   rfl
 ·intro s hs p hp
  rw[h4] at hp
  show p.gen≤j.gen∧(p.gen=j.gen→j.area*(n / 2)≤s∧s<j.area*(n / 2)+((j.add b).secs H).length)
  rw[xCx,List.length_append,hlen]
  have keep:decP H (d.vis s)=some p→p.gen≤j.gen∧(p.gen=j.gen→j.area*(n / 2)≤s∧s<j.area*(n / 2)+((j.secs H).length+xY b.length)):=by
   intro hq
   have:=h.old s hs p hq
   exact⟨this.1,fun hg=>⟨(this.2 hg).1,by have:=(this.2 hg).2;omega⟩⟩
  split at hp
  ·rename_i hle
   cases hx:(yf H (j.body b))[s-(j.area*(n / 2)+(j.secs H).length)]? with
   | none=>rw[hx] at hp;exact keep hp
   | some c =>
    rw[hx] at hp
    obtain⟨q,hq,hg⟩:=xK2 H hH hbo (List.mem_of_getElem? hx)
    have:q=p:=by rw[Option.getD_some,hq] at hp;exact Option.some.inj hp
    subst this
    have hlt:=(List.getElem?_eq_some_iff.1 hx).1
    refine⟨by rw[hg];simp[PJ.body],fun _=>⟨by omega,by omega⟩⟩
  ·exact keep hp
theorem JInv.flushed {n:Nat}{d:PD}{j:PJ}(h:JInv H n d j):JInv H n d.flushed j :=
 ⟨h.ok,h.fit,fun i b hi=>by rw[PD.vis_flushed];exact h.at_ i b hi,fun s hs p hp=>h.old s hs p (by rw[PD.vis_flushed] at hp;exact hp)⟩
theorem JInv.fresh (hH:∀ c,(H c).length=16){n:Nat}{d:PD}(hd:d.Up)(j:PJ)(hok:j.Ok)(hfit:(j.secs H).length≤n / 2)(hold:∀ s,s<n→∀ p,decP H (d.vis s)=some p→p.gen<j.gen) :
  (d.puts (j.area*(n / 2)) (j.secs H)).2=true∧(d.puts (j.area*(n / 2)) (j.secs H)).1.Up∧(d.puts (j.area*(n / 2)) (j.secs H)).1.n=d.n∧JInv H n (d.puts (j.area*(n / 2)) (j.secs H)).1 j:=by
 obtain⟨h1,h2,h3,h4⟩:=PD.puts_up (j.secs H) d (j.area*(n / 2)) hd
 refine⟨h1,h2,h3,hok,hfit,?_,?_⟩
 ·intro i b hi
  rw[h4,if_pos (by omega)]
  have:j.area*(n / 2)+i-j.area*(n / 2)=i:=by omega
  rw[this,hi]
  rfl
 ·intro s hs p hp
  rw[h4] at hp
  have keep:decP H (d.vis s)=some p→p.gen≤j.gen∧(p.gen=j.gen→j.area*(n / 2)≤s∧s<j.area*(n / 2)+(j.secs H).length):=by
   intro hq
   have:=hold s hs p hq
   exact⟨by omega,fun hg=>by omega⟩
  split at hp
  ·cases hx:(j.secs H)[s-j.area*(n / 2)]? with
   | none=>rw[hx] at hp;exact keep hp
   | some c =>
    rw[hx] at hp
    obtain⟨q,hq,hg⟩:=xT0 H hH _ _ (xGx hok) c (List.mem_of_getElem? hx)
    have:q=p:=by rw[Option.getD_some,hq] at hp;exact Option.some.inj hp
    subst this
    have hlt:=(List.getElem?_eq_some_iff.1 hx).1
    exact⟨by omega,fun _=>⟨by omega,by omega⟩⟩
  ·exact keep hp
def xAq (l:List By):Nat:=(l.map fun b=>xY b.length).sum
theorem xFo (gen:Nat):∀ (k:Nat) (l:List By),((uT gen k l).flatMap (yf H)).length=xAq l
 | _,[]=>rfl
 | k,b :: l=>by
  rw[uT,List.flatMap_cons,List.length_append,xFo gen (k+1) l,zy]
  simp[xAq]
theorem zo (j:PJ):(j.secs H).length=1+xAq j.entries:=by
 unfold PJ.secs xE8 vB
 rw[List.flatMap_cons,List.length_append,xFo,zy]
 have:(qC j.gen j.first j.carried).pay.length=16:=by simp[qC,xv]
 rw[this]
 rfl
noncomputable def jd (n:Nat)(d:PD)(j:PJ):PJ:=⟨1-j.area,xHb H n d (1-j.area),j.first,j.entries.length,j.entries⟩
theorem xH6 {n:Nat}{d:PD}{j:PJ}(h:JInv H n d j)(hg:j.gen+2≤2147483647):(jd H n d j).Ok∧(jd H n d j).gen≤j.gen+2:=by
 have ha:=h.ok.area
 obtain⟨g1,_,g3⟩:=xKj H n d (show 1-j.area<2 by omega)
 have g4:=g3 j.gen fun s hs p hp=>(h.old s hs p hp).1
 exact⟨⟨g1,Nat.le_trans g4 hg,h.ok.first,h.ok.len,Nat.le_refl _,h.ok.ents⟩,g4⟩
theorem JInv.reopen (hH:∀ c,(H c).length=16){n:Nat}{d:PD}{j:PJ}(h:JInv H n d j)(hd:d.Up)(hg:j.gen+2≤2147483647) :
  curP H n d=some j∧(d.puts ((1-j.area)*(n / 2)) ((jd H n d j).secs H)).2=true∧(d.puts ((1-j.area)*(n / 2)) ((jd H n d j).secs H)).1.Up ∧
  (d.puts ((1-j.area)*(n / 2)) ((jd H n d j).secs H)).1.n=d.n∧JInv H n (d.puts ((1-j.area)*(n / 2)) ((jd H n d j).secs H)).1 (jd H n d j):=by
 have ha:=h.ok.area
 obtain⟨ho,_⟩:=xH6 H h hg
 obtain⟨_,g2,_⟩:=xKj H n d (show 1-j.area<2 by omega)
 refine⟨h.cur H hH,?_⟩
 refine JInv.fresh H hH hd (jd H n d j) ho ?_ fun s hs p hp=>?_
 ·have h1:=h.fit
  rw[zo] at h1 ⊢
  exact h1
 ·exact g2 s hs p hp
def zJ:PJ:=⟨0,0,0,0,[]⟩
theorem xF8 (n:Nat)(d:PD)(area:Nat)(hz:∀ s,s<n→decP H (d.vis s)=none):xHb H n d area=area:=by
 unfold xHb
 have:∀ (l:List Nat),(∀ s∈l,s<n)→l.foldl (fun g s=>zH H area g (d.vis s)) area=area:=by
  intro l
  induction l with
  | nil=>intro _;rfl
  | cons a l ih =>
   intro h
   rw[List.foldl_cons]
   have:zH H area area (d.vis a)=area:=by unfold zH;rw[hz a (h a (List.mem_cons_self ..))]
   rw[this]
   exact ih fun s hs=>h s (List.mem_cons_of_mem _ hs)
 exact this _ fun s hs=>List.mem_range.1 hs
theorem JInv.format (hH:∀ c,(H c).length=16){n:Nat}{d:PD}(hd:d.Up)(hn:2≤n)(hz:∀ s,s<n→decP H (d.vis s)=none) :
  xHb H n d 0=0∧(d.puts 0 (zJ.secs H)).2=true∧(d.puts 0 (zJ.secs H)).1.Up∧(d.puts 0 (zJ.secs H)).1.n=d.n∧JInv H n (d.puts 0 (zJ.secs H)).1 zJ:=by
 have hok:zJ.Ok:=⟨rfl,by decide,by decide,by decide,by decide,fun b hb=>by simp[zJ] at hb⟩
 refine⟨xF8 H n d 0 hz,?_⟩
 have:=JInv.fresh H hH (n:=n) hd zJ hok (by rw[zo];simp[zJ,xAq];omega) fun s hs p hp=>by rw[hz s hs] at hp;simp at hp
 simpa[zJ] using this
theorem xAx (n s:Nat):decP H ((PD.fresh n).vis s)=none:=xY4 H
end Go.Proofs.YthiafifdiaplaaaGreatDoor
namespace Go.Proofs.YthiafifdiaplaaaGreatDoor
open Go Go.RowKit Go.Proofs
abbrev ekN (k:Int):Value:=.int .i64 k
theorem xFd (k:Int):∀ (l:List (KE Int)) (i:Nat),Instr.findNow (.int .i64) (.int .i64 k) (l.map (enE ekN)) i=some (yM k l i)
 | [],i=>rfl
 | e :: l,i=>by
  rw[List.map_cons]
  unfold Instr.findNow yM
  simp only[enE,Instr.sameNow,if_true]
  by_cases h:k=e.k
  ·rw[(beq_iff_eq (a:=k) (b:=e.k)).2 h,if_pos h]
  ·have hf:(k == e.k)=false:=by rw[beq_eq_false_iff_ne];exact h
   rw[hf,if_neg h]
   exact xFd k l (i+1)
theorem keyN:xFu 3 ekN where
 check e k w:=MapKept.run_checkKey (k:=.int .i64 k) Tryz.underlying3 (by simp[MapKept.IsKey]) e 9999
 find k l w:=by
  unfold Instr.findKey
  rw[Sem.run_bind,run_underlying Tryz.underlying3]
  simp only[Result.andThen_ok,xFd]
  rfl
 bits k:=by
  unfold Instr.sameBits
  simp
section
variable {K:Type} [DecidableEq K]
def getK (k:K)(l:List (KE K)):Option Value:=(yM k l 0).map (·.2)
def updL (k:K)(v:Value):List (KE K)→List (KE K)
 | []=>[]
 | e :: es=>if k=e.k then { e with v:=v } :: es else e :: updL k v es
def putL (k:K)(v:Value)(c:Nat)(l:List (KE K)):List (KE K):=if (getK k l).isSome then updL k v l else l++[⟨k,v,c⟩]
def putC (k:K)(c:Nat)(l:List (KE K)):Nat:=if (getK k l).isSome then c else c+1
theorem xPr (k:K):∀ (l:List (KE K)) (i j:Nat),(yM k l i).map (·.2)=(yM k l j).map (·.2)
 | [],_,_=>rfl
 | e :: l,i,j=>by
  unfold yM
  by_cases h:k=e.k
  ·simp[h]
  ·rw[if_neg h,if_neg h];exact xPr k l (i+1) (j+1)
theorem xS8 (k:K)(l:List (KE K))(i:Nat):(yM k l i).map (·.2)=getK k l:=xPr k l i 0
theorem qm (k:K)(e:KE K)(l:List (KE K)):getK k (e :: l)=if k=e.k then some e.v else getK k l:=by
 have e1:getK k (e :: l)=(if k=e.k then some (0,e.v) else yM k l (0+1)).map (·.2):=rfl
 rw[e1]
 by_cases h:k=e.k
 ·simp[h]
 ·rw[if_neg h,if_neg h];exact xS8 k l (0+1)
theorem xAw (k:K):getK k ([]:List (KE K))=none:=rfl
theorem xPh (j k:K)(v:Value):∀ (l:List (KE K)),getK j (updL k v l)=if j=k∧(getK k l).isSome then some v else getK j l
 | []=>by simp[updL,xAw]
 | e :: l=>by
  unfold updL
  by_cases h:k=e.k
  ·rw[if_pos h,qm,qm,qm,if_pos h]
   subst h
   by_cases h2:j=e.k <;> simp[h2]
  ·rw[if_neg h,qm,xPh j k v l,qm,qm,if_neg h]
   by_cases h2:j=e.k
   ·have:¬ j=k:=fun e2=>h (e2 ▸ h2)
    simp[h2]
    intro e2;exact absurd e2.symm h
   ·simp[h2]
theorem xKs (j:K)(e:KE K):∀ (l:List (KE K)),getK j (l++[e])=match getK j l with | some x=>some x | none=>if j=e.k then some e.v else none
 | []=>by rw[List.nil_append,qm];rfl
 | a :: l=>by
  rw[List.cons_append,qm,xKs j e l,qm]
  by_cases h:j=a.k <;> simp[h]
theorem xDh (j k:K)(v:Value)(c:Nat)(l:List (KE K)):getK j (putL k v c l)=if j=k then some v else getK j l:=by
 unfold putL
 by_cases h:(getK k l).isSome
 ·rw[if_pos h,xPh]
  by_cases h2:j=k <;> simp[h,h2]
 ·rw[if_neg h,xKs]
  by_cases h2:j=k
  ·subst h2
   cases hg:getK j l with
   | none=>simp
   | some x=>rw[hg] at h;exact absurd rfl h
  ·cases hg:getK j l with
   | none=>simp[h2]
   | some x=>simp[h2]
theorem xPo (k:K)(v:Value):∀ (l:List (KE K)) (i j:Nat) (u:Value),yM k l i=some (j,u)→∃ n e,j=i+n∧l[n]?=some e∧e.k=k∧l.modify n (fun e=>{ e with v:=v })=updL k v l
 | [],i,j,u,h=>by cases h
 | e :: l,i,j,u,h=>by
  unfold yM at h
  by_cases hk:k=e.k
  ·rw[if_pos hk] at h
   cases h
   refine⟨0,e,rfl,rfl,hk.symm,?_⟩
   simp[updL,hk]
  ·rw[if_neg hk] at h
   obtain⟨n,e',h1,h2,h3,h4⟩:=xPo k v l (i+1) j u h
   refine⟨n+1,e',by omega,h2,h3,?_⟩
   simp[updL,hk,h4]
end
section
variable {K:Type} [DecidableEq K] {ek:K→Value} {kt:TypeId} {mt et:TypeId}
theorem xD6 (hk:xFu kt ek)(hm:Tryz.prog.underlying mt=some (.map kt et))(w:World)(M:Nat)(l:List (KE K))(c:Nat)(h:y3 ek w M l c)(k:K)(v:Value) :
  (Instr.mapUpdate mt (.map (some M)) (ek k) v).run Tryz.prog w=.ok () (w.putObj M (.map ((putL k v c l).map (enE ek)).toArray (putC k c l))):=by
 cases hf:yM k l 0 with
 | none =>
  have hg:getK k l=none:=by unfold getK;rw[hf];rfl
  unfold putL putC
  rw[hg,if_neg (by simp),if_neg (by simp)]
  exact xD4 hk hm w M l c h k v hf
 | some x =>
  obtain⟨j,u⟩:=x
  have hg:getK k l=some u:=by unfold getK;rw[hf];rfl
  obtain⟨n,e,rfl,h2,h3,h4⟩:=xPo k v l 0 j u hf
  rw[Nat.zero_add] at hf
  unfold putL putC
  rw[hg]
  simp only[Option.isSome_some,if_true]
  rw[←h4]
  unfold Instr.mapUpdate
  rw[Sem.run_bind,run_underlying hm]
  simp only[Result.andThen_ok,Sem.run_bind,jB h,hk.check,hk.find,hf]
  have hkey:((((l.map (enE ek)).toArray[n]?).map (·.key)).getD (ek k))=ek k:=by
   rw[List.getElem?_toArray,List.getElem?_map,h2]
   simp[enE,h3]
  rw[hkey]
  have hst:(Instr.keyThatStays (ek k) (ek k)).run Tryz.prog w=.ok (ek k) w:=by
   unfold Instr.keyThatStays
   rw[hk.bits]
   rfl
  rw[hst]
  simp only[Result.andThen_ok]
  rw[MapKept.run_setObj_map _ h]
  have hmod:((l.map (enE ek)).toArray.modify n fun e=>{ e with key:=ek k,val:=v })=((l.modify n fun e=>{ e with v:=v }).map (enE ek)).toArray:=by
   apply Array.ext_getElem?
   intro i
   rw[Array.getElem?_modify,List.getElem?_toArray,List.getElem?_toArray,List.getElem?_map,List.getElem?_map,List.getElem?_modify]
   by_cases hi:n=i
   ·subst hi
    rw[if_pos rfl,h2]
    simp[enE,h3]
   ·rw[if_neg hi]
    cases l[i]? <;> simp[hi]
  simp[World.putObj,hmod]
end
def xT (b:By):Array Value:=(encB b).toArray
def zer:By:=List.replicate 256 0
def zD (s:Nat)(b:By):List Value:=.int .i64 s :: encB b
def y4 (s:Nat)(b:By):Array Value:=(zD s b).toArray
theorem j5 (ρ:Operand→Value)(d:Option Tmp)(x:Operand)(ty:TypeId)(pos:String)(af:Array Edge)(g:Option (Nat × Bool))(w:World) :
  Sem.run Tryz.prog (execOp ρ ⟨d,.load 123 x,ty,pos,af,g⟩) w=yx Tryz.prog 123 w (ρ x):=rfl
theorem vj (ρ:Operand→Value)(d:Option Tmp)(x y:Operand)(ty:TypeId)(pos:String)(af:Array Edge)(g:Option (Nat × Bool))(w:World) :
  Sem.run Tryz.prog (execOp ρ ⟨d,.store 123 x y,ty,pos,af,g⟩) w=ym Tryz.prog 123 w (ρ x) (ρ y):=rfl
theorem xMh (w:World)(a:Addr)(h:xq w a 256=true):yx Tryz.prog 123 w (.pointer (some a))=.ok (.value (.agg (xp w a 256))) w :=
 yo Tryz.isAgg123 Tryz.sizeOf123 w a h
theorem xLp (w:World)(g:Nat)(cells:Array Value)(h:xP w g 256=true)(h2:xy 256 cells=true) :
  ym Tryz.prog 123 w (.pointer (some ⟨g,0,none⟩)) (.agg cells)=.ok .skip (w.setRow g cells):=yr (by kernel_rfl) w g cells h h2
theorem j0 (ρ:Operand→Value)(d:Option Tmp)(x:Operand)(ty:TypeId)(pos:String)(af:Array Edge)(g:Option (Nat × Bool))(w:World) :
  Sem.run Tryz.prog (execOp ρ ⟨d,.load 126 x,ty,pos,af,g⟩) w=yx Tryz.prog 126 w (ρ x):=rfl
theorem vf (ρ:Operand→Value)(d:Option Tmp)(x y:Operand)(ty:TypeId)(pos:String)(af:Array Edge)(g:Option (Nat × Bool))(w:World) :
  Sem.run Tryz.prog (execOp ρ ⟨d,.store 126 x y,ty,pos,af,g⟩) w=ym Tryz.prog 126 w (ρ x) (ρ y):=rfl
theorem xHk (w:World)(a:Addr)(h:xq w a 257=true):yx Tryz.prog 126 w (.pointer (some a))=.ok (.value (.agg (xp w a 257))) w :=
 yo Tryz.isAgg126 Tryz.sizeOf126 w a h
theorem xLn (w:World)(g:Nat)(cells:Array Value)(h:xP w g 257=true)(h2:xy 257 cells=true) :
  ym Tryz.prog 126 w (.pointer (some ⟨g,0,none⟩)) (.agg cells)=.ok .skip (w.setRow g cells):=yr (by kernel_rfl) w g cells h h2
theorem jo (ρ:Operand→Value)(d:Option Tmp)(ty:TypeId)(pos:String)(af:Array Edge)(g:Option (Nat × Bool))(w:World) :
  Sem.run Tryz.prog (execOp ρ ⟨d,.alloc 123,ty,pos,af,g⟩) w=.ok (.value (.pointer (some ⟨w.heap.size,0,none⟩))) (w.alloc (.cells (xT zer) 123)):=by kernel_rfl
theorem vm (ρ:Operand→Value)(d:Option Tmp)(ty:TypeId)(pos:String)(af:Array Edge)(g:Option (Nat × Bool))(w:World) :
  Sem.run Tryz.prog (execOp ρ ⟨d,.alloc 126,ty,pos,af,g⟩) w=.ok (.value (.pointer (some ⟨w.heap.size,0,none⟩))) (w.alloc (.cells (y4 0 zer) 126)):=by kernel_rfl
theorem Tryz.info_wri:(Tryz.prog.info? 126).map (fun i=>(i.zero,i.size,i.bytes))=some (some (.agg (y4 0 zer)),257,264):=by kernel_rfl
theorem xVp (w:World):(zeroValue 123).run Tryz.prog w=.ok (.agg (xT zer)) w:=by kernel_rfl
theorem uu {s:Nat}{b:By}(h:b.length=256):(zD s b).length=257:=by simp[zD,xM,h]
theorem xNp (s:Nat)(b:By)(i:Nat):(zD s b)[i]?=if i=0 then some (.int .i64 s) else (encB b)[i-1]?:=by
 cases i with
 | zero=>rfl
 | succ i=>simp[zD]
theorem xEv (s:Nat)(b:By):∀ v∈zD s b,v.oneCell'=true:=by
 intro v hv
 rcases List.mem_cons.1 hv with rfl | hv
 ·rfl
 ·exact uk b v hv
theorem xPn (s:Nat){b:By}(h:b.length=256):xy 257 (y4 s b)=true:=by
 unfold xy y4
 rw[Bool.and_eq_true]
 refine⟨by simp[uu h],?_⟩
 rw[Array.all_eq_true]
 intro i hi
 exact xEv s b _ (by simp)
theorem xI2 {b:By}(h:b.length=256):xy 256 (xT b)=true:=by
 unfold xy xT
 rw[Bool.and_eq_true]
 refine⟨by simp[xM,h],?_⟩
 rw[Array.all_eq_true]
 intro i hi
 exact uk b _ (by simp)
def xC3 (l:List (Nat × By)):List Value:=l.flatMap fun x=>zD x.1 x.2
structure PnAt (w:World)(B:Nat)(v:Value)(l:List (Nat × By)):Prop where
 own:w.ownsRow B 126 257 v l.length (xC3 l)
 len:∀ x∈l,x.2.length=256
theorem yH {w:World}{B t s n:Nat}{v:Value}{xs:List Value}(h:w.ownsRow B t s v n xs):∃ a c,v=.slice a n c:=by
 rcases h.2 with⟨h,h0⟩ | ⟨g,cap,cur,h,_⟩
 ·exact⟨none,0,by rw[h,h0]⟩
 ·exact⟨_,_,h⟩
structure Dev where
 p:Nat
 M:Nat
 pv:Value
 es:List (KE Int)
 mc:Nat
 ops:Int
 lim:Int
def yF (v:Dev)(d:PD):Array Value:=#[.int .i64 d.n,.map (some v.M),v.pv,.int .i64 v.ops,.bool d.lim.isSome,.int .i64 v.lim,.bool d.down]
structure yj (B:Nat)(w:World)(v:Dev)(d:PD):Prop where
 blk:w.heap[v.p]?=some (.cells (yF v d) 74 (0,0))
 lim:∀ k:Nat,d.lim=some k→v.lim=k∧k≤4611686018427387904
 nilp:d.pend=[]→v.pv=.slice none 0 0
 map:y3 ekN w v.M v.es v.mc
 dur:∀ s:Nat,(getK (s:Int) v.es).getD (.agg (xT zer))=.agg (xT (d.dur s))
 durL:∀ s,(d.dur s).length=256
 pend:PnAt w B v.pv d.pend
 n1:1≤d.n
 n2:d.n≤4096
 few:d.pend.length≤1000000
 pB:B≤v.p
 MB:B≤v.M
def Dev.foot (v:Dev):List Nat:=[v.p,v.M]++v.pv.ownBlock.toList
theorem Dev.p_foot (v:Dev):v.p∈v.foot:=by simp[Dev.foot]
theorem Dev.M_foot (v:Dev):v.M∈v.foot:=by simp[Dev.foot]
theorem Dev.pv_foot (v:Dev){k:Nat}(h:v.pv.ownBlock=some k):k∈v.foot:=by simp[Dev.foot,h]
theorem yj.foot_lt {B:Nat}{w:World}{v:Dev}{d:PD}(h:yj B w v d):∀ k∈v.foot,B≤k∧k<w.heap.size:=by
 intro k hk
 simp only[Dev.foot,List.cons_append,List.nil_append,List.mem_cons,Option.mem_toList] at hk
 rcases hk with rfl | rfl | hk
 ·exact⟨h.pB,(i_ h.blk).1⟩
 ·exact⟨h.MB,h.map.lt⟩
 ·exact World.ownsRow.lt h.pend.own k hk
theorem PnAt.at {w:World}{B:Nat}{v:Value}{l:List (Nat × By)}(h:PnAt w B v l):(v=.slice none 0 0∧l=[])∨∃ g cap,v=.slice (some ⟨g,0,none⟩) l.length cap∧B≤g∧g<w.heap.size∧l.length≤cap∧cap≤maxLen ∧
  ∀ j (hj:j<l.length) i u,(zD l[j].1 l[j].2)[i]?=some u→w.cell? ⟨g,j*257+i,none⟩=some u:=by
 rcases h.own.2 with⟨rfl,h0⟩ | ⟨g,cap,cur,rfl,hg,hcur,hle,hmx,hcs,htk⟩
 ·exact .inl ⟨rfl,List.length_eq_zero_iff.1 h0⟩
 ·refine .inr ⟨g,cap,rfl,hg,(i_ hcur).1,hle,hmx,fun j hj i u hu=>?_⟩
  have hflat:∀ (l:List (Nat × By)),(∀ x∈l,x.2.length=256)→∀ j (hj:j<l.length),∀ i,i<257→(xC3 l)[j*257+i]?=(zD l[j].1 l[j].2)[i]?:=by
   intro l
   induction l with
   | nil=>intro _ j hj;cases hj
   | cons x l ih =>
    intro hl j hj i hi
    have e:xC3 (x :: l)=zD x.1 x.2++xC3 l:=rfl
    have hx:=uu (s:=x.1) (hl x (by simp))
    cases j with
    | zero=>rw[e,Nat.zero_mul,Nat.zero_add,List.getElem?_append_left (by omega)];rfl
    | succ j =>
     rw[e,List.getElem?_append_right (by omega),hx,show (j+1)*257+i-257=j*257+i by omega]
     exact ih (fun y hy=>hl y (by simp[hy])) j (by simpa using hj) i hi
  have hi:i<257:=by have:=(List.getElem?_eq_some_iff.1 hu).1;rwa [uu (h.len _ (List.getElem_mem hj))] at this
  have:=World.ownsRow.cells h.own (g:=g) rfl (j*257+i) u (by rw[hflat l h.len j hj i hi];exact hu)
  rwa [Addr.add_lit,Nat.zero_add] at this
theorem PnAt.same {w w':World}{B:Nat}{v:Value}{l:List (Nat × By)}(h:PnAt w B v l)(_hs:w.heap.size≤w'.heap.size)(hb:∀ k,v.ownBlock=some k→w'.heap[k]?=w.heap[k]?):PnAt w' B v l:=by
 refine⟨⟨h.own.1,?_⟩,h.len⟩
 rcases h.own.2 with h0 | ⟨g,cap,cur,hv,hg,hcur,r⟩
 ·exact .inl h0
 ·exact .inr ⟨g,cap,cur,hv,hg,by rw[hb g (by rw[hv];rfl)];exact hcur,r⟩
theorem yj.keep {B:Nat}{w w':World}{v:Dev}{d:PD}(h:yj B w v d)(hs:w.heap.size≤w'.heap.size)(hb:∀ k∈v.foot,w'.heap[k]?=w.heap[k]?):yj B w' v d :=
 ⟨by rw[hb _ v.p_foot];exact h.blk,h.lim,h.nilp,by have:=h.map;unfold y3 at this ⊢;rw[hb _ v.M_foot];exact this,h.dur,h.durL,h.pend.same hs fun k hk=>hb k (v.pv_foot hk),h.n1,h.n2,h.few,h.pB,h.MB⟩
theorem yj.below {B:Nat}{w w':World}{v:Dev}{d:PD}(h:yj B w v d)(hb:Below w.heap.size w w'):yj B w' v d:=h.keep hb.size fun k hk=>hb.block k (h.foot_lt k hk).2
theorem yj.kept {B:Nat}{w w':World}{v:Dev}{d:PD}{F:List Nat}(h:yj B w v d)(hk:Kept F w w')(hF:∀ k∈v.foot,k ∉ F):yj B w' v d:=h.keep hk.size fun k hk'=>hk.block k (h.foot_lt k hk').2 (hF k hk')
theorem yj.p_ne {B:Nat}{w:World}{v:Dev}{d:PD}(h:yj B w v d):v.p≠v.M∧∀ k,v.pv.ownBlock=some k→v.p≠k∧v.M≠k:=by
 have hm:=h.map
 unfold y3 at hm
 refine⟨fun e=>?_,fun k hk=>?_⟩
 ·have h2:=h.blk
  rw[e,hm] at h2
  cases h2
 rcases h.pend.own.2 with⟨h0,_⟩ | ⟨g,cap,cur,hv,_,hcur,_⟩
 ·rw[h0] at hk;cases hk
 ·rw[hv] at hk
  cases hk
  refine⟨fun e=>?_,fun e=>?_⟩
  ·have:=h.blk
   rw[e,hcur] at this
   cases this
  ·rw[e] at hm
   rw[hm] at hcur
   cases hcur
theorem yj.fld {B:Nat}{w w':World}{v:Dev}{d:PD}(h:yj B w v d)(hk:Kept [v.p] w w')(ops lim:Int)(lm:Option Nat)(dn:Bool)(hl:∀ k:Nat,lm=some k→lim=k∧k≤4611686018427387904)
  (hb:w'.heap[v.p]?=some (.cells (yF { v with ops:=ops,lim:=lim } { d with lim:=lm,down:=dn }) 74 (0,0))):yj B w' { v with ops:=ops,lim:=lim } { d with lim:=lm,down:=dn } :=
 have hne:=h.p_ne
 ⟨hb,hl,h.nilp,by have hm:=h.map;unfold y3 at hm ⊢;exact(hk.block v.M h.map.lt (by simp;exact fun e=>hne.1 e.symm)).trans hm,h.dur,h.durL,
  h.pend.same hk.size fun k hk'=>hk.block k (World.ownsRow.lt h.pend.own k hk').2 (by simp;exact fun e=>(hne.2 k hk').1 e.symm),h.n1,h.n2,h.few,h.pB,h.MB⟩
theorem zj (w:World)(g j:Nat)(v:Value):Kept [g] w (w.setCell ⟨g,j,none⟩ v) :=
 ⟨rfl,rfl,rfl,by simp[World.setCell],fun k _ hn=>heap_setCell_other w ⟨g,j,none⟩ k v (by simpa using hn)⟩
def xMc (w:World):Dev:=⟨w.heap.size+1,w.heap.size,.slice none 0 0,[],0,0,0⟩
theorem xZ5 (n:Nat)(w:World)(hn:1≤n∧n≤4096):yj w.heap.size ((w.alloc (.map #[] 0)).alloc (.cells #[.int .i64 n,.map (some w.heap.size),.slice none 0 0,.int .i64 0,.bool false,.int .i64 0,.bool false] 74)) (xMc w) (PD.fresh n):=by
 refine⟨?_,?_,?_,?_,?_,?_,?_,?_,?_,?_,?_,?_⟩
 ·have:=heap_alloc_new (w.alloc (.map #[] 0)) (.cells #[.int .i64 n,.map (some w.heap.size),.slice none 0 0,.int .i64 0,.bool false,.int .i64 0,.bool false] 74)
  rw[World.size_alloc] at this
  exact this
 ·intro k hk;cases hk
 ·intro _;rfl
 ·unfold y3
  show ((w.alloc (.map #[] 0)).alloc _).heap[w.heap.size]?=_
  rw[heap_alloc_old _ _ (by simp),heap_alloc_new]
  rfl
 ·intro s;rfl
 ·intro s;exact List.length_replicate
 ·exact⟨World.ownsRow_nil _ _ _ _,fun x hx=>by cases hx⟩
 ·exact hn.1
 ·exact hn.2
 ·exact Nat.zero_le _
 ·exact Nat.le_succ _
 ·exact Nat.le_refl _
theorem xQ7 (n:Nat)(w:World)(hn:1≤n∧n≤4096):Calls Tryz.prog 5 #[.int .i64 n] w fun e w' =>
  e=.returned (.tuple #[.pointer (some ⟨w.heap.size+1,0,none⟩),.int .i64 0])∧Below w.heap.size w w'∧yj w.heap.size w' (xMc w) (PD.fresh n):=by
 have hmm:=@run_makeMap Tryz.prog
 have hb:=((Below.refl w.heap.size w).alloc (Nat.le_refl _) (.map #[] 0)).alloc (by simp) (.cells #[.int .i64 n,.map (some w.heap.size),.slice none 0 0,.int .i64 0,.bool false,.int .i64 0,.bool false] 74)
 have HB:=h_ hb
 have HD:=h_ (xZ5 n w hn)
 have h1:¬ (n:Int)<1:=by omega
 have h2:¬ (n:Int) > 4096:=by omega
 clear hb hn
 go_enter Tryz.func5,Tryz.ntmps5
 go_wp2
 go_ret2
 exact⟨rfl,HB.out,HD.out⟩
theorem yJ {B:Nat}{w:World}{v:Dev}{d:PD}(h:yj B w v d):Calls Tryz.prog 8 #[.pointer (some ⟨v.p,0,none⟩)] w fun e w'=>e=.returned (.int .i64 d.n)∧w=w':=by
 have c0:=cell_of_row w v.p 0 _ _ _ h.blk
 simp only[yF] at c0
 obtain⟨n,hn⟩:∃ n:Int,n=d.n:=⟨_,rfl⟩
 rw[←hn] at c0 ⊢
 clear h hn
 go_enter Tryz.func8,Tryz.ntmps8
 go_wp2
 go_ret
 exact⟨rfl,rfl⟩
theorem xDt {B:Nat}{w:World}{v:Dev}{d:PD}(h:yj B w v d):Calls Tryz.prog 28 #[.pointer (some ⟨v.p,0,none⟩)] w fun e w'=>e=.returned (.bool d.down)∧w=w':=by
 have c6:=cell_of_row w v.p 6 _ _ _ h.blk
 simp only[yF] at c6
 obtain⟨n,hn⟩:∃ n,n=d.down:=⟨_,rfl⟩
 rw[←hn] at c6 ⊢
 clear h hn
 go_enter Tryz.func28,Tryz.ntmps28
 go_wp2
 go_ret
 exact⟨rfl,rfl⟩
theorem xTd {B:Nat}{w:World}{v:Dev}{d:PD}(h:yj B w v d)(s:Int):Calls Tryz.prog 182 #[.pointer (some ⟨v.p,0,none⟩),.int .i64 s] w fun e w'=>e=.returned (.bool (decide (0≤s∧s<d.n)))∧w=w':=by
 have c0:=cell_of_row w v.p 0 _ _ _ h.blk
 simp only[yF] at c0
 obtain⟨n,hn⟩:∃ n:Int,n=d.n:=⟨_,rfl⟩
 rw[←hn] at c0 ⊢
 clear h hn
 by_cases h0:0≤s
 ·by_cases h1:s<n
  ·rw[decide_eq_true ⟨h0,h1⟩]
   go_enter Tryz.func182,Tryz.ntmps182
   go_wp2
   go_ret
   exact⟨rfl,rfl⟩
  ·rw[decide_eq_false (fun h=>h1 h.2)]
   go_enter Tryz.func182,Tryz.ntmps182
   go_wp2
   go_ret
   exact⟨rfl,rfl⟩
 ·rw[decide_eq_false (fun h=>h0 h.1)]
  go_enter Tryz.func182,Tryz.ntmps182
  go_wp2
  go_ret
  exact⟨rfl,rfl⟩
theorem xXw {B:Nat}{w:World}{v:Dev}{d:PD}(h:yj B w v d):Calls Tryz.prog 11 #[.pointer (some ⟨v.p,0,none⟩)] w fun e w'=>e=.returned (.tuple #[])∧Kept [v.p] w w'∧yj B w' v { d with down:=true }:=by
 have c6:=cell_of_row w v.p 6 _ _ _ h.blk
 have hf:=frozen_of_row w v.p 6 _ _ h.blk
 have hk:=zj w v.p 6 (.bool true)
 have hD:=h.fld hk v.ops v.lim d.lim true h.lim (by rw[heap_setCell_same w v.p 6 _ _ _ h.blk];rfl)
 have HK:=h_ hk
 have HD:=h_ hD
 simp only[yF] at c6
 clear h hk hD
 go_enter Tryz.func11,Tryz.ntmps11
 go_wp2
 go_end0
 exact⟨rfl,HK.out,HD.out⟩
theorem xP7 {w w1 w2:World}{g:Nat}(h:Kept [g] w w1)(h':Kept [g] w1 w2):Kept [g] w w2:=h.trans h' fun _ hk=>.inl hk
theorem xBx {B:Nat}{w:World}{v:Dev}{d:PD}(h:yj B w v d):Calls Tryz.prog 30 #[.pointer (some ⟨v.p,0,none⟩),.int .i64 (-1)] w fun e w'=>e=.returned (.tuple #[])∧Kept [v.p] w w'∧yj B w' { v with lim:=0 } { d with lim:=none }:=by
 have c4:=cell_of_row w v.p 4 _ _ _ h.blk
 have f4:=frozen_of_row w v.p 4 _ _ h.blk
 have hr1:=heap_setCell_same w v.p 4 _ _ (.bool false) h.blk
 obtain⟨w1,hw1⟩:∃ w1,w1=w.setCell ⟨v.p,4,none⟩ (.bool false):=⟨_,rfl⟩
 have hk1:Kept [v.p] w w1:=by rw[hw1];exact zj w v.p 4 _
 rw[←hw1] at hr1
 have c5:=cell_of_row w1 v.p 5 _ _ _ hr1
 have f5:=frozen_of_row w1 v.p 5 _ _ hr1
 have hr2:=heap_setCell_same w1 v.p 5 _ _ (.int .i64 0) hr1
 have hk2:=xP7 hk1 (zj w1 v.p 5 (.int .i64 0))
 have hD:=h.fld hk2 v.ops 0 none d.down (fun _ e=>by cases e) (by rw[hr2];rfl)
 have HK:=h_ hk2
 have HD:=h_ hD
 simp only[yF] at c4 c5
 rw[hw1] at c5 f5 HK HD
 clear h hr1 hr2 hk1 hk2 hD hw1 w1
 go_enter Tryz.func30,Tryz.ntmps30
 go_wp2
 go_end0
 exact⟨rfl,HK.out,HD.out⟩
def xDx (B:Nat)(v:Dev)(d:PD)(w:World)(e:Ending)(w':World):Prop:=e=.returned (.bool d.oper.2)∧Kept [v.p] w w'∧∃ ops lim,yj B w' { v with ops:=ops,lim:=lim } d.oper.1
theorem xF6 {B:Nat}{w:World}{v:Dev}{d:PD}(h:yj B w v d):Calls Tryz.prog 122 #[.pointer (some ⟨v.p,0,none⟩)] w (xDx B v d w):=by
 have c3:=cell_of_row w v.p 3 _ _ _ h.blk
 have c4:=cell_of_row w v.p 4 _ _ _ h.blk
 have c5:=cell_of_row w v.p 5 _ _ _ h.blk
 have c6:=cell_of_row w v.p 6 _ _ _ h.blk
 have f3:=frozen_of_row w v.p 3 _ _ h.blk
 have f5:=frozen_of_row w v.p 5 _ _ h.blk
 have f6:=frozen_of_row w v.p 6 _ _ h.blk
 cases hl:d.lim with
 | none =>
  have ho:d.oper=(d,true):=by unfold PD.oper;rw[hl]
  have hr1:=heap_setCell_same w v.p 3 _ _ (.int .i64 (wrap64 (v.ops+1))) h.blk
  have hD:=h.fld (zj w v.p 3 (.int .i64 (wrap64 (v.ops+1)))) (wrap64 (v.ops+1)) v.lim d.lim d.down h.lim (by rw[hr1];rfl)
  have HP:=h_ (show xDx B v d w (.returned (.bool true)) (w.setCell ⟨v.p,3,none⟩ (.int .i64 (wrap64 (v.ops+1)))) from ⟨by rw[ho],zj w v.p 3 _,_,_,by rw[ho];exact hD⟩)
  simp only[yF,hl] at c3 c4
  clear h hr1 hD ho hl c5 c6 f5 f6
  go_enter Tryz.func122,Tryz.ntmps122
  go_wp2
  go_ret
  exact HP.out
 | some k =>
  obtain⟨hlim,hk62⟩:=h.lim k hl
  cases k with
  | zero =>
   have ho:d.oper=({ d with down:=true },false):=by unfold PD.oper;rw[hl]
   have hr1:=heap_setCell_same w v.p 6 _ _ (.bool true) h.blk
   have hD:=h.fld (zj w v.p 6 (.bool true)) v.ops v.lim d.lim true h.lim (by rw[hr1];rfl)
   have HP:=h_ (show xDx B v d w (.returned (.bool false)) (w.setCell ⟨v.p,6,none⟩ (.bool true)) from ⟨by rw[ho],zj w v.p 6 _,_,_,by rw[ho];exact hD⟩)
   simp only[yF,hl,hlim] at c4 c5 c6
   clear h hr1 hD ho hl c3 f3 f5 hlim hk62
   go_enter Tryz.func122,Tryz.ntmps122
   go_wp2
   go_ret
   exact HP.out
  | succ k =>
   have ho:d.oper=({ d with lim:=some k },true):=by unfold PD.oper;rw[hl]
   have hr1:=heap_setCell_same w v.p 5 _ _ (.int .i64 k) h.blk
   obtain⟨w1,hw1⟩:∃ w1,w1=w.setCell ⟨v.p,5,none⟩ (.int .i64 k):=⟨_,rfl⟩
   have hk1:Kept [v.p] w w1:=by rw[hw1];exact zj w v.p 5 _
   rw[←hw1] at hr1
   have c3':=cell_of_row w1 v.p 3 _ _ _ hr1
   have f3':=frozen_of_row w1 v.p 3 _ _ hr1
   have hr2:=heap_setCell_same w1 v.p 3 _ _ (.int .i64 (wrap64 (v.ops+1))) hr1
   have hk2:=xP7 hk1 (zj w1 v.p 3 (.int .i64 (wrap64 (v.ops+1))))
   have hD:=h.fld hk2 (wrap64 (v.ops+1)) k (some k) d.down (fun j e=>by cases e;exact⟨rfl,by omega⟩) (by rw[hr2];unfold yF;rw[hl];rfl)
   have HP:=h_ (show xDx B v d w (.returned (.bool true)) (w1.setCell ⟨v.p,3,none⟩ (.int .i64 (wrap64 (v.ops+1)))) from ⟨by rw[ho],hk2,_,_,by rw[ho];exact hD⟩)
   obtain⟨z,hz⟩:∃ z:Int,z=((k+1:Nat):Int):=⟨_,rfl⟩
   obtain⟨y,hy⟩:∃ y:Int,y=(k:Int):=⟨_,rfl⟩
   have hne:(z == 0)=false:=by rw[beq_eq_false_iff_ne];omega
   have hw:z-1=y:=by omega
   have hkk:z≤4611686018427387904:=by omega
   have hk0:0≤z:=by omega
   rw[←hz] at hlim
   rw[←hy] at hw1
   simp only[yF,hl,hlim] at c3' c4 c5
   rw[hw1] at c3' f3' HP
   clear h hr1 hr2 hk1 hk2 hD ho hl c3 c6 f3 f6 hlim hk62 hw1 hz hy
   go_enter Tryz.func122,Tryz.ntmps122
   go_wp2
   go_ret
   exact HP.out
section
abbrev Sec:Type:={ b:By // b.length=256 }
abbrev Yl:Type:=Int × Nat × Sec
def xLd (x:Yl):Array Value:=#[.int .i64 x.1,.agg (y4 x.2.1 x.2.2.1)]
def plain (x:Yl):Nat × By:=(x.2.1,x.2.2.1)
def secZ:Sec:=⟨zer,List.length_replicate⟩
def typed (l:List (Nat × By)):List (Nat × Sec):=l.map fun x=>(x.1,if h:x.2.length=256 then ⟨x.2,h⟩ else secZ)
def jf (l:List (Nat × By)):List Yl:=(List.range l.length).map fun k=>(((l.length-1-k:Nat):Int),(typed l).getD (l.length-1-k) (0,secZ))
theorem qw (l:List (Nat × By)):(jf l).length=l.length:=by simp[jf]
theorem xU0 (l:List (Nat × By))(hl:∀ x∈l,x.2.length=256)(k:Nat)(hk:k<l.length):((typed l).getD k (0,secZ)).1=l[k].1∧((typed l).getD k (0,secZ)).2.1=l[k].2:=by
 have h1:(typed l)[k]?=some (l[k].1,if h:l[k].2.length=256 then ⟨l[k].2,h⟩ else secZ):=by
  unfold typed
  rw[List.getElem?_map,List.getElem?_eq_getElem hk]
  rfl
 rw[List.getD_eq_getElem?_getD,h1]
 simp only[Option.getD_some]
 rw[dif_pos (hl _ (List.getElem_mem hk))]
 exact⟨trivial,rfl⟩
theorem xL4 (l:List (Nat × By))(hl:∀ x∈l,x.2.length=256)(k:Nat)(hk:k<l.length) :
  ((jf l)[k]'(by rw[qw];exact hk)).1=((l.length-1-k:Nat):Int)∧plain ((jf l)[k]'(by rw[qw];exact hk))=l[l.length-1-k]'(by omega):=by
 have h2:=xU0 l hl (l.length-1-k) (by omega)
 unfold jf plain
 simp only[List.getElem_map,List.getElem_range]
 exact⟨trivial,Prod.ext h2.1 h2.2⟩
theorem xFs (l:List (Nat × By))(hl:∀ x∈l,x.2.length=256):(jf l).map plain=l.reverse:=by
 apply List.ext_getElem
 ·simp[qw]
 ·intro i h1 h2
  have hi:i<l.length:=by simpa[qw] using h1
  rw[List.getElem_map,(xL4 l hl i hi).2,List.getElem_reverse]
theorem xDq (ro:Option Nat)(ρ:Operand→Value)(d:Option Tmp)(x:Operand)(ty:TypeId)(pos:String)(af:Array Edge)(g:Option (Nat × Bool))(w:World) :
  Sem.run Tryz.prog (Oper.semAt ro ρ ⟨d,.load 126 x,ty,pos,af,g⟩) w=yx Tryz.prog 126 w (ρ x):=by
 rw[Oper.semAt_eq _ _ _ (by intro c h;cases h)]
 exact j0 ..
theorem xJn (ro:Option Nat)(ρ:Operand→Value)(d:Option Tmp)(x y:Operand)(ty:TypeId)(pos:String)(af:Array Edge)(g:Option (Nat × Bool))(w:World) :
  Sem.run Tryz.prog (Oper.semAt ro ρ ⟨d,.store 126 x y,ty,pos,af,g⟩) w=ym Tryz.prog 126 w (ρ x) (ρ y):=by
 rw[Oper.semAt_eq _ _ _ (by intro c h;cases h)]
 exact vf ..
theorem xN4 (ro:Option Nat)(ρ:Operand→Value)(d:Option Tmp)(x:Operand)(ty:TypeId)(pos:String)(af:Array Edge)(g:Option (Nat × Bool))(w:World) :
  Sem.run Tryz.prog (Oper.semAt ro ρ ⟨d,.load 123 x,ty,pos,af,g⟩) w=yx Tryz.prog 123 w (ρ x):=by
 rw[Oper.semAt_eq _ _ _ (by intro c h;cases h)]
 exact j5 ..
theorem xJo (ro:Option Nat)(ρ:Operand→Value)(d:Option Tmp)(x y:Operand)(ty:TypeId)(pos:String)(af:Array Edge)(g:Option (Nat × Bool))(w:World) :
  Sem.run Tryz.prog (Oper.semAt ro ρ ⟨d,.store 123 x y,ty,pos,af,g⟩) w=ym Tryz.prog 123 w (ρ x) (ρ y):=by
 rw[Oper.semAt_eq _ _ _ (by intro c h;cases h)]
 exact vj ..
theorem xJq (ro:Option Nat)(ρ:Operand→Value)(d:Option Tmp)(ty:TypeId)(pos:String)(af:Array Edge)(g:Option (Nat × Bool))(w:World) :
  Sem.run Tryz.prog (Oper.semAt ro ρ ⟨d,.alloc 126,ty,pos,af,g⟩) w=.ok (.value (.pointer (some ⟨w.heap.size,0,none⟩))) (w.alloc (.cells (y4 0 zer) 126)):=by
 rw[Oper.semAt_eq _ _ _ (by intro c h;cases h)]
 exact vm ..
theorem xNf (va:Option Addr)(vn vc:Nat)(w:World):Calls Tryz.prog 209 #[.slice va vn vc] w fun r w'=>r=.returned (.func (.func 260) #[] #[.pointer (some ⟨w.heap.size,0,none⟩)])∧w.alloc (.cells #[.slice va vn vc] 72)=w':=by
 go_enter Tryz.func209,Tryz.ntmps209
 go_wp2
 go_ret
 exact⟨rfl,rfl⟩
attribute [local go_sem ↓] xDq
attribute [local go_sem] xHk xj xh xe xd
theorem xVr {w:World}{g off:Nat}{s:Nat}{b:By}(hb:b.length=256)(h:∀ i u,(zD s b)[i]?=some u→w.cell? ⟨g,off+i,none⟩=some u):xq w ⟨g,off,none⟩ 257=true∧xp w ⟨g,off,none⟩ 257=y4 s b:=by
 have:=y7 (w:=w) (a:=⟨g,off,none⟩) (cs:=zD s b) (fun j v hj=>by rw[Addr.add_lit];exact h j v hj)
 rw[uu hb] at this
 exact this
theorem xZp (n b0 B:Nat)(v:Value)(l:List (Nat × By))(w:World)(h0:w.cell? ⟨b0,0,none⟩=some v)(hp:PnAt w B v l)(hl:l.length≤1000000)(hn:1≤n) :
  SeqStopsK Fence.wide n Tryz.prog 260 #[.pointer (some ⟨b0,0,none⟩)] xLd (Below w.heap.size) (fun xs=>xs.map plain=l.reverse) (fun pre=>∃ k,pre.map plain=l.reverse.take k) l.length w:=fun y J Jx W hW hJ hJx hY hj=>by
 have hlen:=hp.len
 have hb0:b0<w.heap.size:=block_lt_of_cell h0
 have HP:=h_ hp
 have HW:=h_ hW
 have HY:=h_ hY
 have HJ:=h_ hj
 have c0:W.cell? ⟨b0,0,none⟩=some v:=(hW.cell hb0).trans h0
 clear hp hW hY hj hJ hJx
 refine callsIn_of_wp Tryz.func260 rfl trivial ?_ rfl
 simp only[Tryz.ntmps260,List.size_toArray,List.length_cons,List.length_nil,Nat.reduceAdd,Nat.reduceSub,Array.replicate_succ,Array.replicate_zero,List.push_toArray,List.append_toArray,List.nil_append,List.cons_append]
 rcases HP.out.at with⟨rfl,rfl⟩ | ⟨g,cap,rfl,hgB,hgl,hle,hmx,hcell⟩
 ·gi_wp2
  gi_loopw [3] (fun u wr=>u=.int .i64 (-1)∧J [] wr) (fun _ _=>0)
  case atStart=>exact⟨rfl,HJ.out⟩
  case round =>
   obtain⟨rfl,hjr⟩:=hrel
   gi_wp2
   go_end0
   exact⟨⟨_,rfl⟩,.inl ⟨[],rfl,hjr⟩⟩
 ·have hg:g<W.heap.size:=Nat.lt_of_lt_of_le hgl HW.out.size
  have HC:Hid (∀ j (hj:j<l.length) i u,(zD l[j].1 l[j].2)[i]?=some u→w.cell? ⟨g,j*257+i,none⟩=some u):=h_ hcell
  have HLEN:=h_ hlen
  obtain⟨N,hN⟩:∃ N,N=l.length:=⟨_,rfl⟩
  rw[←hN] at hl hle c0 HY h0
  have HN:=h_ hN
  have hNz:(N:Int)≤1000000:=by omega
  clear hcell hlen hN h0
  gi_wp2
  gi_loopw [3] (fun u wr=>∃ k:Nat,u=.int .i64 ((N:Int)-1-k)∧k≤N∧Hid (J ((jf l).take k) wr)∧Hid (Below w.heap.size w wr)) (fun u _=>(intOf u+1).toNat)
  case atStart=>exact⟨0,by go_num,Nat.zero_le _,HJ,HW⟩
  case round =>
   obtain⟨k,rfl,hk,HJk,HB⟩:=hrel
   have hcb:=(HB.out.cell (p:=⟨b0,0,none⟩) hb0).trans ((HW.out.cell (p:=⟨b0,0,none⟩) hb0).symm.trans c0)
   by_cases hlt:k<N
   ·have hge:(0:Int)≤(N:Int)-1-k:=by omega
    obtain⟨j,hj⟩:∃ j:Nat,j=N-1-k:=⟨_,rfl⟩
    have hjz:(N:Int)-1-k=(j:Int):=by omega
    have hjN:j<N:=by omega
    have hjl:j<l.length:=by rw[←HN.out];exact hjN
    obtain⟨o1,d1⟩:=xVr (w:=wr) (g:=g) (off:=j*257) (s:=l[j].1) (b:=l[j].2) (HLEN.out _ (List.getElem_mem hjl)) (fun i u hu=>(HB.out.cell (p:=⟨g,j*257+i,none⟩) hgl).trans (HC.out j hjl i u hu))
    have hkb:k<(jf l).length:=by rw[qw,←HN.out];exact hlt
    have hbk:=xL4 l HLEN.out k (by rw[←HN.out];exact hlt)
    obtain⟨x,hx⟩:∃ x,x=(jf l)[k]:=⟨_,rfl⟩
    have hidx:N-1-k<l.length:=by rw[←HN.out];omega
    have hx1:x.1=(j:Int):=by rw[hx,hbk.1,←HN.out,hj]
    have hx2:y4 x.2.1 x.2.2.1=y4 l[j].1 l[j].2:=by
     have h2:plain x=l[j]:=by
      rw[hx,hbk.2]
      congr 1
      rw[←HN.out,hj]
     rw[←h2];rfl
    rw[←hx2] at d1
    have HTK:Hid ((jf l).take (k+1)=(jf l).take k++[x]):=h_ (by rw[List.take_succ_eq_append_getElem hkb,hx])
    have hpl:((jf l).take k).length<N:=by rw[List.length_take];omega
    obtain⟨fn,tmps,assign,body,hy,hR⟩:=HY.out _ x wr HJk.out hpl
    unfold xLd at hy
    rw[hx1] at hy
    rw[hjz]
    have hjz':(j:Int)<(N:Int):=by omega
    clear hbk hx1 hx2 hpl hx hidx hkb hjl hj HJk hge
    generalize y4 x.2.1 x.2.2.1=cs at d1 hy
    gi_wp2
    refine hR.mono ?_
    rintro e W3 (⟨rfl,hJ3,hk3⟩ | ⟨rfl,hJx3⟩)
    ·have HB3:=h_ (HB.out.trans (hk3.mono (Nat.le_refl _)))
     have HJ3:=h_ hJ3
     clear hy hR d1 o1 hcb hk3 hJ3
     gi_wp2
     go_roundw
     case rel=>exact⟨k+1,by congr 1;omega,by omega,by rw[HTK.out];exact HJ3,HB3⟩
     case measure=>simp only[intOf];omega
    ·have HJx3:=h_ hJx3
     clear hy hR d1 o1 hcb hJx3
     gi_wp2
     refine bodyPost_ret (results_none rfl _ _ _) rfl ?_
     refine⟨⟨_,rfl⟩,.inr ⟨(jf l).take k++[x],⟨k+1,?_⟩,HJx3.out⟩⟩
     rw[←HTK.out,List.map_take,xFs l HLEN.out]
   ·obtain rfl:k=N:=by omega
    have hge:¬ (0:Int)≤(k:Int)-1-k:=by omega
    gi_wp2
    go_end0
    have HT:(jf l).take k=jf l:=List.take_of_length_le (by rw[qw,←HN.out];exact Nat.le_refl _)
    exact⟨⟨_,rfl⟩,.inl ⟨jf l,xFs l HLEN.out,HT ▸ HJk.out⟩⟩
end
section
attribute [local go_sem ↓] xDq xJn xN4 xJo xJq j5 vj j0 vf vm jo
attribute [local go_sem] xHk xLn xMh xLp xj xh xe xd xA u9 xt xC
attribute [local go_sem] Oper.semAt_some
structure VisI (w:World)(s b:Nat)(pre:List Yl)(X:World):Prop where
 sz:b≤X.heap.size
 i:X.heap[w.heap.size]?=some (.cells #[.int .i64 s] 3 (0,0))
 c:X.heap[w.heap.size+1]?=some (.cells (xT zer) 123 (0,0))
 bl:Below w.heap.size w X
 ne:∀ x∈pre,x.2.1≠s
structure VisX (w:World)(s:Nat)(pre:List Yl)(X:World):Prop where
 bl:Below w.heap.size w X
 hit:∃ p x,pre=p++[x]∧(∀ y∈p,y.2.1≠s)∧x.2.1=s∧X.heap[w.heap.size+1]?=some (.cells (xT x.2.2.1) 123 (0,0))
theorem xA2 {A B:World}{b k:Nat}{o:Obj}{row:Option Nat}(hg:A.grownBy B row)(hr:∀ r,row=some r→b≤r∧∃ o:Obj,A.heap[r]?=some o∧o.isCells=false)(hk:A.heap[k]?=some o)(ho:o.isCells=true):B.heap[k]?=some o :=
 (hg.block k (i_ hk).1 (fun e=>by
  obtain⟨_,o',ho',hc'⟩:=hr k e.symm
  rw[hk] at ho'
  cases ho'
  rw[ho] at hc'
  cases hc')).trans hk
theorem VisI.own (w:World)(s b:Nat)(hb:w.heap.size≤b):OwnFrom b (VisI w s b):=fun pre A B row h hg hr =>
 ⟨Nat.le_trans h.sz hg.size,xA2 hg hr h.i rfl,xA2 hg hr h.c rfl,h.bl.grown hg h.bl.size (fun k e=>by have:=(hr k e).1;omega),h.ne⟩
theorem VisX.own (w:World)(s b:Nat)(hb:w.heap.size≤b):OwnFrom b (VisX w s):=fun pre A B row h hg hr =>
 ⟨h.bl.grown hg h.bl.size (fun k e=>by have:=(hr k e).1;omega),by
  obtain⟨p,x,h1,h2,h3,h4⟩:=h.hit
  exact⟨p,x,h1,h2,h3,xA2 hg hr h4 rfl⟩⟩
def visT (vp n0 s:Nat)(pa:Option Addr)(pn pc b0 g:Nat)(x:Yl):Array Value:=#[.pointer (some ⟨vp,0,none⟩),.int .i64 s,undef,.pointer (some ⟨n0,0,none⟩),.pointer (some ⟨n0+1,0,none⟩),undef,.pointer (some ⟨g,0,none⟩),.pointer (some ⟨vp,0,none⟩),.pointer (some ⟨vp,0,none⟩),.pointer (some ⟨vp,2,none⟩),.slice pa pn pc,
 .func (.func 260) #[] #[.pointer (some ⟨b0,0,none⟩)],.int .i64 x.1,.agg (y4 x.2.1 x.2.2.1),undef,undef,undef,undef,undef,undef,undef,undef,undef,undef,undef,undef]
def VisA (b vp n0 s:Nat)(pa:Option Addr)(pn pc b0:Nat)(x:Yl)(a:Act)(X:World):Prop:=∃ g,b≤g∧a={ tmps:=visT vp n0 s pa pn pc b0 g x,defers:=[] }∧X.heap[g]?=some (.cells (y4 x.2.1 x.2.2.1) 126 (0,0))
theorem xUx (p q:Nat)(u v:Value)(t:Array Value):(((#[p,q]:Array Tmp).zip #[u,v]).foldl (fun t (p,v)=>t.setIfInBounds p v) t)=(t.setIfInBounds p u).setIfInBounds q v:=by
 simp
theorem xVu {d:PD}{s:Nat}{xs:List Yl}(hS:xs.map plain=d.pend.reverse)(hn:∀ x∈xs,x.2.1≠s):d.vis s=d.dur s:=by
 unfold PD.vis
 have:d.pend.reverse.find? (fun p=>p.1 == s)=none:=by
  rw[List.find?_eq_none,←hS]
  intro y hy
  obtain⟨x,hx,rfl⟩:=List.mem_map.1 hy
  simpa[plain] using hn x hx
 rw[this]
theorem xVt {d:PD}{s k:Nat}{p:List Yl}{x:Yl}(hS:(p++[x]).map plain=d.pend.reverse.take k)(hn:∀ y∈p,y.2.1≠s)(hx:x.2.1=s):d.vis s=x.2.2.1:=by
 unfold PD.vis
 have h1:d.pend.reverse=(p.map plain++[plain x])++d.pend.reverse.drop k:=by
  have:=List.take_append_drop k d.pend.reverse
  rw[←hS] at this
  simpa using this.symm
 have h2:(p.map plain).find? (fun p=>p.1 == s)=none:=by
  rw[List.find?_eq_none]
  intro y hy
  obtain⟨z,hz,rfl⟩:=List.mem_map.1 hy
  simpa[plain] using hn z hz
 have:d.pend.reverse.find? (fun p=>p.1 == s)=some (plain x):=by
  rw[h1,List.find?_append,List.find?_append,h2]
  simp[plain,hx]
 rw[this]
 rfl
theorem zq {w:World}{g n T:Nat}{cs:Array Value}(h:w.heap[g]?=some (.cells cs T (0,0)))(hn:cs.size=n):xP w g n=true:=by
 unfold xP;rw[h];simp[hn]
theorem xIh {w:World}{g T:Nat}{s:Nat}{b:By}{fr:Nat × Nat}(hb:b.length=256)(h:w.heap[g]?=some (.cells (y4 s b) T fr)):xq w ⟨g,1,none⟩ 256=true∧xp w ⟨g,1,none⟩ 256=xT b:=by
 have:=y7 (w:=w) (a:=⟨g,1,none⟩) (cs:=encB b) (fun j v hj=>by
  rw[Addr.add_lit,cell_of_row w g (1+j) _ _ _ h]
  unfold y4
  rw[List.getElem?_toArray,xNp,if_neg (by omega),←hj]
  congr 1;omega)
 rw[xM,hb] at this
 exact this
def xZw (d:PD)(s:Nat)(w:World)(e:Ending)(w':World):Prop:=e=.returned (.agg (xT (d.vis s)))∧Below w.heap.size w w'
theorem xNs {B:Nat}{w:World}{v:Dev}{d:PD}(h:yj B w v d)(s:Nat)(hs:s<d.n):Calls Tryz.prog 183 #[.pointer (some ⟨v.p,0,none⟩),.int .i64 s] w (xZw d s w):=by
 obtain⟨W0,hW0⟩:∃ W0,W0=(w.alloc (.cells #[.int .i64 s] 3)).alloc (.cells (xT zer) 123):=⟨_,rfl⟩
 have hb0:Below w.heap.size w W0:=by rw[hW0];exact((Below.refl _ _).alloc (Nat.le_refl _) _).alloc (by simp) _
 have hs0:W0.heap.size=w.heap.size+2:=by rw[hW0];simp
 have hi0:W0.heap[w.heap.size]?=some (.cells #[.int .i64 s] 3 (0,0)):=by rw[hW0,heap_alloc_old _ _ (by simp),heap_alloc_new]
 have hc0:W0.heap[w.heap.size+1]?=some (.cells (xT zer) 123 (0,0)):=by
  have:=heap_alloc_new (w.alloc (.cells #[.int .i64 s] 3)) (.cells (xT zer) 123)
  rw[hW0]
  simpa using this
 have hD0:=h.below hb0
 have c2:=cell_of_row W0 v.p 2 _ _ _ hD0.blk
 simp only[yF] at c2
 obtain⟨pn,hpn⟩:∃ n,n=d.pend.length:=⟨_,rfl⟩
 obtain⟨pa,pc,hpv⟩:∃ a c,v.pv=.slice a pn c:=by rw[hpn];exact yH h.pend.own
 have HFEW:=h_ h.few
 have HPL:=h_ hpn
 clear hpn
 have HPN:=h_ hD0.pend
 have HD:=h_ h
 have HI0:=h_ hi0
 have HC0:=h_ hc0
 have HB0:=h_ hb0
 have HS0:=h_ hs0
 have HPV:=h_ hpv
 rw[hpv] at c2
 have c2':W0.cell? ⟨v.p,2,none⟩=some (.slice pa pn pc):=c2
 rw[hW0] at c2'
 clear c2 h hb0 hi0 hc0 hD0 hpv hs0
 refine(callsIn_wide (n:=4)).1 (callsIn_of_wp_marks Tryz.func183 rfl trivial ?_ rfl)
 simp only[Tryz.ntmps183,List.size_toArray,List.length_cons,List.length_nil,Nat.reduceAdd,Nat.reduceSub,Array.replicate_succ,Array.replicate_zero,List.push_toArray,List.append_toArray,List.nil_append,List.cons_append]
 refine wpIn_wide.2 ?_
 go_wp2_with fail
 rw[←hW0]
 clear hW0 c2'
 refine(xNf pa pn pc W0).mono ?_
 rintro r w1 ⟨rfl,rfl⟩
 go_wp2
 obtain⟨b0,hb0⟩:∃ b0,b0=W0.heap.size:=⟨_,rfl⟩
 have hbx:=heap_alloc_new W0 (.cells #[.slice pa pn pc] 72)
 have hba:Below W0.heap.size W0 (W0.alloc (.cells #[.slice pa pn pc] 72)):=(Below.refl _ _).alloc (Nat.le_refl _) _
 have hs1:(W0.alloc (.cells #[.slice pa pn pc] 72)).heap.size=W0.heap.size+1:=World.size_alloc ..
 generalize W0.alloc (.cells #[.slice pa pn pc] 72)=W1 at hbx hba hs1 ⊢
 have c0:=cell_of_row W1 W0.heap.size 0 _ _ _ hbx
 rw[←hb0] at c0 ⊢
 have hpn1:PnAt W1 B (.slice pa pn pc) d.pend:=by
  have:=HPN.out
  rw[HPV.out] at this
  exact this.same hba.size fun k hk=>hba.block k (World.ownsRow.lt this.own k hk).2
 have hst:=xZp 3 b0 B (.slice pa pn pc) d.pend W1 c0 hpn1 HFEW.out (by omega)
 have HSq:=h_ hst
 have hI:VisI w s W1.heap.size [] W1:=⟨Nat.le_refl _,(hba.block _ (by have:=HS0.out;omega)).trans HI0.out,(hba.block _ (by have:=HS0.out;omega)).trans HC0.out,HB0.out.trans (hba.mono HB0.out.size),fun x hx=>by cases hx⟩
 have HI:=h_ hI
 have hw1:w.heap.size≤W1.heap.size:=hI.bl.size
 have hws:w.heap.size+1<W1.heap.size:=by have:=HS0.out;omega
 have hbx0:Hid (b0=W0.heap.size):=h_ hb0
 clear hst hI hpn1 c0 hbx hba hb0
 refine(wpIn_wide (n:=4)).1 (wpIn_rangeFunc_ownH rfl (by omega) (gf:=260) rfl trivial (enters_of Tryz.func260 (by kernel_rfl) rfl) HSq.out belowK_t (belowK_b (Nat.le_refl _)) (Below.refl _ _) (fun _=>rfl)
  (VisI w s W1.heap.size) (fun c pre X=>c=.ret∧VisX w s pre X) (VisI.own w s _ hw1) (fun c pre A B row h hg hr=>⟨h.1,VisX.own w s _ hw1 pre A B row h.2 hg hr⟩) HI.out (VisA (w.heap.size+2) v.p w.heap.size s pa pn pc b0) (fun x a' _ A B row ⟨g,h0,h1,h2⟩ hg hr=>⟨g,h0,h1,xA2 hg hr h2 rfl⟩) ?assign ?body ?done ?stop)
 case assign =>
  intro l pre x W K hI hK
  obtain⟨xi,xs,xb⟩:=x
  unfold xLd
  rw[xUx]
  change Code.wpIn _ _ _ _ _ { tmps:=#[.pointer (some ⟨v.p,0,none⟩),.int .i64 s,undef,.pointer (some ⟨w.heap.size,0,none⟩),.pointer (some ⟨w.heap.size+1,0,none⟩),undef,undef,.pointer (some ⟨v.p,0,none⟩),.pointer (some ⟨v.p,0,none⟩),.pointer (some ⟨v.p,2,none⟩),.slice pa pn pc,
   .func (.func 260) #[] #[.pointer (some ⟨b0,0,none⟩)],.int .i64 xi,.agg (y4 xs xb.1),undef,undef,undef,undef,undef,undef,undef,undef,undef,undef,undef,undef],defers:=[] } W
  have hba:=(Below.refl W1.heap.size W).alloc hI.sz (.cells (y4 xs xb.1) 126)
  have hg0:w.heap.size+2≤W.heap.size:=by have:=(i_ hI.c).1;omega
  have hK2:=hK { tmps:=visT v.p w.heap.size s pa pn pc b0 W.heap.size (xi,xs,xb),defers:=[] } (W.alloc (.cells (y4 xs xb.1) 126))
   ⟨hba.size,fun k o _ hk _=>(heap_alloc_old _ _ (i_ hk).1).trans hk⟩ hba
   ⟨Nat.le_trans hI.sz hba.size,(heap_alloc_old _ _ (i_ hI.i).1).trans hI.i,(heap_alloc_old _ _ (i_ hI.c).1).trans hI.c,hI.bl.alloc hI.bl.size _,hI.ne⟩
   ⟨W.heap.size,hg0,rfl,heap_alloc_new _ _⟩
  unfold visT at hK2
  have HK2:=h_ hK2
  have hf:xy 257 (y4 xs xb.1)=true:=xPn xs xb.2
  have hz:(y4 0 zer).size=257:=rfl
  clear hK hK2 hba hI hg0 HSq HI HPV HD HPN HI0 HC0 HB0 HS0 HFEW HPL hbx0
  gi_wp2
  exact HK2.out
 case body =>
  intro l pre x a' W hl hL hI hA hpre
  obtain⟨xi,xs,xb⟩:=x
  obtain⟨g,hg2,rfl,hgw⟩:=hA
  unfold visT
  obtain⟨o1,d1⟩:=xIh (w:=W) (g:=g) xb.2 hgw
  have c6:W.cell? ⟨g,0,none⟩=some (.int .i64 xs):=cell_of_row W g 0 _ _ _ hgw
  have c3:=cell_of_row W w.heap.size 0 _ _ _ hI.i
  have hrow:=zq hI.c (show (xT zer).size=256 from rfl)
  have hf:xy 256 (xT xb.1)=true:=xI2 xb.2
  have hset:=setRow_heap W (w.heap.size+1) _ (xT xb.1) _ _ hI.c
  have HSET:=h_ hset
  have HIw:=h_ hI
  have HL:=h_ hL
  have hl0:=h_ hl
  clear hL hl hI hgw hpre HSq HI HPV HD HPN HI0 HC0 HB0 HS0 HFEW HPL hbx0 hset
  simp only at c6 o1 d1 hf HSET ⊢
  by_cases hq:xs=s
  ·subst hq
   gi_wp2
   refine⟨⟨by simp[World.setRow],fun k o hk ho _=>(setRow_other _ _ _ _ (by omega)).trans ho⟩,rfl,xJ HIw.out.bl (by omega) _,pre,(xi,xs,xb),rfl,HIw.out.ne,rfl,HSET.out⟩
  ·have hqz:((xs:Int) == s)=false:=by rw[beq_eq_false_iff_ne];omega
   gi_wp2
   refine⟨KeepsFrom.refl _ _,Below.refl _ _,HIw.out.sz,HIw.out.i,HIw.out.c,HIw.out.bl,fun x hx=>?_⟩
   rcases List.mem_append.1 hx with hx | hx
   ·exact HIw.out.ne x hx
   ·rw[List.mem_singleton.1 hx];exact hq
 case done =>
  intro D xs W hD hS hI hK
  have hDW:=HD.out.below hI.bl
  have hvis:d.vis s=d.dur s:=xVu hS hI.ne
  have hlk:∀ z:xf W,(Instr.lookup 71 (.map (some v.M)) (.int .i64 s) false).run Tryz.prog z.1=.ok (.agg (xT (d.vis s))) z.1:=fun z=>by
   have h1:=xHg keyN Tryz.underlying71 (.agg (xT zer)) xVp z.1 v.M v.es v.mc (by have:=hDW.map;unfold y3 at this ⊢;exact(z.2.block _ (i_ this).1).trans this) (s:Int)
   have h2:((yM (s:Int) v.es 0).map (·.2)).getD (.agg (xT zer))=.agg (xT (d.vis s)):=by rw[hvis];exact hDW.dur s
   rw[h2] at h1
   exact h1
  have hc1:∀ z:xf W,z.1.cell? ⟨v.p,1,none⟩=some (.map (some v.M)):=fun z=>z.cell (cell_of_row W v.p 1 _ _ _ hDW.blk)
  have hcs:∀ z:xf W,z.1.cell? ⟨w.heap.size,0,none⟩=some (.int .i64 s):=fun z=>z.cell (cell_of_row W w.heap.size 0 _ _ _ hI.i)
  have hrow:xP W (w.heap.size+1) 256=true:=zq hI.c (show (xT zer).size=256 from rfl)
  have hlen:(d.vis s).length=256:=by rw[hvis];exact HD.out.durL s
  have hf:xy 256 (xT (d.vis s))=true:=xI2 hlen
  have HIw:=h_ hI
  have HK:=h_ hK
  have hD1:w.heap.size+1<D:=by omega
  generalize hcv:xT (d.vis s)=cv at hlk hf
  have HCV:=h_ hcv
  have HLEN:=h_ hlen
  clear hcv hlen hvis hI hK hS hDW HSq HI HPV HD HPN HI0 HC0 HB0 HS0 HFEW HPL hbx0
  go_wp2
  refine xw [0,1,2,3,4,5] [6] (fun w'=>∃ z:xf W,w'=z.1) (by kernel_rfl) (by kernel_rfl) (by kernel_rfl) ⟨⟨_,(Below.refl _ _).drew⟩,rfl⟩ ?_
  simp only[o_]
  repeat (go_big_quiet_step (fail))
  refine wpQuiet_nil ?_
  clear hlk hc1 hcs
  refine xG [6] _ _ (by kernel_rfl) ?_
  simp only[o_]
  go_wp2
  refine NoPanic.normal ?_
  go_wp2
  have hD2:(W.setRow (w.heap.size+1) cv).drew.heap[D]?=some (.deferred (some [])):=(setRow_other _ _ _ _ (by omega)).trans HK.out
  refine⟨by simp,.inl ⟨_,_,rfl,run_takeDeferred hD2,?_⟩⟩
  have hrw:(((W.setRow (w.heap.size+1) cv).drew).putObj D (.deferred none)).heap[w.heap.size+1]?=some (.cells cv 123 (0,0)):=(World.putObj_heap_other (by omega)).trans (setRow_heap W _ _ _ _ _ HIw.out.c)
  have hbl:Below w.heap.size w (((W.setRow (w.heap.size+1) cv).drew).putObj D (.deferred none)):=(xJ HIw.out.bl (by omega) cv).drew.grown (grownBy_putObj' _ D _) (xJ HIw.out.bl (by omega) cv).drew.size (fun k e=>by cases e;omega)
  refine⟨.agg cv,results_cell_row Tryz.results183 _ _ (w.heap.size+1) _ _ _ _ rfl hrw Tryz.underlying123 rfl (by rw[←HCV.out];unfold xT;rw[List.size_toArray,xM,HLEN.out];kernel_rfl),by rw[HCV.out],hbl⟩
 case stop =>
  rintro D c pre W hD hSp ⟨rfl,hX⟩ hK
  obtain⟨p,x,rfl,hp,hxs,hrow⟩:=hX.hit
  obtain⟨k,hk⟩:=hSp
  have HV:=h_ (xVt hk hp hxs)
  have HK:=h_ hK
  have HB:=h_ hX.bl
  have HR:=h_ hrow
  have hD1:w.heap.size+1<D:=by omega
  clear hk hK hX hrow HSq HI HPV HD HPN HI0 HC0 HB0 HS0 HFEW HPL hbx0
  refine wpIn_wide.2 ?_
  go_wp2
  refine⟨by simp,.inl ⟨_,_,rfl,run_takeDeferred HK.out,?_⟩⟩
  have hrw:(W.putObj D (.deferred none)).heap[w.heap.size+1]?=some (.cells (xT x.2.2.1) 123 (0,0)):=(World.putObj_heap_other (by omega)).trans HR.out
  have hbl:Below w.heap.size w (W.putObj D (.deferred none)):=HB.out.grown (grownBy_putObj' _ D _) HB.out.size (fun k e=>by cases e;omega)
  refine⟨.agg (xT x.2.2.1),results_cell_row Tryz.results183 _ _ (w.heap.size+1) _ _ _ _ rfl hrw Tryz.underlying123 rfl (by unfold xT;rw[List.size_toArray,xM,x.2.2.2];kernel_rfl),by rw[HV.out],hbl⟩
end
section
attribute [local go_sem ↓] j5 vj j0 vf vm jo
attribute [local go_sem] xHk xLn xMh xLp xj xh xe xd xA u9 xt xC
theorem xSv {B:Nat}{w:World}{v:Dev}{d:PD}(h:yj B w v d)(s:Nat):(d.vis s).length=256:=by
 unfold PD.vis
 cases hf:d.pend.reverse.find? (fun p=>p.1 == s) with
 | none=>exact h.durL s
 | some p=>exact h.pend.len p (List.mem_reverse.1 (List.mem_of_find?_eq_some hf))
def xYk (d:PD)(s:Nat)(w:World)(e:Ending)(w':World):Prop:=Below w.heap.size w w'∧∃ g,e=.returned (.tuple #[.slice (some ⟨g,0,none⟩) 256 256,.int .i64 0])∧w.heap.size≤g∧w'.heap[g]?=some (.cells (xT (d.vis s)) 123 (0,0))
theorem xWl {B:Nat}{w:World}{v:Dev}{d:PD}(h:yj B w v d)(s:Nat)(hs:s<d.n)(hd:d.down=false):Calls Tryz.prog 146 #[.pointer (some ⟨v.p,0,none⟩),.int .i64 s] w (xYk d s w):=by
 have c6:=cell_of_row w v.p 6 _ _ _ h.blk
 simp only[yF,hd] at c6
 have hh:=xTd h (s:Int)
 rw[decide_eq_true (show (0:Int)≤s∧(s:Int)<d.n by omega)] at hh
 have HH:=h_ hh
 have HV:=h_ (xNs h s hs)
 have hf:=xI2 (xSv h s)
 clear h hh hs hd
 go_enter Tryz.func146,Tryz.ntmps146
 go_wp2_with fail
 refine HH.out.mono ?_
 rintro e w1 ⟨rfl,rfl⟩
 go_wp2_with fail
 refine HV.out.mono ?_
 rintro e w1 ⟨rfl,hb1⟩
 have hz:(xT zer).size=256:=rfl
 have HB:=h_ (hb1.alloc hb1.size (.cells (xT (d.vis s)) 123))
 have HG:=h_ hb1.size
 have HR:=h_ (heap_alloc_new w1 (.cells (xT (d.vis s)) 123))
 clear hb1
 obtain⟨cv,hcv⟩:∃ cv,cv=xT (d.vis s):=⟨_,rfl⟩
 rw[←hcv] at hf HB HR ⊢
 have HCV:=h_ hcv
 clear hcv
 go_wp2
 go_ret2
 exact⟨HB.out,w1.heap.size,rfl,HG.out,by rw[←HCV.out];exact HR.out⟩
end
section
theorem xCm {place:Nat→Option (Nat × Nat)}{cells:Array Value}{i off size:Nat}{v:Value}{rest:List (Nat × Value)}(hp:place i=some (off,size))(hs:v.cells.size=size)(hf:off+size≤cells.size) :
  Instr.fill place cells ((i,v) :: rest)=Instr.fill place (v.cells.zipIdx.foldl (fun cs (c,j)=>cs.setIfInBounds (off+j) c) cells) rest:=by
 rw[Instr.fill,hp]
 simp only[hs]
 rw[if_neg]
 simp;omega
theorem uD {P:Program}{t:Nat}{w:World}{parts:Array (Nat × Value)}{cells:Array Value}(h:P.built t parts.toList=some cells):uo P t w parts=.ok (.value (.agg cells)) w:=by
 unfold uo
 rw[Sem.run_bind,run_build w t parts cells h];rfl
theorem zerL:zer.length=256:=List.length_replicate
theorem xYx (a s:Nat)(b:By):(y4 a b).setIfInBounds 0 (.int .i64 s)=y4 s b:=by simp[y4,zD]
theorem xXq (A:Array Value)(z:Int):(Value.int .i64 z).cells.zipIdx.foldl (fun cs (c,j)=>cs.setIfInBounds (0+j) c) A=A.setIfInBounds 0 (.int .i64 z):=rfl
def xZ3 (i:Nat):Option (Nat × Nat):=#[(0,1),(1,256)][i]?
theorem yB3 (parts:List (Nat × Value)):Tryz.prog.built 126 parts=Instr.fill xZ3 (y4 0 zer) parts:=by kernel_rfl
theorem xZ1 (s:Nat){b:By}(hb:b.length=256):(xT b).zipIdx.foldl (fun cs (c,j)=>cs.setIfInBounds (1+j) c) (y4 s zer)=y4 s b:=by
 have h:=xD5 (encB b) 0 1 [.int .i64 s] (encB zer) [] rfl (by rw[xM,xM,hb,zerL])
 unfold xT
 rw[←Array.foldl_toList,Array.toList_zipIdx]
 simpa[y4,zD] using h
theorem xAb {s:Nat}{b:By}(h:b.length=256):(y4 s b).size=257:=by unfold y4;rw[List.size_toArray];exact uu h
theorem yBa (w:World)(s:Nat){b:By}(hb:b.length=256):uo Tryz.prog 126 w #[(0,.int .i64 s),(1,.agg (xT b))]=.ok (.value (.agg (y4 s b))) w:=uD (by
 show Tryz.prog.built 126 [(0,.int .i64 s),(1,.agg (xT b))]=_
 rw[yB3]
 rw[xCm (off:=0) (size:=1) rfl rfl (by rw[xAb zerL];omega)]
 have e:=(xXq (y4 0 zer) (s:Int)).trans (xYx 0 s zer)
 rw[e]
 rw[xCm (off:=1) (size:=256) (v:=.agg (xT b)) rfl (by unfold xT;rw[show (Value.agg (encB b).toArray).cells=(encB b).toArray from rfl,List.size_toArray,xM,hb]) (by rw[xAb zerL];omega)]
 show Instr.fill _ ((xT b).zipIdx.foldl (fun cs (c,j)=>cs.setIfInBounds (1+j) c) _) _=_
 rw[xZ1 s hb]
 rfl)
theorem xDn (ρ:Operand→Value)(d:Option Tmp)(x0 x1:Operand)(ty:TypeId)(pos:String)(af:Array Edge)(gd:Option (Nat × Bool))(w:World) :
  Sem.run Tryz.prog (execOp ρ ⟨d,.build 126 #[(0,x0),(1,x1)],ty,pos,af,gd⟩) w=uo Tryz.prog 126 w #[(0,ρ x0),(1,ρ x1)]:=by kernel_rfl
theorem yBf (w:World)(a:Addr)(c:Nat):(Instr.arrayAt 123 (.slice (some a) 256 c)).run Tryz.prog w=.ok (.pointer (some a)) w:=by
 unfold Instr.arrayAt
 rw[Sem.run_bind,run_underlying Tryz.underlying123]
 rfl
theorem xKy (ρ:Operand→Value)(d:Option Tmp)(x:Operand)(ty:TypeId)(pos:String)(af:Array Edge)(g:Option (Nat × Bool))(w:World) :
  Sem.run Tryz.prog (execOp ρ ⟨d,.buildSlice 72 1 #[(0,x)],ty,pos,af,g⟩) w=xDv Tryz.prog 72 w (ρ x):=by kernel_rfl
theorem yB9 (w:World)(s:Nat){b:By}(hb:b.length=256):xDv Tryz.prog 72 w (.agg (y4 s b))=.ok (.value (.slice (some ⟨w.heap.size,0,none⟩) 1 1)) (w.alloc (.cells (y4 s b) 126)):=by
 obtain⟨i0,hi,hz0,hz1,hz2⟩:=info_parts Tryz.info_wri
 unfold xDv
 rw[Sem.run_bind,run_buildSlice w 72 126 1 _ (y4 s b) i0 _ Tryz.underlying72 hi hz0 (by rw[hz1];decide) (by rw[hz1];decide) (by
  rw[hz1]
  exact xB1 _ _ 257 (xAb hb) (by rw[Array.size_map,Array.size_range]))]
 rfl
attribute [local go_sem ↓] j5 vj j0 vf vm jo xDn xKy
attribute [local go_sem] xHk xLn xMh xLp xj xh xe xd xA u9 xt xC
theorem xKg (d:PD):d.oper.1.pend=d.pend:=by
 unfold PD.oper
 split <;> rfl
theorem xTu {B:Nat}{w w':World}{v:Dev}{d:PD}{v':Value}{n s:Nat}{b:By}(h:yj B w v d)(hg:w.grownBy w' v.pv.ownBlock)(hn:n=d.pend.length)(ho:w'.ownsRow B 126 257 v' (n+1) (xC3 d.pend++zD s b))(hat:v'.ownBlock=v.pv.ownBlock∨v'.ownBlock=some w.heap.size)(hf:d.pend.length<1000000)(hb:b.length=256) :
  (w'.heap[v.p]?=some (.cells (yF v d) 74 (0,0))∧w'.heap[v.M]?=w.heap[v.M]?∧w.heap.size≤w'.heap.size) ∧
  yj B (w'.setCell ⟨v.p,2,none⟩ v') { v with pv:=v' } { d with pend:=d.pend++[(s,b)] }:=by
 subst hn
 have hne:=h.p_ne
 have hpl:v.p<w.heap.size:=(i_ h.blk).1
 have hp:w'.heap[v.p]?=some (.cells (yF v d) 74 (0,0)):=(hg.block _ hpl (fun e=>(hne.2 _ e.symm).1 rfl)).trans h.blk
 have hM:w'.heap[v.M]?=w.heap[v.M]?:=hg.block _ h.map.lt (fun e=>(hne.2 _ e.symm).2 rfl)
 have hvp:∀ k,v'.ownBlock=some k→k≠v.p:=fun k hk e=>by
  rcases hat with h1 | h1
  ·exact(hne.2 k (h1 ▸ hk)).1 e.symm
  ·rw[h1] at hk;have:=Option.some.inj hk;omega
 refine⟨⟨hp,hM,hg.size⟩,?_,h.lim,?_,?_,h.dur,h.durL,⟨?_,?_⟩,h.n1,h.n2,?_,h.pB,h.MB⟩
 ·rw[heap_setCell_same w' v.p 2 _ _ v' hp];rfl
 ·intro e;exact absurd e (by simp)
 ·have hm:=h.map
  unfold y3 at hm ⊢
  exact(heap_setCell_other w' ⟨v.p,2,none⟩ v.M v' (fun e=>hne.1 e.symm)).trans (hM.trans hm)
 ·have e:xC3 (d.pend++[(s,b)])=xC3 d.pend++zD s b:=by simp[xC3]
  simp only[List.length_append,List.length_singleton]
  rw[e]
  refine⟨ho.1,?_⟩
  rcases ho.2 with h0 | ⟨g,cap,cur,hv,hgB,hcur,r⟩
  ·exact .inl h0
  ·exact .inr ⟨g,cap,cur,hv,hgB,(heap_setCell_other w' ⟨v.p,2,none⟩ g v' (hvp g (by rw[hv];rfl))).trans hcur,r⟩
 ·intro x hx
  rcases List.mem_append.1 hx with hx | hx
  ·exact h.pend.len x hx
  ·rw[List.mem_singleton.1 hx];exact hb
 ·simp only[List.length_append,List.length_singleton];omega
def xEq (B:Nat)(v:Dev)(d:PD)(s:Nat)(b:By)(w:World)(e:Ending)(w':World):Prop :=
 e=.returned (.int .i64 (if (d.write s b).2 then 0 else 28))∧Kept v.foot w w'∧∃ v',v'.p=v.p∧v'.M=v.M∧yj B w' v' (d.write s b).1∧∀ k∈v'.foot,k∈v.foot∨w.heap.size≤k
def WrC (p:Nat)(pv:Value):Type:={ z:World // z.cell? ⟨p,2,none⟩=some pv }
theorem yAh {w:World}{a:Addr}{b:By}(h:SlB w a b)(hb:b.length=256):xq w a 256=true∧xp w a 256=xT b:=by
 have:=y7 (w:=w) (a:=a) (cs:=encB b) (fun j v hj=>by
  have hj2:j<b.length:=by
   rcases Nat.lt_or_ge j b.length with h | h
   ·exact h
   ·rw[List.getElem?_eq_none (by rw[xM];exact h)] at hj;cases hj
  rw[vr b j hj2] at hj
  cases hj
  exact h.cell j _ (List.getElem?_eq_getElem hj2))
 rw[xM,hb] at this
 exact this
theorem xTv {B:Nat}{w:World}{v:Dev}{d:PD}(h:yj B w v d)(s:Nat)(hs:s<d.n)(hd:d.down=false)(hfew:d.pend.length<1000000)(a:Addr)(b:By)(c:Nat)(hb:b.length=256)(hsl:SlB w a b)(ha:a.block≠v.p)(hB:B≤w.heap.size) :
  Calls Tryz.prog 153 #[.pointer (some ⟨v.p,0,none⟩),.int .i64 s,.slice (some a) 256 c] w (xEq B v d s b w):=by
 have c6:=cell_of_row w v.p 6 _ _ _ h.blk
 simp only[yF,hd] at c6
 have hh:=xTd h (s:Int)
 rw[decide_eq_true (show (0:Int)≤s∧(s:Int)<d.n by omega)] at hh
 have HH:=h_ hh
 have HO:=h_ (xF6 h)
 have HD:=h_ h
 have HSL:=h_ hsl
 have HDN:=h_ hd
 clear h hh hs hsl hd
 go_enter Tryz.func153,Tryz.ntmps153
 go_wp2_with fail
 refine HH.out.mono ?_
 rintro e w1 ⟨rfl,rfl⟩
 go_wp2_with fail
 refine HO.out.mono ?_
 rintro e w1 ⟨rfl,hk1,ops,lim,hD1⟩
 obtain⟨ok,hok⟩:∃ ok,ok=d.oper.2:=⟨_,rfl⟩
 rw[←hok]
 cases ok with
 | false =>
  have hw:d.write s b=(d.oper.1,false):=by
   unfold PD.write
   rw[HDN.out]
   cases hop:d.oper with
   | mk d' o=>rw[hop] at hok;simp only at hok;subst hok;rfl
  have HP:=h_ (show xEq B v d s b w (.returned (.int .i64 28)) w1 from ⟨by rw[hw];rfl,hk1.mono (fun k hk _=>by rw[List.mem_singleton.1 hk];exact v.p_foot),{ v with ops:=ops,lim:=lim },rfl,rfl,by rw[hw];exact hD1,fun k hk=>.inl hk⟩)
  clear hw hk1 hD1 hok
  go_wp2
  go_ret
  exact HP.out
 | true =>
  have hw:d.write s b=({ d.oper.1 with pend:=d.oper.1.pend++[(s,b)] },true):=by
   unfold PD.write
   rw[HDN.out]
   cases hop:d.oper with
   | mk d' o=>rw[hop] at hok;simp only at hok;subst hok;rfl
  have HW:=h_ hw
  have HOK:=h_ hok
  have HK1:=h_ hk1
  have HD1:=h_ hD1
  obtain⟨pn,hpn⟩:∃ n,n=d.oper.1.pend.length:=⟨_,rfl⟩
  obtain⟨pa,pc,hpv⟩:∃ a c,v.pv=.slice a pn c:=by rw[hpn];exact yH hD1.pend.own
  have hc2:=cell_of_row w1 v.p 2 _ _ _ hD1.blk
  simp only[yF] at hc2
  have hc2':w1.cell? ⟨v.p,2,none⟩=some v.pv:=hc2
  have hsl1:SlB w1 a b:=⟨fun j c hj=>by
   have:=HSL.out.cell j c hj
   have hl:=block_lt_of_cell this
   rw[←this]
   unfold World.cell?
   have e:(a.add j).block=a.block:=y9 ..
   rw[hk1.block _ hl (by rw[e];simpa using ha)]⟩
  obtain⟨ho1,hr1⟩:=yAh hsl1 hb
  have z1:∀ z:WrC v.p (.slice pa pn pc),z.1.cell? ⟨v.p,2,none⟩=some (.slice pa pn pc):=fun z=>z.2
  have hbl:∀ u,uo Tryz.prog 126 u #[(0,.int .i64 s),(1,.agg (xT b))]=.ok (.value (.agg (y4 s b))) u:=fun u=>yBa u s hb
  have hPN:=h_ hpn
  have HPV:=h_ hpv
  rw[hpv] at hc2'
  have HC0:=h_ hc2'
  have HR0:=h_ (And.intro ho1 hr1)
  clear hw hok hk1 hD1 hpn hc2 hc2' hsl1 ho1 hr1 hpv
  go_upto_region 11 with fail
  haveI:Nonempty (WrC v.p (.slice pa pn pc)):=⟨⟨w1,HC0.out⟩⟩
  refine xw [0,1,2,3,4,5,6] [7,8,9,10,11,12,13,14] (fun w'=>∃ z:WrC v.p (.slice pa pn pc),w'=z.1) (by kernel_rfl) (by kernel_rfl) (by kernel_rfl) ⟨⟨w1.drew,HC0.out⟩,rfl⟩ ?_
  simp only[o_]
  repeat (go_big_quiet_step (fail))
  refine wpQuiet_nil ?_
  clear z1
  have ho1:=HR0.out.1
  have hr1:=HR0.out.2
  have hap:=yBf w1.drew a c
  refine yz true (by kernel_rfl) (by kernel_rfl) ?_
  simp only[o_]
  go_wp2
  refine⟨fun _=>⟨⟨w1.drew,HC0.out⟩,rfl⟩,yz true (by kernel_rfl) (by kernel_rfl) ?_⟩
  simp only[o_]
  go_wp2
  refine⟨fun _=>⟨⟨w1.drew,HC0.out⟩,rfl⟩,yz true (by kernel_rfl) (by kernel_rfl) ?_⟩
  simp only[o_]
  go_wp2
  refine⟨fun _=>⟨⟨w1.drew,HC0.out⟩,rfl⟩,yz true (by kernel_rfl) (by kernel_rfl) ?_⟩
  simp only[o_]
  have hbs:=yB9 w1.drew s hb
  go_wp2
  clear hap hbs ho1 hr1 hbl
  have hba:Below w1.heap.size w1 (w1.alloc (.cells (y4 s b) 126)).drew:=((Below.refl _ _).alloc (Nat.le_refl _) _).drew
  have hnew:(w1.alloc (.cells (y4 s b) 126)).drew.heap[w1.heap.size]?=some (.cells (y4 s b) 126 (0,0)):=heap_alloc_new w1 _
  generalize (w1.alloc (.cells (y4 s b) 126)).drew=w2 at hba hnew ⊢
  have hD2:=HD1.out.below hba
  have hpc:=hD2.blk
  have hcl:w2.cell? ⟨v.p,2,none⟩=some (.slice pa pn pc):=(cell_of_row w2 v.p 2 _ _ _ hpc).trans (by unfold yF;rw[HPV.out];rfl)
  have hown:=hD2.pend.own
  rw[←hPN.out] at hown
  have hown':w2.ownsRow B 126 257 (.slice pa pn pc) pn (xC3 d.oper.1.pend):=by rw[←HPV.out];exact hown
  obtain⟨i0,hi,hz0,hz1,hz2⟩:=info_parts Tryz.info_wri
  have hnews:∀ j u,(zD s b)[j]?=some u→w2.cell? ((⟨w1.heap.size,0,none⟩:Addr).add j)=some u:=fun j u hj=>by
   rw[Addr.add_lit,Nat.zero_add,cell_of_row w2 w1.heap.size j _ _ _ hnew];simpa[y4] using hj
  have hpnl:pn<1000000:=by rw[hPN.out];have:d.oper.1.pend=d.pend:=xKg d;rw[this];exact hfew
  have hfew':d.oper.1.pend.length<1000000:=by rw[xKg];exact hfew
  have HOWN:=h_ hown'
  have HNEWS:=h_ hnews
  have HBA:=h_ hba
  have HD2:=h_ hD2
  have hB2:B≤w2.heap.size:=by have:=hba.size;have:=HK1.out.size;omega
  have HI:=h_ (And.intro hi (And.intro hz0 (And.intro hz1 hz2)))
  have HCL:=h_ hcl
  clear hown hown' hnews hba hD2 hnew hpc hi hz0 hz1 hz2 hcl
  refine⟨fun _=>⟨⟨w2,HCL.out⟩,rfl⟩,yz true (by kernel_rfl) (by kernel_rfl) ?_⟩
  simp only[o_]
  go_wp2_with (at_builtin;refine wpList_append_own_at _ rfl (.tmp 32) (.tmp 38) 72 rfl B 126 i0 (.agg (y4 0 zer)) 257 264 Tryz.underlying72 HI.out.1 HI.out.2.1 HI.out.2.2.1 HI.out.2.2.2 (xAb zerL) (by decide) _ pn (xC3 d.oper.1.pend) rfl HOWN.out ⟨w1.heap.size,0,none⟩ 1 1 (zD s b) rfl (uu hb) HNEWS.out (xEv s b) ?cA ?cB hB2 ?_)
  case cA=>unfold maxLen;omega
  case cB=>omega
  intro v' w3 ho3 hg3 hn3 hat3
  have HFIN:=h_ (xTu HD2.out (HPV.out ▸ hg3) hPN.out ho3 (HPV.out ▸ hat3) hfew' hb)
  obtain⟨hp3,hM3,hgrow⟩:=HFIN.out.1
  have hc3:=cell_of_row w3 v.p 2 _ _ _ hp3
  have hf3:=frozen_of_row w3 v.p 2 _ _ hp3
  have hcl3:w3.cell? ⟨v.p,2,none⟩=some (.slice pa pn pc):=hc3.trans (by unfold yF;rw[HPV.out];rfl)
  obtain⟨va,vc,rfl⟩:=yH ho3
  have HCL3:=h_ hcl3
  have hkk:Kept v.foot w w3:=by
   have hBA:=HBA.out
   have hk1:=HK1.out
   refine⟨hg3.os.trans (hBA.os.trans hk1.os),hg3.tape.trans (hBA.tape.trans hk1.tape),hg3.output.trans (hBA.output.trans hk1.output),Nat.le_trans hk1.size (Nat.le_trans hBA.size hg3.size),fun k hk hn=>?_⟩
   have e1:=hk1.block k hk (fun h=>hn (by rw[List.mem_singleton.1 h];exact v.p_foot))
   have e2:=hBA.block k (Nat.lt_of_lt_of_le hk hk1.size)
   have e3:=hg3.block k (Nat.lt_of_lt_of_le hk (Nat.le_trans hk1.size hBA.size)) (fun e=>hn (v.pv_foot (by rw[HPV.out];exact e.symm)))
   exact e3.trans (e2.trans e1)
  have HP:=h_ (show xEq B v d s b w (.returned (.int .i64 0)) (w3.setCell ⟨v.p,2,none⟩ (.slice va (pn+1) vc)) from
   ⟨by rw[HW.out];rfl,hkk.trans (zj w3 v.p 2 _) (fun k hk=>.inl (by rw[List.mem_singleton.1 hk];exact v.p_foot)),{ v with pv:=.slice va (pn+1) vc,ops:=ops,lim:=lim },rfl,rfl,by rw[HW.out];exact HFIN.out.2,fun k hk=>by
    simp only[Dev.foot,List.cons_append,List.nil_append,List.mem_cons,Option.mem_toList] at hk
    rcases hk with rfl | rfl | hk
    ·exact .inl v.p_foot
    ·exact .inl v.M_foot
    ·rcases hat3 with h | h
     ·exact .inl (v.pv_foot (by rw[HPV.out,←h];exact hk))
     ·have h2:k=w2.heap.size:=by rw[h] at hk;exact(Option.some.inj hk).symm
      have:=HBA.out.size
      have:=HK1.out.size
      exact .inr (by omega)⟩)
  clear hkk hcl3 hat3 hn3 hg3 ho3 hp3 hM3 hgrow
  go_wp2_with fail
  refine⟨fun _=>⟨⟨w3,HCL3.out⟩,rfl⟩,xG [12,13,14] _ _ (by kernel_rfl) ?_⟩
  simp only[o_]
  simp only[yF] at hc3
  go_wp2
  refine NoPanic.normal ?_
  go_wp2
  go_ret
  exact HP.out
end
section
attribute [local go_sem ↓] j5 vj j0 vf vm jo xDn xKy
attribute [local go_sem] xHk xLn xMh xLp xj xh xe xd xA u9 xt xC
def durK (d:PD)(k:Nat)(s:Nat):By:=match (d.pend.take k).reverse.find? (fun p=>p.1 == s) with
 | some p=>p.2
 | none=>d.dur s
theorem xY2 (d:PD):durK d d.pend.length=d.vis:=by
 funext s
 unfold durK PD.vis
 rw[List.take_length]
 all_goals (cases d.pend.reverse.find? (fun p=>p.1 == s) <;> rfl)
theorem xV5 (d:PD):durK d 0=d.dur:=by
 funext s
 unfold durK
 simp
theorem xV6 (d:PD)(k:Nat)(hk:k<d.pend.length)(s:Nat):durK d (k+1) s=if s=d.pend[k].1 then d.pend[k].2 else durK d k s:=by
 unfold durK
 rw[List.take_succ_eq_append_getElem hk,List.reverse_append,List.reverse_singleton,List.singleton_append,List.find?_cons]
 by_cases h:s=d.pend[k].1
 ·rw[if_pos h,show (d.pend[k].1 == s)=true by rw[beq_iff_eq];exact h.symm]
 ·rw[if_neg h,show (d.pend[k].1 == s)=false by rw[beq_eq_false_iff_ne];exact fun e=>h e.symm]
theorem yj.putM {B:Nat}{w:World}{v:Dev}{d:PD}(h:yj B w v d)(k:Nat)(b:By)(hb:b.length=256)(f:Nat→By)(hf:∀ s,f s=if s=k then b else d.dur s) :
  yj B (w.putObj v.M (.map ((putL (k:Int) (.agg (xT b)) v.mc v.es).map (enE ekN)).toArray (putC (k:Int) v.mc v.es))) { v with es:=putL (k:Int) (.agg (xT b)) v.mc v.es,mc:=putC (k:Int) v.mc v.es } { d with dur:=f }:=by
 have hne:=h.p_ne
 refine⟨(World.putObj_heap_other hne.1).trans h.blk,h.lim,h.nilp,h.map.put,fun s=>?_,fun s=>?_,h.pend.same (by simp[World.putObj]) (fun j hj=>World.putObj_heap_other (fun e=>(hne.2 j hj).2 e.symm)),h.n1,h.n2,h.few,h.pB,h.MB⟩
 ·show (getK (s:Int) (putL (k:Int) (.agg (xT b)) v.mc v.es)).getD _=.agg (xT (f s))
  rw[xDh,hf]
  by_cases e:s=k
  ·rw[if_pos (by omega),if_pos e];rfl
  ·rw[if_neg (by omega),if_neg e];exact h.dur s
 ·show (f s).length=256
  rw[hf]
  split
  ·exact hb
  ·exact h.durL s
theorem yj.noPend {B:Nat}{w:World}{v:Dev}{d:PD}(h:yj B w v d):yj B (w.setCell ⟨v.p,2,none⟩ (.slice none 0 0)) { v with pv:=.slice none 0 0 } { d with pend:=[] }:=by
 have hne:=h.p_ne
 refine⟨?_,h.lim,fun _=>rfl,?_,h.dur,h.durL,⟨World.ownsRow_nil _ _ _ _,fun x hx=>by cases hx⟩,h.n1,h.n2,Nat.zero_le _,h.pB,h.MB⟩
 ·rw[heap_setCell_same w v.p 2 _ _ _ h.blk];rfl
 ·have hm:=h.map
  unfold y3 at hm ⊢
  exact(heap_setCell_other w ⟨v.p,2,none⟩ v.M _ (fun e=>hne.1 e.symm)).trans hm
def xEt (B:Nat)(v:Dev)(d:PD)(w:World)(e:Ending)(w':World):Prop :=
 e=.returned (.int .i64 (if d.flush.2 then 0 else 28))∧Kept v.foot w w'∧∃ v',v'.p=v.p∧v'.M=v.M∧yj B w' v' d.flush.1∧∀ k∈v'.foot,k∈v.foot∨w.heap.size≤k
structure FlSt (B:Nat)(w:World)(v:Dev)(d:PD)(v1:Dev)(d1:PD)(k:Nat)(W:World):Prop where
 kept:Kept v.foot w W
 at':∃ es mc,yj B W { v1 with es:=es,mc:=mc } { d1 with dur:=durK d1 k }
theorem xKu {B:Nat}{w:World}{v:Dev}{d:PD}(h:yj B w v d)(hd:d.down=false) :
  Calls Tryz.prog 75 #[.pointer (some ⟨v.p,0,none⟩)] w (xEt B v d w):=by
 have c6:=cell_of_row w v.p 6 _ _ _ h.blk
 simp only[yF,hd] at c6
 have HO:=h_ (xF6 h)
 have HDN:=h_ hd
 clear h hd
 go_enter Tryz.func75,Tryz.ntmps75
 go_wp2_with fail
 refine HO.out.mono ?_
 rintro e w1 ⟨rfl,hk1,ops,lim,hD1⟩
 obtain⟨ok,hok⟩:∃ ok,ok=d.oper.2:=⟨_,rfl⟩
 rw[←hok]
 cases ok with
 | false =>
  have hw:d.flush=(d.oper.1,false):=by
   unfold PD.flush
   rw[HDN.out]
   cases hop:d.oper with
   | mk d' o=>rw[hop] at hok;simp only at hok;subst hok;rfl
  have HP:=h_ (show xEt B v d w (.returned (.int .i64 28)) w1 from ⟨by rw[hw];rfl,hk1.mono (fun k hk _=>by rw[List.mem_singleton.1 hk];exact v.p_foot),{ v with ops:=ops,lim:=lim },rfl,rfl,by rw[hw];exact hD1,fun k hk=>.inl hk⟩)
  clear hw hk1 hD1 hok
  go_wp2
  go_ret
  exact HP.out
 | true =>
  have hw:d.flush=(d.oper.1.flushed,true):=by
   unfold PD.flush
   rw[HDN.out]
   cases hop:d.oper with
   | mk d' o=>rw[hop] at hok;simp only at hok;subst hok;rfl
  have HW:=h_ hw
  have HK1:=h_ hk1
  have HD1:=h_ hD1
  obtain⟨v1,hv1⟩:∃ v1:Dev,v1={ v with ops:=ops,lim:=lim }:=⟨_,rfl⟩
  obtain⟨d1,hd1⟩:∃ d1,d1=d.oper.1:=⟨_,rfl⟩
  rw[←hv1,←hd1] at HD1
  rw[←hd1] at HW
  obtain⟨pn,hpn⟩:∃ n,n=d1.pend.length:=⟨_,rfl⟩
  obtain⟨pa,pc,hpv⟩:∃ a c,v1.pv=.slice a pn c:=by rw[hpn];exact yH HD1.out.pend.own
  have hp1:v1.p=v.p:=by rw[hv1]
  have hc2:=cell_of_row w1 v1.p 2 _ _ _ HD1.out.blk
  simp only[yF] at hc2
  have hc2':w1.cell? ⟨v.p,2,none⟩=some (.slice pa pn pc):=by rw[←hp1,←hpv];exact hc2
  have hpl:pn≤1000000:=by rw[hpn];exact HD1.out.few
  have hplz:(pn:Int)≤1000000:=by omega
  have HV1:=h_ hv1
  have HPN:=h_ hpn
  have HPV:=h_ hpv
  have HP1:=h_ hp1
  have HST:Hid (FlSt B w v d v1 d1 0 w1):=h_ ⟨hk1.mono (fun k hk _=>by rw[List.mem_singleton.1 hk];exact v.p_foot),v1.es,v1.mc,by rw[xV5];exact HD1.out⟩
  clear hw hok hk1 hD1 hv1 hd1 hpn hpv hp1 hc2
  go_wp2
  go_loopw [21] (fun u wr=>∃ k:Nat,u=.int .i64 k∧k≤pn∧Hid (FlSt B w v d v1 d1 k wr)) (fun u _=>pn-(intOf u).toNat)
  case atStart=>exact⟨0,rfl,Nat.zero_le _,HST⟩
  case round =>
   obtain⟨k,rfl,hk,HS⟩:=hrel
   by_cases hlt:k<pn
   ·have hltz:(k:Int)<pn:=by omega
    obtain⟨es,mc,hDk⟩:=HS.out.at'
    have hkl:k<d1.pend.length:=by rw[←HPN.out];exact hlt
    obtain⟨g,hpa,hgl,hcell⟩:∃ g,pa=some ⟨g,0,none⟩∧g<wr.heap.size∧∀ i u,(zD d1.pend[k].1 d1.pend[k].2)[i]?=some u→wr.cell? ⟨g,k*257+i,none⟩=some u:=by
     rcases hDk.pend.at with⟨_,h0⟩ | ⟨g,cap,h1,_,h2,_,_,h3⟩
     ·simp only at h0;rw[h0] at hkl;simp at hkl
     ·refine⟨g,?_,h2,fun i u hu=>h3 k hkl i u hu⟩
      have:v1.pv=_:=h1
      rw[HPV.out] at this
      cases this;rfl
    subst hpa
    have hbl:d1.pend[k].2.length=256:=HD1.out.pend.len _ (List.getElem_mem hkl)
    obtain⟨o1,r1⟩:=xVr (w:=wr) (g:=g) (off:=k*257) hbl hcell
    have hsucc:=xV6 d1 k hkl
    obtain⟨⟨xs,xb⟩,hx⟩:∃ x,x=d1.pend[k]:=⟨_,rfl⟩
    rw[←hx] at hbl r1 hsucc
    simp only at hbl r1 hsucc
    have hfw:=xPn xs hbl
    have hz:(y4 0 zer).size=257:=xAb zerL
    have HS1:=h_ hsucc
    have HDk:=h_ hDk
    have HBL:=h_ hbl
    clear hcell hDk hsucc hx hkl hbl
    go_upto_region 9 with fail
    clear o1 r1 hfw hz
    have hnew:=heap_alloc_new wr (.cells (y4 xs xb) 126)
    have hba:Below wr.heap.size wr (wr.alloc (.cells (y4 xs xb) 126)):=(Below.refl _ _).alloc (Nat.le_refl _) _
    obtain⟨W2,hW2⟩:∃ W2,W2=wr.alloc (.cells (y4 xs xb) 126):=⟨_,rfl⟩
    refine xu hW2 ?_
    rw[←hW2] at hnew hba
    clear hW2
    have hD2:=HDk.out.below hba
    have z1:∀ z:xf W2,z.1.cell? ⟨v.p,1,none⟩=some (.map (some v1.M)):=fun z=>z.cell (by rw[←HP1.out];exact cell_of_row W2 v1.p 1 _ _ _ hD2.blk)
    have z2:∀ z:xf W2,z.1.cell? ⟨wr.heap.size,0,none⟩=some (.int .i64 xs):=fun z=>z.cell (cell_of_row W2 wr.heap.size 0 _ _ _ hnew)
    have hcw:=xIh HBL.out hnew
    have z3:∀ z:xf W2,xq z.1 ⟨wr.heap.size,1,none⟩ 256=true:=fun z=>xf.ok hcw.1 z
    have z4:∀ z:xf W2,xp z.1 ⟨wr.heap.size,1,none⟩ 256=xT xb:=fun z=>(xf.rd hcw.1 z).trans hcw.2
    have hup:=xD6 keyN Tryz.underlying71 W2.drew v1.M es mc hD2.map (xs:Int) (.agg (xT xb))
    have hDn:=(hD2.below (Below.refl _ W2).drew).putM xs xb HBL.out (durK d1 (k+1)) HS1.out
    have hkp:Kept v.foot w (W2.drew.putObj v1.M (.map ((putL (xs:Int) (.agg (xT xb)) mc es).map (enE ekN)).toArray (putC (xs:Int) mc es))):=by
     have hM:v1.M∈v.foot:=by rw[HV1.out];exact v.M_foot
     have h2:Kept v.foot w W2:=HS.out.kept.trans (Kept.of_below (F:=[]) hba) (fun _ h=>by cases h)
     exact⟨h2.os,h2.tape,h2.output,by simpa[World.putObj] using h2.size,fun j hj hn=>(World.putObj_heap_other (fun e=>hn (by rw[e];exact hM))).trans (h2.block j hj hn)⟩
    have HN:Hid (FlSt B w v d v1 d1 (k+1) (W2.drew.putObj v1.M (.map ((putL (xs:Int) (.agg (xT xb)) mc es).map (enE ekN)).toArray (putC (xs:Int) mc es)))):=h_ ⟨hkp,_,_,hDn⟩
    clear hkp hDn hcw hD2 hnew hba
    refine xw [0,1,2,3,4,5,6,7] [8] (fun w'=>∃ z:xf W2,w'=z.1) (by kernel_rfl) (by kernel_rfl) (by kernel_rfl) ⟨⟨_,(Below.refl _ _).drew⟩,rfl⟩ ?_
    simp only[o_]
    repeat (go_big_quiet_step (fail))
    refine wpQuiet_nil ?_
    clear z1 z2 z3 z4
    refine xG [8] _ _ (by kernel_rfl) ?_
    simp only[o_]
    generalize W2.drew.putObj v1.M (.map ((putL (xs:Int) (.agg (xT xb)) mc es).map (enE ekN)).toArray (putC (xs:Int) mc es))=W3 at hup HN
    go_wp2
    refine NoPanic.normal ?_
    clear hup
    have hk1:k+1≤pn:=hlt
    go_wp2
    go_roundw
    case rel=>exact⟨k+1,by go_num,hk1,HN⟩
    case measure=>simp[intOf];omega
   ·obtain rfl:k=pn:=by omega
    obtain⟨es,mc,hDk⟩:=HS.out.at'
    have hnp:=hDk.noPend
    have hcp:=cell_of_row wr v1.p 2 _ _ _ hDk.blk
    have hfp:=frozen_of_row wr v1.p 2 _ _ hDk.blk
    simp only[yF] at hcp
    have hcp':wr.cell? ⟨v.p,2,none⟩=some v1.pv:=by rw[←HP1.out];exact hcp
    have hfp':wr.frozen? ⟨v.p,2,none⟩=false:=by rw[←HP1.out];exact hfp
    have hfl:({ d1 with dur:=durK d1 k,pend:=[] }:PD)=d1.flushed:=by unfold PD.flushed;rw[HPN.out,xY2]
    have HP:=h_ (show xEt B v d w (.returned (.int .i64 0)) (wr.setCell ⟨v.p,2,none⟩ (.slice none 0 0)) from
     ⟨by rw[HW.out];rfl,HS.out.kept.trans (zj wr v.p 2 _) (fun k hk=>.inl (by rw[List.mem_singleton.1 hk];exact v.p_foot)),{ v1 with es:=es,mc:=mc,pv:=.slice none 0 0 },by rw[HV1.out],by rw[HV1.out],by rw[HW.out];rw[←hfl,←HP1.out];exact hnp,fun k hk=>by
      simp only[Dev.foot,List.cons_append,List.nil_append,List.mem_cons,Option.mem_toList] at hk
      rcases hk with rfl | rfl | hk
      ·rw[HV1.out];exact .inl v.p_foot
      ·rw[HV1.out];exact .inl v.M_foot
      ·cases hk⟩)
    rw[HPV.out] at hcp'
    clear hDk hnp hcp hfp hfl
    go_wp2
    go_ret
    exact HP.out
end
end Go.Proofs.YthiafifdiaplaaaGreatDoor
