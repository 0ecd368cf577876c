/- Parts of the proofs about bulletinlaw29: Act1, Act2, Act3, Act4, Act5, Act6, Act7, Act8, CloneIdx, Sto1, Sto2, Sto3, Sto4, Sto5, Sto6, Sto7, Sto8, Sto9, Sto10, Sto11, Sto12, Sto13, Sto14, Sto15. -/
import Derived.Test.YthiafifdiaplaaaGreatDoorRL1
import Derived.Test.YthiafifdiaplaaaGreatDoorRL2
import Derived.Test.YthiafifdiaplaaaGreatDoorRL3
import Derived.Test.YthiafifdiaplaaaGreatDoorRL4
import Derived.WalkMore
import Derived.Lib.AppendStr
import Derived.Lib.ConvBytes
set_option maxRecDepth 100000
set_option maxHeartbeats 8000000
namespace Go.Proofs.YthiafifdiaplaaaGreatDoor
open Go Go.RowKit Go.Proofs
theorem j6 (ρ:Operand→Value)(d:Option Tmp)(x:Operand)(ty:TypeId)(pos:String)(af:Array Edge)(g:Option (Nat × Bool))(w:World) :
  Sem.run Tryz.prog (execOp ρ ⟨d,.load 187 x,ty,pos,af,g⟩) w=yx Tryz.prog 187 w (ρ x):=rfl
theorem vk (ρ:Operand→Value)(d:Option Tmp)(x y:Operand)(ty:TypeId)(pos:String)(af:Array Edge)(g:Option (Nat × Bool))(w:World) :
  Sem.run Tryz.prog (execOp ρ ⟨d,.store 187 x y,ty,pos,af,g⟩) w=ym Tryz.prog 187 w (ρ x) (ρ y):=rfl
theorem xHp (w:World)(a:Addr)(h:xq w a 3=true):yx Tryz.prog 187 w (.pointer (some a))=.ok (.value (.agg (xp w a 3))) w :=
 yo Tryz.isAgg187 Tryz.sizeOf187 w a h
theorem xGn (w:World)(g:Nat)(cells:Array Value)(h:xP w g 3=true)(h2:xy 3 cells=true) :
  ym Tryz.prog 187 w (.pointer (some ⟨g,0,none⟩)) (.agg cells)=.ok .skip (w.setRow g cells):=yr (by kernel_rfl) w g cells h h2
theorem qR (ρ:Operand→Value)(d:Option Tmp)(x:Operand)(ty:TypeId)(pos:String)(af:Array Edge)(g:Option (Nat × Bool))(w:World) :
  Sem.run Tryz.prog (execOp ρ ⟨d,.load 53 x,ty,pos,af,g⟩) w=yx Tryz.prog 53 w (ρ x):=rfl
theorem qr (ρ:Operand→Value)(d:Option Tmp)(x y:Operand)(ty:TypeId)(pos:String)(af:Array Edge)(g:Option (Nat × Bool))(w:World) :
  Sem.run Tryz.prog (execOp ρ ⟨d,.store 53 x y,ty,pos,af,g⟩) w=ym Tryz.prog 53 w (ρ x) (ρ y):=rfl
theorem xEi (w:World)(a:Addr)(h:xq w a 2=true):yx Tryz.prog 53 w (.pointer (some a))=.ok (.value (.agg (xp w a 2))) w :=
 yo Tryz.isAgg53 Tryz.sizeOf53 w a h
theorem xE5 (w:World)(g:Nat)(cells:Array Value)(h:xP w g 2=true)(h2:xy 2 cells=true) :
  ym Tryz.prog 53 w (.pointer (some ⟨g,0,none⟩)) (.agg cells)=.ok .skip (w.setRow g cells):=yr (by kernel_rfl) w g cells h h2
theorem xPw (ρ:Operand→Value)(d:Option Tmp)(x:Operand)(ty:TypeId)(pos:String)(af:Array Edge)(g:Option (Nat × Bool))(w:World) :
  Sem.run Tryz.prog (execOp ρ ⟨d,.load 190 x,ty,pos,af,g⟩) w=yx Tryz.prog 190 w (ρ x):=rfl
theorem xMt (ρ:Operand→Value)(d:Option Tmp)(x y:Operand)(ty:TypeId)(pos:String)(af:Array Edge)(g:Option (Nat × Bool))(w:World) :
  Sem.run Tryz.prog (execOp ρ ⟨d,.store 190 x y,ty,pos,af,g⟩) w=ym Tryz.prog 190 w (ρ x) (ρ y):=rfl
theorem yAv (w:World)(a:Addr)(h:xq w a 2=true):yx Tryz.prog 190 w (.pointer (some a))=.ok (.value (.agg (xp w a 2))) w :=
 yo Tryz.isAgg190 Tryz.sizeOf190 w a h
theorem yAe (w:World)(g:Nat)(cells:Array Value)(h:xP w g 2=true)(h2:xy 2 cells=true) :
  ym Tryz.prog 190 w (.pointer (some ⟨g,0,none⟩)) (.agg cells)=.ok .skip (w.setRow g cells):=yr (by kernel_rfl) w g cells h h2
structure AG where
 name:ByteArray
 high:Nat
 pres:Option (Nat × Nat)
 born:Nat
def zf (p:Option (Nat × Nat)):Value:=match p with
 | none=>.slice none 0 0
 | some x=>.slice (some ⟨x.1,0,none⟩) 1 x.2
def y6 (h:Nat)(v:Value):Array Value:=#[.int .i64 h,.bool false,v]
def AG.e (g:AG):KE ByteArray:=⟨g.name,.agg (y6 g.high (zf g.pres)),g.born⟩
def ut:Array Value:=#[.int .i64 0,.bool false,.slice none 0 0]
theorem xG9 (w:World):(zeroValue 187).run Tryz.prog w=.ok (.agg ut) w:=by kernel_rfl
theorem vo (ρ:Operand→Value)(d:Option Tmp)(ty:TypeId)(pos:String)(af:Array Edge)(g:Option (Nat × Bool))(w:World) :
  Sem.run Tryz.prog (execOp ρ ⟨d,.alloc 187,ty,pos,af,g⟩) w=.ok (.value (.pointer (some ⟨w.heap.size,0,none⟩))) (w.alloc (.cells ut 187)):=by kernel_rfl
def IvAt (B:Nat)(w:World)(h:Nat)(p:Option (Nat × Nat)):Prop:=∀ x,p=some x→B≤x.1∧1≤x.2∧x.2≤maxLen∧w.cell? ⟨x.1,0,none⟩=some (.int .i64 h)∧w.cell? ⟨x.1,1,none⟩=some (.int .i64 h)
theorem IvAt.nil (B:Nat)(w:World)(h:Nat):IvAt B w h none:=fun _ e=>by cases e
theorem IvAt.kept {B:Nat}{w w':World}{h:Nat}{p:Option (Nat × Nat)}(hi:IvAt B w h p){F:List Nat}(hk:Kept F w w')(hF:∀ x,p=some x→x.1 ∉ F):IvAt B w' h p:=fun x e=>by
 obtain⟨h1,h2,h2',h3,h4⟩:=hi x e
 have hb:=hk.block x.1 (block_lt_of_cell h3) (hF x e)
 exact⟨h1,h2,h2',(World.cell?_of_block (a:=⟨x.1,0,none⟩) hb).trans h3,(World.cell?_of_block (a:=⟨x.1,1,none⟩) hb).trans h4⟩
structure Tbl where
 p:Nat
 M:Nat
 mc:Nat
 g:Option AG
def Tbl.es (v:Tbl):List (KE ByteArray):=match v.g with
 | none=>[]
 | some g=>[g.e]
structure yR (B:Nat)(w:World)(v:Tbl):Prop where
 blk:w.heap[v.p]?=some (.cells #[.map (some v.M)] 184 (0,0))
 map:y3 ekS w v.M v.es v.mc
 ne:v.p≠v.M
 pB:B≤v.p
 MB:B≤v.M
 ivs:∀ g,v.g=some g→IvAt B w g.high g.pres
 young:∀ g,v.g=some g→g.born<v.mc
def Tbl.foot (v:Tbl):List Nat:=[v.p,v.M]++((v.g.bind (·.pres)).map (·.1)).toList
theorem yR.lt {B:Nat}{w:World}{v:Tbl}(h:yR B w v):v.p<w.heap.size∧v.M<w.heap.size:=⟨(i_ h.blk).1,h.map.lt⟩
theorem yR.kept {B:Nat}{w w':World}{v:Tbl}{F:List Nat}(h:yR B w v)(hk:Kept F w w')(hF:∀ k∈v.foot,k ∉ F):yR B w' v :=
 ⟨(hk.block _ h.lt.1 (hF _ (by simp[Tbl.foot]))).trans h.blk,(hk.block _ h.lt.2 (hF _ (by simp[Tbl.foot]))).trans h.map,h.ne,h.pB,h.MB,
  fun g hg=>(h.ivs g hg).kept hk fun x hx=>hF _ (by simp[Tbl.foot,hg,hx]),h.young⟩
theorem yR.below {B:Nat}{w w':World}{v:Tbl}(h:yR B w v)(hb:Below w.heap.size w w'):yR B w' v:=h.kept (Kept.of_below (F:=[]) hb) (fun _ _ h=>by cases h)
theorem yR.foot_lt {B:Nat}{w:World}{v:Tbl}(h:yR B w v):∀ k∈v.foot,B≤k∧k<w.heap.size:=by
 intro k hk
 unfold Tbl.foot at hk
 simp only[List.mem_append,List.mem_cons,List.not_mem_nil,or_false] at hk
 rcases hk with (rfl | rfl) | hk
 ·exact⟨h.pB,h.lt.1⟩
 ·exact⟨h.MB,h.lt.2⟩
 ·cases hg:v.g with
  | none=>simp[hg] at hk
  | some g =>
   cases hp:g.pres with
   | none=>simp[hg,hp] at hk
   | some x =>
    simp[hg,hp] at hk
    obtain⟨h1,_,_,h3,_⟩:=h.ivs g hg x hp
    subst hk
    exact⟨h1,block_lt_of_cell h3⟩
theorem yR.look_no {B:Nat}{w:World}{v:Tbl}(h:yR B w v)(hg:v.g=none)(k:ByteArray):∀ W,W.heap[v.M]?=w.heap[v.M]?→(Instr.lookup 182 (.map (some v.M)) (.string k) true).run Tryz.prog W=.ok (.tuple #[.agg ut,.bool false]) W:=fun W hW=>by
 have h1:=xBd keyS Tryz.underlying182 (.agg ut) xG9 W v.M v.es v.mc (by have:=h.map;unfold y3 at this ⊢;exact hW.trans this) k
 have he:v.es=[]:=by unfold Tbl.es;rw[hg]
 rw[he] at h1
 exact h1
theorem yR.look_yes {B:Nat}{w:World}{v:Tbl}(h:yR B w v){g:AG}(hg:v.g=some g):∀ W,W.heap[v.M]?=w.heap[v.M]?→(Instr.lookup 182 (.map (some v.M)) (.string g.name) true).run Tryz.prog W=.ok (.tuple #[.agg (y6 g.high (zf g.pres)),.bool true]) W:=fun W hW=>by
 have h1:=xBd keyS Tryz.underlying182 (.agg ut) xG9 W v.M v.es v.mc (by have:=h.map;unfold y3 at this ⊢;exact hW.trans this) g.name
 have he:v.es=[g.e]:=by unfold Tbl.es;rw[hg]
 have hf:yM g.name [g.e] 0=some (0,.agg (y6 g.high (zf g.pres))):=by simp[yM,AG.e]
 rw[he,hf] at h1
 exact h1
theorem yR.get_yes {B:Nat}{w:World}{v:Tbl}(h:yR B w v){g:AG}(hg:v.g=some g):∀ W,W.heap[v.M]?=w.heap[v.M]?→(Instr.lookup 182 (.map (some v.M)) (.string g.name) false).run Tryz.prog W=.ok (.agg (y6 g.high (zf g.pres))) W:=fun W hW=>by
 have h1:=xHg keyS Tryz.underlying182 (.agg ut) xG9 W v.M v.es v.mc (by have:=h.map;unfold y3 at this ⊢;exact hW.trans this) g.name
 have he:v.es=[g.e]:=by unfold Tbl.es;rw[hg]
 have hf:yM g.name [g.e] 0=some (0,.agg (y6 g.high (zf g.pres))):=by simp[yM,AG.e]
 rw[he,hf] at h1
 exact h1
theorem yR.put {B:Nat}{w:World}{v:Tbl}(h:yR B w v)(k:ByteArray)(hi:Nat)(p:Option (Nat × Nat))(hk:∀ g,v.g=some g→g.name=k)(hiv:IvAt B w hi p) :
  ∃ g mc,g.name=k∧g.high=hi∧g.pres=p∧(Instr.mapUpdate 182 (.map (some v.M)) (.string k) (.agg (y6 hi (zf p)))).run Tryz.prog w=.ok () (w.putObj v.M (.map ((Tbl.es ⟨v.p,v.M,mc,some g⟩).map (enE ekS)).toArray mc)) ∧
   yR B (w.putObj v.M (.map ((Tbl.es ⟨v.p,v.M,mc,some g⟩).map (enE ekS)).toArray mc)) ⟨v.p,v.M,mc,some g⟩:=by
 have h1:=xD6 keyS Tryz.underlying182 w v.M v.es v.mc h.map k (.agg (y6 hi (zf p)))
 have hne:∀ x,p=some x→x.1≠v.M:=fun x hx e=>by
  obtain⟨_,_,_,h3,_⟩:=hiv x hx
  have hm:=h.map
  unfold y3 at hm
  unfold World.cell? at h3
  rw[show (⟨x.1,0,none⟩:Addr).block=v.M from e,hm] at h3
  cases h3
 have hivW:∀ o,IvAt B (w.putObj v.M o) hi p:=fun o=>hiv.kept (qB w v.M o) (fun x hx=>by simp;exact hne x hx)
 cases hg:v.g with
 | none =>
  have he:v.es=[]:=by unfold Tbl.es;rw[hg]
  have hp:putL k (.agg (y6 hi (zf p))) v.mc []=[⟨k,.agg (y6 hi (zf p)),v.mc⟩]:=rfl
  have hc:putC k v.mc ([]:List (KE ByteArray))=v.mc+1:=rfl
  rw[he,hp,hc] at h1
  refine⟨⟨k,hi,p,v.mc⟩,v.mc+1,rfl,rfl,rfl,h1,⟨(World.putObj_heap_other h.ne).trans h.blk,h.map.put,h.ne,h.pB,h.MB,?_,?_⟩⟩
  ·rintro g hgg;cases hgg;exact hivW _
  ·rintro g hgg;cases hgg;exact Nat.lt_succ_self _
 | some g =>
  have he:v.es=[g.e]:=by unfold Tbl.es;rw[hg]
  have hgk:=hk g hg
  have hp:putL k (.agg (y6 hi (zf p))) v.mc [g.e]=[⟨k,.agg (y6 hi (zf p)),g.born⟩]:=by
   subst hgk;simp[putL,getK,yM,updL,AG.e]
  have hc:putC k v.mc [g.e]=v.mc:=by
   subst hgk;simp[putC,getK,yM,AG.e]
  rw[he,hp,hc] at h1
  refine⟨⟨k,hi,p,g.born⟩,v.mc,rfl,rfl,rfl,h1,⟨(World.putObj_heap_other h.ne).trans h.blk,h.map.put,h.ne,h.pB,h.MB,?_,?_⟩⟩
  ·rintro g' hgg;cases hgg;exact hivW _
  ·rintro g' hgg;cases hgg;exact h.young g hg
theorem xIq (w:World):Calls Tryz.prog 61 #[] w fun e w'=>e=.returned (.pointer (some ⟨w.heap.size+1,0,none⟩))∧Below w.heap.size w w'∧yR w.heap.size w' ⟨w.heap.size+1,w.heap.size,0,none⟩:=by
 have hmm:=@run_makeMap Tryz.prog
 have hb:Below w.heap.size w ((w.alloc (.map #[] 0)).alloc (.cells #[.map (some w.heap.size)] 184)):=((Below.refl _ _).alloc (Nat.le_refl _) _).alloc (by simp) _
 have hat:yR w.heap.size ((w.alloc (.map #[] 0)).alloc (.cells #[.map (some w.heap.size)] 184)) ⟨w.heap.size+1,w.heap.size,0,none⟩:=by
  refine⟨?_,?_,by simp,by simp,Nat.le_refl _,fun g h=>(by cases h),fun g h=>(by cases h)⟩
  ·have:=heap_alloc_new (w.alloc (.map #[] 0)) (.cells #[.map (some w.heap.size)] 184)
   rw[World.size_alloc] at this
   exact this
  ·unfold y3
   rw[heap_alloc_old _ _ (by simp),heap_alloc_new];rfl
 have HB:=h_ hb
 have HA:=h_ hat
 clear hb hat
 go_enter Tryz.func61,Tryz.ntmps61
 go_wp2
 go_ret
 exact⟨rfl,HB.out,HA.out⟩
section
attribute [local go_sem ↓] j6 vk vo
attribute [local go_sem] xHp xGn zt zw yD yC xj xh xe xd xA xz xo xl xt xC xx
theorem xDk (h:Nat)(p:Option (Nat × Nat)):xy 3 (y6 h (zf p))=true:=by
 unfold y6 zf
 cases p <;> simp[xy,Value.oneCell']
theorem xVe {B:Nat}{w:World}{v:Tbl}(h:yR B w v)(hg:v.g=none)(k:ByteArray)(hG:Gl w)(hk:k.size≤maxLen)(hn:zV k=0) :
  Calls Tryz.prog 364 #[.pointer (some ⟨v.p,0,none⟩),.string k] w fun e w'=>e=.returned (.int .i64 0)∧Kept [v.M] w w'∧∃ g mc,g.name=k∧g.high=0∧g.pres=none∧yR B w' ⟨v.p,v.M,mc,some g⟩:=by
 have HC:=h_ (xC0 k w hG hk)
 rw[hn] at HC
 have H:=h_ h
 have HG0:=h_ hg
 clear h hG hk hn hg
 go_enter Tryz.func364,Tryz.ntmps364
 go_wp2_with fail
 refine HC.out.mono ?_
 rintro e w1 ⟨rfl,hb1⟩
 clear HC
 have HB1:=h_ hb1
 have hd1:=H.out.below hb1
 have c0:=cell_of_row w1 v.p 0 _ _ _ hd1.blk
 simp only[v_] at c0
 have hlk:=hd1.look_no HG0.out k w1 rfl
 obtain⟨w2,hw2⟩:∃ w2,w2=w1.alloc (.cells ut 187):=⟨_,rfl⟩
 have hb2:Below w1.heap.size w1 w2:=by rw[hw2];exact b_ _ _
 have hn2:w2.heap[w1.heap.size]?=some (.cells ut 187 (0,0)):=by rw[hw2];exact heap_alloc_new w1 _
 have hd2:=hd1.below hb2
 have HB2:=h_ (hb1.trans (hb2.mono hb1.size))
 have HD2:=h_ hd2
 have HN2:=h_ hn2
 have hz3:(ut.size == 3)=true:=rfl
 have hfz:xy 3 ut=true:=xDk 0 none
 clear hd1 hb1 hb2 hn2 hd2
 go_upto_region 7 with fail
 refine xu hw2 ?_
 clear hw2 hlk c0
 have HD2':=HD2.out
 have c2:=cell_of_row w2 v.p 0 _ _ _ HD2'.blk
 have q1:=cell_of_row w2 w1.heap.size 1 _ _ _ HN2.out
 have f1:=frozen_of_row w2 w1.heap.size 1 _ _ HN2.out
 simp only[ut,v_] at c2 q1
 have hln:=xG5 Tryz.underlying182 HD2'.map 3
 have hes:v.es=[]:=by unfold Tbl.es;rw[HG0.out]
 rw[hes,List.length_nil,show ((0:Nat):Int)=0 from rfl] at hln
 have hq:∀ w,Sem.run Tryz.prog (binOp .eql 182 (.map (some v.M)) (.map none)) w=.ok (.bool false) w:=fun w=>run_eql_map_nil w 182 _ _ (some v.M) Tryz.underlying182
 obtain⟨w3,hw3⟩:∃ w3,w3=w2.setCell ⟨w1.heap.size,1,none⟩ (.bool false):=⟨_,rfl⟩
 have hb3:Below w.heap.size w w3:=by rw[hw3];exact HB2.out.setCell (p:=⟨w1.heap.size,1,none⟩) HB1.out.size _
 have hn3:w3.heap[w1.heap.size]?=some (.cells ut 187 (0,0)):=by rw[hw3,heap_setCell_same w2 w1.heap.size 1 _ _ _ HN2.out];rfl
 have hd3:=H.out.below hb3
 have HB3:=h_ hb3
 have HD3:=h_ hd3
 have c3:=cell_of_row w3 v.p 0 _ _ _ hd3.blk
 simp only[v_] at c3
 have z0:∀ z:xf w3,z.1.cell? ⟨v.p,0,none⟩=some (.map (some v.M)):=fun z=>z.cell c3
 have rr:=xI (n:=3) hn3 rfl
 have z1:∀ z:xf w3,xq z.1 ⟨w1.heap.size,0,none⟩ 3=true:=fun z=>xf.ok rr.1 z
 have z2:∀ z:xf w3,xp z.1 ⟨w1.heap.size,0,none⟩ 3=ut:=fun z=>(xf.rd rr.1 z).trans rr.2
 clear hb3 hn3 hd3 c3 rr HD2' hes
 go_upto_region 11 with fail
 clear hln
 go_upto_region 14 with fail
 refine xu hw3 ?_
 clear hw3 c2 q1 f1 hq
 have hd4:=HD3.out.below ((Below.refl w3.heap.size w3).drew)
 obtain⟨g,mc,e1,e2,e3,hup,hat⟩:=hd4.put k 0 none (fun g e=>by rw[HG0.out] at e;cases e) (IvAt.nil _ _ _)
 have hkp:Kept [v.M] w (w3.drew.putObj v.M (.map ((Tbl.es ⟨v.p,v.M,mc,some g⟩).map (enE ekS)).toArray mc)):=(Kept.of_below (F:=[v.M]) (HB3.out.trans ((Below.refl w3.heap.size w3).drew.mono HB3.out.size))).trans (qB _ _ _) (fun q hq=>.inl hq)
 have HF:=h_ (And.intro hkp hat)
 have HE:=h_ (And.intro e1 (And.intro e2 e3))
 generalize w3.drew.putObj v.M (.map ((Tbl.es ⟨v.p,v.M,mc,some g⟩).map (enE ekS)).toArray mc)=w5 at hup HF
 have hzz:y6 0 (zf none)=ut:=rfl
 rw[hzz] at hup
 clear hd4 e1 e2 e3 hkp hat hzz
 refine xw [0,1,2,3,4,5] [6] (fun w'=>∃ z:xf w3,w'=z.1) (by kernel_rfl) (by kernel_rfl) (by kernel_rfl) ⟨⟨w3.drew,(Below.refl _ _).drew⟩,rfl⟩ ?_
 simp only[o_]
 repeat (go_big_quiet_step (fail))
 refine wpQuiet_nil ?_
 clear z0 z1 z2
 refine xG [6] _ _ (by kernel_rfl) ?_
 simp only[o_]
 go_wp2
 refine NoPanic.normal ?_
 clear hup
 go_wp2
 go_ret
 exact⟨rfl,HF.out.1,g,mc,HE.out.1,HE.out.2.1,HE.out.2.2,HF.out.2⟩
end
section
theorem yT {P:Program}{c:Code}{Q:Exit→Act→World→Prop}{a:Act}{w:World}
  (h:c.wp P (Exit.then (fun a' w'=>c.wp P (Exit.then (fun _ _=>False) Q) a' w') Q) a w):(Code.loop c).wp P Q a w:=by
 classical
 refine wp_loop (fun a' w'=>(a'=a∧w'=w)∨c.wp P (Exit.then (fun _ _=>False) Q) a' w') (fun a' w'=>if c.wp P (Exit.then (fun _ _=>False) Q) a' w' then 0 else 1) (.inl ⟨rfl,rfl⟩) fun a' w' hI=>?_
 by_cases hJ:c.wp P (Exit.then (fun _ _=>False) Q) a' w'
 ·exact Code.wp_mono (fun e a w q=>by cases e <;> first | exact q | exact q.elim) hJ
 ·rcases hI with⟨rfl,rfl⟩ | hI
  ·refine Code.wp_mono (fun e a w q=>?_) h
   cases e <;> first | exact q | (have q':c.wp P (Exit.then (fun _ _=>False) Q) a w:=q;exact⟨.inr q',by rw[if_neg hJ,if_pos q'];exact Nat.zero_lt_one⟩)
  ·exact absurd hI hJ
theorem xD8 {w:World}{B:Nat}{e:TypeId}{v x y:Value}(h:w.ownsRow B e 2 v 1 [x,y]):∃ g cap,v=.slice (some ⟨g,0,none⟩) 1 cap∧B≤g∧1≤cap∧cap≤maxLen∧g<w.heap.size∧w.cell? ⟨g,0,none⟩=some x∧w.cell? ⟨g,1,none⟩=some y:=by
 rcases h.2 with⟨_,h0⟩ | ⟨g,cap,cur,hv,hg,hcur,hle,hmx,hcs,htk⟩
 ·omega
 ·refine⟨g,cap,hv,hg,hle,hmx,(i_ hcur).1,?_,?_⟩
  ·rw[cell_of_row w g 0 _ _ _ hcur]
   have h1:cur.toList[0]?=some x:=by
    have:(cur.toList.take (1*2))[0]?=some x:=by rw[htk];rfl
    rwa [List.getElem?_take_of_lt (by omega)] at this
   rw[←Array.getElem?_toList];exact h1
  ·rw[cell_of_row w g 1 _ _ _ hcur]
   have h1:cur.toList[1]?=some y:=by
    have:(cur.toList.take (1*2))[1]?=some y:=by rw[htk];rfl
    rwa [List.getElem?_take_of_lt (by omega)] at this
   rw[←Array.getElem?_toList];exact h1
attribute [local go_sem ↓] j6 vk vo
attribute [local go_sem] xHp xGn zt zw yD yC xj xh xe xd xA xz xo xl xt xC xx
theorem xRb (a:Addr)(cap:Nat)(s:ByteArray)(w:World):Calls Tryz.prog 250 #[.slice (some a) 0 cap,.string s] w fun e w'=>e=.returned (.int .i64 (-1))∧w=w':=by
 go_enter Tryz.func250,Tryz.ntmps250
 go_wp2
 refine wp_loop_once ?_
 go_wp2
 go_ret
 exact⟨rfl,rfl⟩
theorem xJ4 (a:Addr)(cap:Nat)(s:ByteArray)(w:World):Calls Tryz.prog 202 #[.slice (some a) 0 cap,.string s] w fun e w'=>e=.returned (.bool false)∧w=w':=by
 have HI:=h_ (xRb a cap s w)
 go_enter Tryz.func202,Tryz.ntmps202
 go_wp2_with fail
 refine HI.out.mono ?_
 rintro e w' ⟨rfl,rfl⟩
 go_wp2
 go_ret
 exact⟨rfl,rfl⟩
theorem Tryz.info_ivl:(Tryz.prog.info? 190).map (fun i=>(i.zero,i.size,i.bytes))=some (some (.agg #[.int .i64 0,.int .i64 0]),2,16):=by kernel_rfl
theorem Tryz.info_pla:(Tryz.prog.info? 53).map (fun i=>(i.zero,i.size,i.bytes))=some (some (.agg #[.string ⟨#[]⟩,.int .i64 0]),2,24):=by kernel_rfl
theorem xVb (n:Nat)(_hn:n≤2147483647)(w:World):Calls Tryz.prog 345 #[.slice none 0 0,.int .i64 n] w fun e w'=>Below w.heap.size w w'∧∃ x,e=.returned (zf (some x))∧IvAt w.heap.size w' n (some x):=by
 obtain⟨i0,hi,hz0,hz1,hz2⟩:=info_parts Tryz.info_ivl
 have hb1:Below w.heap.size w (w.alloc (.cells #[.int .i64 n,.int .i64 n] 190)):=(Below.refl _ _).alloc (Nat.le_refl _) _
 have hn1:(w.alloc (.cells #[.int .i64 n,.int .i64 n] 190)).heap[w.heap.size]?=some (.cells #[.int .i64 n,.int .i64 n] 190 (0,0)):=heap_alloc_new w _
 have hcs:∀ j u,([.int .i64 n,.int .i64 n]:List Value)[j]?=some u→(w.alloc (.cells #[.int .i64 n,.int .i64 n] 190)).cell? ((⟨w.heap.size,0,none⟩:Addr).add j)=some u:=fun j u hj=>by
  rw[Addr.add_lit,Nat.zero_add,cell_of_row (w.alloc (.cells #[.int .i64 n,.int .i64 n] 190)) w.heap.size j _ _ _ hn1,List.getElem?_toArray];exact hj
 have HI:=h_ (And.intro hi (And.intro hz0 (And.intro hz1 hz2)))
 have HB1:=h_ hb1
 have HCS:=h_ hcs
 clear hi hz0 hz1 hz2 hb1 hn1 hcs
 go_enter Tryz.func345,Tryz.ntmps345
 go_upto_region 5 with fail
 go_wp2_with (at_builtin;refine wpList_append_own_at _ rfl (.tmp 27) (.tmp 31) 185 rfl w.heap.size 190 i0 (.agg #[.int .i64 0,.int .i64 0]) 2 16 Tryz.underlying185 HI.out.1 HI.out.2.1 HI.out.2.2.1 HI.out.2.2.2 rfl (by decide) _ 0 [] rfl (World.ownsRow_nil _ _ _ _) ⟨w.heap.size,0,none⟩ 1 1 [.int .i64 n,.int .i64 n] rfl rfl HCS.out (by intro u hu;simp at hu;subst hu;rfl) (by unfold maxLen;omega) (by omega) HB1.out.size ?_)
 intro v' w' ho hg _ _
 obtain⟨g,cap,rfl,hB,h1,h2,_,h3,h4⟩:=xD8 ho
 have HF:=h_ (And.intro (HB1.out.grown hg HB1.out.size (fun k e=>by cases e)) (show IvAt w.heap.size w' n (some (g,cap)) from fun x e=>by cases e;exact⟨hB,h1,h2,h3,h4⟩))
 clear ho hg hB h1 h2 h3 h4
 go_wp2
 go_ret
 exact⟨HF.out.1,(g,cap),rfl,HF.out.2⟩
theorem xVg {B:Nat}{w:World}{v:Tbl}(h:yR B w v)(g:AG)(hg:v.g=some g) :
  Calls Tryz.prog 354 #[.pointer (some ⟨v.p,0,none⟩),.string g.name] w fun e w'=>Below w.heap.size w w'∧e=.returned (.tuple #[.agg (y6 g.high (zf g.pres)),.int .i64 0]):=by
 obtain⟨w1,hw1⟩:∃ w1,w1=w.alloc (.cells ut 187):=⟨_,rfl⟩
 have hb1:Below w.heap.size w w1:=by rw[hw1];exact b_ _ _
 have hn1:w1.heap[w.heap.size]?=some (.cells ut 187 (0,0)):=by rw[hw1];exact heap_alloc_new w _
 have hd1:=h.below hb1
 have c0:=cell_of_row w1 v.p 0 _ _ _ hd1.blk
 simp only[v_] at c0
 have hlk:=hd1.look_yes hg w1 rfl
 obtain⟨w2,hw2⟩:∃ w2,w2=w1.alloc (.cells (y6 g.high (zf g.pres)) 187):=⟨_,rfl⟩
 have hb2:Below w1.heap.size w1 w2:=by rw[hw2];exact b_ _ _
 have hn2:w2.heap[w1.heap.size]?=some (.cells (y6 g.high (zf g.pres)) 187 (0,0)):=by rw[hw2];exact heap_alloc_new w1 _
 have hr2:=(hb2.block _ (i_ hn1).1).trans hn1
 have hfx:=xDk g.high g.pres
 have hz3:(ut.size == 3)=true:=rfl
 obtain⟨o2,r2⟩:=xI (n:=3) hn2 rfl
 have hro:xP w2 w.heap.size 3=true:=zq hr2 rfl
 have hr3:=setRow_heap w2 w.heap.size _ (y6 g.high (zf g.pres)) _ _ hr2
 obtain⟨o3,r3⟩:=xI (n:=3) hr3 rfl
 have HF:=h_ (And.intro (xJ (hb1.trans (hb2.mono hb1.size)) (Nat.le_refl _) (y6 g.high (zf g.pres))) (And.intro o3 r3))
 generalize y6 g.high (zf g.pres)=cs at hlk hw2 hfx o2 r2 HF ⊢
 clear h hb1 hn1 hd1 hb2 hn2 hr2 hr3 o3 r3
 go_enter Tryz.func354,Tryz.ntmps354
 go_upto_region 1 with fail
 refine xu hw1 ?_
 clear hw1
 go_upto_region 4 with fail
 refine xu hw2 ?_
 clear hw2 hlk
 go_wp2
 exact bodyPost_ret (v:=.tuple #[.agg cs,.int .i64 0]) (uN rfl Tryz.isAgg187 Tryz.sizeOf187 _ _ ⟨w.heap.size,0,none⟩ _ _ rfl rfl HF.out.2.1 HF.out.2.2) rfl ⟨HF.out.1,rfl⟩
end
section
attribute [local go_sem ↓] j6 vk vo
attribute [local go_sem] xHp xGn zt zw yD yC xj xh xe xd xA xz xo xl xt xC xx
theorem xV1:Tryz.prog.elem 40=9:=by kernel_rfl
theorem xVw (a:Addr)(len cap:Nat)(w:World):Sem.run Tryz.prog (Instr.sliceAt 40 (.slice (some a) len cap) none (some (.int .i64 0)) none) w=.ok (.slice (some a) 0 cap) w:=by
 rw[run_sliceAt_slice w 40 _ _ _ _ (by kernel_rfl),run_slice_h w 40 (some a) len cap (by kernel_rfl) .i64 0 (by omega) (by omega),xV1,Tryz.sizeOf9]
 simp only[Result.andThen_ok,sliced,Option.map_some,Nat.sub_zero,Nat.zero_mul]
 split <;> rfl
theorem xQm {B:Nat}{w:World}{v:Tbl}(h:yR B w v)(g:AG)(hg:v.g=some g)(hp:g.pres=none)(hh:g.high≤1000000)(a:Addr)(cap:Nat)(ha:w.cell? a=some (.string g.name))(hc:1≤cap) :
  Calls Tryz.prog 343 #[.pointer (some ⟨v.p,0,none⟩),.slice (some a) 1 cap] w fun e w' =>
   ∃ pb pc,e=.returned (.tuple #[.slice (some ⟨pb,0,none⟩) 1 pc,.int .i64 0])∧w.heap.size≤pb∧pb<w'.heap.size∧1≤pc∧pc≤maxLen∧w'.cell? ⟨pb,0,none⟩=some (.string g.name)∧w'.cell? ⟨pb,1,none⟩=some (.int .i64 (g.high+1:Nat)) ∧
   Kept [v.M] w w'∧∃ g' mc x,g'.name=g.name∧g'.high=g.high+1∧g'.pres=some x∧w.heap.size≤x.1∧x.1≠pb∧yR B w' ⟨v.p,v.M,mc,some g'⟩:=by
 have hab:=block_lt_of_cell ha
 have c0:=cell_of_row w v.p 0 _ _ _ h.blk
 simp only[v_] at c0
 obtain⟨w1,hw1⟩:∃ w1,w1=w.alloc (.cells (y6 g.high (.slice none 0 0)) 187):=⟨_,rfl⟩
 have hb1:Below w.heap.size w w1:=by rw[hw1];exact b_ _ _
 have hn1:w1.heap[w.heap.size]?=some (.cells (y6 g.high (.slice none 0 0)) 187 (0,0)):=by rw[hw1];exact heap_alloc_new w _
 have hlk:=h.look_yes hg w rfl
 rw[hp] at hlk
 have hfx:=xDk g.high none
 have hz3:(ut.size == 3)=true:=rfl
 have hss:=xVw a 1 cap
 have hone:(1:Int)≤cap:=by omega
 have HCN:=h_ (xJ4 a cap g.name w)
 have H:=h_ h
 have HG:=h_ (And.intro hg hp)
 have HB1:=h_ hb1
 have HN1:=h_ hn1
 have HA:=h_ ha
 have HHH:=h_ hh
 unfold zf at hlk hfx
 obtain⟨hi,hhi⟩:∃ hi:Int,hi=(g.high:Int):=⟨_,rfl⟩
 have hhz:hi≤1000000:=by omega
 have hhz0:0≤hi:=by omega
 have hdd:decide (2147483646≤hi)=false:=decide_eq_false (by omega)
 unfold y6 at hw1 hlk hfx
 rw[←hhi] at hw1 hlk hfx
 obtain⟨nm,hnm⟩:∃ nm,nm=g.name:=⟨_,rfl⟩
 rw[←hnm] at hlk ha HCN ⊢
 have HNM:=h_ hnm
 have HHI:=h_ hhi
 clear h hg hp hb1 hn1 hh hhi hnm
 go_enter Tryz.func343,Tryz.ntmps343
 go_wp2
 go_step3
 go_wp2
 refine yT ?_
 go_wp2_with fail
 refine HCN.out.mono ?_
 rintro e w' ⟨rfl,rfl⟩
 clear hss
 go_wp2
 go_step3
 go_wp2
 refine yT ?_
 go_upto_region 14 with fail
 refine xu hw1 ?_
 clear hw1 hlk
 have q0:=cell_of_row w1 w.heap.size 0 _ _ _ HN1.out
 have q1:=cell_of_row w1 w.heap.size 1 _ _ _ HN1.out
 simp only[y6,v_] at q0 q1
 rw[←HHI.out] at q0
 have hd1:=H.out.below HB1.out
 have p0:=cell_of_row w1 v.p 0 _ _ _ hd1.blk
 simp only[v_] at p0
 have ha1:w1.cell? a=some (.string nm):=(HB1.out.cell (block_lt_of_cell ha)).trans ha
 have hgt:=hd1.get_yes HG.out.1 w1 rfl
 rw[HG.out.2,←HNM.out] at hgt
 unfold zf y6 at hgt
 rw[←HHI.out] at hgt
 have HD1:=h_ hd1
 clear hd1 c0 ha
 go_wp2
 refine yT ?_
 obtain⟨w2,hw2⟩:∃ w2,w2=w1.alloc (.cells #[.int .i64 hi,.bool false,.slice none 0 0] 187):=⟨_,rfl⟩
 have hb2:Below w1.heap.size w1 w2:=by rw[hw2];exact b_ _ _
 have hn2:w2.heap[w1.heap.size]?=some (.cells #[.int .i64 hi,.bool false,.slice none 0 0] 187 (0,0)):=by rw[hw2];exact heap_alloc_new w1 _
 clear q0 q1 hdd
 go_upto_region 28 with fail
 refine xu hw2 ?_
 clear hw2 hgt p0
 have q0:=cell_of_row w2 w1.heap.size 0 _ _ _ hn2
 have f0:=frozen_of_row w2 w1.heap.size 0 _ _ hn2
 simp only[v_] at q0
 obtain⟨h1,hh1⟩:∃ h1:Nat,h1=g.high+1:=⟨_,rfl⟩
 have hh1z:hi+1=(h1:Int):=by have:=HHI.out;omega
 obtain⟨w3,hw3⟩:∃ w3,w3=w2.setCell ⟨w1.heap.size,0,none⟩ (.int .i64 h1):=⟨_,rfl⟩
 have hn3:w3.heap[w1.heap.size]?=some (.cells #[.int .i64 h1,.bool false,.slice none 0 0] 187 (0,0)):=by rw[hw3,heap_setCell_same w2 w1.heap.size 0 _ _ _ hn2];rfl
 have hb3:Below w1.heap.size w1 w3:=by rw[hw3];exact hb2.setCell (p:=⟨w1.heap.size,0,none⟩) (Nat.le_refl _) _
 have hh1k:h1≤1000001:=by have:=HHH.out;omega
 have hh1l:(h1:Int)≤1000001:=by omega
 have HW:=h_ (xVb h1 (by omega) w3)
 have HH1:=h_ hh1
 have HB3:=h_ hb3
 have HN3:=h_ hn3
 clear hb2 hn2 hn3 hb3 hh1k hh1
 go_upto_region 29 with fail
 refine xu hw3 ?_
 clear hw3 q0 f0 hh1z
 have q0:=cell_of_row w3 w1.heap.size 0 _ _ _ HN3.out
 have q2:=cell_of_row w3 w1.heap.size 2 _ _ _ HN3.out
 simp only[v_] at q0 q2
 go_wp2_with fail
 refine HW.out.mono ?_
 rintro e w4 ⟨hb4,x,rfl,hiv⟩
 have hn4:=(hb4.block _ (i_ HN3.out).1).trans HN3.out
 have r2:=cell_of_row w4 w1.heap.size 2 _ _ _ hn4
 have r2f:=frozen_of_row w4 w1.heap.size 2 _ _ hn4
 simp only[v_] at r2
 obtain⟨w5,hw5⟩:∃ w5,w5=w4.setCell ⟨w1.heap.size,2,none⟩ (zf (some x)):=⟨_,rfl⟩
 have hn5:w5.heap[w1.heap.size]?=some (.cells (y6 h1 (zf (some x))) 187 (0,0)):=by rw[hw5,heap_setCell_same w4 w1.heap.size 2 _ _ _ hn4];rfl
 have hb14:Below w1.heap.size w1 w4:=HB3.out.trans (hb4.mono HB3.out.size)
 have hb5:Below w1.heap.size w1 w5:=by rw[hw5];exact hb14.setCell (p:=⟨w1.heap.size,2,none⟩) (Nat.le_refl _) _
 have hx3:=(hiv x rfl).1
 have hiv5:IvAt w3.heap.size w5 h1 (some x):=hiv.kept (by rw[hw5];exact zc w4 ⟨w1.heap.size,2,none⟩ _) (fun y e=>by
  cases e;intro hm;simp at hm;have:=(i_ HN3.out).1;omega)
 have HX:=h_ hx3
 have HIV:=h_ hiv5
 have HB5:=h_ hb5
 have HN5:=h_ hn5
 clear q0 q2 HW hb4 hiv hn4 hn5 hb14 hb5 hx3 hiv5
 unfold zf at hw5
 unfold zf
 go_upto_region 30 with fail
 refine xu hw5 ?_
 clear hw5 r2 r2f
 have hwb5:Below w.heap.size w w5:=HB1.out.trans (HB5.out.mono HB1.out.size)
 have hd5:=H.out.below hwb5
 have hvM:v.M<w.heap.size:=H.out.lt.2
 have hs1:w.heap.size<w1.heap.size:=(i_ HN1.out).1
 have c5:=cell_of_row w5 v.p 0 _ _ _ hd5.blk
 simp only[v_] at c5
 have z0:∀ z:xf w5,z.1.cell? ⟨v.p,0,none⟩=some (.map (some v.M)):=fun z=>z.cell c5
 have rr:=xI (n:=3) HN5.out rfl
 have z1:∀ z:xf w5,xq z.1 ⟨w1.heap.size,0,none⟩ 3=true:=fun z=>xf.ok rr.1 z
 have z2:∀ z:xf w5,xp z.1 ⟨w1.heap.size,0,none⟩ 3=y6 h1 (zf (some x)):=fun z=>(xf.rd rr.1 z).trans rr.2
 have hd5':=hd5.below ((Below.refl w5.heap.size w5).drew)
 have hx13:w1.heap.size≤w3.heap.size:=HB3.out.size
 have hxw:w.heap.size≤x.1:=by have:=HX.out;omega
 have hBw:B≤w.heap.size:=Nat.le_trans H.out.pB (Nat.le_of_lt H.out.lt.1)
 obtain⟨g',mc,e1,e2,e3,hup,hat⟩:=hd5'.put nm h1 (some x) (fun g0 e=>by rw[HG.out.1] at e;cases e;exact HNM.out.symm) (fun y e=>by
  obtain⟨k1,k2,k3,k4,k5⟩:=HIV.out y e
  have:B≤y.1:=by cases e;omega
  exact⟨this,k2,k3,k4,k5⟩)
 obtain⟨w6,hw6⟩:∃ w6,w6=w5.drew.putObj v.M (.map ((Tbl.es ⟨v.p,v.M,mc,some g'⟩).map (enE ekS)).toArray mc):=⟨_,rfl⟩
 rw[←hw6] at hup hat
 have hkp:Kept [v.M] w w6:=by
  rw[hw6]
  exact(Kept.of_below (F:=[v.M]) (hwb5.trans ((Below.refl w5.heap.size w5).drew.mono hwb5.size))).trans (qB _ _ _) (fun q hq=>.inl hq)
 have hn6:w6.heap[w1.heap.size]?=some (.cells (y6 h1 (zf (some x))) 187 (0,0)):=by
  rw[hw6,World.putObj_heap_other (by omega)];exact HN5.out
 have HKP:=h_ hkp
 have HAT:=h_ hat
 have HE:=h_ (And.intro e1 (And.intro e2 e3))
 have HXW:=h_ hxw
 have HXL:Hid (x.1<w6.heap.size):=h_ (by
  have h1':x.1<w5.heap.size:=block_lt_of_cell (HIV.out x rfl).2.2.2.1
  have:w6.heap.size=w5.heap.size:=by rw[hw6];simp[World.putObj]
  omega)
 clear hwb5 hd5 hvM c5 rr hd5' hx13 hxw hBw e1 e2 e3 hat hw6 hkp
 refine xw [0,1,2,3,4,5] [6] (fun w'=>∃ z:xf w5,w'=z.1) (by kernel_rfl) (by kernel_rfl) (by kernel_rfl) ⟨⟨w5.drew,(Below.refl _ _).drew⟩,rfl⟩ ?_
 simp only[o_]
 repeat (go_big_quiet_step (fail))
 refine wpQuiet_nil ?_
 clear z0 z1 z2
 refine xG [6] _ _ (by kernel_rfl) ?_
 simp only[o_]
 go_wp2
 refine NoPanic.normal ?_
 clear hup
 have q0:=cell_of_row w6 w1.heap.size 0 _ _ _ hn6
 simp only[y6,v_] at q0
 obtain⟨i0,hi0,hz0,hz1,hz2⟩:=info_parts Tryz.info_pla
 have HI:=h_ (And.intro hi0 (And.intro hz0 (And.intro hz1 hz2)))
 have hb7:Below w6.heap.size w6 (w6.alloc (.cells #[.string nm,.int .i64 h1] 53)):=(Below.refl _ _).alloc (Nat.le_refl _) _
 have hn7:=heap_alloc_new w6 (.cells #[.string nm,.int .i64 h1] 53)
 have HCS:Hid (∀ j u,([.string nm,.int .i64 h1]:List Value)[j]?=some u→(w6.alloc (.cells #[.string nm,.int .i64 h1] 53)).cell? ((⟨w6.heap.size,0,none⟩:Addr).add j)=some u):=h_ fun j u hj=>by
  rw[Addr.add_lit,Nat.zero_add,cell_of_row _ w6.heap.size j _ _ _ hn7,List.getElem?_toArray];exact hj
 have HB7:=h_ hb7
 clear hi0 hz0 hz1 hz2 hb7 hn6 hn7
 go_wp2_with (at_builtin;refine wpList_append_own_at _ rfl (.tmp 94) (.tmp 99) 35 rfl w6.heap.size 53 i0 (.agg #[.string ⟨#[]⟩,.int .i64 0]) 2 24 Tryz.underlying35 HI.out.1 HI.out.2.1 HI.out.2.2.1 HI.out.2.2.2 rfl (by decide) _ 0 [] rfl (World.ownsRow_nil _ _ _ _) ⟨w6.heap.size,0,none⟩ 1 1 [.string nm,.int .i64 h1] rfl rfl HCS.out (by intro u hu;simp at hu;rcases hu with rfl | rfl <;> rfl) (by unfold maxLen;omega) (by omega) HB7.out.size ?_)
 intro v' w' ho hgr _ _
 obtain⟨pb,pc,rfl,hpB,k1,k2,k3,k4,k5⟩:=xD8 ho
 have hb8:Below w6.heap.size w6 w':=HB7.out.grown hgr HB7.out.size (fun k e=>by cases e)
 have HF:=h_ (And.intro hb8 (And.intro hpB (And.intro k1 (And.intro k2 (And.intro k3 (And.intro k4 k5))))))
 clear ho hgr hb8 hpB k1 k2 k3 k4 k5 q0
 go_wp2
 simp only[Exit.noGoto]
 go_ret2
 obtain⟨hb8,hpB,k1,k2,k3,k4,k5⟩:=HF.out
 have hs6:=HKP.out.size
 refine⟨pb,pc,rfl,by omega,k3,k1,k2,k4,?_,HKP.out.trans (Kept.of_below (F:=[]) hb8) (fun q hq=>by cases hq),g',mc,x,HE.out.1,HE.out.2.1.trans HH1.out,HE.out.2.2,HXW.out,by have:=HXL.out;omega,HAT.out.below hb8⟩
 rw[←HH1.out];exact k5
end
section
attribute [local go_sem ↓] j6 vk vo xPw xMt qR qr
attribute [local go_sem] xHp xGn yAv yAe xEi xE5 zt zw yD yC xj xh xe xd xA xz xo xl xt xC xx
theorem xVf (n:Nat)(bx:Nat)(w:World)(hx:w.cell? ⟨bx,0,none⟩=some (.int .i64 n)):Calls Tryz.prog 359 #[.agg #[.int .i64 n,.int .i64 n],.pointer (some ⟨bx,0,none⟩)] w fun e w'=>e=.returned (.bool true)∧Below w.heap.size w w':=by
 obtain⟨w1,hw1⟩:∃ w1,w1=w.alloc (.cells #[.int .i64 n,.int .i64 n] 190):=⟨_,rfl⟩
 have hb1:Below w.heap.size w w1:=by rw[hw1];exact b_ _ _
 have hn1:w1.heap[w.heap.size]?=some (.cells #[.int .i64 n,.int .i64 n] 190 (0,0)):=by rw[hw1];exact heap_alloc_new w _
 have q0:=cell_of_row w1 w.heap.size 0 _ _ _ hn1
 have q1:=cell_of_row w1 w.heap.size 1 _ _ _ hn1
 simp only[v_] at q0 q1
 have hx1:w1.cell? ⟨bx,0,none⟩=some (.int .i64 n):=(hb1.cell (p:=⟨bx,0,none⟩) (block_lt_of_cell hx)).trans hx
 have HB:=h_ hb1
 clear hb1 hn1 hx
 go_enter Tryz.func359,Tryz.ntmps359
 go_upto_region 1 with fail
 refine xu hw1 ?_
 clear hw1
 go_wp2
 go_ret
 exact⟨rfl,HB.out⟩
theorem xSp (n:Nat)(bx:Nat)(w:World)(hx:w.cell? ⟨bx,0,none⟩=some (.int .i64 n))(g cap:Nat)(h0:w.cell? ⟨g,0,none⟩=some (.int .i64 n))(h1:w.cell? ⟨g,1,none⟩=some (.int .i64 n))(_hc:1≤cap) :
  Calls Tryz.prog 361 #[.slice (some ⟨g,0,none⟩) 1 cap,.func (.func 359) #[] #[.pointer (some ⟨bx,0,none⟩)]] w fun e w'=>e=.returned (.int .i64 0)∧Below w.heap.size w w':=by
 have HH:=h_ (xVf n bx w hx)
 have ri:=y7 (w:=w) (a:=⟨g,0,none⟩) (cs:=[.int .i64 n,.int .i64 n]) (fun j v hj=>by
  rw[Addr.add_lit,Nat.zero_add]
  match j,hj with
  | 0,hj=>rw[h0];exact hj
  | 1,hj=>rw[h1];exact hj)
 obtain⟨o1,r1⟩:=ri
 simp only[List.length_cons,List.length_nil] at o1 r1
 clear hx h0 h1
 go_enter Tryz.func361,Tryz.ntmps361
 go_wp2
 refine wp_loop_once ?_
 go_wp2_with fail
 refine HH.out.mono ?_
 rintro e w1 ⟨rfl,hb⟩
 have HB:=h_ hb
 clear hb o1 r1
 go_wp2
 go_ret
 exact⟨rfl,HB.out⟩
theorem xJu (n:Nat)(bx:Nat)(w:World)(hx:w.cell? ⟨bx,0,none⟩=some (.int .i64 n))(g cap:Nat)(h0:w.cell? ⟨g,0,none⟩=some (.int .i64 n))(h1:w.cell? ⟨g,1,none⟩=some (.int .i64 n))(hc:1≤cap) :
  Calls Tryz.prog 358 #[.slice (some ⟨g,0,none⟩) 1 cap,.func (.func 359) #[] #[.pointer (some ⟨bx,0,none⟩)]] w fun e w'=>e=.returned (.bool true)∧Below w.heap.size w w':=by
 have HI:=h_ (xSp n bx w hx g cap h0 h1 hc)
 clear hx h0 h1
 go_enter Tryz.func358,Tryz.ntmps358
 go_wp2_with fail
 refine HI.out.mono ?_
 rintro e w1 ⟨rfl,hb⟩
 have HB:=h_ hb
 clear hb
 go_wp2
 go_ret
 exact⟨rfl,HB.out⟩
theorem xYh (n:Nat)(w:World)(g cap:Nat)(h0:w.cell? ⟨g,0,none⟩=some (.int .i64 n))(h1:w.cell? ⟨g,1,none⟩=some (.int .i64 n))(hc:1≤cap) :
  Calls Tryz.prog 355 #[.agg (y6 n (.slice (some ⟨g,0,none⟩) 1 cap)),.int .i64 n] w fun e w'=>e=.returned (.bool true)∧Below w.heap.size w w':=by
 obtain⟨w1,hw1⟩:∃ w1,w1=(w.alloc (.cells (y6 n (.slice (some ⟨g,0,none⟩) 1 cap)) 187)).alloc (.cells #[.int .i64 n] 3):=⟨_,rfl⟩
 have hb1:Below w.heap.size w w1:=by rw[hw1];exact((Below.refl _ _).alloc (Nat.le_refl _) _).alloc (by simp) _
 have hn1:w1.heap[w.heap.size]?=some (.cells (y6 n (.slice (some ⟨g,0,none⟩) 1 cap)) 187 (0,0)):=by rw[hw1,heap_alloc_old _ _ (by simp),heap_alloc_new]
 have hn2:w1.heap[w.heap.size+1]?=some (.cells #[.int .i64 n] 3 (0,0)):=by
  have:=heap_alloc_new (w.alloc (.cells (y6 n (.slice (some ⟨g,0,none⟩) 1 cap)) 187)) (.cells #[.int .i64 n] 3)
  rw[World.size_alloc] at this
  rw[hw1,this]
 have q2:=cell_of_row w1 w.heap.size 2 _ _ _ hn1
 have q3:=cell_of_row w1 (w.heap.size+1) 0 _ _ _ hn2
 simp only[y6,v_] at q2 q3
 have HC:=h_ (xJu n (w.heap.size+1) w1 q3 g cap ((hb1.cell (p:=⟨g,0,none⟩) (block_lt_of_cell h0)).trans h0) ((hb1.cell (p:=⟨g,1,none⟩) (block_lt_of_cell h1)).trans h1) hc)
 have HB:=h_ hb1
 clear hb1 hn1 hn2 h0 h1 q3
 unfold y6 at hw1 ⊢
 go_enter Tryz.func355,Tryz.ntmps355
 go_upto_region 1 with fail
 refine xu hw1 ?_
 clear hw1
 go_wp2_with fail
 refine HC.out.mono ?_
 rintro e w2 ⟨rfl,hb⟩
 have HB2:=h_ (HB.out.trans (hb.mono HB.out.size))
 clear hb q2
 go_wp2
 go_ret
 exact⟨rfl,HB2.out⟩
theorem xQl (a b:Int)(hab:b<a)(c:Nat)(w:World):Calls Tryz.prog 356 #[.int .i64 a,.int .i64 b,.pointer (some ⟨c,0,none⟩)] w fun e w'=>e=.returned (.tuple #[])∧w=w':=by
 have hd:decide (a≤b)=false:=decide_eq_false (by omega)
 go_enter Tryz.func356,Tryz.ntmps356
 go_wp2
 go_end0
 exact⟨rfl,rfl⟩
theorem xQk {B:Nat}{w:World}{v:Tbl}(h:yR B w v)(g:AG)(hg:v.g=some g)(x:Nat × Nat)(hp:g.pres=some x)(hh:g.high≤1000000) :
  Calls Tryz.prog 351 #[.pointer (some ⟨v.p,0,none⟩),.agg #[.string g.name,.int .i64 g.high]] w fun e w' =>
   e=.returned (.int .i64 0)∧Kept [v.M] w w'∧∃ g' mc,g'.name=g.name∧g'.high=g.high∧g'.pres=none∧yR B w' ⟨v.p,v.M,mc,some g'⟩:=by
 obtain⟨xg,xc⟩:=x
 obtain⟨n,hn⟩:∃ n,n=g.high:=⟨_,rfl⟩
 obtain⟨nm,hnm⟩:∃ nm,nm=g.name:=⟨_,rfl⟩
 obtain⟨w1,hw1⟩:∃ w1,w1=w.alloc (.cells #[.string nm,.int .i64 n] 53):=⟨_,rfl⟩
 have hb1:Below w.heap.size w w1:=by rw[hw1];exact b_ _ _
 have hp1:w1.heap[w.heap.size]?=some (.cells #[.string nm,.int .i64 n] 53 (0,0)):=by rw[hw1];exact heap_alloc_new w _
 have HF:=h_ (xVg (h.below hb1) g hg)
 rw[hp,←hn,←hnm] at HF
 have q0:=cell_of_row w1 w.heap.size 0 _ _ _ hp1
 simp only[v_] at q0
 have hnz:(n:Int)≤1000000:=by omega
 have hn0:(0:Int)≤n:=by omega
 have hfx:=xDk n (some (xg,xc))
 have hiv:=h.ivs g hg (xg,xc) hp
 have H:=h_ h
 have HG:=h_ (And.intro hg hp)
 have HB1:=h_ hb1
 have HP1:=h_ hp1
 have HIV:=h_ hiv
 have HN:=h_ hn
 have HNM:=h_ hnm
 have hx1:(1:Int)≤xc:=by have:=hiv.2.1;simp at this;omega
 have hz3:(ut.size == 3)=true:=rfl
 have hzi:(#[Value.int .i64 0,Value.int .i64 0].size == 2)=true:=rfl
 have hfi:xy 2 #[Value.int .i64 n,Value.int .i64 n]=true:=by simp[xy,Value.oneCell']
 rw[←hn,←hnm]
 clear h hg hp hh hb1 hp1 hiv hn hnm
 unfold zf y6 at HF hfx
 go_enter Tryz.func351,Tryz.ntmps351
 go_upto_region 1 with fail
 refine xu hw1 ?_
 clear hw1
 go_wp2_with fail
 refine HF.out.mono ?_
 rintro e w2 ⟨hb2,rfl⟩
 clear q0
 obtain⟨w3,hw3⟩:∃ w3,w3=w2.alloc (.cells (y6 n (.slice (some ⟨xg,0,none⟩) 1 xc)) 187):=⟨_,rfl⟩
 have hb3:Below w2.heap.size w2 w3:=by rw[hw3];exact b_ _ _
 have hn3:w3.heap[w2.heap.size]?=some (.cells (y6 n (.slice (some ⟨xg,0,none⟩) 1 xc)) 187 (0,0)):=by rw[hw3];exact heap_alloc_new w2 _
 have hb03:=HB1.out.trans ((hb2.trans (hb3.mono hb2.size)).mono HB1.out.size)
 have hp3:=((hb2.trans (hb3.mono hb2.size)).block w.heap.size (i_ HP1.out).1).trans HP1.out
 have q1:=cell_of_row w3 w.heap.size 1 _ _ _ hp3
 simp only[v_] at q1
 obtain⟨o3,r3⟩:=xI (n:=3) hn3 rfl
 have hx3:w3.cell? ⟨xg,0,none⟩=some (.int .i64 n):=(hb03.cell (p:=⟨xg,0,none⟩) (block_lt_of_cell HIV.out.2.2.2.1)).trans (by rw[HN.out];exact HIV.out.2.2.2.1)
 have hy3:w3.cell? ⟨xg,1,none⟩=some (.int .i64 n):=(hb03.cell (p:=⟨xg,1,none⟩) (block_lt_of_cell HIV.out.2.2.2.2)).trans (by rw[HN.out];exact HIV.out.2.2.2.2)
 have HH:=h_ (xYh n w3 xg xc hx3 hy3 HIV.out.2.1)
 have HB3:=h_ hb03
 have HN3:=h_ hn3
 have HP3:=h_ hp3
 have HX3:=h_ (And.intro hx3 hy3)
 have HS12:Hid (w1.heap.size≤w2.heap.size):=h_ hb2.size
 clear hb2 hb3 hn3 hb03 hp3 hx3 hy3 HF
 unfold y6 at hw3 r3 HH
 go_upto_region 4 with fail
 refine xu hw3 ?_
 clear hw3
 go_wp2_with fail
 refine HH.out.mono ?_
 rintro e w4 ⟨rfl,hb4⟩
 clear o3 r3 q1 HH
 obtain⟨w5,hw5⟩:∃ w5,w5=w4.alloc (.cells #[.slice none 0 0] 185):=⟨_,rfl⟩
 have hb5:Below w4.heap.size w4 w5:=by rw[hw5];exact b_ _ _
 have hl5:w5.heap[w4.heap.size]?=some (.cells #[.slice none 0 0] 185 (0,0)):=by rw[hw5];exact heap_alloc_new w4 _
 have hb35:=hb4.trans (hb5.mono hb4.size)
 have hn5:=(hb35.block w2.heap.size (i_ HN3.out).1).trans HN3.out
 have c2:=cell_of_row w5 w2.heap.size 2 _ _ _ hn5
 simp only[y6,v_] at c2
 have hx5:w5.cell? ⟨xg,0,none⟩=some (.int .i64 n):=(hb35.cell (p:=⟨xg,0,none⟩) (block_lt_of_cell HX3.out.1)).trans HX3.out.1
 have hy5:w5.cell? ⟨xg,1,none⟩=some (.int .i64 n):=(hb35.cell (p:=⟨xg,1,none⟩) (block_lt_of_cell HX3.out.2)).trans HX3.out.2
 have ri:=y7 (w:=w5) (a:=⟨xg,0,none⟩) (cs:=[.int .i64 n,.int .i64 n]) (fun j v hj=>by
  rw[Addr.add_lit,Nat.zero_add]
  match j,hj with
  | 0,hj=>rw[hx5];exact hj
  | 1,hj=>rw[hy5];exact hj)
 obtain⟨o5,r5⟩:=ri
 simp only[List.length_cons,List.length_nil] at o5 r5
 obtain⟨w6,hw6⟩:∃ w6,w6=w5.alloc (.cells #[.int .i64 n,.int .i64 n] 190):=⟨_,rfl⟩
 have hb6:Below w5.heap.size w5 w6:=by rw[hw6];exact b_ _ _
 have hn6:w6.heap[w5.heap.size]?=some (.cells #[.int .i64 n,.int .i64 n] 190 (0,0)):=by rw[hw6];exact heap_alloc_new w5 _
 have hb36:=hb35.trans (hb6.mono hb35.size)
 have HB06:=h_ (HB3.out.trans (hb36.mono HB3.out.size))
 have hg6:=(hb6.block w2.heap.size (i_ hn5).1).trans hn5
 have hl6:=(hb6.block w4.heap.size (i_ hl5).1).trans hl5
 have hp6:=(hb36.block w.heap.size (i_ HP3.out).1).trans HP3.out
 have HN6:=h_ hg6
 have HP6:=h_ hp6
 have i0:=cell_of_row w6 w5.heap.size 0 _ _ _ hn6
 have i1:=cell_of_row w6 w5.heap.size 1 _ _ _ hn6
 have p1:=cell_of_row w6 w.heap.size 1 _ _ _ hp6
 have l0:=cell_of_row w6 w4.heap.size 0 _ _ _ hl6
 have f2:=frozen_of_row w6 w2.heap.size 2 _ _ hg6
 have g2:=cell_of_row w6 w2.heap.size 2 _ _ _ hg6
 simp only[y6,v_] at i0 i1 p1 l0 g2
 have HS2:Hid (w.heap.size≤w2.heap.size):=h_ (Nat.le_trans HB1.out.size HS12.out)
 clear hb4 hb5 hl5 hb35 hn5 hx5 hy5 hb6 hn6 hb36 hg6 hl6 hp6
 go_upto_region 8 with fail
 refine xu hw5 ?_
 clear hw5
 go_wp2
 refine yT ?_
 go_upto_region 11 with fail
 refine xu hw6 ?_
 clear hw6 o5 r5 c2
 go_wp2_with fail
 refine(xQl (n:Int) ((n:Int)-1) (by omega) w4.heap.size w6).mono ?_
 rintro e w' ⟨rfl,rfl⟩
 go_wp2_with fail
 refine(xQl ((n:Int)+1) (n:Int) (by omega) w4.heap.size w6).mono ?_
 rintro e w' ⟨rfl,rfl⟩
 clear i0 i1
 obtain⟨w7,hw7⟩:∃ w7,w7=w6.setCell ⟨w2.heap.size,2,none⟩ (.slice none 0 0):=⟨_,rfl⟩
 have hb7:Below w.heap.size w w7:=by rw[hw7];exact HB06.out.setCell (p:=⟨w2.heap.size,2,none⟩) HS2.out _
 have hn7:w7.heap[w2.heap.size]?=some (.cells (y6 n (zf none)) 187 (0,0)):=by rw[hw7,heap_setCell_same w6 w2.heap.size 2 _ _ _ HN6.out];rfl
 have hwne:w.heap.size≠w2.heap.size:=by have h1:=(i_ HP1.out).1;have:=HS12.out;omega
 have hp7:w7.heap[w.heap.size]?=some (.cells #[.string nm,.int .i64 n] 53 (0,0)):=by rw[hw7];exact(heap_setCell_other w6 ⟨w2.heap.size,2,none⟩ w.heap.size _ hwne).trans HP6.out
 have hd7:=H.out.below hb7
 have c7:=cell_of_row w7 v.p 0 _ _ _ hd7.blk
 have p7:=cell_of_row w7 w.heap.size 0 _ _ _ hp7
 simp only[v_] at c7 p7
 have z0:∀ z:xf w7,z.1.cell? ⟨v.p,0,none⟩=some (.map (some v.M)):=fun z=>z.cell c7
 have z3:∀ z:xf w7,z.1.cell? ⟨w.heap.size,0,none⟩=some (.string nm):=fun z=>z.cell p7
 have rr:=xI (n:=3) hn7 rfl
 have z1:∀ z:xf w7,xq z.1 ⟨w2.heap.size,0,none⟩ 3=true:=fun z=>xf.ok rr.1 z
 have z2:∀ z:xf w7,xp z.1 ⟨w2.heap.size,0,none⟩ 3=y6 n (zf none):=fun z=>(xf.rd rr.1 z).trans rr.2
 have hd7':=hd7.below ((Below.refl w7.heap.size w7).drew)
 obtain⟨g',mc,e1,e2,e3,hup,hat⟩:=hd7'.put nm n none (fun g0 e=>by rw[HG.out.1] at e;cases e;exact HNM.out.symm) (IvAt.nil _ _ _)
 obtain⟨w8,hw8⟩:∃ w8,w8=w7.drew.putObj v.M (.map ((Tbl.es ⟨v.p,v.M,mc,some g'⟩).map (enE ekS)).toArray mc):=⟨_,rfl⟩
 rw[←hw8] at hup hat
 have HKP:Hid (Kept [v.M] w w8):=h_ (by
  rw[hw8]
  exact(Kept.of_below (F:=[v.M]) (hb7.trans ((Below.refl w7.heap.size w7).drew.mono hb7.size))).trans (qB _ _ _) (fun q hq=>.inl hq))
 have HAT:=h_ hat
 have HE:=h_ (And.intro e1 (And.intro e2 e3))
 clear hb7 hn7 hwne hp7 hd7 c7 p7 rr hd7' e1 e2 e3 hat hw8
 go_upto_region 17 with fail
 refine xu hw7 ?_
 clear hw7 p1 l0 f2 g2
 refine xw [0,1,2,3,4,5,6] [7] (fun w'=>∃ z:xf w7,w'=z.1) (by kernel_rfl) (by kernel_rfl) (by kernel_rfl) ⟨⟨w7.drew,(Below.refl _ _).drew⟩,rfl⟩ ?_
 simp only[o_]
 repeat (go_big_quiet_step (fail))
 refine wpQuiet_nil ?_
 clear z0 z1 z2 z3
 refine xG [7] _ _ (by kernel_rfl) ?_
 simp only[o_]
 go_wp2
 refine NoPanic.normal ?_
 clear hup
 go_wp2
 go_ret
 exact⟨rfl,HKP.out,g',mc,HE.out.1,HE.out.2.1,HE.out.2.2,HAT.out⟩
end
end Go.Proofs.YthiafifdiaplaaaGreatDoor
namespace Go.Proofs.YthiafifdiaplaaaGreatDoor
open Go Go.RowKit Go.Proofs
open Go.ChangeMaps (setBlock)
attribute [local go_sem ↓] j6 vk vo
attribute [local go_sem] xHp xGn zt zw yD yC xj xh xe xd xA xz xo xl xt xC xx
def Tbl.c (v:Tbl):Option (ByteArray × Nat × Bool):=v.g.map fun g=>(g.name,g.high,g.pres.isSome)
theorem IvAt.base {B B':Nat}{w:World}{h:Nat}{p:Option (Nat × Nat)}(hi:IvAt B w h p)(hb:B'≤B):IvAt B' w h p:=fun x e=>by
 obtain⟨h1,h2⟩:=hi x e
 exact⟨Nat.le_trans hb h1,h2⟩
theorem xSq {B:Nat}{w:World}{h:Nat}{p:Option (Nat × Nat)}(hi:IvAt B w h p):Calls Tryz.prog 88 #[zf p] w fun e w'=>Below w.heap.size w w'∧∃ p',e=.returned (zf p')∧p'.isSome=p.isSome∧IvAt w.heap.size w' h p':=by
 obtain⟨i0,hi0,hz0,hz1,hz2⟩:=info_parts Tryz.info_ivl
 cases p with
 | none =>
  refine(AnyE.slices_Clone_nil Tryz.cloneIvl 0 0 w).mono ?_
  rintro e w' ⟨rfl,rfl⟩
  exact⟨Below.refl _ _,none,rfl,rfl,IvAt.nil _ _ _⟩
 | some x =>
  obtain⟨_,h1,h2,h3,h4⟩:=hi x rfl
  refine(AnyE.slices_Clone Tryz.cloneIvl i0 (.agg #[.int .i64 0,.int .i64 0]) 2 16 hi0 hz0 hz1 hz2 rfl (by decide) Tryz.sizeOf190 x.1 0 1 x.2 [.int .i64 h,.int .i64 h] w rfl (by unfold maxLen;omega) (by omega) (fun j u hj=>?_) (by intro u hu;simp at hu;subst hu;rfl)).mono ?_
  ·rw[Nat.zero_add]
   match j,hj with
   | 0,hj=>rw[h3];exact hj
   | 1,hj=>rw[h4];exact hj
  ·rintro e w' ⟨v',rfl,hown,_,hb⟩
   obtain⟨g,cap,rfl,k1,k2,k3,_,k4,k5⟩:=xD8 hown
   exact⟨hb,some (g,cap),rfl,rfl,fun y e=>by cases e;exact⟨k1,k2,k3,k4,k5⟩⟩
theorem yR.one_next {B:Nat}{w W:World}{v:Tbl}(h:yR B w v){g:AG}(hg:v.g=some g){r:Nat}(hr:W.heap[r]?=some (.mapIter (some v.M) v.mc #[] v.mc))(hM:W.heap[v.M]?=w.heap[v.M]?) :
  ∃ X,(Instr.next (.pointer (some ⟨r,0,none⟩)) false 0).run Tryz.prog W=.ok (.tuple #[.bool true,.string g.name,.agg (y6 g.high (zf g.pres))]) X∧Kept [r] W X∧X.heap[r]?=some (.mapIter (some v.M) v.mc #[g.born] v.mc) ∧
   (Instr.entry (.pointer (some ⟨r,0,none⟩))).run Tryz.prog X=.ok (.tuple #[.string g.name,.agg (y6 g.high (zf g.pres))]) X:=by
 have hm:=h.map
 unfold y3 at hm
 have he:v.es=[g.e]:=by unfold Tbl.es;rw[hg]
 rw[he] at hm
 have hmW:=hM.trans hm
 have hrM:r≠v.M:=fun e=>by rw[e,hmW] at hr;cases hr
 have hold:∀ x∈([g.e].map (enE ekS)).toArray.toList,x.born<v.mc:=fun x hx=>by simp at hx;subst hx;exact h.young g hg
 rcases run_next_at (P:=Tryz.prog) W 0 r v.M v.mc v.mc #[] _ v.mc hr hmW hold (Nat.le_refl _) with⟨h0,_⟩ | ⟨e,hel,X1,hX1,hrun⟩
 ·have:=all_seen _ _ h0 (enE ekS g.e) (by simp)
  simp at this
 ·obtain⟨hmem,_⟩:=mem_left hel
  have hE:e=enE ekS g.e:=by simpa using hmem
  subst hE
  have hrl:=(i_ hr).1
  have hX1h:X1.heap=W.heap:=by rcases hX1 with rfl | rfl <;> rfl
  have hk1:Kept [r] W X1:=by
   rcases hX1 with rfl | rfl
   ·exact Kept.of_below (Below.refl _ _)
   ·exact Kept.of_below (Below.refl _ _).drew
  have hit:(setBlock X1 r (.mapIter (some v.M) v.mc #[g.born] v.mc)).heap[r]?=some (.mapIter (some v.M) v.mc #[g.born] v.mc):=ur _ _ _ (by rw[hX1h];exact hrl)
  have hmp:(setBlock X1 r (.mapIter (some v.M) v.mc #[g.born] v.mc)).heap[v.M]?=some (.map ([g.e].map (enE ekS)).toArray v.mc):=by
   rw[yb _ _ _ _ (Ne.symm hrM),hX1h]
   exact hmW
  refine⟨_,hrun,⟨hk1.os,hk1.tape,hk1.output,by rw[zi];exact hk1.size,fun k hk hn=>?_⟩,hit,run_entry_at _ r v.M v.mc #[] _ v.mc (enE ekS g.e) hit hmp (by simp) (by simp)⟩
  rw[yb _ _ _ _ (by simpa using hn)]
  exact hk1.block k hk hn
theorem yR.one_end {v:Tbl}{g:AG}(_hg:v.g=some g)(hy:g.born<v.mc){W:World}{r:Nat}(hr:W.heap[r]?=some (.mapIter (some v.M) v.mc #[g.born] v.mc))(hM:W.heap[v.M]?=some (.map ([g.e].map (enE ekS)).toArray v.mc)) :
  (Instr.next (.pointer (some ⟨r,0,none⟩)) false 0).run Tryz.prog W=.ok (.tuple #[.bool false]) W:=by
 have hold:∀ x∈([g.e].map (enE ekS)).toArray.toList,x.born<v.mc:=fun x hx=>by simp at hx;subst hx;exact hy
 rcases run_next_at (P:=Tryz.prog) W 0 r v.M v.mc v.mc #[g.born] _ v.mc hr hM hold (Nat.le_refl _) with⟨_,h1⟩ | ⟨e,hel,_⟩
 ·exact h1
 ·obtain⟨hmem,hns⟩:=mem_left hel
  have hE:e=enE ekS g.e:=by simpa using hmem
  subst hE
  have:(enE ekS g.e).born=g.born:=rfl
  rw[this] at hns
  simp at hns
theorem xSr {B:Nat}{w:World}{v:Tbl}(h:yR B w v):Calls Tryz.prog 47 #[.pointer (some ⟨v.p,0,none⟩)] w fun e w'=>Below w.heap.size w w'∧∃ v',e=.returned (.pointer (some ⟨v'.p,0,none⟩))∧yR w.heap.size w' v'∧v'.c=v.c:=by
 have H:=h_ h
 clear h
 go_enter Tryz.func47,Tryz.ntmps47
 go_wp2_with fail
 refine(xIq w).mono ?_
 rintro e w1 ⟨rfl,hb1,hat1⟩
 have hd1:=H.out.below hb1
 have c0:=cell_of_row w1 v.p 0 _ _ _ hd1.blk
 simp only[v_] at c0
 have hm:=hd1.map
 unfold y3 at hm
 have hrg:=run_range_map (P:=Tryz.prog) w1 182 _ _ v.M _ v.mc Tryz.underlying182 hm
 obtain⟨w2,hw2⟩:∃ w2,w2=w1.alloc (.mapIter (some v.M) v.mc #[] v.mc):=⟨_,rfl⟩
 have hb12:Below w1.heap.size w1 w2:=by rw[hw2];exact b_ _ _
 have hit:w2.heap[w1.heap.size]?=some (.mapIter (some v.M) v.mc #[] v.mc):=by rw[hw2];exact heap_alloc_new w1 _
 rw[←hw2] at hrg
 have hb2:=hb1.trans (hb12.mono hb1.size)
 have hat2:=hat1.below hb12
 have hd2:=hd1.below hb12
 have HB2:=h_ hb2
 have HAT2:=h_ hat2
 have HD2:=h_ hd2
 have HS1:Hid (w.heap.size+1<w1.heap.size):=h_ hat1.lt.1
 have HVM:Hid (v.M<w.heap.size):=h_ H.out.lt.2
 cases hg:v.g with
 | none =>
  have he:v.es=[]:=by unfold Tbl.es;rw[hg]
  have hnx:∀ ty,(Instr.next (.pointer (some ⟨w1.heap.size,0,none⟩)) false ty).run Tryz.prog w2=.ok (.tuple #[.bool false]) w2:=fun ty=>by
   have hm2:=hd2.map
   unfold y3 at hm2
   rw[he] at hm2
   rcases run_next_at (P:=Tryz.prog) w2 ty w1.heap.size v.M v.mc v.mc #[] _ v.mc hit hm2 (fun x hx=>by cases hx) (Nat.le_refl _) with⟨_,h1⟩ | ⟨e,he,_⟩
   ·exact h1
   ·exact absurd (mem_left he).1 (by simp)
  have HC:Hid (v.c=none):=h_ (by unfold Tbl.c;rw[hg];rfl)
  clear hit hm hb1 hat1 hd1 hb12 hb2 hat2 hd2 hg he hw2
  go_upto_region 5 with fail
  go_wp2
  refine wp_loop_once ?_
  clear hrg c0
  go_wp2
  go_ret
  exact⟨HB2.out,⟨w.heap.size+1,w.heap.size,0,none⟩,rfl,HAT2.out,HC.out.symm⟩
 | some g =>
  obtain⟨X1,hnx,hk,hrX,hen⟩:=hd2.one_next hg hit rfl
  have hb13:Below w1.heap.size w2 X1:=hk.below hb12.size (fun k hk=>by rw[List.mem_singleton.1 hk];exact Nat.le_refl _)
  have hb3:=hb2.trans (hb13.mono hb1.size)
  have hat3:=hat2.kept hk (fun k hk'=>by
   have h3:k=w.heap.size+1∨k=w.heap.size:=by simpa[Tbl.foot] using hk'
   have:=HS1.out
   rw[List.mem_singleton];omega)
  obtain⟨X2,hX2⟩:∃ X2,X2=X1.alloc (.cells (y6 g.high (zf g.pres)) 187):=⟨_,rfl⟩
  have hb34:Below X1.heap.size X1 X2:=by rw[hX2];exact b_ _ _
  have hn4:X2.heap[X1.heap.size]?=some (.cells (y6 g.high (zf g.pres)) 187 (0,0)):=by rw[hX2];exact heap_alloc_new X1 _
  have hb4:=hb3.trans (hb34.mono hb3.size)
  have HCL:=h_ (xSq ((H.out.below hb4).ivs g hg))
  have e2:=cell_of_row X2 X1.heap.size 2 _ _ _ hn4
  simp only[y6,v_] at e2
  have hfx:=xDk g.high g.pres
  have hz3:(ut.size == 3)=true:=rfl
  have HC:Hid (v.c=some (g.name,g.high,g.pres.isSome)):=h_ (by unfold Tbl.c;rw[hg];rfl)
  have HB4:=h_ hb4
  have HB3:=h_ hb3
  have HB34:=h_ hb34
  have HN4:=h_ hn4
  have HRX:=h_ hrX
  have HAT3:=h_ hat3
  have HX1S:Hid (w1.heap.size<X1.heap.size):=h_ (i_ hrX).1
  have HG:=h_ hg
  obtain⟨nm,hnm⟩:∃ nm,nm=g.name:=⟨_,rfl⟩
  obtain⟨hi,hhi⟩:∃ hi,hi=g.high:=⟨_,rfl⟩
  rw[←hnm,←hhi] at hnx hen HC
  rw[←hhi] at hX2 hfx
  have HNM:=h_ hnm
  have HHI:=h_ hhi
  have hpo:∃ pv,zf g.pres=pv:=⟨_,rfl⟩
  unfold y6 at hnx hen hX2 hfx
  generalize hpv:zf g.pres=pv at hnx hen hX2 hfx e2 HCL
  have HPV:=h_ hpv
  clear hit hm hb1 hat1 hd1 hb12 hb2 hat2 hd2 hg hk hrX hb13 hb3 hat3 hb34 hn4 hb4 hnm hhi hpo hpv
  go_upto_region 5 with fail
  refine xu hw2 ?_
  clear hw2 hrg c0
  go_wp2
  refine yT ?_
  go_upto_region 7 with fail
  refine xu hX2 ?_
  clear hX2 hnx hen
  go_wp2_with fail
  refine HCL.out.mono ?_
  rintro e X3 ⟨hb5,p',rfl,hps,hiv⟩
  have hn5:=(hb5.block X1.heap.size (i_ HN4.out).1).trans HN4.out
  have f2:=frozen_of_row X3 X1.heap.size 2 _ _ hn5
  have d2:=cell_of_row X3 X1.heap.size 2 _ _ _ hn5
  simp only[y6,v_] at d2
  obtain⟨X4,hX4⟩:∃ X4,X4=X3.setCell ⟨X1.heap.size,2,none⟩ (zf p'):=⟨_,rfl⟩
  have hn6:X4.heap[X1.heap.size]?=some (.cells (y6 hi (zf p')) 187 (0,0)):=by rw[hX4,heap_setCell_same X3 X1.heap.size 2 _ _ _ hn5,HHI.out];rfl
  have hb35:Below X1.heap.size X1 X3:=HB34.out.trans (hb5.mono HB34.out.size)
  have hb6:Below X1.heap.size X1 X4:=by rw[hX4];exact hb35.setCell (p:=⟨X1.heap.size,2,none⟩) (Nat.le_refl _) _
  rw[←HHI.out] at hiv
  have hiv6:IvAt X2.heap.size X4 hi p':=(hiv.kept (by rw[hX4];exact zc X3 ⟨X1.heap.size,2,none⟩ _) (fun y e=>by
   have h1:=(hiv y e).1
   intro hm;simp at hm;have:=(i_ HN4.out).1;omega))
  have hat6:=HAT3.out.below hb6
  have c6:=cell_of_row X4 (w.heap.size+1) 0 _ _ _ hat6.blk
  simp only[v_] at c6
  have z0:∀ z:xf X4,z.1.cell? ⟨w.heap.size+1,0,none⟩=some (.map (some w.heap.size)):=fun z=>z.cell c6
  have rr:=xI (n:=3) hn6 rfl
  have z1:∀ z:xf X4,xq z.1 ⟨X1.heap.size,0,none⟩ 3=true:=fun z=>xf.ok rr.1 z
  have z2:∀ z:xf X4,xp z.1 ⟨X1.heap.size,0,none⟩ 3=y6 hi (zf p'):=fun z=>(xf.rd rr.1 z).trans rr.2
  have hbd:Below X4.heap.size X4 X4.drew:=(Below.refl _ _).drew
  obtain⟨g',mc,e1,e2',e3,hup,hat7⟩:=(hat6.below hbd).put nm hi p' (fun g0 e=>by cases e) ((hiv6.kept (Kept.of_below (F:=[]) hbd) (fun _ _ h=>by cases h)).base (by have h1:=HB4.out.size;exact h1))
  obtain⟨X5,hX5⟩:∃ X5,X5=X4.drew.putObj w.heap.size (.map ((Tbl.es ⟨w.heap.size+1,w.heap.size,mc,some g'⟩).map (enE ekS)).toArray mc):=⟨_,rfl⟩
  rw[←hX5] at hup hat7
  have hk47:Kept [w.heap.size] X1 X5:=by
   rw[hX5]
   exact(Kept.of_below (F:=[w.heap.size]) (hb6.trans (hbd.mono hb6.size))).trans (qB _ _ _) (fun q hq=>.inl hq)
  have hrX5:=(hk47.block w1.heap.size HX1S.out (by have:=HS1.out;simp;omega)).trans HRX.out
  have hb04:Below w.heap.size w X4:=HB3.out.trans (hb6.mono HB3.out.size)
  have hb04d:=hb04.trans (hbd.mono hb04.size)
  have hbX5:Below w.heap.size w X5:=hb04d.trans (by rw[hX5];exact(qB _ _ _).below hb04d.size (fun k hk=>by rw[List.mem_singleton.1 hk];exact Nat.le_refl _))
  have hM5:X5.heap[v.M]?=some (.map ([g.e].map (enE ekS)).toArray v.mc):=by
   have h1:=H.out.map
   unfold y3 at h1
   rw[show v.es=[g.e] by unfold Tbl.es;rw[HG.out]] at h1
   exact(hbX5.block v.M HVM.out).trans h1
  have hend:=yR.one_end HG.out (H.out.young g HG.out) hrX5 hM5
  have HF:Hid (Below w.heap.size w X5∧yR w.heap.size X5 ⟨w.heap.size+1,w.heap.size,mc,some g'⟩∧Tbl.c ⟨w.heap.size+1,w.heap.size,mc,some g'⟩=v.c):=h_ ⟨hbX5,hat7,by
   rw[HC.out]
   unfold Tbl.c
   simp only[Option.map_some,e1,e2',e3,hps]⟩
  clear hb5 hn5 hiv hn6 hb35 hb6 hiv6 hat6 c6 rr hbd e1 e2' e3 hat7 hk47 hrX5 hb04 hb04d hbX5 hM5 hX5 hps
  generalize hpw:zf p'=pw at *
  obtain⟨sa,sn,sc,hsl⟩:∃ a n c,pw=.slice a n c:=by rw[←hpw];cases p' <;> exact⟨_,_,_,rfl⟩
  clear hpw
  subst hsl
  go_upto_region 8 with fail
  refine xu hX4 ?_
  clear hX4 f2 d2 e2
  refine xw [0,1,2,3,4,5] [6] (fun w'=>∃ z:xf X4,w'=z.1) (by kernel_rfl) (by kernel_rfl) (by kernel_rfl) ⟨⟨X4.drew,(Below.refl _ _).drew⟩,rfl⟩ ?_
  simp only[o_]
  repeat (go_big_quiet_step (fail))
  refine wpQuiet_nil ?_
  clear z0 z1 z2
  refine xG [6] _ _ (by kernel_rfl) ?_
  simp only[o_]
  go_wp2
  refine NoPanic.normal ?_
  clear hup
  go_wp2
  go_ret
  exact⟨HF.out.1,⟨w.heap.size+1,w.heap.size,mc,some g'⟩,rfl,HF.out.2.1,HF.out.2.2⟩
end Go.Proofs.YthiafifdiaplaaaGreatDoor
namespace Go.Proofs.YthiafifdiaplaaaGreatDoor
open Go Go.RowKit Go.Proofs
theorem xQx (f:Value)(w:World):Calls Tryz.prog 214 #[.slice none 0 0,.int .i64 0,.int .i64 0,f] w fun e w'=>e=.returned (.tuple #[])∧w=w':=by
 go_enter Tryz.func214,Tryz.ntmps214
 go_wp2
 refine wp_loop_once ?_
 go_wp2
 go_end0
 exact⟨rfl,rfl⟩
theorem xQw (f:Value)(w:World):Calls Tryz.prog 187 #[.slice none 0 0,.int .i64 0,.int .i64 0,.int .i64 0,f] w fun e w'=>e=.returned (.tuple #[])∧w=w':=by
 have HI:=h_ (xQx f w)
 go_enter Tryz.func187,Tryz.ntmps187
 go_wp2
 refine wp_loop_once ?_
 go_wp2_with fail
 refine HI.out.mono ?_
 rintro e w' ⟨rfl,rfl⟩
 go_wp2
 first | go_end0 | (simp only[Exit.inBlock,Exit.then];refine bodyPost_ret (results_none rfl _ _ _) rfl ?_) | refine bodyPost_ret (results_none rfl _ _ _) rfl ?_
 exact⟨rfl,rfl⟩
theorem xNw (f:Value)(w:World):Calls Tryz.prog 155 #[.slice none 0 0,f] w fun e w'=>e=.returned (.tuple #[])∧w=w':=by
 have HI:=h_ (xQw f w)
 have HB:=h_ (Tryz.bits_Len 0 w (by decide) (by decide))
 go_enter Tryz.func155,Tryz.ntmps155
 go_wp2_with fail
 refine HB.out.mono ?_
 rintro e w' ⟨rfl,rfl⟩
 have h0:Lib.bitLen (0:Int).toNat=0:=by decide
 rw[h0]
 go_wp2_with fail
 refine HI.out.mono ?_
 rintro e w' ⟨rfl,rfl⟩
 go_wp2
 go_end0
 exact⟨rfl,rfl⟩
theorem xJt {B:Nat}{w:World}{v:Tbl}(h:yR B w v)(hg:v.g=none):Calls Tryz.prog 113 #[.pointer (some ⟨v.p,0,none⟩)] w fun e w'=>e=.returned (.slice none 0 0)∧Below w.heap.size w w':=by
 have c3:=cell_of_row w v.p 0 _ _ _ h.blk
 simp only[v_] at c3
 have he:v.es=[]:=by unfold Tbl.es;rw[hg]
 have hm:=h.map
 unfold y3 at hm
 rw[he] at hm
 have hrg:=run_range_map (P:=Tryz.prog) w 182 _ _ v.M _ v.mc Tryz.underlying182 hm
 obtain⟨W,hW⟩:∃ W,W=w.alloc (.mapIter (some v.M) v.mc #[] v.mc):=⟨_,rfl⟩
 have hb:Below w.heap.size w W:=by rw[hW];exact b_ _ _
 have hit:W.heap[w.heap.size]?=some (.mapIter (some v.M) v.mc #[] v.mc):=by rw[hW];exact heap_alloc_new w _
 have hnx:∀ ty,(Instr.next (.pointer (some ⟨w.heap.size,0,none⟩)) false ty).run Tryz.prog W=.ok (.tuple #[.bool false]) W:=fun ty=>by
  rcases run_next_at (P:=Tryz.prog) W ty w.heap.size v.M v.mc v.mc #[] _ v.mc hit ((hb.block _ h.lt.2).trans hm) (fun x hx=>by cases hx) (Nat.le_refl _) with⟨_,h1⟩ | ⟨e,he,_⟩
  ·exact h1
  ·exact absurd (mem_left he).1 (by simp)
 have HB:=h_ hb
 rw[←hW] at hrg
 clear hm hb hit h he hW hg
 go_enter Tryz.func113,Tryz.ntmps113
 go_wp2
 refine wp_loop_once ?_
 clear hrg c3
 go_wp2_with fail
 refine(xNw _ W).mono ?_
 rintro e w' ⟨rfl,rfl⟩
 clear hnx
 go_wp2
 go_ret
 exact⟨rfl,HB.out⟩
theorem xQh {B b:Nat}{bs:List Value}{w w':World}(h:Lib.IsBuilderF 233 5 B b bs w)(hb:Below w.heap.size w w'):Lib.IsBuilderF 233 5 B b bs w':=by
 have one:∀ {p:Value},Lib.BuilderAtF 233 5 B b p bs w→Lib.BuilderAtF 233 5 B b p bs w':=fun {p} h=>by
  have hlt:=h.lt
  obtain⟨hB,v,hbk,hown,hne⟩:=h
  exact⟨hB,v,(hb.block b hlt).trans hbk,hown.kept (row:=none) ⟨hb.os,hb.tape,hb.output,hb.size,fun k hk _=>hb.block k hk⟩ (by cases hv:v.ownBlock <;> simp),hne⟩
 exact h.elim (fun x=>.inl (one x)) (fun x=>.inr (one x))
theorem xQg (w:World):Lib.IsBuilderF 233 5 w.heap.size w.heap.size [] (w.alloc (.cells #[.pointer none,.slice none 0 0] 233)):=Lib.IsBuilderF.of (Lib.fresh_isBuilder 233 5 w)
theorem xNg {B:Nat}{w:World}{v:Tbl}(h:yR B w v)(hg:v.g=none):Calls Tryz.prog 72 #[.pointer (some ⟨v.p,0,none⟩)] w fun e w'=>e=.returned (.string ⟨#[]⟩)∧Below w.heap.size w w':=by
 obtain⟨W0,hW0⟩:∃ W0,W0=w.alloc (.cells #[.pointer none,.slice none 0 0] 233):=⟨_,rfl⟩
 have hb0:Below w.heap.size w W0:=by rw[hW0];exact b_ _ _
 have hbu:Lib.IsBuilderF 233 5 w.heap.size w.heap.size [] W0:=by rw[hW0];exact xQg w
 have HG:=h_ (xJt (h.below hb0) hg)
 have HB0:=h_ hb0
 have HBU:=h_ hbu
 clear h hg hb0 hbu
 go_enter Tryz.func72,Tryz.ntmps72
 go_upto_region 2 with fail
 refine xu hW0 ?_
 clear hW0
 go_wp2_with fail
 refine HG.out.mono ?_
 rintro e w1 ⟨rfl,hb1⟩
 have HB1:=h_ (HB0.out.trans (hb1.mono HB0.out.size))
 have HS:=h_ (Tryz.Builder_String_empty_f w.heap.size w.heap.size w1 (xQh HBU.out hb1) HB1.out.size)
 clear hb1
 go_wp2
 refine wp_loop_once ?_
 go_wp2_with fail
 refine HS.out.mono ?_
 rintro e w2 ⟨rfl,_,hb2⟩
 have HB2:=h_ (HB1.out.trans hb2)
 clear hb2
 go_wp2
 go_ret
 exact⟨rfl,HB2.out⟩
theorem xNi (w:World):Calls Tryz.prog 143 #[.string ⟨#[]⟩] w fun e w'=>Below w.heap.size w w'∧∃ v,e=.returned (.tuple #[.pointer (some ⟨v.p,0,none⟩),.int .i64 0,.int .i64 0])∧yR w.heap.size w' v∧v.g=none:=by
 have hsz:(⟨#[]⟩:ByteArray).size=0:=rfl
 have HN:=h_ (xIq w)
 go_enter Tryz.func143,Tryz.ntmps143
 go_wp2_with fail
 refine HN.out.mono ?_
 rintro e w1 ⟨rfl,hb1,hat⟩
 have HF:=h_ (And.intro hb1 hat)
 clear hb1 hat
 go_wp2
 refine wp_loop_once ?_
 go_wp2
 go_ret3
 exact⟨HF.out.1,⟨w.heap.size+1,w.heap.size,0,none⟩,rfl,HF.out.2,rfl⟩
theorem xBy (B ib M mc:Nat)(w:World)(hG:Gl w)(h:ye B w ib M [] mc):Calls Tryz.prog 73 #[.pointer (some ⟨ib,0,none⟩)] w fun e w'=>e=.returned (.string ⟨#[]⟩)∧Below w.heap.size w w':=by
 obtain⟨W0,hW0⟩:∃ W0,W0=w.alloc (.cells #[.pointer none,.slice none 0 0] 233):=⟨_,rfl⟩
 have hb0:Below w.heap.size w W0:=by rw[hW0];exact b_ _ _
 have hbu:Lib.IsBuilderF 233 5 w.heap.size w.heap.size [] W0:=by rw[hW0];exact xQg w
 have HGR:=h_ (xHz B ib M mc [] W0 (hG.later hb0) (h.below hb0))
 have HB0:=h_ hb0
 have HBU:=h_ hbu
 clear h hG hb0 hbu
 go_enter Tryz.func73,Tryz.ntmps73
 go_upto_region 2 with fail
 refine xu hW0 ?_
 clear hW0
 go_wp2_with fail
 refine HGR.out.mono ?_
 rintro e w1 ⟨v,ns,rfl,hns,_,hmem,hb1⟩
 have hn0:ns=[]:=by
  cases ns with
  | nil=>rfl
  | cons t l=>obtain⟨G,hG,_⟩:=(hmem t).1 (by simp);cases hG
 subst hn0
 obtain⟨ga,gc,rfl⟩:∃ ga gc,v=.slice ga 0 gc:=by
  rcases hns with⟨_,rfl⟩ | ⟨b,c,rfl,_⟩
  ·exact⟨none,0,rfl⟩
  ·exact⟨_,c,rfl⟩
 have HB1:=h_ (HB0.out.trans (hb1.mono HB0.out.size))
 have HS:=h_ (Tryz.Builder_String_empty_f w.heap.size w.heap.size w1 (xQh HBU.out hb1) HB1.out.size)
 clear hb1 hns hmem HGR
 go_wp2
 refine wp_loop_once ?_
 go_wp2_with fail
 refine HS.out.mono ?_
 rintro e w2 ⟨rfl,_,hb2⟩
 have HB2:=h_ (HB1.out.trans hb2)
 clear hb2
 go_wp2
 go_ret
 exact⟨rfl,HB2.out⟩
theorem xT9 (w:World):ye w.heap.size ((w.alloc (.map #[] 0)).alloc (.cells #[.map (some w.heap.size),.int .i64 0] 193)) (w.heap.size+1) w.heap.size [] 0:=by
 refine⟨?_,?_,by simp,(fun G h=>by cases h),by simp[foot],by simp,(fun G h=>by cases h),by simp[xS],by simp,Nat.le_refl _⟩
 ·have:=heap_alloc_new (w.alloc (.map #[] 0)) (.cells #[.map (some w.heap.size),.int .i64 0] 193)
  rw[World.size_alloc] at this
  exact this
 ·unfold y3
  rw[heap_alloc_old _ _ (by simp),heap_alloc_new];rfl
theorem xH7 (w:World):Below w.heap.size w ((w.alloc (.map #[] 0)).alloc (.cells #[.map (some w.heap.size),.int .i64 0] 193)):=((Below.refl _ _).alloc (Nat.le_refl _) _).alloc (by simp) _
theorem xJ8 (w:World)(hG:Gl w):Calls Tryz.prog 144 #[.string ⟨#[]⟩] w fun e w'=>Below w.heap.size w w'∧e=.returned (.tuple #[.pointer (some ⟨w.heap.size+1,0,none⟩),.int .i64 0])∧ye w.heap.size w' (w.heap.size+1) w.heap.size [] 0:=by
 have hsz:(⟨#[]⟩:ByteArray).size=0:=rfl
 have HG:=h_ hG
 have HA:=h_ (xT9 w)
 have HB:=h_ (xH7 w)
 clear hG
 go_enter Tryz.func144,Tryz.ntmps144
 go_wp2_with fail
 refine(xTa w).mono ?_
 rintro e w1 ⟨rfl,hw1⟩
 rw[hw1] at HA HB
 clear hw1
 have HE:=h_ (xBy _ _ _ _ w1 (HG.out.later HB.out) HA.out)
 go_wp2
 refine wp_loop_once ?_
 go_wp2_with fail
 refine HE.out.mono ?_
 rintro e w2 ⟨rfl,hb2⟩
 have HF:=h_ (And.intro (HB.out.trans (hb2.mono HB.out.size)) (HA.out.below hb2))
 clear hb2
 go_wp2
 go_ret2
 exact⟨HF.out.1,rfl,HF.out.2⟩
end Go.Proofs.YthiafifdiaplaaaGreatDoor
namespace Go.Proofs.YthiafifdiaplaaaGreatDoor
open Go Go.RowKit Go.Proofs
open Go.ChangeMaps (setBlock)
attribute [local go_sem ↓] xV xO yp yh yq yB xI8
attribute [local go_sem] zx zA zG zF yW xj xh xe xd xA xz xo xl xt xC xx xTn
def xVm (gs:List MG)(w:World)(r:Ending)(w':World):Prop:=∃ ib2 M2 gs2 mc2,r=.returned (.pointer (some ⟨ib2,0,none⟩))∧ye w.heap.size w' ib2 M2 gs2 mc2∧lfOf gs2=lfOf gs∧xS gs2=xS gs∧Below w.heap.size w w'
structure CpSt (X:World)(G:MG)(k:Nat)(v:Value)(ms:List ML)(W:World):Prop where
 bl:Below X.heap.size X W
 blk:W.heap[X.heap.size+1]?=some (.cells #[v,.map (some X.heap.size)] 198 (0,0))
 row:kC X.heap.size W v ms
 nums:y3 ekI W X.heap.size G.nl G.nc
 ps:ms.map (·.p)=(G.ms.take k).map (·.p)
theorem kC.keep {A:Nat}{w w':World}{v:Value}{ls:List ML}(h:kC A w v ls)(hv:∀ k,v.ownBlock=some k→w'.heap[k]?=w.heap[k]?)(hr:∀ m∈ls,∀ k,m.v.ownBlock=some k→w'.heap[k]?=w.heap[k]?):kC A w' v ls:=⟨h.lin.keep hv hr,h.apart⟩
def InCp (cb lb:Nat)(v:Value)(g:yd):Type:={ z:World // z.cell? ⟨cb,0,none⟩=some v∧xq z ⟨lb,0,none⟩ 38=true∧xp z ⟨lb,0,none⟩ 38=x9 g }
theorem InCp.same {cb lb:Nat}{v:Value}{g:yd}{w w':World}(h:w.cell? ⟨cb,0,none⟩=some v∧xq w ⟨lb,0,none⟩ 38=true∧xp w ⟨lb,0,none⟩ 38=x9 g)(h1:w'.heap[cb]?=w.heap[cb]?)(h2:w'.heap[lb]?=w.heap[lb]?):∃ z:InCp cb lb v g,w'=z.1:=by
 have hc:∀ j,w'.cell? ⟨lb,j,none⟩=w.cell? ⟨lb,j,none⟩:=fun j=>by unfold World.cell?;rw[h2]
 have h3:=xYz (w:=w) (w':=w') (a:=⟨lb,0,none⟩) (n:=38) (fun j _=>by rw[Addr.add_lit];exact hc _)
 refine⟨⟨w',?_,by rw[h3.1];exact h.2.1,by rw[h3.2];exact h.2.2⟩,rfl⟩
 rw[←h.1]
 unfold World.cell?;rw[h1]
theorem xNa (B ib M mc:Nat)(gs:List MG)(w:World)(h:ye B w ib M gs mc) :
  Calls Tryz.prog 48 #[.pointer (some ⟨ib,0,none⟩)] w fun r w'=>xVm gs w r w':=by
 have hmm:=@run_makeMap Tryz.prog
 obtain⟨W1,hW1⟩:∃ W1,W1=w.alloc (.map #[] 0):=⟨_,rfl⟩
 have hb1:Below w.heap.size w W1:=by rw[hW1];exact b_ _ _
 obtain⟨W2,hW2⟩:∃ W2,W2=W1.alloc (.cells #[.map (some w.heap.size),.int .i64 (xS gs)] 193):=⟨_,rfl⟩
 have hb2:Below w.heap.size w W2:=by rw[hW2];exact hb1.alloc hb1.size _
 have c1:=(h.below hb1).cell1
 have c0:=(h.below hb2).cell0
 have hrg:=run_range_map (P:=Tryz.prog) W2 191 _ _ M _ mc Tryz.underlying191 (h.below hb2).map
 have hst:=ClSt.start h (W:=W2.alloc (.mapIter (some M) mc #[] mc)) (by rw[hW2,hW1])
 have hs1:W1.heap.size=w.heap.size+1:=by rw[hW1];simp
 have hs2:W2.heap.size=w.heap.size+1+1:=by rw[hW2];simp[hs1]
 have HX:=h_ h
 have HST:=h_ hst
 rw[hW1] at c1
 rw[hW2,hW1] at c0 hrg
 clear h hb1 hb2 hst
 go_enter Tryz.func48,Tryz.ntmps48
 go_upto_region 5 with fail
 rw[←hW1,←hW2]
 obtain⟨W3,hW3⟩:∃ W3,W3=W2.alloc (.mapIter (some M) mc #[] mc):=⟨_,rfl⟩
 rw[←hW3] at HST ⊢
 have hbW:w.heap.size≤w.heap.size:=Nat.le_refl _
 obtain⟨n0,hn0⟩:∃ n0,n0=w.heap.size:=⟨_,rfl⟩
 rw[←hn0] at HST ⊢
 have HN0:=h_ hn0
 clear hW3 hW1 hW2 c1 c0 hrg hs1 hs2 hbW hmm hn0
 go_loopw [4,5,6,8] (fun _ _ _ _ wr=>∃ (seen:Array Nat) (gs2:List MG) (mc2:Nat),Hid (ClSt B w ib M mc gs (n0+1) n0 (n0+1+1) gs2 mc2 seen wr)) (fun _ _ _ _ wr=>xX1 gs (n0+1+1) wr)
 case atStart=>exact⟨#[],[],0,HST⟩
 case round =>
  obtain⟨seen,gs2,mc2,HS⟩:=hrel
  have HMU:=h_ (xP4 (gs:=gs) HS.out.rd.iter)
  rcases HS.out.rd.next2 0 with⟨hall,hn⟩ | ⟨G,hG,X,hn,hk,hen,hlt,hit,hns⟩
  ·have HD:=h_ (HS.out.done hall)
   have HBL:=h_ HS.out.rd.bl
   clear hall HS
   go_wp2
   go_ret
   exact⟨n0+1,n0,gs2,mc2,rfl,HD.out.1,HD.out.2.1,HD.out.2.2,HBL.out⟩
  ·have hn0r:n0+1+1<wr.heap.size:=(i_ HS.out.rd.iter).1
   have hsx:=hk.size
   have hbX:Below w.heap.size w X:=HS.out.rd.bl.trans (hk.below (by rw[←HN0.out];omega) (fun k hk=>by rw[List.mem_singleton.1 hk,←HN0.out];omega))
   have hgx:=(HX.out.below hbX).grps G hG
   have g1:=cell_of_row X G.gb 1 _ _ _ hgx.blk
   have g0:=cell_of_row X G.gb 0 _ _ _ hgx.blk
   have HMC:=h_ (xJa G.nb _ _ X hgx.nums)
   obtain⟨Xa,hXa⟩:∃ Xa,Xa=X.alloc (.map (G.nl.map (enE ekI)).toArray G.nc):=⟨_,rfl⟩
   obtain⟨Xb,hXb⟩:∃ Xb,Xb=Xa.alloc (.cells #[.slice none 0 0,.map (some X.heap.size)] 198):=⟨_,rfl⟩
   have hxa:X.heap.size≤Xa.heap.size:=by rw[hXa];simp
   have hsa:Xa.heap.size=X.heap.size+1:=by rw[hXa];simp
   have hba:Below X.heap.size X Xa:=by rw[hXa];exact b_ _ _
   have hbb:Below X.heap.size X Xb:=by rw[hXb];exact hba.alloc hba.size _
   have HCP0:Hid (CpSt X G 0 (.slice none 0 0) [] Xb):=h_ ⟨hbb,by rw[hXb,←hsa];exact heap_alloc_new _ _,kC.nil _ _,by
    unfold y3
    rw[hXb,heap_alloc_old _ _ (by omega),hXa]
    exact heap_alloc_new _ _,rfl⟩
   obtain⟨la,lc,hGv⟩:=hgx.slice
   have HGX:=h_ hgx
   have hgl:=qI hG
   have hgf:=HX.out.few
   have g0b:Xb.cell? ⟨G.gb,0,none⟩=some G.v:=(hbb.cell (block_lt_of_cell g0)).trans g0
   rw[hGv] at g0b
   have HST':Hid (∀ (cb nb:Nat) (v:Value) (ms:List ML) (Y1:World),Below X.heap.size X Y1→ms.map (·.p)=G.ms.map (·.p)→Y1.heap[cb]?=some (.cells #[v,.map (some nb)] 198 (0,0))→zl X.heap.size Y1 v ms→y3 ekI Y1 nb G.nl G.nc→X.heap.size≤cb→X.heap.size≤nb→ClSt B w ib M mc gs (n0+1) n0 (n0+1+1) (gs2++[cpG G mc2 cb nb v ms]) (mc2+1) (seen.push G.born) (Y1.putObj n0 (.map (((gs2.map MG.e)++[(⟨G.name,.pointer (some ⟨cb,0,none⟩),mc2⟩:KE ByteArray)]).map (enE ekS)).toArray (mc2+1)))):=h_ fun cb nb v ms Y1 hb hp hcb hl hn h1 h2=>HS.out.put hG hns hk hit hb hp hcb hl hn h1 h2 rfl
   have HPUT:Hid (∀ (cb:Nat) (Y1:World),Below X.heap.size X Y1→Y1.cell? ⟨n0+1,0,none⟩=some (.map (some n0))∧(Instr.mapUpdate 191 (.map (some n0)) (.string G.name) (.pointer (some ⟨cb,0,none⟩))).run Tryz.prog Y1=.ok () (Y1.putObj n0 (.map (((gs2.map MG.e)++[(⟨G.name,.pointer (some ⟨cb,0,none⟩),mc2⟩:KE ByteArray)]).map (enE ekS)).toArray (mc2+1)))):=h_ fun cb Y1 hb=>HS.out.out hG hns hk hb cb
   have HLT:=h_ hlt
   have HHB:=h_ hbX
   clear hk hit hns hlt hbX hgx HS hxa hbb hba hG g0
   have HXa:=h_ hXa
   have HXb:=h_ hXb
   rw[hXb] at g0b
   clear hXa hXb
   go_wp2_with fail
   refine HMC.out.mono ?_
   rintro r w2 ⟨rfl,hw2⟩
   rw[←HXa.out] at hw2
   subst hw2
   clear HMC
   go_upto_region 9 with fail
   rw[←HXb.out]
   have HGV:=h_ hGv
   have HXS:Hid (X.heap.size+2≤Xb.heap.size):=h_ (by rw[HXb.out];simp;omega)
   have hXn:n0+1+1<X.heap.size:=by omega
   clear hGv HXa HXb g0b g1 hn hen hsa
   obtain⟨A,hA⟩:∃ A,A=X.heap.size:=⟨_,rfl⟩
   rw[←hA] at hXn ⊢
   have HA:=h_ hA
   clear hA
   obtain⟨i0,hi0,hz0,hz1,hz2⟩:=info_parts Tryz.info_line
   go_loopw [8,40] (fun _ i wy=>∃ (k:Nat) (v:Value) (ms:List ML),k≤G.ms.length∧i=.int .i64 k∧Hid (CpSt X G k v ms wy)) (fun _ i _=>G.ms.length-(intOf i).toNat)
   case atStart=>exact⟨0,_,[],Nat.zero_le _,rfl,HCP0⟩
   case round =>
    obtain⟨k,v,ms,hk,rfl,HC⟩:=hrel
    by_cases hltk:k<G.ms.length
    ·have hltz:(k:Int)<(G.ms.length:Int):=by omega
     obtain⟨lg,cap,hlve,hlB,hll,hcell⟩:∃ lg cap,G.v=.slice (some ⟨lg,0,none⟩) G.ms.length cap∧B≤lg∧lg<X.heap.size∧∀ j (hj:j<G.ms.length) i u,(xK G.ms[j].g)[i]?=some u→X.cell? ⟨lg,j*38+i,none⟩=some u:=by
      rcases HGX.out.lines.head with⟨_,e⟩ | ⟨lg,cap,h1,h2,h3,_,_,h4⟩
      ·rw[e] at hltk;cases hltk
      ·exact⟨lg,cap,h1,h2,h3,h4⟩
     rw[HGV.out] at hlve
     cases hlve
     obtain⟨o1,d1⟩:=xBe (w:=wr) (g:=lg) (off:=k*38) (l:=G.ms[k].g) (fun i u hu=>(HC.out.bl.cell (p:=⟨lg,k*38+i,none⟩) hll).trans (hcell k hltk i u hu))
     have hmem:G.ms[k]∈G.ms:=List.getElem_mem hltk
     have hrl:=xD0 (HGX.out.good _ hmem)
     have HRF:=h_ ((HGX.out.lines.refs _ hmem).below HC.out.bl)
     have HTK:Hid ((G.ms.take (k+1)).map (·.p)=(G.ms.take k).map (·.p)++[G.ms[k].p]):=h_ (by rw[List.take_succ_eq_append_getElem hltk,List.map_append];rfl)
     have hmsk:ms.length=k:=by
      have:=congrArg List.length HC.out.ps
      rw[List.length_map,List.length_map,List.length_take] at this
      omega
     generalize G.ms[k]=m at o1 d1 hrl HRF HTK
     obtain⟨va,vn,vc,hve⟩:∃ a n c,v=.slice a n c:=xEc HC.out.row.lin.row
     subst hve
     have hone:=HRF.out.one
     have hft:=ub (g:=m.g) hone
     have hzs:((x9 xH).size == 38)=true:=by rw[xN];rfl
     obtain⟨W1,hW1⟩:∃ W1,W1=wr.alloc (.cells (x9 m.g) 49):=⟨_,rfl⟩
     have hbW1:Below wr.heap.size wr W1:=by rw[hW1];exact b_ _ _
     have hLV:y2 W1 wr.heap.size m.g:=by rw[hW1];exact heap_alloc_new _ _
     have hblk1:W1.heap[X.heap.size+1]?=some (.cells #[.slice va vn vc,.map (some X.heap.size)] 198 (0,0)):=(hbW1.block _ (i_ HC.out.blk).1).trans HC.out.blk
     have hcbl:X.heap.size+1<wr.heap.size:=(i_ HC.out.blk).1
     have hbase:W1.drew.cell? ⟨A+1,0,none⟩=some (.slice va vn vc)∧xq W1.drew ⟨wr.heap.size,0,none⟩ 38=true∧xp W1.drew ⟨wr.heap.size,0,none⟩ 38=x9 m.g:=by
      rw[HA.out]
      exact⟨cell_of_row W1 (X.heap.size+1) 0 _ _ _ hblk1,hLV.rd.1,hLV.rd.2⟩
     haveI:Nonempty (InCp (A+1) wr.heap.size (.slice va vn vc) m.g):=⟨⟨_,hbase⟩⟩
     have z1:∀ z:InCp (A+1) wr.heap.size (.slice va vn vc) m.g,z.1.cell? ⟨A+1,0,none⟩=some (.slice va vn vc):=fun z=>z.2.1
     have z2:∀ z:InCp (A+1) wr.heap.size (.slice va vn vc) m.g,xq z.1 ⟨wr.heap.size,0,none⟩ 38=true:=fun z=>z.2.2.1
     have z3:∀ z:InCp (A+1) wr.heap.size (.slice va vn vc) m.g,xp z.1 ⟨wr.heap.size,0,none⟩ 38=x9 m.g:=fun z=>z.2.2.2
     have HW1:=h_ hW1
     have HBASE:=h_ hbase
     have HBW1:=h_ hbW1
     clear hW1 hLV hblk1 hbase hcell hbW1
     go_upto_region 11 with fail
     rw[←HW1.out]
     refine xw [0,1,2,3,4,5] [6,7,8,9,10,11] (fun w'=>∃ z:InCp (A+1) wr.heap.size (.slice va vn vc) m.g,w'=z.1) (by kernel_rfl) (by kernel_rfl) (by kernel_rfl) ⟨⟨_,HBASE.out⟩,rfl⟩ ?_
     simp only[o_]
     repeat (go_big_quiet_step (fail))
     refine wpQuiet_nil ?_
     clear z1 z2 z3 o1 d1
     have hbd:Below wr.heap.size wr W1.drew:=HBW1.out.drew
     have hsd:wr.heap.size<W1.drew.heap.size:=by rw[HW1.out];simp[World.drew]
     generalize W1.drew=Wd at HBASE hbd hsd ⊢
     have HBD:=h_ hbd
     have hcd:A+1<wr.heap.size:=by rw[HA.out];exact hcbl
     have HCL:=h_ (xBn B m.g m.p.ids Wd (HRF.out.below hbd) (by omega))
     clear hbd HBW1 HW1 HRF
     refine xQt true (by kernel_rfl) (by kernel_rfl) ?_
     simp only[o_]
     go_wp2_with fail
     refine HCL.out.mono ?_
     rintro r w2 ⟨v',rfl,hI2,hb2⟩
     obtain⟨x,hx⟩:∃ x:ML,x=⟨m.p,v'⟩:=⟨_,rfl⟩
     have hxg:({ m.g with refs:=v' }:yd)=x.g:=by rw[hx];rfl
     have hxp:x.p=m.p:=by rw[hx]
     have hxv:x.v=v':=by rw[hx]
     rw[hxg]
     have HI2:Hid (zd Wd.heap.size w2 x.v x.p.ids):=h_ (by rw[hxp,hxv];exact hI2)
     have HXP:=h_ hxp
     have honex:∀ u∈xK x.g,u.oneCell'=true:=uI (g:=x.g) (by show x.v.oneCell'=true;exact HI2.out.one)
     have HONEX:=h_ honex
     have HB2:Hid (Below wr.heap.size wr w2):=h_ (HBD.out.trans (hb2.mono HBD.out.size))
     have HC2:Hid (∃ z:InCp (A+1) wr.heap.size (.slice va vn vc) m.g,w2=z.1):=h_ (InCp.same HBASE.out (hb2.block _ (by omega)) (hb2.block _ (by omega)))
     have hs2:Wd.heap.size≤w2.heap.size:=hb2.size
     clear hI2 hb2 hx hxg hxp hxv honex HCL
     go_wp2_with fail
     refine⟨fun _=>HC2.out,xQt true (by kernel_rfl) (by kernel_rfl) ?_⟩
     simp only[o_]
     go_wp2_with fail
     have hal:Below w2.heap.size w2 (w2.alloc (.cells (x9 x.g) 49)):=(Below.refl _ _).alloc (Nat.le_refl _) _
     have hb3:Below wr.heap.size wr (w2.alloc (.cells (x9 x.g) 49)):=HB2.out.alloc HB2.out.size _
     have hc3:∃ z:InCp (A+1) wr.heap.size (.slice va vn vc) m.g,w2.alloc (.cells (x9 x.g) 49)=z.1:=by
      obtain⟨z,hz⟩:=HC2.out
      refine InCp.same (w:=w2) ?_ (heap_alloc_old _ _ (by omega)) (heap_alloc_old _ _ (by omega))
      rw[hz]
      exact z.2
     have HC3:=h_ hc3
     have HB3:=h_ hb3
     have hnew:∀ j,(w2.alloc (.cells (x9 x.g) 49)).cell? ⟨w2.heap.size,j,none⟩=(x9 x.g)[j]?:=fun j=>yy _ _ _ j
     have HNEW:=h_ hnew
     have HIX:=h_ (HI2.out.below hal)
     have hs3:(w2.alloc (.cells (x9 x.g) 49)).heap.size=w2.heap.size+1:=by simp
     generalize w2.alloc (.cells (x9 x.g) 49)=w3 at HC3 HB3 HNEW HIX hs3 ⊢
     clear hal hb3 hc3 hnew
     refine⟨fun _=>HC3.out,xQt true (by kernel_rfl) (by kernel_rfl) ?_⟩
     simp only[o_]
     have hrow3:kC X.heap.size w3 (.slice va vn vc) ms:=⟨HC.out.row.lin.below HB3.out,HC.out.row.apart⟩
     have HROW3:=h_ hrow3
     have hown:=hrow3.lin.row
     rw[hmsk] at hown
     have hrs:X.heap.size≤wr.heap.size:=HC.out.bl.size
     refine wpList_append_own _ rfl (.tmp 48) (.tmp 51) 173 rfl X.heap.size 49 i0 (.agg (x9 xH)) 38 112 Tryz.underlying173 hi0 hz0 hz1 hz2 (xN _) (by decide) _ _ _ rfl hown ⟨w2.heap.size,0,none⟩ 1 1 (xK x.g) rfl (yw _) ?c1 HONEX.out ?c3 ?c4 ?c5 ?_
     case c1 =>
      intro j u hj
      rw[Addr.add_lit,Nat.zero_add,HNEW.out]
      unfold x9
      rw[List.getElem?_toArray]
      exact hj
     case c3=>unfold maxLen;omega
     case c4=>omega
     case c5=>omega
     intro v2 w4 hown4 hgr4 _
     have hty:∀ k,(Value.slice va vn vc).ownBlock=some k→∃ c,w3.heap[k]?=some (.cells c 49 (0,0)):=fun k hk=>yO hown hk
     have hb4:Below wr.heap.size wr w4∨True:=.inr trivial
     have hgrow:∀ k,k<w3.heap.size→(Value.slice va vn vc).ownBlock≠some k→w4.heap[k]?=w3.heap[k]?:=fun k hk hne=>hgr4.block k hk (fun e=>hne e.symm)
     have hcbT:w3.heap[X.heap.size+1]?=some (.cells #[.slice va vn vc,.map (some X.heap.size)] 198 (0,0)):=(HB3.out.block _ hcbl).trans HC.out.blk
     have hcbn:(Value.slice va vn vc).ownBlock≠some (X.heap.size+1):=fun e=>by
      obtain⟨c,hc⟩:=hty _ e
      rw[hcbT] at hc
      exact absurd (j8 hc) (by decide)
     have hlbT:(Value.slice va vn vc).ownBlock≠some wr.heap.size:=fun e=>by
      have:=(World.ownsRow.lt HC.out.row.lin.row _ e).2
      omega
     have hnbn:(Value.slice va vn vc).ownBlock≠some X.heap.size:=fun e=>by
      obtain⟨c,hc⟩:=hty _ e
      have hm:=HC.out.nums
      unfold y3 at hm
      rw[HB3.out.block _ (by omega),hm] at hc
      cases hc
     have hC4:∃ z:InCp (A+1) wr.heap.size (.slice va vn vc) m.g,w4=z.1:=by
      obtain⟨z,hz⟩:=HC3.out
      refine InCp.same (w:=w3) (by rw[hz];exact z.2) (hgrow _ (by omega) (by rw[HA.out];exact hcbn)) (hgrow _ (by omega) hlbT)
     have hblk4:w4.heap[A+1]?=some (.cells #[.slice va vn vc,.map (some X.heap.size)] 198 (0,0)):=by
      rw[HA.out]
      exact(hgrow _ (by omega) hcbn).trans hcbT
     have hrow4:kC X.heap.size w4 v2 (ms++[x]):=by
      have hrowd:kC X.heap.size Wd (.slice va vn vc) ms:=⟨HC.out.row.lin.below HBD.out,HC.out.row.apart⟩
      refine hrowd.snoc (by rw[hmsk];exact hown4) (fun y hy=>xKr (HROW3.out.lin.refs y hy) hgr4 hty) (xKr (HIX.out.mono (by omega)) hgr4 hty) (fun k hk=>(HI2.out.lt hk).1)
     have hbl4:Below X.heap.size X w4:=(HC.out.bl.trans (HB3.out.mono hrs)).grown hgr4 (by omega) (fun j hj=>(World.ownsRow.lt HC.out.row.lin.row j hj).1)
     obtain⟨v2a,v2n,v2c,hve⟩:∃ a n c,v2=.slice a n c:=xEc hown4
     subst hve
     have hq1:=cell_of_row w4 (A+1) 0 _ _ _ hblk4
     have hq2:=frozen_of_row w4 (A+1) 0 _ _ hblk4
     have HNX:Hid (CpSt X G (k+1) (.slice v2a v2n v2c) (ms++[x]) (w4.setCell ⟨A+1,0,none⟩ (.slice v2a v2n v2c))):=h_ (by
      have ho:∀ j,j≠A+1→(w4.setCell ⟨A+1,0,none⟩ (.slice v2a v2n v2c)).heap[j]?=w4.heap[j]?:=fun j hj=>heap_setCell_other w4 ⟨A+1,0,none⟩ j _ hj
      have hcs:=heap_setCell_same w4 (A+1) 0 _ _ (.slice v2a v2n v2c) hblk4
      refine⟨hbl4.setCell (p:=⟨A+1,0,none⟩) (by show _≤A+1;rw[HA.out];omega) _,by rw[←HA.out] at hcs ⊢;exact hcs,hrow4.keep (fun j hj=>ho j fun e=>?_) (fun y hy j hj=>ho j fun e=>?_),?_,?_⟩
      ·obtain⟨c,hc⟩:=yO hrow4.lin.row hj
       rw[e,hblk4] at hc
       exact absurd (j8 hc) (by decide)
      ·obtain⟨c,hc⟩:=(hrow4.lin.refs y hy).typed hj
       rw[e,hblk4] at hc
       exact absurd (j8 hc) (by decide)
      ·unfold y3
       rw[ho _ (by rw[HA.out];omega),hgrow _ (by omega) hnbn,HB3.out.block _ (by omega)]
       exact HC.out.nums
      ·rw[HTK.out,List.map_append,HC.out.ps]
       simp[HXP.out])
     have HC4:=h_ hC4
     clear hown4 hgr4 hty hgrow hcbT hcbn hlbT hnbn hC4 hblk4 hrow4 hbl4 hown hrow3 HC HC3 HB3 HIX HNEW HROW3 HI2 hb4
     go_wp2_with fail
     refine⟨fun _=>HC4.out,xG [9,10,11] _ _ (by kernel_rfl) ?_⟩
     simp only[o_]
     go_wp2
     refine NoPanic.normal ?_
     go_wp2
     go_roundw
     case rel=>exact⟨k+1,_,_,by omega,by go_num,HNX⟩
     case measure=>simp[intOf];omega
    ·have hltz:¬ (k:Int)<(G.ms.length:Int):=by omega
     have hps:ms.map (·.p)=G.ms.map (·.p):=by
      have:=HC.out.ps
      rwa [List.take_of_length_le (by omega)] at this
     have HSN:=h_ (HST'.out (X.heap.size+1) X.heap.size v ms wr HC.out.bl hps HC.out.blk HC.out.row.lin HC.out.nums (by omega) (Nat.le_refl _))
     obtain⟨p1,p2⟩:=HPUT.out (X.heap.size+1) wr HC.out.bl
     rw[←HA.out] at p2 HSN
     generalize (Obj.map (((gs2.map MG.e)++[(⟨G.name,.pointer (some ⟨A+1,0,none⟩),mc2⟩:KE ByteArray)]).map (enE ekS)).toArray (mc2+1))=O at p2 HSN
     clear HC hps HST' HPUT HCP0
     go_wp2
     go_roundw
     case rel=>exact⟨_,_,_,HSN⟩
     case measure =>
      rw[HMU.out,xP4 HSN.out.rd.iter]
      exact HLT.out
end Go.Proofs.YthiafifdiaplaaaGreatDoor
namespace Go.Proofs.YthiafifdiaplaaaGreatDoor
open Go Go.RowKit Go.Proofs
section
theorem qf (ρ:Operand→Value)(d:Option Tmp)(x:Operand)(ty:TypeId)(pos:String)(af:Array Edge)(g:Option (Nat × Bool))(w:World) :
  Sem.run Tryz.prog (execOp ρ ⟨d,.load 82 x,ty,pos,af,g⟩) w=yx Tryz.prog 82 w (ρ x):=rfl
theorem uJ (ρ:Operand→Value)(d:Option Tmp)(x y:Operand)(ty:TypeId)(pos:String)(af:Array Edge)(g:Option (Nat × Bool))(w:World) :
  Sem.run Tryz.prog (execOp ρ ⟨d,.store 82 x y,ty,pos,af,g⟩) w=ym Tryz.prog 82 w (ρ x) (ρ y):=rfl
theorem xCi (w:World)(a:Addr)(h:xq w a 4=true):yx Tryz.prog 82 w (.pointer (some a))=.ok (.value (.agg (xp w a 4))) w :=
 yo Tryz.isAgg82 Tryz.sizeOf82 w a h
theorem xCa (w:World)(g:Nat)(cells:Array Value)(h:xP w g 4=true)(h2:xy 4 cells=true) :
  ym Tryz.prog 82 w (.pointer (some ⟨g,0,none⟩)) (.agg cells)=.ok .skip (w.setRow g cells):=yr (by kernel_rfl) w g cells h h2
theorem yY.base {B B':Nat}{w:World}{v:Hst}(h:yY B w v)(hb:B'≤B):yY B' w v:=⟨h.blk,h.map,h.ne,Nat.le_trans hb h.pB,Nat.le_trans hb h.MB,h.vals⟩
theorem yU.base {B B':Nat}{w:World}{v:Spo}(h:yU B w v)(hb:B'≤B):yU B' w v:=⟨h.blk,h.map,h.ne,Nat.le_trans hb h.pB,Nat.le_trans hb h.MB,h.vals⟩
theorem yR.base {B B':Nat}{w:World}{v:Tbl}(h:yR B w v)(hb:B'≤B):yR B' w v:=⟨h.blk,h.map,h.ne,Nat.le_trans hb h.pB,Nat.le_trans hb h.MB,fun g hg=>(h.ivs g hg).base hb,h.young⟩
theorem zl.base {B B':Nat}{w:World}{v:Value}{ms:List ML}(h:zl B w v ms)(hb:B'≤B):zl B' w v ms:=⟨kJ h.row hb,fun m hm=>(h.refs m hm).mono hb⟩
theorem zY.base {B B':Nat}{w:World}{G:MG}(h:zY B w G)(hb:B'≤B):zY B' w G:=⟨h.blk,h.lines.base hb,h.nums,h.agree,h.ids,h.sorted,h.good,h.named,h.some',Nat.le_trans hb h.gbB,Nat.le_trans hb h.nbB⟩
theorem ye.base {B B':Nat}{w:World}{ib M mc:Nat}{gs:List MG}(h:ye B w ib M gs mc)(hb:B'≤B):ye B' w ib M gs mc:=⟨h.blk,h.map,h.names,fun G hG=>(h.grps G hG).base hb,h.apart,h.born,h.young,h.few,Nat.le_trans hb h.ibB,Nat.le_trans hb h.MB⟩
theorem ye.kept {B:Nat}{w w':World}{ib M mc:Nat}{gs:List MG}{F:List Nat}(h:ye B w ib M gs mc)(hk:Kept F w w')(hF:∀ k∈F,k<B):ye B w' ib M gs mc :=
 h.keep (fun k hk'=>hk.block k (h.foot_lt k hk').2 (fun hf=>by have:=hF k hf;have:=(h.foot_lt k hk').1;omega))
  (fun G hG m hm k hk'=>hk.block k (((h.grps G hG).lines.refs m hm).lt hk').2 (fun hf=>by have:=hF k hf;have:=(((h.grps G hG).lines.refs m hm).lt hk').1;omega))
structure Prt where
 h:Hst
 s:Spo
 t:Tbl
 ib:Nat
 M:Nat
 gs:List MG
 mc:Nat
def xW (x:Prt):Array Value:=#[.pointer (some ⟨x.h.p,0,none⟩),.pointer (some ⟨x.s.p,0,none⟩),.pointer (some ⟨x.t.p,0,none⟩),.pointer (some ⟨x.ib,0,none⟩)]
structure PC where
 hes:List (Id32 × Value)
 cut:Int
 ses:List (Id32 × Value)
 budget:Nat
 bytes:Nat
 next:Nat
 tc:Option (ByteArray × Nat × Bool)
 lf:LF
def kvs (es:List (KE Id32)):List (Id32 × Value):=es.map fun e=>(e.k,e.v)
def Prt.pc (x:Prt):PC:=⟨kvs x.h.es,x.h.cut,kvs x.s.es,x.s.budget,x.s.bytes,x.s.next,x.t.c,lfOf x.gs⟩
def kk (b:Nat):PC:=⟨[],0,[],b,0,0,none,fun _=>[]⟩
structure zC (B:Nat)(w:World)(x:Prt):Prop where
 h:yY B w x.h
 s:yU B w x.s
 t:yR B w x.t
 o:ye B w x.ib x.M x.gs x.mc
structure qj (b c1 c2 c3:Nat)(w:World)(x:Prt):Prop where
 h:yY b w x.h
 hl:∀ k∈x.h.foot,k<c1
 s:yU c1 w x.s
 sl:∀ k∈x.s.foot,k<c2
 t:yR c2 w x.t
 tl:∀ k∈x.t.foot,k<c3
 o:ye c3 w x.ib x.M x.gs x.mc
 b1:b≤c1
 b2:c1≤c2
 b3:c2≤c3
theorem qj.at {b c1 c2 c3:Nat}{w:World}{x:Prt}(h:qj b c1 c2 c3 w x):zC b w x :=
 ⟨h.h,h.s.base h.b1,h.t.base (Nat.le_trans h.b1 h.b2),h.o.base (Nat.le_trans (Nat.le_trans h.b1 h.b2) h.b3)⟩
theorem zC.below {B:Nat}{w w':World}{x:Prt}(h:zC B w x)(hb:Below w.heap.size w w'):zC B w' x:=⟨h.h.below hb,h.s.below hb,h.t.below hb,h.o.below hb⟩
theorem zC.base {B B':Nat}{w:World}{x:Prt}(h:zC B w x)(hb:B'≤B):zC B' w x:=⟨h.h.base hb,h.s.base hb,h.t.base hb,h.o.base hb⟩
theorem qj.below {b c1 c2 c3:Nat}{w w':World}{x:Prt}(h:qj b c1 c2 c3 w x)(hb:Below w.heap.size w w'):qj b c1 c2 c3 w' x :=
 ⟨h.h.below hb,h.hl,h.s.below hb,h.sl,h.t.below hb,h.tl,h.o.below hb,h.b1,h.b2,h.b3⟩
theorem zC.kept {B:Nat}{w w':World}{x:Prt}{F:List Nat}(h:zC B w x)(hk:Kept F w w')(hF:∀ k∈F,k<B):zC B w' x:=by
 refine⟨h.h.kept hk fun k hk' hf=>?_,h.s.kept hk fun k hk' hf=>?_,h.t.kept hk fun k hk' hf=>?_,h.o.kept hk hF⟩
 ·have:=hF k hf;simp[Hst.foot] at hk';have:=h.h.pB;have:=h.h.MB;omega
 ·have:=hF k hf;simp[Spo.foot] at hk';have:=h.s.pB;have:=h.s.MB;omega
 ·have:=hF k hf;have:=(h.t.foot_lt k hk').1;omega
theorem yY.agree {B:Nat}{w w':World}{v:Hst}(h:yY B w v)(ha:∀ k,B≤k→k<w.heap.size→w'.heap[k]?=w.heap[k]?):yY B w' v:=⟨(ha _ h.pB h.lt.1).trans h.blk,(ha _ h.MB h.lt.2).trans h.map,h.ne,h.pB,h.MB,h.vals⟩
theorem yU.agree {B:Nat}{w w':World}{v:Spo}(h:yU B w v)(ha:∀ k,B≤k→k<w.heap.size→w'.heap[k]?=w.heap[k]?):yU B w' v:=⟨(ha _ h.pB h.lt.1).trans h.blk,(ha _ h.MB h.lt.2).trans h.map,h.ne,h.pB,h.MB,h.vals⟩
theorem yR.agree {B:Nat}{w w':World}{v:Tbl}(h:yR B w v)(ha:∀ k,B≤k→k<w.heap.size→w'.heap[k]?=w.heap[k]?):yR B w' v:=⟨(ha _ h.pB h.lt.1).trans h.blk,(ha _ h.MB h.lt.2).trans h.map,h.ne,h.pB,h.MB,fun g hg x hx=>by
 obtain⟨h1,h2,h3,h4,h5⟩:=h.ivs g hg x hx
 have hb:=ha x.1 h1 (block_lt_of_cell h4)
 exact⟨h1,h2,h3,(World.cell?_of_block (a:=⟨x.1,0,none⟩) hb).trans h4,(World.cell?_of_block (a:=⟨x.1,1,none⟩) hb).trans h5⟩,h.young⟩
theorem zC.agree {B:Nat}{w w':World}{x:Prt}(h:zC B w x)(ha:∀ k,B≤k→k<w.heap.size→w'.heap[k]?=w.heap[k]?):zC B w' x :=
 ⟨h.h.agree ha,h.s.agree ha,h.t.agree ha,h.o.keep (fun k hk=>ha k (h.o.foot_lt k hk).1 (h.o.foot_lt k hk).2) (fun G hG m hm k hk=>ha k (((h.o.grps G hG).lines.refs m hm).lt hk).1 (((h.o.grps G hG).lines.refs m hm).lt hk).2)⟩
theorem qj.feet {b c1 c2 c3:Nat}{w:World}{x:Prt}(h:qj b c1 c2 c3 w x):∀ k,k∈x.h.foot∨k∈x.s.foot∨k∈x.t.foot∨k∈foot x.ib x.M x.gs→k<w.heap.size:=fun k hk=>by
 rcases hk with hk | hk | hk | hk
 ·have:=h.h.lt;simp[Hst.foot] at hk;omega
 ·have:=h.s.lt;simp[Spo.foot] at hk;omega
 ·exact(h.t.foot_lt k hk).2
 ·exact(h.o.foot_lt k hk).2
def vy (B T:Nat)(w:World)(x:Prt):Prop:=∀ w':World,(∀ k,B≤k→k<T→w'.heap[k]?=w.heap[k]?)→zC B w' x
theorem zC.in {B:Nat}{w:World}{x:Prt}(h:zC B w x):vy B w.heap.size w x:=fun _ ha=>h.agree ha
theorem vy.at {B T:Nat}{w:World}{x:Prt}(h:vy B T w x):zC B w x:=h w fun _ _ _=>rfl
theorem vy.kept {B T:Nat}{w w':World}{x:Prt}{F:List Nat}(h:vy B T w x)(hk:Kept F w w')(hT:T≤w.heap.size)(hF:∀ k∈F,k<B∨T≤k):vy B T w' x:=fun w2 ha=>h w2 fun k h1 h2=>(ha k h1 h2).trans (hk.block k (by omega) (fun hf=>by have:=hF k hf;omega))
theorem vy.below {B T:Nat}{w w':World}{x:Prt}(h:vy B T w x)(hb:Below w.heap.size w w')(hT:T≤w.heap.size):vy B T w' x:=h.kept (Kept.of_below (F:=[]) hb) hT (by simp)
def yS:Array Value:=#[.pointer none,.pointer none,.pointer none,.pointer none]
theorem uK (ρ:Operand→Value)(d:Option Tmp)(ty:TypeId)(pos:String)(af:Array Edge)(g:Option (Nat × Bool))(w:World) :
  Sem.run Tryz.prog (execOp ρ ⟨d,.alloc 82,ty,pos,af,g⟩) w=.ok (.value (.pointer (some ⟨w.heap.size,0,none⟩))) (w.alloc (.cells yS 82)):=by kernel_rfl
theorem qo (a b c d:Value)(ha:a.oneCell'=true)(hb:b.oneCell'=true)(hc:c.oneCell'=true)(hd:d.oneCell'=true):xy 4 #[a,b,c,d]=true:=by
 simp[xy,ha,hb,hc,hd]
theorem xJ7 {P:Program}{fn:Func}{p:Tmp}{ty n:Nat}(h:fn.results=#[.cell p ty])(hA:∀ w,Sem.run P (isAgg ty) w=.ok true w)(hs:∀ w,Sem.run P (Go.sizeOf ty) w=.ok n w)
  (tmps:Array Value) (w:World) (a:Addr) (cs:Array Value) (hp:tmps.getD p undef=.pointer (some a)) (hok:xq w a n=true) (hrd:xp w a n=cs) :
  (results fn tmps).run P w=.ok (.agg cs) w:=xCz h hA hs tmps w a cs hp hok hrd
attribute [local go_sem ↓] qf uJ uK
attribute [local go_sem] xCi xCa zt zw yD yC xj xh xe xd xA xz xo xl xt xC xx
theorem xDb (n:Nat)(h1:1≤n)(h2:n≤1073741824)(w:World):Calls Tryz.prog 33 #[.int .i64 n] w fun e w'=>Below w.heap.size w w'∧∃ x,e=.returned (.tuple #[.agg (xW x),.int .i64 0])∧zC w.heap.size w' x∧x.pc=kk n∧x.gs=[]:=by
 obtain⟨w1,hw1⟩:∃ w1,w1=w.alloc (.cells yS 82):=⟨_,rfl⟩
 have hb1:Below w.heap.size w w1:=by rw[hw1];exact b_ _ _
 have hn1:w1.heap[w.heap.size]?=some (.cells yS 82 (0,0)):=by rw[hw1];exact heap_alloc_new w _
 have HS:=h_ (xW7 n h1 h2 w1)
 have HB1:=h_ hb1
 have HN1:=h_ hn1
 clear h1 h2 hb1 hn1
 go_enter Tryz.func33,Tryz.ntmps33
 go_upto_region 1 with fail
 refine xu hw1 ?_
 clear hw1
 go_wp2_with fail
 refine HS.out.mono ?_
 rintro e w2 ⟨hb2,rfl,hs2⟩
 have HB2:=h_ hb2
 have HS2:=h_ hs2
 clear hb2 hs2 HS
 go_wp2_with fail
 refine(xHw w2).mono ?_
 rintro e w3 ⟨hb3,rfl,hh3⟩
 have HB3:=h_ hb3
 have HH3:=h_ hh3
 clear hb3 hh3
 go_wp2_with fail
 refine(xIq w3).mono ?_
 rintro e w4 ⟨rfl,hb4,ht4⟩
 have HB4:=h_ hb4
 have HT4:=h_ ht4
 clear hb4 ht4
 go_wp2_with fail
 refine(xTa w4).mono ?_
 rintro e w5 ⟨rfl,hw5⟩
 have hb5:=xH7 w4
 have ho5:=xT9 w4
 rw[hw5] at hb5 ho5
 have hs12:=HB1.out.size
 have hs23:=HB2.out.size
 have hs34:=HB3.out.size
 have hs45:=HB4.out.size
 have hs2':=HS2.out.lt
 obtain⟨x,hx⟩:∃ x:Prt,x=⟨⟨w2.heap.size+1,w2.heap.size,[],0,0⟩,⟨w1.heap.size+1,w1.heap.size,[],0,n,0,0⟩,⟨w3.heap.size+1,w3.heap.size,0,none⟩,w4.heap.size+1,w4.heap.size,[],0⟩:=⟨_,rfl⟩
 have hat:zC w1.heap.size w5 x:=by
  rw[hx]
  exact⟨((HH3.out.below HB4.out).below hb5).base (by omega),(((HS2.out.below HB3.out).below HB4.out).below hb5).base (by omega),(HT4.out.below hb5).base (by omega),ho5.base (by omega)⟩
 have hb15:Below w1.heap.size w1 w5:=HB2.out.trans ((HB3.out.trans ((HB4.out.trans (hb5.mono hs45)).mono hs34)).mono hs23)
 have hn5:=(hb15.block _ (i_ HN1.out).1).trans HN1.out
 have hro:xP w5 w.heap.size 4=true:=zq hn5 rfl
 obtain⟨cs,hcs⟩:∃ cs,cs=xW x:=⟨_,rfl⟩
 have hr6:=setRow_heap w5 w.heap.size _ cs _ _ hn5
 have hft:xy 4 cs=true:=by rw[hcs];exact qo _ _ _ _ rfl rfl rfl rfl
 have hsz:cs.size=4:=by rw[hcs];rfl
 obtain⟨o6,r6⟩:=xI (n:=4) hr6 hsz
 have hb05:Below w.heap.size w w5:=HB1.out.trans (hb15.mono hs12)
 have hw1s:=(i_ HN1.out).1
 have hat6:zC w.heap.size (w5.setRow w.heap.size cs) x:=(hat.kept (qd w5 w.heap.size cs) (fun k hk=>by rw[List.mem_singleton.1 hk];exact hw1s)).base hs12
 have hpc:x.pc=kk n∧x.gs=[]:=by rw[hx];exact⟨rfl,rfl⟩
 have HF:=h_ (And.intro (xJ hb05 (Nat.le_refl _) cs) (And.intro hat6 (And.intro hpc (And.intro o6 r6))))
 have hpx:#[Value.pointer (some ⟨w2.heap.size+1,0,none⟩),.pointer (some ⟨w1.heap.size+1,0,none⟩),.pointer (some ⟨w3.heap.size+1,0,none⟩),.pointer (some ⟨w4.heap.size+1,0,none⟩)]=cs:=by rw[hcs,hx];rfl
 have HCS:=h_ hcs
 clear hb5 ho5 hs12 hs23 hs34 hs45 hs2' hat hb15 hn5 hr6 hsz o6 r6 hb05 hw1s hat6 hpc hx hcs hw5
 go_wp2
 refine bodyPost_ret (v:=.tuple #[.agg cs,.int .i64 0]) (uN rfl Tryz.isAgg82 Tryz.sizeOf82 _ _ ⟨w.heap.size,0,none⟩ _ _ rfl rfl HF.out.2.2.2.1 HF.out.2.2.2.2) rfl ⟨HF.out.1,x,by rw[HCS.out],HF.out.2.1,HF.out.2.2.1.1,HF.out.2.2.1.2⟩
theorem xMb (n:Int)(h:n<1∨1073741824<n)(w:World):Calls Tryz.prog 33 #[.int .i64 n] w fun e w'=>Below w.heap.size w w'∧e=.returned (.tuple #[.agg yS,.int .i64 2]):=by
 obtain⟨w1,hw1⟩:∃ w1,w1=w.alloc (.cells yS 82):=⟨_,rfl⟩
 have hb1:Below w.heap.size w w1:=by rw[hw1];exact b_ _ _
 have hn1:w1.heap[w.heap.size]?=some (.cells yS 82 (0,0)):=by rw[hw1];exact heap_alloc_new w _
 have HS:=h_ (xW6 n h w1)
 have hro:xP w1 w.heap.size 4=true:=zq hn1 rfl
 have hr6:=setRow_heap w1 w.heap.size _ yS _ _ hn1
 have hft:xy 4 yS=true:=qo _ _ _ _ rfl rfl rfl rfl
 obtain⟨o6,r6⟩:=xI (n:=4) hr6 rfl
 have HF:=h_ (And.intro (xJ hb1 (Nat.le_refl _) yS) (And.intro o6 r6))
 have hzb:#[Value.pointer none,.pointer none,.pointer none,.pointer none]=yS:=rfl
 clear h hb1 hn1 hr6 o6 r6
 go_enter Tryz.func33,Tryz.ntmps33
 go_upto_region 1 with fail
 refine xu hw1 ?_
 clear hw1
 go_wp2_with fail
 refine HS.out.mono ?_
 rintro e w2 ⟨rfl,rfl⟩
 go_wp2
 exact bodyPost_ret (v:=.tuple #[.agg yS,.int .i64 2]) (uN rfl Tryz.isAgg82 Tryz.sizeOf82 _ _ ⟨w.heap.size,0,none⟩ _ _ rfl rfl HF.out.2.1 HF.out.2.2) rfl ⟨HF.out.1,rfl⟩
theorem ji {w:World}{b:Nat}{cs:Array Value}{t:TypeId}(h:w.heap[b]?=some (.cells cs t (0,0)))(j:Nat)(u:Value):(w.setCell ⟨b,j,none⟩ u).heap[b]?=some (.cells (cs.setIfInBounds j u) t (0,0)):=heap_setCell_same w b j cs t u h
theorem xAg {B:Nat}{w:World}{x:Prt}(h:zC B w x):Calls Tryz.prog 77 #[.agg (xW x)] w fun e w'=>Below w.heap.size w w'∧∃ x' c1 c2 c3,e=.returned (.agg (xW x'))∧qj w.heap.size c1 c2 c3 w' x'∧x'.pc=x.pc:=by
 obtain⟨b,hbd⟩:∃ b,b=w.heap.size:=⟨_,rfl⟩
 obtain⟨p0,hp0⟩:∃ p,p=Value.pointer (some ⟨x.h.p,0,none⟩):=⟨_,rfl⟩
 obtain⟨p1,hp1⟩:∃ p,p=Value.pointer (some ⟨x.s.p,0,none⟩):=⟨_,rfl⟩
 obtain⟨p2,hp2⟩:∃ p,p=Value.pointer (some ⟨x.t.p,0,none⟩):=⟨_,rfl⟩
 obtain⟨p3,hp3⟩:∃ p,p=Value.pointer (some ⟨x.ib,0,none⟩):=⟨_,rfl⟩
 have hpx:xW x=#[p0,p1,p2,p3]:=by rw[hp0,hp1,hp2,hp3];rfl
 rw[hpx]
 obtain⟨w1,hw1⟩:∃ w1,w1=(w.alloc (.cells #[p0,p1,p2,p3] 82)).alloc (.cells yS 82):=⟨_,rfl⟩
 have hb1:Below w.heap.size w w1:=by rw[hw1];exact((Below.refl _ _).alloc (Nat.le_refl _) _).alloc (by simp) _
 have hn1:w1.heap[b]?=some (.cells #[p0,p1,p2,p3] 82 (0,0)):=by rw[hbd,hw1,heap_alloc_old _ _ (by simp),heap_alloc_new]
 have hr1:w1.heap[b+1]?=some (.cells yS 82 (0,0)):=by
  have:=heap_alloc_new (w.alloc (.cells #[p0,p1,p2,p3] 82)) (.cells yS 82)
  rw[World.size_alloc] at this
  rw[hbd,hw1];exact this
 have hz1:w1.heap.size=b+2:=by rw[hbd,hw1];simp
 have hx1:=h.below hb1
 have HH:=h_ (xHy hx1.h)
 rw[←hp0] at HH
 have c1:=cell_of_row w1 b 0 _ _ _ hn1
 simp only[v_] at c1
 have H:=h_ h
 have HB1:=h_ hb1
 have HN1:=h_ hn1
 have HR1:=h_ hr1
 have HZ1:=h_ hz1
 have HP:=h_ (And.intro hp0 (And.intro hp1 (And.intro hp2 hp3)))
 have HBD:=h_ hbd
 have hk0:p0.oneCell'=true:=by rw[hp0];rfl
 have hk1:p1.oneCell'=true:=by rw[hp1];rfl
 have hk2:p2.oneCell'=true:=by rw[hp2];rfl
 have hk3:p3.oneCell'=true:=by rw[hp3];rfl
 have HBW:Hid (b=w.heap.size):=h_ hbd
 clear h hb1 hn1 hr1 hz1 hx1 hp0 hp1 hp2 hp3 hpx
 go_enter Tryz.func77,Tryz.ntmps77
 go_upto_region 1 with fail
 refine xu hw1 ?_
 rw[←hbd]
 clear hw1 hbd
 go_wp2_with fail
 refine HH.out.mono ?_
 rintro e w2 ⟨hb2,h',rfl,hh2,he1,he2,he3⟩
 have hn2:=(hb2.block _ (i_ HN1.out).1).trans HN1.out
 have hr2:=(hb2.block _ (i_ HR1.out).1).trans HR1.out
 have f2:=frozen_of_row w2 b 0 _ _ hn2
 have d2:=cell_of_row w2 b 0 _ _ _ hn2
 simp only[v_] at d2
 obtain⟨w3,hw3⟩:∃ w3,w3=w2.setCell ⟨b,0,none⟩ (Value.pointer (some ⟨h'.p,0,none⟩)):=⟨_,rfl⟩
 have hk23:Kept [b] w2 w3:=by rw[hw3];exact zc w2 ⟨b,0,none⟩ _
 have hb3:Below w.heap.size w w3:=by rw[hw3];exact(HB1.out.trans (hb2.mono HB1.out.size)).setCell (p:=⟨b,0,none⟩) (by show w.heap.size≤b;rw[HBW.out];exact Nat.le_refl _) _
 have hn3:w3.heap[b]?=some (.cells #[(Value.pointer (some ⟨h'.p,0,none⟩)),p1,p2,p3] 82 (0,0)):=by rw[hw3,ji hn2];rfl
 have hr3:w3.heap[b+1]?=some (.cells yS 82 (0,0)):=(hk23.block _ (i_ hr2).1 (by simp)).trans hr2
 have hh3:yY (b+2) w3 h':=(hh2.kept hk23 (fun k hk=>by have:=hh2.pB;have:=hh2.MB;have:=HZ1.out;simp[Hst.foot] at hk;simp;omega)).base (by rw[HZ1.out];exact Nat.le_refl _)
 have hx3:=H.out.below hb3
 have HS:=h_ (xGu hx3.s)
 rw[←HP.out.2.1] at HS
 have c3:=cell_of_row w3 b 1 _ _ _ hn3
 simp only[v_] at c3
 have HB3:=h_ hb3
 have HN3:=h_ hn3
 have HR3:=h_ hr3
 have HH3:=h_ hh3
 have HE:=h_ (And.intro he1 (And.intro he2 he3))
 have HZ3:Hid (b+2≤w3.heap.size):=h_ (by have:=hk23.size;have:=hb2.size;have:=HZ1.out;omega)
 have hj0:(Value.pointer (some ⟨h'.p,0,none⟩)).oneCell'=true:=rfl
 clear hb2 hh2 he1 he2 he3 hn2 hr2 hk23 hb3 hn3 hr3 hh3 hx3 HH c1
 go_upto_region 2 with fail
 refine xu hw3 ?_
 clear hw3 f2 d2
 go_wp2_with fail
 refine HS.out.mono ?_
 rintro e w4 ⟨hb4,s',rfl,hs4,hg1,hg2,hg3,hg4,hg5⟩
 have hn4:=(hb4.block _ (i_ HN3.out).1).trans HN3.out
 have hr4:=(hb4.block _ (i_ HR3.out).1).trans HR3.out
 have f4:=frozen_of_row w4 b 1 _ _ hn4
 have d4:=cell_of_row w4 b 1 _ _ _ hn4
 simp only[v_] at d4
 obtain⟨w5,hw5⟩:∃ w5,w5=w4.setCell ⟨b,1,none⟩ (Value.pointer (some ⟨s'.p,0,none⟩)):=⟨_,rfl⟩
 have hk45:Kept [b] w4 w5:=by rw[hw5];exact zc w4 ⟨b,1,none⟩ _
 have hb5:Below w.heap.size w w5:=by rw[hw5];exact(HB3.out.trans (hb4.mono HB3.out.size)).setCell (p:=⟨b,1,none⟩) (by show w.heap.size≤b;rw[HBW.out];exact Nat.le_refl _) _
 have hn5:w5.heap[b]?=some (.cells #[(Value.pointer (some ⟨h'.p,0,none⟩)),(Value.pointer (some ⟨s'.p,0,none⟩)),p2,p3] 82 (0,0)):=by rw[hw5,ji hn4];rfl
 have hr5:w5.heap[b+1]?=some (.cells yS 82 (0,0)):=(hk45.block _ (i_ hr4).1 (by simp)).trans hr4
 have hh5:yY (b+2) w5 h':=(HH3.out.below hb4).kept hk45 (fun k hk=>by have:=HH3.out.pB;have:=HH3.out.MB;simp[Hst.foot] at hk;simp;omega)
 have hs5:yU w3.heap.size w5 s':=hs4.kept hk45 (fun k hk=>by have:=hs4.pB;have:=hs4.MB;have:=HZ3.out;simp[Spo.foot] at hk;simp;omega)
 have HHL:Hid (∀ k∈h'.foot,k<w3.heap.size):=h_ (fun k hk=>by have:=HH3.out.lt;simp[Hst.foot] at hk;omega)
 have hx5:=H.out.below hb5
 have HT:=h_ (xSr hx5.t)
 rw[←HP.out.2.2.1] at HT
 have c5:=cell_of_row w5 b 2 _ _ _ hn5
 simp only[v_] at c5
 have HB5:=h_ hb5
 have HN5:=h_ hn5
 have HR5:=h_ hr5
 have HH5:=h_ hh5
 have HS5:=h_ hs5
 have HG:=h_ (And.intro hg1 (And.intro hg2 (And.intro hg3 (And.intro hg4 hg5))))
 have HZ5:Hid (w3.heap.size≤w5.heap.size):=h_ (Nat.le_trans hb4.size hk45.size)
 have hj1:(Value.pointer (some ⟨s'.p,0,none⟩)).oneCell'=true:=rfl
 clear hb4 hs4 hg1 hg2 hg3 hg4 hg5 hn4 hr4 hk45 hb5 hn5 hr5 hh5 hs5 hx5 HS c3
 go_upto_region 3 with fail
 refine xu hw5 ?_
 clear hw5 f4 d4
 go_wp2_with fail
 refine HT.out.mono ?_
 rintro e w6 ⟨hb6,t',rfl,ht6,htc⟩
 have hn6:=(hb6.block _ (i_ HN5.out).1).trans HN5.out
 have hr6:=(hb6.block _ (i_ HR5.out).1).trans HR5.out
 have f6:=frozen_of_row w6 b 2 _ _ hn6
 have d6:=cell_of_row w6 b 2 _ _ _ hn6
 simp only[v_] at d6
 obtain⟨w7,hw7⟩:∃ w7,w7=w6.setCell ⟨b,2,none⟩ (Value.pointer (some ⟨t'.p,0,none⟩)):=⟨_,rfl⟩
 have hk67:Kept [b] w6 w7:=by rw[hw7];exact zc w6 ⟨b,2,none⟩ _
 have hb7:Below w.heap.size w w7:=by rw[hw7];exact(HB5.out.trans (hb6.mono HB5.out.size)).setCell (p:=⟨b,2,none⟩) (by show w.heap.size≤b;rw[HBW.out];exact Nat.le_refl _) _
 have hn7:w7.heap[b]?=some (.cells #[(Value.pointer (some ⟨h'.p,0,none⟩)),(Value.pointer (some ⟨s'.p,0,none⟩)),(Value.pointer (some ⟨t'.p,0,none⟩)),p3] 82 (0,0)):=by rw[hw7,ji hn6];rfl
 have hr7:w7.heap[b+1]?=some (.cells yS 82 (0,0)):=(hk67.block _ (i_ hr6).1 (by simp)).trans hr6
 have hh7:yY (b+2) w7 h':=(HH5.out.below hb6).kept hk67 (fun k hk=>by have:=HH5.out.pB;have:=HH5.out.MB;simp[Hst.foot] at hk;simp;omega)
 have hs7:yU w3.heap.size w7 s':=(HS5.out.below hb6).kept hk67 (fun k hk=>by have:=HS5.out.pB;have:=HS5.out.MB;have:=HZ3.out;simp[Spo.foot] at hk;simp;omega)
 have ht7:yR w5.heap.size w7 t':=ht6.kept hk67 (fun k hk=>by have:=(ht6.foot_lt k hk).1;have:=HZ3.out;have:=HZ5.out;simp;omega)
 have HSL:Hid (∀ k∈s'.foot,k<w5.heap.size):=h_ (fun k hk=>by have:=HS5.out.lt;simp[Spo.foot] at hk;omega)
 have hx7:=H.out.below hb7
 have HO:=h_ (xNa B x.ib x.M x.mc x.gs w7 hx7.o)
 rw[←HP.out.2.2.2] at HO
 have c7:=cell_of_row w7 b 3 _ _ _ hn7
 simp only[v_] at c7
 have HB7:=h_ hb7
 have HN7:=h_ hn7
 have HR7:=h_ hr7
 have HH7:=h_ hh7
 have HS7:=h_ hs7
 have HT7:=h_ ht7
 have HTC:=h_ htc
 have HZ7:Hid (w5.heap.size≤w7.heap.size):=h_ (Nat.le_trans hb6.size hk67.size)
 have HTL:Hid (∀ k∈t'.foot,k<w7.heap.size):=h_ (fun k hk=>(ht7.foot_lt k hk).2)
 have hj2:(Value.pointer (some ⟨t'.p,0,none⟩)).oneCell'=true:=rfl
 clear hb6 ht6 htc hn6 hr6 hk67 hb7 hn7 hr7 hh7 hs7 ht7 hx7 HT c5
 go_upto_region 4 with fail
 refine xu hw7 ?_
 clear hw7 f6 d6
 go_wp2_with fail
 refine HO.out.mono ?_
 rintro e w8 ⟨ib2,M2,gs2,mc2,rfl,ho8,hlf,htot,hb8⟩
 have hn8:=(hb8.block _ (i_ HN7.out).1).trans HN7.out
 have hr8:=(hb8.block _ (i_ HR7.out).1).trans HR7.out
 have f8:=frozen_of_row w8 b 3 _ _ hn8
 have d8:=cell_of_row w8 b 3 _ _ _ hn8
 simp only[v_] at d8
 obtain⟨w9,hw9⟩:∃ w9,w9=w8.setCell ⟨b,3,none⟩ (Value.pointer (some ⟨ib2,0,none⟩)):=⟨_,rfl⟩
 have hk89:Kept [b] w8 w9:=by rw[hw9];exact zc w8 ⟨b,3,none⟩ _
 have hb9:Below w.heap.size w w9:=by rw[hw9];exact(HB7.out.trans (hb8.mono HB7.out.size)).setCell (p:=⟨b,3,none⟩) (by show w.heap.size≤b;rw[HBW.out];exact Nat.le_refl _) _
 have hn9:w9.heap[b]?=some (.cells #[(Value.pointer (some ⟨h'.p,0,none⟩)),(Value.pointer (some ⟨s'.p,0,none⟩)),(Value.pointer (some ⟨t'.p,0,none⟩)),(Value.pointer (some ⟨ib2,0,none⟩))] 82 (0,0)):=by rw[hw9,ji hn8];rfl
 have hr9:w9.heap[b+1]?=some (.cells yS 82 (0,0)):=(hk89.block _ (i_ hr8).1 (by simp)).trans hr8
 obtain⟨x',hx'⟩:∃ x':Prt,x'=⟨h',s',t',ib2,M2,gs2,mc2⟩:=⟨_,rfl⟩
 have hkR:Kept [b,b+1] w8 (w9.setRow (b+1) #[(Value.pointer (some ⟨h'.p,0,none⟩)),(Value.pointer (some ⟨s'.p,0,none⟩)),(Value.pointer (some ⟨t'.p,0,none⟩)),(Value.pointer (some ⟨ib2,0,none⟩))]):=(hk89.mono (F':=[b,b+1]) (fun k hk _=>by simp at hk;simp[hk])).trans (qd w9 (b+1) _) (fun k hk=>by simp at hk;simp[hk])
 have hsep:qj (b+2) w3.heap.size w5.heap.size w7.heap.size (w9.setRow (b+1) #[(Value.pointer (some ⟨h'.p,0,none⟩)),(Value.pointer (some ⟨s'.p,0,none⟩)),(Value.pointer (some ⟨t'.p,0,none⟩)),(Value.pointer (some ⟨ib2,0,none⟩))]) x':=by
  have z3:=HZ3.out
  have z5:=HZ5.out
  have z7:=HZ7.out
  rw[hx']
  refine⟨(HH7.out.below hb8).kept hkR (fun k hk=>?_),HHL.out,(HS7.out.below hb8).kept hkR (fun k hk=>?_),HSL.out,(HT7.out.below hb8).kept hkR (fun k hk=>?_),HTL.out,ho8.kept hkR (fun k hk=>?_),z3,z5,z7⟩
  ·have:=HH7.out.pB;have:=HH7.out.MB;simp[Hst.foot] at hk;simp;omega
  ·have:=HS7.out.pB;have:=HS7.out.MB;simp[Spo.foot] at hk;simp;omega
  ·have:=(HT7.out.foot_lt k hk).1;simp;omega
  ·simp at hk;omega
 have hpc:x'.pc=x.pc:=by
  rw[hx']
  unfold Prt.pc
  simp only[HE.out.1,HE.out.2.2,HG.out.1,HG.out.2.2.1,HG.out.2.2.2.1,HG.out.2.2.2.2,HTC.out,hlf]
 have hcs:xW x'=#[(Value.pointer (some ⟨h'.p,0,none⟩)),(Value.pointer (some ⟨s'.p,0,none⟩)),(Value.pointer (some ⟨t'.p,0,none⟩)),(Value.pointer (some ⟨ib2,0,none⟩))]:=by rw[hx'];rfl
 have hj3:(Value.pointer (some ⟨ib2,0,none⟩)).oneCell'=true:=rfl
 have hft:xy 4 #[(Value.pointer (some ⟨h'.p,0,none⟩)),(Value.pointer (some ⟨s'.p,0,none⟩)),(Value.pointer (some ⟨t'.p,0,none⟩)),(Value.pointer (some ⟨ib2,0,none⟩))]=true:=qo _ _ _ _ hj0 hj1 hj2 hj3
 obtain⟨o9,r9⟩:=xI (n:=4) hn9 rfl
 have hro:xP w9 (b+1) 4=true:=zq hr9 rfl
 obtain⟨o10,r10⟩:=xI (n:=4) (setRow_heap w9 (b+1) _ #[(Value.pointer (some ⟨h'.p,0,none⟩)),(Value.pointer (some ⟨s'.p,0,none⟩)),(Value.pointer (some ⟨t'.p,0,none⟩)),(Value.pointer (some ⟨ib2,0,none⟩))] _ _ hr9) rfl
 have HF:=h_ (And.intro (xJ hb9 (by rw[HBW.out];omega) (g:=b+1) #[(Value.pointer (some ⟨h'.p,0,none⟩)),(Value.pointer (some ⟨s'.p,0,none⟩)),(Value.pointer (some ⟨t'.p,0,none⟩)),(Value.pointer (some ⟨ib2,0,none⟩))]) (And.intro hsep (And.intro hpc (And.intro o10 r10))))
 have HCS:=h_ hcs
 clear hb8 ho8 hlf htot hn8 hr8 hk89 hb9 hn9 hr9 hx' hkR hsep hpc hcs o10 r10 HO c7
 go_upto_region 5 with fail
 refine xu hw9 ?_
 clear hw9 f8 d8
 go_wp2
 refine bodyPost_ret (v:=.agg #[(Value.pointer (some ⟨h'.p,0,none⟩)),(Value.pointer (some ⟨s'.p,0,none⟩)),(Value.pointer (some ⟨t'.p,0,none⟩)),(Value.pointer (some ⟨ib2,0,none⟩))]) (xJ7 rfl Tryz.isAgg82 Tryz.sizeOf82 _ _ ⟨b+1,0,none⟩ _ rfl HF.out.2.2.2.1 HF.out.2.2.2.2) rfl ⟨HF.out.1,x',w3.heap.size,w5.heap.size,w7.heap.size,by rw[HCS.out],?_,HF.out.2.2.1⟩
 have hS:=HF.out.2.1
 exact⟨hS.h.base (by rw[HBW.out];omega),hS.hl,hS.s,hS.sl,hS.t,hS.tl,hS.o,Nat.le_trans (by rw[HBW.out];omega) hS.b1,hS.b2,hS.b3⟩
end
section
theorem qP (ρ:Operand→Value)(d:Option Tmp)(x:Operand)(ty:TypeId)(pos:String)(af:Array Edge)(g:Option (Nat × Bool))(w:World) :
  Sem.run Tryz.prog (execOp ρ ⟨d,.load 156 x,ty,pos,af,g⟩) w=yx Tryz.prog 156 w (ρ x):=rfl
theorem qp (ρ:Operand→Value)(d:Option Tmp)(x y:Operand)(ty:TypeId)(pos:String)(af:Array Edge)(g:Option (Nat × Bool))(w:World) :
  Sem.run Tryz.prog (execOp ρ ⟨d,.store 156 x y,ty,pos,af,g⟩) w=ym Tryz.prog 156 w (ρ x) (ρ y):=rfl
theorem xEg (w:World)(a:Addr)(h:xq w a 1=true):yx Tryz.prog 156 w (.pointer (some a))=.ok (.value (.agg (xp w a 1))) w :=
 yo Tryz.isAgg156 Tryz.sizeOf156 w a h
theorem xE3 (w:World)(g:Nat)(cells:Array Value)(h:xP w g 1=true)(h2:xy 1 cells=true) :
  ym Tryz.prog 156 w (.pointer (some ⟨g,0,none⟩)) (.agg cells)=.ok .skip (w.setRow g cells):=yr (by kernel_rfl) w g cells h h2
theorem qt (ρ:Operand→Value)(d:Option Tmp)(ty:TypeId)(pos:String)(af:Array Edge)(g:Option (Nat × Bool))(w:World) :
  Sem.run Tryz.prog (execOp ρ ⟨d,.alloc 156,ty,pos,af,g⟩) w=.ok (.value (.pointer (some ⟨w.heap.size,0,none⟩))) (w.alloc (.cells #[.slice none 0 0] 156)):=by kernel_rfl
def WrAt (B:Nat)(w:World)(b:Nat)(l:By):Prop:=B≤b∧∃ v,w.heap[b]?=some (.cells #[v] 156 (0,0))∧OwnB w B v l
theorem WrAt.below {B:Nat}{w w':World}{b:Nat}{l:By}(h:WrAt B w b l)(hb:Below w.heap.size w w'):WrAt B w' b l:=by
 obtain⟨h1,v,h2,h3⟩:=h
 exact⟨h1,v,(hb.block _ (i_ h2).1).trans h2,h3.below hb⟩
theorem OwnB.ne {B:Nat}{w:World}{v:Value}{l:By}(h:OwnB w B v l){b:Nat}{cs:Array Value}{t:TypeId}{fz:Nat × Nat}(hr:w.heap[b]?=some (.cells cs t fz))(ht:t≠5):v.ownBlock≠some b:=fun e=>by
 obtain⟨cur,hc⟩:=yO h e
 rw[hr] at hc
 exact ht (j8 hc)
theorem uQ {B:Nat}{w:World}{v:Value}{l:By}(h:OwnB w B v l):∃ a n c,v=.slice a n c:=by
 obtain⟨a,c,e⟩:=yH h
 exact⟨a,_,c,e⟩
theorem xLj (l:By):Go.Lib.strCells (str l)=encB l:=by
 unfold Go.Lib.strCells str encB
 rfl
theorem u1 (l:By):(str l).size=l.length:=by
 show l.toArray.size=_
 simp
theorem WrAt.put {B:Nat}{w w1 w2:World}{b:Nat}{l l':By}{v v':Value}(hB:B≤b)(hr:w1.heap[b]?=some (.cells #[v] 156 (0,0)))(ho:OwnB w1 B v l)(hb:Below B w w1)(hg:w1.grownBy w2 v.ownBlock)(ho':OwnB w2 B v' l') :
  w2.heap[b]?=some (.cells #[v] 156 (0,0))∧Below B w (w2.setCell ⟨b,0,none⟩ v')∧WrAt B (w2.setCell ⟨b,0,none⟩ v') b l':=by
 have hbl:=(i_ hr).1
 have hne:=ho.ne hr (by decide)
 have hr2:w2.heap[b]?=some (.cells #[v] 156 (0,0)):=(hg.block b hbl (fun e=>hne e.symm)).trans hr
 have hb2:Below B w w2:=hb.grown hg (by omega) (fun _ e=>(ho.lt e).1)
 have hne':=ho'.ne hr2 (by decide)
 refine⟨hr2,hb2.setCell (p:=⟨b,0,none⟩) hB _,hB,v',by rw[ji hr2];rfl,ho'.grown (grownBy_setCell' w2 b _) (fun k e=>by cases e;exact hne')⟩
attribute [local go_sem ↓] qP qp qt xV xO
attribute [local go_sem] xEg xE3 zx zA zt zw yD yC xj xh xe xd xA xz xo xl xt xC xx
theorem kp {B:Nat}{w:World}{b:Nat}{l:By}(h:WrAt B w b l)(c:UInt8)(hl:l.length≤1000000) :
  Calls Tryz.prog 68 #[.pointer (some ⟨b,0,none⟩),.int .u8 c.toNat] w fun e w'=>e=.returned (.tuple #[])∧Below B w w'∧WrAt B w' b (l++[c]):=by
 obtain⟨hB,v,hr,ho⟩:=h
 obtain⟨va,vn,vc,hv⟩:=uQ ho
 have hbl:=(i_ hr).1
 have c0:=cell_of_row w b 0 _ _ _ hr
 simp only[v_] at c0
 have hb1:Below w.heap.size w (w.alloc (.cells #[.int .u8 c.toNat] 5)):=(Below.refl _ _).alloc (Nat.le_refl _) _
 have ho1:=ho.below hb1
 have hs1:SlB (w.alloc (.cells #[.int .u8 c.toNat] 5)) ⟨w.heap.size,0,none⟩ [c]:=vK w 5 [c]
 have hr1:=(hb1.block _ hbl).trans hr
 have HO1:=h_ ho1
 have HS1:=h_ hs1
 have HR1:=h_ hr1
 have HB1:Hid (Below B w (w.alloc (.cells #[.int .u8 c.toNat] 5))):=h_ (hb1.mono (by omega))
 have HSZ:Hid (B≤(w.alloc (.cells #[.int .u8 c.toNat] 5)).heap.size):=h_ (by simp;omega)
 have HLL:Hid (l.length+[c].length≤1000000000000):=h_ (by simp;omega)
 have HB:=h_ hB
 subst hv
 clear hB hr ho hbl hb1 ho1 hs1 hr1 hl
 go_enter Tryz.func68,Tryz.ntmps68
 go_wp2_with (at_builtin;refine uq rfl (.tmp 8) (.tmp 10) rfl B _ l rfl HO1.out ⟨w.heap.size,0,none⟩ [c] 1 rfl HS1.out HLL.out HSZ.out ?_)
 intro v' w' ho' hg _ _
 obtain⟨a',n',c',hv'⟩:=uQ ho'
 obtain⟨hr2,hb2,hw2⟩:=WrAt.put HB.out HR1.out HO1.out HB1.out hg ho'
 subst hv'
 have f2:=frozen_of_row w' b 0 _ _ hr2
 have c2:=cell_of_row w' b 0 _ _ _ hr2
 simp only[v_] at c2
 have HF:=h_ (And.intro hb2 hw2)
 clear ho' hg hr2 hb2 hw2 c0
 go_wp2
 go_end0
 exact⟨rfl,HF.out.1,HF.out.2⟩
theorem beB4 (n:Nat):beB 4 n=[UInt8.ofNat (n / 256 ^ 3),UInt8.ofNat (n / 256 ^ 2),UInt8.ofNat (n / 256 ^ 1),UInt8.ofNat (n / 256 ^ 0)]:=by
 apply List.ext_getElem?
 intro j
 match j with
 | 0=>rw[List.getElem?_eq_getElem (by simp[xv]),vR 4 n 0 (by omega)];rfl
 | 1=>rw[List.getElem?_eq_getElem (by simp[xv]),vR 4 n 1 (by omega)];rfl
 | 2=>rw[List.getElem?_eq_getElem (by simp[xv]),vR 4 n 2 (by omega)];rfl
 | 3=>rw[List.getElem?_eq_getElem (by simp[xv]),vR 4 n 3 (by omega)];rfl
 | j+4=>simp[xv]
theorem vT {B:Nat}{w:World}{b:Nat}{l:By}(h:WrAt B w b l)(n:Nat)(hn:n≤4611686018427387904)(hl:l.length≤1000000) :
  Calls Tryz.prog 108 #[.pointer (some ⟨b,0,none⟩),.int .i64 n] w fun e w'=>e=.returned (.tuple #[])∧Below B w w'∧WrAt B w' b (l++beB 4 n):=by
 obtain⟨hB,v,hr,ho⟩:=h
 obtain⟨va,vn,vc,hv⟩:=uQ ho
 have hbl:=(i_ hr).1
 have c0:=cell_of_row w b 0 _ _ _ hr
 simp only[v_] at c0
 rw[beB4]
 have x3:=vv n 3
 have x2:=vv n 2
 have x1:=vv n 1
 have x0:=vv n 0
 simp only[Nat.reduceMul,Int.reducePow,Int.pow_zero,Int.ediv_one] at x3 x2 x1 x0
 generalize UInt8.ofNat (n / 256 ^ 3)=b3 at *
 generalize UInt8.ofNat (n / 256 ^ 2)=b2 at *
 generalize UInt8.ofNat (n / 256 ^ 1)=b1 at *
 generalize UInt8.ofNat (n / 256 ^ 0)=b0 at *
 obtain⟨w1,hw1⟩:∃ w1,w1=w.alloc (.cells #[.int .u8 b3.toNat,.int .u8 b2.toNat,.int .u8 b1.toNat,.int .u8 b0.toNat] 5):=⟨_,rfl⟩
 have hb1:Below w.heap.size w w1:=by rw[hw1];exact b_ _ _
 have hs1:SlB w1 ⟨w.heap.size,0,none⟩ [b3,b2,b1,b0]:=by rw[hw1];exact vK w 5 [b3,b2,b1,b0]
 have ho1:=ho.below hb1
 have hr1:=(hb1.block _ hbl).trans hr
 have HO1:=h_ ho1
 have HS1:=h_ hs1
 have HR1:=h_ hr1
 have HB1:Hid (Below B w w1):=h_ (hb1.mono (by omega))
 have HSZ:Hid (B≤w1.heap.size):=h_ (by have:=hb1.size;omega)
 have HLL:Hid (l.length+[b3,b2,b1,b0].length≤1000000000000):=h_ (by simp;omega)
 have HB:=h_ hB
 rw[x3,x2,x1,x0] at hw1
 have hnz:(n:Int)≤4611686018427387904:=by omega
 have HW1:=h_ hw1
 subst hv
 clear hB hr ho hbl hb1 ho1 hs1 hr1 hl x3 x2 x1 x0 hn hw1
 go_enter Tryz.func108,Tryz.ntmps108
 go_wp2_with (at_builtin;rw[←HW1.out];refine uq rfl (.tmp 8) (.tmp 20) rfl B _ l rfl HO1.out ⟨w.heap.size,0,none⟩ [b3,b2,b1,b0] 4 rfl HS1.out HLL.out HSZ.out ?_)
 intro v' w' ho' hg _ _
 obtain⟨a',n',c',hv'⟩:=uQ ho'
 obtain⟨hr2,hb2,hw2⟩:=WrAt.put HB.out HR1.out HO1.out HB1.out hg ho'
 subst hv'
 have f2:=frozen_of_row w' b 0 _ _ hr2
 have c2:=cell_of_row w' b 0 _ _ _ hr2
 simp only[v_] at c2
 have HF:=h_ (And.intro hb2 hw2)
 clear ho' hg hr2 hb2 hw2 c0
 go_wp2
 go_end0
 exact⟨rfl,HF.out.1,HF.out.2⟩
theorem ql {B:Nat}{w:World}{b:Nat}{l:By}(h:WrAt B w b l)(s:By)(hs:s.length≤1000000)(hl:l.length≤900000) :
  Calls Tryz.prog 69 #[.pointer (some ⟨b,0,none⟩),.string (str s)] w fun e w'=>e=.returned (.tuple #[])∧Below B w w'∧WrAt B w' b (l++beB 4 s.length++s):=by
 have HN:=h_ (vT h s.length (by omega) (by omega))
 have hsz:=u1 s
 have HL:=h_ hl
 have HS:=h_ hs
 obtain⟨sb,hsb⟩:∃ sb,sb=str s:=⟨_,rfl⟩
 have hsz2:(sb.size:Int)=(s.length:Int):=by rw[hsb,hsz]
 rw[←hsb]
 have HSB:=h_ hsb
 clear h hs hl hsz hsb
 go_enter Tryz.func69,Tryz.ntmps69
 go_wp2_with fail
 try rw[hsz2]
 refine HN.out.mono ?_
 rintro e w1 ⟨rfl,hb1,hB,v,hr,ho⟩
 obtain⟨va,vn,vc,hv⟩:=uQ ho
 have c0:=cell_of_row w1 b 0 _ _ _ hr
 simp only[v_] at c0
 obtain⟨i0,hi,hz0,hz1,hz2⟩:=info_parts Tryz.info_byte
 have HI:=h_ (And.intro hi (And.intro hz0 (And.intro hz1 hz2)))
 have HO:=h_ ho
 have HR:=h_ hr
 have HB:=h_ hB
 have HB1:=h_ hb1
 have HBS:Hid (B≤w1.heap.size):=h_ (by have:=(i_ hr).1;omega)
 have H63:Hid ((l++beB 4 s.length).length+sb.size≤2000000):=h_ (by have:=HL.out;have:=HS.out;simp[xv];omega)
 subst hv
 clear hb1 hB hr ho hi hz0 hz1 hz2 HN
 go_wp2_with (at_builtin;refine Go.Lib.wpList_append_own_string _ rfl (.tmp 12) (.tmp 13) 66 9 rfl B 5 i0 Tryz.underlying66 Tryz.underlying9 HI.out.1 HI.out.2.1 HI.out.2.2.1 HI.out.2.2.2 _ _ _ rfl HO.out sb rfl (by have:=H63.out;unfold maxLen;omega) (by have:=H63.out;omega) HBS.out ?_)
 intro v' w' ho' hg _
 have ho2:OwnB w' B v' (l++beB 4 s.length++s):=by
  rw[HSB.out,xLj,u1] at ho'
  unfold OwnB
  rw[List.length_append,List.length_append,show encB (l++beB 4 s.length++s)=encB (l++beB 4 s.length)++encB s by simp[encB]]
  exact ho'
 obtain⟨a',n',c',hv'⟩:=uQ ho2
 obtain⟨hr2,hb2,hw2⟩:=WrAt.put HB.out HR.out HO.out HB1.out hg ho2
 subst hv'
 have f2:=frozen_of_row w' b 0 _ _ hr2
 have c2:=cell_of_row w' b 0 _ _ _ hr2
 simp only[v_] at c2
 have HF:=h_ (And.intro hb2 hw2)
 clear ho' ho2 hg hr2 hb2 hw2 c0
 go_wp2
 go_end0
 exact⟨rfl,HF.out.1,HF.out.2⟩
end
section
attribute [local go_sem ↓] qP qp qt
attribute [local go_sem] xEg xE3 zt zw yD yC xj xh xe xd xA xz xo xl xt xC xx
theorem xQb {B:Nat}{w:World}{v:Value}{l:By}(h:OwnB w B v l)(hl:l≠[]):(convert 66 9 v).run Tryz.prog w=.ok (.string (str l)) w:=by
 rcases h.at with⟨_,h0⟩ | ⟨g,cap,rfl,_,_,_,hs⟩
 ·exact absurd h0 hl
 ·exact run_convert_bytes_back (P:=Tryz.prog) w 66 9 5 ⟨g,0,none⟩ cap l Tryz.underlying66 Tryz.underlying5 Tryz.underlying9 (fun j hj=>hs.cell j _ (List.getElem?_eq_getElem hj))
def uy (n:Nat):By:=[1]++(beB 4 4++(beB 4 0++(beB 4 16++((beB 8 n++beB 8 0)++(beB 4 0++([]++(beB 4 0++([]++[]))))))))
theorem yA (n:Nat):(uy n).length=37:=by simp[uy,xv]
theorem xG1:(⟨#[]⟩:ByteArray)=str []:=rfl
theorem xGp {B:Nat}{w:World}{x:Prt}(h:zC B w x)(hG:Gl w)(n:Nat)(hpc:x.pc=kk n)(hgs:x.gs=[])(hn:n≤1073741824)(q:Nat)(hq:w.heap[q]?=some (.cells (xW x) 93 (0,0))) :
  Calls Tryz.prog 36 #[.pointer (some ⟨q,0,none⟩)] w fun e w'=>Below w.heap.size w w'∧∃ u,e=.returned u∧OwnB w' w.heap.size u (uy n):=by
 have hhe:x.h.es=[]:=List.map_eq_nil_iff.1 (congrArg PC.hes hpc)
 have hcut:x.h.cut=0:=congrArg PC.cut hpc
 have hse:x.s.es=[]:=List.map_eq_nil_iff.1 (congrArg PC.ses hpc)
 have hsb:x.s.budget=n:=congrArg PC.budget hpc
 have htg:x.t.g=none:=by
  have h1:x.t.c=none:=congrArg PC.tc hpc
  unfold Tbl.c at h1
  simpa using h1
 obtain⟨b,hb⟩:∃ b,b=w.heap.size:=⟨_,rfl⟩
 obtain⟨w1,hw1⟩:∃ w1,w1=w.alloc (.cells #[.slice none 0 0] 156):=⟨_,rfl⟩
 have hb1:Below b w w1:=by rw[hw1,hb];exact b_ _ _
 have hw1a:WrAt b w1 b []:=⟨Nat.le_refl _,_,by rw[hw1,hb];exact heap_alloc_new w _,OwnB.nil _ _⟩
 have HW:=h_ (kp hw1a 1 (by simp))
 have HB1:=h_ hb1
 have H:=h_ h
 have HG:=h_ hG
 have HQ:=h_ hq
 have HHE:=h_ (And.intro hhe hcut)
 have HSE:=h_ (And.intro hse hsb)
 have HTG:=h_ htg
 have HGS:=h_ hgs
 have HN:=h_ hn
 have HBD:=h_ hb
 have HQL:Hid (q<b):=h_ (by rw[hb];exact(i_ hq).1)
 rw[←hb]
 clear h hG hq hhe hcut hse hsb htg hgs hn hb1 hw1a hpc
 have hu8:((1:UInt8).toNat:Int)=1:=rfl
 have hs1:(#[Value.slice none 0 0].size == 1)=true:=rfl
 have hf1:xy 1 #[Value.slice none 0 0]=true:=by simp[xy,Value.oneCell']
 rw[hu8] at HW
 go_enter Tryz.func36,Tryz.ntmps36
 go_upto_region 2 with fail
 refine xu hw1 ?_
 rw[←hb]
 clear hw1 hb
 go_wp2_with fail
 refine HW.out.mono ?_
 rintro e w2 ⟨rfl,hb2,hw2⟩
 have HB2:=h_ (HB1.out.trans hb2)
 have HW2:=h_ hw2
 have hq2:=(HB2.out.block q HQL.out).trans HQ.out
 have c2:=cell_of_row w2 q 0 _ _ _ hq2
 simp only[xW,v_] at c2
 have hP2:zC B w2 x:=H.out.below (by rw[←HBD.out];exact HB2.out)
 have HH:=h_ (xJg hP2.h HHE.out.1 0 (by rw[HHE.out.2];rfl) (by omega))
 clear hb2 hw2 hq2 hP2 HW
 go_wp2_with fail
 refine HH.out.mono ?_
 rintro e w3 ⟨hb3,u,rfl,hown⟩
 obtain⟨ua,un,uc,hu⟩:=uQ hown
 have hcv:=xQb hown (by simp[beB])
 have hbsz:b≤w2.heap.size:=by rw[HBD.out];exact HB2.out.size
 have HB3:Hid (Below b w w3):=h_ (HB2.out.trans (hb3.mono hbsz))
 have HW3:=h_ (ql (HW2.out.below hb3) (beB 4 0) (by simp[xv]) (by simp))
 subst hu
 clear hb3 hown HH c2 hbsz
 go_wp2_with fail
 refine HW3.out.mono ?_
 rintro e w4 ⟨rfl,hb4,hw4⟩
 have HB4:=h_ (HB3.out.trans hb4)
 have HW4:=h_ hw4
 have hbw:∀ W,Below b w W→w.heap.size≤W.heap.size:=fun W h=>h.size
 have hq4:=(HB4.out.block q HQL.out).trans HQ.out
 have c4:=cell_of_row w4 q 1 _ _ _ hq4
 simp only[xW,v_] at c4
 have hP4:zC B w4 x:=H.out.below (by rw[←HBD.out];exact HB4.out)
 have HS:=h_ (xJ2 hP4.s HSE.out.1 (by rw[HSE.out.2];exact HN.out))
 rw[HSE.out.2] at HS
 clear hb4 hw4 hq4 hP4 hcv HW3 hbw
 go_wp2_with fail
 refine HS.out.mono ?_
 rintro e w5 ⟨hb5,u,rfl,hown⟩
 obtain⟨ua5,un5,uc5,hu⟩:=uQ hown
 have hcv:=xQb hown (by simp[beB])
 have hbsz:b≤w4.heap.size:=by rw[HBD.out];exact HB4.out.size
 have HB5:Hid (Below b w w5):=h_ (HB4.out.trans (hb5.mono hbsz))
 have HW5:=h_ (ql (HW4.out.below hb5) (beB 8 n++beB 8 0) (by simp[xv]) (by simp[xv]))
 subst hu
 clear hb5 hown HS c4 hbsz
 go_wp2_with fail
 refine HW5.out.mono ?_
 rintro e w6 ⟨rfl,hb6,hw6⟩
 have HB6:=h_ (HB5.out.trans hb6)
 have HW6:=h_ hw6
 have hq6:=(HB6.out.block q HQL.out).trans HQ.out
 have c6:=cell_of_row w6 q 2 _ _ _ hq6
 simp only[xW,v_] at c6
 have hP6:zC B w6 x:=H.out.below (by rw[←HBD.out];exact HB6.out)
 have HT:=h_ (xNg hP6.t HTG.out)
 clear hb6 hw6 hq6 hP6 hcv HW5
 go_wp2_with fail
 refine HT.out.mono ?_
 rintro e w7 ⟨rfl,hb7⟩
 have hbsz:b≤w6.heap.size:=by rw[HBD.out];exact HB6.out.size
 have HB7:Hid (Below b w w7):=h_ (HB6.out.trans (hb7.mono hbsz))
 have HW7:=h_ (ql (HW6.out.below hb7) [] (by simp) (by simp[xv]))
 clear hb7 HT c6 hbsz
 go_wp2_with fail
 rw[xG1]
 refine HW7.out.mono ?_
 rintro e w8 ⟨rfl,hb8,hw8⟩
 have HB8:=h_ (HB7.out.trans hb8)
 have HW8:=h_ hw8
 have hq8:=(HB8.out.block q HQL.out).trans HQ.out
 have c8:=cell_of_row w8 q 3 _ _ _ hq8
 simp only[xW,v_] at c8
 have hB8':Below w.heap.size w w8:=by rw[←HBD.out];exact HB8.out
 have hP8:zC B w8 x:=H.out.below hB8'
 have ho8:=hP8.o
 rw[HGS.out] at ho8
 have HO:=h_ (xBy _ _ _ _ w8 (HG.out.later hB8') ho8)
 clear hb8 hw8 hq8 hP8 hB8' ho8 HW7
 go_wp2_with fail
 refine HO.out.mono ?_
 rintro e w9 ⟨rfl,hb9⟩
 have hbsz:b≤w8.heap.size:=by rw[HBD.out];exact HB8.out.size
 have HB9:Hid (Below b w w9):=h_ (HB8.out.trans (hb9.mono hbsz))
 have HW9:=h_ (ql (HW8.out.below hb9) [] (by simp) (by simp[xv]))
 clear hb9 HO c8 hbsz
 go_wp2_with fail
 rw[xG1]
 refine HW9.out.mono ?_
 rintro e w10 ⟨rfl,hb10,hB10,v,hr,ho⟩
 have hall:((((((((([]:By)++[1])++beB 4 (beB 4 0).length++beB 4 0)++beB 4 (beB 8 n++beB 8 0).length++(beB 8 n++beB 8 0))++beB 4 ([]:By).length++[])++beB 4 ([]:By).length++[]))))=uy n:=by
  simp[uy,xv,List.append_assoc]
 have ho':OwnB w10 b v (uy n):=by rw[←hall];exact ho
 have c10:=cell_of_row w10 b 0 _ _ _ hr
 simp only[v_] at c10
 have HF:=h_ (And.intro (HB9.out.trans hb10) ho')
 clear hb10 hB10 hr ho hall ho' HW9
 go_wp2
 go_ret
 exact⟨HF.out.1,v,rfl,HF.out.2⟩
end
section
theorem xFg (ρ:Operand→Value)(d:Option Tmp)(x:Operand)(ty:TypeId)(pos:String)(af:Array Edge)(g:Option (Nat × Bool))(w:World) :
  Sem.run Tryz.prog (execOp ρ ⟨d,.load 209 x,ty,pos,af,g⟩) w=yx Tryz.prog 209 w (ρ x):=rfl
theorem xDm (ρ:Operand→Value)(d:Option Tmp)(x y:Operand)(ty:TypeId)(pos:String)(af:Array Edge)(g:Option (Nat × Bool))(w:World) :
  Sem.run Tryz.prog (execOp ρ ⟨d,.store 209 x y,ty,pos,af,g⟩) w=ym Tryz.prog 209 w (ρ x) (ρ y):=rfl
theorem xX3 (w:World)(a:Addr)(h:xq w a 2=true):yx Tryz.prog 209 w (.pointer (some a))=.ok (.value (.agg (xp w a 2))) w :=
 yo Tryz.isAgg209 Tryz.sizeOf209 w a h
theorem xW2 (w:World)(g:Nat)(cells:Array Value)(h:xP w g 2=true)(h2:xy 2 cells=true) :
  ym Tryz.prog 209 w (.pointer (some ⟨g,0,none⟩)) (.agg cells)=.ok .skip (w.setRow g cells):=yr (by kernel_rfl) w g cells h h2
def RdAt (w:World)(r:Nat)(v:Value):Prop:=w.heap[r]?=some (.cells #[v,.bool false] 209 (0,0))
structure uZ (w:World)(r:Nat)(a:Addr)(cap:Nat)(l:By):Prop where
 row:RdAt w r (.slice (some a) l.length cap)
 sl:SlB w a l
 le:l.length≤cap
 mx:cap≤maxLen
 ne:a.block≠r
 lt:a.block<w.heap.size
theorem uZ.kept {w w':World}{r:Nat}{a:Addr}{cap:Nat}{l:By}(h:uZ w r a cap l){F:List Nat}(hk:Kept F w w')(hr:r ∉ F)(ha:a.block ∉ F):uZ w' r a cap l :=
 ⟨(hk.block r (i_ h.row).1 hr).trans h.row,⟨fun q x hq=>(World.cell?_of_block (by rw[y9];exact hk.block _ h.lt ha)).trans (h.sl.cell q x hq)⟩,h.le,h.mx,h.ne,Nat.lt_of_lt_of_le h.lt hk.size⟩
theorem uZ.below {w w':World}{r:Nat}{a:Addr}{cap:Nat}{l:By}(h:uZ w r a cap l)(hb:Below w.heap.size w w'):uZ w' r a cap l:=h.kept (Kept.of_below (F:=[]) hb) (by simp) (by simp)
theorem SlB.front {w:World}{a:Addr}{x l:By}(h:SlB w a (x++l)):SlB w a x:=by
 have:=h.take x.length
 rwa [List.take_left] at this
theorem uZ.cut {w:World}{r:Nat}{a:Addr}{cap:Nat}{x l:By}(h:uZ w r a cap (x++l)) :
  uZ (w.setCell ⟨r,0,none⟩ (.slice (some (cutA a cap x.length)) l.length (cap-x.length))) r (cutA a cap x.length) (cap-x.length) l ∧
  SlB (w.setCell ⟨r,0,none⟩ (.slice (some (cutA a cap x.length)) l.length (cap-x.length))) a x:=by
 have hle:=h.le
 rw[List.length_append] at hle
 have hmx:=h.mx
 have hs:SlB (w.setCell ⟨r,0,none⟩ (.slice (some (cutA a cap x.length)) l.length (cap-x.length))) a (x++l):=⟨fun q y hq=>(World.cell?_of_block (by rw[y9];exact heap_setCell_other w ⟨r,0,none⟩ a.block _ h.ne)).trans (h.sl.cell q y hq)⟩
 refine⟨⟨?_,?_,by omega,by omega,by rw[jF];exact h.ne,by rw[jF];simpa using h.lt⟩,hs.front⟩
 ·have h1:=h.row
  unfold RdAt at h1 ⊢
  rw[ji h1];rfl
 ·have:=hs.cut (cap:=cap) (by rw[List.length_append];exact hle) x.length
  rwa [List.drop_left] at this
attribute [local go_sem ↓] xFg xDm
attribute [local go_sem] xX3 xW2 zt zw yD yC xj xh xe xd xA xz xo xl xt xC xx
def xQn (r:Nat)(x l:By)(w w':World)(a:Addr)(cap:Nat):Prop:=SlB w' a x∧x.length≤cap∧cap≤maxLen∧a.block<w'.heap.size∧Kept [r] w w'∧∃ a2 c2,uZ w' r a2 c2 l∧a2.block=a.block
theorem xGw {w:World}{r:Nat}{a:Addr}{cap:Nat}{x l:By}(h:uZ w r a cap (x++l))(n:Nat)(hn:n=x.length):Calls Tryz.prog 140 #[.pointer (some ⟨r,0,none⟩),.int .i64 n] w fun e w' =>
  e=.returned (.slice (some a) n cap)∧xQn r x l w w' a cap:=by
 obtain⟨h2,h3⟩:=h.cut
 have hrow:=h.row
 unfold RdAt at hrow
 rw[List.length_append] at hrow
 have hle:=h.le
 rw[List.length_append] at hle
 have hmx:=h.mx
 have HF:Hid (xQn r x l w (w.setCell ⟨r,0,none⟩ (.slice (some (cutA a cap x.length)) l.length (cap-x.length))) a cap):=h_ ⟨h3,by omega,hmx,by simpa using h.lt,zc w ⟨r,0,none⟩ _,_,_,h2,jF _ _ _⟩
 rw[←hn] at HF hrow hle
 have c0:=cell_of_row w r 0 _ _ _ hrow
 have c1:=cell_of_row w r 1 _ _ _ hrow
 have f0:=frozen_of_row w r 0 _ _ hrow
 simp only[v_] at c0 c1
 obtain⟨m,hm⟩:∃ m,m=n+l.length:=⟨_,rfl⟩
 rw[←hm] at c0 hle
 have hs1:=xO7 a m cap n (n:Int) rfl (by omega)
 have hs2:=jy a m cap n (n:Int) rfl (by omega)
 rw[show m-n=l.length by omega] at hs2
 unfold maxLen at hmx
 have z1:(n:Int)≤m:=by omega
 have z2:(m:Int)≤9223372036854775807:=by omega
 have hd:decide ((m:Int)<n)=false:=decide_eq_false (by omega)
 clear h h2 h3 hrow hn hm
 go_enter Tryz.func140,Tryz.ntmps140
 go_wp2
 go_ret
 exact⟨rfl,HF.out⟩
theorem xWn {w:World}{r:Nat}{a:Addr}{cap:Nat}(c:UInt8){l:By}(h:uZ w r a cap ([c]++l)):Calls Tryz.prog 97 #[.pointer (some ⟨r,0,none⟩)] w fun e w' =>
  e=.returned (.int .u8 c.toNat)∧Kept [r] w w'∧∃ a2 c2,uZ w' r a2 c2 l∧a2.block=a.block:=by
 have HT:=h_ (xGw h 1 rfl)
 rw[show ((1:Nat):Int)=1 from rfl] at HT
 clear h
 go_enter Tryz.func97,Tryz.ntmps97
 go_wp2_with fail
 refine HT.out.mono ?_
 rintro e w' ⟨rfl,hs,hc,hm,_,hk,a2,c2,hr,hbk⟩
 have q0:=hs.cell 0 c rfl
 rw[show a.add 0=a from rfl] at q0
 have h1:=hr.row
 unfold RdAt at h1
 have c1:=cell_of_row w' r 1 _ _ _ h1
 simp only[v_] at c1
 have HF:=h_ (And.intro hk (And.intro hr hbk))
 have hcz:(1:Int)≤cap:=by simp at hc;omega
 clear hs hc hm hk hr h1 HT hbk
 go_wp2
 go_ret
 exact⟨rfl,HF.out.1,a2,c2,HF.out.2.1,HF.out.2.2⟩
theorem xRd {w:World}{r:Nat}{a:Addr}{cap:Nat}(x:By){l:By}(h:uZ w r a cap (x++l))(hx:x.length=4):Calls Tryz.prog 102 #[.pointer (some ⟨r,0,none⟩)] w fun e w' =>
  e=.returned (.int .i64 (deB x:Nat))∧Kept [r] w w'∧∃ a2 c2,uZ w' r a2 c2 l∧a2.block=a.block:=by
 have HT:=h_ (xGw h 4 hx.symm)
 rw[show ((4:Nat):Int)=4 from rfl] at HT
 have HX:=h_ hx
 clear h hx
 go_enter Tryz.func102,Tryz.ntmps102
 go_wp2_with fail
 refine HT.out.mono ?_
 rintro e w1 ⟨rfl,hs,hc,hm,_,hk,a2,c2,hr,hbk⟩
 have HS:=h_ hs
 have HF:=h_ (And.intro hk (And.intro hr hbk))
 have hcz:(4:Int)≤cap:=by rw[HX.out] at hc;omega
 clear hs hc hm hk hr HT hbk
 go_wp2
 go_loopw [3,9] (fun nv u wr=>∃ k:Nat,u=.int .i64 k∧nv=.int .i64 (deB (x.take k):Nat)∧k≤4∧wr=w1) (fun _ u _=>4-(intOf u).toNat)
 case atStart=>exact⟨0,rfl,by simp[deB],by omega,rfl⟩
 case round =>
  obtain⟨k,rfl,rfl,hk,rfl⟩:=hrel
  by_cases hlt:k<4
  ·have hltz:(k:Int)<4:=by omega
   have hkl:k<x.length:=by rw[HX.out];exact hlt
   have hcl:=HS.out.cell k _ (List.getElem?_eq_getElem hkl)
   have hd:deB (x.take (k+1))=deB (x.take k)*256+(x[k]'hkl).toNat:=by
    rw[List.take_succ_eq_append_getElem hkl,kv]
   have hdl:=jp (x.take k) (by rw[List.length_take];omega)
   generalize x[k]'hkl=b at hcl hd
   have hb256:=b.toNat_lt
   obtain⟨n,hn⟩:∃ n,n=deB (x.take k):=⟨_,rfl⟩
   rw[←hn] at hd hdl ⊢
   have hor:=xM9 n b.toNat (by omega) (by omega)
   rw[←hd] at hor
   have b0:(n:Int)<4294967296:=by omega
   have hk1:k+1≤4:=hlt
   clear hn hd hdl hkl
   go_wp2
   go_roundw
   case rel=>exact⟨k+1,by go_num,rfl,hk1,trivial⟩
   case measure=>simp[intOf];omega
  ·obtain rfl:k=4:=by omega
   rw[List.take_of_length_le (by rw[HX.out];exact Nat.le_refl _)]
   go_wp2
   go_ret
   exact⟨rfl,HF.out.1,a2,c2,HF.out.2.1,HF.out.2.2⟩
theorem xQa {w:World}{a:Addr}{cap:Nat}{l:By}(h:SlB w a l):(convert 66 9 (.slice (some a) l.length cap)).run Tryz.prog w=.ok (.string (str l)) w :=
 run_convert_bytes_back (P:=Tryz.prog) w 66 9 5 a cap l Tryz.underlying66 Tryz.underlying5 Tryz.underlying9 (fun j hj=>h.cell j _ (List.getElem?_eq_getElem hj))
theorem xCy {w:World}{r:Nat}{a:Addr}{cap:Nat}(y x:By){l:By}(h:uZ w r a cap (y++(x++l)))(hy:y.length=4)(hd:deB y=x.length):Calls Tryz.prog 101 #[.pointer (some ⟨r,0,none⟩)] w fun e w' =>
  e=.returned (.string (str x))∧Kept [r] w w'∧∃ a2 c2,uZ w' r a2 c2 l∧a2.block=a.block:=by
 have HN:=h_ (xRd y h hy)
 rw[hd] at HN
 clear h hy hd
 go_enter Tryz.func101,Tryz.ntmps101
 go_wp2_with fail
 refine HN.out.mono ?_
 rintro e w1 ⟨rfl,hk1,a2,c2,h2,hbk2⟩
 have HBK:=h_ hbk2
 have HK1:=h_ hk1
 have HT:=h_ (xGw h2 x.length rfl)
 clear hk1 h2 HN hbk2
 go_wp2_with fail
 refine HT.out.mono ?_
 rintro e w2 ⟨rfl,hs,_,_,_,hk,a3,c3,hr,hbk3⟩
 have hcv:=xQa (cap:=c2) hs
 have HF:=h_ (And.intro (HK1.out.trans hk (fun q hq=>.inl hq)) (And.intro hr (hbk3.trans HBK.out)))
 clear hs hk hr HT HK1 hbk3
 go_wp2
 go_ret
 exact⟨rfl,HF.out.1,a3,c3,HF.out.2.1,HF.out.2.2⟩
end
theorem xUb (a:Addr)(len cap k:Nat)(hk:k≤cap)(w:World):Sem.run Tryz.prog (Instr.sliceAt 66 (.slice (some a) len cap) (some (.int .i64 0)) (some (.int .i64 k)) none) w=.ok (.slice (some a) k cap) w:=by
 rw[run_sliceAt_slice w 66 _ _ _ _ (by kernel_rfl),run_slice_lh w 66 (some a) len cap (by kernel_rfl) .i64 .i64 0 k (by omega) (by omega) (by omega),kZ,Tryz.sizeOf5]
 simp only[Result.andThen_ok,sliced,Int.toNat_natCast,Option.map_some]
 have:a.add 0=a:=rfl
 split <;> rfl
theorem Tryz.info_bys:(Tryz.prog.info? 66).map (fun i=>(i.zero,i.size,i.bytes))=some (some (.slice none 0 0),1,24):=by kernel_rfl
theorem xWt {w:World}{B:Nat}{e:TypeId}{v x:Value}(h:w.ownsRow B e 1 v 1 [x]):∃ g cap,v=.slice (some ⟨g,0,none⟩) 1 cap∧B≤g∧1≤cap∧cap≤maxLen∧g<w.heap.size∧w.cell? ⟨g,0,none⟩=some x:=by
 rcases h.2 with⟨_,h0⟩ | ⟨g,cap,cur,hv,hg,hcur,hle,hmx,hcs,htk⟩
 ·omega
 ·refine⟨g,cap,hv,hg,hle,hmx,(i_ hcur).1,?_⟩
  rw[cell_of_row w g 0 _ _ _ hcur]
  have h1:cur.toList[0]?=some x:=by
   have:(cur.toList.take (1*1))[0]?=some x:=by rw[htk];rfl
   rwa [List.getElem?_take_of_lt (by omega)] at this
  rw[←Array.getElem?_toList];exact h1
def xL8 (y:By)(w:World)(e:Ending)(w':World):Prop:=∃ g c pg pc,e=.returned (.slice (some ⟨g,0,none⟩) 1 c)∧Below w.heap.size w w'∧1≤c∧w'.cell? ⟨g,0,none⟩=some (.slice (some ⟨pg,0,none⟩) (y.length+1) pc)∧SlB w' ⟨pg,0,none⟩ (3 :: y)∧y.length+1≤pc∧pc≤maxLen∧w.heap.size≤pg∧pg<w'.heap.size∧w.heap.size≤g
theorem xRn {w:World}(y:By)(a:Addr)(cap:Nat)(hs:SlB w a y)(ha:a.block<w.heap.size)(hc:y.length≤cap)(h1:1≤y.length)(h2:y.length≤90000) :
  Calls Tryz.prog 65 #[.slice (some a) y.length cap] w (xL8 y w):=by
 obtain⟨n,hn⟩:∃ n,n=y.length:=⟨_,rfl⟩
 have hsl:=xUb a n cap n (by omega)
 obtain⟨w1,hw1⟩:∃ w1,w1=w.alloc (.cells #[.int .u8 3] 5):=⟨_,rfl⟩
 have hb1:Below w.heap.size w w1:=by rw[hw1];exact b_ _ _
 have ho1:OwnB w1 w.heap.size (.slice (some ⟨w.heap.size,0,none⟩) 1 1) [3]:=by rw[hw1];exact OwnB.new w w.heap.size [3] (Nat.le_refl _) (by simp[maxLen])
 have hs1:SlB w1 a y:=⟨fun q x hq=>(hb1.cell (by rw[y9];exact ha)).trans (hs.cell q x hq)⟩
 have HO1:=h_ ho1
 have HS1:=h_ hs1
 have HB1:=h_ hb1
 have HN:=h_ hn
 have HSZ:Hid (w.heap.size≤w1.heap.size):=h_ hb1.size
 have HLL:Hid ([(3:UInt8)].length+y.length≤1000000000000):=h_ (by simp;omega)
 have HY:=h_ h2
 have hz1:(1:Int)≤n:=by omega
 have hz2:(n:Int)≤90000:=by omega
 have hb01:bits .or .u8 0 1=1:=by decide
 have hb12:bits .or .u8 1 2=3:=by decide
 have hmin:min (99903:Int) (n:Int)=(n:Int):=by omega
 obtain⟨i0,hi,hz0,hzz1,hzz2⟩:=info_parts Tryz.info_bys
 have HI:=h_ (And.intro hi (And.intro hz0 (And.intro hzz1 hzz2)))
 rw[←hn]
 clear hs ha h1 h2 hn hb1 ho1 hs1 hi hz0 hzz1 hzz2
 go_enter Tryz.func65,Tryz.ntmps65
 go_wp2
 refine yT ?_
 go_wp2_with (at_builtin;rw[←hw1];refine uq rfl (.tmp 31) (.tmp 35) rfl w.heap.size _ [3] rfl HO1.out a y cap (by rw[←HN.out];rfl) HS1.out HLL.out HSZ.out ?_)
 intro v' w2 ho hg _ _
 rw[←hw1] at hg
 have hb2:Below w.heap.size w w2:=HB1.out.grown hg HSZ.out (fun k e=>by cases e;exact Nat.le_refl _)
 obtain⟨m,hm⟩:∃ m,m=n+1:=⟨_,rfl⟩
 obtain⟨pg,pc,hv',hpB,hpc,hpm,hps⟩:∃ g cap,v'=.slice (some ⟨g,0,none⟩) m cap∧w.heap.size≤g∧m≤cap∧cap≤maxLen∧SlB w2 ⟨g,0,none⟩ (3 :: y):=by
  rcases ho.at with⟨_,h⟩ | ⟨g,cap,h1,h2,h3,h4,h5⟩
  ·cases h
  ·have e:(3 :: y).length=m:=by rw[hm,HN.out];rfl
   rw[e] at h1 h3
   exact⟨g,cap,h1,h2,h3,h4,h5⟩
 subst hv'
 have hpl:=(ho.lt (k:=pg) rfl).2
 have HM:=h_ hm
 obtain⟨w3,hw3⟩:∃ w3,w3=w2.alloc (.cells #[.slice (some ⟨pg,0,none⟩) m pc] 66):=⟨_,rfl⟩
 have hb3:Below w2.heap.size w2 w3:=by rw[hw3];exact b_ _ _
 have hn3:w3.heap[w2.heap.size]?=some (.cells #[.slice (some ⟨pg,0,none⟩) m pc] 66 (0,0)):=by rw[hw3];exact heap_alloc_new w2 _
 have HCS:Hid (∀ j u,([.slice (some ⟨pg,0,none⟩) m pc]:List Value)[j]?=some u→w3.cell? ((⟨w2.heap.size,0,none⟩:Addr).add j)=some u):=h_ fun j u hj=>by
  rw[Addr.add_lit,Nat.zero_add,cell_of_row _ w2.heap.size j _ _ _ hn3,List.getElem?_toArray];exact hj
 have HB2:=h_ hb2
 have HB3:=h_ hb3
 have HPS:=h_ hps
 have HPP:=h_ (And.intro hpB (And.intro hpc (And.intro hpm hpl)))
 have HW3:=h_ hw3
 have HSZ3:Hid (w2.heap.size≤w3.heap.size):=h_ hb3.size
 clear ho hg hb2 hpB hpc hpm hps hpl hb3 hn3 hw3 hsl hm
 go_wp2_with (at_builtin;rw[←HW3.out];refine wpList_append_own_at _ rfl (.tmp 29) (.tmp 37) 129 rfl w2.heap.size 66 i0 (.slice none 0 0) 1 24 Tryz.underlying129 HI.out.1 HI.out.2.1 HI.out.2.2.1 HI.out.2.2.2 rfl (by decide) _ 0 [] rfl (World.ownsRow_nil _ _ _ _) ⟨w2.heap.size,0,none⟩ 1 1 [.slice (some ⟨pg,0,none⟩) m pc] rfl rfl HCS.out (by intro u hu;simp at hu;subst hu;rfl) (by unfold maxLen;omega) (by omega) HSZ3.out ?_)
 intro v4 w4 ho4 hg4 _ _
 obtain⟨g,cap,rfl,hgB,k1,k2,k3,k4⟩:=xWt ho4
 have hb24:Below w2.heap.size w2 w4:=HB3.out.grown hg4 HSZ3.out (fun k e=>by cases e)
 have hs4:SlB w4 ⟨pg,0,none⟩ (3 :: y):=⟨fun q x hq=>(hb24.cell (by rw[y9];exact HPP.out.2.2.2)).trans (HPS.out.cell q x hq)⟩
 have HF:Hid (xL8 y w (.returned (.slice (some ⟨g,0,none⟩) 1 cap)) w4):=h_ ⟨g,cap,pg,pc,rfl,HB2.out.trans (hb24.mono HB2.out.size),k1,by rw[k4,HM.out,HN.out],hs4,by rw[←HN.out,←HM.out];exact HPP.out.2.1,HPP.out.2.2.1,HPP.out.1,Nat.lt_of_lt_of_le HPP.out.2.2.2 hb24.size,Nat.le_trans HB2.out.size hgB⟩
 clear ho4 hg4 hgB k1 k2 k3 k4 hb24 hs4
 go_wp2
 go_ret
 exact HF.out
def xQo (D b:Nat)(v:Dev)(d:PD)(j:PJ)(y:By)(ev:Value)(sy:Int)(w:World)(e:Ending)(w':World):Prop :=
 e=.returned (.int .i64 0)∧Kept (b :: (v.foot++ev.ownBlock.toList)) w w'∧∃ v' ev',v'.p=v.p∧v'.M=v.M ∧
  JAt D w' b v' (d.puts (j.area*(d.n / 2)+(j.secs sha).length) (yf sha (j.body (3 :: y)))).1 (j.add (3 :: y)) ev' sy 0∧(∀ k∈v'.foot,k∈v.foot∨w.heap.size≤k)∧∀ k,ev'.ownBlock=some k→ev.ownBlock=some k∨w.heap.size≤k
theorem jN {D b:Nat}{w:World}{v:Dev}{d:PD}{j:PJ}{ev:Value}{sy:Int}(h:JAt D w b v d j ev sy 0)(hK:qF w)(y:By)(a:Addr)(cap:Nat)(hs:SlB w a y)(ha:a.block<w.heap.size)(hc:y.length≤cap)(h1:1≤y.length)(h2:y.length≤90000)
  (hfree:(j.secs sha).length+xY (y.length+1)≤d.n / 2) (hfew:d.pend.length+xY (y.length+1)≤1000000) (hlen:j.entries.length≤100000) (hD:D≤w.heap.size) :
  Calls Tryz.prog 35 #[.pointer (some ⟨b,0,none⟩),.slice (some a) y.length cap] w (xQo D b v d j y ev sy w):=by
 have HP:=h_ (xRn y a cap hs ha hc h1 h2)
 have H:=h_ h
 have HK:=h_ hK
 have HL:=h_ hlen
 have HD:=h_ hD
 have HFR:=h_ hfree
 have HFW:=h_ hfew
 have HY:=h_ h2
 obtain⟨nd,hnd⟩:∃ nd,nd=xY (y.length+1):=⟨_,rfl⟩
 obtain⟨fr,hfr⟩:∃ fr,fr=d.n / 2-(j.secs sha).length:=⟨_,rfl⟩
 have hn2:d.n≤4096:=h.dev.n2
 have hndz:(nd:Int)≤4096:=by omega
 have hle:(nd:Int)≤(fr:Int):=by omega
 have hdg:decide ((fr:Int)<(nd:Int))=false:=decide_eq_false (by omega)
 have hfz:(fr:Int)≤4096:=by omega
 have HND:=h_ hnd
 have HFRE:=h_ hfr
 have HN2:=h_ hn2
 clear h hK hs ha h1 h2 hfree hfew hlen hD hnd hfr hn2
 go_enter Tryz.func35,Tryz.ntmps35
 go_wp2_with fail
 refine HP.out.mono ?_
 rintro e w1 ⟨g,c,pg,pc,rfl,hb1,hc1,hcell,hps,hpc,hpm,hpB,hpl,hgB⟩
 have hj1:=H.out.below hb1
 have HJ1:=h_ hj1
 have HB1:=h_ hb1
 have HPS:=h_ hps
 have HPP:=h_ (And.intro hpc (And.intro hpm (And.intro hpB (And.intro hpl hgB))))
 have HNE:=h_ (xKq (y.length+1) w1 (by have:=HY.out;omega))
 rw[←HND.out] at HNE
 have HFE:=h_ (xEj hj1.blk HN2.out (by have:=HFR.out;omega))
 rw[←HFRE.out] at HFE
 have HCL:=h_ hcell
 obtain⟨yn,hyn⟩:∃ yn,yn=y.length+1:=⟨_,rfl⟩
 rw[←hyn] at hcell HNE
 have HYN:=h_ hyn
 have hcz:(1:Int)≤c:=by omega
 clear hj1 hb1 hps hpc hpm hpB hpl hgB hyn hc1
 go_wp2
 refine yT ?_
 go_wp2_with fail
 refine HNE.out.mono ?_
 rintro e w' ⟨rfl,rfl⟩
 go_wp2_with fail
 refine HFE.out.mono ?_
 rintro e w2 ⟨rfl,hb2⟩
 have hcell2:=(hb2.cell (p:=⟨g,0,none⟩) (block_lt_of_cell hcell)).trans hcell
 have hps2:SlB w2 ⟨pg,0,none⟩ (3 :: y):=⟨fun q x hq=>(hb2.cell (by rw[y9];exact HPP.out.2.2.2.1)).trans (HPS.out.cell q x hq)⟩
 have hj2:=HJ1.out.below hb2
 have hb02:=HB1.out.trans (hb2.mono HB1.out.size)
 have hpl2:pg<w2.heap.size:=Nat.lt_of_lt_of_le HPP.out.2.2.2.1 hb2.size
 have hlc:(3 :: y).length=yn:=by rw[HYN.out];rfl
 have HA:=h_ (xPa hj2 (HK.out.kept (Kept.of_below (F:=[]) hb02) (fun _ h=>by cases h)) (3 :: y) ⟨pg,0,none⟩ pc hps2 hpl2 (fun hm=>by have h9:pg<w.heap.size:=(H.out.dev.foot_lt _ hm).2;have:=HPP.out.2.2.1;omega) (by rw[hlc,HYN.out];exact HPP.out.1) (by rw[hlc,HYN.out];have:=HY.out;omega)
  (by rw[hlc,HYN.out];exact HFR.out) (by rw[hlc,HYN.out];exact HFW.out) HL.out (Nat.le_trans HD.out hb02.size))
 rw[hlc] at HA
 have HB02:=h_ hb02
 clear hcell hps2 hj2 hb02 hpl2 hlc hb2
 go_wp2
 refine yT ?_
 go_wp2_with fail
 refine HA.out.mono ?_
 rintro e w3 ⟨rfl,hk3,v',ev',e1,e2,hj3,hf3,hev3⟩
 have HF:Hid (xQo D b v d j y ev sy w (.returned (.int .i64 0)) w3):=h_ ⟨rfl,(Kept.of_below (F:=b :: (v.foot++ev.ownBlock.toList)) HB02.out).trans hk3 (fun q hq=>.inl hq),v',ev',e1,e2,hj3,fun k hk=>(hf3 k hk).imp_right (fun h=>Nat.le_trans HB02.out.size h),fun k hk=>(hev3 k hk).imp_right (fun h=>Nat.le_trans HB02.out.size h)⟩
 clear hk3 e1 e2 hj3 hf3 hev3 HA
 go_wp2
 go_ret
 exact HF.out
section
theorem xB3 (ρ:Operand→Value)(d:Option Tmp)(x:Operand)(ty:TypeId)(pos:String)(af:Array Edge)(g:Option (Nat × Bool))(w:World) :
  Sem.run Tryz.prog (execOp ρ ⟨d,.load 93 x,ty,pos,af,g⟩) w=yx Tryz.prog 93 w (ρ x):=rfl
theorem kT (ρ:Operand→Value)(d:Option Tmp)(x y:Operand)(ty:TypeId)(pos:String)(af:Array Edge)(g:Option (Nat × Bool))(w:World) :
  Sem.run Tryz.prog (execOp ρ ⟨d,.store 93 x y,ty,pos,af,g⟩) w=ym Tryz.prog 93 w (ρ x) (ρ y):=rfl
theorem xRr (w:World)(a:Addr)(h:xq w a 4=true):yx Tryz.prog 93 w (.pointer (some a))=.ok (.value (.agg (xp w a 4))) w :=
 yo Tryz.isAgg93 Tryz.sizeOf93 w a h
theorem xR1 (w:World)(g:Nat)(cells:Array Value)(h:xP w g 4=true)(h2:xy 4 cells=true) :
  ym Tryz.prog 93 w (.pointer (some ⟨g,0,none⟩)) (.agg cells)=.ok .skip (w.setRow g cells):=yr (by kernel_rfl) w g cells h h2
theorem xPx (ρ:Operand→Value)(d:Option Tmp)(x:Operand)(ty:TypeId)(pos:String)(af:Array Edge)(g:Option (Nat × Bool))(w:World) :
  Sem.run Tryz.prog (execOp ρ ⟨d,.load 265 x,ty,pos,af,g⟩) w=yx Tryz.prog 265 w (ρ x):=rfl
theorem xMu (ρ:Operand→Value)(d:Option Tmp)(x y:Operand)(ty:TypeId)(pos:String)(af:Array Edge)(g:Option (Nat × Bool))(w:World) :
  Sem.run Tryz.prog (execOp ρ ⟨d,.store 265 x y,ty,pos,af,g⟩) w=ym Tryz.prog 265 w (ρ x) (ρ y):=rfl
theorem yAw (w:World)(a:Addr)(h:xq w a 4=true):yx Tryz.prog 265 w (.pointer (some a))=.ok (.value (.agg (xp w a 4))) w :=
 yo Tryz.isAgg265 Tryz.sizeOf265 w a h
theorem yAf (w:World)(g:Nat)(cells:Array Value)(h:xP w g 4=true)(h2:xy 4 cells=true) :
  ym Tryz.prog 265 w (.pointer (some ⟨g,0,none⟩)) (.agg cells)=.ok .skip (w.setRow g cells):=yr (by kernel_rfl) w g cells h h2
theorem xTm (w:World)(l:By)(hl:l.length≤maxLen):∃ c w',(convert 9 66 (.string (str l))).run Tryz.prog w=.ok (.slice (some ⟨w.heap.size,0,none⟩) l.length c) w'∧Below w.heap.size w w'∧SlB w' ⟨w.heap.size,0,none⟩ l∧l.length≤c∧c≤maxLen∧w'.heap.size=w.heap.size+1:=by
 have h:=Go.Lib.run_convert_string_bytes (P:=Tryz.prog) w 9 66 5 (str l) Tryz.underlying9 Tryz.underlying66 Tryz.underlying5
 rw[u1] at h
 refine⟨_,_,h,⟨rfl,rfl,rfl,by rw[Go.Lib.bytesWorld_size];omega,fun k hk=>Go.Lib.bytesWorld_at_old w _ _ k hk⟩,⟨fun j c hj=>?_⟩,grownCap_ge _ _ _ _,grownCap_le_maxLen _ _ _ _ hl,Go.Lib.bytesWorld_size _ _ _⟩
 have hjl:j<l.length:=by
  rcases Nat.lt_or_ge j l.length with h | h
  ·exact h
  ·rw[List.getElem?_eq_none h] at hj;cases hj
 rw[Addr.add_lit,Nat.zero_add,Go.Lib.bytesWorld_cell w 5 (str l) j (by rw[u1];exact hjl)]
 have:(str l).data.toList.getD j 0=c:=by
  show l.toArray.toList.getD j 0=c
  simp[List.getD,hj]
 rw[this]
theorem yY.keptB {B:Nat}{w w':World}{v:Hst}{F:List Nat}(h:yY B w v)(hk:Kept F w w')(hF:∀ k∈F,k<B):yY B w' v:=h.kept hk fun k hk' hf=>by
 have:=hF k hf;simp[Hst.foot] at hk';have:=h.pB;have:=h.MB;omega
theorem yU.keptB {B:Nat}{w w':World}{v:Spo}{F:List Nat}(h:yU B w v)(hk:Kept F w w')(hF:∀ k∈F,k<B):yU B w' v:=h.kept hk fun k hk' hf=>by
 have:=hF k hf;simp[Spo.foot] at hk';have:=h.pB;have:=h.MB;omega
theorem yR.keptB {B:Nat}{w w':World}{v:Tbl}{F:List Nat}(h:yR B w v)(hk:Kept F w w')(hF:∀ k∈F,k<B):yR B w' v:=h.kept hk fun k hk' hf=>by
 have:=hF k hf;have:=(h.foot_lt k hk').1;omega
def er4:Array Value:=#[.int .i64 0,.int .i64 0,.int .i64 0,.int .i64 0]
theorem xN1 (ρ:Operand→Value)(d:Option Tmp)(ty:TypeId)(pos:String)(af:Array Edge)(g:Option (Nat × Bool))(w:World) :
  Sem.run Tryz.prog (execOp ρ ⟨d,.alloc 265,ty,pos,af,g⟩) w=.ok (.value (.pointer (some ⟨w.heap.size,0,none⟩))) (w.alloc (.cells er4 265)):=by kernel_rfl
theorem xN0 (ρ:Operand→Value)(d:Option Tmp)(ty:TypeId)(pos:String)(af:Array Edge)(g:Option (Nat × Bool))(w:World) :
  Sem.run Tryz.prog (execOp ρ ⟨d,.build 265 #[],ty,pos,af,g⟩) w=.ok (.value (.agg er4)) w:=by kernel_rfl
theorem xOg (w:World):Sem.run Tryz.prog (Op.equalIn 10000 265 (.agg er4) (.agg er4)) w=.ok true w:=by kernel_rfl
theorem kX (ρ:Operand→Value)(d:Option Tmp)(x0:Operand)(ty:TypeId)(pos:String)(af:Array Edge)(gd:Option (Nat × Bool))(w:World) :
  Sem.run Tryz.prog (execOp ρ ⟨d,.build 93 #[(0,x0)],ty,pos,af,gd⟩) w=uo Tryz.prog 93 w #[(0,ρ x0)]:=by kernel_rfl
theorem xSl (w:World)(a b c d:Value):uo Tryz.prog 93 w #[(0,.agg #[a,b,c,d])]=.ok (.value (.agg #[a,b,c,d])) w:=uD (by kernel_rfl)
structure SnSt (w:World)(r:Nat)(cs:Array Value)(l:By)(W:World):Prop where
 kept:Kept [r] w W
 srow:W.heap[w.heap.size]?=some (.cells cs 82 (0,0))
 erow:W.heap[w.heap.size+1]?=some (.cells er4 265 (0,0))
 rd:∃ a c,uZ W r a c l∧a.block<w.heap.size
 rl:r<w.heap.size
theorem SnSt.sz {w:World}{r:Nat}{cs:Array Value}{l:By}{W:World}(h:SnSt w r cs l W):w.heap.size+2≤W.heap.size:=(i_ h.erow).1
theorem SnSt.text {w:World}{r:Nat}{cs:Array Value}{l l':By}{W W':World}(h:SnSt w r cs l W)(hk:Kept [r] W W')(hr:∃ a c,uZ W' r a c l'∧a.block<w.heap.size):SnSt w r cs l' W':=by
 have:=h.sz
 have:=h.rl
 exact⟨h.kept.trans hk (fun q hq=>.inl hq),(hk.block _ (by omega) (by simp;omega)).trans h.srow,(hk.block _ (by omega) (by simp;omega)).trans h.erow,hr,h.rl⟩
theorem SnSt.below {w:World}{r:Nat}{cs:Array Value}{l:By}{W W':World}(h:SnSt w r cs l W)(hb:Below W.heap.size W W'):SnSt w r cs l W':=by
 have:=h.sz
 obtain⟨a,c,hr,ha⟩:=h.rd
 exact⟨h.kept.trans (Kept.of_below (F:=[]) hb) (fun q hq=>by cases hq),(hb.block _ (by omega)).trans h.srow,(hb.block _ (by omega)).trans h.erow,⟨a,c,hr.below hb,ha⟩,h.rl⟩
theorem SnSt.set {w:World}{r:Nat}{cs:Array Value}{l:By}{W:World}(h:SnSt w r cs l W)(j:Nat)(q:Value)(hj:j<4) :
  Kept [w.heap.size,w.heap.size+1] W ((W.setCell ⟨w.heap.size,j,none⟩ q).setCell ⟨w.heap.size+1,j,none⟩ (.int .i64 0))∧SnSt w r (cs.setIfInBounds j q) l ((W.setCell ⟨w.heap.size,j,none⟩ q).setCell ⟨w.heap.size+1,j,none⟩ (.int .i64 0)):=by
 have hz:=h.sz
 have hl:=h.rl
 obtain⟨a,c,hr,ha⟩:=h.rd
 have k1:Kept [w.heap.size,w.heap.size+1] W (W.setCell ⟨w.heap.size,j,none⟩ q):=(zc W ⟨w.heap.size,j,none⟩ q).mono (fun k hk _=>by simp at hk;simp[hk])
 have k2:Kept [w.heap.size,w.heap.size+1] W ((W.setCell ⟨w.heap.size,j,none⟩ q).setCell ⟨w.heap.size+1,j,none⟩ (.int .i64 0)):=k1.trans (zc _ ⟨w.heap.size+1,j,none⟩ _) (fun k hk=>by simp at hk;simp[hk])
 have e1:(W.setCell ⟨w.heap.size,j,none⟩ q).heap[w.heap.size+1]?=some (.cells er4 265 (0,0)):=(heap_setCell_other W ⟨w.heap.size,j,none⟩ (w.heap.size+1) q (by simp)).trans h.erow
 refine⟨k2,h.kept.trans k2 (fun q hq=>.inr (by simp at hq;omega)),?_,?_,⟨a,c,hr.kept k2 (by simp;omega) (by simp;omega),ha⟩,h.rl⟩
 ·rw[heap_setCell_other _ ⟨w.heap.size+1,j,none⟩ w.heap.size _ (by simp),ji h.srow]
 ·rw[ji e1]
  congr 2
  match j,hj with
  | 0,_=>rfl
  | 1,_=>rfl
  | 2,_=>rfl
  | 3,_=>rfl
def xTq (r n:Nat)(w:World)(e:Ending)(w':World):Prop:=∃ sp x,e=.returned (.pointer (some ⟨sp,0,none⟩))∧Kept [r] w w'∧w'.heap[sp]?=some (.cells (xW x) 93 (0,0))∧zC w.heap.size w' x∧x.pc=kk n∧x.gs=[]∧w.heap.size≤sp∧∃ a2 c2,uZ w' r a2 c2 []
attribute [local go_sem ↓] xB3 kT xPx xMu xN1 xN0 kX qf uJ uK
attribute [local go_sem] xRr xR1 yAw yAf xOg xSl xCi xCa zt zw yD yC xj xh xe xd xA xz xo xl xt xC xx
theorem kw (n:Nat)(h:n<4294967296):deB (beB 4 n)=n:=by rw[k9];exact Nat.mod_eq_of_lt (by simpa using h)
theorem xQ9 (n:Nat)(h:n<18446744073709551616):deB (beB 8 n)=n:=by rw[k9];exact Nat.mod_eq_of_lt (by simpa using h)
theorem SnSt.facts {w:World}{r:Nat}{cs:Array Value}{l:By}{W:World}(h:SnSt w r cs l W)(j:Nat)(q:Value)(u:Value)(hu:cs[j]?=some u)(hj:j<4) :
  W.cell? ⟨w.heap.size,j,none⟩=some u∧(W.setCell ⟨w.heap.size,j,none⟩ q).cell? ⟨w.heap.size+1,j,none⟩=some (.int .i64 0):=by
 have e1:(W.setCell ⟨w.heap.size,j,none⟩ q).heap[w.heap.size+1]?=some (.cells er4 265 (0,0)):=(heap_setCell_other W ⟨w.heap.size,j,none⟩ (w.heap.size+1) q (by simp)).trans h.erow
 refine⟨(cell_of_row W _ j _ _ _ h.srow).trans hu,(cell_of_row _ _ j _ _ _ e1).trans ?_⟩
 match j,hj with
 | 0,_=>rfl
 | 1,_=>rfl
 | 2,_=>rfl
 | 3,_=>rfl
theorem xLy {w:World}{r:Nat}{a:Addr}{cap:Nat}{n:Nat}(h:uZ w r a cap (beB 4 4++(beB 4 0++(beB 4 16++((beB 8 n++beB 8 0)++(beB 4 0++([]++(beB 4 0++([]++[])))))))))(h1:1≤n)(h2:n≤1073741824)(hrr:∀ W,Kept [r] w W→Gl W) :
  Calls Tryz.prog 98 #[.pointer (some ⟨r,0,none⟩)] w (xTq r n w):=by
 obtain⟨s,hs⟩:∃ s,s=w.heap.size:=⟨_,rfl⟩
 have hrl:r<w.heap.size:=(i_ h.row).1
 obtain⟨w1,hw1⟩:∃ w1,w1=(w.alloc (.cells yS 82)).alloc (.cells er4 265):=⟨_,rfl⟩
 have hb1:Below w.heap.size w w1:=by rw[hw1];exact((Below.refl _ _).alloc (Nat.le_refl _) _).alloc (by simp) _
 have hS1:SnSt w r yS (beB 4 4++(beB 4 0++(beB 4 16++((beB 8 n++beB 8 0)++(beB 4 0++([]++(beB 4 0++([]++[])))))))) w1:=by
  refine⟨Kept.of_below hb1,?_,?_,⟨a,cap,h.below hb1,h.lt⟩,hrl⟩
  ·rw[hw1,heap_alloc_old _ _ (by simp),heap_alloc_new]
  ·have:=heap_alloc_new (w.alloc (.cells yS 82)) (.cells er4 265)
   rw[World.size_alloc] at this
   rw[hw1];exact this
 have HS0:=h_ hS1
 have HGK:=h_ hrr
 have HSD:=h_ hs
 have HN:=h_ (And.intro h1 h2)
 clear h h1 h2 hrr hrl hb1 hS1
 go_enter Tryz.func98,Tryz.ntmps98
 go_upto_region 3 with fail
 refine xu hw1 ?_
 rw[←hs]
 clear hw1 hs
 obtain⟨a0,c0,hr0,hab0⟩:=HS0.out.rd
 have HT0:=h_ (xCy (beB 4 4) (beB 4 0) hr0 (xv _ _) (by rw[kw _ (by omega)];simp[xv]))
 have HAB0:=h_ hab0
 clear hr0 hab0
 go_wp2_with fail
 refine HT0.out.mono ?_
 rintro e x0 ⟨rfl,hk0,a',c',hr,hbk⟩
 have HXK0:=h_ hk0
 have HA0:=h_ (HS0.out.text hk0 ⟨a',c',hr,hbk ▸ HAB0.out⟩)
 clear hk0 hr hbk HT0
 obtain⟨cc0,y0,hcv0,hby,hsy,hly,hcy,hzy⟩:=xTm x0 (beB 4 0) (by simp[xv,maxLen])
 rw[show ((beB 4 0)).length=4 by simp[xv]] at hcv0 hly
 have HY0:=h_ (HA0.out.below hby)
 have HBY0:=h_ hby
 have HD0:=h_ (xJi ⟨x0.heap.size,0,none⟩ (beB 4 0) cc0 y0 hsy (by rw[hzy];exact Nat.lt_succ_self _) (xv _ _) hly (by rw[kw _ (by omega)];omega))
 rw[kw 0 (by omega)] at HD0
 clear hby hsy hly hcy hzy
 go_wp2_with fail
 clear hcv0
 refine HD0.out.mono ?_
 rintro e z0 ⟨hbz,v0,rfl,hat,he1,he2⟩
 have HE0:=h_ (And.intro he1 he2)
 have HWZ0:=h_ ((HXK0.out.trans (Kept.of_below (F:=[]) HBY0.out) (fun q hq=>by cases hq)).trans (Kept.of_below (F:=[]) hbz) (fun q hq=>by cases hq))
 have hZ:SnSt w r #[.pointer none,.pointer none,.pointer none,.pointer none] _ z0:=HY0.out.below hbz
 obtain⟨k1,k2⟩:=hZ.set 0 (Value.pointer (some ⟨v0.p,0,none⟩)) (by omega)
 obtain⟨g1,g2⟩:=hZ.facts 0 (Value.pointer (some ⟨v0.p,0,none⟩)) (.pointer none) rfl (by omega)
 have f1:=frozen_of_row z0 w.heap.size 0 _ _ hZ.srow
 have f2:=frozen_of_row (z0.setCell ⟨w.heap.size,0,none⟩ (Value.pointer (some ⟨v0.p,0,none⟩))) (w.heap.size+1) 0 _ _ ((heap_setCell_other z0 ⟨w.heap.size,0,none⟩ (w.heap.size+1) (Value.pointer (some ⟨v0.p,0,none⟩)) (by simp)).trans hZ.erow)
 rw[←HSD.out] at k1 k2 g1 g2 f1 f2
 obtain⟨W0,hW0⟩:∃ W,W=(z0.setCell ⟨s,0,none⟩ (Value.pointer (some ⟨v0.p,0,none⟩))).setCell ⟨s+1,0,none⟩ (.int .i64 0):=⟨_,rfl⟩
 rw[←hW0] at k1 k2
 have HS1:Hid (SnSt w r #[(Value.pointer (some ⟨v0.p,0,none⟩)),.pointer none,.pointer none,.pointer none] _ W0):=h_ k2
 have HK0:Hid (Kept [s,s+1] z0 W0):=h_ k1
 have HAT0:=h_ hat
 have HSY0:Hid (s+2≤y0.heap.size):=h_ (by rw[HSD.out];exact HY0.out.sz)
 have HBZ0:Hid (y0.heap.size≤z0.heap.size):=h_ hbz.size
 clear hbz hat hZ k1 k2 he1 he2
 go_upto_region 4 with fail
 refine xu hW0 ?_
 have HWW0:=h_ hW0
 clear hW0 g1 g2 f1 f2
 obtain⟨a1,c1,hr1,hab1⟩:=HS1.out.rd
 have HT1:=h_ (xCy (beB 4 16) (beB 8 n++beB 8 0) hr1 (xv _ _) (by rw[kw _ (by omega)];simp[xv]))
 have HAB1:=h_ hab1
 clear hr1 hab1
 go_wp2_with fail
 refine HT1.out.mono ?_
 rintro e x1 ⟨rfl,hk1,a',c',hr,hbk⟩
 have HXK1:=h_ hk1
 have HA1:=h_ (HS1.out.text hk1 ⟨a',c',hr,hbk ▸ HAB1.out⟩)
 clear hk1 hr hbk HT1
 obtain⟨cc1,y1,hcv1,hby,hsy,hly,hcy,hzy⟩:=xTm x1 (beB 8 n++beB 8 0) (by simp[xv,maxLen])
 rw[show ((beB 8 n++beB 8 0)).length=16 by simp[xv]] at hcv1 hly
 have HY1:=h_ (HA1.out.below hby)
 have HBY1:=h_ hby
 have HD1:=h_ (xJ3 ⟨x1.heap.size,0,none⟩ (beB 8 n++beB 8 0) cc1 y1 hsy (by rw[hzy];exact Nat.lt_succ_self _) (by simp[xv]) hly hcy n (by rw[List.take_left' (xv _ _)];exact xQ9 n (by have:=HN.out.2;omega)) HN.out.1 HN.out.2 (by rw[List.drop_left' (xv _ _)];exact xQ9 0 (by omega)))
 clear hby hsy hly hcy hzy
 go_wp2_with fail
 clear hcv1
 refine HD1.out.mono ?_
 rintro e z1 ⟨hbz,v1,rfl,hat,he1,he2,he3,he4⟩
 have HE1:=h_ (And.intro he1 (And.intro he2 (And.intro he3 he4)))
 have HWZ1:=h_ ((HXK1.out.trans (Kept.of_below (F:=[]) HBY1.out) (fun q hq=>by cases hq)).trans (Kept.of_below (F:=[]) hbz) (fun q hq=>by cases hq))
 have hZ:SnSt w r #[(Value.pointer (some ⟨v0.p,0,none⟩)),.pointer none,.pointer none,.pointer none] _ z1:=HY1.out.below hbz
 obtain⟨k1,k2⟩:=hZ.set 1 (Value.pointer (some ⟨v1.p,0,none⟩)) (by omega)
 obtain⟨g1,g2⟩:=hZ.facts 1 (Value.pointer (some ⟨v1.p,0,none⟩)) (.pointer none) rfl (by omega)
 have f1:=frozen_of_row z1 w.heap.size 1 _ _ hZ.srow
 have f2:=frozen_of_row (z1.setCell ⟨w.heap.size,1,none⟩ (Value.pointer (some ⟨v1.p,0,none⟩))) (w.heap.size+1) 1 _ _ ((heap_setCell_other z1 ⟨w.heap.size,1,none⟩ (w.heap.size+1) (Value.pointer (some ⟨v1.p,0,none⟩)) (by simp)).trans hZ.erow)
 rw[←HSD.out] at k1 k2 g1 g2 f1 f2
 obtain⟨W1,hW1⟩:∃ W,W=(z1.setCell ⟨s,1,none⟩ (Value.pointer (some ⟨v1.p,0,none⟩))).setCell ⟨s+1,1,none⟩ (.int .i64 0):=⟨_,rfl⟩
 rw[←hW1] at k1 k2
 have HS2:Hid (SnSt w r #[(Value.pointer (some ⟨v0.p,0,none⟩)),(Value.pointer (some ⟨v1.p,0,none⟩)),.pointer none,.pointer none] _ W1):=h_ k2
 have HK1:Hid (Kept [s,s+1] z1 W1):=h_ k1
 have HAT1:=h_ hat
 have HSY1:Hid (s+2≤y1.heap.size):=h_ (by rw[HSD.out];exact HY1.out.sz)
 have HBZ1:Hid (y1.heap.size≤z1.heap.size):=h_ hbz.size
 clear hbz hat hZ k1 k2 he1 he2 he3 he4
 go_upto_region 5 with fail
 refine xu hW1 ?_
 have HWW1:=h_ hW1
 clear hW1 g1 g2 f1 f2
 obtain⟨a2,c2,hr2,hab2⟩:=HS2.out.rd
 have HT2:=h_ (xCy (beB 4 0) [] hr2 (xv _ _) (by rw[kw _ (by omega)];simp))
 have HAB2:=h_ hab2
 clear hr2 hab2
 go_wp2_with fail
 refine HT2.out.mono ?_
 rintro e x2 ⟨rfl,hk2,a',c',hr,hbk⟩
 have HXK2:=h_ hk2
 have HA2:=h_ (HS2.out.text hk2 ⟨a',c',hr,hbk ▸ HAB2.out⟩)
 clear hk2 hr hbk HT2
 go_wp2_with fail
 rw[←xG1]
 refine(xNi x2).mono ?_
 rintro e z2 ⟨hbz,v2,rfl,hat,he1⟩
 have HE2:=h_ (he1)
 have HWZ2:=h_ (HXK2.out.trans (Kept.of_below (F:=[]) hbz) (fun q hq=>by cases hq))
 have hZ:SnSt w r #[(Value.pointer (some ⟨v0.p,0,none⟩)),(Value.pointer (some ⟨v1.p,0,none⟩)),.pointer none,.pointer none] _ z2:=HA2.out.below hbz
 obtain⟨k1,k2⟩:=hZ.set 2 (Value.pointer (some ⟨v2.p,0,none⟩)) (by omega)
 obtain⟨g1,g2⟩:=hZ.facts 2 (Value.pointer (some ⟨v2.p,0,none⟩)) (.pointer none) rfl (by omega)
 have f1:=frozen_of_row z2 w.heap.size 2 _ _ hZ.srow
 have f2:=frozen_of_row (z2.setCell ⟨w.heap.size,2,none⟩ (Value.pointer (some ⟨v2.p,0,none⟩))) (w.heap.size+1) 2 _ _ ((heap_setCell_other z2 ⟨w.heap.size,2,none⟩ (w.heap.size+1) (Value.pointer (some ⟨v2.p,0,none⟩)) (by simp)).trans hZ.erow)
 rw[←HSD.out] at k1 k2 g1 g2 f1 f2
 obtain⟨W2,hW2⟩:∃ W,W=(z2.setCell ⟨s,2,none⟩ (Value.pointer (some ⟨v2.p,0,none⟩))).setCell ⟨s+1,2,none⟩ (.int .i64 0):=⟨_,rfl⟩
 rw[←hW2] at k1 k2
 have HS3:Hid (SnSt w r #[(Value.pointer (some ⟨v0.p,0,none⟩)),(Value.pointer (some ⟨v1.p,0,none⟩)),(Value.pointer (some ⟨v2.p,0,none⟩)),.pointer none] _ W2):=h_ k2
 have HK2:Hid (Kept [s,s+1] z2 W2):=h_ k1
 have HAT2:=h_ hat
 have HSY2:Hid (s+2≤x2.heap.size):=h_ (by rw[HSD.out];exact HA2.out.sz)
 have HBZ2:Hid (x2.heap.size≤z2.heap.size):=h_ hbz.size
 clear hbz hat hZ k1 k2 he1
 go_upto_region 6 with fail
 refine xu hW2 ?_
 have HWW2:=h_ hW2
 clear hW2 g1 g2 f1 f2
 obtain⟨a3,c3,hr3,hab3⟩:=HS3.out.rd
 have HT3:=h_ (xCy (beB 4 0) [] hr3 (xv _ _) (by rw[kw _ (by omega)];simp))
 have HAB3:=h_ hab3
 clear hr3 hab3
 go_wp2_with fail
 refine HT3.out.mono ?_
 rintro e x3 ⟨rfl,hk3,a',c',hr,hbk⟩
 have HXK3:=h_ hk3
 have HA3:=h_ (HS3.out.text hk3 ⟨a',c',hr,hbk ▸ HAB3.out⟩)
 clear hk3 hr hbk HT3
 have hg3:=HGK.out x3 HA3.out.kept
 go_wp2_with fail
 rw[←xG1]
 refine(xJ8 x3 hg3).mono ?_
 rintro e z3 ⟨hbz,rfl,hat⟩
 have HE3:=h_ (trivial)
 have HWZ3:=h_ (HXK3.out.trans (Kept.of_below (F:=[]) hbz) (fun q hq=>by cases hq))
 have hZ:SnSt w r #[(Value.pointer (some ⟨v0.p,0,none⟩)),(Value.pointer (some ⟨v1.p,0,none⟩)),(Value.pointer (some ⟨v2.p,0,none⟩)),.pointer none] _ z3:=HA3.out.below hbz
 obtain⟨k1,k2⟩:=hZ.set 3 (Value.pointer (some ⟨x3.heap.size+1,0,none⟩)) (by omega)
 obtain⟨g1,g2⟩:=hZ.facts 3 (Value.pointer (some ⟨x3.heap.size+1,0,none⟩)) (.pointer none) rfl (by omega)
 have f1:=frozen_of_row z3 w.heap.size 3 _ _ hZ.srow
 have f2:=frozen_of_row (z3.setCell ⟨w.heap.size,3,none⟩ (Value.pointer (some ⟨x3.heap.size+1,0,none⟩))) (w.heap.size+1) 3 _ _ ((heap_setCell_other z3 ⟨w.heap.size,3,none⟩ (w.heap.size+1) (Value.pointer (some ⟨x3.heap.size+1,0,none⟩)) (by simp)).trans hZ.erow)
 rw[←HSD.out] at k1 k2 g1 g2 f1 f2
 obtain⟨W3,hW3⟩:∃ W,W=(z3.setCell ⟨s,3,none⟩ (Value.pointer (some ⟨x3.heap.size+1,0,none⟩))).setCell ⟨s+1,3,none⟩ (.int .i64 0):=⟨_,rfl⟩
 rw[←hW3] at k1 k2
 have HS4:Hid (SnSt w r #[(Value.pointer (some ⟨v0.p,0,none⟩)),(Value.pointer (some ⟨v1.p,0,none⟩)),(Value.pointer (some ⟨v2.p,0,none⟩)),(Value.pointer (some ⟨x3.heap.size+1,0,none⟩))] _ W3):=h_ k2
 have HK3:Hid (Kept [s,s+1] z3 W3):=h_ k1
 have HAT3:=h_ hat
 have HSY3:Hid (s+2≤x3.heap.size):=h_ (by rw[HSD.out];exact HA3.out.sz)
 have HBZ3:Hid (x3.heap.size≤z3.heap.size):=h_ hbz.size
 clear hbz hat hZ k1 k2
 go_upto_region 7 with fail
 refine xu hW3 ?_
 have HWW3:=h_ hW3
 clear hW3 g1 g2 f1 f2
 obtain⟨x,hx⟩:∃ x:Prt,x=⟨v0,v1,v2,x3.heap.size+1,x3.heap.size,[],0⟩:=⟨_,rfl⟩
 have hcs:xW x=#[(Value.pointer (some ⟨v0.p,0,none⟩)),(Value.pointer (some ⟨v1.p,0,none⟩)),(Value.pointer (some ⟨v2.p,0,none⟩)),(Value.pointer (some ⟨x3.heap.size+1,0,none⟩))]:=by rw[hx];rfl
 have e4:=HS4.out.erow
 have s4:=HS4.out.srow
 rw[←HSD.out] at e4 s4
 obtain⟨oe,de⟩:=xI (n:=4) e4 rfl
 obtain⟨os,ds⟩:=xI (n:=4) s4 rfl
 have hfq:xy 4 #[(Value.pointer (some ⟨v0.p,0,none⟩)),(Value.pointer (some ⟨v1.p,0,none⟩)),(Value.pointer (some ⟨v2.p,0,none⟩)),(Value.pointer (some ⟨x3.heap.size+1,0,none⟩))]=true:=qo _ _ _ _ rfl rfl rfl rfl
 have hbF:Below W3.heap.size W3 (W3.alloc (.cells #[(Value.pointer (some ⟨v0.p,0,none⟩)),(Value.pointer (some ⟨v1.p,0,none⟩)),(Value.pointer (some ⟨v2.p,0,none⟩)),(Value.pointer (some ⟨x3.heap.size+1,0,none⟩))] 93)):=(Below.refl _ _).alloc (Nat.le_refl _) _
 have m1:∀ {A C:World},Kept [r] A C→Kept [r,s,s+1] A C:=fun h=>h.mono (fun k hk _=>by simp at hk;simp[hk])
 have m2:∀ {A C:World},Kept [s,s+1] A C→Kept [r,s,s+1] A C:=fun h=>h.mono (fun k hk _=>by simp at hk;simp;omega)
 have K3:=m2 HK3.out
 have K2:=((m2 HK2.out).trans (m1 HWZ3.out) (fun q hq=>.inl hq)).trans K3 (fun q hq=>.inl hq)
 have K1:=((m2 HK1.out).trans (m1 HWZ2.out) (fun q hq=>.inl hq)).trans K2 (fun q hq=>.inl hq)
 have K0:=((m2 HK0.out).trans (m1 HWZ1.out) (fun q hq=>.inl hq)).trans K1 (fun q hq=>.inl hq)
 have hrs:r<s:=by rw[HSD.out];exact HS4.out.rl
 have hsy0:=HSY0.out
 have hsy1:=HSY1.out
 have hsy2:=HSY2.out
 have hsy3:=HSY3.out
 have hat:zC s (W3.alloc (.cells #[(Value.pointer (some ⟨v0.p,0,none⟩)),(Value.pointer (some ⟨v1.p,0,none⟩)),(Value.pointer (some ⟨v2.p,0,none⟩)),(Value.pointer (some ⟨x3.heap.size+1,0,none⟩))] 93)) x:=by
  refine zC.below ?_ hbF
  rw[hx]
  exact⟨(HAT0.out.keptB K0 (fun k hk=>by simp at hk;omega)).base (by omega),(HAT1.out.keptB K1 (fun k hk=>by simp at hk;omega)).base (by omega),(HAT2.out.keptB K2 (fun k hk=>by simp at hk;omega)).base (by omega),(HAT3.out.kept K3 (fun k hk=>by simp at hk;omega)).base (by omega)⟩
 have htc:v2.c=none:=by unfold Tbl.c;rw[HE2.out];rfl
 have hpc:x.pc=kk n∧x.gs=[]:=by
  rw[hx]
  refine⟨?_,rfl⟩
  unfold Prt.pc kk
  simp only[HE0.out.1,HE0.out.2,HE1.out.1,HE1.out.2.1,HE1.out.2.2.1,HE1.out.2.2.2,htc]
  rfl
 have hkF:Kept [r] w (W3.alloc (.cells #[(Value.pointer (some ⟨v0.p,0,none⟩)),(Value.pointer (some ⟨v1.p,0,none⟩)),(Value.pointer (some ⟨v2.p,0,none⟩)),(Value.pointer (some ⟨x3.heap.size+1,0,none⟩))] 93)):=HS4.out.kept.trans (Kept.of_below (F:=[]) hbF) (fun q hq=>by cases hq)
 have hrd:∃ a2 c2,uZ (W3.alloc (.cells #[(Value.pointer (some ⟨v0.p,0,none⟩)),(Value.pointer (some ⟨v1.p,0,none⟩)),(Value.pointer (some ⟨v2.p,0,none⟩)),(Value.pointer (some ⟨x3.heap.size+1,0,none⟩))] 93)) r a2 c2 []:=by
  obtain⟨a9,c9,hr9,_⟩:=HS4.out.rd
  exact⟨a9,c9,hr9.below hbF⟩
 have hsp:=heap_alloc_new W3 (.cells #[(Value.pointer (some ⟨v0.p,0,none⟩)),(Value.pointer (some ⟨v1.p,0,none⟩)),(Value.pointer (some ⟨v2.p,0,none⟩)),(Value.pointer (some ⟨x3.heap.size+1,0,none⟩))] 93)
 have HF:Hid (xTq r n w (.returned (.pointer (some ⟨W3.heap.size,0,none⟩))) (W3.alloc (.cells #[(Value.pointer (some ⟨v0.p,0,none⟩)),(Value.pointer (some ⟨v1.p,0,none⟩)),(Value.pointer (some ⟨v2.p,0,none⟩)),(Value.pointer (some ⟨x3.heap.size+1,0,none⟩))] 93))):=h_ ⟨W3.heap.size,x,rfl,hkF,by rw[hcs];exact hsp,by rw[←HSD.out];exact hat,hpc.1,hpc.2,HS4.out.kept.size,hrd⟩
 clear e4 s4 hbF m1 m2 K3 K2 K1 K0 hrs hsy0 hsy1 hsy2 hsy3 hat htc hpc hkF hrd hsp hx hcs
 go_wp2
 go_ret
 exact HF.out
end
section
theorem xPv (ρ:Operand→Value)(d:Option Tmp)(x:Operand)(ty:TypeId)(pos:String)(af:Array Edge)(g:Option (Nat × Bool))(w:World) :
  Sem.run Tryz.prog (execOp ρ ⟨d,.load 139 x,ty,pos,af,g⟩) w=yx Tryz.prog 139 w (ρ x):=rfl
theorem xMs (ρ:Operand→Value)(d:Option Tmp)(x y:Operand)(ty:TypeId)(pos:String)(af:Array Edge)(g:Option (Nat × Bool))(w:World) :
  Sem.run Tryz.prog (execOp ρ ⟨d,.store 139 x y,ty,pos,af,g⟩) w=ym Tryz.prog 139 w (ρ x) (ρ y):=rfl
theorem yAu (w:World)(a:Addr)(h:xq w a 2=true):yx Tryz.prog 139 w (.pointer (some a))=.ok (.value (.agg (xp w a 2))) w :=
 yo Tryz.isAgg139 Tryz.sizeOf139 w a h
theorem yAd (w:World)(g:Nat)(cells:Array Value)(h:xP w g 2=true)(h2:xy 2 cells=true) :
  ym Tryz.prog 139 w (.pointer (some ⟨g,0,none⟩)) (.agg cells)=.ok .skip (w.setRow g cells):=yr (by kernel_rfl) w g cells h h2
attribute [local go_sem ↓] xFg xDm xB3 kT kX qf uJ uK xPv xMs
attribute [local go_sem] xX3 xW2 xRr xR1 xSl xCi xCa yAu yAd zt zw yD yC xj xh xe xd xA xz xo xl xt xC xx
def xQs (n:Nat)(w:World)(e:Ending)(w':World):Prop:=∃ sp x,e=.returned (.tuple #[.iface 91 (.pointer (some ⟨sp,0,none⟩)),.bool true])∧Below w.heap.size w w'∧w'.heap[sp]?=some (.cells (xW x) 93 (0,0))∧zC w.heap.size w' x∧x.pc=kk n∧x.gs=[]∧w.heap.size≤sp
theorem xIy {w:World}(n:Nat)(h1:1≤n)(h2:n≤1073741824)(hG:Gl w)(a:Addr)(cap:Nat)(hs:SlB w a (uy n))(ha:a.block<w.heap.size)(hc:37≤cap)(hm:cap≤maxLen) :
  Calls Tryz.prog 58 #[.slice (some a) 37 cap] w (xQs n w):=by
 obtain⟨r,hr⟩:∃ r,r=w.heap.size:=⟨_,rfl⟩
 obtain⟨w1,hw1⟩:∃ w1,w1=w.alloc (.cells #[.slice (some a) 37 cap,.bool false] 209):=⟨_,rfl⟩
 have hb1:Below w.heap.size w w1:=by rw[hw1];exact b_ _ _
 have hrd0:uZ w1 r a cap (uy n):=by
  refine⟨?_,⟨fun q x hq=>(hb1.cell (by rw[y9];exact ha)).trans (hs.cell q x hq)⟩,by rw[yA];exact hc,hm,by omega,Nat.lt_of_lt_of_le ha hb1.size⟩
  unfold RdAt
  rw[yA,hw1,hr]
  exact heap_alloc_new w _
 have hrd:uZ w1 r a cap ([1]++(beB 4 4++(beB 4 0++(beB 4 16++((beB 8 n++beB 8 0)++(beB 4 0++([]++(beB 4 0++([]++[]))))))))):=hrd0
 clear hrd0
 have HBY:=h_ (xWn 1 hrd)
 have HG:=h_ hG
 have HB1:=h_ hb1
 have HR:=h_ hr
 have HN:=h_ (And.intro h1 h2)
 have hu8:((1:UInt8).toNat:Int)=1:=rfl
 rw[hu8] at HBY
 clear h1 h2 hG hs ha hc hm hb1 hrd hu8
 go_enter Tryz.func58,Tryz.ntmps58
 go_upto_region 2 with fail
 refine xu hw1 ?_
 rw[←hr]
 clear hw1 hr
 go_wp2_with fail
 refine HBY.out.mono ?_
 rintro e w2 ⟨rfl,hk2,a2,c2,hr2,hbk⟩
 have hb02:Below w.heap.size w w2:=HB1.out.trans (hk2.below HB1.out.size (fun k hk=>by rw[List.mem_singleton.1 hk,HR.out];exact Nat.le_refl _))
 have HSN:=h_ (xLy hr2 HN.out.1 HN.out.2 (fun W hk=>HG.out.later (hb02.trans (hk.below hb02.size (fun k hk=>by rw[List.mem_singleton.1 hk,HR.out];exact Nat.le_refl _)))))
 have HB2:=h_ hb02
 clear hk2 hr2 hbk hb02 HBY
 go_wp2_with fail
 refine HSN.out.mono ?_
 rintro e w3 ⟨sp,x,rfl,hk3,hsp,hat,hpc,hgs,hle,a3,c3,hr3⟩
 have hb03:Below w.heap.size w w3:=HB2.out.trans (hk3.below HB2.out.size (fun k hk=>by rw[List.mem_singleton.1 hk,HR.out];exact Nat.le_refl _))
 have h1:=hr3.row
 unfold RdAt at h1
 have c0:=cell_of_row w3 r 0 _ _ _ h1
 have c1:=cell_of_row w3 r 1 _ _ _ h1
 simp only[v_,List.length_nil] at c0 c1
 have HF:Hid (∀ k,xQs n w (.returned (.tuple #[.iface 91 (.pointer (some ⟨sp,0,none⟩)),.bool true])) (w3.drewN k)):=h_ (fun k=>⟨sp,x,rfl,xU hb03 k,hsp,(hat.below (xU (Below.refl _ _) k)).base HB2.out.size,hpc,hgs,Nat.le_trans HB2.out.size hle⟩)
 clear hk3 hsp hat hpc hgs hle hr3 hb03 h1 HSN
 go_upto_region 17 with fail
 go_quiet (fail)
 clear c0 c1
 go_wp2
 go_ret2
 exact HF.out _
theorem xO6 {w:World}(sp tp:Nat)(a b c d:Value)(ha:a.oneCell'=true)(hb:b.oneCell'=true)(hc:c.oneCell'=true)(hd:d.oneCell'=true)(cs:Array Value)(h:w.heap[sp]?=some (.cells #[a,b,c,d] 93 (0,0)))(ht:w.heap[tp]?=some (.cells cs 82 (0,0)))(hcs:cs.size=4) :
  Calls Tryz.prog 339 #[.pointer (some ⟨sp,0,none⟩),.pointer (some ⟨tp,0,none⟩)] w fun e w'=>e=.returned (.int .i64 0)∧w.setRow tp #[a,b,c,d]=w':=by
 obtain⟨o1,r1⟩:=xI (n:=4) h rfl
 have hro:xP w tp 4=true:=zq ht hcs
 have hft:xy 4 #[a,b,c,d]=true:=qo _ _ _ _ ha hb hc hd
 clear h ht hcs
 go_enter Tryz.func339,Tryz.ntmps339
 go_wp2
 go_ret
 exact⟨rfl,rfl⟩
theorem xOf (a:Option Addr)(w:World):Sem.run Tryz.prog (Instr.typeAssert (.iface 91 (.pointer a)) 141 91 true) w=.ok (.tuple #[.pointer a,.bool true]) w:=by kernel_rfl
def xQp (n:Nat)(w:World)(e:Ending)(w':World):Prop:=∃ x,e=.returned (.tuple #[.agg (xW x),.bool true])∧Below w.heap.size w w'∧zC w.heap.size w' x∧x.pc=kk n∧x.gs=[]
theorem xOk {w:World}(n:Nat)(h1:1≤n)(h2:n≤1073741824)(hG:Gl w)(v:Value)(l:List (Int × By × Value))(B:Nat)(hj:JeAt w B v l)(hl:l.map (fun x=>x.2.1)=[3 :: uy n])(_hfew:B≤w.heap.size) :
  Calls Tryz.prog 32 #[v] w (xQp n w):=by
 have hll:l.length=1:=by have:=congrArg List.length hl;simpa using this
 obtain⟨g,cap,gp,pc,hv,hle,hcl,hgl,hpc,hpm,hsl⟩:=hj.get 0 (by omega)
 have hy:l[0].2.1=3 :: uy n:=by
  have:=congrArg (fun (z:List By)=>z[0]?) hl
  simpa[hll] using this
 rw[hy] at hcl hpc hsl
 have hyl:(3 :: uy n).length=38:=by rw[List.length_cons,yA]
 rw[hyl] at hcl hpc
 rw[hll] at hv hle
 generalize l[0].1=z at hcl
 have k0:=hcl 0 _ rfl
 have k1:=hcl 1 _ rfl
 simp only[Nat.zero_mul,Nat.zero_add] at k0 k1
 obtain⟨r0,hr0⟩:∃ r,r=w.heap.size:=⟨_,rfl⟩
 obtain⟨w1,hw1⟩:∃ w1,w1=(w.alloc (.cells yS 82)).alloc (.cells yS 82):=⟨_,rfl⟩
 have hbw1:Below w.heap.size w w1:=by rw[hw1];exact((Below.refl _ _).alloc (Nat.le_refl _) _).alloc (by simp) _
 have hn1:w1.heap[r0]?=some (.cells yS 82 (0,0)):=by rw[hr0,hw1,heap_alloc_old _ _ (by simp),heap_alloc_new]
 have hm1:w1.heap[r0+1]?=some (.cells yS 82 (0,0)):=by
  have:=heap_alloc_new (w.alloc (.cells yS 82)) (.cells yS 82)
  rw[World.size_alloc] at this
  rw[hr0,hw1];exact this
 have hgw:=block_lt_of_cell k0
 have ri:=y7 (w:=w1) (a:=⟨g,0,none⟩) (cs:=[.int .i64 z,.slice (some ⟨gp,0,none⟩) 38 pc]) (fun j u hj=>by
  rw[Addr.add_lit,Nat.zero_add]
  refine(hbw1.cell (p:=⟨g,j,none⟩) hgw).trans ?_
  match j,hj with
  | 0,hj=>rw[k0];exact hj
  | 1,hj=>rw[k1];exact hj)
 obtain⟨o1,d1⟩:=ri
 simp only[List.length_cons,List.length_nil] at o1 d1
 obtain⟨w2,hw2⟩:∃ w2,w2=w1.alloc (.cells #[.int .i64 z,.slice (some ⟨gp,0,none⟩) 38 pc] 139):=⟨_,rfl⟩
 have hbw2:Below w1.heap.size w1 w2:=by rw[hw2];exact b_ _ _
 have hb02:=hbw1.trans (hbw2.mono hbw1.size)
 have he2:w2.heap[w1.heap.size]?=some (.cells #[.int .i64 z,.slice (some ⟨gp,0,none⟩) 38 pc] 139 (0,0)):=by rw[hw2];exact heap_alloc_new w1 _
 have c2:=cell_of_row w2 w1.heap.size 1 _ _ _ he2
 simp only[v_] at c2
 have hsl2:SlB w2 ⟨gp,0,none⟩ (3 :: uy n):=⟨fun q x hq=>(hb02.cell (by rw[y9];exact hgl)).trans (hsl.cell q x hq)⟩
 have b2:=hsl2.cell 0 3 rfl
 rw[show (⟨gp,0,none⟩:Addr).add 0=⟨gp,0,none⟩ from rfl] at b2
 have hu8:((3:UInt8).toNat:Int)=3:=rfl
 rw[hu8] at b2
 have hsf:=jy ⟨gp,0,none⟩ 38 pc 1 1 rfl (by omega)
 have hscut:SlB w2 (cutA ⟨gp,0,none⟩ pc 1) (uy n):=hsl2.cut (cap:=pc) (by rw[hyl];exact hpc) 1
 have HSC:=h_ hscut
 have HLL:Hid (([]:By).length+(uy n).length≤1000000000000):=h_ (by rw[yA];simp)
 have HN:=h_ (And.intro h1 h2)
 have HG:=h_ hG
 have HB02:=h_ hb02
 have HN1:=h_ ((hbw2.block _ (i_ hn1).1).trans hn1)
 have HM1:=h_ ((hbw2.block _ (i_ hm1).1).trans hm1)
 have HR0:=h_ hr0
 have hta:=xOf
 have hc1:(1:Int)≤cap:=by omega
 have hsz2:(#[Value.int .i64 0,Value.slice none 0 0].size == 2)=true:=rfl
 have hft2:xy 2 #[Value.int .i64 z,Value.slice (some ⟨gp,0,none⟩) 38 pc]=true:=by simp[xy,Value.oneCell']
 have hb1:bits .and .u8 3 1=1:=by decide
 have hb2:bits .andNot .u8 3 3=0:=by decide
 have hb3:bits .and .u8 3 2=2:=by decide
 have hpz:(38:Int)≤pc:=by omega
 subst hv
 clear h1 h2 hG hj hl _hfew hll hle hcl hgl hpc hpm hsl hy hyl k0 k1 hbw1 hn1 hm1 hgw hbw2 hb02 he2 hsl2 hu8 hscut
 go_enter Tryz.func32,Tryz.ntmps32
 go_upto_region 2 with fail
 refine xu hw1 ?_
 rw[←hr0]
 clear hw1 hr0
 go_wp2
 refine yT ?_
 go_upto_region 7 with fail
 refine xu hw2 ?_
 clear hw2 o1 d1
 go_wp2_with (at_builtin;refine uq rfl (.tmp 41) (.tmp 44) rfl w2.heap.size _ [] rfl (OwnB.nil _ _) (cutA ⟨gp,0,none⟩ pc 1) (uy n) (pc-1) (by rw[yA];rfl) HSC.out HLL.out (Nat.le_refl _) ?_)
 intro v' w3 ho hg _ _
 have ho:OwnB w3 w2.heap.size v' (uy n):=ho
 have hb3:Below w2.heap.size w2 w3:=(Below.refl _ w2).grown hg (Nat.le_refl _) (fun k e=>by cases e)
 obtain⟨rg,rc,hv',hrc,hrm,hrs⟩:∃ g cap,v'=.slice (some ⟨g,0,none⟩) 37 cap∧37≤cap∧cap≤maxLen∧SlB w3 ⟨g,0,none⟩ (uy n):=by
  rcases ho.at with⟨_,h⟩ | ⟨g,cap,h1,h2,h3,h4,h5⟩
  ·exact absurd (congrArg List.length h) (by rw[yA];simp)
  ·rw[yA] at h1 h3
   exact⟨g,cap,h1,h3,h4,h5⟩
 subst hv'
 have hb03:Below w.heap.size w w3:=HB02.out.trans (hb3.mono HB02.out.size)
 have HD:=h_ (xIy n HN.out.1 HN.out.2 (HG.out.later hb03) ⟨rg,0,none⟩ rc hrs (ho.lt (k:=rg) rfl).2 hrc hrm)
 have HB03:=h_ hb03
 have HN3:=h_ ((hb3.block _ (i_ HN1.out).1).trans HN1.out)
 have HM3:=h_ ((hb3.block _ (i_ HM1.out).1).trans HM1.out)
 clear ho hg hb3 hrc hrm hrs hb03 hsf c2 b2
 go_wp2_with fail
 refine HD.out.mono ?_
 rintro e w4 ⟨sp,x,rfl,hb4,hsp,hat,hpc,hgs,hle⟩
 have hn4:=(hb4.block _ (i_ HN3.out).1).trans HN3.out
 have hm4:=(hb4.block _ (i_ HM3.out).1).trans HM3.out
 have hb04:Below w.heap.size w w4:=HB03.out.trans (hb4.mono HB03.out.size)
 have HAP:=h_ (xO6 sp (r0+1) _ _ _ _ rfl rfl rfl rfl yS hsp hm4 rfl)
 obtain⟨cs,hcs⟩:∃ cs,cs=xW x:=⟨_,rfl⟩
 have hcs':#[Value.pointer (some ⟨x.h.p,0,none⟩),.pointer (some ⟨x.s.p,0,none⟩),.pointer (some ⟨x.t.p,0,none⟩),.pointer (some ⟨x.ib,0,none⟩)]=cs:=by rw[hcs];rfl
 rw[hcs'] at HAP
 have hsz:cs.size=4:=by rw[hcs];rfl
 have hft:xy 4 cs=true:=by rw[hcs];exact qo _ _ _ _ rfl rfl rfl rfl
 obtain⟨w5,hw5⟩:∃ w5,w5=w4.setRow (r0+1) cs:=⟨_,rfl⟩
 rw[←hw5] at HAP
 have hm5:w5.heap[r0+1]?=some (.cells cs 82 (0,0)):=by rw[hw5];exact setRow_heap w4 (r0+1) _ cs _ _ hm4
 have hn5:w5.heap[r0]?=some (.cells yS 82 (0,0)):=by rw[hw5];exact(setRow_other _ _ _ _ (by omega)).trans hn4
 obtain⟨o5,d5⟩:=xI (n:=4) hm5 hsz
 have hro:xP w5 r0 4=true:=zq hn5 rfl
 obtain⟨o6,d6⟩:=xI (n:=4) (setRow_heap w5 r0 _ cs _ _ hn5) hsz
 have hlt3:r0+1<w3.heap.size:=(i_ HM3.out).1
 have hk6:Kept [r0,r0+1] w4 (w5.setRow r0 cs):=by
  rw[hw5]
  exact((qd w4 (r0+1) cs).mono (fun k hk _=>by simp at hk;simp[hk])).trans (qd _ r0 cs) (fun k hk=>by simp at hk;simp[hk])
 have hat6:zC w3.heap.size (w5.setRow r0 cs) x:=hat.kept hk6 (fun k hk=>by simp at hk;omega)
 have hb06:Below w.heap.size w (w5.setRow r0 cs):=hb04.trans (hk6.below hb04.size (fun k hk=>by have:=HR0.out;simp at hk;omega))
 have HF:Hid (xQp n w (.returned (.tuple #[.agg cs,.bool true])) (w5.setRow r0 cs)):=h_ ⟨x,by rw[hcs],hb06,hat6.base HB03.out.size,hpc,hgs⟩
 have HRD:=h_ (And.intro o6 d6)
 clear hb4 hsp hat hpc hgs hle hn4 hm4 hb04 hcs hcs' hsz hw5 hm5 hn5 o6 d6 hlt3 hk6 hat6 hb06 HD
 go_wp2_with fail
 refine HAP.out.mono ?_
 rintro e w' ⟨rfl,rfl⟩
 go_wp2
 exact bodyPost_ret (v:=.tuple #[.agg cs,.bool true]) (uN rfl Tryz.isAgg82 Tryz.sizeOf82 _ _ ⟨r0,0,none⟩ _ _ rfl rfl HRD.out.1 HRD.out.2) rfl HF.out
end
section
attribute [local go_sem ↓] xB3 kT kX qf uJ uK
attribute [local go_sem] xRr xR1 xSl xCi xCa zt zw yD yC xj xh xe xd xA xz xo xl xt xC xx
structure Fmt (d:PD)(j:PJ)(n:Nat):Prop where
 up:d.Up
 pend:d.pend=[]
 inv:JInv sha d.n d j
 gen:j.gen≤100
 ents:j.entries=[3 :: uy n]
def xNn (D:Nat)(v:Dev)(d:PD)(n:Nat)(w:World)(e:Ending)(w':World):Prop:=e=.returned (.int .i64 0)∧Kept v.foot w w'∧∃ v' d' j,v'.p=v.p∧v'.M=v.M∧yj D w' v' d'∧(∀ k∈v'.foot,k∈v.foot∨w.heap.size≤k)∧d'.n=d.n∧Fmt d' j n
theorem xG2:xY 38=1:=by decide
theorem xEz {D:Nat}{w:World}{v:Dev}{d:PD}(h:yj D w v d)(hu:d.Up)(hG:Gl w)(h64:64≤d.n)(hpend:d.pend=[])(hz:∀ s,s<d.n→decP sha (d.vis s)=none)(n:Nat)(h1:1≤n)(h2:n≤1073741824)(hD:D≤w.heap.size)(hD0:Tryz.prog.globals.size≤D) :
  Calls Tryz.prog 7 #[.pointer (some ⟨v.p,0,none⟩),.int .i64 n] w (xNn D v d n w):=by
 have hfl:=h.foot_lt
 have HFL:=h_ hfl
 have H:=h_ h
 have HG:=h_ hG
 have HC:=h_ (And.intro hu (And.intro h64 (And.intro hpend hz)))
 have HN:=h_ (And.intro h1 h2)
 have HD:=h_ (And.intro hD hD0)
 have h64z:(64:Int)≤(d.n:Int):=by omega
 have hdn:(d.n:Int)≤4096:=by have:=h.n2;omega
 have HNS:=h_ (xDb n h1 h2 w)
 clear h hu hG h64 hpend hz h1 h2 hD hD0 hfl
 go_enter Tryz.func7,Tryz.ntmps7
 go_wp2_with fail
 refine(yJ H.out).mono ?_
 rintro e w' ⟨rfl,rfl⟩
 go_wp2_with fail
 refine HNS.out.mono ?_
 rintro e w1 ⟨hb1,x,rfl,hx,hpc,hgs⟩
 obtain⟨q0,hq0⟩:∃ q,q=Value.pointer (some ⟨x.h.p,0,none⟩):=⟨_,rfl⟩
 obtain⟨q1,hq1⟩:∃ q,q=Value.pointer (some ⟨x.s.p,0,none⟩):=⟨_,rfl⟩
 obtain⟨q2,hq2⟩:∃ q,q=Value.pointer (some ⟨x.t.p,0,none⟩):=⟨_,rfl⟩
 obtain⟨q3,hq3⟩:∃ q,q=Value.pointer (some ⟨x.ib,0,none⟩):=⟨_,rfl⟩
 have hcs:xW x=#[q0,q1,q2,q3]:=by rw[hq0,hq1,hq2,hq3];rfl
 have hft:xy 4 #[q0,q1,q2,q3]=true:=qo _ _ _ _ (by rw[hq0];rfl) (by rw[hq1];rfl) (by rw[hq2];rfl) (by rw[hq3];rfl)
 rw[hcs]
 have hz4:(yS.size == 4)=true:=rfl
 obtain⟨w2,hw2⟩:∃ w2,w2=w1.alloc (.cells #[q0,q1,q2,q3] 82):=⟨_,rfl⟩
 have hb12:Below w1.heap.size w1 w2:=by rw[hw2];exact b_ _ _
 have hn2:w2.heap[w1.heap.size]?=some (.cells #[q0,q1,q2,q3] 82 (0,0)):=by rw[hw2];exact heap_alloc_new w1 _
 have hb2:=hb1.trans (hb12.mono hb1.size)
 have hx2:=hx.in.below hb12 (Nat.le_refl _)
 have hd2:=H.out.below hb2
 have HCS:=h_ hcs
 have HX2:=h_ hx2
 have HPC:=h_ (And.intro hpc hgs)
 have HB2:=h_ hb2
 have HN2:=h_ hn2
 have HD2:=h_ hd2
 have HLE:=h_ hb1.size
 have HL12:Hid (w1.heap.size≤w2.heap.size):=h_ hb12.size
 have HL12':Hid (w1.heap.size<w2.heap.size):=h_ (i_ hn2).1
 have hg2:=HG.out.later hb2
 have HFO:=h_ (xRz hd2 HC.out.1 (qZ hg2) (by have:=HC.out.2.1;omega) HC.out.2.2.1 HC.out.2.2.2 (Nat.le_trans HD.out.1 hb2.size) (Nat.lt_of_lt_of_le xAv HD.out.2))
 clear hb1 hx hpc hgs hcs hq0 hq1 hq2 hq3 hb12 hn2 hb2 hx2 hd2 hg2 HNS
 go_upto_region 6 with fail
 refine xu hw2 ?_
 clear hw2
 go_wp2_with fail
 refine(yJ HD2.out).mono ?_
 rintro e w' ⟨rfl,rfl⟩
 go_wp2_with fail
 refine HFO.out.mono ?_
 rintro e w3 ⟨rfl,hk3,v3,hv3,hM3,hd3,hf3⟩
 obtain⟨_,_,p3,p4,p5⟩:=JInv.format sha yV (d:=d) HC.out.1 (by have:=HC.out.2.1;omega) HC.out.2.2.2
 obtain⟨d1,hd1⟩:∃ d1,d1=(d.puts 0 (zJ.secs sha)).1.flushed:=⟨_,rfl⟩
 have hu1:d1.Up:=by rw[hd1];exact xCj p3
 have hn1:d1.n=d.n:=by rw[hd1];exact p4
 have hi1:JInv sha d1.n d1 zJ:=by rw[hn1,hd1];exact p5.flushed
 have he1:d1.pend=[]:=by rw[hd1];rfl
 rw[←hd1] at hd3
 have hD3:D≤w3.heap.size:=Nat.le_trans HD.out.1 (Nat.le_trans HB2.out.size hk3.size)
 have hB3:Below D w w3:=(HB2.out.mono HD.out.1).trans (hk3.below (Nat.le_trans HD.out.1 HB2.out.size) (fun k hk=>(HFL.out k hk).1))
 have HB3:=h_ hB3
 have HG3:Hid (Gl w3):=h_ (HG.out.below hB3 HD.out.2)
 have HOP:=h_ (xHs hd3 hu1 (qZ HG3.out) zJ hi1 (by decide) he1 hD3 (by decide) (Nat.lt_of_lt_of_le xAv HD.out.2) (by rw[hn1];have:=HC.out.2.1;omega))
 have HX3:Hid (vy w.heap.size w1.heap.size w3 x):=h_ (HX2.out.kept hk3 HL12.out (fun k hk=>.inl (HFL.out k hk).2))
 have HN3:Hid (w3.heap[w1.heap.size]?=some (.cells #[q0,q1,q2,q3] 82 (0,0))):=h_ ((hk3.block _ (i_ HN2.out).1 (fun hm=>by have:=(HFL.out _ hm).2;have:=HLE.out;omega)).trans HN2.out)
 have HD3:=h_ hd3
 have HV3:=h_ (And.intro hv3 (And.intro hM3 hf3))
 have HD1:=h_ (And.intro hu1 (And.intro hn1 (And.intro hi1 he1)))
 have HK3:=h_ hk3
 have hpp:Value.pointer (some ⟨v.p,0,none⟩)=.pointer (some ⟨v3.p,0,none⟩):=by rw[hv3]
 rw[hn1] at HOP
 have HPP:=h_ hpp
 clear hk3 hv3 hM3 hd3 hf3 p3 p4 p5 hu1 hn1 hi1 he1 hD3 hB3 hpp hd1 HFO
 go_wp2_with fail
 rw[HPP.out]
 refine(yJ HD3.out).mono ?_
 rw[HD1.out.2.1]
 rintro e w' ⟨rfl,rfl⟩
 go_wp2_with fail
 refine HOP.out.mono ?_
 rintro e w4 ⟨b,v4,ev,entv,l,rfl,hk4,hj4,hb4,hv4,hM4,hf4,hev4,_,hl4⟩
 obtain⟨J,hJ⟩:∃ J,J=jd sha d1.n d1 zJ:=⟨_,rfl⟩
 obtain⟨hJok,hJg⟩:=xH6 sha HD1.out.2.2.1 (by decide)
 obtain⟨_,_,u3,u4,u5⟩:=JInv.reopen sha yV HD1.out.2.2.1 HD1.out.1 (by decide)
 have hJa:1-zJ.area=J.area:=by rw[hJ];rfl
 have hJe:J.entries=[]:=by rw[hJ];rfl
 rw[hJa,←hJ] at u3 u4 u5
 rw[←HD1.out.2.1,←hJ] at hj4
 rw[←hJ] at hJok hJg
 obtain⟨d2,hd2⟩:∃ d2,d2=(d1.puts (J.area*(d1.n / 2)) (J.secs sha)).1.flushed:=⟨_,rfl⟩
 rw[←hd2] at hj4
 have hn2d:d2.n=d.n:=by rw[hd2];exact u4.trans HD1.out.2.1
 have hp2:d2.pend=[]:=by rw[hd2];rfl
 have hsl:(J.secs sha).length=1:=by rw[zo,hJe];rfl
 have HJ4:=h_ hj4
 have HD2F:=h_ (And.intro hn2d (And.intro hp2 (And.intro hsl (And.intro hJe hJg))))
 have hf4':∀ k∈v3.foot,k<w.heap.size∨w1.heap.size+1≤k:=fun k hk=>by
  rcases HV3.out.2.2 k hk with h | h
  ·exact .inl (HFL.out k h).2
  ·have:=HL12'.out;omega
 have HX4:Hid (vy w.heap.size w1.heap.size w4 x):=h_ (HX3.out.kept hk4 (Nat.le_trans HL12.out HK3.out.size) (fun k hk=>(hf4' k hk).imp_right (fun h=>by omega)))
 have hn4:=(hk4.block _ (i_ HN3.out).1 (fun hm=>by have:=hf4' _ hm;have:=HLE.out;omega)).trans HN3.out
 obtain⟨o4,r4⟩:=xI (n:=4) hn4 rfl
 obtain⟨w5,hw5⟩:∃ w5,w5=w4.alloc (.cells #[q0,q1,q2,q3] 93):=⟨_,rfl⟩
 have hb5:Below w4.heap.size w4 w5:=by rw[hw5];exact b_ _ _
 have hn5:w5.heap[w4.heap.size]?=some (.cells #[q0,q1,q2,q3] 93 (0,0)):=by rw[hw5];exact heap_alloc_new w4 _
 have hfoot3:∀ k∈v3.foot,D≤k:=fun k hk=>(HD3.out.foot_lt k hk).1
 have hB4:Below D w w4:=HB3.out.trans (hk4.below (Nat.le_trans HD.out.1 (HB3.out.size)) hfoot3)
 have hw34:w.heap.size≤w4.heap.size:=hB4.size
 have hB5:Below D w w5:=hB4.trans (hb5.mono (Nat.le_trans HD.out.1 hw34))
 have hg5:Gl w5:=HG.out.below hB5 HD.out.2
 have hx5:zC w.heap.size w5 x:=(HX4.out.below hb5 (Nat.le_trans HL12.out (Nat.le_trans HK3.out.size hk4.size))).at
 have HEN:=h_ (xGp hx5 hg5 n HPC.out.1 HPC.out.2 HN.out.2 w4.heap.size (by rw[HCS.out];exact hn5))
 have HJ5:=h_ (hj4.below hb5)
 have HG5:=h_ hg5
 have HK4:=h_ (hk4.trans (Kept.of_below (F:=[]) hb5) (fun q hq=>by cases hq))
 have HB5:=h_ hB5
 have HV4:=h_ (And.intro hv4 (And.intro hM4 (And.intro hf4 hev4)))
 have HB4L:=h_ hb4
 have H35:Hid (w3.heap.size≤w5.heap.size):=h_ (Nat.le_trans hk4.size hb5.size)
 clear hk4 hj4 hb4 hv4 hM4 hf4 hev4 hl4 hJ hJok hJg u3 u4 u5 hJa hJe hd2 hn2d hp2 hsl hf4' hn4 hb5 hn5 hfoot3 hB4 hw34 hB5 hg5 hx5 HOP
 go_upto_region 14 with fail
 go_wp2_with fail
 rw[←hw5]
 clear hw5
 refine HEN.out.mono ?_
 rintro e w6 ⟨hb6,u,rfl,hown⟩
 obtain⟨ug,uc,hu,huc,hug,hus⟩:∃ g cap,u=.slice (some ⟨g,0,none⟩) 37 cap∧37≤cap∧g<w6.heap.size∧SlB w6 ⟨g,0,none⟩ (uy n):=by
  rcases hown.at with⟨_,h⟩ | ⟨g,cap,h1,h2,h3,h4,h5⟩
  ·exact absurd (congrArg List.length h) (by rw[yA];simp)
  ·have:=(hown.lt (k:=g) (by rw[h1];rfl)).2
   rw[yA] at h1 h3
   exact⟨g,cap,h1,h3,this,h5⟩
 subst hu
 have hB6:Below D w w6:=HB5.out.trans (hb6.mono (Nat.le_trans HD.out.1 HB5.out.size))
 have hnd2:d2.n=d.n:=HD2F.out.1
 have hpe2:d2.pend=[]:=HD2F.out.2.1
 have hse2:(J.secs sha).length=1:=HD2F.out.2.2.1
 have hj6:=HJ5.out.below hb6
 have HWR:=h_ (jN hj6 (qZ (HG.out.below hB6 HD.out.2)) (uy n) ⟨ug,0,none⟩ uc hus hug (by rw[yA];exact huc) (by rw[yA];omega) (by rw[yA];omega)
  (by rw[yA,xG2,hse2,hnd2];have:=HC.out.2.1;omega) (by rw[yA,xG2,hpe2];decide) (by rw[HD2F.out.2.2.2.1];decide) (Nat.le_trans HD.out.1 hB6.size))
 rw[yA] at HWR
 have HB6:=h_ hB6
 have HK6:=h_ (HK4.out.trans (Kept.of_below (F:=[]) hb6) (fun q hq=>by cases hq))
 have H36:Hid (w3.heap.size≤w6.heap.size):=h_ (Nat.le_trans H35.out hb6.size)
 clear hb6 hown huc hug hus hB6 hnd2 hpe2 hse2 hj6 HEN o4 r4
 go_wp2_with fail
 refine HWR.out.mono ?_
 rintro e w7 ⟨rfl,hk7,v7,ev7,hv7,hM7,hj7,hf7,hev7⟩
 obtain⟨d3,hd3⟩:∃ d3,d3=(d2.puts (J.area*(d2.n / 2)+(J.secs sha).length) (yf sha (J.body (3 :: uy n)))).1:=⟨_,rfl⟩
 have hn3d:d3.n=d2.n:=by rw[hd3];exact(JInv.add sha yV HJ4.out.inv HJ4.out.up (3 :: uy n) (by rw[List.length_cons,yA];omega) (by rw[HD2F.out.2.2.2.1];decide) (by rw[List.length_cons,yA,xG2,HD2F.out.2.2.1,HD2F.out.1];have:=HC.out.2.1;omega)).2.2.1
 rw[←hd3] at hj7
 have HSY:=h_ (xBg hj7 (by show (J.entries++[3 :: uy n]).length≤_;rw[HD2F.out.2.2.2.1];simp))
 have HK7:=h_ hk7
 have HV7:=h_ (And.intro hv7 (And.intro hM7 (And.intro hf7 (And.intro hev7 hn3d))))
 clear hk7 hv7 hM7 hj7 hf7 hev7 hd3 hn3d HWR
 go_wp2_with fail
 refine HSY.out.mono ?_
 rintro e w8 ⟨rfl,hk8,v8,sy8,hv8,hM8,hj8,hf8⟩
 have hfin:xNn D v d n w (.returned (.int .i64 0)) w8:=by
  obtain⟨a1,a2,a3⟩:=HV3.out
  obtain⟨a4,a5,a6,a7⟩:=HV4.out
  obtain⟨a8,a9,a10,a11,a12⟩:=HV7.out
  have z1:w.heap.size≤w3.heap.size:=HB3.out.size
  have z2:=H36.out
  have z3:w.heap.size≤w2.heap.size:=HB2.out.size
  have z4:=HB4L.out
  have z7:w6.heap.size≤w7.heap.size:=HK7.out.size
  have c3:∀ k∈v3.foot,k∈v.foot∨w.heap.size≤k:=fun k hk=>(a3 k hk).imp_right (fun h=>Nat.le_trans z3 h)
  have c4:∀ k∈v4.foot,k∈v.foot∨w.heap.size≤k:=fun k hk=>by
   rcases a6 k hk with h | h
   ·exact c3 k h
   ·exact .inr (by omega)
  have c7:∀ k∈v7.foot,k∈v.foot∨w.heap.size≤k:=fun k hk=>by
   rcases a10 k hk with h | h
   ·exact c4 k h
   ·exact .inr (by omega)
  have c8:∀ k∈v8.foot,k∈v.foot∨w.heap.size≤k:=fun k hk=>by
   rcases hf8 k hk with h | h
   ·exact c7 k h
   ·exact .inr (by omega)
  have kk3:Kept v.foot w w3:=(Kept.of_below (F:=v.foot) HB2.out).trans HK3.out (fun q hq=>.inl hq)
  have kk6:Kept v.foot w w6:=kk3.trans HK6.out c3
  have kk7:Kept v.foot w w7:=kk6.trans HK7.out (fun q hq=>by
   rcases List.mem_cons.1 hq with rfl | hq
   ·exact .inr (by omega)
   ·rcases List.mem_append.1 hq with hq | hq
    ·exact c4 q hq
    ·have:=a7 q (by simpa using hq);exact .inr (by omega))
  have kk8:Kept v.foot w w8:=kk7.trans hk8 (fun q hq=>by
   rcases List.mem_cons.1 hq with rfl | hq
   ·exact .inr (by omega)
   ·exact c7 q hq)
  refine⟨rfl,kk8,v8,_,_,hv8.trans (a8.trans (a4.trans a1)),hM8.trans (a9.trans (a5.trans a2)),hj8.dev,c8,(xBj d3).trans (a12.trans HD2F.out.1),hj8.up,rfl,hj8.inv,?_,?_⟩
  ·show J.gen≤100
   have:=HD2F.out.2.2.2.2
   have h0:zJ.gen=0:=rfl
   omega
  ·show J.entries++[3 :: uy n]=_
   rw[HD2F.out.2.2.2.1];rfl
 have HFIN:=h_ hfin
 clear hk8 hv8 hM8 hj8 hf8 hfin HSY
 go_wp2
 go_ret
 exact HFIN.out
end
section
attribute [local go_sem ↓] qf uJ uK
attribute [local go_sem] xCi xCa zt zw yD yC xj xh xe xd xA xz xo xl xt xC xx
theorem xLm (n:Int)(w:World):Calls Tryz.prog 7 #[.pointer none,.int .i64 n] w fun e w'=>e=.returned (.int .i64 1)∧w=w':=by
 go_enter Tryz.func7,Tryz.ntmps7
 go_wp2
 go_ret
 exact⟨rfl,rfl⟩
theorem xQy (w:World):Calls Tryz.prog 6 #[.pointer none] w fun e w'=>e=.returned (.tuple #[.pointer none,.int .i64 1])∧w=w':=by
 go_enter Tryz.func6,Tryz.ntmps6
 go_wp2
 go_ret2
 exact⟨rfl,rfl⟩
theorem xGg {D:Nat}{w:World}{v:Dev}{d:PD}(h:yj D w v d)(h64:d.n<64)(n:Int):Calls Tryz.prog 7 #[.pointer (some ⟨v.p,0,none⟩),.int .i64 n] w fun e w'=>e=.returned (.int .i64 2)∧w=w':=by
 have HS:=h_ (yJ h)
 have hz:(d.n:Int)<64:=by omega
 clear h h64
 go_enter Tryz.func7,Tryz.ntmps7
 go_wp2_with fail
 refine HS.out.mono ?_
 rintro e w' ⟨rfl,rfl⟩
 go_wp2
 go_ret
 exact⟨rfl,rfl⟩
theorem xLk {D:Nat}{w:World}{v:Dev}{d:PD}(h:yj D w v d)(h64:d.n<64):Calls Tryz.prog 6 #[.pointer (some ⟨v.p,0,none⟩)] w fun e w'=>e=.returned (.tuple #[.pointer none,.int .i64 2])∧w=w':=by
 have HS:=h_ (yJ h)
 have hz:(d.n:Int)<64:=by omega
 clear h h64
 go_enter Tryz.func6,Tryz.ntmps6
 go_wp2_with fail
 refine HS.out.mono ?_
 rintro e w' ⟨rfl,rfl⟩
 go_wp2
 go_ret2
 exact⟨rfl,rfl⟩
theorem xNy {D:Nat}{w:World}{v:Dev}{d:PD}(h:yj D w v d)(h64:64≤d.n)(hd:d.down=true):Calls Tryz.prog 6 #[.pointer (some ⟨v.p,0,none⟩)] w fun e w'=>e=.returned (.tuple #[.pointer none,.int .i64 28])∧w=w':=by
 have HS:=h_ (yJ h)
 have HD:=h_ (xDt h)
 rw[hd] at HD
 have hz:(64:Int)≤(d.n:Int):=by omega
 clear h h64 hd
 go_enter Tryz.func6,Tryz.ntmps6
 go_wp2_with fail
 refine HS.out.mono ?_
 rintro e w' ⟨rfl,rfl⟩
 go_wp2_with fail
 refine HD.out.mono ?_
 rintro e w' ⟨rfl,rfl⟩
 go_wp2
 go_ret2
 exact⟨rfl,rfl⟩
theorem xGh {D:Nat}{w:World}{v:Dev}{d:PD}(h:yj D w v d)(h64:64≤d.n)(n:Int)(hn:n<1∨1073741824<n):Calls Tryz.prog 7 #[.pointer (some ⟨v.p,0,none⟩),.int .i64 n] w fun e w'=>e=.returned (.int .i64 2)∧Below w.heap.size w w':=by
 have HS:=h_ (yJ h)
 have HN:=h_ (xMb n hn w)
 have hz:(64:Int)≤(d.n:Int):=by omega
 clear h h64 hn
 have hz4:(yS.size == 4)=true:=rfl
 have hft:xy 4 yS=true:=qo _ _ _ _ rfl rfl rfl rfl
 go_enter Tryz.func7,Tryz.ntmps7
 go_wp2_with fail
 refine HS.out.mono ?_
 rintro e w' ⟨rfl,rfl⟩
 go_wp2_with fail
 refine HN.out.mono ?_
 rintro e w1 ⟨hb1,rfl⟩
 have HB:=h_ (hb1.trans (((Below.refl w1.heap.size w1).alloc (Nat.le_refl _) (.cells yS 82)).mono hb1.size))
 clear hb1
 go_wp2
 go_ret
 exact⟨rfl,HB.out⟩
theorem xIx {D:Nat}{w:World}{v:Dev}{d:PD}(h:yj D w v d)(h64:64≤d.n)(hd:d.down=true)(n:Nat)(h1:1≤n)(h2:n≤1073741824):Calls Tryz.prog 7 #[.pointer (some ⟨v.p,0,none⟩),.int .i64 n] w fun e w'=>e=.returned (.int .i64 28)∧Below w.heap.size w w':=by
 have HS:=h_ (yJ h)
 have HN:=h_ (xDb n h1 h2 w)
 have hz:(64:Int)≤(d.n:Int):=by omega
 have H:=h_ h
 have HD:=h_ (And.intro h64 hd)
 clear h h64 h1 h2 hd
 have hz4:(yS.size == 4)=true:=rfl
 go_enter Tryz.func7,Tryz.ntmps7
 go_wp2_with fail
 refine HS.out.mono ?_
 rintro e w' ⟨rfl,rfl⟩
 go_wp2_with fail
 refine HN.out.mono ?_
 rintro e w1 ⟨hb1,x,rfl,_,_,_⟩
 obtain⟨cs,hcs⟩:∃ cs,cs=xW x:=⟨_,rfl⟩
 have hft:xy 4 cs=true:=by rw[hcs];exact qo _ _ _ _ rfl rfl rfl rfl
 rw[←hcs]
 obtain⟨w2,hw2⟩:∃ w2,w2=w1.alloc (.cells cs 82):=⟨_,rfl⟩
 have hb2:Below w.heap.size w w2:=by rw[hw2];exact hb1.trans (((Below.refl w1.heap.size w1).alloc (Nat.le_refl _) _).mono hb1.size)
 have hd2:=H.out.below hb2
 have HB2:=h_ hb2
 have HS2:=h_ (yJ hd2)
 have HF2:=h_ (xMk hd2 HD.out.2 (by have:=HD.out.1;omega))
 clear hb1 hb2 hd2 hcs
 go_upto_region 6 with fail
 refine xu hw2 ?_
 clear hw2
 go_wp2_with fail
 refine HS2.out.mono ?_
 rintro e w' ⟨rfl,rfl⟩
 go_wp2_with fail
 refine HF2.out.mono ?_
 rintro e w3 ⟨rfl,hb3⟩
 have HB3:=h_ (HB2.out.trans (hb3.mono HB2.out.size))
 clear hb3
 go_wp2
 go_ret
 exact⟨rfl,HB3.out⟩
theorem xNx {D:Nat}{w:World}{v:Dev}{d:PD}(h:yj D w v d)(h64:64≤d.n)(hu:d.Up)(hG:Gl w)(hp:d.pend=[])(hnone:curP sha d.n d=none):Calls Tryz.prog 6 #[.pointer (some ⟨v.p,0,none⟩)] w fun e w'=>e=.returned (.tuple #[.pointer none,.int .i64 3])∧Below w.heap.size w w':=by
 have HS:=h_ (yJ h)
 have HD:=h_ (xDt h)
 rw[hu.1] at HD
 have HC:=h_ (xQe h hp)
 have hz:(64:Int)≤(d.n:Int):=by omega
 have HG:=h_ hG
 have HX:=h_ (And.intro h64 (And.intro hu hnone))
 clear h h64 hu hG hp hnone
 go_enter Tryz.func6,Tryz.ntmps6
 go_wp2_with fail
 refine HS.out.mono ?_
 rintro e w' ⟨rfl,rfl⟩
 go_wp2_with fail
 refine HD.out.mono ?_
 rintro e w' ⟨rfl,rfl⟩
 go_wp2_with fail
 refine HC.out.mono ?_
 rintro e w1 ⟨hb1,c,rfl,hc1⟩
 have HB1:=h_ hb1
 have HSL:=h_ (xBx hc1)
 have HCP:=h_ (And.intro hc1.pB (hc1.foot_lt _ c.p_foot).2)
 clear hb1 hc1
 go_wp2_with fail
 refine HSL.out.mono ?_
 rintro e w2 ⟨rfl,hk2,hc2⟩
 have he:({ d with lim:=none }:PD)=d:=by rw[←HX.out.2.1.2]
 rw[he] at hc2
 have hb2:Below w.heap.size w w2:=HB1.out.trans (hk2.below HB1.out.size (fun k hk=>by rw[List.mem_singleton.1 hk];exact HCP.out.1))
 have HB2:=h_ hb2
 have HS2:=h_ (yJ hc2)
 have HO2:=h_ (xRw hc2 HX.out.2.1.1 (qZ (HG.out.later hb2)) HX.out.2.2 (by have:=HX.out.1;omega))
 clear hk2 hc2 hb2 he
 go_wp2_with fail
 refine HS2.out.mono ?_
 rintro e w' ⟨rfl,rfl⟩
 go_wp2_with fail
 refine HO2.out.mono ?_
 rintro e w3 ⟨rfl,hb3⟩
 have HB3:=h_ (HB2.out.trans (hb3.mono HB2.out.size))
 clear hb3
 go_wp2
 go_ret2
 exact⟨rfl,HB3.out⟩
end
section
theorem xFf (ρ:Operand→Value)(d:Option Tmp)(x:Operand)(ty:TypeId)(pos:String)(af:Array Edge)(g:Option (Nat × Bool))(w:World) :
  Sem.run Tryz.prog (execOp ρ ⟨d,.load 86 x,ty,pos,af,g⟩) w=yx Tryz.prog 86 w (ρ x):=rfl
theorem xDl (ρ:Operand→Value)(d:Option Tmp)(x y:Operand)(ty:TypeId)(pos:String)(af:Array Edge)(g:Option (Nat × Bool))(w:World) :
  Sem.run Tryz.prog (execOp ρ ⟨d,.store 86 x y,ty,pos,af,g⟩) w=ym Tryz.prog 86 w (ρ x) (ρ y):=rfl
theorem xX2 (w:World)(a:Addr)(h:xq w a 5=true):yx Tryz.prog 86 w (.pointer (some a))=.ok (.value (.agg (xp w a 5))) w :=
 yo Tryz.isAgg86 Tryz.sizeOf86 w a h
theorem xW1 (w:World)(g:Nat)(cells:Array Value)(h:xP w g 5=true)(h2:xy 5 cells=true) :
  ym Tryz.prog 86 w (.pointer (some ⟨g,0,none⟩)) (.agg cells)=.ok .skip (w.setRow g cells):=yr (by kernel_rfl) w g cells h h2
def xR (b:Nat)(v:Dev)(ev:Value):List Nat:=b :: (v.foot++ev.ownBlock.toList)
structure StAt (D:Nat)(w:World)(sb b:Nat)(v:Dev)(d:PD)(j:PJ)(ev:Value)(sy:Int)(x:Prt)(B T:Nat):Prop where
 blk:w.heap[sb]?=some (.cells #[.pointer (some ⟨b,0,none⟩),.pointer (some ⟨x.h.p,0,none⟩),.pointer (some ⟨x.s.p,0,none⟩),.pointer (some ⟨x.t.p,0,none⟩),.pointer (some ⟨x.ib,0,none⟩)] 86 (0,0))
 jat:JAt D w b v d j ev sy 0
 prt:vy B T w x
 tl:T≤w.heap.size
 sep:∀ k∈xR b v ev,k<B∨T≤k
 sbj:sb ∉ xR b v ev
 sbp:sb<B∨T≤sb
 sbD:D≤sb
 DB:D≤B
def StOk (D:Nat)(w:World)(sb p n u:Nat)(c:PC)(F:List Nat):Prop:=∃ b v d j ev sy x B T,StAt D w sb b v d j ev sy x B T∧v.p=p∧d.n=n∧d.pend=[]∧(j.secs sha).length=u∧j.entries.length≤1000+u∧x.pc=c∧F=sb :: xR b v ev
theorem StAt.kept {D:Nat}{w w':World}{sb b:Nat}{v:Dev}{d:PD}{j:PJ}{ev:Value}{sy:Int}{x:Prt}{B T:Nat}(h:StAt D w sb b v d j ev sy x B T){F:List Nat}(hk:Kept F w w')(hF:∀ k∈F,k≠sb∧k ∉ xR b v ev∧(k<B∨T≤k)):StAt D w' sb b v d j ev sy x B T:=by
 refine⟨(hk.block _ (i_ h.blk).1 (fun hm=>(hF _ hm).1 rfl)).trans h.blk,h.jat.kept hk (fun k hk'=>?_),h.prt.kept hk h.tl (fun k hk'=>(hF k hk').2.2),Nat.le_trans h.tl hk.size,h.sep,h.sbj,h.sbp,h.sbD,h.DB⟩
 have:=(hF k hk').2.1
 simp only[xR,List.mem_cons,List.mem_append,Option.mem_toList,not_or] at this
 exact⟨this.1,this.2.1,this.2.2⟩
theorem StAt.jlt {D:Nat}{w:World}{sb b:Nat}{v:Dev}{d:PD}{j:PJ}{ev:Value}{sy:Int}{x:Prt}{B T:Nat}(h:StAt D w sb b v d j ev sy x B T):∀ k∈xR b v ev,D≤k∧k<w.heap.size:=by
 intro k hk
 simp only[xR,List.mem_cons,List.mem_append,Option.mem_toList] at hk
 rcases hk with rfl | hk | hk
 ·exact⟨h.jat.bB,(i_ h.jat.blk).1⟩
 ·exact h.jat.dev.foot_lt k hk
 ·obtain⟨vs,ho⟩:=h.jat.ent
  exact World.ownsRow.lt ho k hk
theorem StAt.below {D:Nat}{w w':World}{sb b:Nat}{v:Dev}{d:PD}{j:PJ}{ev:Value}{sy:Int}{x:Prt}{B T:Nat}(h:StAt D w sb b v d j ev sy x B T)(hb:Below w.heap.size w w'):StAt D w' sb b v d j ev sy x B T:=h.kept (Kept.of_below (F:=[]) hb) (by simp)
theorem StOk.below {D:Nat}{w w':World}{sb p n u:Nat}{c:PC}{F:List Nat}(h:StOk D w sb p n u c F)(hb:Below w.heap.size w w'):StOk D w' sb p n u c F:=by
 obtain⟨b,v,d,j,ev,sy,x,B,T,h1,h2⟩:=h
 exact⟨b,v,d,j,ev,sy,x,B,T,h1.below hb,h2⟩
theorem StOk.flt {D:Nat}{w:World}{sb p n u:Nat}{c:PC}{F:List Nat}(h:StOk D w sb p n u c F):∀ k∈F,D≤k∧k<w.heap.size:=by
 obtain⟨b,v,d,j,ev,sy,x,B,T,h1,_,_,_,_,_,_,rfl⟩:=h
 intro k hk
 rcases List.mem_cons.1 hk with rfl | hk
 ·exact⟨h1.sbD,(i_ h1.blk).1⟩
 ·exact h1.jlt k hk
attribute [local go_sem ↓] qf uJ uK xFf xDl
attribute [local go_sem] xCi xCa xX2 xW1 zt zw yD yC xj xh xe xd xA xz xo xl xt xC xx
theorem xMx (ρ:Operand→Value)(d:Option Tmp)(x0 x1:Operand)(ty:TypeId)(pos:String)(af:Array Edge)(gd:Option (Nat × Bool))(w:World) :
  Sem.run Tryz.prog (execOp ρ ⟨d,.build 86 #[(0,x0),(1,x1)],ty,pos,af,gd⟩) w=uo Tryz.prog 86 w #[(0,ρ x0),(1,ρ x1)]:=by kernel_rfl
theorem yBb (w:World)(p:Option Addr)(a b c d:Value):uo Tryz.prog 86 w #[(0,.pointer p),(1,.agg #[a,b,c,d])]=.ok (.value (.agg #[.pointer p,a,b,c,d])) w:=uD (by kernel_rfl)
attribute [local go_sem ↓] xMx
attribute [local go_sem] yBb
def xIr (D:Nat)(v:Dev)(d:PD)(n:Nat)(w:World)(e:Ending)(w':World):Prop:=∃ sb,e=.returned (.tuple #[.pointer (some ⟨sb,0,none⟩),.int .i64 0])∧Below D w w'∧∃ F,StOk D w' sb v.p d.n 2 (kk n) F
theorem xK0 {D:Nat}{w:World}{v:Dev}{d:PD}{j:PJ}{n:Nat}(h:yj D w v d)(h64:64≤d.n)(hf:Fmt d j n)(hG:Gl w)(h1:1≤n)(h2:n≤1073741824)(hD:D≤w.heap.size)(hD0:Tryz.prog.globals.size≤D) :
  Calls Tryz.prog 6 #[.pointer (some ⟨v.p,0,none⟩)] w (xIr D v d n w):=by
 have HS:=h_ (yJ h)
 have HDN:=h_ (xDt h)
 rw[hf.up.1] at HDN
 have HC:=h_ (xQe h hf.pend)
 have hz:(64:Int)≤(d.n:Int):=by omega
 have H:=h_ h
 have HG:=h_ hG
 have HF:=h_ hf
 have H64:=h_ h64
 have HN:=h_ (And.intro h1 h2)
 have HD:=h_ (And.intro hD hD0)
 have HFL:=h_ h.foot_lt
 clear h h64 hf hG h1 h2 hD hD0
 go_enter Tryz.func6,Tryz.ntmps6
 go_wp2_with fail
 refine HS.out.mono ?_
 rintro e w' ⟨rfl,rfl⟩
 go_wp2_with fail
 refine HDN.out.mono ?_
 rintro e w' ⟨rfl,rfl⟩
 go_wp2_with fail
 refine HC.out.mono ?_
 rintro e w1 ⟨hb1,c,rfl,hc1⟩
 have HB1:=h_ hb1
 have HSL:=h_ (xBx hc1)
 have HCP:=h_ (And.intro hc1.pB (hc1.foot_lt _ c.p_foot).2)
 clear hb1 hc1 HC
 go_wp2_with fail
 refine HSL.out.mono ?_
 rintro e w2 ⟨rfl,hk2,hc2⟩
 have he:({ d with lim:=none }:PD)=d:=by rw[←HF.out.up.2]
 rw[he] at hc2
 have hb2:Below w.heap.size w w2:=HB1.out.trans (hk2.below HB1.out.size (fun k hk=>by rw[List.mem_singleton.1 hk];exact HCP.out.1))
 have HB2:=h_ hb2
 have HS2:=h_ (yJ hc2)
 have hen:j.entries.length=1:=by rw[HF.out.ents];rfl
 have HO2:=h_ (xHs hc2 HF.out.up (qZ (HG.out.later hb2)) j HF.out.inv (by have:=HF.out.gen;omega) HF.out.pend hb2.size (by omega) (Nat.lt_of_lt_of_le xAv HG.out.size) (by have:=H64.out;omega))
 have HCF:=h_ hc2.foot_lt
 clear hk2 hc2 hb2 he hen HSL
 go_wp2_with fail
 refine HS2.out.mono ?_
 rintro e w' ⟨rfl,rfl⟩
 go_wp2_with fail
 refine HO2.out.mono ?_
 rintro e w3 ⟨b3,v3,ev3,entv,l,rfl,hk3,hj3,hb3,_,_,_,_,hje,hl3⟩
 have hb03:Below w.heap.size w w3:=HB2.out.trans (hk3.below HB2.out.size (fun k hk=>(HCF.out k hk).1))
 have hl:l.map (fun x=>x.2.1)=[3 :: uy n]:=hl3.trans HF.out.ents
 have HB3:=h_ hb03
 have HR:=h_ (xOk n HN.out.1 HN.out.2 (HG.out.later hb03) entv l w2.heap.size hje hl hk3.size)
 clear hk3 hj3 hb3 hje hl3 hb03 hl HO2
 go_wp2_with fail
 refine HR.out.mono ?_
 rintro e w4 ⟨x,rfl,hb4,hat,hpc,hgs⟩
 have hcs:xW x=#[.pointer (some ⟨x.h.p,0,none⟩),.pointer (some ⟨x.s.p,0,none⟩),.pointer (some ⟨x.t.p,0,none⟩),.pointer (some ⟨x.ib,0,none⟩)]:=rfl
 rw[hcs]
 have hz4:(yS.size == 4)=true:=rfl
 have hft:xy 4 #[Value.pointer (some ⟨x.h.p,0,none⟩),.pointer (some ⟨x.s.p,0,none⟩),.pointer (some ⟨x.t.p,0,none⟩),.pointer (some ⟨x.ib,0,none⟩)]=true:=qo _ _ _ _ rfl rfl rfl rfl
 obtain⟨w5,hw5⟩:∃ w5,w5=w4.alloc (.cells #[.pointer (some ⟨x.h.p,0,none⟩),.pointer (some ⟨x.s.p,0,none⟩),.pointer (some ⟨x.t.p,0,none⟩),.pointer (some ⟨x.ib,0,none⟩)] 82):=⟨_,rfl⟩
 have hb45:Below w4.heap.size w4 w5:=by rw[hw5];exact b_ _ _
 have hn5:w5.heap[w4.heap.size]?=some (.cells #[.pointer (some ⟨x.h.p,0,none⟩),.pointer (some ⟨x.s.p,0,none⟩),.pointer (some ⟨x.t.p,0,none⟩),.pointer (some ⟨x.ib,0,none⟩)] 82 (0,0)):=by rw[hw5];exact heap_alloc_new w4 _
 have hb04:Below w.heap.size w w4:=HB3.out.trans (hb4.mono HB3.out.size)
 have hb05:Below w.heap.size w w5:=hb04.trans (hb45.mono hb04.size)
 have hx5:vy w3.heap.size w4.heap.size w5 x:=hat.in.below hb45 (Nat.le_refl _)
 have hd5:=H.out.below hb05
 have hen:j.entries.length=1:=by rw[HF.out.ents];rfl
 have HB5:=h_ hb05
 have HX5:=h_ hx5
 have HN5:=h_ hn5
 have HPC:=h_ hpc
 have HL:=h_ (And.intro hb4.size (And.intro hb45.size HB3.out.size))
 have HL5:Hid (w4.heap.size<w5.heap.size):=h_ (i_ hn5).1
 have HS5:=h_ (yJ hd5)
 have HO5:=h_ (xHs hd5 HF.out.up (qZ (HG.out.later hb05)) j HF.out.inv (by have:=HF.out.gen;omega) HF.out.pend (Nat.le_trans HD.out.1 hb05.size) (by omega) (Nat.lt_of_lt_of_le xAv HD.out.2) (by have:=H64.out;omega))
 clear hb4 hat hpc hgs hcs hb45 hn5 hb04 hb05 hx5 hd5 hen HR
 go_upto_region 13 with fail
 refine xu hw5 ?_
 clear hw5
 go_wp2_with fail
 refine HS5.out.mono ?_
 rintro e w' ⟨rfl,rfl⟩
 go_wp2_with fail
 refine HO5.out.mono ?_
 rintro e w6 ⟨b6,v6,ev6,entv6,l6,rfl,hk6,hj6,hb6,hv6,hM6,hf6,hev6,_,hl6⟩
 have hn6:=(hk6.block _ (i_ HN5.out).1 (fun hm=>by have h9:=(HFL.out _ hm).2;have:=HL.out.1;have:=HL.out.2.2;omega)).trans HN5.out
 obtain⟨o6,r6⟩:=xI (n:=4) hn6 rfl
 obtain⟨w7,hw7⟩:∃ w7,w7=w6.alloc (.cells #[.pointer (some ⟨b6,0,none⟩),.pointer (some ⟨x.h.p,0,none⟩),.pointer (some ⟨x.s.p,0,none⟩),.pointer (some ⟨x.t.p,0,none⟩),.pointer (some ⟨x.ib,0,none⟩)] 86):=⟨_,rfl⟩
 have hb7:Below w6.heap.size w6 w7:=by rw[hw7];exact b_ _ _
 have hn7:w7.heap[w6.heap.size]?=some (.cells #[.pointer (some ⟨b6,0,none⟩),.pointer (some ⟨x.h.p,0,none⟩),.pointer (some ⟨x.s.p,0,none⟩),.pointer (some ⟨x.t.p,0,none⟩),.pointer (some ⟨x.ib,0,none⟩)] 86 (0,0)):=by rw[hw7];exact heap_alloc_new w6 _
 have hfin:xIr D v d n w (.returned (.tuple #[.pointer (some ⟨w6.heap.size,0,none⟩),.int .i64 0])) w7:=by
  obtain⟨l1,l2,l3⟩:=HL.out
  have l5:=HL5.out
  have l6':w5.heap.size≤w6.heap.size:=hk6.size
  have hBD:Below D w w6:=(HB5.out.mono HD.out.1).trans (hk6.below (Nat.le_trans HD.out.1 HB5.out.size) (fun k hk=>(HFL.out k hk).1))
  have hjf:∀ k∈xR b6 v6 ev6,k<w3.heap.size∨w4.heap.size≤k:=by
   intro k hk
   simp only[xR,List.mem_cons,List.mem_append,Option.mem_toList] at hk
   rcases hk with rfl | hk | hk
   ·exact .inr (by omega)
   ·rcases hf6 k hk with h | h
    ·exact .inl (by have:=(HFL.out k h).2;omega)
    ·exact .inr (by omega)
   ·exact .inr (by have:=hev6 k hk;omega)
  obtain⟨_,_,_,u4,_⟩:=JInv.reopen sha yV HF.out.inv HF.out.up (by have:=HF.out.gen;omega)
  obtain⟨J,hJ⟩:∃ J,J=jd sha d.n d j:=⟨_,rfl⟩
  have hJa:1-j.area=J.area:=by rw[hJ];rfl
  have hJe:J.entries=[3 :: uy n]:=by rw[hJ];exact HF.out.ents
  rw[hJa,←hJ] at u4
  rw[←hJ] at hj6
  obtain⟨d2,hd2⟩:∃ d2,d2=(d.puts (J.area*(d.n / 2)) (J.secs sha)).1.flushed:=⟨_,rfl⟩
  obtain⟨sy,hsy⟩:∃ sy,sy=(J.first:Int)+J.entries.length:=⟨_,rfl⟩
  rw[←hd2,←hsy] at hj6
  have hn2:d2.n=d.n:=by rw[hd2];exact u4
  have hp2:d2.pend=[]:=by rw[hd2];rfl
  have hst6:StAt D w7 w6.heap.size b6 v6 d2 J ev6 sy x w3.heap.size w4.heap.size:=by
   refine⟨hn7,hj6.below hb7,(HX5.out.kept hk6 (by omega) (fun k hk=>.inl (by have:=(HFL.out k hk).2;omega))).below hb7 (by omega),by have:=hb7.size;omega,hjf,fun hm=>?_,.inr (by omega),by have:=hBD.size;have:=HD.out.1;omega,by have:=HD.out.1;omega⟩
   simp only[xR,List.mem_cons,List.mem_append,Option.mem_toList] at hm
   rcases hm with h | h | h
   ·have:=(i_ hj6.blk).1;omega
   ·have:=(hj6.dev.foot_lt _ h).2;omega
   ·obtain⟨vs,ho⟩:=hj6.ent
    have:=(World.ownsRow.lt ho _ h).2;omega
  refine⟨_,rfl,hBD.trans (hb7.mono (Nat.le_trans HD.out.1 hBD.size)),_,b6,v6,d2,J,ev6,sy,x,_,_,hst6,hv6,hn2,hp2,?_,?_,HPC.out,rfl⟩
  ·rw[zo,hJe]
   show 1+(xY (3 :: uy n).length+0)=2
   rw[List.length_cons,yA,xG2]
  ·rw[hJe];simp
 have HFIN:=h_ hfin
 clear hk6 hj6 hb6 hv6 hM6 hf6 hev6 hl6 hn6 hb7 hn7 hfin HO5
 go_upto_region 18 with fail
 go_wp2
 rw[←hw7]
 go_ret2
 exact HFIN.out
end
section
attribute [local go_sem ↓] qP qp qt
attribute [local go_sem] xEg xE3 zt zw yD yC xj xh xe xd xA xz xo xl xt xC xx
theorem xMa {w:World}(ob:Nat)(s:By)(hs:s.length≤1000)(h:w.heap[ob]?=some (.cells #[.string (str s)] 112 (0,0))) :
  Calls Tryz.prog 363 #[.pointer (some ⟨ob,0,none⟩)] w fun e w'=>Below w.heap.size w w'∧∃ u,e=.returned u∧OwnB w' w.heap.size u ([4]++(beB 4 s.length++s)):=by
 obtain⟨b,hb⟩:∃ b,b=w.heap.size:=⟨_,rfl⟩
 obtain⟨w1,hw1⟩:∃ w1,w1=w.alloc (.cells #[.slice none 0 0] 156):=⟨_,rfl⟩
 have hb1:Below b w w1:=by rw[hw1,hb];exact b_ _ _
 have hw1a:WrAt b w1 b []:=⟨Nat.le_refl _,_,by rw[hw1,hb];exact heap_alloc_new w _,OwnB.nil _ _⟩
 have HW:=h_ (kp hw1a 4 (by simp))
 have HB1:=h_ hb1
 have HO:=h_ h
 have HS:=h_ hs
 have HBD:=h_ hb
 have HOL:Hid (ob<b):=h_ (by rw[hb];exact(i_ h).1)
 rw[←hb]
 clear h hs hb1 hw1a
 have hu8:((4:UInt8).toNat:Int)=4:=rfl
 have hs1:(#[Value.slice none 0 0].size == 1)=true:=rfl
 have hf1:xy 1 #[Value.slice none 0 0]=true:=by simp[xy,Value.oneCell']
 rw[hu8] at HW
 go_enter Tryz.func363,Tryz.ntmps363
 go_upto_region 2 with fail
 refine xu hw1 ?_
 rw[←hb]
 clear hw1 hb
 go_wp2_with fail
 refine HW.out.mono ?_
 rintro e w2 ⟨rfl,hb2,hw2⟩
 have HB2:=h_ (HB1.out.trans hb2)
 have ho2:=(HB2.out.block ob HOL.out).trans HO.out
 have c2:=cell_of_row w2 ob 0 _ _ _ ho2
 simp only[v_] at c2
 have HT:=h_ (ql hw2 s (by have:=HS.out;omega) (by simp))
 clear hb2 hw2 ho2 HW
 go_wp2_with fail
 refine HT.out.mono ?_
 rintro e w3 ⟨rfl,hb3,hB3,v,hr,ho⟩
 have hall:([]:By)++[4]++beB 4 s.length++s=[4]++(beB 4 s.length++s):=by simp
 rw[hall] at ho
 have c3:=cell_of_row w3 b 0 _ _ _ hr
 simp only[v_] at c3
 have HF:=h_ (And.intro (HB2.out.trans hb3) ho)
 clear hb3 hB3 hr ho hall HT c2
 go_wp2
 go_ret
 exact⟨HF.out.1,v,rfl,HF.out.2⟩
def xBq (b nb:Nat)(c:PC)(w:World)(e:Ending)(w':World):Prop:=e=.returned (.int .i64 0)∧Below b w w'∧∃ x',zC b w' x'∧x'.pc=c∧w'.heap[nb]?=some (.cells (xW x') 82 (0,0))
theorem qj.lt {b c1 c2 c3:Nat}{w:World}{x:Prt}(h:qj b c1 c2 c3 w x):b≤w.heap.size:=Nat.le_trans h.h.pB (Nat.le_of_lt h.h.lt.1)
theorem st_ne {w:World}{nb:Nat}{cs:Array Value}{fz:Nat × Nat}(h:w.heap[nb]?=some (.cells cs 82 fz)){M:Nat}{es:Array MapEntry}{c:Nat}(hm:w.heap[M]?=some (.map es c)):nb≠M:=fun e=>by rw[e,hm] at h;cases h
theorem xOt {b c1 c2 c3:Nat}{w:World}{x:Prt}(h:qj b c1 c2 c3 w x)(ht:x.t.g=none)(nb:Nat)(hn:w.heap[nb]?=some (.cells (xW x) 82 (0,0)))(hG:Gl w)(ob:Nat)(k:ByteArray)(hk:k.size≤maxLen)(hne:zV k=0)(ho:w.heap[ob]?=some (.cells #[.string k] 112 (0,0))) :
  Calls Tryz.prog 362 #[.pointer (some ⟨ob,0,none⟩),.pointer (some ⟨nb,0,none⟩)] w (xBq b nb { x.pc with tc:=some (k,0,false) } w):=by
 have hbd:Below w.heap.size w w.drew:=(Below.refl _ _).drew
 have HC:=h_ (xVe (h.t.below hbd) ht k (hG.later hbd) hk hne)
 have c2':=cell_of_row w nb 2 _ _ _ hn
 have o0:=cell_of_row w ob 0 _ _ _ ho
 simp only[xW,v_] at c2' o0
 have z0:∀ z:xf w,z.1.cell? ⟨nb,2,none⟩=some (.pointer (some ⟨x.t.p,0,none⟩)):=fun z=>z.cell c2'
 have z1:∀ z:xf w,z.1.cell? ⟨ob,0,none⟩=some (.string k):=fun z=>z.cell o0
 have H:=h_ h
 have HN:=h_ hn
 clear h ht hn hG hk hne ho hbd c2' o0
 go_enter Tryz.func362,Tryz.ntmps362
 go_upto_region 1 with fail
 refine xw [0,1,2,3,4,5,6,7] [8,9] (fun w'=>∃ z:xf w,w'=z.1) (by kernel_rfl) (by kernel_rfl) (by kernel_rfl) ⟨⟨w.drew,(Below.refl _ _).drew⟩,rfl⟩ ?_
 simp only[o_]
 repeat (go_big_quiet_step (fail))
 refine wpQuiet_nil ?_
 clear z0 z1
 refine xG [8,9] _ _ (by kernel_rfl) ?_
 simp only[o_]
 go_wp2_with fail
 refine HC.out.mono ?_
 rintro e w1 ⟨rfl,hk1,g,mc,hg1,hg2,hg3,hat⟩
 have hbd:Below w.heap.size w w.drew:=(Below.refl _ _).drew
 have hk01:Kept [x.t.M] w w1:=(Kept.of_below (F:=[x.t.M]) hbd).trans hk1 (fun q hq=>.inl hq)
 have hMb:=H.out.t.MB
 have hMl:x.t.M<c3:=H.out.tl _ (by simp[Tbl.foot])
 have e1:=H.out.b1
 have e2:=H.out.b2
 have e3:=H.out.b3
 have hF:Hid (xBq b nb { x.pc with tc:=some (k,0,false) } w (.returned (.int .i64 0)) w1):=h_ (by
  refine⟨rfl,hk01.below H.out.lt (fun q hq=>by rw[List.mem_singleton.1 hq];omega),{ x with t:=⟨x.t.p,x.t.M,mc,some g⟩ },⟨?_,?_,hat.base (by omega),?_⟩,?_,?_⟩
  ·exact H.out.h.kept hk01 (fun q hq hm=>by have:=H.out.hl q hq;rw[List.mem_singleton.1 hm] at this;omega)
  ·exact(H.out.s.kept hk01 (fun q hq hm=>by have:=H.out.sl q hq;rw[List.mem_singleton.1 hm] at this;omega)).base e1
  ·exact(H.out.o.kept hk01 (fun q hq=>by rw[List.mem_singleton.1 hq];exact hMl)).base (by omega)
  ·unfold Prt.pc Tbl.c
   simp only[Option.map_some,hg1,hg2,hg3]
   rfl
  ·exact(hk01.block _ (i_ HN.out).1 (fun hm=>st_ne HN.out H.out.t.map (List.mem_singleton.1 hm))).trans HN.out)
 clear hk1 hg1 hg2 hg3 hat hbd hk01 hMb hMl e1 e2 e3 HC
 go_wp2
 refine NoPanic.normal ?_
 go_wp2
 go_ret
 exact hF.out
end
section
def xIv (B0 b nb:Nat)(c:PC)(Ap:World→Prop)(w:World)(e:Ending)(w':World):Prop:=e=.returned (.int .i64 0)∧Below B0 w w'∧(∃ x',zC b w' x'∧x'.pc=c∧w'.heap[nb]?=some (.cells (xW x') 82 (0,0)))∧Ap w'
def kD (D sb p n u:Nat)(w0:World)(c:PC)(F:List Nat)(Ap:World→Prop)(w:World)(e:Ending)(w':World):Prop:=e=.returned (.int .i64 0)∧Below D w w'∧Kept F w0 w'∧∃ W,Ap W∧w0.heap.size≤W.heap.size∧(∃ F',StOk D w' sb p n u c F'∧∀ k∈F',k∈F∨W.heap.size≤k)∧W.heap.size≤w'.heap.size∧∀ k,w0.heap.size≤k→k<W.heap.size→w'.heap[k]?=W.heap[k]?
theorem xRi {w:World}{g:Nat}{z a b c d:Value}{t:TypeId}(h:w.heap[g]?=some (.cells #[z,a,b,c,d] t (0,0))):xq w ⟨g,1,none⟩ 4=true∧xp w ⟨g,1,none⟩ 4=#[a,b,c,d] :=
 y7 (w:=w) (a:=⟨g,1,none⟩) (cs:=[a,b,c,d]) (fun j u hj=>by
  rw[Addr.add_lit,cell_of_row w g (1+j) _ _ _ h,List.getElem?_toArray,Nat.add_comm 1 j,List.getElem?_cons_succ]
  exact hj)
theorem xR0 (w:World)(g:Nat)(z a b c d a' b' c' d':Value)(t:TypeId)(h:w.heap[g]?=some (.cells #[z,a,b,c,d] t (0,0)))(ha:a'.oneCell'=true)(hb:b'.oneCell'=true)(hc:c'.oneCell'=true)(hd:d'.oneCell'=true) :
  ym Tryz.prog 82 w (.pointer (some ⟨g,1,none⟩)) (.agg #[a',b',c',d'])=.ok .skip (w.setRow g #[z,a',b',c',d']) :=
 jr Tryz.sizeOf82 w g 1 [z,a,b,c,d] t h [a',b',c',d'] rfl (by simp) (fun v hv=>by
  simp only[List.mem_cons,List.not_mem_nil,or_false] at hv
  rcases hv with rfl | rfl | rfl | rfl <;> assumption)
attribute [local go_sem ↓] qf uJ uK xFf xDl
attribute [local go_sem] xCi xCa xX2 xW1 zt zw yD yC xj xh xe xd xA xz xo xl xt xC xx
theorem kH {D:Nat}{w:World}{sb b:Nat}{v:Dev}{d:PD}{j:PJ}{ev:Value}{sy:Int}{x:Prt}{B T:Nat}(h:StAt D w sb b v d j ev sy x B T):Calls Tryz.prog 25 #[.pointer (some ⟨sb,0,none⟩)] w fun e w'=>e=.returned (.int .i64 0)∧w=w':=by
 have c0:=cell_of_row w sb 0 _ _ _ h.blk
 simp only[v_] at c0
 have HF:=h_ (xAt h.jat.blk)
 clear h
 go_enter Tryz.func25,Tryz.ntmps25
 go_wp2_with fail
 refine HF.out.mono ?_
 rintro e w' ⟨rfl,rfl⟩
 go_wp2
 go_ret
 exact⟨rfl,rfl⟩
theorem jh (w:World):Calls Tryz.prog 25 #[.pointer none] w fun e w'=>e=.returned (.int .i64 1)∧w=w':=by
 go_enter Tryz.func25,Tryz.ntmps25
 go_wp2
 go_ret
 exact⟨rfl,rfl⟩
theorem xM6 {D sb p n u:Nat}{c:PC}{F:List Nat}{w0 w:World}(h:StOk D w0 sb p n u c F)(hb0:Below w0.heap.size w0 w)(hG:Gl w)(hD0:Tryz.prog.globals.size≤D)(hD:D≤w0.heap.size)(ob:Nat)(c':PC)(y:By)(Ap:World→Prop)(hy1:1≤y.length)(hy2:y.length≤50000)(hfree:u+xY (y.length+1)≤n / 2)
  (hap:∀ (W:World) (b c1 c2 c3:Nat) (x:Prt) (nb:Nat),Below w.heap.size w W→w.heap.size≤b→qj b c1 c2 c3 W x→(∀ k,k∈x.h.foot∨k∈x.s.foot∨k∈x.t.foot∨k∈foot x.ib x.M x.gs→k<nb)→x.pc=c→W.heap[nb]?=some (.cells (xW x) 82 (0,0))→Calls Tryz.prog 362 #[.pointer (some ⟨ob,0,none⟩),.pointer (some ⟨nb,0,none⟩)] W (xIv w0.heap.size b nb c' Ap W))
  (hen:∀ W W':World,Ap W→Below W.heap.size W W'→Calls Tryz.prog 363 #[.pointer (some ⟨ob,0,none⟩)] W' fun e w'=>Below W'.heap.size W' w'∧∃ v,e=.returned v∧OwnB w' W'.heap.size v y) :
  Calls Tryz.prog 39 #[.pointer (some ⟨sb,0,none⟩),.iface 110 (.pointer (some ⟨ob,0,none⟩))] w (kD D sb p n (u+xY (y.length+1)) w0 c' F Ap w):=by
 obtain⟨b,v,d,j,ev,sy,x,B,T,hst0,hp,hn,hpend,hu,hel,hpc,rfl⟩:=h
 have hst:=hst0.below hb0
 have HFA:=h_ (kH hst)
 have hxw:=hst.prt.at
 have HCL:=h_ (xAg hxw)
 obtain⟨ok1,rd1⟩:=xRi hst.blk
 have HS0:=h_ hst0
 have HST:=h_ hst
 have HB0:=h_ hb0
 have HG:=h_ hG
 have HD:=h_ (And.intro hD0 hD)
 have HY:=h_ (And.intro hy1 (And.intro hy2 hfree))
 have HAPP:=h_ hap
 have HENC:=h_ hen
 have HX:=h_ (And.intro hp (And.intro hn (And.intro hpend (And.intro hu (And.intro hel hpc)))))
 have HSB:Hid (sb<w0.heap.size):=h_ (i_ hst0.blk).1
 have HJL:Hid (∀ k∈xR b v ev,D≤k∧k<w0.heap.size):=h_ hst0.jlt
 have hcs:xW x=#[.pointer (some ⟨x.h.p,0,none⟩),.pointer (some ⟨x.s.p,0,none⟩),.pointer (some ⟨x.t.p,0,none⟩),.pointer (some ⟨x.ib,0,none⟩)]:=rfl
 rw[hcs] at HCL
 have hz4:(yS.size == 4)=true:=rfl
 clear hst0 hb0 hG hD0 hD hy1 hy2 hfree hap hen hp hn hpend hu hel hpc hst hxw hcs
 go_enter Tryz.func39,Tryz.ntmps39
 go_wp2_with fail
 refine HFA.out.mono ?_
 rintro e w' ⟨rfl,rfl⟩
 go_wp2_with fail
 refine HCL.out.mono ?_
 rintro e w1 ⟨hb1,x1,c1,c2,c3,rfl,hsep,hpc1⟩
 have hcs:xW x1=#[.pointer (some ⟨x1.h.p,0,none⟩),.pointer (some ⟨x1.s.p,0,none⟩),.pointer (some ⟨x1.t.p,0,none⟩),.pointer (some ⟨x1.ib,0,none⟩)]:=rfl
 have hft:xy 4 #[Value.pointer (some ⟨x1.h.p,0,none⟩),.pointer (some ⟨x1.s.p,0,none⟩),.pointer (some ⟨x1.t.p,0,none⟩),.pointer (some ⟨x1.ib,0,none⟩)]=true:=qo _ _ _ _ rfl rfl rfl rfl
 rw[hcs]
 obtain⟨w2,hw2⟩:∃ w2,w2=w1.alloc (.cells #[.pointer (some ⟨x1.h.p,0,none⟩),.pointer (some ⟨x1.s.p,0,none⟩),.pointer (some ⟨x1.t.p,0,none⟩),.pointer (some ⟨x1.ib,0,none⟩)] 82):=⟨_,rfl⟩
 have hb12:Below w1.heap.size w1 w2:=by rw[hw2];exact b_ _ _
 have hn2:w2.heap[w1.heap.size]?=some (.cells (xW x1) 82 (0,0)):=by rw[hw2];exact heap_alloc_new w1 _
 have hb02:=hb1.trans (hb12.mono hb1.size)
 have HB02:=h_ hb02
 have HL1:Hid (w.heap.size≤w1.heap.size):=h_ hb1.size
 have HN2:Hid (w1.heap.size<w2.heap.size):=h_ (i_ hn2).1
 have HA:=h_ (HAPP.out w2 w.heap.size c1 c2 c3 x1 w1.heap.size hb02 (Nat.le_refl _) (hsep.below hb12) hsep.feet (hpc1.trans HX.out.2.2.2.2.2) hn2)
 clear hb1 hsep hpc1 hcs hb12 hn2 hb02 HCL ok1 rd1
 go_upto_region 5 with fail
 refine xu hw2 ?_
 clear hw2
 go_wp2_with fail
 refine HA.out.mono ?_
 rintro e w3 ⟨rfl,hb3,⟨x3,hx3,hpc3,hn3⟩,hap3⟩
 have hw00:w0.heap.size≤w.heap.size:=HB0.out.size
 have hb003:Below w0.heap.size w0 w3:=HB0.out.trans ((HB02.out.mono hw00).trans hb3)
 have hst3:StAt D w3 sb b v d j ev sy x B T:=HS0.out.below hb003
 have c3':=cell_of_row w3 sb 0 _ _ _ hst3.blk
 simp only[v_] at c3'
 have z0:∀ z:xf w3,z.1.cell? ⟨sb,0,none⟩=some (.pointer (some ⟨b,0,none⟩)):=fun z=>z.cell c3'
 have hbd:Below w3.heap.size w3 w3.drew:=(Below.refl _ _).drew
 have HEN:=h_ (HENC.out w3 w3.drew hap3 hbd)
 have HB3:=h_ hb003
 have HX3:=h_ (And.intro hx3 (And.intro hpc3 (And.intro hn3 hap3)))
 have HST3:=h_ hst3
 have HL23:Hid (w2.heap.size≤w3.heap.size):=h_ hb3.size
 have HB23:=h_ hb3
 clear hb3 hx3 hpc3 hn3 hap3 hw00 hb003 hst3 c3' hbd HA
 go_upto_region 8 with fail
 refine xw [0,1,2,3,4] [5,6,7] (fun w'=>∃ z:xf w3,w'=z.1) (by kernel_rfl) (by kernel_rfl) (by kernel_rfl) ⟨⟨w3.drew,(Below.refl _ _).drew⟩,rfl⟩ ?_
 simp only[o_]
 repeat (go_big_quiet_step (fail))
 refine wpQuiet_nil ?_
 clear z0
 refine yz true (by kernel_rfl) (by kernel_rfl) ?_
 simp only[o_]
 go_wp2_with fail
 refine HEN.out.mono ?_
 rintro e w4 ⟨hb4,yv,rfl,hown⟩
 obtain⟨yg,yc,hyv,hyc,hyg,hys⟩:∃ g cap,yv=.slice (some ⟨g,0,none⟩) y.length cap∧y.length≤cap∧g<w4.heap.size∧SlB w4 ⟨g,0,none⟩ y:=by
  rcases hown.at with⟨_,h⟩ | ⟨g,cap,h1,h2,h3,h4,h5⟩
  ·have:=HY.out.1;rw[h] at this;exact absurd this (by simp)
  ·exact⟨g,cap,h1,h3,(hown.lt (k:=g) (by rw[h1];rfl)).2,h5⟩
 subst hyv
 have hb34:Below w3.heap.size w3 w4:=⟨hb4.os,hb4.tape,hb4.output,hb4.size,hb4.block⟩
 have hb004:Below w0.heap.size w0 w4:=HB3.out.trans (hb34.mono HB3.out.size)
 have hst4:=HST3.out.below hb34
 have hj4:=hst4.jat
 have hD0w:D≤w.heap.size:=Nat.le_trans HD.out.2 HB0.out.size
 have hBD4:Below D w w4:=((HB02.out.mono hD0w).trans (HB23.out.mono HD.out.2)).trans (hb34.mono (Nat.le_trans HD.out.2 HB3.out.size))
 have hyl:=HY.out.1
 have HBD4:=h_ hBD4
 have HW:=h_ (jN hj4 (qZ (HG.out.below hBD4 HD.out.1)) y ⟨yg,0,none⟩ yc hys hyg hyc hyl (by have:=HY.out.2.1;omega) (by rw[HX.out.2.2.2.1,HX.out.2.1];exact HY.out.2.2) (by rw[HX.out.2.2.1];have h1:=HY.out.2.2;have h2:=hj4.dev.n2;rw[HX.out.2.1] at h2;simp;omega) (by have h1:=HX.out.2.2.2.2.1;have h3:=HY.out.2.2;have h2:=hj4.dev.n2;rw[HX.out.2.1] at h2;omega) (Nat.le_trans HD.out.2 hb004.size))
 have HB34:=h_ hb34
 have HB04:=h_ hb004
 have HST4:=h_ hst4
 have HL34:Hid (w3.heap.size≤w4.heap.size):=h_ hb34.size
 go_wp2
 refine⟨fun _=>⟨⟨w4,hb34⟩,rfl⟩,xG [6,7] _ _ (by kernel_rfl) ?_⟩
 simp only[o_]
 clear hb4 hown hyc hyg hys hb34 hb004 hst4 hj4 hD0w hBD4 hyl HEN
 go_wp2_with fail
 refine HW.out.mono ?_
 rintro e w5 ⟨rfl,hk5,v5,ev5,hv5,hM5,hj5,hf5,hev5⟩
 obtain⟨d5,hd5⟩:∃ d5,d5=(d.puts (j.area*(d.n / 2)+(j.secs sha).length) (yf sha (j.body (3 :: y)))).1:=⟨_,rfl⟩
 rw[←hd5] at hj5
 have hsb5:=(hk5.block sb (by have:=HSB.out;have:=HB3.out.size;have:=HL34.out;omega) (fun hm=>HST4.out.sbj hm)).trans HST4.out.blk
 have c5:=cell_of_row w5 sb 0 _ _ _ hsb5
 simp only[v_] at c5
 have hele:(j.add (3 :: y)).entries.length=j.entries.length+1:=by simp[PJ.add]
 have HSY:=h_ (xBg hj5 (by rw[hele];have h1:=HX.out.2.2.2.2.1;have h3:=HY.out.2.2;have h2:=HST4.out.jat.dev.n2;rw[HX.out.2.1] at h2;omega))
 have HD5:=h_ hd5
 have HK5:=h_ hk5
 have HJ5:=h_ (And.intro hv5 (And.intro hM5 (And.intro hf5 hev5)))
 have HSB5:=h_ hsb5
 have HELE:=h_ hele
 clear hk5 hv5 hM5 hj5 hf5 hev5 hd5 hsb5 hele HW
 go_wp2
 refine NoPanic.normal ?_
 go_wp2_with fail
 refine HSY.out.mono ?_
 rintro e w6 ⟨rfl,hk6,v6,sy6,hv6,hM6,hj6,hf6⟩
 obtain⟨cs,hcs⟩:∃ cs,cs=xW x3:=⟨_,rfl⟩
 have hwb:w0.heap.size≤w.heap.size:=HB0.out.size
 have hl1:=HL1.out
 have hl2:=HN2.out
 have hl3:=HL23.out
 have hl4:=HL34.out
 have hl5:w4.heap.size≤w5.heap.size:=HK5.out.size
 have hl6:w5.heap.size≤w6.heap.size:=hk6.size
 have hf5':∀ k∈v5.foot,k<w0.heap.size∨w4.heap.size≤k:=fun k hk=>by
  rcases HJ5.out.2.2.1 k hk with h | h
  ·exact .inl (HJL.out k (by simp[xR,h])).2
  ·exact .inr h
 have hbl:b<w0.heap.size:=(HJL.out b (by simp[xR])).2
 have hF5:∀ k∈b :: (v.foot++ev.ownBlock.toList),k<w0.heap.size:=fun k hk=>(HJL.out k hk).2
 have hF6:∀ k∈b :: v5.foot,k<w0.heap.size∨w4.heap.size≤k:=fun k hk=>by
  rcases List.mem_cons.1 hk with rfl | hk
  ·exact .inl hbl
  ·exact hf5' k hk
 have hkeep:∀ k,w0.heap.size≤k→k<w3.heap.size→w6.heap[k]?=w3.heap[k]?:=fun k h1 h2=>by
  rw[hk6.block k (by omega) (fun hm=>by rcases hF6 k hm with h | h <;> omega),HK5.out.block k (by omega) (fun hm=>by have:=hF5 k hm;omega),HB34.out.block k h2]
 have hn6:w6.heap[w1.heap.size]?=some (.cells cs 82 (0,0)):=by rw[hkeep _ (by omega) (by omega),hcs];exact HX3.out.2.2.1
 have hsb6:=(hk6.block sb (by have:=HSB.out;omega) (fun hm=>by
  rcases List.mem_cons.1 hm with h | h
  ·exact HST4.out.sbj (by simp[xR,h])
  ·rcases HJ5.out.2.2.1 sb h with h | h
   ·exact HST4.out.sbj (by simp[xR,h])
   ·have:=HSB.out;omega)).trans HSB5.out
 have hcs4:cs=#[.pointer (some ⟨x3.h.p,0,none⟩),.pointer (some ⟨x3.s.p,0,none⟩),.pointer (some ⟨x3.t.p,0,none⟩),.pointer (some ⟨x3.ib,0,none⟩)]:=hcs
 rw[hcs4] at hn6
 obtain⟨o6,r6⟩:=xI (n:=4) hn6 rfl
 have hst:=xR0 w6 sb _ _ _ _ _ _ _ _ _ _ hsb6 (rfl:(Value.pointer (some ⟨x3.h.p,0,none⟩)).oneCell'=true) (rfl:(Value.pointer (some ⟨x3.s.p,0,none⟩)).oneCell'=true) (rfl:(Value.pointer (some ⟨x3.t.p,0,none⟩)).oneCell'=true) (rfl:(Value.pointer (some ⟨x3.ib,0,none⟩)).oneCell'=true)
 obtain⟨w7,hw7⟩:∃ w7,w7=w6.setRow sb #[.pointer (some ⟨b,0,none⟩),.pointer (some ⟨x3.h.p,0,none⟩),.pointer (some ⟨x3.s.p,0,none⟩),.pointer (some ⟨x3.t.p,0,none⟩),.pointer (some ⟨x3.ib,0,none⟩)]:=⟨_,rfl⟩
 rw[←hw7] at hst
 have hk67:Kept [sb] w6 w7:=by rw[hw7];exact qd w6 sb _
 have hn7:w7.heap[sb]?=some (.cells #[.pointer (some ⟨b,0,none⟩),.pointer (some ⟨x3.h.p,0,none⟩),.pointer (some ⟨x3.s.p,0,none⟩),.pointer (some ⟨x3.t.p,0,none⟩),.pointer (some ⟨x3.ib,0,none⟩)] 86 (0,0)):=by rw[hw7];exact setRow_heap _ _ _ _ _ _ hsb6
 have hsbl:=HSB.out
 have hev6:∀ k,ev5.ownBlock=some k→k<w0.heap.size∨w4.heap.size≤k:=fun k hk=>by
  rcases HJ5.out.2.2.2 k hk with h | h
  ·exact .inl (HJL.out k (by simp[xR,h])).2
  ·exact .inr h
 have hsbne:∀ k∈xR b v6 ev5,k≠sb:=fun k hk e=>by
  subst e
  simp only[xR,List.mem_cons,List.mem_append,Option.mem_toList] at hk
  have hno:∀ q∈xR b v ev,q≠k:=fun q hq e=>HST4.out.sbj (e ▸ hq)
  rcases hk with h | h | h
  ·exact hno b (by simp[xR]) h.symm
  ·rcases hf6 k h with h | h
   ·rcases HJ5.out.2.2.1 k h with h | h
    ·exact hno k (by simp[xR,h]) rfl
    ·omega
   ·omega
  ·rcases HJ5.out.2.2.2 k h with h | h
   ·exact hno k (by simp[xR,h]) rfl
   ·omega
 have hjf:∀ k∈xR b v6 ev5,k<w0.heap.size∨w4.heap.size≤k:=fun k hk=>by
  simp only[xR,List.mem_cons,List.mem_append,Option.mem_toList] at hk
  rcases hk with h | h | h
  ·exact .inl (h ▸ hbl)
  ·rcases hf6 k h with h | h
   ·exact hf5' k h
   ·exact .inr (by omega)
  ·exact hev6 k h
 have hj7:=hj6.kept hk67 (fun k hk=>by
  rw[List.mem_singleton.1 hk]
  exact⟨fun e=>hsbne b (by simp[xR]) e.symm,fun h=>hsbne sb (by simp[xR,h]) rfl,fun h=>hsbne sb (by simp[xR,h]) rfl⟩)
 have hx7:vy w.heap.size w3.heap.size w7 x3:=by
  refine vy.kept (F:=[sb]) (w:=w6) ?_ hk67 (by omega) (fun k hk=>by rw[List.mem_singleton.1 hk];exact .inl (by omega))
  exact fun W hW=>HX3.out.1.in W (fun k h1 h2=>(hW k h1 h2).trans (hkeep k (by omega) h2))
 have hBD7:Below D w w7:=by
  have a1:Below D w4 w5:=HK5.out.below (by have:=HD.out.2;omega) (fun k hk=>(HJL.out k hk).1)
  have a2:Below D w5 w6:=hk6.below (by have:=HD.out.2;omega) (fun k hk=>by
   rcases List.mem_cons.1 hk with rfl | h
   ·exact(HJL.out _ (by simp[xR])).1
   ·rcases HJ5.out.2.2.1 k h with h | h
    ·exact(HJL.out k (by simp[xR,h])).1
    ·have:=HD.out.2;omega)
  have a3:Below D w6 w7:=hk67.below (by have:=HD.out.2;omega) (fun k hk=>by rw[List.mem_singleton.1 hk];exact HST4.out.sbD)
  exact((HBD4.out.trans a1).trans a2).trans a3
 have hst7:StAt D w7 sb b v6 d5.flushed (j.add (3 :: y)) ev5 sy6 x3 w.heap.size w3.heap.size :=
  ⟨hn7,hj7,hx7,by have:=hk67.size;omega,fun k hk=>(hjf k hk).imp (fun h=>by omega) (fun h=>by omega),fun h=>hsbne sb h rfl,.inl (by omega),HST4.out.sbD,by have:=HD.out.2;omega⟩
 have hnd:xY (y.length+1)=xY (3 :: y).length:=by rw[List.length_cons]
 have hsec:((j.add (3 :: y)).secs sha).length=u+xY (y.length+1):=by
  rw[zo,hnd,←HX.out.2.2.2.1,zo]
  show 1+xAq (j.entries++[3 :: y])=_
  unfold xAq
  rw[List.map_append,List.sum_append]
  simp only[List.map_cons,List.map_nil,List.sum_cons,List.sum_nil]
  omega
 have hdn:d5.flushed.n=n:=by
  have h1:d5.n=d.n:=by
   rw[HD5.out]
   refine(JInv.add sha yV HST4.out.jat.inv HST4.out.jat.up (3 :: y) (by rw[List.length_cons];have:=HY.out.2.1;omega) ?_ ?_).2.2.1
   ·have h1:=HX.out.2.2.2.2.1;have h3:=HY.out.2.2;have h2:=HST4.out.jat.dev.n2;rw[HX.out.2.1] at h2;omega
   ·rw[←hnd,HX.out.2.2.2.1,HX.out.2.1];exact HY.out.2.2
  exact(xBj d5).trans (h1.trans HX.out.2.1)
 have hneed:1≤xY (y.length+1):=by unfold xY;omega
 have hkF:Kept (sb :: xR b v ev) w0 w7:=by
  have a0:Kept (sb :: xR b v ev) w0 w4:=Kept.of_below HB04.out
  have a1:Kept (sb :: xR b v ev) w0 w5:=a0.trans HK5.out (fun q hq=>.inl (List.mem_cons_of_mem _ hq))
  have a2:Kept (sb :: xR b v ev) w0 w6:=a1.trans hk6 (fun q hq=>by
   rcases List.mem_cons.1 hq with rfl | h
   ·exact .inl (by simp[xR])
   ·rcases HJ5.out.2.2.1 q h with h | h
    ·exact .inl (by simp[xR,h])
    ·exact .inr (by omega))
  exact a2.trans hk67 (fun q hq=>.inl (by rw[List.mem_singleton.1 hq];simp))
 have hF':∀ k∈sb :: xR b v6 ev5,k∈sb :: xR b v ev∨w3.heap.size≤k:=fun k hk=>by
  rcases List.mem_cons.1 hk with rfl | hk
  ·exact .inl (by simp)
  ·simp only[xR,List.mem_cons,List.mem_append,Option.mem_toList] at hk
   rcases hk with rfl | h | h
   ·exact .inl (by simp[xR])
   ·rcases hf6 k h with h | h
    ·rcases HJ5.out.2.2.1 k h with h | h
     ·exact .inl (by simp[xR,h])
     ·exact .inr (by omega)
    ·exact .inr (by omega)
   ·rcases HJ5.out.2.2.2 k h with h | h
    ·exact .inl (by simp[xR,h])
    ·exact .inr (by omega)
 have HFIN:Hid (kD D sb p n (u+xY (y.length+1)) w0 c' (sb :: xR b v ev) Ap w (.returned (.int .i64 0)) w7):=h_
  ⟨rfl,hBD7,hkF,w3,HX3.out.2.2.2,HB3.out.size,⟨_,⟨b,v6,d5.flushed,j.add (3 :: y),ev5,sy6,x3,_,_,hst7,hv6.trans (HJ5.out.1.trans HX.out.1),hdn,rfl,hsec,by rw[HELE.out];have:=HX.out.2.2.2.2.1;omega,HX3.out.2.1,rfl⟩,hF'⟩,by have:=hk67.size;omega,fun k h1 h2=>(hk67.block k (by omega) (fun hm=>by rw[List.mem_singleton.1 hm] at h1;omega)).trans (hkeep k h1 h2)⟩
 clear hk6 hv6 hM6 hj6 hf6 hwb hl1 hl2 hl3 hl4 hl5 hl6 hf5' hbl hF5 hF6 hkeep hn6 hcs4 hcs hk67 hn7 hsbl hev6 hsbne hjf hj7 hx7 hBD7 hst7 hnd hsec hdn hneed hkF hF' hsb6 HSY
 go_wp2
 go_ret
 rw[←hw7]
 exact HFIN.out
theorem xH3 {D sb p n u:Nat}{c:PC}{F:List Nat}{w0 w:World}(h:StOk D w0 sb p n u c F)(hb0:Below w0.heap.size w0 w)(hG:Gl w)(hD0:Tryz.prog.globals.size≤D)(hD:D≤w0.heap.size)(ob:Nat)(c':PC)(y:By)(Ap:World→Prop)(hy1:1≤y.length)(hy2:y.length≤50000)(hfree:u+xY (y.length+1)≤n / 2)
  (hap:∀ (W:World) (b c1 c2 c3:Nat) (x:Prt) (nb:Nat),Below w.heap.size w W→w.heap.size≤b→qj b c1 c2 c3 W x→(∀ k,k∈x.h.foot∨k∈x.s.foot∨k∈x.t.foot∨k∈foot x.ib x.M x.gs→k<nb)→x.pc=c→W.heap[nb]?=some (.cells (xW x) 82 (0,0))→Calls Tryz.prog 348 #[.pointer (some ⟨ob,0,none⟩),.pointer (some ⟨nb,0,none⟩)] W (xIv w0.heap.size b nb c' Ap W))
  (hen:∀ W W':World,Ap W→Below W.heap.size W W'→Calls Tryz.prog 349 #[.pointer (some ⟨ob,0,none⟩)] W' fun e w'=>Below W'.heap.size W' w'∧∃ v,e=.returned v∧OwnB w' W'.heap.size v y) :
  Calls Tryz.prog 39 #[.pointer (some ⟨sb,0,none⟩),.iface 107 (.pointer (some ⟨ob,0,none⟩))] w (kD D sb p n (u+xY (y.length+1)) w0 c' F Ap w):=by
 obtain⟨b,v,d,j,ev,sy,x,B,T,hst0,hp,hn,hpend,hu,hel,hpc,rfl⟩:=h
 have hst:=hst0.below hb0
 have HFA:=h_ (kH hst)
 have hxw:=hst.prt.at
 have HCL:=h_ (xAg hxw)
 obtain⟨ok1,rd1⟩:=xRi hst.blk
 have HS0:=h_ hst0
 have HST:=h_ hst
 have HB0:=h_ hb0
 have HG:=h_ hG
 have HD:=h_ (And.intro hD0 hD)
 have HY:=h_ (And.intro hy1 (And.intro hy2 hfree))
 have HAPP:=h_ hap
 have HENC:=h_ hen
 have HX:=h_ (And.intro hp (And.intro hn (And.intro hpend (And.intro hu (And.intro hel hpc)))))
 have HSB:Hid (sb<w0.heap.size):=h_ (i_ hst0.blk).1
 have HJL:Hid (∀ k∈xR b v ev,D≤k∧k<w0.heap.size):=h_ hst0.jlt
 have hcs:xW x=#[.pointer (some ⟨x.h.p,0,none⟩),.pointer (some ⟨x.s.p,0,none⟩),.pointer (some ⟨x.t.p,0,none⟩),.pointer (some ⟨x.ib,0,none⟩)]:=rfl
 rw[hcs] at HCL
 have hz4:(yS.size == 4)=true:=rfl
 clear hst0 hb0 hG hD0 hD hy1 hy2 hfree hap hen hp hn hpend hu hel hpc hst hxw hcs
 go_enter Tryz.func39,Tryz.ntmps39
 go_wp2_with fail
 refine HFA.out.mono ?_
 rintro e w' ⟨rfl,rfl⟩
 go_wp2_with fail
 refine HCL.out.mono ?_
 rintro e w1 ⟨hb1,x1,c1,c2,c3,rfl,hsep,hpc1⟩
 have hcs:xW x1=#[.pointer (some ⟨x1.h.p,0,none⟩),.pointer (some ⟨x1.s.p,0,none⟩),.pointer (some ⟨x1.t.p,0,none⟩),.pointer (some ⟨x1.ib,0,none⟩)]:=rfl
 have hft:xy 4 #[Value.pointer (some ⟨x1.h.p,0,none⟩),.pointer (some ⟨x1.s.p,0,none⟩),.pointer (some ⟨x1.t.p,0,none⟩),.pointer (some ⟨x1.ib,0,none⟩)]=true:=qo _ _ _ _ rfl rfl rfl rfl
 rw[hcs]
 obtain⟨w2,hw2⟩:∃ w2,w2=w1.alloc (.cells #[.pointer (some ⟨x1.h.p,0,none⟩),.pointer (some ⟨x1.s.p,0,none⟩),.pointer (some ⟨x1.t.p,0,none⟩),.pointer (some ⟨x1.ib,0,none⟩)] 82):=⟨_,rfl⟩
 have hb12:Below w1.heap.size w1 w2:=by rw[hw2];exact b_ _ _
 have hn2:w2.heap[w1.heap.size]?=some (.cells (xW x1) 82 (0,0)):=by rw[hw2];exact heap_alloc_new w1 _
 have hb02:=hb1.trans (hb12.mono hb1.size)
 have HB02:=h_ hb02
 have HL1:Hid (w.heap.size≤w1.heap.size):=h_ hb1.size
 have HN2:Hid (w1.heap.size<w2.heap.size):=h_ (i_ hn2).1
 have HA:=h_ (HAPP.out w2 w.heap.size c1 c2 c3 x1 w1.heap.size hb02 (Nat.le_refl _) (hsep.below hb12) hsep.feet (hpc1.trans HX.out.2.2.2.2.2) hn2)
 clear hb1 hsep hpc1 hcs hb12 hn2 hb02 HCL ok1 rd1
 go_upto_region 5 with fail
 refine xu hw2 ?_
 clear hw2
 go_wp2_with fail
 refine HA.out.mono ?_
 rintro e w3 ⟨rfl,hb3,⟨x3,hx3,hpc3,hn3⟩,hap3⟩
 have hw00:w0.heap.size≤w.heap.size:=HB0.out.size
 have hb003:Below w0.heap.size w0 w3:=HB0.out.trans ((HB02.out.mono hw00).trans hb3)
 have hst3:StAt D w3 sb b v d j ev sy x B T:=HS0.out.below hb003
 have c3':=cell_of_row w3 sb 0 _ _ _ hst3.blk
 simp only[v_] at c3'
 have z0:∀ z:xf w3,z.1.cell? ⟨sb,0,none⟩=some (.pointer (some ⟨b,0,none⟩)):=fun z=>z.cell c3'
 have hbd:Below w3.heap.size w3 w3.drew:=(Below.refl _ _).drew
 have HEN:=h_ (HENC.out w3 w3.drew hap3 hbd)
 have HB3:=h_ hb003
 have HX3:=h_ (And.intro hx3 (And.intro hpc3 (And.intro hn3 hap3)))
 have HST3:=h_ hst3
 have HL23:Hid (w2.heap.size≤w3.heap.size):=h_ hb3.size
 have HB23:=h_ hb3
 clear hb3 hx3 hpc3 hn3 hap3 hw00 hb003 hst3 c3' hbd HA
 go_upto_region 8 with fail
 refine xw [0,1,2,3,4] [5,6,7] (fun w'=>∃ z:xf w3,w'=z.1) (by kernel_rfl) (by kernel_rfl) (by kernel_rfl) ⟨⟨w3.drew,(Below.refl _ _).drew⟩,rfl⟩ ?_
 simp only[o_]
 repeat (go_big_quiet_step (fail))
 refine wpQuiet_nil ?_
 clear z0
 refine yz true (by kernel_rfl) (by kernel_rfl) ?_
 simp only[o_]
 go_wp2_with fail
 refine HEN.out.mono ?_
 rintro e w4 ⟨hb4,yv,rfl,hown⟩
 obtain⟨yg,yc,hyv,hyc,hyg,hys⟩:∃ g cap,yv=.slice (some ⟨g,0,none⟩) y.length cap∧y.length≤cap∧g<w4.heap.size∧SlB w4 ⟨g,0,none⟩ y:=by
  rcases hown.at with⟨_,h⟩ | ⟨g,cap,h1,h2,h3,h4,h5⟩
  ·have:=HY.out.1;rw[h] at this;exact absurd this (by simp)
  ·exact⟨g,cap,h1,h3,(hown.lt (k:=g) (by rw[h1];rfl)).2,h5⟩
 subst hyv
 have hb34:Below w3.heap.size w3 w4:=⟨hb4.os,hb4.tape,hb4.output,hb4.size,hb4.block⟩
 have hb004:Below w0.heap.size w0 w4:=HB3.out.trans (hb34.mono HB3.out.size)
 have hst4:=HST3.out.below hb34
 have hj4:=hst4.jat
 have hD0w:D≤w.heap.size:=Nat.le_trans HD.out.2 HB0.out.size
 have hBD4:Below D w w4:=((HB02.out.mono hD0w).trans (HB23.out.mono HD.out.2)).trans (hb34.mono (Nat.le_trans HD.out.2 HB3.out.size))
 have hyl:=HY.out.1
 have HBD4:=h_ hBD4
 have HW:=h_ (jN hj4 (qZ (HG.out.below hBD4 HD.out.1)) y ⟨yg,0,none⟩ yc hys hyg hyc hyl (by have:=HY.out.2.1;omega) (by rw[HX.out.2.2.2.1,HX.out.2.1];exact HY.out.2.2) (by rw[HX.out.2.2.1];have h1:=HY.out.2.2;have h2:=hj4.dev.n2;rw[HX.out.2.1] at h2;simp;omega) (by have h1:=HX.out.2.2.2.2.1;have h3:=HY.out.2.2;have h2:=hj4.dev.n2;rw[HX.out.2.1] at h2;omega) (Nat.le_trans HD.out.2 hb004.size))
 have HB34:=h_ hb34
 have HB04:=h_ hb004
 have HST4:=h_ hst4
 have HL34:Hid (w3.heap.size≤w4.heap.size):=h_ hb34.size
 go_wp2
 refine⟨fun _=>⟨⟨w4,hb34⟩,rfl⟩,xG [6,7] _ _ (by kernel_rfl) ?_⟩
 simp only[o_]
 clear hb4 hown hyc hyg hys hb34 hb004 hst4 hj4 hD0w hBD4 hyl HEN
 go_wp2_with fail
 refine HW.out.mono ?_
 rintro e w5 ⟨rfl,hk5,v5,ev5,hv5,hM5,hj5,hf5,hev5⟩
 obtain⟨d5,hd5⟩:∃ d5,d5=(d.puts (j.area*(d.n / 2)+(j.secs sha).length) (yf sha (j.body (3 :: y)))).1:=⟨_,rfl⟩
 rw[←hd5] at hj5
 have hsb5:=(hk5.block sb (by have:=HSB.out;have:=HB3.out.size;have:=HL34.out;omega) (fun hm=>HST4.out.sbj hm)).trans HST4.out.blk
 have c5:=cell_of_row w5 sb 0 _ _ _ hsb5
 simp only[v_] at c5
 have hele:(j.add (3 :: y)).entries.length=j.entries.length+1:=by simp[PJ.add]
 have HSY:=h_ (xBg hj5 (by rw[hele];have h1:=HX.out.2.2.2.2.1;have h3:=HY.out.2.2;have h2:=HST4.out.jat.dev.n2;rw[HX.out.2.1] at h2;omega))
 have HD5:=h_ hd5
 have HK5:=h_ hk5
 have HJ5:=h_ (And.intro hv5 (And.intro hM5 (And.intro hf5 hev5)))
 have HSB5:=h_ hsb5
 have HELE:=h_ hele
 clear hk5 hv5 hM5 hj5 hf5 hev5 hd5 hsb5 hele HW
 go_wp2
 refine NoPanic.normal ?_
 go_wp2_with fail
 refine HSY.out.mono ?_
 rintro e w6 ⟨rfl,hk6,v6,sy6,hv6,hM6,hj6,hf6⟩
 obtain⟨cs,hcs⟩:∃ cs,cs=xW x3:=⟨_,rfl⟩
 have hwb:w0.heap.size≤w.heap.size:=HB0.out.size
 have hl1:=HL1.out
 have hl2:=HN2.out
 have hl3:=HL23.out
 have hl4:=HL34.out
 have hl5:w4.heap.size≤w5.heap.size:=HK5.out.size
 have hl6:w5.heap.size≤w6.heap.size:=hk6.size
 have hf5':∀ k∈v5.foot,k<w0.heap.size∨w4.heap.size≤k:=fun k hk=>by
  rcases HJ5.out.2.2.1 k hk with h | h
  ·exact .inl (HJL.out k (by simp[xR,h])).2
  ·exact .inr h
 have hbl:b<w0.heap.size:=(HJL.out b (by simp[xR])).2
 have hF5:∀ k∈b :: (v.foot++ev.ownBlock.toList),k<w0.heap.size:=fun k hk=>(HJL.out k hk).2
 have hF6:∀ k∈b :: v5.foot,k<w0.heap.size∨w4.heap.size≤k:=fun k hk=>by
  rcases List.mem_cons.1 hk with rfl | hk
  ·exact .inl hbl
  ·exact hf5' k hk
 have hkeep:∀ k,w0.heap.size≤k→k<w3.heap.size→w6.heap[k]?=w3.heap[k]?:=fun k h1 h2=>by
  rw[hk6.block k (by omega) (fun hm=>by rcases hF6 k hm with h | h <;> omega),HK5.out.block k (by omega) (fun hm=>by have:=hF5 k hm;omega),HB34.out.block k h2]
 have hn6:w6.heap[w1.heap.size]?=some (.cells cs 82 (0,0)):=by rw[hkeep _ (by omega) (by omega),hcs];exact HX3.out.2.2.1
 have hsb6:=(hk6.block sb (by have:=HSB.out;omega) (fun hm=>by
  rcases List.mem_cons.1 hm with h | h
  ·exact HST4.out.sbj (by simp[xR,h])
  ·rcases HJ5.out.2.2.1 sb h with h | h
   ·exact HST4.out.sbj (by simp[xR,h])
   ·have:=HSB.out;omega)).trans HSB5.out
 have hcs4:cs=#[.pointer (some ⟨x3.h.p,0,none⟩),.pointer (some ⟨x3.s.p,0,none⟩),.pointer (some ⟨x3.t.p,0,none⟩),.pointer (some ⟨x3.ib,0,none⟩)]:=hcs
 rw[hcs4] at hn6
 obtain⟨o6,r6⟩:=xI (n:=4) hn6 rfl
 have hst:=xR0 w6 sb _ _ _ _ _ _ _ _ _ _ hsb6 (rfl:(Value.pointer (some ⟨x3.h.p,0,none⟩)).oneCell'=true) (rfl:(Value.pointer (some ⟨x3.s.p,0,none⟩)).oneCell'=true) (rfl:(Value.pointer (some ⟨x3.t.p,0,none⟩)).oneCell'=true) (rfl:(Value.pointer (some ⟨x3.ib,0,none⟩)).oneCell'=true)
 obtain⟨w7,hw7⟩:∃ w7,w7=w6.setRow sb #[.pointer (some ⟨b,0,none⟩),.pointer (some ⟨x3.h.p,0,none⟩),.pointer (some ⟨x3.s.p,0,none⟩),.pointer (some ⟨x3.t.p,0,none⟩),.pointer (some ⟨x3.ib,0,none⟩)]:=⟨_,rfl⟩
 rw[←hw7] at hst
 have hk67:Kept [sb] w6 w7:=by rw[hw7];exact qd w6 sb _
 have hn7:w7.heap[sb]?=some (.cells #[.pointer (some ⟨b,0,none⟩),.pointer (some ⟨x3.h.p,0,none⟩),.pointer (some ⟨x3.s.p,0,none⟩),.pointer (some ⟨x3.t.p,0,none⟩),.pointer (some ⟨x3.ib,0,none⟩)] 86 (0,0)):=by rw[hw7];exact setRow_heap _ _ _ _ _ _ hsb6
 have hsbl:=HSB.out
 have hev6:∀ k,ev5.ownBlock=some k→k<w0.heap.size∨w4.heap.size≤k:=fun k hk=>by
  rcases HJ5.out.2.2.2 k hk with h | h
  ·exact .inl (HJL.out k (by simp[xR,h])).2
  ·exact .inr h
 have hsbne:∀ k∈xR b v6 ev5,k≠sb:=fun k hk e=>by
  subst e
  simp only[xR,List.mem_cons,List.mem_append,Option.mem_toList] at hk
  have hno:∀ q∈xR b v ev,q≠k:=fun q hq e=>HST4.out.sbj (e ▸ hq)
  rcases hk with h | h | h
  ·exact hno b (by simp[xR]) h.symm
  ·rcases hf6 k h with h | h
   ·rcases HJ5.out.2.2.1 k h with h | h
    ·exact hno k (by simp[xR,h]) rfl
    ·omega
   ·omega
  ·rcases HJ5.out.2.2.2 k h with h | h
   ·exact hno k (by simp[xR,h]) rfl
   ·omega
 have hjf:∀ k∈xR b v6 ev5,k<w0.heap.size∨w4.heap.size≤k:=fun k hk=>by
  simp only[xR,List.mem_cons,List.mem_append,Option.mem_toList] at hk
  rcases hk with h | h | h
  ·exact .inl (h ▸ hbl)
  ·rcases hf6 k h with h | h
   ·exact hf5' k h
   ·exact .inr (by omega)
  ·exact hev6 k h
 have hj7:=hj6.kept hk67 (fun k hk=>by
  rw[List.mem_singleton.1 hk]
  exact⟨fun e=>hsbne b (by simp[xR]) e.symm,fun h=>hsbne sb (by simp[xR,h]) rfl,fun h=>hsbne sb (by simp[xR,h]) rfl⟩)
 have hx7:vy w.heap.size w3.heap.size w7 x3:=by
  refine vy.kept (F:=[sb]) (w:=w6) ?_ hk67 (by omega) (fun k hk=>by rw[List.mem_singleton.1 hk];exact .inl (by omega))
  exact fun W hW=>HX3.out.1.in W (fun k h1 h2=>(hW k h1 h2).trans (hkeep k (by omega) h2))
 have hBD7:Below D w w7:=by
  have a1:Below D w4 w5:=HK5.out.below (by have:=HD.out.2;omega) (fun k hk=>(HJL.out k hk).1)
  have a2:Below D w5 w6:=hk6.below (by have:=HD.out.2;omega) (fun k hk=>by
   rcases List.mem_cons.1 hk with rfl | h
   ·exact(HJL.out _ (by simp[xR])).1
   ·rcases HJ5.out.2.2.1 k h with h | h
    ·exact(HJL.out k (by simp[xR,h])).1
    ·have:=HD.out.2;omega)
  have a3:Below D w6 w7:=hk67.below (by have:=HD.out.2;omega) (fun k hk=>by rw[List.mem_singleton.1 hk];exact HST4.out.sbD)
  exact((HBD4.out.trans a1).trans a2).trans a3
 have hst7:StAt D w7 sb b v6 d5.flushed (j.add (3 :: y)) ev5 sy6 x3 w.heap.size w3.heap.size :=
  ⟨hn7,hj7,hx7,by have:=hk67.size;omega,fun k hk=>(hjf k hk).imp (fun h=>by omega) (fun h=>by omega),fun h=>hsbne sb h rfl,.inl (by omega),HST4.out.sbD,by have:=HD.out.2;omega⟩
 have hnd:xY (y.length+1)=xY (3 :: y).length:=by rw[List.length_cons]
 have hsec:((j.add (3 :: y)).secs sha).length=u+xY (y.length+1):=by
  rw[zo,hnd,←HX.out.2.2.2.1,zo]
  show 1+xAq (j.entries++[3 :: y])=_
  unfold xAq
  rw[List.map_append,List.sum_append]
  simp only[List.map_cons,List.map_nil,List.sum_cons,List.sum_nil]
  omega
 have hdn:d5.flushed.n=n:=by
  have h1:d5.n=d.n:=by
   rw[HD5.out]
   refine(JInv.add sha yV HST4.out.jat.inv HST4.out.jat.up (3 :: y) (by rw[List.length_cons];have:=HY.out.2.1;omega) ?_ ?_).2.2.1
   ·have h1:=HX.out.2.2.2.2.1;have h3:=HY.out.2.2;have h2:=HST4.out.jat.dev.n2;rw[HX.out.2.1] at h2;omega
   ·rw[←hnd,HX.out.2.2.2.1,HX.out.2.1];exact HY.out.2.2
  exact(xBj d5).trans (h1.trans HX.out.2.1)
 have hneed:1≤xY (y.length+1):=by unfold xY;omega
 have hkF:Kept (sb :: xR b v ev) w0 w7:=by
  have a0:Kept (sb :: xR b v ev) w0 w4:=Kept.of_below HB04.out
  have a1:Kept (sb :: xR b v ev) w0 w5:=a0.trans HK5.out (fun q hq=>.inl (List.mem_cons_of_mem _ hq))
  have a2:Kept (sb :: xR b v ev) w0 w6:=a1.trans hk6 (fun q hq=>by
   rcases List.mem_cons.1 hq with rfl | h
   ·exact .inl (by simp[xR])
   ·rcases HJ5.out.2.2.1 q h with h | h
    ·exact .inl (by simp[xR,h])
    ·exact .inr (by omega))
  exact a2.trans hk67 (fun q hq=>.inl (by rw[List.mem_singleton.1 hq];simp))
 have hF':∀ k∈sb :: xR b v6 ev5,k∈sb :: xR b v ev∨w3.heap.size≤k:=fun k hk=>by
  rcases List.mem_cons.1 hk with rfl | hk
  ·exact .inl (by simp)
  ·simp only[xR,List.mem_cons,List.mem_append,Option.mem_toList] at hk
   rcases hk with rfl | h | h
   ·exact .inl (by simp[xR])
   ·rcases hf6 k h with h | h
    ·rcases HJ5.out.2.2.1 k h with h | h
     ·exact .inl (by simp[xR,h])
     ·exact .inr (by omega)
    ·exact .inr (by omega)
   ·rcases HJ5.out.2.2.2 k h with h | h
    ·exact .inl (by simp[xR,h])
    ·exact .inr (by omega)
 have HFIN:Hid (kD D sb p n (u+xY (y.length+1)) w0 c' (sb :: xR b v ev) Ap w (.returned (.int .i64 0)) w7):=h_
  ⟨rfl,hBD7,hkF,w3,HX3.out.2.2.2,HB3.out.size,⟨_,⟨b,v6,d5.flushed,j.add (3 :: y),ev5,sy6,x3,_,_,hst7,hv6.trans (HJ5.out.1.trans HX.out.1),hdn,rfl,hsec,by rw[HELE.out];have:=HX.out.2.2.2.2.1;omega,HX3.out.2.1,rfl⟩,hF'⟩,by have:=hk67.size;omega,fun k h1 h2=>(hk67.block k (by omega) (fun hm=>by rw[List.mem_singleton.1 hm] at h1;omega)).trans (hkeep k h1 h2)⟩
 clear hk6 hv6 hM6 hj6 hf6 hwb hl1 hl2 hl3 hl4 hl5 hl6 hf5' hbl hF5 hF6 hkeep hn6 hcs4 hcs hk67 hn7 hsbl hev6 hsbne hjf hj7 hx7 hBD7 hst7 hnd hsec hdn hneed hkF hF' hsb6 HSY
 go_wp2
 go_ret
 rw[←hw7]
 exact HFIN.out
theorem xOp {D sb p n u:Nat}{c:PC}{F:List Nat}{w0 w:World}(h:StOk D w0 sb p n u c F)(hb0:Below w0.heap.size w0 w)(hG:Gl w)(hD0:Tryz.prog.globals.size≤D)(hD:D≤w0.heap.size)(ob:Nat)(c':PC)(y:By)(Ap:World→Prop)(hy1:1≤y.length)(hy2:y.length≤50000)(hfree:u+xY (y.length+1)≤n / 2)
  (hap:∀ (W:World) (b c1 c2 c3:Nat) (x:Prt) (nb:Nat),Below w.heap.size w W→w.heap.size≤b→qj b c1 c2 c3 W x→(∀ k,k∈x.h.foot∨k∈x.s.foot∨k∈x.t.foot∨k∈foot x.ib x.M x.gs→k<nb)→x.pc=c→W.heap[nb]?=some (.cells (xW x) 82 (0,0))→Calls Tryz.prog 340 #[.pointer (some ⟨ob,0,none⟩),.pointer (some ⟨nb,0,none⟩)] W (xIv w0.heap.size b nb c' Ap W))
  (hen:∀ W W':World,Ap W→Below W.heap.size W W'→Calls Tryz.prog 341 #[.pointer (some ⟨ob,0,none⟩)] W' fun e w'=>Below W'.heap.size W' w'∧∃ v,e=.returned v∧OwnB w' W'.heap.size v y) :
  Calls Tryz.prog 39 #[.pointer (some ⟨sb,0,none⟩),.iface 98 (.pointer (some ⟨ob,0,none⟩))] w (kD D sb p n (u+xY (y.length+1)) w0 c' F Ap w):=by
 obtain⟨b,v,d,j,ev,sy,x,B,T,hst0,hp,hn,hpend,hu,hel,hpc,rfl⟩:=h
 have hst:=hst0.below hb0
 have HFA:=h_ (kH hst)
 have hxw:=hst.prt.at
 have HCL:=h_ (xAg hxw)
 obtain⟨ok1,rd1⟩:=xRi hst.blk
 have HS0:=h_ hst0
 have HST:=h_ hst
 have HB0:=h_ hb0
 have HG:=h_ hG
 have HD:=h_ (And.intro hD0 hD)
 have HY:=h_ (And.intro hy1 (And.intro hy2 hfree))
 have HAPP:=h_ hap
 have HENC:=h_ hen
 have HX:=h_ (And.intro hp (And.intro hn (And.intro hpend (And.intro hu (And.intro hel hpc)))))
 have HSB:Hid (sb<w0.heap.size):=h_ (i_ hst0.blk).1
 have HJL:Hid (∀ k∈xR b v ev,D≤k∧k<w0.heap.size):=h_ hst0.jlt
 have hcs:xW x=#[.pointer (some ⟨x.h.p,0,none⟩),.pointer (some ⟨x.s.p,0,none⟩),.pointer (some ⟨x.t.p,0,none⟩),.pointer (some ⟨x.ib,0,none⟩)]:=rfl
 rw[hcs] at HCL
 have hz4:(yS.size == 4)=true:=rfl
 clear hst0 hb0 hG hD0 hD hy1 hy2 hfree hap hen hp hn hpend hu hel hpc hst hxw hcs
 go_enter Tryz.func39,Tryz.ntmps39
 go_wp2_with fail
 refine HFA.out.mono ?_
 rintro e w' ⟨rfl,rfl⟩
 go_wp2_with fail
 refine HCL.out.mono ?_
 rintro e w1 ⟨hb1,x1,c1,c2,c3,rfl,hsep,hpc1⟩
 have hcs:xW x1=#[.pointer (some ⟨x1.h.p,0,none⟩),.pointer (some ⟨x1.s.p,0,none⟩),.pointer (some ⟨x1.t.p,0,none⟩),.pointer (some ⟨x1.ib,0,none⟩)]:=rfl
 have hft:xy 4 #[Value.pointer (some ⟨x1.h.p,0,none⟩),.pointer (some ⟨x1.s.p,0,none⟩),.pointer (some ⟨x1.t.p,0,none⟩),.pointer (some ⟨x1.ib,0,none⟩)]=true:=qo _ _ _ _ rfl rfl rfl rfl
 rw[hcs]
 obtain⟨w2,hw2⟩:∃ w2,w2=w1.alloc (.cells #[.pointer (some ⟨x1.h.p,0,none⟩),.pointer (some ⟨x1.s.p,0,none⟩),.pointer (some ⟨x1.t.p,0,none⟩),.pointer (some ⟨x1.ib,0,none⟩)] 82):=⟨_,rfl⟩
 have hb12:Below w1.heap.size w1 w2:=by rw[hw2];exact b_ _ _
 have hn2:w2.heap[w1.heap.size]?=some (.cells (xW x1) 82 (0,0)):=by rw[hw2];exact heap_alloc_new w1 _
 have hb02:=hb1.trans (hb12.mono hb1.size)
 have HB02:=h_ hb02
 have HL1:Hid (w.heap.size≤w1.heap.size):=h_ hb1.size
 have HN2:Hid (w1.heap.size<w2.heap.size):=h_ (i_ hn2).1
 have HA:=h_ (HAPP.out w2 w.heap.size c1 c2 c3 x1 w1.heap.size hb02 (Nat.le_refl _) (hsep.below hb12) hsep.feet (hpc1.trans HX.out.2.2.2.2.2) hn2)
 clear hb1 hsep hpc1 hcs hb12 hn2 hb02 HCL ok1 rd1
 go_upto_region 5 with fail
 refine xu hw2 ?_
 clear hw2
 go_wp2_with fail
 refine HA.out.mono ?_
 rintro e w3 ⟨rfl,hb3,⟨x3,hx3,hpc3,hn3⟩,hap3⟩
 have hw00:w0.heap.size≤w.heap.size:=HB0.out.size
 have hb003:Below w0.heap.size w0 w3:=HB0.out.trans ((HB02.out.mono hw00).trans hb3)
 have hst3:StAt D w3 sb b v d j ev sy x B T:=HS0.out.below hb003
 have c3':=cell_of_row w3 sb 0 _ _ _ hst3.blk
 simp only[v_] at c3'
 have z0:∀ z:xf w3,z.1.cell? ⟨sb,0,none⟩=some (.pointer (some ⟨b,0,none⟩)):=fun z=>z.cell c3'
 have hbd:Below w3.heap.size w3 w3.drew:=(Below.refl _ _).drew
 have HEN:=h_ (HENC.out w3 w3.drew hap3 hbd)
 have HB3:=h_ hb003
 have HX3:=h_ (And.intro hx3 (And.intro hpc3 (And.intro hn3 hap3)))
 have HST3:=h_ hst3
 have HL23:Hid (w2.heap.size≤w3.heap.size):=h_ hb3.size
 have HB23:=h_ hb3
 clear hb3 hx3 hpc3 hn3 hap3 hw00 hb003 hst3 c3' hbd HA
 go_upto_region 8 with fail
 refine xw [0,1,2,3,4] [5,6,7] (fun w'=>∃ z:xf w3,w'=z.1) (by kernel_rfl) (by kernel_rfl) (by kernel_rfl) ⟨⟨w3.drew,(Below.refl _ _).drew⟩,rfl⟩ ?_
 simp only[o_]
 repeat (go_big_quiet_step (fail))
 refine wpQuiet_nil ?_
 clear z0
 refine yz true (by kernel_rfl) (by kernel_rfl) ?_
 simp only[o_]
 go_wp2_with fail
 refine HEN.out.mono ?_
 rintro e w4 ⟨hb4,yv,rfl,hown⟩
 obtain⟨yg,yc,hyv,hyc,hyg,hys⟩:∃ g cap,yv=.slice (some ⟨g,0,none⟩) y.length cap∧y.length≤cap∧g<w4.heap.size∧SlB w4 ⟨g,0,none⟩ y:=by
  rcases hown.at with⟨_,h⟩ | ⟨g,cap,h1,h2,h3,h4,h5⟩
  ·have:=HY.out.1;rw[h] at this;exact absurd this (by simp)
  ·exact⟨g,cap,h1,h3,(hown.lt (k:=g) (by rw[h1];rfl)).2,h5⟩
 subst hyv
 have hb34:Below w3.heap.size w3 w4:=⟨hb4.os,hb4.tape,hb4.output,hb4.size,hb4.block⟩
 have hb004:Below w0.heap.size w0 w4:=HB3.out.trans (hb34.mono HB3.out.size)
 have hst4:=HST3.out.below hb34
 have hj4:=hst4.jat
 have hD0w:D≤w.heap.size:=Nat.le_trans HD.out.2 HB0.out.size
 have hBD4:Below D w w4:=((HB02.out.mono hD0w).trans (HB23.out.mono HD.out.2)).trans (hb34.mono (Nat.le_trans HD.out.2 HB3.out.size))
 have hyl:=HY.out.1
 have HBD4:=h_ hBD4
 have HW:=h_ (jN hj4 (qZ (HG.out.below hBD4 HD.out.1)) y ⟨yg,0,none⟩ yc hys hyg hyc hyl (by have:=HY.out.2.1;omega) (by rw[HX.out.2.2.2.1,HX.out.2.1];exact HY.out.2.2) (by rw[HX.out.2.2.1];have h1:=HY.out.2.2;have h2:=hj4.dev.n2;rw[HX.out.2.1] at h2;simp;omega) (by have h1:=HX.out.2.2.2.2.1;have h3:=HY.out.2.2;have h2:=hj4.dev.n2;rw[HX.out.2.1] at h2;omega) (Nat.le_trans HD.out.2 hb004.size))
 have HB34:=h_ hb34
 have HB04:=h_ hb004
 have HST4:=h_ hst4
 have HL34:Hid (w3.heap.size≤w4.heap.size):=h_ hb34.size
 go_wp2
 refine⟨fun _=>⟨⟨w4,hb34⟩,rfl⟩,xG [6,7] _ _ (by kernel_rfl) ?_⟩
 simp only[o_]
 clear hb4 hown hyc hyg hys hb34 hb004 hst4 hj4 hD0w hBD4 hyl HEN
 go_wp2_with fail
 refine HW.out.mono ?_
 rintro e w5 ⟨rfl,hk5,v5,ev5,hv5,hM5,hj5,hf5,hev5⟩
 obtain⟨d5,hd5⟩:∃ d5,d5=(d.puts (j.area*(d.n / 2)+(j.secs sha).length) (yf sha (j.body (3 :: y)))).1:=⟨_,rfl⟩
 rw[←hd5] at hj5
 have hsb5:=(hk5.block sb (by have:=HSB.out;have:=HB3.out.size;have:=HL34.out;omega) (fun hm=>HST4.out.sbj hm)).trans HST4.out.blk
 have c5:=cell_of_row w5 sb 0 _ _ _ hsb5
 simp only[v_] at c5
 have hele:(j.add (3 :: y)).entries.length=j.entries.length+1:=by simp[PJ.add]
 have HSY:=h_ (xBg hj5 (by rw[hele];have h1:=HX.out.2.2.2.2.1;have h3:=HY.out.2.2;have h2:=HST4.out.jat.dev.n2;rw[HX.out.2.1] at h2;omega))
 have HD5:=h_ hd5
 have HK5:=h_ hk5
 have HJ5:=h_ (And.intro hv5 (And.intro hM5 (And.intro hf5 hev5)))
 have HSB5:=h_ hsb5
 have HELE:=h_ hele
 clear hk5 hv5 hM5 hj5 hf5 hev5 hd5 hsb5 hele HW
 go_wp2
 refine NoPanic.normal ?_
 go_wp2_with fail
 refine HSY.out.mono ?_
 rintro e w6 ⟨rfl,hk6,v6,sy6,hv6,hM6,hj6,hf6⟩
 obtain⟨cs,hcs⟩:∃ cs,cs=xW x3:=⟨_,rfl⟩
 have hwb:w0.heap.size≤w.heap.size:=HB0.out.size
 have hl1:=HL1.out
 have hl2:=HN2.out
 have hl3:=HL23.out
 have hl4:=HL34.out
 have hl5:w4.heap.size≤w5.heap.size:=HK5.out.size
 have hl6:w5.heap.size≤w6.heap.size:=hk6.size
 have hf5':∀ k∈v5.foot,k<w0.heap.size∨w4.heap.size≤k:=fun k hk=>by
  rcases HJ5.out.2.2.1 k hk with h | h
  ·exact .inl (HJL.out k (by simp[xR,h])).2
  ·exact .inr h
 have hbl:b<w0.heap.size:=(HJL.out b (by simp[xR])).2
 have hF5:∀ k∈b :: (v.foot++ev.ownBlock.toList),k<w0.heap.size:=fun k hk=>(HJL.out k hk).2
 have hF6:∀ k∈b :: v5.foot,k<w0.heap.size∨w4.heap.size≤k:=fun k hk=>by
  rcases List.mem_cons.1 hk with rfl | hk
  ·exact .inl hbl
  ·exact hf5' k hk
 have hkeep:∀ k,w0.heap.size≤k→k<w3.heap.size→w6.heap[k]?=w3.heap[k]?:=fun k h1 h2=>by
  rw[hk6.block k (by omega) (fun hm=>by rcases hF6 k hm with h | h <;> omega),HK5.out.block k (by omega) (fun hm=>by have:=hF5 k hm;omega),HB34.out.block k h2]
 have hn6:w6.heap[w1.heap.size]?=some (.cells cs 82 (0,0)):=by rw[hkeep _ (by omega) (by omega),hcs];exact HX3.out.2.2.1
 have hsb6:=(hk6.block sb (by have:=HSB.out;omega) (fun hm=>by
  rcases List.mem_cons.1 hm with h | h
  ·exact HST4.out.sbj (by simp[xR,h])
  ·rcases HJ5.out.2.2.1 sb h with h | h
   ·exact HST4.out.sbj (by simp[xR,h])
   ·have:=HSB.out;omega)).trans HSB5.out
 have hcs4:cs=#[.pointer (some ⟨x3.h.p,0,none⟩),.pointer (some ⟨x3.s.p,0,none⟩),.pointer (some ⟨x3.t.p,0,none⟩),.pointer (some ⟨x3.ib,0,none⟩)]:=hcs
 rw[hcs4] at hn6
 obtain⟨o6,r6⟩:=xI (n:=4) hn6 rfl
 have hst:=xR0 w6 sb _ _ _ _ _ _ _ _ _ _ hsb6 (rfl:(Value.pointer (some ⟨x3.h.p,0,none⟩)).oneCell'=true) (rfl:(Value.pointer (some ⟨x3.s.p,0,none⟩)).oneCell'=true) (rfl:(Value.pointer (some ⟨x3.t.p,0,none⟩)).oneCell'=true) (rfl:(Value.pointer (some ⟨x3.ib,0,none⟩)).oneCell'=true)
 obtain⟨w7,hw7⟩:∃ w7,w7=w6.setRow sb #[.pointer (some ⟨b,0,none⟩),.pointer (some ⟨x3.h.p,0,none⟩),.pointer (some ⟨x3.s.p,0,none⟩),.pointer (some ⟨x3.t.p,0,none⟩),.pointer (some ⟨x3.ib,0,none⟩)]:=⟨_,rfl⟩
 rw[←hw7] at hst
 have hk67:Kept [sb] w6 w7:=by rw[hw7];exact qd w6 sb _
 have hn7:w7.heap[sb]?=some (.cells #[.pointer (some ⟨b,0,none⟩),.pointer (some ⟨x3.h.p,0,none⟩),.pointer (some ⟨x3.s.p,0,none⟩),.pointer (some ⟨x3.t.p,0,none⟩),.pointer (some ⟨x3.ib,0,none⟩)] 86 (0,0)):=by rw[hw7];exact setRow_heap _ _ _ _ _ _ hsb6
 have hsbl:=HSB.out
 have hev6:∀ k,ev5.ownBlock=some k→k<w0.heap.size∨w4.heap.size≤k:=fun k hk=>by
  rcases HJ5.out.2.2.2 k hk with h | h
  ·exact .inl (HJL.out k (by simp[xR,h])).2
  ·exact .inr h
 have hsbne:∀ k∈xR b v6 ev5,k≠sb:=fun k hk e=>by
  subst e
  simp only[xR,List.mem_cons,List.mem_append,Option.mem_toList] at hk
  have hno:∀ q∈xR b v ev,q≠k:=fun q hq e=>HST4.out.sbj (e ▸ hq)
  rcases hk with h | h | h
  ·exact hno b (by simp[xR]) h.symm
  ·rcases hf6 k h with h | h
   ·rcases HJ5.out.2.2.1 k h with h | h
    ·exact hno k (by simp[xR,h]) rfl
    ·omega
   ·omega
  ·rcases HJ5.out.2.2.2 k h with h | h
   ·exact hno k (by simp[xR,h]) rfl
   ·omega
 have hjf:∀ k∈xR b v6 ev5,k<w0.heap.size∨w4.heap.size≤k:=fun k hk=>by
  simp only[xR,List.mem_cons,List.mem_append,Option.mem_toList] at hk
  rcases hk with h | h | h
  ·exact .inl (h ▸ hbl)
  ·rcases hf6 k h with h | h
   ·exact hf5' k h
   ·exact .inr (by omega)
  ·exact hev6 k h
 have hj7:=hj6.kept hk67 (fun k hk=>by
  rw[List.mem_singleton.1 hk]
  exact⟨fun e=>hsbne b (by simp[xR]) e.symm,fun h=>hsbne sb (by simp[xR,h]) rfl,fun h=>hsbne sb (by simp[xR,h]) rfl⟩)
 have hx7:vy w.heap.size w3.heap.size w7 x3:=by
  refine vy.kept (F:=[sb]) (w:=w6) ?_ hk67 (by omega) (fun k hk=>by rw[List.mem_singleton.1 hk];exact .inl (by omega))
  exact fun W hW=>HX3.out.1.in W (fun k h1 h2=>(hW k h1 h2).trans (hkeep k (by omega) h2))
 have hBD7:Below D w w7:=by
  have a1:Below D w4 w5:=HK5.out.below (by have:=HD.out.2;omega) (fun k hk=>(HJL.out k hk).1)
  have a2:Below D w5 w6:=hk6.below (by have:=HD.out.2;omega) (fun k hk=>by
   rcases List.mem_cons.1 hk with rfl | h
   ·exact(HJL.out _ (by simp[xR])).1
   ·rcases HJ5.out.2.2.1 k h with h | h
    ·exact(HJL.out k (by simp[xR,h])).1
    ·have:=HD.out.2;omega)
  have a3:Below D w6 w7:=hk67.below (by have:=HD.out.2;omega) (fun k hk=>by rw[List.mem_singleton.1 hk];exact HST4.out.sbD)
  exact((HBD4.out.trans a1).trans a2).trans a3
 have hst7:StAt D w7 sb b v6 d5.flushed (j.add (3 :: y)) ev5 sy6 x3 w.heap.size w3.heap.size :=
  ⟨hn7,hj7,hx7,by have:=hk67.size;omega,fun k hk=>(hjf k hk).imp (fun h=>by omega) (fun h=>by omega),fun h=>hsbne sb h rfl,.inl (by omega),HST4.out.sbD,by have:=HD.out.2;omega⟩
 have hnd:xY (y.length+1)=xY (3 :: y).length:=by rw[List.length_cons]
 have hsec:((j.add (3 :: y)).secs sha).length=u+xY (y.length+1):=by
  rw[zo,hnd,←HX.out.2.2.2.1,zo]
  show 1+xAq (j.entries++[3 :: y])=_
  unfold xAq
  rw[List.map_append,List.sum_append]
  simp only[List.map_cons,List.map_nil,List.sum_cons,List.sum_nil]
  omega
 have hdn:d5.flushed.n=n:=by
  have h1:d5.n=d.n:=by
   rw[HD5.out]
   refine(JInv.add sha yV HST4.out.jat.inv HST4.out.jat.up (3 :: y) (by rw[List.length_cons];have:=HY.out.2.1;omega) ?_ ?_).2.2.1
   ·have h1:=HX.out.2.2.2.2.1;have h3:=HY.out.2.2;have h2:=HST4.out.jat.dev.n2;rw[HX.out.2.1] at h2;omega
   ·rw[←hnd,HX.out.2.2.2.1,HX.out.2.1];exact HY.out.2.2
  exact(xBj d5).trans (h1.trans HX.out.2.1)
 have hneed:1≤xY (y.length+1):=by unfold xY;omega
 have hkF:Kept (sb :: xR b v ev) w0 w7:=by
  have a0:Kept (sb :: xR b v ev) w0 w4:=Kept.of_below HB04.out
  have a1:Kept (sb :: xR b v ev) w0 w5:=a0.trans HK5.out (fun q hq=>.inl (List.mem_cons_of_mem _ hq))
  have a2:Kept (sb :: xR b v ev) w0 w6:=a1.trans hk6 (fun q hq=>by
   rcases List.mem_cons.1 hq with rfl | h
   ·exact .inl (by simp[xR])
   ·rcases HJ5.out.2.2.1 q h with h | h
    ·exact .inl (by simp[xR,h])
    ·exact .inr (by omega))
  exact a2.trans hk67 (fun q hq=>.inl (by rw[List.mem_singleton.1 hq];simp))
 have hF':∀ k∈sb :: xR b v6 ev5,k∈sb :: xR b v ev∨w3.heap.size≤k:=fun k hk=>by
  rcases List.mem_cons.1 hk with rfl | hk
  ·exact .inl (by simp)
  ·simp only[xR,List.mem_cons,List.mem_append,Option.mem_toList] at hk
   rcases hk with rfl | h | h
   ·exact .inl (by simp[xR])
   ·rcases hf6 k h with h | h
    ·rcases HJ5.out.2.2.1 k h with h | h
     ·exact .inl (by simp[xR,h])
     ·exact .inr (by omega)
    ·exact .inr (by omega)
   ·rcases HJ5.out.2.2.2 k h with h | h
    ·exact .inl (by simp[xR,h])
    ·exact .inr (by omega)
 have HFIN:Hid (kD D sb p n (u+xY (y.length+1)) w0 c' (sb :: xR b v ev) Ap w (.returned (.int .i64 0)) w7):=h_
  ⟨rfl,hBD7,hkF,w3,HX3.out.2.2.2,HB3.out.size,⟨_,⟨b,v6,d5.flushed,j.add (3 :: y),ev5,sy6,x3,_,_,hst7,hv6.trans (HJ5.out.1.trans HX.out.1),hdn,rfl,hsec,by rw[HELE.out];have:=HX.out.2.2.2.2.1;omega,HX3.out.2.1,rfl⟩,hF'⟩,by have:=hk67.size;omega,fun k h1 h2=>(hk67.block k (by omega) (fun hm=>by rw[List.mem_singleton.1 hm] at h1;omega)).trans (hkeep k h1 h2)⟩
 clear hk6 hv6 hM6 hj6 hf6 hwb hl1 hl2 hl3 hl4 hl5 hl6 hf5' hbl hF5 hF6 hkeep hn6 hcs4 hcs hk67 hn7 hsbl hev6 hsbne hjf hj7 hx7 hBD7 hst7 hnd hsec hdn hneed hkF hF' hsb6 HSY
 go_wp2
 go_ret
 rw[←hw7]
 exact HFIN.out
end
def xYq (D sb p n u:Nat)(c:PC)(F:List Nat)(w:World)(e:Ending)(w':World):Prop:=e=.returned (.int .i64 0)∧Below D w w'∧Kept F w w'∧∃ F',StOk D w' sb p n u c F'∧∀ k∈F',k∈F∨w.heap.size≤k
theorem xLl {D sb p n u:Nat}{c:PC}{F:List Nat}{w:World}(h:StOk D w sb p n u c F)(ht:c.tc=none)(hG:Gl w)(hD0:Tryz.prog.globals.size≤D)(hD:D≤w.heap.size)(s:By)(hs:s.length≤1000)(hne:zV (str s)=0)(hfree:u+xY (s.length+6)≤n / 2) :
  Calls Tryz.prog 17 #[.pointer (some ⟨sb,0,none⟩),.string (str s)] w (xYq D sb p n (u+xY (s.length+6)) { c with tc:=some (str s,0,false) } F w):=by
 obtain⟨w1,hw1⟩:∃ w1,w1=w.alloc (.cells #[.string (str s)] 112):=⟨_,rfl⟩
 have hb1:Below w.heap.size w w1:=by rw[hw1];exact b_ _ _
 have hn1:w1.heap[w.heap.size]?=some (.cells #[.string (str s)] 112 (0,0)):=by rw[hw1];exact heap_alloc_new w _
 have hol:=(i_ hn1).1
 have hyl:([4]++(beB 4 s.length++s):By).length+1=s.length+6:=by simp[xv];omega
 have HP:=h_ (xM6 h hb1 (hG.later hb1) hD0 hD w.heap.size { c with tc:=some (str s,0,false) } ([4]++(beB 4 s.length++s)) (fun W=>W.heap[w.heap.size]?=some (.cells #[.string (str s)] 112 (0,0))) (by simp) (by omega) (by rw[hyl];exact hfree)
  (fun W b c1 c2 c3 x nb hbW hle hsep _ hpc hnb=>by
   have hoW:=(hbW.block _ hol).trans hn1
   have htg:x.t.g=none:=by
    have h1:x.t.c=none:=(congrArg PC.tc hpc).trans ht
    unfold Tbl.c at h1
    simpa using h1
   refine(xOt hsep htg nb hnb ((hG.later hb1).later hbW) w.heap.size (str s) (by rw[u1];unfold maxLen;omega) hne hoW).mono ?_
   rintro e w' ⟨h1,h2,h3⟩
   refine⟨h1,h2.mono (Nat.le_trans hb1.size hle),?_,(h2.block _ (Nat.lt_of_lt_of_le hol hle)).trans hoW⟩
   rw[hpc] at h3;exact h3)
  (fun W W' hap hbW=>xMa w.heap.size s hs ((hbW.block _ (i_ hap).1).trans hap)))
 rw[hyl] at HP
 have HB1:=h_ (hb1.mono hD)
 clear h ht hG hD0 hD hs hne hfree hb1 hn1 hol hyl
 go_enter Tryz.func17,Tryz.ntmps17
 go_wp2_with fail
 rw[←hw1]
 refine HP.out.mono ?_
 rintro e w2 ⟨rfl,hb2,hk,W,_,hWs,⟨F',hst',hF'⟩,_⟩
 have hst:∃ F',StOk D w2 sb p n (u+xY (s.length+6)) { c with tc:=some (str s,0,false) } F'∧∀ k∈F',k∈F∨w.heap.size≤k:=⟨F',hst',fun k hk=>(hF' k hk).imp_right (fun h=>Nat.le_trans hWs h)⟩
 have HF:=h_ (And.intro (HB1.out.trans hb2) (And.intro hk hst))
 clear hb2 hst hk hw1 hst' hF' hWs
 go_wp2
 go_ret
 exact⟨rfl,HF.out.1,HF.out.2.1,HF.out.2.2⟩
section
attribute [local go_sem ↓] qP qp qt xV xO
attribute [local go_sem] xEg xE3 zx zA zt zw yD yC xj xh xe xd xA xz xo xl xt xC xx
def WbC (b:Nat)(v:Value):Type:={ z:World // z.heap[b]?=some (.cells #[v] 156 (0,0)) }
theorem WbC.cell {b:Nat}{v:Value}(z:WbC b v):z.1.cell? ⟨b,0,none⟩=some v:=cell_of_row _ _ 0 _ _ _ z.2
theorem xSu {B:Nat}{w:World}{b:Nat}{l:By}(h:WrAt B w b l)(id:Id32)(hl:l.length≤1000000) :
  Calls Tryz.prog 344 #[.pointer (some ⟨b,0,none⟩),.agg (xB id).toArray] w fun e w'=>e=.returned (.tuple #[])∧Below B w w'∧WrAt B w' b (l++id.1):=by
 obtain⟨hB,v,hr,ho⟩:=h
 obtain⟨va,vn,vc,hv⟩:=uQ ho
 have hbl:=(i_ hr).1
 obtain⟨w1,hw1⟩:∃ w1,w1=w.alloc (.cells (xB id).toArray 39):=⟨_,rfl⟩
 have hb1:Below w.heap.size w w1:=by rw[hw1];exact b_ _ _
 have hs1:SlB w1 ⟨w.heap.size,0,none⟩ id.1:=by rw[hw1];exact vK w 39 id.1
 have ho1:=(ho.below hb1)
 have hr1:=(hb1.block _ hbl).trans hr
 have z0:∀ z:WbC b v,z.1.cell? ⟨b,0,none⟩=some v:=fun z=>z.cell
 haveI:Nonempty (WbC b v):=⟨⟨w1,hr1⟩⟩
 have HO1:Hid (OwnB w1.drew B v l):=h_ (ho1.below (Below.refl _ _).drew)
 have HS1:Hid (SlB w1.drew ⟨w.heap.size,0,none⟩ id.1):=h_ ⟨fun q x hq=>hs1.cell q x hq⟩
 have HR1:Hid (w1.drew.heap[b]?=some (.cells #[v] 156 (0,0))):=h_ hr1
 have HB1:Hid (Below B w w1.drew):=h_ ((hb1.mono (by omega)).drew)
 have HSZ:Hid (B≤w1.drew.heap.size):=h_ (by have:=hb1.size;show B≤w1.heap.size;omega)
 have HLL:Hid (l.length+id.1.length≤1000000000000):=h_ (by rw[id.2];omega)
 have HB:=h_ hB
 have HID:=h_ id.2
 subst hv
 clear hB hr ho hbl hb1 hs1 ho1 hl
 go_enter Tryz.func344,Tryz.ntmps344
 go_upto_region 1 with fail
 refine xu hw1 ?_
 clear hw1
 refine xw [0,1,2,3,4,5] [6,7,8,9] (fun w'=>∃ z:WbC b (.slice va vn vc),w'=z.1) (by kernel_rfl) (by kernel_rfl) (by kernel_rfl) ⟨⟨w1.drew,hr1⟩,rfl⟩ ?_
 simp only[o_]
 repeat (go_big_quiet_step (fail))
 refine wpQuiet_nil ?_
 clear z0
 refine yz true (by kernel_rfl) (by kernel_rfl) ?_
 simp only[o_]
 go_wp2_with (at_builtin;refine uq rfl (.tmp 8) (.tmp 9) rfl B _ l rfl HO1.out ⟨w.heap.size,0,none⟩ id.1 32 (by rw[HID.out];rfl) HS1.out HLL.out HSZ.out ?_)
 intro v' w' ho' hg _ _
 obtain⟨a',n',c',hv'⟩:=uQ ho'
 obtain⟨hr2,hb2,hw2⟩:=WrAt.put HB.out HR1.out HO1.out HB1.out hg ho'
 subst hv'
 have f2:=frozen_of_row w' b 0 _ _ hr2
 have c2:=cell_of_row w' b 0 _ _ _ hr2
 simp only[v_] at c2
 have HF:=h_ (And.intro hb2 hw2)
 go_wp2
 refine⟨fun _=>⟨⟨w',hr2⟩,rfl⟩,xG [7,8,9] _ _ (by kernel_rfl) ?_⟩
 clear ho' hg hr2 hb2 hw2 hr1
 simp only[o_]
 go_wp2
 refine NoPanic.normal ?_
 go_wp2
 go_end0
 exact⟨rfl,HF.out.1,HF.out.2⟩
end
section
attribute [local go_sem ↓] qP qp qt xV xO qR qr ki jC
attribute [local go_sem] xEg xE3 zx zA xEi xE5 xHn xGm zt zw yD yC xj xh xe xd xA xz xo xl xt xC xx
theorem xM0 {w:World}(ob:Nat)(id:Id32)(h:w.heap[ob]?=some (.cells (xB id).toArray 109 (0,0))) :
  Calls Tryz.prog 349 #[.pointer (some ⟨ob,0,none⟩)] w fun e w'=>Below w.heap.size w w'∧∃ u,e=.returned u∧OwnB w' w.heap.size u ([3]++id.1):=by
 obtain⟨b,hb⟩:∃ b,b=w.heap.size:=⟨_,rfl⟩
 obtain⟨w1,hw1⟩:∃ w1,w1=w.alloc (.cells #[.slice none 0 0] 156):=⟨_,rfl⟩
 have hb1:Below b w w1:=by rw[hw1,hb];exact b_ _ _
 have hw1a:WrAt b w1 b []:=⟨Nat.le_refl _,_,by rw[hw1,hb];exact heap_alloc_new w _,OwnB.nil _ _⟩
 have HW:=h_ (kp hw1a 3 (by simp))
 have HB1:=h_ hb1
 have HO:=h_ h
 have HBD:=h_ hb
 have HOL:Hid (ob<b):=h_ (by rw[hb];exact(i_ h).1)
 rw[←hb]
 clear h hb1 hw1a
 have hu8:((3:UInt8).toNat:Int)=3:=rfl
 have hs1:(#[Value.slice none 0 0].size == 1)=true:=rfl
 have hf1:xy 1 #[Value.slice none 0 0]=true:=by simp[xy,Value.oneCell']
 rw[hu8] at HW
 go_enter Tryz.func349,Tryz.ntmps349
 go_upto_region 2 with fail
 refine xu hw1 ?_
 rw[←hb]
 clear hw1 hb
 go_wp2_with fail
 refine HW.out.mono ?_
 rintro e w2 ⟨rfl,hb2,hw2⟩
 have HB2:=h_ (HB1.out.trans hb2)
 have ho2:=(HB2.out.block ob HOL.out).trans HO.out
 obtain⟨o2,r2⟩:=yE ho2
 have HT:=h_ (xSu hw2 id (by simp))
 clear hb2 hw2 ho2 HW
 go_wp2_with fail
 refine HT.out.mono ?_
 rintro e w3 ⟨rfl,hb3,hB3,v,hr,ho⟩
 have hall:([]:By)++[3]++id.1=[3]++id.1:=by simp
 rw[hall] at ho
 have c3:=cell_of_row w3 b 0 _ _ _ hr
 simp only[v_] at c3
 have HF:=h_ (And.intro (HB2.out.trans hb3) ho)
 clear hb3 hB3 hr ho hall HT o2 r2
 go_wp2
 go_ret
 exact⟨HF.out.1,v,rfl,HF.out.2⟩
def xAn (g:ByteArray)(p:vz):LF:=fun t=>if t=g then [p] else []
theorem xTy {gs:List MG}{g:ByteArray}{p:vz}(hn:(gs.map fun G=>G.name).Nodup)(hs:∀ G∈gs,G.ms≠[])(hl:lfOf gs=xAn g p){ns:List ByteArray}(ho:ordN ns)(hm:∀ t,t∈ns↔∃ G∈gs,G.name=t):za gs ns p.id=[(g,p.number)]:=by
 have hg:(xD gs g).map (·.p)=[p]:=by
  have:=congrFun hl g
  simpa[lfOf,xAn] using this
 have hne:xD gs g≠[]:=by intro e;rw[e] at hg;cases hg
 obtain⟨G,hG,_,_⟩:=jz hne
 obtain⟨hGm,hGn⟩:=yL hG
 have hin:g∈ns:=(hm g).2 ⟨G,hGm,hGn⟩
 have hall:∀ t∈ns,t=g:=fun t ht=>by
  obtain⟨H,hH,rfl⟩:=(hm t).1 ht
  have h1:xD gs H.name=H.ms:=by unfold xD;rw[kO hn hH]
  have h2:=congrFun hl H.name
  unfold lfOf xAn at h2
  rw[h1] at h2
  split at h2
  ·assumption
  ·exact absurd (List.map_eq_nil_iff.1 h2) (hs H hH)
 have hnd:ns.Nodup:=ho.imp fun {a b} hab e=>by rw[e,xBm] at hab;omega
 have hns:ns=[g]:=by
  cases ns with
  | nil=>cases hin
  | cons t l =>
   have ht:t=g:=hall t (by simp)
   have hl0:l=[]:=by
    cases l with
    | nil=>rfl
    | cons u l =>
     have hu:u=g:=hall u (by simp)
     rw[ht,hu] at hnd
     simp at hnd
   rw[ht,hl0]
 subst hns
 unfold za uW
 obtain⟨m,hmm⟩:∃ m,xD gs g=[m]:=by
  cases h:xD gs g with
  | nil=>exact absurd h hne
  | cons m l =>
   rw[h] at hg
   cases l with
   | nil=>exact⟨m,rfl⟩
   | cons=>simp at hg
 rw[hmm] at hg
 have hp:m.p=p:=by simpa using hg
 simp[hmm,hp]
def xL7 (g:ByteArray)(n:Int)(w:World)(e:Ending)(w':World):Prop:=∃ pb pc,e=.returned (.slice (some ⟨pb,0,none⟩) 1 pc)∧Below w.heap.size w w'∧1≤pc∧w'.cell? ⟨pb,0,none⟩=some (.string g)∧w'.cell? ⟨pb,1,none⟩=some (.int .i64 n)
theorem xRm (B ib M mc:Nat)(gs:List MG)(g:ByteArray)(p:vz)(w:World)(hG:Gl w)(h:ye B w ib M gs mc)(hl:lfOf gs=xAn g p) :
  Calls Tryz.prog 46 #[.pointer (some ⟨ib,0,none⟩),.agg (xB p.id).toArray] w (xL7 g p.number w):=by
 obtain⟨w1,hw1⟩:∃ w1,w1=w.alloc (.cells (xB p.id).toArray 39):=⟨_,rfl⟩
 have hb1:Below w.heap.size w w1:=by rw[hw1];exact b_ _ _
 have hn1:w1.heap[w.heap.size]?=some (.cells (xB p.id).toArray 39 (0,0)):=by rw[hw1];exact heap_alloc_new w _
 obtain⟨o1,r1⟩:=yE hn1
 have HWH:=h_ (xJy B ib M mc gs p.id w1 (hG.later hb1) (h.below hb1))
 have HB1:=h_ hb1
 have HWO:Hid (∀ ns,ordN ns→(∀ t,t∈ns↔∃ G∈gs,G.name=t)→za gs ns p.id=[(g,p.number)]):=h_ (fun ns h1 h2=>xTy h.names (fun G hG=>(h.grps G hG).some') hl h1 h2)
 obtain⟨i0,hi0,hz0,hz1,hz2⟩:=info_parts Tryz.info_pla
 have HI:=h_ (And.intro hi0 (And.intro hz0 (And.intro hz1 hz2)))
 have hzi:(#[Value.string ⟨#[]⟩,Value.int .i64 0].size == 2)=true:=rfl
 clear hG h hl hb1 hn1 hi0 hz0 hz1 hz2
 go_enter Tryz.func46,Tryz.ntmps46
 go_upto_region 1 with fail
 refine xu hw1 ?_
 clear hw1
 go_wp2_with fail
 refine HWH.out.mono ?_
 rintro e w2 ⟨v,ns,rfl,hown,hord,hmem,hb2⟩
 rw[HWO.out ns hord hmem] at hown
 obtain⟨vg,vc,rfl,_,hvc,_,hvl,k0,k1⟩:=xD8 hown
 obtain⟨n,hn⟩:∃ n,n=p.number:=⟨_,rfl⟩
 rw[←hn] at k1
 have HNN:=h_ hn
 have ri:=y7 (w:=w2) (a:=⟨vg,0,none⟩) (cs:=[.string g,.int .i64 n]) (fun j u hj=>by
  rw[Addr.add_lit,Nat.zero_add]
  match j,hj with
  | 0,hj=>rw[k0];exact hj
  | 1,hj=>rw[k1];exact hj)
 obtain⟨o2,r2⟩:=ri
 simp only[List.length_cons,List.length_nil] at o2 r2
 have hft:xy 2 #[Value.string g,.int .i64 n]=true:=by simp[xy,Value.oneCell']
 have hcz:(1:Int)≤vc:=by omega
 obtain⟨w3,hw3⟩:∃ w3,w3=w2.alloc (.cells #[.string g,.int .i64 n] 181):=⟨_,rfl⟩
 have hb3:Below w2.heap.size w2 w3:=by rw[hw3];exact b_ _ _
 have hn3:w3.heap[w2.heap.size]?=some (.cells #[.string g,.int .i64 n] 181 (0,0)):=by rw[hw3];exact heap_alloc_new w2 _
 have c0:=cell_of_row w3 w2.heap.size 0 _ _ _ hn3
 have c1:=cell_of_row w3 w2.heap.size 1 _ _ _ hn3
 simp only[v_] at c0 c1
 have hb4:Below w3.heap.size w3 (w3.alloc (.cells #[.string g,.int .i64 n] 53)):=(Below.refl _ _).alloc (Nat.le_refl _) _
 have hn4:=heap_alloc_new w3 (.cells #[.string g,.int .i64 n] 53)
 have HCS:Hid (∀ j u,([.string g,.int .i64 n]:List Value)[j]?=some u→(w3.alloc (.cells #[.string g,.int .i64 n] 53)).cell? ((⟨w3.heap.size,0,none⟩:Addr).add j)=some u):=h_ fun j u hj=>by
  rw[Addr.add_lit,Nat.zero_add,cell_of_row _ w3.heap.size j _ _ _ hn4,List.getElem?_toArray];exact hj
 have HB3:=h_ (HB1.out.trans ((hb2.trans (hb3.mono hb2.size)).mono HB1.out.size))
 have HB4:=h_ hb4
 clear hown hord hmem hb2 hvc hvl o2 r2 hb3 hn3 hb4 hn4 HWH hn
 go_wp2
 refine yT ?_
 go_upto_region 5 with fail
 refine xu hw3 ?_
 clear hw3 k0 k1
 go_wp2_with (at_builtin;refine wpList_append_own_at _ rfl (.tmp 16) (.tmp 22) 35 rfl w3.heap.size 53 i0 (.agg #[.string ⟨#[]⟩,.int .i64 0]) 2 24 Tryz.underlying35 HI.out.1 HI.out.2.1 HI.out.2.2.1 HI.out.2.2.2 rfl (by decide) _ 0 [] rfl (World.ownsRow_nil _ _ _ _) ⟨w3.heap.size,0,none⟩ 1 1 [.string g,.int .i64 n] rfl rfl HCS.out (by intro u hu;simp at hu;rcases hu with rfl | rfl <;> rfl) (by unfold maxLen;omega) (by omega) HB4.out.size ?_)
 intro v' w' ho hgr _ _
 obtain⟨pb,pc,rfl,hpB,k1,k2,k3,k4,k5⟩:=xD8 ho
 have hb5:Below w3.heap.size w3 w':=HB4.out.grown hgr HB4.out.size (fun k e=>by cases e)
 have HF:Hid (xL7 g n w (.returned (.slice (some ⟨pb,0,none⟩) 1 pc)) w'):=h_ ⟨pb,pc,rfl,HB3.out.trans (hb5.mono HB3.out.size),k1,k4,k5⟩
 clear ho hgr hpB k1 k2 k3 k4 k5 hb5 c0 c1
 go_wp2
 go_ret
 rw[HNN.out] at HF
 exact HF.out
end
end Go.Proofs.YthiafifdiaplaaaGreatDoor
