/- Parts of the proofs about bulletinlaw29: Spo7, Act1, Act2, Act3, Act4, Act5, Act6, Act7, Act8, CloneIdx, Sto1, Sto2, Sto3, Sto4, Sto5, Sto6, Sto7, Sto8, XQ, XR, XS, XT, XU, XV, XW, XX, XY. -/
import Derived.Test.YtegfbhdkenkkdaaGreatDoorRL1
import Derived.Test.YtegfbhdkenkkdaaGreatDoorRL2
import Derived.Test.YtegfbhdkenkkdaaGreatDoorRL3
import Derived.Test.YtegfbhdkenkkdaaGreatDoorRL4
import Derived.WalkMore
import Derived.Lib.AppendStr
import Derived.Lib.ConvBytes
set_option maxRecDepth 100000
set_option linter.all false
set_option maxHeartbeats 8000000
namespace Go.Proofs.YtegfbhdkenkkdaaGreatDoor
open Go Go.RowKit Go.Proofs Tryz
def dl_:=@Go.Lib.wpList_append_own_string
def ei_:=@List.cons.injEq
theorem xLd (a l cap w)(hs:SlB w a l)(ha:a.block<w.heap.size)(hl:l.length=16)(hc:16<=cap)(hcm:cap<=maxLen)(n)(hn:deB (l.take 8)=n)(h1:1<=n)(h2:n<=1073741824)(h0:deB (l.drop 8)=0):
  Calls prog 128 #[.slice (some a) 16 cap] w λe w'=>Below w.heap.size w w'/\∃v,e=.returned (.tuple #[.pointer (some ⟨v.p,0,none⟩),.int .i64 0])/\yE w.heap.size w' v/\v.es=[]/\v.budget=n/\v.bytes=0/\v.next=0:=by
 have lQ:=@run_makeMap prog;obtain⟨r,hr⟩:∃r,r=w.heap.size:=⟨_,rfl⟩;obtain⟨w0,mO⟩:∃w0,w0=w.alloc (.cells #[.slice (some a) 16 cap,.int .i64 0] 299):=⟨_,rfl⟩;have bf:Below w.heap.size w w0:=by rw[mO];exact b_ _ _
 have bd:w0.heap.size=r+1:=by rw[mO,hr];simp
 have hr0:xAp w0 r (.slice (some a) 16 cap) 0:=by unfold xAp;rw[mO,hr];exact heap_alloc_new w _
 have Bo:a.block≠r:=by omega
 have lh:SlB w0 a l:=⟨λq x hq=>(bf.cell (by rw[ya];exact ha)).trans (hs.cell q x hq)⟩;have HN:=h_ (xUb r a 16 cap l w0 hr0 lh hl (by omega) hc hcm Bo n 1 1073741824 hn (by omega) (by omega) (by omega) (by omega));obtain⟨w1,ai⟩:∃w1,w1=w0.setCell ⟨r,0,none⟩ (.slice (some (cutA a cap 8)) (16-8) (cap-8)):=⟨_,rfl⟩;have aV:xAp w1 r (.slice (some (cutA a cap 8)) 8 (cap-8)) 0:=by rw[ai];exact hr0.set _
 have aa:Below w.heap.size w w1:=by rw[ai];exact bf.setCell (p:=⟨r,0,none⟩) (by show w.heap.size<=r;omega) _
 have aL:w1.heap.size=r+1:=by rw[ai];simpa using bd
 rw[<-ai]at HN;obtain⟨w2,aw⟩:∃w2,w2=(w1.alloc (.map #[] 0)).alloc (.cells #[.int .i64 n,.int .i64 0,.int .i64 0,.map (some w1.heap.size)] 101):=⟨_,rfl⟩;have ak:Below w1.heap.size w1 w2:=by rw[aw];exact((ab_ _ _).alloc (aa_ _) _).alloc (by simp) _
 have aj:=aa.trans (ak.mono aa.size);have fY:yE w.heap.size w2 ⟨w1.heap.size+1,w1.heap.size,[],0,n,0,0⟩:=by
  refine⟨?_,?_,by simp,by show w.heap.size<=w1.heap.size+1;omega,by show w.heap.size<=w1.heap.size;omega,⟨λk u h=>by simp[xAh]at h,xCo.nil _,λe h=>by cases h⟩⟩
  ·have:=heap_alloc_new (w1.alloc (.map #[] 0)) (.cells #[.int .i64 n,.int .i64 0,.int .i64 0,.map (some w1.heap.size)] 101);rw[al_]at this;rw[aw];exact this
  ·unfold y4;rw[aw,heap_alloc_old _ _ (by simp),heap_alloc_new];rfl
 have aP:xAp w2 r (.slice (some (cutA a cap 8)) 8 (cap-8)) 0:=(ak.block r (by omega)).trans aV;have cT:SlB w2 a l:=⟨λq x hq=>(aj.cell (by rw[ya];exact ha)).trans (hs.cell q x hq)⟩;have HC:=h_ (xMl r (cutA a cap 8) 8 (cap-8) (l.drop 8) w2 aP (cT.cut (by omega) 8) (by rw[ao_];omega) (by omega) (by omega) (by omega) (by rw[ky];exact Bo));rw[ar_ (by rw[ao_];omega),h0,show ((0:Nat):Int)=0 from rfl]at HC;obtain⟨w3,bm⟩:∃w3,w3=w2.setCell ⟨r,0,none⟩ (.slice (some (cutA (cutA a cap 8) (cap-8) 8)) (8-8) (cap-8-8)):=⟨_,rfl⟩;have dv:xAp w3 r (.slice (some (cutA (cutA a cap 8) (cap-8) 8)) 0 (cap-8-8)) 0:=by rw[bm];exact aP.set _
 rw[<-bm]at HC;have al:Below w.heap.size w w3:=by rw[bm];exact aj.setCell (p:=⟨r,0,none⟩) (by show w.heap.size<=r;omega) _
 have nr:yE w.heap.size w3 ⟨w1.heap.size+1,w1.heap.size,[],0,n,0,0⟩:=by
  rw[bm];refine⟨(heap_setCell_other w2 ⟨r,0,none⟩ (w1.heap.size+1) _ (by show w1.heap.size+1≠r;omega)).trans fY.blk,(heap_setCell_other w2 ⟨r,0,none⟩ w1.heap.size _ (by show w1.heap.size≠r;omega)).trans fY.map,fY.ne,fY.pB,fY.MB,fY.vals⟩
 have HF:=h_ (xIs r _ 5 w3 dv);have q0:=cell_of_row w3 r 0 _ _ _ dv;have q1:=cell_of_row w3 r 1 _ _ _ dv;simp only[v_]at q0 q1;have HA:=h_ (And.intro al nr);obtain⟨ad,Iv⟩:∃ad,ad=cutA (cutA a cap 8) (cap-8) 8:=⟨_,rfl⟩;rw[<-Iv]at q0;clear hs ha hl hc hcm hn h1 h2 h0 bf bd hr0 Bo lh ai aV aa aL ak aj fY aP cT bm dv al nr Iv;go_enter func128,ntmps128;go_upto_region 2 with fail
 refine xr mO ?_;rw[<-hr];clear mO hr;go_wp2_with fail;refine HN.mono ?_;rintro e w' ⟨rfl,rfl⟩;go_upto_region 3 with fail
 refine xr aw ?_;clear aw;go_wp2_with fail;refine HC.mono ?_;rintro e w' ⟨rfl,rfl⟩;go_wp2;refine wp_loop_once ?_;go_wp2_with fail;refine HF.mono ?_;rintro e w' ⟨rfl,rfl⟩;go_wp2;go_ret2;exact⟨HA.1,⟨w1.heap.size+1,w1.heap.size,[],0,n,0,0⟩,rfl,HA.2,rfl,rfl,rfl,rfl⟩
theorem jA (ρ:Operand->Value)(d x)(ty:TypeId)(pos af g w):
  Sem.run prog (execOp ρ ⟨d,.load 193 x,ty,pos,af,g⟩) w=yp prog 193 w (ρ x):=rfl
theorem vP (ρ:Operand->Value)(d x y)(ty:TypeId)(pos af g w):
  Sem.run prog (execOp ρ ⟨d,.store 193 x y,ty,pos,af,g⟩) w=yi prog 193 w (ρ x) (ρ y):=rfl
theorem xJp (w a)(h:xo w a 3=true):yp prog 193 w (.pointer (some a))=.ok (.value (.agg (xm w a 3))) w:=
 yf isAgg193 sizeOf193 w a h
theorem xIn (w g cells)(h:xM w g 3=true)(h2:xy 3 cells=true):
  yi prog 193 w (.pointer (some ⟨g,0,none⟩)) (.agg cells)=.ok .skip (w.setRow g cells):=yo (by kernel_rfl) w g cells h h2
theorem qM (ρ:Operand->Value)(d x)(ty:TypeId)(pos af g w):
  Sem.run prog (execOp ρ ⟨d,.load 62 x,ty,pos,af,g⟩) w=yp prog 62 w (ρ x):=rfl
theorem qr (ρ:Operand->Value)(d x y)(ty:TypeId)(pos af g w):
  Sem.run prog (execOp ρ ⟨d,.store 62 x y,ty,pos,af,g⟩) w=yi prog 62 w (ρ x) (ρ y):=rfl
theorem xE3 (w a)(h:xo w a 2=true):yp prog 62 w (.pointer (some a))=.ok (.value (.agg (xm w a 2))) w:=
 yf isAgg62 sizeOf62 w a h
theorem xDu (w g cells)(h:xM w g 2=true)(h2:xy 2 cells=true):
  yi prog 62 w (.pointer (some ⟨g,0,none⟩)) (.agg cells)=.ok .skip (w.setRow g cells):=yo (by kernel_rfl) w g cells h h2
theorem xT0 (ρ:Operand->Value)(d x)(ty:TypeId)(pos af g w):
  Sem.run prog (execOp ρ ⟨d,.load 244 x,ty,pos,af,g⟩) w=yp prog 244 w (ρ x):=rfl
theorem xPk (ρ:Operand->Value)(d x y)(ty:TypeId)(pos af g w):
  Sem.run prog (execOp ρ ⟨d,.store 244 x y,ty,pos,af,g⟩) w=yi prog 244 w (ρ x) (ρ y):=rfl
theorem yEu (w a)(h:xo w a 2=true):yp prog 244 w (.pointer (some a))=.ok (.value (.agg (xm w a 2))) w:=
 yf isAgg244 sizeOf244 w a h
theorem yEb (w g cells)(h:xM w g 2=true)(h2:xy 2 cells=true):
  yi prog 244 w (.pointer (some ⟨g,0,none⟩)) (.agg cells)=.ok .skip (w.setRow g cells):=yo (by kernel_rfl) w g cells h h2
structure AG where
 name:ByteArray
 high:Nat
 pres:Option (Nat×Nat)
 born:Nat
def zk (p:Option (Nat×Nat)):Value:=match p with
 |none=>.slice none 0 0
 |some x=>.slice (some ⟨x.1,0,none⟩) 1 x.2
def y7 (h:Nat)(v:Value):Array Value:=#[.int .i64 h,.bool false,v]
def AG.e (g:AG):KE ByteArray:=⟨g.name,.agg (y7 g.high (zk g.pres)),g.born⟩
def uU:Array Value:=#[.int .i64 0,.bool false,.slice none 0 0]
theorem xIa (w):(zeroValue 193).run prog w=.ok (.agg uU) w:=by kernel_rfl
theorem vS (ρ:Operand->Value)(d)(ty:TypeId)(pos af g w):
  Sem.run prog (execOp ρ ⟨d,.alloc 193,ty,pos,af,g⟩) w=.ok (.value (.pointer (some ⟨w.heap.size,0,none⟩))) (w.alloc (.cells uU 193)):=by kernel_rfl
def IvAt (B:Nat)(w:World)(h:Nat)(p:Option (Nat×Nat)):Prop:=∀x,p=some x->B<=x.1/\1<=x.2/\x.2<=maxLen/\w.cell? ⟨x.1,0,none⟩=some (.int .i64 h)/\w.cell? ⟨x.1,1,none⟩=some (.int .i64 h)
theorem IvAt.nil (B w h):IvAt B w h none:=λ_ e=>by cases e
theorem IvAt.kept {B w w' h p}(hi:IvAt B w h p){F}(hk:Kept F w w')(hF:∀x,p=some x->x.1∉F):IvAt B w' h p:=λx e=>by
 obtain⟨h1,h2,C5,h3,h4⟩:=hi x e;have hb:=hk.block x.1 (block_lt_of_cell h3) (hF x e);exact⟨h1,h2,C5,(aN_ (a:=⟨x.1,0,none⟩) hb).trans h3,(aN_ (a:=⟨x.1,1,none⟩) hb).trans h4⟩
structure Tbl where
 p:Nat
 M:Nat
 mc:Nat
 g:Option AG
def Tbl.es (v:Tbl):List (KE ByteArray):=match v.g with
 |none=>[]
 |some g=>[g.e]
structure yU (B:Nat)(w:World)(v:Tbl):Prop where
 blk:w.heap[v.p]?=some (.cells #[.map (some v.M)] 160 (0,0))
 map:y4 ekS w v.M v.es v.mc
 ne:v.p≠v.M
 pB:B<=v.p
 MB:B<=v.M
 ivs:∀g,v.g=some g->IvAt B w g.high g.pres
 young:∀g,v.g=some g->g.born<v.mc
def Tbl.foot (v:Tbl):List Nat:=[v.p,v.M]++((v.g.bind (·.pres)).map (·.1)).toList
theorem yU.lt {B w v}(h:yU B w v):v.p<w.heap.size/\v.M<w.heap.size:=⟨(i_ h.blk).1,h.map.lt⟩
theorem yU.kept {B w w' v F}(h:yU B w v)(hk:Kept F w w')(hF:∀k∈v.foot,k∉F):yU B w' v:=
 ⟨(hk.block _ h.lt.1 (hF _ (by simp[Tbl.foot]))).trans h.blk,(hk.block _ h.lt.2 (hF _ (by simp[Tbl.foot]))).trans h.map,h.ne,h.pB,h.MB,
  λg hg=>(h.ivs g hg).kept hk λx hx=>hF _ (by simp[Tbl.foot,hg,hx]),h.young⟩
theorem yU.below {B w w' v}(h:yU B w v)(hb:Below w.heap.size w w'):yU B w' v:=h.kept (Kept.of_below (F:=[]) hb) (λ_ _ h=>by cases h)
theorem yU.foot_lt {B w v}(h:yU B w v):∀k∈v.foot,B<=k/\k<w.heap.size:=by
 intro k hk;unfold Tbl.foot at hk;simp only[aj_,ae_,ch_,or_false]at hk;rcases hk with (rfl|rfl)|hk
 ·exact⟨h.pB,h.lt.1⟩
 ·exact⟨h.MB,h.lt.2⟩
 ·cases hg:v.g with
  |none=>simp[hg]at hk
  |some g=>
   cases hp:g.pres with
   |none=>simp[hg,hp]at hk
   |some x=>
    simp[hg,hp]at hk;obtain⟨h1,_,_,h3,_⟩:=h.ivs g hg x hp;subst hk;exact⟨h1,block_lt_of_cell h3⟩
theorem yU.look_no {B w v}(h:yU B w v)(hg:v.g=none)(k):∀W,W.heap[v.M]?=w.heap[v.M]?->(Instr.lookup 158 (.map (some v.M)) (.string k) true).run prog W=.ok (.tuple #[.agg uU,.bool false]) W:=λW hW=>by
 have h1:=xCv keyS underlying158 (.agg uU) xIa W v.M v.es v.mc (by have:=h.map;unfold y4 at this⊢;exact hW.trans this) k;have he:v.es=[]:=by unfold Tbl.es;rw[hg]
 rw[he]at h1;exact h1
theorem yU.look_yes {B w v}(h:yU B w v){g}(hg:v.g=some g):∀W,W.heap[v.M]?=w.heap[v.M]?->(Instr.lookup 158 (.map (some v.M)) (.string g.name) true).run prog W=.ok (.tuple #[.agg (y7 g.high (zk g.pres)),.bool true]) W:=λW hW=>by
 have h1:=xCv keyS underlying158 (.agg uU) xIa W v.M v.es v.mc (by have:=h.map;unfold y4 at this⊢;exact hW.trans this) g.name;have he:v.es=[g.e]:=by unfold Tbl.es;rw[hg]
 have hf:yN g.name [g.e] 0=some (0,.agg (y7 g.high (zk g.pres))):=by simp[yN,AG.e]
 rw[he,hf]at h1;exact h1
theorem yU.get_yes {B w v}(h:yU B w v){g}(hg:v.g=some g):∀W,W.heap[v.M]?=w.heap[v.M]?->(Instr.lookup 158 (.map (some v.M)) (.string g.name) false).run prog W=.ok (.agg (y7 g.high (zk g.pres))) W:=λW hW=>by
 have h1:=xF4 keyS underlying158 (.agg uU) xIa W v.M v.es v.mc (by have:=h.map;unfold y4 at this⊢;exact hW.trans this) g.name;have he:v.es=[g.e]:=by unfold Tbl.es;rw[hg]
 have hf:yN g.name [g.e] 0=some (0,.agg (y7 g.high (zk g.pres))):=by simp[yN,AG.e]
 rw[he,hf]at h1;exact h1
theorem yU.put {B w v}(h:yU B w v)(k hi p)(hk:∀g,v.g=some g->g.name=k)(rH:IvAt B w hi p):
  ∃g mc,g.name=k/\g.high=hi/\g.pres=p/\(Instr.mapUpdate 158 (.map (some v.M)) (.string k) (.agg (y7 hi (zk p)))).run prog w=.ok () (w.putObj v.M (.map ((Tbl.es ⟨v.p,v.M,mc,some g⟩).map (enE ekS)).toArray mc)) /\
   yU B (w.putObj v.M (.map ((Tbl.es ⟨v.p,v.M,mc,some g⟩).map (enE ekS)).toArray mc)) ⟨v.p,v.M,mc,some g⟩:=by
 have h1:=xEv keyS underlying158 w v.M v.es v.mc h.map k (.agg (y7 hi (zk p)));have hne:∀x,p=some x->x.1≠v.M:=λx hx e=>by
  obtain⟨_,_,_,h3,_⟩:=rH x hx;have hm:=h.map;unfold y4 at hm;unfold World.cell? at h3;rw[show (⟨x.1,0,none⟩:Addr).block=v.M from e,hm]at h3;cases h3
 have NQ:∀o,IvAt B (w.putObj v.M o) hi p:=λo=>rH.kept (qX w v.M o) (λx hx=>by simp;exact hne x hx)
 cases hg:v.g with
 |none=>
  have he:v.es=[]:=by unfold Tbl.es;rw[hg]
  have hp:putL k (.agg (y7 hi (zk p))) v.mc []=[⟨k,.agg (y7 hi (zk p)),v.mc⟩]:=rfl;have hc:putC k v.mc ([]:List (KE ByteArray))=v.mc+1:=rfl;rw[he,hp,hc]at h1;refine⟨⟨k,hi,p,v.mc⟩,v.mc+1,rfl,rfl,rfl,h1,⟨(aB_ h.ne).trans h.blk,h.map.put,h.ne,h.pB,h.MB,?_,?_⟩⟩
  ·rintro g tR;cases tR;exact NQ _
  ·rintro g tR;cases tR;exact cQ_ _
 |some g=>
  have he:v.es=[g.e]:=by unfold Tbl.es;rw[hg]
  have mN:=hk g hg;have hp:putL k (.agg (y7 hi (zk p))) v.mc [g.e]=[⟨k,.agg (y7 hi (zk p)),g.born⟩]:=by
   subst mN;simp[putL,getK,yN,updL,AG.e]
  have hc:putC k v.mc [g.e]=v.mc:=by
   subst mN;simp[putC,getK,yN,AG.e]
  rw[he,hp,hc]at h1;refine⟨⟨k,hi,p,g.born⟩,v.mc,rfl,rfl,rfl,h1,⟨(aB_ h.ne).trans h.blk,h.map.put,h.ne,h.pB,h.MB,?_,?_⟩⟩
  ·rintro g' tR;cases tR;exact NQ _
  ·rintro g' tR;cases tR;exact h.young g hg
theorem xKy (w):Calls prog 43 #[] w λe w'=>e=.returned (.pointer (some ⟨w.heap.size+1,0,none⟩))/\Below w.heap.size w w'/\yU w.heap.size w' ⟨w.heap.size+1,w.heap.size,0,none⟩:=by
 have lQ:=@run_makeMap prog;have hb:Below w.heap.size w ((w.alloc (.map #[] 0)).alloc (.cells #[.map (some w.heap.size)] 160)):=((ab_ _ _).alloc (aa_ _) _).alloc (by simp) _;have aB:yU w.heap.size ((w.alloc (.map #[] 0)).alloc (.cells #[.map (some w.heap.size)] 160)) ⟨w.heap.size+1,w.heap.size,0,none⟩:=by
  refine⟨?_,?_,by simp,by simp,aa_ _,λg h=>(by cases h),λg h=>(by cases h)⟩
  ·have:=heap_alloc_new (w.alloc (.map #[] 0)) (.cells #[.map (some w.heap.size)] 160);rw[al_]at this;exact this
  ·unfold y4;rw[heap_alloc_old _ _ (by simp),heap_alloc_new];rfl
 have HB:=h_ hb;have HA:=h_ aB;clear hb aB;go_enter func43,ntmps43;go_wp2;go_ret;exact⟨rfl,HB.out,HA.out⟩
section
attribute [local go_sem ↓] jA vP vS
attribute [local go_sem] xJp xIn zn zu yx yw xh xf xa x9 xu xv xk xj xq xx xt
theorem xFd (h p):xy 3 (y7 h (zk p))=true:=by
 unfold y7 zk;cases p <;> simp[xy,Value.oneCell']
theorem xYt {B w v}(h:yU B w v)(hg:v.g=none)(k)(hG:Gl w)(hk:k.size<=maxLen)(hn:uw k=0):
  Calls prog 342 #[.pointer (some ⟨v.p,0,none⟩),.string k] w λe w'=>e=.returned (.int .i64 0)/\Kept [v.M] w w'/\∃g mc,g.name=k/\g.high=0/\g.pres=none/\yU B w' ⟨v.p,v.M,mc,some g⟩:=by
 have HC:=h_ (xDh k w hG hk);rw[hn]at HC;have H:=h_ h;have Kh:=h_ hg;clear h hG hk hn hg;go_enter func342,ntmps342;go_wp2_with fail;refine HC.mono ?_;rintro e w1 ⟨rfl,aa⟩;clear HC;have ar:=h_ aa;have bg:=H.below aa;have c0:=cell_of_row w1 v.p 0 _ _ _ bg.blk;simp only[v_]at c0;have cW:=bg.look_no Kh.out k w1 rfl;obtain⟨w2,aw⟩:∃w2,w2=w1.alloc (.cells uU 193):=⟨_,rfl⟩;have aj:Below w1.heap.size w1 w2:=by rw[aw];exact b_ _ _
 have aA:w2.heap[w1.heap.size]?=some (.cells uU 193 (0,0)):=by rw[aw];exact heap_alloc_new w1 _
 have bE:=bg.below aj;have au:=h_ (aa.trans (aj.mono aa.size));have mI:=h_ bE;have bQ:=h_ aA;have Kv:(uU.size==3)=true:=rfl;have gw:xy 3 uU=true:=xFd 0 none;clear bg aa aj aA bE;go_upto_region 7 with fail
 refine xr aw ?_;clear aw cW c0;have Iw:=mI.out;have c2:=cell_of_row w2 v.p 0 _ _ _ Iw.blk;have q1:=cell_of_row w2 w1.heap.size 1 _ _ _ bQ.out;have f1:=frozen_of_row w2 w1.heap.size 1 _ _ bQ.out;simp only[uU,v_]at c2 q1;have cX:=xF6 underlying158 Iw.map 3;have hes:v.es=[]:=by unfold Tbl.es;rw[Kh.out]
 rw[hes,bm_,show ((0:Nat):Int)=0 from rfl]at cX;have hq:∀w,Sem.run prog (binOp .eql 158 (.map (some v.M)) (.map none)) w=.ok (.bool false) w:=λw=>run_eql_map_nil w 158 _ _ (some v.M) underlying158
 obtain⟨w3,bm⟩:∃w3,w3=w2.setCell ⟨w1.heap.size,1,none⟩ (.bool false):=⟨_,rfl⟩;have al:Below w.heap.size w w3:=by rw[bm];exact au.setCell (p:=⟨w1.heap.size,1,none⟩) ar.size _
 have bK:w3.heap[w1.heap.size]?=some (.cells uU 193 (0,0)):=by rw[bm,heap_setCell_same w2 w1.heap.size 1 _ _ _ bQ.out];rfl
 have fk:=H.below al;have ay:=h_ al;have CQ:=h_ fk;have c3:=cell_of_row w3 v.p 0 _ _ _ fk.blk;simp only[v_]at c3;have z0:∀z:x8 w3,z.1.cell? ⟨v.p,0,none⟩=some (.map (some v.M)):=λz=>z.cell c3
 have rr:=xD (n:=3) bK rfl;have z1:∀z:x8 w3,xo z.1 ⟨w1.heap.size,0,none⟩ 3=true:=λz=>x8.ok rr.1 z
 have z2:∀z:x8 w3,xm z.1 ⟨w1.heap.size,0,none⟩ 3=uU:=λz=>(x8.rd rr.1 z).trans rr.2
 clear al bK fk c3 rr Iw hes;go_upto_region 11 with fail
 clear cX;go_upto_region 14 with fail
 refine xr bm ?_;clear bm c2 q1 f1 hq;have eq:=CQ.below ((ab_ w3.heap.size w3).drew);obtain⟨g,mc,e1,e2,e3,dB,aB⟩:=eq.put k 0 none (λg e=>by rw[Kh.out]at e;cases e) (IvAt.nil _ _ _)
 have ef:Kept [v.M] w (w3.drew.putObj v.M (.map ((Tbl.es ⟨v.p,v.M,mc,some g⟩).map (enE ekS)).toArray mc)):=(Kept.of_below (F:=[v.M]) (ay.trans ((ab_ w3.heap.size w3).drew.mono ay.size))).trans (qX _ _ _) (λq hq=>.inl hq);have HF:=h_ (And.intro ef aB);have HE:=h_ (And.intro e1 (And.intro e2 e3));generalize w3.drew.putObj v.M (.map ((Tbl.es ⟨v.p,v.M,mc,some g⟩).map (enE ekS)).toArray mc)=w5 at dB HF;have XZ:y7 0 (zk none)=uU:=rfl;rw[XZ]at dB;clear eq e1 e2 e3 ef aB XZ;refine xp [0,1,2,3,4,5] [6] (λw'=>∃z:x8 w3,w'=z.1) (by kernel_rfl) (by kernel_rfl) (by kernel_rfl) ⟨⟨w3.drew,(ab_ _ _).drew⟩,rfl⟩ ?_;simp only[o_]
 repeat (go_big_quiet_step (fail))
 refine wpQuiet_nil ?_;clear z0 z1 z2;refine xB [6] _ _ (by kernel_rfl) ?_;simp only[o_];go_wp2;refine ag_ ?_;clear dB;go_wp2;go_ret;exact⟨rfl,HF.1,g,mc,HE.1,HE.2.1,HE.2.2,HF.2⟩
end
section
theorem yH {P c}{Q:Exit->Act->World->Prop}{a w}
  (h:c.wp P (Exit.then (λa' w'=>c.wp P (Exit.then (λ_ _=>False) Q) a' w') Q) a w):(Code.loop c).wp P Q a w:=by
 classical
 refine wp_loop (λa' w'=>(a'=a/\w'=w)\/c.wp P (Exit.then (λ_ _=>False) Q) a' w') (λa' w'=>if c.wp P (Exit.then (λ_ _=>False) Q) a' w' then 0 else 1) (.inl ⟨rfl,rfl⟩) λa' w' hI=>?_
 by_cases hJ:c.wp P (Exit.then (λ_ _=>False) Q) a' w'
 ·exact Code.wp_mono (λe a w q=>by cases e <;> first|exact q|exact q.elim) hJ
 ·rcases hI with⟨rfl,rfl⟩|hI
  ·refine Code.wp_mono (λe a w q=>?_) h;cases e <;> first|exact q|(have q':c.wp P (Exit.then (λ_ _=>False) Q) a w:=q;exact⟨.inr q',by rw[if_neg hJ,if_pos q'];exact Nat.zero_lt_one⟩)
  ·exact absurd hI hJ
theorem xEz {w:World}{B}{e:TypeId}{v x y}(h:w.ownsRow B e 2 v 1 [x,y]):∃g cap,v=.slice (some ⟨g,0,none⟩) 1 cap/\B<=g/\1<=cap/\cap<=maxLen/\g<w.heap.size/\w.cell? ⟨g,0,none⟩=some x/\w.cell? ⟨g,1,none⟩=some y:=by
 rcases h.2 with⟨_,h0⟩|⟨g,cap,cur,hv,hg,aq,hle,dC,aJ,eG⟩
 ·omega
 ·refine⟨g,cap,hv,hg,hle,dC,(i_ aq).1,?_,?_⟩
  ·rw[cell_of_row w g 0 _ _ _ aq];have h1:cur.toList[0]?=some x:=by
    have:(cur.toList.take (1*2))[0]?=some x:=by rw[eG];rfl
    rwa [bx_ (by omega)]at this
   rw[<-cf_];exact h1
  ·rw[cell_of_row w g 1 _ _ _ aq];have h1:cur.toList[1]?=some y:=by
    have:(cur.toList.take (1*2))[1]?=some y:=by rw[eG];rfl
    rwa [bx_ (by omega)]at this
   rw[<-cf_];exact h1
attribute [local go_sem ↓] jA vP vS
attribute [local go_sem] xJp xIn zn zu yx yw xh xf xa x9 xu xv xk xj xq xx xt
theorem xUf (a cap s w):Calls prog 238 #[.slice (some a) 0 cap,.string s] w λe w'=>e=.returned (.int .i64 (-1))/\w=w':=by
 go_enter func238,ntmps238;go_wp2;refine wp_loop_once ?_;go_wp2;go_ret;exact⟨rfl,rfl⟩
theorem xLe (a cap s w):Calls prog 197 #[.slice (some a) 0 cap,.string s] w λe w'=>e=.returned (.bool false)/\w=w':=by
 have HI:=h_ (xUf a cap s w);go_enter func197,ntmps197;go_wp2_with fail;refine HI.mono ?_;rintro e w' ⟨rfl,rfl⟩;go_wp2;go_ret;exact⟨rfl,rfl⟩
theorem Tryz.info_ivl:(prog.info? 244).map (λi=>(i.zero,i.size,i.bytes))=some (some (.agg #[.int .i64 0,.int .i64 0]),2,16):=by kernel_rfl
theorem Tryz.info_pla:(prog.info? 62).map (λi=>(i.zero,i.size,i.bytes))=some (some (.agg #[.string ⟨#[]⟩,.int .i64 0]),2,24):=by kernel_rfl
theorem xYs (n:Nat)(_hn:n<=2147483647)(w):Calls prog 323 #[.slice none 0 0,.int .i64 n] w λe w'=>Below w.heap.size w w'/\∃x,e=.returned (zk (some x))/\IvAt w.heap.size w' n (some x):=by
 obtain⟨i0,hi,bd,aL,bk⟩:=info_parts Tryz.info_ivl;have aa:Below w.heap.size w (w.alloc (.cells #[.int .i64 n,.int .i64 n] 244)):=(ab_ _ _).alloc (aa_ _) _;have az:(w.alloc (.cells #[.int .i64 n,.int .i64 n] 244)).heap[w.heap.size]?=some (.cells #[.int .i64 n,.int .i64 n] 244 (0,0)):=heap_alloc_new w _;have aJ:∀j u,([.int .i64 n,.int .i64 n]:List Value)[j]?=some u->(w.alloc (.cells #[.int .i64 n,.int .i64 n] 244)).cell? ((⟨w.heap.size,0,none⟩:Addr).add j)=some u:=λj u hj=>by
  rw[an_,aq_,cell_of_row (w.alloc (.cells #[.int .i64 n,.int .i64 n] 244)) w.heap.size j _ _ _ az,ah_];exact hj
 have HI:=h_ (And.intro hi (And.intro bd (And.intro aL bk)));have ar:=h_ aa;have nD:=h_ aJ;clear hi bd aL bk aa az aJ;go_enter func323,ntmps323;go_upto_region 5 with fail
 go_wp2_with (at_builtin;refine wpList_append_own_at _ rfl (.tmp 27) (.tmp 31) 191 rfl w.heap.size 244 i0 (.agg #[.int .i64 0,.int .i64 0]) 2 16 underlying191 HI.1 HI.2.1 HI.2.2.1 HI.2.2.2 rfl (by decide) _ 0 [] rfl (aP_ _ _ _ _) ⟨w.heap.size,0,none⟩ 1 1 [.int .i64 n,.int .i64 n] rfl rfl nD.out (by intro u hu;simp at hu;subst hu;rfl) (by unfold maxLen;omega) (by omega) ar.size ?_);intro v' w' ho hg _ _;obtain⟨g,cap,rfl,hB,h1,h2,_,h3,h4⟩:=xEz ho;have HF:=h_ (And.intro (ar.grown hg ar.size (λk e=>by cases e)) (show IvAt w.heap.size w' n (some (g,cap))from λx e=>by cases e;exact⟨hB,h1,h2,h3,h4⟩));clear ho hg hB h1 h2 h3 h4;go_wp2;go_ret;exact⟨HF.1,(g,cap),rfl,HF.2⟩
theorem xYv {B w v}(h:yU B w v)(g)(hg:v.g=some g):
  Calls prog 332 #[.pointer (some ⟨v.p,0,none⟩),.string g.name] w λe w'=>Below w.heap.size w w'/\e=.returned (.tuple #[.agg (y7 g.high (zk g.pres)),.int .i64 0]):=by
 obtain⟨w1,ai⟩:∃w1,w1=w.alloc (.cells uU 193):=⟨_,rfl⟩;have aa:Below w.heap.size w w1:=by rw[ai];exact b_ _ _
 have az:w1.heap[w.heap.size]?=some (.cells uU 193 (0,0)):=by rw[ai];exact heap_alloc_new w _
 have bg:=h.below aa;have c0:=cell_of_row w1 v.p 0 _ _ _ bg.blk;simp only[v_]at c0;have cW:=bg.look_yes hg w1 rfl;obtain⟨w2,aw⟩:∃w2,w2=w1.alloc (.cells (y7 g.high (zk g.pres)) 193):=⟨_,rfl⟩;have aj:Below w1.heap.size w1 w2:=by rw[aw];exact b_ _ _
 have aA:w2.heap[w1.heap.size]?=some (.cells (y7 g.high (zk g.pres)) 193 (0,0)):=by rw[aw];exact heap_alloc_new w1 _
 have aP:=(aj.block _ (i_ az).1).trans az;have iA:=xFd g.high g.pres;have Kv:(uU.size==3)=true:=rfl;obtain⟨o2,r2⟩:=xD (n:=3) aA rfl;have bu:xM w2 w.heap.size 3=true:=zN aP rfl;have dv:=setRow_heap w2 w.heap.size _ (y7 g.high (zk g.pres)) _ _ aP;obtain⟨o3,r3⟩:=xD (n:=3) dv rfl;have HF:=h_ (And.intro (xK (aa.trans (aj.mono aa.size)) (aa_ _) (y7 g.high (zk g.pres))) (And.intro o3 r3));generalize y7 g.high (zk g.pres)=cs at cW aw iA o2 r2 HF⊢;clear h aa az bg aj aA aP dv o3 r3;go_enter func332,ntmps332;go_upto_region 1 with fail
 refine xr ai ?_;clear ai;go_upto_region 4 with fail
 refine xr aw ?_;clear aw cW;go_wp2;exact bodyPost_ret (v:=.tuple #[.agg cs,.int .i64 0]) (qV rfl isAgg193 sizeOf193 _ _ ⟨w.heap.size,0,none⟩ _ _ rfl rfl HF.2.1 HF.2.2) rfl ⟨HF.1,rfl⟩
end
section
attribute [local go_sem ↓] jA vP vS
attribute [local go_sem] xJp xIn zn zu yx yw xh xf xa x9 xu xv xk xj xq xx xt
theorem xYh:prog.elem 34=9:=by kernel_rfl
theorem xZa (a len cap w):Sem.run prog (Instr.sliceAt 34 (.slice (some a) len cap) none (some (.int .i64 0)) none) w=.ok (.slice (some a) 0 cap) w:=by
 rw[run_sliceAt_slice w 34 _ _ _ _ (by kernel_rfl),run_slice_h w 34 (some a) len cap (by kernel_rfl) .i64 0 (by omega) (by omega),xYh,sizeOf9];simp only[aw_,sliced,aU_,dI_,bZ_];split <;> rfl
theorem xTq {B w v}(h:yU B w v)(g)(hg:v.g=some g)(hp:g.pres=none)(hh:g.high<=1000000)(a cap)(ha:w.cell? a=some (.string g.name))(hc:1<=cap):
  Calls prog 321 #[.pointer (some ⟨v.p,0,none⟩),.slice (some a) 1 cap] w λe w'=>
   ∃pb pc,e=.returned (.tuple #[.slice (some ⟨pb,0,none⟩) 1 pc,.int .i64 0])/\w.heap.size<=pb/\pb<w'.heap.size/\1<=pc/\pc<=maxLen/\w'.cell? ⟨pb,0,none⟩=some (.string g.name)/\w'.cell? ⟨pb,1,none⟩=some (.int .i64 (g.high+1:Nat)) /\
   Kept [v.M] w w'/\∃g' mc x,g'.name=g.name/\g'.high=g.high+1/\g'.pres=some x/\w.heap.size<=x.1/\x.1≠pb/\yU B w' ⟨v.p,v.M,mc,some g'⟩:=by
 have hab:=block_lt_of_cell ha;have c0:=cell_of_row w v.p 0 _ _ _ h.blk;simp only[v_]at c0;obtain⟨w1,ai⟩:∃w1,w1=w.alloc (.cells (y7 g.high (.slice none 0 0)) 193):=⟨_,rfl⟩;have aa:Below w.heap.size w w1:=by rw[ai];exact b_ _ _
 have az:w1.heap[w.heap.size]?=some (.cells (y7 g.high (.slice none 0 0)) 193 (0,0)):=by rw[ai];exact heap_alloc_new w _
 have cW:=h.look_yes hg w rfl;rw[hp]at cW;have iA:=xFd g.high none;have Kv:(uU.size==3)=true:=rfl;have Kb:=xZa a 1 cap;have bP:(1:Int)<=cap:=by omega
 have Aw:=h_ (xLe a cap g.name w);have H:=h_ h;have HG:=h_ (And.intro hg hp);have ar:=h_ aa;have cz:=h_ az;have HA:=h_ ha;have HHH:=h_ hh;unfold zk at cW iA;obtain⟨hi,mP⟩:∃hi:Int,hi=(g.high:Int):=⟨_,rfl⟩;have hhz:hi<=1000000:=by omega
 have hhz0:0<=hi:=by omega
 have hdd:decide (2147483646<=hi)=false:=decide_eq_false (by omega);unfold y7 at ai cW iA;rw[<-mP]at ai cW iA;obtain⟨nm,nh⟩:∃nm,nm=g.name:=⟨_,rfl⟩;rw[<-nh]at cW ha Aw⊢;have BE:=h_ nh;have Kw:=h_ mP;clear h hg hp aa az hh mP nh;go_enter func321,ntmps321;go_wp2
 go_step3
 go_wp2;refine yH ?_;go_wp2_with fail;refine Aw.mono ?_;rintro e w' ⟨rfl,rfl⟩;clear Kb;go_wp2
 go_step3
 go_wp2;refine yH ?_;go_upto_region 14 with fail
 refine xr ai ?_;clear ai cW;have q0:=cell_of_row w1 w.heap.size 0 _ _ _ cz.out;have q1:=cell_of_row w1 w.heap.size 1 _ _ _ cz.out;simp only[y7,v_]at q0 q1;rw[<-Kw.out]at q0;have bg:=H.below ar.out;have p0:=cell_of_row w1 v.p 0 _ _ _ bg.blk;simp only[v_]at p0;have FE:w1.cell? a=some (.string nm):=(ar.cell (block_lt_of_cell ha)).trans ha;have Q_:=bg.get_yes HG.1 w1 rfl;rw[HG.2,<-BE.out]at Q_;unfold zk y7 at Q_;rw[<-Kw.out]at Q_;have mg:=h_ bg;clear bg c0 ha;go_wp2;refine yH ?_;obtain⟨w2,aw⟩:∃w2,w2=w1.alloc (.cells #[.int .i64 hi,.bool false,.slice none 0 0] 193):=⟨_,rfl⟩;have aj:Below w1.heap.size w1 w2:=by rw[aw];exact b_ _ _
 have aA:w2.heap[w1.heap.size]?=some (.cells #[.int .i64 hi,.bool false,.slice none 0 0] 193 (0,0)):=by rw[aw];exact heap_alloc_new w1 _
 clear q0 q1 hdd;go_upto_region 28 with fail
 refine xr aw ?_;clear aw Q_ p0;have q0:=cell_of_row w2 w1.heap.size 0 _ _ _ aA;have f0:=frozen_of_row w2 w1.heap.size 0 _ _ aA;simp only[v_]at q0;obtain⟨h1,wo⟩:∃h1:Nat,h1=g.high+1:=⟨_,rfl⟩;have Uc:hi+1=(h1:Int):=by have:=Kw.out;omega
 obtain⟨w3,bm⟩:∃w3,w3=w2.setCell ⟨w1.heap.size,0,none⟩ (.int .i64 h1):=⟨_,rfl⟩;have bK:w3.heap[w1.heap.size]?=some (.cells #[.int .i64 h1,.bool false,.slice none 0 0] 193 (0,0)):=by rw[bm,heap_setCell_same w2 w1.heap.size 0 _ _ _ aA];rfl
 have al:Below w1.heap.size w1 w3:=by rw[bm];exact aj.setCell (p:=⟨w1.heap.size,0,none⟩) (aa_ _) _
 have Ud:h1<=1000001:=by have:=HHH.out;omega
 have hh1l:(h1:Int)<=1000001:=by omega
 have HW:=h_ (xYs h1 (by omega) w3);have Kx:=h_ wo;have ay:=h_ al;have dV:=h_ bK;clear aj aA bK al Ud wo;go_upto_region 29 with fail
 refine xr bm ?_;clear bm q0 f0 Uc;have q0:=cell_of_row w3 w1.heap.size 0 _ _ _ dV.out;have q2:=cell_of_row w3 w1.heap.size 2 _ _ _ dV.out;simp only[v_]at q0 q2;go_wp2_with fail;refine HW.mono ?_;rintro e w4 ⟨aQ,x,rfl,rH⟩;have eh:=(aQ.block _ (i_ dV.out).1).trans dV.out;have r2:=cell_of_row w4 w1.heap.size 2 _ _ _ eh;have r2f:=frozen_of_row w4 w1.heap.size 2 _ _ eh;simp only[v_]at r2;obtain⟨w5,aY⟩:∃w5,w5=w4.setCell ⟨w1.heap.size,2,none⟩ (zk (some x)):=⟨_,rfl⟩;have eM:w5.heap[w1.heap.size]?=some (.cells (y7 h1 (zk (some x))) 193 (0,0)):=by rw[aY,heap_setCell_same w4 w1.heap.size 2 _ _ _ eh];rfl
 have gC:Below w1.heap.size w1 w4:=ay.trans (aQ.mono ay.size);have aF:Below w1.heap.size w1 w5:=by rw[aY];exact gC.setCell (p:=⟨w1.heap.size,2,none⟩) (aa_ _) _
 have ld:=(rH x rfl).1
 have NR:IvAt w3.heap.size w5 h1 (some x):=rH.kept (by rw[aY];exact zh w4 ⟨w1.heap.size,2,none⟩ _) (λy e=>by
  cases e;intro hm;simp at hm;have:=(i_ dV.out).1;omega)
 have HX:=h_ ld;have FF:=h_ NR;have aU:=h_ aF;have nK:=h_ eM;clear q0 q2 HW aQ rH eh eM gC aF ld NR;unfold zk at aY;unfold zk;go_upto_region 30 with fail
 refine xr aY ?_;clear aY r2 r2f;have DY:Below w.heap.size w w5:=ar.trans (aU.mono ar.size);have nL:=H.below DY;have CN:v.M<w.heap.size:=H.lt.2;have aK:w.heap.size<w1.heap.size:=(i_ cz.out).1;have c5:=cell_of_row w5 v.p 0 _ _ _ nL.blk;simp only[v_]at c5;have z0:∀z:x8 w5,z.1.cell? ⟨v.p,0,none⟩=some (.map (some v.M)):=λz=>z.cell c5
 have rr:=xD (n:=3) nK.out rfl;have z1:∀z:x8 w5,xo z.1 ⟨w1.heap.size,0,none⟩ 3=true:=λz=>x8.ok rr.1 z
 have z2:∀z:x8 w5,xm z.1 ⟨w1.heap.size,0,none⟩ 3=y7 h1 (zk (some x)):=λz=>(x8.rd rr.1 z).trans rr.2
 have NS:=nL.below ((ab_ w5.heap.size w5).drew);have Ue:w1.heap.size<=w3.heap.size:=ay.size;have wT:w.heap.size<=x.1:=by have:=HX.out;omega
 have RK:B<=w.heap.size:=ad_ H.pB (bB_ H.lt.1)
 obtain⟨g',mc,e1,e2,e3,dB,aB⟩:=NS.put nm h1 (some x) (λg0 e=>by rw[HG.1]at e;cases e;exact BE.symm) (λy e=>by
  obtain⟨k1,k2,k3,k4,k5⟩:=FF.out y e;have:B<=y.1:=by cases e;omega
  exact⟨this,k2,k3,k4,k5⟩)
 obtain⟨w6,b8⟩:∃w6,w6=w5.drew.putObj v.M (.map ((Tbl.es ⟨v.p,v.M,mc,some g'⟩).map (enE ekS)).toArray mc):=⟨_,rfl⟩;rw[<-b8]at dB aB;have ef:Kept [v.M] w w6:=by
  rw[b8];exact(Kept.of_below (F:=[v.M]) (DY.trans ((ab_ w5.heap.size w5).drew.mono DY.size))).trans (qX _ _ _) (λq hq=>.inl hq)
 have gJ:w6.heap[w1.heap.size]?=some (.cells (y7 h1 (zk (some x))) 193 (0,0)):=by
  rw[b8,aB_ (by omega)];exact nK.out
 have Ra:=h_ ef;have pA:=h_ aB;have HE:=h_ (And.intro e1 (And.intro e2 e3));have HXW:=h_ wT
 have HXL:Hid (x.1<w6.heap.size):=h_ (by
  have CB:x.1<w5.heap.size:=block_lt_of_cell (FF.out x rfl).2.2.2.1;have:w6.heap.size=w5.heap.size:=by rw[b8];simp[World.putObj]
  omega)
 clear DY nL CN c5 rr NS Ue wT RK e1 e2 e3 aB b8 ef;refine xp [0,1,2,3,4,5] [6] (λw'=>∃z:x8 w5,w'=z.1) (by kernel_rfl) (by kernel_rfl) (by kernel_rfl) ⟨⟨w5.drew,(ab_ _ _).drew⟩,rfl⟩ ?_;simp only[o_]
 repeat (go_big_quiet_step (fail))
 refine wpQuiet_nil ?_;clear z0 z1 z2;refine xB [6] _ _ (by kernel_rfl) ?_;simp only[o_];go_wp2;refine ag_ ?_;clear dB;have q0:=cell_of_row w6 w1.heap.size 0 _ _ _ gJ;simp only[y7,v_]at q0;obtain⟨i0,hi0,bd,aL,bk⟩:=info_parts Tryz.info_pla;have HI:=h_ (And.intro hi0 (And.intro bd (And.intro aL bk)));have cY:Below w6.heap.size w6 (w6.alloc (.cells #[.string nm,.int .i64 h1] 62)):=(ab_ _ _).alloc (aa_ _) _;have lF:=heap_alloc_new w6 (.cells #[.string nm,.int .i64 h1] 62);have nD:Hid (∀j u,([.string nm,.int .i64 h1]:List Value)[j]?=some u->(w6.alloc (.cells #[.string nm,.int .i64 h1] 62)).cell? ((⟨w6.heap.size,0,none⟩:Addr).add j)=some u):=h_ λj u hj=>by
  rw[an_,aq_,cell_of_row _ w6.heap.size j _ _ _ lF,ah_];exact hj
 have fA:=h_ cY;clear hi0 bd aL bk cY gJ lF;go_wp2_with (at_builtin;refine wpList_append_own_at _ rfl (.tmp 94) (.tmp 99) 44 rfl w6.heap.size 62 i0 (.agg #[.string ⟨#[]⟩,.int .i64 0]) 2 24 underlying44 HI.1 HI.2.1 HI.2.2.1 HI.2.2.2 rfl (by decide) _ 0 [] rfl (aP_ _ _ _ _) ⟨w6.heap.size,0,none⟩ 1 1 [.string nm,.int .i64 h1] rfl rfl nD.out (by intro u hu;simp at hu;rcases hu with rfl|rfl <;> rfl) (by unfold maxLen;omega) (by omega) fA.size ?_);intro v' w' ho cV _ _;obtain⟨pb,pc,rfl,lG,k1,k2,k3,k4,k5⟩:=xEz ho;have dj:Below w6.heap.size w6 w':=fA.grown cV fA.size (λk e=>by cases e);have HF:=h_ (And.intro dj (And.intro lG (And.intro k1 (And.intro k2 (And.intro k3 (And.intro k4 k5))))));clear ho cV dj lG k1 k2 k3 k4 k5 q0;go_wp2;simp only[Exit.noGoto];go_ret2;obtain⟨dj,lG,k1,k2,k3,k4,k5⟩:=HF.out;have nZ:=Ra.size;refine⟨pb,pc,rfl,by omega,k3,k1,k2,k4,?_,Ra.trans (Kept.of_below (F:=[]) dj) (λq hq=>by cases hq),g',mc,x,HE.1,HE.2.1.trans Kx.out,HE.2.2,HXW.out,by have:=HXL.out;omega,pA.below dj⟩;rw[<-Kx.out];exact k5
end
section
attribute [local go_sem ↓] jA vP vS xT0 xPk qM qr
attribute [local go_sem] xJp xIn yEu yEb xE3 xDu zn zu yx yw xh xf xa x9 xu xv xk xj xq xx xt
theorem xYu (n:Nat)(bx w)(hx:w.cell? ⟨bx,0,none⟩=some (.int .i64 n)):Calls prog 337 #[.agg #[.int .i64 n,.int .i64 n],.pointer (some ⟨bx,0,none⟩)] w λe w'=>e=.returned (.bool true)/\Below w.heap.size w w':=by
 obtain⟨w1,ai⟩:∃w1,w1=w.alloc (.cells #[.int .i64 n,.int .i64 n] 244):=⟨_,rfl⟩;have aa:Below w.heap.size w w1:=by rw[ai];exact b_ _ _
 have az:w1.heap[w.heap.size]?=some (.cells #[.int .i64 n,.int .i64 n] 244 (0,0)):=by rw[ai];exact heap_alloc_new w _
 have q0:=cell_of_row w1 w.heap.size 0 _ _ _ az;have q1:=cell_of_row w1 w.heap.size 1 _ _ _ az;simp only[v_]at q0 q1;have fP:w1.cell? ⟨bx,0,none⟩=some (.int .i64 n):=(aa.cell (p:=⟨bx,0,none⟩) (block_lt_of_cell hx)).trans hx;have HB:=h_ aa;clear aa az hx;go_enter func337,ntmps337;go_upto_region 1 with fail
 refine xr ai ?_;clear ai;go_wp2;go_ret;exact⟨rfl,HB.out⟩
theorem xVu (n:Nat)(bx w)(hx:w.cell? ⟨bx,0,none⟩=some (.int .i64 n))(g cap)(h0:w.cell? ⟨g,0,none⟩=some (.int .i64 n))(h1:w.cell? ⟨g,1,none⟩=some (.int .i64 n))(hc:1<=cap):
  Calls prog 339 #[.slice (some ⟨g,0,none⟩) 1 cap,.func (.func 337) #[] #[.pointer (some ⟨bx,0,none⟩)]] w λe w'=>e=.returned (.int .i64 0)/\Below w.heap.size w w':=by
 have HH:=h_ (xYu n bx w hx)
 have ri:=xW (w:=w) (a:=⟨g,0,none⟩) (cs:=[.int .i64 n,.int .i64 n]) (λj v hj=>by
  rw[an_,aq_]
  match j,hj with
  |0,hj=>rw[h0];exact hj
  |1,hj=>rw[h1];exact hj)
 obtain⟨o1,r1⟩:=ri;simp only[av_,bm_]at o1 r1;clear hx h0 h1;go_enter func339,ntmps339;go_wp2;refine wp_loop_once ?_;go_wp2_with fail;refine HH.mono ?_;rintro e w1 ⟨rfl,hb⟩;have HB:=h_ hb;clear hb o1 r1;go_wp2;go_ret;exact⟨rfl,HB.out⟩
theorem xM9 (n:Nat)(bx w)(hx:w.cell? ⟨bx,0,none⟩=some (.int .i64 n))(g cap)(h0:w.cell? ⟨g,0,none⟩=some (.int .i64 n))(h1:w.cell? ⟨g,1,none⟩=some (.int .i64 n))(hc:1<=cap):
  Calls prog 336 #[.slice (some ⟨g,0,none⟩) 1 cap,.func (.func 337) #[] #[.pointer (some ⟨bx,0,none⟩)]] w λe w'=>e=.returned (.bool true)/\Below w.heap.size w w':=by
 have HI:=h_ (xVu n bx w hx g cap h0 h1 hc);clear hx h0 h1;go_enter func336,ntmps336;go_wp2_with fail;refine HI.mono ?_;rintro e w1 ⟨rfl,hb⟩;have HB:=h_ hb;clear hb;go_wp2;go_ret;exact⟨rfl,HB.out⟩
theorem yC4 (n w g cap)(h0:w.cell? ⟨g,0,none⟩=some (.int .i64 n))(h1:w.cell? ⟨g,1,none⟩=some (.int .i64 n))(hc:1<=cap):
  Calls prog 333 #[.agg (y7 n (.slice (some ⟨g,0,none⟩) 1 cap)),.int .i64 n] w λe w'=>e=.returned (.bool true)/\Below w.heap.size w w':=by
 obtain⟨w1,ai⟩:∃w1,w1=(w.alloc (.cells (y7 n (.slice (some ⟨g,0,none⟩) 1 cap)) 193)).alloc (.cells #[.int .i64 n] 3):=⟨_,rfl⟩;have aa:Below w.heap.size w w1:=by rw[ai];exact((ab_ _ _).alloc (aa_ _) _).alloc (by simp) _
 have az:w1.heap[w.heap.size]?=some (.cells (y7 n (.slice (some ⟨g,0,none⟩) 1 cap)) 193 (0,0)):=by rw[ai,heap_alloc_old _ _ (by simp),heap_alloc_new]
 have aA:w1.heap[w.heap.size+1]?=some (.cells #[.int .i64 n] 3 (0,0)):=by
  have:=heap_alloc_new (w.alloc (.cells (y7 n (.slice (some ⟨g,0,none⟩) 1 cap)) 193)) (.cells #[.int .i64 n] 3);rw[al_]at this;rw[ai,this]
 have q2:=cell_of_row w1 w.heap.size 2 _ _ _ az;have q3:=cell_of_row w1 (w.heap.size+1) 0 _ _ _ aA;simp only[y7,v_]at q2 q3;have HC:=h_ (xM9 n (w.heap.size+1) w1 q3 g cap ((aa.cell (p:=⟨g,0,none⟩) (block_lt_of_cell h0)).trans h0) ((aa.cell (p:=⟨g,1,none⟩) (block_lt_of_cell h1)).trans h1) hc);have HB:=h_ aa;clear aa az aA h0 h1 q3;unfold y7 at ai⊢;go_enter func333,ntmps333;go_upto_region 1 with fail
 refine xr ai ?_;clear ai;go_wp2_with fail;refine HC.mono ?_;rintro e w2 ⟨rfl,hb⟩;have au:=h_ (HB.trans (hb.mono HB.size));clear hb q2;go_wp2;go_ret;exact⟨rfl,au.out⟩
theorem xTp (a b)(hab:b<a)(c w):Calls prog 334 #[.int .i64 a,.int .i64 b,.pointer (some ⟨c,0,none⟩)] w λe w'=>e=.returned (.tuple #[])/\w=w':=by
 have hd:decide (a<=b)=false:=decide_eq_false (by omega);go_enter func334,ntmps334;go_wp2;go_end0;exact⟨rfl,rfl⟩
theorem xTo {B w v}(h:yU B w v)(g)(hg:v.g=some g)(x)(hp:g.pres=some x)(hh:g.high<=1000000):
  Calls prog 328 #[.pointer (some ⟨v.p,0,none⟩),.agg #[.string g.name,.int .i64 g.high]] w λe w'=>
   e=.returned (.int .i64 0)/\Kept [v.M] w w'/\∃g' mc,g'.name=g.name/\g'.high=g.high/\g'.pres=none/\yU B w' ⟨v.p,v.M,mc,some g'⟩:=by
 obtain⟨xg,xc⟩:=x;obtain⟨n,hn⟩:∃n,n=g.high:=⟨_,rfl⟩;obtain⟨nm,nh⟩:∃nm,nm=g.name:=⟨_,rfl⟩;obtain⟨w1,ai⟩:∃w1,w1=w.alloc (.cells #[.string nm,.int .i64 n] 62):=⟨_,rfl⟩;have aa:Below w.heap.size w w1:=by rw[ai];exact b_ _ _
 have iz:w1.heap[w.heap.size]?=some (.cells #[.string nm,.int .i64 n] 62 (0,0)):=by rw[ai];exact heap_alloc_new w _
 have HF:=h_ (xYv (h.below aa) g hg);rw[hp,<-hn,<-nh]at HF;have q0:=cell_of_row w1 w.heap.size 0 _ _ _ iz;simp only[v_]at q0;have pC:(n:Int)<=1000000:=by omega
 have i5:(0:Int)<=n:=by omega
 have iA:=xFd n (some (xg,xc));have rH:=h.ivs g hg (xg,xc) hp;have H:=h_ h;have HG:=h_ (And.intro hg hp);have ar:=h_ aa;have pr:=h_ iz;have FF:=h_ rH;have HN:=h_ hn;have BE:=h_ nh;have fP:(1:Int)<=xc:=by have:=rH.2.1;simp at this;omega
 have Kv:(uU.size==3)=true:=rfl;have Uf:(#[Value.int .i64 0,Value.int .i64 0].size==2)=true:=rfl;have mJ:xy 2 #[Value.int .i64 n,Value.int .i64 n]=true:=by simp[xy,Value.oneCell']
 rw[<-hn,<-nh];clear h hg hp hh aa iz rH hn nh;unfold zk y7 at HF iA;go_enter func328,ntmps328;go_upto_region 1 with fail
 refine xr ai ?_;clear ai;go_wp2_with fail;refine HF.mono ?_;rintro e w2 ⟨aj,rfl⟩;clear q0;obtain⟨w3,bm⟩:∃w3,w3=w2.alloc (.cells (y7 n (.slice (some ⟨xg,0,none⟩) 1 xc)) 193):=⟨_,rfl⟩;have al:Below w2.heap.size w2 w3:=by rw[bm];exact b_ _ _
 have bK:w3.heap[w2.heap.size]?=some (.cells (y7 n (.slice (some ⟨xg,0,none⟩) 1 xc)) 193 (0,0)):=by rw[bm];exact heap_alloc_new w2 _
 have cC:=ar.trans ((aj.trans (al.mono aj.size)).mono ar.size);have iX:=((aj.trans (al.mono aj.size)).block w.heap.size (i_ pr.out).1).trans pr.out;have q1:=cell_of_row w3 w.heap.size 1 _ _ _ iX;simp only[v_]at q1;obtain⟨o3,r3⟩:=xD (n:=3) bK rfl;have ld:w3.cell? ⟨xg,0,none⟩=some (.int .i64 n):=(cC.cell (p:=⟨xg,0,none⟩) (block_lt_of_cell FF.2.2.2.1)).trans (by rw[HN.out];exact FF.2.2.2.1);have BF:w3.cell? ⟨xg,1,none⟩=some (.int .i64 n):=(cC.cell (p:=⟨xg,1,none⟩) (block_lt_of_cell FF.2.2.2.2)).trans (by rw[HN.out];exact FF.2.2.2.2);have HH:=h_ (yC4 n w3 xg xc ld BF FF.2.1);have ay:=h_ cC;have dV:=h_ bK;have Cw:=h_ iX;have pf:=h_ (And.intro ld BF);have ow:Hid (w1.heap.size<=w2.heap.size):=h_ aj.size;clear aj al bK cC iX ld BF HF;unfold y7 at bm r3 HH;go_upto_region 4 with fail
 refine xr bm ?_;clear bm;go_wp2_with fail;refine HH.mono ?_;rintro e w4 ⟨rfl,aQ⟩;clear o3 r3 q1 HH;obtain⟨w5,aY⟩:∃w5,w5=w4.alloc (.cells #[.slice none 0 0] 191):=⟨_,rfl⟩;have aF:Below w4.heap.size w4 w5:=by rw[aY];exact b_ _ _
 have NT:w5.heap[w4.heap.size]?=some (.cells #[.slice none 0 0] 191 (0,0)):=by rw[aY];exact heap_alloc_new w4 _
 have fZ:=aQ.trans (aF.mono aQ.size);have eM:=(fZ.block w2.heap.size (i_ dV.out).1).trans dV.out;have c2:=cell_of_row w5 w2.heap.size 2 _ _ _ eM;simp only[y7,v_]at c2;have lD:w5.cell? ⟨xg,0,none⟩=some (.int .i64 n):=(fZ.cell (p:=⟨xg,0,none⟩) (block_lt_of_cell pf.1)).trans pf.1;have X0:w5.cell? ⟨xg,1,none⟩=some (.int .i64 n):=(fZ.cell (p:=⟨xg,1,none⟩) (block_lt_of_cell pf.2)).trans pf.2
 have ri:=xW (w:=w5) (a:=⟨xg,0,none⟩) (cs:=[.int .i64 n,.int .i64 n]) (λj v hj=>by
  rw[an_,aq_]
  match j,hj with
  |0,hj=>rw[lD];exact hj
  |1,hj=>rw[X0];exact hj)
 obtain⟨o5,r5⟩:=ri;simp only[av_,bm_]at o5 r5;obtain⟨w6,b8⟩:∃w6,w6=w5.alloc (.cells #[.int .i64 n,.int .i64 n] 244):=⟨_,rfl⟩;have bV:Below w5.heap.size w5 w6:=by rw[b8];exact b_ _ _
 have gJ:w6.heap[w5.heap.size]?=some (.cells #[.int .i64 n,.int .i64 n] 244 (0,0)):=by rw[b8];exact heap_alloc_new w5 _
 have Ix:=fZ.trans (bV.mono fZ.size);have Ug:=h_ (ay.trans (Ix.mono ay.size));have CJ:=(bV.block w2.heap.size (i_ eM).1).trans eM;have Ky:=(bV.block w4.heap.size (i_ NT).1).trans NT;have Bq:=(Ix.block w.heap.size (i_ Cw.out).1).trans Cw.out;have HN6:=h_ CJ;have EI:=h_ Bq;have i0:=cell_of_row w6 w5.heap.size 0 _ _ _ gJ;have i1:=cell_of_row w6 w5.heap.size 1 _ _ _ gJ;have p1:=cell_of_row w6 w.heap.size 1 _ _ _ Bq;have l0:=cell_of_row w6 w4.heap.size 0 _ _ _ Ky;have f2:=frozen_of_row w6 w2.heap.size 2 _ _ CJ;have g2:=cell_of_row w6 w2.heap.size 2 _ _ _ CJ;simp only[y7,v_]at i0 i1 p1 l0 g2;have cF:Hid (w.heap.size<=w2.heap.size):=h_ (ad_ ar.size ow.out);clear aQ aF NT fZ eM lD X0 bV gJ Ix CJ Ky Bq;go_upto_region 8 with fail
 refine xr aY ?_;clear aY;go_wp2;refine yH ?_;go_upto_region 11 with fail
 refine xr b8 ?_;clear b8 o5 r5 c2;go_wp2_with fail;refine(xTp (n:Int) ((n:Int)-1) (by omega) w4.heap.size w6).mono ?_;rintro e w'⟨rfl,rfl⟩;go_wp2_with fail;refine(xTp ((n:Int)+1) (n:Int) (by omega) w4.heap.size w6).mono ?_;rintro e w'⟨rfl,rfl⟩;clear i0 i1;obtain⟨w7,da⟩:∃w7,w7=w6.setCell ⟨w2.heap.size,2,none⟩ (.slice none 0 0):=⟨_,rfl⟩;have cY:Below w.heap.size w w7:=by rw[da];exact Ug.setCell (p:=⟨w2.heap.size,2,none⟩) cF.out _
 have lF:w7.heap[w2.heap.size]?=some (.cells (y7 n (zk none)) 193 (0,0)):=by rw[da,heap_setCell_same w6 w2.heap.size 2 _ _ _ HN6.out];rfl
 have NU:w.heap.size≠w2.heap.size:=by have h1:=(i_ pr.out).1;have:=ow.out;omega
 have Iy:w7.heap[w.heap.size]?=some (.cells #[.string nm,.int .i64 n] 62 (0,0)):=by rw[da];exact(heap_setCell_other w6 ⟨w2.heap.size,2,none⟩ w.heap.size _ NU).trans EI.out
 have Uh:=H.below cY;have c7:=cell_of_row w7 v.p 0 _ _ _ Uh.blk;have p7:=cell_of_row w7 w.heap.size 0 _ _ _ Iy;simp only[v_]at c7 p7;have z0:∀z:x8 w7,z.1.cell? ⟨v.p,0,none⟩=some (.map (some v.M)):=λz=>z.cell c7
 have z3:∀z:x8 w7,z.1.cell? ⟨w.heap.size,0,none⟩=some (.string nm):=λz=>z.cell p7
 have rr:=xD (n:=3) lF rfl;have z1:∀z:x8 w7,xo z.1 ⟨w2.heap.size,0,none⟩ 3=true:=λz=>x8.ok rr.1 z
 have z2:∀z:x8 w7,xm z.1 ⟨w2.heap.size,0,none⟩ 3=y7 n (zk none):=λz=>(x8.rd rr.1 z).trans rr.2
 have NV:=Uh.below ((ab_ w7.heap.size w7).drew);obtain⟨g',mc,e1,e2,e3,dB,aB⟩:=NV.put nm n none (λg0 e=>by rw[HG.1]at e;cases e;exact BE.symm) (IvAt.nil _ _ _);obtain⟨w8,sX⟩:∃w8,w8=w7.drew.putObj v.M (.map ((Tbl.es ⟨v.p,v.M,mc,some g'⟩).map (enE ekS)).toArray mc):=⟨_,rfl⟩;rw[<-sX]at dB aB
 have Ra:Hid (Kept [v.M] w w8):=h_ (by
  rw[sX];exact(Kept.of_below (F:=[v.M]) (cY.trans ((ab_ w7.heap.size w7).drew.mono cY.size))).trans (qX _ _ _) (λq hq=>.inl hq))
 have pA:=h_ aB;have HE:=h_ (And.intro e1 (And.intro e2 e3));clear cY lF NU Iy Uh c7 p7 rr NV e1 e2 e3 aB sX;go_upto_region 17 with fail
 refine xr da ?_;clear da p1 l0 f2 g2;refine xp [0,1,2,3,4,5,6] [7] (λw'=>∃z:x8 w7,w'=z.1) (by kernel_rfl) (by kernel_rfl) (by kernel_rfl) ⟨⟨w7.drew,(ab_ _ _).drew⟩,rfl⟩ ?_;simp only[o_]
 repeat (go_big_quiet_step (fail))
 refine wpQuiet_nil ?_;clear z0 z1 z2 z3;refine xB [7] _ _ (by kernel_rfl) ?_;simp only[o_];go_wp2;refine ag_ ?_;clear dB;go_wp2;go_ret;exact⟨rfl,Ra.out,g',mc,HE.1,HE.2.1,HE.2.2,pA.out⟩
end
end Go.Proofs.YtegfbhdkenkkdaaGreatDoor
namespace Go.Proofs.YtegfbhdkenkkdaaGreatDoor
open Go Go.RowKit Go.Proofs Tryz
open Go.ChangeMaps (setBlock)
attribute [local go_sem ↓] jA vP vS
attribute [local go_sem] xJp xIn zn zu yx yw xh xf xa x9 xu xv xk xj xq xx xt
def Tbl.c (v:Tbl):Option (ByteArray×Nat×Bool):=v.g.map λg=>(g.name,g.high,g.pres.isSome)
theorem IvAt.base {B B' w h p}(hi:IvAt B w h p)(hb:B'<=B):IvAt B' w h p:=λx e=>by
 obtain⟨h1,h2⟩:=hi x e;exact⟨ad_ hb h1,h2⟩
theorem xVv {B w h p}(hi:IvAt B w h p):Calls prog 131 #[zk p] w λe w'=>Below w.heap.size w w'/\∃p',e=.returned (zk p')/\p'.isSome=p.isSome/\IvAt w.heap.size w' h p':=by
 obtain⟨i0,hi0,bd,aL,bk⟩:=info_parts Tryz.info_ivl;cases p with
 |none=>
  refine(AnyE.slices_Clone_nil Tryz.cloneIvl 0 0 w).mono ?_;rintro e w' ⟨rfl,rfl⟩;exact⟨ab_ _ _,none,rfl,rfl,IvAt.nil _ _ _⟩
 |some x=>
  obtain⟨_,h1,h2,h3,h4⟩:=hi x rfl;refine(AnyE.slices_Clone Tryz.cloneIvl i0 (.agg #[.int .i64 0,.int .i64 0]) 2 16 hi0 bd aL bk rfl (by decide) sizeOf244 x.1 0 1 x.2 [.int .i64 h,.int .i64 h] w rfl (by unfold maxLen;omega) (by omega) (λj u hj=>?_) (by intro u hu;simp at hu;subst hu;rfl)).mono ?_
  ·rw[aq_]
   match j,hj with
   |0,hj=>rw[h3];exact hj
   |1,hj=>rw[h4];exact hj
  ·rintro e w' ⟨v',rfl,ae,_,hb⟩;obtain⟨g,cap,rfl,k1,k2,k3,_,k4,k5⟩:=xEz ae;exact⟨hb,some (g,cap),rfl,rfl,λy e=>by cases e;exact⟨k1,k2,k3,k4,k5⟩⟩
theorem yU.one_next {B w W v}(h:yU B w v){g}(hg:v.g=some g){r}(hr:W.heap[r]?=some (.mapIter (some v.M) v.mc #[] v.mc))(hM:W.heap[v.M]?=w.heap[v.M]?):
  ∃X,(Instr.next (.pointer (some ⟨r,0,none⟩)) false 0).run prog W=.ok (.tuple #[.bool true,.string g.name,.agg (y7 g.high (zk g.pres))]) X/\Kept [r] W X/\X.heap[r]?=some (.mapIter (some v.M) v.mc #[g.born] v.mc) /\
   (Instr.entry (.pointer (some ⟨r,0,none⟩))).run prog X=.ok (.tuple #[.string g.name,.agg (y7 g.high (zk g.pres))]) X:=by
 have hm:=h.map;unfold y4 at hm;have he:v.es=[g.e]:=by unfold Tbl.es;rw[hg]
 rw[he]at hm;have Iz:=hM.trans hm;have A_:r≠v.M:=λe=>by rw[e,Iz]at hr;cases hr
 have fD:∀x∈([g.e].map (enE ekS)).toArray.toList,x.born<v.mc:=λx hx=>by simp at hx;subst hx;exact h.young g hg
 rcases run_next_at (P:=prog) W 0 r v.M v.mc v.mc #[] _ v.mc hr Iz fD (aa_ _) with⟨h0,_⟩|⟨e,eK,X1,dm,tV⟩
 ·have:=all_seen _ _ h0 (enE ekS g.e) (by simp);simp at this
 ·obtain⟨aX,_⟩:=mem_left eK;have hE:e=enE ekS g.e:=by simpa using aX
  subst hE;have gz:=(i_ hr).1;have ip:X1.heap=W.heap:=by rcases dm with rfl|rfl <;> rfl
  have hk1:Kept [r] W X1:=by
   rcases dm with rfl|rfl
   ·exact Kept.of_below (ab_ _ _)
   ·exact Kept.of_below (ab_ _ _).drew
  have hit:(setBlock X1 r (.mapIter (some v.M) v.mc #[g.born] v.mc)).heap[r]?=some (.mapIter (some v.M) v.mc #[g.born] v.mc):=zH _ _ _ (by rw[ip];exact gz);have Hf:(setBlock X1 r (.mapIter (some v.M) v.mc #[g.born] v.mc)).heap[v.M]?=some (.map ([g.e].map (enE ekS)).toArray v.mc):=by
   rw[xT _ _ _ _ (ds_ A_),ip];exact Iz
  refine⟨_,tV,⟨hk1.os,hk1.tape,hk1.output,by rw[yY];exact hk1.size,λk hk hn=>?_⟩,hit,run_entry_at _ r v.M v.mc #[] _ v.mc (enE ekS g.e) hit Hf (by simp) (by simp)⟩;rw[xT _ _ _ _ (by simpa using hn)];exact hk1.block k hk hn
theorem yU.one_end {v:Tbl}{g}(hg:v.g=some g)(hy:g.born<v.mc){W r}(hr:W.heap[r]?=some (.mapIter (some v.M) v.mc #[g.born] v.mc))(hM:W.heap[v.M]?=some (.map ([g.e].map (enE ekS)).toArray v.mc)):
  (Instr.next (.pointer (some ⟨r,0,none⟩)) false 0).run prog W=.ok (.tuple #[.bool false]) W:=by
 have fD:∀x∈([g.e].map (enE ekS)).toArray.toList,x.born<v.mc:=λx hx=>by simp at hx;subst hx;exact hy
 rcases run_next_at (P:=prog) W 0 r v.M v.mc v.mc #[g.born] _ v.mc hr hM fD (aa_ _) with⟨_,h1⟩|⟨e,eK,_⟩
 ·exact h1
 ·obtain⟨aX,fm⟩:=mem_left eK;have hE:e=enE ekS g.e:=by simpa using aX
  subst hE;have:(enE ekS g.e).born=g.born:=rfl;rw[this]at fm;simp at fm
theorem xVw {B w v}(h:yU B w v):Calls prog 100 #[.pointer (some ⟨v.p,0,none⟩)] w λe w'=>Below w.heap.size w w'/\∃v',e=.returned (.pointer (some ⟨v'.p,0,none⟩))/\yU w.heap.size w' v'/\v'.c=v.c:=by
 have H:=h_ h;clear h;go_enter func100,ntmps100;go_wp2_with fail;refine(xKy w).mono ?_;rintro e w1 ⟨rfl,aa,DZ⟩;have bg:=H.below aa;have c0:=cell_of_row w1 v.p 0 _ _ _ bg.blk;simp only[v_]at c0;have hm:=bg.map;unfold y4 at hm;have mq:=run_range_map (P:=prog) w1 158 _ _ v.M _ v.mc underlying158 hm;obtain⟨w2,aw⟩:∃w2,w2=w1.alloc (.mapIter (some v.M) v.mc #[] v.mc):=⟨_,rfl⟩;have ak:Below w1.heap.size w1 w2:=by rw[aw];exact b_ _ _
 have hit:w2.heap[w1.heap.size]?=some (.mapIter (some v.M) v.mc #[] v.mc):=by rw[aw];exact heap_alloc_new w1 _
 rw[<-aw]at mq;have aj:=aa.trans (ak.mono aa.size);have fY:=DZ.below ak;have bE:=bg.below ak;have au:=h_ aj;have IA:=h_ fY;have mI:=h_ bE;have bW:Hid (w.heap.size+1<w1.heap.size):=h_ DZ.lt.1;have HVM:Hid (v.M<w.heap.size):=h_ H.lt.2;cases hg:v.g with
 |none=>
  have he:v.es=[]:=by unfold Tbl.es;rw[hg]
  have bj:∀ty,(Instr.next (.pointer (some ⟨w1.heap.size,0,none⟩)) false ty).run prog w2=.ok (.tuple #[.bool false]) w2:=λty=>by
   have eV:=bE.map;unfold y4 at eV;rw[he]at eV;rcases run_next_at (P:=prog) w2 ty w1.heap.size v.M v.mc v.mc #[] _ v.mc hit eV (λx hx=>by cases hx) (aa_ _) with⟨_,h1⟩|⟨e,he,_⟩
   ·exact h1
   ·exact absurd (mem_left he).1 (by simp)
  have HC:Hid (v.c=none):=h_ (by unfold Tbl.c;rw[hg];rfl);clear hit hm aa DZ bg ak aj fY bE hg he aw;go_upto_region 5 with fail
  go_wp2;refine wp_loop_once ?_;clear mq c0;go_wp2;go_ret;exact⟨au.out,⟨w.heap.size+1,w.heap.size,0,none⟩,rfl,IA.out,HC.symm⟩
 |some g=>
  obtain⟨X1,bj,hk,FG,bS⟩:=bE.one_next hg hit rfl;have lq:Below w1.heap.size w2 X1:=hk.below ak.size (λk hk=>by rw[ac_.1 hk];exact aa_ _);have al:=aj.trans (lq.mono aa.size)
  have nr:=fY.kept hk (λk bG=>by
   have h3:k=w.heap.size+1\/k=w.heap.size:=by simpa[Tbl.foot]using bG
   have:=bW.out;rw[ac_];omega)
  obtain⟨X2,iM⟩:∃X2,X2=X1.alloc (.cells (y7 g.high (zk g.pres)) 193):=⟨_,rfl⟩;have cm:Below X1.heap.size X1 X2:=by rw[iM];exact b_ _ _
  have eh:X2.heap[X1.heap.size]?=some (.cells (y7 g.high (zk g.pres)) 193 (0,0)):=by rw[iM];exact heap_alloc_new X1 _
  have aQ:=al.trans (cm.mono al.size);have bF:=h_ (xVv ((H.below aQ).ivs g hg));have e2:=cell_of_row X2 X1.heap.size 2 _ _ _ eh;simp only[y7,v_]at e2;have iA:=xFd g.high g.pres;have Kv:(uU.size==3)=true:=rfl;have HC:Hid (v.c=some (g.name,g.high,g.pres.isSome)):=h_ (by unfold Tbl.c;rw[hg];rfl);have bt:=h_ aQ;have ay:=h_ al;have BG:=h_ cm;have g6:=h_ eh;have BH:=h_ FG;have IB:=h_ nr;have Ui:Hid (w1.heap.size<X1.heap.size):=h_ (i_ FG).1;have HG:=h_ hg;obtain⟨nm,nh⟩:∃nm,nm=g.name:=⟨_,rfl⟩;obtain⟨hi,mP⟩:∃hi,hi=g.high:=⟨_,rfl⟩;rw[<-nh,<-mP]at bj bS HC;rw[<-mP]at iM iA;have BE:=h_ nh;have Kw:=h_ mP;have Qp:∃pv,zk g.pres=pv:=⟨_,rfl⟩;unfold y7 at bj bS iM iA;generalize me:zk g.pres=pv at bj bS iM iA e2 bF;have nj:=h_ me;clear hit hm aa DZ bg ak aj fY bE hg hk FG lq al nr cm eh aQ nh mP Qp me;go_upto_region 5 with fail
  refine xr aw ?_;clear aw mq c0;go_wp2;refine yH ?_;go_upto_region 7 with fail
  refine xr iM ?_;clear iM bj bS;go_wp2_with fail;refine bF.mono ?_;rintro e X3 ⟨aF,p',rfl,im,rH⟩;have eM:=(aF.block X1.heap.size (i_ g6.out).1).trans g6.out;have f2:=frozen_of_row X3 X1.heap.size 2 _ _ eM;have d2:=cell_of_row X3 X1.heap.size 2 _ _ _ eM;simp only[y7,v_]at d2;obtain⟨X4,NW⟩:∃X4,X4=X3.setCell ⟨X1.heap.size,2,none⟩ (zk p'):=⟨_,rfl⟩;have gJ:X4.heap[X1.heap.size]?=some (.cells (y7 hi (zk p')) 193 (0,0)):=by rw[NW,heap_setCell_same X3 X1.heap.size 2 _ _ _ eM,Kw.out];rfl
  have fZ:Below X1.heap.size X1 X3:=BG.trans (aF.mono BG.size);have bV:Below X1.heap.size X1 X4:=by rw[NW];exact fZ.setCell (p:=⟨X1.heap.size,2,none⟩) (aa_ _) _
  rw[<-Kw.out]at rH
  have NX:IvAt X2.heap.size X4 hi p':=(rH.kept (by rw[NW];exact zh X3 ⟨X1.heap.size,2,none⟩ _) (λy e=>by
   have h1:=(rH y e).1;intro hm;simp at hm;have:=(i_ g6.out).1;omega))
  have nM:=IB.below bV;have c6:=cell_of_row X4 (w.heap.size+1) 0 _ _ _ nM.blk;simp only[v_]at c6;have z0:∀z:x8 X4,z.1.cell? ⟨w.heap.size+1,0,none⟩=some (.map (some w.heap.size)):=λz=>z.cell c6
  have rr:=xD (n:=3) gJ rfl;have z1:∀z:x8 X4,xo z.1 ⟨X1.heap.size,0,none⟩ 3=true:=λz=>x8.ok rr.1 z
  have z2:∀z:x8 X4,xm z.1 ⟨X1.heap.size,0,none⟩ 3=y7 hi (zk p'):=λz=>(x8.rd rr.1 z).trans rr.2
  have bD:Below X4.heap.size X4 X4.drew:=(ab_ _ _).drew;obtain⟨g',mc,e1,X6,e3,dB,IC⟩:=(nM.below bD).put nm hi p' (λg0 e=>by cases e) ((NX.kept (Kept.of_below (F:=[]) bD) (λ_ _ h=>by cases h)).base (by have h1:=bt.size;exact h1));obtain⟨X5,nu⟩:∃X5,X5=X4.drew.putObj w.heap.size (.map ((Tbl.es ⟨w.heap.size+1,w.heap.size,mc,some g'⟩).map (enE ekS)).toArray mc):=⟨_,rfl⟩;rw[<-nu]at dB IC;have NY:Kept [w.heap.size] X1 X5:=by
   rw[nu];exact(Kept.of_below (F:=[w.heap.size]) (bV.trans (bD.mono bV.size))).trans (qX _ _ _) (λq hq=>.inl hq)
  have NZ:=(NY.block w1.heap.size Ui.out (by have:=bW.out;simp;omega)).trans BH.out;have lH:Below w.heap.size w X4:=ay.trans (bV.mono ay.size);have BI:=lH.trans (bD.mono lH.size);have ID:Below w.heap.size w X5:=BI.trans (by rw[nu];exact(qX _ _ _).below BI.size (λk hk=>by rw[ac_.1 hk];exact aa_ _));have CK:X5.heap[v.M]?=some (.map ([g.e].map (enE ekS)).toArray v.mc):=by
   have h1:=H.map;unfold y4 at h1;rw[show v.es=[g.e] by unfold Tbl.es;rw[HG.out]]at h1;exact(ID.block v.M HVM.out).trans h1
  have om:=yU.one_end HG.out (H.young g HG.out) NZ CK
  have HF:Hid (Below w.heap.size w X5/\yU w.heap.size X5 ⟨w.heap.size+1,w.heap.size,mc,some g'⟩/\Tbl.c ⟨w.heap.size+1,w.heap.size,mc,some g'⟩=v.c):=h_ ⟨ID,IC,by
   rw[HC.out];unfold Tbl.c;simp only[aU_,e1,X6,e3,im]⟩
  clear aF eM rH gJ fZ bV NX nM c6 rr bD e1 X6 e3 IC NY NZ lH BI ID CK nu im;generalize lV:zk p'=pw at *;obtain⟨sa,sn,sc,cu⟩:∃a n c,pw=.slice a n c:=by rw[<-lV];cases p' <;> exact⟨_,_,_,rfl⟩
  clear lV;subst cu;go_upto_region 8 with fail
  refine xr NW ?_;clear NW f2 d2 e2;refine xp [0,1,2,3,4,5] [6] (λw'=>∃z:x8 X4,w'=z.1) (by kernel_rfl) (by kernel_rfl) (by kernel_rfl) ⟨⟨X4.drew,(ab_ _ _).drew⟩,rfl⟩ ?_;simp only[o_]
  repeat (go_big_quiet_step (fail))
  refine wpQuiet_nil ?_;clear z0 z1 z2;refine xB [6] _ _ (by kernel_rfl) ?_;simp only[o_];go_wp2;refine ag_ ?_;clear dB;go_wp2;go_ret;exact⟨HF.1,⟨w.heap.size+1,w.heap.size,mc,some g'⟩,rfl,HF.2.1,HF.2.2⟩
end Go.Proofs.YtegfbhdkenkkdaaGreatDoor
namespace Go.Proofs.YtegfbhdkenkkdaaGreatDoor
open Go Go.RowKit Go.Proofs Tryz
theorem xU5 (f w):Calls prog 177 #[.slice none 0 0,.int .i64 0,.int .i64 0,f] w λe w'=>e=.returned (.tuple #[])/\w=w':=by
 go_enter func177,ntmps177;go_wp2;refine wp_loop_once ?_;go_wp2;go_end0;exact⟨rfl,rfl⟩
theorem xU4 (f w):Calls prog 146 #[.slice none 0 0,.int .i64 0,.int .i64 0,.int .i64 0,f] w λe w'=>e=.returned (.tuple #[])/\w=w':=by
 have HI:=h_ (xU5 f w);go_enter func146,ntmps146;go_wp2;refine wp_loop_once ?_;go_wp2_with fail;refine HI.mono ?_;rintro e w' ⟨rfl,rfl⟩;go_wp2
 first|go_end0|(simp only[Exit.inBlock,Exit.then];refine bodyPost_ret (results_none rfl _ _ _) rfl ?_)|refine bodyPost_ret (results_none rfl _ _ _) rfl ?_
 exact⟨rfl,rfl⟩
theorem xQq (f w):Calls prog 118 #[.slice none 0 0,f] w λe w'=>e=.returned (.tuple #[])/\w=w':=by
 have HI:=h_ (xU4 f w);have HB:=h_ (Tryz.bits_Len 0 w (by decide) (by decide));go_enter func118,ntmps118;go_wp2_with fail;refine HB.mono ?_;rintro e w' ⟨rfl,rfl⟩;have h0:Lib.bitLen (0:Int).toNat=0:=by decide
 rw[h0];go_wp2_with fail;refine HI.mono ?_;rintro e w' ⟨rfl,rfl⟩;go_wp2;go_end0;exact⟨rfl,rfl⟩
theorem xM8 {B w v}(h:yU B w v)(hg:v.g=none):Calls prog 82 #[.pointer (some ⟨v.p,0,none⟩)] w λe w'=>e=.returned (.slice none 0 0)/\Below w.heap.size w w':=by
 have c3:=cell_of_row w v.p 0 _ _ _ h.blk;simp only[v_]at c3;have he:v.es=[]:=by unfold Tbl.es;rw[hg]
 have hm:=h.map;unfold y4 at hm;rw[he]at hm;have mq:=run_range_map (P:=prog) w 158 _ _ v.M _ v.mc underlying158 hm;obtain⟨W,hW⟩:∃W,W=w.alloc (.mapIter (some v.M) v.mc #[] v.mc):=⟨_,rfl⟩;have hb:Below w.heap.size w W:=by rw[hW];exact b_ _ _
 have hit:W.heap[w.heap.size]?=some (.mapIter (some v.M) v.mc #[] v.mc):=by rw[hW];exact heap_alloc_new w _
 have bj:∀ty,(Instr.next (.pointer (some ⟨w.heap.size,0,none⟩)) false ty).run prog W=.ok (.tuple #[.bool false]) W:=λty=>by
  rcases run_next_at (P:=prog) W ty w.heap.size v.M v.mc v.mc #[] _ v.mc hit ((hb.block _ h.lt.2).trans hm) (λx hx=>by cases hx) (aa_ _) with⟨_,h1⟩|⟨e,he,_⟩
  ·exact h1
  ·exact absurd (mem_left he).1 (by simp)
 have HB:=h_ hb;rw[<-hW]at mq;clear hm hb hit h he hW hg;go_enter func82,ntmps82;go_wp2;refine wp_loop_once ?_;clear mq c3;go_wp2_with fail;refine(xQq _ W).mono ?_;rintro e w' ⟨rfl,rfl⟩;clear bj;go_wp2;go_ret;exact⟨rfl,HB.out⟩
theorem xTj {B b bs w w'}(h:Lib.IsBuilderF 189 5 B b bs w)(hb:Below w.heap.size w w'):Lib.IsBuilderF 189 5 B b bs w':=by
 have one:∀{p:Value},Lib.BuilderAtF 189 5 B b p bs w->Lib.BuilderAtF 189 5 B b p bs w':=λ{p} h=>by
  have hlt:=h.lt;obtain⟨hB,v,a_,ae,hne⟩:=h;exact⟨hB,v,(hb.block b hlt).trans a_,ae.kept (row:=none) ⟨hb.os,hb.tape,hb.output,hb.size,λk hk _=>hb.block k hk⟩ (by cases hv:v.ownBlock <;> simp),hne⟩
 exact h.elim (λx=>.inl (one x)) (λx=>.inr (one x))
theorem xTi (w:World):Lib.IsBuilderF 189 5 w.heap.size w.heap.size [] (w.alloc (.cells #[.pointer none,.slice none 0 0] 189)):=Lib.IsBuilderF.of (Lib.fresh_isBuilder 189 5 w)
theorem xFq {B w v}(h:yU B w v)(hg:v.g=none):Calls prog 58 #[.pointer (some ⟨v.p,0,none⟩)] w λe w'=>e=.returned (.string ⟨#[]⟩)/\Below w.heap.size w w':=by
 obtain⟨W0,fC⟩:∃W0,W0=w.alloc (.cells #[.pointer none,.slice none 0 0] 189):=⟨_,rfl⟩;have bf:Below w.heap.size w W0:=by rw[fC];exact b_ _ _
 have IE:Lib.IsBuilderF 189 5 w.heap.size w.heap.size [] W0:=by rw[fC];exact xTi w
 have HG:=h_ (xM8 (h.below bf) hg);have db:=h_ bf;have Uj:=h_ IE;clear h hg bf IE;go_enter func58,ntmps58;go_upto_region 2 with fail
 refine xr fC ?_;clear fC;go_wp2_with fail;refine HG.mono ?_;rintro e w1 ⟨rfl,aa⟩;have ar:=h_ (db.trans (aa.mono db.size));have HS:=h_ (Tryz.Builder_String_empty_f w.heap.size w.heap.size w1 (xTj Uj.out aa) ar.size);clear aa;go_wp2;refine wp_loop_once ?_;go_wp2_with fail;refine HS.mono ?_;rintro e w2 ⟨rfl,_,aj⟩;have au:=h_ (ar.trans aj);clear aj;go_wp2;go_ret;exact⟨rfl,au.out⟩
theorem xQd (w):Calls prog 129 #[.string ⟨#[]⟩] w λe w'=>Below w.heap.size w w'/\∃v,e=.returned (.tuple #[.pointer (some ⟨v.p,0,none⟩),.int .i64 0,.int .i64 0])/\yU w.heap.size w' v/\v.g=none:=by
 have aI:(⟨#[]⟩:ByteArray).size=0:=rfl;have HN:=h_ (xKy w);go_enter func129,ntmps129;go_wp2_with fail;refine HN.mono ?_;rintro e w1 ⟨rfl,aa,aB⟩;have HF:=h_ (And.intro aa aB);clear aa aB;go_wp2;refine wp_loop_once ?_;go_wp2;go_ret3;exact⟨HF.1,⟨w.heap.size+1,w.heap.size,0,none⟩,rfl,HF.2,rfl⟩
theorem xA9 (B ib M mc w)(hG:Gl w)(h:ye B w ib M [] mc):Calls prog 59 #[.pointer (some ⟨ib,0,none⟩)] w λe w'=>e=.returned (.string ⟨#[]⟩)/\Below w.heap.size w w':=by
 obtain⟨W0,fC⟩:∃W0,W0=w.alloc (.cells #[.pointer none,.slice none 0 0] 189):=⟨_,rfl⟩;have bf:Below w.heap.size w W0:=by rw[fC];exact b_ _ _
 have IE:Lib.IsBuilderF 189 5 w.heap.size w.heap.size [] W0:=by rw[fC];exact xTi w
 have MD:=h_ (xK3 B ib M mc [] W0 (hG.later bf) (h.below bf));have db:=h_ bf;have Uj:=h_ IE;clear h hG bf IE;go_enter func59,ntmps59;go_upto_region 2 with fail
 refine xr fC ?_;clear fC;go_wp2_with fail;refine MD.mono ?_;rintro e w1 ⟨v,ns,rfl,fm,_,aX,aa⟩;have i5:ns=[]:=by
  cases ns with
  |nil=>rfl
  |cons t l=>obtain⟨G,hG,_⟩:=(aX t).1 (by simp);cases hG
 subst i5;obtain⟨ga,gc,rfl⟩:∃ga gc,v=.slice ga 0 gc:=by
  rcases fm with⟨_,rfl⟩|⟨b,c,rfl,_⟩
  ·exact⟨none,0,rfl⟩
  ·exact⟨_,c,rfl⟩
 have ar:=h_ (db.trans (aa.mono db.size));have HS:=h_ (Tryz.Builder_String_empty_f w.heap.size w.heap.size w1 (xTj Uj.out aa) ar.size);clear aa fm aX MD;go_wp2;refine wp_loop_once ?_;go_wp2_with fail;refine HS.mono ?_;rintro e w2 ⟨rfl,_,aj⟩;have au:=h_ (ar.trans aj);clear aj;go_wp2;go_ret;exact⟨rfl,au.out⟩
theorem xWf (w:World):ye w.heap.size ((w.alloc (.map #[] 0)).alloc (.cells #[.map (some w.heap.size),.int .i64 0] 163)) (w.heap.size+1) w.heap.size [] 0:=by
 refine⟨?_,?_,by simp,(λG h=>by cases h),by simp[foot],by simp,(λG h=>by cases h),by simp[xR],by simp,aa_ _⟩
 ·have:=heap_alloc_new (w.alloc (.map #[] 0)) (.cells #[.map (some w.heap.size),.int .i64 0] 163);rw[al_]at this;exact this
 ·unfold y4;rw[heap_alloc_old _ _ (by simp),heap_alloc_new];rfl
theorem xJ9 (w):Below w.heap.size w ((w.alloc (.map #[] 0)).alloc (.cells #[.map (some w.heap.size),.int .i64 0] 163)):=((ab_ _ _).alloc (aa_ _) _).alloc (by simp) _
theorem xLi (w)(hG:Gl w):Calls prog 130 #[.string ⟨#[]⟩] w λe w'=>Below w.heap.size w w'/\e=.returned (.tuple #[.pointer (some ⟨w.heap.size+1,0,none⟩),.int .i64 0])/\ye w.heap.size w' (w.heap.size+1) w.heap.size [] 0:=by
 have aI:(⟨#[]⟩:ByteArray).size=0:=rfl;have HG:=h_ hG;have HA:=h_ (xWf w);have HB:=h_ (xJ9 w);clear hG;go_enter func130,ntmps130;go_wp2_with fail;refine(xWg w).mono ?_;rintro e w1 ⟨rfl,ai⟩;rw[ai]at HA HB;clear ai;have HE:=h_ (xA9 _ _ _ _ w1 (HG.later HB.out) HA.out);go_wp2;refine wp_loop_once ?_;go_wp2_with fail;refine HE.mono ?_;rintro e w2 ⟨rfl,aj⟩;have HF:=h_ (And.intro (HB.trans (aj.mono HB.size)) (HA.below aj));clear aj;go_wp2;go_ret2;exact⟨HF.1,rfl,HF.2⟩
end Go.Proofs.YtegfbhdkenkkdaaGreatDoor
namespace Go.Proofs.YtegfbhdkenkkdaaGreatDoor
open Go Go.RowKit Go.Proofs Tryz
open Go.ChangeMaps (setBlock)
attribute [local go_sem ↓] xL xI yy yr yB yJ xKe
attribute [local go_sem] zm zA u1 zX zb xh xf xa x9 xu xv xk xj xq xx xt xWu
def xZ1 (gs:List MG)(w:World)(r:Ending)(w':World):Prop:=∃bR M2 cH cR,r=.returned (.pointer (some ⟨bR,0,none⟩))/\ye w.heap.size w' bR M2 cH cR/\lfOf cH=lfOf gs/\xR cH=xR gs/\Below w.heap.size w w'
structure CpSt (X:World)(G:MG)(k:Nat)(v:Value)(ms:List ML)(W:World):Prop where
 bl:Below X.heap.size X W
 blk:W.heap[X.heap.size+1]?=some (.cells #[v,.map (some X.heap.size)] 253 (0,0))
 row:xAq X.heap.size W v ms
 nums:y4 ekI W X.heap.size G.nl G.nc
 ps:ms.map (·.p)=(G.ms.take k).map (·.p)
theorem xAq.keep {A w w' v ls}(h:xAq A w v ls)(hv:∀k,v.ownBlock=some k->w'.heap[k]?=w.heap[k]?)(hr:∀m∈ls,∀k,m.v.ownBlock=some k->w'.heap[k]?=w.heap[k]?):xAq A w' v ls:=⟨h.lin.keep hv hr,h.apart⟩
def InCp (cb lb:Nat)(v:Value)(g:j0):Type:={ z:World // z.cell? ⟨cb,0,none⟩=some v/\xo z ⟨lb,0,none⟩ 38=true/\xm z ⟨lb,0,none⟩ 38=xd g }
theorem InCp.same {cb lb v g w w'}(h:w.cell? ⟨cb,0,none⟩=some v/\xo w ⟨lb,0,none⟩ 38=true/\xm w ⟨lb,0,none⟩ 38=xd g)(h1:w'.heap[cb]?=w.heap[cb]?)(h2:w'.heap[lb]?=w.heap[lb]?):∃z:InCp cb lb v g,w'=z.1:=by
 have hc:∀j,w'.cell? ⟨lb,j,none⟩=w.cell? ⟨lb,j,none⟩:=λj=>by unfold World.cell?;rw[h2]
 have h3:=yCm (w:=w) (w':=w') (a:=⟨lb,0,none⟩) (n:=38) (λj _=>by rw[an_];exact hc _);refine⟨⟨w',?_,by rw[h3.1];exact h.2.1,by rw[h3.2];exact h.2.2⟩,rfl⟩;rw[<-h.1];unfold World.cell?;rw[h1]
theorem xQ4 (B ib M mc gs w)(h:ye B w ib M gs mc):
  Calls prog 101 #[.pointer (some ⟨ib,0,none⟩)] w λr w'=>xZ1 gs w r w':=by
 have lQ:=@run_makeMap prog;obtain⟨W1,c_⟩:∃W1,W1=w.alloc (.map #[] 0):=⟨_,rfl⟩;have aa:Below w.heap.size w W1:=by rw[c_];exact b_ _ _
 obtain⟨W2,ff⟩:∃W2,W2=W1.alloc (.cells #[.map (some w.heap.size),.int .i64 (xR gs)] 163):=⟨_,rfl⟩;have aj:Below w.heap.size w W2:=by rw[ff];exact aa.alloc aa.size _
 have c1:=(h.below aa).cell1;have c0:=(h.below aj).cell0;have mq:=run_range_map (P:=prog) W2 161 _ _ M _ mc underlying161 (h.below aj).map;have ax:=ClSt.start h (W:=W2.alloc (.mapIter (some M) mc #[] mc)) (by rw[ff,c_]);have aK:W1.heap.size=w.heap.size+1:=by rw[c_];simp
 have cT:W2.heap.size=w.heap.size+1+1:=by rw[ff];simp[aK]
 have HX:=h_ h;have aO:=h_ ax;rw[c_]at c1;rw[ff,c_]at c0 mq;clear h aa aj ax;go_enter func101,ntmps101;go_upto_region 5 with fail
 rw[<-c_,<-ff];obtain⟨W3,pY⟩:∃W3,W3=W2.alloc (.mapIter (some M) mc #[] mc):=⟨_,rfl⟩;rw[<-pY]at aO⊢;have dD:w.heap.size<=w.heap.size:=aa_ _;obtain⟨n0,i5⟩:∃n0,n0=w.heap.size:=⟨_,rfl⟩;rw[<-i5]at aO⊢;have X7:=h_ i5;clear pY c_ ff c1 c0 mq aK cT dD lQ i5;go_loopw [4,5,6,8] (λ_ _ _ _ wr=>∃(seen:Array Nat) (cH:List MG) (cR:Nat),Hid (ClSt B w ib M mc gs (n0+1) n0 (n0+1+1) cH cR seen wr)) (λ_ _ _ _ wr=>yAh gs (n0+1+1) wr)
 case atStart=>exact⟨#[],[],0,aO⟩
 case round=>
  obtain⟨seen,cH,cR,HS⟩:=hrel;have HMU:=h_ (xS1 (gs:=gs) HS.rd.iter);rcases HS.rd.next2 0 with⟨hall,hn⟩|⟨G,hG,X,hn,hk,bS,hlt,hit,fm⟩
  ·have HD:=h_ (HS.done hall);have lY:=h_ HS.rd.bl;clear hall HS;go_wp2;go_ret;exact⟨n0+1,n0,cH,cR,rfl,HD.1,HD.2.1,HD.2.2,lY.out⟩
  ·have hn0r:n0+1+1<wr.heap.size:=(i_ HS.rd.iter).1;have QY:=hk.size;have IF:Below w.heap.size w X:=HS.rd.bl.trans (hk.below (by rw[<-X7.out];omega) (λk hk=>by rw[ac_.1 hk,<-X7.out];omega));have Kz:=(HX.below IF).grps G hG;have g1:=cell_of_row X G.gb 1 _ _ _ Kz.blk;have g0:=cell_of_row X G.gb 0 _ _ _ Kz.blk;have QN:=h_ (xLk G.nb _ _ X Kz.nums);obtain⟨Xa,KA⟩:∃Xa,Xa=X.alloc (.map (G.nl.map (enE ekI)).toArray G.nc):=⟨_,rfl⟩;obtain⟨Xb,KB⟩:∃Xb,Xb=Xa.alloc (.cells #[.slice none 0 0,.map (some X.heap.size)] 253):=⟨_,rfl⟩;have hxa:X.heap.size<=Xa.heap.size:=by rw[KA];simp
   have X8:Xa.heap.size=X.heap.size+1:=by rw[KA];simp
   have aM:Below X.heap.size X Xa:=by rw[KA];exact b_ _ _
   have CC:Below X.heap.size X Xb:=by rw[KB];exact aM.alloc aM.size _
   have N0:Hid (CpSt X G 0 (.slice none 0 0) [] Xb):=h_ ⟨CC,by rw[KB,<-X8];exact heap_alloc_new _ _,xAq.nil _ _,by
    unfold y4;rw[KB,heap_alloc_old _ _ (by omega),KA];exact heap_alloc_new _ _,rfl⟩
   obtain⟨la,lc,Dn⟩:=Kz.slice;have Uk:=h_ Kz;have eH:=vj hG;have SH:=HX.few;have g0b:Xb.cell? ⟨G.gb,0,none⟩=some G.v:=(CC.cell (block_lt_of_cell g0)).trans g0;rw[Dn]at g0b;have N1:Hid (∀(cb nb:Nat) (v:Value) (ms:List ML) (Y1:World),Below X.heap.size X Y1->ms.map (·.p)=G.ms.map (·.p)->Y1.heap[cb]?=some (.cells #[v,.map (some nb)] 253 (0,0))->zq X.heap.size Y1 v ms->y4 ekI Y1 nb G.nl G.nc->X.heap.size<=cb->X.heap.size<=nb->ClSt B w ib M mc gs (n0+1) n0 (n0+1+1) (cH++[cpG G cR cb nb v ms]) (cR+1) (seen.push G.born) (Y1.putObj n0 (.map (((cH.map MG.e)++[(⟨G.name,.pointer (some ⟨cb,0,none⟩),cR⟩:KE ByteArray)]).map (enE ekS)).toArray (cR+1)))):=h_ λcb nb v ms Y1 hb hp dN hl hn h1 h2=>HS.put hG fm hk hit hb hp dN hl hn h1 h2 rfl
   have gL:Hid (∀(cb:Nat) (Y1:World),Below X.heap.size X Y1->Y1.cell? ⟨n0+1,0,none⟩=some (.map (some n0))/\(Instr.mapUpdate 161 (.map (some n0)) (.string G.name) (.pointer (some ⟨cb,0,none⟩))).run prog Y1=.ok () (Y1.putObj n0 (.map (((cH.map MG.e)++[(⟨G.name,.pointer (some ⟨cb,0,none⟩),cR⟩:KE ByteArray)]).map (enE ekS)).toArray (cR+1)))):=h_ λcb Y1 hb=>HS.out.out hG fm hk hb cb
   have Hi:=h_ hlt;have Xy:=h_ IF;clear hk hit fm hlt IF Kz HS hxa CC aM hG g0;have X9:=h_ KA;have Ul:=h_ KB;rw[KB]at g0b;clear KA KB;go_wp2_with fail;refine QN.mono ?_;rintro r w2 ⟨rfl,aw⟩;rw[<-X9.out]at aw;subst aw;clear QN;go_upto_region 9 with fail
   rw[<-Ul.out];have QB:=h_ Dn;have wZ:Hid (X.heap.size+2<=Xb.heap.size):=h_ (by rw[Ul.out];simp;omega);have hXn:n0+1+1<X.heap.size:=by omega
   clear Dn X9 Ul g0b g1 hn bS X8;obtain⟨A,hA⟩:∃A,A=X.heap.size:=⟨_,rfl⟩;rw[<-hA]at hXn⊢;have HA:=h_ hA;clear hA;obtain⟨i0,hi0,bd,aL,bk⟩:=info_parts Tryz.info_line;go_loopw [8,40] (λ_ i wy=>∃(k:Nat) (v:Value) (ms:List ML),k<=G.ms.length/\i=.int .i64 k/\Hid (CpSt X G k v ms wy)) (λ_ i _=>G.ms.length-(intOf i).toNat)
   case atStart=>exact⟨0,_,[],aV_ _,rfl,N0⟩
   case round=>
    obtain⟨k,v,ms,hk,rfl,HC⟩:=hrel;by_cases hltk:k<G.ms.length
    ·have cr:(k:Int)<(G.ms.length:Int):=by omega
     obtain⟨lg,cap,N2,hlB,gW,aE⟩:∃lg cap,G.v=.slice (some ⟨lg,0,none⟩) G.ms.length cap/\B<=lg/\lg<X.heap.size/\∀j (hj:j<G.ms.length) i u,(xH G.ms[j].g)[i]?=some u->X.cell? ⟨lg,j*38+i,none⟩=some u:=by
      rcases Uk.lines.head with⟨_,e⟩|⟨lg,cap,h1,h2,h3,_,_,h4⟩
      ·rw[e]at hltk;cases hltk
      ·exact⟨lg,cap,h1,h2,h3,h4⟩
     rw[QB.out]at N2;cases N2;obtain⟨o1,d1⟩:=xCw (w:=wr) (g:=lg) (off:=k*38) (l:=G.ms[k].g) (λi u hu=>(HC.bl.cell (p:=⟨lg,k*38+i,none⟩) gW).trans (aE k hltk i u hu));have aX:G.ms[k]∈G.ms:=bb_ hltk;have gz:=xEp (Uk.good _ aX);have Kl:=h_ ((Uk.lines.refs _ aX).below HC.bl);have p8:Hid ((G.ms.take (k+1)).map (·.p)=(G.ms.take k).map (·.p)++[G.ms[k].p]):=h_ (by rw[am_ hltk,bl_];rfl);have N3:ms.length=k:=by
      have:=congrArg List.length HC.ps;rw[aQ_,aQ_,ai_]at this;omega
     generalize G.ms[k]=m at o1 d1 gz Kl p8;obtain⟨va,vn,vc,Um⟩:∃a n c,v=.slice a n c:=zo HC.row.lin.row;subst Um;have bP:=Kl.one;have bJ:=qy (g:=m.g) bP;have pH:((xd xJ).size==38)=true:=by rw[xP];rfl
     obtain⟨W1,c_⟩:∃W1,W1=wr.alloc (.cells (xd m.g) 204):=⟨_,rfl⟩;have IG:Below wr.heap.size wr W1:=by rw[c_];exact b_ _ _
     have Un:xZ W1 wr.heap.size m.g:=by rw[c_];exact heap_alloc_new _ _
     have FH:W1.heap[X.heap.size+1]?=some (.cells #[.slice va vn vc,.map (some X.heap.size)] 253 (0,0)):=(IG.block _ (i_ HC.blk).1).trans HC.blk;have lI:X.heap.size+1<wr.heap.size:=(i_ HC.blk).1;have gF:W1.drew.cell? ⟨A+1,0,none⟩=some (.slice va vn vc)/\xo W1.drew ⟨wr.heap.size,0,none⟩ 38=true/\xm W1.drew ⟨wr.heap.size,0,none⟩ 38=xd m.g:=by
      rw[HA.out];exact⟨cell_of_row W1 (X.heap.size+1) 0 _ _ _ FH,Un.rd.1,Un.rd.2⟩
     haveI:Nonempty (InCp (A+1) wr.heap.size (.slice va vn vc) m.g):=⟨⟨_,gF⟩⟩
     have z1:∀z:InCp (A+1) wr.heap.size (.slice va vn vc) m.g,z.1.cell? ⟨A+1,0,none⟩=some (.slice va vn vc):=λz=>z.2.1
     have z2:∀z:InCp (A+1) wr.heap.size (.slice va vn vc) m.g,xo z.1 ⟨wr.heap.size,0,none⟩ 38=true:=λz=>z.2.2.1
     have z3:∀z:InCp (A+1) wr.heap.size (.slice va vn vc) m.g,xm z.1 ⟨wr.heap.size,0,none⟩ 38=xd m.g:=λz=>z.2.2.2
     have mC:=h_ c_;have BJ:=h_ gF;have N4:=h_ IG;clear c_ Un FH gF aE IG;go_upto_region 11 with fail
     rw[<-mC.out];refine xp [0,1,2,3,4,5] [6,7,8,9,10,11] (λw'=>∃z:InCp (A+1) wr.heap.size (.slice va vn vc) m.g,w'=z.1) (by kernel_rfl) (by kernel_rfl) (by kernel_rfl) ⟨⟨_,BJ.out⟩,rfl⟩ ?_;simp only[o_]
     repeat (go_big_quiet_step (fail))
     refine wpQuiet_nil ?_;clear z1 z2 z3 o1 d1;have bD:Below wr.heap.size wr W1.drew:=N4.drew;have hsd:wr.heap.size<W1.drew.heap.size:=by rw[mC.out];simp[World.drew]
     generalize W1.drew=Wd at BJ bD hsd⊢;have eD:=h_ bD;have Q6:A+1<wr.heap.size:=by rw[HA.out];exact lI
     have bF:=h_ (xD5 B m.g m.p.ids Wd (Kl.below bD) (by omega));clear bD N4 mC Kl;refine xTz true (by kernel_rfl) (by kernel_rfl) ?_;simp only[o_];go_wp2_with fail;refine bF.mono ?_;rintro r w2 ⟨v',rfl,tE,aj⟩;obtain⟨x,hx⟩:∃x:ML,x=⟨m.p,v'⟩:=⟨_,rfl⟩;have X_:({ m.g with refs:=v' }:j0)=x.g:=by rw[hx];rfl
     have Uo:x.p=m.p:=by rw[hx]
     have Ya:x.v=v':=by rw[hx]
     rw[X_];have mG:Hid (zj Wd.heap.size w2 x.v x.p.ids):=h_ (by rw[Uo,Ya];exact tE);have HXP:=h_ Uo;have FI:∀u∈xH x.g,u.oneCell'=true:=qq (g:=x.g) (by show x.v.oneCell'=true;exact mG.one);have N5:=h_ FI;have au:Hid (Below wr.heap.size wr w2):=h_ (eD.trans (aj.mono eD.size));have CT:Hid (∃z:InCp (A+1) wr.heap.size (.slice va vn vc) m.g,w2=z.1):=h_ (InCp.same BJ.out (aj.block _ (by omega)) (aj.block _ (by omega)));have cT:Wd.heap.size<=w2.heap.size:=aj.size;clear tE aj hx X_ Uo Ya FI bF;go_wp2_with fail;refine⟨λ_=>CT.out,xTz true (by kernel_rfl) (by kernel_rfl) ?_⟩;simp only[o_];go_wp2_with fail;have Rb:Below w2.heap.size w2 (w2.alloc (.cells (xd x.g) 204)):=(ab_ _ _).alloc (aa_ _) _;have al:Below wr.heap.size wr (w2.alloc (.cells (xd x.g) 204)):=au.alloc au.size _;have CH:∃z:InCp (A+1) wr.heap.size (.slice va vn vc) m.g,w2.alloc (.cells (xd x.g) 204)=z.1:=by
      obtain⟨z,hz⟩:=CT.out;refine InCp.same (w:=w2) ?_ (heap_alloc_old _ _ (by omega)) (heap_alloc_old _ _ (by omega));rw[hz];exact z.2
     have CU:=h_ CH;have ay:=h_ al;have dS:∀j,(w2.alloc (.cells (xd x.g) 204)).cell? ⟨w2.heap.size,j,none⟩=(xd x.g)[j]?:=λj=>yz _ _ _ j
     have mp:=h_ dS;have Uq:=h_ (mG.below Rb);have eT:(w2.alloc (.cells (xd x.g) 204)).heap.size=w2.heap.size+1:=by simp
     generalize w2.alloc (.cells (xd x.g) 204)=w3 at CU ay mp Uq eT⊢;clear Rb al CH dS;refine⟨λ_=>CU.out,xTz true (by kernel_rfl) (by kernel_rfl) ?_⟩;simp only[o_];have lr:xAq X.heap.size w3 (.slice va vn vc) ms:=⟨HC.row.lin.below ay.out,HC.row.apart⟩;have og:=h_ lr;have ae:=lr.lin.row;rw[N3]at ae;have KC:X.heap.size<=wr.heap.size:=HC.bl.size;refine wpList_append_own _ rfl (.tmp 48) (.tmp 51) 201 rfl X.heap.size 204 i0 (.agg (xd xJ)) 38 112 underlying201 hi0 bd aL bk (xP _) (by decide) _ _ _ rfl ae ⟨w2.heap.size,0,none⟩ 1 1 (xH x.g) rfl (yC _) ?c1 N5.out ?c3 ?c4 ?c5 ?_
     case c1=>
      intro j u hj;rw[an_,aq_,mp.out];unfold xd;rw[ah_];exact hj
     case c3=>unfold maxLen;omega
     case c4=>omega
     case c5=>omega
     intro v2 w4 BK BL _;have N6:∀k,(Value.slice va vn vc).ownBlock=some k->∃c,w3.heap[k]?=some (.cells c 204 (0,0)):=λk hk=>yR ae hk
     have aQ:Below wr.heap.size wr w4\/True:=.inr trivial;have aR:∀k,k<w3.heap.size->(Value.slice va vn vc).ownBlock≠some k->w4.heap[k]?=w3.heap[k]?:=λk hk hne=>BL.block k hk (λe=>hne e.symm)
     have IH:w3.heap[X.heap.size+1]?=some (.cells #[.slice va vn vc,.map (some X.heap.size)] 253 (0,0)):=(ay.block _ lI).trans HC.blk;have II:(Value.slice va vn vc).ownBlock≠some (X.heap.size+1):=λe=>by
      obtain⟨c,hc⟩:=N6 _ e;rw[IH]at hc;exact absurd (jB hc) (by decide)
     have N7:(Value.slice va vn vc).ownBlock≠some wr.heap.size:=λe=>by
      have:=(aL_ HC.row.lin.row _ e).2;omega
     have N8:(Value.slice va vn vc).ownBlock≠some X.heap.size:=λe=>by
      obtain⟨c,hc⟩:=N6 _ e;have hm:=HC.nums;unfold y4 at hm;rw[ay.block _ (by omega),hm]at hc;cases hc
     have Yb:∃z:InCp (A+1) wr.heap.size (.slice va vn vc) m.g,w4=z.1:=by
      obtain⟨z,hz⟩:=CU.out;refine InCp.same (w:=w3) (by rw[hz];exact z.2) (aR _ (by omega) (by rw[HA.out];exact II)) (aR _ (by omega) N7)
     have mQ:w4.heap[A+1]?=some (.cells #[.slice va vn vc,.map (some X.heap.size)] 253 (0,0)):=by
      rw[HA.out];exact(aR _ (by omega) II).trans IH
     have sY:xAq X.heap.size w4 v2 (ms++[x]):=by
      have N9:xAq X.heap.size Wd (.slice va vn vc) ms:=⟨HC.row.lin.below eD.out,HC.row.apart⟩;refine N9.snoc (by rw[N3];exact BK) (λy hy=>xN7 (og.lin.refs y hy) BL N6) (xN7 (Uq.mono (by omega)) BL N6) (λk hk=>(mG.lt hk).1)
     have DQ:Below X.heap.size X w4:=(HC.bl.trans (ay.mono KC)).grown BL (by omega) (λj hj=>(aL_ HC.row.lin.row j hj).1);obtain⟨v2a,v2n,v2c,Um⟩:∃a n c,v2=.slice a n c:=zo BK;subst Um;have rf:=cell_of_row w4 (A+1) 0 _ _ _ mQ;have wK:=frozen_of_row w4 (A+1) 0 _ _ mQ
     have ed:Hid (CpSt X G (k+1) (.slice v2a v2n v2c) (ms++[x]) (w4.setCell ⟨A+1,0,none⟩ (.slice v2a v2n v2c))):=h_ (by
      have ho:∀j,j≠A+1->(w4.setCell ⟨A+1,0,none⟩ (.slice v2a v2n v2c)).heap[j]?=w4.heap[j]?:=λj hj=>heap_setCell_other w4 ⟨A+1,0,none⟩ j _ hj
      have aJ:=heap_setCell_same w4 (A+1) 0 _ _ (.slice v2a v2n v2c) mQ;refine⟨DQ.setCell (p:=⟨A+1,0,none⟩) (by show _<=A+1;rw[HA.out];omega) _,by rw[<-HA.out]at aJ⊢;exact aJ,sY.keep (λj hj=>ho j λe=>?_) (λy hy j hj=>ho j λe=>?_),?_,?_⟩
      ·obtain⟨c,hc⟩:=yR sY.lin.row hj;rw[e,mQ]at hc;exact absurd (jB hc) (by decide)
      ·obtain⟨c,hc⟩:=(sY.lin.refs y hy).typed hj;rw[e,mQ]at hc;exact absurd (jB hc) (by decide)
      ·unfold y4;rw[ho _ (by rw[HA.out];omega),aR _ (by omega) N8,ay.block _ (by omega)];exact HC.nums
      ·rw[p8.out,bl_,HC.ps];simp[HXP.out])
     have IJ:=h_ Yb;clear BK BL N6 aR IH II N7 N8 Yb mQ sY DQ ae lr HC CU ay Uq mp og mG aQ;go_wp2_with fail;refine⟨λ_=>IJ.out,xB [9,10,11] _ _ (by kernel_rfl) ?_⟩;simp only[o_];go_wp2;refine ag_ ?_;go_wp2;go_roundw
     case rel=>exact⟨k+1,_,_,by omega,by go_num,ed⟩
     case measure=>simp[intOf];omega
    ·have cr:¬ (k:Int)<(G.ms.length:Int):=by omega
     have im:ms.map (·.p)=G.ms.map (·.p):=by
      have:=HC.ps
      rwa [ar_ (by omega)]at this
     have IK:=h_ (N1.out (X.heap.size+1) X.heap.size v ms wr HC.bl im HC.blk HC.row.lin HC.nums (by omega) (aa_ _));obtain⟨p1,p2⟩:=gL.out (X.heap.size+1) wr HC.bl;rw[<-HA.out]at p2 IK;generalize (Obj.map (((cH.map MG.e)++[(⟨G.name,.pointer (some ⟨A+1,0,none⟩),cR⟩:KE ByteArray)]).map (enE ekS)).toArray (cR+1))=O at p2 IK;clear HC im N1 gL N0;go_wp2;go_roundw
     case rel=>exact⟨_,_,_,IK⟩
     case measure=>
      rw[HMU.out,xS1 IK.rd.iter];exact Hi.out
end Go.Proofs.YtegfbhdkenkkdaaGreatDoor
namespace Go.Proofs.YtegfbhdkenkkdaaGreatDoor
open Go Go.RowKit Go.Proofs Tryz
section
theorem qm (ρ:Operand->Value)(d x)(ty:TypeId)(pos af g w):
  Sem.run prog (execOp ρ ⟨d,.load 70 x,ty,pos,af,g⟩) w=yp prog 70 w (ρ x):=rfl
theorem uJ (ρ:Operand->Value)(d x y)(ty:TypeId)(pos af g w):
  Sem.run prog (execOp ρ ⟨d,.store 70 x y,ty,pos,af,g⟩) w=yi prog 70 w (ρ x) (ρ y):=rfl
theorem xCc (w a)(h:xo w a 4=true):yp prog 70 w (.pointer (some a))=.ok (.value (.agg (xm w a 4))) w:=
 yf isAgg70 sizeOf70 w a h
theorem xBv (w g cells)(h:xM w g 4=true)(h2:xy 4 cells=true):
  yi prog 70 w (.pointer (some ⟨g,0,none⟩)) (.agg cells)=.ok .skip (w.setRow g cells):=yo (by kernel_rfl) w g cells h h2
theorem yO.base {B B' w v}(h:yO B w v)(hb:B'<=B):yO B' w v:=⟨h.blk,h.map,h.ne,ad_ hb h.pB,ad_ hb h.MB,h.vals⟩
theorem yE.base {B B' w v}(h:yE B w v)(hb:B'<=B):yE B' w v:=⟨h.blk,h.map,h.ne,ad_ hb h.pB,ad_ hb h.MB,h.vals⟩
theorem yU.base {B B' w v}(h:yU B w v)(hb:B'<=B):yU B' w v:=⟨h.blk,h.map,h.ne,ad_ hb h.pB,ad_ hb h.MB,λg hg=>(h.ivs g hg).base hb,h.young⟩
theorem zq.base {B B' w v ms}(h:zq B w v ms)(hb:B'<=B):zq B' w v ms:=⟨jP h.row hb,λm hm=>(h.refs m hm).mono hb⟩
theorem uz.base {B B' w G}(h:uz B w G)(hb:B'<=B):uz B' w G:=⟨h.blk,h.lines.base hb,h.nums,h.agree,h.ids,h.sorted,h.good,h.named,h.some',ad_ hb h.gbB,ad_ hb h.nbB⟩
theorem ye.base {B B' w ib M mc gs}(h:ye B w ib M gs mc)(hb:B'<=B):ye B' w ib M gs mc:=⟨h.blk,h.map,h.names,λG hG=>(h.grps G hG).base hb,h.apart,h.born,h.young,h.few,ad_ hb h.ibB,ad_ hb h.MB⟩
theorem ye.kept {B w w' ib M mc gs F}(h:ye B w ib M gs mc)(hk:Kept F w w')(hF:∀k∈F,k<B):ye B w' ib M gs mc:=
 h.keep (λk bG=>hk.block k (h.foot_lt k bG).2 (λhf=>by have:=hF k hf;have:=(h.foot_lt k bG).1;omega))
  (λG hG m hm k bG=>hk.block k (((h.grps G hG).lines.refs m hm).lt bG).2 (λhf=>by have:=hF k hf;have:=(((h.grps G hG).lines.refs m hm).lt bG).1;omega))
structure Prt where
 h:Hst
 s:Spo
 t:Tbl
 ib:Nat
 M:Nat
 gs:List MG
 mc:Nat
def xN (x:Prt):Array Value:=#[.pointer (some ⟨x.h.p,0,none⟩),.pointer (some ⟨x.s.p,0,none⟩),.pointer (some ⟨x.t.p,0,none⟩),.pointer (some ⟨x.ib,0,none⟩)]
structure PC where
 hes:List (Id32×Value)
 cut:Int
 ses:List (Id32×Value)
 budget:Nat
 bytes:Nat
 next:Nat
 tc:Option (ByteArray×Nat×Bool)
 lf:LF
def kvs (es:List (KE Id32)):List (Id32×Value):=es.map λe=>(e.k,e.v)
def Prt.pc (x:Prt):PC:=⟨kvs x.h.es,x.h.cut,kvs x.s.es,x.s.budget,x.s.bytes,x.s.next,x.t.c,lfOf x.gs⟩
def kx (b:Nat):PC:=⟨[],0,[],b,0,0,none,λ_=>[]⟩
structure zv (B:Nat)(w:World)(x:Prt):Prop where
 h:yO B w x.h
 s:yE B w x.s
 t:yU B w x.t
 o:ye B w x.ib x.M x.gs x.mc
structure qB (b c1 c2 c3:Nat)(w:World)(x:Prt):Prop where
 h:yO b w x.h
 hl:∀k∈x.h.foot,k<c1
 s:yE c1 w x.s
 sl:∀k∈x.s.foot,k<c2
 t:yU c2 w x.t
 tl:∀k∈x.t.foot,k<c3
 o:ye c3 w x.ib x.M x.gs x.mc
 b1:b<=c1
 b2:c1<=c2
 b3:c2<=c3
theorem qB.at {b c1 c2 c3 w x}(h:qB b c1 c2 c3 w x):zv b w x:=
 ⟨h.h,h.s.base h.b1,h.t.base (ad_ h.b1 h.b2),h.o.base (ad_ (ad_ h.b1 h.b2) h.b3)⟩
theorem zv.below {B w w' x}(h:zv B w x)(hb:Below w.heap.size w w'):zv B w' x:=⟨h.h.below hb,h.s.below hb,h.t.below hb,h.o.below hb⟩
theorem zv.base {B B' w x}(h:zv B w x)(hb:B'<=B):zv B' w x:=⟨h.h.base hb,h.s.base hb,h.t.base hb,h.o.base hb⟩
theorem qB.below {b c1 c2 c3 w w' x}(h:qB b c1 c2 c3 w x)(hb:Below w.heap.size w w'):qB b c1 c2 c3 w' x:=
 ⟨h.h.below hb,h.hl,h.s.below hb,h.sl,h.t.below hb,h.tl,h.o.below hb,h.b1,h.b2,h.b3⟩
theorem zv.kept {B w w' x F}(h:zv B w x)(hk:Kept F w w')(hF:∀k∈F,k<B):zv B w' x:=by
 refine⟨h.h.kept hk λk bG hf=>?_,h.s.kept hk λk bG hf=>?_,h.t.kept hk λk bG hf=>?_,h.o.kept hk hF⟩
 ·have:=hF k hf;simp[Hst.foot]at bG;have:=h.h.pB;have:=h.h.MB;omega
 ·have:=hF k hf;simp[Spo.foot]at bG;have:=h.s.pB;have:=h.s.MB;omega
 ·have:=hF k hf;have:=(h.t.foot_lt k bG).1;omega
theorem yO.agree {B w w' v}(h:yO B w v)(ha:∀k,B<=k->k<w.heap.size->w'.heap[k]?=w.heap[k]?):yO B w' v:=⟨(ha _ h.pB h.lt.1).trans h.blk,(ha _ h.MB h.lt.2).trans h.map,h.ne,h.pB,h.MB,h.vals⟩
theorem yE.agree {B w w' v}(h:yE B w v)(ha:∀k,B<=k->k<w.heap.size->w'.heap[k]?=w.heap[k]?):yE B w' v:=⟨(ha _ h.pB h.lt.1).trans h.blk,(ha _ h.MB h.lt.2).trans h.map,h.ne,h.pB,h.MB,h.vals⟩
theorem yU.agree {B w w' v}(h:yU B w v)(ha:∀k,B<=k->k<w.heap.size->w'.heap[k]?=w.heap[k]?):yU B w' v:=⟨(ha _ h.pB h.lt.1).trans h.blk,(ha _ h.MB h.lt.2).trans h.map,h.ne,h.pB,h.MB,λg hg x hx=>by
 obtain⟨h1,h2,h3,h4,h5⟩:=h.ivs g hg x hx;have hb:=ha x.1 h1 (block_lt_of_cell h4);exact⟨h1,h2,h3,(aN_ (a:=⟨x.1,0,none⟩) hb).trans h4,(aN_ (a:=⟨x.1,1,none⟩) hb).trans h5⟩,h.young⟩
theorem zv.agree {B w w' x}(h:zv B w x)(ha:∀k,B<=k->k<w.heap.size->w'.heap[k]?=w.heap[k]?):zv B w' x:=
 ⟨h.h.agree ha,h.s.agree ha,h.t.agree ha,h.o.keep (λk hk=>ha k (h.o.foot_lt k hk).1 (h.o.foot_lt k hk).2) (λG hG m hm k hk=>ha k (((h.o.grps G hG).lines.refs m hm).lt hk).1 (((h.o.grps G hG).lines.refs m hm).lt hk).2)⟩
theorem qB.feet {b c1 c2 c3 w x}(h:qB b c1 c2 c3 w x):∀k,k∈x.h.foot\/k∈x.s.foot\/k∈x.t.foot\/k∈foot x.ib x.M x.gs->k<w.heap.size:=λk hk=>by
 rcases hk with hk|hk|hk|hk
 ·have:=h.h.lt;simp[Hst.foot]at hk;omega
 ·have:=h.s.lt;simp[Spo.foot]at hk;omega
 ·exact(h.t.foot_lt k hk).2
 ·exact(h.o.foot_lt k hk).2
def jI (B T:Nat)(w:World)(x:Prt):Prop:=∀w':World,(∀k,B<=k->k<T->w'.heap[k]?=w.heap[k]?)->zv B w' x
theorem zv.in {B w x}(h:zv B w x):jI B w.heap.size w x:=λ_ ha=>h.agree ha
theorem jI.at {B T w x}(h:jI B T w x):zv B w x:=h w λ_ _ _=>rfl
theorem jI.kept {B T w w' x F}(h:jI B T w x)(hk:Kept F w w')(hT:T<=w.heap.size)(hF:∀k∈F,k<B\/T<=k):jI B T w' x:=λw2 ha=>h w2 λk h1 h2=>(ha k h1 h2).trans (hk.block k (by omega) (λhf=>by have:=hF k hf;omega))
theorem jI.below {B T w w' x}(h:jI B T w x)(hb:Below w.heap.size w w')(hT:T<=w.heap.size):jI B T w' x:=h.kept (Kept.of_below (F:=[]) hb) hT (by simp)
def zL:Array Value:=#[.pointer none,.pointer none,.pointer none,.pointer none]
theorem uN (ρ:Operand->Value)(d)(ty:TypeId)(pos af g w):
  Sem.run prog (execOp ρ ⟨d,.alloc 70,ty,pos,af,g⟩) w=.ok (.value (.pointer (some ⟨w.heap.size,0,none⟩))) (w.alloc (.cells zL 70)):=by kernel_rfl
theorem jj (a b c d)(ha:a.oneCell'=true)(hb:b.oneCell'=true)(hc:c.oneCell'=true)(hd:d.oneCell'=true):xy 4 #[a,b,c,d]=true:=by
 simp[xy,ha,hb,hc,hd]
theorem xLh {P fn p ty n}(h:fn.results=#[.cell p ty])(hA:∀w,Sem.run P (isAgg ty) w=.ok true w)(hs:∀w,Sem.run P (Go.sizeOf ty) w=.ok n w)
  (tmps) (w) (a) (cs) (hp:tmps.getD p undef=.pointer (some a)) (aD:xo w a n=true) (eR:xm w a n=cs):
  (results fn tmps).run P w=.ok (.agg cs) w:=xEn h hA hs tmps w a cs hp aD eR
attribute [local go_sem ↓] qm uJ uN
attribute [local go_sem] xCc xBv zn zu yx yw xh xf xa x9 xu xv xk xj xq xx xt
theorem xOy (n:Nat)(h1:1<=n)(h2:n<=1073741824)(w):Calls prog 23 #[.int .i64 n] w λe w'=>Below w.heap.size w w'/\∃x,e=.returned (.tuple #[.agg (xN x),.int .i64 0])/\zv w.heap.size w' x/\x.pc=kx n/\x.gs=[]:=by
 obtain⟨w1,ai⟩:∃w1,w1=w.alloc (.cells zL 70):=⟨_,rfl⟩;have aa:Below w.heap.size w w1:=by rw[ai];exact b_ _ _
 have az:w1.heap[w.heap.size]?=some (.cells zL 70 (0,0)):=by rw[ai];exact heap_alloc_new w _
 have HS:=h_ (xZl n h1 h2 w1);have ar:=h_ aa;have cz:=h_ az;clear h1 h2 aa az;go_enter func23,ntmps23;go_upto_region 1 with fail
 refine xr ai ?_;clear ai;go_wp2_with fail;refine HS.mono ?_;rintro e w2 ⟨aj,rfl,cT⟩;have au:=h_ aj;have cF:=h_ cT;clear aj cT HS;go_wp2_with fail;refine(xJy w2).mono ?_;rintro e w3 ⟨al,rfl,iF⟩;have ay:=h_ al;have pj:=h_ iF;clear al iF;go_wp2_with fail;refine(xKy w3).mono ?_;rintro e w4 ⟨rfl,aQ,N_⟩;have bt:=h_ aQ;have D1:=h_ N_;clear aQ N_;go_wp2_with fail;refine(xWg w4).mono ?_;rintro e w5 ⟨rfl,aY⟩;have aF:=xJ9 w4;have wJ:=xWf w4;rw[aY]at aF wJ;have iP:=ar.size;have Oa:=au.size;have BM:=ay.size;have Ob:=bt.size;have Ur:=cF.lt;obtain⟨x,hx⟩:∃x:Prt,x=⟨⟨w2.heap.size+1,w2.heap.size,[],0,0⟩,⟨w1.heap.size+1,w1.heap.size,[],0,n,0,0⟩,⟨w3.heap.size+1,w3.heap.size,0,none⟩,w4.heap.size+1,w4.heap.size,[],0⟩:=⟨_,rfl⟩;have aB:zv w1.heap.size w5 x:=by
  rw[hx];exact⟨((pj.below bt.out).below aF).base (by omega),(((cF.below ay.out).below bt.out).below aF).base (by omega),(D1.below aF).base (by omega),wJ.base (by omega)⟩
 have IL:Below w1.heap.size w1 w5:=au.trans ((ay.trans ((bt.trans (aF.mono Ob)).mono BM)).mono Oa);have eM:=(IL.block _ (i_ cz.out).1).trans cz.out;have bu:xM w5 w.heap.size 4=true:=zN eM rfl;obtain⟨cs,aJ⟩:∃cs,cs=xN x:=⟨_,rfl⟩;have sP:=setRow_heap w5 w.heap.size _ cs _ _ eM;have bJ:xy 4 cs=true:=by rw[aJ];exact jj _ _ _ _ rfl rfl rfl rfl
 have aI:cs.size=4:=by rw[aJ];rfl
 obtain⟨o6,r6⟩:=xD (n:=4) sP aI;have oO:Below w.heap.size w w5:=ar.trans (IL.mono iP);have Oc:=(i_ cz.out).1;have nM:zv w.heap.size (w5.setRow w.heap.size cs) x:=(aB.kept (qL w5 w.heap.size cs) (λk hk=>by rw[ac_.1 hk];exact Oc)).base iP;have aH:x.pc=kx n/\x.gs=[]:=by rw[hx];exact⟨rfl,rfl⟩
 have HF:=h_ (And.intro (xK oO (aa_ _) cs) (And.intro nM (And.intro aH (And.intro o6 r6))));have tW:#[Value.pointer (some ⟨w2.heap.size+1,0,none⟩),.pointer (some ⟨w1.heap.size+1,0,none⟩),.pointer (some ⟨w3.heap.size+1,0,none⟩),.pointer (some ⟨w4.heap.size+1,0,none⟩)]=cs:=by rw[aJ,hx];rfl
 have nD:=h_ aJ;clear aF wJ iP Oa BM Ob Ur aB IL eM sP aI o6 r6 oO Oc nM aH hx aJ aY;go_wp2;refine bodyPost_ret (v:=.tuple #[.agg cs,.int .i64 0]) (qV rfl isAgg70 sizeOf70 _ _ ⟨w.heap.size,0,none⟩ _ _ rfl rfl HF.2.2.2.1 HF.2.2.2.2) rfl ⟨HF.1,x,by rw[nD.out],HF.2.1,HF.2.2.1.1,HF.2.2.1.2⟩
theorem jL {w:World}{b cs}{t:TypeId}(h:w.heap[b]?=some (.cells cs t (0,0)))(j u):(w.setCell ⟨b,j,none⟩ u).heap[b]?=some (.cells (cs.setIfInBounds j u) t (0,0)):=heap_setCell_same w b j cs t u h
theorem xGw {B w x}(h:zv B w x):Calls prog 66 #[.agg (xN x)] w λe w'=>Below w.heap.size w w'/\∃x' c1 c2 c3,e=.returned (.agg (xN x'))/\qB w.heap.size c1 c2 c3 w' x'/\x'.pc=x.pc:=by
 obtain⟨b,bD⟩:∃b,b=w.heap.size:=⟨_,rfl⟩;obtain⟨p0,i6⟩:∃p,p=Value.pointer (some ⟨x.h.p,0,none⟩):=⟨_,rfl⟩;obtain⟨p1,iz⟩:∃p,p=Value.pointer (some ⟨x.s.p,0,none⟩):=⟨_,rfl⟩;obtain⟨p2,ey⟩:∃p,p=Value.pointer (some ⟨x.t.p,0,none⟩):=⟨_,rfl⟩;obtain⟨p3,iX⟩:∃p,p=Value.pointer (some ⟨x.ib,0,none⟩):=⟨_,rfl⟩;have tW:xN x=#[p0,p1,p2,p3]:=by rw[i6,iz,ey,iX];rfl
 rw[tW];obtain⟨w1,ai⟩:∃w1,w1=(w.alloc (.cells #[p0,p1,p2,p3] 70)).alloc (.cells zL 70):=⟨_,rfl⟩;have aa:Below w.heap.size w w1:=by rw[ai];exact((ab_ _ _).alloc (aa_ _) _).alloc (by simp) _
 have az:w1.heap[b]?=some (.cells #[p0,p1,p2,p3] 70 (0,0)):=by rw[bD,ai,heap_alloc_old _ _ (by simp),heap_alloc_new]
 have aV:w1.heap[b+1]?=some (.cells zL 70 (0,0)):=by
  have:=heap_alloc_new (w.alloc (.cells #[p0,p1,p2,p3] 70)) (.cells zL 70);rw[al_]at this;rw[bD,ai];exact this
 have aL:w1.heap.size=b+2:=by rw[bD,ai];simp
 have fP:=h.below aa;have HH:=h_ (xK2 fP.h);rw[<-i6]at HH;have c1:=cell_of_row w1 b 0 _ _ _ az;simp only[v_]at c1;have H:=h_ h;have ar:=h_ aa;have cz:=h_ az;have iw:=h_ aV;have wD:=h_ aL;have HP:=h_ (And.intro i6 (And.intro iz (And.intro ey iX)));have eD:=h_ bD;have Ga:p0.oneCell'=true:=by rw[i6];rfl
 have hk1:p1.oneCell'=true:=by rw[iz];rfl
 have hk2:p2.oneCell'=true:=by rw[ey];rfl
 have dp:p3.oneCell'=true:=by rw[iX];rfl
 have iy:Hid (b=w.heap.size):=h_ bD;clear h aa az aV aL fP i6 iz ey iX tW;go_enter func66,ntmps66;go_upto_region 1 with fail
 refine xr ai ?_;rw[<-bD];clear ai bD;go_wp2_with fail;refine HH.mono ?_;rintro e w2 ⟨aj,h',rfl,Gi,iD,mj,sT⟩;have aA:=(aj.block _ (i_ cz.out).1).trans cz.out;have aP:=(aj.block _ (i_ iw.out).1).trans iw.out;have f2:=frozen_of_row w2 b 0 _ _ aA;have d2:=cell_of_row w2 b 0 _ _ _ aA;simp only[v_]at d2;obtain⟨w3,bm⟩:∃w3,w3=w2.setCell ⟨b,0,none⟩ (Value.pointer (some ⟨h'.p,0,none⟩)):=⟨_,rfl⟩;have dd:Kept [b] w2 w3:=by rw[bm];exact zh w2 ⟨b,0,none⟩ _
 have al:Below w.heap.size w w3:=by rw[bm];exact(ar.trans (aj.mono ar.size)).setCell (p:=⟨b,0,none⟩) (by show w.heap.size<=b;rw[iy.out];exact aa_ _) _
 have bK:w3.heap[b]?=some (.cells #[(Value.pointer (some ⟨h'.p,0,none⟩)),p1,p2,p3] 70 (0,0)):=by rw[bm,jL aA];rfl
 have dv:w3.heap[b+1]?=some (.cells zL 70 (0,0)):=(dd.block _ (i_ aP).1 (by simp)).trans aP;have iF:yO (b+2) w3 h':=(Gi.kept dd (λk hk=>by have:=Gi.pB;have:=Gi.MB;have:=wD.out;simp[Hst.foot]at hk;simp;omega)).base (by rw[wD.out];exact aa_ _);have ld:=H.below al;have HS:=h_ (xIv ld.s);rw[<-HP.2.1]at HS;have c3:=cell_of_row w3 b 1 _ _ _ bK;simp only[v_]at c3;have ay:=h_ al;have dV:=h_ bK;have iq:=h_ dv;have pj:=h_ iF;have HE:=h_ (And.intro iD (And.intro mj sT));have nE:Hid (b+2<=w3.heap.size):=h_ (by have:=dd.size;have:=aj.size;have:=wD.out;omega);have Qq:(Value.pointer (some ⟨h'.p,0,none⟩)).oneCell'=true:=rfl;clear aj Gi iD mj sT aA aP dd al bK dv iF ld HH c1;go_upto_region 2 with fail
 refine xr bm ?_;clear bm f2 d2;go_wp2_with fail;refine HS.mono ?_;rintro e w4 ⟨aQ,s',rfl,fR,du,hg2,fo,hU,wl⟩;have eh:=(aQ.block _ (i_ dV.out).1).trans dV.out;have lB:=(aQ.block _ (i_ iq.out).1).trans iq.out;have f4:=frozen_of_row w4 b 1 _ _ eh;have d4:=cell_of_row w4 b 1 _ _ _ eh;simp only[v_]at d4;obtain⟨w5,aY⟩:∃w5,w5=w4.setCell ⟨b,1,none⟩ (Value.pointer (some ⟨s'.p,0,none⟩)):=⟨_,rfl⟩;have bC:Kept [b] w4 w5:=by rw[aY];exact zh w4 ⟨b,1,none⟩ _
 have aF:Below w.heap.size w w5:=by rw[aY];exact(ay.trans (aQ.mono ay.size)).setCell (p:=⟨b,1,none⟩) (by show w.heap.size<=b;rw[iy.out];exact aa_ _) _
 have eM:w5.heap[b]?=some (.cells #[(Value.pointer (some ⟨h'.p,0,none⟩)),(Value.pointer (some ⟨s'.p,0,none⟩)),p2,p3] 70 (0,0)):=by rw[aY,jL eh];rfl
 have mA:w5.heap[b+1]?=some (.cells zL 70 (0,0)):=(bC.block _ (i_ lB).1 (by simp)).trans lB;have tn:yO (b+2) w5 h':=(pj.below aQ).kept bC (λk hk=>by have:=pj.pB;have:=pj.MB;simp[Hst.foot]at hk;simp;omega);have nt:yE w3.heap.size w5 s':=fR.kept bC (λk hk=>by have:=fR.pB;have:=fR.MB;have:=nE.out;simp[Spo.foot]at hk;simp;omega);have HHL:Hid (∀k∈h'.foot,k<w3.heap.size):=h_ (λk hk=>by have:=pj.lt;simp[Hst.foot]at hk;omega);have lD:=H.below aF;have HT:=h_ (xVw lD.t);rw[<-HP.2.2.1]at HT;have c5:=cell_of_row w5 b 2 _ _ _ eM;simp only[v_]at c5;have aU:=h_ aF;have nK:=h_ eM;have po:=h_ mA;have IM:=h_ tn;have oC:=h_ nt;have HG:=h_ (And.intro du (And.intro hg2 (And.intro fo (And.intro hU wl))));have Us:Hid (w3.heap.size<=w5.heap.size):=h_ (ad_ aQ.size bC.size);have sA:(Value.pointer (some ⟨s'.p,0,none⟩)).oneCell'=true:=rfl;clear aQ fR du hg2 fo hU wl eh lB bC aF eM mA tn nt lD HS c3;go_upto_region 3 with fail
 refine xr aY ?_;clear aY f4 d4;go_wp2_with fail;refine HT.mono ?_;rintro e w6 ⟨bV,t',rfl,Ut,lJ⟩;have gJ:=(bV.block _ (i_ nK.out).1).trans nK.out;have sP:=(bV.block _ (i_ po.out).1).trans po.out;have f6:=frozen_of_row w6 b 2 _ _ gJ;have d6:=cell_of_row w6 b 2 _ _ _ gJ;simp only[v_]at d6;obtain⟨w7,da⟩:∃w7,w7=w6.setCell ⟨b,2,none⟩ (Value.pointer (some ⟨t'.p,0,none⟩)):=⟨_,rfl⟩;have f_:Kept [b] w6 w7:=by rw[da];exact zh w6 ⟨b,2,none⟩ _
 have cY:Below w.heap.size w w7:=by rw[da];exact(aU.trans (bV.mono aU.size)).setCell (p:=⟨b,2,none⟩) (by show w.heap.size<=b;rw[iy.out];exact aa_ _) _
 have lF:w7.heap[b]?=some (.cells #[(Value.pointer (some ⟨h'.p,0,none⟩)),(Value.pointer (some ⟨s'.p,0,none⟩)),(Value.pointer (some ⟨t'.p,0,none⟩)),p3] 70 (0,0)):=by rw[da,jL gJ];rfl
 have rB:w7.heap[b+1]?=some (.cells zL 70 (0,0)):=(f_.block _ (i_ sP).1 (by simp)).trans sP;have EC:yO (b+2) w7 h':=(IM.below bV).kept f_ (λk hk=>by have:=IM.pB;have:=IM.MB;simp[Hst.foot]at hk;simp;omega);have Yc:yE w3.heap.size w7 s':=(oC.below bV).kept f_ (λk hk=>by have:=oC.pB;have:=oC.MB;have:=nE.out;simp[Spo.foot]at hk;simp;omega);have Uu:yU w5.heap.size w7 t':=Ut.kept f_ (λk hk=>by have:=(Ut.foot_lt k hk).1;have:=nE.out;have:=Us.out;simp;omega);have pp:Hid (∀k∈s'.foot,k<w5.heap.size):=h_ (λk hk=>by have:=oC.lt;simp[Spo.foot]at hk;omega);have ry:=H.below cY;have HO:=h_ (xQ4 B x.ib x.M x.mc x.gs w7 ry.o);rw[<-HP.2.2.2]at HO;have c7:=cell_of_row w7 b 3 _ _ _ lF;simp only[v_]at c7;have fA:=h_ cY;have KD:=h_ lF;have FA:=h_ rB;have Uv:=h_ EC;have Uw:=h_ Yc;have Yd:=h_ Uu;have HTC:=h_ lJ;have Ny:Hid (w5.heap.size<=w7.heap.size):=h_ (ad_ bV.size f_.size);have IN:Hid (∀k∈t'.foot,k<w7.heap.size):=h_ (λk hk=>(Uu.foot_lt k hk).2);have fS:(Value.pointer (some ⟨t'.p,0,none⟩)).oneCell'=true:=rfl;clear bV Ut lJ gJ sP f_ cY lF rB EC Yc Uu ry HT c5;go_upto_region 4 with fail
 refine xr da ?_;clear da f6 d6;go_wp2_with fail;refine HO.mono ?_;rintro e w8 ⟨bR,M2,cH,cR,rfl,nS,fK,Ux,dj⟩;have i7:=(dj.block _ (i_ KD.out).1).trans KD.out;have sQ:=(dj.block _ (i_ FA.out).1).trans FA.out;have f8:=frozen_of_row w8 b 3 _ _ i7;have d8:=cell_of_row w8 b 3 _ _ _ i7;simp only[v_]at d8;obtain⟨w9,fV⟩:∃w9,w9=w8.setCell ⟨b,3,none⟩ (Value.pointer (some ⟨bR,0,none⟩)):=⟨_,rfl⟩;have er:Kept [b] w8 w9:=by rw[fV];exact zh w8 ⟨b,3,none⟩ _
 have fc:Below w.heap.size w w9:=by rw[fV];exact(fA.trans (dj.mono fA.size)).setCell (p:=⟨b,3,none⟩) (by show w.heap.size<=b;rw[iy.out];exact aa_ _) _
 have wH:w9.heap[b]?=some (.cells #[(Value.pointer (some ⟨h'.p,0,none⟩)),(Value.pointer (some ⟨s'.p,0,none⟩)),(Value.pointer (some ⟨t'.p,0,none⟩)),(Value.pointer (some ⟨bR,0,none⟩))] 70 (0,0)):=by rw[fV,jL i7];rfl
 have Bp:w9.heap[b+1]?=some (.cells zL 70 (0,0)):=(er.block _ (i_ sQ).1 (by simp)).trans sQ;obtain⟨x',tj⟩:∃x':Prt,x'=⟨h',s',t',bR,M2,cH,cR⟩:=⟨_,rfl⟩;have Od:Kept [b,b+1] w8 (w9.setRow (b+1) #[(Value.pointer (some ⟨h'.p,0,none⟩)),(Value.pointer (some ⟨s'.p,0,none⟩)),(Value.pointer (some ⟨t'.p,0,none⟩)),(Value.pointer (some ⟨bR,0,none⟩))]):=(er.mono (F':=[b,b+1]) (λk hk _=>by simp at hk;simp[hk])).trans (qL w9 (b+1) _) (λk hk=>by simp at hk;simp[hk]);have bL:qB (b+2) w3.heap.size w5.heap.size w7.heap.size (w9.setRow (b+1) #[(Value.pointer (some ⟨h'.p,0,none⟩)),(Value.pointer (some ⟨s'.p,0,none⟩)),(Value.pointer (some ⟨t'.p,0,none⟩)),(Value.pointer (some ⟨bR,0,none⟩))]) x':=by
  have z3:=nE.out;have z5:=Us.out;have z7:=Ny.out;rw[tj];refine⟨(Uv.below dj).kept Od (λk hk=>?_),HHL.out,(Uw.below dj).kept Od (λk hk=>?_),pp.out,(Yd.below dj).kept Od (λk hk=>?_),IN.out,nS.kept Od (λk hk=>?_),z3,z5,z7⟩
  ·have:=Uv.pB;have:=Uv.MB;simp[Hst.foot]at hk;simp;omega
  ·have:=Uw.pB;have:=Uw.MB;simp[Spo.foot]at hk;simp;omega
  ·have:=(Yd.foot_lt k hk).1;simp;omega
  ·simp at hk;omega
 have aH:x'.pc=x.pc:=by
  rw[tj];unfold Prt.pc;simp only[HE.1,HE.2.2,HG.1,HG.2.2.1,HG.2.2.2.1,HG.2.2.2.2,HTC.out,fK]
 have aJ:xN x'=#[(Value.pointer (some ⟨h'.p,0,none⟩)),(Value.pointer (some ⟨s'.p,0,none⟩)),(Value.pointer (some ⟨t'.p,0,none⟩)),(Value.pointer (some ⟨bR,0,none⟩))]:=by rw[tj];rfl
 have KF:(Value.pointer (some ⟨bR,0,none⟩)).oneCell'=true:=rfl;have bJ:xy 4 #[(Value.pointer (some ⟨h'.p,0,none⟩)),(Value.pointer (some ⟨s'.p,0,none⟩)),(Value.pointer (some ⟨t'.p,0,none⟩)),(Value.pointer (some ⟨bR,0,none⟩))]=true:=jj _ _ _ _ Qq sA fS KF;obtain⟨o9,r9⟩:=xD (n:=4) wH rfl;have bu:xM w9 (b+1) 4=true:=zN Bp rfl;obtain⟨Rc,Re⟩:=xD (n:=4) (setRow_heap w9 (b+1) _ #[(Value.pointer (some ⟨h'.p,0,none⟩)),(Value.pointer (some ⟨s'.p,0,none⟩)),(Value.pointer (some ⟨t'.p,0,none⟩)),(Value.pointer (some ⟨bR,0,none⟩))] _ _ Bp) rfl;have HF:=h_ (And.intro (xK fc (by rw[iy.out];omega) (g:=b+1) #[(Value.pointer (some ⟨h'.p,0,none⟩)),(Value.pointer (some ⟨s'.p,0,none⟩)),(Value.pointer (some ⟨t'.p,0,none⟩)),(Value.pointer (some ⟨bR,0,none⟩))]) (And.intro bL (And.intro aH (And.intro Rc Re))));have nD:=h_ aJ;clear dj nS fK Ux i7 sQ er fc wH Bp tj Od bL aH aJ Rc Re HO c7;go_upto_region 5 with fail
 refine xr fV ?_;clear fV f8 d8;go_wp2;refine bodyPost_ret (v:=.agg #[(Value.pointer (some ⟨h'.p,0,none⟩)),(Value.pointer (some ⟨s'.p,0,none⟩)),(Value.pointer (some ⟨t'.p,0,none⟩)),(Value.pointer (some ⟨bR,0,none⟩))]) (xLh rfl isAgg70 sizeOf70 _ _ ⟨b+1,0,none⟩ _ rfl HF.2.2.2.1 HF.2.2.2.2) rfl ⟨HF.1,x',w3.heap.size,w5.heap.size,w7.heap.size,by rw[nD.out],?_,HF.2.2.1⟩;have hS:=HF.2.1;exact⟨hS.h.base (by rw[iy.out];omega),hS.hl,hS.s,hS.sl,hS.t,hS.tl,hS.o,ad_ (by rw[iy.out];omega) hS.b1,hS.b2,hS.b3⟩
end
section
theorem qj (ρ:Operand->Value)(d x)(ty:TypeId)(pos af g w):
  Sem.run prog (execOp ρ ⟨d,.load 132 x,ty,pos,af,g⟩) w=yp prog 132 w (ρ x):=rfl
theorem uI (ρ:Operand->Value)(d x y)(ty:TypeId)(pos af g w):
  Sem.run prog (execOp ρ ⟨d,.store 132 x y,ty,pos,af,g⟩) w=yi prog 132 w (ρ x) (ρ y):=rfl
theorem xCb (w a)(h:xo w a 1=true):yp prog 132 w (.pointer (some a))=.ok (.value (.agg (xm w a 1))) w:=
 yf isAgg132 sizeOf132 w a h
theorem xBu (w g cells)(h:xM w g 1=true)(h2:xy 1 cells=true):
  yi prog 132 w (.pointer (some ⟨g,0,none⟩)) (.agg cells)=.ok .skip (w.setRow g cells):=yo (by kernel_rfl) w g cells h h2
theorem uL (ρ:Operand->Value)(d)(ty:TypeId)(pos af g w):
  Sem.run prog (execOp ρ ⟨d,.alloc 132,ty,pos,af,g⟩) w=.ok (.value (.pointer (some ⟨w.heap.size,0,none⟩))) (w.alloc (.cells #[.slice none 0 0] 132)):=by kernel_rfl
def WrAt (B:Nat)(w:World)(b:Nat)(l:By):Prop:=B<=b/\∃v,w.heap[b]?=some (.cells #[v] 132 (0,0))/\OwnB w B v l
theorem WrAt.below {B w w' b l}(h:WrAt B w b l)(hb:Below w.heap.size w w'):WrAt B w' b l:=by
 obtain⟨h1,v,h2,h3⟩:=h;exact⟨h1,v,(hb.block _ (i_ h2).1).trans h2,h3.below hb⟩
theorem OwnB.ne {B w v l}(h:OwnB w B v l){b cs}{t:TypeId}{fz}(hr:w.heap[b]?=some (.cells cs t fz))(ht:t≠5):v.ownBlock≠some b:=λe=>by
 obtain⟨cur,hc⟩:=yR h e;rw[hr]at hc;exact ht (jB hc)
theorem uA {B w v l}(h:OwnB w B v l):∃a n c,v=.slice a n c:=by
 obtain⟨a,c,e⟩:=yd h;exact⟨a,_,c,e⟩
theorem xEh (l):Go.Lib.strCells (str l)=encB l:=by
 unfold Go.Lib.strCells str encB;rfl
theorem yD (l):(str l).size=l.length:=by
 show l.toArray.size=_
 simp
theorem WrAt.put {B w w1 w2 b l l' v v'}(hB:B<=b)(hr:w1.heap[b]?=some (.cells #[v] 132 (0,0)))(ho:OwnB w1 B v l)(hb:Below B w w1)(hg:w1.grownBy w2 v.ownBlock)(cI:OwnB w2 B v' l'):
  w2.heap[b]?=some (.cells #[v] 132 (0,0))/\Below B w (w2.setCell ⟨b,0,none⟩ v')/\WrAt B (w2.setCell ⟨b,0,none⟩ v') b l':=by
 have aG:=(i_ hr).1;have hne:=ho.ne hr (by decide);have aP:w2.heap[b]?=some (.cells #[v] 132 (0,0)):=(hg.block b aG (λe=>hne e.symm)).trans hr;have aj:Below B w w2:=hb.grown hg (by omega) (λ_ e=>(ho.lt e).1);have Uy:=cI.ne aP (by decide);refine⟨aP,aj.setCell (p:=⟨b,0,none⟩) hB _,hB,v',by rw[jL aP];rfl,cI.grown (grownBy_setCell' w2 b _) (λk e=>by cases e;exact Uy)⟩
attribute [local go_sem ↓] qj uI uL xL xI
attribute [local go_sem] xCb xBu zm zA zn zu yx yw xh xf xa x9 xu xv xk xj xq xx xt
theorem vt {B w b l}(h:WrAt B w b l)(c)(hl:l.length<=1000000):
  Calls prog 54 #[.pointer (some ⟨b,0,none⟩),.int .u8 c.toNat] w λe w'=>e=.returned (.tuple #[])/\Below B w w'/\WrAt B w' b (l++[c]):=by
 obtain⟨hB,v,hr,ho⟩:=h;obtain⟨va,vn,vc,hv⟩:=uA ho;have aG:=(i_ hr).1;have c0:=cell_of_row w b 0 _ _ _ hr;simp only[v_]at c0;have aa:Below w.heap.size w (w.alloc (.cells #[.int .u8 c.toNat] 5)):=(ab_ _ _).alloc (aa_ _) _;have cd:=ho.below aa;have aK:SlB (w.alloc (.cells #[.int .u8 c.toNat] 5)) ⟨w.heap.size,0,none⟩ [c]:=vi w 5 [c];have aV:=(aa.block _ aG).trans hr;have ew:=h_ cd;have bW:=h_ aK;have iw:=h_ aV;have ar:Hid (Below B w (w.alloc (.cells #[.int .u8 c.toNat] 5))):=h_ (aa.mono (by omega));have eX:Hid (B<=(w.alloc (.cells #[.int .u8 c.toNat] 5)).heap.size):=h_ (by simp;omega);have dw:Hid (l.length+[c].length<=1000000000000):=h_ (by simp;omega);have HB:=h_ hB;subst hv;clear hB hr ho aG aa cd aK aV hl;go_enter func54,ntmps54;go_wp2_with (at_builtin;refine zw rfl (.tmp 8) (.tmp 10) rfl B _ l rfl ew.out ⟨w.heap.size,0,none⟩ [c] 1 rfl bW.out dw.out eX.out ?_);intro v' w' cI hg _ _;obtain⟨a',n',c',fB⟩:=uA cI;obtain⟨aP,aj,aw⟩:=WrAt.put HB.out iw.out ew.out ar.out hg cI;subst fB;have f2:=frozen_of_row w' b 0 _ _ aP;have c2:=cell_of_row w' b 0 _ _ _ aP;simp only[v_]at c2;have HF:=h_ (And.intro aj aw);clear cI hg aP aj aw c0;go_wp2;go_end0;exact⟨rfl,HF.1,HF.2⟩
theorem beB4 (n):beB 4 n=[UInt8.ofNat (n/256 ^ 3),UInt8.ofNat (n/256 ^ 2),UInt8.ofNat (n/256 ^ 1),UInt8.ofNat (n/256 ^ 0)]:=by
 apply dV_;intro j
 match j with
 |0=>rw[ak_ (by simp[xe]),vV 4 n 0 (by omega)];rfl
 |1=>rw[ak_ (by simp[xe]),vV 4 n 1 (by omega)];rfl
 |2=>rw[ak_ (by simp[xe]),vV 4 n 2 (by omega)];rfl
 |3=>rw[ak_ (by simp[xe]),vV 4 n 3 (by omega)];rfl
 |j+4=>simp[xe]
theorem uE {B w b l}(h:WrAt B w b l)(n:Nat)(hn:n<=4611686018427387904)(hl:l.length<=1000000):
  Calls prog 77 #[.pointer (some ⟨b,0,none⟩),.int .i64 n] w λe w'=>e=.returned (.tuple #[])/\Below B w w'/\WrAt B w' b (l++beB 4 n):=by
 obtain⟨hB,v,hr,ho⟩:=h;obtain⟨va,vn,vc,hv⟩:=uA ho;have aG:=(i_ hr).1;have c0:=cell_of_row w b 0 _ _ _ hr;simp only[v_]at c0;rw[beB4];have x3:=vd n 3;have x2:=vd n 2;have x1:=vd n 1;have x0:=vd n 0;simp only[Nat.reduceMul,Int.reducePow,Int.pow_zero,Int.ediv_one]at x3 x2 x1 x0;generalize UInt8.ofNat (n/256 ^ 3)=b3 at *;generalize UInt8.ofNat (n/256 ^ 2)=b2 at *;generalize UInt8.ofNat (n/256 ^ 1)=b1 at *;generalize UInt8.ofNat (n/256 ^ 0)=b0 at *;obtain⟨w1,ai⟩:∃w1,w1=w.alloc (.cells #[.int .u8 b3.toNat,.int .u8 b2.toNat,.int .u8 b1.toNat,.int .u8 b0.toNat] 5):=⟨_,rfl⟩;have aa:Below w.heap.size w w1:=by rw[ai];exact b_ _ _
 have aK:SlB w1 ⟨w.heap.size,0,none⟩ [b3,b2,b1,b0]:=by rw[ai];exact vi w 5 [b3,b2,b1,b0]
 have cd:=ho.below aa;have aV:=(aa.block _ aG).trans hr;have ew:=h_ cd;have bW:=h_ aK;have iw:=h_ aV;have ar:Hid (Below B w w1):=h_ (aa.mono (by omega));have eX:Hid (B<=w1.heap.size):=h_ (by have:=aa.size;omega);have dw:Hid (l.length+[b3,b2,b1,b0].length<=1000000000000):=h_ (by simp;omega);have HB:=h_ hB;rw[x3,x2,x1,x0]at ai;have pC:(n:Int)<=4611686018427387904:=by omega
 have mC:=h_ ai;subst hv;clear hB hr ho aG aa cd aK aV hl x3 x2 x1 x0 hn ai;go_enter func77,ntmps77;go_wp2_with (at_builtin;rw[<-mC.out];refine zw rfl (.tmp 8) (.tmp 20) rfl B _ l rfl ew.out ⟨w.heap.size,0,none⟩ [b3,b2,b1,b0] 4 rfl bW.out dw.out eX.out ?_);intro v' w' cI hg _ _;obtain⟨a',n',c',fB⟩:=uA cI;obtain⟨aP,aj,aw⟩:=WrAt.put HB.out iw.out ew.out ar.out hg cI;subst fB;have f2:=frozen_of_row w' b 0 _ _ aP;have c2:=cell_of_row w' b 0 _ _ _ aP;simp only[v_]at c2;have HF:=h_ (And.intro aj aw);clear cI hg aP aj aw c0;go_wp2;go_end0;exact⟨rfl,HF.1,HF.2⟩
theorem zC {B w b l}(h:WrAt B w b l)(s)(hs:s.length<=1000000)(hl:l.length<=900000):
  Calls prog 55 #[.pointer (some ⟨b,0,none⟩),.string (str s)] w λe w'=>e=.returned (.tuple #[])/\Below B w w'/\WrAt B w' b (l++beB 4 s.length++s):=by
 have HN:=h_ (uE h s.length (by omega) (by omega));have aI:=yD s;have HL:=h_ hl;have HS:=h_ hs;obtain⟨sb,cZ⟩:∃sb,sb=str s:=⟨_,rfl⟩;have ia:(sb.size:Int)=(s.length:Int):=by rw[cZ,aI]
 rw[<-cZ];have pq:=h_ cZ;clear h hs hl aI cZ;go_enter func55,ntmps55;go_wp2_with fail
 try rw[ia]
 refine HN.mono ?_;rintro e w1 ⟨rfl,aa,hB,v,hr,ho⟩;obtain⟨va,vn,vc,hv⟩:=uA ho;have c0:=cell_of_row w1 b 0 _ _ _ hr;simp only[v_]at c0;obtain⟨i0,hi,bd,aL,bk⟩:=info_parts Tryz.info_byte;have HI:=h_ (And.intro hi (And.intro bd (And.intro aL bk)));have HO:=h_ ho;have HR:=h_ hr;have HB:=h_ hB;have ar:=h_ aa;have wu:Hid (B<=w1.heap.size):=h_ (by have:=(i_ hr).1;omega);have Oe:Hid ((l++beB 4 s.length).length+sb.size<=2000000):=h_ (by have:=HL.out;have:=HS.out;simp[xe];omega);subst hv;clear aa hB hr ho hi bd aL bk HN;go_wp2_with (at_builtin;refine dl_ _ rfl (.tmp 12) (.tmp 13) 31 9 rfl B 5 i0 underlying31 underlying9 HI.1 HI.2.1 HI.2.2.1 HI.2.2.2 _ _ _ rfl HO.out sb rfl (by have:=Oe.out;unfold maxLen;omega) (by have:=Oe.out;omega) wu.out ?_);intro v' w' cI hg _;have dX:OwnB w' B v' (l++beB 4 s.length++s):=by
  rw[pq.out,xEh,yD]at cI;unfold OwnB;rw[af_,af_,show encB (l++beB 4 s.length++s)=encB (l++beB 4 s.length)++encB s by simp[encB]];exact cI
 obtain⟨a',n',c',fB⟩:=uA dX;obtain⟨aP,aj,aw⟩:=WrAt.put HB.out HR.out HO.out ar.out hg dX;subst fB;have f2:=frozen_of_row w' b 0 _ _ aP;have c2:=cell_of_row w' b 0 _ _ _ aP;simp only[v_]at c2;have HF:=h_ (And.intro aj aw);clear cI dX hg aP aj aw c0;go_wp2;go_end0;exact⟨rfl,HF.1,HF.2⟩
end
section
attribute [local go_sem ↓] qj uI uL
attribute [local go_sem] xCb xBu zn zu yx yw xh xf xa x9 xu xv xk xj xq xx xt
theorem xFo {B w v l}(h:OwnB w B v l)(hl:l≠[]):(convert 31 9 v).run prog w=.ok (.string (str l)) w:=by
 rcases h.at with⟨_,h0⟩|⟨g,cap,rfl,_,_,_,hs⟩
 ·exact absurd h0 hl
 ·exact run_convert_bytes_back (P:=prog) w 31 9 5 ⟨g,0,none⟩ cap l underlying31 underlying5 underlying9 (λj hj=>hs.cell j _ (ak_ hj))
def uY (n:Nat):By:=[1]++(beB 4 4++(beB 4 0++(beB 4 16++((beB 8 n++beB 8 0)++(beB 4 0++([]++(beB 4 0++([]++[]))))))))
theorem yF (n):(uY n).length=37:=by simp[uY,xe]
theorem xCp:(⟨#[]⟩:ByteArray)=str []:=rfl
theorem xIo {B w x}(h:zv B w x)(hG:Gl w)(n)(aH:x.pc=kx n)(cQ:x.gs=[])(hn:n<=1073741824)(q)(hq:w.heap[q]?=some (.cells (xN x) 81 (0,0))):
  Calls prog 27 #[.pointer (some ⟨q,0,none⟩)] w λe w'=>Below w.heap.size w w'/\∃u,e=.returned u/\OwnB w' w.heap.size u (uY n):=by
 have gT:x.h.es=[]:=bC_.1 (congrArg PC.hes aH);have hcut:x.h.cut=0:=congrArg PC.cut aH;have Ks:x.s.es=[]:=bC_.1 (congrArg PC.ses aH);have cZ:x.s.budget=n:=congrArg PC.budget aH;have sZ:x.t.g=none:=by
  have h1:x.t.c=none:=congrArg PC.tc aH;unfold Tbl.c at h1;simpa using h1
 obtain⟨b,hb⟩:∃b,b=w.heap.size:=⟨_,rfl⟩;obtain⟨w1,ai⟩:∃w1,w1=w.alloc (.cells #[.slice none 0 0] 132):=⟨_,rfl⟩;have aa:Below b w w1:=by rw[ai,hb];exact b_ _ _
 have lK:WrAt b w1 b []:=⟨aa_ _,_,by rw[ai,hb];exact heap_alloc_new w _,OwnB.nil _ _⟩;have HW:=h_ (vt lK 1 (by simp));have ar:=h_ aa;have H:=h_ h;have HG:=h_ hG;have HQ:=h_ hq;have KG:=h_ (And.intro gT hcut);have m6:=h_ (And.intro Ks cZ);have IP:=h_ sZ;have mn:=h_ cQ;have HN:=h_ hn;have eD:=h_ hb;have D2:Hid (q<b):=h_ (by rw[hb];exact(i_ hq).1);rw[<-hb];clear h hG hq gT hcut Ks cZ sZ cQ hn aa lK aH;have tX:((1:UInt8).toNat:Int)=1:=rfl;have aK:(#[Value.slice none 0 0].size==1)=true:=rfl;have gK:xy 1 #[Value.slice none 0 0]=true:=by simp[xy,Value.oneCell']
 rw[tX]at HW;go_enter func27,ntmps27;go_upto_region 2 with fail
 refine xr ai ?_;rw[<-hb];clear ai hb;go_wp2_with fail;refine HW.mono ?_;rintro e w2 ⟨rfl,aj,aw⟩;have au:=h_ (ar.trans aj);have IQ:=h_ aw;have wK:=(au.block q D2.out).trans HQ.out;have c2:=cell_of_row w2 q 0 _ _ _ wK;simp only[xN,v_]at c2;have Gk:zv B w2 x:=H.below (by rw[<-eD.out];exact au.out);have HH:=h_ (xLq Gk.h KG.1 0 (by rw[KG.2];rfl) (by omega));clear aj aw wK Gk HW;go_wp2_with fail;refine HH.mono ?_;rintro e w3 ⟨al,u,rfl,ae⟩;obtain⟨ua,un,uc,hu⟩:=uA ae;have gV:=xFo ae (by simp[beB]);have dr:b<=w2.heap.size:=by rw[eD.out];exact au.size
 have ay:Hid (Below b w w3):=h_ (au.trans (al.mono dr));have BN:=h_ (zC (IQ.below al) (beB 4 0) (by simp[xe]) (by simp));subst hu;clear al ae HH c2 dr;go_wp2_with fail;refine BN.mono ?_;rintro e w4 ⟨rfl,aQ,cP⟩;have bt:=h_ (ay.trans aQ);have wI:=h_ cP;have gk:∀W,Below b w W->w.heap.size<=W.heap.size:=λW h=>h.size
 have Of:=(bt.block q D2.out).trans HQ.out;have c4:=cell_of_row w4 q 1 _ _ _ Of;simp only[xN,v_]at c4;have Rf:zv B w4 x:=H.below (by rw[<-eD.out];exact bt.out);have HS:=h_ (xLc Rf.s m6.1 (by rw[m6.2];exact HN.out));rw[m6.2]at HS;clear aQ cP Of Rf gV BN gk;go_wp2_with fail;refine HS.mono ?_;rintro e w5 ⟨aF,u,rfl,ae⟩;obtain⟨ua5,un5,uc5,hu⟩:=uA ae;have gV:=xFo ae (by simp[beB]);have dr:b<=w4.heap.size:=by rw[eD.out];exact bt.size
 have aU:Hid (Below b w w5):=h_ (bt.trans (aF.mono dr));have rI:=h_ (zC (wI.below aF) (beB 8 n++beB 8 0) (by simp[xe]) (by simp[xe]));subst hu;clear aF ae HS c4 dr;go_wp2_with fail;refine rI.mono ?_;rintro e w6 ⟨rfl,bV,b8⟩;have fb:=h_ (aU.trans bV);have IR:=h_ b8;have Og:=(fb.block q D2.out).trans HQ.out;have c6:=cell_of_row w6 q 2 _ _ _ Og;simp only[xN,v_]at c6;have Oh:zv B w6 x:=H.below (by rw[<-eD.out];exact fb.out);have HT:=h_ (xFq Oh.t IP.out);clear bV b8 Og Oh gV rI;go_wp2_with fail;refine HT.mono ?_;rintro e w7 ⟨rfl,cY⟩;have dr:b<=w6.heap.size:=by rw[eD.out];exact fb.size
 have fA:Hid (Below b w w7):=h_ (fb.trans (cY.mono dr));have sR:=h_ (zC (IR.below cY) [] (by simp) (by simp[xe]));clear cY HT c6 dr;go_wp2_with fail;rw[xCp];refine sR.mono ?_;rintro e w8 ⟨rfl,dj,sX⟩;have gB:=h_ (fA.trans dj);have IS:=h_ sX;have Oi:=(gB.block q D2.out).trans HQ.out;have c8:=cell_of_row w8 q 3 _ _ _ Oi;simp only[xN,v_]at c8;have rJ:Below w.heap.size w w8:=by rw[<-eD.out];exact gB.out
 have Oj:zv B w8 x:=H.below rJ;have nS:=Oj.o;rw[mn.out]at nS;have HO:=h_ (xA9 _ _ _ _ w8 (HG.later rJ) nS);clear dj sX Oi Oj rJ nS sR;go_wp2_with fail;refine HO.mono ?_;rintro e w9 ⟨rfl,fc⟩;have dr:b<=w8.heap.size:=by rw[eD.out];exact gB.size
 have fW:Hid (Below b w w9):=h_ (gB.trans (fc.mono dr));have D3:=h_ (zC (IS.below fc) [] (by simp) (by simp[xe]));clear fc HO c8 dr;go_wp2_with fail;rw[xCp];refine D3.mono ?_;rintro e bn ⟨rfl,dT,rK,v,hr,ho⟩;have hall:((((((((([]:By)++[1])++beB 4 (beB 4 0).length++beB 4 0)++beB 4 (beB 8 n++beB 8 0).length++(beB 8 n++beB 8 0))++beB 4 ([]:By).length++[])++beB 4 ([]:By).length++[]))))=uY n:=by
  simp[uY,xe,aH_]
 have cI:OwnB bn b v (uY n):=by rw[<-hall];exact ho
 have Kr:=cell_of_row bn b 0 _ _ _ hr;simp only[v_]at Kr;have HF:=h_ (And.intro (fW.trans dT) cI);clear dT rK hr ho hall cI D3;go_wp2;go_ret;exact⟨HF.1,v,rfl,HF.2⟩
end
section
theorem xHk (ρ:Operand->Value)(d x)(ty:TypeId)(pos af g w):
  Sem.run prog (execOp ρ ⟨d,.load 209 x,ty,pos,af,g⟩) w=yp prog 209 w (ρ x):=rfl
theorem xFf (ρ:Operand->Value)(d x y)(ty:TypeId)(pos af g w):
  Sem.run prog (execOp ρ ⟨d,.store 209 x y,ty,pos,af,g⟩) w=yi prog 209 w (ρ x) (ρ y):=rfl
theorem yAk (w a)(h:xo w a 2=true):yp prog 209 w (.pointer (some a))=.ok (.value (.agg (xm w a 2))) w:=
 yf isAgg209 sizeOf209 w a h
theorem xZh (w g cells)(h:xM w g 2=true)(h2:xy 2 cells=true):
  yi prog 209 w (.pointer (some ⟨g,0,none⟩)) (.agg cells)=.ok .skip (w.setRow g cells):=yo (by kernel_rfl) w g cells h h2
def RdAt (w:World)(r:Nat)(v:Value):Prop:=w.heap[r]?=some (.cells #[v,.bool false] 209 (0,0))
structure qH (w:World)(r:Nat)(a:Addr)(cap:Nat)(l:By):Prop where
 row:RdAt w r (.slice (some a) l.length cap)
 sl:SlB w a l
 le:l.length<=cap
 mx:cap<=maxLen
 ne:a.block≠r
 lt:a.block<w.heap.size
theorem qH.kept {w w' r a cap l}(h:qH w r a cap l){F}(hk:Kept F w w')(hr:r∉F)(ha:a.block∉F):qH w' r a cap l:=
 ⟨(hk.block r (i_ h.row).1 hr).trans h.row,⟨λq x hq=>(aN_ (by rw[ya];exact hk.block _ h.lt ha)).trans (h.sl.cell q x hq)⟩,h.le,h.mx,h.ne,ap_ h.lt hk.size⟩
theorem qH.below {w w' r a cap l}(h:qH w r a cap l)(hb:Below w.heap.size w w'):qH w' r a cap l:=h.kept (Kept.of_below (F:=[]) hb) (by simp) (by simp)
theorem SlB.front {w a x l}(h:SlB w a (x++l)):SlB w a x:=by
 have:=h.take x.length
 rwa [List.take_left]at this
theorem qH.cut {w r a cap x l}(h:qH w r a cap (x++l)):
  qH (w.setCell ⟨r,0,none⟩ (.slice (some (cutA a cap x.length)) l.length (cap-x.length))) r (cutA a cap x.length) (cap-x.length) l /\
  SlB (w.setCell ⟨r,0,none⟩ (.slice (some (cutA a cap x.length)) l.length (cap-x.length))) a x:=by
 have hle:=h.le;rw[af_]at hle;have dC:=h.mx;have hs:SlB (w.setCell ⟨r,0,none⟩ (.slice (some (cutA a cap x.length)) l.length (cap-x.length))) a (x++l):=⟨λq y hq=>(aN_ (by rw[ya];exact heap_setCell_other w ⟨r,0,none⟩ a.block _ h.ne)).trans (h.sl.cell q y hq)⟩;refine⟨⟨?_,?_,by omega,by omega,by rw[ky];exact h.ne,by rw[ky];simpa using h.lt⟩,hs.front⟩
 ·have h1:=h.row;unfold RdAt at h1⊢;rw[jL h1];rfl
 ·have:=hs.cut (cap:=cap) (by rw[af_];exact hle) x.length
  rwa [List.drop_left]at this
attribute [local go_sem ↓] xHk xFf
attribute [local go_sem] yAk xZh zn zu yx yw xh xf xa x9 xu xv xk xj xq xx xt
def xTr (r:Nat)(x l:By)(w w':World)(a:Addr)(cap:Nat):Prop:=SlB w' a x/\x.length<=cap/\cap<=maxLen/\a.block<w'.heap.size/\Kept [r] w w'/\∃a2 c2,qH w' r a2 c2 l/\a2.block=a.block
theorem xIx {w r a cap x l}(h:qH w r a cap (x++l))(n)(hn:n=x.length):Calls prog 126 #[.pointer (some ⟨r,0,none⟩),.int .i64 n] w λe w'=>
  e=.returned (.slice (some a) n cap)/\xTr r x l w w' a cap:=by
 obtain⟨h2,h3⟩:=h.cut;have ah:=h.row;unfold RdAt at ah;rw[af_]at ah;have hle:=h.le;rw[af_]at hle;have dC:=h.mx;have HF:Hid (xTr r x l w (w.setCell ⟨r,0,none⟩ (.slice (some (cutA a cap x.length)) l.length (cap-x.length))) a cap):=h_ ⟨h3,by omega,dC,by simpa using h.lt,zh w ⟨r,0,none⟩ _,_,_,h2,ky _ _ _⟩;rw[<-hn]at HF ah hle;have c0:=cell_of_row w r 0 _ _ _ ah;have c1:=cell_of_row w r 1 _ _ _ ah;have f0:=frozen_of_row w r 0 _ _ ah;simp only[v_]at c0 c1;obtain⟨m,hm⟩:∃m,m=n+l.length:=⟨_,rfl⟩;rw[<-hm]at c0 hle;have aK:=xQy a m cap n (n:Int) rfl (by omega);have cT:=kh a m cap n (n:Int) rfl (by omega);rw[show m-n=l.length by omega]at cT;unfold maxLen at dC;have z1:(n:Int)<=m:=by omega
 have z2:(m:Int)<=9223372036854775807:=by omega
 have hd:decide ((m:Int)<n)=false:=decide_eq_false (by omega);clear h h2 h3 ah hn hm;go_enter func126,ntmps126;go_wp2;go_ret;exact⟨rfl,HF.out⟩
theorem yA0 {w r a cap}(c){l}(h:qH w r a cap ([c]++l)):Calls prog 94 #[.pointer (some ⟨r,0,none⟩)] w λe w'=>
  e=.returned (.int .u8 c.toNat)/\Kept [r] w w'/\∃a2 c2,qH w' r a2 c2 l/\a2.block=a.block:=by
 have HT:=h_ (xIx h 1 rfl);rw[show ((1:Nat):Int)=1 from rfl]at HT;clear h;go_enter func94,ntmps94;go_wp2_with fail;refine HT.mono ?_;rintro e w' ⟨rfl,hs,hc,hm,_,hk,a2,c2,hr,a_⟩;have q0:=hs.cell 0 c rfl;rw[show a.add 0=a from rfl]at q0;have h1:=hr.row;unfold RdAt at h1;have c1:=cell_of_row w' r 1 _ _ _ h1;simp only[v_]at c1;have HF:=h_ (And.intro hk (And.intro hr a_));have Aa:(1:Int)<=cap:=by simp at hc;omega
 clear hs hc hm hk hr h1 HT a_;go_wp2;go_ret;exact⟨rfl,HF.1,a2,c2,HF.2.1,HF.2.2⟩
theorem xUi {w r a cap}(x){l}(h:qH w r a cap (x++l))(hx:x.length=4):Calls prog 99 #[.pointer (some ⟨r,0,none⟩)] w λe w'=>
  e=.returned (.int .i64 (deB x:Nat))/\Kept [r] w w'/\∃a2 c2,qH w' r a2 c2 l/\a2.block=a.block:=by
 have HT:=h_ (xIx h 4 hx.symm);rw[show ((4:Nat):Int)=4 from rfl]at HT;have HX:=h_ hx;clear h hx;go_enter func99,ntmps99;go_wp2_with fail;refine HT.mono ?_;rintro e w1 ⟨rfl,hs,hc,hm,_,hk,a2,c2,hr,a_⟩;have HS:=h_ hs;have HF:=h_ (And.intro hk (And.intro hr a_));have Aa:(4:Int)<=cap:=by rw[HX.out]at hc;omega
 clear hs hc hm hk hr HT a_;go_wp2;go_loopw [3,9] (λnv u wr=>∃k:Nat,u=.int .i64 k/\nv=.int .i64 (deB (x.take k):Nat)/\k<=4/\wr=w1) (λ_ u _=>4-(intOf u).toNat)
 case atStart=>exact⟨0,rfl,by simp[deB],by omega,rfl⟩
 case round=>
  obtain⟨k,rfl,rfl,hk,rfl⟩:=hrel;by_cases hlt:k<4
  ·have cr:(k:Int)<4:=by omega
   have ct:k<x.length:=by rw[HX.out];exact hlt
   have aT:=HS.cell k _ (ak_ ct);have hd:deB (x.take (k+1))=deB (x.take k)*256+(x[k]'ct).toNat:=by
    rw[am_ ct,xAl]
   have mZ:=jX (x.take k) (by rw[ai_];omega);generalize x[k]'ct=b at aT hd;have sr:=b.toNat_lt;obtain⟨n,hn⟩:∃n,n=deB (x.take k):=⟨_,rfl⟩;rw[<-hn]at hd mZ⊢;have C_:=xOu n b.toNat (by omega) (by omega);rw[<-hd]at C_;have b0:(n:Int)<4294967296:=by omega
   have hk1:k+1<=4:=hlt;clear hn hd mZ ct;go_wp2;go_roundw
   case rel=>exact⟨k+1,by go_num,rfl,hk1,trivial⟩
   case measure=>simp[intOf];omega
  ·obtain rfl:k=4:=by omega
   rw[ar_ (by rw[HX.out];exact aa_ _)];go_wp2;go_ret;exact⟨rfl,HF.1,a2,c2,HF.2.1,HF.2.2⟩
theorem xKo {w a cap l}(h:SlB w a l):(convert 31 9 (.slice (some a) l.length cap)).run prog w=.ok (.string (str l)) w:=
 run_convert_bytes_back (P:=prog) w 31 9 5 a cap l underlying31 underlying5 underlying9 (λj hj=>h.cell j _ (ak_ hj))
theorem xEl {w r a cap}(y x){l}(h:qH w r a cap (y++(x++l)))(hy:y.length=4)(hd:deB y=x.length):Calls prog 98 #[.pointer (some ⟨r,0,none⟩)] w λe w'=>
  e=.returned (.string (str x))/\Kept [r] w w'/\∃a2 c2,qH w' r a2 c2 l/\a2.block=a.block:=by
 have HN:=h_ (xUi y h hy);rw[hd]at HN;clear h hy hd;go_enter func98,ntmps98;go_wp2_with fail;refine HN.mono ?_;rintro e w1 ⟨rfl,hk1,a2,c2,h2,Ol⟩;have HBK:=h_ Ol;have AN:=h_ hk1;have HT:=h_ (xIx h2 x.length rfl);clear hk1 h2 HN Ol;go_wp2_with fail;refine HT.mono ?_;rintro e w2 ⟨rfl,hs,_,_,_,hk,a3,c3,hr,Om⟩;have gV:=xKo (cap:=c2) hs;have HF:=h_ (And.intro (AN.trans hk (λq hq=>.inl hq)) (And.intro hr (Om.trans HBK.out)));clear hs hk hr HT AN Om;go_wp2;go_ret;exact⟨rfl,HF.1,a3,c3,HF.2.1,HF.2.2⟩
end
theorem xXo (a len cap k)(hk:k<=cap)(w):Sem.run prog (Instr.sliceAt 31 (.slice (some a) len cap) (some (.int .i64 0)) (some (.int .i64 k)) none) w=.ok (.slice (some a) k cap) w:=by
 rw[run_sliceAt_slice w 31 _ _ _ _ (by kernel_rfl),run_slice_lh w 31 (some a) len cap (by kernel_rfl) .i64 .i64 0 k (by omega) (by omega) (by omega),xBb,sizeOf5];simp only[aw_,sliced,be_,aU_];have:a.add 0=a:=rfl;split <;> rfl
theorem Tryz.info_bys:(prog.info? 31).map (λi=>(i.zero,i.size,i.bytes))=some (some (.slice none 0 0),1,24):=by kernel_rfl
theorem yA6 {w:World}{B}{e:TypeId}{v x}(h:w.ownsRow B e 1 v 1 [x]):∃g cap,v=.slice (some ⟨g,0,none⟩) 1 cap/\B<=g/\1<=cap/\cap<=maxLen/\g<w.heap.size/\w.cell? ⟨g,0,none⟩=some x:=by
 rcases h.2 with⟨_,h0⟩|⟨g,cap,cur,hv,hg,aq,hle,dC,aJ,eG⟩
 ·omega
 ·refine⟨g,cap,hv,hg,hle,dC,(i_ aq).1,?_⟩;rw[cell_of_row w g 0 _ _ _ aq];have h1:cur.toList[0]?=some x:=by
   have:(cur.toList.take (1*1))[0]?=some x:=by rw[eG];rfl
   rwa [bx_ (by omega)]at this
  rw[<-cf_];exact h1
def xNu (y:By)(w:World)(e:Ending)(w':World):Prop:=∃g c pg pc,e=.returned (.slice (some ⟨g,0,none⟩) 1 c)/\Below w.heap.size w w'/\1<=c/\w'.cell? ⟨g,0,none⟩=some (.slice (some ⟨pg,0,none⟩) (y.length+1) pc)/\SlB w' ⟨pg,0,none⟩ (3 :: y)/\y.length+1<=pc/\pc<=maxLen/\w.heap.size<=pg/\pg<w'.heap.size/\w.heap.size<=g
theorem xJ6 {w}(y a cap)(hs:SlB w a y)(ha:a.block<w.heap.size)(hc:y.length<=cap)(h1:1<=y.length)(h2:y.length<=90000):
  Calls prog 51 #[.slice (some a) y.length cap] w (xNu y w):=by
 obtain⟨n,hn⟩:∃n,n=y.length:=⟨_,rfl⟩;have cu:=xXo a n cap n (by omega);obtain⟨w1,ai⟩:∃w1,w1=w.alloc (.cells #[.int .u8 3] 5):=⟨_,rfl⟩;have aa:Below w.heap.size w w1:=by rw[ai];exact b_ _ _
 have cd:OwnB w1 w.heap.size (.slice (some ⟨w.heap.size,0,none⟩) 1 1) [3]:=by rw[ai];exact OwnB.new w w.heap.size [3] (aa_ _) (by simp[maxLen])
 have aK:SlB w1 a y:=⟨λq x hq=>(aa.cell (by rw[ya];exact ha)).trans (hs.cell q x hq)⟩;have ew:=h_ cd;have bW:=h_ aK;have ar:=h_ aa;have HN:=h_ hn;have eX:Hid (w.heap.size<=w1.heap.size):=h_ aa.size;have dw:Hid ([(3:UInt8)].length+y.length<=1000000000000):=h_ (by simp;omega);have HY:=h_ h2;have aL:(1:Int)<=n:=by omega
 have bk:(n:Int)<=90000:=by omega
 have hb01:bits .or .u8 0 1=1:=by decide
 have ak:bits .or .u8 1 2=3:=by decide
 have hmin:min (99903:Int) (n:Int)=(n:Int):=by omega
 obtain⟨i0,hi,bd,On,Oo⟩:=info_parts Tryz.info_bys;have HI:=h_ (And.intro hi (And.intro bd (And.intro On Oo)));rw[<-hn];clear hs ha h1 h2 hn aa cd aK hi bd On Oo;go_enter func51,ntmps51;go_wp2;refine yH ?_;go_wp2_with (at_builtin;rw[<-ai];refine zw rfl (.tmp 31) (.tmp 35) rfl w.heap.size _ [3] rfl ew.out a y cap (by rw[<-HN.out];rfl) bW.out dw.out eX.out ?_);intro v' w2 ho hg _ _;rw[<-ai]at hg;have aj:Below w.heap.size w w2:=ar.grown hg eX.out (λk e=>by cases e;exact aa_ _);obtain⟨m,hm⟩:∃m,m=n+1:=⟨_,rfl⟩;obtain⟨pg,pc,fB,lG,aH,o8,im⟩:∃g cap,v'=.slice (some ⟨g,0,none⟩) m cap/\w.heap.size<=g/\m<=cap/\cap<=maxLen/\SlB w2 ⟨g,0,none⟩ (3 :: y):=by
  rcases ho.at with⟨_,h⟩|⟨g,cap,h1,h2,h3,h4,h5⟩
  ·cases h
  ·have e:(3 :: y).length=m:=by rw[hm,HN.out];rfl
   rw[e]at h1 h3;exact⟨g,cap,h1,h2,h3,h4,h5⟩
 subst fB;have hpl:=(ho.lt (k:=pg) rfl).2;have HM:=h_ hm;obtain⟨w3,bm⟩:∃w3,w3=w2.alloc (.cells #[.slice (some ⟨pg,0,none⟩) m pc] 31):=⟨_,rfl⟩;have al:Below w2.heap.size w2 w3:=by rw[bm];exact b_ _ _
 have bK:w3.heap[w2.heap.size]?=some (.cells #[.slice (some ⟨pg,0,none⟩) m pc] 31 (0,0)):=by rw[bm];exact heap_alloc_new w2 _
 have nD:Hid (∀j u,([.slice (some ⟨pg,0,none⟩) m pc]:List Value)[j]?=some u->w3.cell? ((⟨w2.heap.size,0,none⟩:Addr).add j)=some u):=h_ λj u hj=>by
  rw[an_,aq_,cell_of_row _ w2.heap.size j _ _ _ bK,ah_];exact hj
 have au:=h_ aj;have ay:=h_ al;have CL:=h_ im;have rL:=h_ (And.intro lG (And.intro aH (And.intro o8 hpl)));have BN:=h_ bm;have BO:Hid (w2.heap.size<=w3.heap.size):=h_ al.size;clear ho hg aj lG aH o8 im hpl al bK bm cu hm;go_wp2_with (at_builtin;rw[<-BN.out];refine wpList_append_own_at _ rfl (.tmp 29) (.tmp 37) 116 rfl w2.heap.size 31 i0 (.slice none 0 0) 1 24 underlying116 HI.1 HI.2.1 HI.2.2.1 HI.2.2.2 rfl (by decide) _ 0 [] rfl (aP_ _ _ _ _) ⟨w2.heap.size,0,none⟩ 1 1 [.slice (some ⟨pg,0,none⟩) m pc] rfl rfl nD.out (by intro u hu;simp at hu;subst hu;rfl) (by unfold maxLen;omega) (by omega) BO.out ?_);intro v4 w4 iQ hU _ _;obtain⟨g,cap,rfl,pD,k1,k2,k3,k4⟩:=yA6 iQ;have D4:Below w2.heap.size w2 w4:=ay.grown hU BO.out (λk e=>by cases e);have fR:SlB w4 ⟨pg,0,none⟩ (3 :: y):=⟨λq x hq=>(D4.cell (by rw[ya];exact rL.2.2.2)).trans (CL.cell q x hq)⟩;have HF:Hid (xNu y w (.returned (.slice (some ⟨g,0,none⟩) 1 cap)) w4):=h_ ⟨g,cap,pg,pc,rfl,au.trans (D4.mono au.size),k1,by rw[k4,HM.out,HN.out],fR,by rw[<-HN.out,<-HM.out];exact rL.2.1,rL.2.2.1,rL.1,ap_ rL.2.2.2 D4.size,ad_ au.size pD⟩;clear iQ hU pD k1 k2 k3 k4 D4 fR;go_wp2;go_ret;exact HF.out
def xTs (D b:Nat)(v:Dev)(d:PD)(j:PJ)(y:By)(es:List Nat)(sy:Int)(w:World)(e:Ending)(w':World):Prop:=
 e=.returned (.int .i64 0)/\Kept (b :: (v.foot++es)) w w'/\∃v' es',v'.p=v.p/\v'.M=v.M /\
  JAt D w' b v' (d.puts (j.area*(d.n/2)+(j.secs sha).length) (yk sha (j.body (3 :: y)))).1 (j.add (3 :: y)) es' sy 0/\(∀k∈v'.foot,k∈v.foot\/w.heap.size<=k)/\∀k∈es',k∈es\/w.heap.size<=k
theorem xBt {D b w v d j es sy}(h:JAt D w b v d j es sy 0)(hK:qU w)(y a cap)(hs:SlB w a y)(ha:a.block<w.heap.size)(hc:y.length<=cap)(h1:1<=y.length)(h2:y.length<=90000)
  (aC:(j.secs sha).length+xO (y.length+1)<=d.n/2) (ci:d.pend.length+xO (y.length+1)<=1000000) (ao:j.entries.length<=100000) (hD:D<=w.heap.size):
  Calls prog 26 #[.pointer (some ⟨b,0,none⟩),.slice (some a) y.length cap] w (xTs D b v d j y es sy w):=by
 have HP:=h_ (xJ6 y a cap hs ha hc h1 h2);have H:=h_ h;have HK:=h_ hK;have HL:=h_ ao;have HD:=h_ hD;have wO:=h_ aC;have HFW:=h_ ci;have HY:=h_ h2;obtain⟨nd,bZ⟩:∃nd,nd=xO (y.length+1):=⟨_,rfl⟩;obtain⟨fr,nG⟩:∃fr,fr=d.n/2-(j.secs sha).length:=⟨_,rfl⟩;have aA:d.n<=4096:=h.dev.n2;have Nv:(nd:Int)<=4096:=by omega
 have hle:(nd:Int)<=(fr:Int):=by omega
 have hdg:decide ((fr:Int)<(nd:Int))=false:=decide_eq_false (by omega);have gw:(fr:Int)<=4096:=by omega
 have wt:=h_ bZ;have IT:=h_ nG;have bQ:=h_ aA;clear h hK hs ha h1 h2 aC ci ao hD bZ nG aA;go_enter func26,ntmps26;go_wp2_with fail;refine HP.mono ?_;rintro e w1 ⟨g,c,pg,pc,rfl,aa,dO,aE,im,aH,o8,lG,hpl,pD⟩;have sA:=H.below aa;have Di:=h_ sA;have ar:=h_ aa;have CL:=h_ im;have rL:=h_ (And.intro aH (And.intro o8 (And.intro lG (And.intro hpl pD))));have pz:=h_ (xGb (y.length+1) w1 (by have:=HY.out;omega));rw[<-wt.out]at pz;obtain⟨ev1,Uz,BP,_⟩:=sA.ex;have Oq:=h_ (xD0 BP bQ.out (by have:=wO.out;omega));rw[<-IT.out]at Oq;have bF:=h_ aE;obtain⟨yn,rD⟩:∃yn,yn=y.length+1:=⟨_,rfl⟩;rw[<-rD]at aE pz;have rE:=h_ rD;have Aa:(1:Int)<=c:=by omega
 clear sA BP aa im aH o8 lG hpl pD rD dO;go_wp2;refine yH ?_;go_wp2_with fail;refine pz.mono ?_;rintro e w' ⟨rfl,rfl⟩;go_wp2_with fail;refine Oq.mono ?_;rintro e w2 ⟨rfl,aj⟩;have UA:=(aj.cell (p:=⟨g,0,none⟩) (block_lt_of_cell aE)).trans aE;have He:SlB w2 ⟨pg,0,none⟩ (3 :: y):=⟨λq x hq=>(aj.cell (by rw[ya];exact rL.2.2.2.1)).trans (CL.cell q x hq)⟩;have fS:=Di.below aj;have cS:=ar.trans (aj.mono ar.size);have pU:pg<w2.heap.size:=ap_ rL.2.2.2.1 aj.size;have wA:(3 :: y).length=yn:=by rw[rE.out];rfl
 have HA:=h_ (xS7 fS (HK.kept (Kept.of_below (F:=[]) cS) (λ_ h=>by cases h)) (3 :: y) ⟨pg,0,none⟩ pc He pU (λhm=>by have h9:pg<w.heap.size:=(H.dev.foot_lt _ hm).2;have:=rL.2.2.1;omega) (by rw[wA,rE.out];exact rL.1) (by rw[wA,rE.out];have:=HY.out;omega)
  (by rw[wA,rE.out];exact wO.out) (by rw[wA,rE.out];exact HFW.out) HL.out (ad_ HD.out cS.size))
 rw[wA]at HA;have iT:=h_ cS;clear aE He fS cS pU wA aj;go_wp2;refine yH ?_;go_wp2_with fail;refine HA.mono ?_;rintro e w3 ⟨rfl,dp,v',ev',e1,e2,KF,py,Ot⟩;have HF:Hid (xTs D b v d j y es sy w (.returned (.int .i64 0)) w3):=h_ ⟨rfl,(Kept.of_below (F:=b :: (v.foot++es)) iT.out).trans dp (λq hq=>.inl hq),v',ev',e1,e2,KF,λk hk=>(py k hk).imp_right (λh=>ad_ iT.size h),λk hk=>(Ot k hk).imp_right (λh=>ad_ iT.size h)⟩;clear dp e1 e2 KF py Ot HA;go_wp2;go_ret;exact HF.out
section
theorem xA0 (ρ:Operand->Value)(d x)(ty:TypeId)(pos af g w):
  Sem.run prog (execOp ρ ⟨d,.load 81 x,ty,pos,af,g⟩) w=yp prog 81 w (ρ x):=rfl
theorem jU (ρ:Operand->Value)(d x y)(ty:TypeId)(pos af g w):
  Sem.run prog (execOp ρ ⟨d,.store 81 x y,ty,pos,af,g⟩) w=yi prog 81 w (ρ x) (ρ y):=rfl
theorem xP5 (w a)(h:xo w a 4=true):yp prog 81 w (.pointer (some a))=.ok (.value (.agg (xm w a 4))) w:=
 yf isAgg81 sizeOf81 w a h
theorem xOb (w g cells)(h:xM w g 4=true)(h2:xy 4 cells=true):
  yi prog 81 w (.pointer (some ⟨g,0,none⟩)) (.agg cells)=.ok .skip (w.setRow g cells):=yo (by kernel_rfl) w g cells h h2
theorem xT1 (ρ:Operand->Value)(d x)(ty:TypeId)(pos af g w):
  Sem.run prog (execOp ρ ⟨d,.load 256 x,ty,pos,af,g⟩) w=yp prog 256 w (ρ x):=rfl
theorem xPl (ρ:Operand->Value)(d x y)(ty:TypeId)(pos af g w):
  Sem.run prog (execOp ρ ⟨d,.store 256 x y,ty,pos,af,g⟩) w=yi prog 256 w (ρ x) (ρ y):=rfl
theorem yEv (w a)(h:xo w a 4=true):yp prog 256 w (.pointer (some a))=.ok (.value (.agg (xm w a 4))) w:=
 yf isAgg256 sizeOf256 w a h
theorem yEc (w g cells)(h:xM w g 4=true)(h2:xy 4 cells=true):
  yi prog 256 w (.pointer (some ⟨g,0,none⟩)) (.agg cells)=.ok .skip (w.setRow g cells):=yo (by kernel_rfl) w g cells h h2
theorem xWs (w l)(hl:l.length<=maxLen):∃c w',(convert 9 31 (.string (str l))).run prog w=.ok (.slice (some ⟨w.heap.size,0,none⟩) l.length c) w'/\Below w.heap.size w w'/\SlB w' ⟨w.heap.size,0,none⟩ l/\l.length<=c/\c<=maxLen/\w'.heap.size=w.heap.size+1:=by
 have h:=Go.Lib.run_convert_string_bytes (P:=prog) w 9 31 5 (str l) underlying9 underlying31 underlying5;rw[yD]at h;refine⟨_,_,h,⟨rfl,rfl,rfl,by rw[Go.Lib.bytesWorld_size];omega,λk hk=>Go.Lib.bytesWorld_at_old w _ _ k hk⟩,⟨λj c hj=>?_⟩,grownCap_ge _ _ _ _,grownCap_le_maxLen _ _ _ _ hl,Go.Lib.bytesWorld_size _ _ _⟩;have sC:j<l.length:=by
  rcases bi_ j l.length with h|h
  ·exact h
  ·rw[aI_ h]at hj;cases hj
 rw[an_,aq_,Go.Lib.bytesWorld_cell w 5 (str l) j (by rw[yD];exact sC)];have:(str l).data.toList.getD j 0=c:=by
  show l.toArray.toList.getD j 0=c
  simp[List.getD,hj]
 rw[this]
theorem yO.keptB {B w w' v F}(h:yO B w v)(hk:Kept F w w')(hF:∀k∈F,k<B):yO B w' v:=h.kept hk λk bG hf=>by
 have:=hF k hf;simp[Hst.foot]at bG;have:=h.pB;have:=h.MB;omega
theorem yE.keptB {B w w' v F}(h:yE B w v)(hk:Kept F w w')(hF:∀k∈F,k<B):yE B w' v:=h.kept hk λk bG hf=>by
 have:=hF k hf;simp[Spo.foot]at bG;have:=h.pB;have:=h.MB;omega
theorem yU.keptB {B w w' v F}(h:yU B w v)(hk:Kept F w w')(hF:∀k∈F,k<B):yU B w' v:=h.kept hk λk bG hf=>by
 have:=hF k hf;have:=(h.foot_lt k bG).1;omega
def er4:Array Value:=#[.int .i64 0,.int .i64 0,.int .i64 0,.int .i64 0]
theorem xPu (ρ:Operand->Value)(d)(ty:TypeId)(pos af g w):
  Sem.run prog (execOp ρ ⟨d,.alloc 256,ty,pos,af,g⟩) w=.ok (.value (.pointer (some ⟨w.heap.size,0,none⟩))) (w.alloc (.cells er4 256)):=by kernel_rfl
theorem xPs (ρ:Operand->Value)(d)(ty:TypeId)(pos af g w):
  Sem.run prog (execOp ρ ⟨d,.build 256 #[],ty,pos,af,g⟩) w=.ok (.value (.agg er4)) w:=by kernel_rfl
theorem xR9 (w):Sem.run prog (Op.equalIn 10000 256 (.agg er4) (.agg er4)) w=.ok true w:=by kernel_rfl
theorem jV (ρ:Operand->Value)(d x0)(ty:TypeId)(pos af gd w):
  Sem.run prog (execOp ρ ⟨d,.build 81 #[(0,x0)],ty,pos,af,gd⟩) w=zB prog 81 w #[(0,ρ x0)]:=by kernel_rfl
theorem xQ8 (w a b c d):zB prog 81 w #[(0,.agg #[a,b,c,d])]=.ok (.value (.agg #[a,b,c,d])) w:=zD (by kernel_rfl)
structure SnSt (w:World)(r:Nat)(cs:Array Value)(l:By)(W:World):Prop where
 kept:Kept [r] w W
 srow:W.heap[w.heap.size]?=some (.cells cs 70 (0,0))
 erow:W.heap[w.heap.size+1]?=some (.cells er4 256 (0,0))
 rd:∃a c,qH W r a c l/\a.block<w.heap.size
 rl:r<w.heap.size
theorem SnSt.sz {w r cs l W}(h:SnSt w r cs l W):w.heap.size+2<=W.heap.size:=(i_ h.erow).1
theorem SnSt.text {w r cs l l' W W'}(h:SnSt w r cs l W)(hk:Kept [r] W W')(hr:∃a c,qH W' r a c l'/\a.block<w.heap.size):SnSt w r cs l' W':=by
 have:=h.sz;have:=h.rl;exact⟨h.kept.trans hk (λq hq=>.inl hq),(hk.block _ (by omega) (by simp;omega)).trans h.srow,(hk.block _ (by omega) (by simp;omega)).trans h.erow,hr,h.rl⟩
theorem SnSt.below {w r cs l W W'}(h:SnSt w r cs l W)(hb:Below W.heap.size W W'):SnSt w r cs l W':=by
 have:=h.sz;obtain⟨a,c,hr,ha⟩:=h.rd;exact⟨h.kept.trans (Kept.of_below (F:=[]) hb) (λq hq=>by cases hq),(hb.block _ (by omega)).trans h.srow,(hb.block _ (by omega)).trans h.erow,⟨a,c,hr.below hb,ha⟩,h.rl⟩
theorem SnSt.set {w r cs l W}(h:SnSt w r cs l W)(j q)(hj:j<4):
  Kept [w.heap.size,w.heap.size+1] W ((W.setCell ⟨w.heap.size,j,none⟩ q).setCell ⟨w.heap.size+1,j,none⟩ (.int .i64 0))/\SnSt w r (cs.setIfInBounds j q) l ((W.setCell ⟨w.heap.size,j,none⟩ q).setCell ⟨w.heap.size+1,j,none⟩ (.int .i64 0)):=by
 have hz:=h.sz;have hl:=h.rl;obtain⟨a,c,hr,ha⟩:=h.rd;have k1:Kept [w.heap.size,w.heap.size+1] W (W.setCell ⟨w.heap.size,j,none⟩ q):=(zh W ⟨w.heap.size,j,none⟩ q).mono (λk hk _=>by simp at hk;simp[hk]);have k2:Kept [w.heap.size,w.heap.size+1] W ((W.setCell ⟨w.heap.size,j,none⟩ q).setCell ⟨w.heap.size+1,j,none⟩ (.int .i64 0)):=k1.trans (zh _ ⟨w.heap.size+1,j,none⟩ _) (λk hk=>by simp at hk;simp[hk]);have e1:(W.setCell ⟨w.heap.size,j,none⟩ q).heap[w.heap.size+1]?=some (.cells er4 256 (0,0)):=(heap_setCell_other W ⟨w.heap.size,j,none⟩ (w.heap.size+1) q (by simp)).trans h.erow;refine⟨k2,h.kept.trans k2 (λq hq=>.inr (by simp at hq;omega)),?_,?_,⟨a,c,hr.kept k2 (by simp;omega) (by simp;omega),ha⟩,h.rl⟩
 ·rw[heap_setCell_other _ ⟨w.heap.size+1,j,none⟩ w.heap.size _ (by simp),jL h.srow]
 ·rw[jL e1];congr 2
  match j,hj with
  |0,_=>rfl
  |1,_=>rfl
  |2,_=>rfl
  |3,_=>rfl
def xWz (r n:Nat)(w:World)(e:Ending)(w':World):Prop:=∃sp x,e=.returned (.pointer (some ⟨sp,0,none⟩))/\Kept [r] w w'/\w'.heap[sp]?=some (.cells (xN x) 81 (0,0))/\zv w.heap.size w' x/\x.pc=kx n/\x.gs=[]/\w.heap.size<=sp/\∃a2 c2,qH w' r a2 c2 []
attribute [local go_sem ↓] xA0 jU xT1 xPl xPu xPs jV qm uJ uN
attribute [local go_sem] xP5 xOb yEv yEc xR9 xQ8 xCc xBv zn zu yx yw xh xf xa x9 xu xv xk xj xq xx xt
theorem xAm (n)(h:n<4294967296):deB (beB 4 n)=n:=by rw[xA2];exact cA_ (by simpa using h)
theorem xTe (n)(h:n<18446744073709551616):deB (beB 8 n)=n:=by rw[xA2];exact cA_ (by simpa using h)
theorem SnSt.facts {w r cs l W}(h:SnSt w r cs l W)(j q u)(hu:cs[j]?=some u)(hj:j<4):
  W.cell? ⟨w.heap.size,j,none⟩=some u/\(W.setCell ⟨w.heap.size,j,none⟩ q).cell? ⟨w.heap.size+1,j,none⟩=some (.int .i64 0):=by
 have e1:(W.setCell ⟨w.heap.size,j,none⟩ q).heap[w.heap.size+1]?=some (.cells er4 256 (0,0)):=(heap_setCell_other W ⟨w.heap.size,j,none⟩ (w.heap.size+1) q (by simp)).trans h.erow;refine⟨(cell_of_row W _ j _ _ _ h.srow).trans hu,(cell_of_row _ _ j _ _ _ e1).trans ?_⟩
 match j,hj with
 |0,_=>rfl
 |1,_=>rfl
 |2,_=>rfl
 |3,_=>rfl
theorem xOl {w r a cap n}(h:qH w r a cap (beB 4 4++(beB 4 0++(beB 4 16++((beB 8 n++beB 8 0)++(beB 4 0++([]++(beB 4 0++([]++[])))))))))(h1:1<=n)(h2:n<=1073741824)(Ye:∀W,Kept [r] w W->Gl W):
  Calls prog 95 #[.pointer (some ⟨r,0,none⟩)] w (xWz r n w):=by
 obtain⟨s,hs⟩:∃s,s=w.heap.size:=⟨_,rfl⟩;have gz:r<w.heap.size:=(i_ h.row).1;obtain⟨w1,ai⟩:∃w1,w1=(w.alloc (.cells zL 70)).alloc (.cells er4 256):=⟨_,rfl⟩;have aa:Below w.heap.size w w1:=by rw[ai];exact((ab_ _ _).alloc (aa_ _) _).alloc (by simp) _
 have Yf:SnSt w r zL (beB 4 4++(beB 4 0++(beB 4 16++((beB 8 n++beB 8 0)++(beB 4 0++([]++(beB 4 0++([]++[])))))))) w1:=by
  refine⟨Kept.of_below aa,?_,?_,⟨a,cap,h.below aa,h.lt⟩,gz⟩
  ·rw[ai,heap_alloc_old _ _ (by simp),heap_alloc_new]
  ·have:=heap_alloc_new (w.alloc (.cells zL 70)) (.cells er4 256);rw[al_]at this;rw[ai];exact this
 have ee:=h_ Yf;have HGK:=h_ Ye;have BQ:=h_ hs;have HN:=h_ (And.intro h1 h2);clear h h1 h2 Ye gz aa Yf;go_enter func95,ntmps95;go_upto_region 3 with fail
 refine xr ai ?_;rw[<-hs];clear ai hs;obtain⟨a0,c0,hr0,Ou⟩:=ee.rd;have Yg:=h_ (xEl (beB 4 4) (beB 4 0) hr0 (xe _ _) (by rw[xAm _ (by omega)];simp[xe]));have UB:=h_ Ou;clear hr0 Ou;go_wp2_with fail;refine Yg.mono ?_;rintro e x0 ⟨rfl,Ga,a',c',hr,a_⟩;have UC:=h_ Ga;have Ov:=h_ (ee.text Ga ⟨a',c',hr,a_▸UB.out⟩);clear Ga hr a_ Yg;obtain⟨cc0,y0,Ow,ei,IU,IV,Rg,Ox⟩:=xWs x0 (beB 4 0) (by simp[xe,maxLen]);rw[show ((beB 4 0)).length=4 by simp[xe]]at Ow IV;have Yh:=h_ (Ov.below ei);have UD:=h_ ei;have mr:=h_ (xLs ⟨x0.heap.size,0,none⟩ (beB 4 0) cc0 y0 IU (by rw[Ox];exact cQ_ _) (xe _ _) IV (by rw[xAm _ (by omega)];omega));rw[xAm 0 (by omega)]at mr;clear ei IU IV Rg Ox;go_wp2_with fail;clear Ow;refine mr.mono ?_;rintro e z0 ⟨bz,v0,rfl,aB,iD,mj⟩;have Rh:=h_ (And.intro iD mj);have HWZ0:=h_ ((UC.trans (Kept.of_below (F:=[]) UD.out) (λq hq=>by cases hq)).trans (Kept.of_below (F:=[]) bz) (λq hq=>by cases hq));have hZ:SnSt w r #[.pointer none,.pointer none,.pointer none,.pointer none] _ z0:=Yh.below bz;obtain⟨k1,k2⟩:=hZ.set 0 (Value.pointer (some ⟨v0.p,0,none⟩)) (by omega);obtain⟨g1,g2⟩:=hZ.facts 0 (Value.pointer (some ⟨v0.p,0,none⟩)) (.pointer none) rfl (by omega)
 have f1:=frozen_of_row z0 w.heap.size 0 _ _ hZ.srow;have f2:=frozen_of_row (z0.setCell ⟨w.heap.size,0,none⟩ (Value.pointer (some ⟨v0.p,0,none⟩))) (w.heap.size+1) 0 _ _ ((heap_setCell_other z0 ⟨w.heap.size,0,none⟩ (w.heap.size+1) (Value.pointer (some ⟨v0.p,0,none⟩)) (by simp)).trans hZ.erow);rw[<-BQ.out]at k1 k2 g1 g2 f1 f2;obtain⟨W0,fC⟩:∃W,W=(z0.setCell ⟨s,0,none⟩ (Value.pointer (some ⟨v0.p,0,none⟩))).setCell ⟨s+1,0,none⟩ (.int .i64 0):=⟨_,rfl⟩;rw[<-fC]at k1 k2;have bW:Hid (SnSt w r #[(Value.pointer (some ⟨v0.p,0,none⟩)),.pointer none,.pointer none,.pointer none] _ W0):=h_ k2;have HK0:Hid (Kept [s,s+1] z0 W0):=h_ k1;have UE:=h_ aB;have UF:Hid (s+2<=y0.heap.size):=h_ (by rw[BQ.out];exact Yh.sz);have HBZ0:Hid (y0.heap.size<=z0.heap.size):=h_ bz.size;clear bz aB hZ k1 k2 iD mj;go_upto_region 4 with fail
 refine xr fC ?_;have HWW0:=h_ fC;clear fC g1 g2 f1 f2;obtain⟨a1,c1,aV,Oy⟩:=bW.rd;have rM:=h_ (xEl (beB 4 16) (beB 8 n++beB 8 0) aV (xe _ _) (by rw[xAm _ (by omega)];simp[xe]));have UG:=h_ Oy;clear aV Oy;go_wp2_with fail;refine rM.mono ?_;rintro e x1 ⟨rfl,hk1,a',c',hr,a_⟩;have UH:=h_ hk1;have IW:=h_ (bW.text hk1 ⟨a',c',hr,a_▸UG.out⟩);clear hk1 hr a_ rM;obtain⟨cc1,y1,Oz,ei,IU,IV,Rg,Ox⟩:=xWs x1 (beB 8 n++beB 8 0) (by simp[xe,maxLen]);rw[show ((beB 8 n++beB 8 0)).length=16 by simp[xe]]at Oz IV;have FJ:=h_ (IW.below ei);have UI:=h_ ei;have mg:=h_ (xLd ⟨x1.heap.size,0,none⟩ (beB 8 n++beB 8 0) cc1 y1 IU (by rw[Ox];exact cQ_ _) (by simp[xe]) IV Rg n (by rw[List.take_left' (xe _ _)];exact xTe n (by have:=HN.2;omega)) HN.1 HN.2 (by rw[List.drop_left' (xe _ _)];exact xTe 0 (by omega)));clear ei IU IV Rg Ox;go_wp2_with fail;clear Oz;refine mg.mono ?_;rintro e z1 ⟨bz,v1,rfl,aB,iD,mj,sT,rF⟩;have wN:=h_ (And.intro iD (And.intro mj (And.intro sT rF)));have UJ:=h_ ((UH.trans (Kept.of_below (F:=[]) UI.out) (λq hq=>by cases hq)).trans (Kept.of_below (F:=[]) bz) (λq hq=>by cases hq))
 have hZ:SnSt w r #[(Value.pointer (some ⟨v0.p,0,none⟩)),.pointer none,.pointer none,.pointer none] _ z1:=FJ.below bz;obtain⟨k1,k2⟩:=hZ.set 1 (Value.pointer (some ⟨v1.p,0,none⟩)) (by omega);obtain⟨g1,g2⟩:=hZ.facts 1 (Value.pointer (some ⟨v1.p,0,none⟩)) (.pointer none) rfl (by omega);have f1:=frozen_of_row z1 w.heap.size 1 _ _ hZ.srow;have f2:=frozen_of_row (z1.setCell ⟨w.heap.size,1,none⟩ (Value.pointer (some ⟨v1.p,0,none⟩))) (w.heap.size+1) 1 _ _ ((heap_setCell_other z1 ⟨w.heap.size,1,none⟩ (w.heap.size+1) (Value.pointer (some ⟨v1.p,0,none⟩)) (by simp)).trans hZ.erow);rw[<-BQ.out]at k1 k2 g1 g2 f1 f2;obtain⟨W1,c_⟩:∃W,W=(z1.setCell ⟨s,1,none⟩ (Value.pointer (some ⟨v1.p,0,none⟩))).setCell ⟨s+1,1,none⟩ (.int .i64 0):=⟨_,rfl⟩;rw[<-c_]at k1 k2;have cF:Hid (SnSt w r #[(Value.pointer (some ⟨v0.p,0,none⟩)),(Value.pointer (some ⟨v1.p,0,none⟩)),.pointer none,.pointer none] _ W1):=h_ k2;have AN:Hid (Kept [s,s+1] z1 W1):=h_ k1;have UK:=h_ aB;have UL:Hid (s+2<=y1.heap.size):=h_ (by rw[BQ.out];exact FJ.sz);have HBZ1:Hid (y1.heap.size<=z1.heap.size):=h_ bz.size;clear bz aB hZ k1 k2 iD mj sT rF;go_upto_region 5 with fail
 refine xr c_ ?_;have HWW1:=h_ c_;clear c_ g1 g2 f1 f2;obtain⟨a2,c2,aP,OA⟩:=cF.rd;have OB:=h_ (xEl (beB 4 0) [] aP (xe _ _) (by rw[xAm _ (by omega)];simp[xe]));have UM:=h_ OA;clear aP OA;go_wp2_with fail;refine OB.mono ?_;rintro e x2 ⟨rfl,hk2,a',c',hr,a_⟩;have UN:=h_ hk2;have oK:=h_ (cF.text hk2 ⟨a',c',hr,a_▸UM.out⟩);clear hk2 hr a_ OB;go_wp2_with fail;rw[<-xCp];refine(xQd x2).mono ?_;rintro e z2 ⟨bz,v2,rfl,aB,iD⟩;have A6:=h_ (iD);have UO:=h_ (UN.trans (Kept.of_below (F:=[]) bz) (λq hq=>by cases hq));have hZ:SnSt w r #[(Value.pointer (some ⟨v0.p,0,none⟩)),(Value.pointer (some ⟨v1.p,0,none⟩)),.pointer none,.pointer none] _ z2:=oK.below bz;obtain⟨k1,k2⟩:=hZ.set 2 (Value.pointer (some ⟨v2.p,0,none⟩)) (by omega);obtain⟨g1,g2⟩:=hZ.facts 2 (Value.pointer (some ⟨v2.p,0,none⟩)) (.pointer none) rfl (by omega);have f1:=frozen_of_row z2 w.heap.size 2 _ _ hZ.srow;have f2:=frozen_of_row (z2.setCell ⟨w.heap.size,2,none⟩ (Value.pointer (some ⟨v2.p,0,none⟩))) (w.heap.size+1) 2 _ _ ((heap_setCell_other z2 ⟨w.heap.size,2,none⟩ (w.heap.size+1) (Value.pointer (some ⟨v2.p,0,none⟩)) (by simp)).trans hZ.erow)
 rw[<-BQ.out]at k1 k2 g1 g2 f1 f2;obtain⟨W2,ff⟩:∃W,W=(z2.setCell ⟨s,2,none⟩ (Value.pointer (some ⟨v2.p,0,none⟩))).setCell ⟨s+1,2,none⟩ (.int .i64 0):=⟨_,rfl⟩;rw[<-ff]at k1 k2;have eS:Hid (SnSt w r #[(Value.pointer (some ⟨v0.p,0,none⟩)),(Value.pointer (some ⟨v1.p,0,none⟩)),(Value.pointer (some ⟨v2.p,0,none⟩)),.pointer none] _ W2):=h_ k2;have CG:Hid (Kept [s,s+1] z2 W2):=h_ k1;have IA:=h_ aB;have UP:Hid (s+2<=x2.heap.size):=h_ (by rw[BQ.out];exact oK.sz);have HBZ2:Hid (x2.heap.size<=z2.heap.size):=h_ bz.size;clear bz aB hZ k1 k2 iD;go_upto_region 6 with fail
 refine xr ff ?_;have HWW2:=h_ ff;clear ff g1 g2 f1 f2;obtain⟨a3,c3,dv,OC⟩:=eS.rd;have IX:=h_ (xEl (beB 4 0) [] dv (xe _ _) (by rw[xAm _ (by omega)];simp[xe]));have UQ:=h_ OC;clear dv OC;go_wp2_with fail;refine IX.mono ?_;rintro e x3 ⟨rfl,dp,a',c',hr,a_⟩;have UR:=h_ dp;have wQ:=h_ (eS.text dp ⟨a',c',hr,a_▸UQ.out⟩);clear dp hr a_ IX;have fo:=HGK.out x3 wQ.kept;go_wp2_with fail;rw[<-xCp];refine(xLi x3 fo).mono ?_;rintro e z3 ⟨bz,rfl,aB⟩;have Kq:=h_ (trivial);have US:=h_ (UR.trans (Kept.of_below (F:=[]) bz) (λq hq=>by cases hq));have hZ:SnSt w r #[(Value.pointer (some ⟨v0.p,0,none⟩)),(Value.pointer (some ⟨v1.p,0,none⟩)),(Value.pointer (some ⟨v2.p,0,none⟩)),.pointer none] _ z3:=wQ.below bz;obtain⟨k1,k2⟩:=hZ.set 3 (Value.pointer (some ⟨x3.heap.size+1,0,none⟩)) (by omega);obtain⟨g1,g2⟩:=hZ.facts 3 (Value.pointer (some ⟨x3.heap.size+1,0,none⟩)) (.pointer none) rfl (by omega);have f1:=frozen_of_row z3 w.heap.size 3 _ _ hZ.srow;have f2:=frozen_of_row (z3.setCell ⟨w.heap.size,3,none⟩ (Value.pointer (some ⟨x3.heap.size+1,0,none⟩))) (w.heap.size+1) 3 _ _ ((heap_setCell_other z3 ⟨w.heap.size,3,none⟩ (w.heap.size+1) (Value.pointer (some ⟨x3.heap.size+1,0,none⟩)) (by simp)).trans hZ.erow)
 rw[<-BQ.out]at k1 k2 g1 g2 f1 f2;obtain⟨W3,pY⟩:∃W,W=(z3.setCell ⟨s,3,none⟩ (Value.pointer (some ⟨x3.heap.size+1,0,none⟩))).setCell ⟨s+1,3,none⟩ (.int .i64 0):=⟨_,rfl⟩;rw[<-pY]at k1 k2;have di:Hid (SnSt w r #[(Value.pointer (some ⟨v0.p,0,none⟩)),(Value.pointer (some ⟨v1.p,0,none⟩)),(Value.pointer (some ⟨v2.p,0,none⟩)),(Value.pointer (some ⟨x3.heap.size+1,0,none⟩))] _ W3):=h_ k2;have CS:Hid (Kept [s,s+1] z3 W3):=h_ k1;have IB:=h_ aB;have UT:Hid (s+2<=x3.heap.size):=h_ (by rw[BQ.out];exact wQ.sz);have HBZ3:Hid (x3.heap.size<=z3.heap.size):=h_ bz.size;clear bz aB hZ k1 k2;go_upto_region 7 with fail
 refine xr pY ?_;have HWW3:=h_ pY;clear pY g1 g2 f1 f2;obtain⟨x,hx⟩:∃x:Prt,x=⟨v0,v1,v2,x3.heap.size+1,x3.heap.size,[],0⟩:=⟨_,rfl⟩;have aJ:xN x=#[(Value.pointer (some ⟨v0.p,0,none⟩)),(Value.pointer (some ⟨v1.p,0,none⟩)),(Value.pointer (some ⟨v2.p,0,none⟩)),(Value.pointer (some ⟨x3.heap.size+1,0,none⟩))]:=by rw[hx];rfl
 have e4:=di.erow;have s4:=di.srow;rw[<-BQ.out]at e4 s4;obtain⟨oe,de⟩:=xD (n:=4) e4 rfl;obtain⟨os,ds⟩:=xD (n:=4) s4 rfl;have hfq:xy 4 #[(Value.pointer (some ⟨v0.p,0,none⟩)),(Value.pointer (some ⟨v1.p,0,none⟩)),(Value.pointer (some ⟨v2.p,0,none⟩)),(Value.pointer (some ⟨x3.heap.size+1,0,none⟩))]=true:=jj _ _ _ _ rfl rfl rfl rfl;have Ri:Below W3.heap.size W3 (W3.alloc (.cells #[(Value.pointer (some ⟨v0.p,0,none⟩)),(Value.pointer (some ⟨v1.p,0,none⟩)),(Value.pointer (some ⟨v2.p,0,none⟩)),(Value.pointer (some ⟨x3.heap.size+1,0,none⟩))] 81)):=(ab_ _ _).alloc (aa_ _) _;have m1:∀{A C:World},Kept [r] A C->Kept [r,s,s+1] A C:=λh=>h.mono (λk hk _=>by simp at hk;simp[hk])
 have m2:∀{A C:World},Kept [s,s+1] A C->Kept [r,s,s+1] A C:=λh=>h.mono (λk hk _=>by simp at hk;simp;omega)
 have K3:=m2 CS.out;have K2:=((m2 CG.out).trans (m1 US.out) (λq hq=>.inl hq)).trans K3 (λq hq=>.inl hq);have K1:=((m2 AN.out).trans (m1 UO.out) (λq hq=>.inl hq)).trans K2 (λq hq=>.inl hq);have K0:=((m2 HK0.out).trans (m1 UJ.out) (λq hq=>.inl hq)).trans K1 (λq hq=>.inl hq);have KC:r<s:=by rw[BQ.out];exact di.rl
 have UU:=UF.out;have UV:=UL.out;have UW:=UP.out;have UX:=UT.out;have aB:zv s (W3.alloc (.cells #[(Value.pointer (some ⟨v0.p,0,none⟩)),(Value.pointer (some ⟨v1.p,0,none⟩)),(Value.pointer (some ⟨v2.p,0,none⟩)),(Value.pointer (some ⟨x3.heap.size+1,0,none⟩))] 81)) x:=by
  refine zv.below ?_ Ri;rw[hx];exact⟨(UE.keptB K0 (λk hk=>by simp at hk;omega)).base (by omega),(UK.keptB K1 (λk hk=>by simp at hk;omega)).base (by omega),(IA.keptB K2 (λk hk=>by simp at hk;omega)).base (by omega),(IB.kept K3 (λk hk=>by simp at hk;omega)).base (by omega)⟩
 have lJ:v2.c=none:=by unfold Tbl.c;rw[A6.out];rfl
 have aH:x.pc=kx n/\x.gs=[]:=by
  rw[hx];refine⟨?_,rfl⟩;unfold Prt.pc kx;simp only[Rh.1,Rh.2,wN.1,wN.2.1,wN.2.2.1,wN.2.2.2,lJ];rfl
 have oP:Kept [r] w (W3.alloc (.cells #[(Value.pointer (some ⟨v0.p,0,none⟩)),(Value.pointer (some ⟨v1.p,0,none⟩)),(Value.pointer (some ⟨v2.p,0,none⟩)),(Value.pointer (some ⟨x3.heap.size+1,0,none⟩))] 81)):=di.kept.trans (Kept.of_below (F:=[]) Ri) (λq hq=>by cases hq);have eR:∃a2 c2,qH (W3.alloc (.cells #[(Value.pointer (some ⟨v0.p,0,none⟩)),(Value.pointer (some ⟨v1.p,0,none⟩)),(Value.pointer (some ⟨v2.p,0,none⟩)),(Value.pointer (some ⟨x3.heap.size+1,0,none⟩))] 81)) r a2 c2 []:=by
  obtain⟨a9,c9,Bp,_⟩:=di.rd;exact⟨a9,c9,Bp.below Ri⟩
 have rN:=heap_alloc_new W3 (.cells #[(Value.pointer (some ⟨v0.p,0,none⟩)),(Value.pointer (some ⟨v1.p,0,none⟩)),(Value.pointer (some ⟨v2.p,0,none⟩)),(Value.pointer (some ⟨x3.heap.size+1,0,none⟩))] 81);have HF:Hid (xWz r n w (.returned (.pointer (some ⟨W3.heap.size,0,none⟩))) (W3.alloc (.cells #[(Value.pointer (some ⟨v0.p,0,none⟩)),(Value.pointer (some ⟨v1.p,0,none⟩)),(Value.pointer (some ⟨v2.p,0,none⟩)),(Value.pointer (some ⟨x3.heap.size+1,0,none⟩))] 81))):=h_ ⟨W3.heap.size,x,rfl,oP,by rw[aJ];exact rN,by rw[<-BQ.out];exact aB,aH.1,aH.2,di.kept.size,eR⟩;clear e4 s4 Ri m1 m2 K3 K2 K1 K0 KC UU UV UW UX aB lJ aH oP eR rN hx aJ;go_wp2;go_ret;exact HF.out
end
section
theorem xSz (ρ:Operand->Value)(d x)(ty:TypeId)(pos af g w):
  Sem.run prog (execOp ρ ⟨d,.load 128 x,ty,pos,af,g⟩) w=yp prog 128 w (ρ x):=rfl
theorem xPj (ρ:Operand->Value)(d x y)(ty:TypeId)(pos af g w):
  Sem.run prog (execOp ρ ⟨d,.store 128 x y,ty,pos,af,g⟩) w=yi prog 128 w (ρ x) (ρ y):=rfl
theorem yEt (w a)(h:xo w a 2=true):yp prog 128 w (.pointer (some a))=.ok (.value (.agg (xm w a 2))) w:=
 yf isAgg128 sizeOf128 w a h
theorem yEa (w g cells)(h:xM w g 2=true)(h2:xy 2 cells=true):
  yi prog 128 w (.pointer (some ⟨g,0,none⟩)) (.agg cells)=.ok .skip (w.setRow g cells):=yo (by kernel_rfl) w g cells h h2
attribute [local go_sem ↓] xHk xFf xA0 jU jV qm uJ uN xSz xPj
attribute [local go_sem] yAk xZh xP5 xOb xQ8 xCc xBv yEt yEa zn zu yx yw xh xf xa x9 xu xv xk xj xq xx xt
def xTy (n:Nat)(w:World)(e:Ending)(w':World):Prop:=∃sp x,e=.returned (.tuple #[.iface 79 (.pointer (some ⟨sp,0,none⟩)),.bool true])/\Below w.heap.size w w'/\w'.heap[sp]?=some (.cells (xN x) 81 (0,0))/\zv w.heap.size w' x/\x.pc=kx n/\x.gs=[]/\w.heap.size<=sp
theorem xL8 {w}(n)(h1:1<=n)(h2:n<=1073741824)(hG:Gl w)(a cap)(hs:SlB w a (uY n))(ha:a.block<w.heap.size)(hc:37<=cap)(hm:cap<=maxLen):
  Calls prog 64 #[.slice (some a) 37 cap] w (xTy n w):=by
 obtain⟨r,hr⟩:∃r,r=w.heap.size:=⟨_,rfl⟩;obtain⟨w1,ai⟩:∃w1,w1=w.alloc (.cells #[.slice (some a) 37 cap,.bool false] 209):=⟨_,rfl⟩;have aa:Below w.heap.size w w1:=by rw[ai];exact b_ _ _
 have OD:qH w1 r a cap (uY n):=by
  refine⟨?_,⟨λq x hq=>(aa.cell (by rw[ya];exact ha)).trans (hs.cell q x hq)⟩,by rw[yF];exact hc,hm,by omega,ap_ ha aa.size⟩;unfold RdAt;rw[yF,ai,hr];exact heap_alloc_new w _
 have eR:qH w1 r a cap ([1]++(beB 4 4++(beB 4 0++(beB 4 16++((beB 8 n++beB 8 0)++(beB 4 0++([]++(beB 4 0++([]++[]))))))))):=OD;clear OD;have UY:=h_ (yA0 1 eR);have HG:=h_ hG;have ar:=h_ aa;have HR:=h_ hr;have HN:=h_ (And.intro h1 h2);have tX:((1:UInt8).toNat:Int)=1:=rfl;rw[tX]at UY;clear h1 h2 hG hs ha hc hm aa eR tX;go_enter func64,ntmps64;go_upto_region 2 with fail
 refine xr ai ?_;rw[<-hr];clear ai hr;go_wp2_with fail;refine UY.mono ?_;rintro e w2 ⟨rfl,hk2,a2,c2,aP,a_⟩;have cS:Below w.heap.size w w2:=ar.trans (hk2.below ar.size (λk hk=>by rw[ac_.1 hk,HR.out];exact aa_ _));have IK:=h_ (xOl aP HN.1 HN.2 (λW hk=>HG.later (cS.trans (hk.below cS.size (λk hk=>by rw[ac_.1 hk,HR.out];exact aa_ _)))));have au:=h_ cS;clear hk2 aP a_ cS UY;go_wp2_with fail;refine IK.mono ?_;rintro e w3 ⟨sp,x,rfl,dp,rN,aB,aH,cQ,hle,a3,c3,dv⟩;have cC:Below w.heap.size w w3:=au.trans (dp.below au.size (λk hk=>by rw[ac_.1 hk,HR.out];exact aa_ _));have h1:=dv.row;unfold RdAt at h1;have c0:=cell_of_row w3 r 0 _ _ _ h1;have c1:=cell_of_row w3 r 1 _ _ _ h1;simp only[v_,bm_]at c0 c1;have HF:Hid (∀k,xTy n w (.returned (.tuple #[.iface 79 (.pointer (some ⟨sp,0,none⟩)),.bool true])) (w3.drewN k)):=h_ (λk=>⟨sp,x,rfl,xS cC k,rN,(aB.below (xS (ab_ _ _) k)).base au.size,aH,cQ,ad_ au.size hle⟩);clear dp rN aB aH cQ hle dv cC h1 IK;go_upto_region 17 with fail
 go_quiet (fail);clear c0 c1;go_wp2;go_ret2;exact HF.out _
theorem xQx {w}(sp tp a b c d)(ha:a.oneCell'=true)(hb:b.oneCell'=true)(hc:c.oneCell'=true)(hd:d.oneCell'=true)(cs)(h:w.heap[sp]?=some (.cells #[a,b,c,d] 81 (0,0)))(ht:w.heap[tp]?=some (.cells cs 70 (0,0)))(aJ:cs.size=4):
  Calls prog 317 #[.pointer (some ⟨sp,0,none⟩),.pointer (some ⟨tp,0,none⟩)] w λe w'=>e=.returned (.int .i64 0)/\w.setRow tp #[a,b,c,d]=w':=by
 obtain⟨o1,r1⟩:=xD (n:=4) h rfl;have bu:xM w tp 4=true:=zN ht aJ;have bJ:xy 4 #[a,b,c,d]=true:=jj _ _ _ _ ha hb hc hd;clear h ht aJ;go_enter func317,ntmps317;go_wp2;go_ret;exact⟨rfl,rfl⟩
theorem xR8 (a w):Sem.run prog (Instr.typeAssert (.iface 79 (.pointer a)) 145 79 true) w=.ok (.tuple #[.pointer a,.bool true]) w:=by kernel_rfl
def xTt (n:Nat)(w:World)(e:Ending)(w':World):Prop:=∃x,e=.returned (.tuple #[.agg (xN x),.bool true])/\Below w.heap.size w w'/\zv w.heap.size w' x/\x.pc=kx n/\x.gs=[]
theorem xRd {w}(n)(h1:1<=n)(h2:n<=1073741824)(hG:Gl w)(v l B)(hj:JeAt w B v l)(hl:l.map (λx=>x.2.1)=[3 :: uY n])(ci:B<=w.heap.size):
  Calls prog 32 #[v] w (xTt n w):=by
 have gW:l.length=1:=by have:=congrArg List.length hl;simpa using this
 obtain⟨g,cap,gp,pc,hv,hle,aT,eH,aH,o8,cu⟩:=hj.get 0 (by omega);have hy:l[0].2.1=3 :: uY n:=by
  have:=congrArg (λ(z:List By)=>z[0]?) hl;simpa[gW]using this
 rw[hy]at aT aH cu;have hyl:(3 :: uY n).length=38:=by rw[av_,yF]
 rw[hyl]at aT aH;rw[gW]at hv hle;generalize l[0].1=z at aT;have k0:=aT 0 _ rfl;have k1:=aT 1 _ rfl;simp only[bZ_,aq_]at k0 k1;obtain⟨r0,hr0⟩:∃r,r=w.heap.size:=⟨_,rfl⟩;obtain⟨w1,ai⟩:∃w1,w1=(w.alloc (.cells zL 70)).alloc (.cells zL 70):=⟨_,rfl⟩;have rO:Below w.heap.size w w1:=by rw[ai];exact((ab_ _ _).alloc (aa_ _) _).alloc (by simp) _
 have az:w1.heap[r0]?=some (.cells zL 70 (0,0)):=by rw[hr0,ai,heap_alloc_old _ _ (by simp),heap_alloc_new]
 have lX:w1.heap[r0+1]?=some (.cells zL 70 (0,0)):=by
  have:=heap_alloc_new (w.alloc (.cells zL 70)) (.cells zL 70);rw[al_]at this;rw[hr0,ai];exact this
 have pM:=block_lt_of_cell k0
 have ri:=xW (w:=w1) (a:=⟨g,0,none⟩) (cs:=[.int .i64 z,.slice (some ⟨gp,0,none⟩) 38 pc]) (λj u hj=>by
  rw[an_,aq_];refine(rO.cell (p:=⟨g,j,none⟩) pM).trans ?_
  match j,hj with
  |0,hj=>rw[k0];exact hj
  |1,hj=>rw[k1];exact hj)
 obtain⟨o1,d1⟩:=ri;simp only[av_,bm_]at o1 d1;obtain⟨w2,aw⟩:∃w2,w2=w1.alloc (.cells #[.int .i64 z,.slice (some ⟨gp,0,none⟩) 38 pc] 128):=⟨_,rfl⟩;have D5:Below w1.heap.size w1 w2:=by rw[aw];exact b_ _ _
 have cS:=rO.trans (D5.mono rO.size);have mj:w2.heap[w1.heap.size]?=some (.cells #[.int .i64 z,.slice (some ⟨gp,0,none⟩) 38 pc] 128 (0,0)):=by rw[aw];exact heap_alloc_new w1 _
 have c2:=cell_of_row w2 w1.heap.size 1 _ _ _ mj;simp only[v_]at c2;have lk:SlB w2 ⟨gp,0,none⟩ (3 :: uY n):=⟨λq x hq=>(cS.cell (by rw[ya];exact eH)).trans (cu.cell q x hq)⟩;have b2:=lk.cell 0 3 rfl;rw[show (⟨gp,0,none⟩:Addr).add 0=⟨gp,0,none⟩from rfl]at b2;have tX:((3:UInt8).toNat:Int)=3:=rfl;rw[tX]at b2;have Rj:=kh ⟨gp,0,none⟩ 38 pc 1 1 rfl (by omega);have FK:SlB w2 (cutA ⟨gp,0,none⟩ pc 1) (uY n):=lk.cut (cap:=pc) (by rw[hyl];exact aH) 1;have pu:=h_ FK;have dw:Hid (([]:By).length+(uY n).length<=1000000000000):=h_ (by rw[yF];simp);have HN:=h_ (And.intro h1 h2);have HG:=h_ hG;have iT:=h_ cS;have cz:=h_ ((D5.block _ (i_ az).1).trans az);have Yi:=h_ ((D5.block _ (i_ lX).1).trans lX);have JW:=h_ hr0;have hta:=xR8;have dO:(1:Int)<=cap:=by omega
 have ia:(#[Value.int .i64 0,Value.slice none 0 0].size==2)=true:=rfl;have ma:xy 2 #[Value.int .i64 z,Value.slice (some ⟨gp,0,none⟩) 38 pc]=true:=by simp[xy,Value.oneCell']
 have aa:bits .and .u8 3 1=1:=by decide
 have aj:bits .andNot .u8 3 3=0:=by decide
 have al:bits .and .u8 3 2=2:=by decide
 have C7:(38:Int)<=pc:=by omega
 subst hv;clear h1 h2 hG hj hl ci gW hle aT eH aH o8 cu hy hyl k0 k1 rO az lX pM D5 cS mj lk tX FK;go_enter func32,ntmps32;go_upto_region 2 with fail
 refine xr ai ?_;rw[<-hr0];clear ai hr0;go_wp2;refine yH ?_;go_upto_region 7 with fail
 refine xr aw ?_;clear aw o1 d1;go_wp2_with (at_builtin;refine zw rfl (.tmp 41) (.tmp 44) rfl w2.heap.size _ [] rfl (OwnB.nil _ _) (cutA ⟨gp,0,none⟩ pc 1) (uY n) (pc-1) (by rw[yF];rfl) pu.out dw.out (aa_ _) ?_);intro v' w3 ho hg _ _;have ho:OwnB w3 w2.heap.size v' (uY n):=ho;have al:Below w2.heap.size w2 w3:=(ab_ _ w2).grown hg (aa_ _) (λk e=>by cases e);obtain⟨rg,rc,fB,i3,Yj,KC⟩:∃g cap,v'=.slice (some ⟨g,0,none⟩) 37 cap/\37<=cap/\cap<=maxLen/\SlB w3 ⟨g,0,none⟩ (uY n):=by
  rcases ho.at with⟨_,h⟩|⟨g,cap,h1,h2,h3,h4,h5⟩
  ·exact absurd (congrArg List.length h) (by rw[yF];simp)
  ·rw[yF]at h1 h3;exact⟨g,cap,h1,h3,h4,h5⟩
 subst fB;have cC:Below w.heap.size w w3:=iT.trans (al.mono iT.size);have HD:=h_ (xL8 n HN.1 HN.2 (HG.later cC) ⟨rg,0,none⟩ rc KC (ho.lt (k:=rg) rfl).2 i3 Yj);have fH:=h_ cC;have dV:=h_ ((al.block _ (i_ cz.out).1).trans cz.out);have Fe:=h_ ((al.block _ (i_ Yi.out).1).trans Yi.out);clear ho hg al i3 Yj KC cC Rj c2 b2;go_wp2_with fail;refine HD.mono ?_;rintro e w4 ⟨sp,x,rfl,aQ,rN,aB,aH,cQ,hle⟩;have eh:=(aQ.block _ (i_ dV.out).1).trans dV.out;have DD:=(aQ.block _ (i_ Fe.out).1).trans Fe.out;have lH:Below w.heap.size w w4:=fH.trans (aQ.mono fH.size);have ES:=h_ (xQx sp (r0+1) _ _ _ _ rfl rfl rfl rfl zL rN DD rfl);obtain⟨cs,aJ⟩:∃cs,cs=xN x:=⟨_,rfl⟩;have OE:#[Value.pointer (some ⟨x.h.p,0,none⟩),.pointer (some ⟨x.s.p,0,none⟩),.pointer (some ⟨x.t.p,0,none⟩),.pointer (some ⟨x.ib,0,none⟩)]=cs:=by rw[aJ];rfl
 rw[OE]at ES;have aI:cs.size=4:=by rw[aJ];rfl
 have bJ:xy 4 cs=true:=by rw[aJ];exact jj _ _ _ _ rfl rfl rfl rfl
 obtain⟨w5,aY⟩:∃w5,w5=w4.setRow (r0+1) cs:=⟨_,rfl⟩;rw[<-aY]at ES;have Yk:w5.heap[r0+1]?=some (.cells cs 70 (0,0)):=by rw[aY];exact setRow_heap w4 (r0+1) _ cs _ _ DD
 have eM:w5.heap[r0]?=some (.cells zL 70 (0,0)):=by rw[aY];exact(setRow_other _ _ _ _ (by omega)).trans eh
 obtain⟨o5,d5⟩:=xD (n:=4) Yk aI;have bu:xM w5 r0 4=true:=zN eM rfl;obtain⟨o6,d6⟩:=xD (n:=4) (setRow_heap w5 r0 _ cs _ _ eM) aI;have hlt3:r0+1<w3.heap.size:=(i_ Fe.out).1;have dq:Kept [r0,r0+1] w4 (w5.setRow r0 cs):=by
  rw[aY];exact((qL w4 (r0+1) cs).mono (λk hk _=>by simp at hk;simp[hk])).trans (qL _ r0 cs) (λk hk=>by simp at hk;simp[hk])
 have nM:zv w3.heap.size (w5.setRow r0 cs) x:=aB.kept dq (λk hk=>by simp at hk;omega);have OF:Below w.heap.size w (w5.setRow r0 cs):=lH.trans (dq.below lH.size (λk hk=>by have:=JW.out;simp at hk;omega));have HF:Hid (xTt n w (.returned (.tuple #[.agg cs,.bool true])) (w5.setRow r0 cs)):=h_ ⟨x,by rw[aJ],OF,nM.base fH.size,aH,cQ⟩;have gt:=h_ (And.intro o6 d6);clear aQ rN aB aH cQ hle eh DD lH aJ OE aI aY Yk eM o6 d6 hlt3 dq nM OF HD;go_wp2_with fail;refine ES.mono ?_;rintro e w' ⟨rfl,rfl⟩;go_wp2;exact bodyPost_ret (v:=.tuple #[.agg cs,.bool true]) (qV rfl isAgg70 sizeOf70 _ _ ⟨r0,0,none⟩ _ _ rfl rfl gt.1 gt.2) rfl HF.out
end
section
attribute [local go_sem ↓] xA0 jU jV qm uJ uN
attribute [local go_sem] xP5 xOb xQ8 xCc xBv zn zu yx yw xh xf xa x9 xu xv xk xj xq xx xt
structure Fmt (d:PD)(j:PJ)(n:Nat):Prop where
 up:d.Up
 pend:d.pend=[]
 inv:JInv sha d.n d j
 gen:j.gen<=100
 first:j.first<=100
 ents:j.entries=[3 :: uY n]
def xX2 (D:Nat)(v:Dev)(d:PD)(n:Nat)(w:World)(e:Ending)(w':World):Prop:=e=.returned (.int .i64 0)/\Kept v.foot w w'/\∃v' d' j,v'.p=v.p/\v'.M=v.M/\yu D w' v' d'/\(∀k∈v'.foot,k∈v.foot\/w.heap.size<=k)/\d'.n=d.n/\Fmt d' j n
theorem xI5:xO 38=1:=by decide
theorem xGv {D w v d}(h:yu D w v d)(hu:d.Up)(hG:Gl w)(OG:64<=d.n)(aN:d.pend=[])(hz:∀s,s<d.n->decP sha (d.vis s)=none)(n:Nat)(h1:1<=n)(h2:n<=1073741824)(hD:D<=w.heap.size)(cK:prog.globals.size<=D):
  Calls prog 6 #[.pointer (some ⟨v.p,0,none⟩),.int .i64 n] w (xX2 D v d n w):=by
 have wF:=h.foot_lt;have pF:=h_ wF;have H:=h_ h;have HG:=h_ hG;have HC:=h_ (And.intro hu (And.intro OG (And.intro aN hz)));have HN:=h_ (And.intro h1 h2);have HD:=h_ (And.intro hD cK);have h64z:(64:Int)<=(d.n:Int):=by omega
 have iB:(d.n:Int)<=4096:=by have:=h.n2;omega
 have Ym:=h_ (xOy n h1 h2 w);clear h hu hG OG aN hz h1 h2 hD cK wF;go_enter func6,ntmps6;go_wp2_with fail;refine(qI H.out).mono ?_;rintro e w' ⟨rfl,rfl⟩;go_wp2_with fail;refine Ym.mono ?_;rintro e w1 ⟨aa,x,rfl,hx,aH,cQ⟩;obtain⟨q0,D6⟩:∃q,q=Value.pointer (some ⟨x.h.p,0,none⟩):=⟨_,rfl⟩;obtain⟨q1,rf⟩:∃q,q=Value.pointer (some ⟨x.s.p,0,none⟩):=⟨_,rfl⟩;obtain⟨q2,wK⟩:∃q,q=Value.pointer (some ⟨x.t.p,0,none⟩):=⟨_,rfl⟩;obtain⟨q3,UZ⟩:∃q,q=Value.pointer (some ⟨x.ib,0,none⟩):=⟨_,rfl⟩;have aJ:xN x=#[q0,q1,q2,q3]:=by rw[D6,rf,wK,UZ];rfl
 have bJ:xy 4 #[q0,q1,q2,q3]=true:=jj _ _ _ _ (by rw[D6];rfl) (by rw[rf];rfl) (by rw[wK];rfl) (by rw[UZ];rfl);rw[aJ];have DR:(zL.size==4)=true:=rfl;obtain⟨w2,aw⟩:∃w2,w2=w1.alloc (.cells #[q0,q1,q2,q3] 70):=⟨_,rfl⟩;have ak:Below w1.heap.size w1 w2:=by rw[aw];exact b_ _ _
 have aA:w2.heap[w1.heap.size]?=some (.cells #[q0,q1,q2,q3] 70 (0,0)):=by rw[aw];exact heap_alloc_new w1 _
 have aj:=aa.trans (ak.mono aa.size);have eN:=hx.in.below ak (aa_ _);have bE:=H.below aj;have nD:=h_ aJ;have Dm:=h_ eN;have nN:=h_ (And.intro aH cQ);have au:=h_ aj;have bQ:=h_ aA;have mI:=h_ bE;have cL:=h_ aa.size;have BR:Hid (w1.heap.size<=w2.heap.size):=h_ ak.size;have BS:Hid (w1.heap.size<w2.heap.size):=h_ (i_ aA).1;have hg2:=HG.later aj;have Yn:=h_ (xV2 bE HC.1 (jp hg2) (by have:=HC.2.1;omega) HC.2.2.1 HC.2.2.2 (ad_ HD.1 aj.size) (ap_ xAg HD.2));clear aa hx aH cQ aJ D6 rf wK UZ ak aA aj eN bE hg2 Ym;go_upto_region 6 with fail
 refine xr aw ?_;clear aw;go_wp2_with fail;refine(qI mI.out).mono ?_;rintro e w' ⟨rfl,rfl⟩;go_wp2_with fail;refine Yn.mono ?_;rintro e w3 ⟨rfl,dp,v3,IY,J6,fk,py⟩;obtain⟨_,_,p3,p4,p5⟩:=JInv.format sha yZ (d:=d) HC.1 (by have:=HC.2.1;omega) HC.2.2.2;obtain⟨d1,bg⟩:∃d1,d1=(d.puts 0 (zV.secs sha)).1.flushed:=⟨_,rfl⟩;have Nf:d1.Up:=by rw[bg];exact xB5 p3
 have az:d1.n=d.n:=by rw[bg];exact p4
 have gU:JInv sha d1.n d1 zV:=by rw[az,bg];exact p5.flushed
 have iD:d1.pend=[]:=by rw[bg];rfl
 rw[<-bg]at fk;have Yo:D<=w3.heap.size:=ad_ HD.1 (ad_ au.size dp.size);have cU:Below D w w3:=(au.mono HD.1).trans (dp.below (ad_ HD.1 au.size) (λk hk=>(pF.out k hk).1));have ay:=h_ cU;have Lb:Hid (Gl w3):=h_ (HG.below cU HD.2);have U0:=h_ (xJt fk Nf (jp Lb.out) zV gU (by decide) iD Yo (by decide) (ap_ xAg HD.2) (by rw[az];have:=HC.2.1;omega));have pf:Hid (jI w.heap.size w1.heap.size w3 x):=h_ (Dm.kept dp BR.out (λk hk=>.inl (pF.out k hk).2));have dV:Hid (w3.heap[w1.heap.size]?=some (.cells #[q0,q1,q2,q3] 70 (0,0))):=h_ ((dp.block _ (i_ bQ.out).1 (λhm=>by have:=(pF.out _ hm).2;have:=cL.out;omega)).trans bQ.out);have CQ:=h_ fk;have Rk:=h_ (And.intro IY (And.intro J6 py));have mg:=h_ (And.intro Nf (And.intro az (And.intro gU iD)));have CS:=h_ dp;have Yp:Value.pointer (some ⟨v.p,0,none⟩)=.pointer (some ⟨v3.p,0,none⟩):=by rw[IY]
 rw[az]at U0;have rL:=h_ Yp;clear dp IY J6 fk py p3 p4 p5 Nf az gU iD Yo cU Yp bg Yn;go_wp2_with fail;rw[rL.out];refine(qI CQ.out).mono ?_;rw[mg.2.1];rintro e w' ⟨rfl,rfl⟩;go_wp2_with fail;refine U0.mono ?_;rintro e w4 ⟨b,v4,ev,entv,l,rfl,dQ,oQ,aQ,OH,oB,mF,BT,_,U1⟩;obtain⟨J,hJ⟩:∃J,J=kk sha d1.n d1 zV:=⟨_,rfl⟩;obtain⟨OI,OJ⟩:=xJ8 sha mg.2.2.1 (by decide);obtain⟨_,_,u3,u4,u5⟩:=JInv.reopen sha yZ mg.2.2.1 mg.1 (by decide);have Fs:1-zV.area=J.area:=by rw[hJ];rfl
 have oJ:J.entries=[]:=by rw[hJ];rfl
 have Q2:Hid (J.first<=100):=h_ (by rw[hJ];exact aV_ _);rw[Fs,<-hJ]at u3 u4 u5;rw[<-mg.2.1,<-hJ]at oQ;rw[<-hJ]at OI OJ;obtain⟨d2,bE⟩:∃d2,d2=(d1.puts (J.area*(d1.n/2)) (J.secs sha)).1.flushed:=⟨_,rfl⟩;rw[<-bE]at oQ;have OK:d2.n=d.n:=by rw[bE];exact u4.trans mg.2.1
 have ey:d2.pend=[]:=by rw[bE];rfl
 have cu:(J.secs sha).length=1:=by rw[zM,oJ];rfl
 have Cz:=h_ oQ;have lL:=h_ (And.intro OK (And.intro ey (And.intro cu (And.intro oJ OJ))));have IZ:∀k∈v3.foot,k<w.heap.size\/w1.heap.size+1<=k:=λk hk=>by
  rcases Rk.2.2 k hk with h|h
  ·exact .inl (pF.out k h).2
  ·have:=BS.out;omega
 have Kk:Hid (jI w.heap.size w1.heap.size w4 x):=h_ (pf.kept dQ (ad_ BR.out CS.size) (λk hk=>(IZ k hk).imp_right (λh=>by omega)));have eh:=(dQ.block _ (i_ dV.out).1 (λhm=>by have:=IZ _ hm;have:=cL.out;omega)).trans dV.out;obtain⟨o4,r4⟩:=xD (n:=4) eh rfl;obtain⟨w5,aY⟩:∃w5,w5=w4.alloc (.cells #[q0,q1,q2,q3] 81):=⟨_,rfl⟩;have aF:Below w4.heap.size w4 w5:=by rw[aY];exact b_ _ _
 have eM:w5.heap[w4.heap.size]?=some (.cells #[q0,q1,q2,q3] 81 (0,0)):=by rw[aY];exact heap_alloc_new w4 _
 have BU:∀k∈v3.foot,D<=k:=λk hk=>(CQ.foot_lt k hk).1
 have ik:Below D w w4:=ay.trans (dQ.below (ad_ HD.1 (ay.size)) BU);have OL:w.heap.size<=w4.heap.size:=ik.size;have pT:Below D w w5:=ik.trans (aF.mono (ad_ HD.1 OL));have wl:Gl w5:=HG.below pT HD.2;have lD:zv w.heap.size w5 x:=(Kk.below aF (ad_ BR.out (ad_ CS.size dQ.size))).at;have eB:=h_ (xIo lD wl n nN.1 nN.2 HN.2 w4.heap.size (by rw[nD.out];exact eM));have rC:=h_ (oQ.below aF);have KH:=h_ wl;have A7:=h_ (dQ.trans (Kept.of_below (F:=[]) aF) (λq hq=>by cases hq));have aU:=h_ pT;have HV4:=h_ (And.intro OH (And.intro oB (And.intro mF BT)));have U2:=h_ aQ;have H35:Hid (w3.heap.size<=w5.heap.size):=h_ (ad_ dQ.size aF.size);clear dQ oQ aQ OH oB mF BT U1 hJ OI OJ u3 u4 u5 Fs oJ bE OK ey cu IZ eh aF eM BU ik OL pT wl lD U0;go_upto_region 14 with fail
 go_wp2_with fail;rw[<-aY];clear aY;refine eB.mono ?_;rintro e w6 ⟨bV,u,rfl,ae⟩;obtain⟨ug,uc,hu,Yq,Ku,mM⟩:∃g cap,u=.slice (some ⟨g,0,none⟩) 37 cap/\37<=cap/\g<w6.heap.size/\SlB w6 ⟨g,0,none⟩ (uY n):=by
  rcases ae.at with⟨_,h⟩|⟨g,cap,h1,h2,h3,h4,h5⟩
  ·exact absurd (congrArg List.length h) (by rw[yF];simp)
  ·have:=(ae.lt (k:=g) (by rw[h1];rfl)).2;rw[yF]at h1 h3;exact⟨g,cap,h1,h3,this,h5⟩
 subst hu;have Rl:Below D w w6:=aU.trans (bV.mono (ad_ HD.1 aU.size));have OM:d2.n=d.n:=lL.1;have ON:d2.pend=[]:=lL.2.1;have Ir:(J.secs sha).length=1:=lL.2.2.1;have pG:=rC.below bV
 have sL:=h_ (xBt pG (jp (HG.below Rl HD.2)) (uY n) ⟨ug,0,none⟩ uc mM Ku (by rw[yF];exact Yq) (by rw[yF];omega) (by rw[yF];omega)
  (by rw[yF,xI5,Ir,OM];have:=HC.2.1;omega) (by rw[yF,xI5,ON];decide) (by rw[lL.2.2.2.1];decide) (ad_ HD.1 Rl.size))
 rw[yF]at sL;have fb:=h_ Rl;have Q8:=h_ (A7.trans (Kept.of_below (F:=[]) bV) (λq hq=>by cases hq));have H36:Hid (w3.heap.size<=w6.heap.size):=h_ (ad_ H35.out bV.size);clear bV ae Yq Ku mM Rl OM ON Ir pG eB o4 r4;go_wp2_with fail;refine sL.mono ?_;rintro e w7 ⟨rfl,lU,v7,ev7,Yr,Ys,KI,LJ,OO⟩;obtain⟨d3,fk⟩:∃d3,d3=(d2.puts (J.area*(d2.n/2)+(J.secs sha).length) (yk sha (J.body (3 :: uY n)))).1:=⟨_,rfl⟩;have OP:d3.n=d2.n:=by rw[fk];exact(JInv.add sha yZ Cz.inv Cz.up (3 :: uY n) (by rw[av_,yF];omega) (by rw[lL.2.2.2.1];decide) (by rw[av_,yF,xI5,lL.2.2.1,lL.1];have:=HC.2.1;omega)).2.2.1
 rw[<-fk]at KI;have OQ:=h_ (xN3 KI (by show (J.entries++[3 :: uY n]).length<=_;rw[lL.2.2.2.1];simp));have Kt:=h_ lU;have HV7:=h_ (And.intro Yr (And.intro Ys (And.intro LJ (And.intro OO OP))));clear lU Yr Ys KI LJ OO fk OP sL;go_wp2_with fail;refine OQ.mono ?_;rintro e w8 ⟨rfl,Ql,v8,sy8,Yt,Yu,Rm,J0⟩;have bN:xX2 D v d n w (.returned (.int .i64 0)) w8:=by
  obtain⟨a1,a2,a3⟩:=Rk.out;obtain⟨a4,a5,a6,a7⟩:=HV4.out;obtain⟨a8,a9,a10,a11,a12⟩:=HV7.out;have z1:w.heap.size<=w3.heap.size:=ay.size;have z2:=H36.out;have z3:w.heap.size<=w2.heap.size:=au.size;have z4:=U2.out;have z7:w6.heap.size<=w7.heap.size:=Kt.size;have c3:∀k∈v3.foot,k∈v.foot\/w.heap.size<=k:=λk hk=>(a3 k hk).imp_right (λh=>ad_ z3 h)
  have c4:∀k∈v4.foot,k∈v.foot\/w.heap.size<=k:=λk hk=>by
   rcases a6 k hk with h|h
   ·exact c3 k h
   ·exact .inr (by omega)
  have c7:∀k∈v7.foot,k∈v.foot\/w.heap.size<=k:=λk hk=>by
   rcases a10 k hk with h|h
   ·exact c4 k h
   ·exact .inr (by omega)
  have c8:∀k∈v8.foot,k∈v.foot\/w.heap.size<=k:=λk hk=>by
   rcases J0 k hk with h|h
   ·exact c7 k h
   ·exact .inr (by omega)
  have kk3:Kept v.foot w w3:=(Kept.of_below (F:=v.foot) au.out).trans CS.out (λq hq=>.inl hq);have kk6:Kept v.foot w w6:=kk3.trans Q8.out c3
  have kk7:Kept v.foot w w7:=kk6.trans Kt.out (λq hq=>by
   rcases ae_.1 hq with rfl|hq
   ·exact .inr (by omega)
   ·rcases aj_.1 hq with hq|hq
    ·exact c4 q hq
    ·have:=a7 q (by simpa using hq);exact .inr (by omega))
  have kk8:Kept v.foot w w8:=kk7.trans Ql (λq hq=>by
   rcases ae_.1 hq with rfl|hq
   ·exact .inr (by omega)
   ·exact c7 q hq)
  refine⟨rfl,kk8,v8,_,_,Yt.trans (a8.trans (a4.trans a1)),Yu.trans (a9.trans (a5.trans a2)),Rm.dev,c8,(xGc d3).trans (a12.trans lL.1),Rm.up,rfl,Rm.inv,?_,Q2.out,?_⟩
  ·show J.gen<=100
   have:=lL.2.2.2.2;have h0:zV.gen=0:=rfl;omega
  ·show J.entries++[3 :: uY n]=_
   rw[lL.2.2.2.1];rfl
 have aS:=h_ bN;clear Ql Yt Yu Rm J0 bN OQ;go_wp2;go_ret;exact aS.out
end
section
theorem kZ (ρ:Operand->Value)(d x)(ty:TypeId)(pos af g w):
  Sem.run prog (execOp ρ ⟨d,.load 88 x,ty,pos,af,g⟩) w=yp prog 88 w (ρ x):=rfl
theorem jT (ρ:Operand->Value)(d x y)(ty:TypeId)(pos af g w):
  Sem.run prog (execOp ρ ⟨d,.store 88 x y,ty,pos,af,g⟩) w=yi prog 88 w (ρ x) (ρ y):=rfl
theorem xP4 (w a)(h:xo w a 5=true):yp prog 88 w (.pointer (some a))=.ok (.value (.agg (xm w a 5))) w:=
 yf isAgg88 sizeOf88 w a h
theorem xOa (w g cells)(h:xM w g 5=true)(h2:xy 5 cells=true):
  yi prog 88 w (.pointer (some ⟨g,0,none⟩)) (.agg cells)=.ok .skip (w.setRow g cells):=yo (by kernel_rfl) w g cells h h2
def yQ (b:Nat)(v:Dev)(ev:List Nat):List Nat:=b :: (v.foot++ev)
structure StAt (D:Nat)(w:World)(sb b:Nat)(v:Dev)(d:PD)(j:PJ)(ev:List Nat)(sy:Int)(x:Prt)(B T:Nat):Prop where
 blk:w.heap[sb]?=some (.cells #[.pointer (some ⟨b,0,none⟩),.pointer (some ⟨x.h.p,0,none⟩),.pointer (some ⟨x.s.p,0,none⟩),.pointer (some ⟨x.t.p,0,none⟩),.pointer (some ⟨x.ib,0,none⟩)] 88 (0,0))
 jat:JAt D w b v d j ev sy 0
 prt:jI B T w x
 tl:T<=w.heap.size
 sep:∀k∈yQ b v ev,k<B\/T<=k
 sbj:sb∉yQ b v ev
 sbp:sb<B\/T<=sb
 sbD:D<=sb
 DB:D<=B
def StOk (D:Nat)(w:World)(sb p n q u:Nat)(c:PC)(F:List Nat):Prop:=∃b v d j ev sy x B T,StAt D w sb b v d j ev sy x B T/\v.p=p/\d.n=n/\d.pend=[]/\(j.secs sha).length=u/\j.entries.length<=1000+u/\x.pc=c/\(j.gen<=q/\j.first<=q/\1<=j.entries.length)/\F=sb :: yQ b v ev
theorem StAt.kept {D w w' sb b v d j ev sy x B T}(h:StAt D w sb b v d j ev sy x B T){F}(hk:Kept F w w')(hF:∀k∈F,k≠sb/\k∉yQ b v ev/\(k<B\/T<=k)):StAt D w' sb b v d j ev sy x B T:=by
 refine⟨(hk.block _ (i_ h.blk).1 (λhm=>(hF _ hm).1 rfl)).trans h.blk,h.jat.kept hk (λk bG=>?_),h.prt.kept hk h.tl (λk bG=>(hF k bG).2.2),ad_ h.tl hk.size,h.sep,h.sbj,h.sbp,h.sbD,h.DB⟩;have:=(hF k bG).2.1;simp only[yQ,ae_,aj_,not_or]at this;exact⟨this.1,this.2.1,this.2.2⟩
theorem StAt.jlt {D w sb b v d j ev sy x B T}(h:StAt D w sb b v d j ev sy x B T):∀k∈yQ b v ev,D<=k/\k<w.heap.size:=by
 intro k hk;simp only[yQ,ae_,aj_]at hk;rcases hk with rfl|hk|hk
 ·exact⟨h.jat.bB,h.jat.blt⟩
 ·exact h.jat.dev.foot_lt k hk
 ·exact⟨(h.jat.es_ k hk).1,(h.jat.es_ k hk).2.1⟩
theorem StAt.below {D w w' sb b v d j ev sy x B T}(h:StAt D w sb b v d j ev sy x B T)(hb:Below w.heap.size w w'):StAt D w' sb b v d j ev sy x B T:=h.kept (Kept.of_below (F:=[]) hb) (by simp)
theorem StOk.below {D w w' sb p n q u c F}(h:StOk D w sb p n q u c F)(hb:Below w.heap.size w w'):StOk D w' sb p n q u c F:=by
 obtain⟨b,v,d,j,ev,sy,x,B,T,h1,h2⟩:=h;exact⟨b,v,d,j,ev,sy,x,B,T,h1.below hb,h2⟩
theorem StOk.flt {D w sb p n q u c F}(h:StOk D w sb p n q u c F):∀k∈F,D<=k/\k<w.heap.size:=by
 obtain⟨b,v,d,j,ev,sy,x,B,T,h1,_,_,_,_,_,_,_,rfl⟩:=h;intro k hk;rcases ae_.1 hk with rfl|hk
 ·exact⟨h1.sbD,(i_ h1.blk).1⟩
 ·exact h1.jlt k hk
attribute [local go_sem ↓] qm uJ uN kZ jT
attribute [local go_sem] xCc xBv xP4 xOa zn zu yx yw xh xf xa x9 xu xv xk xj xq xx xt
theorem xPo (ρ:Operand->Value)(d x0 x1)(ty:TypeId)(pos af gd w):
  Sem.run prog (execOp ρ ⟨d,.build 88 #[(0,x0),(1,x1)],ty,pos,af,gd⟩) w=zB prog 88 w #[(0,ρ x0),(1,ρ x1)]:=by kernel_rfl
theorem yFb (w p a b c d):zB prog 88 w #[(0,.pointer p),(1,.agg #[a,b,c,d])]=.ok (.value (.agg #[.pointer p,a,b,c,d])) w:=zD (by kernel_rfl)
attribute [local go_sem ↓] xPo
attribute [local go_sem] yFb
def xL0 (D:Nat)(v:Dev)(d:PD)(n:Nat)(w:World)(e:Ending)(w':World):Prop:=∃sb,e=.returned (.tuple #[.pointer (some ⟨sb,0,none⟩),.int .i64 0])/\Below D w w'/\∃F,StOk D w' sb v.p d.n 102 2 (kx n) F
theorem xMe {D w v d j n}(h:yu D w v d)(OG:64<=d.n)(hf:Fmt d j n)(hG:Gl w)(h1:1<=n)(h2:n<=1073741824)(hD:D<=w.heap.size)(cK:prog.globals.size<=D):
  Calls prog 7 #[.pointer (some ⟨v.p,0,none⟩)] w (xL0 D v d n w):=by
 have HS:=h_ (qI h);have tI:=h_ (xTb h);rw[hf.up.1]at tI;have HC:=h_ (yBu h hf.pend);have hz:(64:Int)<=(d.n:Int):=by omega
 have H:=h_ h;have HG:=h_ hG;have HF:=h_ hf;have Yv:=h_ OG;have HN:=h_ (And.intro h1 h2);have HD:=h_ (And.intro hD cK);have pF:=h_ h.foot_lt;clear h OG hf hG h1 h2 hD cK;go_enter func7,ntmps7;go_wp2_with fail;refine HS.mono ?_;rintro e w' ⟨rfl,rfl⟩;go_wp2_with fail;refine tI.mono ?_;rintro e w' ⟨rfl,rfl⟩;go_wp2_with fail;refine HC.mono ?_;rintro e w1 ⟨aa,c,rfl,dO⟩;have ar:=h_ aa;have pp:=h_ (xLb dO);have HCP:=h_ (And.intro dO.pB (dO.foot_lt _ c.p_foot).2);clear aa dO HC;go_wp2_with fail;refine pp.mono ?_;rintro e w2 ⟨rfl,hk2,gm⟩;have he:({ d with lim:=none }:PD)=d:=by rw[<-HF.up.2]
 rw[he]at gm;have aj:Below w.heap.size w w2:=ar.trans (hk2.below ar.size (λk hk=>by rw[ac_.1 hk];exact HCP.1));have au:=h_ aj;have cF:=h_ (qI gm);have bS:j.entries.length=1:=by rw[HF.ents];rfl
 have gZ:=h_ (xJt gm HF.up (jp (HG.later aj)) j HF.inv (by have:=HF.gen;omega) HF.pend aj.size (by omega) (ap_ xAg HG.size) (by have:=Yv.out;omega));have HCF:=h_ gm.foot_lt;clear hk2 gm aj he bS pp;go_wp2_with fail;refine cF.mono ?_;rintro e w' ⟨rfl,rfl⟩;go_wp2_with fail;refine gZ.mono ?_;rintro e w3 ⟨b3,v3,ev3,entv,l,rfl,dp,KF,al,_,_,_,_,tS,A8⟩;have cC:Below w.heap.size w w3:=au.trans (dp.below au.size (λk hk=>(HCF.out k hk).1));have hl:l.map (λx=>x.2.1)=[3 :: uY n]:=A8.trans HF.ents;have ay:=h_ cC;have HR:=h_ (xRd n HN.1 HN.2 (HG.later cC) entv l w2.heap.size tS hl dp.size);clear dp KF al tS A8 cC hl gZ;go_wp2_with fail;refine HR.mono ?_;rintro e w4 ⟨x,rfl,aQ,aB,aH,cQ⟩;have aJ:xN x=#[.pointer (some ⟨x.h.p,0,none⟩),.pointer (some ⟨x.s.p,0,none⟩),.pointer (some ⟨x.t.p,0,none⟩),.pointer (some ⟨x.ib,0,none⟩)]:=rfl;rw[aJ];have DR:(zL.size==4)=true:=rfl
 have bJ:xy 4 #[Value.pointer (some ⟨x.h.p,0,none⟩),.pointer (some ⟨x.s.p,0,none⟩),.pointer (some ⟨x.t.p,0,none⟩),.pointer (some ⟨x.ib,0,none⟩)]=true:=jj _ _ _ _ rfl rfl rfl rfl;obtain⟨w5,aY⟩:∃w5,w5=w4.alloc (.cells #[.pointer (some ⟨x.h.p,0,none⟩),.pointer (some ⟨x.s.p,0,none⟩),.pointer (some ⟨x.t.p,0,none⟩),.pointer (some ⟨x.ib,0,none⟩)] 70):=⟨_,rfl⟩;have iu:Below w4.heap.size w4 w5:=by rw[aY];exact b_ _ _
 have eM:w5.heap[w4.heap.size]?=some (.cells #[.pointer (some ⟨x.h.p,0,none⟩),.pointer (some ⟨x.s.p,0,none⟩),.pointer (some ⟨x.t.p,0,none⟩),.pointer (some ⟨x.ib,0,none⟩)] 70 (0,0)):=by rw[aY];exact heap_alloc_new w4 _
 have lH:Below w.heap.size w w4:=ay.trans (aQ.mono ay.size);have oO:Below w.heap.size w w5:=lH.trans (iu.mono lH.size);have lD:jI w3.heap.size w4.heap.size w5 x:=aB.in.below iu (aa_ _);have nL:=H.below oO;have bS:j.entries.length=1:=by rw[HF.ents];rfl
 have aU:=h_ oO;have re:=h_ lD;have nK:=h_ eM;have nN:=h_ aH;have HL:=h_ (And.intro aQ.size (And.intro iu.size ay.size));have GW:Hid (w4.heap.size<w5.heap.size):=h_ (i_ eM).1;have oC:=h_ (qI nL);have tN:=h_ (xJt nL HF.up (jp (HG.later oO)) j HF.inv (by have:=HF.gen;omega) HF.pend (ad_ HD.1 oO.size) (by omega) (ap_ xAg HD.2) (by have:=Yv.out;omega));clear aQ aB aH cQ aJ iu eM lH oO lD nL bS HR;go_upto_region 13 with fail
 refine xr aY ?_;clear aY;go_wp2_with fail;refine oC.mono ?_;rintro e w' ⟨rfl,rfl⟩;go_wp2_with fail;refine tN.mono ?_;rintro e w6 ⟨b6,v6,U3,Yw,l6,rfl,dq,pG,bV,OR,wG,CP,BV,_,Ky⟩;have gJ:=(dq.block _ (i_ nK.out).1 (λhm=>by have h9:=(pF.out _ hm).2;have:=HL.1;have:=HL.2.2;omega)).trans nK.out;obtain⟨o6,r6⟩:=xD (n:=4) gJ rfl;obtain⟨w7,da⟩:∃w7,w7=w6.alloc (.cells #[.pointer (some ⟨b6,0,none⟩),.pointer (some ⟨x.h.p,0,none⟩),.pointer (some ⟨x.s.p,0,none⟩),.pointer (some ⟨x.t.p,0,none⟩),.pointer (some ⟨x.ib,0,none⟩)] 88):=⟨_,rfl⟩;have cY:Below w6.heap.size w6 w7:=by rw[da];exact b_ _ _
 have lF:w7.heap[w6.heap.size]?=some (.cells #[.pointer (some ⟨b6,0,none⟩),.pointer (some ⟨x.h.p,0,none⟩),.pointer (some ⟨x.s.p,0,none⟩),.pointer (some ⟨x.t.p,0,none⟩),.pointer (some ⟨x.ib,0,none⟩)] 88 (0,0)):=by rw[da];exact heap_alloc_new w6 _
 have bN:xL0 D v d n w (.returned (.tuple #[.pointer (some ⟨w6.heap.size,0,none⟩),.int .i64 0])) w7:=by
  obtain⟨l1,l2,l3⟩:=HL.out;have l5:=GW.out;have l6':w5.heap.size<=w6.heap.size:=dq.size;have U4:Below D w w6:=(aU.mono HD.1).trans (dq.below (ad_ HD.1 aU.size) (λk hk=>(pF.out k hk).1));have Rn:∀k∈yQ b6 v6 U3,k<w3.heap.size\/w4.heap.size<=k:=by
   intro k hk;simp only[yQ,ae_,aj_]at hk;rcases hk with rfl|hk|hk
   ·exact .inr (by omega)
   ·rcases CP k hk with h|h
    ·exact .inl (by have:=(pF.out k h).2;omega)
    ·exact .inr (by omega)
   ·exact .inr (by have:=BV k hk;omega)
  obtain⟨_,_,_,u4,_⟩:=JInv.reopen sha yZ HF.inv HF.up (by have:=HF.gen;omega);obtain⟨J,hJ⟩:∃J,J=kk sha d.n d j:=⟨_,rfl⟩;have Fs:1-j.area=J.area:=by rw[hJ];rfl
  have oJ:J.entries=[3 :: uY n]:=by rw[hJ];exact HF.ents
  rw[Fs,<-hJ]at u4;rw[<-hJ]at pG;obtain⟨d2,bE⟩:∃d2,d2=(d.puts (J.area*(d.n/2)) (J.secs sha)).1.flushed:=⟨_,rfl⟩;obtain⟨sy,IU⟩:∃sy,sy=(J.first:Int)+J.entries.length:=⟨_,rfl⟩;rw[<-bE,<-IU]at pG;have aA:d2.n=d.n:=by rw[bE];exact u4
  have ey:d2.pend=[]:=by rw[bE];rfl
  have pK:StAt D w7 w6.heap.size b6 v6 d2 J U3 sy x w3.heap.size w4.heap.size:=by
   refine⟨lF,pG.below cY,(re.kept dq (by omega) (λk hk=>.inl (by have:=(pF.out k hk).2;omega))).below cY (by omega),by have:=cY.size;omega,Rn,λhm=>?_,.inr (by omega),by have:=U4.size;have:=HD.1;omega,by have:=HD.1;omega⟩;simp only[yQ,ae_,aj_]at hm;rcases hm with h|h|h
   ·have:=pG.blt;omega
   ·have:=(pG.dev.foot_lt _ h).2;omega
   ·have:=(pG.es_ _ h).2.1;omega
  refine⟨_,rfl,U4.trans (cY.mono (ad_ HD.1 U4.size)),_,b6,v6,d2,J,U3,sy,x,_,_,pK,OR,aA,ey,?_,?_,nN.out,⟨?_,?_,?_⟩,rfl⟩
  ·rw[zM,oJ];show 1+(xO (3 :: uY n).length+0)=2
   rw[av_,yF,xI5]
  ·rw[oJ];simp
  ·have h9:=(xJ8 sha HF.inv (by have:=HF.gen;omega)).2;rw[<-hJ]at h9;have:=HF.gen;omega
  ·rw[hJ];exact ad_ HF.first (by decide)
  ·rw[oJ];simp
 have aS:=h_ bN;clear dq pG bV OR wG CP BV Ky gJ cY lF bN tN;go_upto_region 18 with fail
 go_wp2;rw[<-da];go_ret2;exact aS.out
end
section
attribute [local go_sem ↓] qj uI uL
attribute [local go_sem] xCb xBu zn zu yx yw xh xf xa x9 xu xv xk xj xq xx xt
theorem xOv {w}(ob s)(hs:s.length<=1000)(h:w.heap[ob]?=some (.cells #[.string (str s)] 107 (0,0))):
  Calls prog 341 #[.pointer (some ⟨ob,0,none⟩)] w λe w'=>Below w.heap.size w w'/\∃u,e=.returned u/\OwnB w' w.heap.size u ([4]++(beB 4 s.length++s)):=by
 obtain⟨b,hb⟩:∃b,b=w.heap.size:=⟨_,rfl⟩;obtain⟨w1,ai⟩:∃w1,w1=w.alloc (.cells #[.slice none 0 0] 132):=⟨_,rfl⟩;have aa:Below b w w1:=by rw[ai,hb];exact b_ _ _
 have lK:WrAt b w1 b []:=⟨aa_ _,_,by rw[ai,hb];exact heap_alloc_new w _,OwnB.nil _ _⟩;have HW:=h_ (vt lK 4 (by simp));have ar:=h_ aa;have HO:=h_ h;have HS:=h_ hs;have eD:=h_ hb;have U5:Hid (ob<b):=h_ (by rw[hb];exact(i_ h).1);rw[<-hb];clear h hs aa lK;have tX:((4:UInt8).toNat:Int)=4:=rfl;have aK:(#[Value.slice none 0 0].size==1)=true:=rfl;have gK:xy 1 #[Value.slice none 0 0]=true:=by simp[xy,Value.oneCell']
 rw[tX]at HW;go_enter func341,ntmps341;go_upto_region 2 with fail
 refine xr ai ?_;rw[<-hb];clear ai hb;go_wp2_with fail;refine HW.mono ?_;rintro e w2 ⟨rfl,aj,aw⟩;have au:=h_ (ar.trans aj);have dX:=(au.block ob U5.out).trans HO.out;have c2:=cell_of_row w2 ob 0 _ _ _ dX;simp only[v_]at c2;have HT:=h_ (zC aw s (by have:=HS.out;omega) (by simp));clear aj aw dX HW;go_wp2_with fail;refine HT.mono ?_;rintro e w3 ⟨rfl,al,cU,v,hr,ho⟩;have hall:([]:By)++[4]++beB 4 s.length++s=[4]++(beB 4 s.length++s):=by simp
 rw[hall]at ho;have c3:=cell_of_row w3 b 0 _ _ _ hr;simp only[v_]at c3;have HF:=h_ (And.intro (au.trans al) ho);clear al cU hr ho hall HT c2;go_wp2;go_ret;exact⟨HF.1,v,rfl,HF.2⟩
def ke (b nb:Nat)(c:PC)(w:World)(e:Ending)(w':World):Prop:=e=.returned (.int .i64 0)/\Below b w w'/\∃x',zv b w' x'/\x'.pc=c/\w'.heap[nb]?=some (.cells (xN x') 70 (0,0))
theorem qB.lt {b c1 c2 c3 w x}(h:qB b c1 c2 c3 w x):b<=w.heap.size:=ad_ h.h.pB (bB_ h.h.lt.1)
theorem st_ne {w:World}{nb:Nat}{cs fz}(h:w.heap[nb]?=some (.cells cs 70 fz)){M es c}(hm:w.heap[M]?=some (.map es c)):nb≠M:=λe=>by rw[e,hm]at h;cases h
theorem xRn {b c1 c2 c3 w x}(h:qB b c1 c2 c3 w x)(ht:x.t.g=none)(nb)(hn:w.heap[nb]?=some (.cells (xN x) 70 (0,0)))(hG:Gl w)(ob k)(hk:k.size<=maxLen)(hne:uw k=0)(ho:w.heap[ob]?=some (.cells #[.string k] 107 (0,0))):
  Calls prog 340 #[.pointer (some ⟨ob,0,none⟩),.pointer (some ⟨nb,0,none⟩)] w (ke b nb { x.pc with tc:=some (k,0,false) } w):=by
 have bD:Below w.heap.size w w.drew:=(ab_ _ _).drew;have HC:=h_ (xYt (h.t.below bD) ht k (hG.later bD) hk hne);have J5:=cell_of_row w nb 2 _ _ _ hn;have o0:=cell_of_row w ob 0 _ _ _ ho;simp only[xN,v_]at J5 o0;have z0:∀z:x8 w,z.1.cell? ⟨nb,2,none⟩=some (.pointer (some ⟨x.t.p,0,none⟩)):=λz=>z.cell J5
 have z1:∀z:x8 w,z.1.cell? ⟨ob,0,none⟩=some (.string k):=λz=>z.cell o0
 have H:=h_ h;have HN:=h_ hn;clear h ht hn hG hk hne ho bD J5 o0;go_enter func340,ntmps340;go_upto_region 1 with fail
 refine xp [0,1,2,3,4,5,6,7] [8,9] (λw'=>∃z:x8 w,w'=z.1) (by kernel_rfl) (by kernel_rfl) (by kernel_rfl) ⟨⟨w.drew,(ab_ _ _).drew⟩,rfl⟩ ?_;simp only[o_]
 repeat (go_big_quiet_step (fail))
 refine wpQuiet_nil ?_;clear z0 z1;refine xB [8,9] _ _ (by kernel_rfl) ?_;simp only[o_];go_wp2_with fail;refine HC.mono ?_;rintro e w1 ⟨rfl,hk1,g,mc,du,hg2,fo,aB⟩;have bD:Below w.heap.size w w.drew:=(ab_ _ _).drew;have df:Kept [x.t.M] w w1:=(Kept.of_below (F:=[x.t.M]) bD).trans hk1 (λq hq=>.inl hq);have hMb:=H.t.MB;have CI:x.t.M<c3:=H.tl _ (by simp[Tbl.foot]);have e1:=H.b1;have e2:=H.b2;have e3:=H.b3
 have hF:Hid (ke b nb { x.pc with tc:=some (k,0,false) } w (.returned (.int .i64 0)) w1):=h_ (by
  refine⟨rfl,df.below H.lt (λq hq=>by rw[ac_.1 hq];omega),{ x with t:=⟨x.t.p,x.t.M,mc,some g⟩ },⟨?_,?_,aB.base (by omega),?_⟩,?_,?_⟩
  ·exact H.h.kept df (λq hq hm=>by have:=H.hl q hq;rw[ac_.1 hm]at this;omega)
  ·exact(H.s.kept df (λq hq hm=>by have:=H.sl q hq;rw[ac_.1 hm]at this;omega)).base e1
  ·exact(H.o.kept df (λq hq=>by rw[ac_.1 hq];exact CI)).base (by omega)
  ·unfold Prt.pc Tbl.c;simp only[aU_,du,hg2,fo];rfl
  ·exact(df.block _ (i_ HN.out).1 (λhm=>st_ne HN.out H.t.map (ac_.1 hm))).trans HN.out)
 clear hk1 du hg2 fo aB bD df hMb CI e1 e2 e3 HC;go_wp2;refine ag_ ?_;go_wp2;go_ret;exact hF.out
end
section
def xGq (B0 b nb:Nat)(c:PC)(Ap:World->Prop)(w:World)(e:Ending)(w':World):Prop:=e=.returned (.int .i64 0)/\Below B0 w w'/\(∃x',zv b w' x'/\x'.pc=c/\w'.heap[nb]?=some (.cells (xN x') 70 (0,0)))/\Ap w'
def xTu (D sb p n q u:Nat)(w0:World)(c:PC)(F:List Nat)(Ap:World->Prop)(w:World)(e:Ending)(w':World):Prop:=e=.returned (.int .i64 0)/\Below D w w'/\Kept F w0 w'/\∃W,Ap W/\w0.heap.size<=W.heap.size/\(∃F',StOk D w' sb p n q u c F'/\∀k∈F',k∈F\/W.heap.size<=k)/\W.heap.size<=w'.heap.size/\∀k,w0.heap.size<=k->k<W.heap.size->w'.heap[k]?=W.heap[k]?
theorem xUn {w g z a b c d}{t:TypeId}(h:w.heap[g]?=some (.cells #[z,a,b,c,d] t (0,0))):xo w ⟨g,1,none⟩ 4=true/\xm w ⟨g,1,none⟩ 4=#[a,b,c,d]:=
 xW (w:=w) (a:=⟨g,1,none⟩) (cs:=[a,b,c,d]) (λj u hj=>by
  rw[an_,cell_of_row w g (1+j) _ _ _ h,ah_,ed_ 1 j,ay_];exact hj)
theorem yE7 (w g z a b c d a' b' c' d')(t:TypeId)(h:w.heap[g]?=some (.cells #[z,a,b,c,d] t (0,0)))(ha:a'.oneCell'=true)(hb:b'.oneCell'=true)(hc:c'.oneCell'=true)(hd:d'.oneCell'=true):
  yi prog 70 w (.pointer (some ⟨g,1,none⟩)) (.agg #[a',b',c',d'])=.ok .skip (w.setRow g #[z,a',b',c',d']):=
 k8 sizeOf70 w g 1 [z,a,b,c,d] t h [a',b',c',d'] rfl (by simp) (λv hv=>by
  simp only[ae_,ch_,or_false]at hv;rcases hv with rfl|rfl|rfl|rfl <;> assumption)
attribute [local go_sem ↓] qm uJ uN kZ jT
attribute [local go_sem] xCc xBv xP4 xOa zn zu yx yw xh xf xa x9 xu xv xk xj xq xx xt
theorem jK {D w sb b v d j ev sy x B T}(h:StAt D w sb b v d j ev sy x B T):Calls prog 13 #[.pointer (some ⟨sb,0,none⟩)] w λe w'=>e=.returned (.int .i64 0)/\w=w':=by
 have c0:=cell_of_row w sb 0 _ _ _ h.blk;simp only[v_]at c0;obtain⟨e1,Uz,tL,_⟩:=h.jat.ex;have HF:=h_ (kS tL);clear h tL;go_enter func13,ntmps13;go_wp2_with fail;refine HF.mono ?_;rintro e w' ⟨rfl,rfl⟩;go_wp2;go_ret;exact⟨rfl,rfl⟩
abbrev xNv (fa fe:FuncId)(ty:TypeId):Prop:=∀{D sb p n q u:Nat} {c:PC} {F:List Nat} {w0 w:World} (_:StOk D w0 sb p n q u c F) (_:Below w0.heap.size w0 w) (_:Gl w) (_:prog.globals.size<=D) (_:D<=w0.heap.size) (ob:Nat) (c':PC) (y:By) (Ap:World->Prop) (_:1<=y.length) (_:y.length<=50000) (_:u+xO (y.length+1)<=n/2)
  (_:∀(W:World) (b c1 c2 c3:Nat) (x:Prt) (nb:Nat),Below w.heap.size w W->w.heap.size<=b->qB b c1 c2 c3 W x->(∀k,k∈x.h.foot\/k∈x.s.foot\/k∈x.t.foot\/k∈foot x.ib x.M x.gs->k<nb)->x.pc=c->W.heap[nb]?=some (.cells (xN x) 70 (0,0))->Calls prog fa #[.pointer (some ⟨ob,0,none⟩),.pointer (some ⟨nb,0,none⟩)] W (xGq w0.heap.size b nb c' Ap W))
  (_:∀W W':World,Ap W->Below W.heap.size W W'->Calls prog fe #[.pointer (some ⟨ob,0,none⟩)] W' λe w'=>Below W'.heap.size W' w'/\∃v,e=.returned v/\OwnB w' W'.heap.size v y),
  Calls prog 34 #[.pointer (some ⟨sb,0,none⟩),.iface ty (.pointer (some ⟨ob,0,none⟩))] w (xTu D sb p n q (u+xO (y.length+1)) w0 c' F Ap w)
theorem xC3:xNv 340 341 105/\xNv 324 325 94/\xNv 318 319 89:=by
 refine⟨?_,?_,?_⟩
 all_goals
  intro D sb p n q u c F w0 w h bf hG cK hD ob c' y Ap nR iL aC cN bS;obtain⟨b,v,d,j,ev,sy,x,B,T,fw,hp,hn,aN,hu,eK,aH,FL,rfl⟩:=h;have HQ:=h_ FL;have ax:=fw.below bf;have Bs:=h_ (jK ax);have wT:=ax.prt.at;have bF:=h_ (xGw wT);obtain⟨I0,KJ⟩:=xUn ax.blk;have ee:=h_ fw;have aO:=h_ ax;have db:=h_ bf;have HG:=h_ hG;have HD:=h_ (And.intro cK hD);have HY:=h_ (And.intro nR (And.intro iL aC));have oR:=h_ cN;have tv:=h_ bS;have HX:=h_ (And.intro hp (And.intro hn (And.intro aN (And.intro hu (And.intro eK aH)))));have pq:Hid (sb<w0.heap.size):=h_ (i_ fw.blk).1;have iY:Hid (∀k∈yQ b v ev,D<=k/\k<w0.heap.size):=h_ fw.jlt;have aJ:xN x=#[.pointer (some ⟨x.h.p,0,none⟩),.pointer (some ⟨x.s.p,0,none⟩),.pointer (some ⟨x.t.p,0,none⟩),.pointer (some ⟨x.ib,0,none⟩)]:=rfl;rw[aJ]at bF;have DR:(zL.size==4)=true:=rfl;clear fw bf hG cK hD nR iL aC cN bS hp hn aN hu eK aH FL ax wT aJ;go_enter func34,ntmps34;go_wp2_with fail;refine Bs.mono ?_;rintro e w' ⟨rfl,rfl⟩;go_wp2_with fail
  refine bF.mono ?_;rintro e w1 ⟨aa,x1,c1,c2,c3,rfl,bL,oS⟩;have aJ:xN x1=#[.pointer (some ⟨x1.h.p,0,none⟩),.pointer (some ⟨x1.s.p,0,none⟩),.pointer (some ⟨x1.t.p,0,none⟩),.pointer (some ⟨x1.ib,0,none⟩)]:=rfl;have bJ:xy 4 #[Value.pointer (some ⟨x1.h.p,0,none⟩),.pointer (some ⟨x1.s.p,0,none⟩),.pointer (some ⟨x1.t.p,0,none⟩),.pointer (some ⟨x1.ib,0,none⟩)]=true:=jj _ _ _ _ rfl rfl rfl rfl;rw[aJ];obtain⟨w2,aw⟩:∃w2,w2=w1.alloc (.cells #[.pointer (some ⟨x1.h.p,0,none⟩),.pointer (some ⟨x1.s.p,0,none⟩),.pointer (some ⟨x1.t.p,0,none⟩),.pointer (some ⟨x1.ib,0,none⟩)] 70):=⟨_,rfl⟩;have ak:Below w1.heap.size w1 w2:=by rw[aw];exact b_ _ _
  have aA:w2.heap[w1.heap.size]?=some (.cells (xN x1) 70 (0,0)):=by rw[aw];exact heap_alloc_new w1 _
  have cS:=aa.trans (ak.mono aa.size);have iT:=h_ cS;have Da:Hid (w.heap.size<=w1.heap.size):=h_ aa.size;have bQ:Hid (w1.heap.size<w2.heap.size):=h_ (i_ aA).1;have HA:=h_ (oR.out w2 w.heap.size c1 c2 c3 x1 w1.heap.size cS (aa_ _) (bL.below ak) bL.feet (oS.trans HX.2.2.2.2.2) aA);clear aa bL oS aJ ak aA cS bF I0 KJ;go_upto_region 5 with fail
  refine xr aw ?_;clear aw;go_wp2_with fail;refine HA.mono ?_;rintro e w3 ⟨rfl,al,⟨x3,ld,BW,bK⟩,rP⟩;have BX:w0.heap.size<=w.heap.size:=db.size;have lM:Below w0.heap.size w0 w3:=db.trans ((iT.mono BX).trans al);have gO:StAt D w3 sb b v d j ev sy x B T:=ee.below lM;have CF:=cell_of_row w3 sb 0 _ _ _ gO.blk;simp only[v_]at CF;have z0:∀z:x8 w3,z.1.cell? ⟨sb,0,none⟩=some (.pointer (some ⟨b,0,none⟩)):=λz=>z.cell CF
  have bD:Below w3.heap.size w3 w3.drew:=(ab_ _ _).drew;have eB:=h_ (tv.out w3 w3.drew rP bD);have ay:=h_ lM;have pf:=h_ (And.intro ld (And.intro BW (And.intro bK rP)));have ej:=h_ gO;have OS:Hid (w2.heap.size<=w3.heap.size):=h_ al.size;have nI:=h_ al;clear al ld BW bK rP BX lM gO CF bD HA;go_upto_region 8 with fail
  refine xp [0,1,2,3,4] [5,6,7] (λw'=>∃z:x8 w3,w'=z.1) (by kernel_rfl) (by kernel_rfl) (by kernel_rfl) ⟨⟨w3.drew,(ab_ _ _).drew⟩,rfl⟩ ?_;simp only[o_]
  repeat (go_big_quiet_step (fail))
  refine wpQuiet_nil ?_;clear z0;refine yb true (by kernel_rfl) (by kernel_rfl) ?_;simp only[o_];go_wp2_with fail;refine eB.mono ?_;rintro e w4 ⟨aQ,yv,rfl,ae⟩;obtain⟨yg,yc,Ip,FM,CV,FN⟩:∃g cap,yv=.slice (some ⟨g,0,none⟩) y.length cap/\y.length<=cap/\g<w4.heap.size/\SlB w4 ⟨g,0,none⟩ y:=by
   rcases ae.at with⟨_,h⟩|⟨g,cap,h1,h2,h3,h4,h5⟩
   ·have:=HY.1;rw[h]at this;exact absurd this (by simp)
   ·exact⟨g,cap,h1,h3,(ae.lt (k:=g) (by rw[h1];rfl)).2,h5⟩
  subst Ip;have cm:Below w3.heap.size w3 w4:=⟨aQ.os,aQ.tape,aQ.output,aQ.size,aQ.block⟩;have mR:Below w0.heap.size w0 w4:=ay.trans (cm.mono ay.size);have cO:=ej.below cm;have oQ:=cO.jat;have BY:D<=w.heap.size:=ad_ HD.2 db.size;have tY:Below D w w4:=((iT.mono BY).trans (nI.mono HD.2)).trans (cm.mono (ad_ HD.2 ay.size));have hyl:=HY.1;have OT:=h_ tY;have HW:=h_ (xBt oQ (jp (HG.below tY HD.1)) y ⟨yg,0,none⟩ yc FN CV FM hyl (by have:=HY.2.1;omega) (by rw[HX.2.2.2.1,HX.2.1];exact HY.2.2) (by rw[HX.2.2.1];have h1:=HY.2.2;have h2:=oQ.dev.n2;rw[HX.2.1]at h2;simp;omega) (by have h1:=HX.2.2.2.2.1;have h3:=HY.2.2;have h2:=oQ.dev.n2;rw[HX.2.1]at h2;omega) (ad_ HD.2 mR.size));have BG:=h_ cm;have D7:=h_ mR;have em:=h_ cO;have I1:Hid (w3.heap.size<=w4.heap.size):=h_ cm.size;go_wp2;refine⟨λ_=>⟨⟨w4,cm⟩,rfl⟩,xB [6,7] _ _ (by kernel_rfl) ?_⟩;simp only[o_];clear aQ ae FM CV FN cm mR cO oQ BY tY hyl eB;go_wp2_with fail;refine HW.mono ?_;rintro e w5 ⟨rfl,e_,v5,BZ,Fo,CK,sB,OU,B1⟩;obtain⟨d5,nL⟩:∃d5,d5=(d.puts (j.area*(d.n/2)+(j.secs sha).length) (yk sha (j.body (3 :: y)))).1:=⟨_,rfl⟩;rw[<-nL]at sB;have tZ:=(e_.block sb (by have:=pq.out;have:=ay.size;have:=I1.out;omega) (λhm=>em.sbj hm)).trans em.blk
  have c5:=cell_of_row w5 sb 0 _ _ _ tZ;simp only[v_]at c5;have oT:(j.add (3 :: y)).entries.length=j.entries.length+1:=by simp[PJ.add]
  have OQ:=h_ (xN3 sB (by rw[oT];have h1:=HX.2.2.2.2.1;have h3:=HY.2.2;have h2:=em.jat.dev.n2;rw[HX.2.1]at h2;omega));have HD5:=h_ nL;have EB:=h_ e_;have rC:=h_ (And.intro Fo (And.intro CK (And.intro OU B1)));have U6:=h_ tZ;have OV:=h_ oT;clear e_ Fo CK sB OU B1 nL tZ oT HW;go_wp2;refine ag_ ?_;go_wp2_with fail;refine OQ.mono ?_;rintro e w6 ⟨rfl,dq,v6,Yx,OR,wG,pG,CP⟩;obtain⟨cs,aJ⟩:∃cs,cs=xN x3:=⟨_,rfl⟩;have KK:w0.heap.size<=w.heap.size:=db.size;have Ad:=Da.out;have sk:=bQ.out;have A8:=OS.out;have U1:=I1.out;have NT:w4.heap.size<=w5.heap.size:=EB.size;have Ky:w5.heap.size<=w6.heap.size:=dq.size;have I2:∀k∈v5.foot,k<w0.heap.size\/w4.heap.size<=k:=λk hk=>by
   rcases rC.2.2.1 k hk with h|h
   ·exact .inl (iY.out k (by simp[yQ,h])).2
   ·exact .inr h
  have aG:b<w0.heap.size:=(iY.out b (by simp[yQ])).2;have I3:∀k∈b :: (v.foot++ev),k<w0.heap.size:=λk hk=>(iY.out k hk).2
  have Yy:∀k∈b :: v5.foot,k<w0.heap.size\/w4.heap.size<=k:=λk hk=>by
   rcases ae_.1 hk with rfl|hk
   ·exact .inl aG
   ·exact I2 k hk
  have dF:∀k,w0.heap.size<=k->k<w3.heap.size->w6.heap[k]?=w3.heap[k]?:=λk h1 h2=>by
   rw[dq.block k (by omega) (λhm=>by rcases Yy k hm with h|h <;> omega),EB.block k (by omega) (λhm=>by have:=I3 k hm;omega),BG.block k h2]
  have gJ:w6.heap[w1.heap.size]?=some (.cells cs 70 (0,0)):=by rw[dF _ (by omega) (by omega),aJ];exact pf.2.2.1
  have I4:=(dq.block sb (by have:=pq.out;omega) (λhm=>by
   rcases ae_.1 hm with h|h
   ·exact em.sbj (by simp[yQ,h])
   ·rcases rC.2.2.1 sb h with h|h
    ·exact em.sbj (by simp[yQ,h])
    ·have:=pq.out;omega)).trans U6.out
  have OW:cs=#[.pointer (some ⟨x3.h.p,0,none⟩),.pointer (some ⟨x3.s.p,0,none⟩),.pointer (some ⟨x3.t.p,0,none⟩),.pointer (some ⟨x3.ib,0,none⟩)]:=aJ;rw[OW]at gJ;obtain⟨o6,r6⟩:=xD (n:=4) gJ rfl;have ax:=yE7 w6 sb _ _ _ _ _ _ _ _ _ _ I4 (rfl:(Value.pointer (some ⟨x3.h.p,0,none⟩)).oneCell'=true) (rfl:(Value.pointer (some ⟨x3.s.p,0,none⟩)).oneCell'=true) (rfl:(Value.pointer (some ⟨x3.t.p,0,none⟩)).oneCell'=true) (rfl:(Value.pointer (some ⟨x3.ib,0,none⟩)).oneCell'=true);obtain⟨w7,da⟩:∃w7,w7=w6.setRow sb #[.pointer (some ⟨b,0,none⟩),.pointer (some ⟨x3.h.p,0,none⟩),.pointer (some ⟨x3.s.p,0,none⟩),.pointer (some ⟨x3.t.p,0,none⟩),.pointer (some ⟨x3.ib,0,none⟩)]:=⟨_,rfl⟩;rw[<-da]at ax;have f_:Kept [sb] w6 w7:=by rw[da];exact qL w6 sb _
  have lF:w7.heap[sb]?=some (.cells #[.pointer (some ⟨b,0,none⟩),.pointer (some ⟨x3.h.p,0,none⟩),.pointer (some ⟨x3.s.p,0,none⟩),.pointer (some ⟨x3.t.p,0,none⟩),.pointer (some ⟨x3.ib,0,none⟩)] 88 (0,0)):=by rw[da];exact setRow_heap _ _ _ _ _ _ I4
  have I5:=pq.out;have BV:∀k∈BZ,k<w0.heap.size\/w4.heap.size<=k:=λk hk=>by
   rcases rC.2.2.2 k hk with h|h
   ·exact .inl (iY.out k (by simp[yQ,h])).2
   ·exact .inr h
  have oU:∀k∈yQ b v6 BZ,k≠sb:=λk hk e=>by
   subst e;simp only[yQ,ae_,aj_]at hk;have bp:∀q∈yQ b v ev,q≠k:=λq hq e=>em.sbj (e▸hq)
   rcases hk with h|h|h
   ·exact bp b (by simp[yQ]) h.symm
   ·rcases CP k h with h|h
    ·rcases rC.2.2.1 k h with h|h
     ·exact bp k (by simp[yQ,h]) rfl
     ·omega
    ·omega
   ·rcases rC.2.2.2 k h with h|h
    ·exact bp k (by simp[yQ,h]) rfl
    ·omega
  have Rn:∀k∈yQ b v6 BZ,k<w0.heap.size\/w4.heap.size<=k:=λk hk=>by
   simp only[yQ,ae_,aj_]at hk;rcases hk with h|h|h
   ·exact .inl (h▸aG)
   ·rcases CP k h with h|h
    ·exact I2 k h
    ·exact .inr (by omega)
   ·exact BV k h
  have KI:=pG.kept f_ (λk hk=>by
   rw[ac_.1 hk];exact⟨λe=>oU b (by simp[yQ]) e.symm,λh=>oU sb (by simp[yQ,h]) rfl,λh=>oU sb (by simp[yQ,h]) rfl⟩)
  have ry:jI w.heap.size w3.heap.size w7 x3:=by
   refine jI.kept (F:=[sb]) (w:=w6) ?_ f_ (by omega) (λk hk=>by rw[ac_.1 hk];exact .inl (by omega));exact λW hW=>pf.1.in W (λk h1 h2=>(hW k h1 h2).trans (dF k (by omega) h2))
  have OX:Below D w w7:=by
   have a1:Below D w4 w5:=EB.below (by have:=HD.2;omega) (λk hk=>(iY.out k hk).1)
   have a2:Below D w5 w6:=dq.below (by have:=HD.2;omega) (λk hk=>by
    rcases ae_.1 hk with rfl|h
    ·exact(iY.out _ (by simp[yQ])).1
    ·rcases rC.2.2.1 k h with h|h
     ·exact(iY.out k (by simp[yQ,h])).1
     ·have:=HD.2;omega)
   have a3:Below D w6 w7:=f_.below (by have:=HD.2;omega) (λk hk=>by rw[ac_.1 hk];exact em.sbD);exact((OT.trans a1).trans a2).trans a3
  have At:StAt D w7 sb b v6 d5.flushed (j.add (3 :: y)) BZ Yx x3 w.heap.size w3.heap.size:=
   ⟨lF,KI,ry,by have:=f_.size;omega,λk hk=>(Rn k hk).imp (λh=>by omega) (λh=>by omega),λh=>oU sb h rfl,.inl (by omega),em.sbD,by have:=HD.2;omega⟩
  have bZ:xO (y.length+1)=xO (3 :: y).length:=by rw[av_]
  have n9:((j.add (3 :: y)).secs sha).length=u+xO (y.length+1):=by
   rw[zM,bZ,<-HX.2.2.2.1,zM];show 1+jF (j.entries++[3 :: y])=_
   unfold jF;rw[bl_,eh_];simp only[au_,cq_,cb_,List.sum_nil];omega
  have iB:d5.flushed.n=n:=by
   have h1:d5.n=d.n:=by
    rw[HD5.out];refine(JInv.add sha yZ em.jat.inv em.jat.up (3 :: y) (by rw[av_];have:=HY.2.1;omega) ?_ ?_).2.2.1
    ·have h1:=HX.2.2.2.2.1;have h3:=HY.2.2;have h2:=em.jat.dev.n2;rw[HX.2.1]at h2;omega
    ·rw[<-bZ,HX.2.2.2.1,HX.2.1];exact HY.2.2
   exact(xGc d5).trans (h1.trans HX.2.1)
  have mw:1<=xO (y.length+1):=by unfold xO;omega
  have oP:Kept (sb :: yQ b v ev) w0 w7:=by
   have a0:Kept (sb :: yQ b v ev) w0 w4:=Kept.of_below D7.out;have a1:Kept (sb :: yQ b v ev) w0 w5:=a0.trans EB.out (λq hq=>.inl (aY_ _ hq))
   have a2:Kept (sb :: yQ b v ev) w0 w6:=a1.trans dq (λq hq=>by
    rcases ae_.1 hq with rfl|h
    ·exact .inl (by simp[yQ])
    ·rcases rC.2.2.1 q h with h|h
     ·exact .inl (by simp[yQ,h])
     ·exact .inr (by omega))
   exact a2.trans f_ (λq hq=>.inl (by rw[ac_.1 hq];simp))
  have nU:∀k∈sb :: yQ b v6 BZ,k∈sb :: yQ b v ev\/w3.heap.size<=k:=λk hk=>by
   rcases ae_.1 hk with rfl|hk
   ·exact .inl (by simp)
   ·simp only[yQ,ae_,aj_]at hk;rcases hk with rfl|h|h
    ·exact .inl (by simp[yQ])
    ·rcases CP k h with h|h
     ·rcases rC.2.2.1 k h with h|h
      ·exact .inl (by simp[yQ,h])
      ·exact .inr (by omega)
     ·exact .inr (by omega)
    ·rcases rC.2.2.2 k h with h|h
     ·exact .inl (by simp[yQ,h])
     ·exact .inr (by omega)
  have aS:Hid (xTu D sb p n q (u+xO (y.length+1)) w0 c' (sb :: yQ b v ev) Ap w (.returned (.int .i64 0)) w7):=h_
   ⟨rfl,OX,oP,w3,pf.2.2.2,ay.size,⟨_,⟨b,v6,d5.flushed,j.add (3 :: y),BZ,Yx,x3,_,_,At,OR.trans (rC.1.trans HX.1),iB,rfl,n9,by rw[OV.out];have:=HX.2.2.2.2.1;omega,pf.2.1,⟨HQ.1,HQ.2.1,by rw[OV.out];omega⟩,rfl⟩,nU⟩,by have:=f_.size;omega,λk h1 h2=>(f_.block k (by omega) (λhm=>by rw[ac_.1 hm]at h1;omega)).trans (dF k h1 h2)⟩
  clear dq OR wG pG CP KK Ad sk A8 U1 NT Ky I2 aG I3 Yy dF gJ OW aJ f_ lF I5 BV oU Rn KI ry OX At bZ n9 iB mw oP nU I4 OQ;go_wp2;go_ret;rw[<-da];exact aS.out
theorem xOr:xNv 340 341 105:=xC3.1
theorem xC2:xNv 324 325 94:=xC3.2.1
theorem xH4:xNv 318 319 89:=xC3.2.2
end
def xQi (D sb p n q u:Nat)(c:PC)(F:List Nat)(w:World)(e:Ending)(w':World):Prop:=e=.returned (.int .i64 0)/\Below D w w'/\Kept F w w'/\∃F',StOk D w' sb p n q u c F'/\∀k∈F',k∈F\/w.heap.size<=k
theorem xO8 {D sb p n q u c F w}(h:StOk D w sb p n q u c F)(ht:c.tc=none)(hG:Gl w)(cK:prog.globals.size<=D)(hD:D<=w.heap.size)(s)(hs:s.length<=1000)(hne:uw (str s)=0)(aC:u+xO (s.length+6)<=n/2):
  Calls prog 20 #[.pointer (some ⟨sb,0,none⟩),.string (str s)] w (xQi D sb p n q (u+xO (s.length+6)) { c with tc:=some (str s,0,false) } F w):=by
 obtain⟨w1,ai⟩:∃w1,w1=w.alloc (.cells #[.string (str s)] 107):=⟨_,rfl⟩;have aa:Below w.heap.size w w1:=by rw[ai];exact b_ _ _
 have az:w1.heap[w.heap.size]?=some (.cells #[.string (str s)] 107 (0,0)):=by rw[ai];exact heap_alloc_new w _
 have dG:=(i_ az).1;have hyl:([4]++(beB 4 s.length++s):By).length+1=s.length+6:=by simp[xe];omega
 have HP:=h_ (xOr h aa (hG.later aa) cK hD w.heap.size { c with tc:=some (str s,0,false) } ([4]++(beB 4 s.length++s)) (λW=>W.heap[w.heap.size]?=some (.cells #[.string (str s)] 107 (0,0))) (by simp) (by omega) (by rw[hyl];exact aC)
  (λW b c1 c2 c3 x nb dD hle bL _ aH eF=>by
   have B2:=(dD.block _ dG).trans az;have sZ:x.t.g=none:=by
    have h1:x.t.c=none:=(congrArg PC.tc aH).trans ht;unfold Tbl.c at h1;simpa using h1
   refine(xRn bL sZ nb eF ((hG.later aa).later dD) w.heap.size (str s) (by rw[yD];unfold maxLen;omega) hne B2).mono ?_;rintro e w'⟨h1,h2,h3⟩;refine⟨h1,h2.mono (ad_ aa.size hle),?_,(h2.block _ (ap_ dG hle)).trans B2⟩;rw[aH]at h3;exact h3)
  (λW W' cN dD=>xOv w.heap.size s hs ((dD.block _ (i_ cN).1).trans cN)))
 rw[hyl]at HP;have ar:=h_ (aa.mono hD);clear h ht hG cK hD hs hne aC aa az dG hyl;go_enter func20,ntmps20;go_wp2_with fail;rw[<-ai];refine HP.mono ?_;rintro e w2 ⟨rfl,aj,hk,W,_,I6,⟨F',gQ,nU⟩,_⟩;have ax:∃F',StOk D w2 sb p n q (u+xO (s.length+6)) { c with tc:=some (str s,0,false) } F'/\∀k∈F',k∈F\/w.heap.size<=k:=⟨F',gQ,λk hk=>(nU k hk).imp_right (λh=>ad_ I6 h)⟩;have HF:=h_ (And.intro (ar.trans aj) (And.intro hk ax));clear aj ax hk ai gQ nU I6;go_wp2;go_ret;exact⟨rfl,HF.1,HF.2.1,HF.2.2⟩
section
attribute [local go_sem ↓] qj uI uL xL xI
attribute [local go_sem] xCb xBu zm zA zn zu yx yw xh xf xa x9 xu xv xk xj xq xx xt
def WbC (b:Nat)(v:Value):Type:={ z:World // z.heap[b]?=some (.cells #[v] 132 (0,0)) }
theorem WbC.cell {b v}(z:WbC b v):z.1.cell? ⟨b,0,none⟩=some v:=cell_of_row _ _ 0 _ _ _ z.2
theorem xO4 {B w b l}(h:WrAt B w b l)(id)(hl:l.length<=1000000):
  Calls prog 322 #[.pointer (some ⟨b,0,none⟩),.agg (xl id).toArray] w λe w'=>e=.returned (.tuple #[])/\Below B w w'/\WrAt B w' b (l++id.1):=by
 obtain⟨hB,v,hr,ho⟩:=h;obtain⟨va,vn,vc,hv⟩:=uA ho;have aG:=(i_ hr).1;obtain⟨w1,ai⟩:∃w1,w1=w.alloc (.cells (xl id).toArray 33):=⟨_,rfl⟩;have aa:Below w.heap.size w w1:=by rw[ai];exact b_ _ _
 have aK:SlB w1 ⟨w.heap.size,0,none⟩ id.1:=by rw[ai];exact vi w 33 id.1
 have cd:=(ho.below aa);have aV:=(aa.block _ aG).trans hr;have z0:∀z:WbC b v,z.1.cell? ⟨b,0,none⟩=some v:=λz=>z.cell
 haveI:Nonempty (WbC b v):=⟨⟨w1,aV⟩⟩
 have ew:Hid (OwnB w1.drew B v l):=h_ (cd.below (ab_ _ _).drew);have bW:Hid (SlB w1.drew ⟨w.heap.size,0,none⟩ id.1):=h_ ⟨λq x hq=>aK.cell q x hq⟩;have iw:Hid (w1.drew.heap[b]?=some (.cells #[v] 132 (0,0))):=h_ aV;have ar:Hid (Below B w w1.drew):=h_ ((aa.mono (by omega)).drew);have eX:Hid (B<=w1.drew.heap.size):=h_ (by have:=aa.size;show B<=w1.heap.size;omega);have dw:Hid (l.length+id.1.length<=1000000000000):=h_ (by rw[id.2];omega);have HB:=h_ hB;have QK:=h_ id.2;subst hv;clear hB hr ho aG aa aK cd hl;go_enter func322,ntmps322;go_upto_region 1 with fail
 refine xr ai ?_;clear ai;refine xp [0,1,2,3,4,5] [6,7,8,9] (λw'=>∃z:WbC b (.slice va vn vc),w'=z.1) (by kernel_rfl) (by kernel_rfl) (by kernel_rfl) ⟨⟨w1.drew,aV⟩,rfl⟩ ?_;simp only[o_]
 repeat (go_big_quiet_step (fail))
 refine wpQuiet_nil ?_;clear z0;refine yb true (by kernel_rfl) (by kernel_rfl) ?_;simp only[o_];go_wp2_with (at_builtin;refine zw rfl (.tmp 8) (.tmp 9) rfl B _ l rfl ew.out ⟨w.heap.size,0,none⟩ id.1 32 (by rw[QK.out];rfl) bW.out dw.out eX.out ?_);intro v' w' cI hg _ _;obtain⟨a',n',c',fB⟩:=uA cI;obtain⟨aP,aj,aw⟩:=WrAt.put HB.out iw.out ew.out ar.out hg cI;subst fB;have f2:=frozen_of_row w' b 0 _ _ aP;have c2:=cell_of_row w' b 0 _ _ _ aP;simp only[v_]at c2;have HF:=h_ (And.intro aj aw);go_wp2;refine⟨λ_=>⟨⟨w',aP⟩,rfl⟩,xB [7,8,9] _ _ (by kernel_rfl) ?_⟩;clear cI hg aP aj aw aV;simp only[o_];go_wp2;refine ag_ ?_;go_wp2;go_end0;exact⟨rfl,HF.1,HF.2⟩
end
section
attribute [local go_sem ↓] qj uI uL xL xI qM qr jk vM
attribute [local go_sem] xCb xBu zm zA xE3 xDu xF7 xEi zn zu yx yw xh xf xa x9 xu xv xk xj xq xx xt
theorem xAv {w}(ob id)(h:w.heap[ob]?=some (.cells (xl id).toArray 96 (0,0))):
  Calls prog 325 #[.pointer (some ⟨ob,0,none⟩)] w λe w'=>Below w.heap.size w w'/\∃u,e=.returned u/\OwnB w' w.heap.size u ([3]++id.1):=by
 obtain⟨b,hb⟩:∃b,b=w.heap.size:=⟨_,rfl⟩;obtain⟨w1,ai⟩:∃w1,w1=w.alloc (.cells #[.slice none 0 0] 132):=⟨_,rfl⟩;have aa:Below b w w1:=by rw[ai,hb];exact b_ _ _
 have lK:WrAt b w1 b []:=⟨aa_ _,_,by rw[ai,hb];exact heap_alloc_new w _,OwnB.nil _ _⟩;have HW:=h_ (vt lK 3 (by simp));have ar:=h_ aa;have HO:=h_ h;have eD:=h_ hb;have U5:Hid (ob<b):=h_ (by rw[hb];exact(i_ h).1);rw[<-hb];clear h aa lK;have tX:((3:UInt8).toNat:Int)=3:=rfl;have aK:(#[Value.slice none 0 0].size==1)=true:=rfl;have gK:xy 1 #[Value.slice none 0 0]=true:=by simp[xy,Value.oneCell']
 rw[tX]at HW;go_enter func325,ntmps325;go_upto_region 2 with fail
 refine xr ai ?_;rw[<-hb];clear ai hb;go_wp2_with fail;refine HW.mono ?_;rintro e w2 ⟨rfl,aj,aw⟩;have au:=h_ (ar.trans aj);have dX:=(au.block ob U5.out).trans HO.out;obtain⟨o2,r2⟩:=yj dX;have HT:=h_ (xO4 aw id (by simp));clear aj aw dX HW;go_wp2_with fail;refine HT.mono ?_;rintro e w3 ⟨rfl,al,cU,v,hr,ho⟩;have hall:([]:By)++[3]++id.1=[3]++id.1:=by simp
 rw[hall]at ho;have c3:=cell_of_row w3 b 0 _ _ _ hr;simp only[v_]at c3;have HF:=h_ (And.intro (au.trans al) ho);clear al cU hr ho hall HT o2 r2;go_wp2;go_ret;exact⟨HF.1,v,rfl,HF.2⟩
def xC6 (g:ByteArray)(p:xDs):LF:=λt=>if t=g then [p]else []
theorem xXa {gs:List MG}{g p}(hn:(gs.map λG=>G.name).Nodup)(hs:∀G∈gs,G.ms≠[])(hl:lfOf gs=xC6 g p){ns}(ho:ordN ns)(hm:∀t,t∈ns↔∃G∈gs,G.name=t):ze gs ns p.id=[(g,p.number)]:=by
 have hg:(xA gs g).map (·.p)=[p]:=by
  have:=congrFun hl g;simpa[lfOf,xC6]using this
 have hne:xA gs g≠[]:=by intro e;rw[e]at hg;cases hg
 obtain⟨G,hG,_,_⟩:=kl hne;obtain⟨fh,Dr⟩:=yM hG;have hin:g∈ns:=(hm g).2 ⟨G,fh,Dr⟩;have hall:∀t∈ns,t=g:=λt ht=>by
  obtain⟨H,hH,rfl⟩:=(hm t).1 ht;have h1:xA gs H.name=H.ms:=by unfold xA;rw[xB2 hn hH]
  have h2:=congrFun hl H.name;unfold lfOf xC6 at h2;rw[h1]at h2;split at h2
  ·assumption
  ·exact absurd (bC_.1 h2) (hs H hH)
 have bZ:ns.Nodup:=ho.imp λ{a b} hab e=>by rw[e,xD4]at hab;omega
 have fm:ns=[g]:=by
  cases ns with
  |nil=>cases hin
  |cons t l=>
   have ht:t=g:=hall t (by simp);have nQ:l=[]:=by
    cases l with
    |nil=>rfl
    |cons u l=>
     have hu:u=g:=hall u (by simp);rw[ht,hu]at bZ;simp at bZ
   rw[ht,nQ]
 subst fm;unfold ze qE;obtain⟨m,lQ⟩:∃m,xA gs g=[m]:=by
  cases h:xA gs g with
  |nil=>exact absurd h hne
  |cons m l=>
   rw[h]at hg;cases l with
   |nil=>exact⟨m,rfl⟩
   |cons=>simp at hg
 rw[lQ]at hg;have hp:m.p=p:=by simpa using hg
 simp[lQ,hp]
def xNt (g:ByteArray)(n:Int)(w:World)(e:Ending)(w':World):Prop:=∃pb pc,e=.returned (.slice (some ⟨pb,0,none⟩) 1 pc)/\Below w.heap.size w w'/\1<=pc/\w'.cell? ⟨pb,0,none⟩=some (.string g)/\w'.cell? ⟨pb,1,none⟩=some (.int .i64 n)
theorem xUr (B ib M mc gs g p w)(hG:Gl w)(h:ye B w ib M gs mc)(hl:lfOf gs=xC6 g p):
  Calls prog 327 #[.pointer (some ⟨ib,0,none⟩),.agg (xl p.id).toArray] w (xNt g p.number w):=by
 obtain⟨w1,ai⟩:∃w1,w1=w.alloc (.cells (xl p.id).toArray 33):=⟨_,rfl⟩;have aa:Below w.heap.size w w1:=by rw[ai];exact b_ _ _
 have az:w1.heap[w.heap.size]?=some (.cells (xl p.id).toArray 33 (0,0)):=by rw[ai];exact heap_alloc_new w _
 obtain⟨o1,r1⟩:=yj az;have Fb:=h_ (xFx B ib M mc gs p.id w1 (hG.later aa) (h.below aa));have ar:=h_ aa;have HWO:Hid (∀ns,ordN ns->(∀t,t∈ns↔∃G∈gs,G.name=t)->ze gs ns p.id=[(g,p.number)]):=h_ (λns h1 h2=>xXa h.names (λG hG=>(h.grps G hG).some') hl h1 h2);obtain⟨i0,hi0,bd,aL,bk⟩:=info_parts Tryz.info_pla;have HI:=h_ (And.intro hi0 (And.intro bd (And.intro aL bk)));have Uf:(#[Value.string ⟨#[]⟩,Value.int .i64 0].size==2)=true:=rfl;clear hG h hl aa az hi0 bd aL bk;go_enter func327,ntmps327;go_upto_region 1 with fail
 refine xr ai ?_;clear ai;go_wp2_with fail;refine Fb.mono ?_;rintro e w2 ⟨v,ns,rfl,ae,mi,aX,aj⟩;rw[HWO.out ns mi aX]at ae;obtain⟨vg,vc,rfl,_,hvc,_,mB,k0,k1⟩:=xEz ae;obtain⟨n,hn⟩:∃n,n=p.number:=⟨_,rfl⟩;rw[<-hn]at k1;have tB:=h_ hn
 have ri:=xW (w:=w2) (a:=⟨vg,0,none⟩) (cs:=[.string g,.int .i64 n]) (λj u hj=>by
  rw[an_,aq_]
  match j,hj with
  |0,hj=>rw[k0];exact hj
  |1,hj=>rw[k1];exact hj)
 obtain⟨o2,r2⟩:=ri;simp only[av_,bm_]at o2 r2;have bJ:xy 2 #[Value.string g,.int .i64 n]=true:=by simp[xy,Value.oneCell']
 have Aa:(1:Int)<=vc:=by omega
 obtain⟨w3,bm⟩:∃w3,w3=w2.alloc (.cells #[.string g,.int .i64 n] 450):=⟨_,rfl⟩;have al:Below w2.heap.size w2 w3:=by rw[bm];exact b_ _ _
 have bK:w3.heap[w2.heap.size]?=some (.cells #[.string g,.int .i64 n] 450 (0,0)):=by rw[bm];exact heap_alloc_new w2 _
 have c0:=cell_of_row w3 w2.heap.size 0 _ _ _ bK;have c1:=cell_of_row w3 w2.heap.size 1 _ _ _ bK;simp only[v_]at c0 c1;have aQ:Below w3.heap.size w3 (w3.alloc (.cells #[.string g,.int .i64 n] 62)):=(ab_ _ _).alloc (aa_ _) _;have eh:=heap_alloc_new w3 (.cells #[.string g,.int .i64 n] 62);have nD:Hid (∀j u,([.string g,.int .i64 n]:List Value)[j]?=some u->(w3.alloc (.cells #[.string g,.int .i64 n] 62)).cell? ((⟨w3.heap.size,0,none⟩:Addr).add j)=some u):=h_ λj u hj=>by
  rw[an_,aq_,cell_of_row _ w3.heap.size j _ _ _ eh,ah_];exact hj
 have ay:=h_ (ar.trans ((aj.trans (al.mono aj.size)).mono ar.size));have bt:=h_ aQ;clear ae mi aX aj hvc mB o2 r2 al bK aQ eh Fb hn;go_wp2;refine yH ?_;go_upto_region 5 with fail
 refine xr bm ?_;clear bm k0 k1;go_wp2_with (at_builtin;refine wpList_append_own_at _ rfl (.tmp 16) (.tmp 22) 44 rfl w3.heap.size 62 i0 (.agg #[.string ⟨#[]⟩,.int .i64 0]) 2 24 underlying44 HI.1 HI.2.1 HI.2.2.1 HI.2.2.2 rfl (by decide) _ 0 [] rfl (aP_ _ _ _ _) ⟨w3.heap.size,0,none⟩ 1 1 [.string g,.int .i64 n] rfl rfl nD.out (by intro u hu;simp at hu;rcases hu with rfl|rfl <;> rfl) (by unfold maxLen;omega) (by omega) bt.size ?_);intro v' w' ho cV _ _;obtain⟨pb,pc,rfl,lG,k1,k2,k3,k4,k5⟩:=xEz ho;have aF:Below w3.heap.size w3 w':=bt.grown cV bt.size (λk e=>by cases e);have HF:Hid (xNt g n w (.returned (.slice (some ⟨pb,0,none⟩) 1 pc)) w'):=h_ ⟨pb,pc,rfl,ay.trans (aF.mono ay.size),k1,k4,k5⟩;clear ho cV lG k1 k2 k3 k4 k5 aF c0 c1;go_wp2;go_ret;rw[tB.out]at HF;exact HF.out
end
section
attribute [local go_sem ↓] xL xI qM qr
attribute [local go_sem] zm zA xE3 xDu zn zu yx yw xh xf xa x9 xu xv xk xj xq xx xt
def yl (k:Id32):List (Id32×Value)->Option Value
 |[]=>none
 |e :: es=>if k=e.1 then some e.2 else yl k es
def xEd (k:Id32)(v:Value):List (Id32×Value)->List (Id32×Value)
 |[]=>[]
 |e :: es=>if k=e.1 then (e.1,v) :: es else e :: xEd k v es
def uT (k:Id32)(v:Value)(l:List (Id32×Value)):List (Id32×Value):=if (yl k l).isSome then xEd k v l else l++[(k,v)]
theorem xSu (k):∀(l:List (KE Id32)) (i:Nat),(yN k l i).map (·.2)=yl k (kvs l)
 |[],_=>rfl
 |e :: l,i=>by
  unfold yN kvs;rw[au_];unfold yl;by_cases h:k=e.k
  ·rw[if_pos h,if_pos h];rfl
  ·rw[if_neg h,if_neg h];exact xSu k l (i+1)
theorem ji (k l):getK k l=yl k (kvs l):=xSu k l 0
theorem xW1 (k v):∀(l:List (KE Id32)),kvs (updL k v l)=xEd k v (kvs l)
 |[]=>rfl
 |e :: l=>by
  unfold updL kvs;rw[au_];unfold xEd;by_cases h:k=e.k
  ·rw[if_pos h,if_pos h];rfl
  ·rw[if_neg h,if_neg h,au_];congr 1;exact xW1 k v l
theorem xI3 (k v c l):kvs (putL k v c l)=uT k v (kvs l):=by
 unfold putL uT;rw[ji];split
 ·exact xW1 k v l
 ·unfold kvs;rw[bl_];rfl
theorem yEq {gs gs' g p}(hl:lfOf gs=xC6 g p)(h:∀t,xA gs' t=xEy (xA gs t) p.id):lfOf gs'=λ_=>[]:=by
 funext t;have h1:=congrFun hl t;unfold lfOf xC6 at *;rw[h t];split at h1
 ·cases hm:xA gs t with
  |nil=>rfl
  |cons m l=>
   rw[hm]at h1;simp only[au_,ei_,bC_]at h1;rw[h1.2];simp[xEy,h1.1]
 ·rw[bC_.1 h1];rfl
theorem xRc {b c1 c2 c3 w x}(h:qB b c1 c2 c3 w x)(nb)(hn:w.heap[nb]?=some (.cells (xN x) 70 (0,0)))(dt:∀k,k∈x.h.foot\/k∈x.s.foot\/k∈x.t.foot\/k∈foot x.ib x.M x.gs->k<nb)(hG:Gl w)(B3:prog.globals.size<=b)
  (p) (ob) (dL:ob<b) (ho:w.heap[ob]?=some (.cells (xl p.id).toArray 96 (0,0))) (g) (hi:Nat) (gY:p.number=(hi:Int)) (a) (e)
  (co:x.pc.ses=[(p.id,.agg (xG a))]) (ei:a.text.size<=x.pc.bytes) (aG:x.pc.bytes<=1073741824) (lJ:x.pc.tc=some (g,hi,true)) (mP:hi<=1000000) (fK:x.pc.lf=xC6 g p)
  (gT:yl p.id x.pc.hes=some (.agg (x7 e))) (ax:e.st=0):
  Calls prog 324 #[.pointer (some ⟨ob,0,none⟩),.pointer (some ⟨nb,0,none⟩)] w (ke b nb { x.pc with ses:=[],bytes:=x.pc.bytes-a.text.size,tc:=some (g,hi,false),lf:=λ_=>[],hes:=uT p.id (.agg (x7 { e with st:=1 })) x.pc.hes } w):=by
 have lN:∀k,k∈x.h.foot\/k∈x.s.foot\/k∈x.t.foot\/k∈foot x.ib x.M x.gs->ob≠k:=λk hk e=>by
  have h1:=h.at;rcases hk with hk|hk|hk|hk
  ·have:=h1.h.pB;have:=h1.h.MB;simp[Hst.foot]at hk;omega
  ·have:=h1.s.pB;have:=h1.s.MB;simp[Spo.foot]at hk;omega
  ·have:=(h1.t.foot_lt k hk).1;omega
  ·have:=(h1.o.foot_lt k hk).1;omega
 have dY:=(i_ hn).1;have dG:=(i_ ho).1;obtain⟨bb,hes⟩:∃bb,x.s.es=[⟨p.id,.agg (xG a),bb⟩]:=by
  have h1:kvs x.s.es=[(p.id,.agg (xG a))]:=co;cases hl:x.s.es with
  |nil=>rw[hl]at h1;cases h1
  |cons z l=>
   rw[hl]at h1;unfold kvs at h1;simp only[au_,ei_,bC_,cw_]at h1;obtain⟨⟨h2,h3⟩,h4⟩:=h1;exact⟨z.b,by rw[h4,<-h2,<-h3]⟩
 obtain⟨gg,hg,lZ,Ez,wL⟩:∃gg,x.t.g=some gg/\gg.name=g/\gg.high=hi/\gg.pres.isSome=true:=by
  have h1:x.t.c=some (g,hi,true):=lJ;unfold Tbl.c at h1;cases hg:x.t.g with
  |none=>rw[hg]at h1;cases h1
  |some gg=>
   rw[hg]at h1;simp only[aU_,aR_,cw_]at h1;exact⟨gg,rfl,h1.1,h1.2.1,h1.2.2⟩
 obtain⟨px,tW⟩:=cX_.1 wL;have bD:Below w.heap.size w w.drew:=(ab_ _ _).drew;have H:=h_ h;have oV:=h_ dt;have rQ:=h_ lN;have HN:=h_ hn;have HO:=h_ ho;have HG:=h_ hG;have FO:=h_ B3;have HL:=h_ (And.intro dY dG);have HT:=h_ (And.intro hg (And.intro lZ (And.intro Ez tW)));have HP:=h_ (And.intro gY (And.intro mP (And.intro fK (And.intro gT ax))));have tO:=h_ (xGx (h.s.below bD) p.id a bb hes ei aG);have hc:=cell_of_row w nb 1 _ _ _ hn;simp only[xN,v_]at hc;have eu:=yj ho;have z0:∀z:x8 w,z.1.cell? ⟨nb,1,none⟩=some (.pointer (some ⟨x.s.p,0,none⟩)):=λz=>z.cell hc
 have z1:∀z:x8 w,xo z.1 ⟨ob,0,none⟩ 32=true:=λz=>x8.ok eu.1 z
 have z2:∀z:x8 w,xm z.1 ⟨ob,0,none⟩ 32=(xl p.id).toArray:=λz=>(x8.rd eu.1 z).trans eu.2
 clear h hn dt hG B3 dL ho gY co ei aG lJ mP fK gT ax lN dY dG hes hg lZ Ez wL tW bD hc eu;go_enter func324,ntmps324;go_upto_region 1 with fail
 refine xp [0,1,2,3,4,5,6,7] [8,9] (λw'=>∃z:x8 w,w'=z.1) (by kernel_rfl) (by kernel_rfl) (by kernel_rfl) ⟨⟨w.drew,(ab_ _ _).drew⟩,rfl⟩ ?_;simp only[o_]
 repeat (go_big_quiet_step (fail))
 refine wpQuiet_nil ?_;clear z0 z1 z2;refine xB [8,9] _ _ (by kernel_rfl) ?_;simp only[o_];go_wp2_with fail;refine tO.mono ?_;rintro e' w1 ⟨rfl,hk1,aK⟩;have OY:Kept [x.s.M,x.s.p] w w.drew:=Kept.of_below (ab_ _ _).drew;have df:Kept [x.s.M,x.s.p] w w1:=OY.trans hk1 (λq hq=>.inl hq);have U7:=H.s.MB;have rN:=H.s.pB;have cu:=H.sl;have aj:=H.b2;have rR:∀k∈[x.s.M,x.s.p],c1<=k/\k<c2/\k<nb/\ob≠k:=λk hk=>by
  simp at hk;have hm:k∈x.s.foot:=by simp[Spo.foot];rcases hk with h|h <;> simp[h]
  exact⟨by rcases hk with h|h <;> omega,cu k hm,oV.out k (.inr (.inl hm)),rQ.out k (.inr (.inl hm))⟩
 have wo:yO b w1 x.h:=H.h.kept df (λk hk hf=>by have:=H.hl k hk;have:=(rR k hf).1;omega);have ir:yU c2 w1 x.t:=H.t.keptB df (λk hk=>(rR k hk).2.1);have cd:ye c3 w1 x.ib x.M x.gs x.mc:=H.o.kept df (λk hk=>by have:=(rR k hk).2.1;have:=H.b3;omega);have az:=(df.block nb HL.1 (λhf=>by have:=(rR nb hf).2.2.1;omega)).trans HN.out;have B4:=(df.block ob HL.2 (λhf=>(rR ob hf).2.2.2 rfl)).trans HO.out;have rS:Below b w w1:=df.below H.lt (λk hk=>by have:=(rR k hk).1;have:=H.b1;omega);have du:Gl w1:=HG.below (B:=b) rS FO.out;have bW:=h_ aK;have Kx:=h_ wo;have rM:=h_ ir;have ew:=h_ cd;have cz:=h_ az;have rT:=h_ B4;have ar:=h_ rS;have tM:=h_ du;have AN:=h_ df.size;clear hk1 aK OY df U7 rN cu aj rR wo ir cd az B4 rS du tO;have ft:=h_ (xUr c3 x.ib x.M x.mc x.gs g p w1.drew (tM.later (ab_ _ _).drew) (ew.below (ab_ _ _).drew) HP.2.2.1);have hc:=cell_of_row w1 nb 3 _ _ _ cz.out;simp only[xN,v_]at hc;have z0:∀z:x8 w1,z.1.cell? ⟨nb,3,none⟩=some (.pointer (some ⟨x.ib,0,none⟩)):=λz=>z.cell hc
 have eu:=yj rT.out;have z1:∀z:x8 w1,xo z.1 ⟨ob,0,none⟩ 32=true:=λz=>x8.ok eu.1 z
 have z2:∀z:x8 w1,xm z.1 ⟨ob,0,none⟩ 32=(xl p.id).toArray:=λz=>(x8.rd eu.1 z).trans eu.2
 clear hc eu;go_wp2;refine ag_ ?_;go_upto_region 4 with fail
 refine xp [0,1,2,3,4,5,6,7,10] [8,9] (λw'=>∃z:x8 w1,w'=z.1) (by kernel_rfl) (by kernel_rfl) (by kernel_rfl) ⟨⟨w1.drew,(ab_ _ _).drew⟩,rfl⟩ ?_;simp only[o_]
 repeat (go_big_quiet_step (fail))
 refine wpQuiet_nil ?_;clear z0 z1 z2;refine yb true (by kernel_rfl) (by kernel_rfl) ?_;simp only[o_];go_wp2_with fail;refine ft.mono ?_;rintro e' w2 ⟨pb,pc,rfl,aj,aH,k0,k1⟩;have ak:Below w1.heap.size w1 w2:=⟨aj.os,aj.tape,aj.output,aj.size,aj.block⟩;rw[HP.1]at k1;have C7:(1:Int)<=pc:=by omega
 have dU:=h_ ak;have aA:=(ak.block nb (i_ cz.out).1).trans cz.out;have rU:=(ak.block ob (i_ rT.out).1).trans rT.out;have cF:=h_ (bW.below ak);have RR:=h_ (Kx.below ak);have OB:=h_ (rM.below ak);have gZ:=h_ (ew.below ak);have bQ:=h_ aA;have HOB2:=h_ rU;go_wp2;refine⟨λ_=>⟨⟨w2,ak⟩,rfl⟩,?_⟩;refine yb true (by kernel_rfl) (by kernel_rfl) ?_;simp only[o_];go_wp2;refine⟨λ_=>⟨⟨w2,ak⟩,rfl⟩,?_⟩;refine ag_ ?_
 have ri:=xW (w:=w2) (a:=⟨pb,0,none⟩) (cs:=[.string g,.int .i64 hi]) (λj u hj=>by
  rw[an_,aq_]
  match j,hj with
  |0,hj=>rw[k0];exact hj
  |1,hj=>rw[k1];exact hj)
 obtain⟨o2,r2⟩:=ri;simp only[av_,bm_]at o2 r2;have bJ:xy 2 #[Value.string g,.int .i64 hi]=true:=by simp[xy,Value.oneCell']
 have Uf:(#[Value.string ⟨#[]⟩,Value.int .i64 0].size==2)=true:=rfl;obtain⟨w3,bm⟩:∃w3,w3=w2.alloc (.cells #[.string g,.int .i64 hi] 62):=⟨_,rfl⟩;have al:Below w2.heap.size w2 w3:=by rw[bm];exact b_ _ _
 have bK:w3.heap[w2.heap.size]?=some (.cells #[.string g,.int .i64 hi] 62 (0,0)):=by rw[bm];exact heap_alloc_new w2 _
 have iX:=xD (n:=2) bK rfl;have z3:∀z:x8 w3,xo z.1 ⟨w2.heap.size,0,none⟩ 2=true:=λz=>x8.ok iX.1 z
 have z4:∀z:x8 w3,xm z.1 ⟨w2.heap.size,0,none⟩ 2=#[.string g,.int .i64 hi]:=λz=>(x8.rd iX.1 z).trans iX.2
 have fk:Below w3.heap.size w3 w3.drew:=(ab_ _ _).drew;have U8:=h_ (xTo ((OB.below al).below fk) gg HT.1 px HT.2.2.2 (by rw[HT.2.2.1];exact HP.2.1));rw[HT.2.1,HT.2.2.1]at U8;have nI:=h_ al;have dV:=h_ ((al.block nb (i_ aA).1).trans aA);have OZ:=h_ ((al.block ob (i_ rU).1).trans rU);have eS:=h_ (cF.below al);have pj:=h_ (RR.below al);have wU:=h_ (gZ.below al);have IX:=h_ (OB.below al);clear aj ak aA rU al bK iX fk ft aH;go_wp2;refine yH ?_;go_upto_region 7 with fail
 refine xr bm ?_;clear bm o2 r2 k0 k1;have hc:=cell_of_row w3 nb 2 _ _ _ dV.out;simp only[xN,v_]at hc;have z0:∀z:x8 w3,z.1.cell? ⟨nb,2,none⟩=some (.pointer (some ⟨x.t.p,0,none⟩)):=λz=>z.cell hc
 clear hc;refine xp [0,1,2,3,4] [5,6] (λw'=>∃z:x8 w3,w'=z.1) (by kernel_rfl) (by kernel_rfl) (by kernel_rfl) ⟨⟨w3.drew,(ab_ _ _).drew⟩,rfl⟩ ?_;simp only[o_]
 repeat (go_big_quiet_step (fail))
 refine wpQuiet_nil ?_;clear z0 z3 z4;refine xB [5,6] _ _ (by kernel_rfl) ?_;simp only[o_];go_wp2_with fail;refine U8.mono ?_;rintro e' w4 ⟨rfl,dQ,g4,mc4,O0,O1,O2,N_⟩;have cD:Kept [x.t.M] w3 w4:=(Kept.of_below (F:=[x.t.M]) (ab_ _ _).drew).trans dQ (λq hq=>.inl hq);have D8:x.t.M∈x.t.foot:=by simp[Tbl.foot]
 have t6:=H.tl _ D8;have htB:=H.t.MB;have iU:=H.b2;have nO:=H.b3;have lO:=H.b1;have sm:=pj.kept cD (λk hk hf=>by have:=H.hl k hk;rw[ac_.1 hf]at this;omega);have fR:=eS.kept cD (λk hk hf=>by have:=H.sl k hk;rw[ac_.1 hf]at this;omega);have iQ:=wU.kept cD (λk hk=>by rw[ac_.1 hk];exact t6);have eh:=(cD.block nb (i_ dV.out).1 (λhf=>by have:=oV.out _ (.inr (.inr (.inl D8)));rw[<-ac_.1 hf]at this;omega)).trans dV.out;have O3:=(cD.block ob (i_ OZ.out).1 (λhf=>rQ.out _ (.inr (.inr (.inl D8))) (ac_.1 hf))).trans OZ.out;have rO:b<=w1.heap.size:=ad_ H.lt ar.size;have I7:Below b w w3:=ar.trans ((dU.trans (nI.mono dU.size)).mono rO);have rV:Below b w w4:=I7.trans (cD.below (ad_ H.lt I7.size) (λk hk=>by rw[ac_.1 hk];omega));have bt:=h_ rV;have fp:=h_ sm;have di:=h_ fR;have wS:=h_ iQ;have D1:=h_ N_;have g6:=h_ eh;have rW:=h_ O3;have so:Hid (Gl w4):=h_ (HG.below rV FO.out);have Bb:=h_ (And.intro O0 (And.intro O1 O2));have O4:=h_ (xEo c3 x.ib x.M x.mc x.gs p.id w4.drew (so.later (ab_ _ _).drew) (iQ.below (ab_ _ _).drew));clear dQ cD D8 t6 htB iU nO lO sm fR iQ eh O3 rO I7 rV O0 O1 O2 N_ U8
 have hc:=cell_of_row w4 nb 3 _ _ _ g6.out;simp only[xN,v_]at hc;have z0:∀z:x8 w4,z.1.cell? ⟨nb,3,none⟩=some (.pointer (some ⟨x.ib,0,none⟩)):=λz=>z.cell hc
 have eu:=yj rW.out;have z1:∀z:x8 w4,xo z.1 ⟨ob,0,none⟩ 32=true:=λz=>x8.ok eu.1 z
 have z2:∀z:x8 w4,xm z.1 ⟨ob,0,none⟩ 32=(xl p.id).toArray:=λz=>(x8.rd eu.1 z).trans eu.2
 clear hc eu;go_wp2;refine ag_ ?_;go_upto_region 11 with fail
 refine xp [0,1,2,3,4,5,6,7] [8] (λw'=>∃z:x8 w4,w'=z.1) (by kernel_rfl) (by kernel_rfl) (by kernel_rfl) ⟨⟨w4.drew,(ab_ _ _).drew⟩,rfl⟩ ?_;simp only[o_]
 repeat (go_big_quiet_step (fail))
 refine wpQuiet_nil ?_;clear z0 z1 z2;refine xB [8] _ _ (by kernel_rfl) ?_;simp only[o_];go_wp2_with fail;refine O4.mono ?_;rintro e' w5 ⟨ns,gs',O5,_,_,rfl,wJ,e_,_,B5,_⟩;have bC:Kept (foot x.ib x.M x.gs) w4 w5:=(Kept.of_below (F:=foot x.ib x.M x.gs) (ab_ _ _).drew).trans e_ (λq hq=>.inl hq);have mS:∀k∈foot x.ib x.M x.gs,c3<=k:=λk hk=>(H.o.foot_lt k hk).1
 have iU:=H.b2;have nO:=H.b3;have lO:=H.b1;have tn:=fp.kept bC (λk hk hf=>by have:=H.hl k hk;have:=mS k hf;omega);have nt:=di.kept bC (λk hk hf=>by have:=H.sl k hk;have:=mS k hf;omega)
 have FP:=D1.kept bC (λk hk hf=>by
  have h1:=mS k hf;have h2:k=x.t.p\/k=x.t.M:=by simpa[Tbl.foot,Bb.2.2]using hk
  have h3:=H.tl x.t.p (by simp[Tbl.foot]);have h4:=H.tl x.t.M (by simp[Tbl.foot]);omega)
 have eM:=(bC.block nb (i_ g6.out).1 (λhf=>bX_ _ (oV.out _ (.inr (.inr (.inr hf)))))).trans g6.out;have B6:=(bC.block ob (i_ rW.out).1 (λhf=>rQ.out _ (.inr (.inr (.inr hf))) rfl)).trans rW.out;have B7:Below b w w5:=bt.trans (bC.below (ad_ H.lt bt.size) (λk hk=>by have:=mS k hk;omega));have aU:=h_ B7;have IM:=h_ tn;have oC:=h_ nt;have tN:=h_ wJ;have O6:=h_ FP;have nK:=h_ eM;have I8:=h_ B6;have U9:=h_ (yEq HP.2.2.1 B5);have O7:=h_ (xN8 (tn.below (ab_ _ w5).drew) p.id e (by rw[ji];exact HP.2.2.2.1) HP.2.2.2.2);clear e_ bC mS iU nO lO tn nt FP eM B6 B7 wJ B5 O4;have hc:=cell_of_row w5 nb 0 _ _ _ nK.out;simp only[xN,v_]at hc;have z0:∀z:x8 w5,z.1.cell? ⟨nb,0,none⟩=some (.pointer (some ⟨x.h.p,0,none⟩)):=λz=>z.cell hc
 have eu:=yj I8.out;have z1:∀z:x8 w5,xo z.1 ⟨ob,0,none⟩ 32=true:=λz=>x8.ok eu.1 z
 have z2:∀z:x8 w5,xm z.1 ⟨ob,0,none⟩ 32=(xl p.id).toArray:=λz=>(x8.rd eu.1 z).trans eu.2
 clear hc eu;go_wp2;refine ag_ ?_;go_upto_region 12 with fail
 refine xp [0,1,2,3,4,5,6,7] [8,9] (λw'=>∃z:x8 w5,w'=z.1) (by kernel_rfl) (by kernel_rfl) (by kernel_rfl) ⟨⟨w5.drew,(ab_ _ _).drew⟩,rfl⟩ ?_;simp only[o_]
 repeat (go_big_quiet_step (fail))
 refine wpQuiet_nil ?_;clear z0 z1 z2;refine xB [8,9] _ _ (by kernel_rfl) ?_;simp only[o_];go_wp2_with fail;refine O7.mono ?_;rintro e' w6 ⟨rfl,dq,tm⟩;have fG:Kept [x.h.M] w5 w6:=(Kept.of_below (F:=[x.h.M]) (ab_ _ _).drew).trans dq (λq hq=>.inl hq);have oW:x.h.M∈x.h.foot:=by simp[Hst.foot]
 have gu:=H.hl _ oW;have O8:=H.h.MB;have iU:=H.b2;have nO:=H.b3;have lO:=H.b1
 have HF:Hid (ke b nb { x.pc with ses:=[],bytes:=x.pc.bytes-a.text.size,tc:=some (g,hi,false),lf:=λ_=>[],hes:=uT p.id (.agg (x7 { e with st:=1 })) x.pc.hes } w (.returned (.int .i64 0)) w6):=h_ (by
  refine⟨rfl,aU.trans (fG.below (ad_ H.lt aU.size) (λk hk=>by rw[ac_.1 hk];exact O8)),⟨{ x.h with es:=putL p.id (.agg (x7 { e with st:=1 })) x.h.mc x.h.es,mc:=putC p.id x.h.mc x.h.es },{ x.s with es:=[],bytes:=x.s.bytes-a.text.size },⟨x.t.p,x.t.M,mc4,some g4⟩,x.ib,x.M,gs',O5⟩,⟨tm,?_,?_,?_⟩,?_,?_⟩
  ·exact(oC.keptB fG (λk hk=>by rw[ac_.1 hk];exact gu)).base lO
  ·exact(O6.keptB fG (λk hk=>by rw[ac_.1 hk];omega)).base (by omega)
  ·exact(tN.kept fG (λk hk=>by rw[ac_.1 hk];omega)).base (by omega)
  ·unfold Prt.pc Tbl.c;simp only[aU_,xI3,U9.out,Bb.1,Bb.2.1,Bb.2.2,HT.2.1,HT.2.2.1];rfl
  ·exact(fG.block nb (i_ nK.out).1 (λhf=>by have:=oV.out _ (.inl oW);rw[<-ac_.1 hf]at this;omega)).trans nK.out)
 clear dq tm fG oW gu O8 iU nO lO O7;go_wp2;refine ag_ ?_;go_wp2;go_ret;exact HF.out
end
section
theorem uK (ρ:Operand->Value)(d x)(ty:TypeId)(pos af g w):
  Sem.run prog (execOp ρ ⟨d,.load 37 x,ty,pos,af,g⟩) w=yp prog 37 w (ρ x):=rfl
theorem ub (ρ:Operand->Value)(d x y)(ty:TypeId)(pos af g w):
  Sem.run prog (execOp ρ ⟨d,.store 37 x y,ty,pos,af,g⟩) w=yi prog 37 w (ρ x) (ρ y):=rfl
theorem xAw (w a)(h:xo w a 40=true):yp prog 37 w (.pointer (some a))=.ok (.value (.agg (xm w a 40))) w:=
 yf isAgg37 sizeOf37 w a h
theorem xAu (w g cells)(h:xM w g 40=true)(h2:xy 40 cells=true):
  yi prog 37 w (.pointer (some ⟨g,0,none⟩)) (.agg cells)=.ok .skip (w.setRow g cells):=yo (by kernel_rfl) w g cells h h2
structure Art where
 id:Id32
 text:ByteArray
 name:ByteArray
 date:Int
 arr:Int
 groups:Value
 subj:ByteArray
 refs:Value
 perm:Bool
def vX (a:Art):List Value:=[.string a.text,.string a.name,.int .i64 a.date,.int .i64 a.arr,a.groups,.string a.subj,a.refs,.bool a.perm]
def yT (a:Art):List Value:=xl a.id++vX a
def xw (a:Art):Array Value:=(yT a).toArray
theorem yS (a):(yT a).length=40:=by simp[yT,vX,xz]
theorem xY (a):(xw a).size=40:=by simp[xw,yS]
theorem vA (a j):(yT a)[32+j]?=(vX a)[j]?:=by
 unfold yT;rw[aF_ (by rw[xz];omega),xz,show 32+j-32=j by omega]
theorem ar32 (a):(xw a)[32]?=some (.string a.text):=by simpa[xw,vX]using vA a 0
theorem ar33 (a):(xw a)[33]?=some (.string a.name):=by simpa[xw,vX]using vA a 1
theorem ar34 (a):(xw a)[34]?=some (.int .i64 a.date):=by simpa[xw,vX]using vA a 2
theorem ar35 (a):(xw a)[35]?=some (.int .i64 a.arr):=by simpa[xw,vX]using vA a 3
theorem ar36 (a):(xw a)[36]?=some a.groups:=by simpa[xw,vX]using vA a 4
theorem ar37 (a):(xw a)[37]?=some (.string a.subj):=by simpa[xw,vX]using vA a 5
theorem ar38 (a):(xw a)[38]?=some a.refs:=by simpa[xw,vX]using vA a 6
theorem ar39 (a):(xw a)[39]?=some (.bool a.perm):=by simpa[xw,vX]using vA a 7
theorem yFh {a}(hg:a.groups.oneCell'=true)(hr:a.refs.oneCell'=true):∀v∈yT a,v.oneCell'=true:=by
 intro v hv;unfold yT at hv;rcases aj_.1 hv with h|h
 ·exact uS a.id v h
 ·simp only[vX,ae_,ch_,or_false]at h;rcases h with rfl|rfl|rfl|rfl|rfl|rfl|rfl|rfl <;> first|rfl|assumption
theorem jR {a}(hg:a.groups.oneCell'=true)(hr:a.refs.oneCell'=true):xy 40 (xw a)=true:=zU (xY a) (by
 rw[aD_];intro v hv;exact yFh hg hr v (by simpa[xw]using hv))
def uB:Art:=⟨uq,⟨#[]⟩,⟨#[]⟩,0,0,.slice none 0 0,⟨#[]⟩,.slice none 0 0,false⟩
theorem qs (ρ:Operand->Value)(d)(ty:TypeId)(pos af g w):
  Sem.run prog (execOp ρ ⟨d,.alloc 37,ty,pos,af,g⟩) w=.ok (.value (.pointer (some ⟨w.heap.size,0,none⟩))) (w.alloc (.cells (xw uB) 37)):=by kernel_rfl
theorem vW {w b a l}{t:TypeId}(h:w.heap[b]?=some (.cells (yT a++l).toArray t (0,0))):xo w ⟨b,0,none⟩ 32=true/\xm w ⟨b,0,none⟩ 32=(xl a.id).toArray:=by
 have:=xW (w:=w) (a:=⟨b,0,none⟩) (cs:=xl a.id) (λj u hj=>by
  rw[an_,aq_,cell_of_row _ _ _ _ _ _ h,ah_];have hlt:j<(xl a.id).length:=by
   rcases bi_ j (xl a.id).length with h|h
   ·exact h
   ·rw[aI_ h]at hj;cases hj
  unfold yT;rw[aH_,aJ_ hlt];exact hj)
 rwa [xz]at this
theorem xQc {w b a l}{t:TypeId}(h:w.heap[b]?=some (.cells (yT a++l).toArray t (0,0))):xo w ⟨b,0,none⟩ 40=true/\xm w ⟨b,0,none⟩ 40=xw a:=by
 have:=xW (w:=w) (a:=⟨b,0,none⟩) (cs:=yT a) (λj u hj=>by
  rw[an_,aq_,cell_of_row _ _ _ _ _ _ h,ah_];have hlt:j<(yT a).length:=by
   rcases bi_ j (yT a).length with h|h
   ·exact h
   ·rw[aI_ h]at hj;cases hj
  rw[aJ_ hlt];exact hj)
 rw[yS]at this;exact this
def uy (w:World)(ob:Nat)(a:Art)(pl:Value):Prop:=w.heap[ob]?=some (.cells (yT a++[pl]).toArray 91 (0,0))
def xDz (id:Id32)(arr date:Nat)(t nm sj g:By):By:=[2]++id.1++beB 4 arr++beB 4 date++[0]++(beB 4 t.length++t)++(beB 4 nm.length++nm)++(beB 4 sj.length++sj)++beB 4 1++(beB 4 g.length++g)++beB 4 0
theorem xA7 (id arr date t nm sj g):(xDz id arr date t nm sj g).length=66+t.length+nm.length+sj.length+g.length:=by
 simp[xDz,xe,id.2];omega
attribute [local go_sem ↓] qj uI uL xL xI uK ub qs
attribute [local go_sem] xCb xBu zm zA xAw xAu zn zu yx yw xh xf xa x9 xu xv xk xj xq xx xt
theorem xOq {w}(ob id)(arr date:Nat)(t nm sj g gb gc pl)(ha:arr<=2147483647)(hd:date<=2147483647)(ht:t.length<=10000)(nh:nm.length<=10000)(KW:sj.length<=10000)(hg:g.length<=10000)
  (h:uy w ob ⟨id,str t,str nm,date,arr,.slice (some ⟨gb,0,none⟩) 1 gc,str sj,.slice none 0 0,false⟩ pl) (wB:w.cell? ⟨gb,0,none⟩=some (.string (str g))) (rX:1<=gc):
  Calls prog 319 #[.pointer (some ⟨ob,0,none⟩)] w λe w'=>Below w.heap.size w w'/\∃u,e=.returned u/\OwnB w' w.heap.size u (xDz id arr date t nm sj g):=by
 obtain⟨A,hA⟩:∃A:Art,A=⟨id,str t,str nm,date,arr,.slice (some ⟨gb,0,none⟩) 1 gc,str sj,.slice none 0 0,false⟩:=⟨_,rfl⟩;rw[<-hA]at h;obtain⟨a0,nP⟩:∃a0,a0=w.heap.size:=⟨_,rfl⟩;obtain⟨w1,ai⟩:∃w1,w1=w.alloc (.cells (xw A) 37):=⟨_,rfl⟩;have aa:Below w.heap.size w w1:=by rw[ai];exact b_ _ _
 have az:w1.heap[a0]?=some (.cells (xw A) 37 (0,0)):=by rw[ai,nP];exact heap_alloc_new w _
 obtain⟨b,hb⟩:∃b,b=w1.heap.size:=⟨_,rfl⟩;obtain⟨w2,aw⟩:∃w2,w2=w1.alloc (.cells #[.slice none 0 0] 132):=⟨_,rfl⟩;have ak:Below b w1 w2:=by rw[aw,hb];exact b_ _ _
 have fJ:WrAt b w2 b []:=⟨aa_ _,_,by rw[aw,hb];exact heap_alloc_new w1 _,OwnB.nil _ _⟩;have O9:A.groups=.slice (some ⟨gb,0,none⟩) 1 gc:=by rw[hA]
 have eH:gb<w.heap.size:=block_lt_of_cell wB;obtain⟨o0,r0⟩:=xQc h;have bJ:xy 40 (xw A)=true:=jR (by rw[hA];rfl) (by rw[hA];rfl);have rY:((xw uB).size==40)=true:=by rw[xY];rfl
 have pO:=(cell_of_row w1 a0 36 _ _ _ az).trans (ar36 A);rw[O9]at pO;have HF:=h_ (show A.id=id/\A.text=str t/\A.name=str nm/\A.date=date/\A.arr=arr/\A.groups=.slice (some ⟨gb,0,none⟩) 1 gc/\A.subj=str sj/\A.refs=.slice none 0 0/\A.perm=false by rw[hA];exact⟨rfl,rfl,rfl,rfl,rfl,rfl,rfl,rfl,rfl⟩);have ar:=h_ aa;have cz:=h_ az;have au:=h_ ak;have IQ:=h_ fJ;have Ov:=h_ nP;have fX:=h_ hb;have iE:=h_ (And.intro wB eH);have cL:=h_ (And.intro ha (And.intro hd (And.intro ht (And.intro nh (And.intro KW hg)))));have e9:Hid (a0<b):=h_ (by rw[hb];exact(i_ az).1);have aK:(#[Value.slice none 0 0].size==1)=true:=rfl;have gK:xy 1 #[Value.slice none 0 0]=true:=by simp[xy,Value.oneCell']
 have DM:(1:Int)<=gc:=by omega
 clear h hA aa az ak fJ O9 eH ha hd ht nh KW hg wB;go_enter func319,ntmps319;go_upto_region 2 with fail
 refine xr ai ?_;rw[<-nP];clear ai o0 r0 nP;go_upto_region 5 with fail
 refine xr aw ?_;rw[<-hb];clear aw hb pO;have CT:=h_ (vt IQ.out 2 (by simp));rw[show ((2:UInt8).toNat:Int)=2 from rfl]at CT;go_wp2_with fail;refine CT.mono ?_;rintro e w3 ⟨rfl,a_,bT⟩;have ay:=h_ (au.trans a_);have BN:=h_ bT;clear a_ bT CT;have CU:=h_ (xO4 BN.out id (by have h1:=cL.out;simp[xe,id.2] <;> omega));have ah:=(ay.block a0 e9.out).trans cz.out;have aD:=vW (l:=[]) (by rw[aG_];exact ah);obtain⟨ok,rk⟩:=aD;rw[HF.1]at rk;clear ah;go_wp2_with fail;refine CU.mono ?_;rintro e w4 ⟨rfl,a_,bT⟩;have bt:=h_ (ay.trans a_);have wI:=h_ bT;clear a_ bT CU ok rk;have IJ:=h_ (uE wI.out arr (by have:=cL.1;omega) (by have h1:=cL.out;simp[xe,id.2] <;> omega));have ah:=(bt.block a0 e9.out).trans cz.out;have ck:=(cell_of_row w4 a0 35 _ _ _ ah).trans (ar35 A);rw[HF.2.2.2.2.1]at ck;clear ah;go_wp2_with fail;refine IJ.mono ?_;rintro e w5 ⟨rfl,a_,bT⟩;have aU:=h_ (bt.trans a_);have rI:=h_ bT;clear a_ bT IJ ck;have O_:=h_ (uE rI.out date (by have:=cL.2.1;omega) (by have h1:=cL.out;simp[xe,id.2] <;> omega));have ah:=(aU.block a0 e9.out).trans cz.out;have ck:=(cell_of_row w5 a0 34 _ _ _ ah).trans (ar34 A);rw[HF.2.2.2.1]at ck;clear ah;go_wp2_with fail
 refine O_.mono ?_;rintro e w6 ⟨rfl,a_,bT⟩;have fb:=h_ (aU.trans a_);have IR:=h_ bT;clear a_ bT O_ ck;have I9:=h_ (vt IR.out 0 (by have h1:=cL.out;simp[xe,id.2] <;> omega));rw[show ((0:UInt8).toNat:Int)=0 from rfl]at I9;have ah:=(fb.block a0 e9.out).trans cz.out;have ck:=(cell_of_row w6 a0 39 _ _ _ ah).trans (ar39 A);rw[HF.2.2.2.2.2.2.2.2]at ck;clear ah;go_wp2_with fail;refine I9.mono ?_;rintro e w7 ⟨rfl,a_,bT⟩;have fA:=h_ (fb.trans a_);have sR:=h_ bT;clear a_ bT I9 ck;have Pa:=h_ (zC sR.out t (by have:=cL.out;omega) (by have h1:=cL.out;simp[xe,id.2] <;> omega));have ah:=(fA.block a0 e9.out).trans cz.out;have ck:=(cell_of_row w7 a0 32 _ _ _ ah).trans (ar32 A);rw[HF.2.1]at ck;clear ah;go_wp2_with fail;refine Pa.mono ?_;rintro e w8 ⟨rfl,a_,bT⟩;have gB:=h_ (fA.trans a_);have IS:=h_ bT;clear a_ bT Pa ck;have Fw:=h_ (zC IS.out nm (by have:=cL.out;omega) (by have h1:=cL.out;simp[xe,id.2] <;> omega));have ah:=(gB.block a0 e9.out).trans cz.out;have ck:=(cell_of_row w8 a0 33 _ _ _ ah).trans (ar33 A);rw[HF.2.2.1]at ck;clear ah;go_wp2_with fail
 refine Fw.mono ?_;rintro e w9 ⟨rfl,a_,bT⟩;have fW:=h_ (gB.trans a_);have D3:=h_ bT;clear a_ bT Fw ck;have KL:=h_ (zC D3.out sj (by have:=cL.out;omega) (by have h1:=cL.out;simp[xe,id.2] <;> omega));have ah:=(fW.block a0 e9.out).trans cz.out;have ck:=(cell_of_row w9 a0 37 _ _ _ ah).trans (ar37 A);rw[HF.2.2.2.2.2.2.1]at ck;clear ah;go_wp2_with fail;refine KL.mono ?_;rintro e bn ⟨rfl,a_,bT⟩;have iI:=h_ (fW.trans a_);have I_:=h_ bT;clear a_ bT KL ck;have lz:=h_ (uE I_.out 1 (by omega) (by have h1:=cL.out;simp[xe,id.2] <;> omega));rw[show ((1:Nat):Int)=1 from rfl]at lz;have ah:=(iI.block a0 e9.out).trans cz.out;have ck:=(cell_of_row bn a0 36 _ _ _ ah).trans (ar36 A);rw[HF.2.2.2.2.2.1]at ck;clear ah;go_wp2_with fail;refine lz.mono ?_;rintro e aW ⟨rfl,a_,bT⟩;have ic:=h_ (iI.trans a_);have ny:=h_ bT;clear a_ bT lz ck;have t7:=h_ (zC ny.out g (by have:=cL.out;omega) (by have h1:=cL.out;simp[xe,id.2] <;> omega));have ah:=(ic.block a0 e9.out).trans cz.out;have ck:=(cell_of_row aW a0 36 _ _ _ ah).trans (ar36 A);rw[HF.2.2.2.2.2.1]at ck;clear ah;have mN:=((ar.trans (ic.mono (by rw[fX.out];exact ar.size))).cell (p:=⟨gb,0,none⟩) iE.2).trans iE.1;go_wp2;refine yH ?_;go_wp2_with fail
 refine t7.mono ?_;rintro e w12 ⟨rfl,a_,bT⟩;have dU:=h_ (ic.trans a_);have Ja:=h_ bT;clear a_ bT t7 ck mN;have Jb:=h_ (uE Ja.out 0 (by omega) (by have h1:=cL.out;simp[xe,id.2] <;> omega));rw[show ((0:Nat):Int)=0 from rfl]at Jb;have ah:=(dU.block a0 e9.out).trans cz.out;have ck:=(cell_of_row w12 a0 38 _ _ _ ah).trans (ar38 A);rw[HF.2.2.2.2.2.2.2.1]at ck;clear ah;go_wp2_with fail;refine Jb.mono ?_;rintro e dA ⟨rfl,a_,bT⟩;have Dd:=h_ (dU.trans a_);have U_:=h_ bT;clear a_ bT Jb ck;have ah:=(Dd.block a0 e9.out).trans cz.out;have ck:=(cell_of_row dA a0 38 _ _ _ ah).trans (ar38 A);rw[HF.2.2.2.2.2.2.2.1]at ck;clear ah;go_wp2;refine wp_loop_once ?_;obtain⟨_,v,hr,ho⟩:=U_.out;have cw:=cell_of_row dA b 0 _ _ _ hr;simp only[v_]at cw;have hall:[]++[2]++id.1++beB 4 arr++beB 4 date++[0]++beB 4 t.length++t++beB 4 nm.length++nm++beB 4 sj.length++sj++beB 4 1++beB 4 g.length++g++beB 4 0=xDz id arr date t nm sj g:=by
  simp[xDz,aH_]
 have bN:=ho;rw[hall]at bN;have aS:=h_ (And.intro (ar.trans (Dd.mono (by rw[fX.out];exact ar.size))) (bN.base (by rw[fX.out];exact ar.size)));clear hr ho hall bN;go_wp2;go_ret;exact⟨aS.1,v,rfl,aS.2⟩
end
theorem yX (place:Nat->Option (Nat×Nat))(i v)(pre mid post new:List Value){rest}(hp:place i=some (pre.length,mid.length))(hv:v.cells=new.toArray)(hn:mid.length=new.length):
  Instr.fill place (pre++(mid++post)).toArray ((i,v) :: rest)=Instr.fill place (pre++(new++post)).toArray rest:=by
 rw[xE7 hp (by rw[hv,aW_,hn]) (by simp),hv];congr 1;have h:=xEu new 0 pre.length pre mid post rfl hn;rw[<-dR_,dD_];exact h
def xCs (i:Nat):Option (Nat×Nat):=#[(0,32),(32,1),(33,1),(34,1),(35,1)][i]?
theorem yF6 (parts):prog.built 58 parts=Instr.fill xCs (x7 zy) parts:=by kernel_rfl
theorem xWx (w id a d s p):zB prog 58 w #[(0,.agg (xl id).toArray),(1,.int .i64 a),(2,.int .i64 d),(3,.int .i64 s),(4,.bool p)]=.ok (.value (.agg (x7 ⟨id,a,d,s,p⟩))) w:=zD (by
 show prog.built 58 [(0,.agg (xl id).toArray),(1,.int .i64 a),(2,.int .i64 d),(3,.int .i64 s),(4,.bool p)]=_
 rw[yF6];have l0:(xl zy.id).length=32:=xz _;have l1:(xl id).length=32:=xz _;refine(yX xCs 0 (.agg (xl id).toArray) [] (xl zy.id) [.int .i64 0,.int .i64 0,.int .i64 0,.bool false] (xl id) (by rw[l0];rfl) rfl (by rw[l0,l1])).trans ?_;refine(yX xCs 1 (.int .i64 a) (xl id) [.int .i64 0] [.int .i64 0,.int .i64 0,.bool false] [.int .i64 a] (by rw[l1];rfl) rfl rfl).trans ?_;rw[show xl id++([.int .i64 a]++[.int .i64 0,.int .i64 0,.bool false])=(xl id++[.int .i64 a])++([.int .i64 0]++[.int .i64 0,.bool false]) by simp];refine(yX xCs 2 (.int .i64 d) (xl id++[.int .i64 a]) [.int .i64 0] [.int .i64 0,.bool false] [.int .i64 d] (by rw[af_,l1];rfl) rfl rfl).trans ?_;rw[show (xl id++[.int .i64 a])++([.int .i64 d]++[.int .i64 0,.bool false])=(xl id++[.int .i64 a,.int .i64 d])++([.int .i64 0]++[.bool false]) by simp];refine(yX xCs 3 (.int .i64 s) (xl id++[.int .i64 a,.int .i64 d]) [.int .i64 0] [.bool false] [.int .i64 s] (by rw[af_,l1];rfl) rfl rfl).trans ?_;rw[show (xl id++[.int .i64 a,.int .i64 d])++([.int .i64 s]++[.bool false])=(xl id++[.int .i64 a,.int .i64 d,.int .i64 s])++([.bool false]++[]) by simp]
 refine(yX xCs 4 (.bool p) (xl id++[.int .i64 a,.int .i64 d,.int .i64 s]) [.bool false] [] [.bool p] (by rw[af_,l1];rfl) rfl rfl).trans ?_;rw[show (xl id++[.int .i64 a,.int .i64 d,.int .i64 s])++([.bool p]++[])=yt ⟨id,a,d,s,p⟩ by simp[yt]];rfl)
theorem xCj (ρ:Operand->Value)(d x0 x1 x2 x3 x4)(ty:TypeId)(pos af gd w):
  Sem.run prog (execOp ρ ⟨d,.build 58 #[(0,x0),(1,x1),(2,x2),(3,x3),(4,x4)],ty,pos,af,gd⟩) w=zB prog 58 w #[(0,ρ x0),(1,ρ x1),(2,ρ x2),(3,ρ x3),(4,ρ x4)]:=by kernel_rfl
def kM (i:Nat):Option (Nat×Nat):=#[(0,1),(1,32),(33,1),(34,1),(35,1),(36,1),(37,1)][i]?
theorem yF5 (parts):prog.built 204 parts=Instr.fill kM (xd xJ) parts:=by kernel_rfl
theorem yC1 (w g)(hr:g.refs.cells=#[g.refs]):zB prog 204 w #[(0,.int .i64 g.number),(1,.agg (xl g.id).toArray),(2,.string g.name),(3,.int .i64 g.date),(4,.string g.subject),(5,g.refs),(6,.int .i64 g.bytes)]=.ok (.value (.agg (xd g))) w:=zD (by
 show prog.built 204 [(0,.int .i64 g.number),(1,.agg (xl g.id).toArray),(2,.string g.name),(3,.int .i64 g.date),(4,.string g.subject),(5,g.refs),(6,.int .i64 g.bytes)]=_
 rw[yF5];have l0:(xl xJ.id).length=32:=xz _;have l1:(xl g.id).length=32:=xz _;generalize hE:xl g.id=E at *;refine(yX kM 0 (.int .i64 g.number) [] [.int .i64 0] (xl xJ.id++[.string ⟨#[]⟩,.int .i64 0,.string ⟨#[]⟩,.slice none 0 0,.int .i64 0]) [.int .i64 g.number] rfl rfl rfl).trans ?_;refine(yX kM 1 (.agg E.toArray) [.int .i64 g.number] (xl xJ.id) [.string ⟨#[]⟩,.int .i64 0,.string ⟨#[]⟩,.slice none 0 0,.int .i64 0] E (by rw[l0];rfl) rfl (by rw[l0,l1])).trans ?_;rw[show [Value.int .i64 g.number]++(E++[.string ⟨#[]⟩,.int .i64 0,.string ⟨#[]⟩,.slice none 0 0,.int .i64 0])=([Value.int .i64 g.number]++E)++([.string ⟨#[]⟩]++[.int .i64 0,.string ⟨#[]⟩,.slice none 0 0,.int .i64 0]) by simp];refine(yX kM 2 (.string g.name) ([.int .i64 g.number]++E) [.string ⟨#[]⟩] [.int .i64 0,.string ⟨#[]⟩,.slice none 0 0,.int .i64 0] [.string g.name] (by rw[af_,l1];rfl) rfl rfl).trans ?_;rw[show ([Value.int .i64 g.number]++E)++([.string g.name]++[.int .i64 0,.string ⟨#[]⟩,.slice none 0 0,.int .i64 0])=([Value.int .i64 g.number]++E++[.string g.name])++([.int .i64 0]++[.string ⟨#[]⟩,.slice none 0 0,.int .i64 0]) by simp]
 refine(yX kM 3 (.int .i64 g.date) ([.int .i64 g.number]++E++[.string g.name]) [.int .i64 0] [.string ⟨#[]⟩,.slice none 0 0,.int .i64 0] [.int .i64 g.date] (by rw[af_,af_,l1];rfl) rfl rfl).trans ?_;rw[show ([Value.int .i64 g.number]++E++[.string g.name])++([.int .i64 g.date]++[.string ⟨#[]⟩,.slice none 0 0,.int .i64 0])=([Value.int .i64 g.number]++E++[.string g.name,.int .i64 g.date])++([.string ⟨#[]⟩]++[.slice none 0 0,.int .i64 0]) by simp];refine(yX kM 4 (.string g.subject) ([.int .i64 g.number]++E++[.string g.name,.int .i64 g.date]) [.string ⟨#[]⟩] [.slice none 0 0,.int .i64 0] [.string g.subject] (by rw[af_,af_,l1];rfl) rfl rfl).trans ?_;rw[show ([Value.int .i64 g.number]++E++[.string g.name,.int .i64 g.date])++([.string g.subject]++[.slice none 0 0,.int .i64 0])=([Value.int .i64 g.number]++E++[.string g.name,.int .i64 g.date,.string g.subject])++([Value.slice none 0 0]++[.int .i64 0]) by simp];refine(yX kM 5 g.refs ([.int .i64 g.number]++E++[.string g.name,.int .i64 g.date,.string g.subject]) [.slice none 0 0] [.int .i64 0] [g.refs] (by rw[af_,af_,l1];rfl) hr rfl).trans ?_
 rw[show ([Value.int .i64 g.number]++E++[.string g.name,.int .i64 g.date,.string g.subject])++([g.refs]++[Value.int .i64 0])=([Value.int .i64 g.number]++E++[.string g.name,.int .i64 g.date,.string g.subject,g.refs])++([Value.int .i64 0]++[]) by simp];refine(yX kM 6 (.int .i64 g.bytes) ([.int .i64 g.number]++E++[.string g.name,.int .i64 g.date,.string g.subject,g.refs]) [.int .i64 0] [] [.int .i64 g.bytes] (by rw[af_,af_,l1];rfl) rfl rfl).trans ?_;rw[show ([Value.int .i64 g.number]++E++[.string g.name,.int .i64 g.date,.string g.subject,g.refs])++([.int .i64 g.bytes]++[])=xH g by rw[<-hE];simp[xH]];rfl)
def xWe (i:Nat):Option (Nat×Nat):=#[(0,40),(40,1)][i]?
theorem yF4 (parts):prog.built 91 parts=Instr.fill xWe (yT uB++[Value.slice none 0 0]).toArray parts:=by kernel_rfl
theorem yC0 (w a):zB prog 91 w #[(0,.agg (xw a))]=.ok (.value (.agg (yT a++[Value.slice none 0 0]).toArray)) w:=zD (by
 show prog.built 91 [(0,.agg (xw a))]=_
 rw[yF4];exact yX xWe 0 (.agg (xw a)) [] (yT uB) [.slice none 0 0] (yT a) (by rw[yS];rfl) rfl (by rw[yS,yS]))
theorem xFh (ρ:Operand->Value)(d x0)(ty:TypeId)(pos af gd w):
  Sem.run prog (execOp ρ ⟨d,.build 91 #[(0,x0)],ty,pos,af,gd⟩) w=zB prog 91 w #[(0,ρ x0)]:=by kernel_rfl
def xWd (i:Nat):Option (Nat×Nat):=#[(0,32)][i]?
theorem yF3 (parts):prog.built 96 parts=Instr.fill xWd (xl uq).toArray parts:=by kernel_rfl
theorem yE0 (w id):zB prog 96 w #[(0,.agg (xl id).toArray)]=.ok (.value (.agg (xl id).toArray)) w:=zD (by
 show prog.built 96 [(0,.agg (xl id).toArray)]=_
 rw[yF3];have h:=yX xWd 0 (.agg (xl id).toArray) [] (xl uq) [] (xl id) (rest:=[]) (by rw[xz];rfl) rfl (by rw[xz,xz]);simp only[aM_,aG_]at h;exact h)
theorem xHn (ρ:Operand->Value)(d x0)(ty:TypeId)(pos af gd w):
  Sem.run prog (execOp ρ ⟨d,.build 96 #[(0,x0)],ty,pos,af,gd⟩) w=zB prog 96 w #[(0,ρ x0)]:=by kernel_rfl
end Go.Proofs.YtegfbhdkenkkdaaGreatDoor
