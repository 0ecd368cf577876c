/- Parts of the proofs about bulletinlaw29: Add, Delete, RemoveLaw, Remove, NameOrd, Names, SU, GroupsA, Groups, Where, Rel, EqualM, RemoveId, Fork, InOps, Range, DecLaw, DecWalk, SV, Dsk8, Jou1, Jou2, Jou3, Jou4, Jou5, Jou6, Jou7, Jou8, Stg. -/
import Derived.Test.YtegfbhdkenkkdaaGreatDoorRL1
import Derived.Test.YtegfbhdkenkkdaaGreatDoorRL2
import Derived.Shelf.SlGeneric
import Derived.Shelf.SlIter.Nil
import Derived.Shelf.SlSortCmp.NoneTotal
import Derived.Ground.GgzProg
import Derived.Ground.SlsfProg
import Derived.Test.YtegfbhdkenkkdaaGreatDoorProg
import Derived.Maps.RangeRun
import Derived.Shelf.SlMaps.Clone
import Derived.Deep.QuietTactic
import Derived.BigQuiet
set_option maxRecDepth 100000
set_option linter.all false
set_option maxHeartbeats 8000000
namespace Go.Proofs.YtegfbhdkenkkdaaGreatDoor
open Go Go.RowKit Go.Proofs Tryz
def dX_:=@List.any_eq_false
def dr_:=@List.map_toArray
def cx_:=@Array.size_setIfInBounds
def cC_:=@List.filter_cons_of_neg
def cD_:=@List.filter_cons_of_pos
def dy_:=@List.length_eraseIdx
def dn_:=@UInt8.lt_iff_toNat_lt
def do_:=@Go.Sort.heap_grow_old
def cJ_:=@Go.Sort.alloc_eq_grow
def de_:=@Array.extract_size
def cf_:=@Array.getElem?_toList
def aQ_:=@List.length_map
def dz_:=@Array.getElem_toList
def cG_:=@List.mem_filterMap
def ce_:=@Oper.upon_value
def eh_:=@List.sum_append
def bC_:=@List.map_eq_nil_iff
def dG_:=@Array.contains_push
def bQ_:=@List.mem_append_left
def bV_:=@List.mem_append_right
def cQ_:=@Nat.lt_succ_self
section
attribute [local go_sem ↓] xL xI yy yr yB yJ
attribute [local go_sem] zm zA u1 zX zb xh xf xa x9 xu xv xk xj xq xx xt
theorem xMk (B v ms n w)(h:zq B w v ms)(hn:ms.length<=65536)(hs:(nums ms).Pairwise (· < ·)):
  Calls prog 246 #[v,.int .i64 n] w λr w'=>r=.returned (.tuple #[.int .i64 (posN (nums ms) n),.bool (qe ms n)])/\Below w.heap.size w w':=by
 refine(xIu B v ms n w h hn hs).mono ?_;rintro r w' ⟨i,hi,rfl,hb⟩;rw[xRh hi];exact⟨rfl,hb⟩
theorem xA3 {ns}(hs:ns.Pairwise (· < ·))(n):qu ns n (posN ns n) (posN ns n):=by
 unfold posN;induction ns with
 |nil=>exact⟨aa_ _,aa_ _,λk h=>absurd h (by simp),λk h=>absurd h (by simp)⟩
 |cons a ns ih=>
  rw[ca_]at hs;obtain⟨_,h2,h3,h4⟩:=ih hs.2;by_cases ha:a<n
  ·rw[List.countP_cons_of_pos (by simpa using ha)];refine⟨aa_ _,by simpa using h2,λk hk WB=>?_,λk hk WB=>?_⟩
   ·cases k with
    |zero=>exact ha
    |succ k=>exact h3 k (by simpa using hk) (by omega)
   ·cases k with
    |zero=>omega
    |succ k=>exact h4 k (by simpa using hk) (by omega)
  ·rw[List.countP_cons_of_neg (by simpa using ha)];have h0:ns.countP (λk=>decide (k<n))=0:=by
    rw[List.countP_eq_zero];intro k hk;have:=hs.1 k hk;simp;omega
   rw[h0];refine⟨aa_ _,aV_ _,λk _ hk=>absurd hk (ef_ _),λk hk _=>?_⟩;cases k with
   |zero=>simp;omega
   |succ k=>
    have:=hs.1 (ns[k]'(by simpa using hk)) (bb_ _);simp;omega
theorem yBh (B ib M mc gs s x w)(h:ye B w ib M gs mc):
  Calls prog 247 #[.pointer (some ⟨ib,0,none⟩),.string s,.agg (xl x).toArray] w λr w'=>xTx (xA gs s) x w r w':=by
 by_cases hne:xA gs s=[]
 ·refine(xVb B ib M mc gs s x w h hne).mono ?_;rintro r w'⟨rfl,hb⟩;exact⟨.inl ⟨λm hm=>absurd (hne▸hm) (by simp),rfl⟩,hb⟩
 ·exact yBg B ib M mc gs s x w h hne
def xBj (ms:List ML)(x:Id32):Bool:=ms.any λm=>decide (m.p.id=x)
def jb (ms:List ML)(s:ByteArray)(p:xDs):Int:=if uw s≠0 then uw s else if pErr p≠0 then pErr p else if qe ms p.number||xBj ms p.id then 7 else 0
structure xNz (B ib M:Nat)(gs:List MG)(s:ByteArray)(p:xDs)(w w':World)(gs':List MG)(mc':Nat):Prop where
 idx:ye B w' ib M gs' mc'
 kept:Kept (foot ib M gs) w w'
 foot:xEc (Go.Proofs.YtegfbhdkenkkdaaGreatDoor.foot ib M gs) (Go.Proofs.YtegfbhdkenkkdaaGreatDoor.foot ib M gs') w
 lines:∃v,(∀k,v.ownBlock=some k->w.heap.size<=k)/\∀t,xA gs' t=if t=s then qO (xA gs s) (posN (nums (xA gs s)) p.number) ⟨p,v⟩else xA gs t
 tot:xR gs'=xR gs+1
def yDv (B ib M:Nat)(gs:List MG)(s:ByteArray)(p:xDs)(w:World)(r:Ending)(w':World):Prop:=
 r=.returned (.int .i64 (jb (xA gs s) s p))/\((jb (xA gs s) s p≠0/\Below w.heap.size w w')\/(jb (xA gs s) s p=0/\∃gs' mc',xNz B ib M gs s p w w' gs' mc'))
theorem xE4 {ms}(h:∀m∈ms,m.v.oneCell'=true):∀u∈yq ms,u.oneCell'=true:=by
 intro u hu;unfold yq at hu;obtain⟨m,hm,hu⟩:=bg_.1 hu;exact qq (g:=m.g) (h m hm) u hu
structure S21 (B ib gb nb lb tot M:Nat)(vL:Value)(ms:List ML)(nl:List (KE Id32))(nc:Nat)(g:j0)(ids:List Id32)(w:World):Prop where
 grp:w.heap[gb]?=some (.cells #[vL,.map (some nb)] 253 (0,0))
 num:y4 ekI w nb nl nc
 lines:zq B w vL ms
 line:xZ w lb g
 idx:w.heap[ib]?=some (.cells #[.map (some M),.int .i64 tot] 163 (0,0))
 vlb:vL.ownBlock≠some lb
 refs:zj 0 w g.refs ids
def Cls (gb lb:Nat)(vL:Value)(g:j0):Type:={ w:World // w.cell? ⟨gb,0,none⟩=some vL/\xZ w lb g }
theorem jB {a b}{s t:TypeId}{f f'}(h:some (Obj.cells a s f)=some (.cells b t f')):s=t:=by cases h;rfl
theorem S21.lts {B ib gb nb lb tot M vL ms nl nc g ids w}(h:S21 B ib gb nb lb tot M vL ms nl nc g ids w):gb<w.heap.size/\nb<w.heap.size/\lb<w.heap.size/\ib<w.heap.size:=
 ⟨(i_ h.grp).1,h.num.lt,h.line.lt,(i_ h.idx).1⟩
theorem S21.cls {B ib gb nb lb tot M vL ms nl nc g ids w w'}(h:S21 B ib gb nb lb tot M vL ms nl nc g ids w)(hb:Below w.heap.size w w'):w'.cell? ⟨gb,0,none⟩=some vL/\xZ w' lb g:=
 ⟨cell_of_row w' gb 0 _ _ _ ((hb.block gb h.lts.1).trans h.grp),h.line.below hb h.lts.2.2.1⟩
theorem S21.apart {B ib gb nb lb tot M vL ms nl nc g ids w}(h:S21 B ib gb nb lb tot M vL ms nl nc g ids w):
  vL.ownBlock≠some gb/\nb≠gb/\lb≠gb/\lb≠nb/\vL.ownBlock≠some nb/\vL.ownBlock≠some ib/\ib≠gb/\ib≠nb/\lb≠ib:=by
 have hn:=h.num;have hl:=h.line;unfold y4 at hn;unfold xZ at hl;refine⟨λe=>?_,λe=>?_,λe=>?_,λe=>?_,λe=>?_,λe=>?_,λe=>?_,λe=>?_,λe=>?_⟩
 ·obtain⟨c,h1⟩:=yR h.lines.row e;rw[h.grp]at h1;cases h1
 ·rw[e,h.grp]at hn;cases hn
 ·rw[e,h.grp]at hl;exact absurd (jB hl) (by decide)
 ·rw[e,hn]at hl;cases hl
 ·obtain⟨c,h1⟩:=yR h.lines.row e;rw[hn]at h1;cases h1
 ·obtain⟨c,h1⟩:=yR h.lines.row e;rw[h.idx]at h1;cases h1
 ·have:=h.idx;rw[e,h.grp]at this;cases this
 ·have:=h.idx;rw[e,hn]at this;cases this
 ·rw[e,h.idx]at hl;exact absurd (jB hl) (by decide)
structure S24 (B ib gb nb tot M:Nat)(vL v':Value)(ms':List ML)(nl:List (KE Id32))(nc:Nat)(w6 w':World):Prop where
 grp:w'.heap[gb]?=some (.cells #[v',.map (some nb)] 253 (0,0))
 num:y4 ekI w' nb nl nc
 lines:zq B w' v' ms'
 idx:w'.heap[ib]?=some (.cells #[.map (some M),.int .i64 ((tot+1:Nat):Int)] 163 (0,0))
 own:v'.ownBlock=vL.ownBlock\/∃k,v'.ownBlock=some k/\w6.heap.size<=k
 kept:Kept (ib :: ([gb,nb]++vL.ownBlock.toList)) w6 w'
theorem zj.typed {B w v ids}(h:zj B w v ids){k}(hk:v.ownBlock=some k):∃cur,w.heap[k]?=some (.cells cur 33 (0,0)):=yR h hk
theorem xYw {B ib M mc gs s p w w6 w'}(h:ye B w ib M gs mc)(hb:Below w.heap.size w w6){G}(hG:ym gs s=some G){v' v}(hv:∀k,v.ownBlock=some k->w.heap.size<=k)(hn:qe (xA gs s) p.number=false)(hi:xBj (xA gs s) p.id=false)(hp:pErr p=0)(ci:xR gs<65536)
  (hs:S24 B ib G.gb G.nb (xR gs) M G.v v' (qO G.ms (posN (nums (xA gs s)) p.number) ⟨p,v⟩) (G.nl++[⟨p.id,.int .i64 p.number,G.nc⟩]) (G.nc+1) w6 w'):∃gs' mc',xNz B ib M gs s p w w' gs' mc':=by
 obtain⟨fh,pZ⟩:=yM hG;have ig:xA gs s=G.ms:=by unfold xA;rw[hG]
 have cV:=h.grps G fh;have gG:=xA3 (h.sorted s) p.number;rw[ig]at hn hi gG hs;have hle:posN (nums G.ms) p.number<=G.ms.length:=by have:=gG.2.1;rwa [yL]at this
 have ez:=cV.pure.add (i:=posN (nums G.ms) p.number) (m:=⟨p,v⟩) G.nc gG hn (λx hx e=>by
  unfold xBj at hi;rw[dX_]at hi;exact hi x hx (by simpa using e)) hp
 obtain⟨G',fg⟩:∃G':MG,G'=⟨G.name,G.born,G.gb,G.nb,v',qO G.ms (posN (nums G.ms) p.number) ⟨p,v⟩,G.nl++[⟨p.id,.int .i64 p.number,G.nc⟩],G.nc+1⟩:=⟨_,rfl⟩;have aB:uz B w' G':=by
  rw[fg];exact⟨hs.grp,hs.lines,hs.num,ez.agree,ez.ids,ez.sorted,ez.good,cV.named,by unfold qO;simp,cV.gbB,cV.nbB⟩
 have ht:=xBr (G':=G') h.names hG;have ao:G'.ms.length=G.ms.length+1:=by rw[fg];exact vY hle
 have GT:xR (qD gs s G')=xR gs+1:=by omega
 have hk:Kept (ib :: G.foot) w w':=by
  refine Kept.trans (F:=ib :: G.foot) (F':=ib :: G.foot) (Kept.of_below hb) ?_ (λk hk=>.inl hk);exact hs.kept
 have:=h.upd (w':=w') (G':=G') hG (by rw[fg]) (by rw[fg]) (by rw[fg]) (by rw[fg]) (by
   rw[fg];rcases hs.own with h1|⟨k,h1,h2⟩
   ·exact .inl h1
   ·exact .inr ⟨k,h1,by have:=hb.size;omega⟩) aB (by rw[GT];exact hs.idx) hk (by omega)
 refine⟨_,mc,this.1,hk.mono λk hk _=>?_,this.2,⟨v,hv,λt=>?_⟩,GT⟩
 ·unfold foot;rcases ae_.1 hk with rfl|hk
  ·simp
  ·exact ae_.2 (.inr (ae_.2 (.inr (bg_.2 ⟨G,fh,hk⟩))))
 ·rw[xDi t hG (by rw[fg];exact pZ),ig,fg]
theorem xYx {B ib M mc gb nb gs s p w w6 w'}(h:ye B w ib M gs mc)(hG:ym gs s=none){v' v}(hv:∀k,v.ownBlock=some k->w.heap.size<=k)(hn:uw s=0)(hp:pErr p=0)(ci:xR gs<65536)
  (dq:Kept [M] w w6) (wG:y4 ekS w6 M (gs.map MG.e++[⟨s,.pointer (some ⟨gb,0,none⟩),mc⟩]) (mc+1)) (tJ:w.heap.size<=gb) (eF:w.heap.size<=nb) (lZ:gb≠nb) (eH:gb<w6.heap.size) (dY:nb<w6.heap.size) (mb:ib≠M)
  (hs:S24 B ib gb nb (xR gs) M (.slice none 0 0) v' (qO [] (posN (nums (xA gs s)) p.number) ⟨p,v⟩) ([]++[⟨p.id,.int .i64 p.number,0⟩]) (0+1) w6 w'):∃gs' mc',xNz B ib M gs s p w w' gs' mc':=by
 have ig:xA gs s=[]:=by unfold xA;rw[hG]
 have hB:B<=w.heap.size:=by have:=h.foot_lt ib (by simp[foot]);omega
 have CI:=h.map.lt;rw[ig]at hs;have ez:=jo.nil.add (i:=0) (m:=⟨p,v⟩) 0 ⟨aa_ _,aa_ _,λk h=>absurd h (by simp[nums]),λk h=>absurd h (by simp[nums])⟩ rfl (λx hx=>by cases hx) hp;obtain⟨G',fg⟩:∃G':MG,G'=⟨s,mc,gb,nb,v',qO [] (posN (nums []) p.number) ⟨p,v⟩,[]++[⟨p.id,.int .i64 p.number,0⟩],0+1⟩:=⟨_,rfl⟩;have aB:uz B w' G':=by
  rw[fg];exact⟨hs.grp,hs.lines,hs.num,ez.agree,ez.ids,ez.sorted,ez.good,hn,by unfold qO;simp,by simp;omega,by simp;omega⟩
 have ae:∀k,v'.ownBlock=some k->w6.heap.size<=k:=by
  intro k hk;rcases hs.own with h1|⟨k',h1,h2⟩
  ·rw[h1]at hk;cases hk
  ·rw[h1]at hk;cases hk;exact h2
 have AO:∀k∈G'.foot,w.heap.size<=k:=by
  intro k hk;rw[fg]at hk;unfold MG.foot at hk;simp only[aj_,ae_,bq_,or_false,aT_]at hk;rcases hk with (rfl|rfl)|hk
  ·exact tJ
  ·exact eF
  ·have:=ae k hk;have:=dq.size;omega
 have SW:G'.foot.Nodup:=by
  rw[fg];unfold MG.foot;cases hv:v'.ownBlock with
  |none=>simp[lZ]
  |some k=>
   have:=ae k hv;simp[lZ];omega
 have GT:xR (gs++[G'])=xR gs+1:=by rw[xXd,fg];rfl
 have hk:Kept [ib,M] w w':=by
  refine Kept.trans (F:=[ib,M]) (dq.mono λk hk _=>by simp at hk⊢;exact .inr hk) hs.kept (λk hk=>?_);simp only[Value.ownBlock,Option.toList_none,aG_,ae_,bq_,or_false]at hk;rcases hk with rfl|rfl|rfl
  ·simp
  ·exact .inr tJ
  ·exact .inr eF
 have WH:y4 ekS w' M ((gs++[G']).map MG.e) (mc+1):=by
  unfold y4 at wG⊢;rw[hs.kept.block M (by have:=dq.size;omega) (by simp[Value.ownBlock];exact⟨λe=>mb e.symm,by omega,by omega⟩),wG,fg];simp only[bl_];rfl
 have:=h.new (w':=w') (G':=G') hG (by rw[fg]) (by rw[fg]) AO SW aB (by rw[GT];exact hs.idx) WH hk (by omega);refine⟨_,mc+1,this.1,hk.mono λk hk _=>?_,this.2,⟨v,hv,λt=>?_⟩,GT⟩
 ·unfold foot;simp only[ae_,bq_,or_false]at hk;rcases hk with rfl|rfl
  ·simp
  ·simp
 ·rw[xRw t hG (by rw[fg]),ig,fg]
theorem yDo (B ib M mc gs s p v0 w)(hG:Gl w)(h:ye B w ib M gs mc)(hs:s.size<=maxLen)(hO:xGm w (ML.g ⟨p,v0⟩) p.ids)(hI:zj 0 w v0 p.ids)(ci:xR gs<65536):
  Calls prog 203 #[.pointer (some ⟨ib,0,none⟩),.string s,.agg (xd (ML.g ⟨p,v0⟩))] w λr w'=>yDv B ib M gs s p w r w':=by
 obtain⟨g,hg⟩:∃g,g=ML.g ⟨p,v0⟩:=⟨_,rfl⟩;have lZ:g.number=p.number:=by rw[hg];rfl
 have EP:g.id=p.id:=by rw[hg];rfl
 have cV:g.refs=v0:=by rw[hg];rfl
 have hge:xI7 g p.ids=pErr p:=by rw[hg];rfl
 have WL:∀v,{ g with refs:=v }=ML.g ⟨p,v⟩:=λv=>by rw[hg];rfl
 rw[<-hg]at hO⊢;rw[<-cV]at hI;have bf:Below w.heap.size w (w.alloc (.cells (xd g) 204)):=(ab_ _ _).alloc (aa_ _) _;have WN:xZ (w.alloc (.cells (xd g) 204)) w.heap.size g:=heap_alloc_new _ _;have SX:=h_ WN;have db:=h_ bf;have HX:=h_ h;have HO:=h_ hO;have HI:=h_ hI;have QB:=h_ WL;have GU:=h_ lZ;have QC:=h_ EP;have Mm:=h_ hge;clear WN bf h hO hI WL lZ EP hge hg cV;go_enter func203,ntmps203;go_wp2_with fail;refine(xDh s _ (hG.later db.out) hs).mono ?_;rintro r w1 ⟨rfl,aa⟩;have pL:xZ w1 w.heap.size g:=SX.below aa (by simp);have eO:Below w.heap.size w w1:=db.trans (aa.mono (by simp));have aK:w.heap.size<w1.heap.size:=pL.lt;by_cases hne:uw s=0
 case neg=>
  have HA:Hid (jb (xA gs s) s p=uw s):=h_ (by unfold jb;rw[if_pos hne]);have ar:=h_ eO;clear aa pL eO SX db;generalize uw s=e at hne HA⊢;have CA:(e != 0)=true:=by simpa using hne
  have SY:(e==0)=false:=by simpa using hne
  go_wp2;go_ret;exact⟨by rw[HA.out];try rfl,.inl ⟨by rw[HA.out];exact hne,ar.out⟩⟩
 have pz:=h_ hne;rw[hne];obtain⟨o1,d1⟩:=pL.rd;have Da:=h_ pL;have ar:=h_ eO;clear aa pL eO SX db;go_wp2_with fail;refine(xLm g p.ids w1 (HO.below ar.out)).mono ?_;rintro r w2 ⟨rfl,aj⟩;rw[Mm.out];have my:xZ w2 w.heap.size g:=Da.below aj aK;have dh:Below w.heap.size w w2:=ar.trans (aj.mono ar.size);have cT:w.heap.size<w2.heap.size:=my.lt;clear o1 d1 aj Da ar aK;by_cases hpe:pErr p=0
 case neg=>
  have HA:Hid (jb (xA gs s) s p=pErr p):=h_ (by unfold jb;rw[if_neg (by simpa using pz.out),if_pos hpe]);have au:=h_ dh;clear my dh;clear hne;generalize pErr p=e at hpe HA⊢;have CA:(e != 0)=true:=by simpa using hpe
  have SY:(e==0)=false:=by simpa using hpe
  go_wp2;go_ret;exact⟨by rw[HA.out];try rfl,.inl ⟨by rw[HA.out];exact hpe,au.out⟩⟩
 have J8:=h_ hpe;rw[hpe];clear hpe hne;have iM:=HX.below dh;have n2:∀z:x8 w2,z.1.cell? ⟨w.heap.size,0,none⟩=some (.int .i64 g.number):=λz=>z.cell ((my.cell 0).trans (lc0 g))
 have wk:=h_ my;have au:=h_ dh;have c1:∀z:x8 w2,Calls prog 89 #[.pointer (some ⟨ib,0,none⟩),.string s] z.1 λr w'=>r=.returned (vD gs s)/\∃z':x8 w2,w'=z'.1:=λz=>x8.call ((js B ib M mc gs s z.1 (iM.below z.2)).mono λ_ _ ⟨a,b⟩=>⟨a,b▸ab_ _ _⟩)
 have c2:∀z:x8 w2,Calls prog 246 #[vD gs s,.int .i64 g.number] z.1 λr w'=>r=.returned (.tuple #[.int .i64 (posN (nums (xA gs s)) g.number),.bool (qe (xA gs s) g.number)])/\∃z':x8 w2,w'=z'.1:=λz=>x8.call (xMk B _ _ _ z.1 ((iM.below z.2).lines s) (iM.len s) (iM.sorted s))
 obtain⟨va,vc,gH⟩:=jc iM s;have ou:=h_ gH;have C1:=h_ c1;have C2:=h_ c2;clear c1 c2 my dh iM gH;rw[ou.out]at C1 C2;obtain⟨pos,gG⟩:∃i:Nat,i=posN (nums (xA gs s)) g.number:=⟨_,rfl⟩;rw[<-gG]at C2;have tK:=h_ gG;clear gG;generalize (xA gs s).length=len at C1 C2 ou;go_wp2_with fail;refine xAt 10 (λw'=>∃z:x8 w2,w'=z.1) (by kernel_rfl) (by kernel_rfl) ⟨⟨_,(ab_ _ _).drew⟩,rfl⟩ ?_;simp only[cU_,dP_,dC_,dQ_]
 repeat (go_big_quiet_step (first|(go_at_call 89;exact C1.out _)|(go_at_call 246;exact C2.out _)))
 refine wpQuiet_nil ?_;rintro _ ⟨z,rfl⟩;clear n2 C1 C2;obtain⟨w3,al⟩:=z;simp only;have QD:xZ w3 w.heap.size g:=wk.below al cT;have cU:Below w.heap.size w w3:=au.trans (al.mono au.size);have eT:w.heap.size<w3.heap.size:=QD.lt;clear wk au cT al;obtain⟨o3,d3⟩:=QD.idAt;have HF:=h_ (yBh B ib M mc gs s g.id w3 (HX.below cU));have WO:=h_ QD;have ay:=h_ cU;have bJ:xy 38 (xd xJ)=true:=qy rfl;have pH:((xd xJ).size==38)=true:=by rw[xP];rfl
 clear QD cU;go_wp2_with fail;refine HF.mono ?_;rintro r w4 ⟨oo,aQ⟩;have J9:xZ w4 w.heap.size g:=WO.below aQ eT;have ik:Below w.heap.size w w4:=ay.trans (aQ.mono ay.size);have fR:w.heap.size<w4.heap.size:=J9.lt;clear o3 d3 HF WO ay aQ eT;have GV:∃fl:j0,jN fl/\r=.returned (.tuple #[.agg (xd fl),.bool (xBj (xA gs s) p.id)]):=by
  rcases oo with⟨bp,rfl⟩|⟨m,hm,hid,v,rfl,hIv⟩
  ·refine⟨xJ,rfl,?_⟩;have:xBj (xA gs s) p.id=false:=by
    unfold xBj;rw[dX_];intro m hm;have:=bp m hm;rw[QC.out]at this;simpa using this
   rw[this]
  ·refine⟨{ m.g with refs:=v },hIv.one,?_⟩;have:xBj (xA gs s) p.id=true:=by
    unfold xBj;rw[dY_];exact⟨m,hm,by rw[<-QC.out];simpa using hid⟩
   rw[this]
 obtain⟨fl,wF,rfl⟩:=GV;clear oo;have aF:Below w4.heap.size w4 (w4.alloc (.cells (xd fl) 204)):=(ab_ _ _).alloc (aa_ _) _;have SZ:xZ (w4.alloc (.cells (xd fl) 204)) w.heap.size g:=J9.below aF fR;have pT:Below w.heap.size w (w4.alloc (.cells (xd fl) 204)):=ik.trans (aF.mono ik.size);have nt:w.heap.size<(w4.alloc (.cells (xd fl) 204)).heap.size:=SZ.lt;have GW:=h_ SZ;have aU:=h_ pT;have ma:=qy (g:=fl) wF;have S0:((xd fl).size==38)=true:=by rw[xP];rfl
 clear aF SZ pT J9 ik fR;rw[GU.out];go_upto_region 11 with (fail)
 generalize w4.alloc (.cells (xd fl) 204)=w5 at GW aU nt⊢;clear bJ pH ma S0;by_cases hdup:(qe (xA gs s) p.number||xBj (xA gs s) p.id)=true
 ·have HA:Hid (jb (xA gs s) s p=7):=h_ (by unfold jb;rw[if_neg (by simpa using pz.out),if_neg (by simpa using J8.out),if_pos hdup]);generalize qe (xA gs s) p.number=b1 at hdup⊢;generalize xBj (xA gs s) p.id=b2 at hdup⊢;cases b1 with
  |true=>
   go_wp2;go_ret;exact⟨by rw[HA.out];try rfl,.inl ⟨by rw[HA.out];decide,aU.out⟩⟩
  |false=>
   obtain rfl:b2=true:=by simpa using hdup
   go_wp2;go_ret;exact⟨by rw[HA.out];try rfl,.inl ⟨by rw[HA.out];decide,aU.out⟩⟩
 have HA:Hid (jb (xA gs s) s p=0):=h_ (by unfold jb;rw[if_neg (by simpa using pz.out),if_neg (by simpa using J8.out),if_neg hdup]);obtain⟨az,aA⟩:qe (xA gs s) p.number=false/\xBj (xA gs s) p.id=false:=by simpa using hdup
 have cz:=h_ az;have bQ:=h_ aA;rw[az,aA];clear hdup az aA;have nu:=HX.below aU.out;have hc0:=nu.cell0;have dO:=nu.cell1;have cW:=nu.look s;have ie:¬ (65536:Int)<=(xR gs:Int):=by omega
 have E7:decide ((xR gs:Int)>=65536)=false:=by simp;omega
 have Du:=λ(u:World)=>run_eql_map_nil (P:=prog) u 161 9 250 (some M) underlying161
 cases hgo:ym gs s with
 |some G=>
  rw[hgo]at cW;simp only[aU_,cr_]at cW;obtain⟨fh,pZ⟩:=yM hgo;have cV:=nu.grps G fh;have ig:xA gs s=G.ms:=by unfold xA;rw[hgo]
  have HS:Hid (S21 B ib G.gb G.nb w.heap.size (xR gs) M G.v G.ms G.nl G.nc g p.ids w5):=h_ {
   grp:=cV.blk
   num:=cV.nums
   lines:=cV.lines
   line:=GW.out
   idx:=nu.blk
   vlb:=λe=>by have:=(aL_ (HX.grps G fh).lines.row _ e).2;omega
   refs:=HI.below aU.out }
  have w_:Hid (w.heap.size<=w5.heap.size):=h_ aU.size;have iN:Hid (∀w' v' v,(∀k,v.ownBlock=some k->w.heap.size<=k)->S24 B ib G.gb G.nb (xR gs) M G.v v' (qO G.ms pos ⟨p,v⟩) (G.nl++[⟨p.id,.int .i64 p.number,G.nc⟩]) (G.nc+1) w5 w'->∃gs' mc',xNz B ib M gs s p w w' gs' mc'):=h_ (λw' v' v hv GX=>xYw HX.out aU.out hgo hv cz.out bQ.out J8.out ci (by rw[<-GU.out,<-tK.out];rw[GU.out];exact GX));have mh:Hid (yN p.id G.nl 0=none):=h_ (cV.find_no λm hm e=>by
   have:=bQ.out;unfold xBj at this;rw[dX_]at this;exact this m (ig▸hm) (by simpa using e))
  have ft:Hid (pos<=G.ms.length):=h_ (by
   have:=(xA3 (nu.sorted s) g.number).2.1;rw[yL,ig]at this;rw[tK.out,ig];exact this)
  have ij:Hid (G.ms.length<=65536):=h_ (by rw[<-ig];exact nu.len s);have fX:Hid (B<=w5.heap.size):=h_ (by have:=(nu.foot_lt ib (by simp[foot]));omega);clear nu cV ig fh pZ;generalize G.gb=gb at cW HS iN;generalize G.nb=nb at HS iN;generalize G.v=vL at HS iN;generalize G.ms=ms at HS iN ft ij;generalize G.nl=nl at HS iN mh;generalize G.nc=nc at HS iN;go_upto_region 21 with (fail)
  clear hgo cW hc0 dO ie E7 Du GW aU HX cz bQ ou tK nt G;obtain⟨vla,vln,vlc,mB⟩:∃a n c,vL=.slice a n c:=by
   rcases HS.lines.head with⟨e,_⟩|⟨_,cap,e,_⟩
   ·exact⟨_,_,_,e⟩
   ·exact⟨_,_,_,e⟩
  have Gv:=h_ mB
  haveI:Nonempty (Cls gb w.heap.size vL g):=⟨⟨w5,HS.cls (ab_ _ _)⟩⟩
  have q1:∀z:Cls gb w.heap.size vL g,z.1.cell? ⟨gb,0,none⟩=some (.slice vla vln vlc):=λz=>mB▸z.2.1
  have q2:∀z:Cls gb w.heap.size vL g,xo z.1 ⟨w.heap.size,0,none⟩ 38=true:=λz=>z.2.2.rd.1
  have q3:∀z:Cls gb w.heap.size vL g,xm z.1 ⟨w.heap.size,0,none⟩ 38=xd g:=λz=>z.2.2.rd.2
  clear mB;refine xp [0,1,2,3,4,5,6] [7,8,9,10,11,12] (λw'=>∃z:Cls gb w.heap.size vL g,w'=z.1) (by kernel_rfl) (by kernel_rfl) (by kernel_rfl) ⟨⟨_,HS.cls (ab_ _ _).drew⟩,rfl⟩ ?_;simp only[o_]
  repeat (go_big_quiet_step (fail))
  refine wpQuiet_nil ?_;clear q1 q2 q3;have bD:Below w5.heap.size w5 w5.drew:=(ab_ _ _).drew;generalize w5.drew=w7 at bD⊢;refine uW true rfl (by kernel_rfl) ?_;go_wp2_with fail;refine(xD5 0 g p.ids w7 (HS.refs.below bD) (by have:=xEp J8.out;omega)).mono ?_;rintro r w8⟨v,rfl,GY,dj⟩;have bP:=GY.one;have ly:Below w5.heap.size w5 w8:=bD.trans (dj.mono bD.size);have AP:=HS.cls ly;obtain⟨g8,m_⟩:∃g8:j0,g8=ML.g ⟨p,v⟩:=⟨_,rfl⟩;have AQ:jN g8:=by rw[m_];exact bP
  rw[QB.out v,<-m_];have J2:=h_ m_;clear m_;have Mn:=h_ (GY.mono bD.size);obtain⟨i0,hi,bd,aL,bk⟩:=info_parts Tryz.info_line;go_wp2_with fail;refine⟨λ_=>⟨⟨_,AP⟩,rfl⟩,uW true rfl (by kernel_rfl) ?_⟩;refine wpList_buildSlice rfl 201 204 1 _ rfl (xd g8) i0 _ underlying201 hi bd (by rw[aL];decide) (by rw[aL];decide) (by rw[aL];simp only[dr_,au_,cq_];refine kv _ _ 38 (xP _) ?_;rw[dk_,cP_]) ?_;obtain⟨w9,fV⟩:∃w9,w9=w8.alloc (.cells (xd g8) 204):=⟨_,rfl⟩;have iK:Below w8.heap.size w8 w9:=by rw[fV];exact b_ _ _
  have fc:Below w5.heap.size w5 w9:=ly.trans (iK.mono ly.size);have wH:w9.heap[w8.heap.size]?=some (.cells (xd g8) 204 (0,0)):=by rw[fV];exact heap_alloc_new _ _
  have GZ:=HS.lines.below fc;have AR:Calls prog 248 #[.slice vla vln vlc,.int .i64 pos,.slice (some ⟨w8.heap.size,0,none⟩) 1 1] w9 λr w'=>∃v',r=.returned v'/\w'.ownsRow B 204 38 v' (ms.length+1) ((yq ms).take (pos*38)++xH g8++(yq ms).drop (pos*38))/\w9.grownBy w' vL.ownBlock/\(v'.ownBlock=vL.ownBlock\/v'.ownBlock=some w9.heap.size):=by
   have:=xJx B vL ms.length pos w8.heap.size (yq ms) g8 w9 AQ (xE4 λm hm=>(GZ.refs m hm).one) GZ.row (by have:=fX.out;have:=fc.size;omega) ij.out ft.out wH (λe=>by have:=(aL_ HS.lines.row _ e).2;have:=ly.size;omega);rw[Gv.out]at this⊢;exact this
  rw[<-fV];have AS:=h_ AR;have fW:=h_ fc;have Mo:=h_ (Mn.below iK);have Mp:=HS.cls fc;clear AR fc iK fV GZ wH Mn GY dj ly AP bD;go_wp2_with fail;refine⟨λ_=>⟨⟨_,Mp⟩,rfl⟩,uW true rfl (by kernel_rfl) ?_⟩;clear Mp;go_wp2_with fail;refine AS.mono ?_;rintro r bn ⟨v',rfl,ae,aR,aB⟩;have Dv:∀k,k<w5.heap.size->vL.ownBlock≠some k->bn.heap[k]?=w5.heap[k]?:=λk hk hv=>(aR.block k (by have:=fW.size;omega) (λe=>hv e.symm)).trans (fW.block k hk)
  obtain⟨d1,d2,d3,d4,d5,d6,d7,d8,d9⟩:=HS.apart;obtain⟨l1,l2,l3,l4⟩:=HS.lts;have cJ:=(Dv gb l1 d1).trans HS.grp;have iO:bn.cell? ⟨gb,0,none⟩=some vL/\xZ bn w.heap.size g:=⟨cell_of_row bn gb 0 _ _ _ cJ,(Dv _ l3 HS.vlb).trans HS.line⟩;obtain⟨va,vc,fB⟩:∃va vc,v'=.slice (some ⟨va,0,none⟩) (ms.length+1) vc:=by
   rcases ae.2 with⟨_,h0⟩|⟨g',cap',_,e,_⟩
   ·omega
   ·exact⟨g',cap',e⟩
  go_wp2_with fail;refine⟨λ_=>⟨⟨_,iO⟩,rfl⟩,xB [10,11,12] _ _ (by kernel_rfl) ?_⟩;simp only[o_];have E8:=iO.1;rw[Gv.out]at E8;have S1:=frozen_of_row bn gb 0 _ _ cJ;obtain⟨aW,eo⟩:∃aW,aW=bn.setCell ⟨gb,0,none⟩ v':=⟨_,rfl⟩;have ov:aW.heap[gb]?=some (.cells #[v',.map (some nb)] 253 (0,0)):=by rw[eo];exact heap_setCell_same bn gb 0 _ _ v' cJ
  have Mq:∀k,k≠gb->aW.heap[k]?=bn.heap[k]?:=λk hk=>by rw[eo];exact heap_setCell_other bn ⟨gb,0,none⟩ k _ hk
  have AT:aW.heap.size=bn.heap.size:=by rw[eo];simp[World.setCell]
  have AU:aW.os=bn.os/\aW.tape=bn.tape/\aW.output=bn.output:=by rw[eo];exact⟨rfl,rfl,rfl⟩
  have dl:=h_ ae;have eY:=h_ aR;have pA:=h_ aB;have dK:=h_ Dv;have AV:=h_ ov;have nw:=h_ Mq;have p9:=h_ AU;have lz:=h_ iO;have HV':=h_ fB;have ny:=h_ eo;have G1:=h_ AT;clear ae aR aB Dv ov Mq AU cJ iO eo AT;subst fB;go_wp2;refine ag_ ?_;go_upto_region 22 with (fail)
  rw[<-ny.out];clear E8 S1 ny AS;have lA:xZ aW w.heap.size g:=(nw.out _ d3).trans lz.2;have AW:y4 ekI aW nb nl nc:=((nw.out _ d2).trans (dK.out nb l2 d5)).trans HS.num;have gI:=lA.lt;have q1:∀z:x8 aW,z.1.cell? ⟨gb,1,none⟩=some (.map (some nb)):=λz=>z.cell (cell_of_row aW gb 1 _ _ _ AV.out)
  have q2:∀z:x8 aW,xo z.1 ⟨w.heap.size,1,none⟩ 32=true:=λz=>(lA.below z.2 gI).idAt.1
  have q3:∀z:x8 aW,xm z.1 ⟨w.heap.size,1,none⟩ 32=(xl p.id).toArray:=λz=>(lA.below z.2 gI).idAt.2.trans (by rw[QC.out])
  have q4:∀z:x8 aW,z.1.cell? ⟨w.heap.size,0,none⟩=some (.int .i64 p.number):=λz=>((lA.below z.2 gI).cell 0).trans ((lc0 g).trans (by rw[GU.out]))
  have AX:=h_ AW;clear AW lA gI;refine xp [0,1,2,3,4,5,6,7] [8] (λw'=>∃z:x8 aW,w'=z.1) (by kernel_rfl) (by kernel_rfl) (by kernel_rfl) ⟨⟨_,(ab_ _ _).drew⟩,rfl⟩ ?_;simp only[o_]
  repeat (go_big_quiet_step (fail))
  refine wpQuiet_nil ?_;clear q1 q2 q3 q4;have dB:(Instr.mapUpdate 251 (.map (some nb)) (.agg (xl p.id).toArray) (.int .i64 p.number)).run prog aW.drew=.ok () (aW.drew.putObj nb (.map ((nl++[(⟨p.id,.int .i64 p.number,nc⟩:KE Id32)]).map (enE ekI)).toArray (nc+1))):=
   xEt keyI underlying251 aW.drew nb nl nc AX.out p.id _ mh.out
  obtain⟨w12,ep⟩:∃w12,w12=aW.drew.putObj nb (.map ((nl++[(⟨p.id,.int .i64 p.number,nc⟩:KE Id32)]).map (enE ekI)).toArray (nc+1)):=⟨_,rfl⟩;have G3:∀k,k≠nb->w12.heap[k]?=aW.heap[k]?:=λk hk=>by rw[ep,aB_ hk];rfl
  have iP:w12.heap.size=aW.heap.size:=by rw[ep];simp only[World.putObj,cx_];rfl
  have AY:y4 ekI w12 nb (nl++[⟨p.id,.int .i64 p.number,nc⟩]) (nc+1):=by rw[ep];exact y4.put (w:=aW.drew) AX.out
  have AZ:w12.os=aW.os/\w12.tape=aW.tape/\w12.output=aW.output:=by rw[ep];exact⟨rfl,rfl,rfl⟩
  rw[<-ep]at dB;have A0:=h_ G3;have ow:=h_ iP;have G4:=h_ AY;have p_:=h_ AZ;have A1:=(G3 ib d8).trans ((nw.out ib d7).trans ((dK.out ib l4 d6).trans HS.idx));have q_:=h_ A1;clear ep G3 iP AY AZ A1;refine xB [8] _ _ (by kernel_rfl) ?_;simp only[o_];go_wp2;refine ag_ ?_;have CD:=cell_of_row w12 ib 1 _ _ _ q_.out;have mJ:=frozen_of_row w12 ib 1 _ _ q_.out;clear dB;go_wp2;obtain⟨dA,eI⟩:∃dA,dA=w12.setCell ⟨ib,1,none⟩ (.int .i64 ((xR gs:Int)+1)):=⟨_,rfl⟩;have A2:dA.heap[ib]?=some (.cells #[.map (some M),.int .i64 ((xR gs+1:Nat):Int)] 163 (0,0)):=by
   rw[eI];have:=heap_setCell_same w12 ib 1 _ _ (.int .i64 ((xR gs:Int)+1)) q_.out;rw[this];rfl
  have Dx:∀k,k≠ib->dA.heap[k]?=w12.heap[k]?:=λk hk=>by rw[eI];exact heap_setCell_other w12 ⟨ib,1,none⟩ k _ hk
  have G5:dA.heap.size=w12.heap.size:=by rw[eI];simp[World.setCell]
  have nz:dA.os=w12.os/\dA.tape=w12.tape/\dA.output=w12.output:=by rw[eI];exact⟨rfl,rfl,rfl⟩
  rw[<-eI];have eAll:∀k,k≠ib->k≠gb->k≠nb->dA.heap[k]?=bn.heap[k]?:=λk k1 k2 k3=>(Dx k k1).trans ((A0.out k k3).trans (nw.out k k2))
  have GX:S24 B ib gb nb (xR gs) M vL (.slice (some ⟨va,0,none⟩) (ms.length+1) vc) (qO ms pos ⟨p,v⟩) (nl++[⟨p.id,.int .i64 p.number,nc⟩]) (nc+1) w5 dA:=by
   have hid:∀{k:Nat} {cur:Array Value},bn.heap[k]?=some (Obj.cells cur 33 (0,0))->dA.heap[k]?=bn.heap[k]?:=λ{k cur} hk=>eAll k
    (λe=>by rw[e,dK.out ib l4 d6,HS.idx]at hk;cases hk) (λe=>by rw[e,dK.out gb l1 d1,HS.grp]at hk;cases hk)
    (λe=>by have h1:=HS.num;unfold y4 at h1;rw[e,dK.out nb l2 d5,h1]at hk;cases hk)
   refine⟨(Dx gb (λe=>d7 e.symm)).trans ((A0.out gb (λe=>d2 e.symm)).trans AV.out),(Dx nb (λe=>d8 e.symm)).trans G4.out,⟨?_,?_⟩,A2,?_,?_⟩
   ·have h1:=dl.out;rw[J2.out,<-xSp,<-vY ft.out]at h1;have h2:(qO ms pos ⟨p,v⟩).length=ms.length+1:=vY ft.out;rw[<-h2];rw[h2]at h1⊢;refine⟨h1.1,?_⟩;rcases h1.2 with h0|⟨g',cap',cur,e,hg,aq,hx⟩
    ·exact .inl h0
    ·refine .inr ⟨g',cap',cur,e,hg,(eAll g' (λe=>?_) (λe=>?_) (λe=>?_)).trans aq,hx⟩
     ·rw[e,dK.out ib l4 d6,HS.idx]at aq;cases aq
     ·rw[e,dK.out gb l1 d1,HS.grp]at aq;cases aq
     ·have h3:=HS.num;unfold y4 at h3;rw[e,dK.out nb l2 d5,h3]at aq;cases aq
   ·intro m hm;rcases xGj.1 hm with rfl|hm
    ·have h1:=Mo.out;refine(h1.mono (B':=B) fX.out).block λk hk=>?_
     obtain⟨cur,h2⟩:=h1.typed hk;have h3:bn.heap[k]?=w9.heap[k]?:=eY.block k (h1.lt hk).2 (λe=>by
      have h4:=(h1.lt hk).1;have h5:=(aL_ HS.lines.row k e.symm).2;omega)
     rw[hid (h3.trans h2),h3]
    ·have h1:=HS.lines.refs m hm;refine h1.block λk hk=>?_
     obtain⟨cur,h2⟩:=h1.typed hk;have h3:bn.heap[k]?=w5.heap[k]?:=dK.out k (h1.lt hk).2 (λe=>by
      obtain⟨c3,h4⟩:=yR HS.lines.row e;rw[h4]at h2;cases h2)
     rw[hid (h3.trans h2),h3]
   ·rcases pA.out with h1|h1
    ·exact .inl h1
    ·exact .inr ⟨_,h1,fW.size⟩
   ·refine⟨?_,?_,?_,?_,λk hk hn=>?_⟩
    ·exact nz.1.trans (p_.1.trans (p9.1.trans (eY.os.trans fW.os)))
    ·exact nz.2.1.trans (p_.2.1.trans (p9.2.1.trans (eY.tape.trans fW.tape)))
    ·exact nz.2.2.trans (p_.2.2.trans (p9.2.2.trans (eY.output.trans fW.output)))
    ·have h1:=ow.out;have h2:=G1.out;have h3:=eY.size;have h4:=fW.size;omega
    ·simp only[ae_,aj_,bq_,or_false,aT_,not_or]at hn;exact(eAll k hn.1 hn.2.1.1 hn.2.1.2).trans (dK.out k hk hn.2.2)
  clear eI A2 Dx G5 nz eAll CD mJ;go_ret;exact⟨by rw[HA.out];try rfl,.inr ⟨HA.out,iN.out _ _ v (λk hk=>ad_ w_.out (Mo.lt hk).1) GX⟩⟩
 |none=>
  rw[hgo]at cW;simp only[Option.map_none,Option.getD_none]at cW;have ig:xA gs s=[]:=by unfold xA;rw[hgo]
  have CI:=nu.map.lt;have WP:=(i_ nu.blk).1;have hMw:=HX.map.lt;have hIw:=(i_ HX.blk).1;have mb:ib≠M:=(qh.1 HX.apart).1;have lQ:=@run_makeMap prog;obtain⟨W,hW⟩:∃W,W=(w5.alloc (.map #[] 0)).alloc (.cells #[.slice none 0 0,.map (some w5.heap.size)] 253):=⟨_,rfl⟩;have S2:y4 ekS W M (gs.map MG.e) mc:=by
   unfold y4;rw[hW,heap_alloc_old _ _ (by simp;omega),heap_alloc_old _ _ CI];exact nu.map
  have J_:yN s (gs.map MG.e) 0=none:=xE5 λe he=>by
   obtain⟨G,hG,rfl⟩:=az_.1 he;exact jQ hgo G hG
  obtain⟨arr,G6⟩:∃arr:Value->Array MapEntry,∀v,arr v=((gs.map MG.e++[(⟨s,v,mc⟩:KE ByteArray)]).map (enE ekS)).toArray:=⟨_,λ_=>rfl⟩;have dB:∀v,(Instr.mapUpdate 161 (.map (some M)) (.string s) v).run prog ((w5.alloc (.map #[] 0)).alloc (.cells #[.slice none 0 0,.map (some w5.heap.size)] 253))=.ok () (((w5.alloc (.map #[] 0)).alloc (.cells #[.slice none 0 0,.map (some w5.heap.size)] 253)).putObj M (.map (arr v) (mc+1))):=λv=>by
   rw[<-hW,G6];exact xEt keyS underlying161 W M (gs.map MG.e) mc S2 s v J_
  have hc6:((w5.alloc (.map #[] 0)).alloc (.cells #[.slice none 0 0,.map (some w5.heap.size)] 253)).cell? ⟨ib,0,none⟩=some (.map (some M)):=bv_ _ (bv_ _ hc0);have re:=h_ nu;have WQ:=h_ S2;have Mr:=h_ G6;clear nu S2 G6;go_upto_region 21 with (fail)
  obtain⟨gb,tJ⟩:∃gb,gb=w5.heap.size+1:=⟨_,rfl⟩;obtain⟨nb,eF⟩:∃nb,nb=w5.heap.size:=⟨_,rfl⟩;obtain⟨w6,b8⟩:∃w6,w6=((w5.alloc (.map #[] 0)).alloc (.cells #[.slice none 0 0,.map (some w5.heap.size)] 253)).putObj M (.map (arr (.pointer (some ⟨w5.heap.size+1,0,none⟩))) (mc+1)):=⟨_,rfl⟩;have nZ:w6.heap.size=w5.heap.size+2:=by rw[b8];simp[World.putObj]
  have A3:∀k,k<w5.heap.size->k≠M->w6.heap[k]?=w5.heap[k]?:=λk hk S3=>by
   rw[b8,aB_ S3,heap_alloc_old _ _ (by simp;omega),heap_alloc_old _ _ hk]
  have wG:y4 ekS w6 M (gs.map MG.e++[⟨s,.pointer (some ⟨gb,0,none⟩),mc⟩]) (mc+1):=by
   rw[b8,tJ,<-hW,Mr.out];exact WQ.put
  have CJ:w6.heap[gb]?=some (.cells #[.slice none 0 0,.map (some nb)] 253 (0,0)):=by
   rw[b8,aB_ (by omega),tJ,eF];have:=heap_alloc_new (w5.alloc (.map #[] 0)) (.cells #[.slice none 0 0,.map (some w5.heap.size)] 253);simpa using this
  have gJ:y4 ekI w6 nb [] 0:=by
   unfold y4;rw[b8,aB_ (by omega),heap_alloc_old _ _ (by simp;omega),eF,heap_alloc_new];rfl
  have dq:Kept [M] w w6:=by
   have h1:=aU.out;refine⟨?_,?_,?_,by have:=h1.size;omega,λk hk S3=>(A3 k (by have:=h1.size;omega) (by simpa using S3)).trans (h1.block k hk)⟩
   ·rw[b8];exact h1.os
   ·rw[b8];exact h1.tape
   ·rw[b8];exact h1.output
  have HS:Hid (S21 B ib gb nb w.heap.size (xR gs) M (.slice none 0 0) [] [] 0 g p.ids w6):=h_ {
   grp:=CJ
   num:=gJ
   lines:=⟨aP_ _ _ _ _,λm hm=>by cases hm⟩
   line:=(A3 _ nt (by omega)).trans GW.out
   idx:=(A3 _ WP mb).trans re.blk
   vlb:=by simp[Value.ownBlock]
   refs:=(HI.below aU.out).block λk hk=>by
    have h1:=HI.below aU.out;obtain⟨cur,h2⟩:=h1.typed hk;refine A3 k (h1.lt hk).2 ?_;rintro rfl;have h3:=re.map;unfold y4 at h3;rw[h3]at h2;cases h2 }
  have aI:=aU.size;obtain⟨nl,G7⟩:∃nl:List (KE Id32),nl=[]:=⟨_,rfl⟩;have w_:Hid (w.heap.size<=w6.heap.size):=h_ dq.size;have iN:Hid (∀w' v' v,(∀k,v.ownBlock=some k->w.heap.size<=k)->S24 B ib gb nb (xR gs) M (.slice none 0 0) v' (qO [] pos ⟨p,v⟩) (nl++[⟨p.id,.int .i64 p.number,0⟩]) (0+1) w6 w'->∃gs' mc',xNz B ib M gs s p w w' gs' mc'):=by
   rw[G7];exact h_ (λw' v' v hv GX=>xYx (nb:=nb) HX.out hgo hv pz.out J8.out ci dq wG (by omega) (by omega) (by omega) (by omega) (by omega) mb (by rw[<-GU.out,<-tK.out];rw[GU.out];exact GX))
  have mh:Hid (yN p.id [] 0=none):=h_ rfl;have ft:Hid (pos<=([]:List ML).length):=h_ (by
   have:=(xA3 (re.sorted s) g.number).2.1;rw[yL,ig]at this;rw[tK.out,ig];exact this)
  have ij:Hid (([]:List ML).length<=65536):=h_ (by simp);have fX:Hid (B<=w6.heap.size):=h_ (by have:=(re.foot_lt ib (by simp[foot]));omega);rw[<-b8,<-tJ,<-eF];clear b8 tJ eF nZ A3 wG CJ gJ dq hgo cW hc0 dO ie E7 Du GW aU HX re cz bQ ou tK nt aI ig CI WP hMw hIw mb lQ hW J_ dB hc6 WQ Mr;clear W arr;obtain⟨vL,WR⟩:∃v:Value,v=.slice none 0 0:=⟨_,rfl⟩;rw[<-WR]at HS iN;clear WR;obtain⟨ms,Ms⟩:∃ms:List ML,ms=[]:=⟨_,rfl⟩;rw[<-Ms]at HS iN ft ij;clear Ms;rw[<-G7]at HS mh;clear G7;obtain⟨nc,Mt⟩:∃nc:Nat,nc=0:=⟨_,rfl⟩;rw[<-Mt]at HS iN;clear Mt;obtain⟨vla,vln,vlc,mB⟩:∃a n c,vL=.slice a n c:=by
   rcases HS.lines.head with⟨e,_⟩|⟨_,cap,e,_⟩
   ·exact⟨_,_,_,e⟩
   ·exact⟨_,_,_,e⟩
  have Gv:=h_ mB
  haveI:Nonempty (Cls gb w.heap.size vL g):=⟨⟨w6,HS.cls (ab_ _ _)⟩⟩
  have q1:∀z:Cls gb w.heap.size vL g,z.1.cell? ⟨gb,0,none⟩=some (.slice vla vln vlc):=λz=>mB▸z.2.1
  have q2:∀z:Cls gb w.heap.size vL g,xo z.1 ⟨w.heap.size,0,none⟩ 38=true:=λz=>z.2.2.rd.1
  have q3:∀z:Cls gb w.heap.size vL g,xm z.1 ⟨w.heap.size,0,none⟩ 38=xd g:=λz=>z.2.2.rd.2
  clear mB;refine xp [0,1,2,3,4,5,6] [7,8,9,10,11,12] (λw'=>∃z:Cls gb w.heap.size vL g,w'=z.1) (by kernel_rfl) (by kernel_rfl) (by kernel_rfl) ⟨⟨_,HS.cls (ab_ _ _).drew⟩,rfl⟩ ?_;simp only[o_]
  repeat (go_big_quiet_step (fail))
  refine wpQuiet_nil ?_;clear q1 q2 q3;have bD:Below w6.heap.size w6 w6.drew:=(ab_ _ _).drew;generalize w6.drew=w7 at bD⊢;refine uW true rfl (by kernel_rfl) ?_;go_wp2_with fail;refine(xD5 0 g p.ids w7 (HS.refs.below bD) (by have:=xEp J8.out;omega)).mono ?_;rintro r w8⟨v,rfl,GY,dj⟩;have bP:=GY.one;have ly:Below w6.heap.size w6 w8:=bD.trans (dj.mono bD.size);have AP:=HS.cls ly;obtain⟨g8,m_⟩:∃g8:j0,g8=ML.g ⟨p,v⟩:=⟨_,rfl⟩;have AQ:jN g8:=by rw[m_];exact bP
  rw[QB.out v,<-m_];have J2:=h_ m_;clear m_;have Mn:=h_ (GY.mono bD.size);obtain⟨i0,hi,bd,aL,bk⟩:=info_parts Tryz.info_line;go_wp2_with fail;refine⟨λ_=>⟨⟨_,AP⟩,rfl⟩,uW true rfl (by kernel_rfl) ?_⟩;refine wpList_buildSlice rfl 201 204 1 _ rfl (xd g8) i0 _ underlying201 hi bd (by rw[aL];decide) (by rw[aL];decide) (by rw[aL];simp only[dr_,au_,cq_];refine kv _ _ 38 (xP _) ?_;rw[dk_,cP_]) ?_;obtain⟨w9,fV⟩:∃w9,w9=w8.alloc (.cells (xd g8) 204):=⟨_,rfl⟩;have iK:Below w8.heap.size w8 w9:=by rw[fV];exact b_ _ _
  have fc:Below w6.heap.size w6 w9:=ly.trans (iK.mono ly.size);have wH:w9.heap[w8.heap.size]?=some (.cells (xd g8) 204 (0,0)):=by rw[fV];exact heap_alloc_new _ _
  have GZ:=HS.lines.below fc;have AR:Calls prog 248 #[.slice vla vln vlc,.int .i64 pos,.slice (some ⟨w8.heap.size,0,none⟩) 1 1] w9 λr w'=>∃v',r=.returned v'/\w'.ownsRow B 204 38 v' (ms.length+1) ((yq ms).take (pos*38)++xH g8++(yq ms).drop (pos*38))/\w9.grownBy w' vL.ownBlock/\(v'.ownBlock=vL.ownBlock\/v'.ownBlock=some w9.heap.size):=by
   have:=xJx B vL ms.length pos w8.heap.size (yq ms) g8 w9 AQ (xE4 λm hm=>(GZ.refs m hm).one) GZ.row (by have:=fX.out;have:=fc.size;omega) ij.out ft.out wH (λe=>by have:=(aL_ HS.lines.row _ e).2;have:=ly.size;omega);rw[Gv.out]at this⊢;exact this
  rw[<-fV];have AS:=h_ AR;have fW:=h_ fc;have Mo:=h_ (Mn.below iK);have Mp:=HS.cls fc;clear AR fc iK fV GZ wH Mn GY dj ly AP bD;go_wp2_with fail;refine⟨λ_=>⟨⟨_,Mp⟩,rfl⟩,uW true rfl (by kernel_rfl) ?_⟩;clear Mp;go_wp2_with fail;refine AS.mono ?_;rintro r bn ⟨v',rfl,ae,aR,aB⟩;have Dv:∀k,k<w6.heap.size->vL.ownBlock≠some k->bn.heap[k]?=w6.heap[k]?:=λk hk hv=>(aR.block k (by have:=fW.size;omega) (λe=>hv e.symm)).trans (fW.block k hk)
  obtain⟨d1,d2,d3,d4,d5,d6,d7,d8,d9⟩:=HS.apart;obtain⟨l1,l2,l3,l4⟩:=HS.lts;have cJ:=(Dv gb l1 d1).trans HS.grp;have iO:bn.cell? ⟨gb,0,none⟩=some vL/\xZ bn w.heap.size g:=⟨cell_of_row bn gb 0 _ _ _ cJ,(Dv _ l3 HS.vlb).trans HS.line⟩;obtain⟨va,vc,fB⟩:∃va vc,v'=.slice (some ⟨va,0,none⟩) (ms.length+1) vc:=by
   rcases ae.2 with⟨_,h0⟩|⟨g',cap',_,e,_⟩
   ·omega
   ·exact⟨g',cap',e⟩
  go_wp2_with fail;refine⟨λ_=>⟨⟨_,iO⟩,rfl⟩,xB [10,11,12] _ _ (by kernel_rfl) ?_⟩;simp only[o_];have E8:=iO.1;rw[Gv.out]at E8;have S1:=frozen_of_row bn gb 0 _ _ cJ;obtain⟨aW,eo⟩:∃aW,aW=bn.setCell ⟨gb,0,none⟩ v':=⟨_,rfl⟩;have ov:aW.heap[gb]?=some (.cells #[v',.map (some nb)] 253 (0,0)):=by rw[eo];exact heap_setCell_same bn gb 0 _ _ v' cJ
  have Mq:∀k,k≠gb->aW.heap[k]?=bn.heap[k]?:=λk hk=>by rw[eo];exact heap_setCell_other bn ⟨gb,0,none⟩ k _ hk
  have AT:aW.heap.size=bn.heap.size:=by rw[eo];simp[World.setCell]
  have AU:aW.os=bn.os/\aW.tape=bn.tape/\aW.output=bn.output:=by rw[eo];exact⟨rfl,rfl,rfl⟩
  have dl:=h_ ae;have eY:=h_ aR;have pA:=h_ aB;have dK:=h_ Dv;have AV:=h_ ov;have nw:=h_ Mq;have p9:=h_ AU;have lz:=h_ iO;have HV':=h_ fB;have ny:=h_ eo;have G1:=h_ AT;clear ae aR aB Dv ov Mq AU cJ iO eo AT;subst fB;go_wp2;refine ag_ ?_;go_upto_region 22 with (fail)
  rw[<-ny.out];clear E8 S1 ny AS;have lA:xZ aW w.heap.size g:=(nw.out _ d3).trans lz.2;have AW:y4 ekI aW nb nl nc:=((nw.out _ d2).trans (dK.out nb l2 d5)).trans HS.num;have gI:=lA.lt;have q1:∀z:x8 aW,z.1.cell? ⟨gb,1,none⟩=some (.map (some nb)):=λz=>z.cell (cell_of_row aW gb 1 _ _ _ AV.out)
  have q2:∀z:x8 aW,xo z.1 ⟨w.heap.size,1,none⟩ 32=true:=λz=>(lA.below z.2 gI).idAt.1
  have q3:∀z:x8 aW,xm z.1 ⟨w.heap.size,1,none⟩ 32=(xl p.id).toArray:=λz=>(lA.below z.2 gI).idAt.2.trans (by rw[QC.out])
  have q4:∀z:x8 aW,z.1.cell? ⟨w.heap.size,0,none⟩=some (.int .i64 p.number):=λz=>((lA.below z.2 gI).cell 0).trans ((lc0 g).trans (by rw[GU.out]))
  have AX:=h_ AW;clear AW lA gI;refine xp [0,1,2,3,4,5,6,7] [8] (λw'=>∃z:x8 aW,w'=z.1) (by kernel_rfl) (by kernel_rfl) (by kernel_rfl) ⟨⟨_,(ab_ _ _).drew⟩,rfl⟩ ?_;simp only[o_]
  repeat (go_big_quiet_step (fail))
  refine wpQuiet_nil ?_;clear q1 q2 q3 q4;have dB:(Instr.mapUpdate 251 (.map (some nb)) (.agg (xl p.id).toArray) (.int .i64 p.number)).run prog aW.drew=.ok () (aW.drew.putObj nb (.map ((nl++[(⟨p.id,.int .i64 p.number,nc⟩:KE Id32)]).map (enE ekI)).toArray (nc+1))):=
   xEt keyI underlying251 aW.drew nb nl nc AX.out p.id _ mh.out
  obtain⟨w12,ep⟩:∃w12,w12=aW.drew.putObj nb (.map ((nl++[(⟨p.id,.int .i64 p.number,nc⟩:KE Id32)]).map (enE ekI)).toArray (nc+1)):=⟨_,rfl⟩;have G3:∀k,k≠nb->w12.heap[k]?=aW.heap[k]?:=λk hk=>by rw[ep,aB_ hk];rfl
  have iP:w12.heap.size=aW.heap.size:=by rw[ep];simp only[World.putObj,cx_];rfl
  have AY:y4 ekI w12 nb (nl++[⟨p.id,.int .i64 p.number,nc⟩]) (nc+1):=by rw[ep];exact y4.put (w:=aW.drew) AX.out
  have AZ:w12.os=aW.os/\w12.tape=aW.tape/\w12.output=aW.output:=by rw[ep];exact⟨rfl,rfl,rfl⟩
  rw[<-ep]at dB;have A0:=h_ G3;have ow:=h_ iP;have G4:=h_ AY;have p_:=h_ AZ;have A1:=(G3 ib d8).trans ((nw.out ib d7).trans ((dK.out ib l4 d6).trans HS.idx));have q_:=h_ A1;clear ep G3 iP AY AZ A1;refine xB [8] _ _ (by kernel_rfl) ?_;simp only[o_];go_wp2;refine ag_ ?_;have CD:=cell_of_row w12 ib 1 _ _ _ q_.out;have mJ:=frozen_of_row w12 ib 1 _ _ q_.out;clear dB;go_wp2;obtain⟨dA,eI⟩:∃dA,dA=w12.setCell ⟨ib,1,none⟩ (.int .i64 ((xR gs:Int)+1)):=⟨_,rfl⟩;have A2:dA.heap[ib]?=some (.cells #[.map (some M),.int .i64 ((xR gs+1:Nat):Int)] 163 (0,0)):=by
   rw[eI];have:=heap_setCell_same w12 ib 1 _ _ (.int .i64 ((xR gs:Int)+1)) q_.out;rw[this];rfl
  have Dx:∀k,k≠ib->dA.heap[k]?=w12.heap[k]?:=λk hk=>by rw[eI];exact heap_setCell_other w12 ⟨ib,1,none⟩ k _ hk
  have G5:dA.heap.size=w12.heap.size:=by rw[eI];simp[World.setCell]
  have nz:dA.os=w12.os/\dA.tape=w12.tape/\dA.output=w12.output:=by rw[eI];exact⟨rfl,rfl,rfl⟩
  rw[<-eI];have eAll:∀k,k≠ib->k≠gb->k≠nb->dA.heap[k]?=bn.heap[k]?:=λk k1 k2 k3=>(Dx k k1).trans ((A0.out k k3).trans (nw.out k k2))
  have GX:S24 B ib gb nb (xR gs) M vL (.slice (some ⟨va,0,none⟩) (ms.length+1) vc) (qO ms pos ⟨p,v⟩) (nl++[⟨p.id,.int .i64 p.number,nc⟩]) (nc+1) w6 dA:=by
   have hid:∀{k:Nat} {cur:Array Value},bn.heap[k]?=some (Obj.cells cur 33 (0,0))->dA.heap[k]?=bn.heap[k]?:=λ{k cur} hk=>eAll k
    (λe=>by rw[e,dK.out ib l4 d6,HS.idx]at hk;cases hk) (λe=>by rw[e,dK.out gb l1 d1,HS.grp]at hk;cases hk)
    (λe=>by have h1:=HS.num;unfold y4 at h1;rw[e,dK.out nb l2 d5,h1]at hk;cases hk)
   refine⟨(Dx gb (λe=>d7 e.symm)).trans ((A0.out gb (λe=>d2 e.symm)).trans AV.out),(Dx nb (λe=>d8 e.symm)).trans G4.out,⟨?_,?_⟩,A2,?_,?_⟩
   ·have h1:=dl.out;rw[J2.out,<-xSp,<-vY ft.out]at h1;have h2:(qO ms pos ⟨p,v⟩).length=ms.length+1:=vY ft.out;rw[<-h2];rw[h2]at h1⊢;refine⟨h1.1,?_⟩;rcases h1.2 with h0|⟨g',cap',cur,e,hg,aq,hx⟩
    ·exact .inl h0
    ·refine .inr ⟨g',cap',cur,e,hg,(eAll g' (λe=>?_) (λe=>?_) (λe=>?_)).trans aq,hx⟩
     ·rw[e,dK.out ib l4 d6,HS.idx]at aq;cases aq
     ·rw[e,dK.out gb l1 d1,HS.grp]at aq;cases aq
     ·have h3:=HS.num;unfold y4 at h3;rw[e,dK.out nb l2 d5,h3]at aq;cases aq
   ·intro m hm;rcases xGj.1 hm with rfl|hm
    ·have h1:=Mo.out;refine(h1.mono (B':=B) fX.out).block λk hk=>?_
     obtain⟨cur,h2⟩:=h1.typed hk;have h3:bn.heap[k]?=w9.heap[k]?:=eY.block k (h1.lt hk).2 (λe=>by
      have h4:=(h1.lt hk).1;have h5:=(aL_ HS.lines.row k e.symm).2;omega)
     rw[hid (h3.trans h2),h3]
    ·have h1:=HS.lines.refs m hm;refine h1.block λk hk=>?_
     obtain⟨cur,h2⟩:=h1.typed hk;have h3:bn.heap[k]?=w6.heap[k]?:=dK.out k (h1.lt hk).2 (λe=>by
      obtain⟨c3,h4⟩:=yR HS.lines.row e;rw[h4]at h2;cases h2)
     rw[hid (h3.trans h2),h3]
   ·rcases pA.out with h1|h1
    ·exact .inl h1
    ·exact .inr ⟨_,h1,fW.size⟩
   ·refine⟨?_,?_,?_,?_,λk hk hn=>?_⟩
    ·exact nz.1.trans (p_.1.trans (p9.1.trans (eY.os.trans fW.os)))
    ·exact nz.2.1.trans (p_.2.1.trans (p9.2.1.trans (eY.tape.trans fW.tape)))
    ·exact nz.2.2.trans (p_.2.2.trans (p9.2.2.trans (eY.output.trans fW.output)))
    ·have h1:=ow.out;have h2:=G1.out;have h3:=eY.size;have h4:=fW.size;omega
    ·simp only[ae_,aj_,bq_,or_false,aT_,not_or]at hn;exact(eAll k hn.1 hn.2.1.1 hn.2.1.2).trans (dK.out k hk hn.2.2)
  clear eI A2 Dx G5 nz eAll CD mJ;go_ret;exact⟨by rw[HA.out];try rfl,.inr ⟨HA.out,iN.out _ _ v (λk hk=>ad_ w_.out (Mo.lt hk).1) GX⟩⟩
end
theorem xX4 (w):(zeroValue 204).run prog w=.ok (.agg (xd xJ)) w:=by kernel_rfl
theorem xZ3:(Builtin.zeroCells (xd xJ) 1).toList=xH xJ:=by kernel_rfl
theorem xLg (z cs)(hv:∀w,(zeroValue 204).run prog w=.ok z w)(hz:(Builtin.zeroCells z.cells 1).toList=cs)(hl:cs.length=38)(h1:∀u∈cs,u.oneCell'=true)(w)(ty:TypeId)(g o c cur)(t:TypeId)(hg:w.heap[g]?=some (.cells cur t (0,0)))(bM:o+38<=cur.size):
  (Builtin.clear_ #[201] ty #[.slice (some ⟨g,o,none⟩) 1 c]).run prog w=.ok (.tuple #[]) (w.setRow g (cur.toList.take o++cs++cur.toList.drop (o+38)).toArray):=by
 have ax:=run_storeCells_at prog g o t cs 0 cur w hg (by rw[hl];simpa using bM) h1;rw[hl]at ax;simp only[Nat.add_zero]at ax;simp[Builtin.clear_,run_underlying underlying201,hv,hz,ax]
theorem xIw (w)(ty:TypeId)(g o c cur)(t:TypeId)(hg:w.heap[g]?=some (.cells cur t (0,0)))(bM:o+38<=cur.size):
  (Builtin.clear_ #[201] ty #[.slice (some ⟨g,o,none⟩) 1 c]).run prog w=.ok (.tuple #[]) (w.setRow g (cur.toList.take o++xH xJ++cur.toList.drop (o+38)).toArray):=
 xLg (.agg (xd xJ)) (xH xJ) xX4 xZ3 (yC _) (qq rfl) w ty g o c cur t hg bM
theorem xAe {P}(w){ops rest o a}{Q:Exit->Act->World->Prop}(fT:o.guard=none)(x)(t:TypeId)
  (ho:o.op=.call { callee:=.builtin .clear,args:=#[x],argTypes:=#[t] }) (v) (hx:a.eval x=v) {v'} {w'}
  (hr:(Builtin.clear_ #[t] o.type #[v]).run P w=.ok v' w') (h:wpList P ops Q rest (a.put o.dst v') w'):wpList P ops Q (o :: rest) a w:=by
 refine wpList_plain fT λK hK=>?_
 unfold Oper.wp execOp;simp only[ho,resolve,invoke,builtin,aE_,bY_,aw_,dr_,au_,cq_,hx,hr];exact hK _ _ h
theorem xVj (B g cap n i xs w)(tF:∀u∈xs,u.oneCell'=true)(ae:w.ownsRow B 204 38 (.slice (some ⟨g,0,none⟩) n cap) n xs)(hn:n<=65536)(hi:i<n):
  Calls prog 338 #[.slice (some ⟨g,0,none⟩) n cap,.int .i64 i,.int .i64 ((i:Int)+1)] w λr w'=>r=.returned (.slice (some ⟨g,0,none⟩) (n-1) cap)/\w'.ownsRow B 204 38 (.slice (some ⟨g,0,none⟩) (n-1) cap) (n-1) (xs.take (i*38)++xs.drop ((i+1)*38))/\w.grownBy w' (some g):=by
 obtain⟨i0,hi0,bd,aL,bk⟩:=info_parts Tryz.info_line;rcases ae.2 with⟨e,_⟩|⟨g',cap',cur,e,J3,aq,hle,dC,aJ,eG⟩
 ·cases e
 cases e
 have hxl:=ae.1;unfold maxLen at dC;have hk:n*38<=cap*38:=cj_ _ hle;obtain⟨news,fL⟩:∃news,news=xs.drop ((i+1)*38):=⟨_,rfl⟩;have dY:news.length=(n-(i+1))*38:=by rw[fL,ao_,hxl];omega
 have az:∀u∈news,u.oneCell'=true:=λu hu=>tF u (bp_ (fL▸hu))
 obtain⟨A,hA,Do⟩:∃A:Addr,(if cap=i+1 then (⟨g,0,none⟩:Addr)else ⟨g,(i+1)*38,none⟩)=A/\∀t u,news[t]?=some u->w.drew.cell? (A.add t)=some u:=by
  by_cases h:cap=i+1
  ·refine⟨⟨g,0,none⟩,by simp[h],λt u hu=>?_⟩;have h0:news.length=0:=by rw[dY];omega
   rw[br_.1 h0]at hu;simp at hu
  ·refine⟨⟨g,(i+1)*38,none⟩,by simp[h],λt u hu=>?_⟩;rw[fL,cg_]at hu;have h2:=bc_ ae (g:=g) rfl ((i+1)*38+t) u hu;rw[an_,aq_]at h2;rw[an_,cO_];exact h2
 obtain⟨R1,ng⟩:∃R1:List Value,R1=cur.toList.take (i*38)++news++cur.toList.drop (i*38+news.length):=⟨_,rfl⟩;have oq:R1.length=cap*38:=by
  rw[ng];simp only[af_,ai_,ao_,bs_,aJ,dY];omega
 obtain⟨W1,c_⟩:∃W1,W1=w.drew.setRow g R1.toArray:=⟨_,rfl⟩;obtain⟨m,hm⟩:∃m,m=n-1:=⟨_,rfl⟩;have cN:∀ty sc,(Builtin.append_ #[201,201] ty #[.slice (some ⟨g,0,none⟩) i cap,.slice (some A) (n-(i+1)) sc]).run prog w.drew=.ok (.slice (some ⟨g,0,none⟩) m cap) W1:=λty sc=>by
  have h:=run_append_room (P:=prog) w.drew 201 ty 204 i0 underlying201 hi0 g i cap cur aq A (n-(i+1)) sc news (by rw[aL];exact dY) Do az (by omega) (by rw[aL,dY,aJ];omega);rw[h,c_,ng,aL,hm,show i+(n-(i+1))=n-1 by omega]
 have aV:W1.heap[g]?=some (.cells R1.toArray 204 (0,0)):=by rw[c_];exact setRow_heap w.drew g _ _ _ _ aq
 have du:w.grownBy W1 (some g):=by rw[c_];exact kV (b:=w.drew) ⟨rfl,rfl,rfl,aa_ _,λ_ _ _=>rfl⟩ (uj w.drew g _)
 obtain⟨W2,ff⟩:∃W2,W2=W1.setRow g (R1.take ((n-1)*38)++xH xJ++R1.drop ((n-1)*38+38)).toArray:=⟨_,rfl⟩;have aT:∀ty sc,(Builtin.clear_ #[201] ty #[.slice (some ⟨g,(n-1)*38,none⟩) 1 sc]).run prog W1=.ok (.tuple #[]) W2:=λty sc=>by
  rw[xIw W1 ty g ((n-1)*38) sc _ _ aV (by rw[aW_,oq];omega),ff]
 have aP:W2.heap[g]?=some (.cells (R1.take ((n-1)*38)++xH xJ++R1.drop ((n-1)*38+38)).toArray 204 (0,0)):=by rw[ff];exact setRow_heap W1 g _ _ _ _ aV
 have hg2:w.grownBy W2 (some g):=by rw[ff];exact kV du (uj W1 g _)
 have G8:R1.take ((n-1)*38)=xs.take (i*38)++xs.drop ((i+1)*38):=by
  have h1:(cur.toList.take (i*38)).length=i*38:=by rw[ai_,bs_,aJ];omega
  have h2:xs.take (i*38)=cur.toList.take (i*38):=by rw[<-eG,List.take_take,cd_ (by omega)]
  have h3:(cur.toList.take (i*38)++news).length=(n-1)*38:=by rw[af_,h1,dY];omega
  rw[ng,bo_ (by rw[h3];exact aa_ _),ar_ (by rw[h3];exact aa_ _),h2,fL]
 have bN:W2.ownsRow B 204 38 (.slice (some ⟨g,0,none⟩) (n-1) cap) (n-1) (xs.take (i*38)++xs.drop ((i+1)*38)):=by
  refine⟨by rw[<-G8,ai_,oq];omega,.inr ⟨g,cap,_,rfl,J3,aP,by omega,by unfold maxLen;omega,?_,?_⟩⟩
  ·simp only[aW_,af_,ai_,ao_,yC,oq];omega
  ·have h4:(R1.take ((n-1)*38)).length=(n-1)*38:=by rw[ai_,oq];omega
   simp only[aH_];rw[bo_ (by rw[h4];exact aa_ _),ar_ (by rw[h4];exact aa_ _),G8]
 have HF:=h_ bN;have HG:=h_ hg2;have eE:∀ty sc,(Builtin.clear_ #[201] ty #[.slice (some ⟨g,m*38,none⟩) (n-m) sc]).run prog W1=.ok (.tuple #[]) W2:=λty sc=>by
  rw[show n-m=1 by omega,hm];exact aT ty sc
 rw[<-hm]at HF⊢;have Dy:(m:Int)<=(n:Int):=by omega
 have Du:m<=n:=by omega
 have hcm:¬ cap=m:=by omega
 clear hm;have h1:(i:Int)<=(i:Int)+1:=by omega
 have h2:(i:Int)+1<=(n:Int):=by omega
 have h3:(n:Int)<=(cap:Int):=by omega
 have h4:((i:Int)==(i:Int)+1)=false:=by rw[beq_eq_false_iff_ne];omega
 clear bN hg2 aP ff du aV c_ oq ng G8 Do az dY fL ae tF hxl aJ aq eG bd aL bk hi0 hk aT;go_enter func338,ntmps338;go_wp2_with fail;refine xp [0,1,2,3,4,5] [6,7] (λw'=>∃z:x8 w,w'=z.1) (by kernel_rfl) (by kernel_rfl) (by kernel_rfl) ⟨⟨_,(ab_ _ _).drew⟩,rfl⟩ ?_;simp only[o_];by_cases hcj:cap=i+1
 ·rw[if_pos hcj]at hA;subst hA;subst hcj;have Mu:=λty=>cN ty 0
  rw[show n-(i+1)=0 by omega]at Mu;clear cN
  repeat (go_big_quiet_step (fail))
  refine wpQuiet_nil ?_;refine xB [6,7] _ _ (by kernel_rfl) ?_;simp only[o_];go_wp2_with (at_builtin;refine dm_ _ rfl _ _ _ _ rfl _ _ rfl rfl _ _ (Mu _) ?_);refine ag_ ?_;go_wp2_with (at_builtin;refine xAe _ rfl (.tmp 31) 201 rfl _ rfl (eE _ _) ?_);go_ret;exact⟨rfl,HF.out,HG.out⟩
 ·rw[if_neg hcj]at hA;subst hA;have CD:¬ cap=i:=by omega
  repeat (go_big_quiet_step (fail))
  refine wpQuiet_nil ?_;refine xB [6,7] _ _ (by kernel_rfl) ?_;simp only[o_];go_wp2_with (at_builtin;refine dm_ _ rfl _ _ _ _ rfl _ _ rfl rfl _ _ (cN _ _) ?_);refine ag_ ?_;go_wp2_with (at_builtin;refine xAe _ rfl (.tmp 31) 201 rfl _ rfl (eE _ _) ?_);go_ret;exact⟨rfl,HF.out,HG.out⟩
theorem xE1 {α:Type}:∀{l:List α} {i:Nat} {x:α},l[i]?=some x->l.Perm (x :: l.eraseIdx i)
 |a :: l,0,x,h=>by cases h;exact .refl _
 |a :: l,i+1,x,h=>by
  rw[cB_];exact((xE1 (l:=l) (i:=i) (by simpa using h)).cons a).trans (List.Perm.swap x a _)
theorem xN0 {α:Type}{l:List α}{i}{x:α}(h:x∈l.eraseIdx i):x∈l:=List.mem_of_mem_eraseIdx h
theorem xV8 (ms i):yq (ms.eraseIdx i)=(yq ms).take (i*38)++(yq ms).drop ((i+1)*38):=by
 rw[xNd,xNe,<-jv,List.eraseIdx_eq_take_drop_succ]
theorem jo.del {ms:List ML}{nl:List (KE Id32)}(h:jo ms nl){i j b:Nat}{m:ML}(hi:ms[i]?=some m)(hj:nl[j]?=some ⟨m.p.id,.int .i64 m.p.number,b⟩):jo (ms.eraseIdx i) (nl.eraseIdx j) where
 agree:=by
  have h1:=(xE1 hj).map λe=>(e.k,e.v)
  have h2:=(xE1 hi).map λm=>(m.p.id,Value.int .i64 m.p.number)
  rw[au_]at h1 h2;exact(h1.symm.trans (h.agree.trans h2)).cons_inv
 ids:=h.ids.sublist ((List.eraseIdx_sublist ms i).map _)
 sorted:=h.sorted.sublist ((List.eraseIdx_sublist ms i).map _)
 good x hx:=h.good x (xN0 hx)
def qF (gs:List MG)(s:ByteArray):List MG:=gs.filter λH=>decide (H.name≠s)
theorem xLl (gs s t):xA (qF gs s) t=if t=s then []else xA gs t:=by
 unfold xA ym qF;rw[List.find?_filter];by_cases h:t=s
 ·rw[if_pos h];have:gs.find? (λa=>decide (decide (a.name≠s)=true/\decide (a.name=t)=true))=none:=by
   rw[cs_];intro G _ hG;simp at hG;exact hG.1 (hG.2.trans h)
  rw[this]
 ·rw[if_neg h];have:(λa:MG=>decide (decide (a.name≠s)=true/\decide (a.name=t)=true))=λa=>decide (a.name=t):=by
   funext a;by_cases ha:a.name=t
   ·have:a.name≠s:=λe=>h (ha.symm.trans e)
    simp[ha,h]
   ·simp[ha]
  rw[this]
theorem xWp (s):∀{gs:List MG} {G:MG} (i:Nat),ym gs s=some G->(gs.map λG=>G.name).Nodup->∃j,yN s (gs.map MG.e) i=some (i+j,.pointer (some ⟨G.gb,0,none⟩))/\j<gs.length/\(gs.map MG.e).eraseIdx j=(qF gs s).map MG.e
 |H :: gs,G,i,hg,hn=>by
  unfold ym at hg;rw[bu_]at hg;rw[au_,bh_]at hn;rw[au_];unfold yN;by_cases h:H.name=s
  ·rw[decide_eq_true h]at hg;cases hg
   have h2:s=H.e.k:=h.symm;refine⟨0,by rw[if_pos h2];rfl,by simp,?_⟩;have:qF (H :: gs) s=gs:=by
    unfold qF;rw[cC_ (by simpa using h),bA_.2];intro K hK;have:K.name≠s:=λe=>hn.1 (h▸e▸az_.2 ⟨K,hK,rfl⟩)
    simpa using this
   rw[this];rfl
  ·rw[decide_eq_false h]at hg;have h2:¬ s=H.e.k:=λe=>h e.symm
   obtain⟨j,h3,h4,h5⟩:=xWp s (i+1) hg hn.2;refine⟨j+1,by rw[if_neg h2,h3];congr 2;omega,by simpa using h4,?_⟩;have:qF (H :: gs) s=H :: qF gs s:=by
    unfold qF;rw[cD_ (by simpa using h)]
   rw[this,cB_,h5];rfl
theorem xBs:∀{gs:List MG} {s:ByteArray} {G:MG},(gs.map λG=>G.name).Nodup->ym gs s=some G->xR (qF gs s)+G.ms.length=xR gs
 |H :: gs,s,G,hn,hg=>by
  unfold ym at hg;rw[bu_]at hg;rw[au_,bh_]at hn;by_cases h:H.name=s
  ·rw[decide_eq_true h]at hg;cases hg
   have:qF (H :: gs) s=gs:=by
    unfold qF;rw[cC_ (by simpa using h),bA_.2];intro K hK;have:K.name≠s:=λe=>hn.1 (h▸e▸az_.2 ⟨K,hK,rfl⟩)
    simpa using this
   rw[this];unfold xR;rw[au_,cb_];omega
  ·rw[decide_eq_false h]at hg;have ih:=xBs hn.2 hg;have:qF (H :: gs) s=H :: qF gs s:=by
    unfold qF;rw[cD_ (by simpa using h)]
   rw[this];unfold xR at *;rw[au_,cb_,au_,cb_];omega
theorem ye.cut {B w w' ib M mc gs}(h:ye B w ib M gs mc){s G}(hG:ym gs s=some G)
  (mb:w'.heap[ib]?=some (.cells #[.map (some M),.int .i64 (xR (qF gs s))] 163 (0,0))) (hM:y4 ekS w' M ((qF gs s).map MG.e) mc)
  (hk:Kept (ib :: M :: G.foot) w w'):ye B w' ib M (qF gs s) mc/\xEc (foot ib M gs) (foot ib M (qF gs s)) w:=by
 obtain⟨fh,pZ⟩:=yM hG;obtain⟨a1,a2,a3⟩:=qh.1 h.apart;have oA:(qF gs s).Sublist gs:=List.filter_sublist;have aX:∀H∈qF gs s,H∈gs/\H.name≠s:=λH hH=>by
  unfold qF at hH;rw[co_]at hH;exact⟨hH.1,by simpa using hH.2⟩
 have cN:∀H∈gs,H.name≠s->∀x∈H.foot,x∉G.foot:=by
  intro H hH CE x hx SI;have lV:∀{l:List MG},l.Pairwise (λG H=>∀x∈G.foot,∀y∈H.foot,x≠y)->∀A∈l,∀C∈l,A.name≠C.name->∀x∈A.foot,x∉C.foot:=by
   intro l hl;induction l with
   |nil=>intro A hA;cases hA
   |cons D l ih=>
    rw[ca_]at hl;intro A hA C hC hne x GP GQ;rcases ae_.1 hA with lx|lx
    ·rcases ae_.1 hC with eP|eP
     ·exact hne (by rw[lx,eP])
     ·exact hl.1 C eP x (lx▸GP) x GQ rfl
    ·rcases ae_.1 hC with eP|eP
     ·exact hl.1 A lx x (eP▸GQ) x GP rfl
     ·exact ih hl.2 A lx C eP hne x GP GQ
  exact lV a3 H hH G fh (by rw[pZ];exact CE) x hx SI
 refine⟨{ blk:=mb,map:=hM,names:=h.names.sublist (oA.map _),grps:=?_,apart:=?_,born:=h.born.sublist (oA.map _),young:=λH hH=>h.young H (aX H hH).1,few:=?_,ibB:=h.ibB,MB:=h.MB },?_⟩
 ·intro H hH;obtain⟨hH,CE⟩:=aX H hH;refine(h.grps H hH).keep (λk wE=>hk.block k ((h.grps H hH).foot_lt k wE).2 ?_) (λm hm k sv=>?_)
  ·rw[ae_,ae_,not_or,not_or];exact⟨λe=>(a2 H hH).1 (e▸wE),λe=>(a2 H hH).2.1 (e▸wE),cN H hH CE k wE⟩
  ·obtain⟨g1,g2⟩:=h.refs_out hH hm sv;refine hk.block k g1 λhx=>g2 ?_
   unfold foot;rw[ae_,ae_]at hx⊢;rcases hx with hx|hx|hx
   ·exact .inl hx
   ·exact .inr (.inl hx)
   ·exact .inr (.inr (bg_.2 ⟨G,fh,hx⟩))
 ·rw[qh];exact⟨a1,λH hH=>a2 H (aX H hH).1,a3.sublist oA⟩
 ·have:=xBs h.names hG;have:=h.few;omega
 ·intro k bG
  left
  unfold foot at bG⊢;simp only[ae_,bg_]at bG⊢;rcases bG with rfl|rfl|⟨H,hH,bG⟩
  ·exact .inl rfl
  ·exact .inr (.inl rfl)
  ·exact .inr (.inr ⟨H,(aX H hH).1,bG⟩)
section
attribute [local go_sem ↓] xL xI yy yr yB yJ
attribute [local go_sem] zm zA u1 zX zb xh xf xa x9 xu xv xk xj xq xx xt
theorem xY1 {w g off l}(h:∀i u,(xH l)[i]?=some u->w.cell? ⟨g,off+i,none⟩=some u):xo w ⟨g,off+1,none⟩ 32=true/\xm w ⟨g,off+1,none⟩ 32=(xl l.id).toArray:=by
 have:=xW (w:=w) (a:=⟨g,off+1,none⟩) (cs:=xl l.id) (λj v hj=>by
  have GO:j<32:=by have:=(ax_.1 hj).1;rwa [xz]at this
  rw[an_,show off+1+j=off+(j+1) by omega];refine h (j+1) v ?_;simp only[xH];rw[ay_,aJ_ (by rw[xz];exact GO),hj])
 rwa [xz]at this
theorem vC {P}(w){ops rest o a}{Q:Exit->Act->World->Prop}(fT:o.guard=none)(x y)(t t':TypeId)
  (ho:o.op=.call { callee:=.builtin .delete,args:=#[x,y],argTypes:=#[t,t'] }) (v u) (hx:a.eval x=v) (hy:a.eval y=u) {v'} {w'}
  (hr:(Builtin.delete_ #[t,t'] o.type #[v,u]).run P w=.ok v' w') (h:wpList P ops Q rest (a.put o.dst v') w'):wpList P ops Q (o :: rest) a w:=by
 refine wpList_plain fT λK hK=>?_
 unfold Oper.wp execOp;simp only[ho,resolve,invoke,builtin,aE_,bY_,aw_,dr_,au_,cq_,hx,hy,hr];exact hK _ _ h
structure yDu (B ib M:Nat)(gs:List MG)(s:ByteArray)(i:Nat)(w w':World)(gs':List MG)(mc':Nat):Prop where
 idx:ye B w' ib M gs' mc'
 kept:Kept (foot ib M gs) w w'
 foot:xEc (Go.Proofs.YtegfbhdkenkkdaaGreatDoor.foot ib M gs) (Go.Proofs.YtegfbhdkenkkdaaGreatDoor.foot ib M gs') w
 lines:∀t,xA gs' t=if t=s then (xA gs s).eraseIdx i else xA gs t
 tot:xR gs'+1=xR gs
def xL2 (B ib M:Nat)(gs:List MG)(s:ByteArray)(n:Int)(w:World)(r:Ending)(w':World):Prop:=
 (qe (xA gs s) n=false/\r=.returned (.int .i64 8)/\Below w.heap.size w w')\/(∃i m,(xA gs s)[i]?=some m/\m.p.number=n/\r=.returned (.int .i64 0)/\∃gs' mc',yDu B ib M gs s i w w' gs' mc')
theorem xUj (B ib M mc gs s n w)(h:ye B w ib M gs mc):
  Calls prog 335 #[.pointer (some ⟨ib,0,none⟩),.string s,.int .i64 n] w λr w'=>xL2 B ib M gs s n w r w':=by
 have HX:=h_ h;have HL:=h_ (js B ib M mc gs s w h);have HS:=h_ (xMk B (vD gs s) (xA gs s) n w (h.lines s) (h.len s) (h.sorted s));obtain⟨va,vc,gH⟩:=jc h s;have ou:=h_ gH;rw[gH]at HL HS;clear gH h;cases hhas:qe (xA gs s) n with
 |false=>
  rw[hhas]at HS;have HH:=h_ hhas;clear hhas;generalize (xA gs s).length=len at HL HS ou;generalize posN (nums (xA gs s)) n=pos at HS;go_enter func335,ntmps335;go_wp2_with fail;refine HL.mono ?_;rintro r w' ⟨rfl,rfl⟩;go_wp2_with fail;refine HS.mono ?_;rintro r w1 ⟨rfl,aa⟩;have ar:=h_ aa;clear aa HS HL;go_wp2;go_ret;exact .inl ⟨HH.out,rfl,ar.out⟩
 |true=>
  have HH:=h_ hhas;rw[hhas]at HS;have h:=HX.out;have hne:xA gs s≠[]:=λe=>by rw[e]at hhas;cases hhas
  obtain⟨G,hG,ig,Dn⟩:=kl hne;obtain⟨fh,pZ⟩:=yM hG;have gG:=xA3 (h.sorted s) n;obtain⟨pos,hpe⟩:∃i,i=posN (nums (xA gs s)) n:=⟨_,rfl⟩;rw[<-hpe]at HS gG;have mK:(nums (xA gs s)).contains n=true:=hhas;rw[xHt (h.sorted s) gG]at mK;obtain⟨m,QE,Du⟩:∃m,(xA gs s)[pos]?=some m/\m.p.number=n:=by
   split at mK
   ·rename_i hlt;rw[yL]at hlt;rw[xGf,decide_eq_true_eq]at mK;refine⟨(xA gs s)[pos],ak_ hlt,?_⟩;simpa[nums]using mK
   ·cases mK
  have hlt:pos<(xA gs s).length:=(ax_.1 QE).1;have cV:=h.grps G fh;have QF:G.ms[pos]?=some m:=ig▸QE;obtain⟨j,WS,b,tL⟩:=cV.find_yes (ck_ QF);have sC:j<G.nl.length:=(ax_.1 tL).1;have ez:=cV.pure.del QF tL
  obtain⟨lb,cap,hv,hBl,gW,hle,dC,aE⟩:∃lb cap,G.v=.slice (some ⟨lb,0,none⟩) G.ms.length cap/\B<=lb/\lb<w.heap.size/\G.ms.length<=cap/\cap<=maxLen/\∀j (hj:j<G.ms.length) i u,(xH G.ms[j].g)[i]?=some u->w.cell? ⟨lb,j*38+i,none⟩=some u:=by
   rcases cV.lines.head with⟨_,e⟩|⟨g,cap,hx⟩
   ·exact absurd e cV.some'
   ·exact⟨g,cap,hx⟩
  have hcm:∀i u,(xH m.g)[i]?=some u->w.cell? ⟨lb,pos*38+i,none⟩=some u:=by
   obtain⟨h1,h2⟩:=ax_.1 QF;have:=aE pos h1
   rwa [h2]at this
  have hva:va=some ⟨lb,0,none⟩/\vc=cap:=by
   have:=ou.out;rw[Dn,hv,ig]at this;cases this;exact⟨rfl,rfl⟩
  obtain⟨rfl,rfl⟩:=hva;have ao:=h.len s;rw[ig]at HL HS hlt ao;obtain⟨a1,a2,a3⟩:=qh.1 h.apart;obtain⟨f1,f2,f3⟩:=a2 G fh;have hd:lb≠G.gb/\lb≠G.nb/\G.gb≠G.nb/\ib≠G.gb/\ib≠G.nb/\ib≠lb/\M≠G.gb/\M≠G.nb/\M≠lb:=by
   unfold MG.foot at f1 f2 f3;rw[hv]at f1 f2 f3;simp[Value.ownBlock]at f1 f2 f3;exact⟨λe=>f3.1.2 e.symm,λe=>f3.2 e.symm,f3.1.1,f1.1,f1.2.1,f1.2.2,f2.1,f2.2.1,f2.2.2⟩
  obtain⟨d1,d2,d3,d4,d5,d6,d7,d8,d9⟩:=hd;have S4:=h_ cV;have Mv:=h_ ez;have HFJ:=h_ WS;have HCM:=h_ hcm;have HG:=h_ hG;have WT:=h_ ig;have HV:=h_ hv;have QG:=h_ QE;have WU:=h_ Du;have cr:(pos:Int)<(G.ms.length:Int):=by omega
  clear cV ez WS hcm hG ig hv QE Du h hhas mK gG hpe hne Dn aE ou a1 a2 a3 f1 f2 f3 QF tL HH;obtain⟨len,A4⟩:∃k,k=G.ms.length:=⟨_,rfl⟩;rw[<-A4]at HL HS hlt ao cr hle;have cL:=h_ A4;clear A4;go_enter func335,ntmps335;go_wp2_with fail;refine HL.mono ?_;rintro r w' ⟨rfl,rfl⟩;go_wp2_with fail;refine HS.mono ?_;rintro r w1 ⟨rfl,aa⟩;have dm:=HX.below aa;have Mw:=dm.grps G fh;have hc0:=dm.cell0;have cW:=dm.look s;rw[HG.out]at cW;simp only[aU_,cr_]at cW;have ar:=h_ aa;have G9:=h_ dm;have tM:=h_ Mw;clear aa dm Mw HS HL;go_upto_region 7 with (fail)
  clear hc0 cW;have q1:∀z:x8 w1,z.1.cell? ⟨G.gb,1,none⟩=some (.map (some G.nb)):=λz=>z.cell (cell_of_row w1 G.gb 1 _ _ _ tM.blk)
  have q2:∀z:x8 w1,z.1.cell? ⟨G.gb,0,none⟩=some (.slice (some ⟨lb,0,none⟩) len vc):=λz=>z.cell ((cell_of_row w1 G.gb 0 _ _ _ tM.blk).trans (by rw[HV.out,cL.out];rfl))
  have hid:xo w1 ⟨lb,pos*38+1,none⟩ 32=true/\xm w1 ⟨lb,pos*38+1,none⟩ 32=(xl m.p.id).toArray:=xY1 (l:=m.g) λi u hu=>(ar.cell (p:=⟨lb,pos*38+i,none⟩) gW).trans (HCM.out i u hu)
  have q3:∀z:x8 w1,xo z.1 ⟨lb,pos*38+1,none⟩ 32=true:=λz=>z.ok hid.1
  have q4:∀z:x8 w1,xm z.1 ⟨lb,pos*38+1,none⟩ 32=(xl m.p.id).toArray:=λz=>(z.rd hid.1).trans hid.2
  clear hid;refine xp [0,1,2,3,4,5,6,7,8,9,10,11] [12] (λw'=>∃z:x8 w1,w'=z.1) (by kernel_rfl) (by kernel_rfl) (by kernel_rfl) ⟨⟨_,(ab_ _ _).drew⟩,rfl⟩ ?_;simp only[o_]
  repeat (go_big_quiet_step (fail))
  refine wpQuiet_nil ?_;clear q1 q2 q3 q4;obtain⟨w2,aw⟩:∃w2,w2=w1.drew.putObj G.nb (.map ((G.nl.eraseIdx j).map (enE ekI)).toArray G.nc):=⟨_,rfl⟩;have A5:∀ty,(Builtin.delete_ #[251,33] ty #[.map (some G.nb),.agg (xl m.p.id).toArray]).run prog w1.drew=.ok (.tuple #[]) w2:=λty=>by
   rw[aw];exact xQ0 keyI underlying251 ty w1.drew G.nb G.nl G.nc tM.nums m.p.id j _ HFJ.out sC
  have e2:∀k,k≠G.nb->w2.heap[k]?=w1.heap[k]?:=λk hk=>by rw[aw,aB_ hk];rfl
  have cT:w2.heap.size=w1.heap.size:=by rw[aw];simp only[World.putObj,cx_];rfl
  have J4:y4 ekI w2 G.nb (G.nl.eraseIdx j) G.nc:=by rw[aw];exact y4.put (w:=w1.drew) tM.nums
  have dX:w2.os=w1.os/\w2.tape=w1.tape/\w2.output=w1.output:=by rw[aw];exact⟨rfl,rfl,rfl⟩
  have hg2:=(e2 G.gb d3).trans tM.blk;have my:zq B w2 (.slice (some ⟨lb,0,none⟩) len vc) G.ms:=by
   have h1:=tM.lines;rw[HV.out,<-cL.out]at h1;refine h1.keep (λk hk=>e2 k ?_) (λx hx k hk=>e2 k ?_)
   ·cases hk;exact d2
   ·rintro rfl;obtain⟨cur,h2⟩:=(h1.refs x hx).typed hk;have h3:=tM.nums;unfold y4 at h3;rw[h3]at h2;cases h2
  have gm:w2.cell? ⟨G.gb,0,none⟩=some (.slice (some ⟨lb,0,none⟩) len vc):=(cell_of_row w2 G.gb 0 _ _ _ hg2).trans (by rw[HV.out,cL.out];rfl);have S5:=frozen_of_row w2 G.gb 0 _ _ hg2;have S6:=h_ (xVj B lb vc len pos (yq G.ms) w2 (xE4 λx hx=>(my.refs x hx).one) (by rw[cL.out];rw[cL.out]at my;exact my.row) ao hlt);have A6:=h_ e2;have cF:=h_ cT;have bQ:=h_ J4;have gZ:=h_ dX;have WV:=h_ hg2;have wk:=h_ my;clear e2 cT J4 dX hg2 my aw;refine xB [12] _ _ (by kernel_rfl) ?_;simp only[o_];refine vC _ rfl (.tmp 31) (.tmp 39) 251 33 rfl _ _ rfl rfl (A5 _) ?_;go_wp2;refine ag_ ?_;clear A5;go_wp2_with fail;refine S6.mono ?_;rintro r w3 ⟨rfl,ae,aR⟩;have l1:G.gb<w1.heap.size:=(i_ tM.blk).1;have l2:ib<w1.heap.size:=(i_ G9.blk).1;have l3:M<w1.heap.size:=G9.map.lt;have l4:G.nb<w1.heap.size:=tM.nums.lt;have cT:=cF.out;have e3:∀k,k<w1.heap.size->k≠lb->w3.heap[k]?=w2.heap[k]?:=λk hk ct=>aR.block k (by omega) (λe=>ct (as_ e))
  have fo:=(e3 G.gb l1 (λe=>d1 e.symm)).trans WV.out;have CH:w3.cell? ⟨G.gb,0,none⟩=some (.slice (some ⟨lb,0,none⟩) len vc):=(cell_of_row w3 G.gb 0 _ _ _ fo).trans (by rw[HV.out,cL.out];rfl);have hfg3:=frozen_of_row w3 G.gb 0 _ _ fo;obtain⟨w4,cP⟩:∃w4,w4=w3.setCell ⟨G.gb,0,none⟩ (.slice (some ⟨lb,0,none⟩) (len-1) vc):=⟨_,rfl⟩;have hU:w4.heap[G.gb]?=some (.cells #[.slice (some ⟨lb,0,none⟩) (len-1) vc,.map (some G.nb)] 253 (0,0)):=by rw[cP];exact heap_setCell_same w3 G.gb 0 _ _ _ fo
  have e4:∀k,k≠G.gb->w4.heap[k]?=w3.heap[k]?:=λk hk=>by rw[cP];exact heap_setCell_other w3 ⟨G.gb,0,none⟩ k _ hk
  have fR:w4.heap.size=w3.heap.size:=by rw[cP];simp[World.setCell]
  have iQ:w4.os=w3.os/\w4.tape=w3.tape/\w4.output=w3.output:=by rw[cP];exact⟨rfl,rfl,rfl⟩
  have hc4:w4.cell? ⟨G.gb,0,none⟩=some (.slice (some ⟨lb,0,none⟩) (len-1) vc):=cell_of_row w4 G.gb 0 _ _ _ hU;have S7:w4.heap[ib]?=some (.cells #[.map (some M),.int .i64 (xR gs)] 163 (0,0)):=(e4 ib d4).trans ((e3 ib l2 d6).trans ((A6.out ib d5).trans G9.blk));have oB:y4 ekS w4 M (gs.map MG.e) mc:=(e4 M d7).trans ((e3 M l3 d9).trans ((A6.out M d8).trans G9.map));have WW:y4 ekI w4 G.nb (G.nl.eraseIdx j) G.nc:=(e4 G.nb (λe=>d3 e.symm)).trans ((e3 G.nb l4 (λe=>d2 e.symm)).trans bQ.out);have ci:=HX.few;have htp:1<=xR gs:=by have:=vj fh;rw[<-cL.out]at this;omega
  have J9:zq B w4 (.slice (some ⟨lb,0,none⟩) (len-1) vc) (G.ms.eraseIdx pos):=by
   have eK:(G.ms.eraseIdx pos).length=len-1:=by rw[dy_,<-cL.out,if_pos hlt]
   refine⟨?_,λx hx=>?_⟩
   ·rw[eK,xV8];refine⟨ae.1,?_⟩;rcases ae.2 with h0|⟨g',cap',cur,e,hg,aq,hx⟩
    ·exact .inl h0
    ·refine .inr ⟨g',cap',cur,e,hg,(e4 g' ?_).trans aq,hx⟩;cases e
     exact d1
   ·have h1:=wk.refs x (xN0 hx);refine h1.block λk hk=>?_
    obtain⟨cur,h2⟩:=h1.typed hk;have ct:k≠lb:=λe=>by
     obtain⟨c3,h4⟩:=yR wk.row (k:=lb) rfl;rw[e,h4]at h2;cases h2
    have hkg:k≠G.gb:=λe=>by rw[e,WV.out]at h2;cases h2
    rw[e4 k hkg,e3 k (by have:=(h1.lt hk).2;omega) ct]
  have dQ:Kept G.foot w w4:=by
   have h1:=ar.out;refine⟨?_,?_,?_,?_,λk hk hn=>?_⟩
   ·exact iQ.1.trans (aR.os.trans (gZ.1.trans h1.os))
   ·exact iQ.2.1.trans (aR.tape.trans (gZ.2.1.trans h1.tape))
   ·exact iQ.2.2.trans (aR.output.trans (gZ.2.2.trans h1.output))
   ·have:=aR.size;have:=h1.size;omega
   ·unfold MG.foot at hn;rw[HV.out]at hn;simp[Value.ownBlock]at hn;have:=h1.size;exact(e4 k hn.1).trans ((e3 k (by omega) hn.2.2).trans ((A6.out k hn.2.1).trans (h1.block k hk)))
  have so:=h_ hU;have Dz:=h_ S7;have Mx:=h_ oB;have g6:=h_ WW;have QH:=h_ J9;have A7:=h_ dQ;have wI:=h_ cP;have nA:=cell_of_row w4 ib 0 _ _ _ S7;clear fo e3 hU e4 fR iQ S7 oB WW J9 dQ cP ae aR gm S5 cT;by_cases h1:len=1
  ·obtain⟨jm,gK,dP,py⟩:=xWp s 0 HG.out HX.names;rw[aq_]at gK;obtain⟨w5,aY⟩:∃w5,w5=w4.putObj M (.map (((gs.map MG.e).eraseIdx jm).map (enE ekS)).toArray mc):=⟨_,rfl⟩;have My:∀ty,(Builtin.delete_ #[161,9] ty #[.map (some M),.string s]).run prog w4=.ok (.tuple #[]) w5:=λty=>by
    rw[aY];exact xQ0 keyS underlying161 ty w4 M (gs.map MG.e) mc Mx.out s jm _ gK (by simpa using dP)
   have CK:y4 ekS w5 M ((qF gs s).map MG.e) mc:=by rw[aY,py];exact Mx.put
   have e5:∀k,k≠M->w5.heap[k]?=w4.heap[k]?:=λk hk=>by rw[aY,aB_ hk]
   have nt:w5.heap.size=w4.heap.size:=by rw[aY];simp only[World.putObj,cx_]
   have wJ:w5.os=w4.os/\w5.tape=w4.tape/\w5.output=w4.output:=by rw[aY];exact⟨rfl,rfl,rfl⟩
   have mb:ib≠M:=(qh.1 HX.apart).1;have QI:=(e5 ib mb).trans Dz.out;have CD:=cell_of_row w5 ib 1 _ _ _ QI;have mJ:=frozen_of_row w5 ib 1 _ _ QI;have E9:=h_ QI;have HM5:=h_ CK;have Ka:=h_ e5;have oC:=h_ nt;have tN:=h_ wJ;have G_:(((len-1:Nat):Int)==0)=true:=by rw[h1];rfl
   have H1:=h_ h1;clear QI CK e5 nt wJ aY gK dP py h1;go_upto_region 9 with (fail)
   rw[<-wI.out];go_wp2_with (at_builtin;refine vC _ rfl (.tmp 60) (.tmp 61) 161 9 rfl _ _ rfl rfl (My _) ?_);have ht:=xBs HX.names HG.out;rw[<-cL.out,H1.out]at ht;have Ha:(w5.setCell ⟨ib,1,none⟩ (.int .i64 ((xR gs:Int)-1))).heap[ib]?=some (.cells #[.map (some M),.int .i64 (xR (qF gs s))] 163 (0,0)):=by
    have h2:=heap_setCell_same w5 ib 1 _ _ (.int .i64 ((xR gs:Int)-1)) E9.out;rw[h2,show ((xR gs:Int)-1)=((xR (qF gs s):Nat):Int) by omega];rfl
   have e6:∀k,k≠ib->(w5.setCell ⟨ib,1,none⟩ (.int .i64 ((xR gs:Int)-1))).heap[k]?=w5.heap[k]?:=λk hk=>heap_setCell_other w5 ⟨ib,1,none⟩ k _ hk
   have nZ:(w5.setCell ⟨ib,1,none⟩ (.int .i64 ((xR gs:Int)-1))).heap.size=w5.heap.size:=by simp[World.setCell]
   generalize b8:w5.setCell ⟨ib,1,none⟩ (.int .i64 ((xR gs:Int)-1))=w6 at Ha e6 nZ⊢;have DA:w6.os=w5.os/\w6.tape=w5.tape/\w6.output=w5.output:=by rw[<-b8];exact⟨rfl,rfl,rfl⟩
   have dq:Kept (ib :: M :: G.foot) w w6:=by
    have h2:=A7.out;refine⟨DA.1.trans (tN.1.trans h2.os),DA.2.1.trans (tN.2.1.trans h2.tape),DA.2.2.trans (tN.2.2.trans h2.output),by have:=oC.out;have:=h2.size;omega,λk hk hn=>?_⟩;rw[ae_,ae_,not_or,not_or]at hn;exact(e6 k hn.1).trans ((Ka.out k hn.2.1).trans (h2.block k hk hn.2.2))
   have hcut:=HX.cut HG.out Ha ((e6 M (λe=>mb e.symm)).trans HM5.out) dq;clear Ha e6 nZ b8 DA CD mJ;go_ret;refine .inr ⟨pos,m,QG.out,WU.out,rfl,_,mc,hcut.1,dq.mono λk hk _=>?_,hcut.2,λt=>?_,by omega⟩
   ·unfold foot;rw[ae_,ae_]at hk⊢;rcases hk with hk|hk|hk
    ·exact .inl hk
    ·exact .inr (.inl hk)
    ·exact .inr (.inr (bg_.2 ⟨G,fh,hk⟩))
   ·rw[xLl];by_cases hts:t=s
    ·rw[if_pos hts,if_pos hts];have h2:(xA gs s).length=1:=by rw[WT.out,<-cL.out,H1.out]
     symm;rw[<-br_,dy_,h2,if_pos (by rw[H1.out]at hlt;exact hlt)]
    ·rw[if_neg hts,if_neg hts]
  ·have G_:(((len-1:Nat):Int)==0)=false:=by rw[beq_eq_false_iff_ne];omega
   go_upto_region 9 with (fail)
   rw[<-wI.out];have CD:=cell_of_row w4 ib 1 _ _ _ Dz.out;have mJ:=frozen_of_row w4 ib 1 _ _ Dz.out;have H1:=h_ h1;clear h1;go_wp2;obtain⟨G',fg⟩:∃G':MG,G'=⟨G.name,G.born,G.gb,G.nb,.slice (some ⟨lb,0,none⟩) (len-1) vc,G.ms.eraseIdx pos,G.nl.eraseIdx j,G.nc⟩:=⟨_,rfl⟩;have ht:=xBr (G':=G') HX.names HG.out;have eK:G'.ms.length=len-1:=by rw[fg];show (G.ms.eraseIdx pos).length=_;rw[dy_,<-cL.out,if_pos hlt]
   rw[eK,<-cL.out]at ht;have Ha:(w4.setCell ⟨ib,1,none⟩ (.int .i64 ((xR gs:Int)-1))).heap[ib]?=some (.cells #[.map (some M),.int .i64 (xR (qD gs s G'))] 163 (0,0)):=by
    have h2:=heap_setCell_same w4 ib 1 _ _ (.int .i64 ((xR gs:Int)-1)) Dz.out;rw[h2,show ((xR gs:Int)-1)=((xR (qD gs s G'):Nat):Int) by omega];rfl
   have e6:∀k,k≠ib->(w4.setCell ⟨ib,1,none⟩ (.int .i64 ((xR gs:Int)-1))).heap[k]?=w4.heap[k]?:=λk hk=>heap_setCell_other w4 ⟨ib,1,none⟩ k _ hk
   have nZ:(w4.setCell ⟨ib,1,none⟩ (.int .i64 ((xR gs:Int)-1))).heap.size=w4.heap.size:=by simp[World.setCell]
   generalize b8:w4.setCell ⟨ib,1,none⟩ (.int .i64 ((xR gs:Int)-1))=w6 at Ha e6 nZ⊢;have DA:w6.os=w4.os/\w6.tape=w4.tape/\w6.output=w4.output:=by rw[<-b8];exact⟨rfl,rfl,rfl⟩
   have dq:Kept (ib :: G.foot) w w6:=by
    have h2:=A7.out;refine⟨DA.1.trans h2.os,DA.2.1.trans h2.tape,DA.2.2.trans h2.output,by have:=h2.size;omega,λk hk hn=>?_⟩;rw[ae_,not_or]at hn;exact(e6 k hn.1).trans (h2.block k hk hn.2)
   have aB:uz B w6 G':=by
    rw[fg];have hp:=Mv.out;refine⟨(e6 G.gb (λe=>d4 e.symm)).trans so.out,?_,(e6 G.nb (λe=>d5 e.symm)).trans g6.out,hp.agree,hp.ids,hp.sorted,hp.good,S4.named,?_,S4.gbB,S4.nbB⟩
    ·refine QH.keep (λk hk=>e6 k ?_) (λx hx k hk=>e6 k ?_)
     ·cases hk;exact λe=>d6 e.symm
     ·rintro rfl;obtain⟨cur,h2⟩:=(QH.refs x hx).typed hk;rw[Dz.out]at h2;cases h2
    ·intro e;have h2:(G.ms.eraseIdx pos).length=0:=br_.2 e;have h3:=H1.out;rw[fg]at eK;have:(G.ms.eraseIdx pos).length=len-1:=eK;omega
   have Mz:=HX.upd (w':=w6) (G':=G') HG.out (by rw[fg]) (by rw[fg]) (by rw[fg]) (by rw[fg]) (.inl (by rw[fg,HV.out];rfl)) aB Ha dq (by omega);clear Ha e6 nZ b8 DA CD mJ;go_ret;refine .inr ⟨pos,m,QG.out,WU.out,rfl,_,mc,Mz.1,dq.mono λk hk _=>?_,Mz.2,λt=>?_,by omega⟩
   ·unfold foot;rcases ae_.1 hk with rfl|hk
    ·simp
    ·exact ae_.2 (.inr (ae_.2 (.inr (bg_.2 ⟨G,fh,hk⟩))))
   ·rw[xDi t HG.out (by rw[fg];exact pZ),WT.out,fg]
end
theorem xF5:∀a:List UInt8,Op.bytesLess a a=false
 |[]=>rfl
 |a :: x=>by
  unfold Op.bytesLess;rw[xF5 x];simp
theorem ko:∀a b c:List UInt8,Op.bytesLess a b=true->Op.bytesLess b c=true->Op.bytesLess a c=true
 |_,_,[],_,h=>by cases ‹List UInt8› <;> simp[Op.bytesLess]at h
 |[],_,_ :: _,_,_=>rfl
 |_ :: _,[],_ :: _,h,_=>by simp[Op.bytesLess]at h
 |a :: x,b :: y,c :: z,h1,h2=>by
  unfold Op.bytesLess at h1 h2⊢;simp only[bI_,decide_eq_true_eq,aA_,beq_iff_eq]at h1 h2⊢;rcases h1 with h1|⟨h1,g1⟩
  ·rcases h2 with h2|⟨h2,g2⟩
   ·exact .inl (by rw[dn_]at *;omega)
   ·exact .inl (h2▸h1)
  ·rcases h2 with h2|⟨h2,g2⟩
   ·exact .inl (h1▸h2)
   ·exact .inr ⟨h1.trans h2,ko x y z g1 g2⟩
theorem j8:∀a b:List UInt8,Op.bytesLess a b=false->Op.bytesLess b a=false->a=b
 |[],[],_,_=>rfl
 |[],_ :: _,h,_=>by simp[Op.bytesLess]at h
 |_ :: _,[],_,h=>by simp[Op.bytesLess]at h
 |a :: x,b :: y,h1,h2=>by
  unfold Op.bytesLess at h1 h2;simp only[Bool.or_eq_false_iff,decide_eq_false_iff_not]at h1 h2;have e:a=b:=by
   apply dA_.1;have:=h1.1;have:=h2.1;rw[dn_]at *;omega
  subst e;simp only[beq_self_eq_true,Bool.true_and]at h1 h2;rw[j8 x y h1.2 h2.2]
theorem xJl {a b}(h:Op.bytesLess a b=true):Op.bytesLess b a=false:=by
 cases h2:Op.bytesLess b a with
 |false=>rfl
 |true=>
  have:=ko a b a h h2;rw[xF5]at this;cases this
def cmpL:List (List UInt8)->List (List UInt8)->Int
 |[],[]=>0
 |[],_ :: _=>-1
 |_ :: _,[]=>1
 |a :: x,b :: y=>if Op.bytesLess a b then -1 else if Op.bytesLess b a then 1 else cmpL x y
def cmpN (a b:ByteArray):Int:=cmpL (uX 46 a.data.toList) (uX 46 b.data.toList)
theorem xGg:∀x y,cmpL y x=- cmpL x y
 |[],[]=>rfl
 |[],_ :: _=>rfl
 |_ :: _,[]=>rfl
 |a :: x,b :: y=>by
  unfold cmpL;cases h1:Op.bytesLess a b with
  |true=>simp[xJl h1]
  |false=>
   cases h2:Op.bytesLess b a with
   |true=>simp
   |false=>simpa using xGg x y
theorem xYq (x):cmpL x x=0:=by have:=xGg x x;omega
theorem xNl:∀x y,cmpL x y=0->x=y
 |[],[],_=>rfl
 |[],_ :: _,h=>by simp[cmpL]at h
 |_ :: _,[],h=>by simp[cmpL]at h
 |a :: x,b :: y,h=>by
  unfold cmpL at h;cases h1:Op.bytesLess a b with
  |true=>simp[h1]at h
  |false=>
   cases h2:Op.bytesLess b a with
   |true=>simp[h1,h2]at h
   |false=>
    simp[h1,h2]at h;rw[j8 a b h1 h2,xNl x y h]
theorem xKt:∀x y z,cmpL x y<0->cmpL y z<0->cmpL x z<0
 |[],[],_,h,_=>by simp[cmpL]at h
 |_ :: _,[],_,h,_=>by simp[cmpL]at h
 |_,_ :: _,[],_,h=>by simp[cmpL]at h
 |[],_ :: _,_ :: _,_,_=>by simp[cmpL]
 |a :: x,b :: y,c :: z,h1,h2=>by
  unfold cmpL at h1 h2⊢;cases ab:Op.bytesLess a b with
  |true=>
   cases bc:Op.bytesLess b c with
   |true=>simp[ko a b c ab bc]
   |false=>
    cases cb:Op.bytesLess c b with
    |true=>simp[bc,cb]at h2
    |false=>
     obtain rfl:=j8 b c bc cb;simp[ab]
  |false=>
   cases ba:Op.bytesLess b a with
   |true=>simp[ab,ba]at h1
   |false=>
    obtain rfl:=j8 a b ab ba;cases bc:Op.bytesLess a c with
    |true=>simp
    |false=>
     cases cb:Op.bytesLess c a with
     |true=>simp[bc,cb]at h2
     |false=>
      simp[ab]at h1;simp[bc,cb]at h2;simpa using xKt x y z h1 h2
theorem xYp (a b):cmpN b a=- cmpN a b:=xGg _ _
theorem xD4 (a):cmpN a a=0:=xYq _
theorem xYo {a b}(h:cmpN a b=0):a=b:=by
 have:=xNl _ _ h;have h2:=congrArg (λl=>Lib.join l [46]) this;simp only[xJu]at h2;cases a;cases b;simp only[Array.toList_inj]at h2;rw[h2]
theorem xKr {a b c}(h1:cmpN a b<0)(h2:cmpN b c<0):cmpN a c<0:=xKt _ _ _ h1 h2
theorem xKs {a b}(h1:¬ cmpN a b<0)(h2:¬ cmpN b a<0):a=b:=by
 have:=xYp a b;exact xYo (by omega)
def ordN (l:List ByteArray):Prop:=l.Pairwise λa b=>cmpN a b<0
theorem kb (a w):Calls prog 231 #[.string a] w λr w'=>r=.returned (.bool false)/\w=w':=by
 have h:(a.toList==a.toList)=true:=by simp
 go_enter func231,ntmps231;go_wp2;go_ret;exact⟨rfl,rfl⟩
def cmpS (a b:ByteArray):Int:=if Op.bytesLess a.toList b.toList then -1 else if Op.bytesLess b.toList a.toList then 1 else 0
theorem yD2 (a b:ByteArray):(!(Op.bytesLess a.toList b.toList||a.toList==b.toList))=(Op.bytesLess b.toList a.toList):=by
 cases h1:Op.bytesLess a.toList b.toList with
 |true=>rw[xJl h1];rfl
 |false=>
  cases h2:Op.bytesLess b.toList a.toList with
  |true=>
   have:(a.toList==b.toList)=false:=by
    rw[beq_eq_false_iff_ne];intro e;rw[e,xF5]at h2;cases h2
   rw[this];rfl
  |false=>
   rw[j8 _ _ h1 h2];simp
theorem xVl (a b w):Calls prog 187 #[.string a,.string b] w λr w'=>r=.returned (.int .i64 (cmpS a b))/\w=w':=by
 have hg:=yD2 a b;unfold cmpS;generalize h1:Op.bytesLess a.toList b.toList=x at hg;generalize h2:Op.bytesLess b.toList a.toList=y at hg;generalize h3:(a.toList==b.toList)=z at hg;cases x with
 |true=>
  go_enter func187,ntmps187;go_wp2_with fail;refine(kb a w).mono ?_;rintro r w' ⟨rfl,rfl⟩;go_wp2_with fail;refine(kb b w).mono ?_;rintro r w' ⟨rfl,rfl⟩;go_wp2;go_ret;exact⟨rfl,rfl⟩
 |false=>
  cases y with
  |true=>
   obtain rfl:z=false:=by cases z with|false=>rfl|true=>simp at hg
   clear hg;go_enter func187,ntmps187;go_wp2_with fail;refine(kb a w).mono ?_;rintro r w' ⟨rfl,rfl⟩;go_wp2_with fail;refine(kb b w).mono ?_;rintro r w' ⟨rfl,rfl⟩;go_wp2;go_ret;exact⟨rfl,rfl⟩
  |false=>
   obtain rfl:z=true:=by cases z with|true=>rfl|false=>simp at hg
   clear hg;go_enter func187,ntmps187;go_wp2_with fail;refine(kb a w).mono ?_;rintro r w' ⟨rfl,rfl⟩;go_wp2_with fail;refine(kb b w).mono ?_;rintro r w' ⟨rfl,rfl⟩;go_wp2;go_ret;exact⟨rfl,rfl⟩
theorem xFm {α:Type}(l:List α)(k)(h:l.length<=k):l.drop k=[]:=aO_ h
def cmpB (xs ys:List ByteArray):Int:=cmpL (xs.map (·.data.toList)) (ys.map (·.data.toList))
theorem xYr {xs ys:List ByteArray}{k}(hx:k<xs.length)(hy:k<ys.length):cmpB (xs.drop k) (ys.drop k)=if cmpS xs[k] ys[k]≠0 then cmpS xs[k] ys[k]else cmpB (xs.drop (k+1)) (ys.drop (k+1)):=by
 rw[bG_ hx,bG_ hy];unfold cmpB cmpS;simp only[au_,dE_]
 conv=>lhs;unfold cmpL
 cases Op.bytesLess xs[k].data.toList ys[k].data.toList with
 |true=>simp
 |false=>cases Op.bytesLess ys[k].data.toList xs[k].data.toList <;> simp
theorem yDf (a b):cmpN a b=cmpB (yI 46 a) (yI 46 b):=by
 unfold cmpN cmpB yI;simp only[bt_];have:((λx:ByteArray=>x.data.toList)∘str)=id:=by funext l;simp[xZc]
 rw[this,List.map_id,List.map_id]
theorem xTg (b1 b2 c1 c2 xs ys w)(hx:kE w b1 0 xs)(hy:kE w b2 0 ys)(h1:xs.length<=1000000)(h2:ys.length<=1000000):
  Calls prog 148 #[.slice (some ⟨b1,0,none⟩) xs.length c1,.slice (some ⟨b2,0,none⟩) ys.length c2] w λr w'=>r=.returned (.int .i64 (cmpB xs ys))/\w=w':=by
 have HX:=h_ hx;have HY:=h_ hy;clear hx hy;go_enter func148,ntmps148;go_wp2;go_loop [11] (λi=>∃k:Nat,k<=xs.length/\k<=ys.length/\i=.int .i64 k/\Hid (cmpB xs ys=cmpB (xs.drop k) (ys.drop k))) (λi=>xs.length-(intOf i).toNat)
 case atStart=>exact⟨0,by omega,by omega,rfl,h_ rfl⟩
 case round=>
  obtain⟨k,hk,hk2,rfl,HB⟩:=hrel;by_cases hlt:k<xs.length
  ·have cr:(k:Int)<(xs.length:Int):=by omega
   have dO:=HX.out k _ (ak_ hlt);rw[aq_]at dO;by_cases hlt2:k<ys.length
   ·have E_:¬ ((ys.length:Int)<=(k:Int)):=by omega
    have WX:((k:Int)<(ys.length:Int)):=by omega
    have gm:=HY.out k _ (ak_ hlt2);rw[aq_]at gm;have aO:=h_ (HB.trans (xYr hlt hlt2));have HC:=h_ (xVl xs[k] ys[k] w);clear HB;generalize cmpS xs[k] ys[k]=c at aO HC;generalize xs[k]=x at dO HC;generalize ys[k]=y at gm HC;go_wp2_with fail;refine HC.mono ?_;rintro r w' ⟨rfl,rfl⟩;by_cases hc0:c=0
    ·subst hc0;go_wp2;go_round
     case rel=>exact⟨k+1,by omega,by omega,by go_num,h_ (by rw[aO.out];simp)⟩
     case measure=>simp[intOf];omega
    ·have hc0b:(c != 0)=true:=by simpa using hc0
     have hc0c:(c==0)=false:=by simpa using hc0
     go_wp2;go_ret;exact⟨uv (by rw[aO.out,if_pos hc0]),rfl⟩
   ·have E_:((ys.length:Int)<=(k:Int)):=by omega
    have HE:Hid (cmpB xs ys=1):=h_ (by
     rw[HB.out,bG_ hlt,xFm ys k (by omega)];rfl)
    clear HB;go_wp2;go_ret;exact⟨uv HE.symm,rfl⟩
  ·by_cases hlt2:k<ys.length
   ·have hl:(xs.length:Int)<(ys.length:Int):=by omega
    have HE:Hid (cmpB xs ys=-1):=h_ (by
     rw[HB.out,bG_ hlt2,xFm xs k (by omega)];rfl)
    clear HB;go_wp2;go_ret;exact⟨uv HE.symm,rfl⟩
   ·have hl:¬ (xs.length:Int)<(ys.length:Int):=by omega
    have HE:Hid (cmpB xs ys=0):=h_ (by
     rw[HB.out,xFm xs k (by omega),xFm ys k (by omega)];rfl)
    clear HB;go_wp2;go_ret;exact⟨uv HE.symm,rfl⟩
theorem xTf (a b w)(hG:Gl w)(ha:a.size<=100000)(hb:b.size<=100000):
  Calls prog 119 #[.string a,.string b] w λr w'=>r=.returned (.int .i64 (cmpN a b))/\Below w.heap.size w w'/\(w.alloc (.cells ((yI 46 a).map Value.string).toArray 9)).alloc (.cells ((yI 46 b).map Value.string).toArray 9)=w':=by
 have Ad:=(xDv 46 a).2;have sk:=(xDv 46 b).2;have hB:Below w.heap.size w ((w.alloc (.cells ((yI 46 a).map Value.string).toArray 9)).alloc (.cells ((yI 46 b).map Value.string).toArray 9)):=((ab_ _ _).alloc (aa_ _) _).alloc (by simp) _;have HB:=h_ hB;clear hB;have aV:kE ((w.alloc (.cells ((yI 46 a).map Value.string).toArray 9)).alloc (.cells ((yI 46 b).map Value.string).toArray 9)) w.heap.size 0 (yI 46 a):=λk x hx=>bv_ _ (xG1 w 9 (yI 46 a) k x hx)
 have aP:kE ((w.alloc (.cells ((yI 46 a).map Value.string).toArray 9)).alloc (.cells ((yI 46 b).map Value.string).toArray 9)) (w.heap.size+1) 0 (yI 46 b):=by
  have:=xG1 (w.alloc (.cells ((yI 46 a).map Value.string).toArray 9)) 9 (yI 46 b);simpa using this
 have HC:=h_ (xTg w.heap.size (w.heap.size+1) (yI 46 a).length (yI 46 b).length (yI 46 a) (yI 46 b) _ aV aP (by omega) (by omega));clear aV aP;rw[<-yDf]at HC;go_enter func119,ntmps119;go_wp2_with fail;refine(xKl a w hG (by omega)).mono ?_;rintro r w'⟨rfl,rfl⟩;go_wp2_with fail;refine(xKl b _ (hG.later ((ab_ _ _).alloc (aa_ _) _)) (by omega)).mono ?_;rintro r w'⟨rfl,rfl⟩;go_wp2_with fail;refine HC.mono ?_;rintro r w' ⟨rfl,rfl⟩;go_wp2;go_ret;exact⟨rfl,HB.out,rfl⟩
end Go.Proofs.YtegfbhdkenkkdaaGreatDoor
namespace Go.Proofs
open Go.Shelf
def Tryz.keysA_ren:Go.Shelf.Ren:=⟨λ| 7=>123|10=>153|n=>n,λ| 23=>161|26=>9|3=>250|28=>248|0=>0|27=>247|33=>293|4=>4|n=>n,λ| n=>n⟩
theorem Tryz.keysA:Go.Proofs.SlLaysZ.n7 prog Tryz.keysA_ren:={
 mixed:=by kernel_rfl
 f7:=⟨f123.name,by decide,func123.trans (congrArg some (by kernel_rfl))⟩
 f10:=⟨f153.name,by decide,func153.trans (congrArg some (by kernel_rfl))⟩
 t0:=underlying0
 a0:=isAgg0
 z0:=sizeOf0
 v0:=zeroValue0
 t4:=underlying4
 a4:=isAgg4
 z4:=sizeOf4
 v4:=zeroValue4
 t23:=underlying161
 a23:=isAgg161
 z23:=sizeOf161
 v23:=zeroValue161
 t26:=underlying9
 a26:=isAgg9
 z26:=sizeOf9
 v26:=zeroValue9
 t27:=underlying247
 a27:=isAgg247
 z27:=sizeOf247
 v27:=zeroValue247
 t28:=underlying248
 a28:=isAgg248
 z28:=sizeOf248
 v28:=zeroValue248
 t33:=underlying293
 a33:=isAgg293
 z33:=sizeOf293
 v33:=zeroValue293 }
def Tryz.collectA_ren:Go.Shelf.Ren:=⟨λ| 8=>152|11=>190|n=>n,λ| 26=>9|28=>248|24=>34|0=>0|33=>293|4=>4|n=>n,λ| n=>n⟩
theorem Tryz.collectA:Go.Proofs.SlLaysZ.n8 prog Tryz.collectA_ren:={
 mixed:=by kernel_rfl
 f8:=⟨f152.name,by decide,func152.trans (congrArg some (by kernel_rfl))⟩
 f11:=⟨f190.name,by decide,func190.trans (congrArg some (by kernel_rfl))⟩
 t0:=underlying0
 a0:=isAgg0
 z0:=sizeOf0
 v0:=zeroValue0
 t24:=underlying34
 a24:=isAgg34
 z24:=sizeOf34
 v24:=zeroValue34
 t26:=underlying9
 a26:=isAgg9
 z26:=sizeOf9
 v26:=zeroValue9
 t28:=underlying248
 a28:=isAgg248
 z28:=sizeOf248
 v28:=zeroValue248
 i26:=by kernel_rfl }
def Tryz.sortA_ren:Go.Shelf.Ren:=⟨λ| 6=>118|15=>147|14=>146|28=>185|29=>186|20=>177|21=>178|22=>179|23=>180|24=>181|25=>182|26=>183|27=>184|46=>226|47=>227|48=>228|49=>229|50=>230|57=>258|n=>n,λ| 22=>34|24=>9|25=>242|3=>3|39=>225|0=>0|53=>330|55=>279|4=>4|46=>323|45=>322|50=>327|5=>5|9=>9|66=>366|70=>369|76=>393|77=>394|n=>n,λ| n=>n⟩
theorem Tryz.sortA:Go.Proofs.SlLaysF.n6 prog Tryz.sortA_ren:={
 mixed:=by kernel_rfl
 f6:=⟨f118.name,by decide,func118.trans (congrArg some (by kernel_rfl))⟩
 f14:=⟨Tryz.f146.name,by decide,func146.trans (congrArg some (by kernel_rfl))⟩
 f15:=func147.trans (congrArg some (by kernel_rfl))
 f20:=⟨f177.name,by decide,func177.trans (congrArg some (by kernel_rfl))⟩
 f21:=⟨f178.name,by decide,func178.trans (congrArg some (by kernel_rfl))⟩
 f22:=⟨f179.name,by decide,func179.trans (congrArg some (by kernel_rfl))⟩
 f23:=⟨f180.name,by decide,func180.trans (congrArg some (by kernel_rfl))⟩
 f24:=⟨f181.name,by decide,func181.trans (congrArg some (by kernel_rfl))⟩
 f25:=⟨f182.name,by decide,func182.trans (congrArg some (by kernel_rfl))⟩
 f26:=⟨f183.name,by decide,func183.trans (congrArg some (by kernel_rfl))⟩
 f27:=⟨f184.name,by decide,func184.trans (congrArg some (by kernel_rfl))⟩
 f28:=func185.trans (congrArg some (by kernel_rfl))
 f29:=func186.trans (congrArg some (by kernel_rfl))
 f46:=⟨f226.name,by decide,func226.trans (congrArg some (by kernel_rfl))⟩
 f47:=func227.trans (congrArg some (by kernel_rfl))
 f48:=func228.trans (congrArg some (by kernel_rfl))
 f49:=⟨f229.name,by decide,func229.trans (congrArg some (by kernel_rfl))⟩
 f50:=⟨f230.name,by decide,func230.trans (congrArg some (by kernel_rfl))⟩
 f57:=⟨f258.name,by decide,func258.trans (congrArg some (by kernel_rfl))⟩
 t0:=underlying0
 a0:=isAgg0
 z0:=sizeOf0
 v0:=zeroValue0
 t3:=underlying3
 a3:=isAgg3
 z3:=sizeOf3
 v3:=zeroValue3
 t4:=underlying4
 a4:=isAgg4
 z4:=sizeOf4
 v4:=zeroValue4
 t5:=underlying5
 a5:=isAgg5
 z5:=sizeOf5
 v5:=zeroValue5
 t9:=underlying9
 a9:=isAgg9
 z9:=sizeOf9
 v9:=zeroValue9
 t22:=underlying34
 a22:=isAgg34
 z22:=sizeOf34
 v22:=zeroValue34
 a24:=isAgg9
 z24:=sizeOf9
 t25:=underlying242
 a25:=isAgg242
 z25:=sizeOf242
 v25:=zeroValue242
 t39:=underlying225
 a39:=isAgg225
 z39:=sizeOf225
 v39:=zeroValue225
 t45:=underlying322
 a45:=isAgg322
 z45:=sizeOf322
 v45:=zeroValue322
 t46:=underlying323
 a46:=isAgg323
 z46:=sizeOf323
 v46:=zeroValue323
 t50:=underlying327
 a50:=isAgg327
 z50:=sizeOf327
 v50:=zeroValue327
 t53:=underlying330
 a53:=isAgg330
 z53:=sizeOf330
 v53:=zeroValue330
 t55:=underlying279
 a55:=isAgg279
 z55:=sizeOf279
 v55:=zeroValue279
 t66:=underlying366
 a66:=isAgg366
 z66:=sizeOf366
 v66:=zeroValue366
 t70:=underlying369
 a70:=isAgg369
 z70:=sizeOf369
 v70:=zeroValue369
 t76:=underlying393
 a76:=isAgg393
 z76:=sizeOf393
 v76:=zeroValue393
 t77:=underlying394
 a77:=isAgg394
 z77:=sizeOf394
 v77:=zeroValue394 }
end Go.Proofs
namespace Go.Proofs.YtegfbhdkenkkdaaGreatDoor
open Go Go.RowKit Go.Proofs Tryz
def xVx (B:Nat)(w:World)(v:Value)(xs:List ByteArray):Prop:=(xs=[]/\v=.slice none 0 0)\/∃b c,v=.slice (some ⟨b,0,none⟩) xs.length c/\xs.length<=c/\kE w b 0 xs/\B<=b/\b<w.heap.size
theorem xVx.slice {B w v xs}(h:xVx B w v xs):∃a c,v=.slice a xs.length c:=by
 rcases h with⟨e,h⟩|⟨b,c,e,_⟩
 ·exact⟨none,0,by rw[h,e];rfl⟩
 ·exact⟨_,_,e⟩
def xL1:Type:={ s:ByteArray // s.size<=100000 }
instance:Inhabited xL1:=⟨⟨⟨#[]⟩,by decide⟩⟩
def mkN (s:ByteArray)(h:s.size<=100000):xL1:=⟨s,h⟩
def encN (x:xL1):Value:=.string x.1
def cfN (x y:xL1):Int:=cmpN x.1 y.1
theorem swoN:Go.Sort.SWO (ltOf cfN) where
 irrefl x:=by unfold ltOf cfN;rw[xD4];rfl
 trans x y z h1 h2:=by
  unfold ltOf cfN at *;rw[decide_eq_true_eq]at *;exact xKr h1 h2
 ntrans x y z h1 h2:=by
  unfold ltOf cfN at *;rw[decide_eq_false_iff_not]at *;intro h3;by_cases h:cmpN y.1 x.1<0
  ·exact h2 (xKr h h3)
  ·exact h2 (xKs h1 h▸h3)
theorem xBk (w:World)(blk off m:Nat)(dk:Array xL1)(os:Array Obj)(hb:blk<=w.heap.size):Below blk w (sortWorld encN w blk off m dk os) where
 os:=rfl
 tape:=rfl
 output:=rfl
 size:=by simp[sortWorld]
 block k hk:=by
  unfold sortWorld;rw[do_ _ _ (by simp;omega)];unfold Go.Sort.putRow Go.Sort.mapBlock;simp only[bK_];rw[if_neg (by omega)];rfl
theorem yDg (w)(hG:Gl w)(blk off n)(hb:prog.globals.size<=blk)(aG:blk<=w.heap.size):CmpLays1 prog 119 #[] encN cfN blk off n w:=λm os dk _ x y=>by
 refine(xTf x.1 y.1 (sortWorld encN w blk off m dk os) (hG.below (xBk w blk off m dk os aG) hb) x.2 y.2).mono ?_;rintro e w' ⟨rfl,_,rfl⟩;refine⟨rfl,0,#[.cells ((yI 46 x.1).map Value.string).toArray 9,.cells ((yI 46 y.1).map Value.string).toArray 9],?_⟩;rw[cJ_,cJ_,Go.Sort.grow_grow];rfl
def xQe (_:Value):Option (DataW Unit×List MemPlace):=some (.nil,[])
def xBc (P:Program)(gs:List MG):DataW Unit:=.map (((gs.map λG=>enE ekS G.e).map (Go.WideElems.rg P 9 xQe)).foldr DataW.insert [])
theorem xMz {s}(h:uw s=0):s.size<=80:=by
 unfold uw at h;split at h
 ·cases h
 ·omega
theorem xW9 (G:MG)(h:uw G.name=0):Go.WideElems.rd prog 9 xQe (enE ekS G.e)=some (.string G.name.data.toList,.nil):=by
 have hs:=xMz h;have hk:Go.keyOf prog 9 (.string G.name)=some (.string G.name.data.toList):=Go.WideMaps.keyOf_string_mk underlying9 (by unfold maxLen;omega);unfold Go.WideElems.rd;show (Go.keyOf prog 9 (.string G.name)).bind _=_
 rw[hk];rfl
theorem ye.owns {B w ib M mc gs}(h:ye B w ib M gs mc)(hn:gs.length<=65536):w.ownsMap prog 9 xQe M gs.length (xBc prog gs):=by
 refine⟨_,mc,h.map,⟨?_,⟨?_,?_,?_⟩,?_⟩,by simp,?_⟩
 ·simp;unfold maxLen;omega
 ·intro x hx;simp only[bt_,az_,Function.comp]at hx;obtain⟨G,hG,rfl⟩:=hx;exact h.young G hG
 ·simp only[bt_];exact h.born
 ·simp only[bt_];have:(gs.map λG=>Value.string G.name).Nodup:=by
   have:=h.names;unfold List.Nodup at *;rw[di_]at *;exact this.imp λhne e=>hne (Value.string.inj e)
  exact this
 ·intro x hx;simp only[bt_,az_,Function.comp]at hx;obtain⟨G,hG,rfl⟩:=hx;exact⟨_,xW9 G (h.grps G hG).named⟩
 ·unfold xBc;simp[bt_,Function.comp_def]
theorem xL7 {B w ib M mc gs}(h:ye B w ib M gs mc):(Go.strKeys (xBc prog gs)).Perm (gs.map λG=>G.name.data.toList):=by
 unfold xBc Go.strKeys;refine((Go.WideShapes.sorted_perm _).map _).trans ?_;rw[bt_,bt_];refine List.Perm.of_eq (bJ_ λG hG=>?_);simp only[Function.comp];unfold Go.WideElems.rg;rw[xW9 G (h.grps G hG).named];rfl
theorem xIq (gs):Go.Maps.size (xBc prog gs)=gs.length:=by
 unfold xBc;rw[Go.Maps.size_eq,length_sorted];simp
theorem xAf:∀{gs:List MG},(∀G∈gs,G.ms≠[])->gs.length<=xR gs
 |[],_=>aV_ _
 |G :: gs,h=>by
  have h1:=xAf (gs:=gs) (λK hK=>h K (by simp[hK]));have h2:0<G.ms.length:=cy_.2 (h G (by simp));unfold xR at *;rw[au_,cb_,av_];omega
theorem ye.groups {B w ib M mc gs}(h:ye B w ib M gs mc):gs.length<=65536:=
 ad_ (xAf λG hG=>(h.grps G hG).some') h.few
def xL3 (gs:List MG)(w:World)(r:Ending)(w':World):Prop:=∃v ns,r=.returned v/\xVx w.heap.size w' v ns/\ordN ns/\(∀t,t∈ns↔∃G∈gs,G.name=t)/\Below w.heap.size w w'
theorem xRi:∀(ss:List ByteArray) (hd:∀s∈ss,s.size<=100000),ss.pmap (λa h=>(mkN a h).1) hd=ss
 |[],_=>rfl
 |s :: ss,hd=>by
  rw[List.pmap_cons,xRi ss];rfl
theorem xUa {w w' blk ss}(hd:∀s∈ss,s.size<=100000)(hn:ss.Nodup)(_hr:kE w blk 0 ss)(hb:blk<w.heap.size)(d' n os)
  (hH:Go.Sort.Holds encN w blk 0 (ss.pmap mkN hd).toArray)
  (hp:Go.Sort.PermIn 0 (ss.pmap mkN hd).toArray.size (ss.pmap mkN hd).toArray d') (hs:Go.Sort.SortedIn (ltOf cfN) 0 (ss.pmap mkN hd).toArray.size d') (hw:w'=sortWorld encN w blk 0 n d' os):
  ∃ns:List ByteArray,ns.length=ss.length/\kE w' blk 0 ns/\ordN ns/\∀t,t∈ns↔t∈ss:=by
 obtain⟨aI,_,Fa⟩:=hp;have S8:d'.size=ss.length:=by rw[aI];simp
 have e1:d'.extract 0 ((ss.pmap mkN hd).toArray).size=d':=by rw[<-aI];exact de_
 rw[e1,de_]at Fa;have gY:(d'.toList.map (·.1)).Perm ss:=by
  have:=Fa.map (λx:xL1=>x.1);rw[List.toList_toArray,List.map_pmap]at this;exact xRi ss hd▸this
 refine⟨d'.toList.map (·.1),by simp[S8],?_,?_,λt=>gY.mem_iff⟩
 ·intro k x hx;have hk:k<d'.size:=by
   have:=(ax_.1 hx).1;simpa using this
  have h1:=(Go.Proofs.holds_sortWorld encN w blk 0 n _ d' os hb hH aI) k hk;rw[hw,h1.1];rw[bk_,cf_,bd_ hk]at hx;simp only[aU_,aR_]at hx;rw[getElem!_pos d' k hk];unfold encN;rw[hx]
 ·unfold ordN;have bZ:(d'.toList.map (·.1)).Nodup:=gY.nodup_iff.2 hn;rw[bH_];intro i j hi hj hij;simp only[aQ_,bs_]at hi hj;have h1:=hs i j (aV_ _) hij (by rw[<-aI];exact hj);rw[getElem!_pos d' i hi,getElem!_pos d' j hj]at h1;unfold ltOf cfN at h1;rw[decide_eq_false_iff_not]at h1;simp only[bS_,dz_];refine Classical.byContradiction λh2=>?_
  have e:=xKs h2 h1;have h3:=bH_.1 bZ i j (by simpa using hi) (by simpa using hj) hij;simp only[bS_,dz_]at h3;exact h3 e
theorem xMt (bs:List ByteArray)(bz:∀s∈bs,s.size<=100000):(bs.pmap mkN bz).toArray.size=bs.length:=by simp
theorem xZk (g cap)(bs:List ByteArray)(w2)(cG:Gl w2)(bz:∀s∈bs,s.size<=100000)(nf:g<w2.heap.size)(hg:prog.globals.size<=g)(Hb:Go.Sort.Holds encN w2 g 0 (bs.pmap mkN bz).toArray)(ao:bs.length<=65536):
  Calls prog (Tryz.sortA_ren.f 6) #[.slice (some ⟨g,0,none⟩) (bs.pmap mkN bz).toArray.size cap,.func (.func 119) #[] #[]] w2 λe w'=>
     e=.returned (.tuple #[])/\∃d' n os,Go.Sort.PermIn 0 (bs.pmap mkN bz).toArray.size (bs.pmap mkN bz).toArray d'/\Go.Sort.SortedIn (ltOf cfN) 0 (bs.pmap mkN bz).toArray.size d'/\w'=sortWorld encN w2 g 0 n d' os:=
 Any.slices_SortFunc Tryz.sortA encN (λ_=>rfl) cfN swoN 119 #[] g 0 cap (bs.pmap mkN bz).toArray w2 (enters_of func119 (by kernel_rfl) rfl) (yDg w2 cG g 0 _ hg (by omega)) Hb nf (by rw[xMt];omega)
theorem yCi:Tryz.sortA_ren.f 6=118:=rfl
theorem xXn (g cap n)(bs:List ByteArray)(w2)(cG:Gl w2)(bz:∀s∈bs,s.size<=100000)(nf:g<w2.heap.size)(hg:prog.globals.size<=g)(Hb:Go.Sort.Holds encN w2 g 0 (bs.pmap mkN bz).toArray)(ao:bs.length<=65536)(hn:n=bs.length):
  Calls prog 118 #[.slice (some ⟨g,0,none⟩) n cap,.func (.func 119) #[] #[]] w2 λe w'=>
     e=.returned (.tuple #[])/\∃d' n os,Go.Sort.PermIn 0 (bs.pmap mkN bz).toArray.size (bs.pmap mkN bz).toArray d'/\Go.Sort.SortedIn (ltOf cfN) 0 (bs.pmap mkN bz).toArray.size d'/\w'=sortWorld encN w2 g 0 n d' os:=by
 have h:=xZk g cap bs w2 cG bz nf hg Hb ao;rw[yCi]at h;have e:(n:Nat)=(bs.pmap mkN bz).toArray.size:=by rw[xMt,hn]
 rw[e];exact h
theorem xK3 (B ib M mc gs w)(hG:Gl w)(h:ye B w ib M gs mc):
  Calls prog 88 #[.pointer (some ⟨ib,0,none⟩)] w λr w'=>xL3 gs w r w':=by
 have hc:=h.cell0;obtain⟨W1,c_⟩:∃W1,W1=w.alloc (.cells #[.map (some M)] 161):=⟨_,rfl⟩;have aa:Below w.heap.size w W1:=by rw[c_];exact b_ _ _
 have dm:=h.below aa;have aK:W1.heap.size=w.heap.size+1:=by rw[c_];simp
 have lX:W1.cell? ⟨w.heap.size,0,none⟩=some (.map (some M)):=by rw[c_];exact yz w _ _ 0
 have ae:=dm.owns h.groups;have wV:SeqGives Fence.wide 2 prog 153 #[.pointer (some ⟨w.heap.size,0,none⟩)] encStr (λss=>ss.Perm (Go.strKeys (xBc prog gs))) (Go.Maps.size (xBc prog gs)) W1:=
  AnyZ.keys_gives (ρ:=Tryz.keysA_ren) { Tryz.keysA with } Fence.wide _ trivial rfl (by omega) w.heap.size M gs.length _ _ (by omega) lX ae
 have hK:Calls prog 123 #[.map (some M)] w λe w'=>e=.returned (.func (.func 153) #[] #[.pointer (some ⟨w.heap.size,0,none⟩)])/\w'=W1:=by
  rw[c_];exact(callsIn_wide (n:=5)).1 (AnyZ.keys_in Tryz.keysA Fence.wide 5 trivial rfl (some M) w)
 have eH:=h.groups;have hC:Calls prog 152 #[.func (.func 153) #[] #[.pointer (some ⟨w.heap.size,0,none⟩)]] W1 λe w'=>∃(v:Value) (ss:List (List UInt8)),e=.returned v/\ss.Perm (Go.strKeys (xBc prog gs))/\w'.ownsRow W1.heap.size 9 1 v ss.length (ss.map encStr)/\(v=.slice none 0 0↔ss=[])/\Below W1.heap.size W1 w':=
  (callsIn_wide (n:=4)).1 (AnyZ.collect_in Tryz.collectA Fence.wide 4 trivial trivial rfl (by omega) 153 _ trivial (enters_of func153 (by kernel_rfl) rfl) _ _ (by rw[xIq];unfold maxLen;omega) (by rw[xIq];omega) W1 wV)
 have sI:=xL7 h;have nB:∀G∈gs,G.name.size<=80:=λG hG=>xMz (h.grps G hG).named
 have bZ:=h.names;have HS:Hid (Calls prog 122 #[.func (.func 153) #[] #[.pointer (some ⟨w.heap.size,0,none⟩)],.func (.func 119) #[] #[]] W1 λr w'=>xL3 gs w r w'):=h_ (by
  have HC:=h_ hC;have HG:=h_ (hG.later aa);have ar:=h_ aa;clear hC hK wV ae dm hc h hG aa lX c_;go_enter func122,ntmps122;go_wp2_with fail;refine HC.mono ?_;rintro r w2 ⟨v,ss,rfl,hp,ah,MA,aj⟩;have dh:=ar.trans (aj.mono (by omega));have gY:ss.Perm (gs.map λG=>G.name.data.toList):=hp.trans sI;have cG:=HG.later aj;have au:=h_ dh;rcases ah.2 with⟨rfl,h0⟩|⟨g,cap,cur,rfl,hg,aq,hle,dC,aJ,eG⟩
  ·have Kb:ss=[]:=br_.1 h0;have cQ:gs=[]:=by
    rw[Kb]at gY;have:=gY.symm.eq_nil;simpa using this
   clear ah MA aj dh hp gY cG HG HC ar sI h0 nB bZ aK eH;go_wp2_with fail;refine(AnyF.slices_SortFunc_none (L:={ Tryz.sortA with }) none 0 _ w2).mono ?_;rintro r w'⟨rfl,rfl⟩;go_wp2;go_ret;exact⟨_,[],rfl,.inl ⟨rfl,rfl⟩,.nil,λt=>by rw[cQ];simp,au.out⟩
  ·obtain⟨bs,pE⟩:∃bs:List ByteArray,bs=ss.map str:=⟨_,rfl⟩;have aG:bs.length=ss.length:=by rw[pE];simp
   have QJ:bs.Perm (gs.map λG=>G.name):=by
    rw[pE];refine(gY.map str).trans ?_;rw[bt_];refine List.Perm.of_eq (bJ_ λG _=>?_);rfl
   have Kc:bs.Nodup:=QJ.nodup_iff.2 bZ;have bz:∀s∈bs,s.size<=100000:=λs hs=>by
    obtain⟨G,hG,e⟩:=az_.1 (QJ.mem_iff.1 hs);have:=nB G hG;rw[<-e];omega
   have ao:ss.length=gs.length:=by
    have:=gY.length_eq;simpa using this
   have nf:=(i_ aq).1;have La:kE w2 g 0 bs:=λk x hx=>by
    have:=bc_ ah (g:=g) rfl k (.string x) (by
     rw[pE,bk_]at hx;rw[bk_];cases hk:ss[k]? with
     |none=>rw[hk]at hx;cases hx
     |some l=>rw[hk]at hx;cases hx;rfl)
    rwa [an_]at this
   have Hb:Go.Sort.Holds encN w2 g 0 (bs.pmap mkN bz).toArray:=λj hj=>by
    have E0:j<bs.length:=by simpa using hj
    refine⟨?_,?_⟩
    ·rw[La j bs[j] (ak_ E0),getElem!_pos _ j hj];simp only[dv_,List.getElem_pmap];rfl
    ·unfold World.frozen?;rw[aq];simp
   have aI:(bs.pmap mkN bz).toArray.size=ss.length:=by simp[aG]
   have nC:=h_ (xXn g cap ss.length bs w2 cG bz nf (ad_ (HG.size) hg) Hb (by omega) aG.symm);have aS:=h_ (λ(w':World) (d':Array xL1) n os hp hs hw=>xUa (w:=w2) (w':=w') bz Kc La nf d' n os Hb hp hs hw);have S9:Hid (∀t,t∈bs↔∃G∈gs,G.name=t):=h_ (λt=>by rw[QJ.mem_iff,az_]);have lY:=h_ aG;have ij:=h_ ao;clear Hb La ah MA aj dh hp gY cG HC sI nB bZ aJ eG Kc QJ pE aq aG ao aI;clear HG ar;go_wp2_with fail;refine nC.mono ?_;rintro r w3 ⟨rfl,d',n,os,hp,hs,hw⟩;obtain⟨ns,dY,dv,Mk,EA⟩:=aS.out w3 d' n os hp hs hw;have cU:Below g w2 w3:=by rw[hw];exact xBk w2 g 0 n d' os (by omega)
   have ay:=h_ (au.trans (cU.mono (by omega)));have A8:g<w3.heap.size:=ap_ nf cU.size;clear hp hs hw aS nC cU;have MC:=h_ (show ns.length=ss.length by rw[dY,lY.out]);clear dY;go_wp2;go_ret;exact⟨_,ns,rfl,.inr ⟨g,cap,by rw[MC.out];rfl,by rw[MC.out];exact hle,dv,by omega,A8⟩,Mk,λt=>(EA t).trans (S9.out t),ay.out⟩)
 have HK:=h_ hK;clear hC hK wV ae dm h hG aa lX sI nB bZ aK eH;clear c_;go_enter func88,ntmps88;go_wp2_with fail;refine HK.mono ?_;rintro r w' ⟨rfl,rfl⟩;go_wp2_with fail;refine HS.mono ?_;rintro r w' ⟨v,ns,rfl,ch⟩;have HP:=h_ ch;obtain⟨va,vc,rfl⟩:=ch.1.slice;clear ch;go_wp2;go_ret;exact⟨_,ns,rfl,HP.out⟩
section
attribute [local go_sem ↓] xL xI yy yr yB yJ
attribute [local go_sem] zm zA u1 zX zb xh xf xa x9 xu xv xk xj xq xx xt
abbrev PL:Type:=ByteArray×Int
def xCd (ps:List PL):List Value:=ps.flatMap λp=>[.string p.1,.int .i64 p.2]
theorem xV9 (ps p):xCd (ps++[p])=xCd ps++[.string p.1,.int .i64 p.2]:=by simp[xCd]
theorem xNg:∀(ps:List PL) (j:Nat) (hj:j<ps.length),(xCd ps)[j*2]?=some (.string ps[j].1)/\(xCd ps)[j*2+1]?=some (.int .i64 ps[j].2)
 |p :: ps,0,_=>⟨rfl,rfl⟩
 |p :: ps,j+1,hj=>by
  have:=xNg ps j (by simpa using hj);have e:xCd (p :: ps)=.string p.1 :: .int .i64 p.2 :: xCd ps:=rfl;rw[e,show (j+1)*2=j*2+1+1 by omega];exact this
def qE (gs:List MG)(x:Id32)(t:ByteArray):Option PL:=((xA gs t).find? λm=>decide (m.p.id=x)).map λm=>(t,m.p.number)
def ze (gs:List MG)(ns:List ByteArray)(x:Id32):List PL:=ns.filterMap (qE gs x)
theorem xO5 (gs ns x t):ze gs (ns++[t]) x=ze gs ns x++(qE gs x t).toList:=by
 unfold ze;rw[List.filterMap_append];cases h:qE gs x t <;> simp[h]
theorem Tryz.info_place:(prog.info? 450).map (λi=>(i.zero,i.size,i.bytes))=some (some (.agg #[.string ⟨#[]⟩,.int .i64 0]),2,24):=by kernel_rfl
def xYy (gs:List MG)(x:Id32)(w:World)(r:Ending)(w':World):Prop:=∃v ns,r=.returned v/\w'.ownsRow w.heap.size 450 2 v (ze gs ns x).length (xCd (ze gs ns x))/\ordN ns/\(∀t,t∈ns↔∃G∈gs,G.name=t)/\Below w.heap.size w w'
theorem xB2 {gs}(hn:(gs.map λG=>G.name).Nodup){G}(hG:G∈gs):ym gs G.name=some G:=by
 unfold ym;cases h:gs.find? λH=>decide (H.name=G.name) with
 |none=>
  rw[cs_]at h;exact absurd (h G hG) (by simp)
 |some H=>
  have h1:=ct_ h;have h2:H.name=G.name:=by simpa using eg_ h
  rw[xCa hn H h1 G hG h2]
theorem xSt {ms:List ML}{x}(hn:(ms.map λm=>m.p.id).Nodup){m}(hm:m∈ms)(he:m.p.id=x):(ms.find? λm=>decide (m.p.id=x))=some m:=by
 induction ms with
 |nil=>cases hm
 |cons a ms ih=>
  rw[au_,bh_]at hn;rw[bu_];rcases ae_.1 hm with rfl|wj
  ·rw[decide_eq_true he]
  ·have:¬ a.p.id=x:=λe=>hn.1 (by rw[e,<-he];exact az_.2 ⟨m,wj,rfl⟩)
   rw[decide_eq_false this];exact ih hn.2 wj
theorem zo {w:World}{B t s n v xs}(h:w.ownsRow B t s v n xs):∃a n c,v=.slice a n c:=by
 rcases h.2 with⟨e,_⟩|⟨g,cap,cur,e,_⟩
 ·exact⟨_,_,_,e⟩
 ·exact⟨_,_,_,e⟩
theorem jP {W:World}{B B' t s n v xs}(h:W.ownsRow B t s v n xs)(hb:B'<=B):W.ownsRow B' t s v n xs:=by
 refine⟨h.1,?_⟩;rcases h.2 with hn|⟨g,cap,cur,hv,hbg,rest⟩
 ·exact .inl hn
 ·exact .inr ⟨g,cap,cur,hv,ad_ hb hbg,rest⟩
theorem yj {w b x}{t:TypeId}(h:w.heap[b]?=some (.cells (xl x).toArray t (0,0))):xo w ⟨b,0,none⟩ 32=true/\xm w ⟨b,0,none⟩ 32=(xl x).toArray:=by
 have:=xW (w:=w) (a:=⟨b,0,none⟩) (cs:=xl x) (λj v hj=>by
  rw[an_,cell_of_row w b (0+j) _ _ _ h,aq_,ah_];exact hj)
 rwa [xz]at this
theorem xFx (B ib M mc gs x w)(hG:Gl w)(h:ye B w ib M gs mc):
  Calls prog 331 #[.pointer (some ⟨ib,0,none⟩),.agg (xl x).toArray] w λr w'=>xYy gs x w r w':=by
 obtain⟨i0,hi,bd,aL,bk⟩:=info_parts Tryz.info_place;obtain⟨W,hW⟩:∃W,W=w.alloc (.cells (xl x).toArray 33):=⟨_,rfl⟩;have bf:Below w.heap.size w W:=by rw[hW];exact b_ _ _
 have lh:W.heap.size=w.heap.size+1:=by rw[hW];simp
 have hid:W.heap[w.heap.size]?=some (.cells (xl x).toArray 33 (0,0)):=by rw[hW];exact heap_alloc_new _ _
 have MD:=h_ (xK3 B ib M mc gs W (hG.later bf) (h.below bf));have HB:=h_ bf;have QK:=h_ hid;have HX:=h_ h;clear hid bf h hG;go_enter func331,ntmps331;go_wp2_with fail;rw[<-hW];clear hW;refine MD.mono ?_;rintro r w1 ⟨v,ns,rfl,fm,mi,aX,aa⟩;have eO:Below w.heap.size w w1:=HB.trans (aa.mono HB.size);have ME:=(aa.block w.heap.size (by omega)).trans QK.out;have aK:w.heap.size<w1.heap.size:=by have:=aa.size;omega
 have ar:=h_ eO;have S_:=h_ ME;have G9:=h_ (HX.below eO);have HM:=h_ aX;have HO:=h_ mi;clear eO ME aa HB QK HX MD aX mi lh;have dY:ns.length<=65536:=by
  have h1:ns.Nodup:=HO.imp λ{a b} hab e=>by rw[e,xD4]at hab;omega
  have h2:ns.length<=(gs.map λG=>G.name).length:=h1.length_le_of_subset λt ht=>by
   obtain⟨G,hG,e⟩:=(HM.out t).1 ht;exact az_.2 ⟨G,hG,e⟩
  rw[aQ_]at h2;exact ad_ h2 G9.groups
 rcases fm with⟨rfl,rfl⟩|⟨b,c,rfl,hc,ah,hbB,aG⟩
 ·go_wp2;go_loop [5,13] (λp i=>p=.slice none 0 0/\i=.int .i64 0) (λ_ _=>0)
  case atStart=>exact⟨rfl,rfl⟩
  case round=>
   obtain⟨rfl,rfl⟩:=hrel;go_wp2;go_ret;exact⟨_,[],rfl,aP_ _ _ _ _,HO.out,HM.out,ar.out⟩
 ·have HR:=h_ ah;clear ah;go_wp2;go_loopw [5,13] (λp i wr=>∃k:Nat,k<=ns.length/\i=.int .i64 k/\wr.ownsRow w1.heap.size 450 2 p (ze gs (ns.take k) x).length (xCd (ze gs (ns.take k) x))/\Below w1.heap.size w1 wr) (λ_ i _=>ns.length-(intOf i).toNat)
  case atStart=>exact⟨0,by omega,rfl,aP_ _ _ _ _,ab_ _ _⟩
  case round=>
   obtain⟨k,hk,rfl,ae,hb⟩:=hrel;by_cases hlt:k<ns.length
   ·have cr:(k:Int)<(ns.length:Int):=by omega
    have aE:wr.cell? ⟨b,k,none⟩=some (.string ns[k]):=by
     have:=HR.out k _ (ak_ hlt);rw[aq_]at this;exact(hb.cell (p:=⟨b,k,none⟩) aG).trans this
    have p8:Hid (ze gs (ns.take (k+1)) x=ze gs (ns.take k) x++(qE gs x ns[k]).toList):=h_ (by
     rw[am_ hlt,xO5])
    obtain⟨G,fh,Dr⟩:=(HM.out ns[k]).1 (bb_ hlt);have Kd:=G9.below hb;have hgo:ym gs ns[k]=some G:=by rw[<-Dr];exact xB2 Kd.names fh
    have sE:xA gs ns[k]=G.ms:=by unfold xA;rw[hgo]
    have cV:=Kd.grps G fh;have Hc:=(hb.block w.heap.size aK).trans S_.out;generalize ns[k]=t at aE p8 Dr hgo sE;have q1:∀n,(wr.drewN n).cell? ⟨ib,0,none⟩=some (.map (some M)):=λn=>by rw[bT_];exact Kd.cell0
    have q2:∀n,(Instr.lookup 161 (.map (some M)) (.string t) false).run prog (wr.drewN n)=.ok (.pointer (some ⟨G.gb,0,none⟩)) (wr.drewN n):=λn=>by
     have:=(Kd.below (below_drewN' (ab_ _ _) n)).look t;rw[hgo]at this;exact this
    have q3:∀n,(wr.drewN n).cell? ⟨G.gb,1,none⟩=some (.map (some G.nb)):=λn=>by rw[bT_];exact cell_of_row wr G.gb 1 _ _ _ cV.blk
    have q4:∀n,(Instr.lookup 251 (.map (some G.nb)) (.agg (xl x).toArray) true).run prog (wr.drewN n)=.ok (.tuple #[((yN x G.nl 0).map (·.2)).getD (.int .i64 0),.bool (yN x G.nl 0).isSome]) (wr.drewN n):=λn=>
     xCv keyI underlying251 (.int .i64 0) xQj (wr.drewN n) G.nb G.nl G.nc cV.nums x
    have eR:xo wr ⟨w.heap.size,0,none⟩ 32=true/\xm wr ⟨w.heap.size,0,none⟩ 32=(xl x).toArray:=yj Hc;have q5:∀n,xo (wr.drewN n) ⟨w.heap.size,0,none⟩ 32=true:=λn=>by rw[xa];exact eR.1
    have q6:∀n,xm (wr.drewN n) ⟨w.heap.size,0,none⟩ 32=(xl x).toArray:=λn=>by rw[x9];exact eR.2
    by_cases hin:∃m∈G.ms,m.p.id=x
    ·obtain⟨m,hm,dC⟩:=hin;obtain⟨j,hj,_⟩:=cV.find_yes hm;rw[dC]at hj;rw[hj]at q4;have ft:Hid (qE gs x t=some (t,m.p.number)):=h_ (by unfold qE;rw[sE,xSt cV.ids hm dC];rfl);have dl:=h_ ae;have QL:=h_ hb;clear hj cV Kd eR ae hb Hc hgo sE Dr hm dC;go_wp2_with fail;go_quiet (fail);clear q1 q2 q3 q4 q5 q6 aE;have sJ:(wr.drewN nq).ownsRow w1.heap.size 450 2 u5 (ze gs (ns.take k) x).length (xCd (ze gs (ns.take k) x)):=dl.out;have Hd:Below w1.heap.size w1 (wr.drewN nq):=below_drewN' QL.out nq;generalize wr.drewN nq=W2 at sJ Hd⊢;have DC:=h_ Hd;have A9:=sJ.alloc (.cells #[.string t,.int .i64 m.p.number] 450);clear dl QL Hd;have gx:(ze gs (ns.take k) x).length<=k:=by
      unfold ze;exact ad_ (List.length_filterMap_le _ _) (by rw[ai_];omega)
     have hlt2:=h_ (λj hj=>(sJ.lt j hj).1);clear sJ;obtain⟨nn,eW⟩:∃nn,nn=(ze gs (ns.take k) x).length:=⟨_,rfl⟩;rw[<-eW]at A9 gx;have tB:=h_ eW;clear eW;go_wp2_with (at_builtin;refine wpList_append_own _ rfl (.tmp 32) (.tmp 36) 448 rfl w1.heap.size 450 i0 (.agg #[.string ⟨#[]⟩,.int .i64 0]) 2 24 underlying448 hi bd aL bk rfl (by decide) _ _ _ rfl A9 ⟨W2.heap.size,0,none⟩ 1 1 [.string t,.int .i64 m.p.number] rfl rfl ?c1 ?c2 ?c3 ?c4 ?c5 ?_)
     case c1=>
      intro j u hj;rw[an_,aq_,yz]
      match j,hj with
      |0,hj=>simpa using hj
      |1,hj=>simpa using hj
     case c2=>intro u hu;simp at hu;rcases hu with rfl|rfl <;> rfl
     case c3=>unfold maxLen;omega
     case c4=>omega
     case c5=>have:=DC.size;simp;omega
     intro v' w3 fM aR _;have al:Below w1.heap.size w1 w3:=(DC.alloc DC.size _).grown aR (by have:=DC.size;simp;omega) (λj hj=>hlt2.out j hj);clear A9 aR;go_wp2;go_roundw
     case rel=>exact⟨k+1,by omega,by go_num,by rw[p8.out,ft.out,Option.toList_some,xV9,af_,<-tB.out];exact fM,al⟩
     case measure=>simp[intOf];omega
    ·have bp:∀m∈G.ms,m.p.id≠x:=λm hm e=>hin ⟨m,hm,e⟩
     rw[cV.find_no bp]at q4;have ft:Hid (qE gs x t=none):=h_ (by
      unfold qE;rw[sE,Option.map_eq_none_iff,cs_];intro m hm hx;exact bp m hm (by simpa using hx))
     have dl:=h_ ae;have QL:=h_ hb;clear cV Kd eR ae hb Hc hgo sE Dr hin bp;go_wp2_with fail;go_quiet (fail);clear q1 q2 q3 q4 q5 q6 aE;go_wp2;go_roundw
     case rel=>exact⟨k+1,by omega,by go_num,by rw[p8.out,ft.out,Option.toList_none,aG_];exact dl.out,below_drewN' QL.out _⟩
     case measure=>simp[intOf];omega
   ·have HE:Hid (ns.take k=ns):=h_ (ar_ (by omega));obtain⟨pa,pn,pc,hp⟩:∃a n c,u5=.slice a n c:=zo ae;have dl:=h_ ae;subst hp;clear ae;go_wp2;go_ret;refine⟨_,ns,rfl,?_,HO.out,HM.out,ar.trans (hb.mono ar.size)⟩;have:=dl.out;rw[HE.out]at this;exact jP this ar.size
end
theorem yEy {B w ib M mc gs}(h:ye B w ib M gs mc)(t):((xA gs t).map λm=>m.p.id).Nodup:=by
 by_cases hne:xA gs t=[]
 ·rw[hne];exact .nil
 ·obtain⟨G,hG,e,_⟩:=kl hne;rw[e];exact(h.grps G (yM hG).1).ids
def xEy (ms:List ML)(x:Id32):List ML:=ms.filter λm=>decide (m.p.id≠x)
theorem xT7:∀{ms:List ML} {i:Nat} {m:ML},(ms.map λm=>m.p.id).Nodup->ms[i]?=some m->ms.eraseIdx i=xEy ms m.p.id
 |a :: ms,0,m,hn,hi=>by
  rw[aC_,aR_]at hi;subst hi;rw[au_,bh_]at hn;unfold xEy;rw[cC_ (by simp),List.eraseIdx_zero,List.tail_cons,bA_.2];intro b hb;rw[decide_eq_true_eq];exact λe=>hn.1 (e▸az_.2 ⟨b,hb,rfl⟩)
 |a :: ms,i+1,m,hn,hi=>by
  rw[au_,bh_]at hn;rw[ay_]at hi;have:a.p.id≠m.p.id:=λe=>hn.1 (e▸az_.2 ⟨m,ck_ hi,rfl⟩)
  unfold xEy;rw[cB_,cD_ (by simpa using this),xT7 hn.2 hi];rfl
end Go.Proofs.YtegfbhdkenkkdaaGreatDoor
namespace Go.Proofs.YtegfbhdkenkkdaaGreatDoor
open Go Go.RowKit Go.Proofs Tryz
open Go.ChangeMaps (setBlock)
theorem uz.slice {B w G}(h:uz B w G):∃a c,G.v=.slice a G.ms.length c:=by
 rcases h.lines.head with⟨e,e2⟩|⟨g,cap,e,_⟩
 ·exact⟨none,0,by rw[e,e2];rfl⟩
 ·exact⟨_,_,e⟩
theorem zH (w b o)(h:b<w.heap.size):(setBlock w b o).heap[b]?=some o:=by
 unfold setBlock;simp[h]
theorem xT (w b k o)(h:k≠b):(setBlock w b o).heap[k]?=w.heap[k]?:=by
 unfold setBlock;simp[ds_ h]
def vm (gs:List MG):Array MapEntry:=((gs.map MG.e).map (enE ekS)).toArray
theorem xRr {gs e}(h:e∈(vm gs).toList):∃G∈gs,e=enE ekS G.e:=by
 unfold vm at h;simp only[az_]at h;obtain⟨_,⟨G,hG,rfl⟩,rfl⟩:=h;exact⟨G,hG,rfl⟩
theorem xYf (gs):(vm gs).toList.map (·.born)=gs.map (·.born):=by
 unfold vm;simp only[bt_];rfl
theorem yBw:∀{l:List MG},(l.map λG=>G.born).Nodup->∀A∈l,∀C∈l,A.born=C.born->A=C:=by
 intro l hl;induction l with
 |nil=>intro A hA;cases hA
 |cons D l ih=>
  rw[au_,bh_]at hl;intro A hA C hC he;rcases ae_.1 hA with lx|lx
  ·rcases ae_.1 hC with eP|eP
   ·rw[lx,eP]
   ·exact absurd (lx▸he▸az_.2 ⟨C,eP,rfl⟩) hl.1
  ·rcases ae_.1 hC with eP|eP
   ·exact absurd (eP▸az_.2 ⟨A,lx,he⟩) hl.1
   ·exact ih hl.2 A lx C eP he
structure RdSt (B:Nat)(w:World)(ib M mc:Nat)(gs:List MG)(D:MG->Prop)(r:Nat)(X:World)(seen:Array Nat):Prop where
 iter:X.heap[r]?=some (.mapIter (some M) mc seen mc)
 bl:Below w.heap.size w X
 lo:w.heap.size<=r
 idx:ye B w ib M gs mc
 did:∀G∈gs,seen.contains G.born=true->D G
theorem RdSt.start {B w W ib M mc gs}{D:MG->Prop}(h:ye B w ib M gs mc)(hb:Below w.heap.size w W):RdSt B w ib M mc gs D W.heap.size (W.alloc (.mapIter (some M) mc #[] mc)) #[]:=
 ⟨heap_alloc_new _ _,hb.alloc hb.size _,hb.size,h,λG _ hs=>by simp at hs⟩
def yAh (gs:List MG)(r:Nat)(w:World):Nat:=match w.heap[r]? with
 |some (.mapIter _ _ seen _)=>(leftOf (vm gs) seen).size
 |_=>0
theorem xS1 {gs r w m s c seen}(h:w.heap[r]?=some (.mapIter m s seen c)):yAh gs r w=(leftOf (vm gs) seen).size:=by
 unfold yAh;rw[h]
end Go.Proofs.YtegfbhdkenkkdaaGreatDoor
namespace Go.Proofs.YtegfbhdkenkkdaaGreatDoor
open Go Go.RowKit Go.Proofs Tryz
section
attribute [local go_sem ↓] xL xI yy yr yB yJ
attribute [local go_sem] zm zA u1 zX zb xh xf xa x9 xu xv xk xj xq xx xt
theorem xFw (gs ns x):(ze gs ns x).map Prod.fst=ns.filter λt=>(qE gs x t).isSome:=by
 unfold ze;induction ns with
 |nil=>rfl
 |cons t ns ih=>
  cases hp:qE gs x t with
  |none=>rw[List.filterMap_cons_none hp,cC_ (by simp[hp])];exact ih
  |some a=>
   have:a.1=t:=by
    unfold qE at hp;obtain⟨m,_,rfl⟩:=dj_.1 hp;rfl
   rw[List.filterMap_cons_some hp,cD_ (by simp[hp]),au_,ih,this]
theorem xXb {gs ns x a}(ha:a∈ze gs ns x):∃m∈xA gs a.1,m.p.id=x/\m.p.number=a.2:=by
 unfold ze at ha;obtain⟨t,_,hp⟩:=cG_.1 ha;unfold qE at hp;obtain⟨m,hm,rfl⟩:=dj_.1 hp;exact⟨m,ct_ hm,by simpa using eg_ hm,rfl⟩
theorem xMc {gs ns x t}(hm:∀t,t∈ns↔∃G∈gs,G.name=t)(ht:t∉(ze gs ns x).map Prod.fst):xEy (xA gs t) x=xA gs t:=by
 rw[xFw,co_,not_and]at ht;unfold xEy;rw[bA_];intro m lQ;rw[decide_eq_true_eq];intro e;have hne:xA gs t≠[]:=λe=>by rw[e]at lQ;cases lQ
 obtain⟨G,hG,_,_⟩:=kl hne;refine ht ((hm t).2 ⟨G,yM hG⟩) ?_;unfold qE;rw[Option.isSome_map,List.find?_isSome];exact⟨m,lQ,by simpa using e⟩
theorem xGs {gs ns}(x)(hn:ordN ns):((ze gs ns x).map Prod.fst).Nodup:=by
 rw[xFw];refine(List.Pairwise.imp ?_ hn:ns.Nodup).sublist List.filter_sublist;intro a b hab e;rw[e,xD4]at hab;omega
structure xBg (B ib M:Nat)(gs:List MG)(x:Id32)(ps:List PL)(w1:World)(k:Nat)(gsk:List MG)(mck:Nat)(wr:World):Prop where
 idx:ye B wr ib M gsk mck
 kept:Kept (foot ib M gs) w1 wr
 foot:xEc (Go.Proofs.YtegfbhdkenkkdaaGreatDoor.foot ib M gs) (Go.Proofs.YtegfbhdkenkkdaaGreatDoor.foot ib M gsk) w1
 lines:∀t,(t∈(ps.take k).map Prod.fst->xA gsk t=xEy (xA gs t) x)/\(t∉(ps.take k).map Prod.fst->xA gsk t=xA gs t)
 tot:xR gsk<=xR gs
theorem xBg.later {B ib M gs x ps w1 k gsk mck wr w2}(h:xBg B ib M gs x ps w1 k gsk mck wr)(hb:Below wr.heap.size wr w2):xBg B ib M gs x ps w1 k gsk mck w2:=
 ⟨h.idx.below hb,h.kept.trans (Kept.of_below (F:=[]) hb) (λ_ hk=>by cases hk),h.foot,h.lines,h.tot⟩
theorem xBg.next {B ib M gs x ps w1 k gsk mck wr w3 h0 mc0}(h:xBg B ib M gs x ps w1 k gsk mck wr)(hX:ye B h0 ib M gs mc0)(hk:k<ps.length)(bZ:(ps.map Prod.fst).Nodup)
  (hm:∃m∈xA gs ps[k].1,m.p.id=x/\m.p.number=ps[k].2) {r} (hp:xL2 B ib M gsk ps[k].1 ps[k].2 wr r w3):∃gsn mcn,xBg B ib M gs x ps w1 (k+1) gsn mcn w3:=by
 obtain⟨m,lX,eV,EA⟩:=hm;have eG:ps.take (k+1)=ps.take k++[ps[k]]:=am_ hk;have il:ps[k].1∉(ps.take k).map Prod.fst:=by
  have h1:=bZ.sublist ((List.take_sublist (k+1) ps).map Prod.fst);rw[eG,bl_,aZ_]at h1;intro h2;exact h1.2.2 _ h2 _ (by simp) rfl
 have hl:=(h.lines ps[k].1).2 il;rcases hp with⟨bp,_,_⟩|⟨i,m',hi,hn,_,gsn,mcn,hr⟩
 ·exfalso;rw[hl]at bp;have:qe (xA gs ps[k].1) ps[k].2=true:=by
   unfold qe nums;rw[ba_,az_];exact⟨m,lX,EA⟩
  rw[this]at bp;cases bp
 ·rw[hl]at hi;have oD:=hX.sorted ps[k].1;have lQ:m'=m:=by
   obtain⟨j,hj⟩:=List.mem_iff_getElem?.1 lX;unfold nums at oD;rw[di_]at oD;obtain⟨i1,i2⟩:=ax_.1 hi;obtain⟨j1,j2⟩:=ax_.1 hj;rw[bH_]at oD;rcases Nat.lt_trichotomy i j with hlt|heq|hlt
   ·have:=oD i j i1 j1 hlt;rw[i2,j2]at this;omega
   ·subst heq;rw[<-i2,<-j2]
   ·have:=oD j i j1 i1 hlt;rw[i2,j2]at this;omega
  subst lQ;have Qk:=xT7 (yEy hX ps[k].1) hi;rw[eV]at Qk;refine⟨gsn,mcn,hr.idx,h.kept.trans hr.kept h.foot,λj hj=>?_,λt=>?_,by have:=hr.tot;have:=h.tot;omega⟩
  ·rcases hr.foot j hj with h1|h1
   ·exact h.foot j h1
   ·exact .inr (ad_ h.kept.size h1)
  ·rw[hr.lines t,eG,bl_];by_cases ht:t=ps[k].1
   ·subst ht;rw[if_pos rfl,hl,Qk];exact⟨λ_=>rfl,λhn=>absurd (by simp) hn⟩
   ·rw[if_neg ht];have:(t∈(ps.take k).map Prod.fst++[ps[k]].map Prod.fst)=(t∈(ps.take k).map Prod.fst):=by simp[ht]
    rw[this];exact h.lines t
def xQg (B ib M:Nat)(gs:List MG)(x:Id32)(w:World)(r:Ending)(w':World):Prop:=∃ns gs' mc',ordN ns/\(∀t,t∈ns↔∃G∈gs,G.name=t)/\r=.returned (.int .i64 (ze gs ns x).length) /\
 ye B w' ib M gs' mc'/\Kept (foot ib M gs) w w'/\xEc (foot ib M gs) (foot ib M gs') w/\(∀t,xA gs' t=xEy (xA gs t) x)/\xR gs'<=xR gs
theorem xEo (B ib M mc gs x w)(hG:Gl w)(h:ye B w ib M gs mc):
  Calls prog 329 #[.pointer (some ⟨ib,0,none⟩),.agg (xl x).toArray] w λr w'=>xQg B ib M gs x w r w':=by
 obtain⟨W,hW⟩:∃W,W=w.alloc (.cells (xl x).toArray 33):=⟨_,rfl⟩;have bf:Below w.heap.size w W:=by rw[hW];exact b_ _ _
 have lh:W.heap.size=w.heap.size+1:=by rw[hW];simp
 have hq:=yj (w:=w.alloc (.cells (xl x).toArray 33)) (b:=w.heap.size) (x:=x) (heap_alloc_new _ _);obtain⟨rf,wK⟩:=hq;have Fb:=h_ (xFx B ib M mc gs x W (hG.later bf) (h.below bf));have HB:=h_ bf;have HX:=h_ h;clear bf h hG;go_enter func329,ntmps329;go_wp2_with fail;rw[<-hW];clear hW rf wK;refine Fb.mono ?_;rintro r w1 ⟨v,ns,rfl,ah,mi,aX,aa⟩;have ar:=h_ (HB.trans (aa.mono HB.size):Below w.heap.size w w1);have HO:=h_ mi;have HM:=h_ aX;obtain⟨ps,im⟩:∃ps,ps=ze gs ns x:=⟨_,rfl⟩;rw[<-im]at ah;have CL:=h_ im;clear mi aX im Fb aa;rcases ah.2 with⟨rfl,h0⟩|⟨b,cap,cur,rfl,hbB,aq,hle,dC,aJ,eG⟩
 ·have Ta:Hid (ps=[]):=h_ (br_.1 h0);clear ah h0;go_wp2;go_loop [13] (λi=>i=.int .i64 0) (λ_=>0)
  case atStart=>exact rfl
  case round=>
   obtain rfl:=hrel;go_wp2;go_ret;have he:ze gs ns x=[]:=by rw[<-CL.out];exact Ta.out
   refine⟨ns,gs,mc,HO.out,HM.out,by rw[he];rfl,HX.below ar.out,Kept.of_below ar.out,λk hk=>.inl hk,λt=>(xMc HM.out (by rw[he];simp)).symm,aa_ _⟩
 ·have bX:=h_ ah;have MF:=h_ aq;have aG:b<w1.heap.size:=(i_ aq).1;have gk:w.heap.size<b:=by omega
  have He:ps.length<=65536:=by
   have h1:=xGs (gs:=gs) x HO.out;have h2:((ze gs ns x).map Prod.fst).length<=(gs.map λG=>G.name).length:=h1.length_le_of_subset λt ht=>by
    rw[xFw,co_]at ht;obtain⟨G,hG,e⟩:=(HM.out t).1 ht.1;exact az_.2 ⟨G,hG,e⟩
   rw[aQ_,aQ_,<-CL.out]at h2;exact ad_ h2 HX.groups
  clear ah aq aJ eG;go_wp2;go_loopw [13] (λi wr=>∃k gsk mck,k<=ps.length/\i=.int .i64 (k:Nat)/\xBg B ib M gs x ps w1 k gsk mck wr) (λi _=>ps.length-(intOf i).toNat)
  case atStart=>exact⟨0,gs,mc,by omega,rfl,HX.below ar.out,Kept.of_below (ab_ _ _),λk hk=>.inl hk,λt=>⟨λh=>by simp at h,λ_=>rfl⟩,aa_ _⟩
  case round=>
   obtain⟨k,gsk,mck,hk,rfl,eR⟩:=hrel;by_cases hlt:k<ps.length
   ·have cr:(k:Int)<(ps.length:Int):=by omega
    have bO:wr.heap[b]?=some (.cells cur 450 (0,0)):=(eR.kept.block b aG (λhf=>by have:=(HX.foot_lt b hf).2;omega)).trans MF.out;have aE:∀j u,(xCd ps)[j]?=some u->wr.cell? ⟨b,j,none⟩=some u:=λj u hu=>by
     have h1:=bc_ bX.out (g:=b) rfl j u hu;rw[an_,aq_]at h1;exact(cell_of_row wr b j _ _ _ bO).trans ((cell_of_row w1 b j _ _ _ MF.out).symm.trans h1)
    have hg:=xNg ps k hlt;have hc0:=aE _ _ hg.1;have dO:=aE _ _ hg.2;obtain⟨t,ht⟩:∃t,t=ps[k].1:=⟨_,rfl⟩;obtain⟨n,hn⟩:∃n,n=ps[k].2:=⟨_,rfl⟩;rw[<-ht]at hc0;rw[<-hn]at dO;have HT:=h_ ht;have HN:=h_ hn;have gt:=h_ eR;clear aE hg bO ht hn eR;obtain⟨W2,ff⟩:∃W2,W2=wr.alloc (.cells #[.string t,.int .i64 n] 450):=⟨_,rfl⟩;have aj:Below wr.heap.size wr W2:=by rw[ff];exact b_ _ _
    have tO:=h_ (xUj B ib M mck gsk t n W2 (gt.idx.below aj));have Tb:=h_ (gt.later aj);clear aj;have hall:∀a∈ps,∃m∈xA gs a.1,m.p.id=x/\m.p.number=a.2:=λa ha=>xXb (ns:=ns) (by rw[<-CL.out];exact ha)
    have HME:=h_ (hall _ (bb_ hlt));have wt:Hid ((ps.map Prod.fst).Nodup):=h_ (by rw[CL.out];exact xGs x HO.out);clear hall;go_wp2_with fail;rw[<-ff];clear ff;refine tO.mono ?_;intro r w3 hp;obtain⟨e,rfl⟩:∃e,r=.returned e:=by
     rcases hp with⟨_,e,_⟩|⟨_,_,_,_,e,_⟩
     ·exact⟨_,e⟩
     ·exact⟨_,e⟩
    rw[HT.out,HN.out]at hp;obtain⟨gsn,mcn,Fc⟩:=Tb.next HX.out hlt wt.out HME.out hp;have ed:=h_ Fc;clear Fc hp;go_wp2;go_roundw
    case rel=>exact⟨k+1,gsn,mcn,by omega,by go_num,ed.out⟩
    case measure=>simp[intOf];omega
   ·have HE:Hid (ps.take k=ps):=h_ (ar_ (by omega));have gt:=h_ eR;clear eR;go_wp2;go_ret;refine⟨ns,gsk,mck,HO.out,HM.out,by rw[<-CL.out];rfl,gt.idx,(Kept.of_below (F:=foot ib M gs) ar.out).trans gt.kept (λk hk=>.inl hk),λk hk=>?_,λt=>?_,gt.tot⟩
    ·rcases gt.foot k hk with h1|h1
     ·exact .inl h1
     ·exact .inr (ad_ ar.size h1)
    ·have h2:=gt.lines t;rw[HE.out]at h2;by_cases h1:t∈ps.map Prod.fst
     ·exact h2.1 h1
     ·rw[h2.2 h1];rw[CL.out]at h1;exact(xMc HM.out h1).symm
end
section
variable {P:Program} {ops:Array Oper} {Q:Exit->Act->World->Prop} {C:World->Prop}
theorem xTz {E rest:List Nat}{r:Nat}{a:Act}{w:World}(b:Bool)(hlt:decide (r<ops.size)=true)(hb:qK ops E r=b)(h:wpList P ops (Qn P ops Q C E rest b) (zW ops [r]) a w):wpR P ops Q C E (r :: rest) a w:=
 uW b (o:=ops.getD r default) (by simp[of_decide_eq_true hlt]) hb h
end
theorem xT5 (ro)(ρ:Operand->Value)(d x)(ty:TypeId)(pos af g w):
  Sem.run prog (Oper.semAt ro ρ ⟨d,.load 33 x,ty,pos,af,g⟩) w=yp prog 33 w (ρ x):=by
 rw[by_ _ _ _ (by intro c h;cases h)]
 exact xL ..
theorem xPw (ro)(ρ:Operand->Value)(d x y)(ty:TypeId)(pos af g w):
  Sem.run prog (Oper.semAt ro ρ ⟨d,.store 33 x y,ty,pos,af,g⟩) w=yi prog 33 w (ρ x) (ρ y):=by
 rw[by_ _ _ _ (by intro c h;cases h)]
 exact xI ..
theorem xM1 (ro)(ρ:Operand->Value)(d x)(ty:TypeId)(pos af g w):
  Sem.run prog (Oper.semAt ro ρ ⟨d,.load 204 x,ty,pos,af,g⟩) w=yp prog 204 w (ρ x):=by
 rw[by_ _ _ _ (by intro c h;cases h)]
 exact yy ..
theorem xKf (ro)(ρ:Operand->Value)(d x y)(ty:TypeId)(pos af g w):
  Sem.run prog (Oper.semAt ro ρ ⟨d,.store 204 x y,ty,pos,af,g⟩) w=yi prog 204 w (ρ x) (ρ y):=by
 rw[by_ _ _ _ (by intro c h;cases h)]
 exact yr ..
theorem xKh (ro)(ρ:Operand->Value)(d)(ty:TypeId)(pos af g w):
  Sem.run prog (Oper.semAt ro ρ ⟨d,.alloc 204,ty,pos,af,g⟩) w=.ok (.value (.pointer (some ⟨w.heap.size,0,none⟩))) (w.alloc (.cells (xd xJ) 204)):=by
 rw[by_ _ _ _ (by intro c h;cases h)]
 exact yB ..
section
attribute [local go_sem ↓] xL xI yy yr yB yJ
attribute [local go_sem] zm zA u1 zX zb xh xf xa x9 xu xv xk xj xq xx xt
theorem xKe (ρ:Operand->Value)(d x)(ty:TypeId)(pos af g w):
  Sem.run prog (execOp ρ ⟨d,.buildSlice 201 1 #[(0,x)],ty,pos,af,g⟩) w=kC prog 201 w (ρ x):=by kernel_rfl
theorem xWu (w g):kC prog 201 w (.agg (xd g))=.ok (.value (.slice (some ⟨w.heap.size,0,none⟩) 1 1)) (w.alloc (.cells (xd g) 204)):=by
 obtain⟨i0,hi,bd,aL,bk⟩:=info_parts Tryz.info_line;unfold kC;rw[aE_,run_buildSlice w 201 204 1 _ (xd g) i0 _ underlying201 hi bd (by rw[aL];decide) (by rw[aL];decide) (by
  rw[aL];exact kv _ _ 38 (xP g) (by simp))]
 rfl
attribute [local go_sem ↓] xKe xM1 xKf xKh xT5 xPw
attribute [local go_sem] xWu
structure xAq (A:Nat)(w:World)(v:Value)(ls:List ML):Prop where
 lin:zq A w v ls
 apart:(ls.filterMap λm=>m.v.ownBlock).Nodup
theorem xAq.nil (A w):xAq A w (.slice none 0 0) []:=⟨⟨aP_ _ _ _ _,λ_ h=>by cases h⟩,.nil⟩
theorem xAq.snoc {A w w' v v' ls}{x:ML}(h:xAq A w v ls)(ah:w'.ownsRow A 204 38 v' (ls.length+1) (yq ls++xH x.g))(hr:∀m∈ls,zj A w' m.v m.p.ids)(hx:zj A w' x.v x.p.ids)(hn:∀k,x.v.ownBlock=some k->w.heap.size<=k):xAq A w' v' (ls++[x]):=by
 refine⟨⟨?_,λm hm=>?_⟩,?_⟩
 ·rw[af_,bU_,jv];have:yq [x]=xH x.g:=by simp[yq]
  rw[this];exact ah
 ·rcases aj_.1 hm with hm|hm
  ·exact hr m hm
  ·rw[ac_.1 hm];exact hx
 ·rw[List.filterMap_append,aZ_];refine⟨h.apart,?_,λa ha b hb=>?_⟩
  ·cases hv:x.v.ownBlock with
   |none=>rw[List.filterMap_cons_none (f:=λm:ML=>m.v.ownBlock) hv];exact .nil
   |some k=>rw[List.filterMap_cons_some (f:=λm:ML=>m.v.ownBlock) hv];simp
  ·obtain⟨m,hm,he⟩:=cG_.1 ha;obtain⟨y,hy,mj⟩:=cG_.1 hb;rw[ac_.1 hy]at mj;have h1:=((h.lin.refs m hm).lt he).2;have h2:=hn b mj;omega
theorem xN7 {A w w' v ids row}(h:zj A w v ids)(hg:w.grownBy w' row)(hr:∀k,row=some k->∃c,w.heap[k]?=some (.cells c 204 (0,0))):zj A w' v ids:=by
 refine h.block λk hk=>hg.block k (h.lt hk).2 λe=>?_
 obtain⟨c,hc⟩:=hr k e.symm;obtain⟨c2,gm⟩:=yR h hk;rw[hc]at gm;exact absurd (jB gm) (by decide)
end
abbrev LF:Type:=ByteArray->List xDs
section
attribute [local go_sem ↓] xL xI yy yr yB yJ
attribute [local go_sem] zm zA u1 zX zb xh xf xa x9 xu xv xk xj xq xx xt
def lfOf (gs:List MG):LF:=λt=>(xA gs t).map (·.p)
end
end Go.Proofs.YtegfbhdkenkkdaaGreatDoor
namespace Go.Proofs.YtegfbhdkenkkdaaGreatDoor
open Go Go.RowKit Go.Proofs Tryz
open Go.ChangeMaps (setBlock)
theorem xLk (b es clock w)(hb:w.heap[b]?=some (.map es clock)):
  Calls prog 132 #[.map (some b)] w λe w'=>e=.returned (.map (some w.heap.size))/\w.alloc (.map es clock)=w':=by
 have hu:prog.underlying 251=some (.map 33 3):=underlying251;have hq:=λw=>run_eql_map_nil_sl (P:=prog) w 251 _ _ (some b) hu
 go_enter func132,ntmps132;go_wp2;rw[run_callFunc_extern func93 (by kernel_rfl) (by kernel_rfl) (by kernel_rfl) (e:=Extern.MapsClone.clone) (by kernel_rfl),run_maps_clone_sl w 251 hb];simp only[Result.andThen];rw[ce_];go_wp2;rw[run_typeAssert_map_sl _ 251 20 _ _ _ hu];simp only[Result.andThen];rw[ce_];go_wp2;go_ret;exact⟨rfl,rfl⟩
theorem yY (w b o):(setBlock w b o).heap.size=w.heap.size:=by unfold setBlock;simp
theorem RdSt.next2 {B w ib M mc gs}{D:MG->Prop}{r X seen}(h:RdSt B w ib M mc gs D r X seen)(ty:TypeId):
  ((∀G∈gs,D G)/\(Instr.next (.pointer (some ⟨r,0,none⟩)) false ty).run prog X=.ok (.tuple #[.bool false]) X) \/
  ∃G∈gs,∃X',(Instr.next (.pointer (some ⟨r,0,none⟩)) false ty).run prog X=.ok (.tuple #[.bool true,.string G.name,.pointer (some ⟨G.gb,0,none⟩)]) X'/\Kept [r] X X' /\
   (Instr.entry (.pointer (some ⟨r,0,none⟩))).run prog X'=.ok (.tuple #[.string G.name,.pointer (some ⟨G.gb,0,none⟩)]) X'/\(leftOf (vm gs) (seen.push G.born)).size<(leftOf (vm gs) seen).size /\
   X'.heap[r]?=some (.mapIter (some M) mc (seen.push G.born) mc)/\seen.contains G.born=false:=by
 have hX:=h.idx.below h.bl;have io:X.heap[M]?=some (.map (vm gs) mc):=hX.map;have A_:r≠M:=λe=>by
  have:=h.iter;rw[e,io]at this;cases this
 have fD:∀e∈(vm gs).toList,e.born<mc:=λe he=>by
  obtain⟨G,hG,rfl⟩:=xRr he;exact h.idx.young G hG
 rcases run_next_at (P:=prog) X ty r M mc mc seen (vm gs) mc h.iter io fD (aa_ _) with⟨h0,hr⟩|⟨e,he,X1,dm,hr⟩
 ·refine .inl ⟨λG hG=>h.did G hG ?_,hr⟩;have:=all_seen (vm gs) seen h0 (enE ekS G.e) (by unfold vm;simp only[az_];exact⟨_,⟨G,hG,rfl⟩,rfl⟩);exact this
 ·obtain⟨hm,fm⟩:=mem_left he;obtain⟨G,hG,rfl⟩:=xRr hm;have gz:=(i_ h.iter).1;have ip:X1.heap=X.heap:=by rcases dm with rfl|rfl <;> rfl
  have hk1:Kept [r] X X1:=by
   rcases dm with rfl|rfl
   ·exact Kept.of_below (ab_ _ _)
   ·exact Kept.of_below (ab_ _ _).drew
  have hit:(setBlock X1 r (.mapIter (some M) mc (seen.push G.born) mc)).heap[r]?=some (.mapIter (some M) mc (seen.push G.born) mc):=zH _ _ _ (by rw[ip];exact gz);have Hf:(setBlock X1 r (.mapIter (some M) mc (seen.push G.born) mc)).heap[M]?=some (.map (vm gs) mc):=by
   rw[xT _ _ _ _ (ds_ A_),ip];exact io
  refine .inr ⟨G,hG,_,hr,⟨hk1.os,hk1.tape,hk1.output,by rw[yY];exact hk1.size,λk hk hn=>?_⟩,run_entry_at _ r M mc seen (vm gs) mc (enE ekS G.e) hit Hf hm (by rw[xYf];exact h.idx.born),left_shrinks _ _ _ he,hit,fm⟩;rw[xT _ _ _ _ (λe=>hn (by rw[e];simp)),ip]
theorem xEe:∀{A Bl:List MG},(A.map λG=>G.name).Nodup->(∀a∈A,∃b∈Bl,b.name=a.name/\b.ms.length=a.ms.length)->xR A<=xR Bl
 |[],_,_,_=>aV_ _
 |a :: A,Bl,hn,h=>by
  rw[au_,bh_]at hn;obtain⟨b,hb,Kc,aG⟩:=h a (by simp);obtain⟨l1,l2,rfl⟩:=db_ hb;have ih:=xEe (A:=A) (Bl:=l1++l2) hn.2 λx hx=>by
   obtain⟨c,hc,hcn,aT⟩:=h x (by simp[hx]);refine⟨c,?_,hcn,aT⟩;rw[aj_,ae_]at hc;rw[aj_];rcases hc with hc|rfl|hc
   ·exact .inl hc
   ·exact absurd (az_.2 ⟨x,hx,hcn.symm.trans Kc⟩) hn.1
   ·exact .inr hc
  have e1:xR (a :: A)=a.ms.length+xR A:=rfl;have e2:xR (l1++b :: l2)=xR (l1++l2)+b.ms.length:=by
   unfold xR;simp only[bl_,au_,eh_,cb_];omega
  omega
def cpG (G:MG)(born cb nb:Nat)(v:Value)(ms:List ML):MG:=⟨G.name,born,cb,nb,v,ms,G.nl,G.nc⟩
theorem xJg {α:Type}(f:xDs->α){a b:List ML}(h:a.map (·.p)=b.map (·.p)):a.map (λm=>f m.p)=b.map (λm=>f m.p):=by
 have:=congrArg (List.map f) h
 rwa [bt_,bt_]at this
theorem yB7 {B0:Nat}{w0:World}{G:MG}(h:uz B0 w0 G){B:Nat}{W:World}{born cb nb:Nat}{v:Value}{ms:List ML}(hp:ms.map (·.p)=G.ms.map (·.p))(hb:W.heap[cb]?=some (.cells #[v,.map (some nb)] 253 (0,0)))(hl:zq B W v ms)(hn:y4 ekI W nb G.nl G.nc)(h1:B<=cb)(h2:B<=nb):uz B W (cpG G born cb nb v ms) where
 blk:=hb
 lines:=hl
 nums:=hn
 agree:=by
  have:=h.agree;rw[<-xJg (λp=>(p.id,Value.int .i64 p.number)) hp]at this;exact this
 ids:=by
  have:=h.ids;rw[<-xJg (λp=>p.id) hp]at this;exact this
 sorted:=by
  have:=h.sorted;unfold nums at this⊢;rw[<-xJg (λp=>p.number) hp]at this;exact this
 good:=λm hm=>by
  have:m.p∈G.ms.map (·.p):=by rw[<-hp];exact az_.2 ⟨m,hm,rfl⟩
  obtain⟨q,hq,e⟩:=az_.1 this;rw[<-e];exact h.good q hq
 named:=h.named
 some':=λe=>h.some' (by
  have e':ms=[]:=e;rw[e']at hp;exact bC_.1 hp.symm)
 gbB:=h1
 nbB:=h2
structure ClSt (B:Nat)(w:World)(ib M mc:Nat)(gs:List MG)(bR M2 r:Nat)(cH:List MG)(cR:Nat)(seen:Array Nat)(W:World):Prop where
 rd:RdSt B w ib M mc gs (λG=>seen.contains G.born=true) r W seen
 blk:W.heap[bR]?=some (.cells #[.map (some M2),.int .i64 (xR gs)] 163 (0,0))
 cl:ye w.heap.size (setBlock W bR (.cells #[.map (some M2),.int .i64 (xR cH)] 163 (0,0))) bR M2 cH cR
 fwd:∀G∈gs,seen.contains G.born=true->∃G2∈cH,G2.name=G.name/\G2.ms.map (·.p)=G.ms.map (·.p)
 bwd:∀G2∈cH,∃G∈gs,seen.contains G.born=true/\G2.name=G.name/\G2.ms.map (·.p)=G.ms.map (·.p)
 rne:∀k∈foot bR M2 cH,k≠r
theorem yDh {b X Y bR M2 cR cH o}(h:ye b (setBlock X bR o) bR M2 cH cR)(hl:bR<X.heap.size)(sk:bR<Y.heap.size)(hk:∀k,k<X.heap.size->k≠bR->(k∈foot bR M2 cH\/∃c,X.heap[k]?=some (.cells c 33 (0,0)))->Y.heap[k]?=X.heap[k]?):ye b (setBlock Y bR o) bR M2 cH cR:=by
 refine h.keep (λk hf=>?_) (λG hG m hm k sv=>?_)
 ·by_cases e:k=bR
  ·subst e;rw[zH _ _ _ sk,zH _ _ _ hl]
  ·have h1:=(h.foot_lt k hf).2;rw[yY]at h1;rw[xT _ _ _ _ e,xT _ _ _ _ e];exact hk k h1 e (.inl hf)
 ·have hr:=(h.grps G hG).lines.refs m hm;have h1:=(hr.lt sv).2;rw[yY]at h1;obtain⟨c,hc⟩:=hr.typed sv;have e:k≠bR:=λe=>by
   have:=h.not_id hc;exact this (by rw[e];simp[foot])
  rw[xT _ _ _ _ e]at hc;rw[xT _ _ _ _ e,xT _ _ _ _ e];exact hk k h1 e (.inr ⟨c,hc⟩)
theorem ClSt.start {B w ib M mc gs}(h:ye B w ib M gs mc){W}(hW:W=((w.alloc (.map #[] 0)).alloc (.cells #[.map (some w.heap.size),.int .i64 (xR gs)] 163)).alloc (.mapIter (some M) mc #[] mc)):ClSt B w ib M mc gs (w.heap.size+1) w.heap.size (w.heap.size+1+1) [] 0 #[] W:=by
 have hs:W.heap.size=w.heap.size+3:=by rw[hW];simp
 have hr:RdSt B w ib M mc gs (λG=>(#[]:Array Nat).contains G.born=true) (w.heap.size+1+1) W #[]:=by
  have:=RdSt.start (B:=B) (w:=w) (W:=(w.alloc (.map #[] 0)).alloc (.cells #[.map (some w.heap.size),.int .i64 (xR gs)] 163)) (D:=λG=>(#[]:Array Nat).contains G.born=true) h (((ab_ _ _).alloc (aa_ _) _).alloc (by simp) _);rw[<-hW]at this;simpa using this
 have hb:W.heap[w.heap.size+1]?=some (.cells #[.map (some w.heap.size),.int .i64 (xR gs)] 163 (0,0)):=by
  rw[hW,heap_alloc_old _ _ (by simp)];have:=heap_alloc_new (w.alloc (.map #[] 0)) (.cells #[.map (some w.heap.size),.int .i64 (xR gs)] 163);simpa using this
 have hm:W.heap[w.heap.size]?=some (.map #[] 0):=by
  rw[hW,heap_alloc_old _ _ (by simp;omega),heap_alloc_old _ _ (by simp),heap_alloc_new]
 refine⟨hr,hb,?_,λG _ hs=>(by simp at hs),λ_ h=>(by cases h),λk hk=>?_⟩
 ·refine⟨?_,?_,List.nodup_nil,λ_ h=>(by cases h),by simp[foot],List.nodup_nil,λ_ h=>(by cases h),by simp[xR],by omega,aa_ _⟩
  ·rw[zH _ _ _ (by omega)]
  ·unfold y4;rw[xT _ _ _ _ (by omega),hm];rfl
 ·simp only[foot,List.flatMap_nil,ae_,bq_,or_false]at hk;omega
theorem ClSt.put {B w ib M mc gs bR M2 r cH cR seen X X1 Y1 Y2}(h:ClSt B w ib M mc gs bR M2 r cH cR seen X){G}(hG:G∈gs)(fm:seen.contains G.born=false)(hk1:Kept [r] X X1)(hit:X1.heap[r]?=some (.mapIter (some M) mc (seen.push G.born) mc))(hb:Below X1.heap.size X1 Y1)
  {cb nb} {v} {ms} (hp:ms.map (·.p)=G.ms.map (·.p)) (dN:Y1.heap[cb]?=some (.cells #[v,.map (some nb)] 253 (0,0))) (hl:zq X1.heap.size Y1 v ms) (hn:y4 ekI Y1 nb G.nl G.nc) (h1:X1.heap.size<=cb) (h2:X1.heap.size<=nb)
  (hY:Y2=Y1.putObj M2 (.map (((cH.map MG.e)++[(⟨G.name,.pointer (some ⟨cb,0,none⟩),cR⟩:KE ByteArray)]).map (enE ekS)).toArray (cR+1))):
  ClSt B w ib M mc gs bR M2 r (cH++[cpG G cR cb nb v ms]) (cR+1) (seen.push G.born) Y2:=by
 have mb:=(i_ h.blk).1;have i4:M2<X.heap.size:=by
  have:=(h.cl.foot_lt M2 (by simp[foot])).2
  rwa [yY]at this
 have gz:=(i_ h.rd.iter).1;have hwX:w.heap.size<=X.heap.size:=h.rd.bl.size;have dm:X.heap.size<=X1.heap.size:=hk1.size;have Hg:X1.heap.size<=Y1.heap.size:=hb.size;have hne:bR≠M2:=by
  have:=(qh.1 h.cl.apart).1;exact this
 have Hh:bR≠r:=h.rne bR (by simp[foot]);have A_:M2≠r:=h.rne M2 (by simp[foot]);have Ke:∀k,k≠M2->Y2.heap[k]?=Y1.heap[k]?:=λk hk=>by rw[hY];exact aB_ hk
 have hYs:Y2.heap.size=Y1.heap.size:=by rw[hY];simp[World.putObj]
 have hYm:Y2.heap[M2]?=some (.map (((cH.map MG.e)++[(⟨G.name,.pointer (some ⟨cb,0,none⟩),cR⟩:KE ByteArray)]).map (enE ekS)).toArray (cR+1)):=by
  rw[hY];simp[World.putObj,show M2<Y1.heap.size by omega]
 have dO:ye w.heap.size (setBlock X1 bR (.cells #[.map (some M2),.int .i64 (xR cH)] 163 (0,0))) bR M2 cH cR:=yDh h.cl mb (by omega) λk hk _ hc=>hk1.block k hk (λe=>by
  rw[ac_]at e;subst e;rcases hc with hc|⟨c,hc⟩
  ·exact h.rne k hc rfl
  ·rw[h.rd.iter]at hc;cases hc)
 have bp:ym cH G.name=none:=by
  cases hg:ym cH G.name with
  |none=>rfl
  |some G2=>
   exfalso;obtain⟨m1,m2⟩:=yM hg;obtain⟨G0,Ba,lh,i5,_⟩:=h.bwd G2 m1;have:G0=G:=xCa h.rd.idx.names G0 Ba G hG (i5.symm.trans m2);rw[this,fm]at lh;cases lh
 have eZ:∀k∈(cpG G cR cb nb v ms).foot,X1.heap.size<=k:=λk hk=>by
  unfold MG.foot cpG at hk;simp only[aj_,ae_,bq_,or_false,aT_]at hk;rcases hk with (rfl|rfl)|hk
  ·exact h1
  ·exact h2
  ·exact(aL_ hl.row k hk).1
 have bZ:(cpG G cR cb nb v ms).foot.Nodup:=by
  have e1:cb≠nb:=λe=>by
   have:=hn;unfold y4 at this;rw[<-e,dN]at this;cases this
  have e2:∀k,v.ownBlock=some k->cb≠k/\nb≠k:=λk hk=>by
   obtain⟨c,hc⟩:=yR hl.row hk;constructor
   ·rintro rfl;rw[dN]at hc;exact absurd (jB hc) (by decide)
   ·rintro rfl;have:=hn;unfold y4 at this;rw[hc]at this;cases this
  unfold MG.foot cpG;cases hv:v.ownBlock with
  |none=>simp[e1]
  |some k=>
   obtain⟨e3,e4⟩:=e2 k hv;simp[e1,e3,e4]
 have eH:∀k∈(cpG G cR cb nb v ms).foot,k≠bR/\k≠M2:=λk hk=>by
  have:=eZ k hk;omega
 have Tc:uz w.heap.size Y1 (cpG G cR cb nb v ms):=yB7 (h.rd.idx.grps G hG) hp dN ⟨jP hl.row (by omega),λm hm=>(hl.refs m hm).mono (by omega)⟩ hn (by omega) (by omega);have MH:uz w.heap.size (setBlock Y2 bR (.cells #[.map (some M2),.int .i64 (xR (cH++[cpG G cR cb nb v ms]))] 163 (0,0))) (cpG G cR cb nb v ms):=Tc.keep (λk hk=>by
   obtain⟨g1,g2⟩:=eH k hk;rw[xT _ _ _ _ g1,Ke k g2]) (λm hm k hk=>by
   have:=(zj.lt (hl.refs m hm) hk).1;rw[xT _ _ _ _ (by omega),Ke k (by omega)])
 have ci:xR (cH++[cpG G cR cb nb v ms])<=65536:=ad_ (xEe (Bl:=gs) (by
   rw[bl_];refine aZ_.2 ⟨h.cl.names,by simp,λa ha b hb e=>?_⟩;obtain⟨G2,cG,rfl⟩:=az_.1 ha;simp only[au_,cq_,ac_]at hb;exact jQ bp G2 cG (e.trans hb)) (λa ha=>by
   rcases aj_.1 ha with ha|ha
   ·obtain⟨G0,Ba,_,i5,i6⟩:=h.bwd a ha;refine⟨G0,Ba,i5.symm,?_⟩;have:=congrArg List.length i6;rw[aQ_,aQ_]at this;exact this.symm
   ·obtain rfl:=ac_.1 ha;refine⟨G,hG,rfl,?_⟩;have:=congrArg List.length hp;rw[aQ_,aQ_]at this;exact this.symm)) h.rd.idx.few
 obtain⟨m9,AO⟩:=dO.new (s:=G.name) (G':=cpG G cR cb nb v ms) (w':=setBlock Y2 bR (.cells #[.map (some M2),.int .i64 (xR (cH++[cpG G cR cb nb v ms]))] 163 (0,0))) bp rfl rfl (by rw[yY];exact eZ) bZ MH (zH _ _ _ (by omega)) (by
  unfold y4;rw[xT _ _ _ _ (ds_ hne),hYm];simp only[bl_,au_,cq_];rfl) ⟨by rw[show (setBlock Y2 bR (.cells #[.map (some M2),.int .i64 (xR (cH++[cpG G cR cb nb v ms]))] 163 (0,0))).os=Y2.os from rfl,hY];exact hb.os,by rw[show (setBlock Y2 bR (.cells #[.map (some M2),.int .i64 (xR (cH++[cpG G cR cb nb v ms]))] 163 (0,0))).tape=Y2.tape from rfl,hY];exact hb.tape,by rw[show (setBlock Y2 bR (.cells #[.map (some M2),.int .i64 (xR (cH++[cpG G cR cb nb v ms]))] 163 (0,0))).output=Y2.output from rfl,hY];exact hb.output,by rw[yY,yY,hYs];exact Hg,λk hk QM=>by
   simp only[ae_,bq_,or_false,not_or]at QM;rw[yY]at hk;rw[xT _ _ _ _ QM.1,xT _ _ _ _ QM.1,Ke k QM.2];exact hb.block k hk⟩ ci
 have Td:Y2.heap[r]?=some (.mapIter (some M) mc (seen.push G.born) mc):=by
  rw[Ke r (ds_ A_),hb.block r (by omega)];exact hit
 have fJ:w.heap.size<=r:=h.rd.lo;have hwM:w.heap.size<=M2:=h.cl.MB;have aG:Below w.heap.size w Y2:=by
  refine h.rd.bl.trans ⟨?_,?_,?_,by omega,λk hk=>?_⟩
  ·rw[hY];exact hb.os.trans hk1.os
  ·rw[hY];exact hb.tape.trans hk1.tape
  ·rw[hY];exact hb.output.trans hk1.output
  ·rw[Ke k (by omega),hb.block k (by omega)];exact hk1.block k (by omega) (by simp;omega)
 refine⟨⟨Td,aG,fJ,h.rd.idx,λH hH hs=>hs⟩,?_,m9,λH hH hs=>?_,λG2 cG=>?_,λk hk=>?_⟩
 ·rw[Ke bR hne,hb.block bR (by omega)];exact(hk1.block bR mb (by simpa using Hh)).trans h.blk
 ·rw[dG_,bI_]at hs;rcases hs with hs|hs
  ·obtain⟨G2,cG,e⟩:=h.fwd H hH hs;exact⟨G2,bQ_ _ cG,e⟩
  ·have Kc:H.born=G.born:=by simpa using hs
   have:H=G:=yBw h.rd.idx.born H hH G hG Kc;subst this;exact⟨cpG H cR cb nb v ms,bV_ _ (by simp),rfl,hp⟩
 ·rcases aj_.1 cG with cG|cG
  ·obtain⟨G0,Ba,lh,e⟩:=h.bwd G2 cG;exact⟨G0,Ba,by rw[dG_,lh];rfl,e⟩
  ·obtain rfl:=ac_.1 cG;exact⟨G,hG,by rw[dG_];simp,rfl,hp⟩
 ·rcases AO k hk with hk|hk
  ·exact h.rne k hk
  ·rw[yY]at hk;omega
theorem ClSt.out {B w ib M mc gs bR M2 r cH cR seen X X1 Y1}(h:ClSt B w ib M mc gs bR M2 r cH cR seen X){G}(hG:G∈gs)(fm:seen.contains G.born=false)(hk1:Kept [r] X X1)(hb:Below X1.heap.size X1 Y1)(cb):
  Y1.cell? ⟨bR,0,none⟩=some (.map (some M2))/\(Instr.mapUpdate 161 (.map (some M2)) (.string G.name) (.pointer (some ⟨cb,0,none⟩))).run prog Y1=.ok () (Y1.putObj M2 (.map (((cH.map MG.e)++[(⟨G.name,.pointer (some ⟨cb,0,none⟩),cR⟩:KE ByteArray)]).map (enE ekS)).toArray (cR+1))):=by
 have mb:=(i_ h.blk).1;have i4:M2<X.heap.size:=by
  have:=(h.cl.foot_lt M2 (by simp[foot])).2
  rwa [yY]at this
 have dm:X.heap.size<=X1.heap.size:=hk1.size;have Hh:bR≠r:=h.rne bR (by simp[foot]);have A_:M2≠r:=h.rne M2 (by simp[foot]);have hne:bR≠M2:=(qh.1 h.cl.apart).1;have bp:ym cH G.name=none:=by
  cases hg:ym cH G.name with
  |none=>rfl
  |some G2=>
   exfalso;obtain⟨m1,m2⟩:=yM hg;obtain⟨G0,Ba,lh,i5,_⟩:=h.bwd G2 m1;have:G0=G:=xCa h.rd.idx.names G0 Ba G hG (i5.symm.trans m2);rw[this,fm]at lh;cases lh
 have aE:Y1.heap[bR]?=some (.cells #[.map (some M2),.int .i64 (xR gs)] 163 (0,0)):=by
  rw[hb.block bR (by omega)];exact(hk1.block bR mb (by simpa using Hh)).trans h.blk
 have io:y4 ekS Y1 M2 (cH.map MG.e) cR:=by
  have hm:=h.cl.map;unfold y4 at hm⊢;rw[xT _ _ _ _ (ds_ hne)]at hm;rw[hb.block M2 (by omega),hk1.block M2 i4 (by simpa using A_)];exact hm
 refine⟨cell_of_row Y1 bR 0 _ _ _ aE,?_⟩;refine xEt keyS underlying161 Y1 M2 _ cR io G.name _ ?_;have h2:=xCf G.name cH 0;rw[bp]at h2;simpa using h2
theorem ClSt.done {B w ib M mc gs bR M2 r cH cR seen W}(h:ClSt B w ib M mc gs bR M2 r cH cR seen W)(hall:∀G∈gs,seen.contains G.born=true):ye w.heap.size W bR M2 cH cR/\lfOf cH=lfOf gs/\xR cH=xR gs:=by
 have ao:∀{a b:List ML},a.map (·.p)=b.map (·.p)->a.length=b.length:=λ{a b} h=>by
  have:=congrArg List.length h
  rwa [aQ_,aQ_]at this
 have ht:xR cH=xR gs:=by
  refine Nat.le_antisymm (xEe h.cl.names λa ha=>?_) (xEe h.rd.idx.names λa ha=>?_)
  ·obtain⟨G,hG,_,hn,hp⟩:=h.bwd a ha;exact⟨G,hG,hn.symm,(ao hp).symm⟩
  ·obtain⟨G2,cG,hn,hp⟩:=h.fwd a ha (hall a ha);exact⟨G2,cG,hn,ao hp⟩
 have mb:=(i_ h.blk).1;have Fd:∀k,W.heap[k]?=(setBlock W bR (.cells #[.map (some M2),.int .i64 (xR cH)] 163 (0,0))).heap[k]?:=λk=>by
  by_cases e:k=bR
  ·subst e;rw[zH _ _ _ mb,h.blk,ht]
  ·rw[xT _ _ _ _ e]
 refine⟨h.cl.keep (λk _=>Fd k) (λ_ _ _ _ k _=>Fd k),?_,ht⟩;funext t;unfold lfOf xA;cases hg:ym gs t with
 |none=>
  cases hg2:ym cH t with
  |none=>rfl
  |some G2=>
   exfalso;obtain⟨m1,m2⟩:=yM hg2;obtain⟨G,hG,_,hn,_⟩:=h.bwd G2 m1;exact jQ hg G hG (hn.symm.trans m2)
 |some G=>
  obtain⟨m1,m2⟩:=yM hg;obtain⟨G2,cG,hn,hp⟩:=h.fwd G m1 (hall G m1);have:ym cH t=some G2:=by
   rw[<-m2,<-hn];exact xB2 h.cl.names cG
  rw[this];exact hp
end Go.Proofs.YtegfbhdkenkkdaaGreatDoor
namespace Go.Proofs.YtegfbhdkenkkdaaGreatDoor
open Go Go.RowKit Go.Proofs Tryz
section
theorem xJf (b es clock w)(hb:w.heap[b]?=some (.map es clock)):
  Calls prog 62 #[.map (some b)] w λe w'=>e=.returned (.map (some w.heap.size))/\w.alloc (.map es clock)=w':=by
 have hu:prog.underlying 63=some (.map 3 140):=underlying63;have hq:=λw=>run_eql_map_nil_sl (P:=prog) w 63 _ _ (some b) hu
 go_enter func62,ntmps62;go_wp2;rw[run_callFunc_extern func93 (by kernel_rfl) (by kernel_rfl) (by kernel_rfl) (e:=Extern.MapsClone.clone) (by kernel_rfl),run_maps_clone_sl w 63 hb];simp only[Result.andThen];rw[ce_];go_wp2;rw[run_typeAssert_map_sl _ 63 20 _ _ _ hu];simp only[Result.andThen];rw[ce_];go_wp2;go_ret;exact⟨rfl,rfl⟩
theorem xVn (w):Calls prog 63 #[.slice none 0 0] w λe w'=>e=.returned (.slice none 0 0)/\w=w':=by
 have hq:Sem.run prog (binOp BinOp.eql 64 (.slice none 0 0) (.slice none 0 0)) w=.ok (.bool true) w:=by kernel_rfl
 go_enter func63,ntmps63;go_wp2;go_ret;exact⟨rfl,rfl⟩
theorem xT2 (ρ:Operand->Value)(d x)(ty:TypeId)(pos af g w):
  Sem.run prog (execOp ρ ⟨d,.load 66 x,ty,pos,af,g⟩) w=yp prog 66 w (ρ x):=rfl
theorem xPm (ρ:Operand->Value)(d x y)(ty:TypeId)(pos af g w):
  Sem.run prog (execOp ρ ⟨d,.store 66 x y,ty,pos,af,g⟩) w=yi prog 66 w (ρ x) (ρ y):=rfl
theorem yEw (w a)(h:xo w a 7=true):yp prog 66 w (.pointer (some a))=.ok (.value (.agg (xm w a 7))) w:=
 yf isAgg66 sizeOf66 w a h
theorem yEd (w g cells)(h:xM w g 7=true)(h2:xy 7 cells=true):
  yi prog 66 w (.pointer (some ⟨g,0,none⟩)) (.agg cells)=.ok .skip (w.setRow g cells):=yo (by kernel_rfl) w g cells h h2
def xWq:Array Value:=#[.int .i64 0,.map none,.slice none 0 0,.int .i64 0,.bool false,.int .i64 0,.bool false]
theorem xPv (ρ:Operand->Value)(d)(ty:TypeId)(pos af g w):
  Sem.run prog (execOp ρ ⟨d,.alloc 66,ty,pos,af,g⟩) w=.ok (.value (.pointer (some ⟨w.heap.size,0,none⟩))) (w.alloc (.cells xWq 66)):=by kernel_rfl
attribute [local go_sem ↓] xT2 xPm xPv
attribute [local go_sem] yEw yEd xh xf xa x9 xu zQ xq xx
theorem yBu {B w v d}(h:yu B w v d)(hp:d.pend=[]):
  Calls prog 30 #[.pointer (some ⟨v.p,0,none⟩)] w λe w'=>Below w.heap.size w w'/\∃v',e=.returned (.pointer (some ⟨v'.p,0,none⟩))/\yu w.heap.size w' v' d:=by
 have me:=h.nilp hp;obtain⟨cs,aJ⟩:∃cs,cs=yK v d:=⟨_,rfl⟩;have bO:=h.blk;rw[<-aJ]at bO;have aI:cs.size=7:=by rw[aJ];rfl
 obtain⟨o1,r1⟩:=xD (n:=7) bO aI;have bJ:xy 7 cs=true:=by rw[aJ];unfold yK;rw[me];simp[xy,Value.oneCell']
 have hz:xWq.size=7:=rfl;obtain⟨W1,c_⟩:∃W1,W1=w.alloc (.cells cs 66):=⟨_,rfl⟩;have aa:Below w.heap.size w W1:=by rw[c_];exact b_ _ _
 have az:W1.heap[w.heap.size]?=some (.cells cs 66 (0,0)):=by rw[c_];exact heap_alloc_new w _
 have aK:W1.heap.size=w.heap.size+1:=by rw[c_];exact al_ ..
 have bg:=h.below aa;have c1:=cell_of_row W1 v.p 1 _ _ _ bg.blk;simp only[yK]at c1;have QN:=h_ (xJf v.M _ v.mc W1 bg.map);have HH:=h_ h;have HP:=h_ hp;have nj:=h_ me;have ar:=h_ aa;have cz:=h_ az;have bW:=h_ aK;have nD:=h_ aJ;have mC:=h_ c_;rw[c_]at c1;clear h hp me aa az aK bg aJ bO aI c_;go_enter func30,ntmps30;go_wp2_with fail;rw[<-mC.out];refine QN.mono ?_;rintro e w2 ⟨rfl,rfl⟩;clear bJ hz c1 o1 r1;have aj:Below W1.heap.size W1 (W1.alloc (.map (v.es.map (enE ekN)).toArray v.mc)):=(ab_ _ _).alloc (aa_ _) _;have eV:=heap_alloc_new W1 (.map (v.es.map (enE ekN)).toArray v.mc);have cT:(W1.alloc (.map (v.es.map (enE ekN)).toArray v.mc)).heap.size=W1.heap.size+1:=al_ ..;obtain⟨m,lQ⟩:∃m,m=W1.heap.size:=⟨_,rfl⟩;obtain⟨W2,ff⟩:∃W2,W2=W1.alloc (.map (v.es.map (enE ekN)).toArray v.mc):=⟨_,rfl⟩;rw[<-ff]at aj eV cT⊢;rw[<-lQ]at eV cT⊢;have aA:W2.heap[w.heap.size]?=some (.cells cs 66 (0,0)):=(aj.block _ (by have:=bW.out;omega)).trans cz.out
 rw[nD.out]at aA;have c1:=cell_of_row W2 w.heap.size 1 _ _ _ aA;have f1:=frozen_of_row W2 w.heap.size 1 _ _ aA;have bK:=heap_setCell_same W2 w.heap.size 1 _ _ (.map (some m)) aA;have al:Below w.heap.size w (W2.setCell ⟨w.heap.size,1,none⟩ (.map (some m))):=(ar.trans (aj.mono ar.size)).setCell (p:=⟨w.heap.size,1,none⟩) (aa_ _) _;have EA:(W2.setCell ⟨w.heap.size,1,none⟩ (.map (some m))).heap[m]?=some (.map (v.es.map (enE ekN)).toArray v.mc):=(heap_setCell_other W2 ⟨w.heap.size,1,none⟩ m _ (by show m≠w.heap.size;have:=bW.out;omega)).trans eV;simp only[yK]at c1;have fk:=HH.below al;have c2:=cell_of_row _ v.p 2 _ _ _ fk.blk;simp only[yK]at c2;have me:=nj.out;rw[me]at c2;have dV:=h_ bK;have Fe:=h_ EA;have ay:=h_ al;have GJ:=h_ lQ;clear me bK EA al fk aj eV cT aA ff lQ;go_wp2_with fail;obtain⟨W3,pY⟩:∃W3,W3=W2.setCell ⟨w.heap.size,1,none⟩ (.map (some m)):=⟨_,rfl⟩;rw[<-pY]at dV Fe ay⊢;refine(xVn W3).mono ?_;rintro e w4 ⟨rfl,rfl⟩;clear c1 f1 c2 pY;have bK:=dV.out;have c2:=cell_of_row W3 w.heap.size 2 _ _ _ bK;have f2:=frozen_of_row W3 w.heap.size 2 _ _ bK;have eh:=heap_setCell_same W3 w.heap.size 2 _ _ (.slice none 0 0) bK
 have aQ:Below w.heap.size w (W3.setCell ⟨w.heap.size,2,none⟩ (.slice none 0 0)):=ay.setCell (p:=⟨w.heap.size,2,none⟩) (aa_ _) _;have DD:(W3.setCell ⟨w.heap.size,2,none⟩ (.slice none 0 0)).heap[m]?=some (.map (v.es.map (enE ekN)).toArray v.mc):=(heap_setCell_other W3 ⟨w.heap.size,2,none⟩ m _ (by show m≠w.heap.size;have:=bW.out;have:=GJ.out;omega)).trans Fe.out;have h:=HH.out;have HF:=h_ (show yu w.heap.size (W3.setCell ⟨w.heap.size,2,none⟩ (.slice none 0 0)) { v with p:=w.heap.size,M:=m,pv:=.slice none 0 0 } d from
  ⟨by rw[eh];rfl,h.lim,λ_=>rfl,DD,h.dur,h.durL,by rw[HP.out];exact⟨aP_ _ _ _ _,λx hx=>by cases hx⟩,h.n1,h.n2,h.few,aa_ _,by show w.heap.size<=m;rw[GJ.out,bW.out];omega⟩)
 have bt:=h_ aQ;simp only[yK]at c2;clear bK eh aQ DD h;go_wp2;go_ret;exact⟨bt.out,{ v with p:=w.heap.size,M:=m,pv:=.slice none 0 0 },rfl,HF.out⟩
end
def yBo (b:Bool):Int:=if b then 28 else 0
def xE (p n:Nat):Array Value:=#[.pointer (some ⟨p,0,none⟩),.int .i64 0,.int .i64 n]
theorem xCy (p n)(hn:n<=4096)(w):Calls prog 65 #[.agg (xE p n)] w λe w'=>e=.returned (.int .i64 (n/2:Nat))/\Below w.heap.size w w':=by
 have hb:Below w.heap.size w (w.alloc (.cells (xE p n) 113)):=(ab_ _ _).alloc (aa_ _) _;have HB:=h_ hb;have pC:(n:Int)<=4096:=by omega
 unfold xE at HB⊢;clear hb hn;go_enter func65,ntmps65;go_wp2;go_ret;exact⟨congrArg (λz=>Ending.returned (.int .i64 z)) (show (n:Int)/2=((n/2:Nat):Int) by omega),HB.out⟩
theorem xJw {B w v d}(h:yu B w v d)(hn:8<=d.n):Calls prog 45 #[.agg (xE v.p d.n)] w λe w'=>e=.returned (.int .i64 (yBo d.down))/\Below w.heap.size w w':=by
 obtain⟨w1,ai⟩:∃w1,w1=w.alloc (.cells (xE v.p d.n) 113):=⟨_,rfl⟩;have hb:Below w.heap.size w w1:=by rw[ai];exact b_ _ _
 have ah:w1.heap[w.heap.size]?=some (.cells (xE v.p d.n) 113 (0,0)):=by rw[ai];exact heap_alloc_new w _
 have n9:∀k,Calls prog 22 #[.pointer (some ⟨v.p,0,none⟩)] (w1.drewN k) λe w'=>e=.returned (.int .i64 d.n)/\∃m,w'=w1.drewN m:=λk=>
  (qI ((h.below hb).below (xS (ab_ _ _) k))).mono λe w' ⟨h1,h2⟩=>⟨h1,k,h2.symm⟩
 have iH:=h_ n9;have HD:=h_ (h.below hb);have HB:=h_ hb;have HR:=h_ ah;have h2:=h.n2;obtain⟨n,eW⟩:∃n,n=d.n:=⟨_,rfl⟩;rw[<-eW]at hn h2 ai ah iH HR⊢;have HN:=h_ eW;have pC:(8:Int)<=n:=by omega
 have Te:(n:Int)<=4096:=by omega
 unfold xE at ai HR⊢;clear n9 hb ah h eW;go_enter func45,ntmps45;go_upto_region 3 with fail
 refine xr ai ?_;clear ai;have c0:=cell_of_row w1 w.heap.size 0 _ _ _ HR.out;have c1:=cell_of_row w1 w.heap.size 1 _ _ _ HR.out;have c2:=cell_of_row w1 w.heap.size 2 _ _ _ HR.out;have oA:IntKind.i64.wrap ((n:Int)-n)=0:=by rw[Int.sub_self];rfl
 have m_:decide ((n:Int)<8)=false:=decide_eq_false (by omega);have tw:decide ((0:Int)>0)=false:=by decide
 go_quiet ((go_at_call 22;exact iH.out _));have mI:=h_ (HD.below (xS (ab_ _ _) nq));have au:=h_ (xS HB.out nq);have c0':(w1.drewN nq).cell? ⟨w.heap.size,0,none⟩=some (.pointer (some ⟨v.p,0,none⟩)):=by rw[bT_];exact c0
 clear c0 c1 c2 oA m_ tw iH;generalize w1.drewN nq=w2 at mI au c0'⊢;go_wp2_with fail;refine(xTb mI.out).mono ?_;rintro e w3 ⟨rfl,rfl⟩;obtain⟨dn,iB⟩:∃dn,dn=d.down:=⟨_,rfl⟩;rw[<-iB];have tI:=h_ iB;clear iB;cases dn with
 |true=>
  go_wp2;go_ret;exact⟨by rw[<-tI.out];rfl,au.out⟩
 |false=>
  go_wp2;go_ret;exact⟨by rw[<-tI.out];rfl,au.out⟩
theorem ScAt.under {w w' B v L vs}(h:ScAt w B v L vs)(hs:w.heap.size<=w'.heap.size)(hb:∀g,B<=g->g<w.heap.size->w'.heap[g]?=w.heap[g]?):ScAt w' B v L vs:=by
 refine⟨⟨h.own.1,?_⟩,h.len,λi hi=>(h.el i hi).same hs λg h1 _ h3=>hb g h1 h3⟩;rcases h.own.2 with h0|⟨g,cap,cur,hv,hg,aq,r⟩
 ·exact .inl h0
 ·exact .inr ⟨g,cap,cur,hv,hg,(hb g hg (i_ aq).1).trans aq,r⟩
structure RdJ (W:World)(b0 b1 b2 p n from':Nat)(v:Value):Prop where
 st:W.heap[b0]?=some (.cells (xE p n) 113 (0,0))
 fr:W.heap[b1]?=some (.cells #[.int .i64 from'] 3 (0,0))
 li:W.heap[b2]?=some (.cells #[v] 116 (0,0))
def yC8 (B b2:Nat)(v:Value)(L:List By)(vs:List Value)(b:By)(W:World)(e:Ending)(W':World):Prop:=
 e=.returned (.int .i64 0)/\∃v' x,W'.heap[b2]?=some (.cells #[v'] 116 (0,0))/\ScAt W' B v' (L++[b]) (vs++[x])/\Kept (b2 :: v.ownBlock.toList) W W'
theorem xUo {D B w v d}(h:yu D w v d)(hd:d.down=false)(b0 b1 b2 from' L vs lv)(hr:RdJ w b0 b1 b2 v.p d.n from' lv)(hl:ScAt w B lv L vs)(hlt:from'+L.length<d.n)(hB:B<=w.heap.size)(h2B:b2<B):
  Calls prog 102 #[.pointer (some ⟨b0,0,none⟩),.pointer (some ⟨b1,0,none⟩),.pointer (some ⟨b2,0,none⟩)] w (yC8 B b2 lv L vs (d.vis (from'+L.length)) w):=by
 obtain⟨la,lc,iR⟩:=yd hl.own;have c0:=cell_of_row w b0 0 _ _ _ hr.st;have c1:=cell_of_row w b0 1 _ _ _ hr.st;have cf:=cell_of_row w b1 0 _ _ _ hr.fr;have cl:=cell_of_row w b2 0 _ _ _ hr.li;have aA:=h.n2;have gt:=h_ (xZy h (from'+L.length) hlt hd);have HR:=h_ hr;have HL:=h_ hl;have HD:=h_ h;have Kf:=h_ iR;obtain⟨k,hk⟩:∃k,k=L.length:=⟨_,rfl⟩;rw[<-hk]at hlt gt iR⊢;have HK:=h_ hk;rw[iR]at cl;have aL:(from':Int)+(k:Int)<=4096:=by omega
 obtain⟨s,hs⟩:∃s,s=from'+k:=⟨_,rfl⟩;have aI:(from':Int)+(k:Int)=(s:Int):=by omega
 rw[<-hs]at gt⊢;have HS:=h_ hs;unfold xE at c0 c1;clear h hd hr hl iR hk hs;go_enter func102,ntmps102;go_wp2_with fail;refine gt.mono ?_;rintro e w1 ⟨aa,g,rfl,hg,ah⟩;obtain⟨x,hx⟩:∃x,x=Value.slice (some ⟨g,0,none⟩) 256 256:=⟨_,rfl⟩;have hne:∀j,lv.ownBlock=some j->j≠b2:=λj hj e=>by
  have h1:=HR.li;rcases HL.own.2 with⟨h0,_⟩|⟨g',cap,cur,hv,_,aq,_⟩
  ·rw[h0]at hj;cases hj
  ·rw[hv]at hj;have E0:g'=j:=as_ hj;rw[<-e,<-E0,aq]at h1;cases h1
 have hlt2:b2<w.heap.size:=(i_ HR.li).1;have aM:Below w1.heap.size w1 (w1.alloc (.cells #[.slice (some ⟨g,0,none⟩) 256 256] 31)):=(ab_ _ _).alloc (aa_ _) _;have aj:=aa.trans (aM.mono aa.size);have pu:=h_ (HL.later aj);have HEL:=h_ ((xTa (B:=B) (v:=lv) ah (xVz HD.out s) (ad_ hB hg) (λe=>by have:=(aL_ HL.own g e).2;omega)).later aM);have cl1:w1.cell? ⟨b2,0,none⟩=some (.slice la k lc):=(aa.cell (p:=⟨b2,0,none⟩) hlt2).trans cl;have As:=yz w1 #[.slice (some ⟨g,0,none⟩) 256 256] 31 0;have GB:=h_ As;have hLL:Hid (L.length<=1000000):=h_ (by rw[<-HK.out];omega);have dh:Hid (B<=(w1.alloc (.cells #[.slice (some ⟨g,0,none⟩) 256 256] 31)).heap.size):=h_ (ad_ hB aj.size);have au:=h_ aj;have pz:=h_ hne;have Tf:=h_ hlt2;have gz:=(aj.block b2 hlt2).trans HR.li;have y_:=h_ gz;rw[Kf.out,<-HK.out]at pu;clear As aM aa aj hne hlt2 ah hg hx c0 c1 cf cl gt gz;go_wp2_with (at_builtin;refine xBq rfl (.tmp 21) (.tmp 23) rfl B _ L vs rfl pu.out (.slice (some ⟨g,0,none⟩) 256 256) (d.vis s) ?cE ⟨w1.heap.size,0,none⟩ rfl GB.out hLL.out dh.out ?_)
 case cE=>rw[HK.out,<-Kf.out];exact HEL.out
 intro v' w3 fd cV aB;have A8:=(cV.block b2 (ap_ Tf.out au.size) (λe=>pz.out b2 (by rw[Kf.out,<-HK.out];exact e.symm) rfl)).trans y_.out;have c2:=cell_of_row w3 b2 0 _ _ _ A8;have f2:=frozen_of_row w3 b2 0 _ _ A8;have dx:=heap_setCell_same w3 b2 0 _ _ v' A8;obtain⟨m,hm⟩:∃m,m=(L++[d.vis s]).length:=⟨_,rfl⟩;obtain⟨va,vc,fB⟩:∃a c,v'=.slice a m c:=by rw[hm];exact yd fd.own
 clear hm;have MI:ScAt (w3.setCell ⟨b2,0,none⟩ v') B v' (L++[d.vis s]) (vs++[.slice (some ⟨g,0,none⟩) 256 256]):=fd.under (by simp[World.setCell]) λg hg _=>heap_setCell_other w3 ⟨b2,0,none⟩ g v' (by show g≠b2;omega)
 have ef:Kept (b2 :: lv.ownBlock.toList) w (w3.setCell ⟨b2,0,none⟩ v'):=by
  have HB:=au.out;refine⟨cV.os.trans HB.os,cV.tape.trans HB.tape,cV.output.trans HB.output,by have:=cV.size;have:=HB.size;simp[World.setCell];omega,λk' bG hn=>?_⟩;rw[ae_,not_or]at hn;refine(heap_setCell_other w3 ⟨b2,0,none⟩ k' v' hn.1).trans ((cV.block k' (ap_ bG HB.size) (λe=>hn.2 ?_)).trans (HB.block k' bG));rw[Kf.out,<-HK.out,<-e];simp
 have aS:=h_ (show yC8 B b2 lv L vs (d.vis s) w (.returned (.int .i64 0)) (w3.setCell ⟨b2,0,none⟩ v')from ⟨rfl,v',_,dx,MI,ef⟩);subst fB;clear dx MI ef fd cV aB A8;go_wp2;go_ret;exact aS.out
def jD (d:PD)(from' k:Nat):List By:=(List.range k).map λi=>d.vis (from'+i)
theorem zZ (d from' k):(jD d from' k).length=k:=by simp[jD]
theorem xUh (d from' k):jD d from' (k+1)=jD d from' k++[d.vis (from'+k)]:=by simp[jD,dB_]
def xS0 (w:World)(b:Nat):Nat:=match w.cell? ⟨b,0,none⟩ with
 |some (.slice _ n _)=>n
 |_=>0
def xD6 (d:PD)(from' k:Nat)(w:World)(e:Ending)(w':World):Prop:=
 Below w.heap.size w w'/\∃v vs,e=.returned (.tuple #[v,.int .i64 0])/\ScAt w' w.heap.size v (jD d from' k) vs
structure RlSt (w:World)(p n from':Nat)(d:PD)(k:Nat)(W:World):Prop where
 bel:Below w.heap.size w W
 at':∃v vs,RdJ W w.heap.size (w.heap.size+1) (w.heap.size+1+1) p n from' v/\ScAt W (w.heap.size+3) v (jD d from' k) vs
theorem xN4 {D w v d}(h:yu D w v d)(hd:d.down=false)(from' cnt)(hlt:from'+cnt<=d.n):
  Calls prog 71 #[.agg (xE v.p d.n),.int .i64 from',.int .i64 cnt] w (xD6 d from' cnt w):=by
 obtain⟨w1,ai⟩:∃w1,w1=((w.alloc (.cells (xE v.p d.n) 113)).alloc (.cells #[.int .i64 from'] 3)).alloc (.cells #[.slice none 0 0] 116):=⟨_,rfl⟩;have hb:Below w.heap.size w w1:=by rw[ai];exact(((ab_ _ _).alloc (aa_ _) _).alloc (by simp) _).alloc (by simp;omega) _
 have aK:w1.heap.size=w.heap.size+3:=by rw[ai];simp
 have h0:w1.heap[w.heap.size]?=some (.cells (xE v.p d.n) 113 (0,0)):=by
  rw[ai,heap_alloc_old _ _ (by simp;omega),heap_alloc_old _ _ (by simp),heap_alloc_new]
 have h1:w1.heap[w.heap.size+1]?=some (.cells #[.int .i64 from'] 3 (0,0)):=by
  have:=heap_alloc_new (w.alloc (.cells (xE v.p d.n) 113)) (.cells #[.int .i64 from'] 3);rw[al_]at this;rw[ai,heap_alloc_old _ _ (by simp),this]
 have h2:w1.heap[w.heap.size+2]?=some (.cells #[.slice none 0 0] 116 (0,0)):=by
  have:=heap_alloc_new ((w.alloc (.cells (xE v.p d.n) 113)).alloc (.cells #[.int .i64 from'] 3)) (.cells #[.slice none 0 0] 116);rw[al_,al_]at this;rw[ai,this]
 have aO:Hid (RlSt w v.p d.n from' d 0 w1):=h_ ⟨hb,.slice none 0 0,[],⟨h0,h1,h2⟩,ScAt.nil _ _⟩;have HD:=h_ h;have tI:=h_ hd;have aA:=h.n2;have Aa:(cnt:Int)<=4096:=by omega
 have Hi:=h_ hlt;obtain⟨n,hn⟩:∃n,n=d.n:=⟨_,rfl⟩;rw[<-hn]at ai aO⊢;have HN:=h_ hn;unfold xE at ai;clear hb aK h0 h1 h2 h hd aA hlt hn;unfold xE;go_enter func71,ntmps71;go_wp2;refine xr ai ?_;clear ai;go_loopw [10] (λ_ wr=>∃k:Nat,k<=cnt/\Hid (RlSt w v.p n from' d k wr)) (λ_ wr=>cnt-xS0 wr (w.heap.size+1+1))
 case atStart=>exact⟨0,aV_ _,aO⟩
 case round=>
  obtain⟨k,hk,HS⟩:=hrel;obtain⟨lv,vs,Kg,fd⟩:=HS.at';obtain⟨la,lc,iR⟩:=yd fd.own;rw[zZ]at iR;have cl:=cell_of_row wr (w.heap.size+1+1) 0 _ _ _ Kg.li;rw[iR]at cl;have cl':wr.cell? ⟨w.heap.size+1+1,0,none⟩=some (.slice la k lc):=cl;have Dy:xS0 wr (w.heap.size+1+1)=k:=by unfold xS0;rw[cl']
  have fJ:w.heap.size+3<=wr.heap.size:=(i_ Kg.li).1;have HMZ:=h_ Dy;have Kf:=h_ iR;have pu:=h_ fd;by_cases hlt:k<cnt
  ·have cr:(k:Int)<cnt:=by omega
   have bj:=xUo (HD.below HS.bel) tI.out w.heap.size (w.heap.size+1) (w.heap.size+1+1) from' (jD d from' k) vs lv (by rw[<-HN.out];exact Kg) fd (by rw[zZ];have:=Hi.out;omega) fJ (cQ_ _);have ed:=h_ bj;have WY:=h_ Kg;clear bj Kg fd Dy iR cl;go_wp2_with fail;refine ed.mono ?_;rintro e w2 ⟨rfl,v',x,sE,rh,ef⟩;have hne:∀j,j<w.heap.size+2->j∉((w.heap.size+1+1) :: lv.ownBlock.toList):=λj hj hm=>by
    rcases ae_.1 hm with rfl|hm
    ·omega
    ·have:=(aL_ pu.own j (by simpa using hm)).1;omega
   have b9:Below w.heap.size w w2:=HS.bel.trans (ef.below (by omega) (λj hj=>by
    rcases ae_.1 hj with rfl|hm
    ·omega
    ·have:=(aL_ pu.own j (by simpa using hm)).1;omega))
   rw[zZ,<-xUh]at rh;have eV:xS0 w2 (w.heap.size+1+1)=k+1:=by
    obtain⟨a,c,e⟩:=yd rh.own;unfold xS0;rw[cell_of_row w2 (w.heap.size+1+1) 0 _ _ _ sE,e,zZ];rfl
   have bQ:Hid (RlSt w v.p n from' d (k+1) w2):=h_ ⟨b9,v',_,⟨(ef.block _ (by omega) (hne _ (by omega))).trans WY.st,(ef.block _ (by omega) (hne _ (by omega))).trans WY.fr,sE⟩,rh⟩;have QO:=h_ eV;have hk1:k+1<=cnt:=hlt;clear eV b9 hne rh sE ef cl';go_wp2;go_roundw
   case rel=>exact⟨k+1,hk1,bQ⟩
   case measure=>rw[QO.out,HMZ.out];omega
  ·obtain rfl:k=cnt:=by omega
   have HF:=h_ (show xD6 d from' k w (.returned (.tuple #[.slice la k lc,.int .i64 0])) wr from ⟨HS.bel,.slice la k lc,vs,rfl,by rw[<-iR];exact fd.base (by omega)⟩);clear Kg fd Dy iR cl;go_wp2;go_ret2;exact HF.out
section
attribute [local go_sem ↓] qR qz
attribute [local go_sem] xCx xCq xG8 xG5 xMj xh xf xa x9 xu xv xk xj xq xx xt
theorem uh (ρ:Operand->Value)(d x)(ty:TypeId)(pos af g w):
  Sem.run prog (execOp ρ ⟨d,.load 113 x,ty,pos,af,g⟩) w=yp prog 113 w (ρ x):=rfl
theorem zI (ρ:Operand->Value)(d x y)(ty:TypeId)(pos af g w):
  Sem.run prog (execOp ρ ⟨d,.store 113 x y,ty,pos,af,g⟩) w=yi prog 113 w (ρ x) (ρ y):=rfl
theorem xAa (w a)(h:xo w a 3=true):yp prog 113 w (.pointer (some a))=.ok (.value (.agg (xm w a 3))) w:=
 yf isAgg113 sizeOf113 w a h
theorem xA6 (w g cells)(h:xM w g 3=true)(h2:xy 3 cells=true):
  yi prog 113 w (.pointer (some ⟨g,0,none⟩)) (.agg cells)=.ok .skip (w.setRow g cells):=yo (by kernel_rfl) w g cells h h2
attribute [local go_sem ↓] uh zI
attribute [local go_sem] xAa xA6
noncomputable def genK (d:PD)(area k:Nat):Nat:=(List.range k).foldl (λg s=>zR sha area g (d.vis s)) area
theorem xNa (d area k):genK d area (k+1)=zR sha area (genK d area k) (d.vis k):=by
 unfold genK;rw[dB_,List.foldl_append,cY_,List.foldl_nil]
theorem xWn (d area)(ha:area<2):∀k,genK d area k<=2147483649
 |0=>by show area<=_;omega
 |k+1=>by
  have ih:=xWn d area ha k;rw[xNa];unfold zR;cases hp:decP sha (d.vis k) with
  |none=>exact ih
  |some p=>
   have aD:=xD3 hp;have hg:p.gen<=2147483647:=aD.1.2.2.2.1;simp only;split
   ·split <;> omega
   ·exact ih
structure NxSt (w:World)(L:List By)(v:Value)(vs:List Value)(W:World):Prop where
 bel:Below w.heap.size w W
 sc:ScAt W w.heap.size v L vs
theorem xYk {w B v L vs}(h:ScAt w B v L vs)(k)(hk:k<L.length):∃g cap e,v=.slice (some ⟨g,0,none⟩) L.length cap/\w.cell? ⟨g,k,none⟩=some (.slice (some ⟨e,0,none⟩) 256 256)/\L[k].length=256/\e<w.heap.size/\SlB w ⟨e,0,none⟩ L[k]:=by
 obtain⟨g,cap,hv,_,_,_,_,hc⟩:=h.at (λe=>by rw[e]at hk;cases hk)
 obtain⟨e,he,h2,_,h4,_,h6⟩:=h.el k hk;refine⟨g,cap,e,hv,?_,h2,h4,h6⟩;rw[hc k hk,he]
theorem xN5 {D w v d}(h:yu D w v d)(hd:d.down=false)(hK:qU w)(area)(ha:area<2)(hg:genK d area d.n<=2147483647):
  Calls prog 46 #[.agg (xE v.p d.n),.int .i64 area] w λe w'=>Below w.heap.size w w'/\e=.returned (.tuple #[.int .i64 (genK d area d.n),.int .i64 0]):=by
 obtain⟨w1,ai⟩:∃w1,w1=w.alloc (.cells (xE v.p d.n) 113):=⟨_,rfl⟩;have aa:Below w.heap.size w w1:=by rw[ai];exact b_ _ _
 have ah:w1.heap[w.heap.size]?=some (.cells (xE v.p d.n) 113 (0,0)):=by rw[ai];exact heap_alloc_new w _
 have gt:=h_ (xN4 (h.below aa) hd 0 d.n (by omega));obtain⟨o1,r1⟩:=xD (n:=3) ah rfl;have c2:=cell_of_row w1 w.heap.size 2 _ _ _ ah;have ar:=h_ aa;have HK:=h_ hK;have HG:=h_ hg;have HD:=h_ h;have aA:=h.n2;obtain⟨n,hn⟩:∃n,n=d.n:=⟨_,rfl⟩;rw[<-hn]at ai r1 c2 gt aA HG⊢;have HN:=h_ hn;obtain⟨G,hG⟩:∃G,G=genK d area:=⟨_,rfl⟩;rw[<-hG]at HG⊢;have Bb:=h_ hG;have pC:(n:Int)<=4096:=by omega
 have MJ:(area:Int)<2:=by omega
 unfold xE at ai r1 c2 gt⊢;rw[ai]at o1 r1 c2;clear h hd hK hg aa ah hn hG;go_enter func46,ntmps46;go_wp2_with fail;rw[<-ai];clear ai o1 r1 c2;refine gt.mono ?_;rintro e w2 ⟨aj,lv,vs,rfl,fd⟩;obtain⟨la,lc,iR⟩:=yd fd.own;rw[zZ]at iR;subst iR;have aO:Hid (NxSt w (jD d 0 n) (.slice la n lc) vs w2):=h_ ⟨ar.trans (aj.mono ar.size),fd.base ar.size⟩;clear aj fd;go_wp2;have Ba:(area:Int)=(G 0:Int):=by rw[Bb.out];simp[genK]
 rw[Ba];have Kh:=h_ Ba;clear Ba;go_loopw [8,26] (λgv iv wr=>∃k:Nat,gv=.int .i64 (G k:Int)/\iv=.int .i64 k/\k<=n/\Hid (NxSt w (jD d 0 n) (.slice la n lc) vs wr)) (λ_ iv _=>n-(intOf iv).toNat)
 case atStart=>exact⟨0,rfl,rfl,aV_ _,aO⟩
 case round=>
  obtain⟨k,rfl,rfl,hk,HS⟩:=hrel;by_cases hlt:k<n
  ·have cr:(k:Int)<n:=by omega
   obtain⟨g,cap,e0,iR,aT,ao,Bc,Aq⟩:=xYk HS.sc k (by rw[zZ];exact hlt);have Tg:la=some ⟨g,0,none⟩:=by rw[zZ]at iR;injection iR
   subst Tg;have eJ:=vT e0 _ wr (HK.below HS.bel (aa_ _)) Aq ao Bc;have WZ:(jD d 0 n)[k]'(by rw[zZ];exact hlt)=d.vis k:=by simp[jD]
   rw[WZ]at eJ;have iJ:=h_ eJ;have pZ:G (k+1)=zR sha area (G k) (d.vis k):=by rw[Bb.out];exact xNa d area k
   have mn:=h_ pZ;have WE:(G k:Int)<=2147483649:=by have:=xWn d area ha k;rw[<-Bb.out]at this;omega
   have Z9:(0:Int)<=(G k:Int):=by omega
   clear iR eJ WZ pZ ao Aq;go_wp2_with fail;refine iJ.mono ?_;rintro e w3 ⟨al,ch⟩;have eS:Hid (NxSt w (jD d 0 n) (.slice (some ⟨g,0,none⟩) n lc) vs w3):=h_ ⟨HS.bel.trans (al.mono HS.bel.size),HS.sc.later al⟩;rcases ch with⟨p,vp,hp,rfl,ae,pt⟩|⟨r,bp,hr,rfl⟩
   ·obtain⟨vg,vn,vc,rfl⟩:∃g n c,vp=.slice (some ⟨g,0,none⟩) n c:=by
     rcases ae.at with⟨h,_⟩|⟨g,c,h,_⟩
     ·exact absurd h pt
     ·exact⟨g,_,c,h⟩
    have aD:=xD3 hp;have tw:(0:Int)<=p.gen:=aD.1.2.2.1;have du:p.gen<=2147483647:=aD.1.2.2.2.1;unfold zg;have bJ:xy 6 #[.int .i64 p.kind,.int .i64 p.gen,.int .i64 p.num,.int .i64 p.idx,.int .i64 p.cnt,.slice (some ⟨vg,0,none⟩) vn vc]=true:=by simp[xy,Value.oneCell']
    have aM:Below w3.heap.size w3 (w3.alloc (.cells #[.int .i64 p.kind,.int .i64 p.gen,.int .i64 p.num,.int .i64 p.idx,.int .i64 p.cnt,.slice (some ⟨vg,0,none⟩) vn vc] 167)):=(ab_ _ _).alloc (aa_ _) _;have di:Hid (NxSt w (jD d 0 n) (.slice (some ⟨g,0,none⟩) n lc) vs (w3.alloc (.cells #[.int .i64 p.kind,.int .i64 p.gen,.int .i64 p.num,.int .i64 p.idx,.int .i64 p.cnt,.slice (some ⟨vg,0,none⟩) vn vc] 167))):=h_ ⟨eS.bel.trans (aM.mono eS.bel.size),eS.sc.later aM⟩;have hk1:k+1<=n:=hlt;have cQ:=mn.out;unfold zR at cQ;rw[hp]at cQ;simp only at cQ;by_cases hge:(G k:Int)<=p.gen
    ·rw[if_pos hge]at cQ;obtain⟨q,hq⟩:∃q:Nat,q=p.gen.toNat:=⟨_,rfl⟩;have Hj:p.gen=(q:Int):=by omega
     rw[<-hq]at cQ;have hg1q:(q:Int)<=2147483647:=by omega
     have hgeq:(q:Int)>=(G k:Int):=by omega
     rw[Hj]at bJ di⊢;by_cases hpar:(q+1)%2≠area
     ·rw[if_pos hpar]at cQ;have rj:=h_ cQ;have hne:¬ (((q:Int)+1)%2=(G 0:Int)):=by have:=Kh.out;omega
      clear cQ aD hp ae pt al aM iJ hpar Hj hq hge tw du;go_wp2;go_roundw
      case rel=>exact⟨k+1,by rw[rj.out];go_num,by go_num,hk1,di⟩
      case measure=>simp[intOf];omega
     ·rw[if_neg hpar]at cQ;have rj:=h_ cQ;have hne:((q:Int)+1)%2=(G 0:Int):=by have:=Kh.out;omega
      clear cQ aD hp ae pt al aM iJ hpar Hj hq hge tw du;go_wp2;go_roundw
      case rel=>exact⟨k+1,by rw[rj.out];go_num,by go_num,hk1,di⟩
      case measure=>simp[intOf];omega
    ·rw[if_neg hge]at cQ;have hgeb:¬ p.gen>=(G k:Int):=hge;have rj:=h_ cQ;clear cQ aD hp ae pt al aM iJ;go_wp2;go_roundw
     case rel=>exact⟨k+1,by rw[rj.out],by go_num,hk1,di⟩
     case measure=>simp[intOf];omega
   ·have cQ:=mn.out;unfold zR at cQ;rw[bp]at cQ;simp only at cQ;have rj:=h_ cQ;have aV:(r==0)=false:=by rw[beq_eq_false_iff_ne];exact hr
    have aP:(r != 0)=true:=by rw[bne_iff_ne];exact hr
    have gw:=xCe;unfold zg;have aM:Below w3.heap.size w3 (w3.alloc (.cells uC 167)):=(ab_ _ _).alloc (aa_ _) _;have di:Hid (NxSt w (jD d 0 n) (.slice (some ⟨g,0,none⟩) n lc) vs (w3.alloc (.cells uC 167))):=h_ ⟨eS.bel.trans (aM.mono eS.bel.size),eS.sc.later aM⟩;unfold uC at di;have hk1:k+1<=n:=hlt;clear cQ bp hr aM iJ al;go_wp2;go_roundw
    case rel=>exact⟨k+1,by rw[rj.out],by go_num,hk1,di⟩
    case measure=>simp[intOf];omega
  ·obtain rfl:k=n:=by omega
   have lZ:(G k:Int)<=2147483647:=by have:=HG.out;omega
   have Th:=h_ HS.bel;go_wp2;go_ret2;exact⟨Th.out,rfl⟩
end
theorem xMs:∀(l:List By) (d:PD) (a:Nat) (b:By),d.Up->(d.puts a (l++[b])).1=((d.puts a l).1.write (a+l.length) b).1
 |[],d,a,b,h=>by simp[PD.puts,PD.write_up h]
 |c :: l,d,a,b,h=>by
  have h2:PD.Up { d with pend:=d.pend++[(a,c)] }:=h;have ih:=xMs l _ (a+1) b h2;simp only[aK_,PD.puts,PD.write_up h];rw[ih];have:a+1+l.length=a+(c :: l).length:=by simp only[av_];omega
  rw[this]
theorem xCr:∀(l:List By) (d:PD) (a:Nat),d.Up->(d.puts a l).1.pend.length=d.pend.length+l.length
 |[],d,a,h=>rfl
 |c :: l,d,a,h=>by
  have h2:PD.Up { d with pend:=d.pend++[(a,c)] }:=h;have ih:=xCr l _ (a+1) h2;simp only[PD.puts,PD.write_up h];rw[ih];simp only[af_,av_,bm_];omega
theorem xDx {H:By->By}{gen}(f num l):ux H gen (f+1) num l=match uH H l with
  |none=>[]
  |some (r,n)=>if l=[]then []else if r.gen=gen/\r.num=num then r :: ux H gen f (num+1) (l.drop n)else []:=rfl
theorem xMn {H:By->By}{gen}:∀(f:Nat) (num:Int) (L:List By),L.length<=f->ux H gen (f+1) num L=ux H gen f num L
 |0,num,L,h=>by
  have:L=[]:=bn_ (by omega);subst this;rfl
 |f+1,num,L,h=>by
  rw[xDx (f+1),xDx f];cases hj:uH H L with
  |none=>rfl
  |some x=>
   obtain⟨r,n⟩:=x;have:=xV0 hj;simp only;rw[xMn f (num+1) (L.drop n) (by rw[ao_];omega)]
structure EnAt (w:World)(B:Nat)(v:Value)(L:List By)(vs:List Value):Prop where
 own:w.ownsRow B 31 1 v L.length vs
 len:vs.length=L.length
 el:∀i (hi:i<L.length),OwnB w B (vs[i]'(by rw[len];exact hi)) L[i]/\vs[i]'(by rw[len];exact hi)≠.slice none 0 0/\∀k,(vs[i]'(by rw[len];exact hi)).ownBlock=some k->v.ownBlock≠some k
theorem EnAt.nil (w B):EnAt w B (.slice none 0 0) [] []:=⟨aP_ _ _ _ _,rfl,λi hi=>by cases hi⟩
theorem EnAt.later {w w' B v L vs}(h:EnAt w B v L vs)(hb:Below w.heap.size w w'):EnAt w' B v L vs:=
 ⟨dc_ (row:=none) h.own (zp hb none) (by cases v.ownBlock <;> simp),h.len,λi hi=>⟨(h.el i hi).1.below hb,(h.el i hi).2⟩⟩
theorem EnAt.base {w B B' v L vs}(h:EnAt w B v L vs)(hb:B'<=B):EnAt w B' v L vs:=
 ⟨⟨h.own.1,h.own.2.imp (λh=>h) λ⟨g,cap,cur,hv,hg,r⟩=>⟨g,cap,cur,hv,ad_ hb hg,r⟩⟩,h.len,λi hi=>⟨(h.el i hi).1.base hb,(h.el i hi).2⟩⟩
theorem vv {w w':World}{B t s n v xs}(h:w.ownsRow B t s v n xs)(hb:∀g,B<=g->g<w.heap.size->w'.heap[g]?=w.heap[g]?):w'.ownsRow B t s v n xs:=by
 refine⟨h.1,?_⟩;rcases h.2 with h0|⟨g,cap,cur,hv,hg,aq,r⟩
 ·exact .inl h0
 ·exact .inr ⟨g,cap,cur,hv,hg,(hb g hg (i_ aq).1).trans aq,r⟩
theorem EnAt.under {w w' B v L vs}(h:EnAt w B v L vs)(hb:∀g,B<=g->g<w.heap.size->w'.heap[g]?=w.heap[g]?):EnAt w' B v L vs:=
 ⟨vv h.own hb,h.len,λi hi=>⟨vv (h.el i hi).1 hb,(h.el i hi).2⟩⟩
theorem EnAt.app {w w' B v v' x L vs l}(h:EnAt w B v L vs)(ho:w'.ownsRow B 31 1 v' (L.length+1) (vs++[x]))(hg:w.grownBy w' v.ownBlock)
  (hx:OwnB w B x l/\x≠.slice none 0 0/\∀k,x.ownBlock=some k->v.ownBlock≠some k) (fB:∀k,v'.ownBlock=some k->v.ownBlock=some k\/w.heap.size<=k):EnAt w' B v' (L++[l]) (vs++[x]):=by
 have conv:∀y m,(OwnB w B y m/\y≠.slice none 0 0/\∀k,y.ownBlock=some k->v.ownBlock≠some k)->OwnB w' B y m/\y≠.slice none 0 0/\∀k,y.ownBlock=some k->v'.ownBlock≠some k:=λy m h=>by
  refine⟨h.1.grown hg (λk e e2=>h.2.2 k e2 e),h.2.1,λk e e2=>?_⟩;rcases fB k e2 with h1|h1
  ·exact h.2.2 k e h1
  ·have:=(h.1.lt e).2;omega
 refine⟨by simpa using ho,by simp[h.len],λi hi=>?_⟩;by_cases hlt:i<L.length
 ·have e1:(L++[l])[i]=L[i]:=ci_ hlt;have e2:(vs++[x])[i]'(by simp[h.len];omega)=vs[i]'(by rw[h.len];exact hlt):=ci_ _;rw[e1,e2];exact conv _ _ (h.el i hlt)
 ·have hi2:i=L.length:=by simp at hi;omega
  subst hi2;have e1:(L++[l])[L.length]'(by simp)=l:=by simp
  have e2:(vs++[x])[L.length]'(by simp[h.len])=x:=by simp[<-h.len]
  rw[e1,e2];exact conv _ _ hx
theorem EnAt.get {w B v L vs}(h:EnAt w B v L vs)(i)(hi:i<L.length):∃g cap e ecap,v=.slice (some ⟨g,0,none⟩) L.length cap/\w.cell? ⟨g,i,none⟩=some (.slice (some ⟨e,0,none⟩) L[i].length ecap)/\B<=e/\e<w.heap.size/\L[i].length<=ecap/\SlB w ⟨e,0,none⟩ L[i]/\OwnB w B (.slice (some ⟨e,0,none⟩) L[i].length ecap) L[i]:=by
 obtain⟨h1,h2,_⟩:=h.el i hi;have CB:=h1;rcases h1.at with⟨h0,_⟩|⟨e,ecap,hx,he,hl,_,hs⟩
 ·exact absurd h0 h2
 ·rcases h.own.2 with⟨_,h0⟩|⟨g,cap,cur,hv,hg,aq,hle,dC,aJ,eG⟩
  ·omega
  ·subst hv;have hc:=cM_ h.own i (by omega);rw[ak_ (by rw[h.len];exact hi),hx]at hc;rw[hx]at CB;exact⟨g,cap,e,ecap,rfl,hc,he,(CB.lt rfl).2,hl,hs,CB⟩
section
attribute [local go_sem ↓] vx qQ uh zI
attribute [local go_sem] xGa xG0 xAa xA6 zn zu yx yw xh xf xa x9 xu xv xk xj
theorem xO1 {B w v d}(h:yu B w v d)(s)(hs:s<d.n)(hu:d.Up)(ci:d.pend.length<1000000)(a b c)(hb:b.length=256)(cu:SlB w a b)(ha:a.block≠v.p)(hB:B<=w.heap.size):
  Calls prog 110 #[.pointer (some ⟨v.p,0,none⟩),.int .i64 s,.slice (some a) 256 c] w λe w'=>e=.returned (.int .i64 0)/\Kept v.foot w w'/\∃v',v'.p=v.p/\v'.M=v.M/\yu B w' v' (d.write s b).1/\∀k∈v'.foot,k∈v.foot\/w.heap.size<=k:=
 (xX7 h s hs hu.1 ci a b c hb cu ha hB).mono λe w' ⟨h1,h2,h3⟩=>⟨by rw[h1,PD.write_up hu];rfl,h2,h3⟩
theorem xE8 {w B v L vs}(h:ScAt w B v L vs)(k)(hk:k<L.length):∃g cap e,v=.slice (some ⟨g,0,none⟩) L.length cap/\w.cell? ⟨g,k,none⟩=some (.slice (some ⟨e,0,none⟩) 256 256)/\L[k].length=256/\B<=e/\e<w.heap.size/\SlB w ⟨e,0,none⟩ L[k]:=by
 obtain⟨g,cap,hv,_,_,_,_,hc⟩:=h.at (λe=>by rw[e]at hk;cases hk)
 obtain⟨e,he,h2,h3,h4,_,h6⟩:=h.el k hk;refine⟨g,cap,e,hv,?_,h2,h3,h4,h6⟩;rw[hc k hk,he]
structure PuSt (D:Nat)(w w2:World)(v:Dev)(d:PD)(at_:Nat)(L:List By)(k:Nat)(W:World):Prop where
 kept:Kept v.foot w W
 mid:∀g,w.heap.size<=g->g<w2.heap.size->W.heap[g]?=w2.heap[g]?
 sz:w2.heap.size<=W.heap.size
 at':∃v',v'.p=v.p/\v'.M=v.M/\yu D W v' (d.puts at_ (L.take k)).1/\∀j∈v'.foot,j∈v.foot\/w2.heap.size<=j
def xFu (D:Nat)(v:Dev)(d:PD)(at_:Nat)(r:PRec)(w:World)(e:Ending)(w':World):Prop:=
 e=.returned (.tuple #[.int .i64 (xO r.pay.length:Nat),.int .i64 0])/\Kept v.foot w w'/\∃v',v'.p=v.p/\v'.M=v.M/\yu D w' v' (d.puts at_ (yk sha r)).1/\∀k∈v'.foot,k∈v.foot\/w.heap.size<=k
theorem xS5 {D w v d}(h:yu D w v d)(hu:d.Up)(hK:qU w)(at_ r)(aD:r.Ok)(a cap)(hl:r.pay.length<=cap)(hs:SlB w a r.pay)(ha:a.block<w.heap.size)(bM:at_+xO r.pay.length<=d.n)(ci:d.pend.length+xO r.pay.length<=1000000)(hD:D<=w.heap.size):
  Calls prog 74 #[.agg (xE v.p d.n),.int .i64 at_,.agg (y9 r.kind r.gen r.num (.slice (some a) r.pay.length cap)).toArray] w (xFu D v d at_ r w):=by
 obtain⟨w1,ai⟩:∃w1,w1=(w.alloc (.cells (xE v.p d.n) 113)).alloc (.cells (y9 r.kind r.gen r.num (.slice (some a) r.pay.length cap)).toArray 172):=⟨_,rfl⟩;have aa:Below w.heap.size w w1:=by rw[ai];exact((ab_ _ _).alloc (aa_ _) _).alloc (by simp) _
 have aK:w1.heap.size=w.heap.size+2:=by rw[ai];simp
 have h0:w1.heap[w.heap.size]?=some (.cells (xE v.p d.n) 113 (0,0)):=by
  rw[ai,heap_alloc_old _ _ (by simp),heap_alloc_new]
 have h1:w1.heap[w.heap.size+1]?=some (.cells (y9 r.kind r.gen r.num (.slice (some a) r.pay.length cap)).toArray 172 (0,0)):=by
  have:=heap_alloc_new (w.alloc (.cells (xE v.p d.n) 113)) (.cells (y9 r.kind r.gen r.num (.slice (some a) r.pay.length cap)).toArray 172);rw[al_]at this;rw[ai,this]
 have ll:SlB w1 a r.pay:=⟨λj c hj=>(aa.cell (by rw[ya];exact ha)).trans (hs.cell j c hj)⟩;have DE:=h_ (xU9 r aD a cap w1 (hK.below aa (aa_ _)) hl ll (by rw[aK];omega));obtain⟨o1,r1⟩:=xD (n:=4) h1 rfl;have bJ:=h.foot_lt;have ar:=h_ aa;have HD:=h_ h;have HU:=h_ hu;have bW:=h_ aK;have H0:=h_ h0;have sK:=h_ bJ;have aA:=h.n2;obtain⟨L,hL⟩:∃L,L=yk sha r:=⟨_,rfl⟩;have CM:L.length=xO r.pay.length:=by rw[hL];exact zx sha r
 obtain⟨m,hm⟩:∃m,m=xO r.pay.length:=⟨_,rfl⟩;obtain⟨q,hq⟩:∃q,q=r.pay.length:=⟨_,rfl⟩;obtain⟨n,hn⟩:∃n,n=d.n:=⟨_,rfl⟩;have fN:Hid (∀e w' w2,w.heap.size<=w2.heap.size->e=.returned (.tuple #[.int .i64 (m:Nat),.int .i64 0])->PuSt D w w2 v d at_ L m w'->xFu D v d at_ r w e w'):=h_ (λe w' w2 aw he ax=>by
  obtain⟨v',p1,p2,p3,p4⟩:=ax.at';refine⟨by rw[he,hm],ax.kept,v',p1,p2,?_,λk hk=>?_⟩
  ·rw[ar_ (by rw[CM,hm];exact aa_ _),hL]at p3;exact p3
  ·rcases p4 k hk with h|h
   ·exact .inl h
   ·exact .inr (by omega))
 rw[<-hL]at DE;rw[<-hm]at CM bM ci;rw[<-hn]at bM aA ai H0⊢;rw[<-hq]at ai r1⊢;have Hk:=DE;clear DE;rw[<-hq]at Hk;have dw:=h_ CM;have mf:=h_ ci;have HN:=h_ hn;have gw:(at_:Int)+m<=4096:=by omega
 have DF:=h_ bM;unfold xE at ai⊢;unfold y9 at ai r1 Hk⊢;rw[ai]at o1 r1;clear h hu aa aK h0 h1 hs hK ll aD bJ aA hL CM hm hq hn bM ci hl;go_enter func74,ntmps74;go_wp2_with fail;rw[<-ai];clear ai o1 r1;refine Hk.mono ?_;rintro e w2 ⟨lv,vs,rfl,fd,aj⟩;obtain⟨la,lc,iR⟩:=yd fd.own;rw[dw.out]at iR;have n5:Below w.heap.size w w2:=ar.trans (aj.mono ar.size);have ia:w.heap.size+2<=w2.heap.size:=by have:=aj.size;have:=bW.out;omega
 have oE:w2.heap[w.heap.size]?=some (.cells (xE v.p n) 113 (0,0)):=(aj.block _ (by have:=bW.out;omega)).trans H0.out;have aO:Hid (PuSt D w w2 v d at_ L 0 w2):=h_ ⟨Kept.of_below (F:=v.foot) n5,λ_ _ _=>rfl,aa_ _,v,rfl,rfl,HD.below n5,λj hj=>.inl hj⟩;have pu:=h_ fd;have eU:=h_ oE;have tz:=h_ ia;have Dy:(m:Int)<=1000000:=by have:=mf.out;omega
 have Kf:=h_ iR;subst iR;clear fd aj n5 oE ia;go_wp2;go_loopw [23] (λu wr=>∃k:Nat,u=.int .i64 k/\k<=m/\Hid (PuSt D w w2 v d at_ L k wr)) (λu _=>m-(intOf u).toNat)
 case atStart=>exact⟨0,rfl,aV_ _,aO⟩
 case round=>
  obtain⟨k,rfl,hk,HS⟩:=hrel;by_cases hlt:k<m
  ·have cr:(k:Int)<m:=by omega
   have rq:=HS.mid;have MK:ScAt wr w1.heap.size (.slice la m lc) L vs:=pu.under HS.sz λg hg hg2=>rq g (by have:=bW.out;omega) hg2
   obtain⟨g,cap',e,hv,hce,eK,QP,hes,cZ⟩:=xE8 MK k (by rw[dw.out];exact hlt);have Tg:la=some ⟨g,0,none⟩:=by rw[dw.out]at hv;injection hv
   subst Tg;have Hl:=(rq w.heap.size (aa_ _) (by have:=tz.out;omega)).trans eU.out;have c0:=cell_of_row wr w.heap.size 0 _ _ _ Hl;have c1:=cell_of_row wr w.heap.size 1 _ _ _ Hl;unfold xE at c0 c1;simp only[ah_,ay_,aC_]at c0 c1;obtain⟨v1,lR,CN,bg,gK⟩:=HS.at';obtain⟨_,dB,iB,_⟩:=PD.puts_up (L.take k) d at_ HU.out;have hpl:=xCr (L.take k) d at_ HU.out;have ct:(L.take k).length=k:=by rw[ai_,dw.out];omega
   rw[ct]at hpl;have mz:=xMs (L.take k) d at_ (L[k]'(by rw[dw.out];exact hlt)) HU.out;rw[ct,<-am_ (by rw[dw.out];exact hlt)]at mz;have fJ:=xO1 bg (at_+k) (by rw[iB,<-HN.out];have:=DF.out;omega) dB (by rw[hpl];have:=mf.out;omega) ⟨e,0,none⟩ _ 256 eK cZ (by rw[lR];show e≠v.p;have:=(sK.out v.p v.p_foot).2;have:=bW.out;omega) (ad_ hD (by have:=HS.sz;have:=tz.out;omega));rw[lR,<-mz]at fJ;obtain⟨s,hs⟩:∃s,s=at_+k:=⟨_,rfl⟩;rw[<-hs]at fJ;have aI:(at_:Int)+(k:Int)=(s:Int):=by omega
   have sL:=h_ fJ;have DG:=h_ gK;have sM:=h_ (And.intro lR CN);have C9:(k:Int)<=1000000:=by omega
   have hakz:(at_:Int)+k<=4096:=by omega
   clear hs rq MK hv eK cZ Hl bg gK dB iB hpl ct mz fJ lR CN;go_wp2_with fail;refine sL.mono ?_;rintro e3 w3 ⟨rfl,ef,v2,ey,i4,bE,dP⟩;have bQ:Hid (PuSt D w w2 v d at_ L (k+1) w3):=h_ ⟨HS.kept.trans ef (λj hj=>by
     rcases DG.out j hj with h|h
     ·exact .inl h
     ·exact .inr (by have:=tz.out;omega)),λg hg hg2=>(ef.block g (ap_ hg2 HS.sz) (λhm=>by
     rcases DG.out g hm with h|h
     ·have:=(sK.out g h).2;omega
     ·omega)).trans (HS.mid g hg hg2),ad_ HS.sz ef.size,v2,ey,i4.trans sM.2,bE,λj hj=>by
     rcases dP j hj with h|h
     ·exact DG.out j h
     ·exact .inr (ad_ HS.sz h)⟩
   have hk1:k+1<=m:=hlt;clear ef ey i4 bE dP sL c0 c1 hce QP hes;go_wp2;go_roundw
   case rel=>exact⟨k+1,by go_num,hk1,bQ⟩
   case measure=>simp[intOf];omega
  ·obtain rfl:k=m:=by omega
   go_wp2;go_ret2;exact fN.out _ _ w2 (by have:=tz.out;omega) rfl HS.out
end
structure ByS (w:World)(v:Value)(l:By)(W:World):Prop where
 bel:Below w.heap.size w W
 own:OwnB W w.heap.size v l
theorem ByS.app {w W W1 W2 v v' l r}(h:ByS w v l W)(hb:Below W.heap.size W W1)(ho:OwnB W2 w.heap.size v' (l++r))(hg:W1.grownBy W2 v.ownBlock):ByS w v' (l++r) W2:=
 ⟨(h.bel.trans (hb.mono h.bel.size)).grown hg (by have:=h.bel.size;have:=hb.size;omega) (λk e=>(h.own.lt e).1),ho⟩
theorem xLr (f c)(hf:f<=4611686018427387904)(hc:c<=4611686018427387904)(g cap w)(h0:w.cell? ⟨g,0,none⟩=some (.int .i64 f))(h1:w.cell? ⟨g,1,none⟩=some (.int .i64 c))(hg:g<w.heap.size):
  Calls prog 73 #[.slice (some ⟨g,0,none⟩) 2 cap] w λe w'=>Below w.heap.size w w'/\∃v,e=.returned v/\OwnB w' w.heap.size v (beB 8 f++beB 8 c):=by
 obtain⟨L,hL⟩:∃L,L=beB 8 f++beB 8 c:=⟨_,rfl⟩;have CM:L.length=16:=by rw[hL];simp[xe]
 obtain⟨nk,QQ⟩:∃nk:Nat->Nat,nk=λk=>if k=0 then f else c:=⟨_,rfl⟩
 have bU:∀k j (hk:k<2) (hj:j<8),L[8*k+j]?=some (UInt8.ofNat (nk k/256 ^ (7-j))):=by
  intro k j hk hj;rw[ak_ (by omega)];congr 1;subst hL QQ;rcases (show k=0\/k=1 by omega)with rfl|rfl
  ·have:=vV 8 f j hj;simp only[Nat.mul_zero,aq_,if_true];rw[ci_ (by rw[xe];omega),this]
  ·have:=vV 8 c j hj;rw[cS_ (by rw[xe];omega)];simp only[xe,bz_,Nat.add_sub_cancel_left];rw[this];simp
 have aE:∀k,k<2->w.cell? ⟨g,k,none⟩=some (.int .i64 (nk k)):=by
  intro k hk;subst QQ;rcases (show k=0\/k=1 by omega)with rfl|rfl
  ·simpa using h0
  ·simpa using h1
 have MM:∀k,nk k<=4611686018427387904:=by
  intro k;subst QQ;show (if k=0 then f else c)<=_
  split <;> assumption
 rw[<-hL];have HL:=h_ CM;have Ti:=h_ bU;have MN:=h_ aE;have Tj:=h_ MM;have HG:=h_ hg;have aO:Hid (ByS w (.slice none 0 0) (L.take (8*0)) w):=h_ ⟨ab_ _ _,by simpa using OwnB.nil w w.heap.size⟩;clear hL CM QQ bU aE MM hf hc h0 h1 hg;go_enter func73,ntmps73;go_wp2;go_loopw [9,3] (λu bv wr=>∃k:Nat,u=.int .i64 k/\k<=2/\Hid (ByS w bv (L.take (8*k)) wr)) (λu _ _=>2-(intOf u).toNat)
 case atStart=>exact⟨0,rfl,by omega,aO⟩
 case round=>
  obtain⟨k,rfl,hk,HS⟩:=hrel;by_cases hlt:k<2
  ·have cr:(k:Int)<2:=by omega
   have W_:=(HS.bel.cell (p:=⟨g,k,none⟩) HG.out).trans (MN.out k hlt);obtain⟨nv,Tk⟩:∃nv,nv=nk k:=⟨_,rfl⟩;rw[<-Tk]at W_;have Xc:=h_ Tk;clear Tk;go_wp2;clear W_;go_loopw [6,3] (λi b2v Tl=>∃j:Nat,i=.int .i64 (7-(j:Int))/\j<=8/\Hid (ByS w b2v (L.take (8*k+j)) Tl)) (λi _ _=>(intOf i+1).toNat)
   case atStart=>exact⟨0,rfl,by omega,HS⟩
   case round=>
    obtain⟨j,rfl,hj,cF⟩:=hrel;by_cases hlt2:j<8
    ·obtain⟨i,hi⟩:∃i:Nat,i=7-j:=⟨_,rfl⟩;have hi2:(7:Int)-j=(i:Int):=by omega
     rw[hi2];have hx:=vd nv i;have hge:=Ti.out k j hlt hlt2;rw[<-Xc.out,<-hi]at hge;generalize be:UInt8.ofNat (nv/256 ^ i)=b at hx hge;have mz:L.take (8*k+j)++[b]=L.take (8*k+(j+1)):=by
      rw[<-Nat.add_assoc,List.take_add_one,hge];rfl
     have b1:(0:Int)<=8*(i:Int):=by omega
     have b2:8*(i:Int)<=64:=by omega
     have b3:(nv:Int)<=4611686018427387904:=by have:=Tj.out k;rw[<-Xc.out]at this;omega
     have b9:Below wr.heap.size wr (wr.alloc (.cells #[.int .u8 b.toNat] 5)):=(ab_ _ _).alloc (aa_ _) _;have cd:OwnB (wr.alloc (.cells #[.int .u8 b.toNat] 5)) w.heap.size u3 (L.take (8*k+j)):=cF.own.below b9;have aK:SlB (wr.alloc (.cells #[.int .u8 b.toNat] 5)) ⟨wr.heap.size,0,none⟩ [b]:=vi wr 5 [b];have bj:∀v' W2,OwnB W2 w.heap.size v' (L.take (8*k+j)++[b])->(wr.alloc (.cells #[.int .u8 b.toNat] 5)).grownBy W2 u3.ownBlock->ByS w v' (L.take (8*k+(j+1))) W2:=λv' W2 ho hg=>by
      have:=cF.app b9 ho hg;rw[mz]at this;exact this
     have aI:w.heap.size<=(wr.alloc (.cells #[.int .u8 b.toNat] 5)).heap.size:=by have:=cF.bel.size;simp;omega
     have gW:(L.take (8*k+j)).length+[b].length<=1000000000000:=by rw[ai_,HL.out];simp;omega
     rw[hx]at cd aK bj aI;have ew:=h_ cd;have bW:=h_ aK;have ed:=h_ bj;have eX:=h_ aI;have dw:=h_ gW;have HI:=h_ hi;clear hi hx hge be mz b9 cd aK bj aI gW hi2;go_wp2_with (at_builtin;refine zE rfl (.tmp 17) (.tmp 23) rfl w.heap.size _ (L.take (8*k+j)) rfl ew.out ⟨wr.heap.size,0,none⟩ [b] 1 rfl bW.out dw.out eX.out ?_);intro v' w' ho hg2 _;have HN:=h_ (ed.out v' w' ho hg2);have mo:(i:Int)-1=7-((j+1:Nat):Int):=by have:=HI.out;omega
     have mL:=h_ mo;have QR:(i:Int)<=7:=by have:=HI.out;omega
     clear ho hg2 mo;go_wp2;go_roundw
     case rel=>exact⟨j+1,by rw[<-mL.out],by omega,HN⟩
     case measure=>simp[intOf]
    ·obtain rfl:j=8:=by omega
     have hk1:k+1<=2:=hlt;have HN:Hid (ByS w u3 (L.take (8*(k+1))) wr):=cF;have hi2:(7:Int)-(8:Nat)=-1:=by omega
     rw[hi2];go_wp2;go_roundw
     case rel=>exact⟨k+1,by go_num,hk1,HN⟩
     case measure=>simp[intOf];omega
  ·obtain rfl:k=2:=by omega
   have HF:Hid (ByS w u3 L wr):=by
    have:=HS.out;rw[ar_ (by rw[HL.out];omega)]at this;exact h_ this
   go_wp2;go_ret;exact⟨HF.bel,_,rfl,HF.own⟩
theorem xOt (n c:Nat)(hn:n<72057594037927936)(hc:c<256):bits .or .u64 ((n:Int)*256) (c:Int)=((n*256+c:Nat):Int):=by
 have hx:n*256 ||| c=n*256+c:=by
  have:=dK_ (i:=8) (b:=c) (by omega) n;rw[show (2:Nat) ^ 8*n=n*256 by omega]at this;exact this.symm
 have h1:(BitVec.ofInt 64 ((n:Int)*256)).toNat=n*256:=by
  rw[show (n:Int)*256=((n*256:Nat):Int) by omega,cN_,dd_];exact cA_ (by omega)
 have h2:(BitVec.ofInt 64 (c:Int)).toNat=c:=by
  rw[cN_,dd_];exact cA_ (by omega)
 show IntKind.u64.wrap ((BitVec.ofInt 64 ((n:Int)*256) ||| BitVec.ofInt 64 (c:Int)).toNat:Int)=_
 rw[BitVec.toNat_or,h1,h2,hx];exact IntWalk.u64_in _ (by omega)
theorem xQ2 (l)(h:l.length<=7):deB l<72057594037927936:=by
 have h1:=xQ3 l;have h2:256 ^ l.length<=256 ^ 7:=dw_ (by decide) h;have h3:(256:Nat) ^ 7=72057594037927936:=by decide
 omega
theorem xWr (l)(h:l.length<=8):deB l<18446744073709551616:=by
 have h1:=xQ3 l;have h2:256 ^ l.length<=256 ^ 8:=dw_ (by decide) h;have h3:(256:Nat) ^ 8=18446744073709551616:=by decide
 omega
def yDy (o:Option (Nat×Nat)):Value:=match o with
 |some x=>.tuple #[.int .i64 x.1,.int .i64 x.2,.bool true]
 |none=>.tuple #[.int .i64 0,.int .i64 0,.bool false]
structure HnSt (w:World)(x y:Nat)(W:World):Prop where
 bel:Below w.heap.size w W
 row:W.heap[w.heap.size]?=some (.cells #[.int .u64 x,.int .u64 y] 280 (0,0))
theorem HnSt.set0 {w x y W}(s:HnSt w x y W)(z):HnSt w z y (W.setCell ⟨w.heap.size,0,none⟩ (.int .u64 z)):=
 ⟨s.bel.setCell (p:=⟨w.heap.size,0,none⟩) (aa_ _) _,by rw[heap_setCell_same W w.heap.size 0 _ _ _ s.row];rfl⟩
theorem HnSt.set1 {w x y W}(s:HnSt w x y W)(z):HnSt w x z (W.setCell ⟨w.heap.size,1,none⟩ (.int .u64 z)):=
 ⟨s.bel.setCell (p:=⟨w.heap.size,1,none⟩) (aa_ _) _,by rw[heap_setCell_same W w.heap.size 1 _ _ _ s.row];rfl⟩
theorem xI2 (l a cap w)(hs:SlB w a l)(ha:a.block<w.heap.size)(hl:l.length<=cap)(hb:l.length<=maxLen):
  Calls prog 112 #[.slice (some a) l.length cap] w λe w'=>Below w.heap.size w w'/\e=.returned (yDy (kU l)):=by
 obtain⟨n,hn⟩:∃n,n=l.length:=⟨_,rfl⟩;have HN:=h_ hn;have HS:=h_ hs;rw[<-hn]at hl hb⊢;unfold maxLen at hb;have bz:(n:Int)<=9223372036854775807:=by omega
 clear hs hn;go_enter func112,ntmps112;by_cases h16:n=16
 ·subst h16;have aO:Hid (HnSt w (deB (l.take (min 0 8))) (deB ((l.take 0).drop 8)) (w.alloc (.cells #[.int .u64 0,.int .u64 0] 280))):=h_ ⟨(ab_ _ _).alloc (aa_ _) _,by rw[heap_alloc_new];simp[deB]⟩;go_wp2;go_loopw [13] (λu wr=>∃k:Nat,u=.int .i64 k/\k<=16/\Hid (HnSt w (deB (l.take (min k 8))) (deB ((l.take k).drop 8)) wr)) (λu _=>16-(intOf u).toNat)
  case atStart=>exact⟨0,rfl,by omega,aO⟩
  case round=>
   obtain⟨k,rfl,hk,HH⟩:=hrel;by_cases hlt:k<16
   ·have cr:(k:Int)<16:=by omega
    have ct:k<l.length:=by rw[<-HN.out];exact hlt
    have c4:=(HH.bel.cell (p:=a.add k) (by rw[ya];exact ha)).trans (HS.cell k _ (ak_ ct));obtain⟨b,CA⟩:∃b,b=l[k]:=⟨_,rfl⟩;rw[<-CA]at c4;have sr:=b.toNat_lt;have c0:=cell_of_row wr w.heap.size 0 _ _ _ HH.row;have c1:=cell_of_row wr w.heap.size 1 _ _ _ HH.row;have f0:=frozen_of_row wr w.heap.size 0 _ _ HH.row;have f1:=frozen_of_row wr w.heap.size 1 _ _ HH.row;simp only[v_]at c0 c1;obtain⟨x,hx⟩:∃x,x=deB (l.take (min k 8)):=⟨_,rfl⟩;obtain⟨y,hy⟩:∃y,y=deB ((l.take k).drop 8):=⟨_,rfl⟩;rw[<-hx]at c0;rw[<-hy]at c1;have MO:k+1<=16:=hlt;by_cases h8:k<8
    ·have hq:(k:Int)/8=0:=by omega
     have sN:x<72057594037927936:=by rw[hx];exact xQ2 _ (by rw[ai_];omega)
     have C_:=xOt x b.toNat sN (by omega);have Tm:(x:Int)<72057594037927936:=by omega
     have bj:x*256+b.toNat=deB (l.take (min (k+1) 8)):=by
      rw[hx,CA,show min k 8=k by omega,show min (k+1) 8=k+1 by omega,am_ ct,xAl]
     have Ki:deB ((l.take (k+1)).drop 8)=deB ((l.take k).drop 8):=by
      rw[aO_ (by rw[ai_];omega),aO_ (by rw[ai_];omega)]
     have dx:=HH.set0 (x*256+b.toNat);rw[<-hy]at dx Ki;have fQ:=h_ dx;have ed:=h_ bj;have Tn:=h_ Ki;clear dx bj Ki hx hy CA sN ct;go_wp2;go_roundw
     case rel=>exact⟨k+1,by go_num,MO,by rw[<-ed.out,Tn.out];exact fQ⟩
     case measure=>simp[intOf];omega
    ·have hq:(k:Int)/8=1:=by omega
     have DH:y<72057594037927936:=by rw[hy];exact xQ2 _ (by rw[ao_,ai_];omega)
     have C_:=xOt y b.toNat DH (by omega);have To:(y:Int)<72057594037927936:=by omega
     have Ki:y*256+b.toNat=deB ((l.take (k+1)).drop 8):=by
      rw[hy,CA,am_ ct,bE_,ai_,show 8-min k l.length=0 by omega,dQ_,xAl]
     have bj:deB (l.take (min (k+1) 8))=x:=by rw[hx,show min k 8=8 by omega,show min (k+1) 8=8 by omega]
     have dx:=HH.set1 (y*256+b.toNat);rw[<-hx]at dx;have fQ:=h_ dx;have ed:=h_ bj;have Tn:=h_ Ki;clear dx bj Ki hx hy CA DH ct;go_wp2;go_roundw
     case rel=>exact⟨k+1,by go_num,MO,by rw[<-Tn.out,ed.out];exact fQ⟩
     case measure=>simp[intOf];omega
   ·obtain rfl:k=16:=by omega
    have ah:=HH.row;rw[show min 16 8=8 from rfl,ar_ (show l.length<=16 by rw[<-HN.out];exact aa_ _)]at ah;have c0:=cell_of_row wr w.heap.size 0 _ _ _ ah;have c1:=cell_of_row wr w.heap.size 1 _ _ _ ah;simp only[v_]at c0 c1;obtain⟨x,hx⟩:∃x,x=deB (l.take 8):=⟨_,rfl⟩;obtain⟨y,hy⟩:∃y,y=deB (l.drop 8):=⟨_,rfl⟩;rw[<-hx]at c0;rw[<-hy]at c1;have sN:x<18446744073709551616:=by rw[hx];exact xWr _ (by rw[ai_];omega)
    have DH:y<18446744073709551616:=by rw[hy];exact xWr _ (by rw[ao_,<-HN.out];omega)
    have EH:kU l=if x<=2147483647/\y<=2147483647 then some (x,y)else none:=by
     unfold kU;rw[<-hx,<-hy];simp[<-HN.out]
    have Tp:=h_ EH;have HB:=h_ HH.bel;clear ah hx hy EH;by_cases hxl:x<=2147483647
    ·have Tm:(x:Int)<=2147483647:=by omega
     by_cases hyl:y<=2147483647
     ·have To:(y:Int)<=2147483647:=by omega
      go_upto_region 11 with fail
      go_quiet (fail);have au:=h_ (xS HB.out nq);go_wp2;go_ret3;exact⟨au.out,by rw[Tp.out,if_pos ⟨hxl,hyl⟩];rfl⟩
     ·have To:¬ (y:Int)<=2147483647:=by omega
      go_wp2;go_ret3;exact⟨HB.out,by rw[Tp.out,if_neg (λh=>hyl h.2)];rfl⟩
    ·have Tm:¬ (x:Int)<=2147483647:=by omega
     go_wp2;go_ret3;exact⟨HB.out,by rw[Tp.out,if_neg (λh=>hxl h.1)];rfl⟩
 ·have hne:¬ (n:Int)=16:=by omega
  have EH:kU l=none:=by unfold kU;rw[if_neg];rw[<-HN.out];exact λh=>h16 h.1
  rw[EH];go_wp2;go_ret3;exact⟨ab_ _ _,rfl⟩
end Go.Proofs.YtegfbhdkenkkdaaGreatDoor
namespace Go.Proofs.YtegfbhdkenkkdaaGreatDoor
open Go Go.RowKit
section
variable {P:Program} {ops:Array Oper} {C:World->Prop} {Q:Exit->Act->World->Prop}
def vb (n:Nat)(S:List Nat):Array Bool:=((List.range n).map λi=>S.contains i).toArray
theorem vr (n:Nat)(S:List Nat):(vb n S).size=n:=by simp[vb]
theorem xD2 (n:Nat)(S:List Nat)(i:Nat)(h':i<(vb n S).size):(vb n S)[i]=S.contains i:=by simp[vb]
theorem qt (n:Nat)(S:List Nat)(i:Nat)(h:i<n)(b:Bool):(vb n S).getD i b=S.contains i:=by
 have h':i<(vb n S).size:=by rw[vr];exact h
 simp[h',xD2 n S i h']
theorem xVg {n:Nat}{S:List Nat}{i:Nat}(h:(vb n S).getD i false=true):i<n/\i∈S:=by
 rcases bi_ i n with hi|hi
 ·rw[qt n S i hi]at h;exact⟨hi,by simpa using h⟩
 ·simp[cE_ (by rw[vr];exact hi:(vb n S).size<=i)]at h
def QS (fin:Act->World->Prop)(Q:Exit->Act->World->Prop):Exit->Act->World->Prop
 |.normal,a,w=>fin a w
 |e,a,w=>Q e a w
theorem xVy {fin:Act->World->Prop}{i:Nat}{K:Act->World->Prop}{a:Act}{w:World}(h:wpOp P ops (NoPanic (QS fin Q)) i K a w):wpOp P ops (NoPanic Q) i K a w:=by
 have hl:LetsOut (NoPanic (QS fin Q))->LetsOut (NoPanic Q):=λ⟨a,w,h⟩=>⟨a,w,h⟩
 unfold wpOp at *;cases ho:ops[i]? with
 |none=>simp only[ho]at h⊢;exact h
 |some o=>
  simp only[ho]at h⊢;split
  ·rename_i hw;rw[if_pos hw]at h;rcases h with h|⟨h1,h2⟩
   ·refine .inl ?_;unfold Oper.wp at *;generalize (execOp a.eval o).run P w=r at *;cases r with
    |ok n w'=>
     cases n <;> simp only[Oper.upon]at h⊢<;> exact h
    |halt x w'=>cases x <;> simp only[Oper.upon]at h⊢<;> first|exact h|exact hl h
   ·exact .inr ⟨h1,hl h2⟩
  ·rename_i hw;rw[if_neg hw]at h;exact h
def ancD (ops:Array Oper)(D:List Nat):Nat->Nat->Nat->Bool
 |0,_,_=>false
 |f+1,r,e=>match ops[r]? with
  |some o=>o.after.any λx=>Region.binds .any x&&!D.contains x.on&&(x.on==e||ancD ops D f x.on e)
  |none=>false
theorem xNr {D:List Nat}:∀{f r e:Nat},ancD ops D f r e=true->ancB ops f r e=true
 |0,_,_,h=>by simp[ancD]at h
 |f+1,r,e,h=>by
  unfold ancD at h;unfold ancB;split at h
  ·rename_i o ho;simp only[ho];obtain⟨x,hx,hb⟩:=cF_.1 h;refine cF_.2 ⟨x,hx,?_⟩;simp only[aA_,bI_]at hb⊢;exact⟨hb.1.1,hb.2.imp id xNr⟩
  ·cases h
def xC9 (ops:Array Oper)(D E:List Nat)(r:Nat):Bool:=!(E.all λe=>ancD ops D ops.size r e)
def wpN (P:Program)(ops:Array Oper)(Q:Exit->Act->World->Prop)(C:World->Prop)(D E:List Nat):List Nat->Act->World->Prop
 |[],a,w=>Q .normal a w
 |r :: rest,a,w=>wpOp P ops (NoPanic Q) r (λa' w'=>(xC9 ops D E r=true->C w')/\wpN P ops Q C D E rest a' w') a w
def Zd (P:Program)(ops:Array Oper)(Q:Exit->Act->World->Prop)(C:World->Prop)(D E:List Nat)(ph:Bool)(w:World)(R:List Nat)(a:Act):Prop:=
 if ph=true then wpN P ops Q C D E R a w else ∀w',C w'->wpN P ops Q C D E R a w'
def yDw (ops:Array Oper)(D E R:List Nat)(i:Nat):Bool:=match ops[i]? with
 |some o=>o.after.any λx=>Region.binds .any x&&(R.getLast?==some x.on||!(D++E++R).contains x.on)
 |none=>false
def xFz (ops:Array Oper)(D E R:List Nat):Bool:=
 Region.noSelect ops&&decide ((D++E++R).Nodup)&&((List.range ops.size).all λi=>D.contains i||E.contains i||R.contains i||yDw ops D E R i)
 && E.all (uR ops (D++E))&&xBi (λy e=>!Region.waitsFor .any ops y e&&xAd ops y e) E
 && R.all (uR ops (D++E++R))&&xBi (λr s=>!Region.waitsFor .any ops r s) R&&kz ops R
 && (R.all λr=>E.all λy=>xAd ops y r)
 && (E.all λe=>match ops[e]? with|some o=>!kr o||(match R with|r :: _=>ancB ops ops.size r e|[]=>true)|none=>false)
 && (match R.getLast? with|some b=>!xC9 ops D E b|none=>false)
 && D.all (λd=>decide (d<ops.size))
theorem xIk {D E R:List Nat}{m:Nat}{fin:Act->World->Prop}(hB:xFz ops D E R=true)(bN:∀a w,fin a w->wpAny P .any ops (NoPanic Q) m (vb ops.size (D++E++R)) a w):∀(n:Nat) (L:Array Bool) (Rd R':List Nat) (a:Act) (w:World) (ph:Bool),R=Rd++R'->L.size=ops.size->xGo ops L->(∀i,i<ops.size->(L.getD i true=true->i∈D++E++R)/\(i∈D->L.getD i true=true))->(R'=[]->E.filter (unl L)=[])->(∀r∈Rd,L.getD r true=true)->(∀r∈R',L.getD r true=false) ->
  (E.filter (unl L)).length+R'.length=n->(E.filter (unl L)≠[]->C w)->(ph=false->C w/\Rd=[])->(ph=true->∀e∈E.filter (unl L),∀o,ops[e]?=some o->kr o=false) ->
  wpQuiet P ops C (Zd P ops (QS fin Q) C D E ph w R') (zW ops (E.filter (unl L))) a->wpAny P .any ops (NoPanic Q) (n+m) L a w:=by
 simp only[xFz,aA_,decide_eq_true_eq,aX_]at hB;obtain⟨⟨⟨⟨⟨⟨⟨⟨⟨⟨⟨fm,oF⟩,MP⟩,te⟩,mv⟩,tf⟩,fO⟩,Hm⟩,th⟩,mV⟩,iC⟩,Hn⟩:=hB;have bZ:(E++R).Nodup:=by rw[aH_]at oF;exact(aZ_.1 oF).2.1
 have g7:=Region.noSelect_spec fm;have i8:=kj mv;have iV:=kj fO;have F8:E.Nodup:=(aZ_.1 bZ).1;have wX:∀x,x∈E->x∈R->False:=λx h1 h2=>(aZ_.1 bZ).2.2 x h1 x h2 rfl
 have bU:∀(l:List Nat) (e:Nat),uR ops l e=true->∃o,ops[e]?=some o/\∀x∈o.after,Region.binds .any x=true->x.on∈l/\x.on≠e:=by
  intro l e h;unfold uR at h;split at h
  ·rename_i o ho;refine⟨o,ho,λx hx hb=>?_⟩;have h1:=(aD_.1 h) x hx;simp only[hb,dt_,cV_,aA_,ba_,bne_iff_ne]at h1;exact h1
  ·cases h
 have wq:∀d,d∈D->d<ops.size:=λd hd=>by simpa using Hn d hd
 have Xd:∀e,e∈E->e<ops.size:=λe he=>by
  obtain⟨o,ho,_⟩:=bU (D++E) e (te e he);exact(i_ ho).1
 have Ho:∀e,e∈R->e<ops.size:=λe he=>by
  obtain⟨o,ho,_⟩:=bU (D++E++R) e (tf e he);exact(i_ ho).1
 have i9:∀y e,xAd ops y e=true->Region.waitsFor .any ops e y=false->∃oy oe,ops[y]?=some oy/\ops[e]?=some oe/\oy.apart ops oe=true:=by
  intro y e h hw;unfold xAd at h;rw[hw,cV_]at h;split at h
  ·rename_i oy oe h1 h2;exact⟨oy,oe,h1,h2,h⟩
  ·cases h
 intro n;induction n with
 |zero=>
  intro L Rd R' a w ph hR aI aT aZ Xe Kj hR' hn _ Bd _ h;have K5:E.filter (unl L)=[]:=bn_ (by omega);have F9:R'=[]:=bn_ (by omega);subst F9;rw[aG_]at hR;subst hR;rw[K5]at h;rw[aq_];have hL:L=vb ops.size (D++E++R):=by
   apply dL_
   ·rw[aI,vr]
   ·intro i h1 h2;have hi:i<ops.size:=by rw[<-aI];exact h1
    rw[xD2 _ _ _ h2];have hg:L.getD i true=L[i]:=by simp[h1]
    rw[<-hg];cases hx:(D++E++R).contains i with
    |true=>
     rw[ba_,aH_,aj_,aj_]at hx;rcases hx with hx|hx|hx
     ·exact(aZ i hi).2 hx
     ·cases hy:L.getD i true with
      |true=>rfl
      |false=>
       have:i∈E.filter (unl L):=co_.2 ⟨hx,by simp only[unl,hy,dN_]⟩;rw[K5]at this;cases this
     ·exact Kj i hx
    |false=>
     cases hy:L.getD i true with
     |false=>rfl
     |true=>
      have:=(aZ i hi).1 hy;rw[<-ba_,hx]at this;cases this
  rw[hL];refine bN a w ?_;have h':Zd P ops (QS fin Q) C D E ph w [] a:=h;unfold Zd at h';split at h'
  ·exact h'
  ·rename_i hf;exact h' w (Bd (by simpa using hf)).1
 |succ n ih=>
  intro L Rd R' a w ph hR aI aT aZ Xe Kj hR' hn RC Bd Hp h;have Ff:R'≠[]:=λh0=>by rw[Xe h0,h0]at hn;simp at hn
  have oG:∀x,x∈E.filter (unl L)↔x∈E/\L.getD x true=false:=λx=>by
   rw[co_];simp only[unl,bj_]
  have wY:Region.ready .any ops L≠[]:=by
   cases hE':E.filter (unl L) with
   |cons e T=>
    have he:=(oG e).1 (by rw[hE'];simp);obtain⟨o,ho,j_⟩:=bU (D++E) e (te e he.1);have lV:=i8.filter (p:=unl L);rw[hE']at lV;have:e∈Region.ready .any ops L:=mem_ready.2 ⟨he.2,o,ho,λx hx hb=>by
     obtain⟨si,F_⟩:=j_ x hx hb;cases hlx:L.getD x.on false with
     |true=>rfl
     |false=>
      exfalso;rcases aj_.1 si with Hq|si
      ·have h9:=(aZ x.on (wq _ Hq)).2 Hq;rw[getD_in (by rw[aI];exact wq _ Hq) hlx]at h9;cases h9
      have hin:x.on<L.size:=by rw[aI];exact Xd _ si
      have Ew:x.on∈E.filter (unl L):=(oG _).2 ⟨si,getD_in hin hlx⟩;rw[hE']at Ew;rcases ae_.1 Ew with h1|h1
      ·exact F_ h1
      ·have h2:=(ca_.1 lV).1 _ h1;simp only[aA_,bj_]at h2;rw[kH ho hx hb rfl]at h2;cases h2.1⟩
    intro h0;rw[h0]at this;cases this
   |nil=>
    cases R' with
    |nil=>rw[hE']at hn;simp at hn
    |cons r rest=>
     have hrR:r∈R:=by rw[hR];simp
     obtain⟨o,ho,j_⟩:=bU (D++E++R) r (tf r hrR);have:r∈Region.ready .any ops L:=mem_ready.2 ⟨hR' r (by simp),o,ho,λx hx hb=>by
      obtain⟨si,F_⟩:=j_ x hx hb;cases hlx:L.getD x.on false with
      |true=>rfl
      |false=>
       exfalso;rw[aH_]at si;rcases aj_.1 si with Hq|si
       ·have h9:=(aZ x.on (wq _ Hq)).2 Hq;rw[getD_in (by rw[aI];exact wq _ Hq) hlx]at h9;cases h9
       rcases aj_.1 si with h1|h1
       ·have hin:x.on<L.size:=by rw[aI];exact Xd _ h1
        have:x.on∈E.filter (unl L):=(oG _).2 ⟨h1,getD_in hin hlx⟩;rw[hE']at this;cases this
       ·have hin:x.on<L.size:=by rw[aI];exact Ho _ h1
        rw[hR]at h1;rcases aj_.1 h1 with h2|h2
        ·have:=Kj _ h2;rw[getD_in hin hlx]at this;cases this
        ·rcases ae_.1 h2 with h3|h3
         ·exact F_ h3
         ·rw[hR]at iV;have h4:=(ca_.1 (cu_.1 iV).2.1).1 _ h3;simp only[bj_]at h4;rw[kH ho hx hb rfl]at h4;cases h4⟩
     intro h0;rw[h0]at this;cases this
  rw[show n+1+m=(n+m)+1 by omega];refine⟨λh0=>absurd h0 wY,λi hi=>?_⟩;obtain⟨Ex,oi,lW,hall⟩:=mem_ready.1 hi;have mW:=(i_ lW).1;have eE:xGo ops (L.setIfInBounds i true):=λj oj hj hl e he hb=>by
   by_cases hij:i=j
   ·subst hij;have:oj=oi:=as_ (hj.symm.trans lW);subst this;exact getD_set_true (hall e he hb)
   ·rw[getD_set_ne false hij]at hl;exact getD_set_true (aT j oj hj hl e he hb)
  have Fg:i∈E++R->∀j,j<ops.size->((L.setIfInBounds i true).getD j true=true->j∈D++E++R)/\(j∈D->(L.setIfInBounds i true).getD j true=true):=λTq j hj=>by
   by_cases hij:i=j
   ·subst hij;exact⟨λ_=>by rw[aH_];exact bV_ _ Tq,λ_=>by rw[<-aI]at hj;simp[hj]⟩
   ·rw[getD_set_ne true hij];exact aZ j hj
  have hc:i∈E\/i∈R:=by
   have hc:=MP i (bW_.2 mW);rw[bI_,bI_,bI_,ba_,ba_,ba_]at hc;rcases hc with ((hc|hc)|hc)|hc
   ·rw[(aZ i mW).2 hc]at Ex;cases Ex
   ·exact .inl hc
   ·exact .inr hc
   ·exfalso;unfold yDw at hc;rw[lW]at hc;obtain⟨x,hx,hb⟩:=cF_.1 hc;rw[aA_,bI_]at hb;have hlx:=hall x hx hb.1;rcases hb.2 with h1|h1
    ·rw[beq_iff_eq]at h1;have Hr:R.getLast? = R'.getLast?:=by
      rw[hR,List.getLast?_append];cases hz:R'.getLast? with
      |none=>exact absurd (List.getLast?_eq_none_iff.1 hz) Ff
      |some z=>rfl
     have hm:x.on∈R':=List.mem_of_getLast? (by rw[<-Hr,<-h1]);rw[getD_both (hR' _ hm)]at hlx;cases hlx
    ·rw[bj_]at h1;have hlt:x.on<ops.size:=by
      rcases bi_ x.on L.size with h2|h2
      ·rw[<-aI];exact h2
      ·simp[cE_ h2]at hlx
     have h3:=(aZ x.on hlt).1 (by
      cases h4:L.getD x.on true with
      |true=>rfl
      |false=>rw[getD_both h4]at hlx;cases hlx)
     rw[<-ba_]at h3;rw[h3]at h1;cases h1
  rcases hc with hc|hc
  ·
   have k_:i∈E.filter (unl L):=(oG i).2 ⟨hc,Ex⟩;obtain⟨E1,E2,bI⟩:=db_ k_;have C3:i∉R:=λh'=>wX i hc h'
   have lV:=i8.filter (p:=unl L);rw[bI]at lV h;have cN:∀x∈E1,∃ox,ops[x]?=some ox/\ox.apart ops oi=true:=by
    intro x hx;have h2:=(cu_.1 lV).2.2 x hx i (by simp);simp only[aA_,bj_]at h2;have RD:L.getD x true=false:=((oG x).1 (by rw[bI];simp[hx])).2;obtain⟨oy,oe,h3,h4,h5⟩:=i9 x i h2.2 (zF hi RD);have:oe=oi:=as_ (h4.symm.trans lW);subst this;exact⟨oy,h3,h5⟩
   have hq:=xC0 lW g7 E1 E2 a cN h;have g_:=xE6 (by rw[aI];exact mW) F8 bI;have next:∀(a':Act) (w':World),(ph=true->w'=w)->C w'->wpQuiet P ops C (Zd P ops (QS fin Q) C D E ph w R') (zW ops (E1++E2)) a'->wpAny P .any ops (NoPanic Q) (n+m) (L.setIfInBounds i true) a' w':=by
    intro a' w' Ry eP h';refine ih (L.setIfInBounds i true) Rd R' a' w' ph hR (by simpa using aI) eE (Fg (bQ_ _ hc)) (λh0=>absurd h0 Ff) (λr hr=>?_) (λr hr=>?_) ?_ (λ_=>eP) (λhp=>⟨eP,(Bd hp).2⟩) (λhp e he o ho=>?_) ?_
    ·rw[getD_set_ne true (by rintro rfl;exact C3 (by rw[hR];simp[hr]))];exact Kj r hr
    ·rw[getD_set_ne true (by rintro rfl;exact C3 (by rw[hR];simp[hr]))];exact hR' r hr
    ·rw[g_];rw[bI]at hn;simp only[af_,av_]at hn⊢;omega
    ·rw[g_]at he;exact Hp hp e (by rw[bI];simp at he⊢;rcases he with he|he <;> simp[he]) o ho
    ·rw[g_];refine zG (λa'' pd=>?_) _ _ h';unfold Zd at *;split
     ·rename_i hp;rw[if_pos hp]at pd;rw[Ry hp];exact pd
     ·rename_i hp;rw[if_neg hp]at pd;exact pd
   have ti:C w:=RC (by rw[bI];simp);cases ph with
   |false=>exact wpOp_of_qOp ti (λa' w' eP h'=>next a' w' (by simp) eP h') hq
   |true=>
    exact xIi lW (Hp rfl i k_ oi lW) ti (λa' h'=>next a' w (λ_=>rfl) ti h') hq
  ·
   have RE:i∉E:=λh'=>wX i h' hc
   have MQ:i∈R':=by
    rw[hR]at hc;rcases aj_.1 hc with h1|h1
    ·rw[Kj i h1]at Ex;cases Ex
    ·exact h1
   cases R' with
   |nil=>cases MQ
   |cons r rest=>
    have JR:i=r:=by
     rcases ae_.1 MQ with h1|h1
     ·exact h1
     ·exfalso;have pe:=xBd Rd (r :: rest) (by rw[<-hR];exact Hm);obtain⟨p,hp,hw⟩:=xE9 pe i h1;rw[zF hi (hR' p hp)]at hw;cases hw
    subst JR;have cN:∀x∈E.filter (unl L),∃ox,ops[x]?=some ox/\ox.apart ops oi=true:=by
     intro x hx;have tj:=(oG x).1 hx;have h2:=th i hc x tj.1;obtain⟨oy,oe,h3,h4,h5⟩:=i9 x i h2 (zF hi tj.2);have:oe=oi:=as_ (h4.symm.trans lW);subst this;exact⟨oy,h3,h5⟩
    have h1:wpQuiet P ops C (λa'=>wpOp P ops (NoPanic Q) i (λa' w'=>(xC9 ops D E i=true->C w')/\wpN P ops (QS fin Q) C D E rest a' w') a' w) (zW ops (E.filter (unl L))) a:=by
     refine zG (λa'' pd=>?_) _ _ h;unfold Zd at pd;split at pd
     ·exact xVy pd
     ·rename_i hp;exact xVy (pd w (Bd (by simpa using hp)).1)
    have h2:=xGk lW g7 (E.filter (unl L)) a cN h1;have g_:=ku (L:=L) RE;have mw:E.filter (unl L)≠[]->xC9 ops D E i=true:=by
     intro hne;cases hq:xC9 ops D E i with
     |true=>rfl
     |false=>
      exfalso;unfold xC9 at hq;simp only[Bool.not_eq_false',aX_]at hq;obtain⟨e,he⟩:=cR_ _ hne;have wi:=(oG e).1 he;have h4:=xBe aT ops.size i e (λo ho=>by
       have:o=oi:=as_ (ho.symm.trans lW);subst this;exact hall) (xNr (hq e wi.1))
      rw[getD_both wi.2]at h4;cases h4
    refine wpOp_mono (λa' w' h3=>?_) h2;refine ih (L.setIfInBounds i true) (Rd++[i]) rest a' w' true (by rw[hR];simp) (by simpa using aI) eE (Fg (bV_ _ hc)) (λh0=>by
     rw[g_];subst h0;by_cases hne:E.filter (unl L)=[]
     ·exact hne
     ·exfalso;have h5:=mw hne;rw[hR,List.getLast?_append]at iC;simp only[List.getLast?_singleton,Option.some_or,bj_]at iC;rw[h5]at iC;cases iC) (λr hr=>?_) (λr hr=>?_) ?_ (λhne=>?_) (by simp) (λ_ e he o ho=>?_) ?_
    ·by_cases hri:i=r
     ·subst hri;rw[aI.symm]at mW;simp[mW]
     ·rw[getD_set_ne true hri];rcases aj_.1 hr with h4|h4
      ·exact Kj r h4
      ·simp at h4;exact absurd h4.symm hri
    ·have hri:i≠r:=by
      rintro rfl;have:(Rd++i :: rest).Nodup:=hR▸(aZ_.1 bZ).2.1;exact(bh_.1 (aZ_.1 this).2.1).1 hr
     rw[getD_set_ne true hri];exact hR' r (by simp[hr])
    ·rw[g_];simp only[av_]at hn;omega
    ·rw[g_]at hne;exact(kL _ _ h3) (mw hne)
    ·rw[g_]at he;cases ph with
     |true=>exact Hp rfl e he o ho
     |false=>
      have wi:=(oG e).1 he;have h4:=mV e wi.1;rw[ho]at h4;simp only[bI_,bj_]at h4;rcases h4 with h4|h4
      ·exact h4
      ·exfalso;have Tr:=(Bd rfl).2;subst Tr;rw[aM_]at hR;rw[hR]at h4;have h5:=xBe aT ops.size i e (λo ho=>by
        have:o=oi:=as_ (ho.symm.trans lW);subst this;exact hall) h4
       rw[getD_both wi.2]at h5;cases h5
    ·rw[g_];refine zG (λa'' pd=>?_) _ _ h3;unfold Zd;rw[if_pos rfl];exact pd.2
def wpSt (P:Program)(ops:Array Oper)(Q:Exit->Act->World->Prop)(S:List Nat)(m:Nat)(a:Act)(w:World):Prop:=wpAny P .any ops (NoPanic Q) m (vb ops.size S) a w
theorem vB {S:List Nat}{a:Act}{w:World}(hS:((List.range ops.size).all λi=>S.contains i)=true)(h:Q .normal a w):wpSt P ops Q S 0 a w:=by
 refine⟨?_,h⟩;rw[dp_];intro i hi;obtain⟨h1,o,ho,_⟩:=mem_ready.1 hi;have hlt:=(i_ ho).1;rw[qt _ _ _ hlt,aX_.1 hS i (bW_.2 hlt)]at h1;cases h1
theorem xHq {D:List Nat}(hD:D.all (uR ops D)=true):xGo ops (vb ops.size D):=by
 intro j oj hj hl e he hb;have hjD:=(xVg hl).2;have h1:=aX_.1 hD j hjD;unfold uR at h1;rw[hj]at h1;have h2:=(aD_.1 h1) e he;simp only[hb,dt_,cV_,aA_,ba_,bne_iff_ne]at h2;have h3:=aX_.1 hD e.on h2.1;unfold uR at h3;split at h3
 ·rename_i o ho;rw[qt _ _ _ (i_ ho).1];simpa using h2.1
 ·cases h3
theorem kf {D S:List Nat}{k:Nat}{a:Act}{w:World}(E R:List Nat)(m:Nat)(C:World->Prop)(hB:xFz ops D E R=true)(hD:D.all (uR ops D)=true)(hE:(E.all λe=>match ops[e]? with|some o=>!kr o|none=>false)=true)
  (hS:D++E++R=S) (hk:E.length+R.length+m=k) (hC:C w) (h:wpQuiet P ops C (λa'=>wpN P ops (QS (wpSt P ops Q S m) Q) C D E R a' w) (zW ops E) a):wpSt P ops Q D k a w:=by
 subst hS;subst hk;have F7:=hB;simp only[xFz,aA_,decide_eq_true_eq,aX_]at F7;obtain⟨⟨⟨⟨⟨⟨⟨⟨⟨⟨⟨_,oF⟩,_⟩,te⟩,_⟩,tf⟩,_⟩,_⟩,_⟩,_⟩,iC⟩,Hn⟩:=F7;have hlt:∀(l:List Nat) (e:Nat),uR ops l e=true->e<ops.size:=λl e h=>by
  unfold uR at h;split at h
  ·rename_i o ho;exact(i_ ho).1
  ·cases h
 rw[aH_]at oF;have bZ:=aZ_.1 oF;have eZ:∀e,e∈E++R->e<ops.size->(vb ops.size D).getD e true=false:=λe he hl=>by
  rw[qt _ _ _ hl];cases hx:D.contains e with
  |false=>rfl
  |true=>exact absurd rfl (bZ.2.2 e (by simpa using hx) e he)
 have hall:E.filter (unl (vb ops.size D))=E:=by
  rw[bA_];intro e he;simp only[unl,eZ e (bQ_ _ he) (hlt _ _ (te e he)),dN_]
 have Hs:R≠[]:=by rintro rfl;simp at iC
 refine xIk hB (λa w h=>h) (E.length+R.length) (vb ops.size D) [] R a w true rfl (vr _ _) (xHq hD) (λi hi=>⟨λh1=>?_,λh1=>?_⟩) (λh0=>absurd h0 Hs) (λr hr=>by cases hr)
  (λr hr=>eZ r (bV_ _ hr) (hlt _ _ (tf r hr))) (by rw[hall]) (λ_=>hC) (λh=>by cases h) (λ_ e he o ho=>?_) ?_
 ·rw[qt _ _ _ hi]at h1;rw[aH_];exact bQ_ _ (by simpa using h1)
 ·rw[qt _ _ _ hi];simpa using h1
 ·rw[hall]at he;have h1:=aX_.1 hE e he;rw[ho]at h1;simpa using h1
 ·rw[hall];exact zG (λa' h'=>by unfold Zd;rw[if_pos rfl];exact h') _ _ h
theorem jZ {D S:List Nat}{k:Nat}{a:Act}{w:World}(E R:List Nat)(m:Nat)(C:World->Prop)(hB:xFz ops D E R=true)(hD:D.all (uR ops D)=true)
  (hS:D++E++R=S) (hk:E.length+R.length+m=k) (hC:C w) (h:wpQuiet P ops C (λa'=>∀w',C w'->wpN P ops (QS (wpSt P ops Q S m) Q) C D E R a' w') (zW ops E) a):wpSt P ops Q D k a w:=by
 subst hS;subst hk;have F7:=hB;simp only[xFz,aA_,decide_eq_true_eq,aX_]at F7;obtain⟨⟨⟨⟨⟨⟨⟨⟨⟨⟨⟨_,oF⟩,_⟩,te⟩,_⟩,tf⟩,_⟩,_⟩,_⟩,_⟩,iC⟩,Hn⟩:=F7;have hlt:∀(l:List Nat) (e:Nat),uR ops l e=true->e<ops.size:=λl e h=>by
  unfold uR at h;split at h
  ·rename_i o ho;exact(i_ ho).1
  ·cases h
 rw[aH_]at oF;have bZ:=aZ_.1 oF;have eZ:∀e,e∈E++R->e<ops.size->(vb ops.size D).getD e true=false:=λe he hl=>by
  rw[qt _ _ _ hl];cases hx:D.contains e with
  |false=>rfl
  |true=>exact absurd rfl (bZ.2.2 e (by simpa using hx) e he)
 have hall:E.filter (unl (vb ops.size D))=E:=by
  rw[bA_];intro e he;simp only[unl,eZ e (bQ_ _ he) (hlt _ _ (te e he)),dN_]
 have Hs:R≠[]:=by rintro rfl;simp at iC
 refine xIk hB (λa w h=>h) (E.length+R.length) (vb ops.size D) [] R a w false rfl (vr _ _) (xHq hD) (λi hi=>⟨λh1=>?_,λh1=>?_⟩) (λh0=>absurd h0 Hs) (λr hr=>by cases hr)
  (λr hr=>eZ r (bV_ _ hr) (hlt _ _ (tf r hr))) (by rw[hall]) (λ_=>hC) (λ_=>⟨hC,rfl⟩) (λh=>by cases h) ?_
 ·rw[qt _ _ _ hi]at h1;rw[aH_];exact bQ_ _ (by simpa using h1)
 ·rw[qt _ _ _ hi];simpa using h1
 ·rw[hall];exact zG (λa' h'=>by unfold Zd;rw[if_neg (by simp)];exact h') _ _ h
theorem ui {id:Nat}{a:Act}{w:World}(hm:P.follows .mixedOrders=true)(h:wpSt P ops Q [] ops.size a w.drew):(Code.region id ops true).wp P Q a w:=by
 refine wp_region_noPanic (wp_region_any hm ?_);have e:vb ops.size []=Array.replicate ops.size false:=by
  apply dL_
  ·simp[vr]
  ·intro i h1 h2;rw[xD2];simp
 unfold wpSt at h;rw[e]at h;exact h
def QnD (P:Program)(ops:Array Oper)(Q:Exit->Act->World->Prop)(C:World->Prop)(D E rest:List Nat)(b:Bool):Exit->Act->World->Prop
 |.normal,a,w=>(b=true->C w)/\wpN P ops Q C D E rest a w
 |.panic _,_,_=>False
 |e,a,w=>Q e a w
theorem xBp {D E rest:List Nat}{r:Nat}{o:Oper}{a:Act}{w:World}(b:Bool)(hr:ops[r]?=some o)(hb:xC9 ops D E r=b)(h:wpList P ops (QnD P ops Q C D E rest b) [o] a w):wpN P ops Q C D E (r :: rest) a w:=by
 unfold wpN wpOp;simp only[hr];unfold wpList at h;have hl:LetsOut (QnD P ops Q C D E rest b)->LetsOut (NoPanic Q):=λ⟨a,w,h⟩=>⟨a,w,h⟩
 have hk:∀a' w',wpList P ops (QnD P ops Q C D E rest b) [] a' w'->(xC9 ops D E r=true->C w')/\wpN P ops Q C D E rest a' w':=λa' w' h'=>by
  rw[hb];exact h'
 split
 ·rename_i hw;rw[if_pos hw]at h;rcases h with h|⟨h1,h2⟩
  ·refine .inl ?_;unfold Oper.wp at *;generalize (execOp a.eval o).run P w=r at *;cases r with
   |ok n w'=>
    cases n <;> simp only[Oper.upon]at h⊢
    case value u=>exact hk _ _ h
    case skip=>exact hk _ _ h
    case defer d=>exact hk _ _ h
    case enter f args=>
     refine Calls.mono h λe w'' he=>?_
     cases e with
     |returned u=>exact hk _ _ he
     |panicked c=>exact he
     |outgrown=>exact hl he
    case row row args=>exact Rows.mono h λu w'' he=>hk _ _ he
   |halt x w'=>cases x <;> simp only[Oper.upon]at h⊢<;> exact h
  ·exact .inr ⟨h1,hl h2⟩
 ·rename_i hw;rw[if_neg hw]at h;exact hk _ _ h
theorem uD {D E:List Nat}:∀(R:List Nat) (a:Act) (w:World),(R.all λr=>!xC9 ops D E r&&decide (r<ops.size))=true->wpList P ops (NoPanic Q) (zW ops R) a w->wpN P ops Q C D E R a w
 |[],_,_,_,h=>h
 |r :: R,a,w,hn,h=>by
  rw[cW_,aA_]at hn;obtain⟨az,aA⟩:=hn;rw[aA_,bj_,decide_eq_true_eq]at az;have hr:ops[r]?=some (ops.getD r default):=by simp[az.2]
  unfold wpN wpOp;simp only[hr];unfold zW at h;rw[au_]at h;unfold wpList at h;have hk:∀a' w',wpList P ops (NoPanic Q) (zW ops R) a' w'->(xC9 ops D E r=true->C w')/\wpN P ops Q C D E R a' w':=λa' w' h'=>
   ⟨(λh1=>by rw[az.1]at h1;cases h1),uD R a' w' aA h'⟩
  split
  ·rename_i hw;rw[if_pos hw]at h;exact h.imp (λh=>Oper.wp_mono hk h) id
  ·rename_i hw;rw[if_neg hw]at h;exact hk _ _ h
theorem uo {fin:Act->World->Prop}{a:Act}{w:World}:QS fin Q .normal a w=fin a w:=rfl
end
end Go.Proofs.YtegfbhdkenkkdaaGreatDoor
