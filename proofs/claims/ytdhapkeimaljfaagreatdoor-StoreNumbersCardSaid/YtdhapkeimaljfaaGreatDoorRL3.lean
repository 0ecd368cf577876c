/- Parts of the proofs about bulletinlaw29: GroupsA, Groups, Where, Own3, Dsk4, Dsk5, Dsk6, Dsk7, Rel, EqualM, R8, RemoveId, Fork, Do, InOps, Range, LawSame, DecLaw, DecWalk, UJ, Dsk8, Jou1, Jou2, Jou3, Jou4, Jou5, Crs1, Crs2, Jou6, Jou7, Jou8, Stg, Jou9, ZT, ZU, ZV. -/
import Derived.Test.YtdhapkeimaljfaaGreatDoorRL1
import Derived.Test.YtdhapkeimaljfaaGreatDoorRL2
import Derived.Maps.RangeRun
import Derived.Shelf.SlMaps.Clone
import Derived.Deep.QuietTactic
import Derived.BigQuiet
set_option maxRecDepth 100000
set_option linter.all false
set_option maxHeartbeats 8000000
namespace Go.Proofs.YtdhapkeimaljfaaGreatDoor
open Go Go.RowKit Go.Proofs Tryz
def cr_:=@List.Perm.of_eq
def bn_:=@List.pairwise_iff_getElem
def M5:=@List.length_map
def ax_:=@List.mem_filterMap
def al_:=@Option.map_eq_some_iff
def aF_:=@Oper.upon_value
def bo_:=@List.map_eq_nil_iff
def bS_:=@Array.contains_push
def Z1:=@List.mem_append_right
def bJ_:=@Nat.lt_succ_self
def aq_:=@List.mem_append_left
def cf_:=@List.getElem_take
def bT_:=@List.flatMap_append
def bB_:=@List.flatMap_singleton
def xSl (B:Nat)(w:World)(v:Value)(xs:List ByteArray):Prop:=(xs=[]/\v=.slice none 0 0)\/∃b c,v=.slice (some ⟨b,0,none⟩) xs.length c/\xs.length<=c/\uk w b 0 xs/\B<=b/\b<w.heap.size
theorem xSl.slice {B w v xs}(h:xSl B w v xs):∃a c,v=.slice a xs.length c:=by
 rcases h with⟨e,h⟩|⟨b,c,e,_⟩
 ·grind
 ·exact⟨_,_,e⟩
def xJv:Type:={ s:ByteArray // s.size<=100000 }
instance:Inhabited xJv:=⟨⟨⟨#[]⟩,by decide⟩⟩
def mkN (s:ByteArray)(h:s.size<=100000):xJv:=⟨s,h⟩
def encN (x:xJv):Value:=.string x.1
def cfN (x y:xJv):Int:=cmpN x.1 y.1
theorem swoN:Go.Sort.SWO (ltOf cfN) where
 irrefl x:=by unfold ltOf cfN;rw[xBg];rfl
 trans x y z h1 h2:=by
  unfold ltOf cfN at *;grind [xMk]
 ntrans x y z h1 h2:=by
  unfold ltOf cfN at *;rw[decide_eq_false_iff_not]at *;intro h3;by_cases h:cmpN y.1 x.1<0
  ·exact h2 (xMk h h3)
  grind [xMl]
theorem jY (w:World)(blk off m:Nat)(dk:Array xJv)(os:Array Obj)(hb:blk<=w.heap.size):Below blk w (sortWorld encN w blk off m dk os) where
 os:=rfl
 tape:=rfl
 output:=rfl
 size:=by simp[sortWorld]
 block k hk:=by
  unfold sortWorld;rw[Go.Sort.heap_grow_old _ _ (by simp;omega)];unfold Go.Sort.putRow Go.Sort.mapBlock;simp only[ba_];rw[if_neg (by omega)];rfl
theorem yHx (w)(b:Gl w)(blk off n)(a:prog.globals.size<=blk)(c:blk<=w.heap.size):CmpLays1 prog 38 #[] encN cfN blk off n w:=λm os dk _ x y=>by
 refine(xVy x.1 y.1 (sortWorld encN w blk off m dk os) (b.below (jY w blk off m dk os c) a) x.2 y.2).mono ?_;rintro e w' ⟨rfl,_,rfl⟩;refine⟨rfl,0,#[.cells ((yL 46 x.1).map Value.string).toArray 9,.cells ((yL 46 y.1).map Value.string).toArray 9],?_⟩;rw[Go.Sort.alloc_eq_grow,Go.Sort.alloc_eq_grow,Go.Sort.grow_grow];rfl
def xSj (_:Value):Option (DataW Unit×List MemPlace):=some (.nil,[])
def jW (P:Program)(gs:List MG):DataW Unit:=.map (((gs.map λG=>enE ekS G.e).map (Go.WideElems.rg P 9 xSj)).foldr DataW.insert [])
theorem xDx {s}(h:zB s=0):s.size<=80:=by grind [zB]
theorem xZ6 (G:MG)(h:zB G.name=0):Go.WideElems.rd prog 9 xSj (enE ekS G.e)=some (.string G.name.data.toList,.nil):=by
 have hs:=xDx h;have a:Go.keyOf prog 9 (.string G.name)=some (.string G.name.data.toList):=Go.WideMaps.keyOf_string_mk underlying9 (by unfold maxLen;omega);unfold Go.WideElems.rd;show (Go.keyOf prog 9 (.string G.name)).bind _=_
 rw[a];rfl
theorem y5.owns {B w ib M mc gs}(h:y5 B w ib M gs mc)(b:gs.length<=65536):w.ownsMap prog 9 xSj M gs.length (jW prog gs):=by
 refine⟨_,mc,h.map,⟨?_,⟨?_,?_,?_⟩,?_⟩,by simp,?_⟩
 ·simp;unfold maxLen;omega
 ·intro x hx;simp only[T7,D4,Function.comp]at hx;obtain⟨G,a,rfl⟩:=hx;exact h.young G a
 ·simp only[T7];exact h.born
 ·simp only[T7];have:(gs.map λG=>Value.string G.name).Nodup:=by
   have:=h.names;grind
  exact this
 ·intro x hx;simp only[T7,D4,Function.comp]at hx;obtain⟨G,a,rfl⟩:=hx;exact⟨_,xZ6 G (h.grps G a).named⟩
 ·unfold jW;simp[T7,Function.comp_def]
theorem xEl {B w ib M mc gs}(h:y5 B w ib M gs mc):(Go.strKeys (jW prog gs)).Perm (gs.map λG=>G.name.data.toList):=by
 unfold jW Go.strKeys;refine((Go.WideShapes.sorted_perm _).map _).trans ?_;rw[T7,T7];refine cr_ (am_ λG a=>?_);simp only[Function.comp];unfold Go.WideElems.rg;rw[xZ6 G (h.grps G a).named];rfl
theorem xBr (gs):Go.Maps.size (jW prog gs)=gs.length:=by
 unfold jW;rw[Go.Maps.size_eq,length_sorted];simp
theorem xB6:∀{gs:List MG},(∀G∈gs,G.ms≠[])->gs.length<=total gs
 |[],_=>n3 _
 |G :: gs,h=>by
  have h1:=xB6 (gs:=gs) (λK hK=>h K (by simp[hK]));have h2:0<G.ms.length:=by grind
  grind [total,List.length_cons]
theorem y5.groups {B w ib M mc gs}(h:y5 B w ib M gs mc):gs.length<=65536:=
 R_ (xB6 λG a=>(h.grps G a).some') h.few
def xN0 (gs:List MG)(w:World)(r:Ending)(w':World):Prop:=∃v ns,r=.returned v/\xSl w.heap.size w' v ns/\ordN ns/\(∀t,t∈ns↔∃G∈gs,G.name=t)/\Below w.heap.size w w'
theorem xU4:∀(ss:List ByteArray) (b:∀s∈ss,s.size<=100000),ss.pmap (λa h=>(mkN a h).1) b=ss
 |[],_=>rfl
 |s :: ss,b=>by
  rw[List.pmap_cons,xU4 ss];rfl
theorem xKq {w w' blk ss}(a:∀s∈ss,s.size<=100000)(u:ss.Nodup)(_hr:uk w blk 0 ss)(m:blk<w.heap.size)(d' n os)
  (o:Go.Sort.Holds encN w blk 0 (ss.pmap mkN a).toArray)
  (l:Go.Sort.PermIn 0 (ss.pmap mkN a).toArray.size (ss.pmap mkN a).toArray d') (hs:Go.Sort.SortedIn (ltOf cfN) 0 (ss.pmap mkN a).toArray.size d') (h:w'=sortWorld encN w blk 0 n d' os):
  ∃ns:List ByteArray,ns.length=ss.length/\uk w' blk 0 ns/\ordN ns/\∀t,t∈ns↔t∈ss:=by
 obtain⟨f,_,g⟩:=l;have r:d'.size=ss.length:=by grind
 have q:d'.extract 0 ((ss.pmap mkN a).toArray).size=d':=by grind
 rw[q,Array.extract_size]at g;have p:(d'.toList.map (·.1)).Perm ss:=by
  have:=g.map (λx:xJv=>x.1);rw[List.toList_toArray,List.map_pmap]at this;exact xU4 ss a▸this
 refine⟨d'.toList.map (·.1),by simp[r],?_,?_,λt=>p.mem_iff⟩
 ·intro k x hx;have d:k<d'.size:=by grind
  have h1:=(Go.Proofs.holds_sortWorld encN w blk 0 n _ d' os m o f) k d;rw[h,h1.1];rw[R1,Array.getElem?_toList,aK_ d]at hx;grind [Option.some.injEq,encN]
 ·unfold ordN;have v:(d'.toList.map (·.1)).Nodup:=by grind
  rw[bn_];intro i j e b c;simp only[M5,Array.length_toList]at e b;have h1:=hs i j (n3 _) c (by rw[<-f];exact b);rw[getElem!_pos d' i e,getElem!_pos d' j b]at h1;unfold ltOf cfN at h1;grind [xMl,List.pairwise_iff_getElem.1]
theorem xOq (bs:List ByteArray)(a:∀s∈bs,s.size<=100000):(bs.pmap mkN a).toArray.size=bs.length:=by simp
theorem yDk (g cap)(bs:List ByteArray)(a)(h:Gl a)(b:∀s∈bs,s.size<=100000)(c:g<a.heap.size)(d:prog.globals.size<=g)(i:Go.Sort.Holds encN a g 0 (bs.pmap mkN b).toArray)(j:bs.length<=65536):
  Calls prog (Tryz.sortA_ren.f 6) #[.slice (some ⟨g,0,none⟩) (bs.pmap mkN b).toArray.size cap,.func (.func 38) #[] #[]] a λe w'=>
     e=.returned (.tuple #[])/\∃d' n os,Go.Sort.PermIn 0 (bs.pmap mkN b).toArray.size (bs.pmap mkN b).toArray d'/\Go.Sort.SortedIn (ltOf cfN) 0 (bs.pmap mkN b).toArray.size d'/\w'=sortWorld encN a g 0 n d' os:=
 Any.slices_SortFunc Tryz.sortA encN (λ_=>rfl) cfN swoN 38 #[] g 0 cap (bs.pmap mkN b).toArray a (enters_of func38 (by kernel_rfl) rfl) (yHx a h g 0 _ d (by omega)) i c (by rw[xOq];omega)
theorem yH2:Tryz.sortA_ren.f 6=61:=rfl
theorem xOc (g cap n)(bs:List ByteArray)(a)(i:Gl a)(b:∀s∈bs,s.size<=100000)(c:g<a.heap.size)(f:prog.globals.size<=g)(k:Go.Sort.Holds encN a g 0 (bs.pmap mkN b).toArray)(j:bs.length<=65536)(d:n=bs.length):
  Calls prog 61 #[.slice (some ⟨g,0,none⟩) n cap,.func (.func 38) #[] #[]] a λe w'=>
     e=.returned (.tuple #[])/\∃d' n os,Go.Sort.PermIn 0 (bs.pmap mkN b).toArray.size (bs.pmap mkN b).toArray d'/\Go.Sort.SortedIn (ltOf cfN) 0 (bs.pmap mkN b).toArray.size d'/\w'=sortWorld encN a g 0 n d' os:=by
 have h:=yDk g cap bs a i b c f k j;rw[yH2]at h;have e:(n:Nat)=(bs.pmap mkN b).toArray.size:=by rw[xOq,d]
 rw[e];exact h
theorem xLy (B ib M mc gs w)(f:Gl w)(h:y5 B w ib M gs mc):
  Calls prog 17 #[.pointer (some ⟨ib,0,none⟩)] w λr w'=>xN0 gs w r w':=by
 have hc:=h.cell0;obtain⟨a,O⟩:∃a,a=w.alloc (.cells #[.map (some M)] 126):=⟨_,rfl⟩;have i:Below w.heap.size w a:=by grind
 have D:=h.below i;have aL:a.heap.size=w.heap.size+1:=by grind
 have C:a.cell? ⟨w.heap.size,0,none⟩=some (.map (some M)):=by grind
 have R:=D.owns h.groups
 have E:SeqGives Fence.wide 2 prog 62 #[.pointer (some ⟨w.heap.size,0,none⟩)] encStr (λss=>ss.Perm (Go.strKeys (jW prog gs))) (Go.Maps.size (jW prog gs)) a:=
  AnyZ.keys_gives (ρ:=Tryz.keysA_ren) { Tryz.keysA with } Fence.wide _ trivial rfl (by omega) w.heap.size M gs.length _ _ (by omega) C R
 have hK:Calls prog 37 #[.map (some M)] w λe w'=>e=.returned (.func (.func 62) #[] #[.pointer (some ⟨w.heap.size,0,none⟩)])/\w'=a:=by
  rw[O];exact(callsIn_wide (n:=5)).1 (AnyZ.keys_in Tryz.keysA Fence.wide 5 trivial rfl (some M) w)
 have dI:=h.groups
 have F:Calls prog 60 #[.func (.func 62) #[] #[.pointer (some ⟨w.heap.size,0,none⟩)]] a λe w'=>∃(v:Value) (ss:List (List UInt8)),e=.returned v/\ss.Perm (Go.strKeys (jW prog gs))/\w'.ownsRow a.heap.size 9 1 v ss.length (ss.map encStr)/\(v=.slice none 0 0↔ss=[])/\Below a.heap.size a w':=
  (callsIn_wide (n:=4)).1 (AnyZ.collect_in Tryz.collectA Fence.wide 4 trivial trivial rfl (by omega) 62 _ trivial (enters_of func62 (by kernel_rfl) rfl) _ _ (by rw[xBr];unfold maxLen;omega) (by rw[xBr];omega) a E)
 have m:=xEl h;have I:∀G∈gs,G.name.size<=80:=λG f=>xDx (h.grps G f).named
 have N:=h.names
 have HS:Hid (Calls prog 36 #[.func (.func 62) #[] #[.pointer (some ⟨w.heap.size,0,none⟩)],.func (.func 38) #[] #[]] a λr w'=>xN0 gs w r w'):=h_ (by
  have S:=h_ F;have z:=h_ (f.later i);have Q:=h_ i;clear F hK E R D hc h f i C O;go_enter func36,ntmps36;go_wp2_with fail;refine S.mono ?_;rintro r d ⟨v,ss,rfl,b,y,c,u⟩;have K:=Q.trans (u.mono (by omega));have o:ss.Perm (gs.map λG=>G.name.data.toList):=b.trans m;have J:=z.later u;have ax:=h_ K;rcases y.2 with⟨rfl,h0⟩|⟨g,cap,cur,rfl,hg,aw,bj,dH,aB,dW⟩
  ·have R9:ss=[]:=by grind
   have dL:gs=[]:=by simp_all
   clear y c u K b o J z S Q m h0 I N aL dI;go_wp2_with fail;refine(AnyF.slices_SortFunc_none (L:={ Tryz.sortA with }) none 0 _ d).mono ?_;rintro r w'⟨rfl,rfl⟩;go_wp2;go_ret;exact⟨_,[],rfl,.inl ⟨rfl,rfl⟩,.nil,λt=>by rw[dL];simp,ax.out⟩
  ·obtain⟨bs,H⟩:∃bs:List ByteArray,bs=ss.map str:=⟨_,rfl⟩;have q:bs.length=ss.length:=by grind
   have DX:bs.Perm (gs.map λG=>G.name):=by
    rw[H];refine(o.map str).trans ?_;rw[T7];refine cr_ (am_ λG _=>?_);rfl
   have V:bs.Nodup:=by grind
   have p:∀s∈bs,s.size<=100000:=λs hs=>by grind
   have an:ss.length=gs.length:=by
    have:=o.length_eq;simpa using this
   have X:=(i_ aw).1;have T:uk d g 0 bs:=λk x hx=>by
    have:=ae_ y (g:=g) rfl k (.string x) (by
     rw[H,R1]at hx;rw[R1];cases hk:ss[k]? with
     |none=>rw[hk]at hx;cases hx
     |some l=>rw[hk]at hx;cases hx;rfl)
    rwa [l8]at this
   have U:Go.Sort.Holds encN d g 0 (bs.pmap mkN p).toArray:=λj hj=>by
    have oL:j<bs.length:=by grind
    refine⟨?_,?_⟩
    ·rw[T j bs[j] (U_ oL),getElem!_pos _ j hj];simp only[bL_,List.getElem_pmap];rfl
    grind
   have aV:(bs.pmap mkN p).toArray.size=ss.length:=by simp[q]
   have W:=h_ (xOc g cap ss.length bs d J p X (R_ (z.size) hg) U (by omega) q.symm);have aC:=h_ (λ(w':World) (d':Array xJv) n os b hs hw=>xKq (w:=d) (w':=w') p V T X d' n os U b hs hw);have Is:Hid (∀t,t∈bs↔∃G∈gs,G.name=t):=h_ (λt=>by rw[DX.mem_iff,D4]);have gQ:=h_ q;have fV:=h_ an;clear U T y c u K b o J S m I N aB dW V DX H aw q an aV;clear z Q;go_wp2_with fail;refine W.mono ?_;rintro r A ⟨rfl,d',n,os,b,hs,hw⟩;obtain⟨ns,Y,bW,Bb,E9⟩:=aC.out A d' n os b hs hw;have Z:Below g d A:=by grind [jY]
   have aJ:=h_ (ax.trans (Z.mono (by omega)));have nH:g<A.heap.size:=by grind
   clear b hs hw aC W Z;have Bc:=h_ (show ns.length=ss.length by rw[Y,gQ.out]);clear Y;go_wp2;go_ret;exact⟨_,ns,rfl,.inr ⟨g,cap,by rw[Bc.out];rfl,by rw[Bc.out];exact bj,bW,by omega,nH⟩,Bb,λt=>(E9 t).trans (Is.out t),aJ.out⟩)
 have HK:=h_ hK;clear F hK E R D h f i C m I N aL dI;clear O;go_enter func17,ntmps17;go_wp2_with fail;refine HK.mono ?_;rintro r w' ⟨rfl,rfl⟩;go_wp2_with fail;refine HS.mono ?_;rintro r w' ⟨v,ns,rfl,P⟩;have HP:=h_ P;obtain⟨va,vc,rfl⟩:=P.1.slice;clear P;go_wp2;go_ret;exact⟨_,ns,rfl,HP.out⟩
section
attribute [local go_sem ↓] xP xI yp y8 ym yw
attribute [local go_sem] zg zj zC zA yM xh xg xe xd xx xy xk xj xq xB xw
abbrev PL:Type:=ByteArray×Int
def k9 (ps:List PL):List Value:=ps.flatMap λp=>[.string p.1,.int .i64 p.2]
theorem xM5 (ps p):k9 (ps++[p])=k9 ps++[.string p.1,.int .i64 p.2]:=by simp[k9]
theorem xI1:∀(ps:List PL) (j:Nat) (a:j<ps.length),(k9 ps)[j*2]?=some (.string ps[j].1)/\(k9 ps)[j*2+1]?=some (.int .i64 ps[j].2)
 |p :: ps,0,_=>⟨rfl,rfl⟩
 |p :: ps,j+1,a=>by
  have:=xI1 ps j (by simpa using a);grind [k9]
def ue (gs:List MG)(x:Id32)(t:ByteArray):Option PL:=((xC gs t).find? λm=>decide (m.p.id=x)).map λm=>(t,m.p.number)
def yF (gs:List MG)(ns:List ByteArray)(x:Id32):List PL:=ns.filterMap (ue gs x)
theorem xQ2 (gs ns x t):yF gs (ns++[t]) x=yF gs ns x++(ue gs x t).toList:=by grind [yF,ue]
theorem Tryz.info_place:(prog.info? 479).map (λi=>(i.zero,i.size,i.bytes))=some (some (.agg #[.string ⟨#[]⟩,.int .i64 0]),2,24):=by kernel_rfl
def yCw (gs:List MG)(x:Id32)(w:World)(r:Ending)(w':World):Prop:=∃v ns,r=.returned v/\w'.ownsRow w.heap.size 479 2 v (yF gs ns x).length (k9 (yF gs ns x))/\ordN ns/\(∀t,t∈ns↔∃G∈gs,G.name=t)/\Below w.heap.size w w'
theorem xFd {gs}(a:(gs.map λG=>G.name).Nodup){G}(b:G∈gs):yd gs G.name=some G:=by
 unfold yd;cases h:gs.find? λH=>decide (H.name=G.name) with
 |none=>
  grind
 |some H=>
  grind [List.mem_of_find?_eq_some,xD6]
theorem xV7 {ms:List ML}{x}(c:(ms.map λm=>m.p.id).Nodup){m}(b:m∈ms)(d:m.p.id=x):(ms.find? λm=>decide (m.p.id=x))=some m:=by
 induction ms with
 |nil=>cases b
 |cons a ms ih=>
  grind
theorem zd {w:World}{B t s n v xs}(h:w.ownsRow B t s v n xs):∃a n c,v=.slice a n c:=by
 rcases h.2 with⟨e,_⟩|⟨g,cap,cur,e,_⟩
 ·exact⟨_,_,_,e⟩
 ·exact⟨_,_,_,e⟩
theorem zi {W:World}{B B' t s n v xs}(h:W.ownsRow B t s v n xs)(c:B'<=B):W.ownsRow B' t s v n xs:=by
 refine⟨h.1,?_⟩;rcases h.2 with b|⟨g,cap,cur,hv,a,rest⟩
 ·exact .inl b
 ·exact .inr ⟨g,cap,cur,hv,R_ c a,rest⟩
theorem yx {w b x}{t:TypeId}(h:w.heap[b]?=some (.cells (xl x).toArray t (0,0))):xp w ⟨b,0,none⟩ 32=true/\xo w ⟨b,0,none⟩ 32=(xl x).toArray:=by
 have:=yl (w:=w) (a:=⟨b,0,none⟩) (cs:=xl x) (λj v c=>by
  rw[l8,cell_of_row w b (0+j) _ _ _ h,m0,l7];exact c)
 rwa [xD]at this
theorem xO7 (B ib M mc gs x w)(hG:Gl w)(h:y5 B w ib M gs mc):
  Calls prog 334 #[.pointer (some ⟨ib,0,none⟩),.agg (xl x).toArray] w λr w'=>yCw gs x w r w':=by
 obtain⟨i0,hi,bf,aP,be⟩:=info_parts Tryz.info_place;obtain⟨W,hW⟩:∃W,W=w.alloc (.cells (xl x).toArray 42):=⟨_,rfl⟩;have F:Below w.heap.size w W:=by grind
 have nu:W.heap.size=w.heap.size+1:=by grind
 have hid:W.heap[w.heap.size]?=some (.cells (xl x).toArray 42 (0,0)):=by grind
 have Bd:=h_ (xLy B ib M mc gs W (hG.later F) (h.below F));have HB:=h_ F;have It:=h_ hid;have HX:=h_ h;clear hid F h hG;go_enter func334,ntmps334;go_wp2_with fail;rw[<-hW];clear hW;refine Bd.mono ?_;rintro r f ⟨v,ns,rfl,gI,eQ,aW,aa⟩;have O:Below w.heap.size w f:=by grind
 have Nv:=(aa.block w.heap.size (by omega)).trans It.out;have aL:w.heap.size<f.heap.size:=by grind
 have I:=h_ O;have UL:=h_ Nv;have DU:=h_ (HX.below O);have Z:=h_ aW;have Y:=h_ eQ;clear O Nv aa HB It HX Bd aW eQ nu;have fW:ns.length<=65536:=by
  have h1:ns.Nodup:=Y.imp λ{a b} hab e=>by rw[e,xBg]at hab;omega
  have h2:ns.length<=(gs.map λG=>G.name).length:=h1.length_le_of_subset λt ht=>by grind
  rw[M5]at h2;exact R_ h2 DU.groups
 rcases gI with⟨rfl,rfl⟩|⟨b,c,rfl,hc,ah,UM,az⟩
 ·go_wp2;go_loop [5,13] (λp i=>p=.slice none 0 0/\i=.int .i64 0) (λ_ _=>0)
  case atStart=>exact⟨rfl,rfl⟩
  case round=>
   obtain⟨rfl,rfl⟩:=hrel;go_wp2;go_ret;exact⟨_,[],rfl,D1 _ _ _ _,Y.out,Z.out,I.out⟩
 ·have HR:=h_ ah;clear ah;go_wp2;go_loopw [5,13] (λp i wr=>∃k:Nat,k<=ns.length/\i=.int .i64 k/\wr.ownsRow f.heap.size 479 2 p (yF gs (ns.take k) x).length (k9 (yF gs (ns.take k) x))/\Below f.heap.size f wr) (λ_ i _=>ns.length-(intOf i).toNat)
  case atStart=>exact⟨0,by omega,rfl,D1 _ _ _ _,z_ _ _⟩
  case round=>
   obtain⟨k,hk,rfl,q,l⟩:=hrel;by_cases hlt:k<ns.length
   ·have aM:(k:Int)<(ns.length:Int):=by omega
    have U:wr.cell? ⟨b,k,none⟩=some (.string ns[k]):=by
     have:=HR.out k _ (U_ hlt);grind
    have S:Hid (yF gs (ns.take (k+1)) x=yF gs (ns.take k) x++(ue gs x ns[k]).toList):=h_ (by
     rw[d0 hlt,xQ2])
    obtain⟨G,lx,J⟩:=(Z.out ns[k]).1 (L3 hlt);have y:=DU.below l;have N:yd gs ns[k]=some G:=by rw[<-J];exact xFd y.names lx
    have z:xC gs ns[k]=G.ms:=by grind [xC]
    have o:=y.grps G lx;have X:=(l.block w.heap.size aL).trans UL.out;generalize ns[k]=t at U S J N z;have q1:∀n,(wr.drewN n).cell? ⟨ib,0,none⟩=some (.map (some M)):=λn=>by rw[aD_];exact y.cell0
    have q2:∀n,(Instr.lookup 126 (.map (some M)) (.string t) false).run prog (wr.drewN n)=.ok (.pointer (some ⟨G.gb,0,none⟩)) (wr.drewN n):=λn=>by
     have:=(y.below (below_drewN' (z_ _ _) n)).look t;grind
    have q3:∀n,(wr.drewN n).cell? ⟨G.gb,1,none⟩=some (.map (some G.nb)):=λn=>by rw[aD_];exact cell_of_row wr G.gb 1 _ _ _ o.blk
    have D:∀n,(Instr.lookup 173 (.map (some G.nb)) (.agg (xl x).toArray) true).run prog (wr.drewN n)=.ok (.tuple #[((yG x G.nl 0).map (·.2)).getD (.int .i64 0),.bool (yG x G.nl 0).isSome]) (wr.drewN n):=λn=>
     xDz keyI underlying173 (.int .i64 0) xSr (wr.drewN n) G.nb G.nl G.nc o.nums x
    have H:xp wr ⟨w.heap.size,0,none⟩ 32=true/\xo wr ⟨w.heap.size,0,none⟩ 32=(xl x).toArray:=yx X;have q5:∀n,xp (wr.drewN n) ⟨w.heap.size,0,none⟩ 32=true:=λn=>by rw[xe];exact H.1
    have q6:∀n,xo (wr.drewN n) ⟨w.heap.size,0,none⟩ 32=(xl x).toArray:=λn=>by rw[xd];exact H.2
    by_cases hin:∃m∈G.ms,m.p.id=x
    ·obtain⟨m,g,R⟩:=hin;obtain⟨j,d,_⟩:=o.find_yes g;rw[R]at d;rw[d]at D;have Q:Hid (ue gs x t=some (t,m.p.number)):=h_ (by unfold ue;rw[z,xV7 o.ids g R];rfl);have s:=h_ q;have E:=h_ l;clear d o y H q l X N z J g R;go_wp2_with fail;go_quiet (fail);clear q1 q2 q3 D q5 q6 U;have C:(wr.drewN nq).ownsRow f.heap.size 479 2 u5 (yF gs (ns.take k) x).length (k9 (yF gs (ns.take k) x)):=s.out;have V:Below f.heap.size f (wr.drewN nq):=below_drewN' E.out nq;generalize wr.drewN nq=W2 at C V⊢;have K:=h_ V;have P:=C.alloc (.cells #[.string t,.int .i64 m.p.number] 479);clear s E V;have i8:(yF gs (ns.take k) x).length<=k:=by
      unfold yF;exact R_ (List.length_filterMap_le _ _) (by rw[x8];omega)
     have A:=h_ (λj d=>(C.lt j d).1);clear C;obtain⟨nn,L⟩:∃nn,nn=(yF gs (ns.take k) x).length:=⟨_,rfl⟩;rw[<-L]at P i8;have CV:=h_ L;clear L;go_wp2_with (at_builtin;refine wpList_append_own _ rfl (.tmp 32) (.tmp 36) 477 rfl f.heap.size 479 i0 (.agg #[.string ⟨#[]⟩,.int .i64 0]) 2 24 underlying477 hi bf aP be rfl (by decide) _ _ _ rfl P ⟨W2.heap.size,0,none⟩ 1 1 [.string t,.int .i64 m.p.number] rfl rfl ?c1 ?c2 ?c3 ?c4 ?c5 ?_)
     case c1=>
      intro j u d;rw[l8,m0,yD]
      match j,d with
      |0,d=>simpa using d
      |1,d=>simpa using d
     case c2=>intro u hu;simp at hu;rcases hu with rfl|rfl <;> rfl
     case c3=>unfold maxLen;omega
     case c4=>omega
     case c5=>have:=K.size;simp;omega
     intro v' w3 bJ aG _;have ao:Below f.heap.size f w3:=(K.alloc K.size _).grown aG (by have:=K.size;simp;omega) (λj d=>A.out j d);clear P aG;go_wp2;go_roundw
     case rel=>exact⟨k+1,by omega,by go_num,by rw[S.out,Q.out,Option.toList_some,xM5,b6,<-CV.out];exact bJ,ao⟩
     case measure=>simp[intOf];omega
    ·have T:∀m∈G.ms,m.p.id≠x:=λm g e=>hin ⟨m,g,e⟩
     rw[o.find_no T]at D
     have Q:Hid (ue gs x t=none):=h_ (by
      unfold ue;rw[z,Option.map_eq_none_iff,List.find?_eq_none];intro m g hx;exact T m g (by simpa using hx))
     have s:=h_ q;have E:=h_ l;clear o y H q l X N z J hin T;go_wp2_with fail;go_quiet (fail);clear q1 q2 q3 D q5 q6 U;go_wp2;go_roundw
     case rel=>exact⟨k+1,by omega,by go_num,by rw[S.out,Q.out,Option.toList_none,G5];exact s.out,below_drewN' E.out _⟩
     case measure=>simp[intOf];omega
   ·have HE:Hid (ns.take k=ns):=h_ (v6 (by omega));obtain⟨pa,pn,pc,hp⟩:∃a n c,u5=.slice a n c:=zd q;have s:=h_ q;subst hp;clear q;go_wp2;go_ret;refine⟨_,ns,rfl,?_,Y.out,Z.out,I.trans (l.mono I.size)⟩;have:=s.out;rw[HE.out]at this;exact zi this I.size
end
theorem yf {w w' F B t s n v xs}(h:w.ownsRow B t s v n xs)(c:Kept F w w')(e:∀k∈F,v.ownBlock≠some k):w'.ownsRow B t s v n xs:=by
 refine⟨h.1,?_⟩;rcases h.2 with f|⟨g,cap,cur,hv,d,a,r⟩
 ·exact .inl f
 ·exact .inr ⟨g,cap,cur,hv,d,(c.block g (i_ a).1 (λb=>e g b (by rw[hv];rfl))).trans a,r⟩
theorem jt {w:World}{B t s n v xs}(h:w.ownsRow B t s v n xs):(v=.slice none 0 0/\n=0)\/∃g cap cur,v=.slice (some ⟨g,0,none⟩) n cap/\B<=g/\g<w.heap.size/\n<=cap/\cap<=maxLen/\w.heap[g]?=some (.cells cur t (0,0))/\cur.size=cap*s/\∀j u,xs[j]?=some u->w.cell? ⟨g,j,none⟩=some u:=by
 rcases h.2 with a|⟨g,cap,cur,hv,b,f,e,d,i,c⟩
 ·exact .inl a
 grind
theorem vf {w:World}{B t s n v xs}(h:w.ownsRow B t s v n xs){k o}(b:w.heap[k]?=some o)(a:∀cs,o≠.cells cs t (0,0)):v.ownBlock≠some k:=λe=>by grind [xS,Option.some.inj]
theorem za {w g n T cs}(h:w.heap[g]?=some (.cells cs T (0,0)))(a:cs.size=n):xN w g n=true:=by grind [xN]
theorem xK9 {K:Type}{ek:K->Value}{kt et mt:TypeId}(a:prog.underlying mt=some (.map kt et)){w M l c}(h:xV ek w M l c)(ty:TypeId):(Builtin.len_ #[mt] ty #[.map (some M)]).run prog w=.ok (.int .i64 l.length) w:=by
 unfold xV at h;simp[Builtin.len_,run_underlying a,MapKept.run_getObj_map h,goInt,Result.andThen]
theorem xGg (w M o):Kept [M] w (w.putObj M o):=⟨rfl,rfl,rfl,by simp[World.putObj],λk _ a=>x6 (λe=>a (by simp[e]))⟩
theorem xHo {w w':World}{B t s n v xs}(h:w.ownsRow B t s v n xs)(ha:∀k,B<=k->k<w.heap.size->w'.heap[k]?=w.heap[k]?):w'.ownsRow B t s v n xs:=by
 refine⟨h.1,?_⟩;rcases h.2 with c|⟨g,cap,cur,hv,a,b,r⟩
 ·exact .inl c
 ·exact .inr ⟨g,cap,cur,hv,a,(ha g a (i_ b).1).trans b,r⟩
section
attribute [local go_sem ↓] xGv xNx xS0 xNy xNz vP qV vM qR qX jb
attribute [local go_sem] xHt xKm xLp xKp xh xg xe xd xx zV xq xB
attribute [local go_sem] Oper.semAt_some
structure VisI (w:World)(s b:Nat)(pre:List Yl)(X:World):Prop where
 sz:b<=X.heap.size
 i:X.heap[w.heap.size]?=some (.cells #[.int .i64 s] 3 (0,0))
 c:X.heap[w.heap.size+1]?=some (.cells (xE zer) 111 (0,0))
 bl:Below w.heap.size w X
 ne:∀x∈pre,x.2.1≠s
structure VisX (w:World)(s:Nat)(pre:List Yl)(X:World):Prop where
 bl:Below w.heap.size w X
 hit:∃p x,pre=p++[x]/\(∀y∈p,y.2.1≠s)/\x.2.1=s/\X.heap[w.heap.size+1]?=some (.cells (xE x.2.2.1) 111 (0,0))
theorem xCc {A B:World}{b k:Nat}{o row}(g:A.grownBy B row)(f:∀r,row=some r->b<=r/\∃o:Obj,A.heap[r]?=some o/\o.isCells=false)(a:A.heap[k]?=some o)(ho:o.isCells=true):B.heap[k]?=some o:=
 (g.block k (i_ a).1 (λe=>by
  obtain⟨_,o',c,d⟩:=f k e.symm;rw[a]at c;cases c;rw[ho]at d;cases d)).trans a
theorem VisI.own (w s b)(f:w.heap.size<=b):OwnFrom b (VisI w s b):=λpre A B row h a d=>
 ⟨R_ h.sz a.size,xCc a d h.i rfl,xCc a d h.c rfl,h.bl.grown a h.bl.size (λk e=>by have:=(d k e).1;omega),h.ne⟩
theorem VisX.own (w s b)(d:w.heap.size<=b):OwnFrom b (VisX w s):=λpre A B row h c a=>
 ⟨h.bl.grown c h.bl.size (λk e=>by have:=(a k e).1;omega),by
  obtain⟨p,x,h1,h2,h3,h4⟩:=h.hit;exact⟨p,x,h1,h2,h3,xCc c a h4 rfl⟩⟩
def visT (vp n0 s:Nat)(pa:Option Addr)(pn pc b0 g:Nat)(x:Yl):Array Value:=#[.pointer (some ⟨vp,0,none⟩),.int .i64 s,undef,.pointer (some ⟨n0,0,none⟩),.pointer (some ⟨n0+1,0,none⟩),undef,.pointer (some ⟨g,0,none⟩),.pointer (some ⟨vp,0,none⟩),.pointer (some ⟨vp,0,none⟩),.pointer (some ⟨vp,2,none⟩),.slice pa pn pc,
 .func (.func 243) #[] #[.pointer (some ⟨b0,0,none⟩)],.int .i64 x.1,.agg (xW x.2.1 x.2.2.1),undef,undef,undef,undef,undef,undef,undef,undef,undef,undef,undef,undef]
def VisA (b vp n0 s:Nat)(pa:Option Addr)(pn pc b0:Nat)(x:Yl)(a:Act)(X:World):Prop:=∃g,b<=g/\a={ tmps:=visT vp n0 s pa pn pc b0 g x,defers:=[] }/\X.heap[g]?=some (.cells (xW x.2.1 x.2.2.1) 115 (0,0))
theorem yBx (p q u v)(t:Array Value):(((#[p,q]:Array Tmp).zip #[u,v]).foldl (λt (p,v)=>t.setIfInBounds p v) t)=(t.setIfInBounds p u).setIfInBounds q v:=by
 simp
theorem yD6 {d:PD}{s}{xs:List Yl}(b:xs.map plain=d.pend.reverse)(a:∀x∈xs,x.2.1≠s):d.vis s=d.dur s:=by grind [PD.vis,List.find?_eq_none,List.mem_map.1,plain]
theorem yD5 {d:PD}{s k p x}(b:(p++[x]).map plain=d.pend.reverse.take k)(a:∀y∈p,y.2.1≠s)(hx:x.2.1=s):d.vis s=x.2.2.1:=by
 unfold PD.vis;grind [plain,List.take_append_drop,List.find?_eq_none,List.mem_map.1]
theorem xFj {w g T s b fr}(d:b.length=256)(h:w.heap[g]?=some (.cells (xW s b) T fr)):xp w ⟨g,1,none⟩ 256=true/\xo w ⟨g,1,none⟩ 256=xE b:=by
 have:=yl (w:=w) (a:=⟨g,1,none⟩) (cs:=encB b) (λj v c=>by
  rw[l8,cell_of_row w g (1+j) _ _ _ h];unfold xW;rw[l7,xSu,if_neg (by omega),<-c];congr 1;omega)
 rw[xQ,d]at this;exact this
def yIe (d:PD)(s:Nat)(w:World)(e:Ending)(w':World):Prop:=e=.returned (.agg (xE (d.vis s)))/\Below w.heap.size w w'
theorem xSz {B w v d}(h:yj B w v d)(s)(hs:s<d.n):Calls prog 189 #[.pointer (some ⟨v.p,0,none⟩),.int .i64 s] w (yIe d s w):=by
 obtain⟨f,Z⟩:∃f,f=(w.alloc (.cells #[.int .i64 s] 3)).alloc (.cells (xE zer) 111):=⟨_,rfl⟩;have t:Below w.heap.size w f:=by grind
 have nu:f.heap.size=w.heap.size+2:=by grind
 have J:f.heap[w.heap.size]?=some (.cells #[.int .i64 s] 3 (0,0)):=by grind
 have L:f.heap[w.heap.size+1]?=some (.cells (xE zer) 111 (0,0)):=by grind
 have fZ:=h.below t;have c2:=cell_of_row f v.p 2 _ _ _ fZ.blk;simp only[yB]at c2;obtain⟨pn,fX⟩:∃n,n=d.pend.length:=⟨_,rfl⟩;obtain⟨pa,pc,iK⟩:∃a c,v.pv=.slice a pn c:=by rw[fX];exact yK h.pend.own
 have G:=h_ h.few;have T:=h_ fX;clear fX;have Q:=h_ fZ.pend;have E:=h_ h;have R:=h_ J;have N:=h_ L;have C:=h_ t;have y:=h_ nu;have F:=h_ iK;rw[iK]at c2;have FB:f.cell? ⟨v.p,2,none⟩=some (.slice pa pn pc):=c2;rw[Z]at FB;clear c2 h t J L fZ iK nu;refine(callsIn_wide (n:=4)).1 (callsIn_of_wp_marks func189 rfl trivial ?_ rfl);simp only[ntmps189,T9,x5,L1,Nat.reduceAdd,Nat.reduceSub,aO_,aP_,bd_,aR_,E8,L2];refine wpIn_wide.2 ?_;go_wp2_with fail;rw[<-Z];clear Z FB;refine(xSe pa pn pc f).mono ?_;rintro r w1 ⟨rfl,rfl⟩;go_wp2;obtain⟨u,t⟩:∃u,u=f.heap.size:=⟨_,rfl⟩;have bP:=heap_alloc_new f (.cells #[.slice pa pn pc] 88);have j:Below f.heap.size f (f.alloc (.cells #[.slice pa pn pc] 88)):=by grind
 have aL:(f.alloc (.cells #[.slice pa pn pc] 88)).heap.size=f.heap.size+1:=by simp
 generalize f.alloc (.cells #[.slice pa pn pc] 88)=W1 at bP j aL⊢;have c0:=cell_of_row W1 f.heap.size 0 _ _ _ bP;rw[<-t]at c0⊢;have Nw:PnAt W1 B (.slice pa pn pc) d.pend:=by
  have:=Q.out;rw[F.out]at this;exact this.same j.size λk q=>j.block k (s5 this.own k q).2
 have H:=yI4 3 u B (.slice pa pn pc) d.pend W1 c0 Nw G.out (by omega);have O:=h_ H;have b:VisI w s W1.heap.size [] W1:=⟨w_ _,(j.block _ (by have:=y.out;omega)).trans R.out,(j.block _ (by have:=y.out;omega)).trans N.out,C.trans (j.mono C.size),λx hx=>by cases hx⟩;have P:=h_ b;have aj:w.heap.size<=W1.heap.size:=b.bl.size;have ot:w.heap.size+1<W1.heap.size:=by grind
 have Y:Hid (u=f.heap.size):=h_ t;clear H b Nw c0 bP j t
 refine(wpIn_wide (n:=4)).1 (wpIn_rangeFunc_ownH rfl (by omega) (gf:=243) rfl trivial (enters_of func243 (by kernel_rfl) rfl) O.out belowK_t (belowK_b (w_ _)) (z_ _ _) (λ_=>rfl)
  (VisI w s W1.heap.size) (λc pre X=>c=.ret/\VisX w s pre X) (VisI.own w s _ aj) (λc pre A B row h hg hr=>⟨h.1,VisX.own w s _ aj pre A B row h.2 hg hr⟩) P.out (VisA (w.heap.size+2) v.p w.heap.size s pa pn pc u) (λx a' _ A B row ⟨g,h0,h1,h2⟩ hg hr=>⟨g,h0,h1,xCc hg hr h2 rfl⟩) ?assign ?body ?done ?stop)
 case assign=>
  intro l pre x W K b hK;obtain⟨xi,xs,xb⟩:=x;unfold xPy;rw[yBx]
  change Code.wpIn _ _ _ _ _ { tmps:=#[.pointer (some ⟨v.p,0,none⟩),.int .i64 s,undef,.pointer (some ⟨w.heap.size,0,none⟩),.pointer (some ⟨w.heap.size+1,0,none⟩),undef,undef,.pointer (some ⟨v.p,0,none⟩),.pointer (some ⟨v.p,0,none⟩),.pointer (some ⟨v.p,2,none⟩),.slice pa pn pc,
   .func (.func 243) #[] #[.pointer (some ⟨u,0,none⟩)],.int .i64 xi,.agg (xW xs xb.1),undef,undef,undef,undef,undef,undef,undef,undef,undef,undef,undef,undef],defers:=[] } W
  have j:=(z_ W1.heap.size W).alloc b.sz (.cells (xW xs xb.1) 115);have tG:w.heap.size+2<=W.heap.size:=by grind
  have Lb:=hK { tmps:=visT v.p w.heap.size s pa pn pc u W.heap.size (xi,xs,xb),defers:=[] } (W.alloc (.cells (xW xs xb.1) 115))
   ⟨j.size,λk o _ q _=>(heap_alloc_old _ _ (i_ q).1).trans q⟩ j
   ⟨R_ b.sz j.size,(heap_alloc_old _ _ (i_ b.i).1).trans b.i,(heap_alloc_old _ _ (i_ b.c).1).trans b.c,b.bl.alloc b.bl.size _,b.ne⟩
   ⟨W.heap.size,tG,rfl,heap_alloc_new _ _⟩
  unfold visT at Lb;have mA:=h_ Lb;have S:xt 257 (xW xs xb.1)=true:=xM6 xs xb.2;have hz:(xW 0 zer).size=257:=rfl;clear hK Lb j b tG O P F E Q R N C y G T Y
  gi_wp2
  exact mA.out
 case body=>
  intro l pre x a' W hl hL b hA fL;obtain⟨xi,xs,xb⟩:=x;obtain⟨g,hg2,rfl,Hh⟩:=hA;unfold visT;obtain⟨o1,d1⟩:=xFj (w:=W) (g:=g) xb.2 Hh;have c6:W.cell? ⟨g,0,none⟩=some (.int .i64 xs):=cell_of_row W g 0 _ _ _ Hh;have c3:=cell_of_row W w.heap.size 0 _ _ _ b.i;have U:=za b.c (show (xE zer).size=256 from rfl);have S:xt 256 (xE xb.1)=true:=kO xb.2;have cP:=setRow_heap W (w.heap.size+1) _ (xE xb.1) _ _ b.c;have fg:=h_ cP;have m:=h_ b;have HL:=h_ hL;have oB:=h_ hl;clear hL hl b Hh fL O P F E Q R N C y G T Y cP;simp only at c6 o1 d1 S fg⊢;by_cases hq:xs=s
  ·subst hq
   gi_wp2
   refine⟨⟨by simp[World.setRow],λk o q ho _=>(setRow_other _ _ _ _ (by omega)).trans ho⟩,rfl,xH m.bl (by omega) _,pre,(xi,xs,xb),rfl,m.ne,rfl,fg.out⟩
  ·have hqz:((xs:Int)==s)=false:=by grind
   gi_wp2
   refine⟨KeepsFrom.refl _ _,z_ _ _,m.sz,m.i,m.c,m.bl,λx hx=>?_⟩;rcases m3.1 hx with hx|hx
   ·exact m.ne x hx
   grind
 case done=>
  intro D xs W hD hS b hK;have V:=E.below b.bl;have Iw:d.vis s=d.dur s:=yD6 hS b.ne;have I:∀z:xf W,(Instr.lookup 87 (.map (some v.M)) (.int .i64 s) false).run prog z.1=.ok (.agg (xE (d.vis s))) z.1:=λz=>by
   have h1:=xGc keyN underlying87 (.agg (xE zer)) xSs z.1 v.M v.es v.mc (by have:=V.map;unfold xV at this⊢;exact(z.2.block _ (i_ this).1).trans this) (s:Int);have h2:((yG (s:Int) v.es 0).map (·.2)).getD (.agg (xE zer))=.agg (xE (d.vis s)):=by rw[Iw];exact V.dur s
   grind
  have cH:∀z:xf W,z.1.cell? ⟨v.p,1,none⟩=some (.map (some v.M)):=λz=>z.cell (cell_of_row W v.p 1 _ _ _ V.blk)
  have aB:∀z:xf W,z.1.cell? ⟨w.heap.size,0,none⟩=some (.int .i64 s):=λz=>z.cell (cell_of_row W w.heap.size 0 _ _ _ b.i)
  have U:xN W (w.heap.size+1) 256=true:=za b.c (show (xE zer).size=256 from rfl);have an:(d.vis s).length=256:=by rw[Iw];exact E.durL s
  have S:xt 256 (xE (d.vis s))=true:=kO an;have m:=h_ b;have HK:=h_ hK;have pT:w.heap.size+1<D:=by omega
  generalize iG:xE (d.vis s)=cv at I S;have Ny:=h_ iG;have fV:=h_ an;clear iG an Iw b hK hS V O P F E Q R N C y G T Y;go_wp2;refine xz [0,1,2,3,4,5] [6] (λw'=>∃z:xf W,w'=z.1) ⟨⟨_,(z_ _ _).drew⟩,rfl⟩ ?_;simp only[o_]
  repeat (go_big_quiet_step (fail))
  refine wpQuiet_nil ?_;clear I cH aB;refine yE ?_;simp only[o_];go_wp2;refine T_ ?_;go_wp2;have nJ:(W.setRow (w.heap.size+1) cv).drew.heap[D]?=some (.deferred (some [])):=by grind
  refine⟨by simp,.inl ⟨_,_,rfl,run_takeDeferred nJ,?_⟩⟩;have UN:(((W.setRow (w.heap.size+1) cv).drew).putObj D (.deferred none)).heap[w.heap.size+1]?=some (.cells cv 111 (0,0)):=(x6 (by omega)).trans (setRow_heap W _ _ _ _ _ m.c);have az:Below w.heap.size w (((W.setRow (w.heap.size+1) cv).drew).putObj D (.deferred none)):=(xH m.bl (by omega) cv).drew.grown (grownBy_putObj' _ D _) (xH m.bl (by omega) cv).drew.size (λk e=>by cases e;omega);refine⟨.agg cv,results_cell_row results189 _ _ (w.heap.size+1) _ _ _ _ rfl UN underlying111 rfl (by rw[<-Ny.out];unfold xE;rw[T9,xQ,fV.out];kernel_rfl),by rw[Ny.out],az⟩
 case stop=>
  rintro D c pre W hD hSp⟨rfl,hX⟩ hK;obtain⟨p,x,rfl,hp,wL,U⟩:=hX.hit;obtain⟨k,q⟩:=hSp;have HV:=h_ (yD5 q hp wL);have HK:=h_ hK;have HB:=h_ hX.bl;have HR:=h_ U;have pT:w.heap.size+1<D:=by omega
  clear q hK hX U O P F E Q R N C y G T Y;refine wpIn_wide.2 ?_;go_wp2;refine⟨by simp,.inl ⟨_,_,rfl,run_takeDeferred HK.out,?_⟩⟩;have UN:(W.putObj D (.deferred none)).heap[w.heap.size+1]?=some (.cells (xE x.2.2.1) 111 (0,0)):=by grind
  have az:Below w.heap.size w (W.putObj D (.deferred none)):=by grind
  refine⟨.agg (xE x.2.2.1),results_cell_row results189 _ _ (w.heap.size+1) _ _ _ _ rfl UN underlying111 rfl (by unfold xE;rw[T9,xQ,x.2.2.2];kernel_rfl),by rw[HV.out],az⟩
end
section
attribute [local go_sem ↓] vP qV vM qR qX jb
attribute [local go_sem] xHt xKm xLp xKp xh xg xe xd xx zV xq xB
theorem xYy {B w v d}(h:yj B w v d)(s):(d.vis s).length=256:=by
 unfold PD.vis;cases hf:d.pend.reverse.find? (λp=>p.1==s) with
 |none=>exact h.durL s
 |some p=>exact h.pend.len p (List.mem_reverse.1 (List.mem_of_find?_eq_some hf))
def yGl (d:PD)(s:Nat)(w:World)(e:Ending)(w':World):Prop:=Below w.heap.size w w'/\∃g,e=.returned (.tuple #[.slice (some ⟨g,0,none⟩) 256 256,.int .i64 0])/\w.heap.size<=g/\w'.heap[g]?=some (.cells (xE (d.vis s)) 111 (0,0))
theorem yE2 {B w v d}(h:yj B w v d)(s)(hs:s<d.n)(g:d.down=false):Calls prog 147 #[.pointer (some ⟨v.p,0,none⟩),.int .i64 s] w (yGl d s w):=by
 have l:=cell_of_row w v.p 6 _ _ _ h.blk;simp only[yB,g]at l;have f:=xZo h (s:Int);rw[decide_eq_true (show (0:Int)<=s/\(s:Int)<d.n by omega)]at f;have q:=h_ f;have o:=h_ (xSz h s hs);have k:=kO (xYy h s);clear h f hs g;go_enter func147,ntmps147;go_wp2_with fail;refine q.mono ?_;rintro e b ⟨rfl,rfl⟩;go_wp2_with fail;refine o.mono ?_;rintro e b ⟨rfl,a⟩;have t:(xE zer).size=256:=rfl;have j:=h_ (a.alloc a.size (.cells (xE (d.vis s)) 111));have r:=h_ a.size;have i:=h_ (heap_alloc_new b (.cells (xE (d.vis s)) 111));clear a;obtain⟨cv,c⟩:∃cv,cv=xE (d.vis s):=⟨_,rfl⟩;rw[<-c]at k j i⊢;have m:=h_ c;clear c;go_wp2;go_ret2;exact⟨j.out,b.heap.size,rfl,r.out,by rw[<-m.out];exact i.out⟩
end
section
theorem xC1 {place:Nat->Option (Nat×Nat)}{cells i off size v rest}(a:place i=some (off,size))(hs:v.cells.size=size)(b:off+size<=cells.size):
  Instr.fill place cells ((i,v) :: rest)=Instr.fill place (v.cells.zipIdx.foldl (λcs (c,j)=>cs.setIfInBounds (off+j) c) cells) rest:=by
 rw[Instr.fill,a];simp only[hs];rw[if_neg];simp;omega
theorem zo {P t w parts cells}(h:P.built t parts.toList=some cells):zl P t w parts=.ok (.value (.agg cells)) w:=by
 unfold zl;rw[G9,run_build w t parts cells h];rfl
theorem zerL:zer.length=256:=bb_
theorem yH5 (a s:Nat)(b):(xW a b).setIfInBounds 0 (.int .i64 s)=xW s b:=by simp[xW,zF]
theorem yFg (A:Array Value)(z):(Value.int .i64 z).cells.zipIdx.foldl (λcs (c,j)=>cs.setIfInBounds (0+j) c) A=A.setIfInBounds 0 (.int .i64 z):=rfl
def yHc (i:Nat):Option (Nat×Nat):=#[(0,1),(1,256)][i]?
theorem yJz (parts):prog.built 115 parts=Instr.fill yHc (xW 0 zer) parts:=by kernel_rfl
theorem yHa (s){b}(a:b.length=256):(xE b).zipIdx.foldl (λcs (c,j)=>cs.setIfInBounds (1+j) c) (xW s zer)=xW s b:=by
 have h:=xG5 (encB b) 0 1 [.int .i64 s] (encB zer) [] rfl (by rw[xQ,xQ,a,zerL]);grind [xE,Array.toList_zipIdx,xW,zF]
theorem xAw {s b}(h:b.length=256):(xW s b).size=257:=by unfold xW;rw[T9];exact uN h
theorem yK7 (w)(s:Nat){b}(a:b.length=256):zl prog 115 w #[(0,.int .i64 s),(1,.agg (xE b))]=.ok (.value (.agg (xW s b))) w:=zo (by
 show prog.built 115 [(0,.int .i64 s),(1,.agg (xE b))]=_
 rw[yJz];rw[xC1 (off:=0) (size:=1) rfl rfl (by rw[xAw zerL];omega)];have e:=(yFg (xW 0 zer) (s:Int)).trans (yH5 0 s zer);rw[e];rw[xC1 (off:=1) (size:=256) (v:=.agg (xE b)) rfl (by unfold xE;rw[show (Value.agg (encB b).toArray).cells=(encB b).toArray from rfl,T9,xQ,a]) (by rw[xAw zerL];omega)];show Instr.fill _ ((xE b).zipIdx.foldl (λcs (c,j)=>cs.setIfInBounds (1+j) c) _) _=_
 rw[yHa s a];rfl)
theorem xC7 (ρ:Operand->Value)(d b a)(ty:TypeId)(pos af gd w):
  Sem.run prog (execOp ρ ⟨d,.build 115 #[(0,b),(1,a)],ty,pos,af,gd⟩) w=zl prog 115 w #[(0,ρ b),(1,ρ a)]:=by kernel_rfl
theorem yKe (w a c):(Instr.arrayAt 111 (.slice (some a) 256 c)).run prog w=.ok (.pointer (some a)) w:=by
 unfold Instr.arrayAt;simp
theorem xI3 (ρ:Operand->Value)(d x)(ty:TypeId)(pos af g w):
  Sem.run prog (execOp ρ ⟨d,.buildSlice 88 1 #[(0,x)],ty,pos,af,g⟩) w=xCl prog 88 w (ρ x):=by kernel_rfl
theorem yK5 (w s){b}(e:b.length=256):xCl prog 88 w (.agg (xW s b))=.ok (.value (.slice (some ⟨w.heap.size,0,none⟩) 1 1)) (w.alloc (.cells (xW s b) 115)):=by
 obtain⟨c,d,f,a,g⟩:=info_parts Tryz.info_wri;unfold xCl
 rw[G9,run_buildSlice w 88 115 1 _ (xW s b) c _ underlying88 d f (by rw[a];decide) (by rw[a];decide) (by
  rw[a];exact xDg _ _ 257 (xAw e) (by rw[Array.size_map,Array.size_range]))]
 rfl
attribute [local go_sem ↓] vP qV vM qR qX jb xC7 xI3
attribute [local go_sem] xHt xKm xLp xKp xh xg xe xd xx zV xq xB
theorem yBc (d:PD):d.oper.1.pend=d.pend:=by grind [PD.oper]
theorem yAc {B w w' v d v' n s b}(h:yj B w v d)(f:w.grownBy w' v.pv.ownBlock)(m:n=d.pend.length)(ho:w'.ownsRow B 115 257 v' (n+1) (xEu d.pend++zF s b))(C:v'.ownBlock=v.pv.ownBlock\/v'.ownBlock=some w.heap.size)(z:d.pend.length<1000000)(A:b.length=256):
  (w'.heap[v.p]?=some (.cells (yB v d) 90 (0,0))/\w'.heap[v.M]?=w.heap[v.M]?/\w.heap.size<=w'.heap.size) /\
  yj B (w'.setCell ⟨v.p,2,none⟩ v') { v with pv:=v' } { d with pend:=d.pend++[(s,b)] }:=by
 subst m;have a:=h.p_ne;have c:v.p<w.heap.size:=(i_ h.blk).1;have i:w'.heap[v.p]?=some (.cells (yB v d) 90 (0,0)):=(f.block _ c (λe=>(a.2 _ e.symm).1 rfl)).trans h.blk;have o:w'.heap[v.M]?=w.heap[v.M]?:=f.block _ h.map.lt (λe=>(a.2 _ e.symm).2 rfl);have l:∀k,v'.ownBlock=some k->k≠v.p:=λk y e=>by grind
 refine⟨⟨i,o,f.size⟩,?_,h.lim,?_,?_,h.dur,h.durL,⟨?_,?_⟩,h.n1,h.n2,?_,h.pB,h.MB⟩
 ·rw[heap_setCell_same w' v.p 2 _ _ v' i];rfl
 ·simp
 ·have u:=h.map;grind [xV]
 ·have e:xEu (d.pend++[(s,b)])=xEu d.pend++zF s b:=by simp[xEu]
  simp only[b6,List.length_singleton];rw[e];refine⟨ho.1,?_⟩;rcases ho.2 with q|⟨g,cap,cur,hv,j,t,r⟩
  ·exact .inl q
  ·exact .inr ⟨g,cap,cur,hv,j,(heap_setCell_other w' ⟨v.p,2,none⟩ g v' (l g (by rw[hv];rfl))).trans t,r⟩
 ·intro x hx;rcases m3.1 hx with hx|hx
  ·exact h.pend.len x hx
  grind
 ·grind
def xIb (B:Nat)(v:Dev)(d:PD)(s:Nat)(b:By)(w:World)(e:Ending)(w':World):Prop:=
 e=.returned (.int .i64 (if (d.write s b).2 then 0 else 28))/\Kept v.foot w w'/\∃v',v'.p=v.p/\v'.M=v.M/\yj B w' v' (d.write s b).1/\∀k∈v'.foot,k∈v.foot\/w.heap.size<=k
def WrC (p:Nat)(pv:Value):Type:={ z:World // z.cell? ⟨p,2,none⟩=some pv }
theorem yJ7 {w a b}(h:SlB w a b)(e:b.length=256):xp w a 256=true/\xo w a 256=xE b:=by
 have:=yl (w:=w) (a:=a) (cs:=encB b) (λj v c=>by
  have d:j<b.length:=by grind [Nat.lt_or_ge,List.getElem?_eq_none,xQ]
  rw[vr b j d]at c;cases c;exact h.cell j _ (U_ d))
 rw[xQ,e]at this;exact this
theorem yAd {B w v d}(h:yj B w v d)(s)(hs:s<d.n)(N:d.down=false)(bO:d.pend.length<1000000)(a b c)(A:b.length=256)(cm:SlB w a b)(ha:a.block≠v.p)(hB:B<=w.heap.size):
  Calls prog 154 #[.pointer (some ⟨v.p,0,none⟩),.int .i64 s,.slice (some a) 256 c] w (xIb B v d s b w):=by
 have c6:=cell_of_row w v.p 6 _ _ _ h.blk;simp only[yB,N]at c6;have M:=xZo h (s:Int);rw[decide_eq_true (show (0:Int)<=s/\(s:Int)<d.n by omega)]at M;have HH:=h_ M;have HO:=h_ (xIx h);have HD:=h_ h;have tA:=h_ cm;have D2:=h_ N;clear h M hs cm N;go_enter func154,ntmps154;go_wp2_with fail;refine HH.mono ?_;rintro e g ⟨rfl,rfl⟩;go_wp2_with fail;refine HO.mono ?_;rintro e g ⟨rfl,f,ops,lim,o⟩;obtain⟨ok,D⟩:∃ok,ok=d.oper.2:=⟨_,rfl⟩;rw[<-D];cases ok with
 |false=>
  have q:d.write s b=(d.oper.1,false):=by grind [PD.write]
  have R:=h_ (show xIb B v d s b w (.returned (.int .i64 28)) g from ⟨by rw[q];rfl,f.mono (λk i _=>by rw[S_.1 i];exact v.p_foot),{ v with ops:=ops,lim:=lim },rfl,rfl,by rw[q];exact o,λk i=>.inl i⟩);clear q f o D;go_wp2;go_ret;exact R.out
 |true=>
  have q:d.write s b=({ d.oper.1 with pend:=d.oper.1.pend++[(s,b)] },true):=by grind [PD.write]
  have HW:=h_ q;have eO:=h_ D;have Bf:=h_ f;have mU:=h_ o;obtain⟨pn,O⟩:∃n,n=d.oper.1.pend.length:=⟨_,rfl⟩;obtain⟨pa,pc,K⟩:∃a c,v.pv=.slice a pn c:=by rw[O];exact yK o.pend.own
  have Q:=cell_of_row g v.p 2 _ _ _ o.blk;simp only[yB]at Q;have I:g.cell? ⟨v.p,2,none⟩=some v.pv:=Q
  have V:SlB g a b:=⟨λj c L=>by
   have:=tA.cell j c L;have hl:=block_lt_of_cell this;rw[<-this];unfold World.cell?;have e:(a.add j).block=a.block:=xY ..;rw[f.block _ hl (by rw[e];simpa using ha)]⟩
  obtain⟨C,F⟩:=yJ7 V A;have z1:∀z:WrC v.p (.slice pa pn pc),z.1.cell? ⟨v.p,2,none⟩=some (.slice pa pn pc):=λz=>z.2
  have az:∀u,zl prog 115 u #[(0,.int .i64 s),(1,.agg (xE b))]=.ok (.value (.agg (xW s b))) u:=by grind [yK7]
  have ZW:=h_ O;have x:=h_ K;rw[K]at I;have t:=h_ I;have T:=h_ (And.intro C F);clear q D f o O Q I V C F K;go_upto_region 11 with fail
  haveI:Nonempty (WrC v.p (.slice pa pn pc)):=⟨⟨g,t.out⟩⟩
  refine xz [0,1,2,3,4,5,6] [7,8,9,10,11,12,13,14] (λw'=>∃z:WrC v.p (.slice pa pn pc),w'=z.1) ⟨⟨g.drew,t.out⟩,rfl⟩ ?_;simp only[o_]
  repeat (go_big_quiet_step (fail))
  refine wpQuiet_nil ?_;clear z1;have C:=T.1;have F:=T.2;have cV:=yKe g.drew a c;refine yo true ?_;simp only[o_];go_wp2;refine⟨λ_=>⟨⟨g.drew,t.out⟩,rfl⟩,yo true ?_⟩;simp only[o_];go_wp2;refine⟨λ_=>⟨⟨g.drew,t.out⟩,rfl⟩,yo true ?_⟩;simp only[o_];go_wp2;refine⟨λ_=>⟨⟨g.drew,t.out⟩,rfl⟩,yo true ?_⟩;simp only[o_];have gX:=yK5 g.drew s A;go_wp2;clear cV gX C F az;have E:Below g.heap.size g (g.alloc (.cells (xW s b) 115)).drew:=by grind
  have P:(g.alloc (.cells (xW s b) 115)).drew.heap[g.heap.size]?=some (.cells (xW s b) 115 (0,0)):=by grind
  generalize (g.alloc (.cells (xW s b) 115)).drew=w2 at E P⊢;have y:=mU.below E;have bC:=y.blk;have bD:w2.cell? ⟨v.p,2,none⟩=some (.slice pa pn pc):=by grind
  have ae:=y.pend.own;rw[<-ZW.out]at ae;have bJ:w2.ownsRow B 115 257 (.slice pa pn pc) pn (xEu d.oper.1.pend):=by grind
  obtain⟨i0,Y,bf,aP,be⟩:=info_parts Tryz.info_wri;have U:∀j u,(zF s b)[j]?=some u->w2.cell? ((⟨g.heap.size,0,none⟩:Addr).add j)=some u:=λj u L=>by
   rw[l8,m0,cell_of_row w2 g.heap.size j _ _ _ P];simpa[xW]using L
  have W:pn<1000000:=by grind [yBc]
  have Nz:d.oper.1.pend.length<1000000:=by grind
  have du:=h_ bJ;have NA:=h_ U;have Z:=h_ E;have oU:=h_ y;have dD:B<=w2.heap.size:=by grind
  have G:=h_ (And.intro Y (And.intro bf (And.intro aP be)));have dV:=h_ bD;clear ae bJ U E y P bC Y bf aP be bD;refine⟨λ_=>⟨⟨w2,dV.out⟩,rfl⟩,yo true ?_⟩;simp only[o_];go_wp2_with (at_builtin;refine wpList_append_own_at _ rfl (.tmp 32) (.tmp 38) 88 rfl B 115 i0 (.agg (xW 0 zer)) 257 264 underlying88 G.1 G.2.1 G.2.2.1 G.2.2.2 (xAw zerL) (by decide) _ pn (xEu d.oper.1.pend) rfl du.out ⟨g.heap.size,0,none⟩ 1 1 (zF s b) rfl (uN A) NA.out (xIi s b) ?cA ?cB dD ?_)
  case cA=>unfold maxLen;omega
  case cB=>omega
  intro v' l S m bI H;have aC:=h_ (yAc oU.out (x.out▸m) ZW.out S (x.out▸H) Nz A);obtain⟨J,Sa,aG⟩:=aC.1;have oR:=cell_of_row l v.p 2 _ _ _ J;have mr:=frozen_of_row l v.p 2 _ _ J;have NB:l.cell? ⟨v.p,2,none⟩=some (.slice pa pn pc):=by grind [yB]
  obtain⟨va,vc,rfl⟩:=yK S;have UO:=h_ NB;have AS:Kept v.foot w l:=by
   have r:=Z.out;have f:=Bf.out;refine⟨m.os.trans (r.os.trans f.os),m.tape.trans (r.tape.trans f.tape),m.output.trans (r.output.trans f.output),R_ f.size (R_ r.size m.size),λk i X=>?_⟩;have e1:=f.block k i (λh=>X (by rw[S_.1 h];exact v.p_foot));have e2:=r.block k (b7 i f.size);have e3:=m.block k (b7 i (R_ f.size r.size)) (λe=>X (v.pv_foot (by rw[x.out];exact e.symm)));exact e3.trans (e2.trans e1)
  have R:=h_ (show xIb B v d s b w (.returned (.int .i64 0)) (l.setCell ⟨v.p,2,none⟩ (.slice va (pn+1) vc)) from
   ⟨by rw[HW.out];rfl,AS.trans (qC l v.p 2 _) (λk i=>.inl (by rw[S_.1 i];exact v.p_foot)),{ v with pv:=.slice va (pn+1) vc,ops:=ops,lim:=lim },rfl,rfl,by rw[HW.out];exact aC.2,λk i=>by
    simp only[Dev.foot,L2,E8,g8,R2]at i;rcases i with rfl|rfl|i
    ·exact .inl v.p_foot
    ·exact .inl v.M_foot
    ·rcases H with h|h
     ·exact .inl (v.pv_foot (by rw[x.out,<-h];exact i))
     ·have h2:k=w2.heap.size:=by grind
      have:=Z.size;have:=Bf.size;exact .inr (by omega)⟩)
  clear AS NB H bI m S J Sa aG;go_wp2_with fail;refine⟨λ_=>⟨⟨l,UO.out⟩,rfl⟩,yE ?_⟩;simp only[o_];simp only[yB]at oR;go_wp2;refine T_ ?_;go_wp2;go_ret;exact R.out
end
section
attribute [local go_sem ↓] vP qV vM qR qX jb xC7 xI3
attribute [local go_sem] xHt xKm xLp xKp xh xg xe xd xx zV xq xB
def durK (d:PD)(k:Nat)(s:Nat):By:=match (d.pend.take k).reverse.find? (λp=>p.1==s) with
 |some p=>p.2
 |none=>d.dur s
theorem yFs (d):durK d d.pend.length=d.vis:=by grind [durK,PD.vis,List.take_length]
theorem yC9 (d):durK d 0=d.dur:=by grind [durK]
theorem yCa (d k)(a:k<d.pend.length)(s):durK d (k+1) s=if s=d.pend[k].1 then d.pend[k].2 else durK d k s:=by
 unfold durK;grind [List.take_succ_eq_append_getElem,List.reverse_append,List.reverse_singleton,List.singleton_append]
theorem yj.putM {B w v d}(h:yj B w v d)(k b)(i:b.length=256)(f:Nat->By)(c:∀s,f s=if s=k then b else d.dur s):
  yj B (w.putObj v.M (.map ((putL (k:Int) (.agg (xE b)) v.mc v.es).map (enE ekN)).toArray (putC (k:Int) v.mc v.es))) { v with es:=putL (k:Int) (.agg (xE b)) v.mc v.es,mc:=putC (k:Int) v.mc v.es } { d with dur:=f }:=by
 have a:=h.p_ne;refine⟨(x6 a.1).trans h.blk,h.lim,h.nilp,h.map.put,λs=>?_,λs=>?_,h.pend.same (by simp[World.putObj]) (λj g=>x6 (λe=>(a.2 j g).2 e.symm)),h.n1,h.n2,h.few,h.pB,h.MB⟩
 ·show (getK (s:Int) (putL (k:Int) (.agg (xE b)) v.mc v.es)).getD _=.agg (xE (f s))
  rw[xDc,c];by_cases e:s=k
  ·grind
  ·rw[if_neg (by omega),if_neg e];exact h.dur s
 ·show (f s).length=256
  rw[c];split
  ·exact i
  ·exact h.durL s
theorem yj.noPend {B w v d}(h:yj B w v d):yj B (w.setCell ⟨v.p,2,none⟩ (.slice none 0 0)) { v with pv:=.slice none 0 0 } { d with pend:=[] }:=by
 have a:=h.p_ne;refine⟨?_,h.lim,λ_=>rfl,?_,h.dur,h.durL,⟨D1 _ _ _ _,λx hx=>by cases hx⟩,h.n1,h.n2,n3 _,h.pB,h.MB⟩
 ·rw[heap_setCell_same w v.p 2 _ _ _ h.blk];rfl
 ·have b:=h.map;grind [xV]
def xIf (B:Nat)(v:Dev)(d:PD)(w:World)(e:Ending)(w':World):Prop:=
 e=.returned (.int .i64 (if d.flush.2 then 0 else 28))/\Kept v.foot w w'/\∃v',v'.p=v.p/\v'.M=v.M/\yj B w' v' d.flush.1/\∀k∈v'.foot,k∈v.foot\/w.heap.size<=k
structure FlSt (B:Nat)(w:World)(v:Dev)(d:PD)(v1:Dev)(d1:PD)(k:Nat)(W:World):Prop where
 kept:Kept v.foot w W
 at':∃es mc,yj B W { v1 with es:=es,mc:=mc } { d1 with dur:=durK d1 k }
theorem xI0 {B w v d}(h:yj B w v d)(K:d.down=false):
  Calls prog 85 #[.pointer (some ⟨v.p,0,none⟩)] w (xIf B v d w):=by
 have c6:=cell_of_row w v.p 6 _ _ _ h.blk;simp only[yB,K]at c6;have HO:=h_ (xIx h);have D2:=h_ K;clear h K;go_enter func85,ntmps85;go_wp2_with fail;refine HO.mono ?_;rintro e y ⟨rfl,f,ops,lim,A⟩;obtain⟨ok,O⟩:∃ok,ok=d.oper.2:=⟨_,rfl⟩;rw[<-O];cases ok with
 |false=>
  have q:d.flush=(d.oper.1,false):=by grind [PD.flush]
  have R:=h_ (show xIf B v d w (.returned (.int .i64 28)) y from ⟨by rw[q];rfl,f.mono (λk l _=>by rw[S_.1 l];exact v.p_foot),{ v with ops:=ops,lim:=lim },rfl,rfl,by rw[q];exact A,λk l=>.inl l⟩);clear q f A O;go_wp2;go_ret;exact R.out
 |true=>
  have q:d.flush=(d.oper.1.flushed,true):=by grind [PD.flush]
  have Q:=h_ q;have Bf:=h_ f;have o:=h_ A;obtain⟨b,C⟩:∃b:Dev,b={ v with ops:=ops,lim:=lim }:=⟨_,rfl⟩;obtain⟨d1,N⟩:∃d1,d1=d.oper.1:=⟨_,rfl⟩;rw[<-C,<-N]at o;rw[<-N]at Q;obtain⟨pn,E⟩:∃n,n=d1.pend.length:=⟨_,rfl⟩;obtain⟨pa,pc,V⟩:∃a c,b.pv=.slice a pn c:=by rw[E];exact yK o.pend.own
  have U:b.p=v.p:=by rw[C]
  have Z:=cell_of_row y b.p 2 _ _ _ o.blk;simp only[yB]at Z;have oT:y.cell? ⟨v.p,2,none⟩=some (.slice pa pn pc):=by grind
  have hpl:pn<=1000000:=by rw[E];exact o.few
  have UP:(pn:Int)<=1000000:=by omega
  have t:=h_ C;have FA:=h_ E;have oS:=h_ V;have T:=h_ U;have a_:Hid (FlSt B w v d b d1 0 y):=h_ ⟨f.mono (λk l _=>by rw[S_.1 l];exact v.p_foot),b.es,b.mc,by rw[yC9];exact o.out⟩;clear q O f A C N E V U Z;go_wp2;go_loopw [21] (λu wr=>∃k:Nat,u=.int .i64 k/\k<=pn/\Hid (FlSt B w v d b d1 k wr)) (λu _=>pn-(intOf u).toNat)
  case atStart=>exact⟨0,rfl,n3 _,a_⟩
  case round=>
   obtain⟨k,rfl,l,HS⟩:=hrel;by_cases hlt:k<pn
   ·have aM:(k:Int)<pn:=by omega
    obtain⟨es,mc,m⟩:=HS.at';have P:k<d1.pend.length:=by grind
    obtain⟨g,NC,dI,ak⟩:∃g,pa=some ⟨g,0,none⟩/\g<wr.heap.size/\∀i u,(zF d1.pend[k].1 d1.pend[k].2)[i]?=some u->wr.cell? ⟨g,k*257+i,none⟩=some u:=by
     rcases m.pend.at with⟨_,h0⟩|⟨g,cap,h1,_,h2,_,_,h3⟩
     ·grind
     grind
    subst NC;have r:d1.pend[k].2.length=256:=o.pend.len _ (L3 P);obtain⟨o1,J⟩:=xWk (w:=wr) (g:=g) (off:=k*257) r ak;have G:=yCa d1 k P;obtain⟨⟨xs,xb⟩,hx⟩:∃x,x=d1.pend[k]:=⟨_,rfl⟩;rw[<-hx]at r J G;simp only at r J G;have UQ:=xM6 xs r;have hz:(xW 0 zer).size=257:=xAw zerL;have cz:=h_ G;have S:=h_ m;have X:=h_ r;clear ak m G hx P r;go_upto_region 9 with fail
    clear o1 J UQ hz;have H:=heap_alloc_new wr (.cells (xW xs xb) 115);have I:Below wr.heap.size wr (wr.alloc (.cells (xW xs xb) 115)):=by grind
    obtain⟨j,L⟩:∃j,j=wr.alloc (.cells (xW xs xb) 115):=⟨_,rfl⟩;refine xm L ?_;rw[<-L]at H I;clear L;have D:=S.below I;have z1:∀z:xf j,z.1.cell? ⟨v.p,1,none⟩=some (.map (some b.M)):=λz=>z.cell (by rw[<-T.out];exact cell_of_row j b.p 1 _ _ _ D.blk)
    have z2:∀z:xf j,z.1.cell? ⟨wr.heap.size,0,none⟩=some (.int .i64 xs):=λz=>z.cell (cell_of_row j wr.heap.size 0 _ _ _ H)
    have UR:=xFj X.out H;have z3:∀z:xf j,xp z.1 ⟨wr.heap.size,1,none⟩ 256=true:=by grind [xf.ok]
    have z4:∀z:xf j,xo z.1 ⟨wr.heap.size,1,none⟩ 256=xE xb:=by grind [xf.rd]
    have ci:=xBu keyN underlying87 j.drew b.M es mc D.map (xs:Int) (.agg (xE xb));have FC:=(D.below (z_ _ j).drew).putM xs xb X.out (durK d1 (k+1)) cz.out;have Y:Kept v.foot w (j.drew.putObj b.M (.map ((putL (xs:Int) (.agg (xE xb)) mc es).map (enE ekN)).toArray (putC (xs:Int) mc es))):=by
     have hM:b.M∈v.foot:=by rw[t.out];exact v.M_foot
     have h2:Kept v.foot w j:=HS.kept.trans (Kept.of_below (F:=[]) I) (λ_ h=>by cases h);grind
    have HN:Hid (FlSt B w v d b d1 (k+1) (j.drew.putObj b.M (.map ((putL (xs:Int) (.agg (xE xb)) mc es).map (enE ekN)).toArray (putC (xs:Int) mc es)))):=h_ ⟨Y,_,_,FC⟩;clear Y FC UR D H I;refine xz [0,1,2,3,4,5,6,7] [8] (λw'=>∃z:xf j,w'=z.1) ⟨⟨_,(z_ _ _).drew⟩,rfl⟩ ?_;simp only[o_]
    repeat (go_big_quiet_step (fail))
    refine wpQuiet_nil ?_;clear z1 z2 z3 z4;refine yE ?_;simp only[o_];generalize j.drew.putObj b.M (.map ((putL (xs:Int) (.agg (xE xb)) mc es).map (enE ekN)).toArray (putC (xs:Int) mc es))=W3 at ci HN;go_wp2;refine T_ ?_;clear ci;have f:k+1<=pn:=hlt;go_wp2;go_roundw
    case rel=>exact⟨k+1,by go_num,f,HN⟩
    case measure=>simp[intOf];omega
   ·obtain rfl:k=pn:=by omega
    obtain⟨es,mc,m⟩:=HS.at';have D3:=m.noPend;have ND:=cell_of_row wr b.p 2 _ _ _ m.blk;have ZX:=frozen_of_row wr b.p 2 _ _ m.blk;simp only[yB]at ND;have US:wr.cell? ⟨v.p,2,none⟩=some b.pv:=by grind
    have W:wr.frozen? ⟨v.p,2,none⟩=false:=by grind
    have s:({ d1 with dur:=durK d1 k,pend:=[] }:PD)=d1.flushed:=by unfold PD.flushed;rw[FA.out,yFs]
    have R:=h_ (show xIf B v d w (.returned (.int .i64 0)) (wr.setCell ⟨v.p,2,none⟩ (.slice none 0 0)) from
     ⟨by rw[Q.out];rfl,HS.kept.trans (qC wr v.p 2 _) (λk l=>.inl (by rw[S_.1 l];exact v.p_foot)),{ b with es:=es,mc:=mc,pv:=.slice none 0 0 },by rw[t.out],by rw[t.out],by rw[Q.out];rw[<-s,<-T.out];exact D3,λk l=>by
      simp only[Dev.foot,L2,E8,g8,R2]at l;rcases l with rfl|rfl|l
      ·rw[t.out];exact .inl v.p_foot
      ·rw[t.out];exact .inl v.M_foot
      ·cases l⟩)
    rw[oS.out]at US;clear m D3 ND ZX s;go_wp2;go_ret;exact R.out
end
theorem yJr {B w ib M mc gs}(h:y5 B w ib M gs mc)(t):((xC gs t).map λm=>m.p.id).Nodup:=by
 by_cases hne:xC gs t=[]
 ·rw[hne];exact .nil
 ·obtain⟨G,a,e,_⟩:=vD hne;rw[e];exact(h.grps G (yH a).1).ids
def xEo (ms:List ML)(x:Id32):List ML:=ms.filter λm=>decide (m.p.id≠x)
theorem xVm:∀{ms:List ML} {i:Nat} {m:ML},(ms.map λm=>m.p.id).Nodup->ms[i]?=some m->ms.eraseIdx i=xEo ms m.p.id
 |a :: ms,0,m,c,b=>by
  rw[t1,ag_]at b;subst b;rw[t8,U0]at c;unfold xEo;grind [List.filter_cons_of_neg,List.tail_cons,List.filter_eq_self.2,List.mem_map.2]
 |a :: ms,i+1,m,c,b=>by
  rw[t8,U0]at c;rw[m8]at b;have:a.p.id≠m.p.id:=by grind
  unfold xEo;rw[aU_,List.filter_cons_of_pos (by simpa using this),xVm c.2 b];rfl
end Go.Proofs.YtdhapkeimaljfaaGreatDoor
namespace Go.Proofs.YtdhapkeimaljfaaGreatDoor
open Go Go.RowKit Go.Proofs Tryz
open Go.ChangeMaps (setBlock)
theorem ui.slice {B w G}(h:ui B w G):∃a c,G.v=.slice a G.ms.length c:=by
 rcases h.lines.head with⟨e,b⟩|⟨g,cap,e,_⟩
 ·grind
 ·exact⟨_,_,e⟩
theorem qq (w b o)(h:b<w.heap.size):(setBlock w b o).heap[b]?=some o:=by
 unfold setBlock;simp[h]
theorem yu (w b k o)(h:k≠b):(setBlock w b o).heap[k]?=w.heap[k]?:=by
 unfold setBlock;simp[bX_ h]
def vE (gs:List MG):Array MapEntry:=((gs.map MG.e).map (enE ekS)).toArray
theorem xUh {gs e}(h:e∈(vE gs).toList):∃G∈gs,e=enE ekS G.e:=by grind [vE]
theorem yC3 (gs):(vE gs).toList.map (·.born)=gs.map (·.born):=by
 unfold vE;simp only[T7];rfl
theorem yG1:∀{l:List MG},(l.map λG=>G.born).Nodup->∀A∈l,∀C∈l,A.born=C.born->A=C:=by
 intro l hl;induction l with
 |nil=>intro A a;cases a
 |cons D l ih=>
  grind
structure RdSt (B:Nat)(w:World)(ib M mc:Nat)(gs:List MG)(D:MG->Prop)(r:Nat)(X:World)(seen:Array Nat):Prop where
 iter:X.heap[r]?=some (.mapIter (some M) mc seen mc)
 bl:Below w.heap.size w X
 lo:w.heap.size<=r
 idx:y5 B w ib M gs mc
 did:∀G∈gs,seen.contains G.born=true->D G
theorem RdSt.start {B w W ib M mc gs}{D:MG->Prop}(h:y5 B w ib M gs mc)(a:Below w.heap.size w W):RdSt B w ib M mc gs D W.heap.size (W.alloc (.mapIter (some M) mc #[] mc)) #[]:=
 ⟨heap_alloc_new _ _,a.alloc a.size _,a.size,h,λG _ hs=>by simp at hs⟩
def yEp (gs:List MG)(r:Nat)(w:World):Nat:=match w.heap[r]? with
 |some (.mapIter _ _ seen _)=>(leftOf (vE gs) seen).size
 |_=>0
theorem xUn {gs r w m s c seen}(h:w.heap[r]?=some (.mapIter m s seen c)):yEp gs r w=(leftOf (vE gs) seen).size:=by
 unfold yEp;rw[h]
end Go.Proofs.YtdhapkeimaljfaaGreatDoor
namespace Go.Proofs.YtdhapkeimaljfaaGreatDoor
open Go Go.RowKit Go.Proofs Tryz
def xJy (gs:List MG)(w:World)(r:Ending)(w':World):Prop:=∃v ns,r=.returned v/\xSl w.heap.size w' v ns/\ordN ns/\(∀t,t∈ns↔∃G∈gs,G.name=t)/\Below w.heap.size w w'/\∀b,v.ownBlock=some b->∃cs fz,w'.heap[b]?=some (.cells cs 9 fz)
theorem xK1 (w blk off m dk os){cur}{ty:TypeId}{fz}(h:w.heap[blk]?=some (.cells cur ty fz)):∃cs fz',(sortWorld encN w blk off m dk os).heap[blk]?=some (.cells cs ty fz'):=by
 have hl:=(i_ h).1;have a:(Go.Sort.ahead w m).heap[blk]?=some (.cells cur ty fz):=h;unfold sortWorld;rw[Go.Sort.heap_grow_old _ _ (by simp;omega)];unfold Go.Sort.putRow Go.Sort.mapBlock;simp only[ba_];rw[if_pos trivial,a];exact⟨_,_,rfl⟩
theorem xRd (B ib M mc gs w)(i:Gl w)(h:y5 B w ib M gs mc):
  Calls prog 17 #[.pointer (some ⟨ib,0,none⟩)] w λr w'=>xJy gs w r w':=by
 have hc:=h.cell0;obtain⟨a,Q⟩:∃a,a=w.alloc (.cells #[.map (some M)] 126):=⟨_,rfl⟩;have m:Below w.heap.size w a:=by grind
 have E:=h.below m;have aL:a.heap.size=w.heap.size+1:=by grind
 have D:a.cell? ⟨w.heap.size,0,none⟩=some (.map (some M)):=by grind
 have U:=E.owns h.groups
 have F:SeqGives Fence.wide 2 prog 62 #[.pointer (some ⟨w.heap.size,0,none⟩)] encStr (λss=>ss.Perm (Go.strKeys (jW prog gs))) (Go.Maps.size (jW prog gs)) a:=
  AnyZ.keys_gives (ρ:=Tryz.keysA_ren) { Tryz.keysA with } Fence.wide _ trivial rfl (by omega) w.heap.size M gs.length _ _ (by omega) D U
 have hK:Calls prog 37 #[.map (some M)] w λe w'=>e=.returned (.func (.func 62) #[] #[.pointer (some ⟨w.heap.size,0,none⟩)])/\w'=a:=by
  rw[Q];exact(callsIn_wide (n:=5)).1 (AnyZ.keys_in Tryz.keysA Fence.wide 5 trivial rfl (some M) w)
 have dI:=h.groups
 have I:Calls prog 60 #[.func (.func 62) #[] #[.pointer (some ⟨w.heap.size,0,none⟩)]] a λe w'=>∃(v:Value) (ss:List (List UInt8)),e=.returned v/\ss.Perm (Go.strKeys (jW prog gs))/\w'.ownsRow a.heap.size 9 1 v ss.length (ss.map encStr)/\(v=.slice none 0 0↔ss=[])/\Below a.heap.size a w':=
  (callsIn_wide (n:=4)).1 (AnyZ.collect_in Tryz.collectA Fence.wide 4 trivial trivial rfl (by omega) 62 _ trivial (enters_of func62 (by kernel_rfl) rfl) _ _ (by rw[xBr];unfold maxLen;omega) (by rw[xBr];omega) a F)
 have p:=xEl h;have K:∀G∈gs,G.name.size<=80:=λG i=>xDx (h.grps G i).named
 have P:=h.names
 have HS:Hid (Calls prog 36 #[.func (.func 62) #[] #[.pointer (some ⟨w.heap.size,0,none⟩)],.func (.func 38) #[] #[]] a λr w'=>xJy gs w r w'):=h_ (by
  have W:=h_ I;have C:=h_ (i.later m);have T:=h_ m;clear I hK F U E hc h i m D Q;go_enter func36,ntmps36;go_wp2_with fail;refine W.mono ?_;rintro r f ⟨v,ss,rfl,c,A,d,z⟩;have O:=T.trans (z.mono (by omega));have q:ss.Perm (gs.map λG=>G.name.data.toList):=c.trans p;have N:=C.later z;have ax:=h_ O;rcases A.2 with⟨rfl,h0⟩|⟨g,cap,cur,rfl,hg,S,bj,dH,aB,dW⟩
  ·have R9:ss=[]:=by grind
   have dL:gs=[]:=by simp_all
   clear A d z O c q N C W T p h0 K P aL dI;go_wp2_with fail;refine(AnyF.slices_SortFunc_none (L:={ Tryz.sortA with }) none 0 _ f).mono ?_;rintro r w'⟨rfl,rfl⟩;go_wp2;go_ret;exact⟨_,[],rfl,.inl ⟨rfl,rfl⟩,.nil,λt=>by rw[dL];simp,ax.out,λb H=>by cases H⟩
  ·obtain⟨bs,J⟩:∃bs:List ByteArray,bs=ss.map str:=⟨_,rfl⟩;have y:bs.length=ss.length:=by grind
   have DX:bs.Perm (gs.map λG=>G.name):=by
    rw[J];refine(q.map str).trans ?_;rw[T7];refine cr_ (am_ λG _=>?_);rfl
   have Z:bs.Nodup:=by grind
   have u:∀s∈bs,s.size<=100000:=λs hs=>by grind
   have an:ss.length=gs.length:=by
    have:=q.length_eq;simpa using this
   have lw:=(i_ S).1;have X:uk f g 0 bs:=λk x hx=>by
    have:=ae_ A (g:=g) rfl k (.string x) (by
     rw[J,R1]at hx;rw[R1];cases hk:ss[k]? with
     |none=>rw[hk]at hx;cases hx
     |some l=>rw[hk]at hx;cases hx;rfl)
    rwa [l8]at this
   have Y:Go.Sort.Holds encN f g 0 (bs.pmap mkN u).toArray:=λj hj=>by
    have oL:j<bs.length:=by grind
    refine⟨?_,?_⟩
    ·rw[X j bs[j] (U_ oL),getElem!_pos _ j hj];simp only[bL_,List.getElem_pmap];rfl
    grind
   have aV:(bs.pmap mkN u).toArray.size=ss.length:=by simp[y]
   have lz:=h_ (xOc g cap ss.length bs f N u lw (R_ (C.size) hg) Y (by omega) y.symm);have Iy:=h_ S;have aC:=h_ (λ(w':World) (d':Array xJv) n os c hs hw=>xKq (w:=f) (w':=w') u Z X lw d' n os Y c hs hw);have Is:Hid (∀t,t∈bs↔∃G∈gs,G.name=t):=h_ (λt=>by rw[DX.mem_iff,D4]);have gQ:=h_ y;have fV:=h_ an;clear Y X A d z O c q N W p K P aB dW Z DX J S y an aV;clear C T;go_wp2_with fail;refine lz.mono ?_;rintro r o ⟨rfl,d',n,os,c,hs,hw⟩;obtain⟨ns,fW,bW,Bb,E9⟩:=aC.out o d' n os c hs hw;have dl:Below g f o:=by grind [jY]
   have aJ:=h_ (ax.trans (dl.mono (by omega)));have nH:g<o.heap.size:=by grind
   have V:Hid (∃cs fz,o.heap[g]?=some (.cells cs 9 fz)):=h_ (by rw[hw];exact xK1 f g 0 n d' os Iy.out);clear c hs hw aC lz dl;have Bc:=h_ (show ns.length=ss.length by rw[fW,gQ.out]);clear fW;go_wp2;go_ret;exact⟨_,ns,rfl,.inr ⟨g,cap,by rw[Bc.out];rfl,by rw[Bc.out];exact bj,bW,by omega,nH⟩,Bb,λt=>(E9 t).trans (Is.out t),aJ.out,λb H=>by cases H;exact V.out⟩)
 have HK:=h_ hK;clear I hK F U E h i m D p K P aL dI;clear Q;go_enter func17,ntmps17;go_wp2_with fail;refine HK.mono ?_;rintro r w' ⟨rfl,rfl⟩;go_wp2_with fail;refine HS.mono ?_;rintro r w' ⟨v,ns,rfl,R⟩;have HP:=h_ R;obtain⟨va,vc,rfl⟩:=R.1.slice;clear R;go_wp2;go_ret;exact⟨_,ns,rfl,HP.out⟩
section
attribute [local go_sem ↓] xP xI yp y8 ym yw
attribute [local go_sem] zg zj zC zA yM xh xg xe xd xx xy xk xj xq xB xw
theorem xHa (gs ns x):(yF gs ns x).map Prod.fst=ns.filter λt=>(ue gs x t).isSome:=by
 unfold yF;induction ns with
 |nil=>rfl
 |cons t ns ih=>
  cases hp:ue gs x t with
  |none=>rw[List.filterMap_cons_none hp,List.filter_cons_of_neg (by simp[hp])];exact ih
  |some a=>
   grind [ue,Option.map_eq_some_iff.1,List.filterMap_cons_some,List.filter_cons_of_pos]
theorem xO6 {gs ns x a}(ha:a∈yF gs ns x):∃m∈xC gs a.1,m.p.id=x/\m.p.number=a.2:=by
 unfold yF at ha;obtain⟨t,_,b⟩:=ax_.1 ha;unfold ue at b;obtain⟨m,c,rfl⟩:=al_.1 b;grind
theorem xO5 {gs ns x t}(c:∀t,t∈ns↔∃G∈gs,G.name=t)(ht:t∉(yF gs ns x).map Prod.fst):xEo (xC gs t) x=xC gs t:=by
 rw[xHa,au_,not_and]at ht;unfold xEo;rw[aG_];intro m b;rw[decide_eq_true_eq];intro e;have a:xC gs t≠[]:=λe=>by rw[e]at b;cases b
 obtain⟨G,d,_,_⟩:=vD a;refine ht ((c t).2 ⟨G,yH d⟩) ?_;grind [ue,Option.isSome_map,List.find?_isSome]
theorem kZ {gs ns}(x)(a:ordN ns):((yF gs ns x).map Prod.fst).Nodup:=by
 rw[xHa];refine(List.Pairwise.imp ?_ a:ns.Nodup).sublist List.filter_sublist;grind [xBg]
structure xCh (B ib M:Nat)(gs:List MG)(x:Id32)(ps:List PL)(w1:World)(k:Nat)(gsk:List MG)(mck:Nat)(wr:World):Prop where
 idx:y5 B wr ib M gsk mck
 kept:Kept (foot ib M gs) w1 wr
 foot:xFq (Go.Proofs.YtdhapkeimaljfaaGreatDoor.foot ib M gs) (Go.Proofs.YtdhapkeimaljfaaGreatDoor.foot ib M gsk) w1
 lines:∀t,(t∈(ps.take k).map Prod.fst->xC gsk t=xEo (xC gs t) x)/\(t∉(ps.take k).map Prod.fst->xC gsk t=xC gs t)
 tot:total gsk<=total gs
theorem xCh.later {B ib M gs x ps b k gsk mck wr a}(h:xCh B ib M gs x ps b k gsk mck wr)(c:Below wr.heap.size wr a):xCh B ib M gs x ps b k gsk mck a:=
 ⟨h.idx.below c,h.kept.trans (Kept.of_below (F:=[]) c) (λ_ d=>by cases d),h.foot,h.lines,h.tot⟩
theorem xCh.next {B ib M gs x ps d k gsk mck wr c u b}(h:xCh B ib M gs x ps d k gsk mck wr)(g:y5 B u ib M gs b)(A:k<ps.length)(C:(ps.map Prod.fst).Nodup)
  (s:∃m∈xC gs ps[k].1,m.p.id=x/\m.p.number=ps[k].2) {r} (q:xMw B ib M gsk ps[k].1 ps[k].2 wr r c):∃gsn mcn,xCh B ib M gs x ps d (k+1) gsn mcn c:=by
 obtain⟨m,o,v,F⟩:=s;have w:ps.take (k+1)=ps.take k++[ps[k]]:=by simp
 have l:ps[k].1∉(ps.take k).map Prod.fst:=by grind [List.take_sublist,List.nodup_append]
 have hl:=(h.lines ps[k].1).2 l;rcases q with⟨D,_,_⟩|⟨i,m',f,z,_,gsn,mcn,a⟩
 ·grind [uU,xC,nums,List.contains_iff_mem]
 ·rw[hl]at f;have E:=g.sorted ps[k].1;have n:m'=m:=by
   obtain⟨j,e⟩:=List.mem_iff_getElem?.1 o;grind [nums,List.getElem?_eq_some_iff.1,List.pairwise_iff_getElem,Nat.lt_trichotomy]
  subst n;have y:=xVm (yJr g ps[k].1) f;rw[v]at y;refine⟨gsn,mcn,a.idx,h.kept.trans a.kept h.foot,λj e=>?_,λt=>?_,by have:=a.tot;have:=h.tot;omega⟩
  ·rcases a.foot j e with h1|h1
   ·exact h.foot j h1
   ·exact .inr (R_ h.kept.size h1)
  ·rw[a.lines t,w,L8];by_cases ht:t=ps[k].1
   ·grind
   ·rw[if_neg ht];have:(t∈(ps.take k).map Prod.fst++[ps[k]].map Prod.fst)=(t∈(ps.take k).map Prod.fst):=by simp[ht]
    rw[this];exact h.lines t
def xSn (B ib M:Nat)(gs:List MG)(x:Id32)(w:World)(r:Ending)(w':World):Prop:=∃ns gs' mc',ordN ns/\(∀t,t∈ns↔∃G∈gs,G.name=t)/\r=.returned (.int .i64 (yF gs ns x).length) /\
 y5 B w' ib M gs' mc'/\Kept (foot ib M gs) w w'/\xFq (foot ib M gs) (foot ib M gs') w/\(∀t,xC gs' t=xEo (xC gs t) x)/\total gs'<=total gs
theorem xQh (B ib M mc gs x w)(R:Gl w)(h:y5 B w ib M gs mc):
  Calls prog 332 #[.pointer (some ⟨ib,0,none⟩),.agg (xl x).toArray] w λr w'=>xSn B ib M gs x w r w':=by
 obtain⟨W,Q⟩:∃W,W=w.alloc (.cells (xl x).toArray 42):=⟨_,rfl⟩;have s:Below w.heap.size w W:=by grind
 have nu:W.heap.size=w.heap.size+1:=by grind
 have hq:=yx (w:=w.alloc (.cells (xl x).toArray 42)) (b:=w.heap.size) (x:=x) (heap_alloc_new _ _);obtain⟨rR,wP⟩:=hq;have FD:=h_ (xO7 B ib M mc gs x W (R.later s) (h.below s));have Z:=h_ s;have o:=h_ h;clear s h R;go_enter func332,ntmps332;go_wp2_with fail;rw[<-Q];clear Q rR wP;refine FD.mono ?_;rintro r C ⟨v,ns,rfl,l,U,Y,X⟩;have y:=h_ (Z.trans (X.mono Z.size):Below w.heap.size w C);have A:=h_ U;have O:=h_ Y;obtain⟨ps,I⟩:∃ps,ps=yF gs ns x:=⟨_,rfl⟩;rw[<-I]at l;have L:=h_ I;clear U Y I FD X;rcases l.2 with⟨rfl,S⟩|⟨b,cap,cur,rfl,UM,V,bj,dH,aB,dW⟩
 ·have HP0:Hid (ps=[]):=h_ (ap_.1 S);clear l S;go_wp2;go_loop [13] (λi=>i=.int .i64 0) (λ_=>0)
  case atStart=>exact rfl
  case round=>
   obtain rfl:=hrel;go_wp2;go_ret;have P:yF gs ns x=[]:=by grind
   refine⟨ns,gs,mc,A.out,O.out,by rw[P];rfl,o.below y.out,Kept.of_below y.out,λk c=>.inl c,λt=>(xO5 O.out (by rw[P];simp)).symm,w_ _⟩
 ·have bF:=h_ l;have Iy:=h_ V;have az:b<C.heap.size:=by grind
  have hbw:w.heap.size<b:=by omega
  have IA:ps.length<=65536:=by
   have h1:=kZ (gs:=gs) x A.out;have h2:((yF gs ns x).map Prod.fst).length<=(gs.map λG=>G.name).length:=h1.length_le_of_subset λt ht=>by grind [xHa,List.mem_map.2]
   rw[M5,M5,<-L.out]at h2;exact R_ h2 o.groups
  clear l V aB dW;go_wp2;go_loopw [13] (λi wr=>∃k gsk mck,k<=ps.length/\i=.int .i64 (k:Nat)/\xCh B ib M gs x ps C k gsk mck wr) (λi _=>ps.length-(intOf i).toNat)
  case atStart=>exact⟨0,gs,mc,by omega,rfl,o.below y.out,Kept.of_below (z_ _ _),λk c=>.inl c,λt=>⟨λh=>by simp at h,λ_=>rfl⟩,w_ _⟩
  case round=>
   obtain⟨k,gsk,mck,c,rfl,f⟩:=hrel;by_cases hlt:k<ps.length
   ·have aM:(k:Int)<(ps.length:Int):=by omega
    have cy:wr.heap[b]?=some (.cells cur 479 (0,0)):=(f.kept.block b az (λhf=>by have:=(o.foot_lt b hf).2;omega)).trans Iy.out;have J:∀j u,(k9 ps)[j]?=some u->wr.cell? ⟨b,j,none⟩=some u:=λj u hu=>by
     have h1:=ae_ bF.out (g:=b) rfl j u hu;rw[l8,m0]at h1;grind
    have E:=xI1 ps k hlt;have H:=J _ _ E.1;have cH:=J _ _ E.2;obtain⟨t,ht⟩:∃t,t=ps[k].1:=⟨_,rfl⟩;obtain⟨n,D⟩:∃n,n=ps[k].2:=⟨_,rfl⟩;rw[<-ht]at H;rw[<-D]at cH;have HT:=h_ ht;have HN:=h_ D;have d:=h_ f;clear J E cy ht D f;obtain⟨z,T⟩:∃z,z=wr.alloc (.cells #[.string t,.int .i64 n] 479):=⟨_,rfl⟩;have K:Below wr.heap.size wr z:=by grind
    have tU:=h_ (xX7 B ib M mck gsk t n z (d.idx.below K));have UT:=h_ (d.later K);clear K;have hall:∀a∈ps,∃m∈xC gs a.1,m.p.id=x/\m.p.number=a.2:=by grind [xO6]
    have N:=h_ (hall _ (L3 hlt));have lX:Hid ((ps.map Prod.fst).Nodup):=h_ (by rw[L.out];exact kZ x A.out);clear hall;go_wp2_with fail;rw[<-T];clear T;refine tU.mono ?_;intro r w3 q;obtain⟨e,rfl⟩:∃e,r=.returned e:=by
     rcases q with⟨_,e,_⟩|⟨_,_,_,_,e,_⟩
     ·exact⟨_,e⟩
     ·exact⟨_,e⟩
    rw[HT.out,HN.out]at q;obtain⟨gsn,mcn,FE⟩:=UT.next o.out hlt lX.out N.out q;have dj:=h_ FE;clear FE q;go_wp2;go_roundw
    case rel=>exact⟨k+1,gsn,mcn,by omega,by go_num,dj.out⟩
    case measure=>simp[intOf];omega
   ·have HE:Hid (ps.take k=ps):=h_ (v6 (by omega));have d:=h_ f;clear f;go_wp2;go_ret;refine⟨ns,gsk,mck,A.out,O.out,by rw[<-L.out];rfl,d.idx,(Kept.of_below (F:=foot ib M gs) y.out).trans d.kept (λk c=>.inl c),λk c=>?_,λt=>?_,d.tot⟩
    ·rcases d.foot k c with h1|h1
     ·exact .inl h1
     omega
    ·have h2:=d.lines t;grind [xO5]
end
section
variable {P:Program} {ops:Array Oper} {Q:Exit->Act->World->Prop} {C:World->Prop}
theorem xWl {E rest:List Nat}{r:Nat}{a:Act}{w:World}(b:Bool)(h:wpList P ops (Qn P ops Q C E rest b) (zy ops [r]) a w)(c:decide (r<ops.size)=true:=by kernel_rfl)(d:uH ops E r=b:=by kernel_rfl):wpR P ops Q C E (r :: rest) a w:=
 jI b (o:=ops.getD r default) (by simp[of_decide_eq_true c]) d h
end
section
attribute [local go_sem ↓] xP xI yp y8 ym yw
attribute [local go_sem] zg zj zC zA yM xh xg xe xd xx xy xk xj xq xB xw xBs xKv xE7
theorem y5.not_op {B w ib M mc gs}(h:y5 B w ib M gs mc){ob cur}{t:TypeId}(ht:t≠129/\t≠176/\t≠70)(b:w.heap[ob]?=some (.cells cur t (0,0))):ob∉foot ib M gs:=by
 intro a;unfold foot at a;simp only[g8,aJ_]at a;rcases a with rfl|rfl|⟨G,d,a⟩
 ·rw[h.blk]at b;exact ht.1 (xBh b).symm
 ·have:=h.map;unfold xV at this;rw[this]at b;cases b
 ·have c:=h.grps G d;unfold MG.foot at a;simp only[m3,g8,aT_,or_false,R2]at a;rcases a with (rfl|rfl)|a
  ·rw[c.blk]at b;exact ht.2.1 (xBh b).symm
  ·have:=c.nums;unfold xV at this;rw[this]at b;cases b
  ·obtain⟨c2,h2⟩:=xS c.lines.row a;grind
end
theorem xAg (ro)(ρ:Operand->Value)(d x)(ty:TypeId)(pos af g w):
  Sem.run prog (Oper.semAt ro ρ ⟨d,.load 42 x,ty,pos,af,g⟩) w=yq prog 42 w (ρ x):=by
 rw[an_ _ _ _ (by intro c h;cases h)]
 exact xP ..
theorem ko (ro)(ρ:Operand->Value)(d x y)(ty:TypeId)(pos af g w):
  Sem.run prog (Oper.semAt ro ρ ⟨d,.store 42 x y,ty,pos,af,g⟩) w=yi prog 42 w (ρ x) (ρ y):=by
 rw[an_ _ _ _ (by intro c h;cases h)]
 exact xI ..
theorem jE (ro)(ρ:Operand->Value)(d x)(ty:TypeId)(pos af g w):
  Sem.run prog (Oper.semAt ro ρ ⟨d,.load 70 x,ty,pos,af,g⟩) w=yq prog 70 w (ρ x):=by
 rw[an_ _ _ _ (by intro c h;cases h)]
 exact yp ..
theorem jc (ro)(ρ:Operand->Value)(d x y)(ty:TypeId)(pos af g w):
  Sem.run prog (Oper.semAt ro ρ ⟨d,.store 70 x y,ty,pos,af,g⟩) w=yi prog 70 w (ρ x) (ρ y):=by
 rw[an_ _ _ _ (by intro c h;cases h)]
 exact y8 ..
theorem jd (ro)(ρ:Operand->Value)(d)(ty:TypeId)(pos af g w):
  Sem.run prog (Oper.semAt ro ρ ⟨d,.alloc 70,ty,pos,af,g⟩) w=.ok (.value (.pointer (some ⟨w.heap.size,0,none⟩))) (w.alloc (.cells (x9 xK) 70)):=by
 rw[an_ _ _ _ (by intro c h;cases h)]
 exact ym ..
section
attribute [local go_sem ↓] xP xI yp y8 ym yw
attribute [local go_sem] zg zj zC zA yM xh xg xe xd xx xy xk xj xq xB xw
theorem xFg (ρ:Operand->Value)(d x)(ty:TypeId)(pos af g w):
  Sem.run prog (execOp ρ ⟨d,.buildSlice 132 1 #[(0,x)],ty,pos,af,g⟩) w=xCl prog 132 w (ρ x):=by kernel_rfl
theorem xSa (w g):xCl prog 132 w (.agg (x9 g))=.ok (.value (.slice (some ⟨w.heap.size,0,none⟩) 1 1)) (w.alloc (.cells (x9 g) 70)):=by
 obtain⟨b,c,d,a,e⟩:=info_parts Tryz.info_line;unfold xCl
 rw[G9,run_buildSlice w 132 70 1 _ (x9 g) b _ underlying132 c d (by rw[a];decide) (by rw[a];decide) (by
  rw[a];exact xDg _ _ 38 (xO g) (by simp))]
 rfl
attribute [local go_sem ↓] xFg jE jc jd xAg ko
attribute [local go_sem] xSa
structure GdL (T:List qx)(A B:Nat)(pre:List ML)(x:ML)(X:World):Prop where
 here:T[pre.length]?=some x.p
 past:pre.map (·.p)=T.take pre.length
 refs:yJ A X x.v x.p.ids
 lt:∀k,x.v.ownBlock=some k->k<B
theorem GdL.below {T A B pre x X Y}(h:GdL T A B pre x X)(a:Below X.heap.size X Y):GdL T A B pre x Y:=⟨h.here,h.past,h.refs.below a,h.lt⟩
structure vT (A:Nat)(w:World)(v:Value)(ls:List ML):Prop where
 lin:zp A w v ls
 apart:(ls.filterMap λm=>m.v.ownBlock).Nodup
theorem vT.nil (A w):vT A w (.slice none 0 0) []:=⟨⟨D1 _ _ _ _,λ_ h=>by cases h⟩,.nil⟩
theorem vT.snoc {A w w' v v' ls}{x:ML}(h:vT A w v ls)(l:w'.ownsRow A 70 38 v' (ls.length+1) (yy ls++xL x.g))(i:∀m∈ls,yJ A w' m.v m.p.ids)(hx:yJ A w' x.v x.p.ids)(j:∀k,x.v.ownBlock=some k->w.heap.size<=k):vT A w' v' (ls++[x]):=by
 refine⟨⟨?_,λm c=>?_⟩,?_⟩
 ·grind [List.length_append,List.length_singleton,jS,yy,xL]
 ·grind
 ·rw[List.filterMap_append,M6];refine⟨h.apart,?_,λa ha b f=>?_⟩
  ·grind
  ·obtain⟨m,c,e⟩:=ax_.1 ha;obtain⟨y,hy,d⟩:=ax_.1 f;rw[S_.1 hy]at d;have h1:=((h.lin.refs m c).lt e).2;grind
theorem xE4 {A w w' v ids row}(h:yJ A w v ids)(d:w.grownBy w' row)(b:∀k,row=some k->∃c,w.heap[k]?=some (.cells c 70 (0,0))):yJ A w' v ids:=by
 refine h.block λk a=>d.block k (h.lt a).2 λe=>?_
 obtain⟨c,f⟩:=b k e.symm;obtain⟨c2,g⟩:=xS h a;grind
end
section
attribute [local go_sem ↓] xP xI yp y8 ym yw
attribute [local go_sem] zg zj zC zA yM xh xg xe xd xx xy xk xj xq xB xw
attribute [local go_sem] Oper.semAt_some
attribute [local go_sem ↓] jE jc jd xAg ko
theorem xWp (t n)(h:t.size=n):t=((List.range n).map λk=>t.getD k undef).toArray:=by
 subst h;apply cs_
 ·simp
 ·intro i h1 h2;simp[h1]
theorem uq {t:Array Value}{i j}(v d)(h:i≠j):(t.setIfInBounds i v).getD j d=t.getD j d:=by
 simp[h]
end
abbrev LF:Type:=ByteArray->List qx
def setL (L:LF)(t:ByteArray)(ps:List qx):LF:=λu=>if u=t then ps else L u
def xLd (ps:List qx):List Int:=ps.map (·.number)
def addP (ps:List qx)(p:qx):List qx:=ps.take (posN (xLd ps) p.number)++p :: ps.drop (posN (xLd ps) p.number)
def jk (ps:List qx)(t:ByteArray)(p:qx):Int:=if zB t≠0 then zB t else if pErr p≠0 then pErr p else if (xLd ps).contains p.number||ps.any (λq=>decide (q.id=p.id))then 7 else 0
theorem yI9 (ms p v):(qw ms (posN (nums ms) p.number) ⟨p,v⟩).map (·.p)=addP (ms.map (·.p)) p:=by
 unfold qw addP nums xLd;rw[L8,t8,aI_,List.map_drop,T7];rfl
section
attribute [local go_sem ↓] xP xI yp y8 ym yw
attribute [local go_sem] zg zj zC zA yM xh xg xe xd xx xy xk xj xq xB xw
def lfOf (gs:List MG):LF:=λt=>(xC gs t).map (·.p)
theorem yJi {B ib M gs gs' s p w w' mc'}(a:xJz B ib M gs s p w w' gs' mc'):lfOf gs'=setL (lfOf gs) s (addP (lfOf gs s) p):=by
 obtain⟨v,_,hl⟩:=a.lines;grind [lfOf,setL,yI9]
end
end Go.Proofs.YtdhapkeimaljfaaGreatDoor
namespace Go.Proofs.YtdhapkeimaljfaaGreatDoor
open Go Go.RowKit Go.Proofs Tryz
open Go.ChangeMaps (setBlock)
theorem xNh (b es clock w)(c:w.heap[b]?=some (.map es clock)):
  Calls prog 59 #[.map (some b)] w λe w'=>e=.returned (.map (some w.heap.size))/\w.alloc (.map es clock)=w':=by
 have a:prog.underlying 173=some (.map 42 3):=by simp
 have hq:=λw=>run_eql_map_nil_sl (P:=prog) w 173 _ _ (some b) a
 go_enter func59,ntmps59;go_wp2;rw[run_callFunc_extern func91 (by kernel_rfl) (by kernel_rfl) (by kernel_rfl) (e:=Extern.MapsClone.clone) (by kernel_rfl),run_maps_clone_sl w 173 c];simp only[Result.andThen];rw[aF_];go_wp2;rw[run_typeAssert_map_sl _ 173 20 _ _ _ a];simp only[Result.andThen];rw[aF_];go_wp2;go_ret;exact⟨rfl,rfl⟩
theorem zb (w b o):(setBlock w b o).heap.size=w.heap.size:=by unfold setBlock;simp
theorem RdSt.next2 {B w ib M mc gs}{D:MG->Prop}{r X seen}(h:RdSt B w ib M mc gs D r X seen)(ty:TypeId):
  ((∀G∈gs,D G)/\(Instr.next (.pointer (some ⟨r,0,none⟩)) false ty).run prog X=.ok (.tuple #[.bool false]) X) \/
  ∃G∈gs,∃X',(Instr.next (.pointer (some ⟨r,0,none⟩)) false ty).run prog X=.ok (.tuple #[.bool true,.string G.name,.pointer (some ⟨G.gb,0,none⟩)]) X'/\Kept [r] X X' /\
   (Instr.entry (.pointer (some ⟨r,0,none⟩))).run prog X'=.ok (.tuple #[.string G.name,.pointer (some ⟨G.gb,0,none⟩)]) X'/\(leftOf (vE gs) (seen.push G.born)).size<(leftOf (vE gs) seen).size /\
   X'.heap[r]?=some (.mapIter (some M) mc (seen.push G.born) mc)/\seen.contains G.born=false:=by
 have j:=h.idx.below h.bl;have m:X.heap[M]?=some (.map (vE gs) mc):=j.map;have v:r≠M:=λe=>by
  have:=h.iter;grind
 have i:∀e∈(vE gs).toList,e.born<mc:=λe c=>by
  obtain⟨G,b,rfl⟩:=xUh c;exact h.idx.young G b
 rcases run_next_at (P:=prog) X ty r M mc mc seen (vE gs) mc h.iter m i (w_ _) with⟨l,f⟩|⟨e,c,d,p,f⟩
 ·refine .inl ⟨λG b=>h.did G b ?_,f⟩;have:=all_seen (vE gs) seen l (enE ekS G.e) (by unfold vE;simp only[D4];exact⟨_,⟨G,b,rfl⟩,rfl⟩);exact this
 ·obtain⟨g,n⟩:=mem_left c;obtain⟨G,b,rfl⟩:=xUh g;have t:=(i_ h.iter).1;have u:d.heap=X.heap:=by grind
  have a:Kept [r] X d:=by grind
  have hit:(setBlock d r (.mapIter (some M) mc (seen.push G.born) mc)).heap[r]?=some (.mapIter (some M) mc (seen.push G.born) mc):=by grind [qq]
  have o:(setBlock d r (.mapIter (some M) mc (seen.push G.born) mc)).heap[M]?=some (.map (vE gs) mc):=by grind [yu]
  refine .inr ⟨G,b,_,f,⟨a.os,a.tape,a.output,by rw[zb];exact a.size,λk s q=>?_⟩,run_entry_at _ r M mc seen (vE gs) mc (enE ekS G.e) hit o g (by rw[yC3];exact h.idx.born),left_shrinks _ _ _ c,hit,n⟩;grind [yu]
theorem xFr:∀{A Bl:List MG},(A.map λG=>G.name).Nodup->(∀a∈A,∃b∈Bl,b.name=a.name/\b.ms.length=a.ms.length)->total A<=total Bl
 |[],_,_,_=>n3 _
 |a :: A,Bl,c,h=>by
  rw[t8,U0]at c;obtain⟨b,f,g,i⟩:=h a (by simp);obtain⟨e,d,rfl⟩:=aW_ f;have ih:=xFr (A:=A) (Bl:=e++d) c.2 λx hx=>by grind
  grind [total]
def cpG (G:MG)(born cb nb:Nat)(v:Value)(ms:List ML):MG:=⟨G.name,born,cb,nb,v,ms,G.nl,G.nc⟩
theorem xLh {α:Type}(f:qx->α){a b:List ML}(h:a.map (·.p)=b.map (·.p)):a.map (λm=>f m.p)=b.map (λm=>f m.p):=by
 have:=congrArg (List.map f) h
 rwa [T7,T7]at this
theorem yFb {B0:Nat}{w0:World}{G:MG}(h:ui B0 w0 G){B:Nat}{W:World}{born cb nb:Nat}{v:Value}{ms:List ML}(hp:ms.map (·.p)=G.ms.map (·.p))(hb:W.heap[cb]?=some (.cells #[v,.map (some nb)] 176 (0,0)))(hl:zp B W v ms)(hn:xV ekI W nb G.nl G.nc)(h1:B<=cb)(h2:B<=nb):ui B W (cpG G born cb nb v ms) where
 blk:=hb
 lines:=hl
 nums:=hn
 agree:=by
  have:=h.agree;rw[<-xLh (λp=>(p.id,Value.int .i64 p.number)) hp]at this;exact this
 ids:=by
  have:=h.ids;rw[<-xLh (λp=>p.id) hp]at this;exact this
 sorted:=by
  have:=h.sorted;unfold nums at this⊢;rw[<-xLh (λp=>p.number) hp]at this;exact this
 good:=λm hm=>by
  have:m.p∈G.ms.map (·.p):=by rw[<-hp];exact D4.2 ⟨m,hm,rfl⟩
  obtain⟨q,hq,e⟩:=D4.1 this;rw[<-e];exact h.good q hq
 named:=h.named
 some':=λe=>h.some' (by
  have e':ms=[]:=e;rw[e']at hp;exact bo_.1 hp.symm)
 gbB:=h1
 nbB:=h2
structure ClSt (B:Nat)(w:World)(ib M mc:Nat)(gs:List MG)(bX M2 r:Nat)(cF:List MG)(cM:Nat)(seen:Array Nat)(W:World):Prop where
 rd:RdSt B w ib M mc gs (λG=>seen.contains G.born=true) r W seen
 blk:W.heap[bX]?=some (.cells #[.map (some M2),.int .i64 (total gs)] 129 (0,0))
 cl:y5 w.heap.size (setBlock W bX (.cells #[.map (some M2),.int .i64 (total cF)] 129 (0,0))) bX M2 cF cM
 fwd:∀G∈gs,seen.contains G.born=true->∃G2∈cF,G2.name=G.name/\G2.ms.map (·.p)=G.ms.map (·.p)
 bwd:∀G2∈cF,∃G∈gs,seen.contains G.born=true/\G2.name=G.name/\G2.ms.map (·.p)=G.ms.map (·.p)
 rne:∀k∈foot bX M2 cF,k≠r
theorem yHy {b X Y a f j d o}(h:y5 b (setBlock X a o) a f d j)(hl:a<X.heap.size)(n:a<Y.heap.size)(s:∀k,k<X.heap.size->k≠a->(k∈foot a f d\/∃c,X.heap[k]?=some (.cells c 42 (0,0)))->Y.heap[k]?=X.heap[k]?):y5 b (setBlock Y a o) a f d j:=by
 refine h.keep (λk p=>?_) (λG r m l k g=>?_)
 ·by_cases e:k=a
  ·grind [qq]
  ·have h1:=(h.foot_lt k p).2;grind [zb,yu]
 ·have i:=(h.grps G r).lines.refs m l;have h1:=(i.lt g).2;rw[zb]at h1;obtain⟨c,q⟩:=i.typed g;have e:k≠a:=λe=>by
   have:=h.not_id q;exact this (by rw[e];simp[foot])
  grind [yu]
theorem ClSt.start {B w ib M mc gs}(h:y5 B w ib M gs mc){W}(e:W=((w.alloc (.map #[] 0)).alloc (.cells #[.map (some w.heap.size),.int .i64 (total gs)] 129)).alloc (.mapIter (some M) mc #[] mc)):ClSt B w ib M mc gs (w.heap.size+1) w.heap.size (w.heap.size+1+1) [] 0 #[] W:=by
 have hs:W.heap.size=w.heap.size+3:=by grind
 have a:RdSt B w ib M mc gs (λG=>(#[]:Array Nat).contains G.born=true) (w.heap.size+1+1) W #[]:=by grind [RdSt.start,total,Below.refl]
 have b:W.heap[w.heap.size+1]?=some (.cells #[.map (some w.heap.size),.int .i64 (total gs)] 129 (0,0)):=by grind
 have c:W.heap[w.heap.size]?=some (.map #[] 0):=by grind
 refine⟨a,b,?_,λG _ hs=>(by simp at hs),λ_ h=>(by cases h),λk d=>?_⟩
 ·refine⟨?_,?_,List.nodup_nil,λ_ h=>(by cases h),by simp[foot],List.nodup_nil,λ_ h=>(by cases h),by simp[total],by omega,w_ _⟩
  ·grind [qq]
  grind [xV,yu]
 grind [foot,List.mem_nil_iff]
theorem ClSt.put {B w ib M mc gs i g r l f seen X n q j}(h:ClSt B w ib M mc gs i g r l f seen X){G}(z:G∈gs)(gI:seen.contains G.born=false)(u:Kept [r] X n)(hit:n.heap[r]?=some (.mapIter (some M) mc (seen.push G.born) mc))(o:Below n.heap.size n q)
  {cb nb} {v} {ms} (C:ms.map (·.p)=G.ms.map (·.p)) (S:q.heap[cb]?=some (.cells #[v,.map (some nb)] 176 (0,0))) (hl:zp n.heap.size q v ms) (hn:xV ekI q nb G.nl G.nc) (h1:n.heap.size<=cb) (h2:n.heap.size<=nb)
  (D:j=q.putObj g (.map (((l.map MG.e)++[(⟨G.name,.pointer (some ⟨cb,0,none⟩),f⟩:KE ByteArray)]).map (enE ekS)).toArray (f+1))):
  ClSt B w ib M mc gs i g r (l++[cpG G f cb nb v ms]) (f+1) (seen.push G.born) j:=by
 have O:=(i_ h.blk).1;have eW:g<X.heap.size:=by
  have:=(h.cl.foot_lt g (by simp[foot])).2
  rwa [zb]at this
 have fj:=(i_ h.rd.iter).1;have UV:w.heap.size<=X.heap.size:=h.rd.bl.size;have iJ:X.heap.size<=n.heap.size:=u.size;have Sb:n.heap.size<=q.heap.size:=o.size;have y:i≠g:=by
  have:=(uX.1 h.cl.apart).1;exact this
 have IB:i≠r:=h.rne i (by simp[foot]);have NE:g≠r:=h.rne g (by simp[foot]);have E:∀k,k≠g->j.heap[k]?=q.heap[k]?:=λk d=>by rw[D];exact x6 d
 have J:j.heap.size=q.heap.size:=by grind
 have K:j.heap[g]?=some (.map (((l.map MG.e)++[(⟨G.name,.pointer (some ⟨cb,0,none⟩),f⟩:KE ByteArray)]).map (enE ekS)).toArray (f+1)):=by grind
 have cH:y5 w.heap.size (setBlock n i (.cells #[.map (some g),.int .i64 (total l)] 129 (0,0))) i g l f:=yHy h.cl O (by omega) λk d _ x=>u.block k d (λe=>by
  rw[S_]at e;subst e;rcases x with x|⟨c,x⟩
  ·exact h.rne k x rfl
  ·rw[h.rd.iter]at x;cases x)
 have Q:yd l G.name=none:=by
  cases hg:yd l G.name with
  |none=>rfl
  |some G2=>
   exfalso;obtain⟨V,U⟩:=yH hg;obtain⟨F,N,T,P,_⟩:=h.bwd G2 V;have:F=G:=xD6 h.rd.idx.names F N G z (P.symm.trans U);grind
 have W:∀k∈(cpG G f cb nb v ms).foot,n.heap.size<=k:=λk d=>by
  unfold MG.foot cpG at d;simp only[m3,g8,aT_,or_false,R2]at d;rcases d with (rfl|rfl)|d
  ·exact h1
  ·exact h2
  ·exact(s5 hl.row k d).1
 have cj:(cpG G f cb nb v ms).foot.Nodup:=by
  have e1:cb≠nb:=λe=>by grind [xV]
  have e2:∀k,v.ownBlock=some k->cb≠k/\nb≠k:=λk d=>by
   obtain⟨c,x⟩:=xS hl.row d;grind [xBh,xV]
  grind [MG.foot,cpG,hv]
 have dI:∀k∈(cpG G f cb nb v ms).foot,k≠i/\k≠g:=λk d=>by grind
 have UW:ui w.heap.size q (cpG G f cb nb v ms):=yFb (h.rd.idx.grps G z) C S ⟨zi hl.row (by omega),λm I=>(hl.refs m I).mono (by omega)⟩ hn (by omega) (by omega)
 have NG:ui w.heap.size (setBlock j i (.cells #[.map (some g),.int .i64 (total (l++[cpG G f cb nb v ms]))] 129 (0,0))) (cpG G f cb nb v ms):=UW.keep (λk d=>by
   obtain⟨g1,g2⟩:=dI k d;rw[yu _ _ _ _ g1,E k g2]) (λm I k d=>by
   have:=(yJ.lt (hl.refs m I) d).1;rw[yu _ _ _ _ (by omega),E k (by omega)])
 have bO:total (l++[cpG G f cb nb v ms])<=65536:=R_ (xFr (Bl:=gs) (by
   rw[L8];refine M6.2 ⟨h.cl.names,by simp,λa ha b o e=>?_⟩;obtain⟨G2,t,rfl⟩:=D4.1 ha;simp only[t8,aA_,S_]at o;exact kh Q G2 t (e.trans o)) (λa ha=>by
   rcases m3.1 ha with ha|ha
   ·obtain⟨F,N,_,P,rS⟩:=h.bwd a ha;grind [List.length,List.length_map]
   ·obtain rfl:=S_.1 ha;refine⟨G,z,rfl,?_⟩;have:=congrArg List.length C;rw[M5,M5]at this;exact this.symm)) h.rd.idx.few
 obtain⟨gV,AW⟩:=cH.new (s:=G.name) (G':=cpG G f cb nb v ms) (w':=setBlock j i (.cells #[.map (some g),.int .i64 (total (l++[cpG G f cb nb v ms]))] 129 (0,0))) Q rfl rfl (by rw[zb];exact W) cj NG (qq _ _ _ (by omega)) (by
  unfold xV;rw[yu _ _ _ _ (bX_ y),K];simp only[L8,t8,aA_];rfl) ⟨by rw[show (setBlock j i (.cells #[.map (some g),.int .i64 (total (l++[cpG G f cb nb v ms]))] 129 (0,0))).os=j.os from rfl,D];exact o.os,by rw[show (setBlock j i (.cells #[.map (some g),.int .i64 (total (l++[cpG G f cb nb v ms]))] 129 (0,0))).tape=j.tape from rfl,D];exact o.tape,by rw[show (setBlock j i (.cells #[.map (some g),.int .i64 (total (l++[cpG G f cb nb v ms]))] 129 (0,0))).output=j.output from rfl,D];exact o.output,by rw[zb,zb,J];exact Sb,λk d A=>by
   simp only[g8,aT_,or_false,not_or]at A;rw[zb]at d;rw[yu _ _ _ _ A.1,yu _ _ _ _ A.1,E k A.2];exact o.block k d⟩ bO
 have UX:j.heap[r]?=some (.mapIter (some M) mc (seen.push G.born) mc):=by grind
 have Y:w.heap.size<=r:=h.rd.lo;have Z:w.heap.size<=g:=h.cl.MB;have az:Below w.heap.size w j:=by
  refine h.rd.bl.trans ⟨?_,?_,?_,by omega,λk d=>?_⟩
  ·grind
  ·grind
  ·grind
  grind
 refine⟨⟨UX,az,Y,h.rd.idx,λH L hs=>hs⟩,?_,gV,λH L hs=>?_,λG2 t=>?_,λk d=>?_⟩
 ·rw[E i y,o.block i (by omega)];exact(u.block i O (by simpa using IB)).trans h.blk
 ·rw[bS_,ac_]at hs;rcases hs with hs|hs
  ·obtain⟨G2,t,e⟩:=h.fwd H L hs;grind
  ·have R:H.born=G.born:=by grind
   have:H=G:=yG1 h.rd.idx.born H L G z R;subst this;exact⟨cpG H f cb nb v ms,Z1 _ (by simp),rfl,C⟩
 ·rcases m3.1 t with t|t
  ·obtain⟨F,N,T,e⟩:=h.bwd G2 t;grind
  ·obtain rfl:=S_.1 t;exact⟨G,z,by rw[bS_];simp,rfl,C⟩
 ·rcases AW k d with d|d
  ·exact h.rne k d
  grind [zb]
theorem ClSt.out {B w ib M mc gs b a r d g seen X i c}(h:ClSt B w ib M mc gs b a r d g seen X){G}(p:G∈gs)(C:seen.contains G.born=false)(f:Kept [r] X i)(o:Below i.heap.size i c)(cb):
  c.cell? ⟨b,0,none⟩=some (.map (some a))/\(Instr.mapUpdate 126 (.map (some a)) (.string G.name) (.pointer (some ⟨cb,0,none⟩))).run prog c=.ok () (c.putObj a (.map (((d.map MG.e)++[(⟨G.name,.pointer (some ⟨cb,0,none⟩),g⟩:KE ByteArray)]).map (enE ekS)).toArray (g+1))):=by
 have k:=(i_ h.blk).1;have D:a<X.heap.size:=by
  have:=(h.cl.foot_lt a (by simp[foot])).2
  rwa [zb]at this
 have z:X.heap.size<=i.heap.size:=f.size;have v:b≠r:=h.rne b (by simp[foot]);have E:a≠r:=h.rne a (by simp[foot]);have n:b≠a:=(uX.1 h.cl.apart).1;have t:yd d G.name=none:=by
  cases hg:yd d G.name with
  |none=>rfl
  |some G2=>
   exfalso;obtain⟨m,l⟩:=yH hg;obtain⟨j,x,y,s,_⟩:=h.bwd G2 m;have:j=G:=xD6 h.rd.idx.names j x G p (s.symm.trans l);grind
 have u:c.heap[b]?=some (.cells #[.map (some a),.int .i64 (total gs)] 129 (0,0)):=by
  rw[o.block b (by omega)];exact(f.block b k (by simpa using v)).trans h.blk
 have q:xV ekS c a (d.map MG.e) g:=by
  have A:=h.cl.map;grind [xV,yu]
 refine⟨cell_of_row c b 0 _ _ _ u,?_⟩;refine xK8 keyS underlying126 c a _ g q G.name _ ?_;have h2:=xDf G.name d 0;rw[t]at h2;simpa using h2
theorem ClSt.done {B w ib M mc gs j m r c q seen W}(h:ClSt B w ib M mc gs j m r c q seen W)(hall:∀G∈gs,seen.contains G.born=true):y5 w.heap.size W j m c q/\lfOf c=lfOf gs/\total c=total gs:=by
 have s:∀{a b:List ML},a.map (·.p)=b.map (·.p)->a.length=b.length:=λ{a b} h=>by grind [List.length,List.length_map]
 have ht:total c=total gs:=by
  refine Nat.le_antisymm (xFr h.cl.names λa ha=>?_) (xFr h.rd.idx.names λa ha=>?_)
  ·obtain⟨G,o,_,d,f⟩:=h.bwd a ha;exact⟨G,o,d.symm,(s f).symm⟩
  ·obtain⟨g,l,d,f⟩:=h.fwd a ha (hall a ha);exact⟨g,l,d,s f⟩
 have v:=(i_ h.blk).1;have u:∀k,W.heap[k]?=(setBlock W j (.cells #[.map (some m),.int .i64 (total c)] 129 (0,0))).heap[k]?:=λk=>by
  by_cases e:k=j
  ·subst e;rw[qq _ _ _ v,h.blk,ht]
  grind [yu]
 refine⟨h.cl.keep (λk _=>u k) (λ_ _ _ _ k _=>u k),?_,ht⟩;funext t;unfold lfOf xC;cases x:yd gs t with
 |none=>
  cases hg2:yd c t with
  |none=>rfl
  |some g=>
   exfalso;obtain⟨i,n⟩:=yH hg2;obtain⟨G,o,_,d,_⟩:=h.bwd g i;grind [kh]
 |some G=>
  obtain⟨i,n⟩:=yH x;obtain⟨g,l,d,f⟩:=h.fwd G i (hall G i);have:yd c t=some g:=by
   rw[<-n,<-d];exact xFd h.cl.names l
  rw[this];exact f
end Go.Proofs.YtdhapkeimaljfaaGreatDoor
namespace Go.Proofs.YtdhapkeimaljfaaGreatDoor
open Go Go.RowKit Go.Proofs Tryz
section
theorem xLg (b es clock w)(c:w.heap[b]?=some (.map es clock)):
  Calls prog 52 #[.map (some b)] w λe w'=>e=.returned (.map (some w.heap.size))/\w.alloc (.map es clock)=w':=by
 have a:prog.underlying 87=some (.map 3 111):=by simp
 have hq:=λw=>run_eql_map_nil_sl (P:=prog) w 87 _ _ (some b) a
 go_enter func52,ntmps52;go_wp2;rw[run_callFunc_extern func91 (by kernel_rfl) (by kernel_rfl) (by kernel_rfl) (e:=Extern.MapsClone.clone) (by kernel_rfl),run_maps_clone_sl w 87 c];simp only[Result.andThen];rw[aF_];go_wp2;rw[run_typeAssert_map_sl _ 87 20 _ _ _ a];simp only[Result.andThen];rw[aF_];go_wp2;go_ret;exact⟨rfl,rfl⟩
theorem xYi (w):Calls prog 53 #[.slice none 0 0] w λe w'=>e=.returned (.slice none 0 0)/\w=w':=by
 have hq:Sem.run prog (binOp BinOp.eql 88 (.slice none 0 0) (.slice none 0 0)) w=.ok (.bool true) w:=by kernel_rfl
 go_enter func53,ntmps53;go_wp2;go_ret;exact⟨rfl,rfl⟩
def xVg:=lx_ 90
def xRo:=sx_ 90
def yJo:=@yh prog 90 7 isAgg90 sizeOf90
def yJ6:=@yk prog 90 7 (by kernel_rfl)
def xZw:Array Value:=#[.int .i64 0,.map none,.slice none 0 0,.int .i64 0,.bool false,.int .i64 0,.bool false]
theorem xRy (ρ:Operand->Value)(d)(ty:TypeId)(pos af g w):
  Sem.run prog (execOp ρ ⟨d,.alloc 90,ty,pos,af,g⟩) w=.ok (.value (.pointer (some ⟨w.heap.size,0,none⟩))) (w.alloc (.cells xZw 90)):=by kernel_rfl
attribute [local go_sem ↓] xVg xRo xRy
attribute [local go_sem] yJo yJ6 xh xg xe xd xx zV xq xB
theorem yFy {B w v d}(h:yj B w v d)(l:d.pend=[]):
  Calls prog 32 #[.pointer (some ⟨v.p,0,none⟩)] w λe w'=>Below w.heap.size w w'/\∃v',e=.returned (.pointer (some ⟨v'.p,0,none⟩))/\yj w.heap.size w' v' d:=by
 have g:=h.nilp l;obtain⟨cs,j⟩:∃cs,cs=yB v d:=⟨_,rfl⟩;have r:=h.blk;rw[<-j]at r;have H:cs.size=7:=by rw[j];rfl
 obtain⟨o1,O⟩:=xF (n:=7) r H;have V:xt 7 cs=true:=by rw[j];unfold yB;rw[g];simp[xt,Value.oneCell']
 have Q:xZw.size=7:=rfl;obtain⟨a,s⟩:∃a,a=w.alloc (.cells cs 90):=⟨_,rfl⟩;have y:Below w.heap.size w a:=by grind
 have K:a.heap[w.heap.size]?=some (.cells cs 90 (0,0)):=by grind
 have J:a.heap.size=w.heap.size+1:=by grind
 have t:=h.below y;have c1:=cell_of_row a v.p 1 _ _ _ t.blk;simp only[yB]at c1;have X:=h_ (xLg v.M _ v.mc a t.map);have L:=h_ h;have Z:=h_ l;have P:=h_ g;have aq:=h_ y;have eu:=h_ K;have U:=h_ J;have R:=h_ j;have CR:=h_ s;rw[s]at c1;clear h l g y K J t j r H s;go_enter func32,ntmps32;go_wp2_with fail;rw[<-CR.out];refine X.mono ?_;rintro e w2 ⟨rfl,rfl⟩;clear V Q c1 o1 O;have G:Below a.heap.size a (a.alloc (.map (v.es.map (enE ekN)).toArray v.mc)):=by grind
 have o:=heap_alloc_new a (.map (v.es.map (enE ekN)).toArray v.mc);have q:(a.alloc (.map (v.es.map (enE ekN)).toArray v.mc)).heap.size=a.heap.size+1:=by simp
 obtain⟨m,k⟩:∃m,m=a.heap.size:=⟨_,rfl⟩;obtain⟨c,D⟩:∃c,c=a.alloc (.map (v.es.map (enE ekN)).toArray v.mc):=⟨_,rfl⟩;rw[<-D]at G o q⊢;rw[<-k]at o q⊢;have i:c.heap[w.heap.size]?=some (.cells cs 90 (0,0)):=by grind
 rw[R.out]at i;have c1:=cell_of_row c w.heap.size 1 _ _ _ i;have S:=frozen_of_row c w.heap.size 1 _ _ i;have f:=heap_setCell_same c w.heap.size 1 _ _ (.map (some m)) i;have u:Below w.heap.size w (c.setCell ⟨w.heap.size,1,none⟩ (.map (some m))):=by grind
 have N:(c.setCell ⟨w.heap.size,1,none⟩ (.map (some m))).heap[m]?=some (.map (v.es.map (enE ekN)).toArray v.mc):=by grind
 simp only[yB]at c1;have E:=L.below u;have c2:=cell_of_row _ v.p 2 _ _ _ E.blk;simp only[yB]at c2;have g:=P.out;rw[g]at c2;have C:=h_ f;have D5:=h_ N;have W:=h_ u;have Y:=h_ k;clear g f N u E G o q i D k;go_wp2_with fail;obtain⟨b,A⟩:∃b,b=c.setCell ⟨w.heap.size,1,none⟩ (.map (some m)):=⟨_,rfl⟩;rw[<-A]at C D5 W⊢;refine(xYi b).mono ?_;rintro e w4 ⟨rfl,rfl⟩;clear c1 S c2 A;have f:=C.out;have c2:=cell_of_row b w.heap.size 2 _ _ _ f;have f2:=frozen_of_row b w.heap.size 2 _ _ f;have F:=heap_setCell_same b w.heap.size 2 _ _ (.slice none 0 0) f;have I:Below w.heap.size w (b.setCell ⟨w.heap.size,2,none⟩ (.slice none 0 0)):=by grind
 have z:(b.setCell ⟨w.heap.size,2,none⟩ (.slice none 0 0)).heap[m]?=some (.map (v.es.map (enE ekN)).toArray v.mc):=by grind
 have h:=L.out
 have HF:=h_ (show yj w.heap.size (b.setCell ⟨w.heap.size,2,none⟩ (.slice none 0 0)) { v with p:=w.heap.size,M:=m,pv:=.slice none 0 0 } d from
  ⟨by rw[F];rfl,h.lim,λ_=>rfl,z,h.dur,h.durL,by rw[Z.out];exact⟨D1 _ _ _ _,λx hx=>by cases hx⟩,h.n1,h.n2,h.few,w_ _,by show w.heap.size<=m;rw[Y.out,U.out];omega⟩)
 have T:=h_ I;simp only[yB]at c2;clear f F I z h;go_wp2;go_ret;exact⟨T.out,{ v with p:=w.heap.size,M:=m,pv:=.slice none 0 0 },rfl,HF.out⟩
end
def xZv (b:Bool):Int:=if b then 28 else 0
def xG (p n:Nat):Array Value:=#[.pointer (some ⟨p,0,none⟩),.int .i64 0,.int .i64 n]
theorem xE2 (p n)(c:n<=4096)(w):Calls prog 88 #[.agg (xG p n)] w λe w'=>e=.returned (.int .i64 (n/2:Nat))/\Below w.heap.size w w':=by
 have a:Below w.heap.size w (w.alloc (.cells (xG p n) 156)):=by grind
 have b:=h_ a;have d:(n:Int)<=4096:=by omega
 unfold xG at b⊢;clear a c;go_enter func88,ntmps88;go_wp2;go_ret;exact⟨congrArg (λz=>Ending.returned (.int .i64 z)) (show (n:Int)/2=((n/2:Nat):Int) by omega),b.out⟩
theorem xFc {B w v d}(h:yj B w v d)(z:8<=d.n):Calls prog 54 #[.agg (xG v.p d.n)] w λe w'=>e=.returned (.int .i64 (xZv d.down))/\Below w.heap.size w w':=by
 obtain⟨a,f⟩:∃a,a=w.alloc (.cells (xG v.p d.n) 156):=⟨_,rfl⟩;have c:Below w.heap.size w a:=by grind
 have q:a.heap[w.heap.size]?=some (.cells (xG v.p d.n) 156 (0,0)):=by grind
 have t:∀k,Calls prog 30 #[.pointer (some ⟨v.p,0,none⟩)] (a.drewN k) λe w'=>e=.returned (.int .i64 d.n)/\∃m,w'=a.drewN m:=λk=>
  (qA ((h.below c).below (y9 (z_ _ _) k))).mono λe w' ⟨h1,h2⟩=>⟨h1,k,h2.symm⟩
 have i:=h_ t;have A:=h_ (h.below c);have C:=h_ c;have b:=h_ q;have h2:=h.n2;obtain⟨n,j⟩:∃n,n=d.n:=⟨_,rfl⟩;rw[<-j]at z h2 f q i b⊢;have G:=h_ j;have E:(8:Int)<=n:=by omega
 have F:(n:Int)<=4096:=by omega
 unfold xG at f b⊢;clear t c q h j;go_enter func54,ntmps54;go_upto_region 3 with fail
 refine xm f ?_;clear f;have c0:=cell_of_row a w.heap.size 0 _ _ _ b.out;have c1:=cell_of_row a w.heap.size 1 _ _ _ b.out;have c2:=cell_of_row a w.heap.size 2 _ _ _ b.out;have y:IntKind.i64.wrap ((n:Int)-n)=0:=by rw[Int.sub_self];rfl
 have x:decide ((n:Int)<8)=false:=decide_eq_false (by omega);have u:decide ((0:Int)>0)=false:=by decide
 go_quiet ((go_at_call 30;exact i.out _));have r:=h_ (A.below (y9 (z_ _ _) nq));have o:=h_ (y9 C.out nq);have l:(a.drewN nq).cell? ⟨w.heap.size,0,none⟩=some (.pointer (some ⟨v.p,0,none⟩)):=by rw[aD_];exact c0
 clear c0 c1 c2 y x u i;generalize a.drewN nq=w2 at r o l⊢;go_wp2_with fail;refine(xVq r.out).mono ?_;rintro e D ⟨rfl,rfl⟩;obtain⟨dn,g⟩:∃dn,dn=d.down:=⟨_,rfl⟩;rw[<-g];have s:=h_ g;clear g;cases dn with
 |true=>
  go_wp2;go_ret;exact⟨by rw[<-s.out];rfl,o.out⟩
 |false=>
  go_wp2;go_ret;exact⟨by rw[<-s.out];rfl,o.out⟩
theorem ScAt.under {w w' B v L vs}(h:ScAt w B v L vs)(hs:w.heap.size<=w'.heap.size)(b:∀g,B<=g->g<w.heap.size->w'.heap[g]?=w.heap[g]?):ScAt w' B v L vs:=by
 refine⟨⟨h.own.1,?_⟩,h.len,λi d=>(h.el i d).same hs λg h1 _ h3=>b g h1 h3⟩;rcases h.own.2 with e|⟨g,cap,cur,hv,a,c,r⟩
 ·exact .inl e
 ·exact .inr ⟨g,cap,cur,hv,a,(b g a (i_ c).1).trans c,r⟩
structure RdJ (W:World)(b0 b1 b2 p n from':Nat)(v:Value):Prop where
 st:W.heap[b0]?=some (.cells (xG p n) 156 (0,0))
 fr:W.heap[b1]?=some (.cells #[.int .i64 from'] 3 (0,0))
 li:W.heap[b2]?=some (.cells #[v] 157 (0,0))
def yGm (B b2:Nat)(v:Value)(L:List By)(vs:List Value)(b:By)(W:World)(e:Ending)(W':World):Prop:=
 e=.returned (.int .i64 0)/\∃v' x,W'.heap[b2]?=some (.cells #[v'] 157 (0,0))/\ScAt W' B v' (L++[b]) (vs++[x])/\Kept (b2 :: v.ownBlock.toList) W W'
theorem xXb {D B w v d}(h:yj D w v d)(T:d.down=false)(E b1 b2 from' L vs lv)(o:RdJ w E b1 b2 v.p d.n from' lv)(hl:ScAt w B lv L vs)(t:from'+L.length<d.n)(U:B<=w.heap.size)(h2B:b2<B):
  Calls prog 146 #[.pointer (some ⟨E,0,none⟩),.pointer (some ⟨b1,0,none⟩),.pointer (some ⟨b2,0,none⟩)] w (yGm B b2 lv L vs (d.vis (from'+L.length)) w):=by
 obtain⟨la,lc,A⟩:=yK hl.own;have c0:=cell_of_row w E 0 _ _ _ o.st;have c1:=cell_of_row w E 1 _ _ _ o.st;have cf:=cell_of_row w b1 0 _ _ _ o.fr;have cl:=cell_of_row w b2 0 _ _ _ o.li;have aF:=h.n2;have C:=h_ (yE2 h (from'+L.length) t T);have HR:=h_ o;have P:=h_ hl;have HD:=h_ h;have O:=h_ A;obtain⟨k,H⟩:∃k,k=L.length:=⟨_,rfl⟩;rw[<-H]at t C A⊢;have F:=h_ H;rw[A]at cl;have aP:(from':Int)+(k:Int)<=4096:=by omega
 obtain⟨s,hs⟩:∃s,s=from'+k:=⟨_,rfl⟩;have aV:(from':Int)+(k:Int)=(s:Int):=by omega
 rw[<-hs]at C⊢;have HS:=h_ hs;unfold xG at c0 c1;clear h T o hl A H hs;go_enter func146,ntmps146;go_wp2_with fail;refine C.mono ?_;rintro e i ⟨M,g,rfl,I,ah⟩;obtain⟨x,hx⟩:∃x,x=Value.slice (some ⟨g,0,none⟩) 256 256:=⟨_,rfl⟩;have r:∀j,lv.ownBlock=some j->j≠b2:=λj z e=>by
  have h1:=HR.li;rcases P.own.2 with⟨h0,_⟩|⟨g',cap,cur,hv,_,aw,_⟩
  ·rw[h0]at z;cases z
  ·rw[hv]at z;have oL:g'=j:=G0 z;omega
 have b:b2<w.heap.size:=by omega
 have N:Below i.heap.size i (i.alloc (.cells #[.slice (some ⟨g,0,none⟩) 256 256] 23)):=by grind
 have u:=M.trans (N.mono M.size);have Q:=h_ (P.later u);have NJ:=h_ ((xVp (B:=B) (v:=lv) ah (xYy HD.out s) (R_ U I) (λe=>by have:=(s5 P.own g e).2;omega)).later N);have cl1:i.cell? ⟨b2,0,none⟩=some (.slice la k lc):=by grind
 have R:=yD i #[.slice (some ⟨g,0,none⟩) 256 256] 23 0;have tF:=h_ R;have J:Hid (L.length<=1000000):=h_ (by rw[<-F.out];omega);have dD:Hid (B<=(i.alloc (.cells #[.slice (some ⟨g,0,none⟩) 256 256] 23)).heap.size):=h_ (R_ U u.size);have Z:=h_ u;have nX:=h_ r;have UY:=h_ b;have V:=(u.block b2 b).trans HR.li;have Hf:=h_ V;rw[O.out,<-F.out]at Q;clear R N M u r b ah I hx c0 c1 cf cl C V;go_wp2_with (at_builtin;refine xCp rfl (.tmp 21) (.tmp 23) rfl B _ L vs rfl Q.out (.slice (some ⟨g,0,none⟩) 256 256) (d.vis s) ?cE ⟨i.heap.size,0,none⟩ rfl tF.out J.out dD.out ?_)
 case cE=>rw[F.out,<-O.out];exact NJ.out
 intro v' f K l au;have y:=(l.block b2 (b7 UY.out Z.size) (λe=>nX.out b2 (by rw[O.out,<-F.out];exact e.symm) rfl)).trans Hf.out;have c2:=cell_of_row f b2 0 _ _ _ y;have f2:=frozen_of_row f b2 0 _ _ y;have X:=heap_setCell_same f b2 0 _ _ v' y;obtain⟨m,S⟩:∃m,m=(L++[d.vis s]).length:=⟨_,rfl⟩;obtain⟨va,vc,eB⟩:∃a c,v'=.slice a m c:=by rw[S];exact yK K.own
 clear S;have NK:ScAt (f.setCell ⟨b2,0,none⟩ v') B v' (L++[d.vis s]) (vs++[.slice (some ⟨g,0,none⟩) 256 256]):=K.under (by simp[World.setCell]) λg I _=>heap_setCell_other f ⟨b2,0,none⟩ g v' (by show g≠b2;omega)
 have W:Kept (b2 :: lv.ownBlock.toList) w (f.setCell ⟨b2,0,none⟩ v'):=by
  have q:=Z.out;refine⟨l.os.trans q.os,l.tape.trans q.tape,l.output.trans q.output,by have:=l.size;have:=q.size;simp[World.setCell];omega,λk' Y G=>?_⟩;rw[g8,not_or]at G;refine(heap_setCell_other f ⟨b2,0,none⟩ k' v' G.1).trans ((l.block k' (b7 Y q.size) (λe=>G.2 ?_)).trans (q.block k' Y));grind
 have aC:=h_ (show yGm B b2 lv L vs (d.vis s) w (.returned (.int .i64 0)) (f.setCell ⟨b2,0,none⟩ v')from ⟨rfl,v',_,X,NK,W⟩);subst eB;clear X NK W K l au y;go_wp2;go_ret;exact aC.out
def jZ (d:PD)(from' k:Nat):List By:=(List.range k).map λi=>d.vis (from'+i)
theorem uw (d from' k):(jZ d from' k).length=k:=by simp[jZ]
theorem xX4 (d from' k):jZ d from' (k+1)=jZ d from' k++[d.vis (from'+k)]:=by simp[jZ,bQ_]
def xUm (w:World)(b:Nat):Nat:=match w.cell? ⟨b,0,none⟩ with
 |some (.slice _ n _)=>n
 |_=>0
def xEf (d:PD)(from' k:Nat)(w:World)(e:Ending)(w':World):Prop:=
 Below w.heap.size w w'/\∃v vs,e=.returned (.tuple #[v,.int .i64 0])/\ScAt w' w.heap.size v (jZ d from' k) vs
structure RlSt (w:World)(p n from':Nat)(d:PD)(k:Nat)(W:World):Prop where
 bel:Below w.heap.size w W
 at':∃v vs,RdJ W w.heap.size (w.heap.size+1) (w.heap.size+1+1) p n from' v/\ScAt W (w.heap.size+3) v (jZ d from' k) vs
theorem xP1 {D w v d}(h:yj D w v d)(F:d.down=false)(from' cnt)(b:from'+cnt<=d.n):
  Calls prog 105 #[.agg (xG v.p d.n),.int .i64 from',.int .i64 cnt] w (xEf d from' cnt w):=by
 obtain⟨f,s⟩:∃f,f=((w.alloc (.cells (xG v.p d.n) 156)).alloc (.cells #[.int .i64 from'] 3)).alloc (.cells #[.slice none 0 0] 157):=⟨_,rfl⟩;have G:Below w.heap.size w f:=by grind
 have Q:f.heap.size=w.heap.size+3:=by grind
 have H:f.heap[w.heap.size]?=some (.cells (xG v.p d.n) 156 (0,0)):=by grind
 have h1:f.heap[w.heap.size+1]?=some (.cells #[.int .i64 from'] 3 (0,0)):=by grind
 have h2:f.heap[w.heap.size+2]?=some (.cells #[.slice none 0 0] 157 (0,0)):=by grind
 have L:Hid (RlSt w v.p d.n from' d 0 f):=h_ ⟨G,.slice none 0 0,[],⟨H,h1,h2⟩,ScAt.nil _ _⟩;have V:=h_ h;have X:=h_ F;have R:=h.n2;have Y:(cnt:Int)<=4096:=by omega
 have W:=h_ b;obtain⟨n,y⟩:∃n,n=d.n:=⟨_,rfl⟩;rw[<-y]at s L⊢;have T:=h_ y;unfold xG at s;clear G Q H h1 h2 h F R b y;unfold xG;go_enter func105,ntmps105;go_wp2;refine xm s ?_;clear s;go_loopw [10] (λ_ wr=>∃k:Nat,k<=cnt/\Hid (RlSt w v.p n from' d k wr)) (λ_ wr=>cnt-xUm wr (w.heap.size+1+1))
 case atStart=>exact⟨0,n3 _,L⟩
 case round=>
  obtain⟨k,Z,HS⟩:=hrel;obtain⟨lv,vs,o,l⟩:=HS.at';obtain⟨la,lc,i⟩:=yK l.own;rw[uw]at i;have cl:=cell_of_row wr (w.heap.size+1+1) 0 _ _ _ o.li;rw[i]at cl;have cl':wr.cell? ⟨w.heap.size+1+1,0,none⟩=some (.slice la k lc):=cl;have u:xUm wr (w.heap.size+1+1)=k:=by grind [xUm]
  have N:w.heap.size+3<=wr.heap.size:=by grind
  have A:=h_ u;have NI:=h_ i;have C:=h_ l;by_cases b:k<cnt
  ·have aM:(k:Int)<cnt:=by omega
   have J:=xXb (V.below HS.bel) X.out w.heap.size (w.heap.size+1) (w.heap.size+1+1) from' (jZ d from' k) vs lv (by rw[<-T.out];exact o) l (by rw[uw];have:=W.out;omega) N (bJ_ _);have P:=h_ J;have M:=h_ o;clear J o l u i cl;go_wp2_with fail;refine P.mono ?_;rintro e t ⟨rfl,v',x,B,q,r⟩;have g:∀j,j<w.heap.size+2->j∉((w.heap.size+1+1) :: lv.ownBlock.toList):=λj E m=>by
    rcases g8.1 m with rfl|m
    ·omega
    ·have:=(s5 C.own j (by simpa using m)).1;omega
   have K:Below w.heap.size w t:=HS.bel.trans (r.below (by omega) (λj E=>by
    rcases g8.1 E with rfl|m
    ·omega
    ·have:=(s5 C.own j (by simpa using m)).1;omega))
   rw[uw,<-xX4]at q;have I:xUm t (w.heap.size+1+1)=k+1:=by
    obtain⟨a,c,e⟩:=yK q.own;grind [xUm,uw]
   have O:Hid (RlSt w v.p n from' d (k+1) t):=h_ ⟨K,v',_,⟨(r.block _ (by omega) (g _ (by omega))).trans M.st,(r.block _ (by omega) (g _ (by omega))).trans M.fr,B⟩,q⟩;have S:=h_ I;have z:k+1<=cnt:=b;clear I K g q B r cl';go_wp2;go_roundw
   case rel=>exact⟨k+1,z,O⟩
   case measure=>rw[S.out,A.out];omega
  ·obtain rfl:k=cnt:=by omega
   have U:=h_ (show xEf d from' k w (.returned (.tuple #[.slice la k lc,.int .i64 0])) wr from ⟨HS.bel,.slice la k lc,vs,rfl,by rw[<-i];exact l.base (by omega)⟩);clear o l u i cl;go_wp2;go_ret2;exact U.out
section
attribute [local go_sem ↓] qW qr
attribute [local go_sem] xE0 xDt xHq xHm xOd xh xg xe xd xx xy xk xj xq xB xw
def zS:=lx_ 156
def zI:=sx_ 156
def xAp:=@yh prog 156 3 isAgg156 sizeOf156
def xAn:=@yk prog 156 3 (by kernel_rfl)
attribute [local go_sem ↓] zS zI
attribute [local go_sem] xAp xAn
noncomputable def genK (d:PD)(area k:Nat):Nat:=(List.range k).foldl (λg s=>zO sha area g (d.vis s)) area
theorem xP8 (d area k):genK d area (k+1)=zO sha area (genK d area k) (d.vis k):=by simp[genK,bQ_,cc_,cq_,List.foldl_nil]
theorem xZr (d area)(ha:area<2):∀k,genK d area k<=2147483649
 |0=>by show area<=_;omega
 |k+1=>by
  have ih:=xZr d area ha k;rw[xP8];unfold zO;cases hp:decP sha (d.vis k) with
  |none=>exact ih
  |some p=>
   have a:=xE9 hp;have b:p.gen<=2147483647:=a.1.2.2.2.1;grind
structure NxSt (w:World)(L:List By)(v:Value)(vs:List Value)(W:World):Prop where
 bel:Below w.heap.size w W
 sc:ScAt W w.heap.size v L vs
theorem yC8 {w B v L vs}(h:ScAt w B v L vs)(k)(a:k<L.length):∃g cap e,v=.slice (some ⟨g,0,none⟩) L.length cap/\w.cell? ⟨g,k,none⟩=some (.slice (some ⟨e,0,none⟩) 256 256)/\L[k].length=256/\e<w.heap.size/\SlB w ⟨e,0,none⟩ L[k]:=by
 obtain⟨g,cap,hv,_,_,_,_,c⟩:=h.at (λe=>by rw[e]at a;cases a)
 obtain⟨e,b,h2,_,h4,_,d⟩:=h.el k a;grind
theorem xP2 {D w v d}(h:yj D w v d)(W:d.down=false)(hK:qI w)(area)(ha:area<2)(V:genK d area d.n<=2147483647):
  Calls prog 73 #[.agg (xG v.p d.n),.int .i64 area] w λe w'=>Below w.heap.size w w'/\e=.returned (.tuple #[.int .i64 (genK d area d.n),.int .i64 0]):=by
 obtain⟨s,y⟩:∃s,s=w.alloc (.cells (xG v.p d.n) 156):=⟨_,rfl⟩;have N:Below w.heap.size w s:=by grind
 have M:s.heap[w.heap.size]?=some (.cells (xG v.p d.n) 156 (0,0)):=by grind
 have I:=h_ (xP1 (h.below N) W 0 d.n (by omega));obtain⟨o1,z⟩:=xF (n:=3) M rfl;have c2:=cell_of_row s w.heap.size 2 _ _ _ M;have L:=h_ N;have HK:=h_ hK;have HG:=h_ V;have HD:=h_ h;have aF:=h.n2;obtain⟨n,F⟩:∃n,n=d.n:=⟨_,rfl⟩;rw[<-F]at y z c2 I aF HG⊢;have HN:=h_ F;obtain⟨G,H⟩:∃G,G=genK d area:=⟨_,rfl⟩;rw[<-H]at HG⊢;have P:=h_ H;have nZ:(n:Int)<=4096:=by omega
 have NM:(area:Int)<2:=by omega
 unfold xG at y z c2 I⊢;rw[y]at o1 z c2;clear h W hK V N M F H;go_enter func73,ntmps73;go_wp2_with fail;rw[<-y];clear y o1 z c2;refine I.mono ?_;rintro e w2 ⟨ai,lv,vs,rfl,J⟩;obtain⟨la,lc,B⟩:=yK J.own;rw[uw]at B;subst B;have a_:Hid (NxSt w (jZ d 0 n) (.slice la n lc) vs w2):=h_ ⟨L.trans (ai.mono L.size),J.base L.size⟩;clear ai J;go_wp2;have Q:(area:Int)=(G 0:Int):=by rw[P.out];simp[genK]
 rw[Q];have HG0:=h_ Q;clear Q;go_loopw [8,26] (λgv iv wr=>∃k:Nat,gv=.int .i64 (G k:Int)/\iv=.int .i64 k/\k<=n/\Hid (NxSt w (jZ d 0 n) (.slice la n lc) vs wr)) (λ_ iv _=>n-(intOf iv).toNat)
 case atStart=>exact⟨0,rfl,rfl,n3 _,a_⟩
 case round=>
  obtain⟨k,rfl,rfl,hk,HS⟩:=hrel;by_cases hlt:k<n
  ·have aM:(k:Int)<n:=by omega
   obtain⟨g,cap,e0,B,bD,Z,Sf,Ay⟩:=yC8 HS.sc k (by rw[uw];exact hlt);have Ld:la=some ⟨g,0,none⟩:=by grind
   subst Ld;have K:=jg e0 _ wr (HK.below HS.bel (w_ _)) Ay Z Sf;have Z0:(jZ d 0 n)[k]'(by rw[uw];exact hlt)=d.vis k:=by simp[jZ]
   rw[Z0]at K;have t:=h_ K;have C3:G (k+1)=zO sha area (G k) (d.vis k):=by rw[P.out];exact xP8 d area k
   have Le:=h_ C3;have ZF:(G k:Int)<=2147483649:=by have:=xZr d area ha k;rw[<-P.out]at this;omega
   have hGz:(0:Int)<=(G k:Int):=by omega
   clear B K Z0 C3 Z Ay;go_wp2_with fail;refine t.mono ?_;rintro e f ⟨o,bn⟩;have m:Hid (NxSt w (jZ d 0 n) (.slice (some ⟨g,0,none⟩) n lc) vs f):=h_ ⟨HS.bel.trans (o.mono HS.bel.size),HS.sc.later o⟩;rcases bn with⟨p,vp,u,rfl,C,A⟩|⟨r,Y,hr,rfl⟩
   ·obtain⟨vg,vn,vc,rfl⟩:∃g n c,vp=.slice (some ⟨g,0,none⟩) n c:=by
     rcases C.at with⟨h,_⟩|⟨g,c,h,_⟩
     ·exact absurd h A
     ·exact⟨g,_,c,h⟩
    have x:=xE9 u;have R:(0:Int)<=p.gen:=x.1.2.2.1;have X:p.gen<=2147483647:=x.1.2.2.2.1;unfold zc;have aU:xt 6 #[.int .i64 p.kind,.int .i64 p.gen,.int .i64 p.num,.int .i64 p.idx,.int .i64 p.cnt,.slice (some ⟨vg,0,none⟩) vn vc]=true:=by simp[xt,Value.oneCell']
    have i:Below f.heap.size f (f.alloc (.cells #[.int .i64 p.kind,.int .i64 p.gen,.int .i64 p.num,.int .i64 p.idx,.int .i64 p.cnt,.slice (some ⟨vg,0,none⟩) vn vc] 233)):=by grind
    have l:Hid (NxSt w (jZ d 0 n) (.slice (some ⟨g,0,none⟩) n lc) vs (f.alloc (.cells #[.int .i64 p.kind,.int .i64 p.gen,.int .i64 p.num,.int .i64 p.idx,.int .i64 p.cnt,.slice (some ⟨vg,0,none⟩) vn vc] 233))):=h_ ⟨m.bel.trans (i.mono m.bel.size),m.sc.later i⟩;have b:k+1<=n:=hlt;have a:=Le.out;unfold zO at a;rw[u]at a;simp only at a;by_cases hge:(G k:Int)<=p.gen
    ·rw[if_pos hge]at a;obtain⟨q,hq⟩:∃q:Nat,q=p.gen.toNat:=⟨_,rfl⟩;have O:p.gen=(q:Int):=by omega
     rw[<-hq]at a;have U:(q:Int)<=2147483647:=by omega
     have S:(q:Int)>=(G k:Int):=by omega
     rw[O]at aU l⊢;by_cases hpar:(q+1)%2≠area
     ·rw[if_pos hpar]at a;have j:=h_ a;have E:¬ (((q:Int)+1)%2=(G 0:Int)):=by grind
      clear a x u C A o i t hpar O hq hge R X;go_wp2;go_roundw
      case rel=>exact⟨k+1,by rw[j.out];go_num,by go_num,b,l⟩
      case measure=>simp[intOf];omega
     ·rw[if_neg hpar]at a;have j:=h_ a;have E:((q:Int)+1)%2=(G 0:Int):=by grind
      clear a x u C A o i t hpar O hq hge R X;go_wp2;go_roundw
      case rel=>exact⟨k+1,by rw[j.out];go_num,by go_num,b,l⟩
      case measure=>simp[intOf];omega
    ·rw[if_neg hge]at a;have T:¬ p.gen>=(G k:Int):=hge;have j:=h_ a;clear a x u C A o i t;go_wp2;go_roundw
     case rel=>exact⟨k+1,by rw[j.out],by go_num,b,l⟩
     case measure=>simp[intOf];omega
   ·have a:=Le.out;unfold zO at a;rw[Y]at a;simp only at a;have j:=h_ a;have aI:(r==0)=false:=by grind
    have aE:(r != 0)=true:=by grind
    have fo:=xDe;unfold zc;have i:Below f.heap.size f (f.alloc (.cells uu 233)):=by grind
    have l:Hid (NxSt w (jZ d 0 n) (.slice (some ⟨g,0,none⟩) n lc) vs (f.alloc (.cells uu 233))):=h_ ⟨m.bel.trans (i.mono m.bel.size),m.sc.later i⟩;unfold uu at l;have b:k+1<=n:=hlt;clear a Y hr i t o;go_wp2;go_roundw
    case rel=>exact⟨k+1,by rw[j.out],by go_num,b,l⟩
    case measure=>simp[intOf];omega
  ·obtain rfl:k=n:=by omega
   have gB:(G k:Int)<=2147483647:=by grind
   have UZ:=h_ HS.bel;go_wp2;go_ret2;exact⟨UZ.out,rfl⟩
end
theorem xOo:∀(l:List By) (d:PD) (a:Nat),d.Up->(d.puts a l).1.pend.length=d.pend.length+l.length
 |[],d,a,h=>rfl
 |c :: l,d,a,h=>by
  have h2:PD.Up { d with pend:=d.pend++[(a,c)] }:=h;have ih:=xOo l _ (a+1) h2;grind [PD.puts,PD.write_up,List.length_append,List.length_cons,List.length_nil]
theorem xF7 {H:By->By}{gen}(f num l):zL H gen (f+1) num l=match uh H l with
  |none=>[]
  |some (r,n)=>if l=[]then []else if r.gen=gen/\r.num=num then r :: zL H gen f (num+1) (l.drop n)else []:=rfl
theorem xOh {H:By->By}{gen}:∀(f:Nat) (num:Int) (L:List By),L.length<=f->zL H gen (f+1) num L=zL H gen f num L
 |0,num,L,h=>by
  have:L=[]:=by grind
  subst this;rfl
 |f+1,num,L,h=>by
  rw[xF7 (f+1),xF7 f];cases hj:uh H L with
  |none=>rfl
  |some x=>
   obtain⟨r,n⟩:=x;have:=xXt hj;simp only;rw[xOh f (num+1) (L.drop n) (by rw[E0];omega)]
structure EnAt (w:World)(B:Nat)(v:Value)(L:List By)(vs:List Value):Prop where
 own:w.ownsRow B 23 1 v L.length vs
 len:vs.length=L.length
 el:∀i (hi:i<L.length),OwnB w B (vs[i]'(by rw[len];exact hi)) L[i]/\vs[i]'(by rw[len];exact hi)≠.slice none 0 0/\∀k,(vs[i]'(by rw[len];exact hi)).ownBlock=some k->v.ownBlock≠some k
theorem EnAt.nil (w B):EnAt w B (.slice none 0 0) [] []:=⟨D1 _ _ _ _,rfl,λi a=>by cases a⟩
theorem EnAt.later {w w' B v L vs}(h:EnAt w B v L vs)(b:Below w.heap.size w w'):EnAt w' B v L vs:=
 ⟨bt_ (row:=none) h.own (ql b none) (by cases v.ownBlock <;> simp),h.len,λi a=>⟨(h.el i a).1.below b,(h.el i a).2⟩⟩
theorem EnAt.base {w B B' v L vs}(h:EnAt w B v L vs)(b:B'<=B):EnAt w B' v L vs:=
 ⟨⟨h.own.1,h.own.2.imp (λh=>h) λ⟨g,cap,cur,hv,c,r⟩=>⟨g,cap,cur,hv,R_ b c,r⟩⟩,h.len,λi a=>⟨(h.el i a).1.base b,(h.el i a).2⟩⟩
theorem kv {w w':World}{B t s n v xs}(h:w.ownsRow B t s v n xs)(c:∀g,B<=g->g<w.heap.size->w'.heap[g]?=w.heap[g]?):w'.ownsRow B t s v n xs:=by
 refine⟨h.1,?_⟩;rcases h.2 with d|⟨g,cap,cur,hv,a,b,r⟩
 ·exact .inl d
 ·exact .inr ⟨g,cap,cur,hv,a,(c g a (i_ b).1).trans b,r⟩
theorem EnAt.under {w w' B v L vs}(h:EnAt w B v L vs)(b:∀g,B<=g->g<w.heap.size->w'.heap[g]?=w.heap[g]?):EnAt w' B v L vs:=
 ⟨kv h.own b,h.len,λi a=>⟨kv (h.el i a).1 b,(h.el i a).2⟩⟩
theorem EnAt.app {w w' B v v' x L vs l}(h:EnAt w B v L vs)(ho:w'.ownsRow B 23 1 v' (L.length+1) (vs++[x]))(d:w.grownBy w' v.ownBlock)
  (hx:OwnB w B x l/\x≠.slice none 0 0/\∀k,x.ownBlock=some k->v.ownBlock≠some k) (f:∀k,v'.ownBlock=some k->v.ownBlock=some k\/w.heap.size<=k):EnAt w' B v' (L++[l]) (vs++[x]):=by
 have conv:∀y m,(OwnB w B y m/\y≠.slice none 0 0/\∀k,y.ownBlock=some k->v.ownBlock≠some k)->OwnB w' B y m/\y≠.slice none 0 0/\∀k,y.ownBlock=some k->v'.ownBlock≠some k:=λy m h=>by
  refine⟨h.1.grown d (λk e a=>h.2.2 k a e),h.2.1,λk e a=>?_⟩;rcases f k a with h1|h1
  ·exact h.2.2 k e h1
  ·have:=(h.1.lt e).2;omega
 refine⟨by simpa using ho,by simp[h.len],λi g=>?_⟩;by_cases hlt:i<L.length
 ·have c:(L++[l])[i]=L[i]:=by grind
  have a:(vs++[x])[i]'(by simp[h.len];omega)=vs[i]'(by rw[h.len];exact hlt):=by grind
  rw[c,a];exact conv _ _ (h.el i hlt)
 ·have b:i=L.length:=by grind
  subst b;have c:(L++[l])[L.length]'(by simp)=l:=by simp
  have a:(vs++[x])[L.length]'(by simp[h.len])=x:=by simp[<-h.len]
  grind
theorem EnAt.get {w B v L vs}(h:EnAt w B v L vs)(i)(b:i<L.length):∃g cap e ecap,v=.slice (some ⟨g,0,none⟩) L.length cap/\w.cell? ⟨g,i,none⟩=some (.slice (some ⟨e,0,none⟩) L[i].length ecap)/\B<=e/\e<w.heap.size/\L[i].length<=ecap/\SlB w ⟨e,0,none⟩ L[i]/\OwnB w B (.slice (some ⟨e,0,none⟩) L[i].length ecap) L[i]:=by
 obtain⟨h1,h2,_⟩:=h.el i b;have a:=h1;rcases h1.at with⟨d,_⟩|⟨e,ecap,hx,f,hl,_,hs⟩
 ·exact absurd d h2
 ·rcases h.own.2 with⟨_,d⟩|⟨g,cap,cur,hv,j,n,m,l,o,k⟩
  ·omega
  ·subst hv;have c:=bM_ h.own i (by omega);rw[U_ (by rw[h.len];exact b),hx]at c;rw[hx]at a;exact⟨g,cap,e,ecap,rfl,c,f,(a.lt rfl).2,hl,hs,a⟩
end Go.Proofs.YtdhapkeimaljfaaGreatDoor
namespace Go.Proofs.YtdhapkeimaljfaaGreatDoor
variable (H:By->By)
theorem xJ4 (m:∀c,(H c).length=16){r:PRec}(h:r.Ok):∀(n i k:Nat) (l:List By),i+n=y6 r.pay.length->k<n->(∀t,t<k->l[t]?=some (encP H (yO r (i+t)))) ->
  (∀b,l[k]?=some b->∀p,decP H b=some p->p.gen≠r.gen)->zt H (yO r 0) n l=none
 |0,_,_,_,_,d,_,_=>absurd d (aY_ _)
 |n+1,i,k,[],_,_,_,_=>rfl
 |n+1,i,0,b :: l,f,_,_,ho=>by
  unfold zt;cases hd:decP H b with
  |none=>rfl
  |some p=>exact if_neg λg=>ho b rfl p hd g.2.1
 |n+1,i,k+1,b :: l,f,d,a,ho=>by
  have e:=a 0 (by omega);simp only[t1,ag_,aN_]at e;have hd:decP H b=some (yO r i):=by grind [xEa,xA7]
  have ih:=xJ4 m h n (i+1) k l (by omega) (by omega) (λt ht=>by have:=a (t+1) (by omega);rw[m8]at this;rw[this];congr 3;omega) (λb j=>ho b (by rw[m8];exact j));grind [zt]
theorem yAy (g:∀c,(H c).length=16){r:PRec}(h:r.Ok){l:List By}{i:Nat}(j:i<y6 r.pay.length)(d:∀t,t<i->l[t]?=(xJ H r)[t]?)
  (ho:∀b,l[i]?=some b->∀p,decP H b=some p->p.gen≠r.gen) (f:Nat) (num:Int):zL H r.gen f num l=[]:=by
 cases i with
 |zero=>exact xTl H λb a p hq=>ho b (by rw[<-List.head?_eq_getElem?];exact a) p hq
 |succ i=>
  cases f with
  |zero=>rfl
  |succ f=>
   have hs:∀t,t<y6 r.pay.length->(xJ H r)[t]?=some (encP H (yO r t)):=λt ht=>by unfold xJ;simp[ht]
   cases l with
   |nil=>rfl
   |cons b l=>
    have e:=(d 0 (by omega)).trans (hs 0 (by omega));simp only[t1,ag_]at e;have m:decP H b=some (yO r 0):=by grind [xEa,xA7]
    have k:=xJ4 H g h (y6 r.pay.length-1) 1 i l (by omega) (by omega) (λt ht=>by
     have:=(d (t+1) (by omega)).trans (hs (t+1) (by omega));rw[m8]at this;rw[this];congr 3;omega) (λb a=>ho b (by rw[m8];exact a))
    grind [uh,yO,y6,zL]
theorem xMr (d:PD)(n a i:Nat):(d.area n a)[i]?=if i<n/2 then some (d.vis (a*(n/2)+i))else none:=by grind [PD.area]
theorem least {p:Nat->Prop}(h:∃i,p i):∃i,p i/\∀k,k<i->¬ p k:=by
 have:∀m,(∃i,i<m/\p i)->∃i,p i/\∀k,k<i->¬ p k:=λm=>by
  induction m with
  |zero=>rintro ⟨i,a,_⟩;omega
  |succ m ih=>
   rintro⟨i,a,b⟩;by_cases hm:∃i,i<m/\p i
   ·exact ih hm
   grind
 obtain⟨i,a⟩:=h;exact this (i+1) ⟨i,bJ_ i,a⟩
theorem JInv.crash (v:∀c,(H c).length=16){n:Nat}{d g:PD}{j:PJ}(h:JInv H n d j)(y:By)(hy:y.length<=131072)(G:j.entries.length+1<2147483647)(J:(j.secs H).length+y6 y.length<=n/2)
  (hv:∀s,g.vis s=d.vis s\/∃i,(xJ H (j.body y))[i]?=some (g.vis s)/\s=j.area*(n/2)+(j.secs H).length+i):JRec H n g j\/JRec H n g (j.add y):=by
 have ha:=h.ok.area;have E:=xSb h.ok y hy G;have C:(xJ H (j.body y)).length=y6 y.length:=zq H _;have M:∀i b,(xJ H (j.body y))[i]?=some b->∃p,decP H b=some p/\p.gen=j.gen:=λi b a=>by
  obtain⟨p,l,o⟩:=xHk H v E (ab_ a);exact⟨p,l,o⟩
 have A:∀s,s<n->∀p,decP H (g.vis s)=some p->p.gen<=j.gen:=λs hs p l=>by
  rcases hv s with e|⟨i,q,_⟩
  ·exact(h.old s hs p (by rw[<-e];exact l)).1
  grind
 have L:∀s,s<n->(s<j.area*(n/2)\/j.area*(n/2)+n/2<=s)->∀p,decP H (g.vis s)=some p->p.gen≠j.gen:=λs hs ho p l=>by
  rcases hv s with e|⟨i,q,rfl⟩
  ·intro o;have:=(h.old s hs p (by rw[<-e];exact l)).2 o;omega
  grind
 have B:∀i b,(j.secs H)[i]?=some b->g.vis (j.area*(n/2)+i)=b:=λi b a=>by
  rcases hv (j.area*(n/2)+i)with e|⟨k,m,e⟩
  ·exact e.trans (h.at_ i b a)
  grind
 by_cases hall:∀i b,(xJ H (j.body y))[i]?=some b->g.vis (j.area*(n/2)+(j.secs H).length+i)=b
 ·right
  have I:(j.add y).Ok:=by
   refine⟨h.ok.par,h.ok.gen,h.ok.first,by simp[PJ.add];omega,by have:=h.ok.carried;simp[PJ.add];omega,λb a=>?_⟩;simp only[PJ.add,m3,S_]at a;rcases a with a|rfl
   ·exact h.ok.ents b a
   ·exact hy
  refine JInv.toRec H v ⟨I,by rw[kG,b6,C];exact J,λi b a=>?_,λs hs p l=>?_⟩
  ·rw[kG]at a;by_cases q:i<(j.secs H).length
   ·rw[I3 q]at a;exact B i b a
   ·rw[M1 (by omega)]at a;have:=hall _ b a;rw[<-this];show g.vis (j.area*(n/2)+i)=_
    congr 1;omega
  ·show p.gen<=j.gen/\(p.gen=j.gen->j.area*(n/2)<=s/\s<j.area*(n/2)+((j.add y).secs H).length)
   refine⟨A s hs p l,λo=>?_⟩;rw[kG,b6,C];rcases hv s with e|⟨i,q,rfl⟩
   ·have:=(h.old s hs p (by rw[<-e];exact l)).2 o;omega
   grind
 ·left
  have x:∃i b,(xJ H (j.body y))[i]?=some b/\g.vis (j.area*(n/2)+(j.secs H).length+i)≠b/\∀k,k<i->∀c,(xJ H (j.body y))[k]?=some c->g.vis (j.area*(n/2)+(j.secs H).length+k)=c:=by
   have K:∃i,∃b,(xJ H (j.body y))[i]?=some b/\g.vis (j.area*(n/2)+(j.secs H).length+i)≠b:=by grind
   obtain⟨i,⟨b,a,u⟩,D⟩:=least K;grind
  obtain⟨i,b,a,u,D⟩:=x;have q:i<y6 y.length:=by grind
  have F:∀p,decP H (g.vis (j.area*(n/2)+(j.secs H).length+i))=some p->p.gen≠j.gen:=λp l o=>by
   rcases hv (j.area*(n/2)+(j.secs H).length+i)with e|⟨k,m,e⟩
   ·have w:j.area*(n/2)+(j.secs H).length+i<n:=by
     have:j.area=0\/j.area=1:=by omega
     rcases this with h1|h1 <;> rw[h1] <;> omega
    have:=(h.old _ w p (by rw[<-e];exact l)).2 o;omega
   ·have:k=i:=by omega
    subst this;rw[a]at m;exact u (G0 m).symm
  refine⟨h.ok,by rw[<-uv H];exact h.fit,?_,A,L⟩;have hs:g.area n j.area=j.secs H++(g.area n j.area).drop (j.secs H).length:=by
   apply bA_;intro k;by_cases m:k<(j.secs H).length
   ·rw[I3 m,xMr,if_pos (by have:=h.fit;omega),U_ m,B k _ (U_ m)]
   ·rw[M1 (by omega),ao_];congr 1;omega
  rw[hs];refine xOy H v h.ok _ λf num=>?_
  refine yAy H v E (i:=i) q (λt ht=>?_) (λc z p l=>?_) f num
  ·have r:t<(xJ H (j.body y)).length:=by omega
   rw[ao_,xMr,if_pos (by omega),U_ r,<-ch_,D t ht _ (U_ r)]
  ·rw[ao_,xMr,if_pos (by omega),<-ch_]at z;have e:=G0 z;exact F p (by rw[e];exact l)
end Go.Proofs.YtdhapkeimaljfaaGreatDoor
namespace Go.Proofs.YtdhapkeimaljfaaGreatDoor
variable (H:By->By)
def secW:Nat->List By->List (Nat×By)
 |_,[]=>[]
 |a,b :: l=>(a,b) :: secW (a+1) l
theorem xTj:∀{l:List By} {a s:Nat} {b:By},(s,b)∈secW a l->∃i,l[i]?=some b/\s=a+i
 |[],_,_,_,h=>by cases h
 |c :: l,a,s,b,h=>by
  rcases g8.1 h with h|h
  ·simp_all
  ·obtain⟨i,d,e⟩:=xTj h;exact⟨i+1,by simpa using d,by omega⟩
theorem PD.puts_any:∀(l:List By) (d:PD) (a:Nat),d.down=false->∃k,k<=l.length/\(d.puts a l).1.pend=d.pend++secW a (l.take k)/\(d.puts a l).1.dur=d.dur/\(d.puts a l).1.n=d.n /\
  ((d.puts a l).2=true->k=l.length/\(d.puts a l).1.down=false)/\((d.puts a l).2=false->(d.puts a l).1.down=true)
 |[],d,a,h=>⟨0,w_ _,by simp[PD.puts,secW],rfl,rfl,λ_=>⟨rfl,h⟩,λe=>by cases e⟩
 |b :: l,d,a,h=>by
  cases hl:d.lim with
  |none=>
   obtain⟨k,h1,h2,h3,h4,f,c⟩:=PD.puts_any l { d with pend:=d.pend++[(a,b)],lim:=none,down:=false } (a+1) rfl;refine⟨k+1,by simpa using h1,?_⟩;grind [PD.puts,PD.write,PD.oper,Bool.false_eq_true,secW]
  |some m=>
   cases m with
   |zero=>
    refine⟨0,n3 _,?_⟩;grind [PD.puts,PD.write,PD.oper,secW]
   |succ m=>
    obtain⟨k,h1,h2,h3,h4,f,c⟩:=PD.puts_any l { d with lim:=some m,pend:=d.pend++[(a,b)],down:=false } (a+1) rfl;refine⟨k+1,by simpa using h1,?_⟩;grind [PD.puts,PD.write,PD.oper,Bool.false_eq_true,secW]
theorem PD.puts_cons (d:PD)(a:Nat)(b:By)(l:List By):d.puts a (b :: l)=if (d.write a b).2=true then (d.write a b).1.puts (a+1) l else ((d.write a b).1,false):=by grind [PD.puts]
theorem PD.puts_mid:∀(e:List By) (b:By) (f:List By) (d:PD) (a:Nat),(d.puts a e).2=true->d.puts a (e++b :: f)=if ((d.puts a e).1.write (a+e.length) b).2=true then ((d.puts a e).1.write (a+e.length) b).1.puts (a+e.length+1) f else (((d.puts a e).1.write (a+e.length) b).1,false)
 |[],b,f,d,a,_=>PD.puts_cons d a b f
 |c :: e,b,f,d,a,h=>by
  rw[PD.puts_cons]at h;rw[L2,PD.puts_cons,PD.puts_cons];by_cases hw:(d.write a c).2=true
  ·rw[if_pos hw]at h;have:=PD.puts_mid e b f (d.write a c).1 (a+1) h;grind
  grind
theorem PD.puts_next {l:List By}{d:PD}{a k:Nat}(b:k<l.length)(h:(d.puts a (l.take k)).2=true):
  (((d.puts a (l.take k)).1.write (a+k) l[k]).2=true->(d.puts a (l.take (k+1))).2=true/\(d.puts a (l.take (k+1))).1=((d.puts a (l.take k)).1.write (a+k) l[k]).1) /\
  (((d.puts a (l.take k)).1.write (a+k) l[k]).2=false->(d.puts a l).2=false/\(d.puts a l).1=((d.puts a (l.take k)).1.write (a+k) l[k]).1):=by
 have hl:(l.take k).length=k:=by simp;omega
 have h1:=PD.puts_mid (l.take k) l[k] [] d a h;have h2:=PD.puts_mid (l.take k) l[k] (l.drop (k+1)) d a h;rw[hl]at h1 h2;rw[<-d0 b]at h1;rw[<-M3 b,Q0]at h2;refine⟨λe=>?_,λe=>?_⟩
 ·rw[h1,if_pos e];exact⟨rfl,rfl⟩
 ·grind
theorem xIp:∀(l:List By) (a:Nat),(secW a l).length=l.length
 |[],_=>rfl
 |b :: l,a=>by simp[secW,xIp l]
def PD.free (d:PD):PD:={ d with lim:=none }
theorem PD.vis_eq {d d':PD}(h1:d.pend=d'.pend)(h2:d.dur=d'.dur)(k:Nat):d.vis k=d'.vis k:=by unfold PD.vis;rw[h1,h2]
theorem PD.puts_vis {l:List By}{d:PD}{a:Nat}(h:d.down=false)(n:(d.puts a l).2=true)(k:Nat):(d.puts a l).1.vis k=(d.free.puts a l).1.vis k:=by
 obtain⟨m,_,j,i,_,g,_⟩:=PD.puts_any l d a h;obtain⟨m',_,f,e,_,c,_⟩:=PD.puts_any l d.free a h;have b:=(g n).1;have o:=(c (PD.puts_up l d.free a ⟨h,rfl⟩).1).1;refine PD.vis_eq ?_ (i.trans e.symm) k;rw[j,f,b,o];rfl
theorem JInv.congr {n:Nat}{d d':PD}{j:PJ}(h:JInv H n d j)(hv:∀k,d'.vis k=d.vis k):JInv H n d' j:=
 ⟨h.ok,h.fit,λi b c=>(hv _).trans (h.at_ i b c),λs hs p a=>h.old s hs p (by rw[<-hv];exact a)⟩
theorem JInv.added (g:∀c,(H c).length=16){n:Nat}{d:PD}{j:PJ}(h:JInv H n d j)(a:d.down=false)(b:By)(f:b.length<=131072)(e:j.entries.length+1<2147483647)
  (l:(j.secs H).length+y6 b.length<=n/2) (i:(d.puts (j.area*(n/2)+(j.secs H).length) (xJ H (j.body b))).2=true):
  JInv H n (d.puts (j.area*(n/2)+(j.secs H).length) (xJ H (j.body b))).1 (j.add b):=
 (JInv.add H g (d:=d.free) (h.congr H λk=>PD.vis_eq rfl rfl k) ⟨a,rfl⟩ b f e l).2.2.2.congr H (PD.puts_vis a i)
theorem JInv.added4 (i:∀c,(H c).length=16){n:Nat}{d:PD}{j:PJ}(h:JInv H n d j)(a:d.down=false)(b:By)(g:b.length<=131072)(f:j.entries.length+1<2147483647)
  (m:(j.secs H).length+y6 b.length<=n/2) (e:(d.puts (j.area*(n/2)+(j.secs H).length) (xJ H (j.body b))).2=true):
  True/\(d.puts (j.area*(n/2)+(j.secs H).length) (xJ H (j.body b))).1.down=false/\(d.puts (j.area*(n/2)+(j.secs H).length) (xJ H (j.body b))).1.n=d.n/\JInv H n (d.puts (j.area*(n/2)+(j.secs H).length) (xJ H (j.body b))).1 (j.add b):=by
 obtain⟨k,_,_,_,h4,l,_⟩:=PD.puts_any (xJ H (j.body b)) d (j.area*(n/2)+(j.secs H).length) a;exact⟨trivial,(l e).2,h4,h.added H i a b g f m e⟩
theorem PD.flush_eq {d:PD}(a:d.down=false):d.flush=(match d.lim with
  |none=>(d.flushed,true)
  |some 0=>({ d with down:=true },false)
  |some (m+1)=>(PD.flushed { d with lim:=some m },true)):=by
 unfold PD.flush;rw[a];cases hl:d.lim with
 |none=>simp[PD.oper,hl]
 |some m=>cases m <;> simp[PD.oper,hl,a]
theorem PD.flush_ok {d:PD}(a:d.down=false)(b:d.flush.2=true):d.flush.1.down=false/\d.flush.1.pend=[]/\d.flush.1.n=d.n/\∀k,d.flush.1.vis k=d.vis k:=by
 have e:=PD.flush_eq a;rw[e]at b⊢;cases hl:d.lim with
 |none=>exact⟨a,rfl,rfl,λk=>PD.vis_flushed d k⟩
 |some m=>
  cases m with
  |zero=>rw[hl]at b;cases b
  |succ m=>exact⟨a,rfl,rfl,λk=>PD.vis_flushed { d with lim:=some m } k⟩
theorem PD.flush_bad {d:PD}(b:d.down=false)(a:d.flush.2=false):d.flush.1.down=true/\d.flush.1.pend=d.pend/\d.flush.1.n=d.n/\d.flush.1.dur=d.dur:=by grind [PD.flush_eq]
def xCk (cs:List Nat):(Nat->By)->Nat->List (Nat×By)->Nat->By
 |f,_,[]=>f
 |f,i,x :: l=>xCk cs (if cs.getD i 0%3=1 then λt=>if t=x.1 then x.2 else f t else f) (i+1) l
def PD.restart (cs:List Nat)(d:PD):PD:=⟨d.n,xCk cs d.dur 0 d.pend,[],none,false⟩
theorem xZu (cs:List Nat)(s:Nat):∀(l:List (Nat×By)) (f:Nat->By) (i:Nat),xCk cs f i l s=f s\/(s,xCk cs f i l s)∈l
 |[],f,i=>.inl rfl
 |x :: l,f,i=>by
  unfold xCk;rcases xZu cs s l (if cs.getD i 0%3=1 then λt=>if t=x.1 then x.2 else f t else f) (i+1)with e|e
  ·grind
  grind
theorem JInv.torn (f:∀c,(H c).length=16){n:Nat}{d d1:PD}{j:PJ}(h:JInv H n d j)(i:d.pend=[])(y:By)(hy:y.length<=131072)(a:j.entries.length+1<2147483647)(g:(j.secs H).length+y6 y.length<=n/2)
  {k:Nat} (h1:d1.pend=secW (j.area*(n/2)+(j.secs H).length) ((xJ H (j.body y)).take k)) (h2:d1.dur=d.dur) (cs:List Nat):JRec H n (d1.restart cs) j\/JRec H n (d1.restart cs) (j.add y):=by
 refine h.crash H f y hy a g λs=>?_
 have hv:(d1.restart cs).vis s=xCk cs d1.dur 0 d1.pend s:=rfl;have b:d.vis s=d.dur s:=by grind [PD.vis]
 rw[hv,b];rcases xZu cs s d1.pend d1.dur 0 with e|e
 ·left
  rw[e,h2]
 ·grind [xTj,List.getElem?_eq_some_iff.1,List.length_take,List.getElem?_take_of_lt]
end Go.Proofs.YtdhapkeimaljfaaGreatDoor
namespace Go.Proofs.YtdhapkeimaljfaaGreatDoor
open Go Go.RowKit Go.Proofs Tryz
section
attribute [local go_sem ↓] vO qT zS zI
attribute [local go_sem] xHv xHg xAp xAn zr zx yA yz xh xg xe xd xx xy xk xj
theorem xFi {w B v L vs}(h:ScAt w B v L vs)(k)(a:k<L.length):∃g cap e,v=.slice (some ⟨g,0,none⟩) L.length cap/\w.cell? ⟨g,k,none⟩=some (.slice (some ⟨e,0,none⟩) 256 256)/\L[k].length=256/\B<=e/\e<w.heap.size/\SlB w ⟨e,0,none⟩ L[k]:=by
 obtain⟨g,cap,hv,_,_,_,_,c⟩:=h.at (λe=>by rw[e]at a;cases a)
 obtain⟨e,b,h2,h3,h4,_,d⟩:=h.el k a;grind
structure PuSt (D:Nat)(w w2:World)(v:Dev)(d:PD)(at_:Nat)(L:List By)(k:Nat)(W:World):Prop where
 kept:Kept v.foot w W
 mid:∀g,w.heap.size<=g->g<w2.heap.size->W.heap[g]?=w2.heap[g]?
 sz:w2.heap.size<=W.heap.size
 ok:(d.puts at_ (L.take k)).2=true
 at':∃v',v'.p=v.p/\v'.M=v.M/\yj D W v' (d.puts at_ (L.take k)).1/\∀j∈v'.foot,j∈v.foot\/w2.heap.size<=j
def xKb (D:Nat)(v:Dev)(d:PD)(at_:Nat)(r:PRec)(w:World)(e:Ending)(w':World):Prop:=
 e=.returned (.tuple (if (d.puts at_ (xJ sha r)).2=true then #[.int .i64 (y6 r.pay.length:Nat),.int .i64 0]else #[.int .i64 0,.int .i64 28]))/\Kept v.foot w w'/\∃v',v'.p=v.p/\v'.M=v.M/\yj D w' v' (d.puts at_ (xJ sha r)).1/\∀k∈v'.foot,k∈v.foot\/w.heap.size<=k
def xWe (D:Nat)(v:Dev)(d:PD)(at_:Nat)(r:PRec)(w:World)(e:Ending)(w':World):Prop:=
 e=.returned (.tuple #[.int .i64 (y6 r.pay.length:Nat),.int .i64 0])/\Kept v.foot w w'/\∃v',v'.p=v.p/\v'.M=v.M/\yj D w' v' (d.puts at_ (xJ sha r)).1/\∀k∈v'.foot,k∈v.foot\/w.heap.size<=k
theorem xUr {D w v d}(h:yj D w v d)(hu:d.down=false)(hK:qI w)(at_ r)(A:r.Ok)(a cap)(hl:r.pay.length<=cap)(hs:SlB w a r.pay)(ha:a.block<w.heap.size)(R:at_+y6 r.pay.length<=d.n)(bO:d.pend.length+y6 r.pay.length<=1000000)(hD:D<=w.heap.size):
  Calls prog 108 #[.agg (xG v.p d.n),.int .i64 at_,.agg (ye r.kind r.gen r.num (.slice (some a) r.pay.length cap)).toArray] w (xKb D v d at_ r w):=by
 obtain⟨f,o⟩:∃f,f=(w.alloc (.cells (xG v.p d.n) 156)).alloc (.cells (ye r.kind r.gen r.num (.slice (some a) r.pay.length cap)).toArray 238):=⟨_,rfl⟩;have Q:Below w.heap.size w f:=by grind
 have aL:f.heap.size=w.heap.size+2:=by grind
 have h0:f.heap[w.heap.size]?=some (.cells (xG v.p d.n) 156 (0,0)):=by grind
 have h1:f.heap[w.heap.size+1]?=some (.cells (ye r.kind r.gen r.num (.slice (some a) r.pay.length cap)).toArray 238 (0,0)):=by grind
 have k_:SlB f a r.pay:=⟨λj c b=>(Q.cell (by rw[xY];exact ha)).trans (hs.cell j c b)⟩;have FH:=h_ (xWz r A a cap f (hK.below Q (w_ _)) hl k_ (by rw[aL];omega));obtain⟨o1,E⟩:=xF (n:=4) h1 rfl;have aU:=h.foot_lt;have aq:=h_ Q;have HD:=h_ h;have HU:=h_ hu;have cz:=h_ aL;have H0:=h_ h0;have bS:=h_ aU;have aF:=h.n2;obtain⟨L,hL⟩:∃L,L=xJ sha r:=⟨_,rfl⟩;have D7:L.length=y6 r.pay.length:=by grind [zq,sha]
 obtain⟨m,z⟩:∃m,m=y6 r.pay.length:=⟨_,rfl⟩;obtain⟨q,hq⟩:∃q,q=r.pay.length:=⟨_,rfl⟩;obtain⟨n,Y⟩:∃n,n=d.n:=⟨_,rfl⟩
 have eI:Hid (∀e w',w.heap.size<=w'.heap.size->e=.returned (.tuple (if (d.puts at_ L).2=true then #[.int .i64 (m:Nat),.int .i64 0]else #[.int .i64 0,.int .i64 28]))->Kept v.foot w w'->(∃v',v'.p=v.p/\v'.M=v.M/\yj D w' v' (d.puts at_ L).1/\∀k∈v'.foot,k∈v.foot\/w.heap.size<=k)->xKb D v d at_ r w e w'):=h_ (λe w' aR he hk W=>by
  unfold xKb;rw[<-hL,<-z];exact⟨he,hk,W⟩)
 rw[<-hL]at FH;rw[<-z]at D7 R bO;rw[<-Y]at R aF o H0⊢;rw[<-hq]at o E⊢;have IE:=FH;clear FH;rw[<-hq]at IE;have cO:=h_ D7;have nI:=h_ bO;have HN:=h_ Y;have fo:(at_:Int)+m<=4096:=by omega
 have rV:=h_ R;unfold xG at o⊢;unfold ye at o E IE⊢;rw[o]at o1 E;clear h hu Q aL h0 h1 hs hK k_ A aU aF hL D7 z hq Y R bO hl;go_enter func108,ntmps108;go_wp2_with fail;rw[<-o];clear o o1 E;refine IE.mono ?_;rintro e l ⟨lv,vs,rfl,eM,ai⟩;obtain⟨la,lc,g_⟩:=yK eM.own;rw[cO.out]at g_;have V:Below w.heap.size w l:=by grind
 have gO:w.heap.size+2<=l.heap.size:=by grind
 have NN:l.heap[w.heap.size]?=some (.cells (xG v.p n) 156 (0,0)):=by grind
 have a_:Hid (PuSt D w l v d at_ L 0 l):=h_ ⟨Kept.of_below (F:=v.foot) V,λ_ _ _=>rfl,w_ _,rfl,v,rfl,rfl,HD.below V,λj b=>.inl b⟩;have oH:=h_ eM;have eN:=h_ NN;have t:=h_ gO;have n4:(m:Int)<=1000000:=by omega
 have NI:=h_ g_;subst g_;clear eM ai V NN gO;go_wp2;go_loopw [23] (λu wr=>∃k:Nat,u=.int .i64 k/\k<=m/\Hid (PuSt D w l v d at_ L k wr)) (λu _=>m-(intOf u).toNat)
 case atStart=>exact⟨0,rfl,n3 _,a_⟩
 case round=>
  obtain⟨k,rfl,hk,HS⟩:=hrel;by_cases hlt:k<m
  ·have aM:(k:Int)<m:=by omega
   have U:=HS.mid;have NO:ScAt wr f.heap.size (.slice la m lc) L vs:=oH.under HS.sz λg hg i=>U g (by have:=cz.out;omega) i
   obtain⟨g,cap',e,hv,l9,ej,NP,hes,d_⟩:=xFi NO k (by rw[cO.out];exact hlt);have Ld:la=some ⟨g,0,none⟩:=by grind
   subst Ld;have IF:=(U w.heap.size (w_ _) (by have:=t.out;omega)).trans eN.out;have c0:=cell_of_row wr w.heap.size 0 _ _ _ IF;have c1:=cell_of_row wr w.heap.size 1 _ _ _ IF;unfold xG at c0 c1;simp only[l7,m8,t1]at c0 c1;obtain⟨v1,H,FI,bZ,iZ⟩:=HS.at';have Sg:k<L.length:=by grind
   obtain⟨kk,_,X,_,mV,NQ,_⟩:=PD.puts_any (L.take k) d at_ HU.out;obtain⟨AS,ci⟩:=NQ HS.ok;subst AS;clear NQ;have aT:(L.take k).length=k:=by grind
   have y:(d.puts at_ (L.take k)).1.pend.length=d.pend.length+k:=by grind [List.length_append,xIp]
   have Ae:=PD.puts_next (a:=at_) Sg HS.ok;have I:=yAd bZ (at_+k) (by rw[mV,<-HN.out];have:=rV.out;omega) ci (by rw[y];have:=nI.out;omega) ⟨e,0,none⟩ _ 256 ej d_ (by rw[H];show e≠v.p;have:=(bS.out v.p v.p_foot).2;have:=cz.out;omega) (R_ hD (by have:=HS.sz;have:=t.out;omega));rw[H]at I;have Bg:=h_ Ae;obtain⟨s,hs⟩:∃s,s=at_+k:=⟨_,rfl⟩;rw[<-hs]at I Bg;have aV:(at_:Int)+(k:Int)=(s:Int):=by omega
   have T:=h_ I;have IG:=h_ iZ;have C:=h_ (And.intro H FI);have Dw:(k:Int)<=1000000:=by omega
   have hakz:(at_:Int)+k<=4096:=by omega
   clear hs U NO hv ej d_ IF bZ iZ ci mV y X aT Ae I H FI;go_wp2_with fail;refine T.mono ?_;rintro e3 w3 ⟨rfl,x,S,O,J,P,db⟩
   have B:=HS.kept.trans x (λj b=>by
     rcases IG.out j b with h|h
     ·exact .inl h
     ·exact .inr (by have:=t.out;omega))
   have G:∀j∈S.foot,j∈v.foot\/l.heap.size<=j:=λj b=>by
     rcases db j b with h|h
     ·exact IG.out j h
     ·exact .inr (R_ HS.sz h)
   cases hbw:((d.puts at_ (L.take k)).1.write s (L[k]'Sg)).2 with
   |false=>
    obtain⟨N,K⟩:=Bg.2 hbw
    have aC:=h_ (eI.out _ w3 (R_ (by have:=t.out;have:=HS.sz;omega) x.size) rfl B ⟨S,O.trans C.1,J.trans C.2,by rw[K];exact P,λj b=>by
     rcases G j b with h|h
     ·exact .inl h
     ·exact .inr (by have:=t.out;omega)⟩)
    rw[N]at aC;clear x O J P db T c0 c1 l9 NP hes B G hbw;go_wp2;go_ret2;exact aC.out
   |true=>
   obtain⟨N,K⟩:=Bg.1 hbw
   have dw:Hid (PuSt D w l v d at_ L (k+1) w3):=h_ ⟨B,λg hg i=>(x.block g (b7 i HS.sz) (λz=>by
     rcases IG.out g z with h|h
     ·grind
     ·omega)).trans (HS.mid g hg i),R_ HS.sz x.size,N,S,O.trans C.1,J.trans C.2,by rw[K];exact P,G⟩
   have Z:k+1<=m:=hlt;clear x O J P db T c0 c1 l9 NP hes B G hbw N K;go_wp2;go_roundw
   case rel=>exact⟨k+1,by go_num,Z,dw⟩
   case measure=>simp[intOf];omega
  ·obtain rfl:k=m:=by omega
   go_wp2;go_ret2;have hLk:L.take k=L:=by grind
   obtain⟨v',p1,p2,p3,p4⟩:=HS.at';have A:=HS.ok;rw[hLk]at p3 A
   exact eI.out _ _ HS.kept.size (by rw[A];rfl) HS.kept ⟨v',p1,p2,p3,λj b=>by
    rcases p4 j b with h|h
    ·exact .inl h
    ·exact .inr (by have:=t.out;omega)⟩
theorem yEx {D w v d}(h:yj D w v d)(b:d.Up)(hK:qI w)(at_ r)(g:r.Ok)(a cap)(hl:r.pay.length<=cap)(hs:SlB w a r.pay)(ha:a.block<w.heap.size)(i:at_+y6 r.pay.length<=d.n)(f:d.pend.length+y6 r.pay.length<=1000000)(c:D<=w.heap.size):
  Calls prog 108 #[.agg (xG v.p d.n),.int .i64 at_,.agg (ye r.kind r.gen r.num (.slice (some a) r.pay.length cap)).toArray] w (xWe D v d at_ r w):=
 (xUr h b.1 hK at_ r g a cap hl hs ha i f c).mono λe w' ⟨h1,h2⟩=>by
  rw[(PD.puts_up (xJ sha r) d at_ b).1]at h1;exact⟨h1,h2⟩
end
structure ByS (w:World)(v:Value)(l:By)(W:World):Prop where
 bel:Below w.heap.size w W
 own:OwnB W w.heap.size v l
theorem ByS.app {w W c a v v' l r}(h:ByS w v l W)(b:Below W.heap.size W c)(ho:OwnB a w.heap.size v' (l++r))(d:c.grownBy a v.ownBlock):ByS w v' (l++r) a:=
 ⟨(h.bel.trans (b.mono h.bel.size)).grown d (by have:=h.bel.size;have:=b.size;omega) (λk e=>(h.own.lt e).1),ho⟩
theorem xNo (f c)(R:f<=4611686018427387904)(S:c<=4611686018427387904)(g cap w)(T:w.cell? ⟨g,0,none⟩=some (.int .i64 f))(h1:w.cell? ⟨g,1,none⟩=some (.int .i64 c))(m:g<w.heap.size):
  Calls prog 107 #[.slice (some ⟨g,0,none⟩) 2 cap] w λe w'=>Below w.heap.size w w'/\∃v,e=.returned v/\OwnB w' w.heap.size v (beB 8 f++beB 8 c):=by
 obtain⟨L,s⟩:∃L,L=beB 8 f++beB 8 c:=⟨_,rfl⟩;have P:L.length=16:=by grind [xu]
 obtain⟨nk,M⟩:∃nk:Nat->Nat,nk=λk=>if k=0 then f else c:=⟨_,rfl⟩
 have H:∀k j (F:k<2) (l:j<8),L[8*k+j]?=some (UInt8.ofNat (nk k/256 ^ (7-j))):=by
  intro k j F l;rw[U_ (by omega)];congr 1;subst s M;rcases (show k=0\/k=1 by omega)with rfl|rfl
  ·have:=jG 8 f j l;grind
  ·have:=jG 8 c j l;rw[bm_ (by rw[xu];omega)];simp only[xu,ai_,Nat.add_sub_cancel_left];rw[this];simp
 have I:∀k,k<2->w.cell? ⟨g,k,none⟩=some (.int .i64 (nk k)):=by grind
 have K:∀k,nk k<=4611686018427387904:=by grind
 rw[<-s];have HL:=h_ P;have U2:=h_ H;have NT:=h_ I;have O:=h_ K;have HG:=h_ m;have Z:Hid (ByS w (.slice none 0 0) (L.take (8*0)) w):=h_ ⟨z_ _ _,by simpa using OwnB.nil w w.heap.size⟩;clear s P M H I K R S T h1 m;go_enter func107,ntmps107;go_wp2;go_loopw [9,3] (λu bv wr=>∃k:Nat,u=.int .i64 k/\k<=2/\Hid (ByS w bv (L.take (8*k)) wr)) (λu _ _=>2-(intOf u).toNat)
 case atStart=>exact⟨0,rfl,by omega,Z⟩
 case round=>
  obtain⟨k,rfl,F,HS⟩:=hrel;by_cases hlt:k<2
  ·have aM:(k:Int)<2:=by omega
   have J:=(HS.bel.cell (p:=⟨g,k,none⟩) HG.out).trans (NT.out k hlt);obtain⟨nv,B⟩:∃nv,nv=nk k:=⟨_,rfl⟩;rw[<-B]at J;have C:=h_ B;clear B;go_wp2;clear J;go_loopw [6,3] (λi b2v U4=>∃j:Nat,i=.int .i64 (7-(j:Int))/\j<=8/\Hid (ByS w b2v (L.take (8*k+j)) U4)) (λi _ _=>(intOf i+1).toNat)
   case atStart=>exact⟨0,rfl,by omega,HS⟩
   case round=>
    obtain⟨j,rfl,l,n⟩:=hrel;by_cases hlt2:j<8
    ·obtain⟨i,r⟩:∃i:Nat,i=7-j:=⟨_,rfl⟩;have a:(7:Int)-j=(i:Int):=by omega
     rw[a];have hx:=jj nv i;have d:=U2.out k j hlt hlt2;rw[<-C.out,<-r]at d;generalize Y:UInt8.ofNat (nv/256 ^ i)=b at hx d;have Ae:L.take (8*k+j)++[b]=L.take (8*k+(j+1)):=by grind [Nat.add_assoc,List.take_add_one]
     have b1:(0:Int)<=8*(i:Int):=by omega
     have b2:8*(i:Int)<=64:=by omega
     have b3:(nv:Int)<=4611686018427387904:=by grind
     have y:Below wr.heap.size wr (wr.alloc (.cells #[.int .u8 b.toNat] 5)):=by grind
     have t:OwnB (wr.alloc (.cells #[.int .u8 b.toNat] 5)) w.heap.size u3 (L.take (8*k+j)):=n.own.below y;have A:SlB (wr.alloc (.cells #[.int .u8 b.toNat] 5)) ⟨wr.heap.size,0,none⟩ [b]:=vX wr 5 [b];have x:∀v' o,OwnB o w.heap.size v' (L.take (8*k+j)++[b])->(wr.alloc (.cells #[.int .u8 b.toNat] 5)).grownBy o u3.ownBlock->ByS w v' (L.take (8*k+(j+1))) o:=λv' o ho m=>by
      have:=n.app y ho m;grind
     have z:w.heap.size<=(wr.alloc (.cells #[.int .u8 b.toNat] 5)).heap.size:=by have:=n.bel.size;simp;omega
     have G:(L.take (8*k+j)).length+[b].length<=1000000000000:=by grind
     rw[hx]at t A x z;have X:=h_ t;have V:=h_ A;have U:=h_ x;have Q:=h_ z;have W:=h_ G;have HI:=h_ r;clear r hx d Y Ae y t A x z G a;go_wp2_with (at_builtin;refine zD rfl (.tmp 17) (.tmp 23) rfl w.heap.size _ (L.take (8*k+j)) rfl X.out ⟨wr.heap.size,0,none⟩ [b] 1 rfl V.out W.out Q.out ?_);intro v' w' ho h _;have D:=h_ (U.out v' w' ho h);have E:(i:Int)-1=7-((j+1:Nat):Int):=by grind
     have D8:=h_ E;have U5:(i:Int)<=7:=by omega
     clear ho h E;go_wp2;go_roundw
     case rel=>exact⟨j+1,by rw[<-D8.out],by omega,D⟩
     case measure=>simp[intOf]
    ·obtain rfl:j=8:=by omega
     have q:k+1<=2:=hlt;have D:Hid (ByS w u3 (L.take (8*(k+1))) wr):=n;have a:(7:Int)-(8:Nat)=-1:=by omega
     rw[a];go_wp2;go_roundw
     case rel=>exact⟨k+1,by go_num,q,D⟩
     case measure=>simp[intOf];omega
  ·obtain rfl:k=2:=by omega
   have N:Hid (ByS w u3 L wr):=by grind
   go_wp2;go_ret;exact⟨N.bel,_,rfl,N.own⟩
theorem xQs (n c:Nat)(a:n<72057594037927936)(d:c<256):bits .or .u64 ((n:Int)*256) (c:Int)=((n*256+c:Nat):Int):=by
 have hx:n*256 ||| c=n*256+c:=by
  have:=bY_ (i:=8) (b:=c) (by omega) n;grind
 have h1:(BitVec.ofInt 64 ((n:Int)*256)).toNat=n*256:=by
  rw[show (n:Int)*256=((n*256:Nat):Int) by omega,BitVec.ofInt_natCast,BitVec.toNat_ofNat];exact bH_ (by omega)
 have h2:(BitVec.ofInt 64 (c:Int)).toNat=c:=by grind
 show IntKind.u64.wrap ((BitVec.ofInt 64 ((n:Int)*256) ||| BitVec.ofInt 64 (c:Int)).toNat:Int)=_
 rw[BitVec.toNat_or,h1,h2,hx];exact IntWalk.u64_in _ (by omega)
theorem xS5 (l)(h:l.length<=7):deB l<72057594037927936:=by
 have h1:=xS6 l;have h2:256 ^ l.length<=256 ^ 7:=bh_ (by decide) h;omega
theorem xZx (l)(h:l.length<=8):deB l<18446744073709551616:=by
 have h1:=xS6 l;have h2:256 ^ l.length<=256 ^ 8:=bh_ (by decide) h;omega
def yIm (o:Option (Nat×Nat)):Value:=match o with
 |some x=>.tuple #[.int .i64 x.1,.int .i64 x.2,.bool true]
 |none=>.tuple #[.int .i64 0,.int .i64 0,.bool false]
structure HnSt (w:World)(x y:Nat)(W:World):Prop where
 bel:Below w.heap.size w W
 row:W.heap[w.heap.size]?=some (.cells #[.int .u64 x,.int .u64 y] 317 (0,0))
theorem HnSt.set0 {w x y W}(s:HnSt w x y W)(z):HnSt w z y (W.setCell ⟨w.heap.size,0,none⟩ (.int .u64 z)):=
 ⟨s.bel.setCell (p:=⟨w.heap.size,0,none⟩) (w_ _) _,by rw[heap_setCell_same W w.heap.size 0 _ _ _ s.row];rfl⟩
theorem HnSt.set1 {w x y W}(s:HnSt w x y W)(z):HnSt w x z (W.setCell ⟨w.heap.size,1,none⟩ (.int .u64 z)):=
 ⟨s.bel.setCell (p:=⟨w.heap.size,1,none⟩) (w_ _) _,by rw[heap_setCell_same W w.heap.size 1 _ _ _ s.row];rfl⟩
theorem xK5 (l a cap w)(hs:SlB w a l)(ha:a.block<w.heap.size)(hl:l.length<=cap)(F:l.length<=maxLen):
  Calls prog 128 #[.slice (some a) l.length cap] w λe w'=>Below w.heap.size w w'/\e=.returned (yIm (xB7 l)):=by
 obtain⟨n,o⟩:∃n,n=l.length:=⟨_,rfl⟩;have L:=h_ o;have HS:=h_ hs;rw[<-o]at hl F⊢;unfold maxLen at F;have Q:(n:Int)<=9223372036854775807:=by omega
 clear hs o;go_enter func128,ntmps128;by_cases q:n=16
 ·subst q;have K:Hid (HnSt w (deB (l.take (min 0 8))) (deB ((l.take 0).drop 8)) (w.alloc (.cells #[.int .u64 0,.int .u64 0] 317))):=h_ ⟨(z_ _ _).alloc (w_ _) _,by rw[heap_alloc_new];simp[deB]⟩;go_wp2;go_loopw [13] (λu wr=>∃k:Nat,u=.int .i64 k/\k<=16/\Hid (HnSt w (deB (l.take (min k 8))) (deB ((l.take k).drop 8)) wr)) (λu _=>16-(intOf u).toNat)
  case atStart=>exact⟨0,rfl,by omega,K⟩
  case round=>
   obtain⟨k,rfl,N,c⟩:=hrel;by_cases hlt:k<16
   ·have R:(k:Int)<16:=by omega
    have t:k<l.length:=by grind
    have c4:=(c.bel.cell (p:=a.add k) (by rw[xY];exact ha)).trans (HS.cell k _ (U_ t));obtain⟨b,C⟩:∃b,b=l[k]:=⟨_,rfl⟩;rw[<-C]at c4;have M:=b.toNat_lt;have c0:=cell_of_row wr w.heap.size 0 _ _ _ c.row;have c1:=cell_of_row wr w.heap.size 1 _ _ _ c.row;have P:=frozen_of_row wr w.heap.size 0 _ _ c.row;have O:=frozen_of_row wr w.heap.size 1 _ _ c.row;simp only[v_]at c0 c1;obtain⟨x,hx⟩:∃x,x=deB (l.take (min k 8)):=⟨_,rfl⟩;obtain⟨y,hy⟩:∃y,y=deB ((l.take k).drop 8):=⟨_,rfl⟩;rw[<-hx]at c0;rw[<-hy]at c1;have H:k+1<=16:=hlt;by_cases h8:k<8
    ·have hq:(k:Int)/8=0:=by omega
     have D:x<72057594037927936:=by grind [xS5,List.length_take]
     have m:=xQs x b.toNat D (by omega);have E:(x:Int)<72057594037927936:=by omega
     have g:x*256+b.toNat=deB (l.take (min (k+1) 8)):=by grind [List.take_succ_eq_append_getElem,xBd]
     have f:deB ((l.take (k+1)).drop 8)=deB ((l.take k).drop 8):=by grind [List.drop_eq_nil_of_le,List.length_take]
     have d:=c.set0 (x*256+b.toNat);rw[<-hy]at d f;have r:=h_ d;have s:=h_ g;have z:=h_ f;clear d g f hx hy C D t;go_wp2;go_roundw
     case rel=>exact⟨k+1,by go_num,H,by rw[<-s.out,z.out];exact r⟩
     case measure=>simp[intOf];omega
    ·have hq:(k:Int)/8=1:=by omega
     have A:y<72057594037927936:=by grind [xS5,List.length_drop,List.length_take]
     have m:=xQs y b.toNat A (by omega);have G:(y:Int)<72057594037927936:=by omega
     have f:y*256+b.toNat=deB ((l.take (k+1)).drop 8):=by grind [List.take_succ_eq_append_getElem,List.drop_append,List.length_take,xBd]
     have g:deB (l.take (min (k+1) 8))=x:=by grind
     have d:=c.set1 (y*256+b.toNat);rw[<-hx]at d;have r:=h_ d;have s:=h_ g;have z:=h_ f;clear d g f hx hy C A t;go_wp2;go_roundw
     case rel=>exact⟨k+1,by go_num,H,by rw[<-z.out,s.out];exact r⟩
     case measure=>simp[intOf];omega
   ·obtain rfl:k=16:=by omega
    have i:=c.row;rw[show min 16 8=8 from rfl,v6 (show l.length<=16 by rw[<-L.out];exact w_ _)]at i;have c0:=cell_of_row wr w.heap.size 0 _ _ _ i;have c1:=cell_of_row wr w.heap.size 1 _ _ _ i;simp only[v_]at c0 c1;obtain⟨x,hx⟩:∃x,x=deB (l.take 8):=⟨_,rfl⟩;obtain⟨y,hy⟩:∃y,y=deB (l.drop 8):=⟨_,rfl⟩;rw[<-hx]at c0;rw[<-hy]at c1;have D:x<18446744073709551616:=by grind [xZx,List.length_take]
    have A:y<18446744073709551616:=by grind [xZx,List.length_drop]
    have j:xB7 l=if x<=2147483647/\y<=2147483647 then some (x,y)else none:=by grind [xB7]
    have v:=h_ j;have B:=h_ c.bel;clear i hx hy j;by_cases hxl:x<=2147483647
    ·have E:(x:Int)<=2147483647:=by omega
     by_cases hyl:y<=2147483647
     ·have G:(y:Int)<=2147483647:=by omega
      go_upto_region 11 with fail
      go_quiet (fail);have J:=h_ (y9 B.out nq);go_wp2;go_ret3;exact⟨J.out,by rw[v.out,if_pos ⟨hxl,hyl⟩];rfl⟩
     ·have G:¬ (y:Int)<=2147483647:=by omega
      go_wp2;go_ret3;exact⟨B.out,by rw[v.out,if_neg (λh=>hyl h.2)];rfl⟩
    ·have E:¬ (x:Int)<=2147483647:=by omega
     go_wp2;go_ret3;exact⟨B.out,by rw[v.out,if_neg (λh=>hxl h.1)];rfl⟩
 ·have I:¬ (n:Int)=16:=by omega
  have j:xB7 l=none:=by grind [xB7]
  rw[j];go_wp2;go_ret3;exact⟨z_ _ _,rfl⟩
end Go.Proofs.YtdhapkeimaljfaaGreatDoor
namespace Go.Proofs.YtdhapkeimaljfaaGreatDoor
open Go Go.RowKit
section
variable {P:Program} {ops:Array Oper} {C:World->Prop} {Q:Exit->Act->World->Prop}
def vt (n:Nat)(S:List Nat):Array Bool:=((List.range n).map λi=>S.contains i).toArray
theorem vF (n:Nat)(S:List Nat):(vt n S).size=n:=by simp[vt]
theorem xE8 (n:Nat)(S:List Nat)(i:Nat)(a:i<(vt n S).size):(vt n S)[i]=S.contains i:=by simp[vt]
theorem qh (n:Nat)(S:List Nat)(i:Nat)(h:i<n)(b:Bool):(vt n S).getD i b=S.contains i:=by
 have a:i<(vt n S).size:=by grind [vF]
 simp[a,xE8 n S i a]
theorem xYb {n:Nat}{S:List Nat}{i:Nat}(h:(vt n S).getD i false=true):i<n/\i∈S:=by
 rcases cl_ i n with a|a
 ·rw[qh n S i a]at h;exact⟨a,by simpa using h⟩
 grind [Array.getElem?_eq_none,vF,vt]
def QS (fin:Act->World->Prop)(Q:Exit->Act->World->Prop):Exit->Act->World->Prop
 |.normal,a,w=>fin a w
 |e,a,w=>Q e a w
theorem xYx {fin:Act->World->Prop}{i:Nat}{K:Act->World->Prop}{a:Act}{w:World}(h:wpOp P ops (NoPanic (QS fin Q)) i K a w):wpOp P ops (NoPanic Q) i K a w:=by
 have hl:LetsOut (NoPanic (QS fin Q))->LetsOut (NoPanic Q):=λ⟨a,w,h⟩=>⟨a,w,h⟩
 unfold wpOp at *;cases ho:ops[i]? with
 |none=>simp only[ho]at h⊢;exact h
 |some o=>
  simp only[ho]at h⊢;split
  ·rename_i b;rw[if_pos b]at h;rcases h with h|⟨h1,h2⟩
   ·refine .inl ?_;unfold Oper.wp at *;generalize (execOp a.eval o).run P w=r at *;cases r with
    |ok n w'=>
     cases n <;> simp only[Oper.upon]at h⊢<;> exact h
    |halt x w'=>cases x <;> simp only[Oper.upon]at h⊢<;> first|exact h|exact hl h
   ·exact .inr ⟨h1,hl h2⟩
  grind
def ancD (ops:Array Oper)(D:List Nat):Nat->Nat->Nat->Bool
 |0,_,_=>false
 |f+1,r,e=>match ops[r]? with
  |some o=>o.after.any λx=>Region.binds .any x&&!D.contains x.on&&(x.on==e||ancD ops D f x.on e)
  |none=>false
theorem xPl {D:List Nat}:∀{f r e:Nat},ancD ops D f r e=true->ancB ops f r e=true
 |0,_,_,h=>by simp[ancD]at h
 |f+1,r,e,h=>by
  unfold ancD at h;unfold ancB;split at h
  ·rename_i o ho;simp only[ho];obtain⟨x,hx,a⟩:=bs_.1 h;refine bs_.2 ⟨x,hx,?_⟩;simp only[A0,ac_]at a⊢;exact⟨a.1.1,a.2.imp id xPl⟩
  ·cases h
def xD5 (ops:Array Oper)(D E:List Nat)(r:Nat):Bool:=!(E.all λe=>ancD ops D ops.size r e)
def wpN (P:Program)(ops:Array Oper)(Q:Exit->Act->World->Prop)(C:World->Prop)(D E:List Nat):List Nat->Act->World->Prop
 |[],a,w=>Q .normal a w
 |r :: rest,a,w=>wpOp P ops (NoPanic Q) r (λa' w'=>(xD5 ops D E r=true->C w')/\wpN P ops Q C D E rest a' w') a w
def Zd (P:Program)(ops:Array Oper)(Q:Exit->Act->World->Prop)(C:World->Prop)(D E:List Nat)(ph:Bool)(w:World)(R:List Nat)(a:Act):Prop:=
 if ph=true then wpN P ops Q C D E R a w else ∀w',C w'->wpN P ops Q C D E R a w'
def yIi (ops:Array Oper)(D E R:List Nat)(i:Nat):Bool:=match ops[i]? with
 |some o=>o.after.any λx=>Region.binds .any x&&(R.getLast?==some x.on||!(D++E++R).contains x.on)
 |none=>false
def xHe (ops:Array Oper)(D E R:List Nat):Bool:=
 Region.noSelect ops&&decide ((D++E++R).Nodup)&&((List.range ops.size).all λi=>D.contains i||E.contains i||R.contains i||yIi ops D E R i)
 && E.all (uF ops (D++E))&&xB5 (λy e=>!Region.waitsFor .any ops y e&&xAv ops y e) E
 && R.all (uF ops (D++E++R))&&xB5 (λr s=>!Region.waitsFor .any ops r s) R&&jX ops R
 && (R.all λr=>E.all λy=>xAv ops y r)
 && (E.all λe=>match ops[e]? with|some o=>!kM o||(match R with|r :: _=>ancB ops ops.size r e|[]=>true)|none=>false)
 && (match R.getLast? with|some b=>!xD5 ops D E b|none=>false)
 && D.all (λd=>decide (d<ops.size))
theorem xKl {D E R:List Nat}{m:Nat}{fin:Act->World->Prop}(hB:xHe ops D E R=true)(bV:∀a w,fin a w->wpAny P .any ops (NoPanic Q) m (vt ops.size (D++E++R)) a w):∀(n:Nat) (L:Array Bool) (Rd R':List Nat) (a:Act) (w:World) (ph:Bool),R=Rd++R'->L.size=ops.size->xIg ops L->(∀i,i<ops.size->(L.getD i true=true->i∈D++E++R)/\(i∈D->L.getD i true=true))->(R'=[]->E.filter (unl L)=[])->(∀r∈Rd,L.getD r true=true)->(∀r∈R',L.getD r true=false) ->
  (E.filter (unl L)).length+R'.length=n->(E.filter (unl L)≠[]->C w)->(ph=false->C w/\Rd=[])->(ph=true->∀e∈E.filter (unl L),∀o,ops[e]?=some o->kM o=false) ->
  wpQuiet P ops C (Zd P ops (QS fin Q) C D E ph w R') (zy ops (E.filter (unl L))) a->wpAny P .any ops (NoPanic Q) (n+m) L a w:=by
 simp only[xHe,A0,decide_eq_true_eq,O1]at hB;obtain⟨⟨⟨⟨⟨⟨⟨⟨⟨⟨⟨gI,tW⟩,NW⟩,Dp⟩,mK⟩,Aa⟩,ff⟩,IH⟩,tr⟩,nh⟩,mW⟩,NX⟩:=hB;have cj:(E++R).Nodup:=by grind
 have gH:=Region.noSelect_spec gI;have i4:=kI mK;have iT:=kI ff;have G_:E.Nodup:=by grind
 have Ab:∀x,x∈E->x∈R->False:=by grind
 have bK:∀(l:List Nat) (e:Nat),uF ops l e=true->∃o,ops[e]?=some o/\∀x∈o.after,Region.binds .any x=true->x.on∈l/\x.on≠e:=by
  intro l e h;unfold uF at h;split at h
  ·rename_i o ho;refine⟨o,ho,λx hx s=>?_⟩;have h1:=(B3.1 h) x hx;grind
  ·cases h
 have rj:∀d,d∈D->d<ops.size:=by omega
 have NY:∀e,e∈E->e<ops.size:=λe c=>by grind
 have Lg:∀e,e∈R->e<ops.size:=λe c=>by grind
 have i5:∀y e,xAv ops y e=true->Region.waitsFor .any ops e y=false->∃oy oe,ops[y]?=some oy/\ops[e]?=some oe/\oy.apart ops oe=true:=by
  intro y e h hw;unfold xAv at h;grind
 intro n;induction n with
 |zero=>
  intro L Rd R' a w ph f q bD N Z2 W t K _ Bi _ h;have RK:E.filter (unl L)=[]:=aC_ (by omega);have KM:R'=[]:=aC_ (by omega);subst KM;rw[G5]at f;subst f;rw[RK]at h;rw[m0];have hL:L=vt ops.size (D++E++R):=by
   apply cs_
   ·rw[q,vF]
   ·intro i h1 h2;have O:i<ops.size:=by rw[<-q];exact h1
    rw[xE8 _ _ _ h2];have hg:L.getD i true=L[i]:=by simp[h1]
    rw[<-hg];cases hx:(D++E++R).contains i with
    |true=>
     rw[Y2,B8,m3,m3]at hx;rcases hx with hx|hx|hx
     ·exact(N i O).2 hx
     ·cases hy:L.getD i true with
      |true=>rfl
      |false=>
       have:i∈E.filter (unl L):=au_.2 ⟨hx,by simp only[unl,hy,Bool.not_false]⟩;rw[RK]at this;cases this
     ·exact W i hx
    |false=>
     cases hy:L.getD i true with
     |false=>rfl
     |true=>
      have:=(N i O).1 hy;rw[<-Y2,hx]at this;cases this
  rw[hL];refine bV a w ?_;have k:Zd P ops (QS fin Q) C D E ph w [] a:=h;unfold Zd at k;split at k
  ·exact k
  ·rename_i hf;exact k w (Bi (by simpa using hf)).1
 |succ n ih=>
  intro L Rd R' a w ph f q bD N Z2 W t K S7 Bi II h;have FJ:R'≠[]:=λv=>by rw[Z2 v,v]at K;simp at K
  have J:∀x,x∈E.filter (unl L)↔x∈E/\L.getD x true=false:=λx=>by
   rw[au_];simp only[unl,U3]
  have mL:Region.ready .any ops L≠[]:=by
   cases hE':E.filter (unl L) with
   |cons e T=>
    have c:=(J e).1 (by rw[hE'];simp);obtain⟨o,ho,fL⟩:=bK (D++E) e (Dp e c.1);have Z:=i4.filter (p:=unl L);rw[hE']at Z
    have:e∈Region.ready .any ops L:=mem_ready.2 ⟨c.2,o,ho,λx hx s=>by
     obtain⟨H,Ha⟩:=fL x hx s;cases hlx:L.getD x.on false with
     |true=>rfl
     |false=>
      exfalso;rcases m3.1 H with S|H
      ·have h9:=(N x.on (rj _ S)).2 S;rw[getD_in (by rw[q];exact rj _ S) hlx]at h9;cases h9
      have F:x.on<L.size:=by rw[q];exact NY _ H
      have E4:x.on∈E.filter (unl L):=(J _).2 ⟨H,getD_in F hlx⟩;rw[hE']at E4;rcases g8.1 E4 with h1|h1
      ·exact Ha h1
      ·have h2:=(aV_.1 Z).1 _ h1;simp only[A0,U3]at h2;rw[xA0 ho hx s rfl]at h2;cases h2.1⟩
    intro v;rw[v]at this;cases this
   |nil=>
    cases R' with
    |nil=>rw[hE']at K;simp at K
    |cons r rest=>
     have hrR:r∈R:=by rw[f];simp
     obtain⟨o,ho,fL⟩:=bK (D++E++R) r (Aa r hrR)
     have:r∈Region.ready .any ops L:=mem_ready.2 ⟨t r (by simp),o,ho,λx hx s=>by
      obtain⟨H,Ha⟩:=fL x hx s;cases hlx:L.getD x.on false with
      |true=>rfl
      |false=>
       exfalso;rw[B8]at H;rcases m3.1 H with S|H
       ·have h9:=(N x.on (rj _ S)).2 S;rw[getD_in (by rw[q];exact rj _ S) hlx]at h9;cases h9
       rcases m3.1 H with h1|h1
       ·have F:x.on<L.size:=by rw[q];exact NY _ h1
        have:x.on∈E.filter (unl L):=(J _).2 ⟨h1,getD_in F hlx⟩;rw[hE']at this;cases this
       ·have F:x.on<L.size:=by rw[q];exact Lg _ h1
        rw[f]at h1;rcases m3.1 h1 with h2|h2
        ·have:=W _ h2;rw[getD_in F hlx]at this;cases this
        ·rcases g8.1 h2 with h3|h3
         ·exact Ha h3
         ·rw[f]at iT;have h4:=(aV_.1 (aM_.1 iT).2.1).1 _ h3;simp only[U3]at h4;rw[xA0 ho hx s rfl]at h4;cases h4⟩
     intro v;rw[v]at this;cases this
  rw[show n+1+m=(n+m)+1 by omega];refine⟨λv=>absurd v mL,λi O=>?_⟩;obtain⟨E7,oi,B,hall⟩:=mem_ready.1 O;have Y:=(i_ B).1;have gJ:xIg ops (L.setIfInBounds i true):=λj oj U hl e c s=>by
   by_cases hij:i=j
   ·subst hij;have:oj=oi:=G0 (U.symm.trans B);subst this;exact getD_set_true (hall e c s)
   ·rw[getD_set_ne false hij]at hl;exact getD_set_true (bD j oj U hl e c s)
  have FK:i∈E++R->∀j,j<ops.size->((L.setIfInBounds i true).getD j true=true->j∈D++E++R)/\(j∈D->(L.setIfInBounds i true).getD j true=true):=λU8 j U=>by
   by_cases hij:i=j
   ·subst hij;exact⟨λ_=>by rw[B8];exact Z1 _ U8,λ_=>by rw[<-q]at U;simp[U]⟩
   ·rw[getD_set_ne true hij];exact N j U
  have b:i∈E\/i∈R:=by
   have b:=NW i (aB_.2 Y);rw[ac_,ac_,ac_,Y2,Y2,Y2]at b;rcases b with ((b|b)|b)|b
   ·rw[(N i Y).2 b]at E7;cases E7
   ·exact .inl b
   ·exact .inr b
   ·exfalso;unfold yIi at b;rw[B]at b;obtain⟨x,hx,s⟩:=bs_.1 b;rw[A0,ac_]at s;have hlx:=hall x hx s.1;rcases s.2 with h1|h1
    ·rw[beq_iff_eq]at h1;have IK:R.getLast? = R'.getLast?:=by
      rw[f,List.getLast?_append];cases hz:R'.getLast? with
      |none=>exact absurd (List.getLast?_eq_none_iff.1 hz) FJ
      |some z=>rfl
     have hm:x.on∈R':=List.mem_of_getLast? (by rw[<-IK,<-h1]);rw[getD_both (t _ hm)]at hlx;cases hlx
    ·rw[U3]at h1;have hlt:x.on<ops.size:=by
      rcases cl_ x.on L.size with h2|h2
      ·rw[<-q];exact h2
      ·simp[bu_ h2]at hlx
     have h3:=(N x.on hlt).1 (by
      cases h4:L.getD x.on true with
      |true=>rfl
      |false=>rw[getD_both h4]at hlx;cases hlx)
     rw[<-Y2]at h3;rw[h3]at h1;cases h1
  rcases b with b|b
  ·
   have i6:i∈E.filter (unl L):=(J i).2 ⟨b,E7⟩;obtain⟨E1,E2,V⟩:=aW_ i6;have Dq:i∉R:=λk=>Ab i b k
   have Z:=i4.filter (p:=unl L);rw[V]at Z h;have cV:∀x∈E1,∃ox,ops[x]?=some ox/\ox.apart ops oi=true:=by
    intro x hx;have h2:=(aM_.1 Z).2.2 x hx i (by simp);simp only[A0,U3]at h2;have S8:L.getD x true=false:=((J x).1 (by rw[V];simp[hx])).2;obtain⟨oy,oe,h3,h4,M⟩:=i5 x i h2.2 (zE O S8);have:oe=oi:=G0 (h4.symm.trans B);subst this;exact⟨oy,h3,M⟩
   have hq:=xCz B gH E1 E2 a cV h;have I:=xFf (by rw[q];exact Y) G_ V;have next:∀(a':Act) (w':World),(ph=true->w'=w)->C w'->wpQuiet P ops C (Zd P ops (QS fin Q) C D E ph w R') (zy ops (E1++E2)) a'->wpAny P .any ops (NoPanic Q) (n+m) (L.setIfInBounds i true) a' w':=by
    intro a' w' S6 Si k;refine ih (L.setIfInBounds i true) Rd R' a' w' ph f (by simpa using q) gJ (FK (aq_ _ b)) (λv=>absurd v FJ) (λr G=>?_) (λr G=>?_) ?_ (λ_=>Si) (λu=>⟨Si,(Bi u).2⟩) (λu e c o ho=>?_) ?_
    ·rw[getD_set_ne true (by rintro rfl;exact Dq (by rw[f];simp[G]))];exact W r G
    ·rw[getD_set_ne true (by rintro rfl;exact Dq (by rw[f];simp[G]))];exact t r G
    ·rw[I];rw[V]at K;simp only[b6,x5]at K⊢;omega
    ·rw[I]at c;exact II u e (by rw[V];simp at c⊢;rcases c with c|c <;> simp[c]) o ho
    ·rw[I];refine zG (λa'' A=>?_) _ _ k;unfold Zd at *;split
     ·rename_i u;rw[if_pos u]at A;rw[S6 u];exact A
     ·rename_i u;rw[if_neg u]at A;exact A
   have tt:C w:=S7 (by rw[V];simp);cases ph with
   |false=>exact wpOp_of_qOp tt (λa' w' Si k=>next a' w' (by simp) Si k) hq
   |true=>
    exact xKk B (II rfl i i6 oi B) tt (λa' k=>next a' w (λ_=>rfl) tt k) hq
  ·
   have S9:i∉E:=λk=>Ab i k b
   have NZ:i∈R':=by
    rw[f]at b;rcases m3.1 b with h1|h1
    ·rw[W i h1]at E7;cases E7
    ·exact h1
   cases R' with
   |nil=>cases NZ
   |cons r rest=>
    have LN:i=r:=by
     rcases g8.1 NZ with h1|h1
     ·exact h1
     ·exfalso;have lQ:=xCb Rd (r :: rest) (by rw[<-f];exact IH);obtain⟨p,u,hw⟩:=xFl lQ i h1;rw[zE O (t p u)]at hw;cases hw
    subst LN;have cV:∀x∈E.filter (unl L),∃ox,ops[x]?=some ox/\ox.apart ops oi=true:=by
     intro x hx;have tu:=(J x).1 hx;have h2:=tr i b x tu.1;obtain⟨oy,oe,h3,h4,M⟩:=i5 x i h2 (zE O tu.2);have:oe=oi:=G0 (h4.symm.trans B);subst this;exact⟨oy,h3,M⟩
    have h1:wpQuiet P ops C (λa'=>wpOp P ops (NoPanic Q) i (λa' w'=>(xD5 ops D E i=true->C w')/\wpN P ops (QS fin Q) C D E rest a' w') a' w) (zy ops (E.filter (unl L))) a:=by
     refine zG (λa'' A=>?_) _ _ h;unfold Zd at A;split at A
     ·exact xYx A
     ·rename_i u;exact xYx (A w (Bi (by simpa using u)).1)
    have h2:=xIa B gH (E.filter (unl L)) a cV h1;have I:=kR (L:=L) S9;have sB:E.filter (unl L)≠[]->xD5 ops D E i=true:=by
     intro g;cases hq:xD5 ops D E i with
     |true=>rfl
     |false=>
      exfalso;unfold xD5 at hq;simp only[Bool.not_eq_false',O1]at hq;obtain⟨e,c⟩:=bl_ _ g;have X:=(J e).1 c
      have h4:=xCd bD ops.size i e (λo ho=>by
       have:o=oi:=G0 (ho.symm.trans B);subst this;exact hall) (xPl (hq e X.1))
      rw[getD_both X.2]at h4;cases h4
    refine wpOp_mono (λa' w' h3=>?_) h2
    refine ih (L.setIfInBounds i true) (Rd++[i]) rest a' w' true (by rw[f];simp) (by simpa using q) gJ (FK (Z1 _ b)) (λv=>by
     rw[I];subst v;by_cases g:E.filter (unl L)=[]
     ·exact g
     ·exfalso;have M:=sB g;rw[f,List.getLast?_append]at mW;simp only[List.getLast?_singleton,Option.some_or,U3]at mW;rw[M]at mW;cases mW) (λr G=>?_) (λr G=>?_) ?_ (λg=>?_) (by simp) (λ_ e c o ho=>?_) ?_
    ·by_cases hri:i=r
     ·subst hri;rw[q.symm]at Y;simp[Y]
     ·rw[getD_set_ne true hri];rcases m3.1 G with h4|h4
      ·exact W r h4
      ·simp at h4;exact absurd h4.symm hri
    ·have hri:i≠r:=by
      rintro rfl;have:(Rd++i :: rest).Nodup:=f▸(M6.1 cj).2.1;exact(U0.1 (M6.1 this).2.1).1 G
     rw[getD_set_ne true hri];exact t r (by simp[G])
    ·rw[I];simp only[x5]at K;omega
    ·rw[I]at g;exact(xA4 _ _ h3) (sB g)
    ·rw[I]at c;cases ph with
     |true=>exact II rfl e c o ho
     |false=>
      have X:=(J e).1 c;have h4:=nh e X.1;rw[ho]at h4;simp only[ac_,U3]at h4;rcases h4 with h4|h4
      ·exact h4
      ·exfalso;have U9:=(Bi rfl).2;subst U9;rw[E8]at f;rw[f]at h4
       have M:=xCd bD ops.size i e (λo ho=>by
        have:o=oi:=G0 (ho.symm.trans B);subst this;exact hall) h4
       rw[getD_both X.2]at M;cases M
    ·rw[I];refine zG (λa'' A=>?_) _ _ h3;unfold Zd;rw[if_pos rfl];exact A.2
def wpSt (P:Program)(ops:Array Oper)(Q:Exit->Act->World->Prop)(S:List Nat)(m:Nat)(a:Act)(w:World):Prop:=wpAny P .any ops (NoPanic Q) m (vt ops.size S) a w
theorem kB {S:List Nat}{a:Act}{w:World}(h:Q .normal a w)(d:((List.range ops.size).all λi=>S.contains i)=true:=by kernel_rfl):wpSt P ops Q S 0 a w:=by
 refine⟨?_,h⟩;rw[bG_];intro i c;obtain⟨h1,o,ho,_⟩:=mem_ready.1 c;have b:=(i_ ho).1;rw[qh _ _ _ b,O1.1 d i (aB_.2 b)]at h1;cases h1
theorem xJo {D:List Nat}(b:D.all (uF ops D)=true):xIg ops (vt ops.size D):=by
 intro j oj c hl e d f;have a:=(xYb hl).2;have h1:=O1.1 b j a;unfold uF at h1;rw[c]at h1;have h2:=(B3.1 h1) e d;simp only[f,Bool.not_true,Bool.false_or,A0,Y2,bne_iff_ne]at h2;have h3:=O1.1 b e.on h2.1;unfold uF at h3;split at h3
 ·rename_i o ho;rw[qh _ _ _ (i_ ho).1];simpa using h2.1
 ·cases h3
theorem xAz {D S:List Nat}{k:Nat}{a:Act}{w:World}(E R:List Nat)(m:Nat)(C:World->Prop)
 (v:C w) (h:wpQuiet P ops C (λa'=>wpN P ops (QS (wpSt P ops Q S m) Q) C D E R a' w) (zy ops E) a) (j:xHe ops D E R=true:=by kernel_rfl) (u:D.all (uF ops D)=true:=by kernel_rfl) (t:(E.all λe=>match ops[e]? with|some o=>!kM o|none=>false)=true:=by kernel_rfl) (s:D++E++R=S:=by rfl) (q:E.length+R.length+m=k:=by rfl):wpSt P ops Q D k a w:=by
 subst s;subst q;have n:=j;simp only[xHe,A0,decide_eq_true_eq,O1]at n;obtain⟨⟨⟨⟨⟨⟨⟨⟨⟨⟨⟨_,f⟩,_⟩,H⟩,_⟩,B⟩,_⟩,_⟩,_⟩,_⟩,F⟩,G⟩:=n;have d:∀(l:List Nat) (e:Nat),uF ops l e=true->e<ops.size:=λl e h=>by grind [uF,Array.getElem?_eq_some_iff.1]
 rw[B8]at f;have z:=M6.1 f;have p:∀e,e∈E++R->e<ops.size->(vt ops.size D).getD e true=false:=λe c hl=>by
  rw[qh _ _ _ hl];cases hx:D.contains e with
  |false=>rfl
  |true=>exact absurd rfl (z.2.2 e (by simpa using hx) e c)
 have hall:E.filter (unl (vt ops.size D))=E:=by grind [List.filter_eq_self,unl,List.mem_append_left,Bool.not_false]
 have A:R≠[]:=by grind
 refine xKl j (λa w h=>h) (E.length+R.length) (vt ops.size D) [] R a w true rfl (vF _ _) (xJo u) (λi g=>⟨λh1=>?_,λh1=>?_⟩) (λx=>absurd x A) (λr b=>by cases b)
  (λr b=>p r (Z1 _ b) (d _ _ (B r b))) (by rw[hall]) (λ_=>v) (λh=>by cases h) (λ_ e c o ho=>?_) ?_
 ·rw[qh _ _ _ g]at h1;rw[B8];exact aq_ _ (by simpa using h1)
 ·rw[qh _ _ _ g];simpa using h1
 ·rw[hall]at c;have h1:=O1.1 t e c;rw[ho]at h1;simpa using h1
 ·rw[hall];exact zG (λa' y=>by unfold Zd;rw[if_pos rfl];exact y) _ _ h
theorem xAy {D S:List Nat}{k:Nat}{a:Act}{w:World}(E R:List Nat)(m:Nat)(C:World->Prop)
 (g:C w) (h:wpQuiet P ops C (λa'=>∀w',C w'->wpN P ops (QS (wpSt P ops Q S m) Q) C D E R a' w') (zy ops E) a) (j:xHe ops D E R=true:=by kernel_rfl) (t:D.all (uF ops D)=true:=by kernel_rfl) (s:D++E++R=S:=by rfl) (p:E.length+R.length+m=k:=by rfl):wpSt P ops Q D k a w:=by
 subst s;subst p;have n:=j;simp only[xHe,A0,decide_eq_true_eq,O1]at n;obtain⟨⟨⟨⟨⟨⟨⟨⟨⟨⟨⟨_,d⟩,_⟩,F⟩,_⟩,z⟩,_⟩,_⟩,_⟩,_⟩,A⟩,B⟩:=n;have c:∀(l:List Nat) (e:Nat),uF ops l e=true->e<ops.size:=λl e h=>by grind [uF,Array.getElem?_eq_some_iff.1]
 rw[B8]at d;have x:=M6.1 d;have o:∀e,e∈E++R->e<ops.size->(vt ops.size D).getD e true=false:=λe q hl=>by
  rw[qh _ _ _ hl];cases hx:D.contains e with
  |false=>rfl
  |true=>exact absurd rfl (x.2.2 e (by simpa using hx) e q)
 have hall:E.filter (unl (vt ops.size D))=E:=by grind [List.filter_eq_self,unl,List.mem_append_left,Bool.not_false]
 have y:R≠[]:=by grind
 refine xKl j (λa w h=>h) (E.length+R.length) (vt ops.size D) [] R a w false rfl (vF _ _) (xJo t) (λi f=>⟨λh1=>?_,λh1=>?_⟩) (λu=>absurd u y) (λr b=>by cases b)
  (λr b=>o r (Z1 _ b) (c _ _ (z r b))) (by rw[hall]) (λ_=>g) (λ_=>⟨g,rfl⟩) (λh=>by cases h) ?_
 ·rw[qh _ _ _ f]at h1;rw[B8];exact aq_ _ (by simpa using h1)
 ·rw[qh _ _ _ f];simpa using h1
 ·rw[hall];exact zG (λa' v=>by unfold Zd;rw[if_neg (by simp)];exact v) _ _ h
theorem uO {id:Nat}{a:Act}{w:World}(h:wpSt P ops Q [] ops.size a w.drew)(b:P.follows .mixedOrders=true:=by kernel_rfl):(Code.region id ops true).wp P Q a w:=by
 refine wp_region_noPanic (wp_region_any b ?_);have e:vt ops.size []=Array.replicate ops.size false:=by grind [vF,xE8]
 unfold wpSt at h;rw[e]at h;exact h
def QnD (P:Program)(ops:Array Oper)(Q:Exit->Act->World->Prop)(C:World->Prop)(D E rest:List Nat)(b:Bool):Exit->Act->World->Prop
 |.normal,a,w=>(b=true->C w)/\wpN P ops Q C D E rest a w
 |.panic _,_,_=>False
 |e,a,w=>Q e a w
theorem xB0 {D E rest:List Nat}{r:Nat}{o:Oper}{a:Act}{w:World}(b:Bool)(k:ops[r]?=some o)(l:xD5 ops D E r=b)(h:wpList P ops (QnD P ops Q C D E rest b) [o] a w):wpN P ops Q C D E (r :: rest) a w:=by
 unfold wpN wpOp;simp only[k];unfold wpList at h;have hl:LetsOut (QnD P ops Q C D E rest b)->LetsOut (NoPanic Q):=λ⟨a,w,h⟩=>⟨a,w,h⟩
 have g:∀a' w',wpList P ops (QnD P ops Q C D E rest b) [] a' w'->(xD5 ops D E r=true->C w')/\wpN P ops Q C D E rest a' w':=λa' w' m=>by
  rw[l];exact m
 split
 ·rename_i j;rw[if_pos j]at h;rcases h with h|⟨h1,h2⟩
  ·refine .inl ?_;unfold Oper.wp at *;generalize (execOp a.eval o).run P w=r at *;cases r with
   |ok n w'=>
    cases n <;> simp only[Oper.upon]at h⊢
    case value u=>exact g _ _ h
    case skip=>exact g _ _ h
    case defer d=>exact g _ _ h
    case enter f args=>
     refine Calls.mono h λe w'' i=>?_
     cases e with
     |returned u=>exact g _ _ i
     |panicked c=>exact i
     |outgrown=>exact hl i
    case row row args=>exact Rows.mono h λu w'' i=>g _ _ i
   |halt x w'=>cases x <;> simp only[Oper.upon]at h⊢<;> exact h
  ·exact .inr ⟨h1,hl h2⟩
 grind
theorem xSw {D E:List Nat}:∀(R:List Nat) (a:Act) (w:World),(R.all λr=>!xD5 ops D E r&&decide (r<ops.size))=true->wpList P ops (NoPanic Q) (zy ops R) a w->wpN P ops Q C D E R a w
 |[],_,_,_,h=>h
 |r :: R,a,w,d,h=>by
  rw[cg_,A0]at d;obtain⟨c,i⟩:=d;rw[A0,U3,decide_eq_true_eq]at c;have f:ops[r]?=some (ops.getD r default):=by simp[c.2]
  unfold wpN wpOp;simp only[f];unfold zy at h;rw[t8]at h;unfold wpList at h
  have e:∀a' w',wpList P ops (NoPanic Q) (zy ops R) a' w'->(xD5 ops D E r=true->C w')/\wpN P ops Q C D E R a' w':=λa' w' g=>
   ⟨(λh1=>by rw[c.1]at h1;cases h1),xSw R a' w' i g⟩
  split
  ·rename_i b;rw[if_pos b]at h;exact h.imp (λh=>Oper.wp_mono e h) id
  ·rename_i b;rw[if_neg b]at h;exact e _ _ h
theorem ur {fin:Act->World->Prop}{a:Act}{w:World}:QS fin Q .normal a w=fin a w:=rfl
theorem xCo {D E R:List Nat}{a:Act}{w:World}(h:wpList P ops (NoPanic Q) (zy ops R) a w)(b:(R.all λr=>!xD5 ops D E r&&decide (r<ops.size))=true:=by kernel_rfl):wpN P ops Q C D E R a w:=xSw R a w b h
end
end Go.Proofs.YtdhapkeimaljfaaGreatDoor
namespace Go.Proofs.YtdhapkeimaljfaaGreatDoor
open Go Go.RowKit Go.Proofs Tryz
section
def jT:=lx_ 159
def j9:=sx_ 159
def xLm:=@yh prog 159 4 isAgg159 sizeOf159
def xKn:=@yk prog 159 4 (by kernel_rfl)
def zSta:Array Value:=#[.int .i64 0,.int .i64 0,.slice none 0 0,.int .i64 0]
theorem jV (a b v c)(hv:v.oneCell'=true):xt 4 #[.int .i64 a,.int .i64 b,v,.int .i64 c]=true:=zY rfl (by rw[B3];intro x hx;simp at hx;rcases hx with rfl|rfl|rfl|rfl <;> first|rfl|exact hv)
attribute [local go_sem ↓] vO qT zS zI qW qr jT j9
attribute [local go_sem] xHv xHg xAp xAn xE0 xDt xLm xKn xHq xHm xOd zr zx yA yz xh xg xe xd xx xy xk xj xq xB xw
theorem xTm {H:By->By}{gen}:∀(f:Nat) (num:Int) (L:List By),(zL H gen f num L).length<=L.length
 |0,_,_=>n3 _
 |f+1,num,L=>by
  rw[xF7 f];cases hj:uh H L with
  |none=>exact n3 _
  |some x=>
   obtain⟨r,n⟩:=x;have h1:=xXt hj;simp only;split
   ·exact n3 _
   ·split
    ·have h2:=xTm (H:=H) (gen:=gen) f (num+1) (L.drop n);grind
    ·exact n3 _
theorem xGj:∀(l:List (PRec×Value)) (j:Nat) (a:j<l.length) (i:Nat),i<4->(zX l)[j*4+i]?=(ye l[j].1.kind l[j].1.gen l[j].1.num l[j].2)[i]?
 |[],j,a,_,_=>by cases a
 |x :: l,0,_,i,b=>by
  have e:zX (x :: l)=ye x.1.kind x.1.gen x.1.num x.2++zX l:=rfl;rw[e,az_,m0,I3 (by simpa[ye]using b)];rfl
 |x :: l,j+1,a,i,b=>by
  have e:zX (x :: l)=ye x.1.kind x.1.gen x.1.num x.2++zX l:=rfl;rw[e,M1 (by simp[ye];omega),show (ye x.1.kind x.1.gen x.1.num x.2).length=4 from rfl,show (j+1)*4+i-4=j*4+i by omega];exact xGj l j (by simpa using a) i b
theorem RcAt.get {w B v l}(h:RcAt w B v l)(j)(c:j<l.length):∃g cap gp pcap,v=.slice (some ⟨g,0,none⟩) l.length cap/\l.length<=cap /\
  (∀i u,(ye l[j].1.kind l[j].1.gen l[j].1.num (.slice (some ⟨gp,0,none⟩) l[j].1.pay.length pcap))[i]?=some u->w.cell? ⟨g,j*4+i,none⟩=some u) /\
  l[j].2=.slice (some ⟨gp,0,none⟩) l[j].1.pay.length pcap/\gp<w.heap.size/\l[j].1.pay.length<=pcap/\pcap<=maxLen/\SlB w ⟨gp,0,none⟩ l[j].1.pay:=by
 obtain⟨h1,h2,_⟩:=h.el l[j] (L3 c);rcases h1.at with⟨a,_⟩|⟨gp,pcap,hx,_,hl,e,hs⟩
 ·exact absurd a h2
 rcases h.own.2 with⟨_,a⟩|⟨g,cap,cur,hv,k,o,d,n,p,m⟩
 ·omega
 ·refine⟨g,cap,gp,pcap,hv,d,λi u b=>?_,hx,(h1.lt (by rw[hx];rfl)).2,hl,e,hs⟩;have f:i<4:=(L7.1 b).1;have q:(zX l)[j*4+i]?=some u:=by grind [xGj]
  grind
theorem RcAt.rd {w g k}{r:List Value}(c:r.length=4)(h:∀i u,r[i]?=some u->w.cell? ⟨g,k*4+i,none⟩=some u):xp w ⟨g,k*4,none⟩ 4=true/\xo w ⟨g,k*4,none⟩ 4=r.toArray:=by
 have:=yl (w:=w) (a:=⟨g,k*4,none⟩) (cs:=r) (λj v b=>by rw[l8];exact h j v b);grind
theorem yC7:prog.elem 239=238:=by kernel_rfl
theorem xX2 (g len cap)(h1:1<=len)(a:len<=cap)(w):Sem.run prog (Instr.sliceAt 239 (.slice (some ⟨g,0,none⟩) len cap) (some (.int .i64 1)) none none) w=.ok (.slice (some ⟨g,if cap=1 then 0 else 4,none⟩) (len-1) (cap-1)) w:=by
 rw[run_sliceAt_slice w 239 _ _ _ _ (by kernel_rfl),run_slice_l w 239 (some ⟨g,0,none⟩) len cap (by kernel_rfl) .i64 1 (by omega) (by omega),yC7,sizeOf238];simp only[t2,sliced,aa_];by_cases h:cap=1
 ·subst h;rfl
 ·rw[if_neg (by show ¬ cap=(1:Int).toNat;simpa using h),if_neg h];rfl
structure LlSt (W1:World)(gen first:Int)(l:List (PRec×Value))(k:Nat)(W:World):Prop where
 bel:Below W1.heap.size W1 W
 st:∃ev,W.heap[W1.heap.size]?=some (.cells #[.int .i64 gen,.int .i64 first,ev,.int .i64 0] 159 (0,0))/\W.ownsRow (W1.heap.size+1) 23 1 ev k ((l.take k).map Prod.snd)
 kinds:∀x∈l.take k,x.1.kind=2
theorem LlSt.en {a gen first l k W}(h:LlSt a gen first l k W){B}(m:∀x∈l,OwnB a B x.2 x.1.pay/\x.2≠.slice none 0 0)(u:B<=a.heap.size)(q:k<=l.length):
  ∃ev,W.heap[a.heap.size]?=some (.cells #[.int .i64 gen,.int .i64 first,ev,.int .i64 0] 159 (0,0))/\EnAt W B ev ((l.take k).map λx=>x.1.pay) ((l.take k).map Prod.snd):=by
 obtain⟨ev,h1,h2⟩:=h.st;have v:(l.take k).length=k:=by grind
 have n:=h2;have p:((l.take k).map λx=>x.1.pay).length=k:=by grind
 refine⟨ev,h1,⟨?_,by simp,λi s=>?_⟩⟩
 ·rw[p];exact⟨h2.1,h2.2.imp (λh=>h) λ⟨g,cap,cur,hv,t,r⟩=>⟨g,cap,cur,hv,by omega,r⟩⟩
 ·have f:i<k:=by omega
  have o:i<l.length:=by omega
  obtain⟨b,c⟩:=m l[i] (L3 o);simp only[bj_,cf_];refine⟨b.below h.bel,c,λj d e=>?_⟩;have y:=(b.lt d).2;have w:=(s5 n j e).1;omega
theorem LlSt.next {a gen first l k W Wa c ev v'}(h:LlSt a gen first l k W)(i:k<l.length)(o:l[k].1.kind=2)(d:Below W.heap.size W Wa)
  (n:W.heap[a.heap.size]?=some (.cells #[.int .i64 gen,.int .i64 first,ev,.int .i64 0] 159 (0,0))) (g:∀j,ev.ownBlock=some j->a.heap.size+1<=j)
  (ho:c.ownsRow (a.heap.size+1) 23 1 v' (k+1) ((l.take k).map Prod.snd++[l[k].2])) (f:Wa.grownBy c ev.ownBlock):
  (c.heap[a.heap.size]?=some (.cells #[.int .i64 gen,.int .i64 first,ev,.int .i64 0] 159 (0,0)))/\LlSt a gen first l (k+1) (c.setCell ⟨a.heap.size,2,none⟩ v'):=by
 have b:a.heap.size<W.heap.size:=by grind
 have m:c.heap[a.heap.size]?=some (.cells #[.int .i64 gen,.int .i64 first,ev,.int .i64 0] 159 (0,0)):=
  (f.block _ (b7 b d.size) (λe=>by have:=g _ e.symm;omega)).trans ((d.block _ b).trans n)
 refine⟨m,((h.bel.trans (d.mono h.bel.size)).grown f (by have:=h.bel.size;have:=d.size;omega) (λj e=>by have:=g j e;omega)).setCell (p:=⟨a.heap.size,2,none⟩) (w_ _) _,⟨v',?_,?_⟩,λx hx=>?_⟩
 ·grind
 ·grind [List.take_succ_eq_append_getElem,List.map_singleton,kv]
 ·rw[d0 i]at hx;rcases m3.1 hx with hx|hx
  ·exact h.kinds x hx
  grind
def xOz (area q:Nat)(rs:List PRec):Option PJ:=match rs with
 |[]=>none
 |r :: rs=>if r.kind≠1 then none else
  match xB7 r.pay with
  |none=>none
  |some x=>if x.2<=((rs.takeWhile λr=>r.kind==2).map (·.pay)).length then some ⟨area,q,x.1,x.2,(rs.takeWhile λr=>r.kind==2).map (·.pay)⟩else none
theorem yEo {H:By->By}{area q:Nat}{a t p}(h:decP H a=some p)(hq:p.gen=q)(b:q%2=area):zk H area (a :: t)=xOz area q (zL H q (a :: t).length 0 (a :: t)):=by
 unfold zk;simp only[h];rw[if_neg (by rw[hq];simp[b]),hq];unfold xOz;cases zL H (q:Int) (a :: t).length 0 (a :: t) with
 |nil=>rfl
 |cons r rs=>
  grind
theorem xZ1 {α:Type}(f:α->Bool):∀(l:List α) (k:Nat),(∀x∈l.take k,f x=true)->(k=l.length\/∃h:k<l.length,f l[k]=false)->l.takeWhile f=l.take k
 |[],k,_,_=>by simp
 |a :: l,0,_,h=>by simp_all
 |a :: l,k+1,h1,h=>by
  rw[List.takeWhile_cons,if_pos (h1 a (by simp)),aH_,xZ1 f l k (λx hx=>h1 x (by simp[hx])) ?_];rcases h with h|⟨hl,h⟩
  ·grind
  grind
theorem xXz (o):∃(f c:Int) (b:Bool),yIm o=.tuple #[.int .i64 f,.int .i64 c,.bool b]/\(o=none->b=false)/\(∀x,o=some x->f=x.1/\c=x.2/\b=true):=by
 cases o with
 |none=>exact⟨0,0,false,rfl,(λ_=>rfl),(λ_ h=>by cases h)⟩
 |some x=>exact⟨x.1,x.2,true,rfl,(λh=>by cases h),(λy h=>by cases h;exact⟨rfl,rfl,rfl⟩)⟩
theorem xM7 (a b c v)(hv:v.oneCell'=true):xt 4 #[.int .i64 a,.int .i64 b,.int .i64 c,v]=true:=zY rfl (by rw[B3];intro x hx;simp at hx;rcases hx with rfl|rfl|rfl|rfl <;> first|rfl|exact hv)
theorem LlSt.later {b gen first l k W W'}(h:LlSt b gen first l k W)(a:Below W.heap.size W W'):LlSt b gen first l k W':=by
 obtain⟨ev,h1,h2⟩:=h.st;exact⟨h.bel.trans (a.mono h.bel.size),⟨ev,(a.block _ (i_ h1).1).trans h1,kv h2 λg _ c=>a.block g c⟩,h.kinds⟩
def StC (b:Nat)(cs:Array Value):Type:={ z:World // z.heap[b]?=some (.cells cs 159 (0,0)) }
theorem xUk {LS area q x xs k}{d c:Int}{ok}(hl:zk sha area LS=xOz area q ((x :: xs).map Prod.fst))(b:x.1.kind=1)
  (e:(xB7 x.1.pay=none->ok=false)/\∀y,xB7 x.1.pay=some y->d=y.1/\c=y.2/\ok=true) (n:k<=xs.length) (m:∀y∈xs.take k,y.1.kind=2) (g:k=xs.length\/∃h:k<xs.length,xs[k].1.kind≠2)
  {w'} {B} {v} (i:EnAt w' B v ((xs.take k).map λx=>x.1.pay) ((xs.take k).map Prod.snd)):
  match zk sha area LS with
  |none=>(ok&&decide (c<=(k:Int)))=false
  |some j=>(ok&&decide (c<=(k:Int)))=true/\(q:Int)=j.gen/\d=j.first/\∃vs,EnAt w' B v j.entries vs:=by
 have a:((xs.map Prod.fst).takeWhile λr=>r.kind==2)=(xs.map Prod.fst).take k:=by
  refine xZ1 _ _ k (λy hy=>?_) ?_
  ·rw[<-aI_]at hy;grind
  grind
 have f:((xs.map Prod.fst).take k).map (·.pay)=(xs.take k).map λx=>x.1.pay:=by rw[<-aI_,T7];rfl
 have l:((xs.take k).map λx=>x.1.pay).length=k:=by grind
 rw[hl];unfold xOz;simp only[t8];rw[if_neg (by simp[b]),a,f];cases hx:xB7 x.1.pay with
 |none=>simp only;rw[e.1 hx];rfl
 |some y=>
  grind
def xEh (d:PD)(area:Nat)(w:World)(e:Ending)(w':World):Prop:=
 Below w.heap.size w w'/\∃(g f:Int) (v:Value) (c:Bool),e=.returned (.tuple #[.agg #[.int .i64 g,.int .i64 f,v,.int .i64 0],.bool c,.int .i64 0])/\(∃a n c,v=.slice a n c) /\
  match zk sha area (d.area d.n area) with
  |none=>c=false
  |some j=>c=true/\g=j.gen/\f=j.first/\∃vs,EnAt w' w.heap.size v j.entries vs
theorem yBn {D w v d}(h:yj D w v d)(hd:d.down=false)(hK:qI w)(area:Nat)(ha:area<2)(iB:8<=d.n):
  Calls prog 92 #[.agg (xG v.p d.n),.int .i64 area] w (xEh d area w):=by
 obtain⟨G,aj⟩:∃G,G=(w.alloc (.cells (xG v.p d.n) 156)).alloc (.cells zSta 159):=⟨_,rfl⟩;have aa:Below w.heap.size w G:=by grind
 have aL:G.heap.size=w.heap.size+2:=by grind
 have h0:G.heap[w.heap.size]?=some (.cells (xG v.p d.n) 156 (0,0)):=by grind
 have h1:G.heap[w.heap.size+1]?=some (.cells zSta 159 (0,0)):=by grind
 have aF:=h.n2;obtain⟨o1,r1⟩:=xF (n:=3) h0 rfl;obtain⟨m,hm⟩:∃m,m=d.n/2:=⟨_,rfl⟩;have wR:4<=m:=by omega
 have hmn:area*m+m<=d.n:=by
  have:area=0\/area=1:=by omega
  rcases this with rfl|rfl <;> omega
 have z1:∀z:xf G,xp z.1 ⟨w.heap.size,0,none⟩ 3=true:=λz=>xf.ok o1 z
 have R:∀z:xf G,xo z.1 ⟨w.heap.size,0,none⟩ 3=xG v.p d.n:=by grind [xf.rd]
 have z3:∀z:xf G,Calls prog 88 #[.agg (xG v.p d.n)] z.1 λe w'=>e=.returned (.int .i64 m)/\∃z':xf G,w'=z'.1:=λz=>xf.call ((xE2 v.p d.n aF z.1).mono λe w' ⟨h1,h2⟩=>⟨by rw[h1,hm],h2⟩)
 have fI:Hid (∀z:xf G,Calls prog 105 #[.agg (xG v.p d.n),.int .i64 (area*m:Nat),.int .i64 m] z.1 (xEf d (area*m) m z.1)):=h_ λz=>xP1 ((h.below aa).below z.2) hd (area*m) m hmn
 have tX:=h_ z3;have aq:=h_ aa;have HK:=h_ hK;have H1:=h_ h1;have cz:=h_ aL;obtain⟨LS,Vc⟩:∃LS,LS=jZ d (area*m) m:=⟨_,rfl⟩;have D7:LS.length=m:=by grind [uw]
 have P:Hid (∀e w',Below w.heap.size w w'->(∃(g f:Int) (v:Value) (c:Bool),e=.returned (.tuple #[.agg #[.int .i64 g,.int .i64 f,v,.int .i64 0],.bool c,.int .i64 0])/\(∃a n c,v=.slice a n c) /\
  match zk sha area LS with
  |none=>c=false
  |some j=>c=true/\g=j.gen/\f=j.first/\∃vs,EnAt w' w.heap.size v j.entries vs)->xEh d area w e w'):=h_ (λe w' hb he=>⟨hb,by rw[show d.area d.n area=LS by rw[Vc,hm];rfl];exact he⟩)
 obtain⟨am,Z3⟩:∃am,am=area*m:=⟨_,rfl⟩;have hamz:(area:Int)*(m:Int)=(am:Int):=by omega
 unfold xEf at fI;rw[<-Vc,<-Z3]at fI;have NM:(area:Int)<2:=by omega
 have hamb:(am:Int)<=4096:=by omega
 have Bj:(m:Int)<=4096:=by omega
 obtain⟨n,hn⟩:∃n,n=d.n:=⟨_,rfl⟩;rw[<-hn]at aj R tX fI⊢;unfold xG at aj R tX fI⊢;unfold zSta at aj H1;have HL:=h_ D7;have UF:=h_ wR;clear h hd aa aL h0 h1 aF o1 r1 hm hmn z3 hK Vc D7 Z3 hn iB wR;go_enter func92,ntmps92;go_upto_region 1 with fail
 refine xm aj ?_;clear aj;refine uO ?_;refine xAy [0,1,2,3,4,5,6] [7,8] 4 (λw'=>∃z:xf G,w'=z.1) ⟨⟨_,(z_ _ _).drew⟩,rfl⟩ ?_;simp only[o_]
 repeat (go_big_quiet_step (first|(go_at_call 88;exact tX.out _)))
 refine wpQuiet_nil ?_;rintro _ ⟨z,rfl⟩;clear z1 R tX;refine xCo ?_;simp only[o_];go_wp2_with fail;refine(fI.out z).mono ?_;rintro e S ⟨ai,lv,vs,rfl,eM⟩;obtain⟨z,bt⟩:=z;have dD:Below w.heap.size w S:=by grind
 have aE:S.heap[w.heap.size+1]?=some (.cells zSta 159 (0,0)):=by
  have hs:=cz.out;have hz:=bt.size;exact(ai.block _ (by show w.heap.size+1<z.heap.size;omega)).trans ((bt.block _ (by omega)).trans H1.out)
 have rT:ScAt S (w.heap.size+2) lv LS vs:=eM.base (by have hs:=cz.out;have hz:=bt.size;show w.heap.size+2<=z.heap.size;omega);have ax:=h_ dD;have ld:=h_ aE;have IM:=h_ rT;clear dD aE rT eM ai bt fI aq H1;go_wp2;refine T_ ?_;rw[ur];refine xAz [9,10] [11,12] 0 (λw'=>w'=S) rfl ?_;simp only[o_]
 repeat (go_big_quiet_step (fail))
 refine wpQuiet_nil ?_;refine xB0 true rfl (by kernel_rfl) ?_;go_wp2;refine⟨λ_=>rfl,xCo ?_⟩;simp only[o_];go_wp2;refine T_ ?_;rw[ur];refine kB ?_;go_upto_region 4 with fail
 have J:0<LS.length:=by grind
 obtain⟨g,cap,e0,g_,bD,an,NP,hes,d_⟩:=xFi IM.out 0 J;rw[HL.out]at g_;subst g_;have N1:m<=cap:=by
  obtain⟨g',cap',h1,_,_,h4,_⟩:=IM.at (λe=>by rw[e]at J;simp at J);cases h1
  rw[HL.out]at h4;exact h4
 have eD:=jg e0 _ S (HK.below ax.out (w_ _)) d_ an hes;obtain⟨b0,bu⟩:∃b0,b0=LS[0]:=⟨_,rfl⟩;obtain⟨LR,Z4⟩:∃LR,LR=LS.drop 1:=⟨_,rfl⟩;have FM:LS=b0 :: LR:=by rw[bu,Z4];exact M3 (i:=0) J
 rw[<-bu]at eD;have iF:=h_ eD;have Z5:=h_ FM;have lT:(1:Int)<=m:=by grind
 clear eD d_ an bu Z4 FM J;go_wp2_with fail;refine iF.mono ?_;rintro e A ⟨ao,bn⟩;have hlt2:w.heap.size+1<S.heap.size:=by omega
 have aJ:Hid (Below w.heap.size w A):=h_ (ax.trans (ao.mono ax.size));have bW:A.heap[w.heap.size+1]?=some (.cells zSta 159 (0,0)):=by grind
 have Vd:Hid (ScAt A (w.heap.size+2) (.slice (some ⟨g,0,none⟩) m cap) LS vs):=h_ (IM.later ao);have iq:S.heap.size<=A.heap.size:=ao.size;clear iF ao bD;rcases bn with⟨p,vp,hp,rfl,V,lW⟩|⟨r,bH,hr,rfl⟩
 ·have ay:=xE9 hp;have tG:(0:Int)<=p.gen:=ay.1.2.2.1;have fP:p.gen<=2147483647:=ay.1.2.2.2.1;obtain⟨q,hq⟩:∃q:Nat,q=p.gen.toNat:=⟨_,rfl⟩;have IC:p.gen=(q:Int):=by omega
  unfold zc;have Sl:vp.oneCell'=true:=by
   rcases V.at with⟨h,_⟩|⟨g,c,h,_⟩ <;> rw[h] <;> rfl
  have aU:=xY5 p.kind p.gen p.num p.idx p.cnt vp Sl;obtain⟨H,cY⟩:∃H,H=A.alloc (.cells #[.int .i64 p.kind,.int .i64 p.gen,.int .i64 p.num,.int .i64 p.idx,.int .i64 p.cnt,vp] 233):=⟨_,rfl⟩;have O:Below A.heap.size A H:=by grind
  have dF:=h_ (aJ.trans (O.mono aJ.size));have Bk:H.heap[A.heap.size]?=some (.cells #[.int .i64 p.kind,.int .i64 p.gen,.int .i64 p.num,.int .i64 p.idx,.int .i64 p.cnt,vp] 233 (0,0)):=by grind
  have n_:H.heap[w.heap.size+1]?=some (.cells zSta 159 (0,0)):=by grind
  have Ve:=h_ (Vd.later O);have c1:=cell_of_row H A.heap.size 1 _ _ _ Bk;simp only[v_]at c1;have HPR:=h_ Bk;have Y:=h_ n_;have HP:=h_ hp;have fF:A.heap.size+1=H.heap.size:=by grind
  rw[IC]at cY aU c1 fP⊢;have em:=h_ fF;have HPQ:=h_ IC;clear ay tG hq V lW O Bk n_ bW iq hp fF IC;go_upto_region 5 with fail
  refine xm cY ?_;clear cY aU;by_cases hpar:q%2=area
  ·have FN:((q:Int)%2==(area:Int))=true:=by grind
   have Bm:((q:Int)%2 != (area:Int))=false:=by grind
   have N2:xDr H ⟨g,0,none⟩ LS:=⟨λi hi=>by
    obtain⟨g',cap',e1,h1,h2,h3,_,h5,h6⟩:=xFi Ve.out i hi;cases h1;exact⟨e1,by rw[l8,m0];exact h2,h3,h5,h6⟩⟩
   have mS:=yDt (q:Int) 0 ⟨g,0,none⟩ LS cap H (HK.below dF.out (w_ _)) N2 ⟨by omega,by omega,by omega,by omega,by omega,by omega⟩ (by rw[HL.out];exact N1) (by rw[HL.out];omega);rw[HL.out]at mS;have N3:=h_ mS;clear N2 mS;go_upto_region 7 with fail
   clear FN Bm;go_wp2_with fail;refine N3.mono ?_;rintro e w5 ⟨aO,rv,l,x1,x2,rfl,dK,gZ⟩;rw[xOh LS.length 0 LS (w_ _)]at gZ;obtain⟨ra,rc,IN⟩:=yK dK.own;have an:l.length<=1000000:=by grind [zL,sha,xTm]
   have bR:=h_ (dF.trans (aO.mono dF.size));have q_:Hid (w5.heap[w.heap.size+1]?=some (.cells zSta 159 (0,0))):=h_ ((aO.block _ (i_ Y.out).1).trans Y.out);have FO:zk sha area LS=xOz area q (l.map Prod.fst):=by grind [yEo]
   have Bn:=h_ FO;have AM:=h_ dK;have N4:=h_ aO;have gK:=jV 0 0 (.slice none 0 0) 0 rfl;have aY:xN w5 (w.heap.size+1) 4=true:=by unfold xN;rw[q_.out];rfl
   subst IN;clear FO dK aO gZ;cases l with
   |nil=>
    have E:=h_ (xH bR.out (show w.heap.size<=w.heap.size+1 by omega) zSta);have s:=h_ (xF (n:=4) (setRow_heap _ (w.heap.size+1) _ zSta _ _ q_.out) rfl);unfold zSta at E s;simp only[L1];go_wp2;refine bodyPost_ret (v:=.tuple #[.agg zSta,.bool false,.int .i64 0]) ?_ rfl (P.out _ _ E.out ⟨0,0,.slice none 0 0,false,rfl,⟨_,_,_,rfl⟩,by rw[Bn.out];rfl⟩);exact uy rfl isAgg159 sizeOf159 _ _ ⟨w.heap.size+1,0,none⟩ _ _ _ rfl rfl rfl s.1 s.2
   |cons x xs=>
    obtain⟨gr,Ti,gp,pcap,j_,Bo,aB,eo,Li,I,oW,f_⟩:=AM.get 0 (by simp);cases j_
    obtain⟨nl,fW⟩:∃nl,nl=(x :: xs).length:=⟨_,rfl⟩;rw[<-fW]at Bo an⊢;have IP:nl=xs.length+1:=by omega
    have k0:=aB 0 _ rfl;have k3:=aB 3 _ rfl;simp only[az_,m0,bx_]at k0 k3 eo I f_;have nZ:(1:Int)<=nl:=by omega
    have NH:((nl:Int)==0)=false:=by grind
    have LQ:=h_ IP;have CY:=h_ eo;have HKC:=h_ aB;have N5:=h_ Bo;by_cases hk1:x.1.kind=1
    ·have N6:(x.1.kind != 1)=false:=by grind
     have Vf:=xK5 x.1.pay ⟨gp,0,none⟩ pcap w5 f_ Li I (R_ I oW);obtain⟨b,L,ay,fS,gT,R9⟩:=xXz (xB7 x.1.pay);rw[fS]at Vf;have Vg:=h_ Vf;have Z6:=h_ (And.intro gT R9);have cm:=xX2 gr nl rc (by omega) Bo;clear Vf gT R9 fS f_ Li I aB eo fW IP;go_wp2_with fail;refine Vg.mono ?_;rintro e o ⟨bM,rfl⟩;have Vh:=jV q b (.slice none 0 0) 0 rfl;have k1:=(bM.cell (p:=⟨A.heap.size,1,none⟩) (by have:=em.out;have:=N4.size;show A.heap.size<w5.heap.size;omega)).trans ((N4.cell (p:=⟨A.heap.size,1,none⟩) (by have:=em.out;show A.heap.size<H.heap.size;omega)).trans c1);have fH:=h_ (bR.trans (bM.mono bR.size));have X:Hid (o.heap[w.heap.size+1]?=some (.cells zSta 159 (0,0))):=h_ ((bM.block _ (i_ q_.out).1).trans q_.out);have mw:=h_ (AM.later bM);have a_:Hid (LlSt o q b xs 0 (o.alloc (.cells #[.int .i64 q,.int .i64 b,.slice none 0 0,.int .i64 0] 159))):=h_ ⟨(z_ _ _).alloc (w_ _) _,⟨_,heap_alloc_new o _,D1 _ _ _ _⟩,λx hx=>by cases hx⟩;obtain⟨bo,Fs⟩:∃bo,bo=if rc=1 then 0 else 4:=⟨_,rfl⟩
     rw[<-Fs]at cm;have HBO:=h_ Fs;obtain⟨xn,Z7⟩:∃xn,xn=xs.length:=⟨_,rfl⟩;have U:nl-1=xn:=by grind
     rw[U]at cm;have FP:=h_ Z7;have wS:(xn:Int)<=1000000:=by omega
     have oB:(0:Int)<=1:=by decide
     clear k0 k3 N6 c1 bM Fs U Z7;go_wp2;go_loopw [86] (λu wr=>∃k:Nat,u=.int .i64 k/\k<=xn/\Hid (LlSt o q b xs k wr)) (λu _=>xn-(intOf u).toNat)
     case atStart=>exact⟨0,rfl,n3 _,a_⟩
     case round=>
      obtain⟨k,rfl,hk,HS⟩:=hrel;by_cases hlt:k<xn
      ·have aM:(k:Int)<xn:=by omega
       have N0:k<xs.length:=by grind
       obtain rfl:bo=4:=by rw[HBO.out];exact if_neg (by have:=N5.out;have:=LQ.out;omega)
       have D9:=mw.later HS.bel;obtain⟨g9,c9,gq,qcap,Vi,_,IQ,Fk,Vj,IR,hqm,Z8⟩:=D9.get (k+1) (by rw[x5];omega);cases Vi
       simp only[List.getElem_cons_succ]at IQ Fk IR Z8;obtain⟨ro,rr⟩:=RcAt.rd (show (ye xs[k].1.kind xs[k].1.gen xs[k].1.num (.slice (some ⟨gq,0,none⟩) xs[k].1.pay.length qcap)).length=4 from rfl) IQ;rw[show (k+1)*4=4+k*4 by omega]at ro rr;unfold ye at rr;obtain⟨y,hy⟩:∃y,y=xs[k]:=⟨_,rfl⟩;rw[<-hy]at rr;have aU:=xM7 y.1.kind y.1.gen y.1.num (.slice (some ⟨gq,0,none⟩) y.1.pay.length qcap) rfl;have O:Below wr.heap.size wr (wr.alloc (.cells #[.int .i64 y.1.kind,.int .i64 y.1.gen,.int .i64 y.1.num,.slice (some ⟨gq,0,none⟩) y.1.pay.length qcap] 238)):=by grind
       have Bp:=heap_alloc_new wr (.cells #[.int .i64 y.1.kind,.int .i64 y.1.gen,.int .i64 y.1.num,.slice (some ⟨gq,0,none⟩) y.1.pay.length qcap] 238);obtain⟨t,fK⟩:∃t,t=wr.alloc (.cells #[.int .i64 y.1.kind,.int .i64 y.1.gen,.int .i64 y.1.num,.slice (some ⟨gq,0,none⟩) y.1.pay.length qcap] 238):=⟨_,rfl⟩;have HY:=h_ hy;have HX9:=h_ Fk;clear IQ hy Fk IR hqm Z8;go_upto_region 15 with fail
       refine xm fK ?_;rw[<-fK]at O Bp;clear fK ro rr aU;have dM:=h_ O;have c0:=cell_of_row t wr.heap.size 0 _ _ _ Bp;have c3:=cell_of_row t wr.heap.size 3 _ _ _ Bp;simp only[v_]at c0 c3;clear Bp O;by_cases hk2:y.1.kind=2
       ·have Vk:(y.1.kind != 2)=false:=by grind
        obtain⟨ev,C,V⟩:=HS.st;obtain⟨ea,ec,M⟩:=yK V;have FQ:=(dM.block _ (i_ C).1).trans C;have ce:=cell_of_row t o.heap.size 2 _ _ _ FQ;simp only[v_]at ce;obtain⟨i0,hi,bf,aP,be⟩:=info_parts Tryz.info_slb;have HI:=h_ (And.intro hi (And.intro bf (And.intro aP be)));have DG:Below t.heap.size t (t.alloc (.cells #[.slice (some ⟨gq,0,none⟩) y.1.pay.length qcap] 23)):=by grind
        have ed:=kv V (w':=t.alloc (.cells #[.slice (some ⟨gq,0,none⟩) y.1.pay.length qcap] 23)) λg _ hg=>(DG.block g (b7 hg dM.size)).trans (dM.block g hg)
        have mQ:(t.alloc (.cells #[.slice (some ⟨gq,0,none⟩) y.1.pay.length qcap] 23)).cell? ⟨t.heap.size,0,none⟩=some (.slice (some ⟨gq,0,none⟩) y.1.pay.length qcap):=by simp
        have Z9:o.heap.size+1<=(t.alloc (.cells #[.slice (some ⟨gq,0,none⟩) y.1.pay.length qcap] 23)).heap.size:=by grind
        have iX:k+1<=maxLen:=by unfold maxLen;omega
        have N7:xs[k].2=.slice (some ⟨gq,0,none⟩) y.1.pay.length qcap:=by grind
        have hbC:=h_ (dM.trans (DG.mono dM.size));have N8:=h_ (λj (Z:ev.ownBlock=some j)=>(s5 V j Z).1);have FR:=h_ (λv' W2 (h1:W2.ownsRow (o.heap.size+1) 23 1 v' (k+1) ((xs.take k).map Prod.snd++[xs[k].2])) (h2:(t.alloc (.cells #[.slice (some ⟨gq,0,none⟩) y.1.pay.length qcap] 23)).grownBy W2 ev.ownBlock)=>HS.next N0 (by rw[<-HY.out];exact hk2) hbC.out C N8.out h1 h2);rw[N7]at FR;have bF:=h_ C;have sJ:=h_ ed;have tF:=h_ mQ;have rh:=h_ Z9;have HKM:=h_ iX;have Vl:k+1<=xn:=hlt;rw[M]at ce sJ;have Z_:=h_ M;have Vm:(k:Int)<=1000000:=by omega
        have IS:Hid ((k+1)*24<=140737488355328):=h_ (by omega);clear C V FQ hi bf aP be DG ed mQ Z9 N7 iX M N8
        go_wp2_with (at_builtin;refine wpList_append_own_at _ rfl (.tmp 94) (.tmp 97) 157 rfl (o.heap.size+1) 23 i0 (.slice none 0 0) 1 24 underlying157 HI.1 HI.2.1 HI.2.2.1 HI.2.2.2 rfl (by decide) _ k _ rfl sJ.out ⟨t.heap.size,0,none⟩ 1 1 [.slice (some ⟨gq,0,none⟩) y.1.pay.length qcap] rfl rfl (λj u Z=>by
          match j,Z with
          |0,Z=>
           simp only[t1,ag_]at Z;subst Z;rw[l8];exact tF.out) (λu hu=>by simp at hu;rw[hu];rfl) HKM.out IS.out rh.out ?_)
        intro v' w9 h9 D_ _ _;rw[<-aI_]at h9;obtain⟨va,vc,Vi⟩:=yK h9;have U:=FR.out v' w9 h9 (by rw[Z_.out];exact D_);have f9:=frozen_of_row w9 o.heap.size 2 _ _ U.1;have c9:=cell_of_row w9 o.heap.size 2 _ _ _ U.1;simp only[v_]at c9;have HN:=h_ U.2;subst Vi;rw[Z_.out]at c9;clear U h9 D_ c0 c3 ce;go_wp2;go_roundw
        case rel=>exact⟨k+1,by go_num,Vl,HN⟩
        case measure=>simp[intOf];omega
       ·have Vk:(y.1.kind != 2)=true:=by grind
        go_upto_region 18 with fail
        have N:=h_ (HS.later dM.out);obtain⟨ev,C,T⟩:=N.en (B:=w.heap.size+2) (λy hy=>by have:=mw.el y (by simp[hy]);exact⟨this.1.base (i_ Y.out).1,this.2.1⟩) (i_ X.out).1 (by rw[<-FP.out];exact hk);obtain⟨ea,ec,M⟩:=yK T.own;have K:((xs.take k).map λx=>x.1.pay).length=k:=by grind
        rw[K]at M;subst M;have lB:=h_ T;have bF:=h_ C;have tL:=h_ (show k=xs.length\/∃h:k<xs.length,xs[k].1.kind≠2 from .inr ⟨by rw[<-FP.out];exact hlt,by rw[<-HY.out];exact hk2⟩);have Vm:(k:Int)<=1000000:=by omega
        have z1:∀z:StC o.heap.size #[.int .i64 q,.int .i64 b,.slice ea k ec,.int .i64 0],xp z.1 ⟨o.heap.size,0,none⟩ 4=true:=λz=>(xF (n:=4) z.2 rfl).1
        have R:∀z:StC o.heap.size #[.int .i64 q,.int .i64 b,.slice ea k ec,.int .i64 0],xo z.1 ⟨o.heap.size,0,none⟩ 4=#[.int .i64 q,.int .i64 b,.slice ea k ec,.int .i64 0]:=λz=>(xF (n:=4) z.2 rfl).2
        have z3:∀z:StC o.heap.size #[.int .i64 q,.int .i64 b,.slice ea k ec,.int .i64 0],z.1.cell? ⟨o.heap.size,2,none⟩=some (.slice ea k ec):=by grind
        haveI:Nonempty (StC o.heap.size #[.int .i64 q,.int .i64 b,.slice ea k ec,.int .i64 0]):=⟨⟨_,C⟩⟩
        have N9:t.drew.heap[w.heap.size+1]?=some (.cells zSta 159 (0,0)):=(N.bel.block _ (i_ X.out).1).trans X.out;have N_:Below w.heap.size w t.drew:=fH.trans (N.bel.drew.mono fH.size);have Bq:w.heap.size+1≠o.heap.size:=by grind
        clear T C K;refine zh [0,1,2,3,4,5,6,7,8] [9,10,11] 3 (λw'=>∃z:StC o.heap.size #[.int .i64 q,.int .i64 b,.slice ea k ec,.int .i64 0],w'=z.1) ⟨⟨t.drew,bF.out⟩,rfl⟩ ?_;simp only[o_];have Vn:=h_ N9;have Lj:=h_ N_;have HNT:=h_ Bq;clear N9 N_ Bq;by_cases hge:L<=(k:Int)
        case' pos=>have F:decide (L<=(k:Int))=true:=decide_eq_true hge
        case' neg=>have F:decide (L<=(k:Int))=false:=decide_eq_false hge
        all_goals
         have aC:=h_ (λ(W:World) (h:EnAt W w.heap.size (.slice ea k ec) ((xs.take k).map λx=>x.1.pay) ((xs.take k).map Prod.snd))=>xUk Bn.out hk1 Z6.out (by rw[<-FP.out];exact hk) N.kinds tL.out h);cases ay
        all_goals
         repeat (go_big_quiet_step (fail))
         refine wpQuiet_nil ?_;clear z1 R z3;refine xBp [9,10,11] ?_;have Vo:xN t.drew (w.heap.size+1) 4=true:=by grind [xN]
         have hfT:=jV q b (.slice ea k ec) 0 rfl;have IT:(t.drew.setRow (w.heap.size+1) #[.int .i64 q,.int .i64 b,.slice ea k ec,.int .i64 0]).heap[o.heap.size]?=some (.cells #[.int .i64 q,.int .i64 b,.slice ea k ec,.int .i64 0] 159 (0,0)):=by grind
         refine yo true ?_;simp only[o_];go_wp2;refine⟨λ_=>⟨⟨_,IT⟩,rfl⟩,yE ?_⟩;simp only[o_];go_wp2;refine T_ ?_;go_wp2;have Br:=lB.under (w':=(t.setRow (w.heap.size+1) #[.int .i64 q,.int .i64 b,.slice ea k ec,.int .i64 0]).drew) λg hg _=>setRow_other _ _ _ _ (by omega)
         have E:=(xH Lj.out (show w.heap.size<=w.heap.size+1 by omega) #[.int .i64 q,.int .i64 b,.slice ea k ec,.int .i64 0]);have s:=xF (n:=4) (setRow_heap t.drew (w.heap.size+1) _ #[.int .i64 q,.int .i64 b,.slice ea k ec,.int .i64 0] _ _ Vn.out) rfl
         first
          |exact bodyPost_ret (v:=.tuple #[.agg #[.int .i64 q,.int .i64 b,.slice ea k ec,.int .i64 0],.bool (false&&decide (L<=(k:Int))),.int .i64 0]) (uy rfl isAgg159 sizeOf159 _ _ ⟨w.heap.size+1,0,none⟩ _ _ _ rfl (by rw[F];rfl) rfl s.1 s.2) rfl (P.out _ _ E ⟨q,b,.slice ea k ec,_,rfl,⟨_,_,_,rfl⟩,aC.out _ (Br.base (by omega))⟩)
          |exact bodyPost_ret (v:=.tuple #[.agg #[.int .i64 q,.int .i64 b,.slice ea k ec,.int .i64 0],.bool (true&&decide (L<=(k:Int))),.int .i64 0]) (uy rfl isAgg159 sizeOf159 _ _ ⟨w.heap.size+1,0,none⟩ _ _ _ rfl (by rw[F];rfl) rfl s.1 s.2) rfl (P.out _ _ E ⟨q,b,.slice ea k ec,_,rfl,⟨_,_,_,rfl⟩,aC.out _ (Br.base (by omega))⟩)
      ·obtain rfl:k=xn:=by omega
       go_upto_region 18 with fail
       have N:=h_ (HS.out);obtain⟨ev,C,T⟩:=N.en (B:=w.heap.size+2) (λy hy=>by have:=mw.el y (by simp[hy]);exact⟨this.1.base (i_ Y.out).1,this.2.1⟩) (i_ X.out).1 (by rw[<-FP.out];exact hk);obtain⟨ea,ec,M⟩:=yK T.own;have K:((xs.take k).map λx=>x.1.pay).length=k:=by grind
       rw[K]at M;subst M;have lB:=h_ T;have bF:=h_ C;have tL:=h_ (show k=xs.length\/∃h:k<xs.length,xs[k].1.kind≠2 from .inl FP.out);have Vm:(k:Int)<=1000000:=by omega
       have z1:∀z:StC o.heap.size #[.int .i64 q,.int .i64 b,.slice ea k ec,.int .i64 0],xp z.1 ⟨o.heap.size,0,none⟩ 4=true:=λz=>(xF (n:=4) z.2 rfl).1
       have R:∀z:StC o.heap.size #[.int .i64 q,.int .i64 b,.slice ea k ec,.int .i64 0],xo z.1 ⟨o.heap.size,0,none⟩ 4=#[.int .i64 q,.int .i64 b,.slice ea k ec,.int .i64 0]:=λz=>(xF (n:=4) z.2 rfl).2
       have z3:∀z:StC o.heap.size #[.int .i64 q,.int .i64 b,.slice ea k ec,.int .i64 0],z.1.cell? ⟨o.heap.size,2,none⟩=some (.slice ea k ec):=by grind
       haveI:Nonempty (StC o.heap.size #[.int .i64 q,.int .i64 b,.slice ea k ec,.int .i64 0]):=⟨⟨_,C⟩⟩
       have N9:wr.drew.heap[w.heap.size+1]?=some (.cells zSta 159 (0,0)):=(N.bel.block _ (i_ X.out).1).trans X.out;have N_:Below w.heap.size w wr.drew:=fH.trans (N.bel.drew.mono fH.size);have Bq:w.heap.size+1≠o.heap.size:=by grind
       clear T C K;refine zh [0,1,2,3,4,5,6,7,8] [9,10,11] 3 (λw'=>∃z:StC o.heap.size #[.int .i64 q,.int .i64 b,.slice ea k ec,.int .i64 0],w'=z.1) ⟨⟨wr.drew,bF.out⟩,rfl⟩ ?_;simp only[o_];have Vn:=h_ N9;have Lj:=h_ N_;have HNT:=h_ Bq;clear N9 N_ Bq;by_cases hge:L<=(k:Int)
       case' pos=>have F:decide (L<=(k:Int))=true:=decide_eq_true hge
       case' neg=>have F:decide (L<=(k:Int))=false:=decide_eq_false hge
       all_goals
        have aC:=h_ (λ(W:World) (h:EnAt W w.heap.size (.slice ea k ec) ((xs.take k).map λx=>x.1.pay) ((xs.take k).map Prod.snd))=>xUk Bn.out hk1 Z6.out (by rw[<-FP.out];exact hk) N.kinds tL.out h);cases ay
       all_goals
        repeat (go_big_quiet_step (fail))
        refine wpQuiet_nil ?_;clear z1 R z3;refine xBp [9,10,11] ?_;have Vo:xN wr.drew (w.heap.size+1) 4=true:=by grind [xN]
        have hfT:=jV q b (.slice ea k ec) 0 rfl;have IT:(wr.drew.setRow (w.heap.size+1) #[.int .i64 q,.int .i64 b,.slice ea k ec,.int .i64 0]).heap[o.heap.size]?=some (.cells #[.int .i64 q,.int .i64 b,.slice ea k ec,.int .i64 0] 159 (0,0)):=by grind
        refine yo true ?_;simp only[o_];go_wp2;refine⟨λ_=>⟨⟨_,IT⟩,rfl⟩,yE ?_⟩;simp only[o_];go_wp2;refine T_ ?_;go_wp2;have Br:=lB.under (w':=(wr.setRow (w.heap.size+1) #[.int .i64 q,.int .i64 b,.slice ea k ec,.int .i64 0]).drew) λg hg _=>setRow_other _ _ _ _ (by omega)
        have E:=(xH Lj.out (show w.heap.size<=w.heap.size+1 by omega) #[.int .i64 q,.int .i64 b,.slice ea k ec,.int .i64 0]);have s:=xF (n:=4) (setRow_heap wr.drew (w.heap.size+1) _ #[.int .i64 q,.int .i64 b,.slice ea k ec,.int .i64 0] _ _ Vn.out) rfl
        first
         |exact bodyPost_ret (v:=.tuple #[.agg #[.int .i64 q,.int .i64 b,.slice ea k ec,.int .i64 0],.bool (false&&decide (L<=(k:Int))),.int .i64 0]) (uy rfl isAgg159 sizeOf159 _ _ ⟨w.heap.size+1,0,none⟩ _ _ _ rfl (by rw[F];rfl) rfl s.1 s.2) rfl (P.out _ _ E ⟨q,b,.slice ea k ec,_,rfl,⟨_,_,_,rfl⟩,aC.out _ (Br.base (by omega))⟩)
         |exact bodyPost_ret (v:=.tuple #[.agg #[.int .i64 q,.int .i64 b,.slice ea k ec,.int .i64 0],.bool (true&&decide (L<=(k:Int))),.int .i64 0]) (uy rfl isAgg159 sizeOf159 _ _ ⟨w.heap.size+1,0,none⟩ _ _ _ rfl (by rw[F];rfl) rfl s.1 s.2) rfl (P.out _ _ E ⟨q,b,.slice ea k ec,_,rfl,⟨_,_,_,rfl⟩,aC.out _ (Br.base (by omega))⟩)
    ·have N6:(x.1.kind != 1)=true:=by grind
     have Q:zk sha area LS=none:=by grind [xOz]
     have oX:=h_ Q;have E:=h_ (xH bR.out (show w.heap.size<=w.heap.size+1 by omega) zSta);have s:=h_ (xF (n:=4) (setRow_heap _ (w.heap.size+1) _ zSta _ _ q_.out) rfl);unfold zSta at E s;clear Q hk1 aB eo I f_ Li fW IP;go_wp2;refine bodyPost_ret (v:=.tuple #[.agg zSta,.bool false,.int .i64 0]) ?_ rfl (P.out _ _ E.out ⟨0,0,.slice none 0 0,false,rfl,⟨_,_,_,rfl⟩,by rw[oX.out]⟩);exact uy rfl isAgg159 sizeOf159 _ _ ⟨w.heap.size+1,0,none⟩ _ _ _ rfl rfl rfl s.1 s.2
  ·have FN:((q:Int)%2==(area:Int))=false:=by grind
   have Bm:((q:Int)%2 != (area:Int))=true:=by grind
   have gK:=jV 0 0 (.slice none 0 0) 0 rfl;have aY:xN H (w.heap.size+1) 4=true:=by unfold xN;rw[Y.out];rfl
   have Q:zk sha area LS=none:=by grind [zk]
   have oX:=h_ Q;have E:=h_ (xH dF.out (show w.heap.size<=w.heap.size+1 by omega) zSta);have s:=h_ (xF (n:=4) (setRow_heap _ (w.heap.size+1) _ zSta _ _ Y.out) rfl);unfold zSta at E s;clear Q hpar;go_wp2;refine bodyPost_ret (v:=.tuple #[.agg zSta,.bool false,.int .i64 0]) ?_ rfl (P.out _ _ E.out ⟨0,0,.slice none 0 0,false,rfl,⟨_,_,_,rfl⟩,by rw[oX.out]⟩);exact uy rfl isAgg159 sizeOf159 _ _ ⟨w.heap.size+1,0,none⟩ _ _ _ rfl rfl rfl s.1 s.2
 ·have aI:(r==0)=false:=by grind
  have aE:(r != 0)=true:=by grind
  have fo:=xDe;have gK:=jV 0 0 (.slice none 0 0) 0 rfl;unfold zc;have O:Below A.heap.size A (A.alloc (.cells uu 233)):=by grind
  have C:(A.alloc (.cells uu 233)).heap[w.heap.size+1]?=some (.cells zSta 159 (0,0)):=by grind
  have aY:xN (A.alloc (.cells uu 233)) (w.heap.size+1) 4=true:=by unfold xN;rw[C];rfl
  unfold uu at aY C;have Q:zk sha area LS=none:=by grind [zk]
  have oX:=h_ Q;have aQ:Below w.heap.size w (A.alloc (.cells uu 233)):=by grind
  have E:=h_ (xH aQ (show w.heap.size<=w.heap.size+1 by omega) zSta);have s:=h_ (xF (n:=4) (setRow_heap _ (w.heap.size+1) _ zSta _ _ C) rfl);unfold uu zSta at E s;clear bH hr O Q C aQ bW;go_wp2;refine bodyPost_ret (v:=.tuple #[.agg zSta,.bool false,.int .i64 0]) ?_ rfl (P.out _ _ E.out ⟨0,0,.slice none 0 0,false,rfl,⟨_,_,_,rfl⟩,by rw[oX.out]⟩);exact uy rfl isAgg159 sizeOf159 _ _ ⟨w.heap.size+1,0,none⟩ _ _ _ rfl rfl rfl s.1 s.2
end
def qm (W:World)(B:Nat)(c:Bool)(o:Option PJ)(g f:Int)(v:Value):Prop:=(∃x n k,v=.slice x n k)/\match o with
 |none=>c=false
 |some j=>c=true/\g=j.gen/\f=j.first/\∃vs,EnAt W B v j.entries vs
theorem qm.under {W W' B c o g f v}(h:qm W B c o g f v)(a:∀k,B<=k->k<W.heap.size->W'.heap[k]?=W.heap[k]?):qm W' B c o g f v:=by
 refine⟨h.1,?_⟩;have h2:=h.2;cases o with
 |none=>exact h2
 |some j=>exact⟨h2.1,h2.2.1,h2.2.2.1,h2.2.2.2.choose,h2.2.2.2.choose_spec.under a⟩
theorem qm.base {W B B' c o g f v}(h:qm W B c o g f v)(a:B'<=B):qm W B' c o g f v:=by
 refine⟨h.1,?_⟩;have h2:=h.2;cases o with
 |none=>exact h2
 |some j=>exact⟨h2.1,h2.2.1,h2.2.2.1,h2.2.2.2.choose,h2.2.2.2.choose_spec.base a⟩
def xZ (g f:Int)(v:Value):List Value:=[.int .i64 g,.int .i64 f,v,.int .i64 0]
structure CuSt (w:World)(p n:Nat)(d:PD)(cs:List Value)(W:World):Prop where
 bel:Below w.heap.size w W
 st:W.heap[w.heap.size]?=some (.cells (xG p n) 156 (0,0))
 res:W.heap[w.heap.size+1]?=some (.cells zSta 159 (0,0))
 areas:W.heap[w.heap.size+1+1]?=some (.cells cs.toArray 205 (0,0))
theorem CuSt.load {w p n d cs W b}(h:CuSt w p n d cs W)(a:Below W.heap.size W b):CuSt w p n d cs b:=
 ⟨h.bel.trans (a.mono h.bel.size),(a.block _ (i_ h.st).1).trans h.st,(a.block _ (i_ h.res).1).trans h.res,(a.block _ (i_ h.areas).1).trans h.areas⟩
theorem CuSt.set {w p n d cs W}(h:CuSt w p n d cs W)(cs'):CuSt w p n d cs' (W.setRow (w.heap.size+1+1) cs'.toArray):=
 ⟨xH h.bel (by omega) _,(setRow_other _ _ _ _ (by omega)).trans h.st,(setRow_other _ _ _ _ (by omega)).trans h.res,setRow_heap _ _ _ _ _ _ h.areas⟩
def xWf (d:PD)(w:World)(e:Ending)(w':World):Prop:=
 Below w.heap.size w w'/\∃(a g f:Int) (v:Value) (c:Bool),e=.returned (.tuple #[.int .i64 a,.agg #[.int .i64 g,.int .i64 f,v,.int .i64 0],.bool c,.int .i64 0])/\(∀j,curP sha d.n d=some j->a=j.area)/\qm w' w.heap.size c (curP sha d.n d) g f v
theorem xHs {H:By->By}{area l x}(h:zk H area l=some x):x.area=area:=(xUj H h).1
theorem xUi {d area W W' e}(h:xEh d area W e W'):Below W.heap.size W W'/\∃(g f:Int) (x:Option Addr) (m k:Nat) (c:Bool),e=.returned (.tuple #[.agg #[.int .i64 g,.int .i64 f,.slice x m k,.int .i64 0],.bool c,.int .i64 0])/\qm W' W.heap.size c (zk sha area (d.area d.n area)) g f (.slice x m k):=by
 obtain⟨i,g,f,v,c,b,⟨x,m,k,rfl⟩,a⟩:=h;exact⟨i,g,f,x,m,k,c,b,⟨_,_,_,rfl⟩,a⟩
theorem yHv {d W B c0 c1 f i g1 h v0 g}(e:qm W B c0 (zk sha 0 (d.area d.n 0)) f i v0)(h1:qm W B c1 (zk sha 1 (d.area d.n 1)) g1 h g):
  ((c1&&(!c0||decide (f<g1)))=true->(∀j,curP sha d.n d=some j->(1:Int)=j.area)/\qm W B true (curP sha d.n d) g1 h g) /\
  ((c1&&(!c0||decide (f<g1)))=false->(∀j,curP sha d.n d=some j->(0:Int)=j.area)/\qm W B c0 (curP sha d.n d) f i v0):=by
 unfold curP;cases e0:zk sha 0 (d.area d.n 0) with
 |none=>
  rw[e0]at e;have c:c0=false:=e.2;subst c;cases e1:zk sha 1 (d.area d.n 1) with
  |none=>
   grind
  |some b=>
   rw[e1]at h1;have k:c1=true:=h1.2.1;grind [xHs,Option.some.injEq]
 |some a=>
  rw[e0]at e;have c:c0=true:=e.2.1;have l:f=a.gen:=e.2.2.1;have ha:=xHs e0;subst c;cases e1:zk sha 1 (d.area d.n 1) with
  |none=>
   rw[e1]at h1;have k:c1=false:=h1.2;grind
  |some b=>
   rw[e1]at h1;have k:c1=true:=h1.2.1;have m:g1=b.gen:=h1.2.2.1;grind [xHs,Option.some.injEq]
section
attribute [local go_sem ↓] zS zI jT j9
attribute [local go_sem] xAp xAn xLm xKn zr zx yA yz xh xg xe xd xx xy xk xj
theorem yE0 {P fn s p t u ty n}(h:fn.results=#[.tmp s,.cell p ty,.tmp t,.tmp u])(f:∀w,Sem.run P (isAgg ty) w=.ok true w)(hs:∀w,Sem.run P (Go.sizeOf ty) w=.ok n w)
  (tmps) (w) (a) (cs) (v0 v b) (e:tmps.getD p undef=.pointer (some a)) (l:tmps.getD s undef=v0) (hv:tmps.getD t undef=v) (d:tmps.getD u undef=b) (j:xp w a n=true) (i:xo w a n=cs):
  (results fn tmps).run P w=.ok (.tuple #[v0,.agg cs,v,b]) w:=by
 have c:tmps[p]?.getD undef=.pointer (some a):=by simpa using e
 have k:tmps[s]?.getD undef=v0:=by simpa using l
 have g:tmps[t]?.getD undef=v:=by simpa using hv
 have m:tmps[u]?.getD undef=b:=by simpa using d
 have hl:(loadVar ty a).run P w=.ok (.agg cs) w:=by
  simp[loadVar,f,hs,yY w a n j,i]
 simp[results,h,c,k,g,m,asAddr,hl]
theorem yAr (W b g f g' f' g1 c x m k v' a)(h:W.heap[b]?=some (.cells (xZ g' f' v' ++ xZ g1 c a).toArray 205 (0,0))):
  yi prog 159 W (.pointer (some ⟨b,0,none⟩)) (.agg #[.int .i64 g,.int .i64 f,.slice x m k,.int .i64 0])=.ok .skip (W.setRow b #[.int .i64 g,.int .i64 f,.slice x m k,.int .i64 0,.int .i64 g1,.int .i64 c,a,.int .i64 0]):=by
 have:=ks sizeOf159 W b 0 _ _ h (xZ g f (.slice x m k)) rfl (by simp[xZ]) (λy hy=>by simp[xZ]at hy;rcases hy with rfl|rfl|rfl|rfl <;> rfl);exact this
theorem yAq (W b g f g' f' a c x m k v' v0)(h:W.heap[b]?=some (.cells (xZ a c v0++xZ g' f' v').toArray 205 (0,0))):
  yi prog 159 W (.pointer (some ⟨b,4,none⟩)) (.agg #[.int .i64 g,.int .i64 f,.slice x m k,.int .i64 0])=.ok .skip (W.setRow b #[.int .i64 a,.int .i64 c,v0,.int .i64 0,.int .i64 g,.int .i64 f,.slice x m k,.int .i64 0]):=by
 have:=ks sizeOf159 W b 4 _ _ h (xZ g f (.slice x m k)) rfl (by simp[xZ]) (λy hy=>by simp[xZ]at hy;rcases hy with rfl|rfl|rfl|rfl <;> rfl);exact this
def ArC (b:Nat)(cs:Array Value):Type:={ z:World // z.heap[b]?=some (.cells cs 205 (0,0)) }
theorem ArC.rd0 {b e d a3 a4 b1 b2 b3 f}(z:ArC b #[e,d,a3,a4,b1,b2,b3,f]):xp z.1 ⟨b,0,none⟩ 4=true/\xo z.1 ⟨b,0,none⟩ 4=#[e,d,a3,a4]:=by
 have:=yl (w:=z.1) (a:=⟨b,0,none⟩) (cs:=[e,d,a3,a4]) (λj v c=>by
  rw[l8,cell_of_row _ _ _ _ _ _ z.2]
  match j,c with
  |0,c=>exact c
  |1,c=>exact c
  |2,c=>exact c
  |3,c=>exact c)
 exact this
theorem ArC.rd4 {b f e a3 a4 b1 b2 b3 d}(z:ArC b #[f,e,a3,a4,b1,b2,b3,d]):xp z.1 ⟨b,4,none⟩ 4=true/\xo z.1 ⟨b,4,none⟩ 4=#[b1,b2,b3,d]:=by
 have:=yl (w:=z.1) (a:=⟨b,4,none⟩) (cs:=[b1,b2,b3,d]) (λj v c=>by
  rw[l8,cell_of_row _ _ _ _ _ _ z.2]
  match j,c with
  |0,c=>exact c
  |1,c=>exact c
  |2,c=>exact c
  |3,c=>exact c)
 exact this
theorem xRa {D w v d}(h:yj D w v d)(hd:d.down=false)(hK:qI w)(iB:8<=d.n):
  Calls prog 55 #[.agg (xG v.p d.n)] w (xWf d w):=by
 obtain⟨S,F⟩:∃S,S=((w.alloc (.cells (xG v.p d.n) 156)).alloc (.cells zSta 159)).alloc (.cells (xZ 0 0 (.slice none 0 0)++xZ 0 0 (.slice none 0 0)).toArray 205):=⟨_,rfl⟩;have K:CuSt w v.p d.n d (xZ 0 0 (.slice none 0 0)++xZ 0 0 (.slice none 0 0)) S:=by
  rw[F];refine⟨(((z_ _ _).alloc (w_ _) _).alloc (by simp) _).alloc (by simp;omega) _,?_,?_,?_⟩
  ·grind
  ·grind
  grind
 have a_:=h_ K;have P:Hid (∀(W:World) (area:Nat),area<2->Below w.heap.size w W->Calls prog 92 #[.agg (xG v.p d.n),.int .i64 area] W (xEh d area W)):=h_ λW area ha hb=>yBn (h.below hb) hd (hK.below hb (w_ _)) area ha iB
 obtain⟨n,V⟩:∃n,n=d.n:=⟨_,rfl⟩;rw[<-V]at F a_ P⊢;have HN:=h_ V;unfold xG at F P⊢;unfold xZ zSta at F;simp only[L2,E8]at F;clear K h hd hK iB V;go_enter func55,ntmps55;go_upto_region 2 with fail
 refine xm F ?_;clear F;go_wp2
 go_loopw [9,2,4] (λiv av fv wr=>
  (iv=.int .i64 0/\av=.int .i64 0/\fv=.bool false/\Hid (CuSt w v.p n d (xZ 0 0 (.slice none 0 0)++xZ 0 0 (.slice none 0 0)) wr)) \/
  (iv=.int .i64 1/\av=.int .i64 0/\∃c0 a b v0,fv=.bool c0/\Hid (CuSt w v.p n d (xZ a b v0++xZ 0 0 (.slice none 0 0)) wr/\qm wr (w.heap.size+3) c0 (zk sha 0 (d.area d.n 0)) a b v0)) \/
  (iv=.int .i64 2/\∃c0 a b v0 c1 g1 c T,((av=.int .i64 0/\fv=.bool c0/\Hid ((c1&&(!c0||decide ((a:Int)<g1)))=false))\/(av=.int .i64 1/\fv=.bool true/\Hid ((c1&&(!c0||decide ((a:Int)<g1)))=true))) /\
   Hid (CuSt w v.p n d (xZ a b v0++xZ g1 c T) wr/\qm wr (w.heap.size+3) c0 (zk sha 0 (d.area d.n 0)) a b v0/\qm wr (w.heap.size+3) c1 (zk sha 1 (d.area d.n 1)) g1 c T))) (λiv _ _ _=>2-(intOf iv).toNat)
 case atStart=>exact .inl ⟨rfl,rfl,rfl,a_⟩
 case round=>
  rcases hrel with⟨rfl,rfl,rfl,HS⟩|⟨rfl,rfl,c0,a,b,v0,rfl,HS⟩|⟨rfl,c0,a,b,v0,c1,g1,c,T,FS,HS⟩
  ·have y:=xF (n:=3) HS.st rfl;have U:=y.1;have H:=y.2;unfold xG at H;clear y;go_wp2_with fail;refine(P.out wr 0 (by omega) HS.bel).mono ?_;rintro e s L;obtain⟨G,a,b,x,m,k,c0,rfl,I⟩:=xUi L;have A:=HS.load G;have IU:=yAr s _ a b 0 0 0 0 x m k _ _ A.areas;have Z:w.heap.size+1+1<wr.heap.size:=(i_ HS.areas).1;have o:=h_ (A.set (xZ a b (.slice x m k)++xZ 0 0 (.slice none 0 0)));have q:=h_ ((I.base (B':=w.heap.size+3) (by omega)).under (W':=s.setRow (w.heap.size+1+1) (xZ a b (.slice x m k)++xZ 0 0 (.slice none 0 0)).toArray) λj l _=>setRow_other _ _ _ _ (by omega));unfold xZ at o q;simp only[L2,E8]at o q;obtain⟨f,u⟩:∃f,f=s.setRow (w.heap.size+1+1) #[.int .i64 a,.int .i64 b,.slice x m k,.int .i64 0,.int .i64 0,.int .i64 0,.slice none 0 0,.int .i64 0]:=⟨_,rfl⟩;clear A I L G U H Z;go_upto_region 7 with fail
   refine xm u ?_;rw[<-u]at o q;clear u IU;go_upto_region 9 with fail
   cases c0 with
   |false=>
    go_quiet (fail);have r:Hid (CuSt w v.p n d (xZ a b (.slice x m k)++xZ 0 0 (.slice none 0 0)) (f.drewN nq)/\qm (f.drewN nq) (w.heap.size+3) false (zk sha 0 (d.area d.n 0)) a b (.slice x m k)):=h_ ⟨CuSt.load o.out (y9 (z_ _ _) nq),q.under λj _ l=>(y9 (z_ _ f) nq).block j l⟩;go_wp2;go_roundw
    case rel=>exact .inr (.inl ⟨rfl,rfl,false,a,b,.slice x m k,rfl,r⟩)
    case measure=>simp[intOf]
   |true=>
    go_quiet (fail);have r:Hid (CuSt w v.p n d (xZ a b (.slice x m k)++xZ 0 0 (.slice none 0 0)) (f.drewN nq)/\qm (f.drewN nq) (w.heap.size+3) true (zk sha 0 (d.area d.n 0)) a b (.slice x m k)):=h_ ⟨CuSt.load o.out (y9 (z_ _ _) nq),q.under λj _ l=>(y9 (z_ _ f) nq).block j l⟩;go_wp2;go_roundw
    case rel=>exact .inr (.inl ⟨rfl,rfl,true,a,b,.slice x m k,rfl,r⟩)
    case measure=>simp[intOf]
  ·have y:=xF (n:=3) HS.1.st rfl;have U:=y.1;have H:=y.2;unfold xG at H;obtain⟨g,i,k0,Oa⟩:=HS.2.1;clear y;go_wp2_with fail;refine(P.out wr 1 (by omega) HS.1.bel).mono ?_;rintro e s L;obtain⟨G,g1,c,x,m,k,c1,rfl,I⟩:=xUi L;have A:=HS.1.load G;have IU:=yAq s _ g1 c 0 0 a b x m k _ _ A.areas;have Z:w.heap.size+1+1<wr.heap.size:=(i_ HS.1.areas).1;have o:=h_ (A.set (xZ a b v0++xZ g1 c (.slice x m k)));have q:=h_ ((I.base (B':=w.heap.size+3) (by omega)).under (W':=s.setRow (w.heap.size+1+1) (xZ a b v0++xZ g1 c (.slice x m k)).toArray) λj l _=>setRow_other _ _ _ _ (by omega));have B:=h_ ((HS.2.under (W':=s) λj _ l=>G.block j l).under (W':=s.setRow (w.heap.size+1+1) (xZ a b v0++xZ g1 c (.slice x m k)).toArray) λj l _=>setRow_other _ _ _ _ (by omega));subst Oa;unfold xZ at o q B;simp only[L2,E8]at o q B;obtain⟨f,u⟩:∃f,f=s.setRow (w.heap.size+1+1) #[.int .i64 a,.int .i64 b,.slice g i k0,.int .i64 0,.int .i64 g1,.int .i64 c,.slice x m k,.int .i64 0]:=⟨_,rfl⟩;clear A I L G U H Z;go_upto_region 7 with fail
   refine xm u ?_;rw[<-u]at o q B;clear u IU;have k0:=cell_of_row f (w.heap.size+1+1) 0 _ _ _ o.areas;have J:=cell_of_row f (w.heap.size+1+1) 4 _ _ _ o.areas;simp only[v_]at k0 J;go_upto_region 9 with fail
   cases c1 with
   |false=>
    go_quiet (fail);clear k0 J;have r:Hid (CuSt w v.p n d (xZ a b (.slice g i k0)++xZ g1 c (.slice x m k)) (f.drewN nq)/\qm (f.drewN nq) (w.heap.size+3) c0 (zk sha 0 (d.area d.n 0)) a b (.slice g i k0)/\qm (f.drewN nq) (w.heap.size+3) false (zk sha 1 (d.area d.n 1)) g1 c (.slice x m k)):=h_ ⟨CuSt.load o.out (y9 (z_ _ _) nq),B.under λj _ l=>(y9 (z_ _ f) nq).block j l,q.under λj _ l=>(y9 (z_ _ f) nq).block j l⟩;go_wp2;go_roundw
    case rel=>exact .inr (.inr ⟨rfl,c0,a,b,.slice g i k0,false,g1,c,.slice x m k,.inl ⟨rfl,rfl,h_ (by simp)⟩,r⟩)
    case measure=>simp[intOf]
   |true=>
    cases c0 with
    |false=>
     go_quiet (fail);clear k0 J;have r:Hid (CuSt w v.p n d (xZ a b (.slice g i k0)++xZ g1 c (.slice x m k)) (f.drewN nq)/\qm (f.drewN nq) (w.heap.size+3) false (zk sha 0 (d.area d.n 0)) a b (.slice g i k0)/\qm (f.drewN nq) (w.heap.size+3) true (zk sha 1 (d.area d.n 1)) g1 c (.slice x m k)):=h_ ⟨CuSt.load o.out (y9 (z_ _ _) nq),B.under λj _ l=>(y9 (z_ _ f) nq).block j l,q.under λj _ l=>(y9 (z_ _ f) nq).block j l⟩;go_wp2;go_roundw
     case rel=>exact .inr (.inr ⟨rfl,false,a,b,.slice g i k0,true,g1,c,.slice x m k,.inr ⟨rfl,rfl,h_ (by simp)⟩,r⟩)
     case measure=>simp[intOf]
    |true=>
     by_cases hge:a<g1
     ·have C:decide (a<g1)=true:=by grind
      have M8:=h_ hge;go_quiet (fail);clear k0 J C;have r:Hid (CuSt w v.p n d (xZ a b (.slice g i k0)++xZ g1 c (.slice x m k)) (f.drewN nq)/\qm (f.drewN nq) (w.heap.size+3) true (zk sha 0 (d.area d.n 0)) a b (.slice g i k0)/\qm (f.drewN nq) (w.heap.size+3) true (zk sha 1 (d.area d.n 1)) g1 c (.slice x m k)):=h_ ⟨CuSt.load o.out (y9 (z_ _ _) nq),B.under λj _ l=>(y9 (z_ _ f) nq).block j l,q.under λj _ l=>(y9 (z_ _ f) nq).block j l⟩;go_wp2;go_roundw
      case rel=>exact .inr (.inr ⟨rfl,true,a,b,.slice g i k0,true,g1,c,.slice x m k,.inr ⟨rfl,rfl,h_ (by simp[M8.out])⟩,r⟩)
      case measure=>simp[intOf]
     ·have C:decide (a<g1)=false:=by grind
      have M8:=h_ hge;go_quiet (fail);clear k0 J C;have r:Hid (CuSt w v.p n d (xZ a b (.slice g i k0)++xZ g1 c (.slice x m k)) (f.drewN nq)/\qm (f.drewN nq) (w.heap.size+3) true (zk sha 0 (d.area d.n 0)) a b (.slice g i k0)/\qm (f.drewN nq) (w.heap.size+3) true (zk sha 1 (d.area d.n 1)) g1 c (.slice x m k)):=h_ ⟨CuSt.load o.out (y9 (z_ _ _) nq),B.under λj _ l=>(y9 (z_ _ f) nq).block j l,q.under λj _ l=>(y9 (z_ _ f) nq).block j l⟩;go_wp2;go_roundw
      case rel=>exact .inr (.inr ⟨rfl,true,a,b,.slice g i k0,true,g1,c,.slice x m k,.inl ⟨rfl,rfl,h_ (by simp[M8.out])⟩,r⟩)
      case measure=>simp[intOf]
  ·obtain⟨g,i,k0,Oa⟩:=HS.2.1.1;obtain⟨x,m,k,nW⟩:=HS.2.2.1;subst Oa;subst nW;have t:=h_ HS.1.areas;have O:=h_ HS.1.res;have gQ:=h_ HS.1.bel;have aC:=h_ (yHv HS.2.1 HS.2.2);unfold xZ at t;simp only[L2,E8]at t;rcases FS with⟨rfl,rfl,E⟩|⟨rfl,rfl,E⟩
   ·go_upto_region 12 with fail
    have R:∀z:ArC (w.heap.size+1+1) #[.int .i64 a,.int .i64 b,.slice g i k0,.int .i64 0,.int .i64 g1,.int .i64 c,.slice x m k,.int .i64 0],xp z.1 ⟨w.heap.size+1+1,0,none⟩ 4=true:=by simp[ArC.rd0]
    have Q:∀z:ArC (w.heap.size+1+1) #[.int .i64 a,.int .i64 b,.slice g i k0,.int .i64 0,.int .i64 g1,.int .i64 c,.slice x m k,.int .i64 0],xo z.1 ⟨w.heap.size+1+1,0,none⟩ 4=#[.int .i64 a,.int .i64 b,.slice g i k0,.int .i64 0]:=by simp[ArC.rd0]
    haveI:Nonempty (ArC (w.heap.size+1+1) #[.int .i64 a,.int .i64 b,.slice g i k0,.int .i64 0,.int .i64 g1,.int .i64 c,.slice x m k,.int .i64 0]):=⟨⟨wr,t.out⟩⟩
    refine xz [0,1,2,3,4] [5,6,7,8] (λw'=>∃z:ArC (w.heap.size+1+1) #[.int .i64 a,.int .i64 b,.slice g i k0,.int .i64 0,.int .i64 g1,.int .i64 c,.slice x m k,.int .i64 0],w'=z.1) ⟨⟨wr.drew,t.out⟩,rfl⟩ ?_;simp only[o_]
    repeat (go_big_quiet_step (fail))
    refine wpQuiet_nil ?_;clear R Q;refine yo true ?_;simp only[o_];go_wp2;have aY:xN wr.drew (w.heap.size+1) 4=true:=by unfold xN;rw[show wr.drew.heap=wr.heap from rfl,O.out];rfl
    have X:=jV a b (.slice g i k0) 0 rfl;have M:(wr.drew.setRow (w.heap.size+1) #[.int .i64 a,.int .i64 b,.slice g i k0,.int .i64 0]).heap[w.heap.size+1+1]?=some (.cells #[.int .i64 a,.int .i64 b,.slice g i k0,.int .i64 0,.int .i64 g1,.int .i64 c,.slice x m k,.int .i64 0] 205 (0,0)):=by grind
    refine⟨λ_=>⟨⟨wr.drew,t.out⟩,rfl⟩,yo true ?_⟩;simp only[o_];go_wp2;refine⟨λ_=>⟨⟨_,M⟩,rfl⟩,yE ?_⟩;simp only[o_];go_wp2;refine T_ ?_;have Y:=h_ (xH gQ.drew (show w.heap.size<=w.heap.size+1 by omega) #[.int .i64 a,.int .i64 b,.slice g i k0,.int .i64 0]);have N:=h_ (xF (n:=4) (setRow_heap wr.drew (w.heap.size+1) _ #[.int .i64 a,.int .i64 b,.slice g i k0,.int .i64 0] _ _ O.out) rfl);clear aY M X;go_wp2;obtain⟨ha,hs⟩:=aC.2 E.out;exact bodyPost_ret (v:=.tuple #[.int .i64 0,.agg #[.int .i64 a,.int .i64 b,.slice g i k0,.int .i64 0],.bool c0,.int .i64 0]) (yE0 rfl isAgg159 sizeOf159 _ _ ⟨w.heap.size+1,0,none⟩ _ _ _ _ rfl rfl rfl rfl N.1 N.2) rfl ⟨Y.out,0,a,b,.slice g i k0,c0,rfl,ha,(hs.under (W':=(wr.setRow (w.heap.size+1) #[.int .i64 a,.int .i64 b,.slice g i k0,.int .i64 0]).drew) λj l _=>setRow_other _ _ _ _ (by omega)).base (by omega)⟩
   ·go_upto_region 12 with fail
    have R:∀z:ArC (w.heap.size+1+1) #[.int .i64 a,.int .i64 b,.slice g i k0,.int .i64 0,.int .i64 g1,.int .i64 c,.slice x m k,.int .i64 0],xp z.1 ⟨w.heap.size+1+1,4,none⟩ 4=true:=by simp[ArC.rd4]
    have Q:∀z:ArC (w.heap.size+1+1) #[.int .i64 a,.int .i64 b,.slice g i k0,.int .i64 0,.int .i64 g1,.int .i64 c,.slice x m k,.int .i64 0],xo z.1 ⟨w.heap.size+1+1,4,none⟩ 4=#[.int .i64 g1,.int .i64 c,.slice x m k,.int .i64 0]:=by simp[ArC.rd4]
    haveI:Nonempty (ArC (w.heap.size+1+1) #[.int .i64 a,.int .i64 b,.slice g i k0,.int .i64 0,.int .i64 g1,.int .i64 c,.slice x m k,.int .i64 0]):=⟨⟨wr,t.out⟩⟩
    refine xz [0,1,2,3,4] [5,6,7,8] (λw'=>∃z:ArC (w.heap.size+1+1) #[.int .i64 a,.int .i64 b,.slice g i k0,.int .i64 0,.int .i64 g1,.int .i64 c,.slice x m k,.int .i64 0],w'=z.1) ⟨⟨wr.drew,t.out⟩,rfl⟩ ?_;simp only[o_]
    repeat (go_big_quiet_step (fail))
    refine wpQuiet_nil ?_;clear R Q;refine yo true ?_;simp only[o_];go_wp2;have aY:xN wr.drew (w.heap.size+1) 4=true:=by unfold xN;rw[show wr.drew.heap=wr.heap from rfl,O.out];rfl
    have X:=jV g1 c (.slice x m k) 0 rfl;have M:(wr.drew.setRow (w.heap.size+1) #[.int .i64 g1,.int .i64 c,.slice x m k,.int .i64 0]).heap[w.heap.size+1+1]?=some (.cells #[.int .i64 a,.int .i64 b,.slice g i k0,.int .i64 0,.int .i64 g1,.int .i64 c,.slice x m k,.int .i64 0] 205 (0,0)):=by grind
    refine⟨λ_=>⟨⟨wr.drew,t.out⟩,rfl⟩,yo true ?_⟩;simp only[o_];go_wp2;refine⟨λ_=>⟨⟨_,M⟩,rfl⟩,yE ?_⟩;simp only[o_];go_wp2;refine T_ ?_;have Y:=h_ (xH gQ.drew (show w.heap.size<=w.heap.size+1 by omega) #[.int .i64 g1,.int .i64 c,.slice x m k,.int .i64 0]);have N:=h_ (xF (n:=4) (setRow_heap wr.drew (w.heap.size+1) _ #[.int .i64 g1,.int .i64 c,.slice x m k,.int .i64 0] _ _ O.out) rfl);clear aY M X;go_wp2;obtain⟨ha,hs⟩:=aC.1 E.out;exact bodyPost_ret (v:=.tuple #[.int .i64 1,.agg #[.int .i64 g1,.int .i64 c,.slice x m k,.int .i64 0],.bool true,.int .i64 0]) (yE0 rfl isAgg159 sizeOf159 _ _ ⟨w.heap.size+1,0,none⟩ _ _ _ _ rfl rfl rfl rfl N.1 N.2) rfl ⟨Y.out,1,g1,c,.slice x m k,true,rfl,ha,(hs.under (W':=(wr.setRow (w.heap.size+1) #[.int .i64 g1,.int .i64 c,.slice x m k,.int .i64 0]).drew) λj l _=>setRow_other _ _ _ _ (by omega)).base (by omega)⟩
end
theorem xIv:∀(l l':List By) (d:PD) (a:Nat),d.Up->(d.puts a (l++l')).1=((d.puts a l).1.puts (a+l.length) l').1
 |[],l',d,a,h=>rfl
 |c :: l,l',d,a,h=>by
  have h2:PD.Up { d with pend:=d.pend++[(a,c)] }:=h;have ih:=xIv l l' _ (a+1) h2;grind [PD.puts,PD.write_up,List.length_cons]
theorem qI.kept {w w' F}(h:qI w)(b:Kept F w w')(c:∀k∈F,4<k):qI w':=
 ⟨λt ht=>by
  have h1:=h.tab t ht;unfold World.cell? at h1⊢;rw[b.block _ (Sk.lt h) (λa=>W9 _ (c _ a))];exact h1⟩
theorem xUx {gen}:∀{l:List PRec} {k:Int},xPw gen k l->∀r∈l,r.Ok
 |r :: l,k,h,x,hx=>by
  rcases g8.1 hx with rfl|hx
  ·exact h.1
  ·exact xUx h.2.2.2 x hx
theorem xKd {rest ops o a}{Q:Exit->Act->World->Prop}{w}(b:o.guard=none)(s x)
  (ho:o.op=.call { callee:=.builtin .append,args:=#[s,x],argTypes:=#[239,239] }) (B) (v) (l) (hs:a.eval s=v) (d:RcAt w B v l)
  (r:PRec×Value) (f:OwnB w B r.2 r.1.pay/\r.2≠.slice none 0 0/\∀k,r.2.ownBlock=some k->v.ownBlock≠some k) (t:r.2.oneCell'=true) (ad) (hx:a.eval x=.slice (some ad) 1 1)
  (m:∀j u,(ye r.1.kind r.1.gen r.1.num r.2)[j]?=some u->w.cell? (ad.add j)=some u) (z:l.length<=1000000) (n:B<=w.heap.size)
  (h:∀v' w',RcAt w' B v' (l++[r])->w.grownBy w' v.ownBlock->(v'.ownBlock=v.ownBlock\/v'.ownBlock=some w.heap.size)->wpList prog ops Q rest (a.put o.dst v') w'):wpList prog ops Q (o :: rest) a w:=by
 obtain⟨e,i,p,y,q⟩:=info_parts Tryz.info_rec;refine wpList_append_own_at w b s x 239 ho B 238 e (.agg #[.int .i64 0,.int .i64 0,.int .i64 0,.slice none 0 0]) 4 48 underlying239 i p y q rfl (by decide) v l.length (zX l) hs d.own ad 1 1 (ye r.1.kind r.1.gen r.1.num r.2) hx rfl m (λu c=>?_) (by unfold maxLen;omega) (by omega) n λv' w' h1 h2 _ h4=>?_
 ·simp only[ye,g8,ak_,or_false]at c;rcases c with rfl|rfl|rfl|rfl <;> first|rfl|exact t
 ·refine h v' w' (d.app h1 h2 f λk g=>?_) h2 h4;rcases h4 with h|h
  ·exact .inl (h▸g)
  grind
theorem RcAt.one {w B g}(r)(d:w.heap[g]?=some (.cells (ye r.1.kind r.1.gen r.1.num r.2).toArray 238 (0,0)))(c:B<=g)
  (a:OwnB w B r.2 r.1.pay/\r.2≠.slice none 0 0/\∀k,r.2.ownBlock=some k->k≠g):RcAt w B (.slice (some ⟨g,0,none⟩) 1 1) [r]:=by
 refine⟨⟨by simp[zX,ye],.inr ⟨g,1,_,rfl,c,d,w_ _,by decide,rfl,by simp[zX,ye]⟩⟩,λx hx=>?_⟩;rw[S_.1 hx];exact⟨a.1,a.2.1,λk b e=>a.2.2 k b (by simpa[Value.ownBlock]using e.symm)⟩
def k8 (gen first carried:Nat)(hv:Value)(L:List By)(vs:List Value)(k:Nat):List (PRec×Value):=(vk gen first carried,hv) :: (qs gen 1 (L.take k)).zip (vs.take k)
theorem xX9 (gen first carried hv L vs):k8 gen first carried hv L vs 0=[(vk gen first carried,hv)]:=rfl
theorem xG2 {gen first carried hv L vs k}(hl:vs.length=L.length)(a:k<=L.length):(k8 gen first carried hv L vs k).length=k+1:=by grind [k8,jF]
theorem xXa {gen first carried hv L vs k}(hl:vs.length=L.length)(a:k<L.length):
  k8 gen first carried hv L vs (k+1)=k8 gen first carried hv L vs k++[(⟨2,gen,((1+k:Nat):Int),L[k]⟩,vs[k]'(by rw[hl];exact a))]:=by
 unfold k8;rw[d0 a,d0 (by rw[hl];exact a),xDo,x8,aL_ (T8 a),List.zip_append (by simp[jF,hl])];rfl
theorem yB3 {gen first carried hv L vs}(hl:vs.length=L.length):(k8 gen first carried hv L vs L.length).map Prod.fst=js gen first carried L:=by
 unfold k8 js;grind [List.take_length,List.map_fst_zip,jF]
noncomputable def vV (R:List PRec)(k:Nat):Nat:=((R.take k).flatMap (xJ sha)).length
theorem xWm (R k)(a:k<R.length):vV R (k+1)=vV R k+y6 R[k].pay.length:=by
 unfold vV;grind [List.take_succ_eq_append_getElem,List.length_append,List.flatMap_singleton,zq]
theorem yD7 (R k):vV R k<=(R.flatMap (xJ sha)).length:=by grind [vV,List.take_append_drop,List.length_append]
theorem yB6 {d:PD}(h:d.Up)(base R k)(a:k<R.length):(d.puts base ((R.take (k+1)).flatMap (xJ sha))).1=((d.puts base ((R.take k).flatMap (xJ sha))).1.puts (base+vV R k) (xJ sha R[k])).1:=by
 rw[d0 a,bT_,xIv _ _ _ _ h,bB_];rfl
end Go.Proofs.YtdhapkeimaljfaaGreatDoor
