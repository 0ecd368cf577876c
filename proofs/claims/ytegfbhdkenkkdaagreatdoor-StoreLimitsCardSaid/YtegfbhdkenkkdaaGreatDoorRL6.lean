/- Parts of the proofs about bulletinlaw29: Sto19, Yz, YA, YB, YC, YD, YE, YF, Trn1, YG, Cmp1, His9, Va, Srt1, Rnd2, Num4, YH, Spo8, Spo9, Knw1, Lim1, Lim2, Lim3. -/
import Derived.Test.YtegfbhdkenkkdaaGreatDoorRL1
import Derived.Test.YtegfbhdkenkkdaaGreatDoorRL2
import Derived.Test.YtegfbhdkenkkdaaGreatDoorRL3
import Derived.Test.YtegfbhdkenkkdaaGreatDoorRL4
import Derived.Test.YtegfbhdkenkkdaaGreatDoorRL5
import Derived.Lib.Bytealg
import Derived.Shelf.SlGeneric
import Derived.Shelf.SlSortCmp.NoneTotal
import Derived.Ground.SlsfProg
import Derived.Test.YtegfbhdkenkkdaaGreatDoorProg
import Derived.RangeFuncNested
import Derived.RangeFuncBound
import Derived.RangeFuncCalls
import Derived.RangeFuncLeaves
import Derived.OwnWalkIn
import Derived.TacticsInMore
import Derived.LoopNIn
import Derived.LoopIn
import Derived.Sort.CutIn
set_option maxRecDepth 100000
set_option linter.all false
set_option maxHeartbeats 8000000
namespace Go.Proofs.YtegfbhdkenkkdaaGreatDoor
open Go Go.RowKit Go.Proofs Tryz
def cZ_:=@CallsIn.inRound
def ej_:=@Obj.cells.injEq
def dH_:=@Int.toNat_of_nonneg
section
def yC9 (B0 ob gb:Nat)(A:Art)(g:ByteArray)(n:Int)(W:World):Prop:=∃pb pc,B0<=pb/\uy W ob A (.slice (some ⟨pb,0,none⟩) 1 pc)/\1<=pc/\W.cell? ⟨pb,0,none⟩=some (.string g)/\W.cell? ⟨pb,1,none⟩=some (.int .i64 n)/\W.cell? ⟨gb,0,none⟩=some (.string g)
theorem xJk {gs:List MG}(hn:(gs.map λG=>G.name).Nodup)(hs:∀G∈gs,G.ms≠[])(hl:lfOf gs=λ_=>[]):gs=[]:=by
 cases gs with
 |nil=>rfl
 |cons G l=>
  have h1:=congrFun hl G.name;unfold lfOf xA at h1;rw[xB2 hn (bf_)]at h1;exact absurd (bC_.1 h1) (hs G (bf_))
def xH2 (c:PC)(A:Art)(g:ByteArray)(hi:Nat):PC:={ c with hes:=uT A.id (.agg (x7 ⟨A.id,A.arr,A.date,0,false⟩)) c.hes,ses:=uT A.id (.agg (xG ⟨A.text,A.arr,c.next⟩)) c.ses,bytes:=c.bytes+A.text.size,next:=c.next+1,tc:=some (g,hi+1,true),lf:=xC6 g ⟨(hi:Int)+1,A.id,A.name,A.date,A.subj,[],A.text.size⟩ }
attribute [local go_sem ↓] xL xI qM qr uK ub qs ud zJ zK yy yr yB xCj vQ
attribute [local go_sem] zm zA xE3 xDu xAw xAu kR kJ u1 zX xWx zn zu yx yw xh xf xa x9 xu xv xk xj xq xx xt
theorem xRg {b c1 c2 c3 w x}(h:qB b c1 c2 c3 w x)(nb)(hn:w.heap[nb]?=some (.cells (xN x) 70 (0,0)))(dt:∀k,k∈x.h.foot\/k∈x.s.foot\/k∈x.t.foot\/k∈foot x.ib x.M x.gs->k<nb)(hG:Gl w)(B3:prog.globals.size<=b)
  (ob gb gc B0) (dL:ob<b) (C4:B0<=ob) (pD:gb<B0) (id) (tx nm sj g) (date arr) (A) (hA:A=⟨id,tx,nm,date,arr,.slice (some ⟨gb,0,none⟩) 1 gc,sj,.slice none 0 0,false⟩) (ho:uy w ob A (.slice none 0 0)) (wB:w.cell? ⟨gb,0,none⟩=some (.string g)) (rX:1<=gc) (hi:Nat)
  (hid:id≠uq) (hne:uw g=0) (DM:g.size<=maxLen) (hpe:pErr ⟨(hi:Int)+1,id,nm,date,sj,[],tx.size⟩=0) (pC:nm.size<=maxLen) (aI:sj.size<=maxLen) (ir:1<=tx.size) (gX:tx.size<=65536) (FE:0<=arr) (gy:arr<=105190559) (bg:0<=date) (bE:date<=105190559)
  (fI:yl id x.pc.hes=none) (gu:x.pc.hes.length<=1000) (co:yl id x.pc.ses=none) (ei:x.pc.bytes+tx.size<=x.pc.budget) (aG:x.pc.budget<=1073741824) (bj:x.pc.next<=1000) (lJ:x.pc.tc=some (g,hi,false)) (mP:hi<=1000000) (fK:x.pc.lf=λ_=>[]):
  Calls prog 318 #[.pointer (some ⟨ob,0,none⟩),.pointer (some ⟨nb,0,none⟩)] w (xGq B0 b nb (xH2 x.pc A g hi) (yC9 B0 ob gb A g ((hi:Int)+1)) w):=by
 have hF:A.id=id/\A.text=tx/\A.name=nm/\A.date=date/\A.arr=arr/\A.groups=.slice (some ⟨gb,0,none⟩) 1 gc/\A.subj=sj/\A.refs=.slice none 0 0/\A.perm=false:=by rw[hA];exact⟨rfl,rfl,rfl,rfl,rfl,rfl,rfl,rfl,rfl⟩
 have lN:∀k,k∈x.h.foot\/k∈x.s.foot\/k∈x.t.foot\/k∈foot x.ib x.M x.gs->b<=k:=λk hk=>by
  have h1:=h.at;rcases hk with hk|hk|hk|hk
  ·have:=h1.h.pB;have:=h1.h.MB;simp[Hst.foot]at hk;omega
  ·have:=h1.s.pB;have:=h1.s.MB;simp[Spo.foot]at hk;omega
  ·exact(h1.t.foot_lt k hk).1
  ·exact(h1.o.foot_lt k hk).1
 have cQ:x.gs=[]:=xJk h.o.names (λG hG=>(h.o.grps G hG).some') fK;have dY:=(i_ hn).1;have dG:=(i_ ho).1;obtain⟨gg,hg,lZ,Ez,wL⟩:∃gg,x.t.g=some gg/\gg.name=g/\gg.high=hi/\gg.pres=none:=by
  have h1:x.t.c=some (g,hi,false):=lJ;unfold Tbl.c at h1;cases hg:x.t.g with
  |none=>rw[hg]at h1;cases h1
  |some gg=>
   rw[hg]at h1;simp only[aU_,aR_,cw_]at h1;exact⟨gg,rfl,h1.1,h1.2.1,by simpa using h1.2.2⟩
 obtain⟨a0,nP⟩:∃a0,a0=w.heap.size:=⟨_,rfl⟩;obtain⟨w1,ai⟩:∃w1,w1=w.alloc (.cells (xw A) 37):=⟨_,rfl⟩;have aa:Below w.heap.size w w1:=by rw[ai];exact b_ _ _
 have az:w1.heap[a0]?=some (.cells (xw A) 37 (0,0)):=by rw[ai,nP];exact heap_alloc_new w _
 obtain⟨e0,Bc⟩:∃e0,e0=w1.heap.size:=⟨_,rfl⟩;obtain⟨w2,aw⟩:∃w2,w2=w1.alloc (.cells (x7 ⟨id,arr,date,0,false⟩) 58):=⟨_,rfl⟩;have ak:Below w1.heap.size w1 w2:=by rw[aw];exact b_ _ _
 have aA:w2.heap[e0]?=some (.cells (x7 ⟨id,arr,date,0,false⟩) 58 (0,0)):=by rw[aw,Bc];exact heap_alloc_new w1 _
 have aj:=aa.trans (ak.mono aa.size);have rZ:w2.heap[a0]?=some (.cells (xw A) 37 (0,0)):=(ak.block _ (i_ az).1).trans az;obtain⟨o0,r0⟩:=xQc ho;obtain⟨oi,ri⟩:=vW (l:=[]) (w:=w1) (b:=a0) (a:=A) (by rw[aG_];exact az);rw[hF.1]at ri;have FQ:=(cell_of_row w1 a0 34 _ _ _ az).trans (ar34 A);have t8:=(cell_of_row w1 a0 35 _ _ _ az).trans (ar35 A);have Pb:=(cell_of_row w1 a0 39 _ _ _ az).trans (ar39 A);rw[hF.2.2.2.1]at FQ;rw[hF.2.2.2.2.1]at t8;rw[hF.2.2.2.2.2.2.2.2]at Pb;have bJ:xy 40 (xw A)=true:=jR (by rw[hF.2.2.2.2.2.1];rfl) (by rw[hF.2.2.2.2.2.2.2.1];rfl);have rY:((xw uB).size==40)=true:=by rw[xY];rfl
 have Le:=vw ⟨id,arr,date,0,false⟩;have Ro:((x7 zy).size==36)=true:=by rw[xC];rfl
 have D9:=xD (n:=36) aA (xC _);have HX:=h_ (h.below aj);have ee:=h_ h;have HF:=h_ hF;have HAE:=h_ hA;have oV:=h_ dt;have rQ:=h_ lN;have bQ:=h_ ((aj.block nb dY).trans hn);have gZ:Hid (uy w2 ob A (.slice none 0 0)):=h_ ((aj.block ob dG).trans ho);have oK:=h_ rZ;have au:=h_ aj;have HG:=h_ hG;have FO:=h_ B3;have iE:=h_ (And.intro wB (And.intro pD (And.intro C4 (And.intro dL rX))));have dR:=h_ (And.intro hid (And.intro hne (And.intro DM (And.intro hpe (And.intro pC (And.intro aI (And.intro ir gX)))))));have BE:=h_ (And.intro FE (And.intro gy (And.intro bg bE)));have nN:=h_ (And.intro fI (And.intro gu (And.intro co (And.intro ei (And.intro aG (And.intro bj (And.intro lJ (And.intro mP fK))))))));have HT:=h_ (And.intro hg (And.intro lZ (And.intro Ez wL)));have mn:=h_ cQ;have Jc:Hid (nb<w.heap.size/\ob<w.heap.size):=h_ ⟨dY,dG⟩;have Ov:=h_ nP;have Rh:=h_ Bc;have e9:Hid (a0<w2.heap.size/\w.heap.size<=a0):=h_ ⟨(i_ rZ).1,by omega⟩;have B8:Below w2.heap.size w2 w2.drew:=(ab_ _ _).drew;have Pc:=h_ (xSh ((h.below aj).h.below B8) ⟨id,arr,date,0,false⟩ ⟨FE,gy,bg,bE,.inl rfl⟩ (by rw[ji];exact fI) (by have:x.pc.hes.length=x.h.es.length:=aQ_ _;omega))
 have Vb:∀z:x8 w2,xo z.1 ⟨e0,0,none⟩ 36=true:=λz=>x8.ok D9.1 z
 have Vc:∀z:x8 w2,xm z.1 ⟨e0,0,none⟩ 36=x7 ⟨id,arr,date,0,false⟩:=λz=>(x8.rd D9.1 z).trans D9.2
 have hc:=cell_of_row w2 nb 0 _ _ _ bQ.out;simp only[xN,v_]at hc;have z0:∀z:x8 w2,z.1.cell? ⟨nb,0,none⟩=some (.pointer (some ⟨x.h.p,0,none⟩)):=λz=>z.cell hc
 clear hc;clear h hn dt hG B3 dL C4 pD hA ho wB rX hid hne DM hpe pC aI ir gX FE gy bg bE fI gu co ei aG bj lJ mP fK hF lN cQ dY dG hg lZ Ez wL aa az ak aA aj rZ D9 B8;go_enter func318,ntmps318;go_upto_region 2 with fail
 refine xr ai ?_;rw[<-nP];clear ai o0 r0 nP;go_upto_region 3 with fail
 refine xr aw ?_;rw[<-Bc];clear aw oi ri FQ t8 Pb Bc;refine xp [0,1,2,3,4] [5,6] (λw'=>∃z:x8 w2,w'=z.1) (by kernel_rfl) (by kernel_rfl) (by kernel_rfl) ⟨⟨w2.drew,(ab_ _ _).drew⟩,rfl⟩ ?_;simp only[o_]
 repeat (go_big_quiet_step (fail))
 refine wpQuiet_nil ?_;clear z0 Vb Vc;refine xB [5,6] _ _ (by kernel_rfl) ?_;simp only[o_];go_wp2_with fail;refine Pc.mono ?_;rintro e' w3 ⟨rfl,dp,iF⟩;have dd:Kept [x.h.M] w2 w3:=(Kept.of_below (F:=[x.h.M]) (ab_ _ _).drew).trans dp (λq hq=>.inl hq);have oW:x.h.M∈x.h.foot:=by simp[Hst.foot]
 have gu:=HX.hl _ oW;have Pd:=HX.h.MB;have e1:=HX.b1;have e2:=HX.b2;have e3:=HX.b3;have oX:=oV.out _ (.inl oW);have gk:b<=w2.heap.size:=ad_ ee.lt au.size;have CI:x.h.M<w.heap.size:=by have:=Jc.1;omega
 have eS:=h_ (HX.s.keptB dd (λk hk=>by rw[ac_.1 hk];exact gu));have IX:=h_ (HX.t.keptB dd (λk hk=>by rw[ac_.1 hk];omega));have mL:=h_ (HX.o.kept dd (λk hk=>by rw[ac_.1 hk];omega));have pj:=h_ iF;have dV:=h_ ((dd.block nb (i_ bQ.out).1 (λhf=>by rw[<-ac_.1 hf]at oX;omega)).trans bQ.out);have wU:Hid (uy w3 ob A (.slice none 0 0)):=h_ ((dd.block ob (i_ gZ.out).1 (λhf=>by have:=rQ.out _ (.inl oW);rw[<-ac_.1 hf]at this;have:=iE.2.2.2.1;omega)).trans gZ.out);have sW:=(dd.block a0 e9.1 (λhf=>by have:=ac_.1 hf;have:=e9.2;omega)).trans oK.out;have wQ:=h_ sW;have cU:Below b w w3:=(au.mono ee.lt).trans (dd.below gk (λk hk=>by rw[ac_.1 hk];exact Pd));have ay:=h_ cU;have nE:Hid (w2.heap.size<=w3.heap.size):=h_ dd.size;have B9:Below w3.heap.size w3 w3.drew:=(ab_ _ _).drew;have DE:=h_ (xQt (eS.below B9) id tx arr dR.1 dR.2.2.2.2.2.2.1 dR.2.2.2.2.2.2.2 BE.1 BE.2.1 (by rw[ji];exact nN.2.2.1) nN.2.2.2.1 nN.2.2.2.2.1 nN.2.2.2.2.2.1);have lP:=vW (l:=[]) (w:=w3) (b:=a0) (a:=A) (by rw[aG_];exact sW)
 rw[HF.1]at lP;have CW:=(cell_of_row w3 a0 32 _ _ _ sW).trans (ar32 A);have t8:=(cell_of_row w3 a0 35 _ _ _ sW).trans (ar35 A);rw[HF.2.1]at CW;rw[HF.2.2.2.2.1]at t8;have z1:∀z:x8 w3,xo z.1 ⟨a0,0,none⟩ 32=true:=λz=>x8.ok lP.1 z
 have z2:∀z:x8 w3,xm z.1 ⟨a0,0,none⟩ 32=(xl id).toArray:=λz=>(x8.rd lP.1 z).trans lP.2
 have z3:∀z:x8 w3,z.1.cell? ⟨a0,32,none⟩=some (.string tx):=λz=>z.cell CW
 have z4:∀z:x8 w3,z.1.cell? ⟨a0,35,none⟩=some (.int .i64 arr):=λz=>z.cell t8
 have hc:=cell_of_row w3 nb 1 _ _ _ dV.out;simp only[xN,v_]at hc;have z0:∀z:x8 w3,z.1.cell? ⟨nb,1,none⟩=some (.pointer (some ⟨x.s.p,0,none⟩)):=λz=>z.cell hc
 clear hc;clear dp iF dd oW gu Pd e1 e2 e3 oX gk CI sW cU B9 lP CW t8 Pc;go_wp2;refine ag_ ?_;go_upto_region 6 with fail
 refine xp [0,1,2,3,4,5,6,7,8,9] [10,11] (λw'=>∃z:x8 w3,w'=z.1) (by kernel_rfl) (by kernel_rfl) (by kernel_rfl) ⟨⟨w3.drew,(ab_ _ _).drew⟩,rfl⟩ ?_;simp only[o_]
 repeat (go_big_quiet_step (fail))
 refine wpQuiet_nil ?_;clear z0 z1 z2 z3 z4;refine xB [10,11] _ _ (by kernel_rfl) ?_;simp only[o_];go_wp2_with fail;refine DE.mono ?_;rintro e' w4 ⟨rfl,dQ,fR⟩;have cD:Kept [x.s.M,x.s.p] w3 w4:=(Kept.of_below (F:=[x.s.M,x.s.p]) (ab_ _ _).drew).trans dQ (λq hq=>.inl hq);have mT:∀k∈[x.s.M,x.s.p],c1<=k/\k<c2/\k<nb/\b<=k:=λk hk=>by
  simp at hk;have hm:k∈x.s.foot:=by simp[Spo.foot];rcases hk with h|h <;> simp[h]
  have h1:=HX.s.MB;have h2:=HX.s.pB;exact⟨by rcases hk with h|h <;> omega,HX.sl k hm,oV.out k (.inr (.inl hm)),rQ.out k (.inr (.inl hm))⟩
 have e1:=HX.b1;have e2:=HX.b2;have e3:=HX.b3;have dY:=Jc.out;have cm:b<=w3.heap.size:=ad_ ee.lt ay.size;have fp:=h_ (pj.kept cD (λk hk hf=>by have h1:=HX.hl k hk;have:=(mT k hf).1;omega));have D1:=h_ (IX.keptB cD (λk hk=>(mT k hk).2.1));have Dz:=h_ (mL.kept cD (λk hk=>by have:=(mT k hk).2.1;omega));have di:=h_ fR;have g6:=h_ ((cD.block nb (i_ dV.out).1 (λhf=>by have:=(mT nb hf).2.2.1;omega)).trans dV.out);have wS:Hid (uy w4 ob A (.slice none 0 0)):=h_ ((cD.block ob (i_ wU.out).1 (λhf=>by have:=(mT ob hf).2.2.2;have:=iE.2.2.2.1;omega)).trans wU.out);have Jd:=(cD.block a0 (by have:=e9.1;have:=nE.out;omega) (λhf=>by have:=(mT a0 hf).2.2.1;have:=e9.2;omega)).trans wQ.out;have Vd:=h_ Jd;have ik:Below b w w4:=ay.trans (cD.below cm (λk hk=>(mT k hk).2.2.2));have bt:=h_ ik;have Ic:Hid (w3.heap.size<=w4.heap.size):=h_ cD.size;have hU:w4.cell? ⟨gb,0,none⟩=some (.string g):=(ik.cell (p:=⟨gb,0,none⟩) (show gb<b by have:=iE.2.1;have:=iE.2.2.1;have:=iE.2.2.2.1;omega)).trans iE.1;have so:=h_ hU
 have YI:Hid (∀z:x8 w4,Calls prog 321 #[.pointer (some ⟨x.t.p,0,none⟩),.slice (some ⟨gb,0,none⟩) 1 gc] z.1 λe w'=>
   ∃pb pc,e=.returned (.tuple #[.slice (some ⟨pb,0,none⟩) 1 pc,.int .i64 0])/\z.1.heap.size<=pb/\pb<w'.heap.size/\1<=pc/\pc<=maxLen/\w'.cell? ⟨pb,0,none⟩=some (.string g)/\w'.cell? ⟨pb,1,none⟩=some (.int .i64 (hi+1:Nat)) /\
   Kept [x.t.M] z.1 w'/\∃g' mc y,g'.name=g/\g'.high=hi+1/\g'.pres=some y/\z.1.heap.size<=y.1/\y.1≠pb/\yU c2 w' ⟨x.t.p,x.t.M,mc,some g'⟩):=h_ (λz=>by
  obtain⟨z,bz⟩:=z;have:=xTq (D1.below bz) gg HT.1 HT.2.2.2 (by rw[HT.2.2.1];exact nN.2.2.2.2.2.2.2.1) ⟨gb,0,none⟩ gc ((bz.cell (p:=⟨gb,0,none⟩) (block_lt_of_cell hU)).trans (by rw[HT.2.1];exact hU)) iE.2.2.2.2;rw[HT.2.1,HT.2.2.1]at this;exact this)
 have Pe:=(cell_of_row w4 a0 36 _ _ _ Jd).trans (ar36 A);rw[HF.2.2.2.2.2.1]at Pe;have z3:∀z:x8 w4,z.1.cell? ⟨a0,36,none⟩=some (.slice (some ⟨gb,0,none⟩) 1 gc):=λz=>z.cell Pe
 have hc:=cell_of_row w4 nb 2 _ _ _ g6.out;simp only[xN,v_]at hc;have z0:∀z:x8 w4,z.1.cell? ⟨nb,2,none⟩=some (.pointer (some ⟨x.t.p,0,none⟩)):=λz=>z.cell hc
 clear hc;clear dQ fR cD mT e1 e2 e3 dY cm Jd ik hU DE;go_wp2;refine ag_ ?_;go_upto_region 11 with fail
 clear Pe;refine ui (by kernel_rfl) ?_;refine jZ [0,1,2,3,4,5] [6,7] 4 (λw'=>∃z:x8 w4,w'=z.1) (by kernel_rfl) (by kernel_rfl) rfl rfl ⟨⟨_,(ab_ _ _).drew⟩,rfl⟩ ?_;simp only[o_]
 repeat (go_big_quiet_step (fail))
 refine wpQuiet_nil ?_;rintro _ ⟨z,rfl⟩;clear z0 z3;refine uD [6,7] _ _ (by kernel_rfl) ?_;simp only[o_];go_wp2_with fail;refine(YI.out z).mono ?_;rintro e' w5 ⟨pb,pc,rfl,lG,hpl,aH,_,i6,iz,e_,g5,O5,y5,Pf,Pg,Ph,nR,_,FP⟩;obtain⟨z,bz⟩:=z;have bC:Kept [x.t.M] w4 w5:=(Kept.of_below (F:=[x.t.M]) bz).trans e_ (λq hq=>.inl hq);have D8:x.t.M∈x.t.foot:=by simp[Tbl.foot]
 have t6:=HX.tl _ D8;have htB:=HX.t.MB;have e1:=HX.b1;have e2:=HX.b2;have e3:=HX.b3;have dY:=Jc.out;have oX:=oV.out _ (.inr (.inr (.inl D8)));have Ve:=rQ.out _ (.inr (.inr (.inl D8)));have D_:=iE.2.2.2.1;have IM:=h_ (fp.kept bC (λk hk hf=>by have h1:=HX.hl k hk;rw[ac_.1 hf]at h1;omega))
 have oC:=h_ (di.kept bC (λk hk hf=>by
  have h1:k∈x.s.foot:=hk;have:=HX.sl k h1;rw[ac_.1 hf]at this;omega))
 have E9:=h_ (Dz.kept bC (λk hk=>by rw[ac_.1 hk];exact t6));have O6:=h_ FP;have nK:=h_ ((bC.block nb (i_ g6.out).1 (λhf=>by rw[<-ac_.1 hf]at oX;omega)).trans g6.out);have tN:Hid (uy w5 ob A (.slice none 0 0)):=h_ ((bC.block ob (i_ wS.out).1 (λhf=>by rw[<-ac_.1 hf]at Ve;omega)).trans wS.out);have Vf:=(bC.block a0 (i_ Vd.out).1 (λhf=>by have:=ac_.1 hf;have:=e9.2;omega)).trans Vd.out;have pT:Below b w w5:=bt.trans (bC.below (ad_ ee.lt bt.size) (λk hk=>by rw[ac_.1 hk];exact Ve));have aU:=h_ pT;have Us:Hid (w4.heap.size<=w5.heap.size):=h_ bC.size;have KH:=h_ (And.intro Pf (And.intro Pg (And.intro Ph (show w4.heap.size<=y5.1 from ad_ bz.size nR))));have Vg:Hid (w4.heap.size<=pb/\pb<w5.heap.size):=h_ ⟨ad_ bz.size lG,hpl⟩;obtain⟨n,eW⟩:∃n:Int,n=(hi:Int)+1:=⟨_,rfl⟩;rw[show ((hi+1:Nat):Int)=n by rw[eW];omega]at iz;rw[<-eW];have tB:=h_ eW
 have rpl:=xW (w:=w5) (a:=⟨pb,0,none⟩) (cs:=[.string g,.int .i64 n]) (λj u hj=>by
  rw[an_,aq_]
  match j,hj with
  |0,hj=>rw[i6];exact hj
  |1,hj=>rw[iz];exact hj)
 obtain⟨op,rp⟩:=rpl;simp only[av_,bm_]at op rp;have rL:=h_ (And.intro i6 iz);have SS:xy 2 #[Value.string g,.int .i64 n]=true:=by simp[xy,Value.oneCell']
 have hzp:(#[Value.string ⟨#[]⟩,Value.int .i64 0].size==2)=true:=rfl;have Vh:(1:Int)<=pc:=by omega
 obtain⟨p0,Je⟩:∃p0,p0=w5.heap.size:=⟨_,rfl⟩;obtain⟨w6,b8⟩:∃w6,w6=w5.alloc (.cells #[.string g,.int .i64 n] 62):=⟨_,rfl⟩;have oY:Below w5.heap.size w5 w6:=by rw[b8];exact b_ _ _
 have gJ:w6.heap[p0]?=some (.cells #[.string g,.int .i64 n] 62 (0,0)):=by rw[b8,Je];exact heap_alloc_new w5 _
 have wP:=(oY.block _ (i_ Vf).1).trans Vf;have q1:=cell_of_row w6 p0 1 _ _ _ gJ;simp only[v_]at q1;obtain⟨oi,ri⟩:=vW (l:=[]) (w:=w6) (b:=a0) (a:=A) (by rw[aG_];exact wP);rw[HF.1]at ri;have CW:=(cell_of_row w6 a0 32 _ _ _ wP).trans (ar32 A);have Jf:=(cell_of_row w6 a0 33 _ _ _ wP).trans (ar33 A);have FQ:=(cell_of_row w6 a0 34 _ _ _ wP).trans (ar34 A);have FR:=(cell_of_row w6 a0 37 _ _ _ wP).trans (ar37 A);have FS:=(cell_of_row w6 a0 38 _ _ _ wP).trans (ar38 A);rw[HF.2.1]at CW;rw[HF.2.2.1]at Jf;rw[HF.2.2.2.1]at FQ;rw[HF.2.2.2.2.2.2.1]at FR;rw[HF.2.2.2.2.2.2.2.1]at FS;obtain⟨P,hP⟩:∃P:xDs,P=⟨n,id,nm,date,sj,[],tx.size⟩:=⟨_,rfl⟩;obtain⟨G,hG⟩:∃G:j0,G=ML.g ⟨P,.slice none 0 0⟩:=⟨_,rfl⟩;have aG:∀w,zB prog 204 w #[(0,.int .i64 n),(1,.agg (xl id).toArray),(2,.string nm),(3,.int .i64 date),(4,.string sj),(5,.slice none 0 0),(6,.int .i64 tx.size)]=.ok (.value (.agg (xd G))) w:=λw=>by
  rw[hG,hP];exact yC1 w (ML.g ⟨⟨n,id,nm,date,sj,[],tx.size⟩,.slice none 0 0⟩) rfl
 have wF:xy 38 (xd G)=true:=qy (by rw[hG];rfl);have hzl:((xd xJ).size==38)=true:=by rw[xP];rfl
 obtain⟨l0,nQ⟩:∃l0,l0=w6.heap.size:=⟨_,rfl⟩;obtain⟨w7,da⟩:∃w7,w7=w6.alloc (.cells (xd G) 204):=⟨_,rfl⟩;have oZ:Below w6.heap.size w6 w7:=by rw[da];exact b_ _ _
 have lF:w7.heap[l0]?=some (.cells (xd G) 204 (0,0)):=by rw[da,nQ];exact heap_alloc_new w6 _
 have B_:Below w5.heap.size w5 w7:=oY.trans (oZ.mono oY.size);have Pi:=(oZ.block _ (i_ gJ).1).trans gJ;have Vi:=h_ B_;have KD:=h_ ((B_.block _ (i_ nK.out).1).trans nK.out);have Jg:Below w7.heap.size w7 w7.drew:=(ab_ _ _).drew;have Vj:Below b w w7:=pT.trans (B_.mono (ad_ ee.lt pT.size));have Pj:Gl w7.drew:=(HG.below Vj FO.out).later Jg;have hpe:pErr P=0:=by rw[hP,tB.out];exact dR.2.2.2.1
 have Ea:P.ids=[]:=by rw[hP]
 have Jh:=h_ (yDo c3 x.ib x.M x.mc x.gs g P (.slice none 0 0) w7.drew Pj ((E9.below B_).below Jg) dR.2.2.1 ⟨by rw[Ea];exact(show zj 0 w7.drew (.slice none 0 0) []from aP_ _ _ _ _).at,by rw[Ea];simp,by show P.name.size<=_;rw[hP];exact dR.2.2.2.2.1,by show P.subject.size<=_;rw[hP];exact dR.2.2.2.2.2.1⟩ (by rw[Ea];exact aP_ _ _ _ _) (by rw[mn.out];simp[xR]));rw[<-hG]at Jh
 have Vk:Hid (jb (xA x.gs g) g P=0):=h_ (by
  rw[mn.out];unfold jb;rw[if_neg (by simp[dR.2.1]),if_neg (by simp[hpe])];rfl)
 have HPD:=h_ hP;have Ji:=cell_of_row w7 p0 0 _ _ _ Pi;simp only[v_]at Ji;have gz:=xD (n:=38) lF (xP G);have z1:∀z:x8 w7,z.1.cell? ⟨p0,0,none⟩=some (.string g):=λz=>z.cell Ji
 have z2:∀z:x8 w7,xo z.1 ⟨l0,0,none⟩ 38=true:=λz=>x8.ok gz.1 z
 have z3:∀z:x8 w7,xm z.1 ⟨l0,0,none⟩ 38=xd G:=λz=>(x8.rd gz.1 z).trans gz.2
 have hc:=cell_of_row w7 nb 3 _ _ _ KD.out;simp only[xN,v_]at hc;have z0:∀z:x8 w7,z.1.cell? ⟨nb,3,none⟩=some (.pointer (some ⟨x.ib,0,none⟩)):=λz=>z.cell hc
 clear hc;have fA:=h_ Vj;clear e_ bC D8 t6 htB e1 e2 e3 dY oX Ve D_ FP Vf pT Pf Pg Ph nR lG hpl bz i6 iz eW oY gJ wP hG oZ lF B_ Pi Jg Vj Pj hpe Ea Ji gz hP YI;go_wp2;refine ag_ ?_;rw[uo];refine kf [8,9] [10,11] 0 (λw'=>w'=w5) (by kernel_rfl) (by kernel_rfl) (by kernel_rfl) rfl rfl rfl ?_;simp only[o_]
 repeat (go_big_quiet_step (fail))
 refine wpQuiet_nil ?_;refine xBp true rfl (by kernel_rfl) ?_;go_wp2;refine⟨λ_=>rfl,uD [11] _ _ (by kernel_rfl) ?_⟩;simp only[o_];go_wp2;refine ag_ ?_;rw[uo];refine vB (by kernel_rfl) ?_;go_wp2;refine yH ?_;go_upto_region 17 with fail
 refine xr b8 ?_;rw[<-Je];clear b8 op rp Je;go_upto_region 18 with fail
 refine xr da ?_;rw[<-nQ];clear da q1 oi ri CW Jf FQ FR FS aG nQ;refine xp [0,1,2,3,4,5,6] [7,8] (λw'=>∃z:x8 w7,w'=z.1) (by kernel_rfl) (by kernel_rfl) (by kernel_rfl) ⟨⟨w7.drew,(ab_ _ _).drew⟩,rfl⟩ ?_;simp only[o_]
 repeat (go_big_quiet_step (fail))
 refine wpQuiet_nil ?_;clear z0 z1 z2 z3;refine xB [7,8] _ _ (by kernel_rfl) ?_;simp only[o_];go_wp2_with fail;refine Jh.mono ?_;rintro e' w8 ⟨YJ,Ca⟩;rw[Vk.out]at YJ Ca;subst YJ;obtain⟨YK,mc8,Iv⟩:∃gs' mc',xNz c3 x.ib x.M x.gs g P w7.drew w8 gs' mc':=by
  rcases Ca with⟨h,_⟩|⟨_,h⟩
  ·exact absurd rfl h
  ·exact h
 have Eb:Kept (foot x.ib x.M x.gs) w7 w8:=(Kept.of_below (F:=foot x.ib x.M x.gs) (ab_ _ _).drew).trans Iv.kept (λq hq=>.inl hq);have t_:Kept (foot x.ib x.M x.gs) w5 w8:=(Kept.of_below (F:=foot x.ib x.M x.gs) Vi.out).trans Eb (λq hq=>.inl hq);have mS:∀k∈foot x.ib x.M x.gs,c3<=k/\k<nb/\b<=k:=λk hk=>⟨(HX.o.foot_lt k hk).1,oV.out k (.inr (.inr (.inr hk))),rQ.out k (.inr (.inr (.inr hk)))⟩
 have e1:=HX.b1;have e2:=HX.b2;have e3:=HX.b3;have dY:=Jc.out;have D_:=iE.2.2.2.1;have Hx:Below b w w8:=fA.trans (Eb.below (ad_ ee.lt fA.size) (λk hk=>(mS k hk).2.2))
 have YL:=IM.kept t_ (λk hk hf=>by
  have hk1:k∈x.h.foot:=hk;have:=HX.hl k hk1;have:=(mS k hf).1;omega)
 have FT:=oC.kept t_ (λk hk hf=>by
  have hk1:k∈x.s.foot:=hk;have:=HX.sl k hk1;have:=(mS k hf).1;omega)
 have YM:=O6.kept t_ (λk hk hf=>by
  have h1:=mS k hf;have h2:k=x.t.p\/k=x.t.M\/k=y5.1:=by simpa[Tbl.foot,KH.2.2.1]using hk
  have h3:=HX.tl x.t.p (by simp[Tbl.foot]);have h4:=HX.tl x.t.M (by simp[Tbl.foot]);have h5:=KH.2.2.2;have h6:=Ic.out;have h7:=nE.out;have h8:=e9.out;omega)
 have i7:=(Eb.block nb (i_ KD.out).1 (λhf=>by have:=(mS nb hf).2.1;omega)).trans KD.out;have nS:uy w8 ob A (.slice none 0 0):=(t_.block ob (i_ tN.out).1 (λhf=>by have:=(mS ob hf).2.2;omega)).trans tN.out;have Pk:lfOf YK=xC6 g P:=by
  obtain⟨v8,_,NO⟩:=Iv.lines;funext t;unfold lfOf xC6;rw[NO t,mn.out];split
  ·rfl
  ·rfl
 have hpl:=Vg.out;have DR:=Ic.out;have Kv:=nE.out;have Rb:=e9.out;have Pl:pb∉foot x.ib x.M x.gs:=λhf=>by have:=(mS pb hf).2.1;omega
 have Jj:=(t_.block pb hpl.2 Pl);have Ec:w8.cell? ⟨pb,0,none⟩=some (.string g):=(aN_ (a:=⟨pb,0,none⟩) Jj).trans rL.1;have oS:w8.cell? ⟨pb,1,none⟩=some (.int .i64 n):=(aN_ (a:=⟨pb,1,none⟩) Jj).trans rL.2;have Jk:w8.cell? ⟨gb,0,none⟩=some (.string g):=(Hx.cell (p:=⟨gb,0,none⟩) (show gb<b by have:=iE.2.1;have:=iE.2.2.1;omega)).trans iE.1;have Pm:=cell_of_row w8 ob 40 _ _ _ nS;have f40:=frozen_of_row w8 ob 40 _ _ nS;have nA:(yT A++[Value.slice none 0 0]).toArray[40]?=some (.slice none 0 0):=by
  rw[ah_,aF_ (by rw[yS];omega),yS];rfl
 rw[nA]at Pm;obtain⟨w9,fV⟩:∃w9,w9=w8.setCell ⟨ob,40,none⟩ (.slice (some ⟨pb,0,none⟩) 1 pc):=⟨_,rfl⟩;have er:Kept [ob] w8 w9:=by rw[fV];exact zh w8 ⟨ob,40,none⟩ _
 have YN:uy w9 ob A (.slice (some ⟨pb,0,none⟩) 1 pc):=by
  unfold uy;rw[fV,jL nS];congr 2;rw[bD_,bL_ _ _ (by rw[yS];omega),yS];rfl
 have Cb:∀k∈[ob],k<b:=λk hk=>by rw[ac_.1 hk];exact D_
 have bN:xGq B0 b nb (xH2 x.pc A g hi) (yC9 B0 ob gb A g n) w (.returned (.int .i64 0)) w9:=by
  refine⟨rfl,(Hx.mono (by have:=iE.2.2.1;omega)).trans (er.below (by have:=iE.2.2.1;have:=Hx.size;omega) (λk hk=>by rw[ac_.1 hk];exact iE.2.2.1)),⟨⟨_,_,⟨x.t.p,x.t.M,O5,some g5⟩,x.ib,x.M,YK,mc8⟩,⟨YL.keptB er Cb,(FT.keptB er (λk hk=>by have:=Cb k hk;omega)).base e1,(YM.keptB er (λk hk=>by have:=Cb k hk;omega)).base (by omega),(Iv.idx.kept er (λk hk=>by have:=Cb k hk;omega)).base (by omega)⟩,?_,(er.block nb (i_ i7).1 (λhf=>by have:=(rQ.out x.h.M (.inl (by simp[Hst.foot])));have h9:=oV.out x.h.M (.inl (by simp[Hst.foot]));rw[ac_.1 hf]at h9;omega)).trans i7⟩,pb,pc,by have:=iE.2.2.1;have:=ee.lt;omega,YN,by omega,?_,?_,?_⟩
  ·unfold Prt.pc xH2 Tbl.c;simp only[aU_,xI3,Pk,KH.1,KH.2.1,KH.2.2.1,HPD.out,tB.out,HF.1,HF.2.1,HF.2.2.1,HF.2.2.2.1,HF.2.2.2.2.1,HF.2.2.2.2.2.2.1];rfl
  ·exact(aN_ (a:=⟨pb,0,none⟩) (er.block pb (block_lt_of_cell Ec) (λhf=>by have:=ac_.1 hf;omega))).trans Ec
  ·exact(aN_ (a:=⟨pb,1,none⟩) (er.block pb (block_lt_of_cell Ec) (λhf=>by have:=ac_.1 hf;omega))).trans oS
  ·exact(aN_ (a:=⟨gb,0,none⟩) (er.block gb (block_lt_of_cell Jk) (λhf=>by have:=ac_.1 hf;have:=iE.2.1;have:=iE.2.2.1;omega))).trans Jk
 have aS:=h_ bN;clear Ca Iv Eb t_ mS e1 e2 e3 dY D_ Hx YL FT YM i7 nS Pk hpl DR Kv Rb Pl Jj Ec oS Jk nA er YN Cb bN Jh;go_wp2;refine ag_ ?_;go_wp2;go_ret;rw[<-fV];rw[tB.out]at aS;exact aS.out
end
section
attribute [local go_sem ↓] xL xI uK ub xFh xHn
attribute [local go_sem] zm zA xAw xAu yC0 yE0 zn zu yx yw xh xf xa x9 xu xv xk xj xq xx xt
def xYz (D sb p n q u:Nat)(c:PC)(F:List Nat)(g:ByteArray)(k:Int)(w:World)(e:Ending)(w':World):Prop:=∃pb pc,e=.returned (.tuple #[.slice (some ⟨pb,0,none⟩) 1 pc,.int .i64 0])/\Below D w w'/\Kept F w w'/\(∃F',StOk D w' sb p n q u c F'/\pb∉F'/\∀k∈F',k∈F\/w.heap.size<=k)/\w.heap.size<=pb/\pb<w'.heap.size/\1<=pc/\w'.cell? ⟨pb,0,none⟩=some (.string g)/\w'.cell? ⟨pb,1,none⟩=some (.int .i64 k)
theorem xMd {D sb p n q u c F w}(h:StOk D w sb p n q u c F)(hG:Gl w)(cK:prog.globals.size<=D)(hD:D<=w.heap.size)(id t nm sj g)(date arr gb gc hi:Nat)(A)
  (hA:A=⟨id,str t,str nm,date,arr,.slice (some ⟨gb,0,none⟩) 1 gc,str sj,.slice none 0 0,false⟩) (wB:w.cell? ⟨gb,0,none⟩=some (.string (str g))) (rX:1<=gc)
  (hid:id≠uq) (hne:uw (str g)=0) (hpe:pErr ⟨(hi:Int)+1,id,str nm,date,str sj,[],(str t).size⟩=0) (ir:1<=t.length) (gX:t.length<=10000) (dY:nm.length<=10000) (cu:sj.length<=10000) (eH:g.length<=10000) (gy:arr<=105190559) (bE:date<=105190559)
  (fI:yl id c.hes=none) (gu:c.hes.length<=1000) (co:yl id c.ses=none) (ei:c.bytes+t.length<=c.budget) (aG:c.budget<=1073741824) (bj:c.next<=1000) (lJ:c.tc=some (str g,hi,false)) (mP:hi<=1000000) (fK:c.lf=λ_=>[])
  (aC:u+xO (67+t.length+nm.length+sj.length+g.length)<=n/2):
  Calls prog 10 #[.pointer (some ⟨sb,0,none⟩),.agg (xw A)] w (xYz D sb p n q (u+xO (67+t.length+nm.length+sj.length+g.length)) (xH2 c A (str g) hi) F (str g) ((hi:Int)+1) w):=by
 obtain⟨w1,ai⟩:∃w1,w1=w.alloc (.cells (xw A) 37):=⟨_,rfl⟩;have aa:Below w.heap.size w w1:=by rw[ai];exact b_ _ _
 have az:w1.heap[w.heap.size]?=some (.cells (xw A) 37 (0,0)):=by rw[ai];exact heap_alloc_new w _
 obtain⟨ob,dL⟩:∃ob,ob=w1.heap.size:=⟨_,rfl⟩;obtain⟨w2,aw⟩:∃w2,w2=w1.alloc (.cells (yT A++[Value.slice none 0 0]).toArray 91):=⟨_,rfl⟩;have ak:Below w1.heap.size w1 w2:=by rw[aw];exact b_ _ _
 have dX:uy w2 ob A (.slice none 0 0):=by unfold uy;rw[aw,dL];exact heap_alloc_new w1 _
 have aj:=aa.trans (ak.mono aa.size);have dG:=(i_ dX).1;have Cc:w.heap.size<=ob:=by rw[dL];exact aa.size
 have Jl:gb<w.heap.size:=block_lt_of_cell wB;have cG:=hG.later aj;have hyl:(xDz id arr date t nm sj g).length+1=67+t.length+nm.length+sj.length+g.length:=by rw[xA7];omega
 obtain⟨o1,r1⟩:=xD (n:=40) az (xY A)
 have HP:=h_ (xH4 h aj cG cK hD ob (xH2 c A (str g) hi) (xDz id arr date t nm sj g) (yC9 w.heap.size ob gb A (str g) ((hi:Int)+1)) (by rw[xA7];omega) (by rw[xA7];omega) (by rw[hyl];exact aC)
  (λW b c1 c2 c3 x nb dD hle bL dt aH eF=>by
   have Vl:Below w.heap.size w W:=aj.trans (dD.mono aj.size)
   have:=xRg bL nb eF dt (cG.later dD) (ad_ cG.size hle) ob gb gc w.heap.size (ap_ dG hle) Cc Jl id (str t) (str nm) (str sj) (str g) date arr A hA ((dD.block _ dG).trans dX) ((Vl.cell (p:=⟨gb,0,none⟩) Jl).trans wB) rX hi hid hne (by rw[yD];unfold maxLen;omega) hpe (by rw[yD];unfold maxLen;omega) (by rw[yD];unfold maxLen;omega) (by rw[yD];omega) (by rw[yD];omega) (by omega) (by omega) (by omega) (by omega)
    (by rw[aH];exact fI) (by rw[aH];exact gu) (by rw[aH];exact co) (by rw[aH,yD];exact ei) (by rw[aH];exact aG) (by rw[aH];exact bj) (by rw[aH];exact lJ) mP (by rw[aH];exact fK)
   rw[aH]at this;exact this)
  (λW W' cN dD=>by
   obtain⟨pb,pc,_,CX,_,_,_,YO⟩:=cN;have Cd:uy W' ob ⟨id,str t,str nm,date,arr,.slice (some ⟨gb,0,none⟩) 1 gc,str sj,.slice none 0 0,false⟩ (.slice (some ⟨pb,0,none⟩) 1 pc):=by rw[<-hA];exact(dD.block _ (i_ CX).1).trans CX
   exact xOq ob id arr date t nm sj g gb gc _ (by omega) (by omega) gX dY cu eH Cd ((dD.cell (p:=⟨gb,0,none⟩) (block_lt_of_cell YO)).trans YO) rX))
 rw[hyl]at HP;have sV:=h_ Cc;have pF:Hid (∀k∈F,k<w.heap.size):=h_ (λk hk=>(h.flt k hk).2);have au:=h_ (aj.mono hD);clear h hG cK hD hA wB rX hid hne hpe ir gX dY cu eH gy bE fI gu co ei aG bj lJ mP fK aC aa az ak dX aj dG Cc Jl cG hyl;go_enter func10,ntmps10;go_upto_region 1 with fail
 refine xr ai ?_;clear ai;go_upto_region 2 with fail
 refine xr aw ?_;rw[<-dL];clear aw dL o1 r1;go_wp2_with fail;refine HP.mono ?_;rintro e w3 ⟨rfl,al,oP,W,⟨pb,pc,lG,CX,aH,i6,iz,_⟩,Ce,⟨F',gQ,nU⟩,I6,dF⟩;have Vm:pb<W.heap.size:=block_lt_of_cell i6
 have ax:∃F',StOk D w3 sb p n q (u+xO (67+t.length+nm.length+sj.length+g.length)) (xH2 c A (str g) hi) F'/\pb∉F'/\∀k∈F',k∈F\/w.heap.size<=k:=⟨F',gQ,λhm=>by
  rcases nU pb hm with h|h
  ·have:=pF.out pb h;omega
  ·omega,λk hk=>(nU k hk).imp_right (λh=>ad_ Ce h)⟩
 have Cf:=(i_ CX).1;have hpl:pb<W.heap.size:=block_lt_of_cell i6;have ef:=dF pb lG hpl;have D6:=(aN_ (a:=⟨pb,0,none⟩) ef).trans i6;have rf:=(aN_ (a:=⟨pb,1,none⟩) ef).trans iz;have Cg:uy w3 ob A (.slice (some ⟨pb,0,none⟩) 1 pc):=(dF ob sV.out Cf).trans CX;have Pm:=cell_of_row w3 ob 40 _ _ _ Cg;have nA:(yT A++[Value.slice (some ⟨pb,0,none⟩) 1 pc]).toArray[40]?=some (.slice (some ⟨pb,0,none⟩) 1 pc):=by
  rw[ah_,aF_ (by rw[yS];omega),yS];rfl
 rw[nA]at Pm;have HF:=h_ (And.intro (au.trans al) (And.intro oP (And.intro ax (And.intro lG (And.intro (show pb<w3.heap.size from ap_ hpl I6) (And.intro aH (And.intro D6 rf)))))));clear al oP ax gQ nU Ce Vm lG CX aH i6 iz I6 dF Cf hpl ef D6 rf Cg nA HP;go_wp2;go_ret2;exact⟨pb,pc,rfl,HF.out⟩
def rmC (c:PC)(id:Id32)(g:ByteArray)(hi:Nat)(a:SArt)(e:HEnt):PC:={ c with ses:=[],bytes:=c.bytes-a.text.size,tc:=some (g,hi,false),lf:=λ_=>[],hes:=uT id (.agg (x7 { e with st:=1 })) c.hes }
theorem xO7 {D sb p n q u c F w}(h:StOk D w sb p n q u c F)(hG:Gl w)(cK:prog.globals.size<=D)(hD:D<=w.heap.size)(g)(hi:Nat)(ql)(gY:ql.number=(hi:Int))(a e)
  (co:c.ses=[(ql.id,.agg (xG a))]) (ei:a.text.size<=c.bytes) (aG:c.bytes<=1073741824) (lJ:c.tc=some (g,hi,true)) (mP:hi<=1000000) (fK:c.lf=xC6 g ql) (gT:yl ql.id c.hes=some (.agg (x7 e))) (ax:e.st=0) (aC:u+xO 34<=n/2):
  Calls prog 14 #[.pointer (some ⟨sb,0,none⟩),.agg (xl ql.id).toArray] w (xQi D sb p n q (u+xO 34) (rmC c ql.id g hi a e) F w):=by
 obtain⟨w1,ai⟩:∃w1,w1=w.alloc (.cells (xl ql.id).toArray 33):=⟨_,rfl⟩;have aa:Below w.heap.size w w1:=by rw[ai];exact b_ _ _
 have az:w1.heap[w.heap.size]?=some (.cells (xl ql.id).toArray 33 (0,0)):=by rw[ai];exact heap_alloc_new w _
 obtain⟨ob,dL⟩:∃ob,ob=w1.heap.size:=⟨_,rfl⟩;obtain⟨w2,aw⟩:∃w2,w2=w1.alloc (.cells (xl ql.id).toArray 96):=⟨_,rfl⟩;have ak:Below w1.heap.size w1 w2:=by rw[aw];exact b_ _ _
 have dX:w2.heap[ob]?=some (.cells (xl ql.id).toArray 96 (0,0)):=by rw[aw,dL];exact heap_alloc_new w1 _
 have aj:=aa.trans (ak.mono aa.size);have dG:=(i_ dX).1;have cG:=hG.later aj;have hyl:([3]++ql.id.1:By).length+1=34:=by simp[ql.id.2]
 obtain⟨o1,r1⟩:=yj az
 have HP:=h_ (xC2 h aj cG cK hD ob (rmC c ql.id g hi a e) ([3]++ql.id.1) (λW=>W.heap[ob]?=some (.cells (xl ql.id).toArray 96 (0,0))) (by simp) (by omega) (by rw[hyl];exact aC)
  (λW b c1 c2 c3 x nb dD hle bL dt aH eF=>by
   have B2:=(dD.block _ dG).trans dX;refine(xRc bL nb eF dt (cG.later dD) (ad_ cG.size hle) ql ob (ap_ dG hle) B2 g hi gY a e (by rw[aH];exact co) (by rw[aH];exact ei) (by rw[aH];exact aG) (by rw[aH];exact lJ) mP (by rw[aH];exact fK) (by rw[aH];exact gT) ax).mono ?_;rintro e' w'⟨h1,h2,h3⟩;refine⟨h1,h2.mono (ad_ aj.size hle),?_,(h2.block _ (ap_ dG hle)).trans B2⟩;rw[aH]at h3;exact h3)
  (λW W' cN dD=>xAv ob ql.id ((dD.block _ (i_ cN).1).trans cN)))
 rw[hyl]at HP;have au:=h_ (aj.mono hD);clear h hG cK hD gY co ei aG lJ mP fK gT ax aC aa az ak dX aj dG cG hyl;go_enter func14,ntmps14;go_upto_region 1 with fail
 refine xr ai ?_;clear ai;go_wp2_with fail;rw[<-aw,<-dL];clear dL o1 r1;refine HP.mono ?_;rintro e' w3 ⟨rfl,al,oP,W,_,Ce,⟨F',gQ,nU⟩,_⟩;have ax:∃F',StOk D w3 sb p n q (u+xO 34) (rmC c ql.id g hi a e) F'/\∀k∈F',k∈F\/w.heap.size<=k:=⟨F',gQ,λk hk=>(nU k hk).imp_right (λh=>ad_ Ce h)⟩;have HF:=h_ (And.intro (au.trans al) (And.intro oP ax));clear al oP ax gQ nU Ce aw;go_wp2;go_ret;exact⟨rfl,HF.1,HF.2.1,HF.2.2⟩
theorem xA5 {D sb p n q u c F w}(h:StOk D w sb p n q u c F):Calls prog 18 #[.pointer (some ⟨sb,0,none⟩)] w λe w'=>Below w.heap.size w w'/\∃v,e=.returned (.pointer (some ⟨v.p,0,none⟩))/\yO w.heap.size w' v/\kvs v.es=c.hes:=by
 obtain⟨b,v,d,j,ev,sy,x,B,T,ax,hp,hn,aN,hu,eK,aH,_⟩:=h;have c1:=cell_of_row w sb 1 _ _ _ ax.blk;simp only[v_]at c1;have HC:=h_ (xK2 ax.prt.at.h);have nN:=h_ (show kvs x.h.es=c.hes by rw[<-aH];rfl);clear ax hp hn aN hu eK aH;go_enter func18,ntmps18;go_wp2_with fail;refine HC.mono ?_;rintro e w1 ⟨hb,v',rfl,aB,he,_⟩;have HF:=h_ (And.intro hb (And.intro aB (show kvs v'.es=c.hes by rw[he];exact nN.out)));clear hb aB he c1;go_wp2;go_ret;exact⟨HF.1,v',rfl,HF.2.1,HF.2.2⟩
theorem xIj {D sb p n q u c F w}(h:StOk D w sb p n q u c F):Calls prog 9 #[.pointer (some ⟨sb,0,none⟩)] w λe w'=>e=.returned (.int .i64 (n/2-u:Nat))/\Below w.heap.size w w':=by
 obtain⟨b,v,d,j,ev,sy,x,B,T,ax,hp,hn,aN,hu,eK,aH,_⟩:=h;have c0:=cell_of_row w sb 0 _ _ _ ax.blk;simp only[v_]at c0;obtain⟨e1,Uz,tL,_⟩:=ax.jat.ex;have HC:=h_ (xD0 tL ax.jat.dev.n2 ax.jat.inv.fit);rw[hn,hu]at HC;clear ax hp hn aN hu eK aH tL;go_enter func9,ntmps9;go_wp2_with fail;refine HC.mono ?_;rintro e w1 ⟨rfl,hb⟩;have HB:=h_ hb;clear hb c0;go_wp2;go_ret;exact⟨rfl,HB.out⟩
end
section
attribute [local go_sem ↓] qm uJ uN kZ jT
attribute [local go_sem] xCc xBv xP4 xOa zn zu yx yw xh xf xa x9 xu xv xk xj xq xx xt
theorem xEg {D b w v d j es sy}(h:JAt D w b v d j es sy 0)(y a cap)(hs:SlB w a y)(ha:a.block<w.heap.size)(hc:y.length<=cap)(h1:1<=y.length)(h2:y.length<=90000)
  (s6:d.n/2<(j.secs sha).length+xO (y.length+1)):
  Calls prog 26 #[.pointer (some ⟨b,0,none⟩),.slice (some a) y.length cap] w (λe w'=>e=.returned (.int .i64 9)/\Below w.heap.size w w'):=by
 have HP:=h_ (xJ6 y a cap hs ha hc h1 h2);have H:=h_ h;have HY:=h_ h2;obtain⟨nd,bZ⟩:∃nd,nd=xO (y.length+1):=⟨_,rfl⟩;obtain⟨fr,nG⟩:∃fr,fr=d.n/2-(j.secs sha).length:=⟨_,rfl⟩;have aA:d.n<=4096:=h.dev.n2;have bJ:=h.inv.fit;have Nv:(nd:Int)<=4096:=by
  have:xO (y.length+1)<=4096:=by unfold xO;omega
  omega
 have hdg:decide ((fr:Int)<(nd:Int))=true:=decide_eq_true (by omega);have hlt:(fr:Int)<(nd:Int):=by omega
 have gw:(fr:Int)<=4096:=by omega
 have wt:=h_ bZ;have IT:=h_ nG;have bQ:=h_ aA;have sK:=h_ bJ;clear h hs ha h1 h2 s6 bZ nG aA bJ;go_enter func26,ntmps26;go_wp2_with fail;refine HP.mono ?_;rintro e w1 ⟨g,c,pg,pc,rfl,aa,dO,aE,im,aH,o8,lG,hpl,pD⟩;have sA:=H.below aa;have ar:=h_ aa;have pz:=h_ (xGb (y.length+1) w1 (by have:=HY.out;omega));rw[<-wt.out]at pz;obtain⟨ev1,Uz,BP,_⟩:=sA.ex;have Oq:=h_ (xD0 BP bQ.out sK.out);rw[<-IT.out]at Oq;obtain⟨yn,rD⟩:∃yn,yn=y.length+1:=⟨_,rfl⟩;rw[<-rD]at aE pz;have Aa:(1:Int)<=c:=by omega
 clear sA BP aa im aH o8 lG hpl pD rD dO;go_wp2;refine yH ?_;go_wp2_with fail;refine pz.mono ?_;rintro e w' ⟨rfl,rfl⟩;go_wp2_with fail;refine Oq.mono ?_;rintro e w2 ⟨rfl,aj⟩;have HF:Hid (Below w.heap.size w w2):=h_ (ar.trans (aj.mono ar.size));clear aj aE;go_wp2;go_ret;exact⟨rfl,HF.out⟩
abbrev xX0 (fa fe:FuncId)(ty:TypeId):Prop:=∀{D sb p n q u:Nat} {c:PC} {F:List Nat} {w0 w:World} (_:StOk D w0 sb p n q u c F) (_:Below w0.heap.size w0 w) (_:Gl w) (_:prog.globals.size<=D) (_:D<=w0.heap.size) (ob:Nat) (c':PC) (y:By) (Ap:World->Prop) (_:1<=y.length) (_:y.length<=50000) (_:n/2<u+xO (y.length+1))
  (_:∀(W:World) (b c1 c2 c3:Nat) (x:Prt) (nb:Nat),Below w.heap.size w W->w.heap.size<=b->qB b c1 c2 c3 W x->(∀k,k∈x.h.foot\/k∈x.s.foot\/k∈x.t.foot\/k∈foot x.ib x.M x.gs->k<nb)->x.pc=c->W.heap[nb]?=some (.cells (xN x) 70 (0,0))->Calls prog fa #[.pointer (some ⟨ob,0,none⟩),.pointer (some ⟨nb,0,none⟩)] W (xGq w0.heap.size b nb c' Ap W))
  (_:∀W W':World,Ap W->Below W.heap.size W W'->Calls prog fe #[.pointer (some ⟨ob,0,none⟩)] W' λe w'=>Below W'.heap.size W' w'/\∃v,e=.returned v/\OwnB w' W'.heap.size v y),
  Calls prog 34 #[.pointer (some ⟨sb,0,none⟩),.iface ty (.pointer (some ⟨ob,0,none⟩))] w (λe w'=>e=.returned (.int .i64 9)/\Below w0.heap.size w0 w')
theorem xBh:xX0 324 325 94/\xX0 318 319 89:=by
 refine⟨?_,?_⟩
 all_goals
  intro D sb p n q u c F w0 w h bf hG cK hD ob c' y Ap nR iL aC cN bS;obtain⟨b,v,d,j,ev,sy,x,B,T,fw,hp,hn,aN,hu,eK,aH,FL,rfl⟩:=h;have HQ:=h_ FL;have ax:=fw.below bf;have Bs:=h_ (jK ax);have wT:=ax.prt.at;have bF:=h_ (xGw wT);obtain⟨I0,KJ⟩:=xUn ax.blk;have ee:=h_ fw;have aO:=h_ ax;have db:=h_ bf;have HG:=h_ hG;have HD:=h_ (And.intro cK hD);have HY:=h_ (And.intro nR (And.intro iL aC));have oR:=h_ cN;have tv:=h_ bS;have HX:=h_ (And.intro hp (And.intro hn (And.intro aN (And.intro hu (And.intro eK aH)))));have pq:Hid (sb<w0.heap.size):=h_ (i_ fw.blk).1;have iY:Hid (∀k∈yQ b v ev,D<=k/\k<w0.heap.size):=h_ fw.jlt;have aJ:xN x=#[.pointer (some ⟨x.h.p,0,none⟩),.pointer (some ⟨x.s.p,0,none⟩),.pointer (some ⟨x.t.p,0,none⟩),.pointer (some ⟨x.ib,0,none⟩)]:=rfl;rw[aJ]at bF;have DR:(zL.size==4)=true:=rfl;clear fw bf hG cK hD nR iL aC cN bS hp hn aN hu eK aH FL ax wT aJ;go_enter func34,ntmps34;go_wp2_with fail;refine Bs.mono ?_;rintro e w' ⟨rfl,rfl⟩;go_wp2_with fail
  refine bF.mono ?_;rintro e w1 ⟨aa,x1,c1,c2,c3,rfl,bL,oS⟩;have aJ:xN x1=#[.pointer (some ⟨x1.h.p,0,none⟩),.pointer (some ⟨x1.s.p,0,none⟩),.pointer (some ⟨x1.t.p,0,none⟩),.pointer (some ⟨x1.ib,0,none⟩)]:=rfl;have bJ:xy 4 #[Value.pointer (some ⟨x1.h.p,0,none⟩),.pointer (some ⟨x1.s.p,0,none⟩),.pointer (some ⟨x1.t.p,0,none⟩),.pointer (some ⟨x1.ib,0,none⟩)]=true:=jj _ _ _ _ rfl rfl rfl rfl;rw[aJ];obtain⟨w2,aw⟩:∃w2,w2=w1.alloc (.cells #[.pointer (some ⟨x1.h.p,0,none⟩),.pointer (some ⟨x1.s.p,0,none⟩),.pointer (some ⟨x1.t.p,0,none⟩),.pointer (some ⟨x1.ib,0,none⟩)] 70):=⟨_,rfl⟩;have ak:Below w1.heap.size w1 w2:=by rw[aw];exact b_ _ _
  have aA:w2.heap[w1.heap.size]?=some (.cells (xN x1) 70 (0,0)):=by rw[aw];exact heap_alloc_new w1 _
  have cS:=aa.trans (ak.mono aa.size);have iT:=h_ cS;have Da:Hid (w.heap.size<=w1.heap.size):=h_ aa.size;have bQ:Hid (w1.heap.size<w2.heap.size):=h_ (i_ aA).1;have HA:=h_ (oR.out w2 w.heap.size c1 c2 c3 x1 w1.heap.size cS (aa_ _) (bL.below ak) bL.feet (oS.trans HX.2.2.2.2.2) aA);clear aa bL oS aJ ak aA cS bF I0 KJ;go_upto_region 5 with fail
  refine xr aw ?_;clear aw;go_wp2_with fail;refine HA.mono ?_;rintro e w3 ⟨rfl,al,⟨x3,ld,BW,bK⟩,rP⟩;have BX:w0.heap.size<=w.heap.size:=db.size;have lM:Below w0.heap.size w0 w3:=db.trans ((iT.mono BX).trans al);have gO:StAt D w3 sb b v d j ev sy x B T:=ee.below lM;have CF:=cell_of_row w3 sb 0 _ _ _ gO.blk;simp only[v_]at CF;have z0:∀z:x8 w3,z.1.cell? ⟨sb,0,none⟩=some (.pointer (some ⟨b,0,none⟩)):=λz=>z.cell CF
  have bD:Below w3.heap.size w3 w3.drew:=(ab_ _ _).drew;have eB:=h_ (tv.out w3 w3.drew rP bD);have ay:=h_ lM;have pf:=h_ (And.intro ld (And.intro BW (And.intro bK rP)));have ej:=h_ gO;have OS:Hid (w2.heap.size<=w3.heap.size):=h_ al.size;have nI:=h_ al;clear al ld BW bK rP BX lM gO CF bD HA;go_upto_region 8 with fail
  refine xp [0,1,2,3,4] [5,6,7] (λw'=>∃z:x8 w3,w'=z.1) (by kernel_rfl) (by kernel_rfl) (by kernel_rfl) ⟨⟨w3.drew,(ab_ _ _).drew⟩,rfl⟩ ?_;simp only[o_]
  repeat (go_big_quiet_step (fail))
  refine wpQuiet_nil ?_;clear z0;refine yb true (by kernel_rfl) (by kernel_rfl) ?_;simp only[o_];go_wp2_with fail;refine eB.mono ?_;rintro e w4 ⟨aQ,yv,rfl,ae⟩;obtain⟨yg,yc,Ip,FM,CV,FN⟩:∃g cap,yv=.slice (some ⟨g,0,none⟩) y.length cap/\y.length<=cap/\g<w4.heap.size/\SlB w4 ⟨g,0,none⟩ y:=by
   rcases ae.at with⟨_,h⟩|⟨g,cap,h1,h2,h3,h4,h5⟩
   ·have:=HY.1;rw[h]at this;exact absurd this (by simp)
   ·exact⟨g,cap,h1,h3,(ae.lt (k:=g) (by rw[h1];rfl)).2,h5⟩
  subst Ip;have cm:Below w3.heap.size w3 w4:=⟨aQ.os,aQ.tape,aQ.output,aQ.size,aQ.block⟩;have mR:Below w0.heap.size w0 w4:=ay.trans (cm.mono ay.size);have cO:=ej.below cm;have oQ:=cO.jat;have BY:D<=w.heap.size:=ad_ HD.2 db.size;have tY:Below D w w4:=((iT.mono BY).trans (nI.mono HD.2)).trans (cm.mono (ad_ HD.2 ay.size));have hyl:=HY.1;have OT:=h_ tY;have HW:=h_ (xEg oQ y ⟨yg,0,none⟩ yc FN CV FM hyl (by have:=HY.2.1;omega) (by rw[HX.2.2.2.1,HX.2.1];exact HY.2.2));have BG:=h_ cm;have D7:=h_ mR;have em:=h_ cO;have I1:Hid (w3.heap.size<=w4.heap.size):=h_ cm.size;go_wp2;refine⟨λ_=>⟨⟨w4,cm⟩,rfl⟩,xB [6,7] _ _ (by kernel_rfl) ?_⟩;simp only[o_];clear aQ ae FM CV FN cm mR cO oQ BY tY hyl eB;go_wp2_with fail;refine HW.mono ?_;rintro e w5 ⟨rfl,aF⟩;have HF:Hid (Below w0.heap.size w0 w5):=h_ (D7.trans (aF.mono D7.size));clear aF HW;go_wp2
  first|done|refine ag_ ?_
  go_wp2;go_ret;exact⟨rfl,HF.out⟩
theorem xE2:xX0 324 325 94:=xBh.1
theorem xI0:xX0 318 319 89:=xBh.2
end
section
def xEw (c:PC)(A:Art):PC:={ c with hes:=uT A.id (.agg (x7 ⟨A.id,A.arr,A.date,0,false⟩)) c.hes,ses:=uT A.id (.agg (xG ⟨A.text,A.arr,c.next⟩)) c.ses,bytes:=c.bytes+A.text.size,next:=c.next+1 }
attribute [local go_sem ↓] xL xI qM qr uK ub qs ud zJ zK yy yr yB xCj vQ
attribute [local go_sem] zm zA xE3 xDu xAw xAu kR kJ u1 zX xWx zn zu yx yw xh xf xa x9 xu xv xk xj xq xx xt
theorem xEx {b c1 c2 c3 w x}(h:qB b c1 c2 c3 w x)(nb)(hn:w.heap[nb]?=some (.cells (xN x) 70 (0,0)))(dt:∀k,k∈x.h.foot\/k∈x.s.foot\/k∈x.t.foot\/k∈foot x.ib x.M x.gs->k<nb)(hG:Gl w)(B3:prog.globals.size<=b)
  (ob B0) (dL:ob<b) (C4:B0<=ob) (id) (tx nm sj) (date arr) (A) (hA:A=⟨id,tx,nm,date,arr,.slice none 0 0,sj,.slice none 0 0,false⟩) (ho:uy w ob A (.slice none 0 0))
  (hid:id≠uq) (ir:1<=tx.size) (gX:tx.size<=65536) (FE:0<=arr) (gy:arr<=105190559) (bg:0<=date) (bE:date<=105190559)
  (fI:yl id x.pc.hes=none) (gu:x.pc.hes.length<=1000) (co:yl id x.pc.ses=none) (ei:x.pc.bytes+tx.size<=x.pc.budget) (aG:x.pc.budget<=1073741824) (bj:x.pc.next<=1000):
  Calls prog 318 #[.pointer (some ⟨ob,0,none⟩),.pointer (some ⟨nb,0,none⟩)] w (xGq B0 b nb (xEw x.pc A) (λW=>uy W ob A (.slice none 0 0)) w):=by
 have hF:A.id=id/\A.text=tx/\A.name=nm/\A.date=date/\A.arr=arr/\A.groups=.slice none 0 0/\A.subj=sj/\A.refs=.slice none 0 0/\A.perm=false:=by rw[hA];exact⟨rfl,rfl,rfl,rfl,rfl,rfl,rfl,rfl,rfl⟩
 have lN:∀k,k∈x.h.foot\/k∈x.s.foot\/k∈x.t.foot\/k∈foot x.ib x.M x.gs->b<=k:=λk hk=>by
  have h1:=h.at;rcases hk with hk|hk|hk|hk
  ·have:=h1.h.pB;have:=h1.h.MB;simp[Hst.foot]at hk;omega
  ·have:=h1.s.pB;have:=h1.s.MB;simp[Spo.foot]at hk;omega
  ·exact(h1.t.foot_lt k hk).1
  ·exact(h1.o.foot_lt k hk).1
 have dY:=(i_ hn).1;have dG:=(i_ ho).1;obtain⟨a0,nP⟩:∃a0,a0=w.heap.size:=⟨_,rfl⟩;obtain⟨w1,ai⟩:∃w1,w1=w.alloc (.cells (xw A) 37):=⟨_,rfl⟩;have aa:Below w.heap.size w w1:=by rw[ai];exact b_ _ _
 have az:w1.heap[a0]?=some (.cells (xw A) 37 (0,0)):=by rw[ai,nP];exact heap_alloc_new w _
 obtain⟨e0,Bc⟩:∃e0,e0=w1.heap.size:=⟨_,rfl⟩;obtain⟨w2,aw⟩:∃w2,w2=w1.alloc (.cells (x7 ⟨id,arr,date,0,false⟩) 58):=⟨_,rfl⟩;have ak:Below w1.heap.size w1 w2:=by rw[aw];exact b_ _ _
 have aA:w2.heap[e0]?=some (.cells (x7 ⟨id,arr,date,0,false⟩) 58 (0,0)):=by rw[aw,Bc];exact heap_alloc_new w1 _
 have aj:=aa.trans (ak.mono aa.size);have rZ:w2.heap[a0]?=some (.cells (xw A) 37 (0,0)):=(ak.block _ (i_ az).1).trans az;obtain⟨o0,r0⟩:=xQc ho;obtain⟨oi,ri⟩:=vW (l:=[]) (w:=w1) (b:=a0) (a:=A) (by rw[aG_];exact az);rw[hF.1]at ri;have FQ:=(cell_of_row w1 a0 34 _ _ _ az).trans (ar34 A);have t8:=(cell_of_row w1 a0 35 _ _ _ az).trans (ar35 A);have Pb:=(cell_of_row w1 a0 39 _ _ _ az).trans (ar39 A);rw[hF.2.2.2.1]at FQ;rw[hF.2.2.2.2.1]at t8;rw[hF.2.2.2.2.2.2.2.2]at Pb;have bJ:xy 40 (xw A)=true:=jR (by rw[hF.2.2.2.2.2.1];rfl) (by rw[hF.2.2.2.2.2.2.2.1];rfl);have rY:((xw uB).size==40)=true:=by rw[xY];rfl
 have Le:=vw ⟨id,arr,date,0,false⟩;have Ro:((x7 zy).size==36)=true:=by rw[xC];rfl
 have D9:=xD (n:=36) aA (xC _);have HX:=h_ (h.below aj);have ee:=h_ h;have HF:=h_ hF;have HAE:=h_ hA;have oV:=h_ dt;have rQ:=h_ lN;have bQ:=h_ ((aj.block nb dY).trans hn);have gZ:Hid (uy w2 ob A (.slice none 0 0)):=h_ ((aj.block ob dG).trans ho);have oK:=h_ rZ;have au:=h_ aj;have HG:=h_ hG;have FO:=h_ B3;have iE:=h_ (And.intro C4 dL);have dR:=h_ (And.intro hid (And.intro ir gX));have BE:=h_ (And.intro FE (And.intro gy (And.intro bg bE)));have nN:=h_ (And.intro fI (And.intro gu (And.intro co (And.intro ei (And.intro aG bj)))));have Jc:Hid (nb<w.heap.size/\ob<w.heap.size):=h_ ⟨dY,dG⟩;have Ov:=h_ nP;have Rh:=h_ Bc;have e9:Hid (a0<w2.heap.size/\w.heap.size<=a0):=h_ ⟨(i_ rZ).1,by omega⟩;have B8:Below w2.heap.size w2 w2.drew:=(ab_ _ _).drew;have Pc:=h_ (xSh ((h.below aj).h.below B8) ⟨id,arr,date,0,false⟩ ⟨FE,gy,bg,bE,.inl rfl⟩ (by rw[ji];exact fI) (by have:x.pc.hes.length=x.h.es.length:=aQ_ _;omega));have Vb:∀z:x8 w2,xo z.1 ⟨e0,0,none⟩ 36=true:=λz=>x8.ok D9.1 z
 have Vc:∀z:x8 w2,xm z.1 ⟨e0,0,none⟩ 36=x7 ⟨id,arr,date,0,false⟩:=λz=>(x8.rd D9.1 z).trans D9.2
 have hc:=cell_of_row w2 nb 0 _ _ _ bQ.out;simp only[xN,v_]at hc;have z0:∀z:x8 w2,z.1.cell? ⟨nb,0,none⟩=some (.pointer (some ⟨x.h.p,0,none⟩)):=λz=>z.cell hc
 clear hc;clear h hn dt hG B3 dL C4 hA ho hid ir gX FE gy bg bE fI gu co ei aG bj hF lN dY dG aa az ak aA aj rZ D9 B8;go_enter func318,ntmps318;go_upto_region 2 with fail
 refine xr ai ?_;rw[<-nP];clear ai o0 r0 nP;go_upto_region 3 with fail
 refine xr aw ?_;rw[<-Bc];clear aw oi ri FQ t8 Pb Bc;refine xp [0,1,2,3,4] [5,6] (λw'=>∃z:x8 w2,w'=z.1) (by kernel_rfl) (by kernel_rfl) (by kernel_rfl) ⟨⟨w2.drew,(ab_ _ _).drew⟩,rfl⟩ ?_;simp only[o_]
 repeat (go_big_quiet_step (fail))
 refine wpQuiet_nil ?_;clear z0 Vb Vc;refine xB [5,6] _ _ (by kernel_rfl) ?_;simp only[o_];go_wp2_with fail;refine Pc.mono ?_;rintro e' w3 ⟨rfl,dp,iF⟩;have dd:Kept [x.h.M] w2 w3:=(Kept.of_below (F:=[x.h.M]) (ab_ _ _).drew).trans dp (λq hq=>.inl hq);have oW:x.h.M∈x.h.foot:=by simp[Hst.foot]
 have gu:=HX.hl _ oW;have Pd:=HX.h.MB;have e1:=HX.b1;have e2:=HX.b2;have e3:=HX.b3;have oX:=oV.out _ (.inl oW);have gk:b<=w2.heap.size:=ad_ ee.lt au.size;have CI:x.h.M<w.heap.size:=by have:=Jc.1;omega
 have eS:=h_ (HX.s.keptB dd (λk hk=>by rw[ac_.1 hk];exact gu));have IX:=h_ (HX.t.keptB dd (λk hk=>by rw[ac_.1 hk];omega));have mL:=h_ (HX.o.kept dd (λk hk=>by rw[ac_.1 hk];omega));have pj:=h_ iF;have dV:=h_ ((dd.block nb (i_ bQ.out).1 (λhf=>by rw[<-ac_.1 hf]at oX;omega)).trans bQ.out);have wU:Hid (uy w3 ob A (.slice none 0 0)):=h_ ((dd.block ob (i_ gZ.out).1 (λhf=>by have:=rQ.out _ (.inl oW);rw[<-ac_.1 hf]at this;have:=iE.2;omega)).trans gZ.out);have sW:=(dd.block a0 e9.1 (λhf=>by have:=ac_.1 hf;have:=e9.2;omega)).trans oK.out;have wQ:=h_ sW;have cU:Below b w w3:=(au.mono ee.lt).trans (dd.below gk (λk hk=>by rw[ac_.1 hk];exact Pd));have ay:=h_ cU;have nE:Hid (w2.heap.size<=w3.heap.size):=h_ dd.size;have B9:Below w3.heap.size w3 w3.drew:=(ab_ _ _).drew;have DE:=h_ (xQt (eS.below B9) id tx arr dR.1 dR.2.1 dR.2.2 BE.1 BE.2.1 (by rw[ji];exact nN.2.2.1) nN.2.2.2.1 nN.2.2.2.2.1 nN.2.2.2.2.2);have lP:=vW (l:=[]) (w:=w3) (b:=a0) (a:=A) (by rw[aG_];exact sW);rw[HF.1]at lP;have CW:=(cell_of_row w3 a0 32 _ _ _ sW).trans (ar32 A);have t8:=(cell_of_row w3 a0 35 _ _ _ sW).trans (ar35 A);rw[HF.2.1]at CW;rw[HF.2.2.2.2.1]at t8;have z1:∀z:x8 w3,xo z.1 ⟨a0,0,none⟩ 32=true:=λz=>x8.ok lP.1 z
 have z2:∀z:x8 w3,xm z.1 ⟨a0,0,none⟩ 32=(xl id).toArray:=λz=>(x8.rd lP.1 z).trans lP.2
 have z3:∀z:x8 w3,z.1.cell? ⟨a0,32,none⟩=some (.string tx):=λz=>z.cell CW
 have z4:∀z:x8 w3,z.1.cell? ⟨a0,35,none⟩=some (.int .i64 arr):=λz=>z.cell t8
 have hc:=cell_of_row w3 nb 1 _ _ _ dV.out;simp only[xN,v_]at hc;have z0:∀z:x8 w3,z.1.cell? ⟨nb,1,none⟩=some (.pointer (some ⟨x.s.p,0,none⟩)):=λz=>z.cell hc
 clear hc;clear dp iF dd oW gu Pd e1 e2 e3 oX gk CI sW cU B9 lP CW t8 Pc;go_wp2;refine ag_ ?_;go_upto_region 6 with fail
 refine xp [0,1,2,3,4,5,6,7,8,9] [10,11] (λw'=>∃z:x8 w3,w'=z.1) (by kernel_rfl) (by kernel_rfl) (by kernel_rfl) ⟨⟨w3.drew,(ab_ _ _).drew⟩,rfl⟩ ?_;simp only[o_]
 repeat (go_big_quiet_step (fail))
 refine wpQuiet_nil ?_;clear z0 z1 z2 z3 z4;refine xB [10,11] _ _ (by kernel_rfl) ?_;simp only[o_];go_wp2_with fail;refine DE.mono ?_;rintro e' w4 ⟨rfl,dQ,fR⟩;have cD:Kept [x.s.M,x.s.p] w3 w4:=(Kept.of_below (F:=[x.s.M,x.s.p]) (ab_ _ _).drew).trans dQ (λq hq=>.inl hq);have mT:∀k∈[x.s.M,x.s.p],c1<=k/\k<c2/\k<nb/\b<=k:=λk hk=>by
  simp at hk;have hm:k∈x.s.foot:=by simp[Spo.foot];rcases hk with h|h <;> simp[h]
  have h1:=HX.s.MB;have h2:=HX.s.pB;exact⟨by rcases hk with h|h <;> omega,HX.sl k hm,oV.out k (.inr (.inl hm)),rQ.out k (.inr (.inl hm))⟩
 have e1:=HX.b1;have e2:=HX.b2;have e3:=HX.b3;have dY:=Jc.out;have cm:b<=w3.heap.size:=ad_ ee.lt ay.size;have fp:=h_ (pj.kept cD (λk hk hf=>by have h1:=HX.hl k hk;have:=(mT k hf).1;omega));have D1:=h_ (IX.keptB cD (λk hk=>(mT k hk).2.1));have Dz:=h_ (mL.kept cD (λk hk=>by have:=(mT k hk).2.1;omega));have di:=h_ fR;have g6:=h_ ((cD.block nb (i_ dV.out).1 (λhf=>by have:=(mT nb hf).2.2.1;omega)).trans dV.out);have wS:Hid (uy w4 ob A (.slice none 0 0)):=h_ ((cD.block ob (i_ wU.out).1 (λhf=>by have:=(mT ob hf).2.2.2;have:=iE.2;omega)).trans wU.out);have Jd:=(cD.block a0 (by have:=e9.1;have:=nE.out;omega) (λhf=>by have:=(mT a0 hf).2.2.1;have:=e9.2;omega)).trans wQ.out;have Vd:=h_ Jd;have ik:Below b w w4:=ay.trans (cD.below cm (λk hk=>(mT k hk).2.2.2));have bt:=h_ ik;have Ic:Hid (w3.heap.size<=w4.heap.size):=h_ cD.size;have bN:xGq B0 b nb (xEw x.pc A) (λW=>uy W ob A (.slice none 0 0)) w (.returned (.int .i64 0)) w4:=by
  refine⟨rfl,ik.mono (by have:=iE.1;have:=iE.2;omega),⟨⟨_,_,x.t,x.ib,x.M,x.gs,x.mc⟩,⟨fp.out,fR.base e1,D1.base (by omega),Dz.base (by omega)⟩,?_,g6.out⟩,wS.out⟩;unfold Prt.pc xEw;simp only[xI3,HF.1,HF.2.1,HF.2.2.2.1,HF.2.2.2.2.1]
  all_goals rfl
 have aS:=h_ bN;have Pe:=(cell_of_row w4 a0 36 _ _ _ Jd).trans (ar36 A);rw[HF.2.2.2.2.2.1]at Pe;clear dQ fR cD mT e1 e2 e3 dY cm Jd ik DE bN;go_wp2;refine ag_ ?_;go_wp2;go_ret;exact aS.out
end
section
attribute [local go_sem ↓] xL xI qM qr jk vM
attribute [local go_sem] zm zA xE3 xDu xF7 xEi zn zu yx yw xh xf xa x9 xu xv xk xj xq xx xt
theorem xRj (B ib M mc gs id w)(hG:Gl w)(h:ye B w ib M gs mc)(cQ:gs=[]):
  Calls prog 327 #[.pointer (some ⟨ib,0,none⟩),.agg (xl id).toArray] w λe w'=>e=.returned (.slice none 0 0)/\Below w.heap.size w w':=by
 obtain⟨w1,ai⟩:∃w1,w1=w.alloc (.cells (xl id).toArray 33):=⟨_,rfl⟩;have aa:Below w.heap.size w w1:=by rw[ai];exact b_ _ _
 have az:w1.heap[w.heap.size]?=some (.cells (xl id).toArray 33 (0,0)):=by rw[ai];exact heap_alloc_new w _
 obtain⟨o1,r1⟩:=yj az;have Fb:=h_ (xFx B ib M mc gs id w1 (hG.later aa) (h.below aa));have ar:=h_ aa;have mn:=h_ cQ;clear hG h aa az cQ;go_enter func327,ntmps327;go_upto_region 1 with fail
 refine xr ai ?_;clear ai;go_wp2_with fail;refine Fb.mono ?_;rintro e w2 ⟨v,ns,rfl,ae,mi,aX,aj⟩;have fm:ns=[]:=by
  cases ns with
  |nil=>rfl
  |cons t l=>
   obtain⟨G,hG,_⟩:=(aX t).1 (bf_ ..);rw[mn.out]at hG;cases hG
 rw[fm]at ae;have oN:w2.ownsRow w1.heap.size 450 2 v 0 []:=ae;obtain⟨va,vc,rfl⟩:=yd oN;have HF:Hid (Below w.heap.size w w2):=h_ (ar.trans (aj.mono ar.size));clear ae oN mi aX aj fm Fb o1 r1;go_wp2;refine wp_loop_once ?_;go_wp2;go_ret;exact⟨rfl,HF.out⟩
theorem xEm {b c1 c2 c3 w x}(h:qB b c1 c2 c3 w x)(nb)(hn:w.heap[nb]?=some (.cells (xN x) 70 (0,0)))(dt:∀k,k∈x.h.foot\/k∈x.s.foot\/k∈x.t.foot\/k∈foot x.ib x.M x.gs->k<nb)(hG:Gl w)(B3:prog.globals.size<=b)
  (pid) (ob) (dL:ob<b) (ho:w.heap[ob]?=some (.cells (xl pid).toArray 96 (0,0))) (a) (e)
  (co:x.pc.ses=[(pid,.agg (xG a))]) (ei:a.text.size<=x.pc.bytes) (aG:x.pc.bytes<=1073741824) (fK:x.pc.lf=λ_=>[])
  (gT:yl pid x.pc.hes=some (.agg (x7 e))) (ax:e.st=0):
  Calls prog 324 #[.pointer (some ⟨ob,0,none⟩),.pointer (some ⟨nb,0,none⟩)] w (ke b nb { x.pc with ses:=[],bytes:=x.pc.bytes-a.text.size,hes:=uT pid (.agg (x7 { e with st:=1 })) x.pc.hes } w):=by
 have lN:∀k,k∈x.h.foot\/k∈x.s.foot\/k∈x.t.foot\/k∈foot x.ib x.M x.gs->ob≠k:=λk hk e=>by
  have h1:=h.at;rcases hk with hk|hk|hk|hk
  ·have:=h1.h.pB;have:=h1.h.MB;simp[Hst.foot]at hk;omega
  ·have:=h1.s.pB;have:=h1.s.MB;simp[Spo.foot]at hk;omega
  ·have:=(h1.t.foot_lt k hk).1;omega
  ·have:=(h1.o.foot_lt k hk).1;omega
 have dY:=(i_ hn).1;have dG:=(i_ ho).1;obtain⟨bb,hes⟩:∃bb,x.s.es=[⟨pid,.agg (xG a),bb⟩]:=by
  have h1:kvs x.s.es=[(pid,.agg (xG a))]:=co;cases hl:x.s.es with
  |nil=>rw[hl]at h1;cases h1
  |cons z l=>
   rw[hl]at h1;unfold kvs at h1;simp only[au_,ei_,bC_,cw_]at h1;obtain⟨⟨h2,h3⟩,h4⟩:=h1;exact⟨z.b,by rw[h4,<-h2,<-h3]⟩
 have cQ:x.gs=[]:=xJk h.o.names (λG hG=>(h.o.grps G hG).some') fK;have bD:Below w.heap.size w w.drew:=(ab_ _ _).drew;have H:=h_ h;have oV:=h_ dt;have rQ:=h_ lN;have HN:=h_ hn;have HO:=h_ ho;have HG:=h_ hG;have FO:=h_ B3;have HL:=h_ (And.intro dY dG);have mn:=h_ cQ;have HP:=h_ (And.intro fK (And.intro gT ax));have tO:=h_ (xGx (h.s.below bD) pid a bb hes ei aG);have hc:=cell_of_row w nb 1 _ _ _ hn;simp only[xN,v_]at hc;have eu:=yj ho;have z0:∀z:x8 w,z.1.cell? ⟨nb,1,none⟩=some (.pointer (some ⟨x.s.p,0,none⟩)):=λz=>z.cell hc
 have z1:∀z:x8 w,xo z.1 ⟨ob,0,none⟩ 32=true:=λz=>x8.ok eu.1 z
 have z2:∀z:x8 w,xm z.1 ⟨ob,0,none⟩ 32=(xl pid).toArray:=λz=>(x8.rd eu.1 z).trans eu.2
 clear h hn dt hG B3 dL ho co ei aG fK gT ax lN dY dG hes cQ bD hc eu;go_enter func324,ntmps324;go_upto_region 1 with fail
 refine xp [0,1,2,3,4,5,6,7] [8,9] (λw'=>∃z:x8 w,w'=z.1) (by kernel_rfl) (by kernel_rfl) (by kernel_rfl) ⟨⟨w.drew,(ab_ _ _).drew⟩,rfl⟩ ?_;simp only[o_]
 repeat (go_big_quiet_step (fail))
 refine wpQuiet_nil ?_;clear z0 z1 z2;refine xB [8,9] _ _ (by kernel_rfl) ?_;simp only[o_];go_wp2_with fail;refine tO.mono ?_;rintro e' w1 ⟨rfl,hk1,aK⟩;have OY:Kept [x.s.M,x.s.p] w w.drew:=Kept.of_below (ab_ _ _).drew;have df:Kept [x.s.M,x.s.p] w w1:=OY.trans hk1 (λq hq=>.inl hq);have U7:=H.s.MB;have rN:=H.s.pB;have cu:=H.sl;have aj:=H.b2;have rR:∀k∈[x.s.M,x.s.p],c1<=k/\k<c2/\k<nb/\ob≠k:=λk hk=>by
  simp at hk;have hm:k∈x.s.foot:=by simp[Spo.foot];rcases hk with h|h <;> simp[h]
  exact⟨by rcases hk with h|h <;> omega,cu k hm,oV.out k (.inr (.inl hm)),rQ.out k (.inr (.inl hm))⟩
 have wo:yO b w1 x.h:=H.h.kept df (λk hk hf=>by have:=H.hl k hk;have:=(rR k hf).1;omega);have ir:yU c2 w1 x.t:=H.t.keptB df (λk hk=>(rR k hk).2.1);have cd:ye c3 w1 x.ib x.M x.gs x.mc:=H.o.kept df (λk hk=>by have:=(rR k hk).2.1;have:=H.b3;omega);have az:=(df.block nb HL.1 (λhf=>by have:=(rR nb hf).2.2.1;omega)).trans HN.out;have B4:=(df.block ob HL.2 (λhf=>(rR ob hf).2.2.2 rfl)).trans HO.out;have rS:Below b w w1:=df.below H.lt (λk hk=>by have:=(rR k hk).1;have:=H.b1;omega);have du:Gl w1:=HG.below (B:=b) rS FO.out;have bW:=h_ aK;have Kx:=h_ wo;have rM:=h_ ir;have ew:=h_ cd;have cz:=h_ az;have rT:=h_ B4;have ar:=h_ rS;have tM:=h_ du;have AN:=h_ df.size;clear hk1 aK OY df U7 rN cu aj rR wo ir cd az B4 rS du tO;have ft:=h_ (xRj c3 x.ib x.M x.mc x.gs pid w1.drew (tM.later (ab_ _ _).drew) (ew.below (ab_ _ _).drew) mn.out);have hc:=cell_of_row w1 nb 3 _ _ _ cz.out;simp only[xN,v_]at hc;have z0:∀z:x8 w1,z.1.cell? ⟨nb,3,none⟩=some (.pointer (some ⟨x.ib,0,none⟩)):=λz=>z.cell hc
 have eu:=yj rT.out;have z1:∀z:x8 w1,xo z.1 ⟨ob,0,none⟩ 32=true:=λz=>x8.ok eu.1 z
 have z2:∀z:x8 w1,xm z.1 ⟨ob,0,none⟩ 32=(xl pid).toArray:=λz=>(x8.rd eu.1 z).trans eu.2
 clear hc eu;go_wp2;refine ag_ ?_;go_upto_region 4 with fail
 refine xp [0,1,2,3,4,5,6,7,10] [8,9] (λw'=>∃z:x8 w1,w'=z.1) (by kernel_rfl) (by kernel_rfl) (by kernel_rfl) ⟨⟨w1.drew,(ab_ _ _).drew⟩,rfl⟩ ?_;simp only[o_]
 repeat (go_big_quiet_step (fail))
 refine wpQuiet_nil ?_;clear z0 z1 z2;refine yb true (by kernel_rfl) (by kernel_rfl) ?_;simp only[o_];go_wp2_with fail;refine ft.mono ?_;rintro e' w2 ⟨rfl,aj⟩;have ak:Below w1.heap.size w1 w2:=⟨aj.os,aj.tape,aj.output,aj.size,aj.block⟩;have aA:=(ak.block nb (i_ cz.out).1).trans cz.out;have rU:=(ak.block ob (i_ rT.out).1).trans rT.out;have di:=h_ (bW.below ak);have fp:=h_ (Kx.below ak);have D1:=h_ (rM.below ak);have iQ:=ew.below ak;have wS:=h_ iQ;have g6:=h_ aA;have rW:=h_ rU;have rV:Below b w w2:=ar.trans (ak.mono (ad_ H.lt ar.size));have bt:=h_ rV;have so:Hid (Gl w2):=h_ (HG.below rV FO.out);have O4:=h_ (xEo c3 x.ib x.M x.mc x.gs pid w2.drew (so.later (ab_ _ _).drew) (iQ.below (ab_ _ _).drew));have dU:=h_ ak;clear aA rU iQ rV aj;go_wp2;refine⟨λ_=>⟨⟨w2,ak⟩,rfl⟩,?_⟩;refine yb true (by kernel_rfl) (by kernel_rfl) ?_;simp only[o_];go_wp2;refine⟨λ_=>⟨⟨w2,ak⟩,rfl⟩,?_⟩;refine ag_ ?_;clear ak ft;go_wp2;refine wp_loop_once ?_;have hc:=cell_of_row w2 nb 3 _ _ _ g6.out;simp only[xN,v_]at hc;have z0:∀z:x8 w2,z.1.cell? ⟨nb,3,none⟩=some (.pointer (some ⟨x.ib,0,none⟩)):=λz=>z.cell hc
 have eu:=yj rW.out;have z1:∀z:x8 w2,xo z.1 ⟨ob,0,none⟩ 32=true:=λz=>x8.ok eu.1 z
 have z2:∀z:x8 w2,xm z.1 ⟨ob,0,none⟩ 32=(xl pid).toArray:=λz=>(x8.rd eu.1 z).trans eu.2
 clear hc eu;go_upto_region 11 with fail
 refine xp [0,1,2,3,4,5,6,7] [8] (λw'=>∃z:x8 w2,w'=z.1) (by kernel_rfl) (by kernel_rfl) (by kernel_rfl) ⟨⟨w2.drew,(ab_ _ _).drew⟩,rfl⟩ ?_;simp only[o_]
 repeat (go_big_quiet_step (fail))
 refine wpQuiet_nil ?_;clear z0 z1 z2;refine xB [8] _ _ (by kernel_rfl) ?_;simp only[o_];go_wp2_with fail;refine O4.mono ?_;rintro e' w5 ⟨ns,gs',O5,_,_,rfl,wJ,e_,_,B5,_⟩;have bC:Kept (foot x.ib x.M x.gs) w2 w5:=(Kept.of_below (F:=foot x.ib x.M x.gs) (ab_ _ _).drew).trans e_ (λq hq=>.inl hq);have mS:∀k∈foot x.ib x.M x.gs,c3<=k:=λk hk=>(H.o.foot_lt k hk).1
 have iU:=H.b2;have nO:=H.b3;have lO:=H.b1;have tn:=fp.kept bC (λk hk hf=>by have:=H.hl k hk;have:=mS k hf;omega);have nt:=di.kept bC (λk hk hf=>by have:=H.sl k hk;have:=mS k hf;omega);have FP:=D1.kept bC (λk hk hf=>by have:=mS k hf;have:=H.tl k hk;omega);have eM:=(bC.block nb (i_ g6.out).1 (λhf=>bX_ _ (oV.out _ (.inr (.inr (.inr hf)))))).trans g6.out;have B6:=(bC.block ob (i_ rW.out).1 (λhf=>rQ.out _ (.inr (.inr (.inr hf))) rfl)).trans rW.out;have B7:Below b w w5:=bt.trans (bC.below (ad_ H.lt bt.size) (λk hk=>by have:=mS k hk;omega));have aU:=h_ B7;have IM:=h_ tn;have oC:=h_ nt;have tN:=h_ wJ;have O6:=h_ FP;have nK:=h_ eM;have I8:=h_ B6
 have U9:Hid (lfOf gs'=λ_=>[]):=h_ (by
  funext t;have h1:=congrFun HP.1 t;have h2:xA x.gs t=[]:=bC_.1 h1;unfold lfOf;rw[B5 t,h2];rfl)
 have O7:=h_ (xN8 (tn.below (ab_ _ w5).drew) pid e (by rw[ji];exact HP.2.1) HP.2.2);clear e_ bC mS iU nO lO tn nt FP eM B6 B7 wJ B5 O4;have hc:=cell_of_row w5 nb 0 _ _ _ nK.out;simp only[xN,v_]at hc;have z0:∀z:x8 w5,z.1.cell? ⟨nb,0,none⟩=some (.pointer (some ⟨x.h.p,0,none⟩)):=λz=>z.cell hc
 have eu:=yj I8.out;have z1:∀z:x8 w5,xo z.1 ⟨ob,0,none⟩ 32=true:=λz=>x8.ok eu.1 z
 have z2:∀z:x8 w5,xm z.1 ⟨ob,0,none⟩ 32=(xl pid).toArray:=λz=>(x8.rd eu.1 z).trans eu.2
 clear hc eu;go_wp2;refine ag_ ?_;go_upto_region 12 with fail
 refine xp [0,1,2,3,4,5,6,7] [8,9] (λw'=>∃z:x8 w5,w'=z.1) (by kernel_rfl) (by kernel_rfl) (by kernel_rfl) ⟨⟨w5.drew,(ab_ _ _).drew⟩,rfl⟩ ?_;simp only[o_]
 repeat (go_big_quiet_step (fail))
 refine wpQuiet_nil ?_;clear z0 z1 z2;refine xB [8,9] _ _ (by kernel_rfl) ?_;simp only[o_];go_wp2_with fail;refine O7.mono ?_;rintro e' w6 ⟨rfl,dq,tm⟩;have fG:Kept [x.h.M] w5 w6:=(Kept.of_below (F:=[x.h.M]) (ab_ _ _).drew).trans dq (λq hq=>.inl hq);have oW:x.h.M∈x.h.foot:=by simp[Hst.foot]
 have gu:=H.hl _ oW;have O8:=H.h.MB;have iU:=H.b2;have nO:=H.b3;have lO:=H.b1
 have HF:Hid (ke b nb { x.pc with ses:=[],bytes:=x.pc.bytes-a.text.size,hes:=uT pid (.agg (x7 { e with st:=1 })) x.pc.hes } w (.returned (.int .i64 0)) w6):=h_ (by
  refine⟨rfl,aU.trans (fG.below (ad_ H.lt aU.size) (λk hk=>by rw[ac_.1 hk];exact O8)),⟨{ x.h with es:=putL pid (.agg (x7 { e with st:=1 })) x.h.mc x.h.es,mc:=putC pid x.h.mc x.h.es },{ x.s with es:=[],bytes:=x.s.bytes-a.text.size },x.t,x.ib,x.M,gs',O5⟩,⟨tm,?_,?_,?_⟩,?_,?_⟩
  ·exact(oC.keptB fG (λk hk=>by rw[ac_.1 hk];exact gu)).base lO
  ·exact(O6.keptB fG (λk hk=>by rw[ac_.1 hk];omega)).base (by omega)
  ·exact(tN.kept fG (λk hk=>by rw[ac_.1 hk];omega)).base (by omega)
  ·have h1:lfOf x.gs=λ_=>[]:=HP.1
   unfold Prt.pc;simp only[xI3,U9.out,h1];rfl
  ·exact(fG.block nb (i_ nK.out).1 (λhf=>by have:=oV.out _ (.inl oW);rw[<-ac_.1 hf]at this;omega)).trans nK.out)
 clear dq tm fG oW gu O8 iU nO lO O7;go_wp2;refine ag_ ?_;go_wp2;go_ret;exact HF.out
end
section
theorem xZq {xs:Array Value}{i v}(h:xs[i]?=some v):xs.setIfInBounds i v=xs:=by
 obtain⟨hi,hv⟩:=cK_.1 h;apply dL_
 ·simp
 ·intro j h1 h2;rw[Array.getElem_setIfInBounds];split
  ·rename_i e;subst e;exact hv.symm
  ·rfl
theorem xIy {w:World}{b j cs}{T:TypeId}{v}(h:w.heap[b]?=some (.cells cs T (0,0)))(hj:cs[j]?=some v):(w.setCell ⟨b,j,none⟩ v).heap[b]?=some (.cells cs T (0,0)):=by
 rw[heap_setCell_same w b j _ _ _ h,xZq hj]
def jO (id:Id32)(arr date:Nat)(t:By):By:=[2]++id.1++beB 4 arr++beB 4 date++[0]++(beB 4 t.length++t)++beB 4 0++beB 4 0++beB 4 0++beB 4 0
theorem qa (id arr date t):(jO id arr date t).length=62+t.length:=by
 simp[jO,xe,id.2];omega
attribute [local go_sem ↓] qj uI uL xL xI uK ub qs
attribute [local go_sem] xCb xBu zm zA xAw xAu zn zu yx yw xh xf xa x9 xu xv xk xj xq xx xt
theorem xDg {w}(ob id)(arr date:Nat)(t pl)(ha:arr<=2147483647)(hd:date<=2147483647)(ht:t.length<=10000)
  (h:uy w ob ⟨id,str t,⟨#[]⟩,date,arr,.slice none 0 0,⟨#[]⟩,.slice none 0 0,false⟩ pl):
  Calls prog 319 #[.pointer (some ⟨ob,0,none⟩)] w λe w'=>Below w.heap.size w w'/\∃u,e=.returned u/\OwnB w' w.heap.size u (jO id arr date t):=by
 obtain⟨A,hA⟩:∃A:Art,A=⟨id,str t,⟨#[]⟩,date,arr,.slice none 0 0,⟨#[]⟩,.slice none 0 0,false⟩:=⟨_,rfl⟩;rw[<-hA]at h;obtain⟨a0,nP⟩:∃a0,a0=w.heap.size:=⟨_,rfl⟩;obtain⟨w0,mO⟩:∃w0,w0=w.alloc (.cells (xw A) 37):=⟨_,rfl⟩;have bf:Below w.heap.size w w0:=by rw[mO];exact b_ _ _
 have i5:w0.heap[a0]?=some (.cells (xw A) 37 (0,0)):=by rw[mO,nP];exact heap_alloc_new w _
 have hF:A.id=id/\A.text=str t/\A.name=⟨#[]⟩/\A.date=date/\A.arr=arr/\A.groups=.slice none 0 0/\A.subj=⟨#[]⟩/\A.refs=.slice none 0 0/\A.perm=false:=by rw[hA];exact⟨rfl,rfl,rfl,rfl,rfl,rfl,rfl,rfl,rfl⟩
 have Jf:=ar33 A;have FR:=ar37 A;have FS:=ar38 A;rw[hF.2.2.1]at Jf;rw[hF.2.2.2.2.2.2.1]at FR;rw[hF.2.2.2.2.2.2.2.1]at FS;obtain⟨wa,Rp⟩:∃wa,wa=w0.setCell ⟨a0,33,none⟩ (.string ⟨#[]⟩):=⟨_,rfl⟩;have JT:wa.heap[a0]?=some (.cells (xw A) 37 (0,0)):=by rw[Rp];exact xIy i5 Jf
 obtain⟨wb,KK⟩:∃wb,wb=wa.setCell ⟨a0,37,none⟩ (.string ⟨#[]⟩):=⟨_,rfl⟩;have eF:wb.heap[a0]?=some (.cells (xw A) 37 (0,0)):=by rw[KK];exact xIy JT FR
 obtain⟨w1,ai⟩:∃w1,w1=wb.setCell ⟨a0,38,none⟩ (.slice none 0 0):=⟨_,rfl⟩;have az:w1.heap[a0]?=some (.cells (xw A) 37 (0,0)):=by rw[ai];exact xIy eF FS
 have aa:Below w.heap.size w w1:=by
  have h1:w.heap.size<=a0:=by omega
  rw[ai,KK,Rp];exact((bf.setCell (p:=⟨a0,33,none⟩) h1 _).setCell (p:=⟨a0,37,none⟩) h1 _).setCell (p:=⟨a0,38,none⟩) h1 _
 have f33:=frozen_of_row w0 a0 33 _ _ i5;have f37:=frozen_of_row wa a0 37 _ _ JT;have f38:=frozen_of_row wb a0 38 _ _ eF;have g37:=frozen_of_row w0 a0 37 _ _ i5;have g38:=frozen_of_row w0 a0 38 _ _ i5;have d37:=(cell_of_row w0 a0 37 _ _ _ i5).trans FR;have d38:=(cell_of_row w0 a0 38 _ _ _ i5).trans FS;have wm:=(cell_of_row w0 a0 33 _ _ _ i5).trans Jf;have wn:=(cell_of_row wa a0 37 _ _ _ JT).trans FR;have KM:=(cell_of_row wb a0 38 _ _ _ eF).trans FS;obtain⟨b,hb⟩:∃b,b=w1.heap.size:=⟨_,rfl⟩;obtain⟨w2,aw⟩:∃w2,w2=w1.alloc (.cells #[.slice none 0 0] 132):=⟨_,rfl⟩;have ak:Below b w1 w2:=by rw[aw,hb];exact b_ _ _
 have fJ:WrAt b w2 b []:=⟨aa_ _,_,by rw[aw,hb];exact heap_alloc_new w1 _,OwnB.nil _ _⟩;obtain⟨o0,r0⟩:=xQc h;have bJ:xy 40 (xw A)=true:=jR (by rw[hA];rfl) (by rw[hA];rfl);have rY:((xw uB).size==40)=true:=by rw[xY];rfl
 have pO:=(cell_of_row w0 a0 36 _ _ _ i5).trans (ar36 A);rw[hF.2.2.2.2.2.1]at pO;have HF:=h_ hF;have ar:=h_ aa;have cz:=h_ az;have au:=h_ ak;have IQ:=h_ fJ;have Ov:=h_ nP;have fX:=h_ hb;have cL:=h_ (And.intro ha (And.intro hd ht));have e9:Hid (a0<b):=h_ (by rw[hb];exact(i_ az).1);have aK:(#[Value.slice none 0 0].size==1)=true:=rfl;have gK:xy 1 #[Value.slice none 0 0]=true:=by simp[xy,Value.oneCell']
 clear h hA bf aa i5 JT eF az ak fJ ha hd ht hF Jf FR FS;go_enter func319,ntmps319;go_upto_region 2 with fail
 refine xr mO ?_;rw[<-nP];clear mO o0 r0 nP;go_upto_region 4 with fail
 rw[<-Rp];rw[<-KK];rw[<-ai];clear Rp KK ai pO f33 f37 f38 wm wn KM g37 g38 d37 d38;go_upto_region 5 with fail
 refine xr aw ?_;rw[<-hb];clear aw hb;have CT:=h_ (vt IQ.out 2 (by simp));rw[show ((2:UInt8).toNat:Int)=2 from rfl]at CT;go_wp2_with fail;refine CT.mono ?_;rintro e w3 ⟨rfl,a_,bT⟩;have ay:=h_ (au.trans a_);have BN:=h_ bT;clear a_ bT CT;have CU:=h_ (xO4 BN.out id (by have h1:=cL.out;simp[xe,id.2] <;> omega));have ah:=(ay.block a0 e9.out).trans cz.out;have aD:=vW (l:=[]) (by rw[aG_];exact ah);obtain⟨ok,rk⟩:=aD;rw[HF.1]at rk;clear ah;go_wp2_with fail;refine CU.mono ?_;rintro e w4 ⟨rfl,a_,bT⟩;have bt:=h_ (ay.trans a_);have wI:=h_ bT;clear a_ bT CU ok rk;have IJ:=h_ (uE wI.out arr (by have:=cL.1;omega) (by have h1:=cL.out;simp[xe,id.2] <;> omega));have ah:=(bt.block a0 e9.out).trans cz.out;have ck:=(cell_of_row w4 a0 35 _ _ _ ah).trans (ar35 A);rw[HF.2.2.2.2.1]at ck;clear ah;go_wp2_with fail;refine IJ.mono ?_;rintro e w5 ⟨rfl,a_,bT⟩;have aU:=h_ (bt.trans a_);have rI:=h_ bT;clear a_ bT IJ ck;have O_:=h_ (uE rI.out date (by have:=cL.2.1;omega) (by have h1:=cL.out;simp[xe,id.2] <;> omega));have ah:=(aU.block a0 e9.out).trans cz.out;have ck:=(cell_of_row w5 a0 34 _ _ _ ah).trans (ar34 A);rw[HF.2.2.2.1]at ck;clear ah;go_wp2_with fail
 refine O_.mono ?_;rintro e w6 ⟨rfl,a_,bT⟩;have fb:=h_ (aU.trans a_);have IR:=h_ bT;clear a_ bT O_ ck;have I9:=h_ (vt IR.out 0 (by have h1:=cL.out;simp[xe,id.2] <;> omega));rw[show ((0:UInt8).toNat:Int)=0 from rfl]at I9;have ah:=(fb.block a0 e9.out).trans cz.out;have ck:=(cell_of_row w6 a0 39 _ _ _ ah).trans (ar39 A);rw[HF.2.2.2.2.2.2.2.2]at ck;clear ah;go_wp2_with fail;refine I9.mono ?_;rintro e w7 ⟨rfl,a_,bT⟩;have fA:=h_ (fb.trans a_);have sR:=h_ bT;clear a_ bT I9 ck;have Pa:=h_ (zC sR.out t (by have:=cL.out;omega) (by have h1:=cL.out;simp[xe,id.2] <;> omega));have ah:=(fA.block a0 e9.out).trans cz.out;have ck:=(cell_of_row w7 a0 32 _ _ _ ah).trans (ar32 A);rw[HF.2.1]at ck;clear ah;go_wp2_with fail;refine Pa.mono ?_;rintro e w8 ⟨rfl,a_,bT⟩;have gB:=h_ (fA.trans a_);have IS:=h_ bT;clear a_ bT Pa ck;have Fw:=h_ (zC IS.out [] (by simp) (by have h1:=cL.out;simp[xe,id.2] <;> omega));rw[show str []=⟨#[]⟩from rfl]at Fw;have ah:=(gB.block a0 e9.out).trans cz.out;have ck:=(cell_of_row w8 a0 33 _ _ _ ah).trans (ar33 A);rw[HF.2.2.1]at ck;clear ah;go_wp2_with fail
 refine Fw.mono ?_;rintro e w9 ⟨rfl,a_,bT⟩;have fW:=h_ (gB.trans a_);have D3:=h_ bT;clear a_ bT Fw ck;have KL:=h_ (zC D3.out [] (by simp) (by have h1:=cL.out;simp[xe,id.2] <;> omega));rw[show str []=⟨#[]⟩from rfl]at KL;have ah:=(fW.block a0 e9.out).trans cz.out;have ck:=(cell_of_row w9 a0 37 _ _ _ ah).trans (ar37 A);rw[HF.2.2.2.2.2.2.1]at ck;clear ah;go_wp2_with fail;refine KL.mono ?_;rintro e bn ⟨rfl,a_,bT⟩;have iI:=h_ (fW.trans a_);have I_:=h_ bT;clear a_ bT KL ck;have lz:=h_ (uE I_.out 0 (by omega) (by have h1:=cL.out;simp[xe,id.2] <;> omega));rw[show ((0:Nat):Int)=0 from rfl]at lz;have ah:=(iI.block a0 e9.out).trans cz.out;have ck:=(cell_of_row bn a0 36 _ _ _ ah).trans (ar36 A);rw[HF.2.2.2.2.2.1]at ck;clear ah;go_wp2_with fail;refine lz.mono ?_;rintro e aW ⟨rfl,a_,bT⟩;have ic:=h_ (iI.trans a_);have ny:=h_ bT;clear a_ bT lz ck;have t7:=h_ (uE ny.out 0 (by omega) (by have h1:=cL.out;simp[xe,id.2] <;> omega));rw[show ((0:Nat):Int)=0 from rfl]at t7
 have ah:=(ic.block a0 e9.out).trans cz.out;have Pn:=(cell_of_row aW a0 36 _ _ _ ah).trans (ar36 A);rw[HF.2.2.2.2.2.1]at Pn;have ck:=(cell_of_row aW a0 38 _ _ _ ah).trans (ar38 A);rw[HF.2.2.2.2.2.2.2.1]at ck;clear ah;go_wp2;refine wp_loop_once ?_;go_wp2_with fail;refine t7.mono ?_;rintro e w12 ⟨rfl,a_,bT⟩;have dU:=h_ (ic.trans a_);have Ja:=h_ bT;clear a_ bT t7 ck Pn;have ah:=(dU.block a0 e9.out).trans cz.out;have ck:=(cell_of_row w12 a0 38 _ _ _ ah).trans (ar38 A);rw[HF.2.2.2.2.2.2.2.1]at ck;clear ah;go_wp2;refine wp_loop_once ?_;obtain⟨_,v,hr,ho⟩:=Ja.out;have cw:=cell_of_row w12 b 0 _ _ _ hr;simp only[v_]at cw;have hall:[]++[2]++id.1++beB 4 arr++beB 4 date++[0]++beB 4 t.length++t++beB 4 ([]:By).length++[]++beB 4 ([]:By).length++[]++beB 4 0++beB 4 0=jO id arr date t:=by
  simp[jO,aH_]
 have bN:=ho;rw[hall]at bN;have aS:=h_ (And.intro (ar.trans (dU.mono (by rw[fX.out];exact ar.size))) (bN.base (by rw[fX.out];exact ar.size)));clear hr ho hall bN;go_wp2;go_ret;exact⟨aS.1,v,rfl,aS.2⟩
end
section
attribute [local go_sem ↓] xL xI uK ub xFh xHn
attribute [local go_sem] zm zA xAw xAu yC0 yE0 zn zu yx yw xh xf xa x9 xu xv xk xj xq xx xt
def xKz (D sb p n q u:Nat)(c:PC)(F:List Nat)(w:World)(e:Ending)(w':World):Prop:=e=.returned (.tuple #[.slice none 0 0,.int .i64 0])/\Below D w w'/\Kept F w w'/\∃F',StOk D w' sb p n q u c F'/\∀k∈F',k∈F\/w.heap.size<=k
theorem xU6 {D sb p n q u c F w}(h:StOk D w sb p n q u c F)(hG:Gl w)(cK:prog.globals.size<=D)(hD:D<=w.heap.size)(id t)(date arr:Nat)(A)
  (hA:A=⟨id,str t,⟨#[]⟩,date,arr,.slice none 0 0,⟨#[]⟩,.slice none 0 0,false⟩)
  (hid:id≠uq) (ir:1<=t.length) (gX:t.length<=10000) (gy:arr<=105190559) (bE:date<=105190559)
  (fI:yl id c.hes=none) (gu:c.hes.length<=1000) (co:yl id c.ses=none) (ei:c.bytes+t.length<=c.budget) (aG:c.budget<=1073741824) (bj:c.next<=1000)
  (aC:u+xO (63+t.length)<=n/2):
  Calls prog 10 #[.pointer (some ⟨sb,0,none⟩),.agg (xw A)] w (xKz D sb p n q (u+xO (63+t.length)) (xEw c A) F w):=by
 obtain⟨w1,ai⟩:∃w1,w1=w.alloc (.cells (xw A) 37):=⟨_,rfl⟩;have aa:Below w.heap.size w w1:=by rw[ai];exact b_ _ _
 have az:w1.heap[w.heap.size]?=some (.cells (xw A) 37 (0,0)):=by rw[ai];exact heap_alloc_new w _
 obtain⟨ob,dL⟩:∃ob,ob=w1.heap.size:=⟨_,rfl⟩;obtain⟨w2,aw⟩:∃w2,w2=w1.alloc (.cells (yT A++[Value.slice none 0 0]).toArray 91):=⟨_,rfl⟩;have ak:Below w1.heap.size w1 w2:=by rw[aw];exact b_ _ _
 have dX:uy w2 ob A (.slice none 0 0):=by unfold uy;rw[aw,dL];exact heap_alloc_new w1 _
 have aj:=aa.trans (ak.mono aa.size);have dG:=(i_ dX).1;have Cc:w.heap.size<=ob:=by rw[dL];exact aa.size
 have cG:=hG.later aj;have hyl:(jO id arr date t).length+1=63+t.length:=by rw[qa];omega
 obtain⟨o1,r1⟩:=xD (n:=40) az (xY A)
 have HP:=h_ (xH4 h aj cG cK hD ob (xEw c A) (jO id arr date t) (λW=>uy W ob A (.slice none 0 0)) (by rw[qa];omega) (by rw[qa];omega) (by rw[hyl];exact aC)
  (λW b c1 c2 c3 x nb dD hle bL dt aH eF=>by
   have:=xEx bL nb eF dt (cG.later dD) (ad_ cG.size hle) ob w.heap.size (ap_ dG hle) Cc id (str t) ⟨#[]⟩ ⟨#[]⟩ date arr A hA ((dD.block _ dG).trans dX) hid (by rw[yD];omega) (by rw[yD];omega) (by omega) (by omega) (by omega) (by omega)
    (by rw[aH];exact fI) (by rw[aH];exact gu) (by rw[aH];exact co) (by rw[aH,yD];exact ei) (by rw[aH];exact aG) (by rw[aH];exact bj)
   rw[aH]at this;exact this)
  (λW W' cN dD=>by
   have Cd:uy W' ob ⟨id,str t,⟨#[]⟩,date,arr,.slice none 0 0,⟨#[]⟩,.slice none 0 0,false⟩ (.slice none 0 0):=by rw[<-hA];exact(dD.block _ (i_ cN).1).trans cN
   exact xDg ob id arr date t _ (by omega) (by omega) gX Cd))
 rw[hyl]at HP;have sV:=h_ Cc;have au:=h_ (aj.mono hD);clear h hG cK hD hA hid ir gX gy bE fI gu co ei aG bj aC aa az ak dX aj dG Cc cG hyl;go_enter func10,ntmps10;go_upto_region 1 with fail
 refine xr ai ?_;clear ai;go_upto_region 2 with fail
 refine xr aw ?_;rw[<-dL];clear aw dL o1 r1;go_wp2_with fail;refine HP.mono ?_;rintro e w3 ⟨rfl,al,oP,W,CX,Ce,⟨F',gQ,nU⟩,I6,dF⟩;have Cf:=(i_ CX).1;have Cg:uy w3 ob A (.slice none 0 0):=(dF ob sV.out Cf).trans CX;have Pm:=cell_of_row w3 ob 40 _ _ _ Cg;have nA:(yT A++[Value.slice none 0 0]).toArray[40]?=some (.slice none 0 0):=by
  rw[ah_,aF_ (by rw[yS];omega),yS];rfl
 rw[nA]at Pm;have ax:∃F',StOk D w3 sb p n q (u+xO (63+t.length)) (xEw c A) F'/\∀k∈F',k∈F\/w.heap.size<=k:=⟨F',gQ,λk hk=>(nU k hk).imp_right (λh=>ad_ Ce h)⟩;have HF:=h_ (And.intro (au.trans al) (And.intro oP ax));clear al oP ax gQ nU Ce CX I6 dF Cf Cg nA HP;go_wp2;go_ret2;exact⟨rfl,HF.out⟩
theorem xU7 {D sb p n q u c F w}(h:StOk D w sb p n q u c F)(hG:Gl w)(cK:prog.globals.size<=D)(hD:D<=w.heap.size)(id t)(date arr:Nat)(A)
  (hA:A=⟨id,str t,⟨#[]⟩,date,arr,.slice none 0 0,⟨#[]⟩,.slice none 0 0,false⟩)
  (hid:id≠uq) (ir:1<=t.length) (gX:t.length<=10000) (gy:arr<=105190559) (bE:date<=105190559)
  (fI:yl id c.hes=none) (gu:c.hes.length<=1000) (co:yl id c.ses=none) (ei:c.bytes+t.length<=c.budget) (aG:c.budget<=1073741824) (bj:c.next<=1000)
  (aC:n/2<u+xO (63+t.length)):
  Calls prog 10 #[.pointer (some ⟨sb,0,none⟩),.agg (xw A)] w (λe w'=>e=.returned (.tuple #[.slice none 0 0,.int .i64 9])/\Below w.heap.size w w'):=by
 obtain⟨w1,ai⟩:∃w1,w1=w.alloc (.cells (xw A) 37):=⟨_,rfl⟩;have aa:Below w.heap.size w w1:=by rw[ai];exact b_ _ _
 have az:w1.heap[w.heap.size]?=some (.cells (xw A) 37 (0,0)):=by rw[ai];exact heap_alloc_new w _
 obtain⟨ob,dL⟩:∃ob,ob=w1.heap.size:=⟨_,rfl⟩;obtain⟨w2,aw⟩:∃w2,w2=w1.alloc (.cells (yT A++[Value.slice none 0 0]).toArray 91):=⟨_,rfl⟩;have ak:Below w1.heap.size w1 w2:=by rw[aw];exact b_ _ _
 have dX:uy w2 ob A (.slice none 0 0):=by unfold uy;rw[aw,dL];exact heap_alloc_new w1 _
 have aj:=aa.trans (ak.mono aa.size);have dG:=(i_ dX).1;have Cc:w.heap.size<=ob:=by rw[dL];exact aa.size
 have cG:=hG.later aj;have hyl:(jO id arr date t).length+1=63+t.length:=by rw[qa];omega
 obtain⟨o1,r1⟩:=xD (n:=40) az (xY A)
 have HP:=h_ (xI0 h aj cG cK hD ob (xEw c A) (jO id arr date t) (λW=>uy W ob A (.slice none 0 0)) (by rw[qa];omega) (by rw[qa];omega) (by rw[hyl];exact aC)
  (λW b c1 c2 c3 x nb dD hle bL dt aH eF=>by
   have:=xEx bL nb eF dt (cG.later dD) (ad_ cG.size hle) ob w.heap.size (ap_ dG hle) Cc id (str t) ⟨#[]⟩ ⟨#[]⟩ date arr A hA ((dD.block _ dG).trans dX) hid (by rw[yD];omega) (by rw[yD];omega) (by omega) (by omega) (by omega) (by omega)
    (by rw[aH];exact fI) (by rw[aH];exact gu) (by rw[aH];exact co) (by rw[aH,yD];exact ei) (by rw[aH];exact aG) (by rw[aH];exact bj)
   rw[aH]at this;exact this)
  (λW W' cN dD=>by
   have Cd:uy W' ob ⟨id,str t,⟨#[]⟩,date,arr,.slice none 0 0,⟨#[]⟩,.slice none 0 0,false⟩ (.slice none 0 0):=by rw[<-hA];exact(dD.block _ (i_ cN).1).trans cN
   exact xDg ob id arr date t _ (by omega) (by omega) gX Cd))
 have sV:=h_ Cc;have au:=h_ (aj.mono hD);clear h hG cK hD hA hid ir gX gy bE fI gu co ei aG bj aC aa az ak dX aj dG Cc cG hyl;go_enter func10,ntmps10;go_upto_region 1 with fail
 refine xr ai ?_;clear ai;go_upto_region 2 with fail
 refine xr aw ?_;rw[<-dL];clear aw dL o1 r1;go_wp2_with fail;refine HP.mono ?_;rintro e w3 ⟨rfl,al⟩;have HF:Hid (Below w.heap.size w w3):=h_ al;clear al HP;go_wp2;go_ret2;exact⟨rfl,HF.out⟩
def rmC0 (c:PC)(id:Id32)(a:SArt)(e:HEnt):PC:={ c with ses:=[],bytes:=c.bytes-a.text.size,hes:=uT id (.agg (x7 { e with st:=1 })) c.hes }
theorem xL5 {D sb p n q u c F w}(h:StOk D w sb p n q u c F)(hG:Gl w)(cK:prog.globals.size<=D)(hD:D<=w.heap.size)(id a e)
  (co:c.ses=[(id,.agg (xG a))]) (ei:a.text.size<=c.bytes) (aG:c.bytes<=1073741824) (fK:c.lf=λ_=>[]) (gT:yl id c.hes=some (.agg (x7 e))) (ax:e.st=0) (aC:u+xO 34<=n/2):
  Calls prog 14 #[.pointer (some ⟨sb,0,none⟩),.agg (xl id).toArray] w (xQi D sb p n q (u+xO 34) (rmC0 c id a e) F w):=by
 obtain⟨w1,ai⟩:∃w1,w1=w.alloc (.cells (xl id).toArray 33):=⟨_,rfl⟩;have aa:Below w.heap.size w w1:=by rw[ai];exact b_ _ _
 have az:w1.heap[w.heap.size]?=some (.cells (xl id).toArray 33 (0,0)):=by rw[ai];exact heap_alloc_new w _
 obtain⟨ob,dL⟩:∃ob,ob=w1.heap.size:=⟨_,rfl⟩;obtain⟨w2,aw⟩:∃w2,w2=w1.alloc (.cells (xl id).toArray 96):=⟨_,rfl⟩;have ak:Below w1.heap.size w1 w2:=by rw[aw];exact b_ _ _
 have dX:w2.heap[ob]?=some (.cells (xl id).toArray 96 (0,0)):=by rw[aw,dL];exact heap_alloc_new w1 _
 have aj:=aa.trans (ak.mono aa.size);have dG:=(i_ dX).1;have cG:=hG.later aj;have hyl:([3]++id.1:By).length+1=34:=by simp[id.2]
 obtain⟨o1,r1⟩:=yj az
 have HP:=h_ (xC2 h aj cG cK hD ob (rmC0 c id a e) ([3]++id.1) (λW=>W.heap[ob]?=some (.cells (xl id).toArray 96 (0,0))) (by simp) (by omega) (by rw[hyl];exact aC)
  (λW b c1 c2 c3 x nb dD hle bL dt aH eF=>by
   have B2:=(dD.block _ dG).trans dX;refine(xEm bL nb eF dt (cG.later dD) (ad_ cG.size hle) id ob (ap_ dG hle) B2 a e (by rw[aH];exact co) (by rw[aH];exact ei) (by rw[aH];exact aG) (by rw[aH];exact fK) (by rw[aH];exact gT) ax).mono ?_;rintro e' w'⟨h1,h2,h3⟩;refine⟨h1,h2.mono (ad_ aj.size hle),?_,(h2.block _ (ap_ dG hle)).trans B2⟩;rw[aH]at h3;exact h3)
  (λW W' cN dD=>xAv ob id ((dD.block _ (i_ cN).1).trans cN)))
 rw[hyl]at HP;have au:=h_ (aj.mono hD);clear h hG cK hD co ei aG fK gT ax aC aa az ak dX aj dG cG hyl;go_enter func14,ntmps14;go_upto_region 1 with fail
 refine xr ai ?_;clear ai;go_wp2_with fail;rw[<-aw,<-dL];clear dL o1 r1;refine HP.mono ?_;rintro e' w3 ⟨rfl,al,oP,W,_,Ce,⟨F',gQ,nU⟩,_⟩;have ax:∃F',StOk D w3 sb p n q (u+xO 34) (rmC0 c id a e) F'/\∀k∈F',k∈F\/w.heap.size<=k:=⟨F',gQ,λk hk=>(nU k hk).imp_right (λh=>ad_ Ce h)⟩;have HF:=h_ (And.intro (au.trans al) (And.intro oP ax));clear al oP ax gQ nU Ce aw;go_wp2;go_ret;exact⟨rfl,HF.1,HF.2.1,HF.2.2⟩
theorem xL6 {D sb p n q u c F w}(h:StOk D w sb p n q u c F)(hG:Gl w)(cK:prog.globals.size<=D)(hD:D<=w.heap.size)(id a e)
  (co:c.ses=[(id,.agg (xG a))]) (ei:a.text.size<=c.bytes) (aG:c.bytes<=1073741824) (fK:c.lf=λ_=>[]) (gT:yl id c.hes=some (.agg (x7 e))) (ax:e.st=0) (aC:n/2<u+xO 34):
  Calls prog 14 #[.pointer (some ⟨sb,0,none⟩),.agg (xl id).toArray] w (λe w'=>e=.returned (.int .i64 9)/\Below w.heap.size w w'):=by
 obtain⟨w1,ai⟩:∃w1,w1=w.alloc (.cells (xl id).toArray 33):=⟨_,rfl⟩;have aa:Below w.heap.size w w1:=by rw[ai];exact b_ _ _
 have az:w1.heap[w.heap.size]?=some (.cells (xl id).toArray 33 (0,0)):=by rw[ai];exact heap_alloc_new w _
 obtain⟨ob,dL⟩:∃ob,ob=w1.heap.size:=⟨_,rfl⟩;obtain⟨w2,aw⟩:∃w2,w2=w1.alloc (.cells (xl id).toArray 96):=⟨_,rfl⟩;have ak:Below w1.heap.size w1 w2:=by rw[aw];exact b_ _ _
 have dX:w2.heap[ob]?=some (.cells (xl id).toArray 96 (0,0)):=by rw[aw,dL];exact heap_alloc_new w1 _
 have aj:=aa.trans (ak.mono aa.size);have dG:=(i_ dX).1;have cG:=hG.later aj;have hyl:([3]++id.1:By).length+1=34:=by simp[id.2]
 obtain⟨o1,r1⟩:=yj az
 have HP:=h_ (xE2 h aj cG cK hD ob (rmC0 c id a e) ([3]++id.1) (λW=>W.heap[ob]?=some (.cells (xl id).toArray 96 (0,0))) (by simp) (by omega) (by rw[hyl];exact aC)
  (λW b c1 c2 c3 x nb dD hle bL dt aH eF=>by
   have B2:=(dD.block _ dG).trans dX;refine(xEm bL nb eF dt (cG.later dD) (ad_ cG.size hle) id ob (ap_ dG hle) B2 a e (by rw[aH];exact co) (by rw[aH];exact ei) (by rw[aH];exact aG) (by rw[aH];exact fK) (by rw[aH];exact gT) ax).mono ?_;rintro e' w'⟨h1,h2,h3⟩;refine⟨h1,h2.mono (ad_ aj.size hle),?_,(h2.block _ (ap_ dG hle)).trans B2⟩;rw[aH]at h3;exact h3)
  (λW W' cN dD=>xAv ob id ((dD.block _ (i_ cN).1).trans cN)))
 have au:=h_ (aj.mono hD);clear h hG cK hD co ei aG fK gT ax aC aa az ak dX aj dG cG hyl;go_enter func14,ntmps14;go_upto_region 1 with fail
 refine xr ai ?_;clear ai;go_wp2_with fail;rw[<-aw,<-dL];clear dL o1 r1;refine HP.mono ?_;rintro e' w3 ⟨rfl,al⟩;have HF:Hid (Below w.heap.size w w3):=h_ al;clear al aw;go_wp2;go_ret;exact⟨rfl,HF.out⟩
end
section
attribute [local go_sem ↓] qj uI uL
attribute [local go_sem] xCb xBu zn zu yx yw xh xf xa x9 xu xv xk xj xq xx xt
theorem xOf {B w x}(h:zv B w x)(hG:Gl w)(sZ:x.t.g=none)(cQ:x.gs=[])(q)(hq:w.heap[q]?=some (.cells (xN x) 81 (0,0)))
  (hH:∀W,Below w.heap.size w W->Calls prog 56 #[.pointer (some ⟨x.h.p,0,none⟩)] W λe w'=>Below W.heap.size W w'/\∃u y,e=.returned u/\OwnB w' W.heap.size u y/\1<=y.length/\y.length<=20000)
  (hS:∀W,Below w.heap.size w W->Calls prog 57 #[.pointer (some ⟨x.s.p,0,none⟩)] W λe w'=>Below W.heap.size W w'/\∃u y,e=.returned u/\OwnB w' W.heap.size u y/\1<=y.length/\y.length<=20000):
  Calls prog 27 #[.pointer (some ⟨q,0,none⟩)] w λe w'=>Below w.heap.size w w'/\∃u y,e=.returned u/\OwnB w' w.heap.size u y/\1<=y.length/\y.length<=50000:=by
 obtain⟨b,hb⟩:∃b,b=w.heap.size:=⟨_,rfl⟩;obtain⟨w1,ai⟩:∃w1,w1=w.alloc (.cells #[.slice none 0 0] 132):=⟨_,rfl⟩;have aa:Below b w w1:=by rw[ai,hb];exact b_ _ _
 have lK:WrAt b w1 b []:=⟨aa_ _,_,by rw[ai,hb];exact heap_alloc_new w _,OwnB.nil _ _⟩;have HW:=h_ (vt lK 1 (by simp));have ar:=h_ aa;have H:=h_ h;have HG:=h_ hG;have HQ:=h_ hq;have KG:=h_ hH;have m6:=h_ hS;have IP:=h_ sZ;have mn:=h_ cQ;have eD:=h_ hb;have D2:Hid (q<b):=h_ (by rw[hb];exact(i_ hq).1);rw[<-hb];clear h hG hq hH hS sZ cQ aa lK;have tX:((1:UInt8).toNat:Int)=1:=rfl;have aK:(#[Value.slice none 0 0].size==1)=true:=rfl;have gK:xy 1 #[Value.slice none 0 0]=true:=by simp[xy,Value.oneCell']
 rw[tX]at HW;go_enter func27,ntmps27;go_upto_region 2 with fail
 refine xr ai ?_;rw[<-hb];clear ai hb;go_wp2_with fail;refine HW.mono ?_;rintro e w2 ⟨rfl,aj,aw⟩;have au:=h_ (ar.trans aj);have IQ:=h_ aw;have wK:=(au.block q D2.out).trans HQ.out;have c2:=cell_of_row w2 q 0 _ _ _ wK;simp only[xN,v_]at c2;have Gk:zv B w2 x:=H.below (by rw[<-eD.out];exact au.out);have HH:=h_ (KG.out w2 (by rw[<-eD.out];exact au.out));clear aj aw wK Gk HW;go_wp2_with fail;refine HH.mono ?_;rintro e w3 ⟨al,u,yh,rfl,ae,Ed,Po⟩;have Rq:=h_ (And.intro Ed Po);obtain⟨ua,un,uc,hu⟩:=uA ae;have gV:=xFo ae (λe=>by rw[e]at Ed;simp at Ed);have dr:b<=w2.heap.size:=by rw[eD.out];exact au.size
 have ay:Hid (Below b w w3):=h_ (au.trans (al.mono dr));have BN:=h_ (zC (IQ.below al) yh (by omega) (by simp));subst hu;clear al ae Ed Po HH c2 dr;go_wp2_with fail;refine BN.mono ?_;rintro e w4 ⟨rfl,aQ,cP⟩;have bt:=h_ (ay.trans aQ);have wI:=h_ cP;have gk:∀W,Below b w W->w.heap.size<=W.heap.size:=λW h=>h.size
 have Of:=(bt.block q D2.out).trans HQ.out;have c4:=cell_of_row w4 q 1 _ _ _ Of;simp only[xN,v_]at c4;have Rf:zv B w4 x:=H.below (by rw[<-eD.out];exact bt.out);have HS:=h_ (m6.out w4 (by rw[<-eD.out];exact bt.out));clear aQ cP Of Rf gV BN gk;go_wp2_with fail;refine HS.mono ?_;rintro e w5 ⟨aF,u,ys,rfl,ae,Ee,Pp⟩;have CY:=h_ (And.intro Ee Pp);obtain⟨ua5,un5,uc5,hu⟩:=uA ae;have gV:=xFo ae (λe=>by rw[e]at Ee;simp at Ee);have dr:b<=w4.heap.size:=by rw[eD.out];exact bt.size
 have aU:Hid (Below b w w5):=h_ (bt.trans (aF.mono dr));have rI:=h_ (zC (wI.below aF) ys (by omega) (by have h1:=Rq.out;simp[xe];omega));subst hu;clear aF ae Ee Pp HS c4 dr;go_wp2_with fail;refine rI.mono ?_;rintro e w6 ⟨rfl,bV,b8⟩;have fb:=h_ (aU.trans bV);have IR:=h_ b8;have Og:=(fb.block q D2.out).trans HQ.out;have c6:=cell_of_row w6 q 2 _ _ _ Og;simp only[xN,v_]at c6;have Oh:zv B w6 x:=H.below (by rw[<-eD.out];exact fb.out);have HT:=h_ (xFq Oh.t IP.out);clear bV b8 Og Oh gV rI;go_wp2_with fail;refine HT.mono ?_;rintro e w7 ⟨rfl,cY⟩;have dr:b<=w6.heap.size:=by rw[eD.out];exact fb.size
 have fA:Hid (Below b w w7):=h_ (fb.trans (cY.mono dr));have sR:=h_ (zC (IR.below cY) [] (by simp) (by have h1:=Rq.out;have h2:=CY.out;simp[xe];omega));clear cY HT c6 dr;go_wp2_with fail;rw[xCp];refine sR.mono ?_;rintro e w8 ⟨rfl,dj,sX⟩;have gB:=h_ (fA.trans dj);have IS:=h_ sX;have Oi:=(gB.block q D2.out).trans HQ.out;have c8:=cell_of_row w8 q 3 _ _ _ Oi;simp only[xN,v_]at c8;have rJ:Below w.heap.size w w8:=by rw[<-eD.out];exact gB.out
 have Oj:zv B w8 x:=H.below rJ;have nS:=Oj.o;rw[mn.out]at nS;have HO:=h_ (xA9 _ _ _ _ w8 (HG.later rJ) nS);clear dj sX Oi Oj rJ nS sR;go_wp2_with fail;refine HO.mono ?_;rintro e w9 ⟨rfl,fc⟩;have dr:b<=w8.heap.size:=by rw[eD.out];exact gB.size
 have fW:Hid (Below b w w9):=h_ (gB.trans (fc.mono dr));have D3:=h_ (zC (IS.below fc) [] (by simp) (by have h1:=Rq.out;have h2:=CY.out;simp[xe];omega));clear fc HO c8 dr;go_wp2_with fail;rw[xCp];refine D3.mono ?_;rintro e bn ⟨rfl,dT,rK,v,hr,ho⟩;obtain⟨y,hy⟩:∃y,y=((((((((([]:By)++[1])++beB 4 yh.length++yh)++beB 4 ys.length++ys)++beB 4 ([]:By).length++[])++beB 4 ([]:By).length++[])))):=⟨_,rfl⟩;have cI:OwnB bn b v y:=by rw[hy];exact ho
 have hyl:1<=y.length/\y.length<=50000:=by
  have h1:=Rq.out;have h2:=CY.out;rw[hy];simp[xe];omega
 have Kr:=cell_of_row bn b 0 _ _ _ hr;simp only[v_]at Kr;have HF:=h_ (And.intro (fW.trans dT) (And.intro cI hyl));clear dT rK hr ho hy cI hyl D3;go_wp2;go_ret;exact⟨HF.1,v,y,rfl,HF.2.1,HF.2.2⟩
end
theorem xAy {w}{b p n area gen first used:Nat}{ev sy fa}(h:w.heap[b]?=some (.cells (xX p n area gen first ev used sy fa) 124 (0,0))):
  Calls prog 67 #[.pointer (some ⟨b,0,none⟩)] w λe w'=>e=.returned (.int .i64 first)/\w=w':=by
 have c5:=cell_of_row w b 5 _ _ _ h;simp only[xX,v_]at c5;clear h;go_enter func67,ntmps67;go_wp2;go_ret;exact⟨rfl,rfl⟩
theorem xYl:prog.elem 116=31:=by kernel_rfl
theorem xUe (g n cap k)(hk:k<=n)(hc:k<cap)(w):Sem.run prog (Instr.sliceAt 116 (.slice (some ⟨g,0,none⟩) n cap) (some (.int .i64 k)) none none) w=.ok (.slice (some ⟨g,k,none⟩) (n-k) (cap-k)) w:=by
 rw[run_sliceAt_slice w 116 _ _ _ _ (by kernel_rfl),run_slice_l w 116 (some ⟨g,0,none⟩) n cap (by kernel_rfl) .i64 k (by omega) (by omega),xYl,sizeOf31];simp only[aw_,sliced,be_,aU_,bz_];have:(⟨g,0,none⟩:Addr).add k=⟨g,k,none⟩:=by rw[an_,aq_]
 split
 ·omega
 ·rw[this]
theorem xUu (L k):jF (L.drop k)<=jF L:=by
 have:jF L=jF (L.take k)+jF (L.drop k):=by
  unfold jF;rw[<-eh_,<-bl_,bM_]
 omega
theorem xM7 {B w ev L vs}(h:EnAt w B ev L vs)(k)(hk:k<L.length)(ao:L.length<=100000):
  Calls prog 68 #[ev,.int .i64 k] w λe w'=>∃u,e=.returned u/\w'.ownsRow w.heap.size 31 1 u (L.length-k) (vs.drop k)/\Below w.heap.size w w':=by
 obtain⟨g,cap,hv,aT⟩:∃g cap,ev=.slice (some ⟨g,0,none⟩) L.length cap/\L.length<=cap:=by
  rcases h.own.2 with⟨_,h0⟩|⟨g,cap,cur,hv,hg,aq,hle,r⟩
  ·omega
  ·exact⟨g,cap,hv,hle⟩
 obtain⟨n,hn⟩:∃n,n=L.length:=⟨_,rfl⟩;have cu:=xUe g n cap k (by omega) (by omega);have mB:vs.length=n:=h.len.trans hn.symm;have HC:Hid (∀j u,(vs.drop k)[j]?=some u->w.cell? ((⟨g,k,none⟩:Addr).add j)=some u):=h_ λj u hj=>by
  rw[cg_]at hj;have:=bc_ h.own (g:=g) (by rw[hv];rfl) (k+j) u hj;rw[an_]at this⊢
  rwa [aq_]at this
 have HO:Hid (∀u∈vs.drop k,u.oneCell'=true):=h_ λu hu=>by
  obtain⟨i,hi,rfl⟩:=bF_.1 (bp_ hu);have h1:=(h.el i (by rw[<-h.len];exact hi)).1;rcases h1.at with⟨h0,_⟩|⟨g,c,h0,_⟩ <;> rw[h0] <;> rfl
 have HL:Hid ((vs.drop k).length=(n-k)*1):=h_ (by rw[ao_,mB,bz_]);have HM:Hid (0+(n-k)<=maxLen/\(0+(n-k))*24<=140737488355328):=h_ ⟨by unfold maxLen;omega,by omega⟩;obtain⟨i0,hi,bd,aL,bk⟩:=info_parts Tryz.info_slb;have HI:=h_ (And.intro hi (And.intro bd (And.intro aL bk)));have HNK:Hid (n-k≠0):=h_ (by omega);rw[hv,<-hn];have C9:(k:Int)<n:=by omega
 clear h hv aT hk ao mB hn hi bd aL bk;go_enter func68,ntmps68;go_wp2_with (at_builtin;refine wpList_append_own_at _ rfl (.const (.slice none 0 0)) (.tmp 7) 116 rfl w.heap.size 31 i0 (.slice none 0 0) 1 24 underlying116 HI.1 HI.2.1 HI.2.2.1 HI.2.2.2 rfl (by decide) _ 0 [] rfl (aP_ _ _ _ _) ⟨g,k,none⟩ (n-k) (cap-k) (vs.drop k) rfl HL.out HC.out HO.out HM.1 HM.2 (aa_ _) ?_);intro v' w' ho hg _ _
 try rw[aq_]at ho
 try rw[aM_]at ho
 have HF:Hid (w'.ownsRow w.heap.size 31 1 v' (n-k) (vs.drop k)/\Below w.heap.size w w'):=h_ ⟨ho,(ab_ _ _).grown hg (aa_ _) (λq e=>by cases e)⟩;obtain⟨va,vc,fB⟩:=yd ho;subst fB;clear ho hg cu;go_wp2;go_ret;exact⟨_,rfl,HF.out⟩
theorem yCe {P ops}{Q:Exit->Act->World->Prop}{C:World->Prop}{D E rest r a w}(b)(hlt:decide (r<ops.size)=true)(hb:xC9 ops D E r=b)(h:wpList P ops (QnD P ops Q C D E rest b) (zW ops [r]) a w):wpN P ops Q C D E (r :: rest) a w:=
 xBp b (o:=ops.getD r default) (by simp[of_decide_eq_true hlt]) hb h
def xX1 (D b:Nat)(v:Dev)(d:PD)(J:PJ)(es:List Nat)(w:World)(e:Ending)(w':World):Prop:=
 e=.returned (.int .i64 0)/\Kept (b :: v.foot) w w'/\∃v' es',v'.p=v.p/\v'.M=v.M/\JAt D w' b v' (d.puts (J.area*(d.n/2)) (J.secs sha)).1.flushed J es' ((J.first:Int)+J.entries.length) 0/\(∀k∈v'.foot,k∈v.foot\/w.heap.size<=k)/\∀k∈es',k∈es\/w.heap.size<=k
theorem xUz {D b w v d j es sy}(h:JAt D w b v d j es sy 0)(hK:qU w)(k)(hk1:1<=k)(hk2:k<j.entries.length)(ao:j.entries.length<=100000)(hL:j.entries.length<=k+1000)(hg2:j.gen+2<=2147483647)(mJ:j.first+100000<=2147483647)(aN:d.pend.length<=900000)(hD:D<=w.heap.size)(lS:2<D):
  Calls prog 36 #[.pointer (some ⟨b,0,none⟩),.int .i64 ((j.first:Int)+k)] w (xX1 D b v d (movJ d.n d j (j.first+k) (j.entries.drop k)) es w):=by
 obtain⟨ev,vs,bO,bS,fF,gM⟩:=h.ex;obtain⟨J,hJ⟩:∃J,J=movJ d.n d j (j.first+k) (j.entries.drop k):=⟨_,rfl⟩;rw[<-hJ];have aG:=h.blt;obtain⟨ln,cX⟩:∃ln,ln=j.entries.length:=⟨_,rfl⟩;obtain⟨ea,ec,eL⟩:=yd bS.own;rw[<-cX]at eL hk2 ao hL;obtain⟨us,mM⟩:∃us,us=(j.secs sha).length:=⟨_,rfl⟩;rw[<-mM]at bO;have Km:1+jF (j.entries.drop k)<=d.n/2:=by
  have h1:=h.inv.fit;rw[zM]at h1;have:=xUu j.entries k;omega
 have Vn:=h.inv.moved (fi:=j.first+k) (L:=j.entries.drop k) h.up hg2 (by omega) (by rw[ao_];omega) (λy hy=>h.inv.ok.ents y (bp_ hy)) Km;rw[<-hJ]at Vn;obtain⟨w1,ai⟩:∃w1,w1=w.alloc (.cells #[.int .i64 0] 24):=⟨_,rfl⟩;have aa:Below w.heap.size w w1:=by rw[ai];exact b_ _ _
 have iD:w1.heap[w.heap.size]?=some (.cells #[.int .i64 0] 24 (0,0)):=by rw[ai];exact heap_alloc_new w _
 have aV:=(aa.block b aG).trans bO;have Bs:=h_ (kS aV);have Rr:=h_ (xAy aV);rw[eL]at aV;have gw:(j.first:Int)+100000<=2147483647:=by omega
 have C9:(k:Int)<ln:=by omega
 have DI:(1:Int)<=k:=by omega
 have G_:(ln:Int)<=100000:=by omega
 have sG:=h_ (ju aV (by omega) (by omega));have Vo:Below w1.heap.size w1 w1.drew:=(ab_ _ _).drew;have Vp:(0:Int)<=j.first:=by omega
 have HZ:Hid (∀z:x8 w1,Calls prog 67 #[.pointer (some ⟨b,0,none⟩)] z.1 λe w'=>e=.returned (.int .i64 j.first)/\∃z':x8 w1,w'=z'.1):=h_ λz=>x8.call_same (xAy ((z.2.block _ (i_ aV).1).trans aV))
 have Nl:Hid (∀z:x8 w1,Calls prog 68 #[.slice ea ln ec,.int .i64 k] z.1 λe w'=>∃u,e=.returned u/\w'.ownsRow z.1.heap.size 31 1 u (ln-k) (vs.drop k)/\Below z.1.heap.size z.1 w'):=h_ λz=>by
  have:=xM7 ((bS.later aa).later z.2) k (by omega) (by omega);rw[eL,<-cX]at this;exact this
 obtain⟨fz,Vq⟩:∃fz:Int,fz=(j.first:Int):=⟨_,rfl⟩;obtain⟨s1,aK⟩:∃s1:Int,s1=fz+(k:Int):=⟨_,rfl⟩;obtain⟨s2,cT⟩:∃s2:Int,s2=fz+(ln:Int):=⟨_,rfl⟩;have dO:decide (s1<fz)=false:=decide_eq_false (by omega);have gm:decide (s2<s1)=false:=decide_eq_false (by omega);have CH:(s1==fz)=false:=by rw[beq_eq_false_iff_ne];omega
 have hc4:s1-fz=(k:Int):=by omega
 have tG:(0:Int)<=k:=by omega
 have MW:(k:Int)<=100000:=by omega
 rw[<-Vq]at Rr sG HZ⊢;rw[<-aK];rw[<-cT]at sG;have k6:=cell_of_row w1 b 6 _ _ _ aV;simp only[xX,v_]at k6;have z1:∀z:x8 w1,z.1.cell? ⟨b,6,none⟩=some (.slice ea ln ec):=λz=>z.cell k6
 have H:=h_ h;have HK:=h_ hK;rw[eL]at bS fF;have eB:=h_ (And.intro bS (And.intro fF gM));have ar:=h_ aa;have wN:=h_ iD;have iw:=h_ aV;have dR:=h_ cX;have HJ:=h_ hJ;have HJI:=h_ Vn;have HNF:=h_ Km;have Vr:=h_ Vq;have bW:=h_ aK;have HX:=h_ (And.intro hg2 (And.intro mJ (And.intro aN (And.intro hD lS))));have Ib:=h_ mM;have lY:=h_ aG;have Vs:=h_ (And.intro hk1 (And.intro hk2 (And.intro ao hL)));clear h hK bO bS fF gM hJ aG cX eL mM Km Vn aa iD aV Vo k6 hg2 mJ aN hD lS hk1 hk2 ao hL Vq aK cT gw C9 DI G_ Vp;go_enter_defers func36,ntmps36;go_upto_region 1 with fail
 refine xr ai ?_;clear ai;go_wp2_with fail;refine Bs.mono ?_;rintro e w' ⟨rfl,rfl⟩;go_wp2_with fail;refine Rr.mono ?_;rintro e w' ⟨rfl,rfl⟩;go_wp2_with fail;refine sG.mono ?_;rintro e w' ⟨rfl,m2,rfl⟩;have aj:Below w1.heap.size w1 (w1.drewN m2):=xS (ab_ _ _) m2;generalize w1.drewN m2=w2 at aj⊢;have aP:=(aj.block b (ap_ lY.out ar.size)).trans iw.out;have YP:=h_ (xAy aP);rw[<-Vr.out]at YP;have fu:=h_ aP;have au:=h_ aj;clear aj aP;go_wp2_with fail;refine YP.mono ?_;rintro e w' ⟨rfl,rfl⟩;have Jm:Below w1.heap.size w1 w2:=au.out;have Vt:=cell_of_row w2 b 6 _ _ _ fu.out;simp only[xX,v_]at Vt;have z2:∀z:x8 w2,z.1.cell? ⟨b,6,none⟩=some (.slice ea ln ec):=λz=>z.cell Vt
 have AE:Hid (∀z:x8 w2,Calls prog 67 #[.pointer (some ⟨b,0,none⟩)] z.1 λe w'=>e=.returned (.int .i64 fz)/\∃z':x8 w2,w'=z'.1):=h_ λz=>by
  rw[Vr.out];exact x8.call_same (xAy ((z.2.block _ (i_ fu.out).1).trans fu.out))
 have Pq:Hid (∀z:x8 w2,Calls prog 68 #[.slice ea ln ec,.int .i64 k] z.1 λe w'=>∃u,e=.returned u/\w'.ownsRow z.1.heap.size 31 1 u (ln-k) (vs.drop k)/\Below z.1.heap.size z.1 w'):=h_ λz=>Nl.out ⟨z.1,Jm.trans (z.2.mono Jm.size)⟩
 clear Jm Vt HZ Nl z1;go_upto_region 9 with fail
 refine ui (by kernel_rfl) ?_;refine jZ [0,1,2,3,4,5,6,7,8,9,10] [11,12,13] 0 (λw'=>∃z:x8 w2,w'=z.1) (by kernel_rfl) (by kernel_rfl) rfl rfl ⟨⟨_,(ab_ _ _).drew⟩,rfl⟩ ?_;simp only[o_]
 repeat (go_big_quiet_step (first|(go_at_call 67;exact AE.out _)))
 refine wpQuiet_nil ?_;rintro _ ⟨z,rfl⟩;clear z2 AE;refine yCe true (by kernel_rfl) (by kernel_rfl) ?_;simp only[o_];go_wp2_with fail;refine(Pq.out z).mono ?_;rintro e w3 ⟨u,rfl,ae,al⟩;obtain⟨ua,uc,hu⟩:=yd ae;subst hu;obtain⟨z,bz⟩:=z;have dM:Below w2.heap.size w2 w3:=bz.trans (al.mono bz.size);have nI:=h_ dM;have cC:=(ar.trans ((au.trans (dM.mono au.size)).mono ar.size));have fH:=h_ cC;have YQ:w.heap.size<z.heap.size:=ap_ (ap_ (i_ wN.out).1 au.size) bz.size;have Jn:EnAt w3 D (.slice ea ln ec) j.entries vs:=eB.1.later cC;have mB:vs.length=ln:=eB.1.len.trans dR.symm;have Jo:EnAt w3 D (.slice ua (ln-k) uc) (j.entries.drop k) (vs.drop k):=by
  have mZ:(j.entries.drop k).length=ln-k:=by rw[ao_,dR.out]
  refine⟨by rw[mZ];exact jP ae (ad_ HX.2.2.2.1 (bB_ YQ)),by rw[ao_,ao_,mB,dR.out],λi hi=>?_⟩;have Eu:k+i<j.entries.length:=by rw[mZ]at hi;rw[<-dR.out];omega
  have h1:=Jn.el (k+i) Eu;have e1:(vs.drop k)[i]'(by rw[ao_,mB];rw[mZ]at hi;exact hi)=vs[k+i]'(by rw[Jn.len];exact Eu):=cn_ ..;have e2:(j.entries.drop k)[i]=j.entries[k+i]:=cn_ ..;rw[e1,e2];refine⟨h1.1,h1.2.1,λq hq e=>?_⟩;have h2:=(eB.1.blk _ (bb_ (by rw[eB.1.len];exact Eu)) q hq).2.1;have h3:z.heap.size<=q:=(aL_ ae q e).1;omega
 have dv:=(dM.block b (i_ fu.out).1).trans fu.out;have Pr:=H.dev.below cC
 have Ft:=h_ (xN6 (B:=D) Pr H.up (HK.below cC (aa_ _)) j H.inv HX.1 (j.first+k) (by have:=HX.2.1;have:=Vs.2.1;have:=Vs.2.2.1;omega) (j.entries.drop k) (λy hy=>H.inv.ok.ents y (bp_ hy)) HNF.out (.slice ua (ln-k) uc) (vs.drop k) Jo (ad_ HX.2.2.2.1 cC.size)
  (λx hx q hq=>(H.es_ q (eB.2.2 x (bp_ hx) q hq)).2.2.2) HX.2.2.1 (ad_ HX.2.2.2.1 cC.size) (by rw[ao_,<-dR.out];have:=Vs.2.2.2;omega) HX.2.2.2.2 H.bv _ _ _ _ _ dv)
 rw[<-HJ.out,show ((j.first+k:Nat):Int)=s1 by rw[bW.out,Vr.out];simp]at Ft;have sT:=((au.trans (dM.mono au.size)).block _ (i_ wN.out).1).trans wN.out;have Kq:=h_ sT;have Vu:=h_ Jo;have bX:Hid (∀q,(Value.slice ua (ln-k) uc).ownBlock=some q->w.heap.size<q/\q<w3.heap.size):=h_ λq hq=>by
  have h3:z.heap.size<=q/\q<w3.heap.size:=aL_ ae q hq;omega
 clear ae al dM cC YQ Jn mB Jo dv Pr sT Pq;go_wp2;refine⟨λ_=>⟨⟨w3,nI.out⟩,rfl⟩,uD [12,13] _ _ (by kernel_rfl) ?_⟩;simp only[o_];go_wp2_with fail;refine Ft.mono ?_;rintro e w4 ⟨rfl,dQ,lB,v4,tQ,oB,eq,mF⟩;have aG:=lY.out;have Vv:=fH.size;have eT:w.heap.size<w3.heap.size:=(i_ Kq.out).1
 have rF:=(dQ.block w.heap.size eT (λhm=>by
  rcases ae_.1 hm with h1|h1
  ·omega
  ·exact bX_ _ (H.dev.foot_lt _ h1).2)).trans Kq.out
 have c4:=cell_of_row w4 w.heap.size 0 _ _ _ rF;have f4:=frozen_of_row w4 w.heap.size 0 _ _ rF;simp only[v_]at c4;obtain⟨w5,aY⟩:∃w5,w5=w4.setCell ⟨w.heap.size,0,none⟩ (.int .i64 0):=⟨_,rfl⟩;have Bt:w5.heap[w.heap.size]?=some (.cells #[.int .i64 0] 24 (0,0)):=by rw[aY,heap_setCell_same w4 w.heap.size 0 _ _ _ rF];rfl
 have bC:Kept [w.heap.size] w4 w5:=by rw[aY];exact zd w4 w.heap.size 0 _
 have mA:=(bC.block b (i_ lB).1 (λhm=>by have:=ac_.1 hm;omega)).trans lB;have Rj:w.heap.size∉v4.foot:=λhm=>by
  rcases mF _ hm with h1|h1
  ·exact bX_ _ (H.dev.foot_lt _ h1).2
  ·omega
 have b7:b∉v4.foot:=λhm=>by
  rcases mF _ hm with h1|h1
  ·exact H.bv h1
  ·omega
 have nL:=eq.kept bC (λq hq hm=>Rj (by rw[ac_.1 hm]at hq;exact hq));have YR:J.entries=j.entries.drop k:=by rw[HJ.out];rfl
 have Ef:∀q∈es,q≠b/\q∉v.foot/\q<w.heap.size:=λq hq=>⟨(H.es_ q hq).2.2.1,(H.es_ q hq).2.2.2,(H.es_ q hq).2.1⟩
 have Ps:EnAt w5 D (.slice ua (ln-k) uc) J.entries (vs.drop k):=by
  rw[YR];refine(Vu.kept dQ (λq hm=>?_)).kept bC (λq hm=>?_)
  ·have hq:q=b\/q∈v.foot:=ae_.1 hm;refine⟨λe=>?_,λx hx e=>?_⟩
   ·have h1:=(bX.out q e).1;rcases hq with h|h
    ·omega
    ·have:=(H.dev.foot_lt _ h).2;omega
   ·have h1:=Ef q (eB.2.2 x (bp_ hx) q e);rcases hq with h|h
    ·exact h1.1 h
    ·exact h1.2.1 h
  ·rw[ac_.1 hm];refine⟨λe=>?_,λx hx e=>?_⟩
   ·have h1:=(bX.out _ e).1;omega
   ·have h1:=(Ef _ (eB.2.2 x (bp_ hx) _ e)).2.2;omega
 have DT:Kept (b :: v.foot) w w5:=(((Kept.of_below (F:=b :: v.foot) fH.out).trans dQ (λq hq=>.inl hq))).trans bC (λq hq=>.inr (by rw[ac_.1 hq];exact aa_ _));have Vw:=bC.size;have Vx:=dQ.size;have dB:d.Up:=H.up;obtain⟨YS,YT,YU⟩:=HJI.out;have oL:JAt D w5 b v4 (d.puts (J.area*(d.n/2)) (J.secs sha)).1.flushed J (es++(Value.slice ua (ln-k) uc).ownBlock.toList) ((J.first:Int)+J.entries.length) 0:=by
  have eW:(d.puts (J.area*(d.n/2)) (J.secs sha)).1.flushed.n=d.n:=YT;refine⟨⟨Value.slice ua (ln-k) uc,vs.drop k,by rw[tQ,eW];exact mA,Ps,λq hq=>aj_.2 (.inr (aT_.2 hq)),λx hx q hq=>aj_.2 (.inl (eB.2.2 x (bp_ hx) q hq))⟩,nL,by rw[eW];exact JInv.flushed sha YU,xB5 YS,H.bB,b7,λq hq=>?_⟩;rcases aj_.1 hq with h1|h1
  ·have h2:=Ef q h1;refine⟨(H.es_ q h1).1,by omega,h2.1,λhm=>?_⟩;rcases mF _ hm with h3|h3
   ·exact h2.2.1 h3
   ·omega
  ·have h2:=bX.out q (aT_.1 h1);refine⟨by have:=HX.2.2.2.1;omega,by omega,by omega,λhm=>?_⟩;rcases mF _ hm with h3|h3
   ·have:=(H.dev.foot_lt _ h3).2;omega
   ·omega
 have aS:Hid (xX1 D b v d J es w (.returned (.int .i64 0)) w5):=h_ ⟨rfl,DT,v4,_,tQ,oB,oL,λq hq=>(mF q hq).imp_right (λh=>by omega),λq hq=>by
  rcases aj_.1 hq with h1|h1
  ·exact .inl h1
  ·exact .inr (bB_ (bX.out q (aT_.1 h1)).1)⟩
 have Ka:=h_ Bt;clear dQ lB tQ oB eq mF aG Vv eT rF Bt bC mA Rj b7 nL YR Ef Ps DT Vw Vx dB YS YT YU oL Ft;go_wp2;refine ag_ ?_;rw[uo];refine vB (by kernel_rfl) ?_;rw[<-aY];clear aY c4 f4;go_wp2;have Nu:=cell_of_row _ w.heap.size 0 _ _ _ Ka.out;refine leaves_cons (f:=60) (args:=#[.pointer (some ⟨b,0,none⟩),.pointer (some ⟨w.heap.size,0,none⟩)]) (by simp) (by simp[go_sem]) ?_;refine(xIg b w.heap.size _ Nu).mono ?_;rintro e u' w'' ⟨rfl,rfl,rfl⟩;exact⟨_,xMp rfl _ _ _ _ rfl Nu,aS.out⟩
section
attribute [local go_sem ↓] qm uJ uN kZ jT jV xA0 jU
attribute [local go_sem] xP5 xOb xQ8 xCc xBv xP4 xOa zn zu yx yw xh xf xa x9 xu xv xk xj xq xx xt
def kd (D sb p n q:Nat)(c:PC)(F:List Nat)(w:World)(e:Ending)(w':World):Prop:=
 (e=.returned (.int .i64 9)/\Below w.heap.size w w')\/(e=.returned (.int .i64 0)/\Below D w w'/\Kept F w w'/\∃F' u',StOk D w' sb p n (q+5000) u' c F'/\∀k∈F',k∈F\/w.heap.size<=k)
theorem xL9 {D sb p n q u c F w}(h:StOk D w sb p n q u c F)(hG:Gl w)(cK:prog.globals.size<=D)(hD:D<=w.heap.size)(lS:2<D)(hq:q<=1000000000)(lJ:c.tc=none)(fK:c.lf=λ_=>[])
  (hH:∀(B:Nat) (W:World) (v:Hst),yO B W v->kvs v.es=c.hes->v.cut=c.cut->Calls prog 56 #[.pointer (some ⟨v.p,0,none⟩)] W λe w'=>Below W.heap.size W w'/\∃u y,e=.returned u/\OwnB w' W.heap.size u y/\1<=y.length/\y.length<=20000)
  (hS:∀(B:Nat) (W:World) (v:Spo),yE B W v->kvs v.es=c.ses->v.budget=c.budget->Calls prog 57 #[.pointer (some ⟨v.p,0,none⟩)] W λe w'=>Below W.heap.size W w'/\∃u y,e=.returned u/\OwnB w' W.heap.size u y/\1<=y.length/\y.length<=20000):
  Calls prog 12 #[.pointer (some ⟨sb,0,none⟩)] w (kd D sb p n q c F w):=by
 obtain⟨b,v,d,j,ev,sy,x,B,T,ax,hp,hn,aN,hu,eK,aH,FL,rfl⟩:=h;have Bs:=h_ (jK ax);obtain⟨e0,vs0,tL,fE,_⟩:=ax.jat.ex;obtain⟨ea,ec,eL⟩:=yd fE.own;rw[eL]at tL;have aA:=ax.jat.dev.n2;rw[hn]at aA;have wM:u<=n/2:=by rw[<-hu,<-hn];exact ax.jat.inv.fit
 have sG:=h_ (ju tL ax.jat.inv.ok.first (by omega));have c0:=cell_of_row w sb 0 _ _ _ ax.blk;simp only[v_]at c0;have aO:=h_ ax;have HG:=h_ hG;have HD:=h_ (And.intro cK (And.intro hD (And.intro lS hq)));have HP:=h_ (And.intro lJ fK);have KG:=h_ hH;have m6:=h_ hS;have HX:=h_ (And.intro hp (And.intro hn (And.intro aN (And.intro hu (And.intro eK (And.intro aH (And.intro FL wM)))))));have pq:Hid (sb<w.heap.size):=h_ (i_ ax.blk).1;have iY:Hid (∀k∈yQ b v ev,D<=k/\k<w.heap.size):=h_ ax.jlt;have bQ:=h_ aA;obtain⟨fi,mJ⟩:∃fi:Int,fi=(j.first:Int)+j.entries.length:=⟨_,rfl⟩;rw[<-mJ]at sG;have Rr:=h_ mJ;clear hG cK hD lS hq lJ fK hH hS hp hn aN hu eK aH FL ax tL fE eL aA wM mJ;go_enter func12,ntmps12;go_wp2_with fail;refine Bs.mono ?_;rintro e w' ⟨rfl,rfl⟩;go_wp2_with fail;refine sG.mono ?_;rintro e w1 ⟨rfl,m1,rfl⟩;have aa:Below w.heap.size w (w.drewN m1):=xS (ab_ _ _) m1;generalize w.drewN m1=w1 at aa⊢;have Jp:=aO.below aa;clear c0;have c0:=cell_of_row w1 sb 0 _ _ _ Jp.blk;simp only[v_]at c0;obtain⟨I0,KJ⟩:=xUn Jp.blk;have z0:∀z:x8 w1,z.1.cell? ⟨sb,0,none⟩=some (.pointer (some ⟨b,0,none⟩)):=λz=>z.cell c0
 have z1:∀z:x8 w1,xo z.1 ⟨sb,1,none⟩ 4=true:=λz=>x8.ok I0 z
 have z2:∀z:x8 w1,xm z.1 ⟨sb,1,none⟩ 4=#[.pointer (some ⟨x.h.p,0,none⟩),.pointer (some ⟨x.s.p,0,none⟩),.pointer (some ⟨x.t.p,0,none⟩),.pointer (some ⟨x.ib,0,none⟩)]:=λz=>(x8.rd I0 z).trans KJ
 have bJ:xy 4 #[Value.pointer (some ⟨x.h.p,0,none⟩),.pointer (some ⟨x.s.p,0,none⟩),.pointer (some ⟨x.t.p,0,none⟩),.pointer (some ⟨x.ib,0,none⟩)]=true:=jj _ _ _ _ rfl rfl rfl rfl;have DR:(zL.size==4)=true:=rfl;obtain⟨w2,aw⟩:∃w2,w2=(w1.alloc (.cells #[.pointer (some ⟨x.h.p,0,none⟩),.pointer (some ⟨x.s.p,0,none⟩),.pointer (some ⟨x.t.p,0,none⟩),.pointer (some ⟨x.ib,0,none⟩)] 81)).drew:=⟨_,rfl⟩;have ak:Below w1.heap.size w1 w2:=by rw[aw];exact((ab_ _ _).alloc (aa_ _) _).drew
 have aA:w2.heap[w1.heap.size]?=some (.cells (xN x) 81 (0,0)):=by rw[aw];exact heap_alloc_new w1 _
 have aj:=aa.trans (ak.mono aa.size);have oE:=aO.below aj;have sZ:x.t.g=none:=by
  have h1:x.t.c=none:=by have:=HP.1;rw[<-HX.2.2.2.2.2.1]at this;exact this
  unfold Tbl.c at h1;simpa using h1
 have tW:=oE.prt.at;have cQ:x.gs=[]:=xJk tW.o.names (λG hG=>(tW.o.grps G hG).some') (by have:=HP.2;rw[<-HX.2.2.2.2.2.1]at this;exact this)
 have eB:=h_ (xOf tW (HG.later aj) sZ cQ w1.heap.size aA
  (λW hW=>KG.out _ W x.h (tW.below hW).h (by rw[<-HX.2.2.2.2.2.1];rfl) (by rw[<-HX.2.2.2.2.2.1];rfl))
  (λW hW=>m6.out _ W x.s (tW.below hW).s (by rw[<-HX.2.2.2.2.2.1];rfl) (by rw[<-HX.2.2.2.2.2.1];rfl)))
 have ar:=h_ aa;have dU:=h_ ak;have au:=h_ aj;have eU:=h_ oE;clear aa Jp I0 KJ c0 aA aj oE sZ cQ tW;go_upto_region 5 with fail
 refine xp [0,1,2,3,4,5,6,7,8] [9,10,11,12] (λw'=>∃z:x8 w1,w'=z.1) (by kernel_rfl) (by kernel_rfl) (by kernel_rfl) ⟨⟨w1.drew,(ab_ _ _).drew⟩,rfl⟩ ?_;simp only[o_]
 repeat (go_big_quiet_step (fail))
 refine wpQuiet_nil ?_;clear z0 z1 z2;refine yb true (by kernel_rfl) (by kernel_rfl) ?_;simp only[o_];go_wp2;rw[<-aw];clear aw;refine⟨λ_=>⟨⟨w2,ak⟩,rfl⟩,yb true (by kernel_rfl) (by kernel_rfl) ?_⟩;simp only[o_];clear ak;go_wp2_with fail;refine eB.mono ?_;rintro e w3 ⟨al,yv,y,rfl,ae,nR,iL⟩;obtain⟨yg,yc,Ip,FM,CV,FN⟩:∃g cap,yv=.slice (some ⟨g,0,none⟩) y.length cap/\y.length<=cap/\g<w3.heap.size/\SlB w3 ⟨g,0,none⟩ y:=by
  rcases ae.at with⟨_,h⟩|⟨g,cap,h1,h2,h3,h4,h5⟩
  ·rw[h]at nR;exact absurd nR (by simp)
  ·exact⟨g,cap,h1,h3,(ae.lt (k:=g) (by rw[h1];rfl)).2,h5⟩
 subst Ip;have lq:Below w1.heap.size w1 w3:=dU.trans (al.mono dU.size);have cC:Below w.heap.size w w3:=au.trans (al.mono au.size);have gO:=aO.below cC;have fH:=h_ cC;have ej:=h_ gO;have Pt:=h_ (And.intro nR iL);have CY:=h_ (And.intro FN (And.intro CV FM));go_wp2;refine⟨λ_=>⟨⟨w3,lq⟩,rfl⟩,xB [11,12] _ _ (by kernel_rfl) ?_⟩;simp only[o_];clear al ae FM CV FN lq cC gO nR iL eB;by_cases hroom:u+xO (y.length+1)<=n/2
 ·have tO:=h_ hroom;have HW:=h_ (xBt ej.jat (jp (HG.later fH.out)) y ⟨yg,0,none⟩ yc CY.1 CY.2.1 CY.2.2 Pt.1 (by have:=Pt.2;omega) (by rw[HX.2.2.2.1,HX.2.1];exact hroom) (by rw[HX.2.2.1];have h2:=bQ.out;simp;omega) (by have h1:=HX.2.2.2.2.1;have h2:=bQ.out;have h3:=HX.2.2.2.2.2.2.2;omega) (ad_ HD.2.1 fH.size));clear hroom;go_wp2_with fail;refine HW.mono ?_;rintro e w4 ⟨rfl,dQ,v4,ev4,OH,oB,oQ,mF,BT⟩;obtain⟨d4,eq⟩:∃d4,d4=(d.puts (j.area*(d.n/2)+(j.secs sha).length) (yk sha (j.body (3 :: y)))).1:=⟨_,rfl⟩;rw[<-eq]at oQ;have oT:(j.add (3 :: y)).entries.length=j.entries.length+1:=by simp[PJ.add]
  have aZ:=aO.jat.inv.add sha yZ aO.jat.up (3 :: y) (by rw[av_];have:=Pt.2;omega) (by have h1:=HX.2.2.2.2.1;have h2:=bQ.out;have h3:=HX.2.2.2.2.2.2.2;omega) (by rw[av_,HX.2.2.2.1,HX.2.1];exact tO.out);have Pu:d4.n=d.n:=by rw[eq];exact aZ.2.2.1
  have Pv:d4.pend.length<=900000:=by
   rw[eq,xCr _ _ _ aO.jat.up,HX.2.2.1,zx];show 0+xO (3 :: y).length<=_
   have h1:=tO.out;have h2:=bQ.out;rw[av_];omega
  have ik:Below D w w4:=(fH.mono HD.2.1).trans (dQ.below (ad_ HD.2.1 fH.size) (λk hk=>(iY.out k hk).1));have Rs:=h_ (xUz oQ (jp (HG.below ik HD.1)) j.entries.length HX.2.2.2.2.2.2.1.2.2 (by rw[oT];omega) (by rw[oT];have h1:=HX.2.2.2.2.1;have h2:=bQ.out;have h3:=HX.2.2.2.2.2.2.2;omega) (by rw[oT];omega) (by show j.gen+2<=_;have h1:=HX.2.2.2.2.2.2.1.1;have:=HD.2.2.2;omega) (by show j.first+100000<=_;have h1:=HX.2.2.2.2.2.2.1.2.1;have:=HD.2.2.2;omega) Pv (ad_ HD.2.1 ik.size) HD.2.2.1);rw[show ((j.add (3 :: y)).first:Int)+(j.entries.length:Int)=fi from Rr.symm]at Rs;obtain⟨J,hJ⟩:∃J,J=movJ d4.n d4 (j.add (3 :: y)) ((j.add (3 :: y)).first+j.entries.length) ((j.add (3 :: y)).entries.drop j.entries.length):=⟨_,rfl⟩;rw[<-hJ]at Rs;have Jq:=(dQ.block sb (by have:=pq.out;have:=fH.size;omega) (λhm=>ej.sbj hm)).trans ej.blk;have c4:=cell_of_row w4 sb 0 _ _ _ Jq;simp only[v_]at c4;have A7:=h_ dQ;have Cz:=h_ (And.intro OH (And.intro oB (And.intro mF BT)));have DP:=h_ (And.intro eq (And.intro Pu aZ));have Vy:=h_ hJ;have bt:=h_ ik;have Vz:=h_ Jq;clear dQ OH oB oQ mF BT eq oT aZ Pu Pv ik hJ Jq HW;go_wp2;refine ag_ ?_;go_wp2_with fail
  refine Rs.mono ?_;rintro e w5 ⟨rfl,e_,v5,BZ,Fo,CK,sB,OU,B1⟩;have Vv:=fH.size;have Vx:=A7.size;have Vw:=e_.size;have hall:∀k∈yQ b v5 BZ,k∈yQ b v ev\/w.heap.size<=k:=λk hk=>by
   simp only[yQ,ae_,aj_]at hk⊢;rcases hk with h1|h1|h1
   ·exact .inl (.inl h1)
   ·rcases OU k h1 with h2|h2
    ·rcases Cz.2.2.1 k h2 with h3|h3
     ·exact .inl (.inr (.inl h3))
     ·exact .inr (by omega)
    ·exact .inr (by omega)
   ·rcases B1 k h1 with h2|h2
    ·rcases Cz.2.2.2 k h2 with h3|h3
     ·exact .inl (.inr (.inr h3))
     ·exact .inr (by omega)
    ·exact .inr (by omega)
  have I3:∀k∈b :: v4.foot,k∈yQ b v ev\/w3.heap.size<=k:=λk hk=>by
   simp only[yQ,ae_,aj_]at hk⊢;rcases hk with h1|h1
   ·exact .inl (.inl h1)
   ·rcases Cz.2.2.1 k h1 with h3|h3
    ·exact .inl (.inr (.inl h3))
    ·exact .inr h3
  have Pw:Kept (yQ b v ev) w3 w4:=A7.out;have Jr:Kept (yQ b v ev) w3 w5:=Pw.trans e_ I3;have Px:Kept (sb :: yQ b v ev) w w5:=((Kept.of_below (F:=sb :: yQ b v ev) fH.out).trans Jr (λk hk=>.inl (aY_ _ hk)));have t6:=aO.tl;have I5:=pq.out
  have tZ:=(e_.block sb (by omega) (λhm=>by
   rcases I3 sb hm with h1|h1
   ·exact aO.sbj h1
   ·omega)).trans Vz.out
  have Py:jI B T w5 x:=ej.prt.kept Jr ej.tl (λk hk=>aO.sep k hk);obtain⟨d5,nL⟩:∃d5,d5=(d4.puts (J.area*(d4.n/2)) (J.secs sha)).1.flushed:=⟨_,rfl⟩;obtain⟨Rt,Pz⟩:∃Rt,Rt=(J.first:Int)+J.entries.length:=⟨_,rfl⟩;rw[<-nL,<-Pz]at sB;have PA:d4.Up:=by rw[DP.1];exact DP.2.2.2.1
  have PB:d5.n=n:=by
   rw[nL,xGc];exact((PD.puts_up _ d4 _ PA).2.2.1.trans DP.2.1).trans HX.2.1
  have Bn:StAt D w5 sb b v5 d5 J BZ Rt x B T:=
   ⟨tZ,sB,Py,by omega,λk hk=>(hall k hk).elim (λh=>aO.sep k h) (λh=>.inr (by omega)),λhm=>(hall sb hm).elim (λh=>aO.sbj h) (λh=>by omega),aO.sbp,aO.sbD,aO.DB⟩
  have oJ:J.entries.length=1:=by
   rw[Vy.out];show ((j.entries++[3 :: y]).drop j.entries.length).length=1
   rw[ao_,af_];simp
  have OJ:J.gen<=j.gen+2:=by
   rw[Vy.out];have iB:=DP.2.1;refine(xP1 (by rw[iB,DP.1];exact DP.2.2.2.2.2) ?_ ?_ ?_ ?_).2
   ·show j.gen+2<=_;have h1:=HX.2.2.2.2.2.2.1.1;have:=HD.2.2.2;omega
   ·show j.first+j.entries.length<=_;have h1:=HX.2.2.2.2.2.2.1.2.1;have:=HD.2.2.2;have h5:=HX.2.2.2.2.1;have h2:=bQ.out;have h3:=HX.2.2.2.2.2.2.2;omega
   ·show ((j.entries++[3 :: y]).drop j.entries.length).length<_;rw[ao_,af_];simp
   ·intro z hz;exact DP.2.2.2.2.2.ok.ents z (bp_ hz)
  have Kn:J.first=j.first+j.entries.length:=by rw[Vy.out];rfl
  have HF:Hid (kd D sb p n q c (sb :: yQ b v ev) w (.returned (.int .i64 0)) w5):=h_ (by
   refine .inr ⟨rfl,bt.trans (e_.below (by have:=HD.2.1;omega) (λk hk=>by
    rcases I3 k hk with h1|h1
    ·exact(iY.out k h1).1
    ·have:=HD.2.1;omega)),Px,sb :: yQ b v5 BZ,(J.secs sha).length,⟨b,v5,d5,J,BZ,Rt,x,B,T,Bn,Fo.trans (Cz.1.trans HX.1),PB,by rw[nL];rfl,rfl,by rw[oJ];omega,HX.2.2.2.2.2.1,⟨?_,?_,by rw[oJ];omega⟩,rfl⟩,λk hk=>?_⟩
   ·have h1:=HX.2.2.2.2.2.2.1.1;omega
   ·rw[Kn];have h1:=HX.2.2.2.2.2.2.1.2.1;have h5:=HX.2.2.2.2.1;have h2:=bQ.out;have h3:=HX.2.2.2.2.2.2.2;omega
   ·rcases ae_.1 hk with h1|h1
    ·exact .inl (by rw[h1];exact bf_ ..)
    ·exact(hall k h1).imp (λh=>aY_ _ h) id)
  clear e_ Fo CK sB OU B1 Vv Vx Vw hall I3 Pw Jr Px t6 I5 tZ Py nL Pz PA PB Bn oJ OJ Kn Rs c4;go_wp2;go_ret;exact HF.out
 ·have HW:=h_ (xEg ej.jat y ⟨yg,0,none⟩ yc CY.1 CY.2.1 CY.2.2 Pt.1 (by have:=Pt.2;omega) (by rw[HX.2.2.2.1,HX.2.1];omega));clear hroom;go_wp2_with fail;refine HW.mono ?_;rintro e w4 ⟨rfl,aQ⟩;have HF:Hid (Below w.heap.size w w4):=h_ (fH.trans (aQ.mono fH.size));clear aQ HW;go_wp2;refine ag_ ?_;go_wp2;go_ret;exact .inl ⟨rfl,HF.out⟩
end
theorem xG3 {P}(w):∀(l:By) (a:Addr) (acc:ByteArray),SlB w a l->(Extern.Bytes.loadBytes a l.length acc).run P w=.ok ⟨acc.data++l.toArray⟩ w
 |[],a,acc,_=>by simp[Extern.Bytes.loadBytes]
 |x :: l,a,acc,h=>by
  have h0:w.cell? a=some (.int .u8 x.toNat):=by
   have:=h.cell 0 x rfl;simpa[Addr.add]using this
  have ih:=xG3 (P:=P) w l (a.add 1) (acc.push x) ⟨λj y hy=>by
   have:=h.cell (j+1) y (by simpa using hy);have e:(a.add 1).add j=a.add (j+1):=by
    unfold Addr.add;by_cases hj:j=0
    ·subst hj;simp
    ·simp[hj];omega
   rw[e];exact this⟩
  have hx:(x.toNat:Int).toNat.toUInt8=x:=by simp
  simp only[av_,Extern.Bytes.loadBytes,aE_,run_load,h0,Result.andThen];rw[hx,ih];congr 1;apply ByteArray.ext;simp[ByteArray.push]
theorem xG4 {P}(w a b x y n m ca cb)(hn:n=x.length)(hm:m=y.length)(hx:SlB w a x)(hy:SlB w b y):
  (Extern.BytealgCompare.compare #[.slice (some a) n ca,.slice (some b) m cb]).run P w=.ok (.int .i64 (Lib.compareBytes x y)) w:=by
 subst hn hm
 change Sem.run P (do pure (goInt (Extern.BytealgCompare.cmp (<-Extern.Bytes.bytesOf (.slice (some a) x.length ca)) (<-Extern.Bytes.bytesOf (.slice (some b) y.length cb))))) w=_
 simp only[Extern.Bytes.bytesOf,aE_,bY_,xG3 w x a .empty hx,xG3 w y b .empty hy,Result.andThen];rw[Lib.cmp_eq];have e:∀l:By,(ByteArray.mk (ByteArray.empty.data++l.toArray)).data.toList=l:=λl=>by
  show (ByteArray.empty.data++l.toArray).toList=l
  simp[ByteArray.empty,ByteArray.emptyWithCapacity];rfl
 rw[e,e];rfl
theorem xQa (w a b x y n m ca cb)(hn:n=x.length)(hm:m=y.length)(hx:SlB w a x)(hy:SlB w b y):
  Calls prog 174 #[.slice (some a) n ca,.slice (some b) m cb] w λe w'=>e=.returned (.int .i64 (Lib.compareBytes x y))/\w=w':=by
 have hc:=xG4 (P:=prog) w a b x y n m ca cb hn hm hx hy;clear hn hm hx hy;go_enter func174,ntmps174;go_wp2;rw[run_callFunc_extern func217 (by kernel_rfl) (by kernel_rfl) (by kernel_rfl) (e:=Extern.BytealgCompare.compare) (by kernel_rfl),hc];simp only[Result.andThen];rw[ce_];go_wp2;go_ret;exact⟨rfl,rfl⟩
theorem xK0 {w g x}{T:TypeId}(h:w.heap[g]?=some (.cells (x7 x) T (0,0))):SlB w ⟨g,0,none⟩ x.id.1:=⟨λj c hj=>by
 rw[an_,aq_,cell_of_row w g j _ _ _ h];have hl:j<x.id.1.length:=(ax_.1 hj).1;unfold x7 yt;rw[ah_,aJ_ (by rw[xz,<-x.id.2];exact hl)];unfold xl;simp[hj]⟩
theorem yB2 (w x y):Calls prog 142 #[.agg (x7 x),.agg (x7 y)] w λe w'=>e=.returned (.int .i64 (Lib.compareBytes x.id.1 y.id.1))/\∃q,w'=((w.alloc (.cells (x7 x) 58)).alloc (.cells (x7 y) 58)).drewN q:=by
 obtain⟨W,hW⟩:∃W,W=(w.alloc (.cells (x7 x) 58)).alloc (.cells (x7 y) 58):=⟨_,rfl⟩;have hb:Below w.heap.size w W:=by rw[hW];exact((ab_ _ _).alloc (aa_ _) _).alloc (by simp) _
 have h1:W.heap[w.heap.size]?=some (.cells (x7 x) 58 (0,0)):=by rw[hW,heap_alloc_old _ _ (by simp),heap_alloc_new]
 have h2:W.heap[w.heap.size+1]?=some (.cells (x7 y) 58 (0,0)):=by
  have:=heap_alloc_new (w.alloc (.cells (x7 x) 58)) (.cells (x7 y) 58);rw[hW];simpa using this
 have HC:Hid (∀k,Calls prog 174 #[.slice (some ⟨w.heap.size,0,none⟩) 32 32,.slice (some ⟨w.heap.size+1,0,none⟩) 32 32] (W.drewN k) λe w'=>e=.returned (.int .i64 (Lib.compareBytes x.id.1 y.id.1))/\∃m,w'=W.drewN m):=h_ λk=>
  (xQa (W.drewN k) ⟨w.heap.size,0,none⟩ ⟨w.heap.size+1,0,none⟩ x.id.1 y.id.1 32 32 32 32 x.id.2.symm y.id.2.symm ⟨λj c hj=>by rw[bT_];exact(xK0 h1).cell j c hj⟩ ⟨λj c hj=>by rw[bT_];exact(xK0 h2).cell j c hj⟩).mono λe w' ⟨h1,h2⟩=>⟨h1,k,h2.symm⟩
 have HB:=h_ hb;clear hb h1 h2;go_enter func142,ntmps142;go_upto_region 1 with fail
 rw[<-hW];have HW:=h_ hW;clear hW;go_quiet ((go_at_call 174;exact HC.out _));go_wp2;go_ret;exact⟨rfl,nq,by rw[HW.out]⟩
end Go.Proofs.YtegfbhdkenkkdaaGreatDoor
namespace Go.Proofs.YtegfbhdkenkkdaaGreatDoor
open Go Go.RowKit Go.Proofs Tryz
open Go.ChangeMaps (setBlock)
theorem Tryz.info_hent:(prog.info? 58).map (λi=>(i.zero,i.size,i.bytes))=some (some (.agg (x7 zy)),36,64):=by kernel_rfl
def HrAt (w:World)(B:Nat)(v:Value)(l:List HEnt):Prop:=w.ownsRow B 58 36 v l.length (l.flatMap yt)
theorem HrAt.nil (w B):HrAt w B (.slice none 0 0) []:=aP_ _ _ _ _
theorem HrAt.later {w w' B v l}(h:HrAt w B v l)(hb:Below w.heap.size w w'):HrAt w' B v l:=vv h λg _ hg=>hb.block g hg
theorem xHx {rest ops o a}{Q:Exit->Act->World->Prop}{w}(fT:o.guard=none)(s x)
  (ho:o.op=.call { callee:=.builtin .append,args:=#[s,x],argTypes:=#[236,236] }) (B) (v) (l) (hs:a.eval s=v) (hr:HrAt w B v l)
  (r) (ad) (hx:a.eval x=.slice (some ad) 1 1)
  (hc:∀j u,(yt r)[j]?=some u->w.cell? (ad.add j)=some u) (ao:l.length<=1000000) (hB:B<=w.heap.size)
  (h:∀v' w',HrAt w' B v' (l++[r])->w.grownBy w' v.ownBlock->(v'.ownBlock=v.ownBlock\/v'.ownBlock=some w.heap.size)->wpList prog ops Q rest (a.put o.dst v') w'):wpList prog ops Q (o :: rest) a w:=by
 obtain⟨i0,hi,bd,aL,bk⟩:=info_parts Tryz.info_hent;refine wpList_append_own_at w fT s x 236 ho B 58 i0 (.agg (x7 zy)) 36 64 underlying236 hi bd aL bk (by simp[Value.cells,xC]) (by decide) v l.length (l.flatMap yt) hs hr ad 1 1 (yt r) hx (by rw[yW]) hc (xJz r) (by unfold maxLen;omega) (by omega) hB λv' w' h1 h2 _ h4=>?_
 refine h v' w' ?_ h2 h4;unfold HrAt;rw[af_,cz_,bU_,cH_];exact h1
theorem xVf (ρ:Operand->Value)(d x)(ty:TypeId)(pos af g w):
  Sem.run prog (execOp ρ ⟨d,.buildSlice 236 1 #[(0,x)],ty,pos,af,g⟩) w=kC prog 236 w (ρ x):=by kernel_rfl
theorem yDi (w x):kC prog 236 w (.agg (x7 x))=.ok (.value (.slice (some ⟨w.heap.size,0,none⟩) 1 1)) (w.alloc (.cells (x7 x) 58)):=by
 obtain⟨i0,hi,bd,aL,bk⟩:=info_parts Tryz.info_hent;unfold kC
 rw[aE_,run_buildSlice w 236 58 1 _ (x7 x) i0 _ underlying236 hi bd (by rw[aL];decide) (by rw[aL];decide) (by
  rw[aL];exact kv _ _ 36 (xC x) (by rw[dk_,cP_]))]
 rfl
structure HsSt (w:World)(v:Hst)(r:Nat)(l:List HEnt)(rv:Value)(W:World):Prop where
 bl:Below w.heap.size w W
 it:∃seen,W.heap[r]?=some (.mapIter (some v.M) v.mc seen v.mc)/\l.length+(leftOf (v.es.map (enE ekI)).toArray seen).size<=v.es.length
 row:HrAt W w.heap.size rv l
 rr:rv.ownBlock≠some r
 ok:∀x∈l,x.Ok
def jG (es:List (KE Id32))(r:Nat)(w:World):Nat:=match w.heap[r]? with
 |some (.mapIter _ _ seen _)=>(leftOf (es.map (enE ekI)).toArray seen).size
 |_=>0
theorem HsSt.next {B w v r l rv W}(h:HsSt w v r l rv W)(aB:yO B w v)(QA:w.heap.size<=r)(ty:TypeId):
  (Instr.next (.pointer (some ⟨r,0,none⟩)) false ty).run prog W=.ok (.tuple #[.bool false]) W \/
  ∃(k:Value) (x:HEnt) (X:World),x.Ok/\(Instr.next (.pointer (some ⟨r,0,none⟩)) false ty).run prog W=.ok (.tuple #[.bool true,k,.agg (x7 x)]) X/\(Instr.entry (.pointer (some ⟨r,0,none⟩))).run prog X=.ok (.tuple #[k,.agg (x7 x)]) X/\Kept [r] W X /\
   ∃seen,X.heap[r]?=some (.mapIter (some v.M) v.mc seen v.mc)/\l.length+1+(leftOf (v.es.map (enE ekI)).toArray seen).size<=v.es.length/\jG v.es r X<jG v.es r W:=by
 obtain⟨seen,u_,hle⟩:=h.it;have hX:=aB.below h.bl;have io:W.heap[v.M]?=some (.map (v.es.map (enE ekI)).toArray v.mc):=hX.map;have A_:r≠v.M:=λe=>by have:=aB.lt.2;omega
 have fD:∀e∈((v.es.map (enE ekI)).toArray).toList,e.born<v.mc:=λe he=>by
  simp only[az_]at he;obtain⟨k,hk,rfl⟩:=he;exact aB.vals.2.1.1 k hk
 have PE:(((v.es.map (enE ekI)).toArray).toList.map (·.born)).Nodup:=by
  simp only[bt_];exact aB.vals.2.1.2
 have hL:jG v.es r W=(leftOf (v.es.map (enE ekI)).toArray seen).size:=by unfold jG;rw[u_]
 rcases run_next_at (P:=prog) W ty r v.M v.mc v.mc seen _ v.mc u_ io fD (aa_ _) with⟨_,hr⟩|⟨e,he,X1,dm,hr⟩
 ·exact .inl hr
 ·obtain⟨hm,fm⟩:=mem_left he;have wj:=hm;simp only[az_]at wj;obtain⟨k,hk,rfl⟩:=wj;obtain⟨x,Ru,hx⟩:=aB.vals.2.2 k hk;have gz:=(i_ u_).1;have ip:X1.heap=W.heap:=by rcases dm with rfl|rfl <;> rfl
  have hk1:Kept [r] W X1:=by
   rcases dm with rfl|rfl
   ·exact Kept.of_below (ab_ _ _)
   ·exact Kept.of_below (ab_ _ _).drew
  have hit:(setBlock X1 r (.mapIter (some v.M) v.mc (seen.push k.b) v.mc)).heap[r]?=some (.mapIter (some v.M) v.mc (seen.push k.b) v.mc):=zH _ _ _ (by rw[ip];exact gz);have Hf:(setBlock X1 r (.mapIter (some v.M) v.mc (seen.push k.b) v.mc)).heap[v.M]?=some (.map (v.es.map (enE ekI)).toArray v.mc):=by
   rw[xT _ _ _ _ (ds_ A_),ip];exact io
  have hlt:=left_shrinks _ _ _ he;have hv:(enE ekI k).val=.agg (x7 x):=hx;have bS:=run_entry_at (P:=prog) _ r v.M v.mc seen _ v.mc (enE ekI k) hit Hf hm PE;rw[hv]at hr bS;refine .inr ⟨(enE ekI k).key,x,_,Ru,hr,bS,⟨hk1.os,hk1.tape,hk1.output,by rw[yY];exact hk1.size,λq hq hn=>?_⟩,seen.push k.b,hit,?_,?_⟩
  ·rw[xT _ _ _ _ (λe=>hn (by rw[e];simp)),ip]
  ·have:(leftOf (v.es.map (enE ekI)).toArray (seen.push k.b)).size<(leftOf (v.es.map (enE ekI)).toArray seen).size:=hlt;omega
  ·rw[hL];unfold jG;rw[show (setBlock X1 r (.mapIter (some v.M) v.mc (seen.push (enE ekI k).born) v.mc)).heap[r]?=some (.mapIter (some v.M) v.mc (seen.push k.b) v.mc)from hit];exact hlt
theorem yB6 (x w):Calls prog 115 #[.agg (x7 x)] w λe w'=>e=.returned (.bool true)/\w.alloc (.cells (x7 x) 58)=w':=by
 go_enter func115,ntmps115;go_wp2;go_ret;exact⟨rfl,rfl⟩
attribute [local go_sem ↓] ud zJ zK xVf
attribute [local go_sem] kR kJ yDi xh xf xa x9 xu xv xk xj xq xx xt
theorem xSc {B w v}(h:yO B w v)(hl:v.es.length<=400)
  (PF:∀(B':Nat) (W:World) (u:Value) (l:List HEnt),HrAt W B' u l->l.length<=400->B'<=W.heap.size->Calls prog 141 #[u,.func (.func 142) #[] #[]] W λe w'=>e=.returned (.tuple #[])/\Below B' W w'/\∃l':List HEnt,l'.length=l.length/\(∀x∈l',x∈l)/\HrAt w' B' u l'):
  Calls prog 114 #[.pointer (some ⟨v.p,0,none⟩),.func (.func 115) #[] #[]] w λe w'=>Below w.heap.size w w'/\∃u l,e=.returned u/\HrAt w' w.heap.size u l/\l.length<=v.es.length/\∀x∈l,x.Ok:=by
 have c0:=cell_of_row w v.p 0 _ _ _ h.blk;simp only[v_]at c0;have hm:w.heap[v.M]?=some (.map (v.es.map (enE ekI)).toArray v.mc):=h.map;have mq:=run_range_map (P:=prog) w 102 _ _ v.M _ v.mc underlying102 hm;obtain⟨W,hW⟩:∃W,W=w.alloc (.mapIter (some v.M) v.mc #[] v.mc):=⟨_,rfl⟩;have hb:Below w.heap.size w W:=by rw[hW];exact b_ _ _
 have hit:W.heap[w.heap.size]?=some (.mapIter (some v.M) v.mc #[] v.mc):=by rw[hW];exact heap_alloc_new w _
 have aO:Hid (HsSt w v w.heap.size [] (.slice none 0 0) W):=h_ ⟨hb,⟨#[],hit,by
  unfold leftOf;have:((v.es.map (enE ekI)).toArray.filter λe=>!(#[]:Array Nat).contains e.born).size<=(v.es.map (enE ekI)).toArray.size:=Array.size_filter_le ..;simp at this⊢;omega⟩,HrAt.nil _ _,by simp[Value.ownBlock],λx hx=>by cases hx⟩
 rw[<-hW]at mq;have H:=h_ h;have HL:=h_ hl;obtain⟨r0,hr0⟩:∃r0,r0=w.heap.size:=⟨_,rfl⟩;have HR:=h_ hr0;clear hm hb hit h hW hl;go_enter func114,ntmps114;go_wp2;rw[<-hr0];clear mq c0 hr0;go_loopw [5] (λrv wr=>∃l,Hid (HsSt w v r0 l rv wr)) (λ_ wr=>jG v.es r0 wr)
 case atStart=>exact⟨[],by rw[HR.out];exact aO⟩
 case round=>
  obtain⟨l,HS⟩:=hrel;rcases HS.next H.out (by rw[HR.out];exact aa_ _) 0 with hn|⟨k,x,X,Ru,hn,bS,hk,seen,u_,PG,hlt⟩
  ·have ao:l.length<=v.es.length:=by obtain⟨_,_,h1⟩:=HS.it;omega
   have nC:=h_ (PF w.heap.size wr u5 l HS.row (by have:=HL.out;omega) HS.bl.size);have lY:=h_ HS.bl;have cL:=h_ ao;have iW:=h_ HS.ok;obtain⟨ua,uc,hu⟩:=yd HS.row;subst hu;clear HS ao;go_wp2_with fail;refine nC.mono ?_;rintro e w' ⟨rfl,E3,l',YV,wj,Eg⟩;have HF:=h_ (And.intro (lY.trans E3) (And.intro Eg (And.intro YV wj)));clear E3 YV wj Eg hn nC;go_wp2;go_ret;exact⟨HF.1,_,l',rfl,HF.2.1,by have:=HF.2.2.1;have:=cL.out;omega,λx hx=>iW.out x (HF.2.2.2 x hx)⟩
  ·have gz:r0<wr.heap.size:=by obtain⟨_,h1,_⟩:=HS.it;exact(i_ h1).1
   have IF:Below w.heap.size w X:=HS.bl.trans (hk.below HS.bl.size (λq hq=>by rw[ac_.1 hq,HR.out];exact aa_ _));obtain⟨X1,dm⟩:∃X1,X1=X.alloc (.cells (x7 x) 58):=⟨_,rfl⟩;have aa:Below X.heap.size X X1:=by rw[dm];exact b_ _ _
   have az:X1.heap[X.heap.size]?=some (.cells (x7 x) 58 (0,0)):=by rw[dm];exact heap_alloc_new X _
   have Le:=vw x;have Ro:((x7 zy).size==36)=true:=by rw[xC];rfl
   obtain⟨o1,r1⟩:=xD (n:=36) az (xC x);have HHA:=h_ (yB6 x X1);have ak:Below X1.heap.size X1 (X1.alloc (.cells (x7 x) 58)):=(ab_ _ _).alloc (aa_ _) _;have Js:=(ak.block _ (i_ az).1).trans az;go_upto_region 7 with fail
   refine xr dm ?_;have gj:=IF.trans (aa.mono IF.size);have PH:HrAt X1 w.heap.size u5 l:=by
    refine xC4 (F:=[r0]) HS.row (hk.trans (Kept.of_below (F:=[]) aa) (λq hq=>by cases hq)) (λq hq e=>?_);rw[ac_.1 hq]at e;exact HS.rr e
   have hsX:wr.heap.size<=X.heap.size:=hk.size;have aK:X1.heap.size=X.heap.size+1:=by rw[dm];simp
   clear dm hn bS az;go_wp2_with fail;refine HHA.mono ?_;rintro e X2 ⟨rfl,iM⟩;rw[iM]at ak Js;obtain⟨o2,r2⟩:=xD (n:=36) Js (xC x);have cT:X2.heap.size=X1.heap.size+1:=by rw[<-iM];simp
   have Jt:=gj.trans (ak.mono gj.size);have PI:=PH.later ak;have dM:Below X2.heap.size X2 (X2.alloc (.cells (x7 x) 58)):=(ab_ _ _).alloc (aa_ _) _;have bK:=heap_alloc_new X2 (.cells (x7 x) 58);have PK:=h_ (PI.later dM);have Ju:=h_ (Jt.trans (dM.mono Jt.size));have Jv:∃seen,(X2.alloc (.cells (x7 x) 58)).heap[r0]?=some (.mapIter (some v.M) v.mc seen v.mc)/\l.length+1+(leftOf (v.es.map (enE ekI)).toArray seen).size<=v.es.length:=by
    exact⟨seen,(dM.block _ (by omega)).trans ((ak.block _ (by omega)).trans ((aa.block _ (by omega)).trans u_)),PG⟩
   have VA:=h_ Jv
   have Hi:Hid (jG v.es r0 (X2.alloc (.cells (x7 x) 58))<jG v.es r0 wr):=h_ (by
    have e1:(X2.alloc (.cells (x7 x) 58)).heap[r0]?=X.heap[r0]?:=(dM.block _ (by omega)).trans ((ak.block _ (by omega)).trans (aa.block _ (by omega)));have e2:jG v.es r0 (X2.alloc (.cells (x7 x) 58))=jG v.es r0 X:=by unfold jG;rw[e1]
    rw[e2];exact hlt)
   have pJ:Hid (u5.ownBlock≠some r0/\r0<X2.heap.size/\∀x∈l,x.Ok):=h_ ⟨HS.rr,by omega,HS.ok⟩;have dw:Hid (l.length<=1000000):=h_ (by obtain⟨_,_,h2⟩:=Jv;have:=HL.out;omega);have nD:Hid (∀j u,(yt x)[j]?=some u->(X2.alloc (.cells (x7 x) 58)).cell? ((⟨X2.heap.size,0,none⟩:Addr).add j)=some u):=h_ λj u hj=>by
    rw[an_,aq_,cell_of_row _ X2.heap.size j _ _ _ bK];unfold x7;rw[ah_];exact hj
   obtain⟨ua,uc,hu⟩:=yd HS.row;subst hu;clear HS IF aa ak Js gj PH hsX aK iM Jt PI dM bK Jv cT u_ PG hlt hk;go_wp2_with (at_builtin;refine xHx rfl (.tmp 22) (.tmp 24) rfl w.heap.size _ l rfl PK.out x ⟨X2.heap.size,0,none⟩ rfl nD.out dw.out Ju.size ?_);intro v' w' Eg lT Eh;have eT:=al_ X2 (.cells (x7 x) 58);have hne:=pJ.out;have e1:w'.heap[r0]?=(X2.alloc (.cells (x7 x) 58)).heap[r0]?:=lT.block r0 (by omega) (λe=>hne.1 e.symm)
   have HN:Hid (HsSt w v r0 (l++[x]) v' w'/\jG v.es r0 w' < jG v.es r0 wr):=h_ (by
    obtain⟨seen,h1,h2⟩:=VA.out;refine⟨⟨Ju.grown lT Ju.size (λq e=>(aL_ PK.out q e).1),⟨seen,e1.trans h1,by rw[af_,bU_];exact h2⟩,Eg,λe=>?_,λy hy=>?_⟩,?_⟩
    ·rcases Eh with h|h
     ·exact hne.1 (h.symm.trans e)
     ·have:=as_ (h.symm.trans e);omega
    ·rcases aj_.1 hy with h|h
     ·exact hne.2.2 y h
     ·rw[ac_.1 h];exact Ru
    ·have e2:jG v.es r0 w'=jG v.es r0 (X2.alloc (.cells (x7 x) 58)):=by unfold jG;rw[e1]
     rw[e2];exact Hi.out)
   clear Eg lT Eh eT hne e1 Ru o1 r1 o2 r2;go_wp2;go_roundw
   case rel=>exact⟨l++[x],h_ HN.1⟩
   case measure=>exact HN.2
end Go.Proofs.YtegfbhdkenkkdaaGreatDoor
namespace Go.Proofs
open Go.Shelf
def Tryz.sortHent_ren:Go.Shelf.Ren:=⟨λ| 6=>141|15=>147|14=>173|28=>185|29=>186|20=>209|21=>210|22=>211|23=>212|24=>213|25=>214|26=>215|27=>216|46=>252|47=>227|48=>228|49=>253|50=>254|57=>285|n=>n,λ| 22=>236|24=>58|25=>282|3=>3|39=>225|0=>0|53=>330|55=>279|4=>4|46=>323|45=>322|50=>327|5=>5|9=>9|66=>366|70=>369|76=>393|77=>394|n=>n,λ| n=>n⟩
theorem Tryz.sortHent:Go.Proofs.SlLaysF0.n6 prog Tryz.sortHent_ren:={
 mixed:=by kernel_rfl
 f6:=⟨f141.name,by decide,func141.trans (congrArg some (by kernel_rfl))⟩
 f14:=⟨f173.name,by decide,func173.trans (congrArg some (by kernel_rfl))⟩
 f15:=func147.trans (congrArg some (by kernel_rfl))
 f20:=⟨f209.name,by decide,func209.trans (congrArg some (by kernel_rfl))⟩
 f21:=⟨f210.name,by decide,func210.trans (congrArg some (by kernel_rfl))⟩
 f22:=⟨f211.name,by decide,func211.trans (congrArg some (by kernel_rfl))⟩
 f23:=⟨f212.name,by decide,func212.trans (congrArg some (by kernel_rfl))⟩
 f24:=⟨f213.name,by decide,func213.trans (congrArg some (by kernel_rfl))⟩
 f25:=⟨f214.name,by decide,func214.trans (congrArg some (by kernel_rfl))⟩
 f26:=⟨f215.name,by decide,func215.trans (congrArg some (by kernel_rfl))⟩
 f27:=⟨f216.name,by decide,func216.trans (congrArg some (by kernel_rfl))⟩
 f28:=func185.trans (congrArg some (by kernel_rfl))
 f29:=func186.trans (congrArg some (by kernel_rfl))
 f46:=⟨f252.name,by decide,func252.trans (congrArg some (by kernel_rfl))⟩
 f47:=func227.trans (congrArg some (by kernel_rfl))
 f48:=func228.trans (congrArg some (by kernel_rfl))
 f49:=⟨f253.name,by decide,func253.trans (congrArg some (by kernel_rfl))⟩
 f50:=⟨f254.name,by decide,func254.trans (congrArg some (by kernel_rfl))⟩
 f57:=⟨f285.name,by decide,func285.trans (congrArg some (by kernel_rfl))⟩
 t0:=underlying0
 a0:=isAgg0
 z0:=sizeOf0
 v0:=zeroValue0
 t3:=underlying3
 a3:=isAgg3
 z3:=sizeOf3
 v3:=zeroValue3
 t4:=underlying4
 a4:=isAgg4
 z4:=sizeOf4
 v4:=zeroValue4
 t5:=underlying5
 a5:=isAgg5
 z5:=sizeOf5
 v5:=zeroValue5
 t9:=underlying9
 a9:=isAgg9
 z9:=sizeOf9
 v9:=zeroValue9
 t22:=underlying236
 a22:=isAgg236
 z22:=sizeOf236
 v22:=zeroValue236
 t25:=underlying282
 a25:=isAgg282
 z25:=sizeOf282
 v25:=zeroValue282
 t39:=underlying225
 a39:=isAgg225
 z39:=sizeOf225
 v39:=zeroValue225
 t45:=underlying322
 a45:=isAgg322
 z45:=sizeOf322
 v45:=zeroValue322
 t46:=underlying323
 a46:=isAgg323
 z46:=sizeOf323
 v46:=zeroValue323
 t50:=underlying327
 a50:=isAgg327
 z50:=sizeOf327
 v50:=zeroValue327
 t53:=underlying330
 a53:=isAgg330
 z53:=sizeOf330
 v53:=zeroValue330
 t55:=underlying279
 a55:=isAgg279
 z55:=sizeOf279
 v55:=zeroValue279
 t66:=underlying366
 a66:=isAgg366
 z66:=sizeOf366
 v66:=zeroValue366
 t70:=underlying369
 a70:=isAgg369
 z70:=sizeOf369
 v70:=zeroValue369
 t76:=underlying393
 a76:=isAgg393
 z76:=sizeOf393
 v76:=zeroValue393
 t77:=underlying394
 a77:=isAgg394
 z77:=sizeOf394
 v77:=zeroValue394 }
end Go.Proofs
namespace Go.Proofs.YtegfbhdkenkkdaaGreatDoor
open Go Go.RowKit Go.Proofs Tryz
theorem xFp:∀(x y:By),Lib.compareBytes x y<0↔Op.bytesLess x y=true
 |[],[]=>by simp[Lib.compareBytes,Op.bytesLess]
 |[],_ :: _=>by simp[Lib.compareBytes,Op.bytesLess]
 |_ :: _,[]=>by simp[Lib.compareBytes,Op.bytesLess]
 |a :: x,b :: y=>by
  have ih:=xFp x y;unfold Lib.compareBytes Op.bytesLess;by_cases h1:a<b
  ·simp[h1]
  ·by_cases h2:b<a
   ·have h3:(a==b)=false:=by
     rw[beq_eq_false_iff_ne];intro e;subst e;exact h1 h2
    simp[h1,h2,h3]
   ·have h3:a=b:=by
     apply dA_.1;rw[dn_]at h1 h2;omega
    subst h3;simp[h1,ih]
instance:Inhabited HEnt:=⟨zy⟩
def cfH (x y:HEnt):Int:=Lib.compareBytes x.id.1 y.id.1
theorem swoH:Go.Sort.SWO (ltOf cfH) where
 irrefl x:=by
  unfold ltOf cfH;rw[decide_eq_false_iff_not,xFp,xF5];simp
 trans x y z h1 h2:=by
  unfold ltOf cfH at *;rw[decide_eq_true_eq,xFp]at *;exact ko _ _ _ h1 h2
 ntrans x y z h1 h2:=by
  unfold ltOf cfH at *;rw[decide_eq_false_iff_not,xFp]at *;intro h3;have g1:Op.bytesLess x.id.1 y.id.1=false:=by simpa using h1
  cases h:Op.bytesLess y.id.1 x.id.1 with
  |true=>exact h2 (ko _ _ _ h h3)
  |false=>exact h2 (j8 _ _ g1 h▸h3)
theorem xGi {α:Type}[Inhabited α](enc:α->List Value)(k:Nat)(w:World)(blk off m:Nat)(dk:Array α)(os:Array Obj)(hb:blk<=w.heap.size):Below blk w (sortWorldK enc k w blk off m dk os) where
 os:=rfl
 tape:=rfl
 output:=rfl
 size:=by simp[sortWorldK,Go.Sort.putRowK]
 block j hj:=by
  unfold sortWorldK;rw[do_ _ _ (by simp[Go.Sort.putRowK];omega)];unfold Go.Sort.putRowK Go.Sort.putRow Go.Sort.mapBlock;simp only[bK_];rw[if_neg (by omega)];rfl
theorem yB3 (w blk off n):CmpLays prog 142 #[] yt 36 cfH blk off n w:=λm os dk _ x y=>by
 refine(yB2 (sortWorldK yt 36 w blk off m dk os) x y).mono ?_;rintro e w' ⟨rfl,q,rfl⟩;refine⟨rfl,q,#[.cells (x7 x) 58,.cells (x7 y) 58],?_⟩;rw[cJ_,cJ_,Go.Sort.grow_grow];rfl
theorem xGd:∀(l:List HEnt) (j:Nat) (hj:j<l.length) (i:Nat),i<36->(l.flatMap yt)[j*36+i]?=(yt l[j])[i]?
 |[],j,hj,_,_=>by cases hj
 |x :: l,0,_,i,hi=>by
  rw[bw_,bZ_,aq_,aJ_ (by rw[yW];exact hi)];rfl
 |x :: l,j+1,hj,i,hi=>by
  rw[bw_,aF_ (by rw[yW];omega),yW,show (j+1)*36+i-36=j*36+i by omega,xGd l j (by simpa using hj) i hi];rfl
theorem xD1:∀(l:List HEnt),(l.flatMap yt).length=l.length*36
 |[]=>rfl
 |x :: l=>by rw[bw_,af_,yW,xD1 l,av_];omega
theorem xK7 (d):(Go.Sort.flatK yt 36 d).toList=d.toList.flatMap yt:=by
 have hl:(d.toList.flatMap yt).length=d.size*36:=by rw[xD1,bs_]
 apply dV_;intro t;by_cases ht:t<d.size*36
 ·have hq:t/36<d.size:=by omega
  have h1:=xGd d.toList (t/36) (by rw[bs_];exact hq) (t%36) (by omega);rw[show t/36*36+t%36=t by omega]at h1;rw[h1,cf_,bd_ (by simpa using ht)];have h2:=Go.Sort.get_flatK yt 36 d t ht;rw[getElem!_pos _ t (by simpa using ht)]at h2;rw[h2,getElem!_pos d _ hq];rw[getElem!_pos _ (t%36) (by rw[yW];omega),ak_ (by rw[yW];omega)];simp
 ·rw[aI_ (by simp;omega),aI_ (by omega)]
theorem xL4 (F cur)(h:F.size<=cur.size):(Go.Sort.putCells id 0 F cur).toList.take F.size=F.toList:=by
 apply dq_
 ·simp[Go.Sort.putCells];omega
 ·intro i h1 h2;have hi:i<F.size:=by simpa using h2
  simp only[Go.Sort.putCells,dh_,dz_,Array.getElem_mapIdx];rw[if_pos ⟨aV_ _,by omega⟩,dI_,getElem!_pos F i hi];rfl
theorem xQw {w w' B blk n cap l}(hr:HrAt w B (.slice (some ⟨blk,0,none⟩) l.length cap) l)(d' os)(hs:d'.size=l.length)(hw:w'=sortWorldK yt 36 w blk 0 n d' os):HrAt w' B (.slice (some ⟨blk,0,none⟩) l.length cap) d'.toList:=by
 rcases hr.2 with⟨h0,_⟩|⟨g,cap',cur,hv,hg,aq,hle,dC,aJ,eG⟩
 ·cases h0
 ·obtain⟨rfl,rfl⟩:blk=g/\cap=cap':=by
   injection hv with h1 h2 h3
   injection h1 with h1
   injection h1 with h1
   exact⟨h1,h3⟩
  have eH:=(i_ aq).1;have hF:(Go.Sort.flatK yt 36 d').size=l.length*36:=by simp[hs]
  have hb:w'.heap[blk]?=some (.cells (Go.Sort.putCells id 0 (Go.Sort.flatK yt 36 d') cur) 58 (0,0)):=by
   rw[hw];unfold sortWorldK;rw[do_ _ _ (by simp[Go.Sort.putRowK];exact eH)];unfold Go.Sort.putRowK Go.Sort.putRow Go.Sort.mapBlock;simp only[bK_];rw[if_pos trivial,show (Go.Sort.ahead w n).heap=w.heap from rfl,aq];rfl
  have mZ:d'.toList.length=l.length:=by rw[bs_,hs]
  unfold HrAt;rw[mZ];refine⟨by rw[xD1,mZ],.inr ⟨blk,cap,_,rfl,hg,hb,hle,dC,by simp[Go.Sort.putCells,aJ],?_⟩⟩;have:=xL4 (Go.Sort.flatK yt 36 d') cur (by rw[hF,aJ];exact cj_ 36 hle);rw[hF,xK7]at this;exact this
theorem xY5 (B w u l)(h:HrAt w B u l)(hl:l.length<=400)(hB:B<=w.heap.size):
  Calls prog 141 #[u,.func (.func 142) #[] #[]] w λe w'=>e=.returned (.tuple #[])/\Below B w w'/\∃l':List HEnt,l'.length=l.length/\(∀x∈l',x∈l)/\HrAt w' B u l':=by
 rcases h.2 with⟨rfl,h0⟩|⟨g,cap,cur,rfl,hg,aq,hle,dC,aJ,eG⟩
 ·refine(AnyF.slices_SortFunc_none (L:={ Tryz.sortHent with }) none 0 _ w).mono ?_;rintro e w'⟨rfl,rfl⟩;exact⟨rfl,ab_ _ _,l,rfl,λx hx=>hx,h⟩
 ·have eH:=(i_ aq).1;have hH:Go.Sort.HoldsK yt 36 w g 0 l.toArray:=λj hj=>by
   have E0:j<(l.flatMap yt).length:=by rw[xD1];simpa using hj
   refine⟨?_,?_⟩
   ·have h1:=bc_ h (g:=g) rfl j _ (ak_ E0);rw[an_]at h1;rw[h1,getElem!_pos _ j hj];congr 1;have h2:=xK7 l.toArray;have h3:(Go.Sort.flatK yt 36 l.toArray).toList[j]?=(l.flatMap yt)[j]?:=by rw[h2]
    rw[cf_,bd_ hj,ak_ E0]at h3;exact(as_ h3).symm
   ·unfold World.frozen?;rw[aq];simp
  have aI:l.toArray.size=l.length:=aW_ ..;have:=AnyQ.slices_SortFunc { Tryz.sortHent with } 36 (isAgg58) (sizeOf58) yt yW xJz cfH swoH 142 #[] g 0 cap l.toArray w (enters_of func142 (by kernel_rfl) rfl) (yB3 w g 0 _) hH eH (by rw[aI];omega);rw[aI]at this;refine this.mono ?_;rintro e w' ⟨rfl,d',n,os,hp,_,hw⟩;have hd:d'.size=l.length:=by rw[hp.1,aI]
  have aX:∀x∈d'.toList,x∈l:=λx hx=>by
   have h1:=hp.2.2;rw[show d'.extract 0 l.length=d' by rw[<-hd];exact de_,show l.toArray.extract 0 l.length=l.toArray by rw[<-aI];exact de_]at h1;have:=h1.mem_iff.1 (by simpa using hx);simpa using this
  exact⟨rfl,by rw[hw];exact(xGi yt 36 w g 0 n d' os (bB_ eH)).mono hg,d'.toList,by rw[bs_,hd],aX,xQw h d' os hd hw⟩
variable {F:Fence} {n:Nat} {P:Program}
theorem xO2 {ops:Array Oper}{l m:Nat}{Q:Exit->Act->World->Prop}(hd:∀(j:Nat) (o:Oper) c,ops[j]?=some o->o.op≠.defer c){i:Nat}{K K':Act->World->Prop}{a:Act}{w:World}(KN:¬ LetsOut Q)(hK:∀a w,K a w->K' a w)(h:wpOp P ops Q i K a w):wpOpIn (Fence.wide.inRound l) m P ops Q i K' a w:=by
 unfold wpOp at h;unfold wpOpIn;split at h
 ·rename_i ho;simp only[ho];exact hK _ _ h
 ·rename_i o ho;simp only[ho];split at h
  ·rename_i hw;simp only[hw,if_true];unfold Oper.wp at h;refine⟨λ_ _=>trivial,?_⟩;have e:o.semAt (Fence.wide.inRound l).round a.eval=execOp a.eval o:=Oper.semAt_some l _ _ (λc=>hd i o c ho);rw[e];replace h:=h.resolve_right λhx=>KN hx.2
   generalize (execOp a.eval o).run P w=r at h⊢;unfold Oper.upon at h;unfold Oper.uponIn;split at h
   ·exact hK _ _ h
   ·exact hK _ _ h
   ·exact hK _ _ h
   ·refine⟨λhx=>(by cases hx),cZ_ l (callsIn_wide.2 (h.mono λe w' he=>?_))⟩;cases e with
    |returned v=>exact hK _ _ he
    |panicked c=>exact he
    |outgrown=>exact he
   ·exact⟨λhx=>(by cases hx),λc cs _=>let ⟨v,w',hr,hs⟩:=h c cs;⟨v,w',hK _ _ hr,stepsIn_wide.2 hs⟩⟩
   ·exact h
   ·exact h.elim
  ·rename_i hw;simp only[hw];exact⟨λ_ _=>trivial,hK _ _ h⟩
theorem xDc {ops:Array Oper}{l m:Nat}{md:Region.Mode}{Q:Exit->Act->World->Prop}(hd:∀(j:Nat) (o:Oper) c,ops[j]?=some o->o.op≠.defer c)(KN:¬ LetsOut Q):∀(fuel:Nat) (L:Array Bool) (a:Act) (w:World),wpAny P md ops Q fuel L a w->wpAnyIn (Fence.wide.inRound l) m P md ops Q fuel L a w
 |0,_,_,_,h=>h
 |fuel+1,_,_,_,h=>⟨h.1,λi hi=>xO2 hd KN (xDc hd KN fuel _) (h.2 i hi)⟩
def xOx (ops:Array Oper):Bool:=ops.all λo=>match o.op with|.defer _=>false|_=>true
theorem xOw {ops:Array Oper}(h:xOx ops=true):∀(j:Nat) (o:Oper) c,ops[j]?=some o->o.op≠.defer c:=λj o c ho e=>by
 unfold xOx at h;rw[dW_]at h;obtain⟨hj,rfl⟩:=cK_.1 ho;have:=h j hj;rw[e]at this;cases this
theorem vl {ops:Array Oper}{l m id:Nat}{Q:Exit->Act->World->Prop}{a:Act}{w:World}(hd:xOx ops=true)(KN:¬ LetsOut (NoPanic Q))(hm:P.follows .mixedOrders=true)(h:wpSt P ops Q [] ops.size a w.drew):(Code.region id ops true).wpIn (Fence.wide.inRound l) m P Q a w:=by
 refine wpIn_mono (wpIn_region_any (Q:=NoPanic Q) hm (xDc (xOw hd) KN _ _ _ _ ?_)) NoPanic.imp;have e:vb ops.size []=Array.replicate ops.size false:=by
  apply dL_
  ·simp[vr]
  ·intro i h1 h2;rw[xD2];simp
 unfold wpSt at h;rw[e]at h;exact h
theorem ve {F n rest ops o a}{Q:Exit->Act->World->Prop}{w}(fT:o.guard=none)(s x)
  (ho:o.op=.call { callee:=.builtin .append,args:=#[s,x],argTypes:=#[31,31] }) (B) (v) (l) (hs:a.eval s=v) (ae:OwnB w B v l)
  (ad) (r) (c) (hx:a.eval x=.slice (some ad) r.length c) (hr:SlB w ad r) (ao:l.length+r.length<=1000000000000) (hB:B<=w.heap.size)
  (h:∀v' w',OwnB w' B v' (l++r)->w.grownBy w' v.ownBlock->(v'.ownBlock=v.ownBlock\/v'.ownBlock=some w.heap.size)->wpListIn F n prog ops Q rest (a.put o.dst v') w'):wpListIn F n prog ops Q (o :: rest) a w:=by
 obtain⟨i0,hi,bd,aL,bk⟩:=info_parts Tryz.info_byte;have aT:∀(j:Nat) (u:Value),(encB r)[j]?=some u->w.cell? (ad.add j)=some u:=λj u hj=>by
  have fS:j<r.length:=by
   rcases bi_ j r.length with h|h
   ·exact h
   ·rw[aI_ (by rw[xF];exact h)]at hj;cases hj
  rw[qZ r j fS]at hj;cases hj;exact hr.cell j _ (ak_ fS)
 refine wpListIn_plain fT λK hK'=>?_
 obtain⟨v',w',tV,r1,r2,_,r4⟩:=run_append_own_at (P:=prog) w B 31 o.type 5 i0 (.int .u8 0) 1 1 underlying31 hi bd aL bk rfl (by decide) v l.length (encB l) ae ad r.length c (encB r) (by rw[xF,bz_]) aT (ue r) (by unfold maxLen;omega) (by omega) hB;unfold Oper.wpIn;refine⟨?_,?_⟩
 ·simp[Oper.about,ho,resolve,Target.leads,bY_]
 ·rw[Oper.semAt_plain F _ _ (by rw[ho];intro c nT;cases nT)]
  simp[execOp,ho,resolve,invoke,builtin,hs,hx,tV,Result.andThen];refine hK' _ _ (h v' w' ?_ r2 r4);unfold OwnB;rw[xCl,af_];exact r1
theorem xFr (l0)(n:Nat)(hn:n<=4611686018427387904)(v0 w B)(ae:OwnB w B v0 l0)(hB:B<=w.heap.size)(nQ:l0.length<=1000000):
  Calls prog 78 #[v0,.int .i64 n] w λe w'=>∃v,e=.returned v/\ByC B w v0 v (l0++beB 4 n) w':=by
 have aO:Hid (ByC B w v0 v0 (l0++(beB 4 n).take 0) w):=h_ ⟨ab_ _ _,by simpa using ae,λ_ _ _=>rfl,λk h=>.inl h⟩;have HB:=h_ hB;clear ae hB;go_enter func78,ntmps78;go_wp2;go_loopw [5,0] (λi bv wr=>∃j:Nat,i=.int .i64 (3-(j:Int))/\j<=4/\Hid (ByC B w v0 bv (l0++(beB 4 n).take j) wr)) (λi _ _=>(intOf i+1).toNat)
 case atStart=>exact⟨0,rfl,by omega,aO⟩
 case round=>
  obtain⟨j,rfl,hj,cF⟩:=hrel;by_cases hlt2:j<4
  ·obtain⟨i,hi⟩:∃i:Nat,i=3-j:=⟨_,rfl⟩;have hi2:(3:Int)-j=(i:Int):=by omega
   rw[hi2];have hx:=vd n i;have hge:=vV 4 n j hlt2;rw[show 4-1-j=i by omega]at hge;generalize be:UInt8.ofNat (n/256 ^ i)=b at hx hge;have mz:(l0++(beB 4 n).take j)++[b]=l0++(beB 4 n).take (j+1):=by
    rw[am_ (by rw[xe];exact hlt2),hge,aH_]
   have b1:(0:Int)<=8*(i:Int):=by omega
   have b2:8*(i:Int)<=64:=by omega
   have b3:(n:Int)<=4611686018427387904:=by omega
   have b9:Below wr.heap.size wr (wr.alloc (.cells #[.int .u8 b.toNat] 5)):=(ab_ _ _).alloc (aa_ _) _;have cd:OwnB (wr.alloc (.cells #[.int .u8 b.toNat] 5)) B u0 (l0++(beB 4 n).take j):=cF.own.below b9;have aK:SlB (wr.alloc (.cells #[.int .u8 b.toNat] 5)) ⟨wr.heap.size,0,none⟩ [b]:=vi wr 5 [b];have BB:B<=wr.heap.size:=ad_ HB.out cF.bel.size;have bj:∀v' W2,OwnB W2 B v' ((l0++(beB 4 n).take j)++[b])->(wr.alloc (.cells #[.int .u8 b.toNat] 5)).grownBy W2 u0.ownBlock->(v'.ownBlock=u0.ownBlock\/v'.ownBlock=some (wr.alloc (.cells #[.int .u8 b.toNat] 5)).heap.size)->ByC B w v0 v' (l0++(beB 4 n).take (j+1)) W2:=λv' W2 ho hg hf=>by
    have:=cF.app BB b9 ho hg hf cF.bel.size;rw[mz]at this;exact this
   have aI:B<=(wr.alloc (.cells #[.int .u8 b.toNat] 5)).heap.size:=by simp;omega
   have gW:(l0++(beB 4 n).take j).length+[b].length<=1000000000000:=by rw[af_,ai_];simp;omega
   rw[hx]at cd aK bj aI;have ew:=h_ cd;have bW:=h_ aK;have ed:=h_ bj;have eX:=h_ aI;have dw:=h_ gW;have HI:=h_ hi;clear hi hx hge be mz b9 cd aK bj aI gW hi2 BB;go_wp2_with (at_builtin;refine zw rfl (.tmp 10) (.tmp 16) rfl B _ (l0++(beB 4 n).take j) rfl ew.out ⟨wr.heap.size,0,none⟩ [b] 1 rfl bW.out dw.out eX.out ?_);intro v' w' ho hg2 _ dP;rw[<-aH_]at ho;have HN:=h_ (ed.out v' w' ho hg2 (by rw[al_];exact dP));have mo:(i:Int)-1=3-((j+1:Nat):Int):=by have:=HI.out;omega
   have mL:=h_ mo;have QR:(i:Int)<=3:=by have:=HI.out;omega
   clear ho hg2 dP mo;go_wp2;go_roundw
   case rel=>exact⟨j+1,by rw[<-mL.out],by omega,HN⟩
   case measure=>simp[intOf]
  ·obtain rfl:j=4:=by omega
   have HF:Hid (ByC B w v0 u0 (l0++beB 4 n) wr):=by
    have:=cF.out;rw[ar_ (by rw[xe];exact aa_ _)]at this;exact h_ this
   have hi2:(3:Int)-(4:Nat)=-1:=by omega
   rw[hi2];go_wp2;go_ret;exact⟨_,rfl,HF.out⟩
section
abbrev HOk:Type:={ x:HEnt // x.Ok }
def ylH (x:HOk):Array Value:=#[.agg (x7 x.1)]
def KpH (A B:World):Prop:=A.heap.size<=B.heap.size/\∀(g:Nat) (cs:Array Value),A.heap[g]?=some (Obj.cells cs 58 (0,0))->B.heap[g]?=some (Obj.cells cs 58 (0,0))
theorem KpH.trans {A B C}(h:KpH A B)(k:KpH B C):KpH A C:=⟨ad_ h.1 k.1,λg cs hg=>k.2 g cs (h.2 g cs hg)⟩
theorem KpH.put (W l o o')(hl:W.heap[l]?=some o)(ho:o.isCells=false):KpH W (W.putObj l o'):=⟨by simp[World.putObj],λg cs hg=>(aB_ (λe=>by
 subst e;rw[hg]at hl;cases hl;cases ho)).trans hg⟩
theorem KpH.below {A B}(h:Below A.heap.size A B):KpH A B:=⟨h.size,λg cs hg=>(h.block g (i_ hg).1).trans hg⟩
theorem HrAt.kp {A B b v l}(h:HrAt A b v l)(k:KpH A B):HrAt B b v l:=by
 refine⟨h.1,?_⟩;rcases h.2 with h0|⟨g,cap,cur,hv,hg,aq,r⟩
 ·exact .inl h0
 ·exact .inr ⟨g,cap,cur,hv,hg,k.2 g cur aq,r⟩
theorem HrAt.rd {w B n ua uc l}(h:HrAt w B (.slice ua n uc) l)(k)(hk:k<l.length):∃g,ua=some ⟨g,0,none⟩/\xo w ⟨g,k*36,none⟩ 36=true/\xm w ⟨g,k*36,none⟩ 36=x7 l[k]:=by
 obtain⟨g,hg⟩:∃g,ua=some ⟨g,0,none⟩:=by
  rcases h.2 with⟨_,h0⟩|⟨g,cap,cur,hv,_⟩
  ·omega
  ·exact⟨g,by injection hv⟩
 subst hg;refine⟨g,rfl,?_⟩
 have:=xW (w:=w) (a:=⟨g,k*36,none⟩) (cs:=yt l[k]) (λj v hj=>by
  have hl:j<36:=by rw[<-yW l[k]];exact(ax_.1 hj).1
  have h1:=bc_ h (g:=g) rfl (k*36+j) v (by rw[xGd l k hk j hl];exact hj);rw[an_]at h1⊢
  rwa [aq_]at h1)
 rw[yW]at this;exact this
theorem xM2 (ro)(ρ:Operand->Value)(d x)(ty:TypeId)(pos af g w):
  Sem.run prog (Oper.semAt ro ρ ⟨d,.load 58 x,ty,pos,af,g⟩) w=yp prog 58 w (ρ x):=by
 rw[by_ _ _ _ (by intro c h;cases h)]
 exact ud ..
theorem xKg (ro)(ρ:Operand->Value)(d x y)(ty:TypeId)(pos af g w):
  Sem.run prog (Oper.semAt ro ρ ⟨d,.store 58 x y,ty,pos,af,g⟩) w=yi prog 58 w (ρ x) (ρ y):=by
 rw[by_ _ _ _ (by intro c h;cases h)]
 exact zJ ..
theorem xKi (ro)(ρ:Operand->Value)(d)(ty:TypeId)(pos af g w):
  Sem.run prog (Oper.semAt ro ρ ⟨d,.alloc 58,ty,pos,af,g⟩) w=.ok (.value (.pointer (some ⟨w.heap.size,0,none⟩))) (w.alloc (.cells (x7 zy) 58)):=by
 rw[by_ _ _ _ (by intro c h;cases h)]
 exact zK ..
attribute [local go_sem] Oper.semAt_some
attribute [local go_sem ↓] xM2 xKg xKi ud zJ zK
attribute [local go_sem] kR kJ xh xf xa x9 xu zQ xq xx
theorem yD1 (n bx B v w)(h0:w.cell? ⟨bx,0,none⟩=some (.pointer (some ⟨v.p,0,none⟩)))(h:yO B w v)(hl:v.es.length<=400)(hn:1<=n):
  SeqStopsK Fence.wide n prog 113 #[.pointer (some ⟨bx,0,none⟩)] ylH KpH (λxs=>xs.length<=v.es.length) (λ_=>True) 401 w:=λy J Jx W hW hJ Mf hY hj=>by
 have hd:=h.below hW;have HS:=h_ (xSc hd hl (λB' W u l h1 h2 h3=>xY5 B' W u l h1 h2 h3));have c0:W.cell? ⟨bx,0,none⟩=some (.pointer (some ⟨v.p,0,none⟩)):=(hW.cell (block_lt_of_cell h0)).trans h0;have HY:=h_ hY;have Id:=h_ hJ;have HJ:=h_ hj;have HL:=h_ hl;clear hd h h0 hW hY hj hJ Mf hl;show CallsIn _ _ _ _ _ _ _
 refine callsIn_wide.2 ?_;go_enter func113,ntmps113;go_wp2_with fail;refine HS.mono ?_;rintro e w1 ⟨aa,u,l,rfl,ah,ao,aD⟩;obtain⟨L,rfl⟩:∃L:List HOk,l=L.map (·.1):=⟨l.pmap Subtype.mk aD,by rw[List.map_pmap];simp⟩;rw[aQ_]at ao;have Di:=h_ (Id.out [] W w1 none HJ.out (zp aa none) (λr hr=>by cases hr));have mC:Hid (W.heap.size<=w1.heap.size):=h_ aa.size;have cL:=h_ ao;obtain⟨ua,uc,hu⟩:=yd ah;subst hu;have bX:=h_ ah;obtain⟨N,hN⟩:∃N,N=L.length:=⟨_,rfl⟩;rw[aQ_,<-hN]at bX⊢;have HN:=h_ hN;have Qs:(N:Int)<=400:=by have:=HL.out;omega
 clear aa ah ao aD hN HS c0;go_wp2;refine(wpIn_wide (n:=n)).1 ?_
 gi_loopw [8] (λi wr=>∃k:Nat,i=.int .i64 k/\k<=N/\Hid (J (L.take k) wr)/\Hid (HrAt wr W.heap.size (.slice ua N uc) (L.map (·.1)))/\Hid (W.heap.size<=wr.heap.size)) (λi _=>N-(intOf i).toNat)
 case atStart=>exact⟨0,rfl,aV_ _,Di,bX,mC⟩
 case round=>
  obtain⟨k,rfl,hk,AH,HR,eX⟩:=hrel;by_cases hlt:k<N
  ·have cr:(k:Int)<N:=by omega
   have ct:k<L.length:=by rw[<-HN.out];exact hlt
   obtain⟨g,hg,o1,r1⟩:=HR.rd k (by rw[aQ_];exact ct);rw[bS_]at r1;subst hg;obtain⟨x,hx⟩:∃x,x=L[k]:=⟨_,rfl⟩;rw[<-hx]at r1;have p8:Hid (L.take (k+1)=L.take k++[x]):=h_ (by rw[am_ ct,hx]);obtain⟨X1,dm⟩:∃X1,X1=wr.alloc (.cells (x7 x.1) 58):=⟨_,rfl⟩;have aa:Below wr.heap.size wr X1:=by rw[dm];exact b_ _ _
   have az:X1.heap[wr.heap.size]?=some (.cells (x7 x.1) 58 (0,0)):=by rw[dm];exact heap_alloc_new wr _
   obtain⟨o2,r2⟩:=xD (n:=36) az (xC x.1);have PM:=Id.out (L.take k) wr X1 none AH.out (zp aa none) (λr hr=>by cases hr);have BH:=h_ (HR.later aa);have Jw:=h_ (ad_ eX.out aa.size);obtain⟨fn,tmps,assign,body,hy,hR⟩:=HY.out (L.take k) x X1 PM (by rw[ai_];omega);unfold ylH at hy;have Le:=vw x.1;have Ro:((x7 zy).size==36)=true:=by rw[xC];rfl
   have bk:(x7 zy).size=36:=xC _;have pJ:=h_ hR;clear ct hx aa az PM hR AH HR eX;rw[dm]at o2 r2 hy pJ
   gi_wp2
   refine pJ.mono ?_;rintro e W3 (⟨rfl,E4,dp⟩|⟨rfl,ot⟩)
   ·rw[<-dm]at dp;have iq:=h_ (BH.kp dp);have eS:=h_ (ad_ Jw.out dp.1);have Au:=h_ E4;clear hy pJ o1 r1 o2 r2 dp E4 BH Jw dm
    gi_wp2
    go_roundw
    case rel=>exact⟨k+1,by go_num,by omega,by rw[p8.out];exact Au,iq,eS⟩
    case measure=>simp only[intOf];omega
   ·have AI:=h_ ot;clear hy pJ o1 r1 o2 r2 ot BH Jw dm
    gi_wp2
    refine bodyPost_ret (results_none rfl _ _ _) rfl ?_;exact⟨⟨_,rfl⟩,.inr ⟨_,trivial,AI.out⟩⟩
  ·obtain rfl:k=N:=by omega
   have HT:L.take k=L:=ar_ (by rw[<-HN.out];exact aa_ _);have Jy:=HT▸AH
   gi_wp2
   go_end0;exact⟨⟨_,rfl⟩,.inl ⟨L,cL.out,Jy.out⟩⟩
structure HeI (w:World)(b cb:Nat)(pre:List HOk)(X:World):Prop where
 sz:b<=X.heap.size
 bl:Below w.heap.size w X
 cl:∃u y,X.heap[cb]?=some (.cells #[u] 31 (0,0))/\OwnB X w.heap.size u y/\y.length=4+41*pre.length
theorem OwnB.isCells {w B v l}(h:OwnB w B v l){k}(e:v.ownBlock=some k):∃o:Obj,w.heap[k]?=some o/\o.isCells=true:=by
 rcases h.2 with⟨h0,_⟩|⟨g,cap,cur,hv,hg,aq,r⟩
 ·rw[h0]at e;cases e
 ·rw[hv]at e;have:=as_ e;subst this;exact⟨_,aq,rfl⟩
theorem HeI.own (w b cb)(hb:w.heap.size<=b):OwnFrom b (HeI w b cb):=λpre A B row h hg hr=>by
 obtain⟨u,y,h1,h2,h3⟩:=h.cl;refine⟨ad_ h.sz hg.size,h.bl.grown hg h.bl.size (λk e=>by have:=(hr k e).1;omega),⟨u,y,qN hg hr h1 rfl,h2.grown hg (λk e e2=>?_),h3⟩⟩;obtain⟨_,o,ho,hc⟩:=hr k e;obtain⟨o',cI,nT⟩:=h2.isCells e2;rw[ho]at cI;cases cI;rw[hc]at nT;cases nT
theorem OwnB.neT {B w v l}(h:OwnB w B v l){k cs}{T:TypeId}{fz}(hr:w.heap[k]?=some (.cells cs T fz))(ht:T≠5):v.ownBlock≠some k:=λe=>by
 rcases h.2 with⟨h0,_⟩|⟨g,cap,cur,hv,hg,aq,_⟩
 ·rw[h0]at e;cases e
 ·rw[hv]at e;have:=as_ e;subst this;rw[hr]at aq;simp only[aR_,ej_]at aq;exact ht aq.2.1
structure vZ (b0 cb:Nat)(W:World)(u0:Value)(X:World)(v:Value)(y:By):Prop where
 cl:X.heap[cb]?=some (.cells #[v] 31 (0,0))
 own:OwnB X b0 v y
 keep:∀k,k<W.heap.size->k≠cb->u0.ownBlock≠some k->X.heap[k]?=W.heap[k]?
 fr:∀k,v.ownBlock=some k->u0.ownBlock=some k\/W.heap.size<=k
 bel:Below b0 W X
theorem vZ.start {b0 cb W u0 y}(h:W.heap[cb]?=some (.cells #[u0] 31 (0,0)))(ho:OwnB W b0 u0 y):vZ b0 cb W u0 W u0 y:=⟨h,ho,λ_ _ _ _=>rfl,λ_ h=>.inl h,ab_ _ _⟩
theorem ByC.start {b0 X v y}(ho:OwnB X b0 v y):ByC b0 X v v y X:=⟨ab_ _ _,ho,λ_ _ _=>rfl,λ_ h=>.inl h⟩
theorem vZ.cl2 {b0 cb W u0 X v y}(h:vZ b0 cb W u0 X v y){v' l X'}(hb:ByC b0 X v v' l X'):X'.heap[cb]?=some (.cells #[v] 31 (0,0)):=
 (hb.keep cb (i_ h.cl).1 (h.own.neT h.cl (by decide))).trans h.cl
theorem vZ.step {b0 cb W u0 X v y}(h:vZ b0 cb W u0 X v y)(dN:b0<=cb){v' l X'}(hb:ByC b0 X v v' l X'):vZ b0 cb W u0 (X'.setCell ⟨cb,0,none⟩ v') v' l:=by
 have h1:=h.cl2 hb;have hne:=hb.own.neT h1 (by decide);have aI:=h.bel.size;refine⟨by rw[heap_setCell_same X' cb 0 _ _ _ h1];rfl,xC4 hb.own (zd X' cb 0 v') (λk hk=>by rw[ac_.1 hk];exact hne),λk hk h2 h3=>?_,λk hk=>?_,(h.bel.trans hb.bel).setCell (p:=⟨cb,0,none⟩) dN v'⟩
 ·rw[heap_setCell_other X' ⟨cb,0,none⟩ k _ h2,hb.keep k (by omega) (λe=>by
   rcases h.fr k e with h4|h4
   ·exact h3 h4
   ·omega),h.keep k hk h2 h3]
 ·rcases hb.fr k hk with h4|h4
  ·exact h.fr k h4
  ·right;omega
theorem vZ.others {b0 cb B W u0 X v y y0}(h:vZ b0 cb W u0 X v y)(hc:W.heap[cb]?=some (.cells #[u0] 31 (0,0)))(ho:OwnB W b0 u0 y0):KeepsFrom B W X:=⟨h.bel.size,λk o _ hk nT=>by
 rw[h.keep k (i_ hk).1 (λe=>by subst e;rw[hc]at hk;cases hk;cases nT) (λe=>by
  obtain⟨o',cI,gm⟩:=ho.isCells e;rw[cI]at hk;cases hk;rw[gm]at nT;cases nT)]
 exact hk⟩
theorem vZ.typed {b0 cb W u0 X v y y0}{T:TypeId}(h:vZ b0 cb W u0 X v y)(hc:W.heap[cb]?=some (.cells #[u0] 31 (0,0)))(ho:OwnB W b0 u0 y0)(h1:T≠31)(h2:T≠5){k:Nat}{cs}(hk:W.heap[k]?=some (.cells cs T (0,0))):X.heap[k]?=some (.cells cs T (0,0)):=
 (h.keep k (i_ hk).1 (λe=>by
  subst e;rw[hc]at hk;simp only[aR_,ej_]at hk;exact h1 hk.2.1.symm) (ho.neT hk h2)).trans hk
theorem j5 {F n P}{c:Code}{Q:Exit->Act->World->Prop}{a w w'}(h:w'=w)(hw:c.wpIn F n P Q a w'):c.wpIn F n P Q a w:=h▸hw
theorem xB1 {b0 cb g W u0 X v y y0}(h:vZ b0 cb W u0 X v y)(dN:b0<=cb){v' l X'}(hb:ByC b0 X v v' l X')(hc:W.heap[cb]?=some (.cells #[u0] 31 (0,0)))(ho:OwnB W b0 u0 y0){x}(hg:W.heap[g]?=some (.cells (x7 x) 58 (0,0))):
  X'.cell? ⟨cb,0,none⟩=some v/\X'.frozen? ⟨cb,0,none⟩=false/\∃Y,Y=X'.setCell ⟨cb,0,none⟩ v'/\vZ b0 cb W u0 Y v' l/\Y.cell? ⟨cb,0,none⟩=some v'/\Y.frozen? ⟨cb,0,none⟩=false /\
   Y.cell? ⟨g,32,none⟩=some (.int .i64 x.arr)/\Y.cell? ⟨g,33,none⟩=some (.int .i64 x.date)/\Y.cell? ⟨g,34,none⟩=some (.int .i64 x.st)/\Y.cell? ⟨g,35,none⟩=some (.bool x.perm):=by
 have h1:=h.cl2 hb;have hR:=h.step dN hb;have hG:=hR.typed hc ho (by decide) (by decide) hg;refine⟨by rw[cell_of_row X' cb 0 _ _ _ h1];rfl,frozen_of_row X' cb 0 _ _ h1,_,rfl,hR,by rw[cell_of_row _ cb 0 _ _ _ hR.cl];rfl,frozen_of_row _ cb 0 _ _ hR.cl,?_,?_,?_,?_⟩
 ·rw[cell_of_row _ g 32 _ _ _ hG,he32]
 ·rw[cell_of_row _ g 33 _ _ _ hG,he33]
 ·rw[cell_of_row _ g 34 _ _ _ hG,he34]
 ·rw[cell_of_row _ g 35 _ _ _ hG,he35]
theorem xPe {w W X b cb pre x u0 v y l}(h:vZ w.heap.size cb W u0 X v l)(hc:W.heap[cb]?=some (.cells #[u0] 31 (0,0)))(ho:OwnB W w.heap.size u0 y)(hI:HeI w b cb pre W)(hl:l.length=4+41*(pre.length+1)):KeepsFrom b W X/\KpH W X/\HeI w b cb (pre++[x]) X:=
 ⟨h.others hc ho,⟨h.bel.size,λ_ _ hg=>h.typed hc ho (by decide) (by decide) hg⟩,⟨ad_ hI.sz h.bel.size,hI.bl.trans h.bel,v,l,h.cl,h.own,by rw[hl,af_];simp⟩⟩
def heT (vp cb c ug uc bx g:Nat)(x:HEnt):Array Value:=#[.pointer (some ⟨vp,0,none⟩),undef,.slice none 0 0,.pointer (some ⟨cb,0,none⟩),.pointer (some ⟨g,0,none⟩),undef,.pointer (some ⟨vp,0,none⟩),.bool false,.pointer (some ⟨vp,0,none⟩),.pointer (some ⟨vp,0,none⟩),.pointer (some ⟨vp,1,none⟩),.int .i64 c,.slice (some ⟨ug,0,none⟩) 4 uc,.pointer (some ⟨vp,0,none⟩),.func (.func 113) #[] #[.pointer (some ⟨bx,0,none⟩)],.agg (x7 x),undef,undef,undef,undef,undef,undef,undef,undef,undef,undef,undef,undef,undef,undef,undef,undef,undef,undef,undef,undef,undef,undef,undef,undef]
def HeA (b vp cb c ug uc bx:Nat)(x:HOk)(a:Act)(X:World):Prop:=∃g,b<=g/\a={ tmps:=heT vp cb c ug uc bx g x.1,defers:=[] }/\X.heap[g]?=some (.cells (x7 x.1) 58 (0,0))
theorem xNb (p u)(t:Array Value):(((#[p]:Array Tmp).zip #[u]).foldl (λt (p,v)=>t.setIfInBounds p v) t)=t.setIfInBounds p u:=by
 simp
theorem xSd {B w v}(h:yO B w v)(hl:v.es.length<=400)(c:Nat)(hc:v.cut=c)(aT:c<=105190559):
  Calls prog 56 #[.pointer (some ⟨v.p,0,none⟩)] w λe w'=>Below w.heap.size w w'/\∃u y,e=.returned u/\OwnB w' w.heap.size u y/\1<=y.length/\y.length<=20000:=by
 have c1:=cell_of_row w v.p 1 _ _ _ h.blk;simp only[v_]at c1;rw[hc]at c1;have HA:=h_ (xNq [] c (by omega) (.slice none 0 0) w w.heap.size (OwnB.nil _ _) (aa_ _) (by simp));have H:=h_ h;have HL:=h_ hl;clear h hc aT hl;refine(callsIn_wide (n:=4)).1 (callsIn_of_wp_marks func56 rfl trivial ?_ rfl);simp only[ntmps56,aW_,av_,bm_,Nat.reduceAdd,Nat.reduceSub,cl_,cm_,cv_,cp_,aM_,aK_];refine wpIn_wide.2 ?_;go_wp2_with fail;refine HA.mono ?_;rintro e w1 ⟨aa,u,rfl,ae⟩;rw[aM_]at ae;obtain⟨ug,uc,hu,_,_,_,_⟩:∃g cap,u=.slice (some ⟨g,0,none⟩) 4 cap/\w.heap.size<=g/\4<=cap/\cap<=maxLen/\SlB w1 ⟨g,0,none⟩ (beB 4 c):=by
  rcases ae.at with⟨_,h⟩|⟨g,cap,h1,h2,h3,h4,h5⟩
  ·exact absurd (congrArg List.length h) (by simp[xe])
  ·have e:(beB 4 c).length=4:=by simp[xe]
   rw[e]at h1 h3;exact⟨g,cap,h1,h2,h3,h4,h5⟩
 subst hu;obtain⟨w2,aw⟩:∃w2,w2=w1.alloc (.cells #[.slice (some ⟨ug,0,none⟩) 4 uc] 31):=⟨_,rfl⟩;have ak:Below w1.heap.size w1 w2:=by rw[aw];exact b_ _ _
 have aA:w2.heap[w1.heap.size]?=some (.cells #[.slice (some ⟨ug,0,none⟩) 4 uc] 31 (0,0)):=by rw[aw];exact heap_alloc_new w1 _
 have au:=h_ (aa.trans (ak.mono aa.size));have gZ:=h_ (ae.below ak);have bQ:=h_ aA;obtain⟨cb,dN⟩:∃cb,cb=w1.heap.size:=⟨_,rfl⟩;have KO:=h_ dN;have Jz:Hid (w.heap.size<=w1.heap.size):=h_ aa.size;clear aa ae ak aA c1;go_upto_region 4 with fail
 refine xr aw ?_;rw[<-dN];clear aw dN;go_wp2_with fail;refine(xSf v.p w2).mono ?_;rintro e w3 ⟨rfl,rfl⟩;have al:Below w2.heap.size w2 (w2.alloc (.cells #[.pointer (some ⟨v.p,0,none⟩)] 53)):=(ab_ _ _).alloc (aa_ _) _;have be:=yz w2 #[.pointer (some ⟨v.p,0,none⟩)] 53 0;generalize w2.alloc (.cells #[.pointer (some ⟨v.p,0,none⟩)] 53)=w3 at al be⊢;obtain⟨bx,wd⟩:∃bx,bx=w2.heap.size:=⟨_,rfl⟩;rw[<-wd]at be⊢;have tU:=au.trans (al.mono au.size);have CZ:=h_ (yD1 3 bx B v w3 be (H.below tU) HL.out (by omega));have mL:Hid (HeI w w3.heap.size cb [] w3):=h_ ⟨aa_ _,tU,⟨_,_,(al.block cb (by rw[KO.out];exact(i_ bQ.out).1)).trans (by rw[KO.out];exact bQ.out),gZ.below al,by simp[xe]⟩⟩;have ay:=h_ al;clear al be wd tU;have sM:Hid (∃vp,vp=v.p):=h_ ⟨_,rfl⟩;go_wp2;have dM:w2.heap.size<=w3.heap.size:=ay.size;have lI:cb<w3.heap.size:=by have:=(i_ bQ.out).1;rw[KO.out];omega
 have KP:w.heap.size<=w3.heap.size:=by have:=au.size;omega
 refine(wpIn_wide (n:=4)).1 (wpIn_rangeFunc_ownH rfl (by omega) (gf:=113) rfl trivial (enters_of func113 (by kernel_rfl) rfl) CZ.out (λh k=>h.trans k) (λW l o o' _ hl hc _=>KpH.put W l o o' hl hc) (ab_ _ _) (λ_=>rfl)
  (HeI w w3.heap.size cb) (λc pre X=>False) (HeI.own w _ cb KP) (λc pre A B row h _ _=>h) mL.out (HeA w3.heap.size v.p cb c ug uc bx) (λx a' _ A B row ⟨g,h0,h1,h2⟩ hg hr=>⟨g,h0,h1,qN hg hr h2 rfl⟩) ?assign ?body ?done ?stop)
 case assign=>
  intro l pre x W K hI hK;unfold ylH;rw[xNb]
  change Code.wpIn _ _ _ _ _ { tmps:=#[.pointer (some ⟨v.p,0,none⟩),undef,.slice none 0 0,.pointer (some ⟨cb,0,none⟩),undef,undef,.pointer (some ⟨v.p,0,none⟩),.bool false,.pointer (some ⟨v.p,0,none⟩),.pointer (some ⟨v.p,0,none⟩),.pointer (some ⟨v.p,1,none⟩),.int .i64 c,.slice (some ⟨ug,0,none⟩) 4 uc,.pointer (some ⟨v.p,0,none⟩),.func (.func 113) #[] #[.pointer (some ⟨bx,0,none⟩)],.agg (x7 x.1),undef,undef,undef,undef,undef,undef,undef,undef,undef,undef,undef,undef,undef,undef,undef,undef,undef,undef,undef,undef,undef,undef,undef,undef],defers:=[] } W
  have aM:=(ab_ W.heap.size W).alloc (aa_ _) (.cells (x7 x.1) 58)
  have AK:=hK { tmps:=heT v.p cb c ug uc bx W.heap.size x.1,defers:=[] } (W.alloc (.cells (x7 x.1) 58))
   ⟨aM.size,λk o _ hk _=>(heap_alloc_old _ _ (i_ hk).1).trans hk⟩ (KpH.below aM)
   (HeI.own w _ cb KP pre W _ none hI (zp aM none) (λr hr=>by cases hr))
   ⟨W.heap.size,hI.sz,rfl,heap_alloc_new _ _⟩
  unfold heT at AK;have CG:=h_ AK;have hf:=vw x.1;have hz:(x7 zy).size=36:=xC _;clear hK AK aM hI CZ mL ay bQ gZ au KO Jz HL H HA KP lI dM
  gi_wp2
  exact CG.out
 case body=>
  intro l pre x a' W hl hL hI hA j_;obtain⟨g,hg2,rfl,pM⟩:=hA;unfold heT;obtain⟨u,y,aT,ae,hyl⟩:=hI.cl;obtain⟨an,PN⟩:∃an:Nat,x.1.arr=(an:Int):=⟨x.1.arr.toNat,(dH_ x.2.1).symm⟩;obtain⟨dn,iB⟩:∃dn:Nat,x.1.date=(dn:Int):=⟨x.1.date.toNat,(dH_ x.2.2.2.1).symm⟩;have Ch:an<=105190559:=by have:=x.2.2.1;omega
  have Ci:dn<=105190559:=by have:=x.2.2.2.2.1;omega
  have gk:w.heap.size<=W.heap.size:=hI.bl.size;have GS:w.heap.size<=cb:=by rw[KO.out];exact Jz.out
  have DH:y.length<=100000:=by omega
  obtain⟨ua,un,uc',hu⟩:∃ua un uc',u=.slice ua un uc':=by obtain⟨a1,a2,h⟩:=yd ae;exact⟨_,_,_,h⟩
  have c0:W.drew.cell? ⟨cb,0,none⟩=some u:=cell_of_row W cb 0 _ _ _ aT;rw[hu]at c0;have f0:W.drew.frozen? ⟨cb,0,none⟩=false:=frozen_of_row W cb 0 _ _ aT;have ee:=h_ (vZ.start (b0:=w.heap.size) aT ae);have bF:=h_ (And.intro aT ae);have sx:=h_ pM;have bD:Below W.heap.size W W.drew:=(ab_ _ _).drew;have PO:=h_ (ae.below bD);have pp:Hid (SlB W.drew ⟨g,0,none⟩ x.1.id.1):=h_ ⟨λq c hq=>(xK0 pM).cell q c hq⟩;have dw:Hid (y.length+x.1.id.1.length<=1000000000000):=h_ (by rw[x.1.id.2];omega);have eX:Hid (w.heap.size<=W.drew.heap.size):=h_ gk;have HX:=h_ (And.intro PN (And.intro iB (And.intro Ch (And.intro Ci (And.intro gk (And.intro GS (And.intro DH hyl)))))));have HI:=h_ hI;have PP:=h_ hu;have aO:=h_ x.2.2.2.2.2;clear hI aT ae pM bD PN iB Ch Ci gk GS DH hyl hu CZ mL ay bQ gZ au HL H HA KP lI dM
  gi_wp2_with fail
  refine vl (by kernel_rfl) (λ⟨_,_,h⟩=>h) (by kernel_rfl) ?_;refine kf [0,1,2] [3,4] 0 (λw'=>w'=W.drew) (by kernel_rfl) (by kernel_rfl) (by kernel_rfl) rfl rfl rfl ?_;simp only[o_]
  repeat (go_big_quiet_step (fail))
  refine wpQuiet_nil ?_;refine uD [3,4] _ _ (by kernel_rfl) ?_;simp only[o_];go_wp2_with (at_builtin;refine zw rfl (.tmp 16) (.tmp 18) rfl w.heap.size _ y PP.symm PO.out ⟨g,0,none⟩ x.1.id.1 32 (by rw[x.1.id.2];rfl) pp.out dw.out eX.out ?_);intro v1 X1 cd du _ gK;have r8:w.heap.size<=W.heap.size:=HX.2.2.2.2.1;have Cj:w.heap.size<=cb:=HX.2.2.2.2.2.1;have ar:=h_ ((ByC.start ee.own).app r8 ((ab_ W.heap.size W).drew) cd du gK (aa_ _));obtain⟨a1,n1,k1,rfl⟩:=zo cd;obtain⟨c1,f1,Y1,Hg,ng,VB,VC,m1,_⟩:=xB1 ee.out Cj ar.out bF.1 bF.2 sx.out;rw[HX.1]at m1;rw[PP.out]at c1;have iw:=h_ ng;have FJ:=h_ Hg;have IW:=h_ (xFr (y++x.1.id.1) an (by have:=HX.2.2.1;omega) (.slice a1 n1 k1) Y1 w.heap.size ng.own (ad_ r8 ng.bel.size) (by rw[af_,x.1.id.2];have:=HX.2.2.2.2.2.2.1;omega));clear cd du gK r8 Cj ng Hg c0 f0 PO pp dw eX ar;go_wp2;refine ag_ ?_;rw[uo];refine vB (by kernel_rfl) ?_
  gi_upto_region 7 with fail
  refine j5 FJ.out ?_;clear FJ c1 f1
  gi_wp2_with fail
  refine⟨trivial,(cZ_ _ (callsIn_wide.2 IW.out)).mono ?_⟩;rintro e X2 ⟨v2,rfl,dh⟩;obtain⟨a2,n2,k2,rfl⟩:=zo dh.own;obtain⟨c2,f2,Y2,PQ,pI,VD,VE,_,m2,_⟩:=xB1 iw.out HX.2.2.2.2.2.1 dh bF.1 bF.2 sx.out;rw[HX.2.1]at m2;have fu:=h_ pI;have PR:=h_ PQ;have oK:=h_ (xFr (y++x.1.id.1++beB 4 an) dn (by have:=HX.2.2.2.1;omega) (.slice a2 n2 k2) Y2 w.heap.size pI.own (ad_ HX.2.2.2.2.1 pI.bel.size) (by rw[af_,af_,x.1.id.2,xe];have:=HX.2.2.2.2.2.2.1;omega));clear dh pI PQ IW VB VC m1 iw
  gi_upto_region 8 with fail
  refine j5 PR.out ?_;clear PR c2 f2
  gi_wp2_with fail
  refine⟨trivial,(cZ_ _ (callsIn_wide.2 oK.out)).mono ?_⟩;rintro e X3 ⟨v3,rfl,cU⟩;obtain⟨a3,n3,k3,rfl⟩:=zo cU.own;obtain⟨c3,f3,Y3,PS,PT,VF,VG,_,_,m3,m4⟩:=xB1 fu.out HX.2.2.2.2.2.1 cU bF.1 bF.2 sx.out;have iq:=h_ PT;have PU:=h_ PS;obtain⟨y3,BF⟩:∃y3,y3=y++x.1.id.1++beB 4 an++beB 4 dn:=⟨_,rfl⟩;rw[<-BF]at iq;have Ei:Hid (y3.length=4+41*pre.length+40):=h_ (by rw[BF,af_,af_,af_,x.1.id.2,xe,xe,HX.2.2.2.2.2.2.2]);have HYB:Hid (y3.length<=200000):=h_ (by have:=HX.2.2.2.2.2.2.1;have:=HX.2.2.2.2.2.2.2;have:=Ei.out;omega);have db:Hid (w.heap.size<=Y3.heap.size):=h_ (ad_ HX.2.2.2.2.1 iq.bel.size)
  have key:∀f:Nat,f<4->Hid (SlB (Y3.alloc (.cells #[.int .u8 (f:Int)] 5)) ⟨Y3.heap.size,0,none⟩ [UInt8.ofNat f]):=λf hf=>h_ (by
   have:=vi Y3 5 [UInt8.ofNat f];have e:(UInt8.ofNat f).toNat=f:=by rw[bO_];omega
   simpa[encB,e]using this)
  have app:∀f:Nat,∀v' X',OwnB X' w.heap.size v' (y3++[UInt8.ofNat f])->(Y3.alloc (.cells #[.int .u8 (f:Int)] 5)).grownBy X' (Value.slice a3 n3 k3).ownBlock->(v'.ownBlock=(Value.slice a3 n3 k3).ownBlock\/v'.ownBlock=some (Y3.alloc (.cells #[.int .u8 (f:Int)] 5)).heap.size)->ByC w.heap.size Y3 (.slice a3 n3 k3) v' (y3++[UInt8.ofNat f]) X':=λf v' X' ho hg hf=>
   (ByC.start iq.own).app db.out ((ab_ _ _).alloc (aa_ _) _) ho hg hf (aa_ _)
  have mh:=h_ key;have oR:=h_ app;have wU:∀f:Nat,Hid (OwnB (Y3.alloc (.cells #[.int .u8 (f:Int)] 5)) w.heap.size (.slice a3 n3 k3) y3):=λf=>h_ (iq.own.below ((ab_ _ _).alloc (aa_ _) _))
  have Ej:=h_ wU;have BO:∀f:Nat,Hid (w.heap.size<=(Y3.alloc (.cells #[.int .u8 (f:Int)] 5)).heap.size):=λf=>h_ (by have:=db.out;simp;omega)
  have s7:=h_ BO;have Ek:Hid (y3.length+1<=1000000000000):=h_ (by have:=HYB.out;omega);clear cU PT PS oK VD VE m2 fu BF key app wU BO
  gi_upto_region 9 with fail
  refine j5 PU.out ?_;clear PU c3 f3;obtain⟨st,ax⟩:∃st,st=x.1.st:=⟨_,rfl⟩;obtain⟨pm,o8⟩:∃pm,pm=x.1.perm:=⟨_,rfl⟩;rw[<-ax]at m3 aO;rw[<-o8]at m4;have oE:=aO.out;clear ax o8 aO;rcases oE with rfl|rfl <;> rcases pm with _|_
  ·gi_wp2_with (gi_at_builtin;refine ve rfl (.tmp 34) (.tmp 37) rfl w.heap.size _ y3 rfl (Ej.out 0).out ⟨Y3.heap.size,0,none⟩ [UInt8.ofNat 0] 1 rfl (mh.out 0 (by omega)).out Ek.out (s7.out 0).out ?_)
   intro v4 X4 ho hg hf;have bt:=h_ (oR.out 0 v4 X4 ho hg (by rw[al_];exact hf));obtain⟨a4,n4,k4,rfl⟩:=zo ho;obtain⟨c4,f4,_,rfl,Ck,_⟩:=xB1 iq.out HX.2.2.2.2.2.1 bt.out bF.1 bF.2 sx.out;have oH:=h_ Ck;clear ho hg hf Ck
   gi_wp2
   exact xPe oH.out bF.1 bF.2 HI.out (by rw[af_,Ei.out];simp;omega)
  ·gi_wp2_with (gi_at_builtin;refine ve rfl (.tmp 34) (.tmp 37) rfl w.heap.size _ y3 rfl (Ej.out 2).out ⟨Y3.heap.size,0,none⟩ [UInt8.ofNat 2] 1 rfl (mh.out 2 (by omega)).out Ek.out (s7.out 2).out ?_)
   intro v4 X4 ho hg hf;have bt:=h_ (oR.out 2 v4 X4 ho hg (by rw[al_];exact hf));obtain⟨a4,n4,k4,rfl⟩:=zo ho;obtain⟨c4,f4,_,rfl,Ck,_⟩:=xB1 iq.out HX.2.2.2.2.2.1 bt.out bF.1 bF.2 sx.out;have oH:=h_ Ck;clear ho hg hf Ck
   gi_wp2
   exact xPe oH.out bF.1 bF.2 HI.out (by rw[af_,Ei.out];simp;omega)
  ·gi_wp2_with (gi_at_builtin;refine ve rfl (.tmp 34) (.tmp 37) rfl w.heap.size _ y3 rfl (Ej.out 1).out ⟨Y3.heap.size,0,none⟩ [UInt8.ofNat 1] 1 rfl (mh.out 1 (by omega)).out Ek.out (s7.out 1).out ?_)
   intro v4 X4 ho hg hf;have bt:=h_ (oR.out 1 v4 X4 ho hg (by rw[al_];exact hf));obtain⟨a4,n4,k4,rfl⟩:=zo ho;obtain⟨c4,f4,_,rfl,Ck,_⟩:=xB1 iq.out HX.2.2.2.2.2.1 bt.out bF.1 bF.2 sx.out;have oH:=h_ Ck;clear ho hg hf Ck
   gi_wp2
   exact xPe oH.out bF.1 bF.2 HI.out (by rw[af_,Ei.out];simp;omega)
  ·gi_wp2_with (gi_at_builtin;refine ve rfl (.tmp 34) (.tmp 37) rfl w.heap.size _ y3 rfl (Ej.out 3).out ⟨Y3.heap.size,0,none⟩ [UInt8.ofNat 3] 1 rfl (mh.out 3 (by omega)).out Ek.out (s7.out 3).out ?_)
   intro v4 X4 ho hg hf;have bt:=h_ (oR.out 3 v4 X4 ho hg (by rw[al_];exact hf));obtain⟨a4,n4,k4,rfl⟩:=zo ho;obtain⟨c4,f4,_,rfl,Ck,_⟩:=xB1 iq.out HX.2.2.2.2.2.1 bt.out bF.1 bF.2 sx.out;have oH:=h_ Ck;clear ho hg hf Ck
   gi_wp2
   exact xPe oH.out bF.1 bF.2 HI.out (by rw[af_,Ei.out];simp;omega)
 case done=>
  intro D xs W hD hS hI hK;obtain⟨u,y,aT,ae,hyl⟩:=hI.cl;obtain⟨ua,un,uk,rfl⟩:=zo ae;have Iq:=cell_of_row W cb 0 _ _ _ aT;simp only[v_]at Iq;have sV:=h_ ae;have iy:=h_ hI.bl;have HK:=h_ hK;have HD:=h_ hD;have VH:Hid (1<=y.length/\y.length<=20000):=h_ (by have:=HL.out;omega);have VI:=h_ KP;clear aT ae hyl hI hK hD hS CZ mL ay bQ gZ au KO Jz HL H HA KP lI dM;go_wp2;refine⟨by simp,.inl ⟨_,_,rfl,run_takeDeferred HK.out,?_⟩⟩;refine⟨.slice ua un uk,results_tmp (t:=2) results56 _ _ _,iy.grown (grownBy_putObj' _ D _) iy.size (λk e=>by cases e;have:=VI.out;have:=HD.out;omega),.slice ua un uk,y,rfl,sV.grown (grownBy_putObj' _ D _) (λk e h4=>?_),VH.out⟩;cases e
  obtain⟨o,ho,hc⟩:=sV.isCells h4;rw[HK.out]at ho;cases ho;cases hc
 case stop=>
  rintro D c pre W hD SN h hK;exact h.elim
end
end Go.Proofs.YtegfbhdkenkkdaaGreatDoor
namespace Go.Proofs.YtegfbhdkenkkdaaGreatDoor
open Go Go.RowKit Go.Proofs Tryz
open Go.ChangeMaps (setBlock)
structure SEn where
 id:Id32
 art:SArt
def zY (x:SEn):List Value:=xl x.id++[.int .i64 x.art.arr,.int .i64 (x.art.text.size:Int)]
def y8 (x:SEn):Array Value:=(zY x).toArray
theorem ur (x):(zY x).length=34:=by simp[zY,xz]
theorem uQ (x):(y8 x).size=34:=by simp[y8,ur]
theorem xIt (x j):(zY x)[32+j]?=[Value.int .i64 x.art.arr,.int .i64 (x.art.text.size:Int)][j]?:=by
 unfold zY;rw[aF_ (by rw[xz];omega),xz,show 32+j-32=j by omega]
theorem se32 (x):(y8 x)[32]?=some (.int .i64 x.art.arr):=by simpa[y8]using xIt x 0
theorem se33 (x):(y8 x)[33]?=some (.int .i64 (x.art.text.size:Int)):=by simpa[y8]using xIt x 1
theorem xW6 (x):∀v∈zY x,v.oneCell'=true:=by
 intro v hv;unfold zY at hv;rcases aj_.1 hv with h|h
 ·exact uS x.id v h
 ·simp at h;rcases h with rfl|rfl <;> rfl
theorem xK8 (x):xy 34 (y8 x)=true:=zU (uQ x) (by
 rw[aD_];intro v hv;exact xW6 x v (by simpa[y8]using hv))
def xDa:SEn:=⟨uq,qo⟩
theorem Tryz.info_sen:(prog.info? 186).map (λi=>(i.zero,i.size,i.bytes))=some (some (.agg (y8 xDa)),34,48):=by kernel_rfl
theorem xCh (ρ:Operand->Value)(d x)(ty:TypeId)(pos af g w):
  Sem.run prog (execOp ρ ⟨d,.load 186 x,ty,pos,af,g⟩) w=yp prog 186 w (ρ x):=rfl
theorem xB6 (ρ:Operand->Value)(d x y)(ty:TypeId)(pos af g w):
  Sem.run prog (execOp ρ ⟨d,.store 186 x y,ty,pos,af,g⟩) w=yi prog 186 w (ρ x) (ρ y):=rfl
theorem yAi (w a)(h:xo w a 34=true):yp prog 186 w (.pointer (some a))=.ok (.value (.agg (xm w a 34))) w:=
 yf isAgg186 sizeOf186 w a h
theorem xZf (w g cells)(h:xM w g 34=true)(h2:xy 34 cells=true):
  yi prog 186 w (.pointer (some ⟨g,0,none⟩)) (.agg cells)=.ok .skip (w.setRow g cells):=yo (by kernel_rfl) w g cells h h2
theorem xB9 (ρ:Operand->Value)(d)(ty:TypeId)(pos af g w):
  Sem.run prog (execOp ρ ⟨d,.alloc 186,ty,pos,af,g⟩) w=.ok (.value (.pointer (some ⟨w.heap.size,0,none⟩))) (w.alloc (.cells (y8 xDa) 186)):=by kernel_rfl
theorem xPt (ρ:Operand->Value)(d)(ty:TypeId)(pos af g w):
  Sem.run prog (execOp ρ ⟨d,.alloc 33,ty,pos,af,g⟩) w=.ok (.value (.pointer (some ⟨w.heap.size,0,none⟩))) (w.alloc (.cells (xl uq).toArray 33)):=by kernel_rfl
theorem xYd (ρ:Operand->Value)(d x)(ty:TypeId)(pos af g w):
  Sem.run prog (execOp ρ ⟨d,.buildSlice 239 1 #[(0,x)],ty,pos,af,g⟩) w=kC prog 239 w (ρ x):=by kernel_rfl
theorem yF9 (w x):kC prog 239 w (.agg (y8 x))=.ok (.value (.slice (some ⟨w.heap.size,0,none⟩) 1 1)) (w.alloc (.cells (y8 x) 186)):=by
 obtain⟨i0,hi,bd,aL,bk⟩:=info_parts Tryz.info_sen;unfold kC
 rw[aE_,run_buildSlice w 239 186 1 _ (y8 x) i0 _ underlying239 hi bd (by rw[aL];decide) (by rw[aL];decide) (by
  rw[aL];exact kv _ _ 34 (uQ x) (by rw[dk_,cP_]))]
 rfl
def xI4 (i:Nat):Option (Nat×Nat):=#[(0,32),(32,1),(33,1)][i]?
theorem yF7 (parts):prog.built 186 parts=Instr.fill xI4 (y8 xDa) parts:=by kernel_rfl
theorem yFc (w id x):zB prog 186 w #[(0,.agg (xl id).toArray),(1,.int .i64 x.arr),(2,.int .i64 (x.text.size:Int))]=.ok (.value (.agg (y8 ⟨id,x⟩))) w:=zD (by
 show prog.built 186 [(0,.agg (xl id).toArray),(1,.int .i64 x.arr),(2,.int .i64 (x.text.size:Int))]=_
 rw[yF7];have l0:(xl xDa.id).length=32:=xz _;have l1:(xl id).length=32:=xz _;refine(yX xI4 0 (.agg (xl id).toArray) [] (xl xDa.id) [.int .i64 0,.int .i64 0] (xl id) (by rw[l0];rfl) rfl (by rw[l0,l1])).trans ?_;refine(yX xI4 1 (.int .i64 x.arr) (xl id) [.int .i64 0] [.int .i64 0] [.int .i64 x.arr] (by rw[l1];rfl) rfl rfl).trans ?_;rw[show xl id++([.int .i64 x.arr]++[.int .i64 0])=(xl id++[.int .i64 x.arr])++([.int .i64 0]++[]) by simp];refine(yX xI4 2 (.int .i64 (x.text.size:Int)) (xl id++[.int .i64 x.arr]) [.int .i64 0] [] [.int .i64 (x.text.size:Int)] (by rw[af_,l1];rfl) rfl rfl).trans ?_;rw[show (xl id++[.int .i64 x.arr])++([.int .i64 (x.text.size:Int)]++[])=zY ⟨id,x⟩ by simp[zY]];rfl)
theorem xPp (ρ:Operand->Value)(d x0 x1 x2)(ty:TypeId)(pos af gd w):
  Sem.run prog (execOp ρ ⟨d,.build 186 #[(0,x0),(1,x1),(2,x2)],ty,pos,af,gd⟩) w=zB prog 186 w #[(0,ρ x0),(1,ρ x1),(2,ρ x2)]:=by kernel_rfl
def SrAt (w:World)(B:Nat)(v:Value)(l:List SEn):Prop:=w.ownsRow B 186 34 v l.length (l.flatMap zY)
theorem SrAt.nil (w B):SrAt w B (.slice none 0 0) []:=aP_ _ _ _ _
theorem SrAt.later {w w' B v l}(h:SrAt w B v l)(hb:Below w.heap.size w w'):SrAt w' B v l:=vv h λg _ hg=>hb.block g hg
theorem xIb {rest ops o a}{Q:Exit->Act->World->Prop}{w}(fT:o.guard=none)(s x)
  (ho:o.op=.call { callee:=.builtin .append,args:=#[s,x],argTypes:=#[239,239] }) (B) (v) (l) (hs:a.eval s=v) (hr:SrAt w B v l)
  (r) (ad) (hx:a.eval x=.slice (some ad) 1 1)
  (hc:∀j u,(zY r)[j]?=some u->w.cell? (ad.add j)=some u) (ao:l.length<=1000000) (hB:B<=w.heap.size)
  (h:∀v' w',SrAt w' B v' (l++[r])->w.grownBy w' v.ownBlock->(v'.ownBlock=v.ownBlock\/v'.ownBlock=some w.heap.size)->wpList prog ops Q rest (a.put o.dst v') w'):wpList prog ops Q (o :: rest) a w:=by
 obtain⟨i0,hi,bd,aL,bk⟩:=info_parts Tryz.info_sen;refine wpList_append_own_at w fT s x 239 ho B 186 i0 (.agg (y8 xDa)) 34 48 underlying239 hi bd aL bk (by simp[Value.cells,uQ]) (by decide) v l.length (l.flatMap zY) hs hr ad 1 1 (zY r) hx (by rw[ur]) hc (xW6 r) (by unfold maxLen;omega) (by omega) hB λv' w' h1 h2 _ h4=>?_
 refine h v' w' ?_ h2 h4;unfold SrAt;rw[af_,cz_,bU_,cH_];exact h1
theorem xNf:∀(l:List SEn) (k:Nat) (hk:k<l.length) (j:Nat),j<34->(l.flatMap zY)[k*34+j]?=(zY l[k])[j]?
 |[],k,hk,_,_=>absurd hk (by simp)
 |x :: l,0,_,j,hj=>by
  rw[bw_,aJ_ (by rw[ur];omega)];simp
 |x :: l,k+1,hk,j,hj=>by
  rw[bw_,aF_ (by rw[ur];omega),ur,show (k+1)*34+j-34=k*34+j by omega];exact xNf l k (by simpa using hk) j hj
theorem SrAt.rd {w B n ua uc l}(h:SrAt w B (.slice ua n uc) l)(k)(hk:k<l.length):∃g,ua=some ⟨g,0,none⟩/\xo w ⟨g,k*34,none⟩ 34=true/\xm w ⟨g,k*34,none⟩ 34=y8 l[k]:=by
 obtain⟨g,hg⟩:∃g,ua=some ⟨g,0,none⟩:=by
  rcases h.2 with⟨_,h0⟩|⟨g,cap,cur,hv,_⟩
  ·omega
  ·exact⟨g,by injection hv⟩
 subst hg;refine⟨g,rfl,?_⟩
 have:=xW (w:=w) (a:=⟨g,k*34,none⟩) (cs:=zY l[k]) (λj v hj=>by
  have hl:j<34:=by rw[<-ur l[k]];exact(ax_.1 hj).1
  have h1:=bc_ h (g:=g) rfl (k*34+j) v (by rw[xNf l k hk j hl];exact hj);rw[an_]at h1⊢
  rwa [aq_]at h1)
 rw[ur]at this;exact this
def SOk (es:List (KE Id32))(x:SEn):Prop:=getK x.id es=some (.agg (xG x.art))/\0<=x.art.arr/\x.art.arr<=105190559/\x.art.text.size<=10000
abbrev SO (es:List (KE Id32)):Type:={ x:SEn // SOk es x }
theorem yE.one_next {B w W v e}(h:yE B w v)(he:v.es=[e]){x}(hx:e.v=.agg (xG x)){r}(hr:W.heap[r]?=some (.mapIter (some v.M) v.mc #[] v.mc))(hM:W.heap[v.M]?=w.heap[v.M]?):
  ∃X,(Instr.next (.pointer (some ⟨r,0,none⟩)) false 0).run prog W=.ok (.tuple #[.bool true,.agg (xl e.k).toArray,.agg (xG x)]) X/\Kept [r] W X/\X.heap[r]?=some (.mapIter (some v.M) v.mc #[e.b] v.mc) /\
   (Instr.entry (.pointer (some ⟨r,0,none⟩))).run prog X=.ok (.tuple #[.agg (xl e.k).toArray,.agg (xG x)]) X:=by
 have hm:=h.map;unfold y4 at hm;rw[he]at hm;have Iz:=hM.trans hm;have A_:r≠v.M:=λe=>by rw[e,Iz]at hr;cases hr
 have CV:e.b<v.mc:=h.vals.2.1.1 e (by rw[he];simp);have fD:∀x∈([e].map (enE ekI)).toArray.toList,x.born<v.mc:=λx hx=>by simp at hx;subst hx;exact CV
 have gH:(enE ekI e).val=.agg (xG x):=hx;rcases run_next_at (P:=prog) W 0 r v.M v.mc v.mc #[] _ v.mc hr Iz fD (aa_ _) with⟨h0,_⟩|⟨e',eK,X1,dm,tV⟩
 ·have:=all_seen _ _ h0 (enE ekI e) (by simp);simp at this
 ·obtain⟨aX,_⟩:=mem_left eK;have hE:e'=enE ekI e:=by simpa using aX
  subst hE;have gz:=(i_ hr).1;have ip:X1.heap=W.heap:=by rcases dm with rfl|rfl <;> rfl
  have hk1:Kept [r] W X1:=by
   rcases dm with rfl|rfl
   ·exact Kept.of_below (ab_ _ _)
   ·exact Kept.of_below (ab_ _ _).drew
  have hit:(setBlock X1 r (.mapIter (some v.M) v.mc #[e.b] v.mc)).heap[r]?=some (.mapIter (some v.M) v.mc #[e.b] v.mc):=zH _ _ _ (by rw[ip];exact gz);have Hf:(setBlock X1 r (.mapIter (some v.M) v.mc #[e.b] v.mc)).heap[v.M]?=some (.map ([e].map (enE ekI)).toArray v.mc):=by
   rw[xT _ _ _ _ (ds_ A_),ip];exact Iz
  have bS:=run_entry_at (P:=prog) _ r v.M v.mc #[] _ v.mc (enE ekI e) hit Hf (by simp) (by simp);rw[gH]at tV bS;refine⟨_,tV,⟨hk1.os,hk1.tape,hk1.output,by rw[yY];exact hk1.size,λk hk hn=>?_⟩,hit,bS⟩;rw[xT _ _ _ _ (by simpa using hn)];exact hk1.block k hk hn
theorem yE.one_end {v:Spo}{e:KE Id32}(hy:e.b<v.mc){W r}(hr:W.heap[r]?=some (.mapIter (some v.M) v.mc #[e.b] v.mc))(hM:W.heap[v.M]?=some (.map ([e].map (enE ekI)).toArray v.mc)):
  (Instr.next (.pointer (some ⟨r,0,none⟩)) false 0).run prog W=.ok (.tuple #[.bool false]) W:=by
 have fD:∀x∈([e].map (enE ekI)).toArray.toList,x.born<v.mc:=λx hx=>by simp at hx;subst hx;exact hy
 rcases run_next_at (P:=prog) W 0 r v.M v.mc v.mc #[e.b] _ v.mc hr hM fD (aa_ _) with⟨_,h1⟩|⟨e',eK,_⟩
 ·exact h1
 ·obtain⟨aX,fm⟩:=mem_left eK;have hE:e'=enE ekI e:=by simpa using aX
  subst hE;have:(enE ekI e).born=e.b:=rfl;rw[this]at fm;simp at fm
theorem xZn (a c f w):Calls prog 218 #[.slice a 1 c,.int .i64 0,.int .i64 1,f] w λe w'=>e=.returned (.tuple #[])/\w=w':=by
 go_enter func218,ntmps218;go_wp2;refine wp_loop_once ?_;go_wp2;go_end0;exact⟨rfl,rfl⟩
theorem xZi (a c f w):Calls prog 175 #[.slice a 1 c,.int .i64 0,.int .i64 1,.int .i64 1,f] w λe w'=>e=.returned (.tuple #[])/\w=w':=by
 have HI:=h_ (xZn a c f w);go_enter func175,ntmps175;go_wp2;refine wp_loop_once ?_;go_wp2_with fail;refine HI.mono ?_;rintro e w' ⟨rfl,rfl⟩;go_wp2
 first|go_end0|(simp only[Exit.inBlock,Exit.then];refine bodyPost_ret (results_none rfl _ _ _) rfl ?_)|refine bodyPost_ret (results_none rfl _ _ _) rfl ?_
 exact⟨rfl,rfl⟩
theorem xXi (a c f w):Calls prog 143 #[.slice a 1 c,f] w λe w'=>e=.returned (.tuple #[])/\w=w':=by
 have HI:=h_ (xZi a c f w);have HB:=h_ (Tryz.bits_Len 1 w (by decide) (by decide));go_enter func143,ntmps143;go_wp2_with fail;refine HB.mono ?_;rintro e w' ⟨rfl,rfl⟩;have h0:Lib.bitLen (1:Int).toNat=1:=by decide
 rw[h0];go_wp2_with fail;refine HI.mono ?_;rintro e w' ⟨rfl,rfl⟩;go_wp2;go_end0;exact⟨rfl,rfl⟩
attribute [local go_sem ↓] xL xI xPt jz vO xBa xCh xB6 xB9 xYd xPp
attribute [local go_sem] zm zA xP8 xOe yAi xZf yF9 yFc xh xf xa x9 xu xv xk xj xq xx xt
theorem xOh {B w v en}(h:yE B w v)(he:v.es=[en]){x}(hx:en.v=.agg (xG x)):
  Calls prog 117 #[.pointer (some ⟨v.p,0,none⟩)] w λe w'=>Below w.heap.size w w'/\∃u,e=.returned u/\SrAt w' w.heap.size u [⟨en.k,x⟩]:=by
 obtain⟨w1,ai⟩:∃w1,w1=w.alloc (.cells #[.pointer (some ⟨v.p,0,none⟩)] 50):=⟨_,rfl⟩;have aa:Below w.heap.size w w1:=by rw[ai];exact b_ _ _
 have fP:w1.heap[w.heap.size]?=some (.cells #[.pointer (some ⟨v.p,0,none⟩)] 50 (0,0)):=by rw[ai];exact heap_alloc_new w _
 have be:=cell_of_row w1 w.heap.size 0 _ _ _ fP;simp only[v_]at be;have bg:=h.below aa;have c3:=cell_of_row w1 v.p 3 _ _ _ bg.blk;simp only[za,v_]at c3;have hm:=bg.map;unfold y4 at hm;rw[he]at hm;have mq:=run_range_map (P:=prog) w1 99 _ _ v.M _ v.mc underlying99 hm;obtain⟨W,hW⟩:∃W,W=w1.alloc (.mapIter (some v.M) v.mc #[] v.mc):=⟨_,rfl⟩;have hb:Below w1.heap.size w1 W:=by rw[hW];exact b_ _ _
 have hit:W.heap[w1.heap.size]?=some (.mapIter (some v.M) v.mc #[] v.mc):=by rw[hW];exact heap_alloc_new w1 _
 obtain⟨X1,bj,hk,FG,bS⟩:=bg.one_next he hx hit (hb.block _ bg.lt.2);obtain⟨k,tG⟩:∃k,k=en.k:=⟨_,rfl⟩;rw[<-tG]at bj bS⊢;have gj:Below w1.heap.size w1 X1:=hb.trans (hk.below hb.size (λq hq=>by rw[ac_.1 hq];exact aa_ _));obtain⟨X2,iM⟩:∃X2,X2=(X1.alloc (.cells (xl k).toArray 33)).alloc (.cells (xG x) 155):=⟨_,rfl⟩;have ak:Below X1.heap.size X1 X2:=by rw[iM];exact((ab_ _ _).alloc (aa_ _) _).alloc (by simp) _
 have hi2:X2.heap[X1.heap.size]?=some (.cells (xl k).toArray 33 (0,0)):=by
  rw[iM,heap_alloc_old _ _ (by simp),heap_alloc_new]
 have gy:X2.heap[X1.heap.size+1]?=some (.cells (xG x) 155 (0,0)):=by
  have:=heap_alloc_new (X1.alloc (.cells (xl k).toArray 33)) (.cells (xG x) 155);rw[al_,<-iM]at this;exact this
 have ri:=yj hi2;obtain⟨ok2,rd2⟩:xo X2 ⟨X1.heap.size,0,none⟩ 32=true/\xm X2 ⟨X1.heap.size,0,none⟩ 32=(xl k).toArray:=ri;have e0:=cell_of_row X2 (X1.heap.size+1) 0 _ _ _ gy;have e1:=cell_of_row X2 (X1.heap.size+1) 1 _ _ _ gy;simp only[xG,v_]at e0 e1;have cS:Below w.heap.size w X2:=(aa.trans (gj.mono aa.size)).trans (ak.mono (by have:=aa.size;have:=gj.size;omega));have dM:Below X2.heap.size X2 (X2.alloc (.cells (y8 ⟨k,x⟩) 186)):=(ab_ _ _).alloc (aa_ _) _;have bK:=heap_alloc_new X2 (.cells (y8 ⟨k,x⟩) 186);have ay:Hid (Below w.heap.size w (X2.alloc (.cells (y8 ⟨k,x⟩) 186))):=h_ (cS.trans (dM.mono cS.size));have nD:Hid (∀j u,(zY ⟨k,x⟩)[j]?=some u->(X2.alloc (.cells (y8 ⟨k,x⟩) 186)).cell? ((⟨X2.heap.size,0,none⟩:Addr).add j)=some u):=h_ λj u hj=>by
  rw[an_,aq_,cell_of_row _ X2.heap.size j _ _ _ bK];unfold y8;rw[ah_];exact hj
 have BH:Hid ((X2.alloc (.cells (y8 ⟨k,x⟩) 186)).heap[w1.heap.size]?=some (.mapIter (some v.M) v.mc #[en.b] v.mc)):=h_ (by
  have h1:=(i_ FG).1;exact(dM.block _ (by have:=ak.size;omega)).trans ((ak.block _ h1).trans FG))
 have Fe:Hid ((X2.alloc (.cells (y8 ⟨k,x⟩) 186)).heap[v.M]?=some (.map ([en].map (enE ekI)).toArray v.mc)):=h_ (by
  have h1:=bg.lt.2;exact(dM.block _ (by have:=ak.size;have:=gj.size;omega)).trans ((ak.block _ (by have:=gj.size;omega)).trans ((gj.block _ h1).trans hm)))
 have CR:Hid ((X2.alloc (.cells (y8 ⟨k,x⟩) 186)).heap[w.heap.size]?=some (.cells #[.pointer (some ⟨v.p,0,none⟩)] 50 (0,0))):=h_ (by
  have h1:=(i_ fP).1;exact(dM.block _ (by have:=ak.size;have:=gj.size;omega)).trans ((ak.block _ (by have:=gj.size;omega)).trans ((gj.block _ h1).trans fP)))
 have HYG:Hid (en.b<v.mc):=h_ (h.vals.2.1.1 en (by rw[he];simp));have Hi:Hid (v.M<X2.heap.size/\w1.heap.size<X2.heap.size/\w.heap.size<w1.heap.size/\w1.heap.size<=X1.heap.size/\X1.heap.size<X2.heap.size):=h_ ⟨by have:=bg.lt.2;have:=gj.size;have:=ak.size;omega,by have:=(i_ FG).1;have:=ak.size;omega,by have:=(i_ fP).1;exact this,gj.size,(i_ hi2).1⟩;have iA:=xSr x;have g_:=xK8 ⟨k,x⟩;have mJ:xy 32 (xl k).toArray=true:=kX k;rw[<-hW]at mq;have hza:(xG qo).size=3:=rfl;have Uf:(xl uq).toArray.size=32:=by simp[xz]
 unfold xG at bj bS iM iA;clear hm hb hit h he hW bg aa fP hk FG gj ak hi2 gy cS dM bK hx tG;go_enter func117,ntmps117;go_upto_region 1 with fail
 refine xr ai ?_;clear ai;go_wp2;refine yH ?_;go_upto_region 7 with fail
 refine xr iM ?_;clear iM bj bS mq c3 be;go_wp2_with (at_builtin;refine xIb rfl (.tmp 18) (.tmp 26) rfl w.heap.size _ [] rfl (SrAt.nil _ _) ⟨k,x⟩ ⟨X2.heap.size,0,none⟩ rfl nD.out (by simp) ay.size ?_);intro v' w' Eg lT Eh;have eT:=al_ X2 (.cells (y8 ⟨k,x⟩) 186);have hlt:=Hi.out;have Is:=yE.one_end (v:=v) HYG.out ((lT.block w1.heap.size (by omega) (by simp[Value.ownBlock])).trans BH.out) ((lT.block v.M (by omega) (by simp[Value.ownBlock])).trans Fe.out);have VJ:=cell_of_row w' w.heap.size 0 _ _ _ ((lT.block w.heap.size (by omega) (by simp[Value.ownBlock])).trans CR.out);simp only[v_]at VJ;have HF:Hid (Below w.heap.size w w'/\SrAt w' w.heap.size v' [⟨k,x⟩]):=h_ ⟨ay.grown lT ay.size (λq e=>by simp[Value.ownBlock]at e),Eg⟩;obtain⟨ua,uc,hu⟩:=yd Eg;subst hu;clear Eg lT Eh eT hlt e0 e1 ok2 rd2;go_wp2_with fail;refine(xXi ua uc _ w').mono ?_;rintro e w'' ⟨rfl,rfl⟩;clear Is;go_wp2;go_ret;exact⟨HF.1,_,rfl,HF.2⟩
end Go.Proofs.YtegfbhdkenkkdaaGreatDoor
namespace Go.Proofs.YtegfbhdkenkkdaaGreatDoor
open Go Go.RowKit Go.Proofs Tryz
section
def xDr (es:List (KE Id32)):Prop:=es.length<=1/\∀e∈es,∃x:SArt,e.v=.agg (xG x)/\0<=x.arr/\x.arr<=105190559/\x.text.size<=10000
theorem xR1 {B w v}(h:yE B w v)(hl:xDr v.es):
  Calls prog 117 #[.pointer (some ⟨v.p,0,none⟩)] w λe w'=>Below w.heap.size w w'/\∃u l,e=.returned u/\SrAt w' w.heap.size u l/\l.length<=1/\∀x∈l,SOk v.es x:=by
 match he:v.es with
 |[]=>
  refine(xBw h he).mono ?_;rintro e w' ⟨rfl,hb⟩;exact⟨hb,_,[],rfl,SrAt.nil _ _,by simp,λx hx=>by cases hx⟩
 |[en]=>
  obtain⟨x,hx,h1,h2,h3⟩:=hl.2 en (by rw[he];simp);refine(xOh h he hx).mono ?_;rintro e w' ⟨hb,u,rfl,hr⟩;refine⟨hb,u,_,rfl,hr,by simp,λy hy=>?_⟩;rw[ac_.1 hy];exact⟨by rw[qf,if_pos rfl,hx],h1,h2,h3⟩
 |a :: b :: r=>exact absurd hl.1 (by rw[he];simp)
def ylS {es:List (KE Id32)}(x:SO es):Array Value:=#[.agg (y8 x.1)]
def KpS (A B:World):Prop:=A.heap.size<=B.heap.size/\∀(g:Nat) (cs:Array Value),A.heap[g]?=some (Obj.cells cs 186 (0,0))->B.heap[g]?=some (Obj.cells cs 186 (0,0))
theorem KpS.trans {A B C}(h:KpS A B)(k:KpS B C):KpS A C:=⟨ad_ h.1 k.1,λg cs hg=>k.2 g cs (h.2 g cs hg)⟩
theorem KpS.put (W l o o')(hl:W.heap[l]?=some o)(ho:o.isCells=false):KpS W (W.putObj l o'):=⟨by simp[World.putObj],λg cs hg=>(aB_ (λe=>by
 subst e;rw[hg]at hl;cases hl;cases ho)).trans hg⟩
theorem KpS.below {A B}(h:Below A.heap.size A B):KpS A B:=⟨h.size,λg cs hg=>(h.block g (i_ hg).1).trans hg⟩
theorem SrAt.kp {A B b v l}(h:SrAt A b v l)(k:KpS A B):SrAt B b v l:=by
 refine⟨h.1,?_⟩;rcases h.2 with h0|⟨g,cap,cur,hv,hg,aq,r⟩
 ·exact .inl h0
 ·exact .inr ⟨g,cap,cur,hv,hg,k.2 g cur aq,r⟩
theorem xPx (ro)(ρ:Operand->Value)(d x)(ty:TypeId)(pos af g w):
  Sem.run prog (Oper.semAt ro ρ ⟨d,.load 186 x,ty,pos,af,g⟩) w=yp prog 186 w (ρ x):=by
 rw[by_ _ _ _ (by intro c h;cases h)]
 exact xCh ..
theorem xLz (ro)(ρ:Operand->Value)(d x y)(ty:TypeId)(pos af g w):
  Sem.run prog (Oper.semAt ro ρ ⟨d,.store 186 x y,ty,pos,af,g⟩) w=yi prog 186 w (ρ x) (ρ y):=by
 rw[by_ _ _ _ (by intro c h;cases h)]
 exact xB6 ..
theorem xM4 (ro)(ρ:Operand->Value)(d)(ty:TypeId)(pos af g w):
  Sem.run prog (Oper.semAt ro ρ ⟨d,.alloc 186,ty,pos,af,g⟩) w=.ok (.value (.pointer (some ⟨w.heap.size,0,none⟩))) (w.alloc (.cells (y8 xDa) 186)):=by
 rw[by_ _ _ _ (by intro c h;cases h)]
 exact xB9 ..
attribute [local go_sem] Oper.semAt_some
attribute [local go_sem ↓] xPx xLz xM4 xCh xB6 xB9 xL
attribute [local go_sem] yAi xZf zm xh xf xa x9 xu zQ xq xx
theorem yCl (n bx B v w)(h0:w.cell? ⟨bx,0,none⟩=some (.pointer (some ⟨v.p,0,none⟩)))(h:yE B w v)(hl:xDr v.es)(hn:1<=n):
  SeqStopsK Fence.wide n prog 116 #[.pointer (some ⟨bx,0,none⟩)] (ylS (es:=v.es)) KpS (λxs=>xs.length<=1) (λ_=>True) 2 w:=λy J Jx W hW hJ Mf hY hj=>by
 have hd:=h.below hW;have HS:=h_ (xR1 hd hl);have c0:W.cell? ⟨bx,0,none⟩=some (.pointer (some ⟨v.p,0,none⟩)):=(hW.cell (block_lt_of_cell h0)).trans h0;have HY:=h_ hY;have Id:=h_ hJ;have HJ:=h_ hj;have HL:=h_ hl;clear hd h h0 hW hY hj hJ Mf hl;show CallsIn _ _ _ _ _ _ _
 refine callsIn_wide.2 ?_;go_enter func116,ntmps116;go_wp2_with fail;refine HS.mono ?_;rintro e w1 ⟨aa,u,l,rfl,ah,ao,aD⟩;obtain⟨L,rfl⟩:∃L:List (SO v.es),l=L.map (·.1):=⟨l.pmap Subtype.mk aD,by rw[List.map_pmap];simp⟩;rw[aQ_]at ao;have Di:=h_ (Id.out [] W w1 none HJ.out (zp aa none) (λr hr=>by cases hr));have mC:Hid (W.heap.size<=w1.heap.size):=h_ aa.size;have cL:Hid (L.length<=1):=h_ ao;obtain⟨ua,uc,hu⟩:=yd ah;subst hu;have bX:=h_ ah;obtain⟨N,hN⟩:∃N,N=L.length:=⟨_,rfl⟩;rw[aQ_,<-hN]at bX⊢;have HN:=h_ hN;have Qs:(N:Int)<=400:=by have:=cL.out;omega
 clear aa ah ao aD hN HS c0;go_wp2;refine(wpIn_wide (n:=n)).1 ?_
 gi_loopw [8] (λi wr=>∃k:Nat,i=.int .i64 k/\k<=N/\Hid (J (L.take k) wr)/\Hid (SrAt wr W.heap.size (.slice ua N uc) (L.map (·.1)))/\Hid (W.heap.size<=wr.heap.size)) (λi _=>N-(intOf i).toNat)
 case atStart=>exact⟨0,rfl,aV_ _,Di,bX,mC⟩
 case round=>
  obtain⟨k,rfl,hk,AH,HR,eX⟩:=hrel;by_cases hlt:k<N
  ·have cr:(k:Int)<N:=by omega
   have ct:k<L.length:=by rw[<-HN.out];exact hlt
   obtain⟨g,hg,o1,r1⟩:=HR.rd k (by rw[aQ_];exact ct);rw[bS_]at r1;subst hg;obtain⟨x,hx⟩:∃x,x=L[k]:=⟨_,rfl⟩;rw[<-hx]at r1;have p8:Hid (L.take (k+1)=L.take k++[x]):=h_ (by rw[am_ ct,hx]);obtain⟨X1,dm⟩:∃X1,X1=wr.alloc (.cells (y8 x.1) 186):=⟨_,rfl⟩;have aa:Below wr.heap.size wr X1:=by rw[dm];exact b_ _ _
   have az:X1.heap[wr.heap.size]?=some (.cells (y8 x.1) 186 (0,0)):=by rw[dm];exact heap_alloc_new wr _
   obtain⟨o2,r2⟩:=xD (n:=34) az (uQ x.1);have PM:=Id.out (L.take k) wr X1 none AH.out (zp aa none) (λr hr=>by cases hr);have BH:=h_ (HR.later aa);have Jw:=h_ (ad_ eX.out aa.size);obtain⟨fn,tmps,assign,body,hy,hR⟩:=HY.out (L.take k) x X1 PM (by rw[ai_];have:=cL.out;omega);unfold ylS at hy;have Le:=xK8 x.1;have Ro:((y8 xDa).size==34)=true:=by rw[uQ];rfl
   have bk:(y8 xDa).size=34:=uQ _;have pJ:=h_ hR;clear ct hx aa az PM hR AH HR eX;rw[dm]at o2 r2 hy pJ
   gi_wp2
   refine pJ.mono ?_;rintro e W3 (⟨rfl,E4,dp⟩|⟨rfl,ot⟩)
   ·rw[<-dm]at dp;have iq:=h_ (BH.kp dp);have eS:=h_ (ad_ Jw.out dp.1);have Au:=h_ E4;clear hy pJ o1 r1 o2 r2 dp E4 BH Jw dm
    gi_wp2
    go_roundw
    case rel=>exact⟨k+1,by go_num,by omega,by rw[p8.out];exact Au,iq,eS⟩
    case measure=>simp only[intOf];omega
   ·have AI:=h_ ot;clear hy pJ o1 r1 o2 r2 ot BH Jw dm
    gi_wp2
    refine bodyPost_ret (results_none rfl _ _ _) rfl ?_;exact⟨⟨_,rfl⟩,.inr ⟨_,trivial,AI.out⟩⟩
  ·obtain rfl:k=N:=by omega
   have HT:L.take k=L:=ar_ (by rw[<-HN.out];exact aa_ _);have Jy:=HT▸AH
   gi_wp2
   go_end0;exact⟨⟨_,rfl⟩,.inl ⟨L,cL.out,Jy.out⟩⟩
structure SeI (w:World)(b cb:Nat){es:List (KE Id32)}(pre:List (SO es))(X:World):Prop where
 sz:b<=X.heap.size
 bl:Below w.heap.size w X
 cl:∃u y,X.heap[cb]?=some (.cells #[u] 31 (0,0))/\OwnB X w.heap.size u y/\16<=y.length/\y.length<=16+10048*pre.length
theorem SeI.own (w b cb)(hb:w.heap.size<=b){es}:OwnFrom b (SeI w b cb (es:=es)):=λpre A B row h hg hr=>by
 obtain⟨u,y,h1,h2,h3⟩:=h.cl;refine⟨ad_ h.sz hg.size,h.bl.grown hg h.bl.size (λk e=>by have:=(hr k e).1;omega),⟨u,y,qN hg hr h1 rfl,h2.grown hg (λk e e2=>?_),h3⟩⟩;obtain⟨_,o,ho,hc⟩:=hr k e;obtain⟨o',cI,nT⟩:=h2.isCells e2;rw[ho]at cI;cases cI;rw[hc]at nT;cases nT
theorem xOj {b0 cb g W u0 X v y y0}(h:vZ b0 cb W u0 X v y)(dN:b0<=cb){v' l X'}(hb:ByC b0 X v v' l X')(hc:W.heap[cb]?=some (.cells #[u0] 31 (0,0)))(ho:OwnB W b0 u0 y0){x}(hg:W.heap[g]?=some (.cells (y8 x) 186 (0,0))):
  X'.cell? ⟨cb,0,none⟩=some v/\X'.frozen? ⟨cb,0,none⟩=false/\∃Y,Y=X'.setCell ⟨cb,0,none⟩ v'/\vZ b0 cb W u0 Y v' l/\Y.cell? ⟨cb,0,none⟩=some v'/\Y.frozen? ⟨cb,0,none⟩=false /\
   Y.cell? ⟨g,32,none⟩=some (.int .i64 x.art.arr)/\Y.cell? ⟨g,33,none⟩=some (.int .i64 (x.art.text.size:Int))/\Y.heap[g]?=some (.cells (y8 x) 186 (0,0)):=by
 have h1:=h.cl2 hb;have hR:=h.step dN hb;have hG:=hR.typed hc ho (by decide) (by decide) hg;refine⟨by rw[cell_of_row X' cb 0 _ _ _ h1];rfl,frozen_of_row X' cb 0 _ _ h1,_,rfl,hR,by rw[cell_of_row _ cb 0 _ _ _ hR.cl];rfl,frozen_of_row _ cb 0 _ _ hR.cl,?_,?_,hG⟩
 ·rw[cell_of_row _ g 32 _ _ _ hG,se32]
 ·rw[cell_of_row _ g 33 _ _ _ hG,se33]
theorem yEh {w W X X' b cb es pre}{x:SO es}{u0 v v' y y1 l}(h:vZ w.heap.size cb W u0 X v y1)(dN:w.heap.size<=cb)(hg:X.drew.grownBy X' v.ownBlock)(hv:OwnB X' w.heap.size v' l)(hc:W.heap[cb]?=some (.cells #[u0] 31 (0,0)))(ho:OwnB W w.heap.size u0 y)(hI:SeI w b cb pre W)(Ad:16<=l.length)(hl:l.length<=16+10048*(pre.length+1)):
  X'.cell? ⟨cb,0,none⟩=some v/\X'.frozen? ⟨cb,0,none⟩=false/\KeepsFrom b W (X'.setCell ⟨cb,0,none⟩ v')/\KpS W (X'.setCell ⟨cb,0,none⟩ v')/\SeI w b cb (pre++[x]) (X'.setCell ⟨cb,0,none⟩ v'):=by
 have YW:∀k,k<X.heap.size->v.ownBlock≠some k->X'.heap[k]?=X.heap[k]?:=λk hk hn=>hg.block k hk (λe=>hn e.symm)
 have eE:X'.heap[cb]?=some (.cells #[v] 31 (0,0)):=(YW cb (i_ h.cl).1 (h.own.neT h.cl (by decide))).trans h.cl;have VK:Below w.heap.size X X':=((ab_ _ _).drew).grown hg (h.own.base (aa_ _) |> λ_=>by have:=h.bel.size;have:=hI.bl.size;show w.heap.size<=X.heap.size;omega) (λk e=>(h.own.lt e).1);have dD:Below w.heap.size W (X'.setCell ⟨cb,0,none⟩ v'):=(h.bel.trans VK).setCell (p:=⟨cb,0,none⟩) dN v';have VL:(X'.setCell ⟨cb,0,none⟩ v').heap[cb]?=some (.cells #[v'] 31 (0,0)):=by rw[heap_setCell_same X' cb 0 _ _ _ eE];rfl
 have dF:∀k,k<W.heap.size->k≠cb->u0.ownBlock≠some k->(X'.setCell ⟨cb,0,none⟩ v').heap[k]?=W.heap[k]?:=λk hk h2 h3=>by
  have aI:=h.bel.size
  rw[heap_setCell_other X' ⟨cb,0,none⟩ k _ h2,YW k (by omega) (λe=>by
   rcases h.fr k e with h4|h4
   ·exact h3 h4
   ·omega),h.keep k hk h2 h3]
 have PV:OwnB (X'.setCell ⟨cb,0,none⟩ v') w.heap.size v' l:=xC4 hv (zd X' cb 0 v') (λk hk=>by rw[ac_.1 hk];exact hv.neT eE (by decide));have aI:W.heap.size<=(X'.setCell ⟨cb,0,none⟩ v').heap.size:=dD.size;refine⟨by rw[cell_of_row X' cb 0 _ _ _ eE];rfl,frozen_of_row X' cb 0 _ _ eE,⟨aI,λk o _ hk nT=>?_⟩,⟨aI,λg cs hk=>?_⟩,⟨ad_ hI.sz aI,hI.bl.trans dD,v',l,VL,PV,Ad,by rw[af_];simpa using hl⟩⟩
 ·rw[dF k (i_ hk).1 (λe=>by subst e;rw[hc]at hk;cases hk;cases nT) (λe=>by
   obtain⟨o',cI,gm⟩:=ho.isCells e;rw[cI]at hk;cases hk;rw[gm]at nT;cases nT)]
  exact hk
 ·exact(dF g (i_ hk).1 (λe=>by
   subst e;rw[hc]at hk;simp only[aR_,ej_]at hk;exact absurd hk.2.1 (by decide)) (ho.neT hk (by decide))).trans hk
def seT (vp bs cb c ln ug uc ag ac bx g:Nat)(x:SEn):Array Value:=#[.pointer (some ⟨vp,0,none⟩),.pointer (some ⟨bs,0,none⟩),.slice none 0 0,.pointer (some ⟨cb,0,none⟩),.pointer (some ⟨g,0,none⟩),.pointer (some ⟨vp,0,none⟩),.bool false,.pointer (some ⟨vp,0,none⟩),.pointer (some ⟨vp,0,none⟩),.pointer (some ⟨vp,0,none⟩),.int .i64 c,.slice (some ⟨ug,0,none⟩) 8 uc,.slice (some ⟨ug,0,none⟩) 8 uc,.pointer (some ⟨vp,0,none⟩),.int .i64 ln,.slice (some ⟨ag,0,none⟩) 16 ac,.pointer (some ⟨vp,0,none⟩),.func (.func 116) #[] #[.pointer (some ⟨bx,0,none⟩)],.agg (y8 x),undef,undef,undef,undef,undef,undef,undef,undef,undef,undef,undef,undef,undef,undef,undef,undef,undef,undef,undef,undef,undef,undef,undef]
def SeA (b vp bs cb c ln ug uc ag ac bx:Nat){es:List (KE Id32)}(x:SO es)(a:Act)(X:World):Prop:=∃g,b<=g/\a={ tmps:=seT vp bs cb c ln ug uc ag ac bx g x.1,defers:=[] }/\X.heap[g]?=some (.cells (y8 x.1) 186 (0,0))
theorem yCk {w g x}{T:TypeId}(h:w.heap[g]?=some (.cells (y8 x) T (0,0))):SlB w ⟨g,0,none⟩ x.id.1:=⟨λj c hj=>by
 rw[an_,aq_,cell_of_row w g j _ _ _ h];have hl:j<x.id.1.length:=(ax_.1 hj).1;unfold y8 zY;rw[ah_,aJ_ (by rw[xz,<-x.id.2];exact hl)];unfold xl;simp[hj]⟩
theorem yEg {w b x}{t:TypeId}(h:w.heap[b]?=some (.cells (y8 x) t (0,0))):xo w ⟨b,0,none⟩ 32=true/\xm w ⟨b,0,none⟩ 32=(xl x.id).toArray:=by
 have:=xW (w:=w) (a:=⟨b,0,none⟩) (cs:=xl x.id) (λj v hj=>by
  rw[an_,aq_,cell_of_row _ _ _ _ _ _ h];unfold y8 zY;rw[ah_,aJ_ (ax_.1 hj).1];exact hj)
 rw[xz]at this;exact this
def fldR (P:Program)(t i:Nat)(w:World)(v:Value):Result Next:=Sem.run P (do pure (Next.value (<-Instr.field t v i))) w
theorem xVd (ρ:Operand->Value)(d x)(ty:TypeId)(pos af g w):
  Sem.run prog (execOp ρ ⟨d,.field 155 x 0,ty,pos,af,g⟩) w=fldR prog 155 0 w (ρ x):=by kernel_rfl
theorem yD5 (w s a b):fldR prog 155 0 w (.agg #[.string s,.int .i64 a,.int .i64 b])=.ok (.value (.string s)) w:=by kernel_rfl
attribute [local go_sem ↓] jz vO xVd
attribute [local go_sem] yD5
theorem xUg {B w v}(h:yE B w v)(he:xDr v.es)(hl:v.budget<=1073741824):
  Calls prog 57 #[.pointer (some ⟨v.p,0,none⟩)] w λe w'=>Below w.heap.size w w'/\∃u y,e=.returned u/\OwnB w' w.heap.size u y/\1<=y.length/\y.length<=20000:=by
 obtain⟨ln,cX⟩:∃ln,ln=v.es.length:=⟨_,rfl⟩;have hln1:ln<=1:=by rw[cX];exact he.1
 have dR:=h_ cX;obtain⟨w0,mO⟩:∃w0,w0=w.alloc (.cells #[.pointer (some ⟨v.p,0,none⟩)] 50):=⟨_,rfl⟩;have bf:Below w.heap.size w w0:=by rw[mO];exact b_ _ _
 have dJ:w0.heap[w.heap.size]?=some (.cells #[.pointer (some ⟨v.p,0,none⟩)] 50 (0,0)):=by rw[mO];exact heap_alloc_new w _
 have be:=cell_of_row w0 w.heap.size 0 _ _ _ dJ;simp only[v_]at be;have NL:=h.below bf;have c0:=cell_of_row w0 v.p 0 _ _ _ NL.blk;simp only[za,v_]at c0;have HA:=h_ (xNp [] v.budget (by omega) (.slice none 0 0) w0 w0.heap.size (OwnB.nil _ _) (aa_ _) (by simp));have H:=h_ h;have db:=h_ bf;have wR:=h_ dJ;have HE:=h_ he;clear h he hl bf dJ NL cX;refine(callsIn_wide (n:=4)).1 (callsIn_of_wp_marks func57 rfl trivial ?_ rfl);simp only[ntmps57,aW_,av_,bm_,Nat.reduceAdd,Nat.reduceSub,cl_,cm_,cv_,cp_,aM_,aK_];refine wpIn_wide.2 ?_;go_upto_region 1 with fail
 refine xr mO ?_;clear mO;go_wp2_with fail;refine HA.mono ?_;rintro e w1 ⟨aa,u,rfl,ae⟩;rw[aM_]at ae;obtain⟨ug,uc,hu,_,_,_,_⟩:∃g cap,u=.slice (some ⟨g,0,none⟩) 8 cap/\w0.heap.size<=g/\8<=cap/\cap<=maxLen/\SlB w1 ⟨g,0,none⟩ (beB 8 v.budget):=by
  rcases ae.at with⟨_,h⟩|⟨g,cap,h1,h2,h3,h4,h5⟩
  ·exact absurd (congrArg List.length h) (by simp[xe])
  ·have e:(beB 8 v.budget).length=8:=by simp[xe]
   rw[e]at h1 h3;exact⟨g,cap,h1,h2,h3,h4,h5⟩
 subst hu;obtain⟨w2,aw⟩:∃w2,w2=w1.alloc (.cells #[.slice (some ⟨ug,0,none⟩) 8 uc] 31):=⟨_,rfl⟩;have ak:Below w1.heap.size w1 w2:=by rw[aw];exact b_ _ _
 have aA:w2.heap[w1.heap.size]?=some (.cells #[.slice (some ⟨ug,0,none⟩) 8 uc] 31 (0,0)):=by rw[aw];exact heap_alloc_new w1 _
 have aj:=aa.trans (ak.mono aa.size);have au:=h_ aj;have eN:=(aj.block _ (i_ wR.out).1).trans wR.out;have Dm:=h_ eN;have gZ:=h_ (ae.below ak);have bQ:=h_ aA;have q0:=cell_of_row w2 w1.heap.size 0 _ _ _ aA;have q1:=cell_of_row w2 w.heap.size 0 _ _ _ eN;simp only[v_]at q0 q1;have z0:∀z:x8 w2,z.1.cell? ⟨w1.heap.size,0,none⟩=some (.slice (some ⟨ug,0,none⟩) 8 uc):=λz=>z.cell q0
 have z1:∀z:x8 w2,z.1.cell? ⟨w.heap.size,0,none⟩=some (.pointer (some ⟨v.p,0,none⟩)):=λz=>z.cell q1
 have NM:=h_ (ae.lt (k:=ug) rfl).2;have cF:Hid (w2.drew.heap.size=w1.heap.size+1):=h_ (by show w2.heap.size=_;rw[aw,al_]);have mC:=h_ aa.size;clear aa ae ak aA c0 be eN aj q0 q1 HA;go_upto_region 4 with fail
 refine xr aw ?_;clear aw;refine xp [0,1] [2,3,4] (λw'=>∃z:x8 w2,w'=z.1) (by kernel_rfl) (by kernel_rfl) (by kernel_rfl) ⟨⟨w2.drew,(ab_ _ _).drew⟩,rfl⟩ ?_;simp only[o_]
 repeat (go_big_quiet_step (fail))
 refine wpQuiet_nil ?_;have bD:Below w2.heap.size w2 w2.drew:=(ab_ _ _).drew;clear z0 z1;refine yb true (by kernel_rfl) (by kernel_rfl) ?_;simp only[o_];go_wp2_with fail;refine(xIp (H.below (db.trans ((au.trans (bD.mono au.size)).mono db.size))) ln dR.out).mono ?_;rintro e w3 ⟨rfl,rfl⟩;go_wp2;refine⟨λ_=>⟨⟨_,bD⟩,rfl⟩,xB [3,4] _ _ (by kernel_rfl) ?_⟩;simp only[o_];have Iu:=gZ.below bD;have hlt:=(Iu.lt (k:=ug) rfl).2;have eD:=h_ bD;go_wp2_with fail;refine(jY _ ln (by omega) _ w2.drew w0.heap.size Iu (by have:=au.size;exact this) (by simp[xe])).mono ?_;rintro e w3⟨u,rfl,hc⟩;have Ku:ug<w1.heap.size:=NM.out;have cT:w2.drew.heap.size=w1.heap.size+1:=cF.out;obtain⟨ag,ac,hu,_,_,_,_⟩:∃g cap,u=.slice (some ⟨g,0,none⟩) 16 cap/\w0.heap.size<=g/\16<=cap/\cap<=maxLen/\SlB w3 ⟨g,0,none⟩ (beB 8 v.budget++beB 8 ln):=by
  rcases hc.own.at with⟨_,h⟩|⟨g,cap,h1,h2,h3,h4,h5⟩
  ·exact absurd (congrArg List.length h) (by simp[xe])
  ·have e:(beB 8 v.budget++beB 8 ln).length=16:=by simp[xe]
   rw[e]at h1 h3;exact⟨g,cap,h1,h2,h3,h4,h5⟩
 subst hu;have BC:ag≠w1.heap.size:=by
  rcases hc.fr ag rfl with h|h
  ·have:ug=ag:=as_ h;omega
  ·omega
 have bK:=(hc.keep w1.heap.size (by omega) (λe=>by have:ug=w1.heap.size:=as_ e;omega)).trans ((eD.block w1.heap.size (by have:=(i_ bQ.out).1;exact this)).trans bQ.out);have al:Below w0.heap.size w0 w3:=(au.trans (eD.mono au.size)).trans hc.bel;have c3:=cell_of_row w3 w1.heap.size 0 _ _ _ bK;have f3:=frozen_of_row w3 w1.heap.size 0 _ _ bK;simp only[v_]at c3;obtain⟨w4,cP⟩:∃w4,w4=w3.setCell ⟨w1.heap.size,0,none⟩ (.slice (some ⟨ag,0,none⟩) 16 ac):=⟨_,rfl⟩;have BD:w0.heap.size<=w1.heap.size:=mC.out;have aQ:Below w0.heap.size w0 w4:=by rw[cP];exact al.setCell (p:=⟨w1.heap.size,0,none⟩) BD _
 have eh:w4.heap[w1.heap.size]?=some (.cells #[.slice (some ⟨ag,0,none⟩) 16 ac] 31 (0,0)):=by rw[cP,heap_setCell_same w3 w1.heap.size 0 _ _ _ bK];rfl
 have iQ:OwnB w4 w0.heap.size (.slice (some ⟨ag,0,none⟩) 16 ac) (beB 8 v.budget++beB 8 ln):=by
  rw[cP];exact hc.own.grown (grownBy_setCell' w3 w1.heap.size _) (λk e=>by cases e;intro h;exact BC (as_ h))
 have bt:=h_ aQ;have g6:=h_ eh;have wS:=h_ iQ;have XO:=h_ (hc.own.lt (k:=ag) rfl);clear hc Ku cT BC bK al BD aQ eh iQ Iu hlt NM cF gZ eD bD;go_wp2;refine ag_ ?_;go_upto_region 5 with fail
 refine xr cP ?_;clear cP c3 f3;have NN:=(bt.block _ (i_ wR.out).1).trans wR.out;have q1:=cell_of_row w4 w.heap.size 0 _ _ _ NN;simp only[v_]at q1;clear NN;go_wp2_with fail;refine(xR6 v.p w4).mono ?_;rintro e w5 ⟨rfl,rfl⟩;have aF:Below w4.heap.size w4 (w4.alloc (.cells #[.pointer (some ⟨v.p,0,none⟩)] 50)):=(ab_ _ _).alloc (aa_ _) _;have be:=yz w4 #[.pointer (some ⟨v.p,0,none⟩)] 50 0;generalize w4.alloc (.cells #[.pointer (some ⟨v.p,0,none⟩)] 50)=w5 at aF be⊢;have aU:=h_ aF;have CR:=h_ be;clear aF be q1;go_wp2;have al:Below w4.heap.size w4 w5:=aU.out;have nJ:Below w0.heap.size w0 w5:=bt.trans (al.mono bt.size);have KQ:=nJ.size;have CZ:=h_ (yCl 3 w4.heap.size B v w5 CR.out (H.below (db.trans (nJ.mono db.size))) HE.out (by omega));have lI:w1.heap.size<w5.heap.size:=by have:=(i_ g6.out).1;have:=al.size;omega
 obtain⟨cb,dN⟩:∃cb,cb=w1.heap.size:=⟨_,rfl⟩;obtain⟨bx,wd⟩:∃bx,bx=w4.heap.size:=⟨_,rfl⟩;obtain⟨bs,JA⟩:∃bs,bs=w.heap.size:=⟨_,rfl⟩;rw[<-dN]at g6 mC lI;rw[<-wd]at CZ;rw[<-JA]at wR;rw[<-dN,<-wd,<-JA];have E9:Hid (SeI w0 w5.heap.size cb ([]:List (SO v.es)) w5):=h_ ⟨aa_ _,nJ,⟨_,_,(al.block cb (i_ g6.out).1).trans g6.out,wS.below al,by simp[xe],by simp[xe]⟩⟩;have Jz:Hid (w0.heap.size<=cb):=h_ mC.out;have wu:Hid (w0.heap[bs]?=some (.cells #[.pointer (some ⟨v.p,0,none⟩)] 50 (0,0))):=h_ wR.out;have pA:Hid (yE B w0 v):=h_ (H.below db.out);have iy:Hid (w.heap.size<=w0.heap.size):=h_ db.size;have VM:Hid (Below w.heap.size w w0):=h_ db.out;clear dN wd JA al aU CR bt g6 wS au Dm bQ wR db mC XO H
 refine(wpIn_wide (n:=4)).1 (wpIn_rangeFunc_ownH rfl (by omega) (gf:=116) rfl trivial (enters_of func116 (by kernel_rfl) rfl) CZ.out (λh k=>h.trans k) (λW l o o' _ hl hc _=>KpS.put W l o o' hl hc) (ab_ _ _) (λ_=>rfl)
  (SeI w0 w5.heap.size cb) (λc pre X=>False) (SeI.own w0 _ cb KQ) (λc pre A B row h _ _=>h) E9.out (SeA w5.heap.size v.p bs cb v.budget ln ug uc ag ac bx) (λx a' _ A B row ⟨g,h0,h1,h2⟩ hg hr=>⟨g,h0,h1,qN hg hr h2 rfl⟩) ?assign ?body ?done ?stop)
 case assign=>
  intro l pre x W K hI hK;unfold ylS;rw[xNb]
  change Code.wpIn _ _ _ _ _ { tmps:=(seT v.p bs cb v.budget ln ug uc ag ac bx 0 x.1).setIfInBounds 4 undef,defers:=[] } W
  unfold seT;have aM:=(ab_ W.heap.size W).alloc (aa_ _) (.cells (y8 x.1) 186)
  have AK:=hK { tmps:=seT v.p bs cb v.budget ln ug uc ag ac bx W.heap.size x.1,defers:=[] } (W.alloc (.cells (y8 x.1) 186))
   ⟨aM.size,λk o _ hk _=>(heap_alloc_old _ _ (i_ hk).1).trans hk⟩ (KpS.below aM)
   (SeI.own w0 _ cb KQ pre W _ none hI (zp aM none) (λr hr=>by cases hr))
   ⟨W.heap.size,hI.sz,rfl,heap_alloc_new _ _⟩
  unfold seT at AK;have CG:=h_ AK;have hf:=xK8 x.1;have hz:(y8 xDa).size=34:=uQ _;clear hK AK aM hI CZ E9 Jz wu pA iy HE dR KQ nJ lI
  gi_wp2
  exact CG.out
 case body=>
  intro l pre x a' W hl hL hI hA j_;obtain⟨g,hg2,rfl,pM⟩:=hA;unfold seT;obtain⟨u,y,aT,ae,El,Em⟩:=hI.cl;obtain⟨an,PN⟩:∃an:Nat,x.1.art.arr=(an:Int):=⟨x.1.art.arr.toNat,(dH_ x.2.2.1).symm⟩;obtain⟨dn,iB⟩:∃dn:Nat,dn=x.1.art.text.size:=⟨_,rfl⟩;have Ch:an<=105190559:=by have:=x.2.2.2.1;omega
  have Ci:dn<=10000:=by rw[iB];exact x.2.2.2.2
  have gk:w0.heap.size<=W.heap.size:=hI.bl.size;have DH:y.length<=100000:=by omega
  obtain⟨ua,un,uc',hu⟩:=zo ae;have c0:W.drew.cell? ⟨cb,0,none⟩=some u:=cell_of_row W cb 0 _ _ _ aT;rw[hu]at c0;have f0:W.drew.frozen? ⟨cb,0,none⟩=false:=frozen_of_row W cb 0 _ _ aT;have ee:=h_ (vZ.start (b0:=w0.heap.size) aT ae);have bF:=h_ (And.intro aT ae);have sx:=h_ pM;have bD:Below W.heap.size W W.drew:=(ab_ _ _).drew;have PO:=h_ (ae.below bD);have pp:Hid (SlB W.drew ⟨g,0,none⟩ x.1.id.1):=h_ ⟨λq c hq=>(yCk pM).cell q c hq⟩;have dw:Hid (y.length+x.1.id.1.length<=1000000000000):=h_ (by rw[x.1.id.2];omega);have eX:Hid (w0.heap.size<=W.drew.heap.size):=h_ gk;have HX:=h_ (And.intro PN (And.intro iB (And.intro Ch (And.intro Ci (And.intro gk (And.intro Jz.out (And.intro DH (And.intro El Em))))))));have HI:=h_ hI;have PP:=h_ hu;have iW:=h_ x.2;clear hI aT ae pM bD PN iB Ch Ci gk DH El Em hu CZ E9 KQ nJ lI HE dR hg2
  gi_wp2_with fail
  refine vl (by kernel_rfl) (λ⟨_,_,h⟩=>h) (by kernel_rfl) ?_;refine kf [0,1,2] [3,4] 0 (λw'=>w'=W.drew) (by kernel_rfl) (by kernel_rfl) (by kernel_rfl) rfl rfl rfl ?_;simp only[o_]
  repeat (go_big_quiet_step (fail))
  refine wpQuiet_nil ?_;refine uD [3,4] _ _ (by kernel_rfl) ?_;simp only[o_];go_wp2_with (at_builtin;refine zw rfl (.tmp 19) (.tmp 21) rfl w0.heap.size _ y PP.symm PO.out ⟨g,0,none⟩ x.1.id.1 32 (by rw[x.1.id.2];rfl) pp.out dw.out eX.out ?_);intro v1 X1 cd du _ gK;have r8:w0.heap.size<=W.heap.size:=HX.2.2.2.2.1;have Cj:w0.heap.size<=cb:=HX.2.2.2.2.2.1;have ar:=h_ ((ByC.start ee.own).app r8 ((ab_ W.heap.size W).drew) cd du gK (aa_ _));obtain⟨a1,n1,k1,rfl⟩:=zo cd;obtain⟨c1,f1,Y1,Hg,ng,VB,VC,m1,_⟩:=xOj ee.out Cj ar.out bF.1 bF.2 sx.out;rw[HX.1]at m1;rw[PP.out]at c1;have iw:=h_ ng;have FJ:=h_ Hg;have IW:=h_ (jY (y++x.1.id.1) an (by have:=HX.2.2.1;omega) (.slice a1 n1 k1) Y1 w0.heap.size ng.own (ad_ r8 ng.bel.size) (by rw[af_,x.1.id.2];have:=HX.2.2.2.2.2.2.1;omega));clear cd du gK r8 Cj ng Hg c0 f0 PO pp dw eX ar;go_wp2;refine ag_ ?_;rw[uo];refine vB (by kernel_rfl) ?_
  gi_upto_region 8 with fail
  refine j5 FJ.out ?_;clear FJ c1 f1
  gi_wp2_with fail
  refine⟨trivial,(cZ_ _ (callsIn_wide.2 IW.out)).mono ?_⟩;rintro e X2 ⟨v2,rfl,dh⟩;obtain⟨a2,n2,k2,rfl⟩:=zo dh.own;obtain⟨c2,f2,Y2,PQ,pI,VD,VE,_,m2,_⟩:=xOj iw.out HX.2.2.2.2.2.1 dh bF.1 bF.2 sx.out;rw[<-HX.2.1]at m2;have fu:=h_ pI;have PR:=h_ PQ;have oK:=h_ (jY (y++x.1.id.1++beB 8 an) dn (by have:=HX.2.2.2.1;omega) (.slice a2 n2 k2) Y2 w0.heap.size pI.own (ad_ HX.2.2.2.2.1 pI.bel.size) (by rw[af_,af_,x.1.id.2,xe];have:=HX.2.2.2.2.2.2.1;omega));clear dh pI PQ IW VB VC m1 iw
  gi_upto_region 9 with fail
  refine j5 PR.out ?_;clear PR c2 f2
  gi_wp2_with fail
  refine⟨trivial,(cZ_ _ (callsIn_wide.2 oK.out)).mono ?_⟩;rintro e X3 ⟨v3,rfl,cU⟩;obtain⟨a3,n3,k3,rfl⟩:=zo cU.own;obtain⟨c3,f3,Y3,PS,PT,VF,VG,_,_,PW⟩:=xOj fu.out HX.2.2.2.2.2.1 cU bF.1 bF.2 sx.out;have iq:=h_ PT;have PU:=h_ PS;obtain⟨y3,BF⟩:∃y3,y3=y++x.1.id.1++beB 8 an++beB 8 dn:=⟨_,rfl⟩;rw[<-BF]at iq;have Ei:Hid (y3.length=y.length+48):=h_ (by rw[BF,af_,af_,af_,x.1.id.2,xe,xe]);have db:Hid (w0.heap.size<=Y3.drew.heap.size):=h_ (ad_ HX.2.2.2.2.1 iq.bel.size);have JB:Below w0.heap.size w0 Y3.drew:=(HI.bl.trans iq.bel).drew;have JC:=pA.below JB;have YX:=cell_of_row Y3.drew v.p 3 _ _ _ JC.blk;have PX:=(JB.block bs (i_ wu.out).1).trans wu.out;have cbs:=cell_of_row Y3.drew bs 0 _ _ _ PX;simp only[za,v_]at YX cbs;have cW:=xF4 keyI underlying99 (.agg (xG qo)) xQk Y3.drew v.M v.es v.mc JC.map x.1.id;have mN:=iW.1;unfold getK at mN;rw[mN]at cW;simp only[cr_]at cW;obtain⟨oki,rdi⟩:=yEg (w:=Y3.drew) PW;have VN:Y3.drew.cell? ⟨cb,0,none⟩=some (.slice a3 n3 k3):=VF;have VO:Y3.drew.frozen? ⟨cb,0,none⟩=false:=VG
  have wU:Hid (OwnB Y3.drew w0.heap.size (.slice a3 n3 k3) y3):=h_ (iq.own.below ((ab_ _ _).drew));obtain⟨tx,KR⟩:∃tx,x.1.art.text=str tx:=⟨x.1.art.text.data.toList,rfl⟩;have t6:tx.length=dn:=by rw[HX.2.1,KR,yD]
  obtain⟨sb,cZ⟩:∃sb,sb=x.1.art.text:=⟨_,rfl⟩;have pq:Hid (sb=str tx):=h_ (cZ.trans KR);have IN:=h_ t6;unfold xG at cW;rw[<-cZ]at cW;obtain⟨i0,hi,bd,aL,bk⟩:=info_parts Tryz.info_byte;have Rv:=h_ (And.intro hi (And.intro bd (And.intro aL bk)));have Oe:Hid (y3.length+sb.size<=2000000):=h_ (by rw[pq.out,yD,IN.out,Ei.out];have:=HX.2.2.2.2.2.2.1;have:=HX.2.2.2.1;omega);clear cU PT PS oK VD VE m2 fu BF JB JC PX mN PW VF VG KR t6 cZ hi bd aL bk
  gi_upto_region 10 with fail
  refine j5 PU.out ?_;clear PU c3 f3;refine vl (by kernel_rfl) (λ⟨_,_,h⟩=>h) (by kernel_rfl) ?_;refine kf [0,1,2,3,4,5,6,7,8] [9,10] 0 (λw'=>w'=Y3.drew) (by kernel_rfl) (by kernel_rfl) (by kernel_rfl) rfl rfl rfl ?_;simp only[o_]
  repeat (go_big_quiet_step (fail))
  refine wpQuiet_nil ?_;refine uD [9,10] _ _ (by kernel_rfl) ?_;simp only[o_];go_wp2_with (at_builtin;refine dl_ _ rfl (.tmp 31) (.tmp 39) 31 9 rfl w0.heap.size 5 i0 underlying31 underlying9 Rv.1 Rv.2.1 Rv.2.2.1 Rv.2.2.2 _ _ _ rfl wU.out sb rfl (by have:=Oe.out;unfold maxLen;omega) (by have:=Oe.out;omega) db.out ?_);intro v4 X4 cI hU _;have iQ:OwnB X4 w0.heap.size v4 (y3++tx):=by
   rw[pq.out,xEh,yD]at cI;unfold OwnB;rw[af_,show encB (y3++tx)=encB y3++encB tx by simp[encB]];exact cI
  obtain⟨a4,n4,k4,rfl⟩:=zo iQ;obtain⟨c4,f4,YY,YZ,Y0⟩:=yEh (x:=x) iq.out HX.2.2.2.2.2.1 hU iQ bF.1 bF.2 HI.out (by rw[af_,Ei.out];have:=HX.2.2.2.2.2.2.2.1;omega) (by rw[af_,Ei.out,IN.out];have:=HX.2.2.2.2.2.2.2.2;have:=HX.2.2.2.1;omega);have HF:=h_ (And.intro YY (And.intro YZ Y0));clear cI hU iQ YY YZ Y0 VN VO YX cbs cW oki rdi;go_wp2;refine ag_ ?_;rw[uo];refine vB (by kernel_rfl) ?_
  gi_wp2
  exact HF.out
 case done=>
  intro D xs W hD hS hI hK;obtain⟨u,y,aT,ae,El,Em⟩:=hI.cl;obtain⟨ua,un,uk,rfl⟩:=zo ae;have Iq:=cell_of_row W cb 0 _ _ _ aT;simp only[v_]at Iq;have sV:=h_ ae;have PY:=h_ (VM.trans (hI.bl.mono iy.out));have HK:=h_ hK;have HD:=h_ hD;have VH:Hid (1<=y.length/\y.length<=20000):=h_ (by omega);have VI:Hid (w.heap.size<=w5.heap.size):=h_ (ad_ iy.out KQ);clear aT ae El Em hI hK hD hS CZ E9 Jz wu pA HE dR KQ nJ lI;go_wp2;refine⟨by simp,.inl ⟨_,_,rfl,run_takeDeferred HK.out,?_⟩⟩;refine⟨.slice ua un uk,results_tmp (t:=2) results57 _ _ _,PY.grown (grownBy_putObj' _ D _) PY.size (λk e=>by cases e;have:=VI.out;have:=HD.out;omega),.slice ua un uk,y,rfl,(sV.base iy.out).grown (grownBy_putObj' _ D _) (λk e h4=>?_),VH.out⟩;cases e
  obtain⟨o,ho,hc⟩:=sV.isCells h4;rw[HK.out]at ho;cases ho;cases hc
 case stop=>
  rintro D c pre W hD SN h hK;exact h.elim
end
def cos:By:=[99,111,109,112,46,111,115]
def tex:By:=List.replicate 100 0
def idN (k:UInt8):Id32:=⟨k :: List.replicate 31 0,by simp⟩
def kA (k:UInt8)(gb:Nat):Art:=⟨idN k,str tex,str [],5,6,.slice (some ⟨gb,0,none⟩) 1 1,str [],.slice none 0 0,false⟩
theorem xKn:uw (str cos)=0:=by decide +kernel
theorem yAt (k)(h:k≠0):idN k≠uq:=λe=>by
 have h1:=congrArg Subtype.val e;have h2:=congrArg List.head? h1;simp[idN,uq,List.replicate]at h2;exact h h2
def kP (k:UInt8)(n:Int):xDs:=⟨n,idN k,str [],5,str [],[],(str tex).size⟩
theorem yCy:pErr (kP 1 1)=0:=by decide +kernel
theorem yCx:pErr (kP 2 2)=0:=by decide +kernel
def k0:PC:=kx 1000
def k1:PC:={ k0 with tc:=some (str cos,0,false) }
def k2 (gb:Nat):PC:=xH2 k1 (kA 1 gb) (str cos) 0
def kArt:SArt:=⟨str tex,6,0⟩
def kEnt (k:UInt8)(s:Int):HEnt:=⟨idN k,6,5,s,false⟩
def k3 (gb:Nat):PC:=rmC (k2 gb) (idN 1) (str cos) 1 kArt (kEnt 1 0)
def k4 (gb:Nat):PC:=xH2 (k3 gb) (kA 2 gb) (str cos) 1
theorem jJ:tex.length=100:=bN_
theorem xIh:(str tex).size=100:=by rw[yD,jJ]
theorem yAs:(idN 2=idN 1)=False:=by
 apply eq_false;intro e;have h1:=congrArg Subtype.val e;simp[idN]at h1
theorem yAp (gb):(k2 gb).hes=[(idN 1,.agg (x7 (kEnt 1 0)))]:=rfl
theorem yEx (gb):(k2 gb).ses=[(idN 1,.agg (xG kArt))]:=rfl
theorem xUy (gb):(k3 gb).hes=[(idN 1,.agg (x7 (kEnt 1 1)))]:=by
 show uT (idN 1) (.agg (x7 { kEnt 1 0 with st:=1 })) (k2 gb).hes=_
 rw[yAp];unfold uT yl xEd;simp;rfl
theorem yCz (gb):yl (idN 1) (k4 gb).hes=some (.agg (x7 (kEnt 1 1))):=by
 show yl (idN 1) (uT (idN 2) _ (k3 gb).hes)=_
 rw[xUy];have h1:yl (idN 2) [(idN 1,Value.agg (x7 (kEnt 1 1)))]=none:=by
  unfold yl;rw[if_neg (by rw[yAs];exact id)];rfl
 unfold uT;rw[h1];show yl (idN 1) [(idN 1,_),(idN 2,_)]=_
 unfold yl;rw[if_pos rfl]
theorem xPr (ρ:Operand->Value)(d x0)(ty:TypeId)(pos af gd w):
  Sem.run prog (execOp ρ ⟨d,.build 33 #[(0,x0)],ty,pos,af,gd⟩) w=zB prog 33 w #[(0,ρ x0)]:=by kernel_rfl
theorem yFf (w):zB prog 33 w #[(0,.int .u8 1)]=.ok (.value (.agg (xl (idN 1)).toArray)) w:=zD (by kernel_rfl)
theorem yFe (w):zB prog 33 w #[(0,.int .u8 2)]=.ok (.value (.agg (xl (idN 2)).toArray)) w:=zD (by kernel_rfl)
theorem xLw (ρ:Operand->Value)(d x0 x1 x2 x3 x4)(ty:TypeId)(pos af gd w):
  Sem.run prog (execOp ρ ⟨d,.build 37 #[(0,x0),(1,x1),(3,x2),(4,x3),(5,x4)],ty,pos,af,gd⟩) w=zB prog 37 w #[(0,ρ x0),(1,ρ x1),(3,ρ x2),(4,ρ x3),(5,ρ x4)]:=by kernel_rfl
def qp (i:Nat):Option (Nat×Nat):=#[(0,32),(32,1),(33,1),(34,1),(35,1),(36,1),(37,1),(38,1),(39,1)][i]?
theorem yBv (parts):prog.built 37 parts=Instr.fill qp (xw uB) parts:=by kernel_rfl
theorem yDk (w id t d a ga gn gc):zB prog 37 w #[(0,.agg (xl id).toArray),(1,.string t),(3,.int .i64 d),(4,.int .i64 a),(5,.slice ga gn gc)]=.ok (.value (.agg (xw ⟨id,t,⟨#[]⟩,d,a,.slice ga gn gc,⟨#[]⟩,.slice none 0 0,false⟩))) w:=zD (by
 show prog.built 37 [(0,.agg (xl id).toArray),(1,.string t),(3,.int .i64 d),(4,.int .i64 a),(5,.slice ga gn gc)]=_
 rw[yBv];have l0:(xl uB.id).length=32:=xz _;have l1:(xl id).length=32:=xz _;refine(yX qp 0 (.agg (xl id).toArray) [] (xl uB.id) [.string ⟨#[]⟩,.string ⟨#[]⟩,.int .i64 0,.int .i64 0,.slice none 0 0,.string ⟨#[]⟩,.slice none 0 0,.bool false] (xl id) (by rw[l0];rfl) rfl (by rw[l0,l1])).trans ?_;refine(yX qp 1 (.string t) (xl id) [.string ⟨#[]⟩] [.string ⟨#[]⟩,.int .i64 0,.int .i64 0,.slice none 0 0,.string ⟨#[]⟩,.slice none 0 0,.bool false] [.string t] (by rw[l1];rfl) rfl rfl).trans ?_;rw[show xl id++([Value.string t]++[.string ⟨#[]⟩,.int .i64 0,.int .i64 0,.slice none 0 0,.string ⟨#[]⟩,.slice none 0 0,.bool false])=(xl id++[.string t,.string ⟨#[]⟩])++([.int .i64 0]++[.int .i64 0,.slice none 0 0,.string ⟨#[]⟩,.slice none 0 0,.bool false]) by simp];refine(yX qp 3 (.int .i64 d) (xl id++[.string t,.string ⟨#[]⟩]) [.int .i64 0] [.int .i64 0,.slice none 0 0,.string ⟨#[]⟩,.slice none 0 0,.bool false] [.int .i64 d] (by rw[af_,l1];rfl) rfl rfl).trans ?_
 rw[show (xl id++[Value.string t,.string ⟨#[]⟩])++([.int .i64 d]++[.int .i64 0,.slice none 0 0,.string ⟨#[]⟩,.slice none 0 0,.bool false])=(xl id++[.string t,.string ⟨#[]⟩,.int .i64 d])++([.int .i64 0]++[.slice none 0 0,.string ⟨#[]⟩,.slice none 0 0,.bool false]) by simp];refine(yX qp 4 (.int .i64 a) (xl id++[.string t,.string ⟨#[]⟩,.int .i64 d]) [.int .i64 0] [.slice none 0 0,.string ⟨#[]⟩,.slice none 0 0,.bool false] [.int .i64 a] (by rw[af_,l1];rfl) rfl rfl).trans ?_;rw[show (xl id++[Value.string t,.string ⟨#[]⟩,.int .i64 d])++([.int .i64 a]++[.slice none 0 0,.string ⟨#[]⟩,.slice none 0 0,.bool false])=(xl id++[.string t,.string ⟨#[]⟩,.int .i64 d,.int .i64 a])++([Value.slice none 0 0]++[.string ⟨#[]⟩,.slice none 0 0,.bool false]) by simp];refine(yX qp 5 (.slice ga gn gc) (xl id++[.string t,.string ⟨#[]⟩,.int .i64 d,.int .i64 a]) [.slice none 0 0] [.string ⟨#[]⟩,.slice none 0 0,.bool false] [.slice ga gn gc] (by rw[af_,l1];rfl) rfl rfl).trans ?_;rw[show (xl id++[Value.string t,.string ⟨#[]⟩,.int .i64 d,.int .i64 a])++([.slice ga gn gc]++[.string ⟨#[]⟩,.slice none 0 0,.bool false])=yT ⟨id,t,⟨#[]⟩,d,a,.slice ga gn gc,⟨#[]⟩,.slice none 0 0,false⟩ by simp[yT,vX]];rfl)
theorem yCg (w g a x)(h:w.heap[g]?=some (.cells (xw a) 37 (0,0))):
  yi prog 33 w (.pointer (some ⟨g,0,none⟩)) (.agg (xl x).toArray)=.ok .skip (w.setRow g (xw { a with id:=x })):=by
 have:=k8 sizeOf33 w g 0 (yT a) _ h (xl x) (xz x) (by rw[yS];omega) (uS x);rw[this];refine congrArg (Result.ok Next.skip) (congrArg (World.setRow w g) ?_);have l1:(xl a.id).length=32:=xz _;show ((yT a).take 0++xl x++(yT a).drop (0+32)).toArray=xw { a with id:=x }
 unfold xw yT;rw[dP_,aM_,aq_,<-l1,List.drop_left];simp only[vX]
theorem yAn (gb):yl (idN 2) (k3 gb).hes=none:=by
 rw[xUy];unfold yl;rw[if_neg (by rw[yAs];exact id)];rfl
theorem yD0 (gb):yl (idN 1) (k2 gb).hes=some (.agg (x7 (kEnt 1 0))):=by
 rw[yAp];unfold yl;rw[if_pos rfl]
theorem xJr (gb):(k2 gb).bytes=100:=by
 show 0+(str tex).size=100
 rw[xIh]
theorem yAo (gb):(k3 gb).bytes=0:=by
 show (k2 gb).bytes-(str tex).size=0
 rw[xJr,xIh]
theorem xI6:xO (67+tex.length+([]:By).length+([]:By).length+cos.length)=1:=by
 rw[jJ];rfl
theorem yAa:madeCells (Value.int .u8 0).cells 100=(encB tex).toArray:=by kernel_rfl
theorem yA9 (w):Sem.run prog (Instr.makeSlice 31 (.int .i64 100) (.int .i64 100)) w=.ok (.slice (some ⟨w.heap.size,0,none⟩) 100 100) (w.alloc (.cells (encB tex).toArray 5)):=by
 obtain⟨i0,hi,bd,aL,bk⟩:=info_parts Tryz.info_byte;have:=run_makeSlice (P:=prog) w 31 5 i0 (.int .u8 0) underlying31 hi bd .i64 .i64 100 100 (by omega) (by omega) (by rw[aL];decide) (by rw[bk];decide) (by omega);rw[aL]at this;rw[<-yAa];exact this
theorem xH9 {k k' v}(h:k≠k'):∀l,yl k (xEd k' v l)=yl k l
 |[]=>rfl
 |e :: l=>by
  unfold xEd;by_cases h1:k'=e.1
  ·rw[if_pos h1];unfold yl;rw[if_neg (λe2=>h (e2.trans h1.symm)),if_neg (λe2=>h (e2.trans h1.symm))]
  ·rw[if_neg h1];unfold yl;by_cases h2:k=e.1
   ·rw[if_pos h2,if_pos h2]
   ·rw[if_neg h2,if_neg h2];exact xH9 h l
theorem xHa {k k' v}(h:k≠k'):∀l,yl k (l++[(k',v)])=yl k l
 |[]=>by
  show yl k [(k',v)]=yl k []
  unfold yl;rw[if_neg h];rfl
 |e :: l=>by
  show yl k (e :: (l++[(k',v)]))=_
  unfold yl;by_cases h2:k=e.1
  ·rw[if_pos h2,if_pos h2]
  ·rw[if_neg h2,if_neg h2];exact xHa h l
theorem xF3 {k v}:∀l,yl k l=none->yl k (l++[(k,v)])=some v
 |[],_=>by
  show yl k [(k,v)]=_
  unfold yl;rw[if_pos rfl]
 |e :: l,hn=>by
  show yl k (e :: (l++[(k,v)]))=_
  unfold yl at hn⊢;by_cases h2:k=e.1
  ·rw[if_pos h2]at hn;cases hn
  ·rw[if_neg h2]at hn⊢;exact xF3 l hn
theorem xW0 {k v}:∀l,(xEd k v l).length=l.length
 |[]=>rfl
 |e :: l=>by
  unfold xEd;by_cases h1:k=e.1
  ·rw[if_pos h1];rfl
  ·rw[if_neg h1,av_,av_,xW0 l]
theorem xN2 {k k' v}(h:k≠k')(l):yl k (uT k' v l)=yl k l:=by
 unfold uT;split
 ·exact xH9 h l
 ·exact xHa h l
theorem xJq {k v l}(h:yl k l=none):uT k v l=l++[(k,v)]:=by
 unfold uT;rw[h];rfl
theorem xUx {k v u l}(h:yl k l=some u):(uT k v l).length=l.length:=by
 unfold uT;rw[h];exact xW0 l
def idK (i:Nat):Id32:=idN (UInt8.ofNat i)
theorem yAu {i j}(hi:i<=100)(hj:j<=100)(h:i≠j):idK i≠idK j:=λe=>by
 have h1:=congrArg Subtype.val e;have h2:=congrArg List.head? h1;simp only[idK,idN,List.head?_cons,aR_]at h2;have h3:=congrArg UInt8.toNat h2;rw[bO_,bO_]at h3;omega
theorem xSb {i}(hi:i<=100)(h:1<=i):idK i≠uq:=yAt _ λe=>by
 have h3:=congrArg UInt8.toNat e;rw[bO_]at h3;simp at h3;omega
structure LimC (i:Nat)(c:PC):Prop where
 len:c.hes.length=i
 ses:c.ses=[]
 bytes:c.bytes=0
 bud:c.budget=4000
 nx:c.next=i
 tc:c.tc=none
 lf:c.lf=λ_=>[]
 cut:c.cut=0
 new:∀k,i<k->k<=100->yl (idK k) c.hes=none
structure MidC (i:Nat)(t:By)(p:Int)(c:PC):Prop where
 len:c.hes.length=i+1
 ses:c.ses=[(idK (i+1),.agg (xG ⟨str t,1,p⟩))]
 bytes:c.bytes=t.length
 bud:c.budget=4000
 nx:c.next=i+1
 tc:c.tc=none
 lf:c.lf=λ_=>[]
 cut:c.cut=0
 new:∀k,i+1<k->k<=100->yl (idK k) c.hes=none
 here:yl (idK (i+1)) c.hes=some (.agg (x7 ⟨idK (i+1),1,1,0,false⟩))
def limA (i:Nat)(t:By):Art:=⟨idK (i+1),str t,⟨#[]⟩,(1:Nat),(1:Nat),.slice none 0 0,⟨#[]⟩,.slice none 0 0,false⟩
theorem LimC.empty:LimC 0 (kx 4000):=⟨rfl,rfl,rfl,rfl,rfl,rfl,rfl,rfl,λ_ _ _=>rfl⟩
theorem LimC.put {i c}(h:LimC i c)(hi:i<12)(t):MidC i t c.next (xEw c (limA i t)):=by
 have hn:=h.new (i+1) (by omega) (by omega);refine⟨?_,?_,?_,h.bud,?_,h.tc,h.lf,h.cut,λk h1 h2=>?_,?_⟩
 ·show (uT (idK (i+1)) _ c.hes).length=_
  rw[xJq hn,af_,h.len];rfl
 ·show uT (idK (i+1)) _ c.ses=_
  rw[h.ses];rfl
 ·show c.bytes+(str t).size=_
  rw[h.bytes,yD];omega
 ·show c.next+1=_
  rw[h.nx]
 ·show yl (idK k) (uT (idK (i+1)) _ c.hes)=none
  rw[xN2 (yAu h2 (by omega) (by omega))];exact h.new k (by omega) h2
 ·show yl (idK (i+1)) (uT (idK (i+1)) _ c.hes)=_
  rw[xJq hn,xF3 _ hn];rfl
theorem MidC.rm {i t p c}(h:MidC i t p c)(hi:i<12):LimC (i+1) (rmC0 c (idK (i+1)) ⟨str t,1,p⟩ ⟨idK (i+1),1,1,0,false⟩):=by
 refine⟨?_,rfl,?_,h.bud,h.nx,h.tc,h.lf,h.cut,λk h1 h2=>?_⟩
 ·show (uT (idK (i+1)) _ c.hes).length=_
  rw[xUx h.here,h.len]
 ·show c.bytes-(str t).size=0
  rw[h.bytes,yD];omega
 ·show yl (idK k) (uT (idK (i+1)) _ c.hes)=none
  rw[xN2 (yAu h2 (by omega) (by omega))];exact h.new k h1 h2
theorem xF8 (es):(kvs es).length=es.length:=by simp[kvs]
theorem xDr.of_nil {es}(h:kvs es=[]):xDr es:=by
 have h1:es=[]:=bn_ (by rw[<-xF8,h];rfl);rw[h1];exact⟨by simp,λe he=>by cases he⟩
theorem xDr.of_one {es k x}(h:kvs es=[(k,.agg (xG x))])(h1:0<=x.arr)(h2:x.arr<=105190559)(h3:x.text.size<=10000):xDr es:=by
 refine⟨by rw[<-xF8,h];simp,λe he=>⟨x,?_,h1,h2,h3⟩⟩;have hm:(e.k,e.v)∈kvs es:=az_.2 ⟨e,he,rfl⟩;rw[h,ac_]at hm;exact congrArg Prod.snd hm
theorem xHb {D sb p n q u c F w}(h:StOk D w sb p n q u c F)(hG:Gl w)(cK:prog.globals.size<=D)(hD:D<=w.heap.size)(lS:2<D)(hq:q<=1000000000)
  (lJ:c.tc=none) (fK:c.lf=λ_=>[]) (hcut:c.cut=0) (hl:c.hes.length<=400) (hb:c.budget<=1073741824) (hs:∀es:List (KE Id32),kvs es=c.ses->xDr es):
  Calls prog 12 #[.pointer (some ⟨sb,0,none⟩)] w (kd D sb p n q c F w):=
 xL9 h hG cK hD lS hq lJ fK
  (λB W v hv hk hc=>xSd hv (by rw[<-xF8,hk];exact hl) 0 (by rw[hc,hcut];rfl) (by omega))
  (λB W v hv hk IE=>xUg hv (hs _ hk) (by rw[IE];exact hb))
theorem LimC.compact {i D sb p n q u c F w}(hc:LimC i c)(hi:i<=12)(h:StOk D w sb p n q u c F)(hG:Gl w)(cK:prog.globals.size<=D)(hD:D<=w.heap.size)(lS:2<D)(hq:q<=1000000000):
  Calls prog 12 #[.pointer (some ⟨sb,0,none⟩)] w (kd D sb p n q c F w):=
 xHb h hG cK hD lS hq hc.tc hc.lf hc.cut (by rw[hc.len];omega) (by rw[hc.bud];omega) (λes he=>xDr.of_nil (by rw[he,hc.ses]))
theorem MidC.compact {i t pl D sb p n q u c F w}(hc:MidC i t pl c)(hi:i<12)(ht:t.length<=10000)(h:StOk D w sb p n q u c F)(hG:Gl w)(cK:prog.globals.size<=D)(hD:D<=w.heap.size)(lS:2<D)(hq:q<=1000000000):
  Calls prog 12 #[.pointer (some ⟨sb,0,none⟩)] w (kd D sb p n q c F w):=
 xHb h hG cK hD lS hq hc.tc hc.lf hc.cut (by rw[hc.len];omega) (by rw[hc.bud];omega) (λes he=>xDr.of_one (he.trans hc.ses) (by show (0:Int)<=1;omega) (by show (1:Int)<=_;omega) (by show (str t).size<=_;rw[yD];exact ht))
theorem LimC.put_ok {i D sb p n q u c F w}(hc:LimC i c)(hi:i<12)(h:StOk D w sb p n q u c F)(hG:Gl w)(cK:prog.globals.size<=D)(hD:D<=w.heap.size)(t)(ir:1<=t.length)(gX:t.length<=4000)
  (aC:u+xO (63+t.length)<=n/2):
  Calls prog 10 #[.pointer (some ⟨sb,0,none⟩),.agg (xw (limA i t))] w (xKz D sb p n q (u+xO (63+t.length)) (xEw c (limA i t)) F w):=
 xU6 h hG cK hD (idK (i+1)) t 1 1 (limA i t) rfl (xSb (by omega) (by omega)) ir (by omega) (by omega) (by omega) (hc.new _ (by omega) (by omega)) (by rw[hc.len];omega) (by rw[hc.ses];rfl) (by rw[hc.bytes,hc.bud];omega) (by rw[hc.bud];omega) (by rw[hc.nx];omega) aC
theorem LimC.put_full {i D sb p n q u c F w}(hc:LimC i c)(hi:i<12)(h:StOk D w sb p n q u c F)(hG:Gl w)(cK:prog.globals.size<=D)(hD:D<=w.heap.size)(t)(ir:1<=t.length)(gX:t.length<=4000)
  (aC:n/2<u+xO (63+t.length)):
  Calls prog 10 #[.pointer (some ⟨sb,0,none⟩),.agg (xw (limA i t))] w (λe w'=>e=.returned (.tuple #[.slice none 0 0,.int .i64 9])/\Below w.heap.size w w'):=
 xU7 h hG cK hD (idK (i+1)) t 1 1 (limA i t) rfl (xSb (by omega) (by omega)) ir (by omega) (by omega) (by omega) (hc.new _ (by omega) (by omega)) (by rw[hc.len];omega) (by rw[hc.ses];rfl) (by rw[hc.bytes,hc.bud];omega) (by rw[hc.bud];omega) (by rw[hc.nx];omega) aC
theorem MidC.rm_ok {i t pl D sb p n q u c F w}(hc:MidC i t pl c)(ht:t.length<=10000)(h:StOk D w sb p n q u c F)(hG:Gl w)(cK:prog.globals.size<=D)(hD:D<=w.heap.size)(aC:u+xO 34<=n/2):
  Calls prog 14 #[.pointer (some ⟨sb,0,none⟩),.agg (xl (idK (i+1))).toArray] w (xQi D sb p n q (u+xO 34) (rmC0 c (idK (i+1)) ⟨str t,1,pl⟩ ⟨idK (i+1),1,1,0,false⟩) F w):=
 xL5 h hG cK hD (idK (i+1)) ⟨str t,1,pl⟩ ⟨idK (i+1),1,1,0,false⟩ hc.ses (by show (str t).size<=_;rw[hc.bytes,yD];omega) (by rw[hc.bytes];omega) hc.lf hc.here rfl aC
theorem MidC.rm_full {i t pl D sb p n q u c F w}(hc:MidC i t pl c)(ht:t.length<=10000)(h:StOk D w sb p n q u c F)(hG:Gl w)(cK:prog.globals.size<=D)(hD:D<=w.heap.size)(aC:n/2<u+xO 34):
  Calls prog 14 #[.pointer (some ⟨sb,0,none⟩),.agg (xl (idK (i+1))).toArray] w (λe w'=>e=.returned (.int .i64 9)/\Below w.heap.size w w'):=
 xL6 h hG cK hD (idK (i+1)) ⟨str t,1,pl⟩ ⟨idK (i+1),1,1,0,false⟩ hc.ses (by show (str t).size<=_;rw[hc.bytes,yD];omega) (by rw[hc.bytes];omega) hc.lf hc.here rfl aC
theorem yAy {B:Nat}{w:World}{v:Hst}(h:yO B w v)(n:Nat)(hn:n=v.es.length):Calls prog 19 #[.pointer (some ⟨v.p,0,none⟩)] w λe w'=>w=w'/\e=.returned (.int .i64 n):=by
 have c0:=cell_of_row w v.p 0 _ _ _ h.blk;simp only[v_]at c0;have cX:=xF6 underlying102 h.map 3;rw[<-hn]at cX;clear h hn;go_enter func19,ntmps19;go_wp2;go_ret;exact⟨rfl,rfl⟩
theorem xU3 {D sb p n q u:Nat}{c:PC}{F:List Nat}{w:World}(h:StOk D w sb p n q u c F):Calls prog 15 #[.pointer (some ⟨sb,0,none⟩)] w λe w'=>Below w.heap.size w w'/\∃v,e=.returned (.pointer (some ⟨v.p,0,none⟩))/\yE w.heap.size w' v/\kvs v.es=c.ses:=by
 obtain⟨b,v,d,j,ev,sy,x,B,T,ax,hp,hn,aN,hu,eK,aH,_⟩:=h;have c1:=cell_of_row w sb 2 _ _ _ ax.blk;simp only[v_]at c1;have HC:=h_ (xIv ax.prt.at.s);have nN:=h_ (show kvs x.s.es=c.ses by rw[<-aH];rfl);clear ax hp hn aN hu eK aH;go_enter func15,ntmps15;go_wp2_with fail;refine HC.mono ?_;rintro e w1 ⟨hb,v',rfl,aB,he,_,_,_,_⟩;have HF:=h_ (And.intro hb (And.intro aB (show kvs v'.es=c.ses by rw[he];exact nN.out)));clear hb aB he c1;go_wp2;go_ret;exact⟨HF.1,v',rfl,HF.2.1,HF.2.2⟩
structure LimW (w0:World)(D sb p:Nat)(R:List (Nat×Obj))(P:PC->Prop)(Q u:Nat)(w:World):Prop where
 st:∃q c F,StOk D w sb p 64 q u c F/\P c/\q<=Q/\∀r∈R,r.1∉F
 bel:Below w0.heap.size w0 w
 gl:Gl w
 D0:prog.globals.size<=D
 Dw:D<=w.heap.size
 Dg:2<D
 w0D:w0.heap.size<=D
 rows:∀r∈R,w.heap[r.1]?=some r.2
variable {w0 w:World} {D sb p k Q u:Nat} {t:By} {R:List (Nat×Obj)} {P:PC->Prop}
theorem LimW.rl (h:LimW w0 D sb p R P Q u w){r:Nat×Obj}(hr:r∈R):r.1<w.heap.size:=(i_ (h.rows r hr)).1
theorem LimW.below (h:LimW w0 D sb p R P Q u w){w':World}(hb:Below w.heap.size w w'):LimW w0 D sb p R P Q u w':=by
 obtain⟨q,c,F,h1,h2,h3,h4⟩:=h.st;exact⟨⟨q,c,F,h1.below hb,h2,h3,h4⟩,h.bel.trans (hb.mono h.bel.size),h.gl.later hb,h.D0,ad_ h.Dw hb.size,h.Dg,h.w0D,λr hr=>(hb.block _ (h.rl hr)).trans (h.rows r hr)⟩
theorem LimW.addL (h:LimW w0 D sb p R P Q u w){w':World}(hb:Below w.heap.size w w')(S:List (Nat×Obj))(hS:∀s∈S,w.heap.size<=s.1/\w'.heap[s.1]?=some s.2):LimW w0 D sb p (S++R) P Q u w':=by
 have h':=h.below hb;obtain⟨q,c,F,h1,h2,h3,h4⟩:=h.st;refine⟨⟨q,c,F,h1.below hb,h2,h3,λr hr=>?_⟩,h'.bel,h'.gl,h'.D0,h'.Dw,h'.Dg,h'.w0D,λr hr=>?_⟩
 ·rcases aj_.1 hr with hr|hr
  ·exact λhm=>by have:=(h1.flt r.1 hm).2;have:=(hS r hr).1;omega
  ·exact h4 r hr
 ·rcases aj_.1 hr with hr|hr
  ·exact(hS r hr).2
  ·exact h'.rows r hr
theorem LimW.sub (h:LimW w0 D sb p R P Q u w){R':List (Nat×Obj)}(hs:∀r∈R',r∈R):LimW w0 D sb p R' P Q u w:=by
 obtain⟨q,c,F,h1,h2,h3,h4⟩:=h.st;exact⟨⟨q,c,F,h1,h2,h3,λr hr=>h4 r (hs r hr)⟩,h.bel,h.gl,h.D0,h.Dw,h.Dg,h.w0D,λr hr=>h.rows r (hs r hr)⟩
theorem LimW.more (h:LimW w0 D sb p R P Q u w){Q':Nat}(hq:Q<=Q'):LimW w0 D sb p R P Q' u w:=by
 obtain⟨q,c,F,h1,h2,h3,h4⟩:=h.st;exact⟨⟨q,c,F,h1,h2,ad_ h3 hq,h4⟩,h.bel,h.gl,h.D0,h.Dw,h.Dg,h.w0D,h.rows⟩
theorem LimW.next (h:LimW w0 D sb p R P Q u w){w':World}{q u':Nat}{c':PC}{F F':List Nat}{P':PC->Prop}{Q':Nat}(Y4:∀r∈R,r.1∉F)(hb:Below D w w')(hk:Kept F w w')(hs:StOk D w' sb p 64 q u' c' F')(hF:∀k∈F',k∈F\/w.heap.size<=k)(hP:P' c')(hQ:q<=Q'):LimW w0 D sb p R P' Q' u' w':=
 ⟨⟨q,c',F',hs,hP,hQ,λr hr hm=>(hF r.1 hm).elim (Y4 r hr) (λh1=>by have:=h.rl hr;omega)⟩,h.bel.trans (hb.mono h.w0D),h.gl.below hb h.D0,h.D0,ad_ h.Dw hb.size,h.Dg,h.w0D,λr hr=>(hk.block _ (h.rl hr) (Y4 r hr)).trans (h.rows r hr)⟩
def MidP (k:Nat)(t:By)(c:PC):Prop:=∃pl,MidC k t pl c
theorem yCt (h:LimW w0 D sb p R (LimC k) Q u w)(hk:k<12)(ir:1<=t.length)(gX:t.length<=4000):
  Calls prog 10 #[.pointer (some ⟨sb,0,none⟩),.agg (xw (limA k t))] w λe w'=>(e=.returned (.tuple #[.slice none 0 0,.int .i64 0])/\∃u',LimW w0 D sb p R (MidP k t) Q u' w')\/(e=.returned (.tuple #[.slice none 0 0,.int .i64 9])/\32<u+xO (63+t.length)/\LimW w0 D sb p R (LimC k) Q u w'):=by
 obtain⟨q,c,F,h1,h2,h3,h4⟩:=h.st;by_cases hr:u+xO (63+t.length)<=64/2
 ·refine(h2.put_ok hk h1 h.gl h.D0 h.Dw t ir gX hr).mono ?_;rintro e w'⟨rfl,hb,ef,F',hs,hF⟩;exact .inl ⟨rfl,_,h.next h4 hb ef hs hF ⟨_,h2.put hk t⟩ h3⟩
 ·refine(h2.put_full hk h1 h.gl h.D0 h.Dw t ir gX (by omega)).mono ?_;rintro e w'⟨rfl,hb⟩;exact .inr ⟨rfl,by omega,h.below hb⟩
theorem yAc (h:LimW w0 D sb p R (MidP k t) Q u w)(hk:k<12)(gX:t.length<=4000):
  Calls prog 14 #[.pointer (some ⟨sb,0,none⟩),.agg (xl (idK (k+1))).toArray] w λe w'=>(e=.returned (.int .i64 0)/\∃u',LimW w0 D sb p R (LimC (k+1)) Q u' w')\/(e=.returned (.int .i64 9)/\32-u<3/\LimW w0 D sb p R (MidP k t) Q u w'):=by
 obtain⟨q,c,F,h1,⟨pl,h2⟩,h3,h4⟩:=h.st;have hn:xO 34=1:=by decide
 by_cases hr:u+xO 34<=64/2
 ·refine(h2.rm_ok (by omega) h1 h.gl h.D0 h.Dw hr).mono ?_;rintro e w'⟨rfl,hb,ef,F',hs,hF⟩;exact .inl ⟨rfl,_,h.next h4 hb ef hs hF (h2.rm hk) h3⟩
 ·refine(h2.rm_full (by omega) h1 h.gl h.D0 h.Dw (by omega)).mono ?_;rintro e w'⟨rfl,hb⟩;exact .inr ⟨rfl,by rw[hn]at hr;omega,h.below hb⟩
theorem xRz (h:LimW w0 D sb p R P Q u w)(hQ:Q<=1000000)
  (hC:∀{q:Nat} {c:PC} {F:List Nat},P c->StOk D w sb p 64 q u c F->q<=1000000000->Calls prog 12 #[.pointer (some ⟨sb,0,none⟩)] w (kd D sb p 64 q c F w)):
  Calls prog 12 #[.pointer (some ⟨sb,0,none⟩)] w λe w'=>(e=.returned (.int .i64 9)/\LimW w0 D sb p R P Q u w')\/(e=.returned (.int .i64 0)/\∃u',LimW w0 D sb p R P (Q+5000) u' w'):=by
 obtain⟨q,c,F,h1,h2,h3,h4⟩:=h.st;refine(hC h2 h1 (by omega)).mono ?_;rintro e w' (⟨rfl,hb⟩|⟨rfl,hb,ef,F',u',hs,hF⟩)
 ·exact .inl ⟨rfl,h.below hb⟩
 ·exact .inr ⟨rfl,u',h.next h4 hb ef hs hF h2 (by omega)⟩
theorem yCu (h:LimW w0 D sb p R (LimC k) Q u w)(hk:k<=12)(hQ:Q<=1000000):
  Calls prog 12 #[.pointer (some ⟨sb,0,none⟩)] w λe w'=>(e=.returned (.int .i64 9)/\LimW w0 D sb p R (LimC k) Q u w')\/(e=.returned (.int .i64 0)/\∃u',LimW w0 D sb p R (LimC k) (Q+5000) u' w'):=
 xRz h hQ λhc hs hq=>hc.compact hk hs h.gl h.D0 h.Dw h.Dg hq
theorem yAg (h:LimW w0 D sb p R (MidP k t) Q u w)(hk:k<12)(gX:t.length<=4000)(hQ:Q<=1000000):
  Calls prog 12 #[.pointer (some ⟨sb,0,none⟩)] w λe w'=>(e=.returned (.int .i64 9)/\LimW w0 D sb p R (MidP k t) Q u w')\/(e=.returned (.int .i64 0)/\∃u',LimW w0 D sb p R (MidP k t) (Q+5000) u' w'):=
 xRz h hQ λ⟨_,hc⟩ hs hq=>hc.compact hk (by omega) hs h.gl h.D0 h.Dw h.Dg hq
theorem xRy (h:LimW w0 D sb p R P Q u w):Calls prog 9 #[.pointer (some ⟨sb,0,none⟩)] w λe w'=>e=.returned (.int .i64 (32-u:Nat))/\LimW w0 D sb p R P Q u w':=by
 obtain⟨q,c,F,h1,_⟩:=h.st;refine(xIj h1).mono ?_;rintro e w' ⟨rfl,hb⟩;exact⟨rfl,h.below hb⟩
theorem km (h:LimW w0 D sb p R P Q u w):Calls prog 13 #[.pointer (some ⟨sb,0,none⟩)] w λe w'=>e=.returned (.int .i64 0)/\w=w':=by
 obtain⟨q,c,F,⟨b,v,d,j,ev,sy,x,B,T,h1,_⟩,_⟩:=h.st;exact jK h1
theorem ka (h:LimW w0 D sb p R P Q u w):Calls prog 15 #[.pointer (some ⟨sb,0,none⟩)] w λe w'=>∃v:Spo,e=.returned (.pointer (some ⟨v.p,0,none⟩))/\yE w.heap.size w' v/\(∃c,P c/\kvs v.es=c.ses)/\Below w.heap.size w w'/\LimW w0 D sb p R P Q u w':=by
 obtain⟨q,c,F,h1,h2,_⟩:=h.st;refine(xU3 h1).mono ?_;rintro e w' ⟨hb,v,rfl,aB,hk⟩;exact⟨v,rfl,aB,⟨c,h2,hk⟩,hb,h.below hb⟩
theorem yAf (h:LimW w0 D sb p R P Q u w):Calls prog 18 #[.pointer (some ⟨sb,0,none⟩)] w λe w'=>∃v:Hst,e=.returned (.pointer (some ⟨v.p,0,none⟩))/\yO w.heap.size w' v/\(∃c,P c/\kvs v.es=c.hes)/\LimW w0 D sb p R P Q u w':=by
 obtain⟨q,c,F,h1,h2,_⟩:=h.st;refine(xA5 h1).mono ?_;rintro e w' ⟨hb,v,rfl,aB,hk⟩;exact⟨v,rfl,aB,⟨c,h2,hk⟩,h.below hb⟩
theorem xJj {v:Spo}{B:Nat}(hv:yE B w v)(hc:∃c,MidP k t c/\kvs v.es=c.ses):Calls prog 16 #[.pointer (some ⟨v.p,0,none⟩),.agg (xl (idK (k+1))).toArray] w λe w'=>Below w.heap.size w w'/\e=.returned (.bool true):=by
 obtain⟨c,⟨pl,h2⟩,h3⟩:=hc;have hg:(getK (idK (k+1)) v.es).isSome=true:=by
  rw[ji,h3,h2.ses];unfold yl;rw[if_pos rfl];rfl
 have:=xIr hv (idK (k+1));rw[hg]at this;exact this
theorem xWh {v:Spo}{B:Nat}(hv:yE B w v)(hc:∃c,LimC k c/\kvs v.es=c.ses)(id:Id32):Calls prog 16 #[.pointer (some ⟨v.p,0,none⟩),.agg (xl id).toArray] w λe w'=>Below w.heap.size w w'/\e=.returned (.bool false):=by
 obtain⟨c,h2,h3⟩:=hc;have hg:(getK id v.es).isSome=false:=by
  rw[ji,h3,h2.ses];rfl
 have:=xIr hv id;rw[hg]at this;exact this
theorem yAe {v:Spo}(hc:∃c,LimC k c/\kvs v.es=c.ses):0=v.es.length:=by
 obtain⟨c,h2,h3⟩:=hc;rw[<-xF8,h3,h2.ses];rfl
theorem yAd {v:Hst}(hc:∃c,LimC k c/\kvs v.es=c.hes):k=v.es.length:=by
 obtain⟨c,h2,h3⟩:=hc;rw[<-xF8,h3,h2.len]
def flB (L j:Nat)(c:UInt8):By:=List.replicate j c++List.replicate (L-j) 0
theorem yD7 {L j c}(h:j<=L):(flB L j c).length=L:=by
 unfold flB;rw[af_,bN_,bN_];omega
theorem yBd (L c):flB L 0 c=yG L:=by
 unfold flB yG;simp
theorem yBe (L c):flB L L c=List.replicate L c:=by
 unfold flB;simp
theorem yD6 {L j}(c)(h:j<L):(flB L j c).set j c=flB L (j+1) c:=by
 unfold flB;obtain⟨m,hm⟩:∃m,L-j=m+1:=⟨L-j-1,by omega⟩;have eV:L-(j+1)=m:=by omega
 rw[hm,eV,bL_ _ _ (by simp),bN_,ee_,List.replicate_succ,List.set_cons_zero,List.replicate_succ',aH_];rfl
theorem yD8 {L j}(c)(h:j<L):(encB (flB L j c)).toArray.setIfInBounds j (.int .u8 c.toNat)=(encB (flB L (j+1) c)).toArray:=by
 rw[<-yD6 c h];unfold encB;rw[bD_,List.map_set]
end Go.Proofs.YtegfbhdkenkkdaaGreatDoor
