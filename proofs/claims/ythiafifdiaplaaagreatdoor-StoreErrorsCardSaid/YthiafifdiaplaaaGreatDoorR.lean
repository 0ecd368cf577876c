/- The tied card of bulletinlaw29.StoreErrors, proved: for every two numbers and every string the call returns true; package-level tables as the program's text lays them. -/
import Derived.Test.YthiafifdiaplaaaGreatDoorRL1
import Derived.Test.YthiafifdiaplaaaGreatDoorRL2
import Derived.Test.YthiafifdiaplaaaGreatDoorRL3
import Derived.Test.YthiafifdiaplaaaGreatDoorRL4
import Derived.Test.YthiafifdiaplaaaGreatDoorRL5
import Derived.Test.YthiafifdiaplaaaGreatDoorCards
import Derived.Test.YthiafifdiaplaaaGreatDoorTie
import Derived.ProofKit
import Derived.OpenShut
import Derived.Lay
import Derived.LaidSub
import Derived.Deep.DeepHandedRow
import Derived.Lib.LaidTab
import Derived.Shelf.Vars
set_option maxRecDepth 100000
set_option maxHeartbeats 8000000
namespace Go.Proofs.YthiafifdiaplaaaGreatDoor
open Go Go.RowKit Go.Proofs
section
attribute [local go_sem ↓] xV xO qR qr
attribute [local go_sem] zx zA xEi xE5 zt zw yD yC xj xh xe xd xA xz xo xl xt xC xx
def zZ (k:Id32):List (Id32 × Value)→Option Value
 | []=>none
 | e :: es=>if k=e.1 then some e.2 else zZ k es
def xNt (k:Id32)(v:Value):List (Id32 × Value)→List (Id32 × Value)
 | []=>[]
 | e :: es=>if k=e.1 then (e.1,v) :: es else e :: xNt k v es
def xAk (k:Id32)(v:Value)(l:List (Id32 × Value)):List (Id32 × Value):=if (zZ k l).isSome then xNt k v l else l++[(k,v)]
theorem xPq (k:Id32):∀ (l:List (KE Id32)) (i:Nat),(yM k l i).map (·.2)=zZ k (kvs l)
 | [],_=>rfl
 | e :: l,i=>by
  unfold yM kvs
  rw[List.map_cons]
  unfold zZ
  by_cases h:k=e.k
  ·rw[if_pos h,if_pos h];rfl
  ·rw[if_neg h,if_neg h];exact xPq k l (i+1)
theorem xDi (k:Id32)(l:List (KE Id32)):getK k l=zZ k (kvs l):=xPq k l 0
theorem xSw (k:Id32)(v:Value):∀ (l:List (KE Id32)),kvs (updL k v l)=xNt k v (kvs l)
 | []=>rfl
 | e :: l=>by
  unfold updL kvs
  rw[List.map_cons]
  unfold xNt
  by_cases h:k=e.k
  ·rw[if_pos h,if_pos h];rfl
  ·rw[if_neg h,if_neg h,List.map_cons]
   congr 1
   exact xSw k v l
theorem xT4 (k:Id32)(v:Value)(c:Nat)(l:List (KE Id32)):kvs (putL k v c l)=xAk k v (kvs l):=by
 unfold putL xAk
 rw[xDi]
 split
 ·exact xSw k v l
 ·unfold kvs;rw[List.map_append];rfl
theorem yAr {gs gs':List MG}{g:ByteArray}{p:vz}(hl:lfOf gs=xAn g p)(h:∀ t,xD gs' t=xD7 (xD gs t) p.id):lfOf gs'=fun _=>[]:=by
 funext t
 have h1:=congrFun hl t
 unfold lfOf xAn at *
 rw[h t]
 split at h1
 ·cases hm:xD gs t with
  | nil=>rfl
  | cons m l =>
   rw[hm] at h1
   simp only[List.map_cons,List.cons.injEq,List.map_eq_nil_iff] at h1
   rw[h1.2]
   simp[xD7,h1.1]
 ·rw[List.map_eq_nil_iff.1 h1];rfl
theorem xOj {b c1 c2 c3:Nat}{w:World}{x:Prt}(h:qj b c1 c2 c3 w x)(nb:Nat)(hn:w.heap[nb]?=some (.cells (xW x) 82 (0,0)))(hnbf:∀ k,k∈x.h.foot∨k∈x.s.foot∨k∈x.t.foot∨k∈foot x.ib x.M x.gs→k<nb)(hG:Gl w)(hbG:Tryz.prog.globals.size≤b)
  (p:vz) (ob:Nat) (hob:ob<b) (ho:w.heap[ob]?=some (.cells (xB p.id).toArray 109 (0,0))) (g:ByteArray) (hi:Nat) (hpn:p.number=(hi:Int)) (a:SArt) (e:HEnt)
  (hses:x.pc.ses=[(p.id,.agg (yi a))]) (hby:a.text.size≤x.pc.bytes) (hbl:x.pc.bytes≤1073741824) (htc:x.pc.tc=some (g,hi,true)) (hhi:hi≤1000000) (hlf:x.pc.lf=xAn g p)
  (hhe:zZ p.id x.pc.hes=some (.agg (xr e))) (hst:e.st=0) :
  Calls Tryz.prog 348 #[.pointer (some ⟨ob,0,none⟩),.pointer (some ⟨nb,0,none⟩)] w (xBq b nb { x.pc with ses:=[],bytes:=x.pc.bytes-a.text.size,tc:=some (g,hi,false),lf:=fun _=>[],hes:=xAk p.id (.agg (xr { e with st:=1 })) x.pc.hes } w):=by
 have hob':∀ k,k∈x.h.foot∨k∈x.s.foot∨k∈x.t.foot∨k∈foot x.ib x.M x.gs→ob≠k:=fun k hk e=>by
  have h1:=h.at
  rcases hk with hk | hk | hk | hk
  ·have:=h1.h.pB;have:=h1.h.MB;simp[Hst.foot] at hk;omega
  ·have:=h1.s.pB;have:=h1.s.MB;simp[Spo.foot] at hk;omega
  ·have:=(h1.t.foot_lt k hk).1;omega
  ·have:=(h1.o.foot_lt k hk).1;omega
 have hnl:=(i_ hn).1
 have hol:=(i_ ho).1
 obtain⟨bb,hes⟩:∃ bb,x.s.es=[⟨p.id,.agg (yi a),bb⟩]:=by
  have h1:kvs x.s.es=[(p.id,.agg (yi a))]:=hses
  cases hl:x.s.es with
  | nil=>rw[hl] at h1;cases h1
  | cons z l =>
   rw[hl] at h1
   unfold kvs at h1
   simp only[List.map_cons,List.cons.injEq,List.map_eq_nil_iff,Prod.mk.injEq] at h1
   obtain⟨⟨h2,h3⟩,h4⟩:=h1
   exact⟨z.b,by rw[h4,←h2,←h3]⟩
 obtain⟨gg,hg,hgn,hgh,hgp⟩:∃ gg,x.t.g=some gg∧gg.name=g∧gg.high=hi∧gg.pres.isSome=true:=by
  have h1:x.t.c=some (g,hi,true):=htc
  unfold Tbl.c at h1
  cases hg:x.t.g with
  | none=>rw[hg] at h1;cases h1
  | some gg =>
   rw[hg] at h1
   simp only[Option.map_some,Option.some.injEq,Prod.mk.injEq] at h1
   exact⟨gg,rfl,h1.1,h1.2.1,h1.2.2⟩
 obtain⟨px,hpx⟩:=Option.isSome_iff_exists.1 hgp
 have hbd:Below w.heap.size w w.drew:=(Below.refl _ _).drew
 have H:=h_ h
 have HNB:=h_ hnbf
 have HOB:=h_ hob'
 have HN:=h_ hn
 have HO:=h_ ho
 have HG:=h_ hG
 have HBG:=h_ hbG
 have HL:=h_ (And.intro hnl hol)
 have HT:=h_ (And.intro hg (And.intro hgn (And.intro hgh hpx)))
 have HP:=h_ (And.intro hpn (And.intro hhi (And.intro hlf (And.intro hhe hst))))
 have HRM:=h_ (xO3 (h.s.below hbd) p.id a bb hes hby hbl)
 have hc:=cell_of_row w nb 1 _ _ _ hn
 simp only[xW,v_] at hc
 have hoc:=yE ho
 have z0:∀ z:xf w,z.1.cell? ⟨nb,1,none⟩=some (.pointer (some ⟨x.s.p,0,none⟩)):=fun z=>z.cell hc
 have z1:∀ z:xf w,xq z.1 ⟨ob,0,none⟩ 32=true:=fun z=>xf.ok hoc.1 z
 have z2:∀ z:xf w,xp z.1 ⟨ob,0,none⟩ 32=(xB p.id).toArray:=fun z=>(xf.rd hoc.1 z).trans hoc.2
 clear h hn hnbf hG hbG hob ho hpn hses hby hbl htc hhi hlf hhe hst hob' hnl hol hes hg hgn hgh hgp hpx hbd hc hoc
 go_enter Tryz.func348,Tryz.ntmps348
 go_upto_region 1 with fail
 refine xw [0,1,2,3,4,5,6,7] [8,9] (fun w'=>∃ z:xf w,w'=z.1) (by kernel_rfl) (by kernel_rfl) (by kernel_rfl) ⟨⟨w.drew,(Below.refl _ _).drew⟩,rfl⟩ ?_
 simp only[o_]
 repeat (go_big_quiet_step (fail))
 refine wpQuiet_nil ?_
 clear z0 z1 z2
 refine xG [8,9] _ _ (by kernel_rfl) ?_
 simp only[o_]
 go_wp2_with fail
 refine HRM.out.mono ?_
 rintro e' w1 ⟨rfl,hk1,hs1⟩
 have hkd:Kept [x.s.M,x.s.p] w w.drew:=Kept.of_below (Below.refl _ _).drew
 have hk01:Kept [x.s.M,x.s.p] w w1:=hkd.trans hk1 (fun q hq=>.inl hq)
 have hsM:=H.out.s.MB
 have hsp:=H.out.s.pB
 have hsl:=H.out.sl
 have hb2:=H.out.b2
 have hF1:∀ k∈[x.s.M,x.s.p],c1≤k∧k<c2∧k<nb∧ob≠k:=fun k hk=>by
  simp at hk
  have hm:k∈x.s.foot:=by simp[Spo.foot];rcases hk with h | h <;> simp[h]
  exact⟨by rcases hk with h | h <;> omega,hsl k hm,HNB.out k (.inr (.inl hm)),HOB.out k (.inr (.inl hm))⟩
 have hh1:yY b w1 x.h:=H.out.h.kept hk01 (fun k hk hf=>by have:=H.out.hl k hk;have:=(hF1 k hf).1;omega)
 have ht1:yR c2 w1 x.t:=H.out.t.keptB hk01 (fun k hk=>(hF1 k hk).2.1)
 have ho1:ye c3 w1 x.ib x.M x.gs x.mc:=H.out.o.kept hk01 (fun k hk=>by have:=(hF1 k hk).2.1;have:=H.out.b3;omega)
 have hn1:=(hk01.block nb HL.out.1 (fun hf=>by have:=(hF1 nb hf).2.2.1;omega)).trans HN.out
 have hob1:=(hk01.block ob HL.out.2 (fun hf=>(hF1 ob hf).2.2.2 rfl)).trans HO.out
 have hbB1:Below b w w1:=hk01.below H.out.lt (fun k hk=>by have:=(hF1 k hk).1;have:=H.out.b1;omega)
 have hg1:Gl w1:=HG.out.below (B:=b) hbB1 HBG.out
 have HS1:=h_ hs1
 have HH1:=h_ hh1
 have HT1:=h_ ht1
 have HO1:=h_ ho1
 have HN1:=h_ hn1
 have HOB1:=h_ hob1
 have HB1:=h_ hbB1
 have HG1:=h_ hg1
 have HK1:=h_ hk01.size
 clear hk1 hs1 hkd hk01 hsM hsp hsl hb2 hF1 hh1 ht1 ho1 hn1 hob1 hbB1 hg1 HRM
 have HPL:=h_ (xRm c3 x.ib x.M x.mc x.gs g p w1.drew (HG1.out.later (Below.refl _ _).drew) (HO1.out.below (Below.refl _ _).drew) HP.out.2.2.1)
 have hc:=cell_of_row w1 nb 3 _ _ _ HN1.out
 simp only[xW,v_] at hc
 have z0:∀ z:xf w1,z.1.cell? ⟨nb,3,none⟩=some (.pointer (some ⟨x.ib,0,none⟩)):=fun z=>z.cell hc
 have hoc:=yE HOB1.out
 have z1:∀ z:xf w1,xq z.1 ⟨ob,0,none⟩ 32=true:=fun z=>xf.ok hoc.1 z
 have z2:∀ z:xf w1,xp z.1 ⟨ob,0,none⟩ 32=(xB p.id).toArray:=fun z=>(xf.rd hoc.1 z).trans hoc.2
 clear hc hoc
 go_wp2
 refine NoPanic.normal ?_
 go_upto_region 4 with fail
 refine xw [0,1,2,3,4,5,6,7,10] [8,9] (fun w'=>∃ z:xf w1,w'=z.1) (by kernel_rfl) (by kernel_rfl) (by kernel_rfl) ⟨⟨w1.drew,(Below.refl _ _).drew⟩,rfl⟩ ?_
 simp only[o_]
 repeat (go_big_quiet_step (fail))
 refine wpQuiet_nil ?_
 clear z0 z1 z2
 refine yz true (by kernel_rfl) (by kernel_rfl) ?_
 simp only[o_]
 go_wp2_with fail
 refine HPL.out.mono ?_
 rintro e' w2 ⟨pb,pc,rfl,hb2,hpc,k0,k1⟩
 have hb12:Below w1.heap.size w1 w2:=⟨hb2.os,hb2.tape,hb2.output,hb2.size,hb2.block⟩
 rw[HP.out.1] at k1
 have hpz:(1:Int)≤pc:=by omega
 have HB12:=h_ hb12
 have hn2:=(hb12.block nb (i_ HN1.out).1).trans HN1.out
 have hob2:=(hb12.block ob (i_ HOB1.out).1).trans HOB1.out
 have HS2:=h_ (HS1.out.below hb12)
 have HH2:=h_ (HH1.out.below hb12)
 have HT2:=h_ (HT1.out.below hb12)
 have HO2:=h_ (HO1.out.below hb12)
 have HN2:=h_ hn2
 have HOB2:=h_ hob2
 go_wp2
 refine⟨fun _=>⟨⟨w2,hb12⟩,rfl⟩,?_⟩
 refine yz true (by kernel_rfl) (by kernel_rfl) ?_
 simp only[o_]
 go_wp2
 refine⟨fun _=>⟨⟨w2,hb12⟩,rfl⟩,?_⟩
 refine NoPanic.normal ?_
 have ri:=y7 (w:=w2) (a:=⟨pb,0,none⟩) (cs:=[.string g,.int .i64 hi]) (fun j u hj=>by
  rw[Addr.add_lit,Nat.zero_add]
  match j,hj with
  | 0,hj=>rw[k0];exact hj
  | 1,hj=>rw[k1];exact hj)
 obtain⟨o2,r2⟩:=ri
 simp only[List.length_cons,List.length_nil] at o2 r2
 have hft:xy 2 #[Value.string g,.int .i64 hi]=true:=by simp[xy,Value.oneCell']
 have hzi:(#[Value.string ⟨#[]⟩,Value.int .i64 0].size == 2)=true:=rfl
 obtain⟨w3,hw3⟩:∃ w3,w3=w2.alloc (.cells #[.string g,.int .i64 hi] 53):=⟨_,rfl⟩
 have hb3:Below w2.heap.size w2 w3:=by rw[hw3];exact b_ _ _
 have hn3:w3.heap[w2.heap.size]?=some (.cells #[.string g,.int .i64 hi] 53 (0,0)):=by rw[hw3];exact heap_alloc_new w2 _
 have hp3:=xI (n:=2) hn3 rfl
 have z3:∀ z:xf w3,xq z.1 ⟨w2.heap.size,0,none⟩ 2=true:=fun z=>xf.ok hp3.1 z
 have z4:∀ z:xf w3,xp z.1 ⟨w2.heap.size,0,none⟩ 2=#[.string g,.int .i64 hi]:=fun z=>(xf.rd hp3.1 z).trans hp3.2
 have hd3:Below w3.heap.size w3 w3.drew:=(Below.refl _ _).drew
 have HRA:=h_ (xQk ((HT2.out.below hb3).below hd3) gg HT.out.1 px HT.out.2.2.2 (by rw[HT.out.2.2.1];exact HP.out.2.1))
 rw[HT.out.2.1,HT.out.2.2.1] at HRA
 have HB23:=h_ hb3
 have HN3:=h_ ((hb3.block nb (i_ hn2).1).trans hn2)
 have HOB3:=h_ ((hb3.block ob (i_ hob2).1).trans hob2)
 have HS3:=h_ (HS2.out.below hb3)
 have HH3:=h_ (HH2.out.below hb3)
 have HO3:=h_ (HO2.out.below hb3)
 have HT3:=h_ (HT2.out.below hb3)
 clear hb2 hb12 hn2 hob2 hb3 hn3 hp3 hd3 HPL hpc
 go_wp2
 refine yT ?_
 go_upto_region 7 with fail
 refine xu hw3 ?_
 clear hw3 o2 r2 k0 k1
 have hc:=cell_of_row w3 nb 2 _ _ _ HN3.out
 simp only[xW,v_] at hc
 have z0:∀ z:xf w3,z.1.cell? ⟨nb,2,none⟩=some (.pointer (some ⟨x.t.p,0,none⟩)):=fun z=>z.cell hc
 clear hc
 refine xw [0,1,2,3,4] [5,6] (fun w'=>∃ z:xf w3,w'=z.1) (by kernel_rfl) (by kernel_rfl) (by kernel_rfl) ⟨⟨w3.drew,(Below.refl _ _).drew⟩,rfl⟩ ?_
 simp only[o_]
 repeat (go_big_quiet_step (fail))
 refine wpQuiet_nil ?_
 clear z0 z3 z4
 refine xG [5,6] _ _ (by kernel_rfl) ?_
 simp only[o_]
 go_wp2_with fail
 refine HRA.out.mono ?_
 rintro e' w4 ⟨rfl,hk4,g4,mc4,hg41,hg42,hg43,ht4⟩
 have hk34:Kept [x.t.M] w3 w4:=(Kept.of_below (F:=[x.t.M]) (Below.refl _ _).drew).trans hk4 (fun q hq=>.inl hq)
 have htM:x.t.M∈x.t.foot:=by simp[Tbl.foot]
 have htl:=H.out.tl _ htM
 have htB:=H.out.t.MB
 have hc12:=H.out.b2
 have hc23:=H.out.b3
 have hc01:=H.out.b1
 have hh4:=HH3.out.kept hk34 (fun k hk hf=>by have:=H.out.hl k hk;rw[List.mem_singleton.1 hf] at this;omega)
 have hs4:=HS3.out.kept hk34 (fun k hk hf=>by have:=H.out.sl k hk;rw[List.mem_singleton.1 hf] at this;omega)
 have ho4:=HO3.out.kept hk34 (fun k hk=>by rw[List.mem_singleton.1 hk];exact htl)
 have hn4:=(hk34.block nb (i_ HN3.out).1 (fun hf=>by have:=HNB.out _ (.inr (.inr (.inl htM)));rw[←List.mem_singleton.1 hf] at this;omega)).trans HN3.out
 have hob4:=(hk34.block ob (i_ HOB3.out).1 (fun hf=>HOB.out _ (.inr (.inr (.inl htM))) (List.mem_singleton.1 hf))).trans HOB3.out
 have hbw1:b≤w1.heap.size:=Nat.le_trans H.out.lt HB1.out.size
 have hbB3:Below b w w3:=HB1.out.trans ((HB12.out.trans (HB23.out.mono HB12.out.size)).mono hbw1)
 have hbB4:Below b w w4:=hbB3.trans (hk34.below (Nat.le_trans H.out.lt hbB3.size) (fun k hk=>by rw[List.mem_singleton.1 hk];omega))
 have HB4:=h_ hbB4
 have HH4:=h_ hh4
 have HS4:=h_ hs4
 have HO4:=h_ ho4
 have HT4:=h_ ht4
 have HN4:=h_ hn4
 have HOB4:=h_ hob4
 have HG4:Hid (Gl w4):=h_ (HG.out.below hbB4 HBG.out)
 have HGG:=h_ (And.intro hg41 (And.intro hg42 hg43))
 have HRI:=h_ (xM2 c3 x.ib x.M x.mc x.gs p.id w4.drew (HG4.out.later (Below.refl _ _).drew) (ho4.below (Below.refl _ _).drew))
 clear hk4 hk34 htM htl htB hc12 hc23 hc01 hh4 hs4 ho4 hn4 hob4 hbw1 hbB3 hbB4 hg41 hg42 hg43 ht4 HRA
 have hc:=cell_of_row w4 nb 3 _ _ _ HN4.out
 simp only[xW,v_] at hc
 have z0:∀ z:xf w4,z.1.cell? ⟨nb,3,none⟩=some (.pointer (some ⟨x.ib,0,none⟩)):=fun z=>z.cell hc
 have hoc:=yE HOB4.out
 have z1:∀ z:xf w4,xq z.1 ⟨ob,0,none⟩ 32=true:=fun z=>xf.ok hoc.1 z
 have z2:∀ z:xf w4,xp z.1 ⟨ob,0,none⟩ 32=(xB p.id).toArray:=fun z=>(xf.rd hoc.1 z).trans hoc.2
 clear hc hoc
 go_wp2
 refine NoPanic.normal ?_
 go_upto_region 11 with fail
 refine xw [0,1,2,3,4,5,6,7] [8] (fun w'=>∃ z:xf w4,w'=z.1) (by kernel_rfl) (by kernel_rfl) (by kernel_rfl) ⟨⟨w4.drew,(Below.refl _ _).drew⟩,rfl⟩ ?_
 simp only[o_]
 repeat (go_big_quiet_step (fail))
 refine wpQuiet_nil ?_
 clear z0 z1 z2
 refine xG [8] _ _ (by kernel_rfl) ?_
 simp only[o_]
 go_wp2_with fail
 refine HRI.out.mono ?_
 rintro e' w5 ⟨ns,gs',mc5,_,_,rfl,ho5,hk5,_,hlin,_⟩
 have hk45:Kept (foot x.ib x.M x.gs) w4 w5:=(Kept.of_below (F:=foot x.ib x.M x.gs) (Below.refl _ _).drew).trans hk5 (fun q hq=>.inl hq)
 have hfB:∀ k∈foot x.ib x.M x.gs,c3≤k:=fun k hk=>(H.out.o.foot_lt k hk).1
 have hc12:=H.out.b2
 have hc23:=H.out.b3
 have hc01:=H.out.b1
 have hh5:=HH4.out.kept hk45 (fun k hk hf=>by have:=H.out.hl k hk;have:=hfB k hf;omega)
 have hs5:=HS4.out.kept hk45 (fun k hk hf=>by have:=H.out.sl k hk;have:=hfB k hf;omega)
 have ht5:=HT4.out.kept hk45 (fun k hk hf=>by
  have h1:=hfB k hf
  have h2:k=x.t.p∨k=x.t.M:=by simpa[Tbl.foot,HGG.out.2.2] using hk
  have h3:=H.out.tl x.t.p (by simp[Tbl.foot])
  have h4:=H.out.tl x.t.M (by simp[Tbl.foot])
  omega)
 have hn5:=(hk45.block nb (i_ HN4.out).1 (fun hf=>Nat.lt_irrefl _ (HNB.out _ (.inr (.inr (.inr hf)))))).trans HN4.out
 have hob5:=(hk45.block ob (i_ HOB4.out).1 (fun hf=>HOB.out _ (.inr (.inr (.inr hf))) rfl)).trans HOB4.out
 have hbB5:Below b w w5:=HB4.out.trans (hk45.below (Nat.le_trans H.out.lt HB4.out.size) (fun k hk=>by have:=hfB k hk;omega))
 have HB5:=h_ hbB5
 have HH5:=h_ hh5
 have HS5:=h_ hs5
 have HO5:=h_ ho5
 have HT5:=h_ ht5
 have HN5:=h_ hn5
 have HOB5:=h_ hob5
 have HLF:=h_ (yAr HP.out.2.2.1 hlin)
 have HSG:=h_ (xUq (hh5.below (Below.refl _ w5).drew) p.id e (by rw[xDi];exact HP.out.2.2.2.1) HP.out.2.2.2.2)
 clear hk5 hk45 hfB hc12 hc23 hc01 hh5 hs5 ht5 hn5 hob5 hbB5 ho5 hlin HRI
 have hc:=cell_of_row w5 nb 0 _ _ _ HN5.out
 simp only[xW,v_] at hc
 have z0:∀ z:xf w5,z.1.cell? ⟨nb,0,none⟩=some (.pointer (some ⟨x.h.p,0,none⟩)):=fun z=>z.cell hc
 have hoc:=yE HOB5.out
 have z1:∀ z:xf w5,xq z.1 ⟨ob,0,none⟩ 32=true:=fun z=>xf.ok hoc.1 z
 have z2:∀ z:xf w5,xp z.1 ⟨ob,0,none⟩ 32=(xB p.id).toArray:=fun z=>(xf.rd hoc.1 z).trans hoc.2
 clear hc hoc
 go_wp2
 refine NoPanic.normal ?_
 go_upto_region 12 with fail
 refine xw [0,1,2,3,4,5,6,7] [8,9] (fun w'=>∃ z:xf w5,w'=z.1) (by kernel_rfl) (by kernel_rfl) (by kernel_rfl) ⟨⟨w5.drew,(Below.refl _ _).drew⟩,rfl⟩ ?_
 simp only[o_]
 repeat (go_big_quiet_step (fail))
 refine wpQuiet_nil ?_
 clear z0 z1 z2
 refine xG [8,9] _ _ (by kernel_rfl) ?_
 simp only[o_]
 go_wp2_with fail
 refine HSG.out.mono ?_
 rintro e' w6 ⟨rfl,hk6,hh6⟩
 have hk56:Kept [x.h.M] w5 w6:=(Kept.of_below (F:=[x.h.M]) (Below.refl _ _).drew).trans hk6 (fun q hq=>.inl hq)
 have hhM:x.h.M∈x.h.foot:=by simp[Hst.foot]
 have hhl:=H.out.hl _ hhM
 have hhB:=H.out.h.MB
 have hc12:=H.out.b2
 have hc23:=H.out.b3
 have hc01:=H.out.b1
 have HF:Hid (xBq b nb { x.pc with ses:=[],bytes:=x.pc.bytes-a.text.size,tc:=some (g,hi,false),lf:=fun _=>[],hes:=xAk p.id (.agg (xr { e with st:=1 })) x.pc.hes } w (.returned (.int .i64 0)) w6):=h_ (by
  refine⟨rfl,HB5.out.trans (hk56.below (Nat.le_trans H.out.lt HB5.out.size) (fun k hk=>by rw[List.mem_singleton.1 hk];exact hhB)),⟨{ x.h with es:=putL p.id (.agg (xr { e with st:=1 })) x.h.mc x.h.es,mc:=putC p.id x.h.mc x.h.es },{ x.s with es:=[],bytes:=x.s.bytes-a.text.size },⟨x.t.p,x.t.M,mc4,some g4⟩,x.ib,x.M,gs',mc5⟩,⟨hh6,?_,?_,?_⟩,?_,?_⟩
  ·exact(HS5.out.keptB hk56 (fun k hk=>by rw[List.mem_singleton.1 hk];exact hhl)).base hc01
  ·exact(HT5.out.keptB hk56 (fun k hk=>by rw[List.mem_singleton.1 hk];omega)).base (by omega)
  ·exact(HO5.out.kept hk56 (fun k hk=>by rw[List.mem_singleton.1 hk];omega)).base (by omega)
  ·unfold Prt.pc Tbl.c
   simp only[Option.map_some,xT4,HLF.out,HGG.out.1,HGG.out.2.1,HGG.out.2.2]
   rfl
  ·exact(hk56.block nb (i_ HN5.out).1 (fun hf=>by have:=HNB.out _ (.inl hhM);rw[←List.mem_singleton.1 hf] at this;omega)).trans HN5.out)
 clear hk6 hh6 hk56 hhM hhl hhB hc12 hc23 hc01 HSG
 go_wp2
 refine NoPanic.normal ?_
 go_wp2
 go_ret
 exact HF.out
end
section
theorem j4 (ρ:Operand→Value)(d:Option Tmp)(x:Operand)(ty:TypeId)(pos:String)(af:Array Edge)(g:Option (Nat × Bool))(w:World) :
  Sem.run Tryz.prog (execOp ρ ⟨d,.load 43 x,ty,pos,af,g⟩) w=yx Tryz.prog 43 w (ρ x):=rfl
theorem vi (ρ:Operand→Value)(d:Option Tmp)(x y:Operand)(ty:TypeId)(pos:String)(af:Array Edge)(g:Option (Nat × Bool))(w:World) :
  Sem.run Tryz.prog (execOp ρ ⟨d,.store 43 x y,ty,pos,af,g⟩) w=ym Tryz.prog 43 w (ρ x) (ρ y):=rfl
theorem xHm (w:World)(a:Addr)(h:xq w a 40=true):yx Tryz.prog 43 w (.pointer (some a))=.ok (.value (.agg (xp w a 40))) w :=
 yo Tryz.isAgg43 Tryz.sizeOf43 w a h
theorem xGl (w:World)(g:Nat)(cells:Array Value)(h:xP w g 40=true)(h2:xy 40 cells=true) :
  ym Tryz.prog 43 w (.pointer (some ⟨g,0,none⟩)) (.agg cells)=.ok .skip (w.setRow g cells):=yr (by kernel_rfl) w g cells h h2
structure Art where
 id:Id32
 text:ByteArray
 name:ByteArray
 date:Int
 arr:Int
 groups:Value
 subj:ByteArray
 refs:Value
 perm:Bool
def vw (a:Art):List Value:=[.string a.text,.string a.name,.int .i64 a.date,.int .i64 a.arr,a.groups,.string a.subj,a.refs,.bool a.perm]
def zr (a:Art):List Value:=xB a.id++vw a
def xZ (a:Art):Array Value:=(zr a).toArray
theorem yZ (a:Art):(zr a).length=40:=by simp[zr,vw,xF]
theorem zL (a:Art):(xZ a).size=40:=by simp[xZ,yZ]
theorem qV (a:Art)(j:Nat):(zr a)[32+j]?=(vw a)[j]?:=by
 unfold zr
 rw[List.getElem?_append_right (by rw[xF];omega),xF,show 32+j-32=j by omega]
theorem ar32 (a:Art):(xZ a)[32]?=some (.string a.text):=by simpa[xZ,vw] using qV a 0
theorem ar33 (a:Art):(xZ a)[33]?=some (.string a.name):=by simpa[xZ,vw] using qV a 1
theorem ar34 (a:Art):(xZ a)[34]?=some (.int .i64 a.date):=by simpa[xZ,vw] using qV a 2
theorem ar35 (a:Art):(xZ a)[35]?=some (.int .i64 a.arr):=by simpa[xZ,vw] using qV a 3
theorem ar36 (a:Art):(xZ a)[36]?=some a.groups:=by simpa[xZ,vw] using qV a 4
theorem ar37 (a:Art):(xZ a)[37]?=some (.string a.subj):=by simpa[xZ,vw] using qV a 5
theorem ar38 (a:Art):(xZ a)[38]?=some a.refs:=by simpa[xZ,vw] using qV a 6
theorem ar39 (a:Art):(xZ a)[39]?=some (.bool a.perm):=by simpa[xZ,vw] using qV a 7
theorem yBg {a:Art}(hg:a.groups.oneCell'=true)(hr:a.refs.oneCell'=true):∀ v∈zr a,v.oneCell'=true:=by
 intro v hv
 unfold zr at hv
 rcases List.mem_append.1 hv with h | h
 ·exact uS a.id v h
 ·simp only[vw,List.mem_cons,List.not_mem_nil,or_false] at h
  rcases h with rfl | rfl | rfl | rfl | rfl | rfl | rfl | rfl <;> first | rfl | assumption
theorem xG6 {a:Art}(hg:a.groups.oneCell'=true)(hr:a.refs.oneCell'=true):xy 40 (xZ a)=true:=zT (zL a) (by
 rw[Array.all_eq_true_iff_forall_mem];intro v hv;exact yBg hg hr v (by simpa[xZ] using hv))
def xAa:Art:=⟨uG,⟨#[]⟩,⟨#[]⟩,0,0,.slice none 0 0,⟨#[]⟩,.slice none 0 0,false⟩
theorem kY (ρ:Operand→Value)(d:Option Tmp)(ty:TypeId)(pos:String)(af:Array Edge)(g:Option (Nat × Bool))(w:World) :
  Sem.run Tryz.prog (execOp ρ ⟨d,.alloc 43,ty,pos,af,g⟩) w=.ok (.value (.pointer (some ⟨w.heap.size,0,none⟩))) (w.alloc (.cells (xZ xAa) 43)):=by kernel_rfl
theorem xIp {w:World}{b:Nat}{a:Art}{l:List Value}{t:TypeId}(h:w.heap[b]?=some (.cells (zr a++l).toArray t (0,0))):xq w ⟨b,0,none⟩ 32=true∧xp w ⟨b,0,none⟩ 32=(xB a.id).toArray:=by
 have:=y7 (w:=w) (a:=⟨b,0,none⟩) (cs:=xB a.id) (fun j u hj=>by
  rw[Addr.add_lit,Nat.zero_add,cell_of_row _ _ _ _ _ _ h,List.getElem?_toArray]
  have hlt:j<(xB a.id).length:=by
   rcases Nat.lt_or_ge j (xB a.id).length with h | h
   ·exact h
   ·rw[List.getElem?_eq_none h] at hj;cases hj
  unfold zr
  rw[List.append_assoc,List.getElem?_append_left hlt];exact hj)
 rwa [xF] at this
theorem xYe {w:World}{b:Nat}{a:Art}{l:List Value}{t:TypeId}(h:w.heap[b]?=some (.cells (zr a++l).toArray t (0,0))):xq w ⟨b,0,none⟩ 40=true∧xp w ⟨b,0,none⟩ 40=xZ a:=by
 have:=y7 (w:=w) (a:=⟨b,0,none⟩) (cs:=zr a) (fun j u hj=>by
  rw[Addr.add_lit,Nat.zero_add,cell_of_row _ _ _ _ _ _ h,List.getElem?_toArray]
  have hlt:j<(zr a).length:=by
   rcases Nat.lt_or_ge j (zr a).length with h | h
   ·exact h
   ·rw[List.getElem?_eq_none h] at hj;cases hj
  rw[List.getElem?_append_left hlt];exact hj)
 rw[yZ] at this
 exact this
def kb (w:World)(ob:Nat)(a:Art)(pl:Value):Prop:=w.heap[ob]?=some (.cells (zr a++[pl]).toArray 100 (0,0))
def xCf (id:Id32)(arr date:Nat)(t nm sj g:By):By:=[2]++id.1++beB 4 arr++beB 4 date++[0]++(beB 4 t.length++t)++(beB 4 nm.length++nm)++(beB 4 sj.length++sj)++beB 4 1++(beB 4 g.length++g)++beB 4 0
theorem ke (id:Id32)(arr date:Nat)(t nm sj g:By):(xCf id arr date t nm sj g).length=66+t.length+nm.length+sj.length+g.length:=by
 simp[xCf,xv,id.2];omega
attribute [local go_sem ↓] qP qp qt xV xO j4 vi kY
attribute [local go_sem] xEg xE3 zx zA xHm xGl zt zw yD yC xj xh xe xd xA xz xo xl xt xC xx
theorem xM5 {w:World}(ob:Nat)(id:Id32)(arr date:Nat)(t nm sj g:By)(gb gc:Nat)(pl:Value)(ha:arr≤2147483647)(hd:date≤2147483647)(ht:t.length≤10000)(hnm:nm.length≤10000)(hsj:sj.length≤10000)(hg:g.length≤10000)
  (h:kb w ob ⟨id,str t,str nm,date,arr,.slice (some ⟨gb,0,none⟩) 1 gc,str sj,.slice none 0 0,false⟩ pl) (hgc:w.cell? ⟨gb,0,none⟩=some (.string (str g))) (hgc1:1≤gc) :
  Calls Tryz.prog 341 #[.pointer (some ⟨ob,0,none⟩)] w fun e w'=>Below w.heap.size w w'∧∃ u,e=.returned u∧OwnB w' w.heap.size u (xCf id arr date t nm sj g):=by
 obtain⟨A,hA⟩:∃ A:Art,A=⟨id,str t,str nm,date,arr,.slice (some ⟨gb,0,none⟩) 1 gc,str sj,.slice none 0 0,false⟩:=⟨_,rfl⟩
 rw[←hA] at h
 obtain⟨a0,ha0⟩:∃ a0,a0=w.heap.size:=⟨_,rfl⟩
 obtain⟨w1,hw1⟩:∃ w1,w1=w.alloc (.cells (xZ A) 43):=⟨_,rfl⟩
 have hb1:Below w.heap.size w w1:=by rw[hw1];exact b_ _ _
 have hn1:w1.heap[a0]?=some (.cells (xZ A) 43 (0,0)):=by rw[hw1,ha0];exact heap_alloc_new w _
 obtain⟨b,hb⟩:∃ b,b=w1.heap.size:=⟨_,rfl⟩
 obtain⟨w2,hw2⟩:∃ w2,w2=w1.alloc (.cells #[.slice none 0 0] 156):=⟨_,rfl⟩
 have hb12:Below b w1 w2:=by rw[hw2,hb];exact b_ _ _
 have hwr:WrAt b w2 b []:=⟨Nat.le_refl _,_,by rw[hw2,hb];exact heap_alloc_new w1 _,OwnB.nil _ _⟩
 have hgrp:A.groups=.slice (some ⟨gb,0,none⟩) 1 gc:=by rw[hA]
 have hgl:gb<w.heap.size:=block_lt_of_cell hgc
 obtain⟨o0,r0⟩:=xYe h
 have hft:xy 40 (xZ A)=true:=xG6 (by rw[hA];rfl) (by rw[hA];rfl)
 have hz40:((xZ xAa).size == 40)=true:=by rw[zL];rfl
 have c36:=(cell_of_row w1 a0 36 _ _ _ hn1).trans (ar36 A)
 rw[hgrp] at c36
 have HF:=h_ (show A.id=id∧A.text=str t∧A.name=str nm∧A.date=date∧A.arr=arr∧A.groups=.slice (some ⟨gb,0,none⟩) 1 gc∧A.subj=str sj∧A.refs=.slice none 0 0∧A.perm=false by rw[hA];exact⟨rfl,rfl,rfl,rfl,rfl,rfl,rfl,rfl,rfl⟩)
 have HB1:=h_ hb1
 have HN1:=h_ hn1
 have HB2:=h_ hb12
 have HW2:=h_ hwr
 have HA0:=h_ ha0
 have HBB:=h_ hb
 have HGC:=h_ (And.intro hgc hgl)
 have HLE:=h_ (And.intro ha (And.intro hd (And.intro ht (And.intro hnm (And.intro hsj hg)))))
 have HAL:Hid (a0<b):=h_ (by rw[hb];exact(i_ hn1).1)
 have hs1:(#[Value.slice none 0 0].size == 1)=true:=rfl
 have hf1:xy 1 #[Value.slice none 0 0]=true:=by simp[xy,Value.oneCell']
 have hgz:(1:Int)≤gc:=by omega
 clear h hA hb1 hn1 hb12 hwr hgrp hgl ha hd ht hnm hsj hg hgc
 go_enter Tryz.func341,Tryz.ntmps341
 go_upto_region 2 with fail
 refine xu hw1 ?_
 rw[←ha0]
 clear hw1 o0 r0 ha0
 go_upto_region 5 with fail
 refine xu hw2 ?_
 rw[←hb]
 clear hw2 hb c36
 have HC2:=h_ (kp HW2.out 2 (by simp))
 rw[show ((2:UInt8).toNat:Int)=2 from rfl] at HC2
 go_wp2_with fail
 refine HC2.out.mono ?_
 rintro e w3 ⟨rfl,hbk,hwk⟩
 have HB3:=h_ (HB2.out.trans hbk)
 have HW3:=h_ hwk
 clear hbk hwk HC2
 have HC3:=h_ (xSu HW3.out id (by have h1:=HLE.out;simp <;> omega))
 have hrow:=(HB3.out.block a0 HAL.out).trans HN1.out
 have hok:=xIp (l:=[]) (by rw[List.append_nil];exact hrow)
 obtain⟨ok,rk⟩:=hok
 rw[HF.out.1] at rk
 clear hrow
 go_wp2_with fail
 refine HC3.out.mono ?_
 rintro e w4 ⟨rfl,hbk,hwk⟩
 have HB4:=h_ (HB3.out.trans hbk)
 have HW4:=h_ hwk
 clear hbk hwk HC3 ok rk
 have HC4:=h_ (vT HW4.out arr (by have:=HLE.out.1;omega) (by have h1:=HLE.out;simp[id.2] <;> omega))
 have hrow:=(HB4.out.block a0 HAL.out).trans HN1.out
 have ck:=(cell_of_row w4 a0 35 _ _ _ hrow).trans (ar35 A)
 rw[HF.out.2.2.2.2.1] at ck
 clear hrow
 go_wp2_with fail
 refine HC4.out.mono ?_
 rintro e w5 ⟨rfl,hbk,hwk⟩
 have HB5:=h_ (HB4.out.trans hbk)
 have HW5:=h_ hwk
 clear hbk hwk HC4 ck
 have HC5:=h_ (vT HW5.out date (by have:=HLE.out.2.1;omega) (by have h1:=HLE.out;simp[xv,id.2] <;> omega))
 have hrow:=(HB5.out.block a0 HAL.out).trans HN1.out
 have ck:=(cell_of_row w5 a0 34 _ _ _ hrow).trans (ar34 A)
 rw[HF.out.2.2.2.1] at ck
 clear hrow
 go_wp2_with fail
 refine HC5.out.mono ?_
 rintro e w6 ⟨rfl,hbk,hwk⟩
 have HB6:=h_ (HB5.out.trans hbk)
 have HW6:=h_ hwk
 clear hbk hwk HC5 ck
 have HC6:=h_ (kp HW6.out 0 (by have h1:=HLE.out;simp[xv,id.2] <;> omega))
 rw[show ((0:UInt8).toNat:Int)=0 from rfl] at HC6
 have hrow:=(HB6.out.block a0 HAL.out).trans HN1.out
 have ck:=(cell_of_row w6 a0 39 _ _ _ hrow).trans (ar39 A)
 rw[HF.out.2.2.2.2.2.2.2.2] at ck
 clear hrow
 go_wp2_with fail
 refine HC6.out.mono ?_
 rintro e w7 ⟨rfl,hbk,hwk⟩
 have HB7:=h_ (HB6.out.trans hbk)
 have HW7:=h_ hwk
 clear hbk hwk HC6 ck
 have HC7:=h_ (ql HW7.out t (by have:=HLE.out;omega) (by have h1:=HLE.out;simp[xv,id.2] <;> omega))
 have hrow:=(HB7.out.block a0 HAL.out).trans HN1.out
 have ck:=(cell_of_row w7 a0 32 _ _ _ hrow).trans (ar32 A)
 rw[HF.out.2.1] at ck
 clear hrow
 go_wp2_with fail
 refine HC7.out.mono ?_
 rintro e w8 ⟨rfl,hbk,hwk⟩
 have HB8:=h_ (HB7.out.trans hbk)
 have HW8:=h_ hwk
 clear hbk hwk HC7 ck
 have HC8:=h_ (ql HW8.out nm (by have:=HLE.out;omega) (by have h1:=HLE.out;simp[xv,id.2] <;> omega))
 have hrow:=(HB8.out.block a0 HAL.out).trans HN1.out
 have ck:=(cell_of_row w8 a0 33 _ _ _ hrow).trans (ar33 A)
 rw[HF.out.2.2.1] at ck
 clear hrow
 go_wp2_with fail
 refine HC8.out.mono ?_
 rintro e w9 ⟨rfl,hbk,hwk⟩
 have HB9:=h_ (HB8.out.trans hbk)
 have HW9:=h_ hwk
 clear hbk hwk HC8 ck
 have HC9:=h_ (ql HW9.out sj (by have:=HLE.out;omega) (by have h1:=HLE.out;simp[xv,id.2] <;> omega))
 have hrow:=(HB9.out.block a0 HAL.out).trans HN1.out
 have ck:=(cell_of_row w9 a0 37 _ _ _ hrow).trans (ar37 A)
 rw[HF.out.2.2.2.2.2.2.1] at ck
 clear hrow
 go_wp2_with fail
 refine HC9.out.mono ?_
 rintro e w10 ⟨rfl,hbk,hwk⟩
 have HB10:=h_ (HB9.out.trans hbk)
 have HW10:=h_ hwk
 clear hbk hwk HC9 ck
 have HC10:=h_ (vT HW10.out 1 (by omega) (by have h1:=HLE.out;simp[xv,id.2] <;> omega))
 rw[show ((1:Nat):Int)=1 from rfl] at HC10
 have hrow:=(HB10.out.block a0 HAL.out).trans HN1.out
 have ck:=(cell_of_row w10 a0 36 _ _ _ hrow).trans (ar36 A)
 rw[HF.out.2.2.2.2.2.1] at ck
 clear hrow
 go_wp2_with fail
 refine HC10.out.mono ?_
 rintro e w11 ⟨rfl,hbk,hwk⟩
 have HB11:=h_ (HB10.out.trans hbk)
 have HW11:=h_ hwk
 clear hbk hwk HC10 ck
 have HC11:=h_ (ql HW11.out g (by have:=HLE.out;omega) (by have h1:=HLE.out;simp[xv,id.2] <;> omega))
 have hrow:=(HB11.out.block a0 HAL.out).trans HN1.out
 have ck:=(cell_of_row w11 a0 36 _ _ _ hrow).trans (ar36 A)
 rw[HF.out.2.2.2.2.2.1] at ck
 clear hrow
 have hgk:=((HB1.out.trans (HB11.out.mono (by rw[HBB.out];exact HB1.out.size))).cell (p:=⟨gb,0,none⟩) HGC.out.2).trans HGC.out.1
 go_wp2
 refine yT ?_
 go_wp2_with fail
 refine HC11.out.mono ?_
 rintro e w12 ⟨rfl,hbk,hwk⟩
 have HB12:=h_ (HB11.out.trans hbk)
 have HW12:=h_ hwk
 clear hbk hwk HC11 ck hgk
 have HC12:=h_ (vT HW12.out 0 (by omega) (by have h1:=HLE.out;simp[xv,id.2] <;> omega))
 rw[show ((0:Nat):Int)=0 from rfl] at HC12
 have hrow:=(HB12.out.block a0 HAL.out).trans HN1.out
 have ck:=(cell_of_row w12 a0 38 _ _ _ hrow).trans (ar38 A)
 rw[HF.out.2.2.2.2.2.2.2.1] at ck
 clear hrow
 go_wp2_with fail
 refine HC12.out.mono ?_
 rintro e w13 ⟨rfl,hbk,hwk⟩
 have HB13:=h_ (HB12.out.trans hbk)
 have HW13:=h_ hwk
 clear hbk hwk HC12 ck
 have hrow:=(HB13.out.block a0 HAL.out).trans HN1.out
 have ck:=(cell_of_row w13 a0 38 _ _ _ hrow).trans (ar38 A)
 rw[HF.out.2.2.2.2.2.2.2.1] at ck
 clear hrow
 go_wp2
 refine wp_loop_once ?_
 obtain⟨_,v,hr,ho⟩:=HW13.out
 have cw:=cell_of_row w13 b 0 _ _ _ hr
 simp only[v_] at cw
 have hall:[]++[2]++id.1++beB 4 arr++beB 4 date++[0]++beB 4 t.length++t++beB 4 nm.length++nm++beB 4 sj.length++sj++beB 4 1++beB 4 g.length++g++beB 4 0=xCf id arr date t nm sj g:=by
  simp[xCf,List.append_assoc]
 have hfin:=ho
 rw[hall] at hfin
 have HFIN:=h_ (And.intro (HB1.out.trans (HB13.out.mono (by rw[HBB.out];exact HB1.out.size))) (hfin.base (by rw[HBB.out];exact HB1.out.size)))
 clear hr ho hall hfin
 go_wp2
 go_ret
 exact⟨HFIN.out.1,v,rfl,HFIN.out.2⟩
end
theorem zn (place:Nat→Option (Nat × Nat))(i:Nat)(v:Value)(pre mid post new:List Value){rest:List (Nat × Value)}(hp:place i=some (pre.length,mid.length))(hv:v.cells=new.toArray)(hn:mid.length=new.length) :
  Instr.fill place (pre++(mid++post)).toArray ((i,v) :: rest)=Instr.fill place (pre++(new++post)).toArray rest:=by
 rw[xCm hp (by rw[hv,List.size_toArray,hn]) (by simp),hv]
 congr 1
 have h:=xD5 new 0 pre.length pre mid post rfl hn
 rw[←Array.foldl_toList,Array.toList_zipIdx]
 exact h
def xBb (i:Nat):Option (Nat × Nat):=#[(0,32),(32,1),(33,1),(34,1),(35,1)][i]?
theorem yB8 (parts:List (Nat × Value)):Tryz.prog.built 68 parts=Instr.fill xBb (xr zW) parts:=by kernel_rfl
theorem xZo (w:World)(id:Id32)(a d s:Int)(p:Bool):uo Tryz.prog 68 w #[(0,.agg (xB id).toArray),(1,.int .i64 a),(2,.int .i64 d),(3,.int .i64 s),(4,.bool p)]=.ok (.value (.agg (xr ⟨id,a,d,s,p⟩))) w:=uD (by
 show Tryz.prog.built 68 [(0,.agg (xB id).toArray),(1,.int .i64 a),(2,.int .i64 d),(3,.int .i64 s),(4,.bool p)]=_
 rw[yB8]
 have l0:(xB zW.id).length=32:=xF _
 have l1:(xB id).length=32:=xF _
 refine(zn xBb 0 (.agg (xB id).toArray) [] (xB zW.id) [.int .i64 0,.int .i64 0,.int .i64 0,.bool false] (xB id) (by rw[l0];rfl) rfl (by rw[l0,l1])).trans ?_
 refine(zn xBb 1 (.int .i64 a) (xB id) [.int .i64 0] [.int .i64 0,.int .i64 0,.bool false] [.int .i64 a] (by rw[l1];rfl) rfl rfl).trans ?_
 rw[show xB id++([.int .i64 a]++[.int .i64 0,.int .i64 0,.bool false])=(xB id++[.int .i64 a])++([.int .i64 0]++[.int .i64 0,.bool false]) by simp]
 refine(zn xBb 2 (.int .i64 d) (xB id++[.int .i64 a]) [.int .i64 0] [.int .i64 0,.bool false] [.int .i64 d] (by rw[List.length_append,l1];rfl) rfl rfl).trans ?_
 rw[show (xB id++[.int .i64 a])++([.int .i64 d]++[.int .i64 0,.bool false])=(xB id++[.int .i64 a,.int .i64 d])++([.int .i64 0]++[.bool false]) by simp]
 refine(zn xBb 3 (.int .i64 s) (xB id++[.int .i64 a,.int .i64 d]) [.int .i64 0] [.bool false] [.int .i64 s] (by rw[List.length_append,l1];rfl) rfl rfl).trans ?_
 rw[show (xB id++[.int .i64 a,.int .i64 d])++([.int .i64 s]++[.bool false])=(xB id++[.int .i64 a,.int .i64 d,.int .i64 s])++([.bool false]++[]) by simp]
 refine(zn xBb 4 (.bool p) (xB id++[.int .i64 a,.int .i64 d,.int .i64 s]) [.bool false] [] [.bool p] (by rw[List.length_append,l1];rfl) rfl rfl).trans ?_
 rw[show (xB id++[.int .i64 a,.int .i64 d,.int .i64 s])++([.bool p]++[])=qe ⟨id,a,d,s,p⟩ by simp[qe]]
 rfl)
theorem xI7 (ρ:Operand→Value)(d:Option Tmp)(x0 x1 x2 x3 x4:Operand)(ty:TypeId)(pos:String)(af:Array Edge)(gd:Option (Nat × Bool))(w:World) :
  Sem.run Tryz.prog (execOp ρ ⟨d,.build 68 #[(0,x0),(1,x1),(2,x2),(3,x3),(4,x4)],ty,pos,af,gd⟩) w=uo Tryz.prog 68 w #[(0,ρ x0),(1,ρ x1),(2,ρ x2),(3,ρ x3),(4,ρ x4)]:=by kernel_rfl
def jQ (i:Nat):Option (Nat × Nat):=#[(0,1),(1,32),(33,1),(34,1),(35,1),(36,1),(37,1)][i]?
theorem yB7 (parts:List (Nat × Value)):Tryz.prog.built 49 parts=Instr.fill jQ (x9 xH) parts:=by kernel_rfl
theorem xYd (w:World)(g:yd)(hr:g.refs.cells=#[g.refs]):uo Tryz.prog 49 w #[(0,.int .i64 g.number),(1,.agg (xB g.id).toArray),(2,.string g.name),(3,.int .i64 g.date),(4,.string g.subject),(5,g.refs),(6,.int .i64 g.bytes)]=.ok (.value (.agg (x9 g))) w:=uD (by
 show Tryz.prog.built 49 [(0,.int .i64 g.number),(1,.agg (xB g.id).toArray),(2,.string g.name),(3,.int .i64 g.date),(4,.string g.subject),(5,g.refs),(6,.int .i64 g.bytes)]=_
 rw[yB7]
 have l0:(xB xH.id).length=32:=xF _
 have l1:(xB g.id).length=32:=xF _
 generalize hE:xB g.id=E at *
 refine(zn jQ 0 (.int .i64 g.number) [] [.int .i64 0] (xB xH.id++[.string ⟨#[]⟩,.int .i64 0,.string ⟨#[]⟩,.slice none 0 0,.int .i64 0]) [.int .i64 g.number] rfl rfl rfl).trans ?_
 refine(zn jQ 1 (.agg E.toArray) [.int .i64 g.number] (xB xH.id) [.string ⟨#[]⟩,.int .i64 0,.string ⟨#[]⟩,.slice none 0 0,.int .i64 0] E (by rw[l0];rfl) rfl (by rw[l0,l1])).trans ?_
 rw[show [Value.int .i64 g.number]++(E++[.string ⟨#[]⟩,.int .i64 0,.string ⟨#[]⟩,.slice none 0 0,.int .i64 0])=([Value.int .i64 g.number]++E)++([.string ⟨#[]⟩]++[.int .i64 0,.string ⟨#[]⟩,.slice none 0 0,.int .i64 0]) by simp]
 refine(zn jQ 2 (.string g.name) ([.int .i64 g.number]++E) [.string ⟨#[]⟩] [.int .i64 0,.string ⟨#[]⟩,.slice none 0 0,.int .i64 0] [.string g.name] (by rw[List.length_append,l1];rfl) rfl rfl).trans ?_
 rw[show ([Value.int .i64 g.number]++E)++([.string g.name]++[.int .i64 0,.string ⟨#[]⟩,.slice none 0 0,.int .i64 0])=([Value.int .i64 g.number]++E++[.string g.name])++([.int .i64 0]++[.string ⟨#[]⟩,.slice none 0 0,.int .i64 0]) by simp]
 refine(zn jQ 3 (.int .i64 g.date) ([.int .i64 g.number]++E++[.string g.name]) [.int .i64 0] [.string ⟨#[]⟩,.slice none 0 0,.int .i64 0] [.int .i64 g.date] (by rw[List.length_append,List.length_append,l1];rfl) rfl rfl).trans ?_
 rw[show ([Value.int .i64 g.number]++E++[.string g.name])++([.int .i64 g.date]++[.string ⟨#[]⟩,.slice none 0 0,.int .i64 0])=([Value.int .i64 g.number]++E++[.string g.name,.int .i64 g.date])++([.string ⟨#[]⟩]++[.slice none 0 0,.int .i64 0]) by simp]
 refine(zn jQ 4 (.string g.subject) ([.int .i64 g.number]++E++[.string g.name,.int .i64 g.date]) [.string ⟨#[]⟩] [.slice none 0 0,.int .i64 0] [.string g.subject] (by rw[List.length_append,List.length_append,l1];rfl) rfl rfl).trans ?_
 rw[show ([Value.int .i64 g.number]++E++[.string g.name,.int .i64 g.date])++([.string g.subject]++[.slice none 0 0,.int .i64 0])=([Value.int .i64 g.number]++E++[.string g.name,.int .i64 g.date,.string g.subject])++([Value.slice none 0 0]++[.int .i64 0]) by simp]
 refine(zn jQ 5 g.refs ([.int .i64 g.number]++E++[.string g.name,.int .i64 g.date,.string g.subject]) [.slice none 0 0] [.int .i64 0] [g.refs] (by rw[List.length_append,List.length_append,l1];rfl) hr rfl).trans ?_
 rw[show ([Value.int .i64 g.number]++E++[.string g.name,.int .i64 g.date,.string g.subject])++([g.refs]++[Value.int .i64 0])=([Value.int .i64 g.number]++E++[.string g.name,.int .i64 g.date,.string g.subject,g.refs])++([Value.int .i64 0]++[]) by simp]
 refine(zn jQ 6 (.int .i64 g.bytes) ([.int .i64 g.number]++E++[.string g.name,.int .i64 g.date,.string g.subject,g.refs]) [.int .i64 0] [] [.int .i64 g.bytes] (by rw[List.length_append,List.length_append,l1];rfl) rfl rfl).trans ?_
 rw[show ([Value.int .i64 g.number]++E++[.string g.name,.int .i64 g.date,.string g.subject,g.refs])++([.int .i64 g.bytes]++[])=xK g by rw[←hE];simp[xK]]
 rfl)
def xT8 (i:Nat):Option (Nat × Nat):=#[(0,40),(40,1)][i]?
theorem yB6 (parts:List (Nat × Value)):Tryz.prog.built 100 parts=Instr.fill xT8 (zr xAa++[Value.slice none 0 0]).toArray parts:=by kernel_rfl
theorem xYc (w:World)(a:Art):uo Tryz.prog 100 w #[(0,.agg (xZ a))]=.ok (.value (.agg (zr a++[Value.slice none 0 0]).toArray)) w:=uD (by
 show Tryz.prog.built 100 [(0,.agg (xZ a))]=_
 rw[yB6]
 exact zn xT8 0 (.agg (xZ a)) [] (zr xAa) [.slice none 0 0] (zr a) (by rw[yZ];rfl) rfl (by rw[yZ,yZ]))
theorem xDo (ρ:Operand→Value)(d:Option Tmp)(x0:Operand)(ty:TypeId)(pos:String)(af:Array Edge)(gd:Option (Nat × Bool))(w:World) :
  Sem.run Tryz.prog (execOp ρ ⟨d,.build 100 #[(0,x0)],ty,pos,af,gd⟩) w=uo Tryz.prog 100 w #[(0,ρ x0)]:=by kernel_rfl
def xT7 (i:Nat):Option (Nat × Nat):=#[(0,32)][i]?
theorem yB5 (parts:List (Nat × Value)):Tryz.prog.built 109 parts=Instr.fill xT7 (xB uG).toArray parts:=by kernel_rfl
theorem yA4 (w:World)(id:Id32):uo Tryz.prog 109 w #[(0,.agg (xB id).toArray)]=.ok (.value (.agg (xB id).toArray)) w:=uD (by
 show Tryz.prog.built 109 [(0,.agg (xB id).toArray)]=_
 rw[yB5]
 have h:=zn xT7 0 (.agg (xB id).toArray) [] (xB uG) [] (xB id) (rest:=[]) (by rw[xF];rfl) rfl (by rw[xF,xF])
 simp only[List.nil_append,List.append_nil] at h
 exact h)
theorem xFi (ρ:Operand→Value)(d:Option Tmp)(x0:Operand)(ty:TypeId)(pos:String)(af:Array Edge)(gd:Option (Nat × Bool))(w:World) :
  Sem.run Tryz.prog (execOp ρ ⟨d,.build 109 #[(0,x0)],ty,pos,af,gd⟩) w=uo Tryz.prog 109 w #[(0,ρ x0)]:=by kernel_rfl
section
def xYm (B0 ob gb:Nat)(A:Art)(g:ByteArray)(n:Int)(W:World):Prop:=∃ pb pc,B0≤pb∧kb W ob A (.slice (some ⟨pb,0,none⟩) 1 pc)∧1≤pc∧W.cell? ⟨pb,0,none⟩=some (.string g)∧W.cell? ⟨pb,1,none⟩=some (.int .i64 n)∧W.cell? ⟨gb,0,none⟩=some (.string g)
theorem xX0 {gs:List MG}(hn:(gs.map fun G=>G.name).Nodup)(hs:∀ G∈gs,G.ms≠[])(hl:lfOf gs=fun _=>[]):gs=[]:=by
 cases gs with
 | nil=>rfl
 | cons G l =>
  have h1:=congrFun hl G.name
  unfold lfOf xD at h1
  rw[kO hn (List.mem_cons_self)] at h1
  exact absurd (List.map_eq_nil_iff.1 h1) (hs G (List.mem_cons_self))
def xF4 (c:PC)(A:Art)(g:ByteArray)(hi:Nat):PC:={ c with hes:=xAk A.id (.agg (xr ⟨A.id,A.arr,A.date,0,false⟩)) c.hes,ses:=xAk A.id (.agg (yi ⟨A.text,A.arr,c.next⟩)) c.ses,bytes:=c.bytes+A.text.size,next:=c.next+1,tc:=some (g,hi+1,true),lf:=xAn g ⟨(hi:Int)+1,A.id,A.name,A.date,A.subj,[],A.text.size⟩ }
attribute [local go_sem ↓] xV xO qR qr j4 vi kY vl qD qE yp yh yq xI7 jE
attribute [local go_sem] zx zA xEi xE5 xHm xGl xDd xCv zG zF xZo zt zw yD yC xj xh xe xd xA xz xo xl xt xC xx
theorem xOm {b c1 c2 c3:Nat}{w:World}{x:Prt}(h:qj b c1 c2 c3 w x)(nb:Nat)(hn:w.heap[nb]?=some (.cells (xW x) 82 (0,0)))(hnbf:∀ k,k∈x.h.foot∨k∈x.s.foot∨k∈x.t.foot∨k∈foot x.ib x.M x.gs→k<nb)(hG:Gl w)(hbG:Tryz.prog.globals.size≤b)
  (ob gb gc B0:Nat) (hob:ob<b) (hB0:B0≤ob) (hgB:gb<B0) (id:Id32) (tx nm sj g:ByteArray) (date arr:Int) (A:Art) (hA:A=⟨id,tx,nm,date,arr,.slice (some ⟨gb,0,none⟩) 1 gc,sj,.slice none 0 0,false⟩) (ho:kb w ob A (.slice none 0 0)) (hgc:w.cell? ⟨gb,0,none⟩=some (.string g)) (hgc1:1≤gc) (hi:Nat)
  (hid:id≠uG) (hne:zV g=0) (hgz:g.size≤maxLen) (hpe:pErr ⟨(hi:Int)+1,id,nm,date,sj,[],tx.size⟩=0) (hnz:nm.size≤maxLen) (hsz:sj.size≤maxLen) (ht1:1≤tx.size) (ht2:tx.size≤65536) (ha1:0≤arr) (ha2:arr≤105190559) (hd1:0≤date) (hd2:date≤105190559)
  (hhes:zZ id x.pc.hes=none) (hhl:x.pc.hes.length≤1000) (hses:zZ id x.pc.ses=none) (hby:x.pc.bytes+tx.size≤x.pc.budget) (hbl:x.pc.budget≤1073741824) (hnx:x.pc.next≤1000) (htc:x.pc.tc=some (g,hi,false)) (hhi:hi≤1000000) (hlf:x.pc.lf=fun _=>[]) :
  Calls Tryz.prog 340 #[.pointer (some ⟨ob,0,none⟩),.pointer (some ⟨nb,0,none⟩)] w (xIv B0 b nb (xF4 x.pc A g hi) (xYm B0 ob gb A g ((hi:Int)+1)) w):=by
 have hF:A.id=id∧A.text=tx∧A.name=nm∧A.date=date∧A.arr=arr∧A.groups=.slice (some ⟨gb,0,none⟩) 1 gc∧A.subj=sj∧A.refs=.slice none 0 0∧A.perm=false:=by rw[hA];exact⟨rfl,rfl,rfl,rfl,rfl,rfl,rfl,rfl,rfl⟩
 have hob':∀ k,k∈x.h.foot∨k∈x.s.foot∨k∈x.t.foot∨k∈foot x.ib x.M x.gs→b≤k:=fun k hk=>by
  have h1:=h.at
  rcases hk with hk | hk | hk | hk
  ·have:=h1.h.pB;have:=h1.h.MB;simp[Hst.foot] at hk;omega
  ·have:=h1.s.pB;have:=h1.s.MB;simp[Spo.foot] at hk;omega
  ·exact(h1.t.foot_lt k hk).1
  ·exact(h1.o.foot_lt k hk).1
 have hgs:x.gs=[]:=xX0 h.o.names (fun G hG=>(h.o.grps G hG).some') hlf
 have hnl:=(i_ hn).1
 have hol:=(i_ ho).1
 obtain⟨gg,hg,hgn,hgh,hgp⟩:∃ gg,x.t.g=some gg∧gg.name=g∧gg.high=hi∧gg.pres=none:=by
  have h1:x.t.c=some (g,hi,false):=htc
  unfold Tbl.c at h1
  cases hg:x.t.g with
  | none=>rw[hg] at h1;cases h1
  | some gg =>
   rw[hg] at h1
   simp only[Option.map_some,Option.some.injEq,Prod.mk.injEq] at h1
   exact⟨gg,rfl,h1.1,h1.2.1,by simpa using h1.2.2⟩
 obtain⟨a0,ha0⟩:∃ a0,a0=w.heap.size:=⟨_,rfl⟩
 obtain⟨w1,hw1⟩:∃ w1,w1=w.alloc (.cells (xZ A) 43):=⟨_,rfl⟩
 have hb1:Below w.heap.size w w1:=by rw[hw1];exact b_ _ _
 have hn1:w1.heap[a0]?=some (.cells (xZ A) 43 (0,0)):=by rw[hw1,ha0];exact heap_alloc_new w _
 obtain⟨e0,he0⟩:∃ e0,e0=w1.heap.size:=⟨_,rfl⟩
 obtain⟨w2,hw2⟩:∃ w2,w2=w1.alloc (.cells (xr ⟨id,arr,date,0,false⟩) 68):=⟨_,rfl⟩
 have hb12:Below w1.heap.size w1 w2:=by rw[hw2];exact b_ _ _
 have hn2:w2.heap[e0]?=some (.cells (xr ⟨id,arr,date,0,false⟩) 68 (0,0)):=by rw[hw2,he0];exact heap_alloc_new w1 _
 have hb2:=hb1.trans (hb12.mono hb1.size)
 have ha2':w2.heap[a0]?=some (.cells (xZ A) 43 (0,0)):=(hb12.block _ (i_ hn1).1).trans hn1
 obtain⟨o0,r0⟩:=xYe ho
 obtain⟨oi,ri⟩:=xIp (l:=[]) (w:=w1) (b:=a0) (a:=A) (by rw[List.append_nil];exact hn1)
 rw[hF.1] at ri
 have k34:=(cell_of_row w1 a0 34 _ _ _ hn1).trans (ar34 A)
 have k35:=(cell_of_row w1 a0 35 _ _ _ hn1).trans (ar35 A)
 have k39:=(cell_of_row w1 a0 39 _ _ _ hn1).trans (ar39 A)
 rw[hF.2.2.2.1] at k34
 rw[hF.2.2.2.2.1] at k35
 rw[hF.2.2.2.2.2.2.2.2] at k39
 have hft:xy 40 (xZ A)=true:=xG6 (by rw[hF.2.2.2.2.2.1];rfl) (by rw[hF.2.2.2.2.2.2.2.1];rfl)
 have hz40:((xZ xAa).size == 40)=true:=by rw[zL];rfl
 have hfh:=xBk ⟨id,arr,date,0,false⟩
 have hzh:((xr zW).size == 36)=true:=by rw[xL];rfl
 have hrh:=xI (n:=36) hn2 (xL _)
 have HX:=h_ (h.below hb2)
 have HS0:=h_ h
 have HF:=h_ hF
 have HAE:=h_ hA
 have HNB:=h_ hnbf
 have HOB:=h_ hob'
 have HN2:=h_ ((hb2.block nb hnl).trans hn)
 have HO2:Hid (kb w2 ob A (.slice none 0 0)):=h_ ((hb2.block ob hol).trans ho)
 have HA2:=h_ ha2'
 have HB2:=h_ hb2
 have HG:=h_ hG
 have HBG:=h_ hbG
 have HGC:=h_ (And.intro hgc (And.intro hgB (And.intro hB0 (And.intro hob hgc1))))
 have HLN:=h_ (And.intro hid (And.intro hne (And.intro hgz (And.intro hpe (And.intro hnz (And.intro hsz (And.intro ht1 ht2)))))))
 have HNM:=h_ (And.intro ha1 (And.intro ha2 (And.intro hd1 hd2)))
 have HPC:=h_ (And.intro hhes (And.intro hhl (And.intro hses (And.intro hby (And.intro hbl (And.intro hnx (And.intro htc (And.intro hhi hlf))))))))
 have HT:=h_ (And.intro hg (And.intro hgn (And.intro hgh hgp)))
 have HGS:=h_ hgs
 have HNL:Hid (nb<w.heap.size∧ob<w.heap.size):=h_ ⟨hnl,hol⟩
 have HA0:=h_ ha0
 have HE0:=h_ he0
 have HAL:Hid (a0<w2.heap.size∧w.heap.size≤a0):=h_ ⟨(i_ ha2').1,by omega⟩
 have hbd2:Below w2.heap.size w2 w2.drew:=(Below.refl _ _).drew
 have HAD:=h_ (xXl ((h.below hb2).h.below hbd2) ⟨id,arr,date,0,false⟩ ⟨ha1,ha2,hd1,hd2,.inl rfl⟩ (by rw[xDi];exact hhes) (by have:x.pc.hes.length=x.h.es.length:=List.length_map _;omega))
 have zh1:∀ z:xf w2,xq z.1 ⟨e0,0,none⟩ 36=true:=fun z=>xf.ok hrh.1 z
 have zh2:∀ z:xf w2,xp z.1 ⟨e0,0,none⟩ 36=xr ⟨id,arr,date,0,false⟩:=fun z=>(xf.rd hrh.1 z).trans hrh.2
 have hc:=cell_of_row w2 nb 0 _ _ _ HN2.out
 simp only[xW,v_] at hc
 have z0:∀ z:xf w2,z.1.cell? ⟨nb,0,none⟩=some (.pointer (some ⟨x.h.p,0,none⟩)):=fun z=>z.cell hc
 clear hc
 clear h hn hnbf hG hbG hob hB0 hgB hA ho hgc hgc1 hid hne hgz hpe hnz hsz ht1 ht2 ha1 ha2 hd1 hd2 hhes hhl hses hby hbl hnx htc hhi hlf hF hob' hgs hnl hol hg hgn hgh hgp hb1 hn1 hb12 hn2 hb2 ha2' hrh hbd2
 go_enter Tryz.func340,Tryz.ntmps340
 go_upto_region 2 with fail
 refine xu hw1 ?_
 rw[←ha0]
 clear hw1 o0 r0 ha0
 go_upto_region 3 with fail
 refine xu hw2 ?_
 rw[←he0]
 clear hw2 oi ri k34 k35 k39 he0
 refine xw [0,1,2,3,4] [5,6] (fun w'=>∃ z:xf w2,w'=z.1) (by kernel_rfl) (by kernel_rfl) (by kernel_rfl) ⟨⟨w2.drew,(Below.refl _ _).drew⟩,rfl⟩ ?_
 simp only[o_]
 repeat (go_big_quiet_step (fail))
 refine wpQuiet_nil ?_
 clear z0 zh1 zh2
 refine xG [5,6] _ _ (by kernel_rfl) ?_
 simp only[o_]
 go_wp2_with fail
 refine HAD.out.mono ?_
 rintro e' w3 ⟨rfl,hk3,hh3⟩
 have hk23:Kept [x.h.M] w2 w3:=(Kept.of_below (F:=[x.h.M]) (Below.refl _ _).drew).trans hk3 (fun q hq=>.inl hq)
 have hhM:x.h.M∈x.h.foot:=by simp[Hst.foot]
 have hhl:=HX.out.hl _ hhM
 have hhb:=HX.out.h.MB
 have e1:=HX.out.b1
 have e2:=HX.out.b2
 have e3:=HX.out.b3
 have hnbM:=HNB.out _ (.inl hhM)
 have hbw:b≤w2.heap.size:=Nat.le_trans HS0.out.lt HB2.out.size
 have hMl:x.h.M<w.heap.size:=by have:=HNL.out.1;omega
 have HS3:=h_ (HX.out.s.keptB hk23 (fun k hk=>by rw[List.mem_singleton.1 hk];exact hhl))
 have HT3:=h_ (HX.out.t.keptB hk23 (fun k hk=>by rw[List.mem_singleton.1 hk];omega))
 have HI3:=h_ (HX.out.o.kept hk23 (fun k hk=>by rw[List.mem_singleton.1 hk];omega))
 have HH3:=h_ hh3
 have HN3:=h_ ((hk23.block nb (i_ HN2.out).1 (fun hf=>by rw[←List.mem_singleton.1 hf] at hnbM;omega)).trans HN2.out)
 have HO3:Hid (kb w3 ob A (.slice none 0 0)):=h_ ((hk23.block ob (i_ HO2.out).1 (fun hf=>by have:=HOB.out _ (.inl hhM);rw[←List.mem_singleton.1 hf] at this;have:=HGC.out.2.2.2.1;omega)).trans HO2.out)
 have ha3:=(hk23.block a0 HAL.out.1 (fun hf=>by have:=List.mem_singleton.1 hf;have:=HAL.out.2;omega)).trans HA2.out
 have HA3:=h_ ha3
 have hB3:Below b w w3:=(HB2.out.mono HS0.out.lt).trans (hk23.below hbw (fun k hk=>by rw[List.mem_singleton.1 hk];exact hhb))
 have HB3:=h_ hB3
 have HZ3:Hid (w2.heap.size≤w3.heap.size):=h_ hk23.size
 have hbd3:Below w3.heap.size w3 w3.drew:=(Below.refl _ _).drew
 have HSP:=h_ (xW3 (HS3.out.below hbd3) id tx arr HLN.out.1 HLN.out.2.2.2.2.2.2.1 HLN.out.2.2.2.2.2.2.2 HNM.out.1 HNM.out.2.1 (by rw[xDi];exact HPC.out.2.2.1) HPC.out.2.2.2.1 HPC.out.2.2.2.2.1 HPC.out.2.2.2.2.2.1)
 have hid3:=xIp (l:=[]) (w:=w3) (b:=a0) (a:=A) (by rw[List.append_nil];exact ha3)
 rw[HF.out.1] at hid3
 have k32:=(cell_of_row w3 a0 32 _ _ _ ha3).trans (ar32 A)
 have k35:=(cell_of_row w3 a0 35 _ _ _ ha3).trans (ar35 A)
 rw[HF.out.2.1] at k32
 rw[HF.out.2.2.2.2.1] at k35
 have z1:∀ z:xf w3,xq z.1 ⟨a0,0,none⟩ 32=true:=fun z=>xf.ok hid3.1 z
 have z2:∀ z:xf w3,xp z.1 ⟨a0,0,none⟩ 32=(xB id).toArray:=fun z=>(xf.rd hid3.1 z).trans hid3.2
 have z3:∀ z:xf w3,z.1.cell? ⟨a0,32,none⟩=some (.string tx):=fun z=>z.cell k32
 have z4:∀ z:xf w3,z.1.cell? ⟨a0,35,none⟩=some (.int .i64 arr):=fun z=>z.cell k35
 have hc:=cell_of_row w3 nb 1 _ _ _ HN3.out
 simp only[xW,v_] at hc
 have z0:∀ z:xf w3,z.1.cell? ⟨nb,1,none⟩=some (.pointer (some ⟨x.s.p,0,none⟩)):=fun z=>z.cell hc
 clear hc
 clear hk3 hh3 hk23 hhM hhl hhb e1 e2 e3 hnbM hbw hMl ha3 hB3 hbd3 hid3 k32 k35 HAD
 go_wp2
 refine NoPanic.normal ?_
 go_upto_region 6 with fail
 refine xw [0,1,2,3,4,5,6,7,8,9] [10,11] (fun w'=>∃ z:xf w3,w'=z.1) (by kernel_rfl) (by kernel_rfl) (by kernel_rfl) ⟨⟨w3.drew,(Below.refl _ _).drew⟩,rfl⟩ ?_
 simp only[o_]
 repeat (go_big_quiet_step (fail))
 refine wpQuiet_nil ?_
 clear z0 z1 z2 z3 z4
 refine xG [10,11] _ _ (by kernel_rfl) ?_
 simp only[o_]
 go_wp2_with fail
 refine HSP.out.mono ?_
 rintro e' w4 ⟨rfl,hk4,hs4⟩
 have hk34:Kept [x.s.M,x.s.p] w3 w4:=(Kept.of_below (F:=[x.s.M,x.s.p]) (Below.refl _ _).drew).trans hk4 (fun q hq=>.inl hq)
 have hF4:∀ k∈[x.s.M,x.s.p],c1≤k∧k<c2∧k<nb∧b≤k:=fun k hk=>by
  simp at hk
  have hm:k∈x.s.foot:=by simp[Spo.foot];rcases hk with h | h <;> simp[h]
  have h1:=HX.out.s.MB
  have h2:=HX.out.s.pB
  exact⟨by rcases hk with h | h <;> omega,HX.out.sl k hm,HNB.out k (.inr (.inl hm)),HOB.out k (.inr (.inl hm))⟩
 have e1:=HX.out.b1
 have e2:=HX.out.b2
 have e3:=HX.out.b3
 have hnl:=HNL.out
 have hb34:b≤w3.heap.size:=Nat.le_trans HS0.out.lt HB3.out.size
 have HH4:=h_ (HH3.out.kept hk34 (fun k hk hf=>by have h1:=HX.out.hl k hk;have:=(hF4 k hf).1;omega))
 have HT4:=h_ (HT3.out.keptB hk34 (fun k hk=>(hF4 k hk).2.1))
 have HI4:=h_ (HI3.out.kept hk34 (fun k hk=>by have:=(hF4 k hk).2.1;omega))
 have HS4:=h_ hs4
 have HN4:=h_ ((hk34.block nb (i_ HN3.out).1 (fun hf=>by have:=(hF4 nb hf).2.2.1;omega)).trans HN3.out)
 have HO4:Hid (kb w4 ob A (.slice none 0 0)):=h_ ((hk34.block ob (i_ HO3.out).1 (fun hf=>by have:=(hF4 ob hf).2.2.2;have:=HGC.out.2.2.2.1;omega)).trans HO3.out)
 have ha4:=(hk34.block a0 (by have:=HAL.out.1;have:=HZ3.out;omega) (fun hf=>by have:=(hF4 a0 hf).2.2.1;have:=HAL.out.2;omega)).trans HA3.out
 have HA4:=h_ ha4
 have hB4:Below b w w4:=HB3.out.trans (hk34.below hb34 (fun k hk=>(hF4 k hk).2.2.2))
 have HB4:=h_ hB4
 have HZ4:Hid (w3.heap.size≤w4.heap.size):=h_ hk34.size
 have hg4:w4.cell? ⟨gb,0,none⟩=some (.string g):=(hB4.cell (p:=⟨gb,0,none⟩) (show gb<b by have:=HGC.out.2.1;have:=HGC.out.2.2.1;have:=HGC.out.2.2.2.1;omega)).trans HGC.out.1
 have HG4:=h_ hg4
 have HAS:Hid (∀ z:xf w4,Calls Tryz.prog 343 #[.pointer (some ⟨x.t.p,0,none⟩),.slice (some ⟨gb,0,none⟩) 1 gc] z.1 fun e w' =>
   ∃ pb pc,e=.returned (.tuple #[.slice (some ⟨pb,0,none⟩) 1 pc,.int .i64 0])∧z.1.heap.size≤pb∧pb<w'.heap.size∧1≤pc∧pc≤maxLen∧w'.cell? ⟨pb,0,none⟩=some (.string g)∧w'.cell? ⟨pb,1,none⟩=some (.int .i64 (hi+1:Nat)) ∧
   Kept [x.t.M] z.1 w'∧∃ g' mc y,g'.name=g∧g'.high=hi+1∧g'.pres=some y∧z.1.heap.size≤y.1∧y.1≠pb∧yR c2 w' ⟨x.t.p,x.t.M,mc,some g'⟩):=h_ (fun z=>by
  obtain⟨z,hbz⟩:=z
  have:=xQm (HT4.out.below hbz) gg HT.out.1 HT.out.2.2.2 (by rw[HT.out.2.2.1];exact HPC.out.2.2.2.2.2.2.2.1) ⟨gb,0,none⟩ gc ((hbz.cell (p:=⟨gb,0,none⟩) (block_lt_of_cell hg4)).trans (by rw[HT.out.2.1];exact hg4)) HGC.out.2.2.2.2
  rw[HT.out.2.1,HT.out.2.2.1] at this
  exact this)
 have k36:=(cell_of_row w4 a0 36 _ _ _ ha4).trans (ar36 A)
 rw[HF.out.2.2.2.2.2.1] at k36
 have z3:∀ z:xf w4,z.1.cell? ⟨a0,36,none⟩=some (.slice (some ⟨gb,0,none⟩) 1 gc):=fun z=>z.cell k36
 have hc:=cell_of_row w4 nb 2 _ _ _ HN4.out
 simp only[xW,v_] at hc
 have z0:∀ z:xf w4,z.1.cell? ⟨nb,2,none⟩=some (.pointer (some ⟨x.t.p,0,none⟩)):=fun z=>z.cell hc
 clear hc
 clear hk4 hs4 hk34 hF4 e1 e2 e3 hnl hb34 ha4 hB4 hg4 HSP
 go_wp2
 refine NoPanic.normal ?_
 go_upto_region 11 with fail
 clear k36
 refine uv (by kernel_rfl) ?_
 refine km [0,1,2,3,4,5] [6,7] 4 (fun w'=>∃ z:xf w4,w'=z.1) (by kernel_rfl) (by kernel_rfl) rfl rfl ⟨⟨_,(Below.refl _ _).drew⟩,rfl⟩ ?_
 simp only[o_]
 repeat (go_big_quiet_step (fail))
 refine wpQuiet_nil ?_
 rintro _ ⟨z,rfl⟩
 clear z0 z3
 refine qz [6,7] _ _ (by kernel_rfl) ?_
 simp only[o_]
 go_wp2_with fail
 refine(HAS.out z).mono ?_
 rintro e' w5 ⟨pb,pc,rfl,hpB,hpl,hpc,_,hp0,hp1,hk5,g5,mc5,y5,hg51,hg52,hg53,hy1,_,ht5⟩
 obtain⟨z,hbz⟩:=z
 have hk45:Kept [x.t.M] w4 w5:=(Kept.of_below (F:=[x.t.M]) hbz).trans hk5 (fun q hq=>.inl hq)
 have htM:x.t.M∈x.t.foot:=by simp[Tbl.foot]
 have htl:=HX.out.tl _ htM
 have htB:=HX.out.t.MB
 have e1:=HX.out.b1
 have e2:=HX.out.b2
 have e3:=HX.out.b3
 have hnl:=HNL.out
 have hnbM:=HNB.out _ (.inr (.inr (.inl htM)))
 have hbM:=HOB.out _ (.inr (.inr (.inl htM)))
 have hobb:=HGC.out.2.2.2.1
 have HH5:=h_ (HH4.out.kept hk45 (fun k hk hf=>by have h1:=HX.out.hl k hk;rw[List.mem_singleton.1 hf] at h1;omega))
 have HS5:=h_ (HS4.out.kept hk45 (fun k hk hf=>by
  have h1:k∈x.s.foot:=hk
  have:=HX.out.sl k h1;rw[List.mem_singleton.1 hf] at this;omega))
 have HI5:=h_ (HI4.out.kept hk45 (fun k hk=>by rw[List.mem_singleton.1 hk];exact htl))
 have HT5:=h_ ht5
 have HN5:=h_ ((hk45.block nb (i_ HN4.out).1 (fun hf=>by rw[←List.mem_singleton.1 hf] at hnbM;omega)).trans HN4.out)
 have HO5:Hid (kb w5 ob A (.slice none 0 0)):=h_ ((hk45.block ob (i_ HO4.out).1 (fun hf=>by rw[←List.mem_singleton.1 hf] at hbM;omega)).trans HO4.out)
 have ha5:=(hk45.block a0 (i_ HA4.out).1 (fun hf=>by have:=List.mem_singleton.1 hf;have:=HAL.out.2;omega)).trans HA4.out
 have hB5:Below b w w5:=HB4.out.trans (hk45.below (Nat.le_trans HS0.out.lt HB4.out.size) (fun k hk=>by rw[List.mem_singleton.1 hk];exact hbM))
 have HB5:=h_ hB5
 have HZ5:Hid (w4.heap.size≤w5.heap.size):=h_ hk45.size
 have HG5:=h_ (And.intro hg51 (And.intro hg52 (And.intro hg53 (show w4.heap.size≤y5.1 from Nat.le_trans hbz.size hy1))))
 have HPB:Hid (w4.heap.size≤pb∧pb<w5.heap.size):=h_ ⟨Nat.le_trans hbz.size hpB,hpl⟩
 obtain⟨n,hnn⟩:∃ n:Int,n=(hi:Int)+1:=⟨_,rfl⟩
 rw[show ((hi+1:Nat):Int)=n by rw[hnn];omega] at hp1
 rw[←hnn]
 have HNN:=h_ hnn
 have rpl:=y7 (w:=w5) (a:=⟨pb,0,none⟩) (cs:=[.string g,.int .i64 n]) (fun j u hj=>by
  rw[Addr.add_lit,Nat.zero_add]
  match j,hj with
  | 0,hj=>rw[hp0];exact hj
  | 1,hj=>rw[hp1];exact hj)
 obtain⟨op,rp⟩:=rpl
 simp only[List.length_cons,List.length_nil] at op rp
 have HPP:=h_ (And.intro hp0 hp1)
 have hfp:xy 2 #[Value.string g,.int .i64 n]=true:=by simp[xy,Value.oneCell']
 have hzp:(#[Value.string ⟨#[]⟩,Value.int .i64 0].size == 2)=true:=rfl
 have hpcz:(1:Int)≤pc:=by omega
 obtain⟨p0,hp0d⟩:∃ p0,p0=w5.heap.size:=⟨_,rfl⟩
 obtain⟨w6,hw6⟩:∃ w6,w6=w5.alloc (.cells #[.string g,.int .i64 n] 53):=⟨_,rfl⟩
 have hb56:Below w5.heap.size w5 w6:=by rw[hw6];exact b_ _ _
 have hn6:w6.heap[p0]?=some (.cells #[.string g,.int .i64 n] 53 (0,0)):=by rw[hw6,hp0d];exact heap_alloc_new w5 _
 have ha6:=(hb56.block _ (i_ ha5).1).trans ha5
 have q1:=cell_of_row w6 p0 1 _ _ _ hn6
 simp only[v_] at q1
 obtain⟨oi,ri⟩:=xIp (l:=[]) (w:=w6) (b:=a0) (a:=A) (by rw[List.append_nil];exact ha6)
 rw[HF.out.1] at ri
 have k32:=(cell_of_row w6 a0 32 _ _ _ ha6).trans (ar32 A)
 have k33:=(cell_of_row w6 a0 33 _ _ _ ha6).trans (ar33 A)
 have k34:=(cell_of_row w6 a0 34 _ _ _ ha6).trans (ar34 A)
 have k37:=(cell_of_row w6 a0 37 _ _ _ ha6).trans (ar37 A)
 have k38:=(cell_of_row w6 a0 38 _ _ _ ha6).trans (ar38 A)
 rw[HF.out.2.1] at k32
 rw[HF.out.2.2.1] at k33
 rw[HF.out.2.2.2.1] at k34
 rw[HF.out.2.2.2.2.2.2.1] at k37
 rw[HF.out.2.2.2.2.2.2.2.1] at k38
 obtain⟨P,hP⟩:∃ P:vz,P=⟨n,id,nm,date,sj,[],tx.size⟩:=⟨_,rfl⟩
 obtain⟨G,hG⟩:∃ G:yd,G=ML.g ⟨P,.slice none 0 0⟩:=⟨_,rfl⟩
 have hbl:∀ w,uo Tryz.prog 49 w #[(0,.int .i64 n),(1,.agg (xB id).toArray),(2,.string nm),(3,.int .i64 date),(4,.string sj),(5,.slice none 0 0),(6,.int .i64 tx.size)]=.ok (.value (.agg (x9 G))) w:=fun w=>by
  rw[hG,hP];exact xYd w (ML.g ⟨⟨n,id,nm,date,sj,[],tx.size⟩,.slice none 0 0⟩) rfl
 have hfl:xy 38 (x9 G)=true:=ub (by rw[hG];rfl)
 have hzl:((x9 xH).size == 38)=true:=by rw[xN];rfl
 obtain⟨l0,hl0⟩:∃ l0,l0=w6.heap.size:=⟨_,rfl⟩
 obtain⟨w7,hw7⟩:∃ w7,w7=w6.alloc (.cells (x9 G) 49):=⟨_,rfl⟩
 have hb67:Below w6.heap.size w6 w7:=by rw[hw7];exact b_ _ _
 have hn7:w7.heap[l0]?=some (.cells (x9 G) 49 (0,0)):=by rw[hw7,hl0];exact heap_alloc_new w6 _
 have hb57:Below w5.heap.size w5 w7:=hb56.trans (hb67.mono hb56.size)
 have hn67:=(hb67.block _ (i_ hn6).1).trans hn6
 have HB57:=h_ hb57
 have HN7:=h_ ((hb57.block _ (i_ HN5.out).1).trans HN5.out)
 have hbd7:Below w7.heap.size w7 w7.drew:=(Below.refl _ _).drew
 have hB7:Below b w w7:=hB5.trans (hb57.mono (Nat.le_trans HS0.out.lt hB5.size))
 have hgl7:Gl w7.drew:=(HG.out.below hB7 HBG.out).later hbd7
 have hpe:pErr P=0:=by rw[hP,HNN.out];exact HLN.out.2.2.2.1
 have hids:P.ids=[]:=by rw[hP]
 have HADD:=h_ (xZr c3 x.ib x.M x.mc x.gs g P (.slice none 0 0) w7.drew hgl7 ((HI5.out.below hb57).below hbd7) HLN.out.2.2.1 ⟨by rw[hids];exact(show zd 0 w7.drew (.slice none 0 0) [] from World.ownsRow_nil _ _ _ _).at,by rw[hids];simp,by show P.name.size≤_;rw[hP];exact HLN.out.2.2.2.2.1,by show P.subject.size≤_;rw[hP];exact HLN.out.2.2.2.2.2.1⟩ (by rw[hids];exact World.ownsRow_nil _ _ _ _) (by rw[HGS.out];simp[xS]))
 rw[←hG] at HADD
 have HAE0:Hid (vI (xD x.gs g) g P=0):=h_ (by
  rw[HGS.out]
  unfold vI
  rw[if_neg (by simp[HLN.out.2.1]),if_neg (by simp[hpe])]
  rfl)
 have HPD:=h_ hP
 have hpz0:=cell_of_row w7 p0 0 _ _ _ hn67
 simp only[v_] at hpz0
 have hrl:=xI (n:=38) hn7 (xN G)
 have z1:∀ z:xf w7,z.1.cell? ⟨p0,0,none⟩=some (.string g):=fun z=>z.cell hpz0
 have z2:∀ z:xf w7,xq z.1 ⟨l0,0,none⟩ 38=true:=fun z=>xf.ok hrl.1 z
 have z3:∀ z:xf w7,xp z.1 ⟨l0,0,none⟩ 38=x9 G:=fun z=>(xf.rd hrl.1 z).trans hrl.2
 have hc:=cell_of_row w7 nb 3 _ _ _ HN7.out
 simp only[xW,v_] at hc
 have z0:∀ z:xf w7,z.1.cell? ⟨nb,3,none⟩=some (.pointer (some ⟨x.ib,0,none⟩)):=fun z=>z.cell hc
 clear hc
 have HB7:=h_ hB7
 clear hk5 hk45 htM htl htB e1 e2 e3 hnl hnbM hbM hobb ht5 ha5 hB5 hg51 hg52 hg53 hy1 hpB hpl hbz hp0 hp1 hnn hb56 hn6 ha6 hG hb67 hn7 hb57 hn67 hbd7 hB7 hgl7 hpe hids hpz0 hrl hP HAS
 go_wp2
 refine NoPanic.normal ?_
 rw[qx]
 refine xCr [8,9] [10,11] 0 (fun w'=>w'=w5) (by kernel_rfl) (by kernel_rfl) (by kernel_rfl) rfl rfl rfl ?_
 simp only[o_]
 repeat (go_big_quiet_step (fail))
 refine wpQuiet_nil ?_
 refine xCs true rfl (by kernel_rfl) ?_
 go_wp2
 refine⟨fun _=>rfl,qz [11] _ _ (by kernel_rfl) ?_⟩
 simp only[o_]
 go_wp2
 refine NoPanic.normal ?_
 rw[qx]
 refine xAc (by kernel_rfl) ?_
 go_wp2
 refine yT ?_
 go_upto_region 17 with fail
 refine xu hw6 ?_
 rw[←hp0d]
 clear hw6 op rp hp0d
 go_upto_region 18 with fail
 refine xu hw7 ?_
 rw[←hl0]
 clear hw7 q1 oi ri k32 k33 k34 k37 k38 hbl hl0
 refine xw [0,1,2,3,4,5,6] [7,8] (fun w'=>∃ z:xf w7,w'=z.1) (by kernel_rfl) (by kernel_rfl) (by kernel_rfl) ⟨⟨w7.drew,(Below.refl _ _).drew⟩,rfl⟩ ?_
 simp only[o_]
 repeat (go_big_quiet_step (fail))
 refine wpQuiet_nil ?_
 clear z0 z1 z2 z3
 refine xG [7,8] _ _ (by kernel_rfl) ?_
 simp only[o_]
 go_wp2_with fail
 refine HADD.out.mono ?_
 rintro e' w8 ⟨he8,hcase⟩
 rw[HAE0.out] at he8 hcase
 subst he8
 obtain⟨gs8,mc8,had⟩:∃ gs' mc',xLc c3 x.ib x.M x.gs g P w7.drew w8 gs' mc':=by
  rcases hcase with⟨h,_⟩ | ⟨_,h⟩
  ·exact absurd rfl h
  ·exact h
 have hk78:Kept (foot x.ib x.M x.gs) w7 w8:=(Kept.of_below (F:=foot x.ib x.M x.gs) (Below.refl _ _).drew).trans had.kept (fun q hq=>.inl hq)
 have hk58:Kept (foot x.ib x.M x.gs) w5 w8:=(Kept.of_below (F:=foot x.ib x.M x.gs) HB57.out).trans hk78 (fun q hq=>.inl hq)
 have hfB:∀ k∈foot x.ib x.M x.gs,c3≤k∧k<nb∧b≤k:=fun k hk=>⟨(HX.out.o.foot_lt k hk).1,HNB.out k (.inr (.inr (.inr hk))),HOB.out k (.inr (.inr (.inr hk)))⟩
 have e1:=HX.out.b1
 have e2:=HX.out.b2
 have e3:=HX.out.b3
 have hnl:=HNL.out
 have hobb:=HGC.out.2.2.2.1
 have hB8:Below b w w8:=HB7.out.trans (hk78.below (Nat.le_trans HS0.out.lt HB7.out.size) (fun k hk=>(hfB k hk).2.2))
 have hh8:=HH5.out.kept hk58 (fun k hk hf=>by
  have hk1:k∈x.h.foot:=hk
  have:=HX.out.hl k hk1;have:=(hfB k hf).1;omega)
 have hs8:=HS5.out.kept hk58 (fun k hk hf=>by
  have hk1:k∈x.s.foot:=hk
  have:=HX.out.sl k hk1;have:=(hfB k hf).1;omega)
 have ht8:=HT5.out.kept hk58 (fun k hk hf=>by
  have h1:=hfB k hf
  have h2:k=x.t.p∨k=x.t.M∨k=y5.1:=by simpa[Tbl.foot,HG5.out.2.2.1] using hk
  have h3:=HX.out.tl x.t.p (by simp[Tbl.foot])
  have h4:=HX.out.tl x.t.M (by simp[Tbl.foot])
  have h5:=HG5.out.2.2.2
  have h6:=HZ4.out
  have h7:=HZ3.out
  have h8:=HAL.out
  omega)
 have hn8:=(hk78.block nb (i_ HN7.out).1 (fun hf=>by have:=(hfB nb hf).2.1;omega)).trans HN7.out
 have ho8:kb w8 ob A (.slice none 0 0):=(hk58.block ob (i_ HO5.out).1 (fun hf=>by have:=(hfB ob hf).2.2;omega)).trans HO5.out
 have hlf8:lfOf gs8=xAn g P:=by
  obtain⟨v8,_,hl8⟩:=had.lines
  funext t
  unfold lfOf xAn
  rw[hl8 t,HGS.out]
  split
  ·rfl
  ·rfl
 have hpl:=HPB.out
 have hz4:=HZ4.out
 have hz3:=HZ3.out
 have hal:=HAL.out
 have hpbf:pb ∉ foot x.ib x.M x.gs:=fun hf=>by have:=(hfB pb hf).2.1;omega
 have hp08:=(hk58.block pb hpl.2 hpbf)
 have hpc0:w8.cell? ⟨pb,0,none⟩=some (.string g):=(World.cell?_of_block (a:=⟨pb,0,none⟩) hp08).trans HPP.out.1
 have hpc1:w8.cell? ⟨pb,1,none⟩=some (.int .i64 n):=(World.cell?_of_block (a:=⟨pb,1,none⟩) hp08).trans HPP.out.2
 have hgb8:w8.cell? ⟨gb,0,none⟩=some (.string g):=(hB8.cell (p:=⟨gb,0,none⟩) (show gb<b by have:=HGC.out.2.1;have:=HGC.out.2.2.1;omega)).trans HGC.out.1
 have c40:=cell_of_row w8 ob 40 _ _ _ ho8
 have f40:=frozen_of_row w8 ob 40 _ _ ho8
 have hc40:(zr A++[Value.slice none 0 0]).toArray[40]?=some (.slice none 0 0):=by
  rw[List.getElem?_toArray,List.getElem?_append_right (by rw[yZ];omega),yZ];rfl
 rw[hc40] at c40
 obtain⟨w9,hw9⟩:∃ w9,w9=w8.setCell ⟨ob,40,none⟩ (.slice (some ⟨pb,0,none⟩) 1 pc):=⟨_,rfl⟩
 have hk89:Kept [ob] w8 w9:=by rw[hw9];exact zc w8 ⟨ob,40,none⟩ _
 have ho9:kb w9 ob A (.slice (some ⟨pb,0,none⟩) 1 pc):=by
  unfold kb
  rw[hw9,ji ho8]
  congr 2
  rw[List.setIfInBounds_toArray,List.set_append_right _ _ (by rw[yZ];omega),yZ]
  rfl
 have hobF:∀ k∈[ob],k<b:=fun k hk=>by rw[List.mem_singleton.1 hk];exact hobb
 have hfin:xIv B0 b nb (xF4 x.pc A g hi) (xYm B0 ob gb A g n) w (.returned (.int .i64 0)) w9:=by
  refine⟨rfl,(hB8.mono (by have:=HGC.out.2.2.1;omega)).trans (hk89.below (by have:=HGC.out.2.2.1;have:=hB8.size;omega) (fun k hk=>by rw[List.mem_singleton.1 hk];exact HGC.out.2.2.1)),⟨⟨_,_,⟨x.t.p,x.t.M,mc5,some g5⟩,x.ib,x.M,gs8,mc8⟩,⟨hh8.keptB hk89 hobF,(hs8.keptB hk89 (fun k hk=>by have:=hobF k hk;omega)).base e1,(ht8.keptB hk89 (fun k hk=>by have:=hobF k hk;omega)).base (by omega),(had.idx.kept hk89 (fun k hk=>by have:=hobF k hk;omega)).base (by omega)⟩,?_,(hk89.block nb (i_ hn8).1 (fun hf=>by have:=(HOB.out x.h.M (.inl (by simp[Hst.foot])));have h9:=HNB.out x.h.M (.inl (by simp[Hst.foot]));rw[List.mem_singleton.1 hf] at h9;omega)).trans hn8⟩,pb,pc,by have:=HGC.out.2.2.1;have:=HS0.out.lt;omega,ho9,by omega,?_,?_,?_⟩
  ·unfold Prt.pc xF4 Tbl.c
   simp only[Option.map_some,xT4,hlf8,HG5.out.1,HG5.out.2.1,HG5.out.2.2.1,HPD.out,HNN.out,HF.out.1,HF.out.2.1,HF.out.2.2.1,HF.out.2.2.2.1,HF.out.2.2.2.2.1,HF.out.2.2.2.2.2.2.1]
   rfl
  ·exact(World.cell?_of_block (a:=⟨pb,0,none⟩) (hk89.block pb (block_lt_of_cell hpc0) (fun hf=>by have:=List.mem_singleton.1 hf;omega))).trans hpc0
  ·exact(World.cell?_of_block (a:=⟨pb,1,none⟩) (hk89.block pb (block_lt_of_cell hpc0) (fun hf=>by have:=List.mem_singleton.1 hf;omega))).trans hpc1
  ·exact(World.cell?_of_block (a:=⟨gb,0,none⟩) (hk89.block gb (block_lt_of_cell hgb8) (fun hf=>by have:=List.mem_singleton.1 hf;have:=HGC.out.2.1;have:=HGC.out.2.2.1;omega))).trans hgb8
 have HFIN:=h_ hfin
 clear hcase had hk78 hk58 hfB e1 e2 e3 hnl hobb hB8 hh8 hs8 ht8 hn8 ho8 hlf8 hpl hz4 hz3 hal hpbf hp08 hpc0 hpc1 hgb8 hc40 hk89 ho9 hobF hfin HADD
 go_wp2
 refine NoPanic.normal ?_
 go_wp2
 go_ret
 rw[←hw9]
 rw[HNN.out] at HFIN
 exact HFIN.out
end
section
attribute [local go_sem ↓] xV xO j4 vi xDo xFi
attribute [local go_sem] zx zA xHm xGl xYc yA4 zt zw yD yC xj xh xe xd xA xz xo xl xt xC xx
def xVk (D sb p n u:Nat)(c:PC)(F:List Nat)(g:ByteArray)(k:Int)(w:World)(e:Ending)(w':World):Prop:=∃ pb pc,e=.returned (.tuple #[.slice (some ⟨pb,0,none⟩) 1 pc,.int .i64 0])∧Below D w w'∧Kept F w w'∧(∃ F',StOk D w' sb p n u c F'∧pb ∉ F'∧∀ k∈F',k∈F∨w.heap.size≤k)∧w.heap.size≤pb∧pb<w'.heap.size∧1≤pc∧w'.cell? ⟨pb,0,none⟩=some (.string g)∧w'.cell? ⟨pb,1,none⟩=some (.int .i64 k)
theorem xJz {D sb p n u:Nat}{c:PC}{F:List Nat}{w:World}(h:StOk D w sb p n u c F)(hG:Gl w)(hD0:Tryz.prog.globals.size≤D)(hD:D≤w.heap.size)(id:Id32)(t nm sj g:By)(date arr gb gc hi:Nat)(A:Art)
  (hA:A=⟨id,str t,str nm,date,arr,.slice (some ⟨gb,0,none⟩) 1 gc,str sj,.slice none 0 0,false⟩) (hgc:w.cell? ⟨gb,0,none⟩=some (.string (str g))) (hgc1:1≤gc)
  (hid:id≠uG) (hne:zV (str g)=0) (hpe:pErr ⟨(hi:Int)+1,id,str nm,date,str sj,[],(str t).size⟩=0) (ht1:1≤t.length) (ht2:t.length≤10000) (hnl:nm.length≤10000) (hsl:sj.length≤10000) (hgl:g.length≤10000) (ha2:arr≤105190559) (hd2:date≤105190559)
  (hhes:zZ id c.hes=none) (hhl:c.hes.length≤1000) (hses:zZ id c.ses=none) (hby:c.bytes+t.length≤c.budget) (hbl:c.budget≤1073741824) (hnx:c.next≤1000) (htc:c.tc=some (str g,hi,false)) (hhi:hi≤1000000) (hlf:c.lf=fun _=>[])
  (hfree:u+xY (67+t.length+nm.length+sj.length+g.length)≤n / 2) :
  Calls Tryz.prog 12 #[.pointer (some ⟨sb,0,none⟩),.agg (xZ A)] w (xVk D sb p n (u+xY (67+t.length+nm.length+sj.length+g.length)) (xF4 c A (str g) hi) F (str g) ((hi:Int)+1) w):=by
 obtain⟨w1,hw1⟩:∃ w1,w1=w.alloc (.cells (xZ A) 43):=⟨_,rfl⟩
 have hb1:Below w.heap.size w w1:=by rw[hw1];exact b_ _ _
 have hn1:w1.heap[w.heap.size]?=some (.cells (xZ A) 43 (0,0)):=by rw[hw1];exact heap_alloc_new w _
 obtain⟨ob,hob⟩:∃ ob,ob=w1.heap.size:=⟨_,rfl⟩
 obtain⟨w2,hw2⟩:∃ w2,w2=w1.alloc (.cells (zr A++[Value.slice none 0 0]).toArray 100):=⟨_,rfl⟩
 have hb12:Below w1.heap.size w1 w2:=by rw[hw2];exact b_ _ _
 have ho2:kb w2 ob A (.slice none 0 0):=by unfold kb;rw[hw2,hob];exact heap_alloc_new w1 _
 have hb2:=hb1.trans (hb12.mono hb1.size)
 have hol:=(i_ ho2).1
 have how:w.heap.size≤ob:=by rw[hob];exact hb1.size
 have hgbl:gb<w.heap.size:=block_lt_of_cell hgc
 have hG2:=hG.later hb2
 have hyl:(xCf id arr date t nm sj g).length+1=67+t.length+nm.length+sj.length+g.length:=by rw[ke];omega
 obtain⟨o1,r1⟩:=xI (n:=40) hn1 (zL A)
 have HP:=h_ (xOp h hb2 hG2 hD0 hD ob (xF4 c A (str g) hi) (xCf id arr date t nm sj g) (xYm w.heap.size ob gb A (str g) ((hi:Int)+1)) (by rw[ke];omega) (by rw[ke];omega) (by rw[hyl];exact hfree)
  (fun W b c1 c2 c3 x nb hbW hle hsep hnbf hpc hnb=>by
   have hbW0:Below w.heap.size w W:=hb2.trans (hbW.mono hb2.size)
   have:=xOm hsep nb hnb hnbf (hG2.later hbW) (Nat.le_trans hG2.size hle) ob gb gc w.heap.size (Nat.lt_of_lt_of_le hol hle) how hgbl id (str t) (str nm) (str sj) (str g) date arr A hA ((hbW.block _ hol).trans ho2) ((hbW0.cell (p:=⟨gb,0,none⟩) hgbl).trans hgc) hgc1 hi hid hne (by rw[u1];unfold maxLen;omega) hpe (by rw[u1];unfold maxLen;omega) (by rw[u1];unfold maxLen;omega) (by rw[u1];omega) (by rw[u1];omega) (by omega) (by omega) (by omega) (by omega)
    (by rw[hpc];exact hhes) (by rw[hpc];exact hhl) (by rw[hpc];exact hses) (by rw[hpc,u1];exact hby) (by rw[hpc];exact hbl) (by rw[hpc];exact hnx) (by rw[hpc];exact htc) hhi (by rw[hpc];exact hlf)
   rw[hpc] at this
   exact this)
  (fun W W' hap hbW=>by
   obtain⟨pb,pc,_,hpt,_,_,_,hgW⟩:=hap
   have hpt':kb W' ob ⟨id,str t,str nm,date,arr,.slice (some ⟨gb,0,none⟩) 1 gc,str sj,.slice none 0 0,false⟩ (.slice (some ⟨pb,0,none⟩) 1 pc):=by rw[←hA];exact(hbW.block _ (i_ hpt).1).trans hpt
   exact xM5 ob id arr date t nm sj g gb gc _ (by omega) (by omega) ht2 hnl hsl hgl hpt' ((hbW.cell (p:=⟨gb,0,none⟩) (block_lt_of_cell hgW)).trans hgW) hgc1))
 rw[hyl] at HP
 have HOW:=h_ how
 have HFL:Hid (∀ k∈F,k<w.heap.size):=h_ (fun k hk=>(h.flt k hk).2)
 have HB2:=h_ (hb2.mono hD)
 clear h hG hD0 hD hA hgc hgc1 hid hne hpe ht1 ht2 hnl hsl hgl ha2 hd2 hhes hhl hses hby hbl hnx htc hhi hlf hfree hb1 hn1 hb12 ho2 hb2 hol how hgbl hG2 hyl
 go_enter Tryz.func12,Tryz.ntmps12
 go_upto_region 1 with fail
 refine xu hw1 ?_
 clear hw1
 go_upto_region 2 with fail
 refine xu hw2 ?_
 rw[←hob]
 clear hw2 hob o1 r1
 go_wp2_with fail
 refine HP.out.mono ?_
 rintro e w3 ⟨rfl,hb3,hkF,W,⟨pb,pc,hpB,hpt,hpc,hp0,hp1,_⟩,hWW,⟨F',hst',hF'⟩,hWs,hkeep⟩
 have hpl0:pb<W.heap.size:=block_lt_of_cell hp0
 have hst:∃ F',StOk D w3 sb p n (u+xY (67+t.length+nm.length+sj.length+g.length)) (xF4 c A (str g) hi) F'∧pb ∉ F'∧∀ k∈F',k∈F∨w.heap.size≤k:=⟨F',hst',fun hm=>by
  rcases hF' pb hm with h | h
  ·have:=HFL.out pb h;omega
  ·omega,fun k hk=>(hF' k hk).imp_right (fun h=>Nat.le_trans hWW h)⟩
 have hobW:=(i_ hpt).1
 have hpl:pb<W.heap.size:=block_lt_of_cell hp0
 have hkp:=hkeep pb hpB hpl
 have hq0:=(World.cell?_of_block (a:=⟨pb,0,none⟩) hkp).trans hp0
 have hq1:=(World.cell?_of_block (a:=⟨pb,1,none⟩) hkp).trans hp1
 have hpt3:kb w3 ob A (.slice (some ⟨pb,0,none⟩) 1 pc):=(hkeep ob HOW.out hobW).trans hpt
 have c40:=cell_of_row w3 ob 40 _ _ _ hpt3
 have hc40:(zr A++[Value.slice (some ⟨pb,0,none⟩) 1 pc]).toArray[40]?=some (.slice (some ⟨pb,0,none⟩) 1 pc):=by
  rw[List.getElem?_toArray,List.getElem?_append_right (by rw[yZ];omega),yZ];rfl
 rw[hc40] at c40
 have HF:=h_ (And.intro (HB2.out.trans hb3) (And.intro hkF (And.intro hst (And.intro hpB (And.intro (show pb<w3.heap.size from Nat.lt_of_lt_of_le hpl hWs) (And.intro hpc (And.intro hq0 hq1)))))))
 clear hb3 hkF hst hst' hF' hWW hpl0 hpB hpt hpc hp0 hp1 hWs hkeep hobW hpl hkp hq0 hq1 hpt3 hc40 HP
 go_wp2
 go_ret2
 exact⟨pb,pc,rfl,HF.out⟩
def rmC (c:PC)(id:Id32)(g:ByteArray)(hi:Nat)(a:SArt)(e:HEnt):PC:={ c with ses:=[],bytes:=c.bytes-a.text.size,tc:=some (g,hi,false),lf:=fun _=>[],hes:=xAk id (.agg (xr { e with st:=1 })) c.hes }
theorem xLi {D sb p n u:Nat}{c:PC}{F:List Nat}{w:World}(h:StOk D w sb p n u c F)(hG:Gl w)(hD0:Tryz.prog.globals.size≤D)(hD:D≤w.heap.size)(g:ByteArray)(hi:Nat)(q:vz)(hpn:q.number=(hi:Int))(a:SArt)(e:HEnt)
  (hses:c.ses=[(q.id,.agg (yi a))]) (hby:a.text.size≤c.bytes) (hbl:c.bytes≤1073741824) (htc:c.tc=some (g,hi,true)) (hhi:hi≤1000000) (hlf:c.lf=xAn g q) (hhe:zZ q.id c.hes=some (.agg (xr e))) (hst:e.st=0) (hfree:u+xY 34≤n / 2) :
  Calls Tryz.prog 16 #[.pointer (some ⟨sb,0,none⟩),.agg (xB q.id).toArray] w (xYq D sb p n (u+xY 34) (rmC c q.id g hi a e) F w):=by
 obtain⟨w1,hw1⟩:∃ w1,w1=w.alloc (.cells (xB q.id).toArray 39):=⟨_,rfl⟩
 have hb1:Below w.heap.size w w1:=by rw[hw1];exact b_ _ _
 have hn1:w1.heap[w.heap.size]?=some (.cells (xB q.id).toArray 39 (0,0)):=by rw[hw1];exact heap_alloc_new w _
 obtain⟨ob,hob⟩:∃ ob,ob=w1.heap.size:=⟨_,rfl⟩
 obtain⟨w2,hw2⟩:∃ w2,w2=w1.alloc (.cells (xB q.id).toArray 109):=⟨_,rfl⟩
 have hb12:Below w1.heap.size w1 w2:=by rw[hw2];exact b_ _ _
 have ho2:w2.heap[ob]?=some (.cells (xB q.id).toArray 109 (0,0)):=by rw[hw2,hob];exact heap_alloc_new w1 _
 have hb2:=hb1.trans (hb12.mono hb1.size)
 have hol:=(i_ ho2).1
 have hG2:=hG.later hb2
 have hyl:([3]++q.id.1:By).length+1=34:=by simp[q.id.2]
 obtain⟨o1,r1⟩:=yE hn1
 have HP:=h_ (xH3 h hb2 hG2 hD0 hD ob (rmC c q.id g hi a e) ([3]++q.id.1) (fun W=>W.heap[ob]?=some (.cells (xB q.id).toArray 109 (0,0))) (by simp) (by omega) (by rw[hyl];exact hfree)
  (fun W b c1 c2 c3 x nb hbW hle hsep hnbf hpc hnb=>by
   have hoW:=(hbW.block _ hol).trans ho2
   refine(xOj hsep nb hnb hnbf (hG2.later hbW) (Nat.le_trans hG2.size hle) q ob (Nat.lt_of_lt_of_le hol hle) hoW g hi hpn a e (by rw[hpc];exact hses) (by rw[hpc];exact hby) (by rw[hpc];exact hbl) (by rw[hpc];exact htc) hhi (by rw[hpc];exact hlf) (by rw[hpc];exact hhe) hst).mono ?_
   rintro e' w' ⟨h1,h2,h3⟩
   refine⟨h1,h2.mono (Nat.le_trans hb2.size hle),?_,(h2.block _ (Nat.lt_of_lt_of_le hol hle)).trans hoW⟩
   rw[hpc] at h3;exact h3)
  (fun W W' hap hbW=>xM0 ob q.id ((hbW.block _ (i_ hap).1).trans hap)))
 rw[hyl] at HP
 have HB2:=h_ (hb2.mono hD)
 clear h hG hD0 hD hpn hses hby hbl htc hhi hlf hhe hst hfree hb1 hn1 hb12 ho2 hb2 hol hG2 hyl
 go_enter Tryz.func16,Tryz.ntmps16
 go_upto_region 1 with fail
 refine xu hw1 ?_
 clear hw1
 go_wp2_with fail
 rw[←hw2,←hob]
 clear hob o1 r1
 refine HP.out.mono ?_
 rintro e' w3 ⟨rfl,hb3,hkF,W,_,hWW,⟨F',hst',hF'⟩,_⟩
 have hst:∃ F',StOk D w3 sb p n (u+xY 34) (rmC c q.id g hi a e) F'∧∀ k∈F',k∈F∨w.heap.size≤k:=⟨F',hst',fun k hk=>(hF' k hk).imp_right (fun h=>Nat.le_trans hWW h)⟩
 have HF:=h_ (And.intro (HB2.out.trans hb3) (And.intro hkF hst))
 clear hb3 hkF hst hst' hF' hWW hw2
 go_wp2
 go_ret
 exact⟨rfl,HF.out.1,HF.out.2.1,HF.out.2.2⟩
theorem xBt {D sb p n u:Nat}{c:PC}{F:List Nat}{w:World}(h:StOk D w sb p n u c F):Calls Tryz.prog 21 #[.pointer (some ⟨sb,0,none⟩)] w fun e w'=>Below w.heap.size w w'∧∃ v,e=.returned (.pointer (some ⟨v.p,0,none⟩))∧yY w.heap.size w' v∧kvs v.es=c.hes:=by
 obtain⟨b,v,d,j,ev,sy,x,B,T,hst,hp,hn,hpend,hu,hel,hpc,_⟩:=h
 have c1:=cell_of_row w sb 1 _ _ _ hst.blk
 simp only[v_] at c1
 have HC:=h_ (xHy hst.prt.at.h)
 have HPC:=h_ (show kvs x.h.es=c.hes by rw[←hpc];rfl)
 clear hst hp hn hpend hu hel hpc
 go_enter Tryz.func21,Tryz.ntmps21
 go_wp2_with fail
 refine HC.out.mono ?_
 rintro e w1 ⟨hb,v',rfl,hat,he,_⟩
 have HF:=h_ (And.intro hb (And.intro hat (show kvs v'.es=c.hes by rw[he];exact HPC.out)))
 clear hb hat he c1
 go_wp2
 go_ret
 exact⟨HF.out.1,v',rfl,HF.out.2.1,HF.out.2.2⟩
theorem xNv {D sb p n u:Nat}{c:PC}{F:List Nat}{w:World}(h:StOk D w sb p n u c F):Calls Tryz.prog 9 #[.pointer (some ⟨sb,0,none⟩)] w fun e w'=>Below w.heap.size w w'∧∃ v,e=.returned (.pointer (some ⟨v.p,0,none⟩))∧yU w.heap.size w' v∧v.budget=c.budget∧v.bytes=c.bytes:=by
 obtain⟨b,v,d,j,ev,sy,x,B,T,hst,hp,hn,hpend,hu,hel,hpc,_⟩:=h
 have c1:=cell_of_row w sb 2 _ _ _ hst.blk
 simp only[v_] at c1
 have HC:=h_ (xGu hst.prt.at.s)
 have HPC:=h_ (show x.s.budget=c.budget∧x.s.bytes=c.bytes by rw[←hpc];exact⟨rfl,rfl⟩)
 clear hst hp hn hpend hu hel hpc
 go_enter Tryz.func9,Tryz.ntmps9
 go_wp2_with fail
 refine HC.out.mono ?_
 rintro e w1 ⟨hb,v',rfl,hat,_,_,he1,he2,_⟩
 have HF:=h_ (And.intro hb (And.intro hat (show v'.budget=c.budget∧v'.bytes=c.bytes by rw[he1,he2];exact HPC.out)))
 clear hb hat he1 he2 c1
 go_wp2
 go_ret
 exact⟨HF.out.1,v',rfl,HF.out.2.1,HF.out.2.2⟩
theorem xQz {D sb p n u:Nat}{c:PC}{F:List Nat}{w:World}(h:StOk D w sb p n u c F):Calls Tryz.prog 24 #[.pointer (some ⟨sb,0,none⟩)] w fun e w'=>e=.returned (.int .i64 (n / 2-u:Nat))∧Below w.heap.size w w':=by
 obtain⟨b,v,d,j,ev,sy,x,B,T,hst,hp,hn,hpend,hu,hel,hpc,_⟩:=h
 have c0:=cell_of_row w sb 0 _ _ _ hst.blk
 simp only[v_] at c0
 have HC:=h_ (xEj hst.jat.blk hst.jat.dev.n2 hst.jat.inv.fit)
 rw[hn,hu] at HC
 clear hst hp hn hpend hu hel hpc
 go_enter Tryz.func24,Tryz.ntmps24
 go_wp2_with fail
 refine HC.out.mono ?_
 rintro e w1 ⟨rfl,hb⟩
 have HB:=h_ hb
 clear hb c0
 go_wp2
 go_ret
 exact⟨rfl,HB.out⟩
end
section
attribute [local go_sem ↓] xV xO qR qr j4 vi xDo xFi yp yh yq yB
attribute [local go_sem] zx zA xEi xE5 xHm xGl xYc yA4 zG zF zt zw yD yC xj xh xe xd xA xz xo xl xt xC xx
theorem jR (v:Value)(w:World):Calls Tryz.prog 39 #[.pointer none,v] w fun e w'=>e=.returned (.int .i64 1)∧w=w':=by
 go_enter Tryz.func39,Tryz.ntmps39
 go_wp2_with fail
 refine(jh w).mono ?_
 rintro e w' ⟨rfl,rfl⟩
 go_wp2
 go_ret
 exact⟨rfl,rfl⟩
theorem xIz (w:World):Calls Tryz.prog 21 #[.pointer none] w fun e w'=>e=.returned (.pointer none)∧w=w':=by
 go_enter Tryz.func21,Tryz.ntmps21
 go_wp2
 go_ret
 exact⟨rfl,rfl⟩
theorem xO1 (w:World):Calls Tryz.prog 9 #[.pointer none] w fun e w'=>e=.returned (.pointer none)∧w=w':=by
 go_enter Tryz.func9,Tryz.ntmps9
 go_wp2
 go_ret
 exact⟨rfl,rfl⟩
theorem xLu (w:World):Calls Tryz.prog 22 #[.pointer none] w fun e w'=>e=.returned (.pointer none)∧w=w':=by
 go_enter Tryz.func22,Tryz.ntmps22
 go_wp2
 go_ret
 exact⟨rfl,rfl⟩
theorem xGo (w:World):Calls Tryz.prog 23 #[.pointer none] w fun e w'=>e=.returned (.pointer none)∧w=w':=by
 go_enter Tryz.func23,Tryz.ntmps23
 go_wp2
 go_ret
 exact⟨rfl,rfl⟩
theorem xR5 (w:World):Calls Tryz.prog 24 #[.pointer none] w fun e w'=>e=.returned (.int .i64 0)∧w=w':=by
 go_enter Tryz.func24,Tryz.ntmps24
 go_wp2
 go_ret
 exact⟨rfl,rfl⟩
theorem xO2 (w:World):Calls Tryz.prog 26 #[.pointer none,.pointer none] w fun e w'=>e=.returned (.bool true)∧w=w':=by
 go_enter Tryz.func26,Tryz.ntmps26
 go_wp2
 go_ret
 exact⟨rfl,rfl⟩
theorem xJ0 (w:World):Calls Tryz.prog 19 #[.pointer none] w fun e w'=>e=.returned (.int .i64 1)∧w=w':=by
 go_enter Tryz.func19,Tryz.ntmps19
 go_wp2_with fail
 refine(jh w).mono ?_
 rintro e w' ⟨rfl,rfl⟩
 go_wp2
 go_ret
 exact⟨rfl,rfl⟩
theorem xLt (n:Int)(w:World):Calls Tryz.prog 13 #[.pointer none,.int .i64 n] w fun e w'=>e=.returned (.tuple #[.slice none 0 0,.int .i64 1])∧w=w':=by
 go_enter Tryz.func13,Tryz.ntmps13
 go_wp2_with fail
 refine(jh w).mono ?_
 rintro e w' ⟨rfl,rfl⟩
 go_wp2
 go_ret2
 exact⟨rfl,rfl⟩
theorem xFw (s:ByteArray)(w:World):Calls Tryz.prog 17 #[.pointer none,.string s] w fun e w'=>e=.returned (.int .i64 1)∧Below w.heap.size w w':=by
 have hb:Below w.heap.size w (w.alloc (.cells #[.string s] 112)):=(Below.refl _ _).alloc (Nat.le_refl _) _
 go_enter Tryz.func17,Tryz.ntmps17
 go_wp2_with fail
 refine(jR _ _).mono ?_
 rintro e w' ⟨rfl,rfl⟩
 go_wp2
 go_ret
 exact⟨rfl,hb⟩
theorem xE6 (s:ByteArray)(w:World):Calls Tryz.prog 18 #[.pointer none,.string s] w fun e w'=>e=.returned (.int .i64 1)∧Below w.heap.size w w':=by
 have hb:Below w.heap.size w (w.alloc (.cells #[.string s] 114)):=(Below.refl _ _).alloc (Nat.le_refl _) _
 go_enter Tryz.func18,Tryz.ntmps18
 go_wp2_with fail
 refine(jR _ _).mono ?_
 rintro e w' ⟨rfl,rfl⟩
 go_wp2
 go_ret
 exact⟨rfl,hb⟩
theorem xLq (id:Id32)(w:World):Calls Tryz.prog 16 #[.pointer none,.agg (xB id).toArray] w fun e w'=>e=.returned (.int .i64 1)∧Below w.heap.size w w':=by
 obtain⟨w1,hw1⟩:∃ w1,w1=w.alloc (.cells (xB id).toArray 39):=⟨_,rfl⟩
 have hb1:Below w.heap.size w w1:=by rw[hw1];exact b_ _ _
 have hn1:w1.heap[w.heap.size]?=some (.cells (xB id).toArray 39 (0,0)):=by rw[hw1];exact heap_alloc_new w _
 obtain⟨o1,r1⟩:=yE hn1
 have hb2:Below w.heap.size w (w1.alloc (.cells (xB id).toArray 109)):=hb1.alloc hb1.size _
 go_enter Tryz.func16,Tryz.ntmps16
 go_upto_region 1 with fail
 refine xu hw1 ?_
 clear hw1
 go_wp2_with fail
 refine(jR _ _).mono ?_
 rintro e w' ⟨rfl,rfl⟩
 go_wp2
 go_ret
 exact⟨rfl,hb2⟩
theorem xLr (id:Id32)(w:World):Calls Tryz.prog 20 #[.pointer none,.agg (xB id).toArray] w fun e w'=>e=.returned (.slice none 0 0)∧Below w.heap.size w w':=by
 have hb1:Below w.heap.size w (w.alloc (.cells (xB id).toArray 39)):=(Below.refl _ _).alloc (Nat.le_refl _) _
 go_enter Tryz.func20,Tryz.ntmps20
 go_wp2
 go_ret
 exact⟨rfl,hb1⟩
theorem xR4 (id:Id32)(w:World):Calls Tryz.prog 14 #[.pointer none,.agg (xB id).toArray] w fun e w'=>e=.returned (.tuple #[.string ⟨#[]⟩,.int .i64 1])∧Below w.heap.size w w':=by
 have hb1:Below w.heap.size w (w.alloc (.cells (xB id).toArray 39)):=(Below.refl _ _).alloc (Nat.le_refl _) _
 go_enter Tryz.func14,Tryz.ntmps14
 go_wp2
 go_ret2
 exact⟨rfl,hb1⟩
theorem xU5 (a:Art)(_hg:a.groups.oneCell'=true)(_hr:a.refs.oneCell'=true)(w:World):Calls Tryz.prog 12 #[.pointer none,.agg (xZ a)] w fun e w'=>e=.returned (.tuple #[.slice none 0 0,.int .i64 1])∧Below w.heap.size w w':=by
 obtain⟨w1,hw1⟩:∃ w1,w1=w.alloc (.cells (xZ a) 43):=⟨_,rfl⟩
 have hb1:Below w.heap.size w w1:=by rw[hw1];exact b_ _ _
 have hn1:w1.heap[w.heap.size]?=some (.cells (xZ a) 43 (0,0)):=by rw[hw1];exact heap_alloc_new w _
 obtain⟨o1,r1⟩:=xI (n:=40) hn1 (zL a)
 have hb2:Below w.heap.size w (w1.alloc (.cells (zr a++[Value.slice none 0 0]).toArray 100)):=hb1.alloc hb1.size _
 go_enter Tryz.func12,Tryz.ntmps12
 go_upto_region 1 with fail
 refine xu hw1 ?_
 clear hw1
 go_wp2_with fail
 refine(jR _ _).mono ?_
 rintro e w' ⟨rfl,rfl⟩
 go_wp2
 go_ret2
 exact⟨rfl,hb2⟩
theorem xLs (s:ByteArray)(n:Int)(w:World):Calls Tryz.prog 15 #[.pointer none,.agg #[.string s,.int .i64 n]] w fun e w'=>e=.returned (.tuple #[.agg (x9 xH),.bool false])∧Below w.heap.size w w':=by
 obtain⟨w1,hw1⟩:∃ w1,w1=(w.alloc (.cells #[.string s,.int .i64 n] 53)).alloc (.cells (x9 xH) 49):=⟨_,rfl⟩
 have hb1:Below w.heap.size w w1:=by rw[hw1];exact((Below.refl _ _).alloc (Nat.le_refl _) _).alloc (by simp) _
 have hn1:w1.heap[w.heap.size+1]?=some (.cells (x9 xH) 49 (0,0)):=by
  have:=heap_alloc_new (w.alloc (.cells #[.string s,.int .i64 n] 53)) (.cells (x9 xH) 49)
  rw[World.size_alloc] at this
  rw[hw1];exact this
 have hro:xP w1 (w.heap.size+1) 38=true:=zq hn1 (xN _)
 have hft:xy 38 (x9 xH)=true:=ub rfl
 obtain⟨o2,r2⟩:=xI (n:=38) (setRow_heap w1 (w.heap.size+1) _ (x9 xH) _ _ hn1) (xN _)
 have hb2:Below w.heap.size w (w1.setRow (w.heap.size+1) (x9 xH)):=xJ hb1 (by omega) _
 clear hb1 hn1
 go_enter Tryz.func15,Tryz.ntmps15
 go_upto_region 1 with fail
 refine xu hw1 ?_
 clear hw1
 go_wp2
 exact bodyPost_ret (v:=.tuple #[.agg (x9 xH),.bool false]) (uN rfl Tryz.isAgg49 Tryz.sizeOf49 _ _ ⟨w.heap.size+1,0,none⟩ _ _ rfl rfl o2 r2) rfl ⟨rfl,hb2⟩
end
def cos:By:=[99,111,109,112,46,111,115]
def tex:By:=List.replicate 100 0
def idN (k:UInt8):Id32:=⟨k :: List.replicate 31 0,by simp⟩
def kA (k:UInt8)(gb:Nat):Art:=⟨idN k,str tex,str [],5,6,.slice (some ⟨gb,0,none⟩) 1 1,str [],.slice none 0 0,false⟩
theorem xIf:zV (str cos)=0:=by decide +kernel
theorem yA1 (k:UInt8)(h:k≠0):idN k≠uG:=fun e=>by
 have h1:=congrArg Subtype.val e
 have h2:=congrArg List.head? h1
 simp[idN,uG,List.replicate] at h2
 exact h h2
def kP (k:UInt8)(n:Int):vz:=⟨n,idN k,str [],5,str [],[],(str tex).size⟩
theorem xZ8:pErr (kP 1 1)=0:=by decide +kernel
theorem xZ7:pErr (kP 2 2)=0:=by decide +kernel
def k0:PC:=kk 1000
def k1:PC:={ k0 with tc:=some (str cos,0,false) }
def k2 (gb:Nat):PC:=xF4 k1 (kA 1 gb) (str cos) 0
def kArt:SArt:=⟨str tex,6,0⟩
def kEnt (k:UInt8)(s:Int):HEnt:=⟨idN k,6,5,s,false⟩
def k3 (gb:Nat):PC:=rmC (k2 gb) (idN 1) (str cos) 1 kArt (kEnt 1 0)
def k4 (gb:Nat):PC:=xF4 (k3 gb) (kA 2 gb) (str cos) 1
theorem jg:tex.length=100:=List.length_replicate
theorem xGf:(str tex).size=100:=by rw[u1,jg]
theorem xXa:(idN 2=idN 1)=False:=by
 apply eq_false
 intro e
 have h1:=congrArg Subtype.val e
 simp[idN] at h1
theorem xX7 (gb:Nat):(k2 gb).hes=[(idN 1,.agg (xr (kEnt 1 0)))]:=rfl
theorem yAy (gb:Nat):(k2 gb).ses=[(idN 1,.agg (yi kArt))]:=rfl
theorem xRv (gb:Nat):(k3 gb).hes=[(idN 1,.agg (xr (kEnt 1 1)))]:=by
 show xAk (idN 1) (.agg (xr { kEnt 1 0 with st:=1 })) (k2 gb).hes=_
 rw[xX7]
 unfold xAk zZ xNt
 simp
 rfl
theorem xZ9 (gb:Nat):zZ (idN 1) (k4 gb).hes=some (.agg (xr (kEnt 1 1))):=by
 show zZ (idN 1) (xAk (idN 2) _ (k3 gb).hes)=_
 rw[xRv]
 have h1:zZ (idN 2) [(idN 1,Value.agg (xr (kEnt 1 1)))]=none:=by
  unfold zZ
  rw[if_neg (by rw[xXa];exact id)];rfl
 unfold xAk
 rw[h1]
 show zZ (idN 1) [(idN 1,_),(idN 2,_)]=_
 unfold zZ
 rw[if_pos rfl]
theorem xMz (ρ:Operand→Value)(d:Option Tmp)(x0:Operand)(ty:TypeId)(pos:String)(af:Array Edge)(gd:Option (Nat × Bool))(w:World) :
  Sem.run Tryz.prog (execOp ρ ⟨d,.build 39 #[(0,x0)],ty,pos,af,gd⟩) w=uo Tryz.prog 39 w #[(0,ρ x0)]:=by kernel_rfl
theorem yBe (w:World):uo Tryz.prog 39 w #[(0,.int .u8 1)]=.ok (.value (.agg (xB (idN 1)).toArray)) w:=uD (by kernel_rfl)
theorem yBd (w:World):uo Tryz.prog 39 w #[(0,.int .u8 2)]=.ok (.value (.agg (xB (idN 2)).toArray)) w:=uD (by kernel_rfl)
theorem xJl (ρ:Operand→Value)(d:Option Tmp)(x0 x1 x2 x3 x4:Operand)(ty:TypeId)(pos:String)(af:Array Edge)(gd:Option (Nat × Bool))(w:World) :
  Sem.run Tryz.prog (execOp ρ ⟨d,.build 43 #[(0,x0),(1,x1),(3,x2),(4,x3),(5,x4)],ty,pos,af,gd⟩) w=uo Tryz.prog 43 w #[(0,ρ x0),(1,ρ x1),(3,ρ x2),(4,ρ x3),(5,ρ x4)]:=by kernel_rfl
theorem xJm (ρ:Operand→Value)(d:Option Tmp)(ty:TypeId)(pos:String)(af:Array Edge)(gd:Option (Nat × Bool))(w:World) :
  Sem.run Tryz.prog (execOp ρ ⟨d,.build 43 #[],ty,pos,af,gd⟩) w=.ok (.value (.agg (xZ xAa))) w:=by kernel_rfl
def xBa (i:Nat):Option (Nat × Nat):=#[(0,32),(32,1),(33,1),(34,1),(35,1),(36,1),(37,1),(38,1),(39,1)][i]?
theorem yB4 (parts:List (Nat × Value)):Tryz.prog.built 43 parts=Instr.fill xBa (xZ xAa) parts:=by kernel_rfl
theorem xZn (w:World)(id:Id32)(t:ByteArray)(d a:Int)(ga:Option Addr)(gn gc:Nat):uo Tryz.prog 43 w #[(0,.agg (xB id).toArray),(1,.string t),(3,.int .i64 d),(4,.int .i64 a),(5,.slice ga gn gc)]=.ok (.value (.agg (xZ ⟨id,t,⟨#[]⟩,d,a,.slice ga gn gc,⟨#[]⟩,.slice none 0 0,false⟩))) w:=uD (by
 show Tryz.prog.built 43 [(0,.agg (xB id).toArray),(1,.string t),(3,.int .i64 d),(4,.int .i64 a),(5,.slice ga gn gc)]=_
 rw[yB4]
 have l0:(xB xAa.id).length=32:=xF _
 have l1:(xB id).length=32:=xF _
 refine(zn xBa 0 (.agg (xB id).toArray) [] (xB xAa.id) [.string ⟨#[]⟩,.string ⟨#[]⟩,.int .i64 0,.int .i64 0,.slice none 0 0,.string ⟨#[]⟩,.slice none 0 0,.bool false] (xB id) (by rw[l0];rfl) rfl (by rw[l0,l1])).trans ?_
 refine(zn xBa 1 (.string t) (xB id) [.string ⟨#[]⟩] [.string ⟨#[]⟩,.int .i64 0,.int .i64 0,.slice none 0 0,.string ⟨#[]⟩,.slice none 0 0,.bool false] [.string t] (by rw[l1];rfl) rfl rfl).trans ?_
 rw[show xB id++([Value.string t]++[.string ⟨#[]⟩,.int .i64 0,.int .i64 0,.slice none 0 0,.string ⟨#[]⟩,.slice none 0 0,.bool false])=(xB id++[.string t,.string ⟨#[]⟩])++([.int .i64 0]++[.int .i64 0,.slice none 0 0,.string ⟨#[]⟩,.slice none 0 0,.bool false]) by simp]
 refine(zn xBa 3 (.int .i64 d) (xB id++[.string t,.string ⟨#[]⟩]) [.int .i64 0] [.int .i64 0,.slice none 0 0,.string ⟨#[]⟩,.slice none 0 0,.bool false] [.int .i64 d] (by rw[List.length_append,l1];rfl) rfl rfl).trans ?_
 rw[show (xB id++[Value.string t,.string ⟨#[]⟩])++([.int .i64 d]++[.int .i64 0,.slice none 0 0,.string ⟨#[]⟩,.slice none 0 0,.bool false])=(xB id++[.string t,.string ⟨#[]⟩,.int .i64 d])++([.int .i64 0]++[.slice none 0 0,.string ⟨#[]⟩,.slice none 0 0,.bool false]) by simp]
 refine(zn xBa 4 (.int .i64 a) (xB id++[.string t,.string ⟨#[]⟩,.int .i64 d]) [.int .i64 0] [.slice none 0 0,.string ⟨#[]⟩,.slice none 0 0,.bool false] [.int .i64 a] (by rw[List.length_append,l1];rfl) rfl rfl).trans ?_
 rw[show (xB id++[Value.string t,.string ⟨#[]⟩,.int .i64 d])++([.int .i64 a]++[.slice none 0 0,.string ⟨#[]⟩,.slice none 0 0,.bool false])=(xB id++[.string t,.string ⟨#[]⟩,.int .i64 d,.int .i64 a])++([Value.slice none 0 0]++[.string ⟨#[]⟩,.slice none 0 0,.bool false]) by simp]
 refine(zn xBa 5 (.slice ga gn gc) (xB id++[.string t,.string ⟨#[]⟩,.int .i64 d,.int .i64 a]) [.slice none 0 0] [.string ⟨#[]⟩,.slice none 0 0,.bool false] [.slice ga gn gc] (by rw[List.length_append,l1];rfl) rfl rfl).trans ?_
 rw[show (xB id++[Value.string t,.string ⟨#[]⟩,.int .i64 d,.int .i64 a])++([.slice ga gn gc]++[.string ⟨#[]⟩,.slice none 0 0,.bool false])=zr ⟨id,t,⟨#[]⟩,d,a,.slice ga gn gc,⟨#[]⟩,.slice none 0 0,false⟩ by simp[zr,vw]]
 rfl)
theorem xYt (w:World)(g:Nat)(a:Art)(x:Id32)(h:w.heap[g]?=some (.cells (xZ a) 43 (0,0))) :
  ym Tryz.prog 39 w (.pointer (some ⟨g,0,none⟩)) (.agg (xB x).toArray)=.ok .skip (w.setRow g (xZ { a with id:=x })):=by
 have:=jr Tryz.sizeOf39 w g 0 (zr a) _ h (xB x) (xF x) (by rw[yZ];omega) (uS x)
 rw[this]
 refine congrArg (Result.ok Next.skip) (congrArg (World.setRow w g) ?_)
 have l1:(xB a.id).length=32:=xF _
 show ((zr a).take 0++xB x++(zr a).drop (0+32)).toArray=xZ { a with id:=x }
 unfold xZ zr
 rw[List.take_zero,List.nil_append,Nat.zero_add,←l1,List.drop_left]
 simp only[vw]
theorem xX5 (gb:Nat):zZ (idN 2) (k3 gb).hes=none:=by
 rw[xRv]
 unfold zZ
 rw[if_neg (by rw[xXa];exact id)];rfl
theorem xZa (gb:Nat):zZ (idN 1) (k2 gb).hes=some (.agg (xr (kEnt 1 0))):=by
 rw[xX7]
 unfold zZ
 rw[if_pos rfl]
theorem xHq (gb:Nat):(k2 gb).bytes=100:=by
 show 0+(str tex).size=100
 rw[xGf]
theorem xX6 (gb:Nat):(k3 gb).bytes=0:=by
 show (k2 gb).bytes-(str tex).size=0
 rw[xHq,xGf]
theorem xG3:xY (67+tex.length+([]:By).length+([]:By).length+cos.length)=1:=by
 rw[jg];rfl
theorem xWy:madeCells (Value.int .u8 0).cells 100=(encB tex).toArray:=by kernel_rfl
theorem xWx (w:World):Sem.run Tryz.prog (Instr.makeSlice 66 (.int .i64 100) (.int .i64 100)) w=.ok (.slice (some ⟨w.heap.size,0,none⟩) 100 100) (w.alloc (.cells (encB tex).toArray 5)):=by
 obtain⟨i0,hi,hz0,hz1,hz2⟩:=info_parts Tryz.info_byte
 have:=run_makeSlice (P:=Tryz.prog) w 66 5 i0 (.int .u8 0) Tryz.underlying66 hi hz0 .i64 .i64 100 100 (by omega) (by omega) (by rw[hz1];decide) (by rw[hz2];decide) (by omega)
 rw[hz1] at this
 rw[←xWy]
 exact this
section
theorem xMy (ρ:Operand→Value)(d:Option Tmp)(x0 x1:Operand)(ty:TypeId)(pos:String)(af:Array Edge)(gd:Option (Nat × Bool))(w:World) :
  Sem.run Tryz.prog (execOp ρ ⟨d,.build 53 #[(0,x0),(1,x1)],ty,pos,af,gd⟩) w=uo Tryz.prog 53 w #[(0,ρ x0),(1,ρ x1)]:=by kernel_rfl
theorem yBc (w:World)(s:ByteArray)(x:Int):uo Tryz.prog 53 w #[(0,.string s),(1,.int .i64 x)]=.ok (.value (.agg #[.string s,.int .i64 x])) w:=uD (by kernel_rfl)
theorem xUy (w:World):(Op.equalIn 10000 53 (.agg #[.string ⟨#[99,111,109,112,46,111,115]⟩,.int .i64 1]) (.agg #[.string ⟨#[99,111,109,112,46,111,115]⟩,.int .i64 1])).run Tryz.prog w=.ok true w:=by
 kernel_rfl
theorem kn8 {w12 W:World}(h:Below w12.heap.size w12 W):∃ W' bA,W.alloc (.cells (xr zW) 68)=W'∧W.heap.size=bA∧Below W.heap.size W W'∧Hid (W'.heap[bA]?=some (.cells (xr zW) 68 (0,0)))∧Hid (w12.heap.size≤bA)∧Hid (Below w12.heap.size w12 W') :=
 have hb:Below W.heap.size W (W.alloc (.cells (xr zW) 68)):=(Below.refl _ _).alloc (Nat.le_refl _) _
 ⟨_,_,rfl,rfl,hb,h_ (heap_alloc_new W _),h_ h.size,h_ (h.trans (hb.mono h.size))⟩
theorem kn9 {w12 W:World}{bA:Nat}(hA:W.heap[bA]?=some (.cells (xr zW) 68 (0,0)))(hb:w12.heap.size≤bA)(h:Below w12.heap.size w12 W):∃ W',W.setRow bA (xr (kEnt 1 1))=W'∧Hid (W'.heap[bA]?=some (.cells (xr (kEnt 1 1)) 68 (0,0)))∧Hid (Below w12.heap.size w12 W') :=
 ⟨_,rfl,h_ (setRow_heap _ _ _ _ _ _ hA),h_ (h.trans ((qd W bA _).below h.size (fun k hk=>by rw[List.mem_singleton.1 hk];exact hb)))⟩
theorem kn4 {B gb:Nat}{w:World}{v:Hst}(h:yY B w v)(hk:kvs v.es=(k4 gb).hes):Calls Tryz.prog 27 #[.pointer (some ⟨v.p,0,none⟩),.agg (xB (idN 1)).toArray] w fun e w'=>Below w.heap.size w w'∧e=.returned (.tuple #[.agg (xr (kEnt 1 1)),.bool true]):=by
 have hk':getK (idN 1) v.es=some (.agg (xr (kEnt 1 1))):=by rw[xDi,hk];exact xZ9 gb
 obtain⟨x,_,hx2,hget⟩:=xXf h (idN 1)
 rw[←hx2 _ hk',hk'] at hget
 exact hget
theorem xTx {P:Program}{ops:Array Oper}{Q:Exit→Act→World→Prop}{C:World→Prop}{E R:List Nat}{n r s t:Nat}{a:Act}{w:World}(hr:kI ops R=[r,s,t])
  (h1:wpOp P ops (NoPanic Q) r (fun a' w'=>(zQ ops E r=true→C w')∧wpF P ops Q C E n (R.erase r) a' w') a w)
  (h2:wpOp P ops (NoPanic Q) s (fun a' w'=>(zQ ops E s=true→C w')∧wpF P ops Q C E n (R.erase s) a' w') a w)
  (h3:wpOp P ops (NoPanic Q) t (fun a' w'=>(zQ ops E t=true→C w')∧wpF P ops Q C E n (R.erase t) a' w') a w):wpF P ops Q C E (n+1) R a w:=by
 intro i hi
 rw[hr] at hi
 rcases List.mem_cons.1 hi with rfl | hi
 ·exact h1
 rcases List.mem_cons.1 hi with rfl | hi
 ·exact h2
 rw[List.mem_singleton] at hi
 subst hi
 exact h3
attribute [local go_sem ↓] xMy xV xO j4 vi kY vl qD qE xMz xJl qR qr
attribute [local go_sem] yBc xUy zx xHm xGl xDd xCv yBe yBd xZn xEi xE5 zt zw yD yC xj xh xe xd xA xz xo xl xt xC xx
theorem xNz {w:World}(hG:Gl w):Calls Tryz.prog 4 #[] w fun e w'=>e=.returned (.bool true)∧Below w.heap.size w w':=by
 have HG:=h_ hG
 have HGS:Hid (Tryz.prog.globals.size≤w.heap.size):=h_ hG.size
 clear hG
 go_enter Tryz.func4,Tryz.ntmps4
 go_wp2_with fail
 refine(xQ7 256 w (by omega)).mono ?_
 rintro e w1 ⟨rfl,hb1,hd1⟩
 obtain⟨D,hD⟩:∃ D,D=w.heap.size:=⟨_,rfl⟩
 obtain⟨v,hv⟩:∃ v,v=xMc w:=⟨_,rfl⟩
 have hvp:v.p=D+1:=by rw[hv,hD];rfl
 have hvf:∀ k∈v.foot,D≤k:=fun k hk=>by rw[hv] at hk;rw[hD];exact(hd1.foot_lt k hk).1
 rw[←hv,←hD] at hd1
 rw[←hD]
 have hB1:Below D w w1:=by rw[hD];exact hb1
 have hDw1:D≤w1.heap.size:=by rw[hD];exact hb1.size
 have HD0:Hid (Tryz.prog.globals.size≤D):=h_ (by rw[hD];exact HGS.out)
 have HB1:=h_ hB1
 have HF:=h_ (xEz hd1 ⟨rfl,rfl⟩ (HG.out.below hB1 HD0.out) (by decide) rfl (fun s _=>xAx sha 256 s) 1000 (by omega) (by omega) hDw1 HD0.out)
 rw[hvp,show ((1000:Nat):Int)=1000 from rfl] at HF
 have HD:=h_ hD
 have HVP:=h_ hvp
 have HVF:=h_ hvf
 have HDW:Hid (D≤w1.heap.size):=h_ hDw1
 clear hb1 hd1 hv hvp hvf hB1 hDw1
 have hD':D=D:=rfl
 clear hD hD'
 go_wp2_with fail
 refine HF.out.mono ?_
 rintro e w2 ⟨rfl,hk2,v2,d2,j2,hv2,hM2,hd2,hf2,hn2,hfm2⟩
 have hB2:Below D w w2:=HB1.out.trans (hk2.below HDW.out HVF.out)
 have hDw2:D≤w2.heap.size:=Nat.le_trans HDW.out hk2.size
 have HB2:=h_ hB2
 have HDW2:Hid (D≤w2.heap.size):=h_ hDw2
 have hn2':d2.n=256:=hn2
 have HO:=h_ (xK0 hd2 (by rw[hn2'];decide) hfm2 (HG.out.below hB2 HD0.out) (by omega) (by omega) hDw2 HD0.out)
 rw[hv2.trans HVP.out] at HO
 have HN2:=h_ hn2'
 have HV2:=h_ (hv2.trans HVP.out)
 clear hk2 hv2 hM2 hd2 hf2 hn2 hfm2 hB2 hDw2 hn2' HF
 go_wp2_with fail
 refine HO.out.mono ?_
 rintro e w3 ⟨sb,rfl,hb3,F3,hst3⟩
 rw[HN2.out,HV2.out] at hst3
 have hB3:Below D w w3:=HB2.out.trans hb3
 have hDw3:D≤w3.heap.size:=Nat.le_trans HDW2.out hb3.size
 have HB3:=h_ hB3
 have HDW3:Hid (D≤w3.heap.size):=h_ hDw3
 have HOG:=h_ (xLl hst3 rfl (HG.out.below hB3 HD0.out) HD0.out hDw3 cos (by decide) xIf (by decide))
 rw[show str cos=⟨#[99,111,109,112,46,111,115]⟩ from rfl] at HOG
 clear hb3 hst3 hB3 hDw3 HO
 go_wp2_with fail
 refine HOG.out.mono ?_
 rintro e w4 ⟨rfl,hb4,_,F4,hst4,_⟩
 have hst4:StOk D w4 sb (D+1) 256 3 k1 F4:=hst4
 have hB4:=HB3.out.trans hb4
 have hD4:D≤w4.heap.size:=Nat.le_trans HDW3.out hb4.size
 have hF4:=hst4.flt
 obtain⟨w5,hw5⟩:∃ w5,w5=w4.alloc (.cells (encB tex).toArray 5):=⟨_,rfl⟩
 have hb45:Below w4.heap.size w4 w5:=by rw[hw5];exact b_ _ _
 have hmk:=xWx w4
 have hcv:(convert 66 9 (.slice (some ⟨w4.heap.size,0,none⟩) 100 100)).run Tryz.prog (w4.alloc (.cells (encB tex).toArray 5))=.ok (.string (str tex)) (w4.alloc (.cells (encB tex).toArray 5)):=by
  have:=xQa (a:=⟨w4.heap.size,0,none⟩) (cap:=100) (l:=tex) (vK w4 5 tex)
  rw[jg] at this
  exact this
 obtain⟨gb,hgb⟩:∃ gb,gb=w5.heap.size:=⟨_,rfl⟩
 obtain⟨w6,hw6⟩:∃ w6,w6=w5.alloc (.cells #[.string ⟨#[99,111,109,112,46,111,115]⟩] 9):=⟨_,rfl⟩
 have hb56:Below w5.heap.size w5 w6:=by rw[hw6];exact b_ _ _
 have hg6:w6.heap[gb]?=some (.cells #[.string (str cos)] 9 (0,0)):=by rw[hw6,hgb];exact heap_alloc_new w5 _
 obtain⟨p6,hp6⟩:∃ p6,p6=gb+1:=⟨_,rfl⟩
 have hs6:w6.heap.size=p6:=by rw[hw6,hp6,hgb];simp
 obtain⟨w7,hw7⟩:∃ w7,w7=w6.alloc (.cells (xZ (kA 1 gb)) 43):=⟨_,rfl⟩
 have hb67:Below w6.heap.size w6 w7:=by rw[hw7];exact b_ _ _
 have hn7:w7.heap[p6]?=some (.cells (xZ (kA 1 gb)) 43 (0,0)):=by rw[hw7,←hs6];exact heap_alloc_new w6 _
 obtain⟨p7,hp7⟩:∃ p7,p7=w7.heap.size:=⟨_,rfl⟩
 obtain⟨w8,hw8⟩:∃ w8,w8=w7.alloc (.cells (xZ (kA 1 gb)) 43):=⟨_,rfl⟩
 have hb78:Below w7.heap.size w7 w8:=by rw[hw8];exact b_ _ _
 have hn8:w8.heap[p7]?=some (.cells (xZ (kA 1 gb)) 43 (0,0)):=by rw[hw8,hp7];exact heap_alloc_new w7 _
 obtain⟨w9,hw9⟩:∃ w9,w9=w8.setRow p7 (xZ (kA 2 gb)):=⟨_,rfl⟩
 have hst9':=xYt w8 p7 (kA 1 gb) (idN 2) hn8
 rw[show ({ kA 1 gb with id:=idN 2 }:Art)=kA 2 gb from rfl,←hw9] at hst9'
 have hk89:Kept [p7] w8 w9:=by rw[hw9];exact qd w8 p7 _
 have hn9:w9.heap[p7]?=some (.cells (xZ (kA 2 gb)) 43 (0,0)):=by rw[hw9];exact setRow_heap _ _ _ _ _ _ hn8
 have z5:w4.heap.size≤gb:=by rw[hgb];exact hb45.size
 have z6:gb<p6:=by omega
 have z7:p6<p7:=by rw[hp7];exact(i_ hn7).1
 have z8:p7<w9.heap.size:=(i_ hn9).1
 have hp69:w9.heap[p6]?=some (.cells (xZ (kA 1 gb)) 43 (0,0)):=(hk89.block p6 (by have:=hb78.size;omega) (by simp;omega)).trans ((hb78.block p6 (by omega)).trans hn7)
 have hg9:w9.heap[gb]?=some (.cells #[.string (str cos)] 9 (0,0)):=(hk89.block gb (by have:=hb78.size;omega) (by simp;omega)).trans ((hb78.block gb (by omega)).trans ((hb67.block gb (by omega)).trans hg6))
 have hb48:Below w4.heap.size w4 w8:=hb45.trans ((hb56.trans ((hb67.trans (hb78.mono hb67.size)).mono hb56.size)).mono hb45.size)
 have hb49:Below w4.heap.size w4 w9:=hb48.trans (hk89.below hb48.size (fun k hk=>by rw[List.mem_singleton.1 hk];omega))
 have hst9:=hst4.below hb49
 have hB9:Below D w w9:=hB4.trans (hb49.mono hD4)
 have hD9:D≤w9.heap.size:=Nat.le_trans hD4 hb49.size
 have hgc9:w9.cell? ⟨gb,0,none⟩=some (.string (str cos)):=cell_of_row w9 gb 0 _ _ _ hg9
 have HP1:=h_ (xJz hst9 (HG.out.below hB9 HD0.out) HD0.out hD9 (idN 1) tex [] [] cos 5 6 gb 1 0 (kA 1 gb) rfl hgc9 (by omega) (yA1 1 (by decide)) xIf (by have:=xZ8;exact this) (by rw[jg];omega) (by rw[jg];omega) (by simp) (by simp) (by decide) (by omega) (by omega) rfl (by decide) rfl (by rw[jg];decide) (by decide) (by decide) rfl (by omega) rfl (by rw[xG3];decide))
 rw[xG3] at HP1
 obtain⟨o7,r7⟩:=xI (n:=40) hn7 (zL _)
 obtain⟨o9,r9⟩:=xI (n:=40) hp69 (zL _)
 have hft1:xy 40 (xZ ⟨idN 1,str tex,⟨#[]⟩,5,6,.slice (some ⟨w5.heap.size,0,none⟩) 1 1,⟨#[]⟩,.slice none 0 0,false⟩)=true:=xG6 rfl rfl
 have hft2:xy 40 (xZ (kA 1 gb))=true:=xG6 rfl rfl
 have hz40:((xZ xAa).size == 40)=true:=by rw[zL];rfl
 have HW:=h_ (And.intro z5 (And.intro z6 (And.intro z7 z8)))
 have HF4:=h_ hF4
 have HP69:=h_ hp69
 have HN9:=h_ hn9
 have HG9:=h_ hg9
 have HB9:=h_ hB9
 have HD9:Hid (D≤w9.heap.size):=h_ hD9
 have HL49:Hid (w4.heap.size≤w9.heap.size):=h_ hb49.size
 clear hs6 hb4 hst4 hB4 hD4 hF4 hb45 hb56 hg6 hb67 hn7 hb78 hn8 hk89 hn9 z5 z6 z7 z8 hp69 hg9 hb48 hb49 hst9 hB9 hD9 hgc9 HOG
 go_upto_region 8 with fail
 refine xu hw5 ?_
 clear hw5 hmk hcv
 go_upto_region 9 with fail
 rw[←hw6,←hgb,←hp6]
 refine xu hw7 ?_
 clear hw6 hw7 hgb hp6 hft1
 go_upto_region 10 with fail
 refine xu hw8 ?_
 rw[←hp7]
 clear hw8 hp7 o7 r7 hft2
 go_upto_region 11 with fail
 refine xu hw9 ?_
 clear hw9 hst9'
 go_wp2_with fail
 refine HP1.out.mono ?_
 rintro e w10 ⟨pb,pc,rfl,hb10,hk10,⟨F10,hst10,hpF,hF10⟩,hpB,hpl,hpc,hp0,hp1⟩
 have hst10:StOk D w10 sb (D+1) 256 4 (k2 gb) F10:=hst10
 have hB10:Below D w w10:=HB9.out.trans hb10
 have hD10:D≤w10.heap.size:=Nat.le_trans HD9.out hk10.size
 have hW:=HW.out
 have hL49:=HL49.out
 have hF4':=HF4.out
 have hn4:∀ k,w4.heap.size≤k→k ∉ F4:=fun k h hm=>by have:=(hF4' k hm).2;omega
 have hn10:∀ k,w4.heap.size≤k→k<w9.heap.size→k ∉ F10:=fun k h1 h2 hm=>by
  rcases hF10 k hm with h | h
  ·exact hn4 k h1 h
  ·omega
 have hg10:=(hk10.block gb (by omega) (hn4 gb hW.1)).trans HG9.out
 have hp610:=(hk10.block p6 (by omega) (hn4 p6 (by omega))).trans HP69.out
 have hp710:=(hk10.block p7 (by omega) (hn4 p7 (by omega))).trans HN9.out
 have HRM:=h_ (xLi hst10 (HG.out.below hB10 HD0.out) HD0.out hD10 (str cos) 1 (kP 1 1) rfl kArt (kEnt 1 0) (yAy gb) (by rw[xHq];show (str tex).size≤100;rw[xGf];omega) (by rw[xHq];omega) rfl (by omega) rfl (xZa gb) rfl (by decide))
 obtain⟨o10,r10⟩:=xIp (l:=[]) (w:=w10) (b:=p6) (a:=kA 1 gb) (by rw[List.append_nil];exact hp610)
 have HN10:=h_ hn10
 have HF10:=h_ hpF
 have HG10:=h_ hg10
 have HP610:=h_ hp610
 have HP710:=h_ hp710
 have HB10:=h_ hB10
 have HD10:Hid (D≤w10.heap.size):=h_ hD10
 have HPB:=h_ (And.intro hpB (And.intro hpl (And.intro hp0 hp1)))
 have HZ10:Hid (w9.heap.size≤w10.heap.size):=h_ hk10.size
 have hpcz:(1:Int)≤pc:=by omega
 clear hb10 hk10 hst10 hpF hF10 hpB hpl hpc hp0 hp1 hB10 hD10 hW hL49 hF4' hn4 hn10 hg10 hp610 hp710 HP1 o9 r9
 go_wp2_with fail
 refine HRM.out.mono ?_
 rintro e w11 ⟨rfl,hb11,hk11,F11,hst11,hF11⟩
 have hst11:StOk D w11 sb (D+1) 256 5 (k3 gb) F11:=hst11
 have hB11:Below D w w11:=HB10.out.trans hb11
 have hD11:D≤w11.heap.size:=Nat.le_trans HD10.out hk11.size
 have hW:=HW.out
 have hPB:=HPB.out
 have hZ10:=HZ10.out
 have hL49:=HL49.out
 have hn11:∀ k,k ∉ F10→k<w10.heap.size→k ∉ F11:=fun k h1 h2 hm=>by
  rcases hF11 k hm with h | h
  ·exact h1 h
  ·omega
 have q1:=HN10.out gb (by omega) (by omega)
 have q2:=HN10.out p6 (by omega) (by omega)
 have q3:=HN10.out p7 (by omega) (by omega)
 have hg11:=(hk11.block gb (by omega) q1).trans HG10.out
 have hp611:=(hk11.block p6 (by omega) q2).trans HP610.out
 have hp711:=(hk11.block p7 (by omega) q3).trans HP710.out
 have hpb11:=hk11.block pb hPB.2.1 HF10.out
 have hp0':=(World.cell?_of_block (a:=⟨pb,0,none⟩) hpb11).trans hPB.2.2.1
 have hp1':=(World.cell?_of_block (a:=⟨pb,1,none⟩) hpb11).trans hPB.2.2.2
 have HP2:=h_ (xJz hst11 (HG.out.below hB11 HD0.out) HD0.out hD11 (idN 2) tex [] [] cos 5 6 gb 1 1 (kA 2 gb) rfl (cell_of_row w11 gb 0 _ _ _ hg11) (by omega) (yA1 2 (by decide)) xIf (by have:=xZ7;exact this) (by rw[jg];omega) (by rw[jg];omega) (by simp) (by simp) (by decide) (by omega) (by omega) (xX5 gb) (by rw[xRv];decide) rfl (by rw[xX6,jg];show 0+100≤1000;omega) (by show 1000≤_;omega) (by show 0+1≤1000;omega) rfl (by omega) rfl (by rw[xG3];decide))
 rw[xG3] at HP2
 obtain⟨o11,r11⟩:=xI (n:=40) hp711 (zL _)
 have HQ11:=h_ (And.intro (hn11 gb q1 (by omega)) (And.intro (hn11 p6 q2 (by omega)) (hn11 pb HF10.out hPB.2.1)))
 have HP611:=h_ hp611
 have HPB11:=h_ (And.intro hp0' hp1')
 have HB11:=h_ hB11
 have HZ11:Hid (w10.heap.size≤w11.heap.size):=h_ hk11.size
 have HD11:Hid (D≤w11.heap.size):=h_ hD11
 clear hb11 hk11 hst11 hF11 hB11 hD11 hW hPB hZ10 hL49 hn11 q1 q2 q3 hg11 hp611 hp711 hpb11 hp0' hp1' HRM o10 r10
 go_wp2_with fail
 refine HP2.out.mono ?_
 rintro e w12 ⟨qb,qc,rfl,hb12,hk12,⟨F12,hst12,_,_⟩,hqB,hql,hqc,hq0,hq1⟩
 have hst12:StOk D w12 sb (D+1) 256 6 (k4 gb) F12:=hst12
 have hpl:pb<w11.heap.size:=block_lt_of_cell HPB11.out.1
 have hpb12:=hk12.block pb hpl HQ11.out.2.2
 have hp0':=(World.cell?_of_block (a:=⟨pb,0,none⟩) hpb12).trans HPB11.out.1
 have hp1':=(World.cell?_of_block (a:=⟨pb,1,none⟩) hpb12).trans HPB11.out.2
 have hp612:=(hk12.block p6 (i_ HP611.out).1 HQ11.out.2.1).trans HP611.out
 have HB12:=h_ (HB11.out.trans hb12)
 have HST12:=h_ hst12
 have HPB12:=h_ (And.intro hp0' hp1')
 have HQB12:=h_ (And.intro hq0 hq1)
 have HP612:=h_ hp612
 have HD12:Hid (D≤w12.heap.size):=h_ (Nat.le_trans HD11.out hk12.size)
 have hqcz:(1:Int)≤qc:=by omega
 clear hb12 hk12 hst12 hqB hql hqc hq0 hq1 hpl hpb12 hp0' hp1' hp612 HP2 o11 r11
 go_upto_region 14 with fail
 go_cut [13,14] from 67 to 75 (fun a b wx=>b=.bool true∧∃ bA,a=.pointer (some ⟨bA,0,none⟩)∧Hid (wx.heap[bA]?=some (.cells (xr (kEnt 1 1)) 68 (0,0)))∧Hid (Below w12.heap.size w12 wx))
 case first =>
  rename_i J K' hJ hK
  have z1:∀ z:xf w12,xq z.1 ⟨p6,0,none⟩ 32=true:=fun z=>(xIp (l:=[]) (w:=z.1) (b:=p6) (a:=kA 1 gb) (by rw[List.append_nil];exact(z.2.block _ (i_ HP612.out).1).trans HP612.out)).1
  have z2:∀ z:xf w12,xp z.1 ⟨p6,0,none⟩ 32=(xB (idN 1)).toArray:=fun z=>(xIp (l:=[]) (w:=z.1) (b:=p6) (a:=kA 1 gb) (by rw[List.append_nil];exact(z.2.block _ (i_ HP612.out).1).trans HP612.out)).2
  refine xGa [0,2,3] [1,4,5,6,7,8,9,10] 8 (fun w'=>∃ z:xf w12,w'=z.1) (by kernel_rfl) (by kernel_rfl) rfl ⟨⟨_,(Below.refl _ _).drew⟩,rfl⟩ ?_
  simp only[o_]
  repeat (go_big_quiet_step (fail))
  refine wpQuiet_nil ?_
  clear z1 z2
  generalize hWd:w12.drew=W0
  have HB_0:Hid (Below w12.heap.size w12 W0):=h_ (by rw[←hWd];exact(Below.refl _ _).drew)
  clear hWd
  have hft:xy 36 (xr (kEnt 1 1))=true:=by kernel_rfl
  refine uU (r:=1) (s:=8) (by kernel_rfl) ?_ ?_
  ·refine yQ true (by kernel_rfl) (by kernel_rfl) (rest:=[4,5,6,7,8,9,10]) rfl ?_
   simp only[o_]
   go_wp2_with fail
   refine(xBt (HST12.out.below HB_0.out)).mono ?_
   rintro e W4 ⟨hbx,v,rfl,hat,hkv⟩
   have HH:=h_ (hat.base HB_0.out.size)
   have HK:=h_ hkv
   have HB_4:=h_ (HB_0.out.trans (hbx.mono HB_0.out.size))
   clear hbx hat hkv
   go_wp2_with fail
   refine⟨fun _=>⟨⟨_,HB_4.out⟩,rfl⟩,?_⟩
   refine uU (r:=4) (s:=8) (by kernel_rfl) ?_ ?_
   ·refine yQ false (by kernel_rfl) (by kernel_rfl) (rest:=[5,6,7,8,9,10]) rfl ?_
    simp only[o_]
    go_wp2_with fail
    refine(kn4 HH.out HK.out).mono ?_
    rintro e W5 ⟨hbx,rfl⟩
    have HB_5:=h_ (HB_4.out.trans (hbx.mono HB_4.out.size))
    clear hbx HH HK
    go_wp2_with fail
    refine⟨fun _=>⟨⟨_,HB_5.out⟩,rfl⟩,?_⟩
    refine uU (r:=5) (s:=8) (by kernel_rfl) ?_ ?_
    ·refine yQ false (by kernel_rfl) (by kernel_rfl) (rest:=[6,7,8,9,10]) rfl ?_
     simp only[o_]
     go_wp2_with fail
     refine⟨fun _=>⟨⟨_,HB_5.out⟩,rfl⟩,?_⟩
     refine xTx (r:=6) (s:=7) (t:=8) (by kernel_rfl) ?_ ?_ ?_
     ·refine yQ false (by kernel_rfl) (by kernel_rfl) (rest:=[7,8,9,10]) rfl ?_
      simp only[o_]
      go_wp2_with fail
      refine⟨fun _=>⟨⟨_,HB_5.out⟩,rfl⟩,?_⟩
      refine uU (r:=7) (s:=8) (by kernel_rfl) ?_ ?_
      ·refine yQ false (by kernel_rfl) (by kernel_rfl) (rest:=[8,9,10]) rfl ?_
       simp only[o_]
       go_wp2_with fail
       refine⟨fun _=>⟨⟨_,HB_5.out⟩,rfl⟩,?_⟩
       refine jL (r:=8) (by kernel_rfl) ?_
       refine yQ true (by kernel_rfl) (by kernel_rfl) (rest:=[9,10]) rfl ?_
       simp only[o_]
       go_wp2_with fail
       obtain⟨W9,bA,e1,e2,hbx,HA,HBA,HB_9⟩:=kn8 HB_5.out
       rw[e1,e2]
       clear hbx e1 e2
       refine⟨fun _=>⟨⟨_,HB_9.out⟩,rfl⟩,?_⟩
       refine zE [9,10] rfl (by kernel_rfl) (by kernel_rfl) (by kernel_rfl) (xG [9,10] _ _ (by kernel_rfl) ?_)
       simp only[o_]
       have hro:=zq HA.out (xL _)
       go_wp2_with fail
       obtain⟨W10,e1,HC,HB_10⟩:=kn9 HA.out HBA.out HB_9.out
       rw[e1]
       clear e1 hro HA
       refine NoPanic.normal ?_
       refine hK _ _ ?_
       go_meet
       exact⟨rfl,_,rfl,HC,HB_10⟩
      ·refine yQ true (by kernel_rfl) (by kernel_rfl) (rest:=[7,9,10]) rfl ?_
       simp only[o_]
       go_wp2_with fail
       obtain⟨W8,bA,e1,e2,hbx,HA,HBA,HB_8⟩:=kn8 HB_5.out
       rw[e1,e2]
       clear hbx e1 e2
       refine⟨fun _=>⟨⟨_,HB_8.out⟩,rfl⟩,?_⟩
       refine uU (r:=7) (s:=9) (by kernel_rfl) ?_ ?_
       ·refine yQ false (by kernel_rfl) (by kernel_rfl) (rest:=[9,10]) rfl ?_
        simp only[o_]
        go_wp2_with fail
        refine⟨fun _=>⟨⟨_,HB_8.out⟩,rfl⟩,?_⟩
        refine zE [9,10] rfl (by kernel_rfl) (by kernel_rfl) (by kernel_rfl) (xG [9,10] _ _ (by kernel_rfl) ?_)
        simp only[o_]
        have hro:=zq HA.out (xL _)
        go_wp2_with fail
        obtain⟨W10,e1,HC,HB_10⟩:=kn9 HA.out HBA.out HB_8.out
        rw[e1]
        clear e1 hro HA
        refine NoPanic.normal ?_
        refine hK _ _ ?_
        go_meet
        exact⟨rfl,_,rfl,HC,HB_10⟩
       ·refine yQ false (by kernel_rfl) (by kernel_rfl) (rest:=[7,10]) rfl ?_
        simp only[o_]
        have hro:=zq HA.out (xL _)
        go_wp2_with fail
        obtain⟨W9,e1,HC,HB_9⟩:=kn9 HA.out HBA.out HB_8.out
        rw[e1]
        clear e1 hro HA
        refine⟨fun _=>⟨⟨_,HB_9.out⟩,rfl⟩,?_⟩
        refine zE [7,10] rfl (by kernel_rfl) (by kernel_rfl) (by kernel_rfl) (xG [7,10] _ _ (by kernel_rfl) ?_)
        simp only[o_]
        go_wp2_with fail
        refine NoPanic.normal ?_
        refine hK _ _ ?_
        go_meet
        exact⟨rfl,_,rfl,HC,HB_9⟩
     ·refine yQ false (by kernel_rfl) (by kernel_rfl) (rest:=[6,8,9,10]) rfl ?_
      simp only[o_]
      go_wp2_with fail
      refine⟨fun _=>⟨⟨_,HB_5.out⟩,rfl⟩,?_⟩
      refine uU (r:=6) (s:=8) (by kernel_rfl) ?_ ?_
      ·refine yQ false (by kernel_rfl) (by kernel_rfl) (rest:=[8,9,10]) rfl ?_
       simp only[o_]
       go_wp2_with fail
       refine⟨fun _=>⟨⟨_,HB_5.out⟩,rfl⟩,?_⟩
       refine jL (r:=8) (by kernel_rfl) ?_
       refine yQ true (by kernel_rfl) (by kernel_rfl) (rest:=[9,10]) rfl ?_
       simp only[o_]
       go_wp2_with fail
       obtain⟨W9,bA,e1,e2,hbx,HA,HBA,HB_9⟩:=kn8 HB_5.out
       rw[e1,e2]
       clear hbx e1 e2
       refine⟨fun _=>⟨⟨_,HB_9.out⟩,rfl⟩,?_⟩
       refine zE [9,10] rfl (by kernel_rfl) (by kernel_rfl) (by kernel_rfl) (xG [9,10] _ _ (by kernel_rfl) ?_)
       simp only[o_]
       have hro:=zq HA.out (xL _)
       go_wp2_with fail
       obtain⟨W10,e1,HC,HB_10⟩:=kn9 HA.out HBA.out HB_9.out
       rw[e1]
       clear e1 hro HA
       refine NoPanic.normal ?_
       refine hK _ _ ?_
       go_meet
       exact⟨rfl,_,rfl,HC,HB_10⟩
      ·refine yQ true (by kernel_rfl) (by kernel_rfl) (rest:=[6,9,10]) rfl ?_
       simp only[o_]
       go_wp2_with fail
       obtain⟨W8,bA,e1,e2,hbx,HA,HBA,HB_8⟩:=kn8 HB_5.out
       rw[e1,e2]
       clear hbx e1 e2
       refine⟨fun _=>⟨⟨_,HB_8.out⟩,rfl⟩,?_⟩
       refine zE [6,9,10] rfl (by kernel_rfl) (by kernel_rfl) (by kernel_rfl) (xG [6,9,10] _ _ (by kernel_rfl) ?_)
       simp only[o_]
       have hro:=zq HA.out (xL _)
       go_wp2_with fail
       obtain⟨W9,e1,HC,HB_9⟩:=kn9 HA.out HBA.out HB_8.out
       rw[e1]
       clear e1 hro HA
       refine NoPanic.normal ?_
       refine hK _ _ ?_
       go_meet
       exact⟨rfl,_,rfl,HC,HB_9⟩
     ·refine yQ true (by kernel_rfl) (by kernel_rfl) (rest:=[6,7,9,10]) rfl ?_
      simp only[o_]
      go_wp2_with fail
      obtain⟨W7,bA,e1,e2,hbx,HA,HBA,HB_7⟩:=kn8 HB_5.out
      rw[e1,e2]
      clear hbx e1 e2
      refine⟨fun _=>⟨⟨_,HB_7.out⟩,rfl⟩,?_⟩
      refine uU (r:=6) (s:=7) (by kernel_rfl) ?_ ?_
      ·refine yQ false (by kernel_rfl) (by kernel_rfl) (rest:=[7,9,10]) rfl ?_
       simp only[o_]
       go_wp2_with fail
       refine⟨fun _=>⟨⟨_,HB_7.out⟩,rfl⟩,?_⟩
       refine uU (r:=7) (s:=9) (by kernel_rfl) ?_ ?_
       ·refine yQ false (by kernel_rfl) (by kernel_rfl) (rest:=[9,10]) rfl ?_
        simp only[o_]
        go_wp2_with fail
        refine⟨fun _=>⟨⟨_,HB_7.out⟩,rfl⟩,?_⟩
        refine zE [9,10] rfl (by kernel_rfl) (by kernel_rfl) (by kernel_rfl) (xG [9,10] _ _ (by kernel_rfl) ?_)
        simp only[o_]
        have hro:=zq HA.out (xL _)
        go_wp2_with fail
        obtain⟨W10,e1,HC,HB_10⟩:=kn9 HA.out HBA.out HB_7.out
        rw[e1]
        clear e1 hro HA
        refine NoPanic.normal ?_
        refine hK _ _ ?_
        go_meet
        exact⟨rfl,_,rfl,HC,HB_10⟩
       ·refine yQ false (by kernel_rfl) (by kernel_rfl) (rest:=[7,10]) rfl ?_
        simp only[o_]
        have hro:=zq HA.out (xL _)
        go_wp2_with fail
        obtain⟨W9,e1,HC,HB_9⟩:=kn9 HA.out HBA.out HB_7.out
        rw[e1]
        clear e1 hro HA
        refine⟨fun _=>⟨⟨_,HB_9.out⟩,rfl⟩,?_⟩
        refine zE [7,10] rfl (by kernel_rfl) (by kernel_rfl) (by kernel_rfl) (xG [7,10] _ _ (by kernel_rfl) ?_)
        simp only[o_]
        go_wp2_with fail
        refine NoPanic.normal ?_
        refine hK _ _ ?_
        go_meet
        exact⟨rfl,_,rfl,HC,HB_9⟩
      ·refine yQ false (by kernel_rfl) (by kernel_rfl) (rest:=[6,9,10]) rfl ?_
       simp only[o_]
       go_wp2_with fail
       refine⟨fun _=>⟨⟨_,HB_7.out⟩,rfl⟩,?_⟩
       refine zE [6,9,10] rfl (by kernel_rfl) (by kernel_rfl) (by kernel_rfl) (xG [6,9,10] _ _ (by kernel_rfl) ?_)
       simp only[o_]
       have hro:=zq HA.out (xL _)
       go_wp2_with fail
       obtain⟨W9,e1,HC,HB_9⟩:=kn9 HA.out HBA.out HB_7.out
       rw[e1]
       clear e1 hro HA
       refine NoPanic.normal ?_
       refine hK _ _ ?_
       go_meet
       exact⟨rfl,_,rfl,HC,HB_9⟩
    ·refine yQ true (by kernel_rfl) (by kernel_rfl) (rest:=[5,6,7,9,10]) rfl ?_
     simp only[o_]
     go_wp2_with fail
     obtain⟨W6,bA,e1,e2,hbx,HA,HBA,HB_6⟩:=kn8 HB_5.out
     rw[e1,e2]
     clear hbx e1 e2
     refine⟨fun _=>⟨⟨_,HB_6.out⟩,rfl⟩,?_⟩
     refine jL (r:=5) (by kernel_rfl) ?_
     refine yQ false (by kernel_rfl) (by kernel_rfl) (rest:=[6,7,9,10]) rfl ?_
     simp only[o_]
     go_wp2_with fail
     refine⟨fun _=>⟨⟨_,HB_6.out⟩,rfl⟩,?_⟩
     refine uU (r:=6) (s:=7) (by kernel_rfl) ?_ ?_
     ·refine yQ false (by kernel_rfl) (by kernel_rfl) (rest:=[7,9,10]) rfl ?_
      simp only[o_]
      go_wp2_with fail
      refine⟨fun _=>⟨⟨_,HB_6.out⟩,rfl⟩,?_⟩
      refine uU (r:=7) (s:=9) (by kernel_rfl) ?_ ?_
      ·refine yQ false (by kernel_rfl) (by kernel_rfl) (rest:=[9,10]) rfl ?_
       simp only[o_]
       go_wp2_with fail
       refine⟨fun _=>⟨⟨_,HB_6.out⟩,rfl⟩,?_⟩
       refine zE [9,10] rfl (by kernel_rfl) (by kernel_rfl) (by kernel_rfl) (xG [9,10] _ _ (by kernel_rfl) ?_)
       simp only[o_]
       have hro:=zq HA.out (xL _)
       go_wp2_with fail
       obtain⟨W10,e1,HC,HB_10⟩:=kn9 HA.out HBA.out HB_6.out
       rw[e1]
       clear e1 hro HA
       refine NoPanic.normal ?_
       refine hK _ _ ?_
       go_meet
       exact⟨rfl,_,rfl,HC,HB_10⟩
      ·refine yQ false (by kernel_rfl) (by kernel_rfl) (rest:=[7,10]) rfl ?_
       simp only[o_]
       have hro:=zq HA.out (xL _)
       go_wp2_with fail
       obtain⟨W9,e1,HC,HB_9⟩:=kn9 HA.out HBA.out HB_6.out
       rw[e1]
       clear e1 hro HA
       refine⟨fun _=>⟨⟨_,HB_9.out⟩,rfl⟩,?_⟩
       refine zE [7,10] rfl (by kernel_rfl) (by kernel_rfl) (by kernel_rfl) (xG [7,10] _ _ (by kernel_rfl) ?_)
       simp only[o_]
       go_wp2_with fail
       refine NoPanic.normal ?_
       refine hK _ _ ?_
       go_meet
       exact⟨rfl,_,rfl,HC,HB_9⟩
     ·refine yQ false (by kernel_rfl) (by kernel_rfl) (rest:=[6,9,10]) rfl ?_
      simp only[o_]
      go_wp2_with fail
      refine⟨fun _=>⟨⟨_,HB_6.out⟩,rfl⟩,?_⟩
      refine zE [6,9,10] rfl (by kernel_rfl) (by kernel_rfl) (by kernel_rfl) (xG [6,9,10] _ _ (by kernel_rfl) ?_)
      simp only[o_]
      have hro:=zq HA.out (xL _)
      go_wp2_with fail
      obtain⟨W9,e1,HC,HB_9⟩:=kn9 HA.out HBA.out HB_6.out
      rw[e1]
      clear e1 hro HA
      refine NoPanic.normal ?_
      refine hK _ _ ?_
      go_meet
      exact⟨rfl,_,rfl,HC,HB_9⟩
   ·refine yQ true (by kernel_rfl) (by kernel_rfl) (rest:=[4,5,6,7,9,10]) rfl ?_
    simp only[o_]
    go_wp2_with fail
    obtain⟨W5,bA,e1,e2,hbx,HA,HBA,HB_5⟩:=kn8 HB_4.out
    rw[e1,e2]
    have HH:=h_ (HH.out.below hbx)
    clear hbx e1 e2
    refine⟨fun _=>⟨⟨_,HB_5.out⟩,rfl⟩,?_⟩
    refine jL (r:=4) (by kernel_rfl) ?_
    refine yQ false (by kernel_rfl) (by kernel_rfl) (rest:=[5,6,7,9,10]) rfl ?_
    simp only[o_]
    go_wp2_with fail
    refine(kn4 HH.out HK.out).mono ?_
    rintro e W6 ⟨hbx,rfl⟩
    have HB_6:=h_ (HB_5.out.trans (hbx.mono HB_5.out.size))
    have HA:=h_ ((hbx.block _ (i_ HA.out).1).trans HA.out)
    clear hbx HH HK
    go_wp2_with fail
    refine⟨fun _=>⟨⟨_,HB_6.out⟩,rfl⟩,?_⟩
    refine jL (r:=5) (by kernel_rfl) ?_
    refine yQ false (by kernel_rfl) (by kernel_rfl) (rest:=[6,7,9,10]) rfl ?_
    simp only[o_]
    go_wp2_with fail
    refine⟨fun _=>⟨⟨_,HB_6.out⟩,rfl⟩,?_⟩
    refine uU (r:=6) (s:=7) (by kernel_rfl) ?_ ?_
    ·refine yQ false (by kernel_rfl) (by kernel_rfl) (rest:=[7,9,10]) rfl ?_
     simp only[o_]
     go_wp2_with fail
     refine⟨fun _=>⟨⟨_,HB_6.out⟩,rfl⟩,?_⟩
     refine uU (r:=7) (s:=9) (by kernel_rfl) ?_ ?_
     ·refine yQ false (by kernel_rfl) (by kernel_rfl) (rest:=[9,10]) rfl ?_
      simp only[o_]
      go_wp2_with fail
      refine⟨fun _=>⟨⟨_,HB_6.out⟩,rfl⟩,?_⟩
      refine zE [9,10] rfl (by kernel_rfl) (by kernel_rfl) (by kernel_rfl) (xG [9,10] _ _ (by kernel_rfl) ?_)
      simp only[o_]
      have hro:=zq HA.out (xL _)
      go_wp2_with fail
      obtain⟨W10,e1,HC,HB_10⟩:=kn9 HA.out HBA.out HB_6.out
      rw[e1]
      clear e1 hro HA
      refine NoPanic.normal ?_
      refine hK _ _ ?_
      go_meet
      exact⟨rfl,_,rfl,HC,HB_10⟩
     ·refine yQ false (by kernel_rfl) (by kernel_rfl) (rest:=[7,10]) rfl ?_
      simp only[o_]
      have hro:=zq HA.out (xL _)
      go_wp2_with fail
      obtain⟨W9,e1,HC,HB_9⟩:=kn9 HA.out HBA.out HB_6.out
      rw[e1]
      clear e1 hro HA
      refine⟨fun _=>⟨⟨_,HB_9.out⟩,rfl⟩,?_⟩
      refine zE [7,10] rfl (by kernel_rfl) (by kernel_rfl) (by kernel_rfl) (xG [7,10] _ _ (by kernel_rfl) ?_)
      simp only[o_]
      go_wp2_with fail
      refine NoPanic.normal ?_
      refine hK _ _ ?_
      go_meet
      exact⟨rfl,_,rfl,HC,HB_9⟩
    ·refine yQ false (by kernel_rfl) (by kernel_rfl) (rest:=[6,9,10]) rfl ?_
     simp only[o_]
     go_wp2_with fail
     refine⟨fun _=>⟨⟨_,HB_6.out⟩,rfl⟩,?_⟩
     refine zE [6,9,10] rfl (by kernel_rfl) (by kernel_rfl) (by kernel_rfl) (xG [6,9,10] _ _ (by kernel_rfl) ?_)
     simp only[o_]
     have hro:=zq HA.out (xL _)
     go_wp2_with fail
     obtain⟨W9,e1,HC,HB_9⟩:=kn9 HA.out HBA.out HB_6.out
     rw[e1]
     clear e1 hro HA
     refine NoPanic.normal ?_
     refine hK _ _ ?_
     go_meet
     exact⟨rfl,_,rfl,HC,HB_9⟩
  ·refine yQ true (by kernel_rfl) (by kernel_rfl) (rest:=[1,4,5,6,7,9,10]) rfl ?_
   simp only[o_]
   go_wp2_with fail
   obtain⟨W4,bA,e1,e2,hbx,HA,HBA,HB_4⟩:=kn8 HB_0.out
   rw[e1,e2]
   clear hbx e1 e2
   refine⟨fun _=>⟨⟨_,HB_4.out⟩,rfl⟩,?_⟩
   refine jL (r:=1) (by kernel_rfl) ?_
   refine yQ true (by kernel_rfl) (by kernel_rfl) (rest:=[4,5,6,7,9,10]) rfl ?_
   simp only[o_]
   go_wp2_with fail
   refine(xBt (HST12.out.below HB_4.out)).mono ?_
   rintro e W5 ⟨hbx,v,rfl,hat,hkv⟩
   have HH:=h_ (hat.base HB_4.out.size)
   have HK:=h_ hkv
   have HB_5:=h_ (HB_4.out.trans (hbx.mono HB_4.out.size))
   have HA:=h_ ((hbx.block _ (i_ HA.out).1).trans HA.out)
   clear hbx hat hkv
   go_wp2_with fail
   refine⟨fun _=>⟨⟨_,HB_5.out⟩,rfl⟩,?_⟩
   refine jL (r:=4) (by kernel_rfl) ?_
   refine yQ false (by kernel_rfl) (by kernel_rfl) (rest:=[5,6,7,9,10]) rfl ?_
   simp only[o_]
   go_wp2_with fail
   refine(kn4 HH.out HK.out).mono ?_
   rintro e W6 ⟨hbx,rfl⟩
   have HB_6:=h_ (HB_5.out.trans (hbx.mono HB_5.out.size))
   have HA:=h_ ((hbx.block _ (i_ HA.out).1).trans HA.out)
   clear hbx HH HK
   go_wp2_with fail
   refine⟨fun _=>⟨⟨_,HB_6.out⟩,rfl⟩,?_⟩
   refine jL (r:=5) (by kernel_rfl) ?_
   refine yQ false (by kernel_rfl) (by kernel_rfl) (rest:=[6,7,9,10]) rfl ?_
   simp only[o_]
   go_wp2_with fail
   refine⟨fun _=>⟨⟨_,HB_6.out⟩,rfl⟩,?_⟩
   refine uU (r:=6) (s:=7) (by kernel_rfl) ?_ ?_
   ·refine yQ false (by kernel_rfl) (by kernel_rfl) (rest:=[7,9,10]) rfl ?_
    simp only[o_]
    go_wp2_with fail
    refine⟨fun _=>⟨⟨_,HB_6.out⟩,rfl⟩,?_⟩
    refine uU (r:=7) (s:=9) (by kernel_rfl) ?_ ?_
    ·refine yQ false (by kernel_rfl) (by kernel_rfl) (rest:=[9,10]) rfl ?_
     simp only[o_]
     go_wp2_with fail
     refine⟨fun _=>⟨⟨_,HB_6.out⟩,rfl⟩,?_⟩
     refine zE [9,10] rfl (by kernel_rfl) (by kernel_rfl) (by kernel_rfl) (xG [9,10] _ _ (by kernel_rfl) ?_)
     simp only[o_]
     have hro:=zq HA.out (xL _)
     go_wp2_with fail
     obtain⟨W10,e1,HC,HB_10⟩:=kn9 HA.out HBA.out HB_6.out
     rw[e1]
     clear e1 hro HA
     refine NoPanic.normal ?_
     refine hK _ _ ?_
     go_meet
     exact⟨rfl,_,rfl,HC,HB_10⟩
    ·refine yQ false (by kernel_rfl) (by kernel_rfl) (rest:=[7,10]) rfl ?_
     simp only[o_]
     have hro:=zq HA.out (xL _)
     go_wp2_with fail
     obtain⟨W9,e1,HC,HB_9⟩:=kn9 HA.out HBA.out HB_6.out
     rw[e1]
     clear e1 hro HA
     refine⟨fun _=>⟨⟨_,HB_9.out⟩,rfl⟩,?_⟩
     refine zE [7,10] rfl (by kernel_rfl) (by kernel_rfl) (by kernel_rfl) (xG [7,10] _ _ (by kernel_rfl) ?_)
     simp only[o_]
     go_wp2_with fail
     refine NoPanic.normal ?_
     refine hK _ _ ?_
     go_meet
     exact⟨rfl,_,rfl,HC,HB_9⟩
   ·refine yQ false (by kernel_rfl) (by kernel_rfl) (rest:=[6,9,10]) rfl ?_
    simp only[o_]
    go_wp2_with fail
    refine⟨fun _=>⟨⟨_,HB_6.out⟩,rfl⟩,?_⟩
    refine zE [6,9,10] rfl (by kernel_rfl) (by kernel_rfl) (by kernel_rfl) (xG [6,9,10] _ _ (by kernel_rfl) ?_)
    simp only[o_]
    have hro:=zq HA.out (xL _)
    go_wp2_with fail
    obtain⟨W9,e1,HC,HB_9⟩:=kn9 HA.out HBA.out HB_6.out
    rw[e1]
    clear e1 hro HA
    refine NoPanic.normal ?_
    refine hK _ _ ?_
    go_meet
    exact⟨rfl,_,rfl,HC,HB_9⟩
 case rest =>
  obtain⟨rfl,bA,rfl,hC,hBc⟩:=hcut
  have hb:=hBc.out
  have c0:=(World.cell?_of_block (a:=⟨pb,0,none⟩) (hb.block pb (block_lt_of_cell HPB12.out.1))).trans HPB12.out.1
  have c1:=(World.cell?_of_block (a:=⟨pb,1,none⟩) (hb.block pb (block_lt_of_cell HPB12.out.1))).trans HPB12.out.2
  have c2:=(World.cell?_of_block (a:=⟨qb,1,none⟩) (hb.block qb (block_lt_of_cell HQB12.out.1))).trans HQB12.out.2
  have c3:=cell_of_row wc bA 34 _ _ _ hC.out
  rw[show (xr (kEnt 1 1))[34]?=some (.int .i64 1) by rfl] at c3
  rw[show ((0:Nat):Int)+1=1 from rfl] at c1
  rw[show ((1:Nat):Int)+1=2 from rfl] at c2
  rw[show str cos=⟨#[99,111,109,112,46,111,115]⟩ from rfl] at c0
  obtain⟨o1,r1⟩:=y7 (w:=wc) (a:=⟨pb,0,none⟩) (cs:=[.string ⟨#[99,111,109,112,46,111,115]⟩,.int .i64 1]) (fun j v hj=>by
   match j,hj with
   | 0,hj=>cases hj;exact c0
   | 1,hj=>cases hj;exact c1)
  have o1:xq wc ⟨pb,0,none⟩ 2=true:=o1
  have r1:xp wc ⟨pb,0,none⟩ 2=#[.string ⟨#[99,111,109,112,46,111,115]⟩,.int .i64 1]:=r1
  have HFR:=h_ (xQz (HST12.out.below hb))
  have HBD:=h_ (HB12.out.trans (hb.mono HD12.out))
  rw[HD.out] at HBD
  clear hb hC hBc c0 c1
  go_wp2_with fail
  refine HFR.out.mono ?_
  rintro e w13 ⟨rfl,hb13⟩
  have hB13:Below w.heap.size w w13:=HBD.out.trans (hb13.mono HBD.out.size)
  rw[show ((256 / 2-6:Nat):Int)=122 from rfl]
  go_wp2
  go_ret
  exact⟨rfl,hB13⟩
end
section
theorem xSf {d:PD}{n:Nat}(h2:2≤n)(h:∀ s,s<n→decP sha (d.vis s)=none):curP sha n d=none:=by
 obtain⟨m,hm⟩:∃ m,n / 2=m+1:=⟨n / 2-1,by omega⟩
 have hl:∀ a,a*(m+1)+0<n→zg sha a (d.area n a)=none:=by
  intro a ha
  unfold PD.area
  rw[hm,List.range_succ_eq_map]
  unfold zg
  simp only[List.map_cons]
  rw[h _ ha]
 unfold curP
 rw[hl 0 (by omega),hl 1 (by omega)]
theorem xYy (count:Int):∃ n:Nat,1≤n∧n≤200∧wrap64 (1+wrap64 ((IntKind.u64.wrap count).tmod 200))=(n:Int):=by
 have h0:0≤IntKind.u64.wrap count:=by
  simp only[IntKind.wrap,IntKind.signed,IntKind.bits]
  exact Int.emod_nonneg _ (by decide)
 rw[Int.tmod_eq_emod_of_nonneg h0]
 have h1:=Int.emod_nonneg (IntKind.u64.wrap count) (show (200:Int)≠0 by decide)
 have h2:=Int.emod_lt_of_pos (IntKind.u64.wrap count) (show (0:Int)<200 by decide)
 rw[IntWalk.wrap64_in (IntKind.u64.wrap count % 200) (by omega),IntWalk.wrap64_in _ (by omega)]
 exact⟨(1+IntKind.u64.wrap count % 200).toNat,by omega,by omega,by omega⟩
attribute [local go_sem ↓] xJm j7 yp yh yq
attribute [local go_sem] zG zF zt zw xj xh xe xd xA xz xo xl xt xC xx
theorem sterr_any {w:World}(hG:Gl w)(count budget:Int)(hb1:-9223372036854775808≤budget)(hb2:budget≤9223372036854775807)(group:ByteArray) :
  Calls Tryz.prog 3 #[.int .i64 count,.int .i64 budget,.string group] w fun e w'=>e=.returned (.bool true)∧Below w.heap.size w w':=by
 have HG:=h_ hG
 have HGS:Hid (Tryz.prog.globals.size≤w.heap.size):=h_ hG.size
 clear hG
 go_enter Tryz.func3,Tryz.ntmps3
 go_wp2_with fail
 refine(xNz HG.out).mono ?_
 rintro e w1 ⟨rfl,hb1⟩
 have HB1:=h_ hb1
 clear hb1
 obtain⟨n,hn1,hn2,hn⟩:=xYy count
 have HN:=h_ (And.intro hn1 hn2)
 clear hn1 hn2
 go_wp2_with fail
 rw[hn]
 clear hn
 refine(xQ7 n w1 (by have:=HN.out;omega)).mono ?_
 rintro e w2 ⟨rfl,hb2',hd2⟩
 obtain⟨D,hD⟩:∃ D,D=w1.heap.size:=⟨_,rfl⟩
 obtain⟨v,hv⟩:∃ v,v=xMc w1:=⟨_,rfl⟩
 have hvp:v.p=D+1:=by rw[hv,hD];rfl
 have hvf:∀ k∈v.foot,D≤k:=fun k hk=>by rw[hv] at hk;rw[hD];exact(hd2.foot_lt k hk).1
 have hB2:Below D w1 w2:=by rw[hD];exact hb2'
 have hDw:w.heap.size≤D:=by rw[hD];exact HB1.out.size
 rw[←hv,←hD] at hd2
 rw[←hD,←hvp]
 have HVF:=h_ hvf
 have HD2:=h_ hd2
 have HB2:=h_ (HB1.out.trans (hB2.mono hDw))
 have HDW2:=h_ (show D≤w2.heap.size by rw[hD];exact hb2'.size)
 have HG2:=h_ ((HG.out.below HB1.out HGS.out).below hB2 (Nat.le_trans HGS.out hDw))
 have HD0:=h_ (Nat.le_trans HGS.out hDw)
 have HDW:=h_ hDw
 clear hb2' hd2 hD hv hvp hvf hB2 hDw
 have hfr:(PD.fresh n).n=n:=rfl
 have HFR:=h_ hfr
 clear hfr
 obtain⟨c1,hc1,HOP⟩:∃ c1:Int,Hid ((n<64∧c1=2)∨(64≤n∧c1=3))∧Hid (Calls Tryz.prog 6 #[.pointer (some ⟨v.p,0,none⟩)] w2 fun e w'=>e=.returned (.tuple #[.pointer none,.int .i64 c1])∧Below w2.heap.size w2 w'):=by
  by_cases h:n<64
  ·refine⟨2,h_ (.inl ⟨h,rfl⟩),h_ ((xLk HD2.out (by rw[HFR.out];exact h)).mono ?_)⟩
   rintro e w' ⟨rfl,rfl⟩
   exact⟨rfl,Below.refl _ _⟩
  ·have h64:64≤n:=by omega
   exact⟨3,h_ (.inr ⟨h64,rfl⟩),h_ (xNx HD2.out (by rw[HFR.out];exact h64) ⟨rfl,rfl⟩ HG2.out rfl (xSf (by rw[HFR.out];omega) (fun s _=>xAx sha n s)))⟩
 go_wp2_with fail
 refine HOP.out.mono ?_
 rintro e w3 ⟨rfl,hb3⟩
 have HD3:=h_ (HD2.out.below hb3)
 have HB3:=h_ (HB2.out.trans (hb3.mono (Nat.le_trans HDW.out HDW2.out)))
 have HG3:=h_ (HG2.out.below (hb3.mono HDW2.out) HD0.out)
 have HDW3:=h_ (Nat.le_trans HDW2.out hb3.size)
 clear hb3 HOP HD2 HB2
 obtain⟨c2,HFM⟩:∃ c2:Int,Hid (Calls Tryz.prog 7 #[.pointer (some ⟨v.p,0,none⟩),.int .i64 budget] w3 fun e w'=>e=.returned (.int .i64 c2)∧((n<64∧c2=2∧Below w3.heap.size w3 w')∨(64≤n∧(budget<1∨1073741824<budget)∧c2=2∧Below w3.heap.size w3 w')∨(64≤n∧1≤budget∧budget≤1073741824∧c2=0∧xNn D v (PD.fresh n) budget.toNat w3 (.returned (.int .i64 0)) w'))):=by
  by_cases h:n<64
  ·refine⟨2,h_ ((xGg HD3.out (by rw[HFR.out];exact h) _).mono ?_)⟩
   rintro e w' ⟨rfl,rfl⟩
   exact⟨rfl,.inl ⟨h,rfl,Below.refl _ _⟩⟩
  ·have h64:64≤n:=by omega
   by_cases hr:budget<1∨1073741824<budget
   ·refine⟨2,h_ ((xGh HD3.out (by rw[HFR.out];exact h64) _ hr).mono ?_)⟩
    rintro e w' ⟨rfl,hb⟩
    exact⟨rfl,.inr (.inl ⟨h64,hr,rfl,hb⟩)⟩
   ·have hh:1≤budget∧budget≤1073741824:=by omega
    have:=xEz HD3.out ⟨rfl,rfl⟩ HG3.out (by rw[HFR.out];exact h64) rfl (fun s _=>xAx sha n s) budget.toNat (by omega) (by omega) HDW3.out HD0.out
    rw[show ((budget.toNat:Nat):Int)=budget by omega] at this
    refine⟨0,h_ (this.mono ?_)⟩
    rintro e w' hp
    have he:e=.returned (.int .i64 0):=hp.1
    subst he
    exact⟨rfl,.inr (.inr ⟨h64,hh.1,hh.2,rfl,hp⟩)⟩
 go_wp2_with fail
 refine HFM.out.mono ?_
 rintro e w4 ⟨rfl,hw4⟩
 have HW4:=h_ hw4
 clear hw4 HFM
 go_upto_block 0 with fail
 go_cut [] from 7 to 241 (fun wx=>Hid (Below w.heap.size w wx))
 case first =>
  rename_i J K' hJ hK
  rcases HW4.out with⟨hn,hc2,hb4⟩ | ⟨hn,hbad,hc2,hb4⟩ | ⟨hn,hg1,hg2,hc2,hfp⟩
  ·have HS:=h_ (yJ (HD3.out.below hb4))
   have HB4:=h_ (HB3.out.trans (hb4.mono HB3.out.size))
   have hnz:(n:Int)<64:=by omega
   obtain rfl:c1=2:=by have:=hc1.out;omega
   rw[HFR.out] at HS
   clear hc1 HW4 hb4 hn
   subst hc2
   go_wp2_with fail
   refine HS.out.mono ?_
   rintro e w5 ⟨rfl,rfl⟩
   go_wp2_with fail
   go_meet
   exact HB4
  ·have HS:=h_ (yJ (HD3.out.below hb4))
   have HB4:=h_ (HB3.out.trans (hb4.mono HB3.out.size))
   have hnz:¬ (n:Int)<64:=by omega
   obtain rfl:c1=3:=by have:=hc1.out;omega
   rw[HFR.out] at HS
   clear hc1 HW4 hb4 hn
   subst hc2
   have HBAD:=h_ hbad
   clear hbad
   go_wp2_with fail
   refine HS.out.mono ?_
   rintro e w5 ⟨rfl,rfl⟩
   rcases HBAD.out with hbd | hbd
   ·go_wp2_with fail
    go_meet
    exact HB4
   ·have hbe:¬ budget<1:=by omega
    go_wp2_with fail
    go_meet
    exact HB4
  ·obtain⟨_,hk,v',d',j,hv',_,hd',_,hn',hf'⟩:=hfp
   have hb4:Below D w3 w4:=hk.below HDW3.out HVF.out
   have HB4:=h_ (HB3.out.trans (hb4.mono HDW.out))
   have HDW4:=h_ (Nat.le_trans HDW3.out hk.size)
   have hnd:d'.n=n:=hn'.trans HFR.out
   have HS:=h_ (yJ hd')
   rw[hnd,hv'] at HS
   have HG4:=h_ (HG3.out.below hb4 HD0.out)
   have HO:=h_ (xK0 hd' (by rw[hnd];exact hn) hf' HG4.out (by omega) (by omega) HDW4.out HD0.out)
   rw[hv'] at HO
   have hnz:¬ (n:Int)<64:=by omega
   have hg1':¬ budget<1:=by omega
   have hg2':¬ 1073741824<budget:=by omega
   obtain rfl:c1=3:=by have:=hc1.out;omega
   have HN64:=h_ hn
   have HND:=h_ hnd
   have HVP:=h_ hv'
   clear hc1 HW4 hb4 hn hk hd' hn' hf' hnd hv'
   subst hc2
   go_wp2_with fail
   refine HS.out.mono ?_
   rintro e w5 ⟨rfl,rfl⟩
   go_wp2_with fail
   refine HO.out.mono ?_
   rintro e w5 ⟨sb,rfl,hb5,F5,hst5⟩
   rw[HND.out] at hst5
   have HB5:=h_ (HB4.out.trans (hb5.mono HDW.out))
   have HDW5:=h_ (Nat.le_trans HDW4.out hb5.size)
   have HST5:=h_ hst5
   have HSP:=h_ (xNv hst5)
   clear hb5 hst5 HO
   go_wp2_with fail
   refine HSP.out.mono ?_
   rintro e w6 ⟨hb6,sv,rfl,hsp,hsb,hsy⟩
   have hsb':sv.budget=budget.toNat:=hsb
   have hsy':sv.bytes=0:=hsy
   have HFB:=h_ (xK6 hsp (by omega) (by omega))
   rw[hsb',hsy',show ((budget.toNat-0:Nat):Int)=budget by omega] at HFB
   have HB6:=h_ (HB5.out.trans (hb6.mono HB5.out.size))
   have HDW6:=h_ (Nat.le_trans HDW5.out hb6.size)
   have HST6:=h_ (HST5.out.below hb6)
   clear hb6 hsp hsb hsy hsb' hsy' HSP HST5 HB5
   go_wp2_with fail
   refine HFB.out.mono ?_
   rintro e w7 ⟨rfl,m7,hw7⟩
   have hb7:Below w6.heap.size w6 w7:=by rw[hw7];exact xU (Below.refl _ _) _
   have hst7:=HST6.out.below hb7
   have HB7:=h_ (HB6.out.trans (hb7.mono HB6.out.size))
   have HDW7:=h_ (Nat.le_trans HDW6.out hb7.size)
   obtain⟨_,v7,d7,_,_,_,_,_,_,hst,hvp7,hdn7,_⟩:=hst7
   have hdk:=hst.jat.dev
   have HFL:=h_ (xXw hdk)
   have hvp7':v7.p=v.p:=hvp7.trans HVP.out
   rw[hvp7'] at HFL
   have HV7:=h_ hvp7'
   have HN7:=h_ hdn7
   have HPD:=h_ (hdk.foot_lt v7.p (by simp[Dev.foot])).1
   clear hw7 hb7 hst hvp7 hdn7 hdk hvp7' HFB HST6 HB6
   go_wp2_with fail
   refine HFL.out.mono ?_
   rintro e w8 ⟨rfl,hk8,hd8⟩
   have HB8:=h_ (HB7.out.trans (hk8.below HB7.out.size (fun k hk=>by
    rw[List.mem_singleton.1 hk]
    have h1:=HPD.out
    have h2:=HDW.out
    have h3:=HV7.out
    omega)))
   have HD8:=h_ hd8
   have HO8:=h_ (xNy hd8 (by show 64≤d7.n;rw[HN7.out];exact HN64.out) rfl)
   have HF8:=h_ (xIx hd8 (by show 64≤d7.n;rw[HN7.out];exact HN64.out) rfl budget.toNat (by omega) (by omega))
   rw[HV7.out] at HO8 HF8
   rw[show ((budget.toNat:Nat):Int)=budget by omega] at HF8
   clear hk8 hd8 HFL HB7
   go_wp2_with fail
   refine HO8.out.mono ?_
   rintro e w9 ⟨rfl,rfl⟩
   go_wp2_with fail
   refine HF8.out.mono ?_
   rintro e w9 ⟨rfl,hb9⟩
   have HB9:=h_ (HB8.out.trans (hb9.mono HB8.out.size))
   clear hb9 HF8 HO8
   go_wp2_with fail
   go_meet
   exact HB9
 case rest =>
  have HX0:=hcut
  clear hcut
  clear HB3 HW4 HD3 HG3 hc1 HG2
  go_wp2_with fail
  refine(xU5 xAa rfl rfl _).mono ?_
  rintro e x1 ⟨rfl,hbx⟩
  have HX1:=h_ (HX0.out.trans (hbx.mono HX0.out.size))
  clear hbx
  go_wp2_with fail
  refine(xLt 0 _).mono ?_
  rintro e x ⟨rfl,rfl⟩
  go_wp2_with fail
  refine(xR4 uG _).mono ?_
  rintro e x2 ⟨rfl,hbx⟩
  have HX2:=h_ (HX1.out.trans (hbx.mono HX1.out.size))
  clear hbx
  go_wp2_with fail
  refine(xLs ⟨#[]⟩ 0 _).mono ?_
  rintro e x3 ⟨rfl,hbx⟩
  have HX3:=h_ (HX2.out.trans (hbx.mono HX2.out.size))
  clear hbx
  have hft:xy 38 (x9 xH)=true:=ub rfl
  have hz38:((x9 xH).size == 38)=true:=by rw[xN];rfl
  have hbl:Below x3.heap.size x3 (x3.alloc (.cells (x9 xH) 49)):=(Below.refl _ _).alloc (Nat.le_refl _) _
  have HX4:=h_ (HX3.out.trans (hbl.mono HX3.out.size))
  clear hbl
  go_wp2_with fail
  refine(xQy _).mono ?_
  rintro e x ⟨rfl,rfl⟩
  go_wp2_with fail
  refine(xLm 1 _).mono ?_
  rintro e x ⟨rfl,rfl⟩
  go_wp2_with fail
  refine(xLq uG _).mono ?_
  rintro e x5 ⟨rfl,hbx⟩
  have HX5:=h_ (HX4.out.trans (hbx.mono HX4.out.size))
  clear hbx
  go_wp2_with fail
  refine(xFw group _).mono ?_
  rintro e x6 ⟨rfl,hbx⟩
  have HX6:=h_ (HX5.out.trans (hbx.mono HX5.out.size))
  clear hbx
  go_wp2_with fail
  refine(xE6 group _).mono ?_
  rintro e x7 ⟨rfl,hbx⟩
  have HX7:=h_ (HX6.out.trans (hbx.mono HX6.out.size))
  clear hbx
  go_wp2_with fail
  refine(xJ0 _).mono ?_
  rintro e x ⟨rfl,rfl⟩
  go_wp2_with fail
  refine(xLr uG _).mono ?_
  rintro e x8 ⟨rfl,hbx⟩
  have HX8:=h_ (HX7.out.trans (hbx.mono HX7.out.size))
  clear hbx
  go_wp2_with fail
  refine(xIz _).mono ?_
  rintro e x ⟨rfl,rfl⟩
  go_wp2_with fail
  refine(xO1 _).mono ?_
  rintro e x ⟨rfl,rfl⟩
  go_wp2_with fail
  refine(xLu _).mono ?_
  rintro e x ⟨rfl,rfl⟩
  go_wp2_with fail
  refine(xGo _).mono ?_
  rintro e x ⟨rfl,rfl⟩
  go_wp2_with fail
  refine(xR5 _).mono ?_
  rintro e x ⟨rfl,rfl⟩
  go_wp2_with fail
  refine(jh _).mono ?_
  rintro e x ⟨rfl,rfl⟩
  go_wp2_with fail
  refine(xO2 _).mono ?_
  rintro e x ⟨rfl,rfl⟩
  go_wp2
  go_ret
  exact⟨rfl,HX8.out⟩
end
end Go.Proofs.YthiafifdiaplaaaGreatDoor
namespace Go.Proofs.YthiafifdiaplaaaGreatDoor
open Go Go.RowKit Go.Proofs Go.ChangeShapes Go.WideShapes Go.ChangeAt
theorem own:ownKnob Tryz.prog.godebug=none:=by kernel_rfl
theorem laidOut:laidOutB Tryz.prog=true:=by kernel_rfl
def laidAll:List (String × DataW Unit):=Rows.storeErrorsRow.laid
theorem globals_size:Tryz.prog.globals.size=7:=by kernel_rfl
theorem gl_of {W:World}(h:laidMetH Tryz.prog laidAll W)(hs:W.ShapedOpen Tryz.prog):Gl W where
 tab:=by
  have h1 := h.filter (fun x => x.1 == "internal/strconv.uint64pow10")
  have e : laidAll.filter (fun x => x.1 == "internal/strconv.uint64pow10") = [("internal/strconv.uint64pow10", Lib.tabData .u64 Lib.pow10Tab)] := by kernel_rfl
  rw[e] at h1
  exact Lib.tabIs_of_head (rest:=[]) (g:=1) (by kernel_rfl) (by kernel_rfl) Tryz.underlying405 Tryz.underlying303 (by kernel_rfl) (by kernel_rfl) h1
 len:=cell_of_shapedOpen_int (g:=0) (t:=3) (zero:=#[.int .i64 0]) hs (by rw[globals_size];decide) (by kernel_rfl) rfl (by kernel_rfl) (by kernel_rfl) Tryz.underlying3
 sha:=by
  have h1 := h.filter (fun x => x.1 == "bulletin/sha256.constants")
  have e : laidAll.filter (fun x => x.1 == "bulletin/sha256.constants") = [("bulletin/sha256.constants", Lib.tabData .u32 xLv)] := by kernel_rfl
  rw[e] at h1
  exact Lib.tabIs_of_head (rest:=[]) (g:=2) (by kernel_rfl) (by kernel_rfl) Tryz.underlying427 Tryz.underlying364 (by kernel_rfl) (by kernel_rfl) h1
 size:=by
  have h0:(((begin Tryz.prog (fun _ _=>0) default).world.heap[6]?).bind Obj.row?).isSome=true:=by kernel_rfl
  obtain⟨⟨zero,t⟩,hz⟩:=Option.isSome_iff_exists.1 h0
  obtain⟨cs,hh,_,_⟩:=hs.1 6 zero t (by rw[globals_size];decide) hz
  rw[globals_size]
  have:=(i_ hh).1
  omega
section
variable {H:Type} {enc:TypeId × Value→H}
theorem trodAll_stays {P:Program}{W W':World}(hl:laidOutB P=true)(hb:Below W.heap.size W W')(sp:Nat→Bool)(ts:List TypeId):∀ (vs:List Value) (ds:List (DataW H)) (p:List MemPlace),
  (∀ t∈ts,P.readableRec t=true∧t<P.types.size)→DataW.TrodAll enc P W 0 (fun _=>true) true ts vs ds p→(∀ x∈p,x.block<W.heap.size)→(∀ x∈p,sp x.block=true)→DataW.TrodAll enc P W' 0 sp true ts vs ds p:=by
 induction ts with
 | nil =>
  intro vs ds p _ h _ _
  obtain⟨rfl,rfl,rfl⟩:=trodAll_nil h
  exact trodAll_mk0
 | cons t ts ih =>
  intro vs ds p hr h hlt hsp
  obtain⟨v,vs',d,ds',p1,q1,rfl,rfl,rfl,h1,h2⟩:=trodAll_cons h
  have ht:=hr t (by simp)
  exact trodAll_cons_mk (WideElems.Trod_stays hl ht.1 ht.2 h1 (fun x hx=>hb.same (hlt x (List.mem_append_left _ hx))) (fun x hx=>hsp x (List.mem_append_left _ hx)))
   (ih vs' ds' q1 (fun u hu=>hr u (by simp[hu])) h2 (fun x hx=>hlt x (List.mem_append_right _ hx)) (fun x hx=>hsp x (List.mem_append_right _ hx)))
theorem law_post {f:Func}{s:ChangeSpec}{W W':World}{args:Array Value}{ds gs:List (DataW H)}{before:List MemPlace}(hvars:s.vars=[])(hrt:f.resultTypes=#[4])
  (hW:DataW.Whole enc Tryz.prog f.params.toList s.vars false W args.toList ds gs before) (hr:∀ t∈f.params.toList,Tryz.prog.readableRec t=true∧t<Tryz.prog.types.size)
  (hfn:s.fn H ds={ results:=[.lit (.bool true)],args:=ds }) (hb:Below W.heap.size W W'):s.post enc Tryz.prog f false true false false W args (.bool true) W':=by
 have hlt:∀ x∈before,x.block<W.heap.size:=fun x hx=>hW.lt x hx
 have hW0:=hW
 obtain⟨p,q,hA,hV,rfl,_,_⟩:=hW
 rw[hvars] at hV
 obtain⟨rfl,rfl⟩:=trodVars_none hV
 rw[List.append_nil] at hW0 hlt
 refine⟨ds,[],p,[],p,[],hW0,?_,?_,?_,?_,fun h=>by cases h⟩
 ·rw[List.append_nil,hfn,hrt]
  exact trodAll_mk1 (shut_bool Tryz.underlying4 _)
 ·rw[List.append_nil,hfn]
  exact trodAll_stays laidOut hb _ _ _ _ _ hr hA hlt (fun x hx=>by simpa using hlt x hx)
 ·rw[List.append_nil,hfn,hvars]
  rfl
 ·exact World.keptBut_mono (fun x hx=>⟨hx,.inr (.inl hx)⟩) (hb.frame (·∈p))
end
end Go.Proofs.YthiafifdiaplaaaGreatDoor
namespace Go.Proofs.YthiafifdiaplaaaGreatDoor.storeErrors
open Go Go.RowKit Go.Proofs Go.Proofs.YthiafifdiaplaaaGreatDoor
theorem fact1:(Rows.storeErrorsRow.wf (OpenSpec.ofChange (OpenSpec.ofChange Rows.storeErrorsSpec).bare))=true:=by kernel_rfl
theorem fact2:(laidOutB Tryz.prog)=true:=by kernel_rfl
theorem fact3:(mapsRowed Tryz.prog)=true:=by kernel_rfl
theorem fact4:(Tryz.f3.params.all (Tryz.prog.readableRec ·))=true:=by kernel_rfl
theorem fact5:(namedTie Tryz.prog Rows.storeErrorsRow.named (OpenSpec.ofChange Rows.storeErrorsSpec).bare.vars)=true:=by kernel_rfl
theorem fact6:((Rows.storeErrorsRow.stops == []))=true:=by kernel_rfl
theorem fact7:((Tryz.prog.stops == []))=true:=by kernel_rfl
theorem fact8:((Rows.storeErrorsRow.knobs == []))=true:=by kernel_rfl
theorem fact9:((Tryz.prog.stopKnobs == []))=true:=by kernel_rfl
theorem fact10:((Rows.storeErrorsRow.inPlace == Tryz.prog.inPlace 3))=true:=by kernel_rfl
theorem fact11:((Rows.storeErrorsRow.unfollowed == Tryz.prog.unfollowed 3))=true:=by kernel_rfl
theorem fact12:((Rows.storeErrorsRow.recurses == Tryz.prog.recurses 3))=true:=by kernel_rfl
theorem fact13:((Rows.storeErrorsRow.named == Tryz.prog.varsNamed 3))=true:=by kernel_rfl
theorem fact14:((Rows.storeErrorsRow.maps == (Tryz.f3.params.toList++(OpenSpec.ofChange Rows.storeErrorsSpec).bare.plain.varTypes Tryz.prog).any (Tryz.prog.mapsRec ·)))=true:=by kernel_rfl
theorem fact15:((Rows.storeErrorsRow.ifaces == (Tryz.f3.params.toList++(OpenSpec.ofChange Rows.storeErrorsSpec).bare.plain.varTypes Tryz.prog).any (Tryz.prog.ifacesRec ·)))=true:=by kernel_rfl
theorem fact16:((Rows.storeErrorsRow.mapsOut == Tryz.prog.mapsAmong Tryz.f3.resultTypes.toList))=true:=by kernel_rfl
theorem fact17:((Rows.storeErrorsRow.loops == (Tryz.f3.params.toList++(OpenSpec.ofChange Rows.storeErrorsSpec).bare.plain.varTypes Tryz.prog).any (Tryz.prog.loopsFrom ·)))=true:=by kernel_rfl
theorem fact18:((Rows.storeErrorsRow.wideKeys == (Tryz.f3.params.toList++(OpenSpec.ofChange Rows.storeErrorsSpec).bare.plain.varTypes Tryz.prog++Tryz.f3.resultTypes.toList).any (Tryz.prog.wideKeysFrom ·)))=true:=by kernel_rfl
theorem fact19:((OpenSpec.ofChange Rows.storeErrorsSpec).bare.vars.all (Tryz.prog.varReadable ·))=true:=by kernel_rfl
theorem fact20:(Tryz.f3.resultTypes.all (fun t=>Tryz.prog.readableRec t && decide (t<Tryz.prog.types.size)))=true:=by kernel_rfl
theorem fact21:((Rows.storeErrorsRow.ifacesOut == Tryz.f3.resultTypes.toList.any (Tryz.prog.ifacesRec ·)))=true:=by kernel_rfl
theorem fact22:((Rows.storeErrorsRow.loopsOut == Tryz.f3.resultTypes.toList.any (Tryz.prog.loopsFrom ·)))=true:=by kernel_rfl
theorem fact23:((Rows.storeErrorsRow.plainKeys == Tryz.prog.plainKeys))=true:=by kernel_rfl
theorem fact24:(Rows.storeErrorsRow.shortTexts.isNone)=true:=by kernel_rfl
theorem fact25:(Tryz.prog.stopsHeard)=true:=by kernel_rfl
theorem fact26:(Tryz.prog.mayEnter)=true:=by kernel_rfl
theorem fact27:((Rows.storeErrorsRow.lifted == Tryz.prog.liftsFinal))=true:=by kernel_rfl
theorem fact28:((Tryz.prog.make == some Rows.storeErrorsRow.make))=true:=by kernel_rfl
theorem fact29:((Rows.storeErrorsRow.kinds == (if Rows.storeErrorsRow.domain.isEmpty then [] else Tryz.f3.params.toList.map fun t=>match Tryz.prog.underlying t with | some (.int k)=>some k | _=>none)))=true:=by kernel_rfl
theorem fact30:((Rows.storeErrorsRow.pinned == Rows.storeErrorsRow.pinnedBy))=true:=by kernel_rfl
theorem fact31:((Rows.storeErrorsRow.veiled == (Tryz.f3.params.toList++(OpenSpec.ofChange Rows.storeErrorsSpec).bare.plain.varTypes Tryz.prog++Tryz.f3.resultTypes.toList).any (Tryz.prog.veiledRec ·)))=true:=by kernel_rfl
theorem fact32:(Rows.storeErrorsRow.veiledFits Tryz.prog Tryz.f3.params.toList (Tryz.f3.params.toList++(OpenSpec.ofChange Rows.storeErrorsSpec).bare.plain.varTypes Tryz.prog++Tryz.f3.resultTypes.toList))=true:=by kernel_rfl
theorem band {a b:Bool}(h:a=true)(k:b=true):(a && b)=true:=by rw[h,k];rfl
theorem facts:joinedFacts Tryz.prog 3 Tryz.f3 (OpenSpec.ofChange Rows.storeErrorsSpec).bare Rows.storeErrorsRow=true:=by
 unfold joinedFacts
 exact(band (band (band (band (band (band (band (band (band (band (band (band (band (band (band (band (band (band (band (band (band (band (band (band (band (band (band (band (band (band (band fact1 fact2) fact3) fact4) fact5) fact6) fact7) fact8) fact9) fact10) fact11) fact12) fact13) fact14) fact15) fact16) fact17) fact18) fact19) fact20) fact21) fact22) fact23) fact24) fact25) fact26) fact27) fact28) fact29) fact30) fact31) fact32)
end Go.Proofs.YthiafifdiaplaaaGreatDoor.storeErrors
namespace Go.Proofs.YthiafifdiaplaaaGreatDoor.storeErrors
open Go Go.RowKit Go.Proofs Go.Proofs.YthiafifdiaplaaaGreatDoor Go.ChangeShapes Go.WideShapes Go.ChangeAt Go.WideMaps Go.ChangeMaps
theorem contract (H:Type)(enc:TypeId × Value→H)(W:World)(base:Nat)(args:Array Value)(ds gs:List (DataW H))(before:List MemPlace)
  (hval:∀ (j:Nat) t v,Tryz.f3.params[j]?=some t→args[j]?=some v→Value.okWide Tryz.prog W .any base t v)
  (hW:DataW.Whole enc Tryz.prog Tryz.f3.params.toList Rows.storeErrorsSpec.vars false W args.toList ds gs before)
  (hR:(DataW.weightsEach Tryz.prog (Tryz.f3.params.toList++(OpenSpec.ofChange Rows.storeErrorsSpec).bare.plain.varTypes Tryz.prog) (ds++gs)).all (·≤reachBytes)=true)
  (hL:laidMetH Tryz.prog Rows.storeErrorsRow.laid W) (hS:W.ShapedOpen Tryz.prog) :
  Calls Tryz.prog 3 args W fun e W'=>∃ v,e=.returned v∧Rows.storeErrorsSpec.post enc Tryz.prog Tryz.f3 false true false false W args v W':=by
 have hW':=hW
 obtain⟨p,q,hA0,hV,rfl,hfz,hnd⟩:=hW
 have hA:DataW.TrodAll enc Tryz.prog W 0 (fun _=>true) true Tryz.f3.params.toList args.toList ds p:=hA0
 rw[Tryz.params3] at hA hval hR
 obtain⟨v0,v1,v2,d0,d1,d2,p0,p1,p2,rfl,rfl,rfl,h0,h1,h2⟩:=trodAll_three hA
 obtain⟨x,rfl,rfl,rfl,hx⟩:=open_int Tryz.underlying3 (hval 0 3 v0 rfl rfl) h0
 obtain⟨y,rfl,rfl,rfl,hy⟩:=open_int Tryz.underlying3 (hval 1 3 v1 rfl rfl) h1
 obtain⟨s,rfl,rfl,rfl,hs⟩:=open_string Tryz.underlying9 (hval 2 9 v2 rfl rfl) h2
 have hy':-9223372036854775808≤y∧y≤9223372036854775807:=by simpa[Lit.wf,IntKind.min,IntKind.max,IntKind.signed,IntKind.bits] using hy
 clear hA0 hA
 refine(sterr_any (gl_of hL hS) x y hy'.1 hy'.2 s).mono fun e W' ⟨he,hb⟩=>?_
 subst he
 exact⟨_,rfl,law_post rfl (by kernel_rfl) hW' (by rw[Tryz.params3];intro t ht;rcases (by simpa using ht:t=3∨t=9) with rfl | rfl <;> exact⟨by kernel_rfl,of_decide_eq_true (by kernel_rfl)⟩) rfl hb⟩
theorem reads (os:Os){H:Type}(enc:TypeId × Value→H):∃ places,DataW.whole enc Tryz.prog ((World.laidAll Tryz.prog os Rows.storeErrorsRow.laid).forCall (fun _ _=>0) ⟨#[],#[.int .i64 0,.int .i64 0,.string ⟨#[]⟩],[]⟩).memory Tryz.f3.params.toList Rows.storeErrorsSpec.vars false (#[.int .i64 0,.int .i64 0,.string ⟨#[]⟩]:Array Value).toList 8=some ([.lit (.int .i64 0),.lit (.int .i64 0),.lit (.string [])],[],places) :=
 ⟨[],by kernel_rfl⟩
theorem lifted (os:Os)(started:os.Started)(H:Type)(enc:TypeId × Value→H)(F:Stop.Interp) :
  ReturnsInHanded {} Tryz.checked os 3 .any ((OpenSpec.ofChange Rows.storeErrorsSpec).preRow enc Tryz.prog Tryz.f3 Rows.storeErrorsRow.domain false Rows.storeErrorsRow.laid) (((OpenSpec.ofChange Rows.storeErrorsSpec).at F).post enc Tryz.prog Tryz.f3 false true false false):=by
 obtain⟨places,hx⟩:=reads os enc
 refine returnsInHanded_of_row (C:=Tryz.checked) (s:=OpenSpec.ofChange Rows.storeErrorsSpec) own started (by kernel_rfl) Tryz.func3
  (witness_row_at (enc:=enc) (C:=Tryz.checked) false (World.laidAll Tryz.prog os Rows.storeErrorsRow.laid) #[.int .i64 0,.int .i64 0,.string ⟨#[]⟩] (World.laidAll_os _ _ _) (by kernel_rfl) (by kernel_rfl) (by kernel_rfl)
   (OpenSpec.preRow_of_cond 8 hx (by kernel_rfl) (fun k hk=>by cases hk) (by kernel_rfl) (laidMet_laidAll _ (by kernel_rfl) (by kernel_rfl)))) ?_
 intro W base args ds gs before hval hW _ _ hR hL hS _
 exact contract H enc W base args ds gs before hval hW hR hL hS
theorem said:Rows.StoreErrorsSaid :=
 OpenClaim.holds_of_cond 3 Tryz.f3 rfl rfl rfl rfl rfl rfl rfl ⟨rfl,rfl,rfl,rfl,rfl⟩ rfl rfl rfl rfl rfl (by kernel_rfl) Tryz.func3 facts
  (of_decide_eq_true (by kernel_rfl)) (by unfold Func.isWrapper;first | (rw[if_pos (by decide +kernel)];kernel_rfl) | (rw[if_neg (by decide +kernel)];exact⟨rfl,rfl⟩))
  (fun os started H enc _ F=>by rw[OpenClaim.pre_eq_preRow];exact lifted os started H enc F)
theorem plain (f : FuncId) (fn : Func) (hf : Tryz.pinned.checked.prog.funcNamed "bulletin/bulletinlaw29.StoreErrors" = some f) (hfn : Tryz.pinned.checked.prog.funcs[f]? = some fn) :
  true=Tryz.pinned.checked.prog.looks []∧∀ (j:Nat) t,fn.params[j]?=some t→Tryz.pinned.checked.prog.wantsStandIn t=false:=by
 obtain rfl : f = 3 := Option.some.inj ((show Tryz.prog.funcNamed "bulletin/bulletinlaw29.StoreErrors" = some 3 by kernel_rfl).symm.trans hf) |>.symm
 obtain rfl:fn=Tryz.f3:=(Option.some.inj (Tryz.func3.symm.trans hfn)).symm
 refine⟨by kernel_rfl,fun j t ht=>?_⟩
 rw[Tryz.params3] at ht
 rcases (by simpa using Array.mem_of_getElem? ht:t=3∨t=9) with rfl | rfl
 ·exact(show Tryz.prog.wantsStandIn 3=false by kernel_rfl)
 ·exact(show Tryz.prog.wantsStandIn 9=false by kernel_rfl)
end Go.Proofs.YthiafifdiaplaaaGreatDoor.storeErrors
namespace Go.Proofs.YthiafifdiaplaaaGreatDoor
open Go
theorem storeErrors_card:Rows.StoreErrorsCardSaid :=
 Claim7.holds_tied_plain_at .later [] _ _ _ _ storeErrors.said (fun _ h=>by cases h) (by kernel_rfl) (fun _ h=>by cases h) storeErrors_row_tie rfl ⟨rfl,rfl⟩ (by kernel_rfl) rfl storeErrors.plain (by kernel_rfl)
#print axioms storeErrors_card
end Go.Proofs.YthiafifdiaplaaaGreatDoor
