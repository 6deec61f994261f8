/- Pb14 · Pb17 · Fr1 · FrC · Fr2 · Fr3 · Fr4 · Fr5 · Fr6 · Fr7 · Gn1 · Gn2 · Gn3 · Gn4 · Pb18 · Pb8 · Pb12 · Pb13 · Pc1 · Pc2 · Pc3 · Pc4 -/
import Derived.Test.YtakbenifinnpfaaGreatDoorYY1
import Derived.Deep.RegionHeld3
import Derived.OwnWalk
import Derived.Deep.AppendLies
import Derived.Deep.QuietTactic
import Derived.BigQuiet
set_option linter.unusedSimpArgs false
set_option linter.unusedVariables false
set_option maxRecDepth 100000
set_option maxHeartbeats 64000000
namespace Go.Proofs.YtakbenifinnpfaaGreatDoor
open Go.RowKit Go.Sub
attribute [local go_sem] Instr.field asAgg
def qfW:Option Value→Nat|some (.int _ n)=>n.toNat|_=>0
def cellB:Option Value→Bool|some (.bool b)=>b|_=>false
def qd0(w:World)(B n:Nat):Nat:=if cellB (w.cell? ⟨B,2,none⟩)=true then 0 else 1+(n-qfW (w.cell? ⟨B,1,none⟩))
theorem qhX{w:World}{B:Nat}{q:Option Addr}{c:Nat}{L:List PTok}{p:PSt}(h:PBox w B q c L p)(n:Nat):qd0 w B n=if p.2=true then 0 else 1+(n-p.1):=by
 obtain⟨h0,h1,h2⟩:=h.cells
 unfold qd0
 rw[h1,h2]
 cases p.2<;>simp[qfW,cellB]
structure ExpH(R:POps)(w wr:World)(B:Nat)(q:Option Addr)(c:Nat)(L:List PTok)(f:Nat)(r:PRes)(least:Int)(p:PSt)(n:qb)(bi:Int)(pu:Option Addr)(cu f':Nat):Prop where
 run:runP R L f' (.expL p n bi least)=some r
 fuel:f'≤f
 io:IO3 w wr q c L p
 box:TBox wr B 24 (.int .i64 n.kind) (.string n.text) (.slice pu n.kids.length cu)
 kids:qo wr (fun b=>w.heap.size+3≤b∧b≠B) (.slice pu n.kids.length cu) n.kids
 far:w.heap.size+3≤B
theorem ExpH.le{R:POps}{w wr:World}{B:Nat}{q:Option Addr}{c:Nat}{L:List PTok}{f:Nat}{r:PRes}{least:Int}{p:PSt}{n:qb}{bi:Int}{pu:Option Addr}{cu f':Nat}(h:ExpH R w wr B q c L f r least p n bi pu cu f'):∃g,f'=g+1:=by
 cases f' with
 |zero=>have:=h.run;rw[runP] at this;cases this
 |succ g=>exact⟨g,rfl⟩
theorem IO3.keeps{w U V:World}{q:Option Addr}{c:Nat}{L:List PTok}{p:PSt}{B:Nat}(h:IO3 w U q c L p)(k:qe (fun b=>b=B) U V)(hB:w.heap.size+3≤B):IO3 w V q c L p:=
 ⟨h.low.trans (k.below h.low.size fun b e=>by omega),h.inn.keeps k (by omega),h.outP.keeps k (by omega),h.outN.keeps k (by omega)⟩
theorem qaK{p q:PSt}{u:Unit}(h:onP p q=some u):q.2=true∨p.1<q.1:=by
 unfold onP at h
 by_cases e:q.2=true∨p.1<q.1
 ·exact e
 ·rw[if_neg e] at h;cases h
theorem qj5{L:List PTok}{p q:PSt}(h:qs L p=some q)(hp:p.2=false):p.1<L.length:=by
 unfold qs at h
 rw[if_neg (by rw[hp];simp)] at h
 by_cases e:p.1<L.length
 ·exact e
 ·rw[if_neg e] at h;cases h
theorem qm9{R:POps}(hR:ROps R){q:Option Addr}{c:Nat}{L:List PTok}{f:Nat}(ih:PAll R q c L (f+1))(hl:L.length≤1000000000)(p:PSt)(least:Int)(r:PRes)(hr:runP R L (f+1) (.exp p least)=some r):qn q c L (.exp p least) r:=by
 intro w h
 have H0:=qh (qbr w q c L p)
 rw[runP] at hr
 obtain⟨a,ha,hr⟩:=Option.bind_eq_some_iff.1 hr
 have QU:=qh (fun U hU=>ih f (Nat.lt_succ_self f) _ _ ha U (h.below hU))
 have IH:=qh ih
 have HR:=qh hr
 have HP:=qh h
 clear ha h ih hr
 obtain⟨at',bad⟩:=p
 obtain⟨⟨at2,bad2⟩,n,l,b⟩:=a
 dsimp only at HR
 go_enter Tryz.func100,Tryz.ntmps100
 go_upto_region 2 with(go_at_call 119;refine(QU.out _ H0.out.low).mono ?_;rintro e w1 ⟨u,rfl,hk,hb⟩;obtain⟨pu,cu,rfl,lu⟩:=hk.shape;have H1:=qh (H0.out.stays hb);(try clear x0 x1 x2 z0 z1 z2 f0 f1 f2 n0 n1 n2 g0 g1 g2);obtain⟨x0,x1,x2⟩:=(H1.out).inn.cells;obtain⟨z0,z1,z2⟩:=(H1.out).outP.cells;obtain⟨f0,f1,f2⟩:=(H1.out).outP.free;obtain⟨n0,n1,n2⟩:=(H1.out).outN.cells;obtain⟨g0,g1,g2⟩:=(H1.out).outN.free;have hz:=H0.out.size;have hz2:=hb.size;have al:=(Below.refl w1.heap.size w1).alloc (Nat.le_refl _) (.cells #[.int .i64 0,.string ⟨#[]⟩,.slice none 0 0] 24);have H2:=qh (H1.out.stays al);obtain⟨y0,y1,y2⟩:=H2.out.inn.cells;obtain⟨v0,v1,v2⟩:=H2.out.inn.free;have e1:(w1.heap.size=w.heap.size)=False:=eq_false (by omega);have e2:(w1.heap.size=w.heap.size+1)=False:=eq_false (by omega);have e3:(w1.heap.size=w.heap.size+1+1)=False:=eq_false (by omega);have e4:(w1.heap.size+1=w.heap.size)=False:=eq_false (by omega);have e5:(w.heap.size=w1.heap.size)=False:=eq_false (by omega);have e6:(w.heap.size+1=w1.heap.size)=False:=eq_false (by omega);have e7:(w.heap.size+1+1=w1.heap.size)=False:=eq_false (by omega);have e8:(w.heap.size=w1.heap.size+1)=False:=eq_false (by omega);have HK:=qh (hk.within.mono (S':=fun b=>w.heap.size+3≤b∧b≠w1.heap.size) (fun b e=>⟨Nat.le_trans hz e.1,by have:=e.2;omega⟩));have HFAR:=qh (Nat.le_trans hz hz2);clear hb al hk)
 clear x0 x1 x2 z0 z1 z2 f0 f1 f2 n0 n1 n2 g0 g1 g2 y0 y1 y2 v0 v1 v2 H2
 obtain⟨io,tn,kk⟩:=qf6 H1.out (at2,bad2) n.kind n.text (.slice pu n.kids.length cu)
 have hk2:=HK.out.keeps kk (fun b hb e=>by omega)
 have H2:=qh io
 have K2:=qh hk2
 have T2:=qh tn
 clear io tn kk hk2
 generalize (((((((w1.alloc (.cells #[.int .i64 0,.string ⟨#[]⟩,.slice none 0 0] 24)).setCell ⟨w.heap.size,0,none⟩ (.slice q L.length c)).setCell ⟨w.heap.size,1,none⟩ (.int .i64 (at2:Int))).setCell ⟨w.heap.size,2,none⟩ (.bool bad2)).setCell ⟨w1.heap.size,0,none⟩ (.int .i64 n.kind)).setCell ⟨w1.heap.size,1,none⟩ (.string n.text)).setCell ⟨w1.heap.size,2,none⟩ (.slice pu n.kids.length cu))=W2 at*
 (try clear x0 x1 x2 z0 z1 z2 f0 f1 f2 n0 n1 n2 g0 g1 g2);obtain⟨x0,x1,x2⟩:=(H2.out).inn.cells;obtain⟨z0,z1,z2⟩:=(H2.out).outP.cells;obtain⟨f0,f1,f2⟩:=(H2.out).outP.free;obtain⟨n0,n1,n2⟩:=(H2.out).outN.cells;obtain⟨g0,g1,g2⟩:=(H2.out).outN.free
 obtain⟨b0,b1,b2⟩:=T2.out.cells
 go_wp2
 clear e1 e2 e3 e4 e5 e6 e7 e8 x0 x1 x2 z0 z1 z2 f0 f1 f2 n0 n1 n2 g0 g1 g2 b0 b1 b2 hz hz2
 generalize w1.heap.size=B at*
 go_loopw [7] (fun b wr=>∃(f':Nat) (p:PSt) (n:qb) (bi:Int) (pu:Option Addr) (cu:Nat),b=.int .i64 bi∧Hid (ExpH R w wr B q c L f r least p n bi pu cu f')) (fun _ wr=>qd0 wr w.heap.size L.length)
 case atStart=>exact⟨f,(at2,bad2),n,0,pu,cu,rfl,qh ⟨HR.out,Nat.le_refl _,H2.out,T2.out,K2.out,HFAR.out⟩⟩
 case round=>
  rename_i bv
  clear HR H0 H1 H2 HK K2 T2 QU
  obtain⟨f',p,n,bi,pu,cu,rfl,HH⟩:=hrel
  obtain⟨g,rfl⟩:=HH.out.le
  have hfar:=HFAR.out
  have hrun:=HH.out.run
  have hgf:=HH.out.fuel
  rw[runP] at hrun
  have e1:(B=w.heap.size)=False:=eq_false (by omega);have e2:(B=w.heap.size+1)=False:=eq_false (by omega);have e3:(B=w.heap.size+1+1)=False:=eq_false (by omega);have e5:(w.heap.size=B)=False:=eq_false (by omega);have e6:(w.heap.size+1=B)=False:=eq_false (by omega);have e7:(w.heap.size+1+1=B)=False:=eq_false (by omega)
  obtain⟨b0,b1,b2⟩:=HH.out.box.cells
  obtain⟨at1,bad1⟩:=p
  (try clear x0 x1 x2 z0 z1 z2 f0 f1 f2 n0 n1 n2 g0 g1 g2);obtain⟨x0,x1,x2⟩:=(HH.out.io).inn.cells;obtain⟨z0,z1,z2⟩:=(HH.out.io).outP.cells;obtain⟨f0,f1,f2⟩:=(HH.out.io).outP.free;obtain⟨n0,n1,n2⟩:=(HH.out.io).outN.cells;obtain⟨g0,g1,g2⟩:=(HH.out.io).outN.free
  by_cases hbad:bad1=true
  ·subst hbad
   rw[if_pos rfl] at hrun
   have er:r=⟨(at1,true),n,[],false⟩:=(Option.some.inj hrun).symm
   subst er
   have HK:=qh (HH.out.kids.mono (S':=fun b=>w.heap.size+3≤b) fun b e=>e.1)
   have HI:=qh HH.out.io
   clear hrun
   go_upto_region 16 with(fail)
   go_region
   have hd:=HI.out.put1 (.slice q L.length c) (.int .i64 (at1:Int)) (.bool true) (.int .i64 n.kind) (.string n.text) (.slice pu n.kids.length cu)
   generalize ((((((wr.setCell ⟨w.heap.size+1,0,none⟩ (.slice q L.length c)).setCell ⟨w.heap.size+1,1,none⟩ (.int .i64 (at1:Int))).setCell ⟨w.heap.size+1,2,none⟩ (.bool true)).setCell ⟨w.heap.size+1+1,0,none⟩ (.int .i64 n.kind)).setCell ⟨w.heap.size+1+1,1,none⟩ (.string n.text)).setCell ⟨w.heap.size+1+1,2,none⟩ (.slice pu n.kids.length cu))=Wf at hd⊢
   obtain⟨r0,r1,r2⟩:=hd.outP.cells
   obtain⟨s0,s1,s2⟩:=hd.outN.cells
   have HF:=qh (fun hk=>(qa2.drew hd).told (r:=⟨(at1,true),n,[],false⟩) hk)
   clear hd
   go_wp2
   exact bodyPost_ret (v:=.tuple #[pV q c L (at1,true),.agg #[.int .i64 n.kind,.string n.text,(.slice pu n.kids.length cu)]]) (by simp[results,Tryz.results100,go_sem,r0,r1,r2,s0,s1,s2]) rfl (HF.out HK.out)
  ·have hbf:bad1=false:=by simpa using hbad
   subst hbf
   rw[if_neg (by simp)] at hrun
   dsimp only at hrun
   have QO:=qh (fun U (hU:Below w.heap.size w U)=>qjE hR q c L (at1,false) U (HP.out.below hU))
   have QL:=qh (fun U (hU:Below w.heap.size w U)=>hR.level (qbp R L (at1,false)) U)
   have QS:=qh (fun U (hU:Below w.heap.size w U)=>hR.side (qbp R L (at1,false)) U)
   have QR:=qh (fun U (hU:Below w.heap.size w U)=>hR.right (qbp R L (at1,false)) U)
   generalize qbp R L (at1,false)=op at*
   generalize R.level op=lv at*
   generalize R.side op=sd at*
   generalize R.right op=rt at*
   have HI:=qh HH.out.io
   have TB:=qh HH.out.box
   have KB:=qh HH.out.kids
   by_cases h1:0<lv∧lv=bi
   ·rw[if_pos h1] at hrun
    have er:r=⟨(at1,true),n,[],false⟩:=(Option.some.inj hrun).symm
    subst er
    obtain⟨h5,h6⟩:=h1
    subst h6
    have y3:decide (lv>0)=true:=decide_eq_true h5
    have y3':(0<lv)=True:=eq_true h5
    have QW:Hid (∀U,Calls Tryz.prog 68 #[.agg #[.slice q L.length c,.int .i64 (at1:Int),.bool false]] U fun e w'=>e=.returned (.agg #[.slice q L.length c,.int .i64 (at1:Int),.bool true])∧Below U.heap.size U w'):=qh (fun U=>qX q c L (at1,false) U)
    clear hrun hbad
    go_upto_region 7 with(first
     |(go_at_call 120;with_reducible refine(QO.out _ HI.out.low).mono ?_;rintro e wx ⟨rfl,hb⟩;have H1:=qh (HI.out.stays hb);(try clear x0 x1 x2 z0 z1 z2 f0 f1 f2 n0 n1 n2 g0 g1 g2);obtain⟨x0,x1,x2⟩:=(H1.out).inn.cells;obtain⟨z0,z1,z2⟩:=(H1.out).outP.cells;obtain⟨f0,f1,f2⟩:=(H1.out).outP.free;obtain⟨n0,n1,n2⟩:=(H1.out).outN.cells;obtain⟨g0,g1,g2⟩:=(H1.out).outN.free;(have TB1:=qh (TB.out.stays hb);have KB1:=qh (KB.out.stays hb);obtain⟨b0,b1,b2⟩:=TB1.out.cells);clear hb)
     |(go_at_call 38;with_reducible refine(QL.out _ H1.out.low).mono ?_;rintro e wx ⟨rfl,hb⟩;have H2:=qh (H1.out.stays hb);(try clear x0 x1 x2 z0 z1 z2 f0 f1 f2 n0 n1 n2 g0 g1 g2);obtain⟨x0,x1,x2⟩:=(H2.out).inn.cells;obtain⟨z0,z1,z2⟩:=(H2.out).outP.cells;obtain⟨f0,f1,f2⟩:=(H2.out).outP.free;obtain⟨n0,n1,n2⟩:=(H2.out).outN.cells;obtain⟨g0,g1,g2⟩:=(H2.out).outN.free;(have TB2:=qh (TB1.out.stays hb);have KB2:=qh (KB1.out.stays hb);obtain⟨b0,b1,b2⟩:=TB2.out.cells);clear hb))
    have show0:∀U,qe (fun b=>b=w.heap.size+1∨b=w.heap.size+1+1) wx U→(U.cell? ⟨w.heap.size,0,none⟩=some (.slice q L.length c)∧U.cell? ⟨w.heap.size,1,none⟩=some (.int .i64 (at1:Int))∧U.cell? ⟨w.heap.size,2,none⟩=some (.bool false))∧(U.cell? ⟨B,0,none⟩=some (.int .i64 n.kind)∧U.cell? ⟨B,1,none⟩=some (.string n.text)∧U.cell? ⟨B,2,none⟩=some (.slice pu n.kids.length cu)):=fun U hU=>⟨(H2.out.inn.keeps hU (by omega)).cells,(TB2.out.keeps hU (by omega)).cells⟩
    have show1:=fun U (hU:Below wx.heap.size wx U)=>show0 U (qe.of_below' hU)
    have show2:=fun U x y z (hU:Below wx.heap.size wx U)=>show0 (((U.setCell ⟨w.heap.size+1,0,none⟩ x).setCell ⟨w.heap.size+1,1,none⟩ y).setCell ⟨w.heap.size+1,2,none⟩ z) ((qe.of_below' hU).trans ((qZ U (w.heap.size+1) x y z).mono fun b _ e=>.inl e))
    have show3:=fun U x y z a b d (hU:Below wx.heap.size wx U)=>show0 _ ((qe.of_below' hU).trans ((H2.out.stays hU).put1 x y z a b d).keeps)
    have hb0:Below wx.heap.size wx wx.drew:=(Below.refl _ _).drew
    have SHOW:=qh show1
    have SHOW2:=qh show2
    have SHOW3:=qh show3
    have HK:=qh (KB2.out.mono (S':=fun b=>w.heap.size+3≤b) fun b e=>e.1)
    clear show0 show1 show2 show3
    clear QO QL QS QR HH HI H1 TB TB1 KB KB1 KB2 IH HP
    clear HFAR hgf
    go_region_held3 (fun w'=>(w'.cell? ⟨w.heap.size,0,none⟩=some (.slice q L.length c)∧w'.cell? ⟨w.heap.size,1,none⟩=some (.int .i64 (at1:Int))∧w'.cell? ⟨w.heap.size,2,none⟩=some (.bool false))∧(w'.cell? ⟨B,0,none⟩=some (.int .i64 n.kind)∧w'.cell? ⟨B,1,none⟩=some (.string n.text)∧w'.cell? ⟨B,2,none⟩=some (.slice pu n.kids.length cu)))
     (first|with_reducible exact SHOW.out _ hb0|with_reducible assumption|(with_reducible refine SHOW.out _ ?_;with_reducible assumption)|(with_reducible refine SHOW2.out _ _ _ _ ?_;with_reducible assumption)|(with_reducible refine SHOW3.out _ _ _ _ _ _ _ ?_;with_reducible assumption))
     (first
      |(go_at_call 68;with_reducible refine(QW.out _).mono ?_;rintro _ U ⟨rfl,bu⟩;have bb:Below wx.heap.size wx U:=Below.trans (by assumption) (bu.mono (Below.size (show Below wx.heap.size wx _ by assumption)));(try clear x0 x1 x2 z0 z1 z2 f0 f1 f2 n0 n1 n2 g0 g1 g2);obtain⟨x0,x1,x2⟩:=(H2.out.stays bb).inn.cells;obtain⟨z0,z1,z2⟩:=(H2.out.stays bb).outP.cells;obtain⟨f0,f1,f2⟩:=(H2.out.stays bb).outP.free;obtain⟨n0,n1,n2⟩:=(H2.out.stays bb).outN.cells;obtain⟨g0,g1,g2⟩:=(H2.out.stays bb).outN.free;clear bu))
    all_goals
     have hbu:Below wx.heap.size wx U:=by assumption
     have HKU:=qh (HK.out.stays hbu)
     have hd:=(H2.out.stays hbu).put1 (.slice q L.length c) (.int .i64 (at1:Int)) (.bool true) (.int .i64 n.kind) (.string n.text) (.slice pu n.kids.length cu)
     generalize ((((((U.setCell ⟨w.heap.size+1,0,none⟩ (.slice q L.length c)).setCell ⟨w.heap.size+1,1,none⟩ (.int .i64 (at1:Int))).setCell ⟨w.heap.size+1,2,none⟩ (.bool true)).setCell ⟨w.heap.size+1+1,0,none⟩ (.int .i64 n.kind)).setCell ⟨w.heap.size+1+1,1,none⟩ (.string n.text)).setCell ⟨w.heap.size+1+1,2,none⟩ (.slice pu n.kids.length cu))=Wf at hd⊢
     obtain⟨r0,r1,r2⟩:=hd.outP.cells
     obtain⟨s0,s1,s2⟩:=hd.outN.cells
     have HF:=qh (fun hk=>hd.told (r:=⟨(at1,true),n,[],false⟩) hk)
     clear hd
     go_wp2
     exact bodyPost_ret (v:=.tuple #[pV q c L (at1,true),.agg #[.int .i64 n.kind,.string n.text,(.slice pu n.kids.length cu)]]) (by simp[results,Tryz.results100,go_sem,r0,r1,r2,s0,s1,s2]) rfl (HF.out HKU.out)
   ·rw[if_neg h1] at hrun
    by_cases h2:lv=0∨lv<least
    ·rw[if_pos h2] at hrun
     have er:r=⟨(at1,false),n,[],false⟩:=(Option.some.inj hrun).symm
     subst er
     by_cases h3:lv=0
     ·subst h3
      clear hrun
      go_upto_region 9 with(first
       |(go_at_call 120;with_reducible refine(QO.out _ HI.out.low).mono ?_;rintro e wx ⟨rfl,hb⟩;have H1:=qh (HI.out.stays hb);(try clear x0 x1 x2 z0 z1 z2 f0 f1 f2 n0 n1 n2 g0 g1 g2);obtain⟨x0,x1,x2⟩:=(H1.out).inn.cells;obtain⟨z0,z1,z2⟩:=(H1.out).outP.cells;obtain⟨f0,f1,f2⟩:=(H1.out).outP.free;obtain⟨n0,n1,n2⟩:=(H1.out).outN.cells;obtain⟨g0,g1,g2⟩:=(H1.out).outN.free;(have TB1:=qh (TB.out.stays hb);have KB1:=qh (KB.out.stays hb);obtain⟨b0,b1,b2⟩:=TB1.out.cells);clear hb)
       |(go_at_call 38;with_reducible refine(QL.out _ H1.out.low).mono ?_;rintro e wx ⟨rfl,hb⟩;have H2:=qh (H1.out.stays hb);(try clear x0 x1 x2 z0 z1 z2 f0 f1 f2 n0 n1 n2 g0 g1 g2);obtain⟨x0,x1,x2⟩:=(H2.out).inn.cells;obtain⟨z0,z1,z2⟩:=(H2.out).outP.cells;obtain⟨f0,f1,f2⟩:=(H2.out).outP.free;obtain⟨n0,n1,n2⟩:=(H2.out).outN.cells;obtain⟨g0,g1,g2⟩:=(H2.out).outN.free;(have TB2:=qh (TB1.out.stays hb);have KB2:=qh (KB1.out.stays hb);obtain⟨b0,b1,b2⟩:=TB2.out.cells);clear hb))
      have HK:=qh (KB2.out.mono (S':=fun b=>w.heap.size+3≤b) fun b e=>e.1)
      go_region
      have hd:=H2.out.put1 (.slice q L.length c) (.int .i64 (at1:Int)) (.bool false) (.int .i64 n.kind) (.string n.text) (.slice pu n.kids.length cu)
      generalize ((((((wx.setCell ⟨w.heap.size+1,0,none⟩ (.slice q L.length c)).setCell ⟨w.heap.size+1,1,none⟩ (.int .i64 (at1:Int))).setCell ⟨w.heap.size+1,2,none⟩ (.bool false)).setCell ⟨w.heap.size+1+1,0,none⟩ (.int .i64 n.kind)).setCell ⟨w.heap.size+1+1,1,none⟩ (.string n.text)).setCell ⟨w.heap.size+1+1,2,none⟩ (.slice pu n.kids.length cu))=Wf at hd⊢
      obtain⟨r0,r1,r2⟩:=hd.outP.cells
      obtain⟨s0,s1,s2⟩:=hd.outN.cells
      have HF:=qh (fun hk=>(qa2.drew hd).told (r:=⟨(at1,false),n,[],false⟩) hk)
      clear hd
      go_wp2
      exact bodyPost_ret (v:=.tuple #[pV q c L (at1,false),.agg #[.int .i64 n.kind,.string n.text,(.slice pu n.kids.length cu)]]) (by simp[results,Tryz.results100,go_sem,r0,r1,r2,s0,s1,s2]) rfl (HF.out HK.out)
     ·have h4:lv<least:=h2.resolve_left h3
      have y1:(lv==0)=false:=beq_eq_false_iff_ne.2 h3
      have y1':(lv=0)=False:=eq_false h3
      have y2:decide (lv<least)=true:=decide_eq_true h4
      have y2':(lv<least)=True:=eq_true h4
      by_cases h5:0<lv
      ·have h6:lv≠bi:=fun e=>h1 ⟨h5,e⟩
       have y3:decide (lv>0)=true:=decide_eq_true h5
       have y3':(0<lv)=True:=eq_true h5
       have y4:(lv==bi)=false:=beq_eq_false_iff_ne.2 h6
       have y4':(lv=bi)=False:=eq_false h6
       clear hrun
       go_upto_region 9 with(first
        |(go_at_call 120;with_reducible refine(QO.out _ HI.out.low).mono ?_;rintro e wx ⟨rfl,hb⟩;have H1:=qh (HI.out.stays hb);(try clear x0 x1 x2 z0 z1 z2 f0 f1 f2 n0 n1 n2 g0 g1 g2);obtain⟨x0,x1,x2⟩:=(H1.out).inn.cells;obtain⟨z0,z1,z2⟩:=(H1.out).outP.cells;obtain⟨f0,f1,f2⟩:=(H1.out).outP.free;obtain⟨n0,n1,n2⟩:=(H1.out).outN.cells;obtain⟨g0,g1,g2⟩:=(H1.out).outN.free;(have TB1:=qh (TB.out.stays hb);have KB1:=qh (KB.out.stays hb);obtain⟨b0,b1,b2⟩:=TB1.out.cells);clear hb)
        |(go_at_call 38;with_reducible refine(QL.out _ H1.out.low).mono ?_;rintro e wx ⟨rfl,hb⟩;have H2:=qh (H1.out.stays hb);(try clear x0 x1 x2 z0 z1 z2 f0 f1 f2 n0 n1 n2 g0 g1 g2);obtain⟨x0,x1,x2⟩:=(H2.out).inn.cells;obtain⟨z0,z1,z2⟩:=(H2.out).outP.cells;obtain⟨f0,f1,f2⟩:=(H2.out).outP.free;obtain⟨n0,n1,n2⟩:=(H2.out).outN.cells;obtain⟨g0,g1,g2⟩:=(H2.out).outN.free;(have TB2:=qh (TB1.out.stays hb);have KB2:=qh (KB1.out.stays hb);obtain⟨b0,b1,b2⟩:=TB2.out.cells);clear hb))
       have HK:=qh (KB2.out.mono (S':=fun b=>w.heap.size+3≤b) fun b e=>e.1)
       go_region
       have hd:=H2.out.put1 (.slice q L.length c) (.int .i64 (at1:Int)) (.bool false) (.int .i64 n.kind) (.string n.text) (.slice pu n.kids.length cu)
       generalize ((((((wx.setCell ⟨w.heap.size+1,0,none⟩ (.slice q L.length c)).setCell ⟨w.heap.size+1,1,none⟩ (.int .i64 (at1:Int))).setCell ⟨w.heap.size+1,2,none⟩ (.bool false)).setCell ⟨w.heap.size+1+1,0,none⟩ (.int .i64 n.kind)).setCell ⟨w.heap.size+1+1,1,none⟩ (.string n.text)).setCell ⟨w.heap.size+1+1,2,none⟩ (.slice pu n.kids.length cu))=Wf at hd⊢
       obtain⟨r0,r1,r2⟩:=hd.outP.cells
       obtain⟨s0,s1,s2⟩:=hd.outN.cells
       have HF:=qh (fun hk=>(qa2.drew hd).told (r:=⟨(at1,false),n,[],false⟩) hk)
       clear hd
       go_wp2
       exact bodyPost_ret (v:=.tuple #[pV q c L (at1,false),.agg #[.int .i64 n.kind,.string n.text,(.slice pu n.kids.length cu)]]) (by simp[results,Tryz.results100,go_sem,r0,r1,r2,s0,s1,s2]) rfl (HF.out HK.out)
      ·have y3:decide (lv>0)=false:=decide_eq_false h5
       have y3':(0<lv)=False:=eq_false h5
       clear hrun
       go_upto_region 9 with(first
        |(go_at_call 120;with_reducible refine(QO.out _ HI.out.low).mono ?_;rintro e wx ⟨rfl,hb⟩;have H1:=qh (HI.out.stays hb);(try clear x0 x1 x2 z0 z1 z2 f0 f1 f2 n0 n1 n2 g0 g1 g2);obtain⟨x0,x1,x2⟩:=(H1.out).inn.cells;obtain⟨z0,z1,z2⟩:=(H1.out).outP.cells;obtain⟨f0,f1,f2⟩:=(H1.out).outP.free;obtain⟨n0,n1,n2⟩:=(H1.out).outN.cells;obtain⟨g0,g1,g2⟩:=(H1.out).outN.free;(have TB1:=qh (TB.out.stays hb);have KB1:=qh (KB.out.stays hb);obtain⟨b0,b1,b2⟩:=TB1.out.cells);clear hb)
        |(go_at_call 38;with_reducible refine(QL.out _ H1.out.low).mono ?_;rintro e wx ⟨rfl,hb⟩;have H2:=qh (H1.out.stays hb);(try clear x0 x1 x2 z0 z1 z2 f0 f1 f2 n0 n1 n2 g0 g1 g2);obtain⟨x0,x1,x2⟩:=(H2.out).inn.cells;obtain⟨z0,z1,z2⟩:=(H2.out).outP.cells;obtain⟨f0,f1,f2⟩:=(H2.out).outP.free;obtain⟨n0,n1,n2⟩:=(H2.out).outN.cells;obtain⟨g0,g1,g2⟩:=(H2.out).outN.free;(have TB2:=qh (TB1.out.stays hb);have KB2:=qh (KB1.out.stays hb);obtain⟨b0,b1,b2⟩:=TB2.out.cells);clear hb))
       have HK:=qh (KB2.out.mono (S':=fun b=>w.heap.size+3≤b) fun b e=>e.1)
       go_region
       have hd:=H2.out.put1 (.slice q L.length c) (.int .i64 (at1:Int)) (.bool false) (.int .i64 n.kind) (.string n.text) (.slice pu n.kids.length cu)
       generalize ((((((wx.setCell ⟨w.heap.size+1,0,none⟩ (.slice q L.length c)).setCell ⟨w.heap.size+1,1,none⟩ (.int .i64 (at1:Int))).setCell ⟨w.heap.size+1,2,none⟩ (.bool false)).setCell ⟨w.heap.size+1+1,0,none⟩ (.int .i64 n.kind)).setCell ⟨w.heap.size+1+1,1,none⟩ (.string n.text)).setCell ⟨w.heap.size+1+1,2,none⟩ (.slice pu n.kids.length cu))=Wf at hd⊢
       obtain⟨r0,r1,r2⟩:=hd.outP.cells
       obtain⟨s0,s1,s2⟩:=hd.outN.cells
       have HF:=qh (fun hk=>(qa2.drew hd).told (r:=⟨(at1,false),n,[],false⟩) hk)
       clear hd
       go_wp2
       exact bodyPost_ret (v:=.tuple #[pV q c L (at1,false),.agg #[.int .i64 n.kind,.string n.text,(.slice pu n.kids.length cu)]]) (by simp[results,Tryz.results100,go_sem,r0,r1,r2,s0,s1,s2]) rfl (HF.out HK.out)
    ·rw[if_neg h2] at hrun
     have h3:lv≠0:=fun e=>h2 (.inl e)
     have h4:¬lv<least:=fun e=>h2 (.inr e)
     obtain⟨p1,hp1,hrun⟩:=Option.bind_eq_some_iff.1 hrun
     obtain⟨a,ha,hrun⟩:=Option.bind_eq_some_iff.1 hrun
     obtain⟨u0,hon,hrun⟩:=Option.bind_eq_some_iff.1 hrun
     have hon2:=qaK hon
     have hlt:=qj5 hp1 rfl
     have QN:=qh (fun U (hU:Below w.heap.size w U)=>qq q c L (at1,false) p1 U hl hp1)
     have QE:=qh (fun U (hU:Below w.heap.size w U)=>IH.out g (by omega) _ _ ha U (HP.out.below hU))
     have HRUN:=qh hrun
     have HON:=qh hon2
     have y1:(lv==0)=false:=beq_eq_false_iff_ne.2 h3
     have y1':(lv=0)=False:=eq_false h3
     have y2:decide (lv<least)=false:=decide_eq_false h4
     have y2':(lv<least)=False:=eq_false h4
     obtain⟨at3,bad3⟩:=p1
     obtain⟨⟨ata,bada⟩,na,la,ba⟩:=a
     dsimp only at HRUN HON
     clear hrun hon hon2 hp1 ha h2 h3 h4 hbad
     have hcs:∃nb,Hid (runP R L g (.expL (ata,bada) (.mk 24 op [n,na]) nb least)=some r)∧((decide (lv>0)=true∧(0<lv)=True∧(lv==bi)=false∧(lv=bi)=False)∨(decide (lv>0)=false∧(0<lv)=False))∧((sd=0∧nb=lv)∨((sd==0)=false∧(sd=0)=False∧nb=0)):=by
      refine⟨if sd=0 then lv else 0,HRUN,?_,?_⟩
      ·by_cases h5:0<lv
       ·have h6:lv≠bi:=fun e=>h1 ⟨h5,e⟩
        exact .inl ⟨decide_eq_true h5,eq_true h5,beq_eq_false_iff_ne.2 h6,eq_false h6⟩
       ·exact .inr ⟨decide_eq_false h5,eq_false h5⟩
      ·by_cases h7:sd=0
       ·exact .inl ⟨h7,if_pos h7⟩
       ·exact .inr ⟨beq_eq_false_iff_ne.2 h7,eq_false h7,if_neg h7⟩
     clear HRUN
     obtain⟨nb,HRUN,hc1,hc2⟩:=hcs
     rcases hc1 with⟨y3,y3',y4,y4'⟩|⟨y3,y3'⟩<;>rcases hc2 with⟨rfl,rfl⟩|⟨y5,y5',rfl⟩
     all_goals
      go_upto_region 14 with(first
       |(go_at_call 120;with_reducible refine(QO.out _ HI.out.low).mono ?_;rintro e wx ⟨rfl,hb⟩;have H1:=qh (HI.out.stays hb);(try clear x0 x1 x2 z0 z1 z2 f0 f1 f2 n0 n1 n2 g0 g1 g2);obtain⟨x0,x1,x2⟩:=(H1.out).inn.cells;obtain⟨z0,z1,z2⟩:=(H1.out).outP.cells;obtain⟨f0,f1,f2⟩:=(H1.out).outP.free;obtain⟨n0,n1,n2⟩:=(H1.out).outN.cells;obtain⟨g0,g1,g2⟩:=(H1.out).outN.free;(have TB1:=qh (TB.out.stays hb);have KB1:=qh (KB.out.stays hb);obtain⟨b0,b1,b2⟩:=TB1.out.cells);clear hb)
       |(go_at_call 38;with_reducible refine(QL.out _ H1.out.low).mono ?_;rintro e wx ⟨rfl,hb⟩;have H2:=qh (H1.out.stays hb);(try clear x0 x1 x2 z0 z1 z2 f0 f1 f2 n0 n1 n2 g0 g1 g2);obtain⟨x0,x1,x2⟩:=(H2.out).inn.cells;obtain⟨z0,z1,z2⟩:=(H2.out).outP.cells;obtain⟨f0,f1,f2⟩:=(H2.out).outP.free;obtain⟨n0,n1,n2⟩:=(H2.out).outN.cells;obtain⟨g0,g1,g2⟩:=(H2.out).outN.free;(have TB2:=qh (TB1.out.stays hb);have KB2:=qh (KB1.out.stays hb);obtain⟨b0,b1,b2⟩:=TB2.out.cells);clear hb)
       |(go_at_call 121;with_reducible refine(QS.out _ H2.out.low).mono ?_;rintro e wx ⟨rfl,hb⟩;have H3:=qh (H2.out.stays hb);(try clear x0 x1 x2 z0 z1 z2 f0 f1 f2 n0 n1 n2 g0 g1 g2);obtain⟨x0,x1,x2⟩:=(H3.out).inn.cells;obtain⟨z0,z1,z2⟩:=(H3.out).outP.cells;obtain⟨f0,f1,f2⟩:=(H3.out).outP.free;obtain⟨n0,n1,n2⟩:=(H3.out).outN.cells;obtain⟨g0,g1,g2⟩:=(H3.out).outN.free;(have TB3:=qh (TB2.out.stays hb);have KB3:=qh (KB2.out.stays hb);obtain⟨b0,b1,b2⟩:=TB3.out.cells);clear hb)
       |(go_at_call 94;with_reducible refine(QN.out _ H3.out.low).mono ?_;rintro e wx ⟨rfl,hb⟩;have H4:=qh (H3.out.stays hb);(try clear x0 x1 x2 z0 z1 z2 f0 f1 f2 n0 n1 n2 g0 g1 g2);obtain⟨x0,x1,x2⟩:=(H4.out).inn.cells;obtain⟨z0,z1,z2⟩:=(H4.out).outP.cells;obtain⟨f0,f1,f2⟩:=(H4.out).outP.free;obtain⟨n0,n1,n2⟩:=(H4.out).outN.cells;obtain⟨g0,g1,g2⟩:=(H4.out).outN.free;(have TB4:=qh (TB3.out.stays hb);have KB4:=qh (KB3.out.stays hb);obtain⟨b0,b1,b2⟩:=TB4.out.cells);clear hb)
       |(go_at_call 105;with_reducible refine(QR.out _ H4.out.low).mono ?_;rintro e wx ⟨rfl,hb⟩;have H5:=qh (H4.out.stays hb);(try clear x0 x1 x2 z0 z1 z2 f0 f1 f2 n0 n1 n2 g0 g1 g2);obtain⟨x0,x1,x2⟩:=(H5.out).inn.cells;obtain⟨z0,z1,z2⟩:=(H5.out).outP.cells;obtain⟨f0,f1,f2⟩:=(H5.out).outP.free;obtain⟨n0,n1,n2⟩:=(H5.out).outN.cells;obtain⟨g0,g1,g2⟩:=(H5.out).outN.free;(have TB5:=qh (TB4.out.stays hb);have KB5:=qh (KB4.out.stays hb);obtain⟨b0,b1,b2⟩:=TB5.out.cells);clear hb)
       |(go_at_call 100;refine(QE.out _ H5.out.low).mono ?_;rintro e w3 ⟨u,rfl,hk,hb⟩;obtain⟨pu_2,cu_2,rfl,lu⟩:=hk.shape;have hz:=H5.out.size;have hz2:=hb.size;obtain⟨al,t4,t5⟩:=qaL w3 78 24 (.slice q L.length c) (.int .i64 (ata:Int)) (.bool bada) (.int .i64 na.kind) (.string na.text) (.slice pu_2 na.kids.length cu_2);have hbt:=hb.trans (al.mono hb.size);have H6:=qh (H5.out.stays hbt);have KA:=qh ((hk.mono (S':=fun b=>w.heap.size+3≤b) (fun b e=>Nat.le_trans hz e)).stays al);have TA:=qh (And.intro t4 t5);obtain⟨⟨ca0_2,ca1_2,ca2_2⟩,⟨cb0_2,cb1_2,cb2_2⟩⟩:=And.intro (TA.out.1.cells) (TA.out.2.cells);(try clear x0 x1 x2 z0 z1 z2 f0 f1 f2 n0 n1 n2 g0 g1 g2);obtain⟨x0,x1,x2⟩:=(H6.out).inn.cells;obtain⟨z0,z1,z2⟩:=(H6.out).outP.cells;obtain⟨f0,f1,f2⟩:=(H6.out).outP.free;obtain⟨n0,n1,n2⟩:=(H6.out).outN.cells;obtain⟨g0,g1,g2⟩:=(H6.out).outN.free;have e1:(w3.heap.size=w.heap.size)=False:=eq_false (by omega);have e2:(w3.heap.size=w.heap.size+1)=False:=eq_false (by omega);have e3:(w3.heap.size=w.heap.size+1+1)=False:=eq_false (by omega);have e4:(w3.heap.size+1=w.heap.size)=False:=eq_false (by omega);have e5:(w.heap.size=w3.heap.size)=False:=eq_false (by omega);have e6:(w.heap.size+1=w3.heap.size)=False:=eq_false (by omega);have e7:(w.heap.size+1+1=w3.heap.size)=False:=eq_false (by omega);have e8:(w.heap.size=w3.heap.size+1)=False:=eq_false (by omega);(have hbl:=TB5.out.lt;have KX:=qh ((hk.mono (S':=fun b=>w.heap.size+3≤b∧b≠B) (fun b e=>⟨by omega,by omega⟩)).stays al);have HB3:=qh (Nat.lt_of_lt_of_le hbl hz2);have TB6:=qh (TB5.out.stays hbt);have KB6:=qh (KB5.out.stays hbt);obtain⟨b0,b1,b2⟩:=TB6.out.cells);clear al t4 t5 hz hz2 hb hbt hk))
      generalize ((w3.alloc (.cells #[.slice q L.length c,.int .i64 (ata:Int),.bool bada] 78)).alloc (.cells #[.int .i64 na.kind,.string na.text,.slice pu_2 na.kids.length cu_2] 24))=W3 at*
      have hb3:=HB3.out
      have io:=H6.out.putIn (ata,bada)
      have kk:=qZ W3 w.heap.size (.slice q L.length c) (.int .i64 (ata:Int)) (.bool bada)
      have tb:=TB6.out.keeps kk (by omega)
      have ta:=TA.out.2.keeps kk (by have:=H6.out.size;have:=TA.out.2.lt;omega)
      have kx:=KX.out.keeps kk (fun b hb e=>by omega)
      have kb:=KB6.out.keeps kk (fun b hb e=>by omega)
      obtain⟨v0,v1,v2⟩:=H6.out.inn.free
      go_upto_region 15 with(fail)
      generalize (((W3.setCell ⟨w.heap.size,0,none⟩ (.slice q L.length c)).setCell ⟨w.heap.size,1,none⟩ (.int .i64 (ata:Int))).setCell ⟨w.heap.size,2,none⟩ (.bool bada))=V at io kk tb ta kx kb⊢
      have hbv:=tb.lt
      have hiv:=io.size
      have alX:=(Below.refl V.heap.size V).alloc (Nat.le_refl _) (.cells #[.int .i64 n.kind,.string n.text,.slice pu n.kids.length cu,.int .i64 na.kind,.string na.text,.slice pu_2 na.kids.length cu_2] 24)
      have tbx:=tb.stays alX
      obtain⟨b0,b1,b2⟩:=tb.cells
      obtain⟨ff0,ff1,ff2⟩:=tb.free
      obtain⟨c0,c1,c2⟩:=ta.cells
      obtain⟨d0,d1,d2⟩:=tbx.cells
      obtain⟨f0,f1,f2⟩:=tbx.free
      have kput:=qZ V B (.int .i64 24) (.string op) (.slice (some ⟨V.heap.size,0,none⟩) 2 2)
      have tput:=tb.put (.int .i64 24) (.string op) (.slice (some ⟨V.heap.size,0,none⟩) 2 2)
      have kb2:=kb.keeps kput (fun b hb e=>hb.2 e)
      have kx2:=kx.keeps kput (fun b hb e=>hb.2 e)
      have ioy:=io.keeps kput HFAR.out
      have zV:(((V.setCell ⟨B,0,none⟩ (.int .i64 24)).setCell ⟨B,1,none⟩ (.string op)).setCell ⟨B,2,none⟩ (.slice (some ⟨V.heap.size,0,none⟩) 2 2)).heap.size =V.heap.size:=by simp
      have hkl:=qbV (w:=(((V.setCell ⟨B,0,none⟩ (.int .i64 24)).setCell ⟨B,1,none⟩ (.string op)).setCell ⟨B,2,none⟩ (.slice (some ⟨V.heap.size,0,none⟩) 2 2))) (S:=fun b=>w.heap.size+3≤b∧b≠B) n [na] (.slice pu n.kids.length cu) [.slice pu_2 na.kids.length cu_2] rfl (by simp) (fun i y t hy ht=>by match i,hy,ht with|0,hy,ht=>(simp at hy ht;subst hy;subst ht;exact kb2)|1,hy,ht=>(simp at hy ht;subst hy;subst ht;exact kx2)|i+2,hy,ht=>simp at hy)
      rw[zV] at hkl
      have hk2:=hkl.mono (S':=fun b=>w.heap.size+3≤b∧b≠B) (fun b e=>by omega)
      have al2:=(Below.refl (((V.setCell ⟨B,0,none⟩ (.int .i64 24)).setCell ⟨B,1,none⟩ (.string op)).setCell ⟨B,2,none⟩ (.slice (some ⟨V.heap.size,0,none⟩) 2 2)).heap.size _).alloc (Nat.le_refl _) (.cells #[.int .i64 n.kind,.string n.text,.slice pu n.kids.length cu,.int .i64 na.kind,.string na.text,.slice pu_2 na.kids.length cu_2] 24)
      have io2:=ioy.stays al2
      have tp2:=tput.stays al2
      have HNEXT:=qh (And.intro io2 (And.intro tp2 hk2))
      have HM:=qh (qhX io2.inn L.length)
      clear alX al2 hkl tbx kput tput hk2 ioy io kk tb ta kx kb kb2 kx2 zV io2 tp2
      go_wp2
      go_roundw
      case rel=>exact⟨g,(ata,bada),.mk 24 op [n,na],_,some ⟨V.heap.size,0,none⟩,2,rfl,qh ⟨HRUN.out,by omega,HNEXT.out.1,HNEXT.out.2.1,HNEXT.out.2.2,HFAR.out⟩⟩
      case measure=>
       rw[HM.out,qhX HH.out.io.inn L.length]
       have hh:=HON.out
       dsimp only
       simp only[Bool.false_eq_true,if_false]
       split
       ·omega
       ·rename_i hx;rcases hh with hh|hh;exact absurd hh hx;omega
theorem IO3.keepsO{w U V:World}{q:Option Addr}{c:Nat}{L:List PTok}{p:PSt}{O:Nat→Prop}(h:IO3 w U q c L p)(k:qe O U V)(hO:∀b,O b→w.heap.size+3≤b):IO3 w V q c L p:=
 ⟨h.low.trans (k.below h.low.size fun b e=>by have:=hO b e;omega),h.inn.keeps k (fun e=>by have:=hO _ e;omega),h.outP.keeps k (fun e=>by have:=hO _ e;omega),h.outN.keeps k (fun e=>by have:=hO _ e;omega)⟩
theorem qlh:(Tryz.prog.info? 24).map (fun i=>(i.zero,i.size,i.bytes))=some (some (.agg #[.int .i64 0,.string ⟨#[]⟩,.slice none 0 0]),3,48):=by kernel_rfl
theorem qd2:Tryz.prog.underlying 22=some (.slice 24):=by kernel_rfl
theorem qdR:∃i,Tryz.prog.info? 24=some i∧i.zero=some (.agg #[.int .i64 0,.string ⟨#[]⟩,.slice none 0 0])∧i.size=3∧i.bytes=48:=by
 have h:=qlh
 cases hi:Tryz.prog.info? 24 with
 |none=>rw[hi] at h;cases h
 |some i=>
  rw[hi] at h
  simp only[Option.map_some,Option.some.injEq,Prod.mk.injEq] at h
  exact⟨i,rfl,h.1,h.2.1,h.2.2⟩
theorem qjX{base:Nat}{A:Nat→Prop}{w:World}{v:Value}{l:List qb}{us:List Value}(h:KRow base A w v l us):∃p c,v=.slice p l.length c:=by
 rcases h.own.2 with⟨rfl,h0⟩|⟨g,cap,_,rfl,_⟩
 ·exact⟨none,0,by rw[h0]⟩
 ·exact⟨_,_,rfl⟩
theorem qh3{q:Option Addr}{c:Nat}{L:List PTok}(hl:L.length≤1000000000)(p p0 p2:PSt)(a b':PRes)(ho:opP L p ⟨#[45]⟩=false)(hd:qv L p ⟨#[100,101,102]⟩=false)(hlb:qv L p ⟨#[108,97,98,101,108]⟩=false)(hw:qv L p ⟨#[116,114,121]⟩=true)(h0:qs L p=some p0)(ha:qn q c L (.post p0) a)(hc:qv L a.st ⟨#[99,97,116,99,104]⟩=true)(h2:qs L a.st=some p2)(hb':qn q c L (.post p2) b'):qn q c L (.operand p) ⟨b'.st,.mk 15 ⟨#[]⟩ [a.n,b'.n],[],false⟩:=by
 intro w h
 have H0:=qh (qbr w q c L p)
 have QO:=qh (fun U hU=>qp q c L p ⟨#[45]⟩ U (h.below hU))
 have QW1:=qh (fun U hU=>qC q c L p ⟨#[100,101,102]⟩ U (h.below hU))
 have QW2:=qh (fun U hU=>qC q c L p ⟨#[108,97,98,101,108]⟩ U (h.below hU))
 have QW3:=qh (fun U hU=>qC q c L p ⟨#[116,114,121]⟩ U (h.below hU))
 have QC:=qh (fun U hU=>qC q c L a.st ⟨#[99,97,116,99,104]⟩ U (h.below hU))
 rw[ho] at QO
 rw[hd] at QW1
 rw[hlb] at QW2
 rw[hw] at QW3
 rw[hc] at QC
 have QN:=qh (fun U (hU:Below w.heap.size w U)=>qq q c L p p0 U hl h0)
 have QN2:=qh (fun U (hU:Below w.heap.size w U)=>qq q c L a.st p2 U hl h2)
 have QA:=qh (fun U hU=>ha U (h.below hU))
 have QB:=qh (fun U hU=>hb' U (h.below hU))
 clear ho hd hlb hw h0 ha hc h h2 hb'
 obtain⟨i0,hi,hz0,hz1,hz2⟩:=qdR
 obtain⟨at',bad⟩:=p
 obtain⟨at0,bad0⟩:=p0
 obtain⟨at2,bad2⟩:=p2
 obtain⟨⟨ata,bada⟩,n,l,b⟩:=a
 obtain⟨⟨atb,badb⟩,nb,lb,bb⟩:=b'
 have QA2:Hid (∀U,Below w.heap.size w U→Calls Tryz.prog 128 #[.agg #[.slice q L.length c,.int .i64 (at0:Int),.bool bad0]] U (qar q c L U ⟨(ata,bada),n,l,b⟩)):=qh QA.out
 have QB2:Hid (∀U,Below w.heap.size w U→Calls Tryz.prog 128 #[.agg #[.slice q L.length c,.int .i64 (at2:Int),.bool bad2]] U (qar q c L U ⟨(atb,badb),nb,lb,bb⟩)):=qh QB.out
 clear QA QB
 go_enter Tryz.func119,Tryz.ntmps119
 go_upto_region 16 with(first
  |(go_at_call 98;with_reducible refine(QO.out _ H0.out.low).mono ?_;rintro e wx ⟨rfl,hb⟩;have H1:=qh (H0.out.stays hb);(try clear x0 x1 x2 z0 z1 z2 f0 f1 f2 n0 n1 n2 g0 g1 g2);obtain⟨x0,x1,x2⟩:=(H1.out).inn.cells;obtain⟨z0,z1,z2⟩:=(H1.out).outP.cells;obtain⟨f0,f1,f2⟩:=(H1.out).outP.free;obtain⟨n0,n1,n2⟩:=(H1.out).outN.cells;obtain⟨g0,g1,g2⟩:=(H1.out).outN.free;skip;clear hb)
  |(go_at_call 64;with_reducible refine(QW1.out _ H1.out.low).mono ?_;rintro e wx ⟨rfl,hb⟩;have H2:=qh (H1.out.stays hb);(try clear x0 x1 x2 z0 z1 z2 f0 f1 f2 n0 n1 n2 g0 g1 g2);obtain⟨x0,x1,x2⟩:=(H2.out).inn.cells;obtain⟨z0,z1,z2⟩:=(H2.out).outP.cells;obtain⟨f0,f1,f2⟩:=(H2.out).outP.free;obtain⟨n0,n1,n2⟩:=(H2.out).outN.cells;obtain⟨g0,g1,g2⟩:=(H2.out).outN.free;skip;clear hb)
  |(go_at_call 64;with_reducible refine(QW2.out _ H2.out.low).mono ?_;rintro e wx ⟨rfl,hb⟩;have H3:=qh (H2.out.stays hb);(try clear x0 x1 x2 z0 z1 z2 f0 f1 f2 n0 n1 n2 g0 g1 g2);obtain⟨x0,x1,x2⟩:=(H3.out).inn.cells;obtain⟨z0,z1,z2⟩:=(H3.out).outP.cells;obtain⟨f0,f1,f2⟩:=(H3.out).outP.free;obtain⟨n0,n1,n2⟩:=(H3.out).outN.cells;obtain⟨g0,g1,g2⟩:=(H3.out).outN.free;skip;clear hb)
  |(go_at_call 64;with_reducible refine(QW3.out _ H3.out.low).mono ?_;rintro e wx ⟨rfl,hb⟩;have H4:=qh (H3.out.stays hb);(try clear x0 x1 x2 z0 z1 z2 f0 f1 f2 n0 n1 n2 g0 g1 g2);obtain⟨x0,x1,x2⟩:=(H4.out).inn.cells;obtain⟨z0,z1,z2⟩:=(H4.out).outP.cells;obtain⟨f0,f1,f2⟩:=(H4.out).outP.free;obtain⟨n0,n1,n2⟩:=(H4.out).outN.cells;obtain⟨g0,g1,g2⟩:=(H4.out).outN.free;skip;clear hb)
  |(go_at_call 94;with_reducible refine(QN.out _ H4.out.low).mono ?_;rintro e wx ⟨rfl,hb⟩;have H5:=qh (H4.out.stays hb);(try clear x0 x1 x2 z0 z1 z2 f0 f1 f2 n0 n1 n2 g0 g1 g2);obtain⟨x0,x1,x2⟩:=(H5.out).inn.cells;obtain⟨z0,z1,z2⟩:=(H5.out).outP.cells;obtain⟨f0,f1,f2⟩:=(H5.out).outP.free;obtain⟨n0,n1,n2⟩:=(H5.out).outN.cells;obtain⟨g0,g1,g2⟩:=(H5.out).outN.free;skip;clear hb)
  |(go_at_call 128;go_loud((with_reducible refine(QA2.out _ H5.out.low).mono ?_);rintro e w1 ⟨u,rfl,hk,hb⟩;obtain⟨pu_1,cu_1,rfl,lu⟩:=hk.shape;have hz:=H5.out.size;have hz2:=hb.size;obtain⟨al,t4,t5⟩:=qaL w1 78 24 (.slice q L.length c) (.int .i64 (ata:Int)) (.bool bada) (.int .i64 n.kind) (.string n.text) (.slice pu_1 n.kids.length cu_1);have hbt:=hb.trans (al.mono hb.size);have H6:=qh (H5.out.stays hbt);have K1:=qh ((hk.mono (S':=fun b=>w.heap.size+3≤b) (fun b e=>Nat.le_trans hz e)).stays al);have T1:=qh (And.intro t4 t5);obtain⟨⟨ca0_1,ca1_1,ca2_1⟩,⟨cb0_1,cb1_1,cb2_1⟩⟩:=And.intro (T1.out.1.cells) (T1.out.2.cells);(try clear x0 x1 x2 z0 z1 z2 f0 f1 f2 n0 n1 n2 g0 g1 g2);obtain⟨x0,x1,x2⟩:=(H6.out).inn.cells;obtain⟨z0,z1,z2⟩:=(H6.out).outP.cells;obtain⟨f0,f1,f2⟩:=(H6.out).outP.free;obtain⟨n0,n1,n2⟩:=(H6.out).outN.cells;obtain⟨g0,g1,g2⟩:=(H6.out).outN.free;have e1:(w1.heap.size=w.heap.size)=False:=eq_false (by omega);have e2:(w1.heap.size=w.heap.size+1)=False:=eq_false (by omega);have e3:(w1.heap.size=w.heap.size+1+1)=False:=eq_false (by omega);have e4:(w1.heap.size+1=w.heap.size)=False:=eq_false (by omega);have e5:(w.heap.size=w1.heap.size)=False:=eq_false (by omega);have e6:(w.heap.size+1=w1.heap.size)=False:=eq_false (by omega);have e7:(w.heap.size+1+1=w1.heap.size)=False:=eq_false (by omega);have e8:(w.heap.size=w1.heap.size+1)=False:=eq_false (by omega);(have hs6:=H6.out.size;have hfar:=Nat.le_trans hz hz2;have HFAR:=qh hfar;have H7:=qh (H6.out.stays ((Below.refl _ _).alloc (Nat.le_refl _) (.cells #[.int .i64 n.kind,.string n.text,.slice pu_1 n.kids.length cu_1] 24)));have ka:=(hk.within.mono (S':=fun b=>w.heap.size+3≤b∧b≠w1.heap.size) (fun b e=>⟨by omega,by omega⟩)).stays al;have kx:=qmi (base:=w.heap.size+3) n _ ka hs6;rw[World.size_alloc,World.size_alloc] at kx;have R1:=qh kx;have T7:=qh (T1.out.1.stays ((Below.refl _ _).alloc (Nat.le_refl _) (.cells #[.int .i64 n.kind,.string n.text,.slice pu_1 n.kids.length cu_1] 24)));obtain⟨m0,m1,m2⟩:=T7.out.cells;clear kx hs6 ka hfar);clear al t4 t5 hz hz2 hb hbt hk))
  |(go_at_call 64;with_reducible refine(QC.out _ H7.out.low).mono ?_;rintro e wc ⟨rfl,hb⟩;have H8:=qh (H7.out.stays hb);have R2:=qh (R1.out.below hb);have T8:=qh (T7.out.stays hb);obtain⟨m0,m1,m2⟩:=T8.out.cells;(try clear x0 x1 x2 z0 z1 z2 f0 f1 f2 n0 n1 n2 g0 g1 g2);obtain⟨x0,x1,x2⟩:=(H8.out).inn.cells;obtain⟨z0,z1,z2⟩:=(H8.out).outP.cells;obtain⟨f0,f1,f2⟩:=(H8.out).outP.free;obtain⟨n0,n1,n2⟩:=(H8.out).outN.cells;obtain⟨g0,g1,g2⟩:=(H8.out).outN.free;clear hb)
  |(go_at_call 94;with_reducible refine(QN2.out _ H8.out.low).mono ?_;rintro e wd ⟨rfl,hb⟩;have H9:=qh (H8.out.stays hb);have R3:=qh (R2.out.below hb);have T9:=qh (T8.out.stays hb);obtain⟨m0,m1,m2⟩:=T9.out.cells;(try clear x0 x1 x2 z0 z1 z2 f0 f1 f2 n0 n1 n2 g0 g1 g2);obtain⟨x0,x1,x2⟩:=(H9.out).inn.cells;obtain⟨z0,z1,z2⟩:=(H9.out).outP.cells;obtain⟨f0,f1,f2⟩:=(H9.out).outP.free;obtain⟨n0,n1,n2⟩:=(H9.out).outN.cells;obtain⟨g0,g1,g2⟩:=(H9.out).outN.free;clear hb)
  |(go_at_call 128;go_loud((with_reducible refine(QB2.out _ H9.out.low).mono ?_);rintro e w3 ⟨u,rfl,hk,hb⟩;obtain⟨pu_2,cu_2,rfl,lu⟩:=hk.shape;have hz:=H9.out.size;have hz2:=hb.size;obtain⟨al,t4,t5⟩:=qaL w3 78 24 (.slice q L.length c) (.int .i64 (atb:Int)) (.bool badb) (.int .i64 nb.kind) (.string nb.text) (.slice pu_2 nb.kids.length cu_2);have hbt:=hb.trans (al.mono hb.size);have H10:=qh (H9.out.stays hbt);have K2:=qh ((hk.mono (S':=fun b=>w.heap.size+3≤b) (fun b e=>Nat.le_trans hz e)).stays al);have T2:=qh (And.intro t4 t5);obtain⟨⟨ca0_2,ca1_2,ca2_2⟩,⟨cb0_2,cb1_2,cb2_2⟩⟩:=And.intro (T2.out.1.cells) (T2.out.2.cells);(try clear x0 x1 x2 z0 z1 z2 f0 f1 f2 n0 n1 n2 g0 g1 g2);obtain⟨x0,x1,x2⟩:=(H10.out).inn.cells;obtain⟨z0,z1,z2⟩:=(H10.out).outP.cells;obtain⟨f0,f1,f2⟩:=(H10.out).outP.free;obtain⟨n0,n1,n2⟩:=(H10.out).outN.cells;obtain⟨g0,g1,g2⟩:=(H10.out).outN.free;have e1:(w3.heap.size=w.heap.size)=False:=eq_false (by omega);have e2:(w3.heap.size=w.heap.size+1)=False:=eq_false (by omega);have e3:(w3.heap.size=w.heap.size+1+1)=False:=eq_false (by omega);have e4:(w3.heap.size+1=w.heap.size)=False:=eq_false (by omega);have e5:(w.heap.size=w3.heap.size)=False:=eq_false (by omega);have e6:(w.heap.size+1=w3.heap.size)=False:=eq_false (by omega);have e7:(w.heap.size+1+1=w3.heap.size)=False:=eq_false (by omega);have e8:(w.heap.size=w3.heap.size+1)=False:=eq_false (by omega);(have ht9:=T9.out.lt;have hr9:=(R3.out.own.lt (w1.heap.size+1+1) rfl).2;have kb:=(hk.mono (S':=fun b=>w.heap.size+3≤b∧b≠w1.heap.size∧b≠w1.heap.size+1+1) (fun b e=>⟨by omega,by omega,by omega⟩)).stays al;clear hr9;have KX:=qh kb;have R4:=qh (R3.out.below hbt);have T10:=qh (T9.out.stays hbt);have HW:=qh (Nat.lt_of_lt_of_le ht9 hz2);clear kb ht9);clear al t4 t5 hz hz2 hb hbt hk)))
 generalize ((w3.alloc (.cells #[.slice q L.length c,.int .i64 (atb:Int),.bool badb] 78)).alloc (.cells #[.int .i64 nb.kind,.string nb.text,.slice pu_2 nb.kids.length cu_2] 24))=W3 at*
 have hfar:=HFAR.out
 have hw:=HW.out
 have hr:=R4.out.own.lt (w1.heap.size+1+1) rfl
 have ht2:=T2.out.2.lt
 have kk:=qZ W3 w1.heap.size (.slice q L.length c) (.int .i64 (atb:Int)) (.bool badb)
 have io:=H10.out.keeps kk hfar
 have tp:=T10.out.put (.slice q L.length c) (.int .i64 (atb:Int)) (.bool badb)
 have tn:=T2.out.2.keeps kk (by omega)
 have rr:=R4.out.keeps kk (fun g hg e=>by cases hg;exact absurd e (show ¬(w1.heap.size+1+1=w1.heap.size) by omega)) (fun b hb e=>hb.2 e)
 have kx:=KX.out.keeps kk (fun b hb e=>hb.2.1 e)
 obtain⟨v0,v1,v2⟩:=T10.out.free
 obtain⟨m0,m1,m2⟩:=T10.out.cells
 go_upto_region 17 with(fail)
 generalize (((W3.setCell ⟨w1.heap.size,0,none⟩ (.slice q L.length c)).setCell ⟨w1.heap.size,1,none⟩ (.int .i64 (atb:Int))).setCell ⟨w1.heap.size,2,none⟩ (.bool badb))=V at kk io tp tn rr kx⊢
 have alX:=(Below.refl V.heap.size V).alloc (Nat.le_refl _) (.cells #[.int .i64 nb.kind,.string nb.text,.slice pu_2 nb.kids.length cu_2] 24)
 have HN:=qh (World.alloc_heap_new V (.cells #[.int .i64 nb.kind,.string nb.text,.slice pu_2 nb.kids.length cu_2] 24))
 have RX:=qh (rr.below alX)
 have TX:=qh (tp.stays alX)
 have IX:=qh (io.stays alX)
 have KY:=qh (kx.within.stays alX)
 have HSZ:Hid (w.heap.size+3≤(V.alloc (.cells #[.int .i64 nb.kind,.string nb.text,.slice pu_2 nb.kids.length cu_2] 24)).heap.size):=qh (by rw[World.size_alloc];have:=io.size;omega)
 have HRB:=qh (rr.own.lt (w1.heap.size+1+1) rfl).2
 obtain⟨k0,k1,k2⟩:=tn.cells
 clear kk io tp tn rr kx alX v0 v1 v2 m0 m1 m2
 go_upto_region 18 with(at_builtin;go_loud(refine qaa _ rfl _ _ 22 rfl (w.heap.size+3) 24 i0 _ 3 48 qd2 hi hz0 hz1 hz2 rfl (by decide) _ 1 _ rfl RX.out.own ⟨V.heap.size,0,none⟩ 1 1 [.int .i64 nb.kind,.string nb.text,.slice pu_2 nb.kids.length cu_2] rfl rfl (by intro j u hu;match j,hu with|0,hu=>simp at hu;subst hu;exact qa HN.out rfl|1,hu=>simp at hu;subst hu;exact qa HN.out rfl|2,hu=>simp at hu;subst hu;exact qa HN.out rfl|j+3,hu=>simp at hu) (by intro u hu;simp at hu;rcases hu with rfl|rfl|rfl<;>rfl) (by simp only[maxLen];omega) (by omega) HSZ.out ?_;intro v' w4 hown hkeep hblk _;have hpush:=RX.out.push (x:=nb) (KY.out.mono fun b hb=>⟨⟨hb.1.1,hb.1.2.1⟩,by rw[World.size_alloc];have:=hb.2;omega,fun e=>by cases e;exact hb.1.2.2 rfl⟩) hown hkeep (hblk.imp id fun e=>⟨_,e,Nat.le_refl _⟩);have RP:=qh hpush;obtain⟨p4,c4,rfl⟩:=qjX hpush;have HK4:=qh hkeep;clear hown hkeep hblk hpush))
 have hOwn:∀b,some b=(Value.slice (some ⟨w1.heap.size+1+1,0,none⟩) 1 1).ownBlock →b=w1.heap.size+1+1:=fun b e=>by cases e;rfl
 have I4:=qh (IX.out.keepsO HK4.out (fun b e=>by have:=hOwn b e;omega))
 have T4:=qh (TX.out.keeps HK4.out (fun e=>by have:=hOwn _ e;omega))
 have KF:=qh (RP.out.told (fun b hb=>hb.1) (by simp))
 obtain⟨m0,m1,m2⟩:=T4.out.cells
 (try clear x0 x1 x2 z0 z1 z2 f0 f1 f2 n0 n1 n2 g0 g1 g2);obtain⟨x0,x1,x2⟩:=(I4.out).inn.cells;obtain⟨z0,z1,z2⟩:=(I4.out).outP.cells;obtain⟨f0,f1,f2⟩:=(I4.out).outP.free;obtain⟨n0,n1,n2⟩:=(I4.out).outN.cells;obtain⟨g0,g1,g2⟩:=(I4.out).outN.free
 clear hOwn
 go_wp2
 have hd:=(I4.out).put1 (.slice q L.length c) (.int .i64 (atb:Int)) (.bool badb) (.int .i64 15) (.string ⟨#[]⟩) (.slice p4 2 c4)
 generalize ((((((w4.setCell ⟨w.heap.size+1,0,none⟩ (.slice q L.length c)).setCell ⟨w.heap.size+1,1,none⟩ (.int .i64 (atb:Int))).setCell ⟨w.heap.size+1,2,none⟩ (.bool badb)).setCell ⟨w.heap.size+1+1,0,none⟩ (.int .i64 15)).setCell ⟨w.heap.size+1+1,1,none⟩ (.string ⟨#[]⟩)).setCell ⟨w.heap.size+1+1,2,none⟩ (.slice p4 2 c4))=Wf at hd⊢
 obtain⟨r0,r1,r2⟩:=hd.outP.cells
 obtain⟨s0,s1,s2⟩:=hd.outN.cells
 have HF:=qh (fun hk=>hd.told (r:=⟨(atb,badb),.mk 15 ⟨#[]⟩ [n,nb],[],false⟩) hk)
 clear hd
 (try go_wp2)
 exact bodyPost_ret (v:=.tuple #[pV q c L (atb,badb),.agg #[.int .i64 15,.string ⟨#[]⟩,(.slice p4 2 c4)]]) (by simp[results,Tryz.results119,go_sem,r0,r1,r2,s0,s1,s2]) rfl (HF.out KF.out)
end Go.Proofs.YtakbenifinnpfaaGreatDoor
namespace Go.Proofs.YtakbenifinnpfaaGreatDoor
open Go.RowKit Go.Sub
structure Bx where
 B:Nat
 T:TypeId
 vs:List Value
structure Rw where
 e:TypeId
 size:Nat
 v:Value
 k:Nat
 xs:List Value
structure Fact where
 holds:World→(Nat→Prop)→Prop
 keeps:∀{W W':World} {S O:Nat→Prop},holds W S→qe O W W'→(∀b,S b→¬O b)→holds W' S
 mono:∀{W:World} {S S':Nat→Prop},holds W S→(∀b,S b→S' b)→holds W S'
 within:∀{W:World} {S:Nat→Prop},holds W S→holds W (fun b=>S b∧b<W.heap.size)
def qk(u:Value)(l:List qb):Fact:=⟨fun W S=>qo W S u l,fun h k hO=>h.keeps k hO,fun h hS=>h.mono hS,fun h=>h.within⟩
def Bx.nums(bs:List Bx):List Nat:=bs.map Bx.B
def Rw.owns(rs:List Rw):List (Option Nat):=rs.map fun r=>r.v.ownBlock
def Tk(bs:List Bx)(rs:List Rw)(c:Nat):Prop:=c∈Bx.nums bs∨some c∈Rw.owns rs
structure Fr(R:Nat→Prop)(w W:World)(bs:List Bx)(rs:List Rw)(ks:List Fact):Prop where
 low:Below w.heap.size w W
 box:∀b∈bs,w.heap.size≤b.B∧W.heap[b.B]? =some (.cells b.vs.toArray b.T (0,0))
 row:∀r∈rs,W.ownsRow w.heap.size r.e r.size r.v r.k r.xs
 fact:∀k∈ks,k.holds W (fun c=>(R c∨w.heap.size≤c)∧¬Tk bs rs c)
 nb:(Bx.nums bs).Nodup
 nr:(Rw.owns rs).Pairwise fun x y=>x=none∨x≠y
 nx:∀c∈Bx.nums bs,some c∉Rw.owns rs
 old:∀c,R c→c<w.heap.size
section
variable {R:Nat→Prop} {w W U:World} {bs:List Bx} {rs:List Rw} {ks:List Fact}
theorem Fr.new(w:World)(R:Nat→Prop)(h:∀c,R c→c<w.heap.size):Fr R w w [] [] []:=
 ⟨Below.refl _ _,fun _ h=>by simp at h,fun _ h=>by simp at h,fun _ h=>by simp at h,List.nodup_nil,List.Pairwise.nil,fun _ h=>by simp[Bx.nums] at h,h⟩
theorem Fr.new0(w:World):Fr (fun _=>False) w w [] [] []:=Fr.new w _ fun _ h=>h.elim
theorem Fr.num_lt(h:Fr R w W bs rs ks){c:Nat}(hc:c∈Bx.nums bs):c<W.heap.size:=by
 obtain⟨b,hb,rfl⟩:=List.mem_map.1 hc
 exact(Array.getElem?_eq_some_iff.1 (h.box b hb).2).1
theorem Fr.num_ge(h:Fr R w W bs rs ks){c:Nat}(hc:c∈Bx.nums bs):w.heap.size≤c:=by
 obtain⟨b,hb,rfl⟩:=List.mem_map.1 hc
 exact(h.box b hb).1
theorem Fr.own_lt(h:Fr R w W bs rs ks){c:Nat}(hc:some c∈Rw.owns rs):c<W.heap.size:=by
 obtain⟨r,hr,e⟩:=List.mem_map.1 hc
 exact((h.row r hr).lt c e).2
theorem Fr.own_ge(h:Fr R w W bs rs ks){c:Nat}(hc:some c∈Rw.owns rs):w.heap.size≤c:=by
 obtain⟨r,hr,e⟩:=List.mem_map.1 hc
 exact((h.row r hr).lt c e).1
theorem Fr.tk_lt(h:Fr R w W bs rs ks){c:Nat}(hc:Tk bs rs c):c<W.heap.size:=hc.elim h.num_lt h.own_lt
theorem Fr.tk_ge(h:Fr R w W bs rs ks){c:Nat}(hc:Tk bs rs c):w.heap.size≤c:=hc.elim h.num_ge h.own_ge
theorem Fr.stays(h:Fr R w W bs rs ks)(hb:Below W.heap.size W U):Fr R w U bs rs ks:=
 ⟨h.low.trans (hb.mono h.low.size),fun b hm=>⟨(h.box b hm).1,(hb.block _ (Array.getElem?_eq_some_iff.1 (h.box b hm).2).1).trans (h.box b hm).2⟩,
  fun r hr=>qr (h.row r hr) (qe.of_below' (O:=fun _=>False) hb) fun _ _ e=>e,
  fun k hk=>k.keeps (h.fact k hk) (qe.of_below' (O:=fun _=>False) hb) fun _ _ e=>e,h.nb,h.nr,h.nx,h.old⟩
theorem Fr.drew(h:Fr R w W bs rs ks):Fr R w W.drew bs rs ks:=h.stays (Below.refl _ _).drew
theorem Fr.skip(h:Fr R w W bs rs ks)(o:Obj):Fr R w (W.alloc o) bs rs ks:=h.stays ((Below.refl _ _).alloc (Nat.le_refl _) o)
theorem Fr.more(h:Fr R w W bs rs ks)(F:Fact){S:Nat→Prop}(hF:F.holds W S)(hS:∀c,S c→c<W.heap.size→(R c∨w.heap.size≤c)∧¬Tk bs rs c):Fr R w W bs rs (F::ks):=by
 refine⟨h.low,h.box,h.row,fun k hk=>?_,h.nb,h.nr,h.nx,h.old⟩
 rcases List.mem_cons.1 hk with rfl|hk
 ·exact k.mono (k.within hF) fun c hc=>hS c hc.1 hc.2
 ·exact h.fact k hk
theorem Fr.call(h:Fr R w W bs rs ks)(hb:Below W.heap.size W U)(F:Fact)(hF:F.holds U (fun c=>W.heap.size≤c)):Fr R w U bs rs (F::ks):=
 (h.stays hb).more F hF fun c hc _=>⟨.inr (Nat.le_trans h.low.size hc),fun ht=>by have:=h.tk_lt ht;omega⟩
theorem Fr.get(h:Fr R w W bs rs ks){F:Fact}(hk:F∈ks):F.holds W (fun c=>(R c∨w.heap.size≤c)∧¬Tk bs rs c):=h.fact F hk
theorem Fr.addBox(h:Fr R w W bs rs ks)(hb:Below W.heap.size W U){vs:List Value}{T:TypeId}(hu:U.heap[W.heap.size]? =some (.cells vs.toArray T (0,0))):Fr R w U (bs++[⟨W.heap.size,T,vs⟩]) rs ks:=by
 have h':=h.stays hb
 have hn:Bx.nums (bs++[⟨W.heap.size,T,vs⟩])=Bx.nums bs++[W.heap.size]:=by simp[Bx.nums]
 have hm:∀c,c∈Bx.nums (bs++[⟨W.heap.size,T,vs⟩])→c∈Bx.nums bs∨c=W.heap.size:=fun c hc=>by rw[hn] at hc;simpa using hc
 refine⟨h'.low,fun b hb'=>?_,h'.row,fun k hk=>?_,?_,h'.nr,fun c hc ho=>?_,h'.old⟩
 ·rcases List.mem_append.1 hb' with hb'|hb'
  ·exact h'.box b hb'
  ·obtain rfl:b=⟨W.heap.size,T,vs⟩:=by simpa using hb'
   exact⟨h.low.size,hu⟩
 ·refine k.mono (k.keeps (k.within (h.fact k hk)) (qe.of_below' (O:=fun _=>False) hb) fun _ _ e=>e) fun c hc=>⟨hc.1.1,fun ht=>?_⟩
  rcases ht with ht|ht
  ·rcases hm c ht with ht|ht
   ·exact hc.1.2 (.inl ht)
   ·exact absurd hc.2 (by omega)
  ·exact hc.1.2 (.inr ht)
 ·rw[hn]
  exact List.nodup_append.2 ⟨h.nb,by simp,fun a ha b hb=>by
   have:=h.num_lt ha
   obtain rfl:b=W.heap.size:=by simpa using hb
   omega⟩
 ·rcases hm c hc with hc|hc
  ·exact h.nx c hc ho
  ·have:=h.own_lt ho;omega
theorem Fr.lay(h:Fr R w W bs rs ks)(vs:List Value)(T:TypeId):Fr R w (W.alloc (.cells vs.toArray T)) (bs++[⟨W.heap.size,T,vs⟩]) rs ks:=
 h.addBox ((Below.refl _ _).alloc (Nat.le_refl _) _) (World.alloc_heap_new W _)
theorem Fr.keepsO{O:Nat→Prop}(h:Fr R w W bs rs ks)(k:qe O W U)(hO:∀c,O c→Tk bs rs c)(hb:∀b∈bs,O b.B→U.heap[b.B]? =some (.cells b.vs.toArray b.T (0,0)))(hr:∀r∈rs,∀g,some g=r.v.ownBlock→¬O g):Fr R w U bs rs ks:=
 ⟨h.low.trans (k.below h.low.size fun c hc=>h.tk_ge (hO c hc)),fun b hm=>⟨(h.box b hm).1,by
   by_cases ho:O b.B
   ·exact hb b hm ho
   ·exact k.heap (h.box b hm).2 ho⟩,
  fun r hm=>qr (h.row r hm) k (hr r hm),fun f hf=>f.keeps (h.fact f hf) k fun c hc ho=>hc.2 (hO c ho),h.nb,h.nr,h.nx,h.old⟩
theorem qlV{i:Nat}{b b':Bx}(hi:bs[i]? =some b)(e:b'.B=b.B):Bx.nums (bs.set i b')=Bx.nums bs:=by
 unfold Bx.nums
 rw[List.map_set,e]
 refine List.ext_getElem? fun j=>?_
 rw[List.getElem?_set]
 split
 ·rename_i hj
  subst hj
  simp[hi]
  exact(List.getElem?_eq_some_iff.1 hi).1
 ·rfl
theorem qjB{i:Nat}{b:Bx}(hi:bs[i]? =some b):b.B∈Bx.nums bs:=List.mem_map_of_mem (List.mem_of_getElem? hi)
theorem qfb{i j:Nat}{b c:Bx}(h:Fr R w W bs rs ks)(hi:bs[i]? =some b)(hj:bs[j]? =some c)(e:b.B=c.B):i=j:=by
 have hi':(Bx.nums bs)[i]? =some b.B:=by simp[Bx.nums,hi]
 have hj':(Bx.nums bs)[j]? =some b.B:=by simp[Bx.nums,hj,e]
 have hl:i<(Bx.nums bs).length :=(List.getElem?_eq_some_iff.1 hi').1
 exact(List.getElem?_inj hl h.nb).1 (hi'.trans hj'.symm)
theorem Fr.setB(h:Fr R w W bs rs ks){i B:Nat}{T:TypeId}{vs vs':List Value}(hi:bs[i]? =some ⟨B,T,vs⟩)(k:qe (fun c=>c=B) W U)(hu:U.heap[B]? =some (.cells vs'.toArray T (0,0))):Fr R w U (bs.set i ⟨B,T,vs'⟩) rs ks:=by
 have hn:=qlV (b':=⟨B,T,vs'⟩) hi rfl
 have hB:B∈Bx.nums bs:=qjB hi
 have ht:∀c,Tk (bs.set i ⟨B,T,vs'⟩) rs c=Tk bs rs c:=fun c=>by unfold Tk;rw[hn]
 refine⟨h.low.trans (k.below h.low.size fun c hc=>by rw[hc];exact h.num_ge hB),fun b hm=>?_,fun r hm=>qr (h.row r hm) k (fun g hg e=>h.nx B hB (by rw[←e,hg];exact List.mem_map_of_mem hm)),fun f hf=>?_,by rw[hn];exact h.nb,h.nr,fun c hc=>h.nx c (by rw[←hn];exact hc),h.old⟩
 ·obtain⟨j,hj⟩:=List.mem_iff_getElem?.1 hm
  rw[List.getElem?_set] at hj
  by_cases e:i=j
  ·subst e
   have hl:i<bs.length:=(List.getElem?_eq_some_iff.1 hi).1
   obtain rfl:(⟨B,T,vs'⟩:Bx)=b:=by simpa[hl] using hj
   exact⟨h.num_ge hB,hu⟩
  ·rw[if_neg e] at hj
   have hne:¬b.B=B:=fun e'=>e (qfb h hi hj e'.symm)
   exact⟨(h.box b (List.mem_of_getElem? hj)).1,k.heap (h.box b (List.mem_of_getElem? hj)).2 hne⟩
 ·exact f.mono (f.keeps (h.fact f hf) k fun c hc e=>hc.2 (by rw[e];exact .inl hB)) fun c hc=>⟨hc.1,by rw[ht];exact hc.2⟩
theorem Fr.block(h:Fr R w W bs rs ks){i:Nat}{b:Bx}(hi:bs[i]? =some b):W.heap[b.B]? =some (.cells b.vs.toArray b.T (0,0)):=(h.box b (List.mem_of_getElem? hi)).2
theorem Fr.set(h:Fr R w W bs rs ks)(i j:Nat){B:Nat}{T:TypeId}{vs:List Value}(hi:bs[i]? =some ⟨B,T,vs⟩)(v:Value):Fr R w (W.setCell ⟨B,j,none⟩ v) (bs.set i ⟨B,T,vs.set j v⟩) rs ks:=by
 refine h.setB hi (qal W B j v rfl) ?_
 rw[heap_setCell_same W B j _ _ v (h.block hi)]
 simp
theorem Fr.set3(h:Fr R w W bs rs ks)(i:Nat){B:Nat}{T:TypeId}{x0 y0 z0:Value}(hi:bs[i]? =some ⟨B,T,[x0,y0,z0]⟩){x y z:Value}:Fr R w (((W.setCell ⟨B,0,none⟩ x).setCell ⟨B,1,none⟩ y).setCell ⟨B,2,none⟩ z) (bs.set i ⟨B,T,[x,y,z]⟩) rs ks:=
 h.setB hi (qZ W B x y z) (TBox.put (h.block hi) x y z)
theorem Fr.c2(h:Fr R w W bs rs ks)(i:Nat){B:Nat}{T:TypeId}{x y:Value}(hi:bs[i]? =some ⟨B,T,[x,y]⟩):(W.cell? ⟨B,0,none⟩=some x∧W.cell? ⟨B,1,none⟩=some y)∧(W.frozen? ⟨B,0,none⟩=false∧W.frozen? ⟨B,1,none⟩=false):=
 ⟨⟨qa (h.block hi) rfl,qa (h.block hi) rfl⟩,frozen_of_row W B 0 _ _ (h.block hi),frozen_of_row W B 1 _ _ (h.block hi)⟩
theorem Fr.c3(h:Fr R w W bs rs ks)(i:Nat){B:Nat}{T:TypeId}{x y z:Value}(hi:bs[i]? =some ⟨B,T,[x,y,z]⟩):(W.cell? ⟨B,0,none⟩=some x∧W.cell? ⟨B,1,none⟩=some y∧W.cell? ⟨B,2,none⟩=some z)∧(W.frozen? ⟨B,0,none⟩=false∧W.frozen? ⟨B,1,none⟩=false∧W.frozen? ⟨B,2,none⟩=false):=
 ⟨⟨qa (h.block hi) rfl,qa (h.block hi) rfl,qa (h.block hi) rfl⟩,frozen_of_row W B 0 _ _ (h.block hi),frozen_of_row W B 1 _ _ (h.block hi),frozen_of_row W B 2 _ _ (h.block hi)⟩
theorem Fr.far(h:Fr R w W bs rs ks)(i:Nat){B:Nat}{T:TypeId}{vs:List Value}(hi:bs[i]? =some ⟨B,T,vs⟩):((W.heap.size=B)=False∧(W.heap.size+1=B)=False∧(W.heap.size+1+1=B)=False)∧((B=W.heap.size)=False∧(B=W.heap.size+1)=False∧(B=W.heap.size+1+1)=False):=by
 have:=h.num_lt (qjB hi)
 dsimp only at this
 exact⟨⟨eq_false (by omega),eq_false (by omega),eq_false (by omega)⟩,eq_false (by omega),eq_false (by omega),eq_false (by omega)⟩
theorem Fr.ne(h:Fr R w W bs rs ks)(i j:Nat){B C:Nat}{T T':TypeId}{vs vs':List Value}(hi:bs[i]? =some ⟨B,T,vs⟩)(hj:bs[j]? =some ⟨C,T',vs'⟩)(hij:(i==j)=false):(B=C)=False∧(C=B)=False:=
 ⟨eq_false fun e=>by have:=qfb h hi hj e;simp[this] at hij,eq_false fun e=>by have:=qfb h hi hj e.symm;simp[this] at hij⟩
theorem Fr.cc3{B0 B1 B2:Nat}{T0 T1 T2:TypeId}{x0 y0 z0 x1 y1 z1 x2 y2 z2:Value}(h:Fr R w W (⟨B0,T0,[x0,y0,z0]⟩::⟨B1,T1,[x1,y1,z1]⟩::⟨B2,T2,[x2,y2,z2]⟩::bs) rs ks):
  ((W.cell? ⟨B0,0,none⟩=some x0∧W.cell? ⟨B0,1,none⟩=some y0∧W.cell? ⟨B0,2,none⟩=some z0)∧(W.frozen? ⟨B0,0,none⟩=false∧W.frozen? ⟨B0,1,none⟩=false∧W.frozen? ⟨B0,2,none⟩=false))∧
  ((W.cell? ⟨B1,0,none⟩=some x1∧W.cell? ⟨B1,1,none⟩=some y1∧W.cell? ⟨B1,2,none⟩=some z1)∧(W.frozen? ⟨B1,0,none⟩=false∧W.frozen? ⟨B1,1,none⟩=false∧W.frozen? ⟨B1,2,none⟩=false))∧
  ((W.cell? ⟨B2,0,none⟩=some x2∧W.cell? ⟨B2,1,none⟩=some y2∧W.cell? ⟨B2,2,none⟩=some z2)∧(W.frozen? ⟨B2,0,none⟩=false∧W.frozen? ⟨B2,1,none⟩=false∧W.frozen? ⟨B2,2,none⟩=false)):=
 ⟨h.c3 0 rfl,h.c3 1 rfl,h.c3 2 rfl⟩
theorem Fr.ff3{b0 b1 b2:Bx}(h:Fr R w W (b0::b1::b2::bs) rs ks):
  (((W.heap.size=b0.B)=False∧(W.heap.size+1=b0.B)=False∧(W.heap.size+1+1=b0.B)=False)∧((b0.B=W.heap.size)=False∧(b0.B=W.heap.size+1)=False∧(b0.B=W.heap.size+1+1)=False))∧
  (((W.heap.size=b1.B)=False∧(W.heap.size+1=b1.B)=False∧(W.heap.size+1+1=b1.B)=False)∧((b1.B=W.heap.size)=False∧(b1.B=W.heap.size+1)=False∧(b1.B=W.heap.size+1+1)=False))∧
  (((W.heap.size=b2.B)=False∧(W.heap.size+1=b2.B)=False∧(W.heap.size+1+1=b2.B)=False)∧((b2.B=W.heap.size)=False∧(b2.B=W.heap.size+1)=False∧(b2.B=W.heap.size+1+1)=False)):=
 ⟨h.far (B:=b0.B) (T:=b0.T) (vs:=b0.vs) 0 rfl,h.far (B:=b1.B) (T:=b1.T) (vs:=b1.vs) 1 rfl,h.far (B:=b2.B) (T:=b2.T) (vs:=b2.vs) 2 rfl⟩
theorem Fr.addRow(h:Fr R w W bs rs ks)(hb:Below W.heap.size W U)(r:Rw)(hr:U.ownsRow w.heap.size r.e r.size r.v r.k r.xs)(ho:∀g,some g=r.v.ownBlock→W.heap.size≤g):Fr R w U bs (rs++[r]) ks:=by
 have h':=h.stays hb
 have hn:Rw.owns (rs++[r])=Rw.owns rs++[r.v.ownBlock]:=by simp[Rw.owns]
 have hm:∀c,c∈Rw.owns (rs++[r])→c∈Rw.owns rs∨c=r.v.ownBlock:=fun c hc=>by rw[hn] at hc;simpa using hc
 refine⟨h'.low,h'.box,fun r' hr'=>?_,fun k hk=>?_,h'.nb,?_,fun c hc hc'=>?_,h'.old⟩
 ·rcases List.mem_append.1 hr' with hr'|hr'
  ·exact h'.row r' hr'
  ·obtain rfl:r'=r:=by simpa using hr'
   exact hr
 ·refine k.mono (k.keeps (k.within (h.fact k hk)) (qe.of_below' (O:=fun _=>False) hb) fun _ _ e=>e) fun c hc=>⟨hc.1.1,fun ht=>?_⟩
  rcases ht with ht|ht
  ·exact hc.1.2 (.inl ht)
  ·rcases hm _ ht with ht|ht
   ·exact hc.1.2 (.inr ht)
   ·have:=ho c ht;have:=hc.2;omega
 ·rw[hn]
  refine List.pairwise_append.2 ⟨h.nr,List.pairwise_singleton _ _,fun a ha b hb'=>?_⟩
  obtain rfl:b=r.v.ownBlock:=by simpa using hb'
  cases a with
  |none=>exact .inl rfl
  |some g=>exact .inr fun e=>by have:=h.own_lt ha;have:=ho g e;omega
 ·rcases hm _ hc' with hc'|hc'
  ·exact h.nx c hc hc'
  ·have:=h.num_lt hc;have:=ho c hc';omega
theorem Fr.rowNil(h:Fr R w W bs rs ks)(e:TypeId)(size:Nat):Fr R w W bs (rs++[⟨e,size,.slice none 0 0,0,[]⟩]) ks:=
 h.addRow (Below.refl _ _) ⟨e,size,.slice none 0 0,0,[]⟩ (World.ownsRow_nil _ _ _ _) fun g hg=>by cases hg
theorem Fr.rowLit(h:Fr R w W bs rs ks)(e:TypeId)(size n:Nat)(vs:List Value)(hn:vs.length=n*size)(hm:n≤maxLen):Fr R w (W.alloc (.cells vs.toArray e)) bs (rs++[⟨e,size,.slice (some ⟨W.heap.size,0,none⟩) n n,n,vs⟩]) ks:=
 h.addRow ((Below.refl _ _).alloc (Nat.le_refl _) _) ⟨e,size,.slice (some ⟨W.heap.size,0,none⟩) n n,n,vs⟩
  ⟨hn,.inr ⟨W.heap.size,n,_,rfl,h.low.size,World.alloc_heap_new W _,Nat.le_refl _,hm,by simp[hn],by simp[←hn]⟩⟩ fun g hg=>by cases hg;exact Nat.le_refl _
theorem Fr.set_row{i:Nat}{r r':Rw}(hi:rs[i]? =some r){c:Option Nat}(hc:c∈Rw.owns (rs.set i r')):(∃j,j≠i∧(Rw.owns rs)[j]? =some c)∨c=r'.v.ownBlock:=by
 unfold Rw.owns at hc
 rw[List.map_set] at hc
 obtain⟨j,hj⟩:=List.mem_iff_getElem?.1 hc
 rw[List.getElem?_set] at hj
 by_cases e:i=j
 ·subst e
  rw[if_pos rfl] at hj
  split at hj
  ·exact .inr (Option.some.inj hj).symm
  ·cases hj
 ·rw[if_neg e] at hj
  exact .inl ⟨j,fun e'=>e e'.symm,hj⟩
theorem qhs{i:Nat}{r r':Rw}(hi:rs[i]? =some r)(e:r'.v.ownBlock=r.v.ownBlock):Rw.owns (rs.set i r')=Rw.owns rs:=by
 unfold Rw.owns
 rw[List.map_set,e]
 refine List.ext_getElem? fun j=>?_
 rw[List.getElem?_set]
 split
 ·rename_i hj
  subst hj
  simp[hi]
  exact(List.getElem?_eq_some_iff.1 hi).1
 ·rfl
theorem Fr.setRow(h:Fr R w W bs rs ks){i:Nat}{r:Rw}(r':Rw)(hi:rs[i]? =some r)(k:qe (fun b=>some b=r.v.ownBlock) W U)(hr:U.ownsRow w.heap.size r'.e r'.size r'.v r'.k r'.xs)(ho:r'.v.ownBlock=r.v.ownBlock∨r'.v.ownBlock=some W.heap.size):Fr R w U bs (rs.set i r') ks:=by
 have hown:r.v.ownBlock∈Rw.owns rs:=List.mem_map_of_mem (List.mem_of_getElem? hi)
 have oi:(Rw.owns rs)[i]? =some r.v.ownBlock:=by simp[Rw.owns,hi]
 have qfK:∀j g,j≠i→(Rw.owns rs)[j]? =some (some g)→some g≠r.v.ownBlock:=by
  intro j g hj hg e
  have hp:=List.pairwise_iff_getElem.1 h.nr
  obtain⟨hjl,hjv⟩:=List.getElem?_eq_some_iff.1 hg
  obtain⟨hil,hiv⟩:=List.getElem?_eq_some_iff.1 oi
  rcases Nat.lt_or_gt_of_ne hj with hlt|hlt
  ·rcases hp j i hjl hil hlt with hh|hh
   ·rw[hjv] at hh;cases hh
   ·exact hh (by rw[hjv,hiv,e])
  ·rcases hp i j hil hjl hlt with hh|hh
   ·rw[hiv,←e] at hh;cases hh
   ·exact hh (by rw[hjv,hiv,e])
 have hm:∀c,some c∈Rw.owns (rs.set i r')→(∃j,j≠i∧(Rw.owns rs)[j]? =some (some c))∨some c=r.v.ownBlock∨c=W.heap.size:=fun c hc=>by
  rcases Fr.set_row hi hc with hc|hc
  ·exact .inl hc
  ·rcases ho with ho|ho
   ·exact .inr (.inl (hc.trans ho))
   ·exact .inr (.inr (by have:=hc.trans ho;simpa using this))
 refine⟨h.low.trans (k.below h.low.size fun c hc=>h.own_ge (by rw[hc];exact hown)),fun b hb=>⟨(h.box b hb).1,k.heap (h.box b hb).2 fun e=>h.nx b.B (List.mem_map_of_mem hb) (by rw[e];exact hown)⟩,fun r'' hr''=>?_,fun f hf=>?_,h.nb,?_,fun c hc hc'=>?_,h.old⟩
 ·obtain⟨j,hj⟩:=List.mem_iff_getElem?.1 hr''
  rw[List.getElem?_set] at hj
  by_cases e:i=j
  ·subst e
   rw[if_pos rfl] at hj
   split at hj
   ·obtain rfl:=Option.some.inj hj
    exact hr
   ·cases hj
  ·rw[if_neg e] at hj
   refine qr (h.row r'' (List.mem_of_getElem? hj)) k fun g hg e'=>qfK j g (fun x=>e x.symm) (by simp[Rw.owns,hj,←hg]) e'
 ·refine f.mono (f.keeps (f.within (h.fact f hf)) k fun c hc e=>hc.1.2 (.inr (by rw[e];exact hown))) fun c hc=>⟨hc.1.1,fun ht=>?_⟩
  rcases ht with ht|ht
  ·exact hc.1.2 (.inl ht)
  ·rcases hm c ht with⟨j,_,hj⟩|hh|hh
   ·exact hc.1.2 (.inr (List.mem_of_getElem? hj))
   ·exact hc.1.2 (.inr (by rw[hh];exact hown))
   ·have:=hc.2;omega
 ·rcases ho with ho|ho
  ·rw[qhs hi ho];exact h.nr
  ·rw[show Rw.owns (rs.set i r')=(Rw.owns rs).set i (some W.heap.size) by unfold Rw.owns;rw[List.map_set,ho]]
   refine List.pairwise_iff_getElem.2 fun a b ha hb hab=>?_
   rw[List.getElem_set,List.getElem_set]
   have hp:=List.pairwise_iff_getElem.1 h.nr a b (by simpa using ha) (by simpa using hb) hab
   have lt:∀(j:Nat) (hj:j<(Rw.owns rs).length),(Rw.owns rs)[j]≠some W.heap.size:=fun j hj e=>by have:=h.own_lt (c:=W.heap.size) (by rw[←e];exact List.getElem_mem hj);omega
   split
   ·split
    ·omega
    ·exact .inr (fun e=>lt b (by simpa using hb) e.symm)
   ·split
    ·exact .inr (lt a (by simpa using ha))
    ·exact hp
 ·rcases hm c hc' with⟨j,_,hj⟩|hh|hh
  ·exact h.nx c hc (List.mem_of_getElem? hj)
  ·exact h.nx c hc (by rw[hh];exact hown)
  ·have:=h.num_lt hc;omega
theorem Fr.give{r:Rw}(h:Fr R w W bs (rs++[r]) ks)(F:Fact)(hF:F.holds W (fun c=>(R c∨w.heap.size≤c)∧¬Tk bs rs c)):Fr R w W bs rs (F::ks):=by
 have hn:Rw.owns (rs++[r])=Rw.owns rs++[r.v.ownBlock]:=by simp[Rw.owns]
 have hs:∀c,Tk bs rs c→Tk bs (rs++[r]) c:=fun c hc=>hc.imp id fun h=>by rw[hn];exact List.mem_append_left _ h
 refine⟨h.low,h.box,fun x hx=>h.row x (List.mem_append_left _ hx),fun k hk=>?_,h.nb,?_,fun c hc hc'=>h.nx c hc (by rw[hn];exact List.mem_append_left _ hc'),h.old⟩
 ·rcases List.mem_cons.1 hk with rfl|hk
  ·exact hF
  ·exact k.mono (h.fact k hk) fun c hc=>⟨hc.1,fun ht=>hc.2 (hs c ht)⟩
 ·have:=h.nr
  rw[hn] at this
  exact(List.pairwise_append.1 this).1
end
theorem qc{W U:World}(h:Below W.heap.size W U)(o:Obj):Below W.heap.size W (U.alloc o):=h.alloc h.size o
theorem qd{R:Nat→Prop}{w W:World}{bs:List Bx}{rs:List Rw}{ks:List Fact}(h:Fr R w W bs rs ks):∃V,V=W∧Fr R w V bs rs ks:=⟨W,rfl,h⟩
theorem Fr.held{R:Nat→Prop}{w W:World}{bs:List Bx}{rs:List Rw}{ks:List Fact}{S:World→Prop}(h:Fr R w W bs rs ks)(i j:Nat)(P:∀U bs',Fr R w U bs' rs ks→(∀k,(k==i||k==j)=false→bs'[k]? =bs[k]?)→S U)
  {A D:Nat}{T T':TypeId}{x0 y0 z0 a0 b0 d0:Value}(hi:bs[i]? =some ⟨A,T,[x0,y0,z0]⟩)(hj:bs[j]? =some ⟨D,T',[a0,b0,d0]⟩)(hij:(i==j)=false:=by rfl):
  Hid (∀U,Below W.heap.size W U→S U)∧Hid (∀U x y z,Below W.heap.size W U→S (((U.setCell ⟨A,0,none⟩ x).setCell ⟨A,1,none⟩ y).setCell ⟨A,2,none⟩ z))∧Hid (∀U x y z,Below W.heap.size W U→S (((U.setCell ⟨D,0,none⟩ x).setCell ⟨D,1,none⟩ y).setCell ⟨D,2,none⟩ z))∧
  Hid (∀U x y z a b d,Below W.heap.size W U→S ((((((U.setCell ⟨A,0,none⟩ x).setCell ⟨A,1,none⟩ y).setCell ⟨A,2,none⟩ z).setCell ⟨D,0,none⟩ a).setCell ⟨D,1,none⟩ b).setCell ⟨D,2,none⟩ d))∧
  Hid (∀U x y z a b d,Below W.heap.size W U→S ((((((U.setCell ⟨D,0,none⟩ a).setCell ⟨D,1,none⟩ b).setCell ⟨D,2,none⟩ d).setCell ⟨A,0,none⟩ x).setCell ⟨A,1,none⟩ y).setCell ⟨A,2,none⟩ z))∧
  Hid (∀U x y z o,Below W.heap.size W U→S ((((U.setCell ⟨A,0,none⟩ x).setCell ⟨A,1,none⟩ y).setCell ⟨A,2,none⟩ z).alloc o))∧
  Hid (∀U x y z o a b d,Below W.heap.size W U→S (((((((U.setCell ⟨A,0,none⟩ x).setCell ⟨A,1,none⟩ y).setCell ⟨A,2,none⟩ z).alloc o).setCell ⟨D,0,none⟩ a).setCell ⟨D,1,none⟩ b).setCell ⟨D,2,none⟩ d))∧
  Below W.heap.size W W.drew∧∀o,Below W.heap.size W (W.alloc o).drew :=by
 have hne:i≠j:=by simpa using hij
 have e1:∀(b:Bx) k,(k==i||k==j)=false→(bs.set i b)[k]? =bs[k]? :=fun b k hk=>by
  simp only[Bool.or_eq_false_iff,beq_eq_false_iff_ne] at hk
  exact List.getElem?_set_ne (Ne.symm hk.1)
 have e2:∀(b:Bx) k,(k==i||k==j)=false→(bs.set j b)[k]? =bs[k]? :=fun b k hk=>by
  simp only[Bool.or_eq_false_iff,beq_eq_false_iff_ne] at hk
  exact List.getElem?_set_ne (Ne.symm hk.2)
 have e3:∀(b b':Bx) k,(k==i||k==j)=false→((bs.set i b).set j b')[k]? =bs[k]? :=fun b b' k hk=>by
  rw[List.getElem?_set_ne (by simp only[Bool.or_eq_false_iff,beq_eq_false_iff_ne] at hk;exact Ne.symm hk.2)]
  exact e1 b k hk
 have e4:∀(b b':Bx) k,(k==i||k==j)=false→((bs.set j b').set i b)[k]? =bs[k]? :=fun b b' k hk=>by
  rw[List.getElem?_set_ne (by simp only[Bool.or_eq_false_iff,beq_eq_false_iff_ne] at hk;exact Ne.symm hk.1)]
  exact e2 b' k hk
 have hj':∀b:Bx,(bs.set i b)[j]? =some ⟨D,T',[a0,b0,d0]⟩:=fun b=>(List.getElem?_set_ne hne).trans hj
 have hi':∀b:Bx,(bs.set j b)[i]? =some ⟨A,T,[x0,y0,z0]⟩:=fun b=>(List.getElem?_set_ne (Ne.symm hne)).trans hi
 exact⟨qh fun U hU=>P _ _ (h.stays hU) fun _ _=>rfl,
  qh fun U x y z hU=>P _ _ (Fr.set3 (x:=x) (y:=y) (z:=z) (h.stays hU) i hi) (e1 _),
  qh fun U x y z hU=>P _ _ (Fr.set3 (x:=x) (y:=y) (z:=z) (h.stays hU) j hj) (e2 _),
  qh fun U x y z a b d hU=>P _ _ (Fr.set3 (x:=a) (y:=b) (z:=d) (Fr.set3 (x:=x) (y:=y) (z:=z) (h.stays hU) i hi) j (hj' _)) (e3 _ _),
  qh fun U x y z a b d hU=>P _ _ (Fr.set3 (x:=x) (y:=y) (z:=z) (Fr.set3 (x:=a) (y:=b) (z:=d) (h.stays hU) j hj) i (hi' _)) (e4 _ _),
  qh fun U x y z o hU=>P _ _ (Fr.skip (Fr.set3 (x:=x) (y:=y) (z:=z) (h.stays hU) i hi) o) (e1 _),
  qh fun U x y z o a b d hU=>P _ _ (Fr.set3 (x:=a) (y:=b) (z:=d) (Fr.skip (Fr.set3 (x:=x) (y:=y) (z:=z) (h.stays hU) i hi) o) j (hj' _)) (e3 _ _),
  (Below.refl _ _).drew,fun o=>(qc (Below.refl _ _) o).drew⟩
end Go.Proofs.YtakbenifinnpfaaGreatDoor
namespace Go.Proofs.YtakbenifinnpfaaGreatDoor
open Go.RowKit Go.Sub
abbrev BC3(W:World)(B:Nat)(x y z:Value):Prop:=(W.cell? ⟨B,0,none⟩=some x∧W.cell? ⟨B,1,none⟩=some y∧W.cell? ⟨B,2,none⟩=some z)∧(W.frozen? ⟨B,0,none⟩=false∧W.frozen? ⟨B,1,none⟩=false∧W.frozen? ⟨B,2,none⟩=false)
abbrev B1(B:Nat)(x y z:Value)(w':World):Prop:=w'.cell? ⟨B,0,none⟩=some x∧w'.cell? ⟨B,1,none⟩=some y∧w'.cell? ⟨B,2,none⟩=some z
abbrev BC2(W:World)(B:Nat)(x y:Value):Prop:=(W.cell? ⟨B,0,none⟩=some x∧W.cell? ⟨B,1,none⟩=some y)∧(W.frozen? ⟨B,0,none⟩=false∧W.frozen? ⟨B,1,none⟩=false)
abbrev BFar(W:World)(B:Nat):Prop:=((W.heap.size=B)=False∧(W.heap.size+1=B)=False∧(W.heap.size+1+1=B)=False)∧((B=W.heap.size)=False∧(B=W.heap.size+1)=False∧(B=W.heap.size+1+1)=False)
theorem nn{α:Type}:(∀(a:α) l m,(a::l)++m=a::(l++m))∧(∀m:List α,[]++m=m)∧(∀(a b:α) l,(a::l).set 0 b=b::l)∧∀(a b:α) l n,(a::l).set (n+1) b=a::l.set n b:=⟨fun _ _ _=>rfl,fun _=>rfl,fun _ _ _=>rfl,fun _ _ _ _=>rfl⟩
variable {R:Nat→Prop} {w W U:World} {bs:List Bx} {rs:List Rw} {ks:List Fact}
theorem Fr.farB(h:Fr R w W bs rs ks)(i:Nat){b:Bx}(hi:bs[i]? =some b):BFar W b.B:=h.far (B:=b.B) (T:=b.T) (vs:=b.vs) i hi
theorem Fr.ccCC{B0 B1:Nat}{T0 T1:TypeId}{x0 y0 z0 x1 y1 z1:Value}(h:Fr R w W (⟨B0,T0,[x0,y0,z0]⟩::⟨B1,T1,[x1,y1,z1]⟩::bs) rs ks):BC3 W B0 x0 y0 z0∧BC3 W B1 x1 y1 z1:=⟨h.c3 0 rfl,h.c3 1 rfl⟩
theorem Fr.ccCCCC{B0 B1 B2 B3:Nat}{T0 T1 T2 T3:TypeId}{x0 y0 z0 x1 y1 z1 x2 y2 z2 x3 y3 z3:Value}(h:Fr R w W (⟨B0,T0,[x0,y0,z0]⟩::⟨B1,T1,[x1,y1,z1]⟩::⟨B2,T2,[x2,y2,z2]⟩::⟨B3,T3,[x3,y3,z3]⟩::bs) rs ks):BC3 W B0 x0 y0 z0∧BC3 W B1 x1 y1 z1∧BC3 W B2 x2 y2 z2∧BC3 W B3 x3 y3 z3:=⟨h.c3 0 rfl,h.c3 1 rfl,h.c3 2 rfl,h.c3 3 rfl⟩
theorem Fr.ccCCCCC{B0 B1 B2 B3 B4:Nat}{T0 T1 T2 T3 T4:TypeId}{x0 y0 z0 x1 y1 z1 x2 y2 z2 x3 y3 z3 x4 y4 z4:Value}(h:Fr R w W (⟨B0,T0,[x0,y0,z0]⟩::⟨B1,T1,[x1,y1,z1]⟩::⟨B2,T2,[x2,y2,z2]⟩::⟨B3,T3,[x3,y3,z3]⟩::⟨B4,T4,[x4,y4,z4]⟩::bs) rs ks):BC3 W B0 x0 y0 z0∧BC3 W B1 x1 y1 z1∧BC3 W B2 x2 y2 z2∧BC3 W B3 x3 y3 z3∧BC3 W B4 x4 y4 z4:=⟨h.c3 0 rfl,h.c3 1 rfl,h.c3 2 rfl,h.c3 3 rfl,h.c3 4 rfl⟩
theorem Fr.ccCCCCCC{B0 B1 B2 B3 B4 B5:Nat}{T0 T1 T2 T3 T4 T5:TypeId}{x0 y0 z0 x1 y1 z1 x2 y2 z2 x3 y3 z3 x4 y4 z4 x5 y5 z5:Value}(h:Fr R w W (⟨B0,T0,[x0,y0,z0]⟩::⟨B1,T1,[x1,y1,z1]⟩::⟨B2,T2,[x2,y2,z2]⟩::⟨B3,T3,[x3,y3,z3]⟩::⟨B4,T4,[x4,y4,z4]⟩::⟨B5,T5,[x5,y5,z5]⟩::bs) rs ks):BC3 W B0 x0 y0 z0∧BC3 W B1 x1 y1 z1∧BC3 W B2 x2 y2 z2∧BC3 W B3 x3 y3 z3∧BC3 W B4 x4 y4 z4∧BC3 W B5 x5 y5 z5:=⟨h.c3 0 rfl,h.c3 1 rfl,h.c3 2 rfl,h.c3 3 rfl,h.c3 4 rfl,h.c3 5 rfl⟩
theorem Fr.ccCCCCCCC{B0 B1 B2 B3 B4 B5 B6:Nat}{T0 T1 T2 T3 T4 T5 T6:TypeId}{x0 y0 z0 x1 y1 z1 x2 y2 z2 x3 y3 z3 x4 y4 z4 x5 y5 z5 x6 y6 z6:Value}(h:Fr R w W (⟨B0,T0,[x0,y0,z0]⟩::⟨B1,T1,[x1,y1,z1]⟩::⟨B2,T2,[x2,y2,z2]⟩::⟨B3,T3,[x3,y3,z3]⟩::⟨B4,T4,[x4,y4,z4]⟩::⟨B5,T5,[x5,y5,z5]⟩::⟨B6,T6,[x6,y6,z6]⟩::bs) rs ks):BC3 W B0 x0 y0 z0∧BC3 W B1 x1 y1 z1∧BC3 W B2 x2 y2 z2∧BC3 W B3 x3 y3 z3∧BC3 W B4 x4 y4 z4∧BC3 W B5 x5 y5 z5∧BC3 W B6 x6 y6 z6:=⟨h.c3 0 rfl,h.c3 1 rfl,h.c3 2 rfl,h.c3 3 rfl,h.c3 4 rfl,h.c3 5 rfl,h.c3 6 rfl⟩
theorem Fr.ccCCCCCCCC{B0 B1 B2 B3 B4 B5 B6 B7:Nat}{T0 T1 T2 T3 T4 T5 T6 T7:TypeId}{x0 y0 z0 x1 y1 z1 x2 y2 z2 x3 y3 z3 x4 y4 z4 x5 y5 z5 x6 y6 z6 x7 y7 z7:Value}(h:Fr R w W (⟨B0,T0,[x0,y0,z0]⟩::⟨B1,T1,[x1,y1,z1]⟩::⟨B2,T2,[x2,y2,z2]⟩::⟨B3,T3,[x3,y3,z3]⟩::⟨B4,T4,[x4,y4,z4]⟩::⟨B5,T5,[x5,y5,z5]⟩::⟨B6,T6,[x6,y6,z6]⟩::⟨B7,T7,[x7,y7,z7]⟩::bs) rs ks):BC3 W B0 x0 y0 z0∧BC3 W B1 x1 y1 z1∧BC3 W B2 x2 y2 z2∧BC3 W B3 x3 y3 z3∧BC3 W B4 x4 y4 z4∧BC3 W B5 x5 y5 z5∧BC3 W B6 x6 y6 z6∧BC3 W B7 x7 y7 z7:=⟨h.c3 0 rfl,h.c3 1 rfl,h.c3 2 rfl,h.c3 3 rfl,h.c3 4 rfl,h.c3 5 rfl,h.c3 6 rfl,h.c3 7 rfl⟩
theorem Fr.ccCCCCCCCCC{B0 B1 B2 B3 B4 B5 B6 B7 B8:Nat}{T0 T1 T2 T3 T4 T5 T6 T7 T8:TypeId}{x0 y0 z0 x1 y1 z1 x2 y2 z2 x3 y3 z3 x4 y4 z4 x5 y5 z5 x6 y6 z6 x7 y7 z7 x8 y8 z8:Value}(h:Fr R w W (⟨B0,T0,[x0,y0,z0]⟩::⟨B1,T1,[x1,y1,z1]⟩::⟨B2,T2,[x2,y2,z2]⟩::⟨B3,T3,[x3,y3,z3]⟩::⟨B4,T4,[x4,y4,z4]⟩::⟨B5,T5,[x5,y5,z5]⟩::⟨B6,T6,[x6,y6,z6]⟩::⟨B7,T7,[x7,y7,z7]⟩::⟨B8,T8,[x8,y8,z8]⟩::bs) rs ks):BC3 W B0 x0 y0 z0∧BC3 W B1 x1 y1 z1∧BC3 W B2 x2 y2 z2∧BC3 W B3 x3 y3 z3∧BC3 W B4 x4 y4 z4∧BC3 W B5 x5 y5 z5∧BC3 W B6 x6 y6 z6∧BC3 W B7 x7 y7 z7∧BC3 W B8 x8 y8 z8:=⟨h.c3 0 rfl,h.c3 1 rfl,h.c3 2 rfl,h.c3 3 rfl,h.c3 4 rfl,h.c3 5 rfl,h.c3 6 rfl,h.c3 7 rfl,h.c3 8 rfl⟩
theorem Fr.ccCCCCCCCCCC{B0 B1 B2 B3 B4 B5 B6 B7 B8 B9:Nat}{T0 T1 T2 T3 T4 T5 T6 T7 T8 T9:TypeId}{x0 y0 z0 x1 y1 z1 x2 y2 z2 x3 y3 z3 x4 y4 z4 x5 y5 z5 x6 y6 z6 x7 y7 z7 x8 y8 z8 x9 y9 z9:Value}(h:Fr R w W (⟨B0,T0,[x0,y0,z0]⟩::⟨B1,T1,[x1,y1,z1]⟩::⟨B2,T2,[x2,y2,z2]⟩::⟨B3,T3,[x3,y3,z3]⟩::⟨B4,T4,[x4,y4,z4]⟩::⟨B5,T5,[x5,y5,z5]⟩::⟨B6,T6,[x6,y6,z6]⟩::⟨B7,T7,[x7,y7,z7]⟩::⟨B8,T8,[x8,y8,z8]⟩::⟨B9,T9,[x9,y9,z9]⟩::bs) rs ks):BC3 W B0 x0 y0 z0∧BC3 W B1 x1 y1 z1∧BC3 W B2 x2 y2 z2∧BC3 W B3 x3 y3 z3∧BC3 W B4 x4 y4 z4∧BC3 W B5 x5 y5 z5∧BC3 W B6 x6 y6 z6∧BC3 W B7 x7 y7 z7∧BC3 W B8 x8 y8 z8∧BC3 W B9 x9 y9 z9:=⟨h.c3 0 rfl,h.c3 1 rfl,h.c3 2 rfl,h.c3 3 rfl,h.c3 4 rfl,h.c3 5 rfl,h.c3 6 rfl,h.c3 7 rfl,h.c3 8 rfl,h.c3 9 rfl⟩
theorem Fr.ccCCCCCCCCCCC{B0 B1 B2 B3 B4 B5 B6 B7 B8 B9 B10:Nat}{T0 T1 T2 T3 T4 T5 T6 T7 T8 T9 T10:TypeId}{x0 y0 z0 x1 y1 z1 x2 y2 z2 x3 y3 z3 x4 y4 z4 x5 y5 z5 x6 y6 z6 x7 y7 z7 x8 y8 z8 x9 y9 z9 x10 y10 z10:Value}(h:Fr R w W (⟨B0,T0,[x0,y0,z0]⟩::⟨B1,T1,[x1,y1,z1]⟩::⟨B2,T2,[x2,y2,z2]⟩::⟨B3,T3,[x3,y3,z3]⟩::⟨B4,T4,[x4,y4,z4]⟩::⟨B5,T5,[x5,y5,z5]⟩::⟨B6,T6,[x6,y6,z6]⟩::⟨B7,T7,[x7,y7,z7]⟩::⟨B8,T8,[x8,y8,z8]⟩::⟨B9,T9,[x9,y9,z9]⟩::⟨B10,T10,[x10,y10,z10]⟩::bs) rs ks):BC3 W B0 x0 y0 z0∧BC3 W B1 x1 y1 z1∧BC3 W B2 x2 y2 z2∧BC3 W B3 x3 y3 z3∧BC3 W B4 x4 y4 z4∧BC3 W B5 x5 y5 z5∧BC3 W B6 x6 y6 z6∧BC3 W B7 x7 y7 z7∧BC3 W B8 x8 y8 z8∧BC3 W B9 x9 y9 z9∧BC3 W B10 x10 y10 z10:=⟨h.c3 0 rfl,h.c3 1 rfl,h.c3 2 rfl,h.c3 3 rfl,h.c3 4 rfl,h.c3 5 rfl,h.c3 6 rfl,h.c3 7 rfl,h.c3 8 rfl,h.c3 9 rfl,h.c3 10 rfl⟩
theorem Fr.ccCCCCCCCCCCCCC{B0 B1 B2 B3 B4 B5 B6 B7 B8 B9 B10 B11 B12:Nat}{T0 T1 T2 T3 T4 T5 T6 T7 T8 T9 T10 T11 T12:TypeId}{x0 y0 z0 x1 y1 z1 x2 y2 z2 x3 y3 z3 x4 y4 z4 x5 y5 z5 x6 y6 z6 x7 y7 z7 x8 y8 z8 x9 y9 z9 x10 y10 z10 x11 y11 z11 x12 y12 z12:Value}(h:Fr R w W (⟨B0,T0,[x0,y0,z0]⟩::⟨B1,T1,[x1,y1,z1]⟩::⟨B2,T2,[x2,y2,z2]⟩::⟨B3,T3,[x3,y3,z3]⟩::⟨B4,T4,[x4,y4,z4]⟩::⟨B5,T5,[x5,y5,z5]⟩::⟨B6,T6,[x6,y6,z6]⟩::⟨B7,T7,[x7,y7,z7]⟩::⟨B8,T8,[x8,y8,z8]⟩::⟨B9,T9,[x9,y9,z9]⟩::⟨B10,T10,[x10,y10,z10]⟩::⟨B11,T11,[x11,y11,z11]⟩::⟨B12,T12,[x12,y12,z12]⟩::bs) rs ks):BC3 W B0 x0 y0 z0∧BC3 W B1 x1 y1 z1∧BC3 W B2 x2 y2 z2∧BC3 W B3 x3 y3 z3∧BC3 W B4 x4 y4 z4∧BC3 W B5 x5 y5 z5∧BC3 W B6 x6 y6 z6∧BC3 W B7 x7 y7 z7∧BC3 W B8 x8 y8 z8∧BC3 W B9 x9 y9 z9∧BC3 W B10 x10 y10 z10∧BC3 W B11 x11 y11 z11∧BC3 W B12 x12 y12 z12:=⟨h.c3 0 rfl,h.c3 1 rfl,h.c3 2 rfl,h.c3 3 rfl,h.c3 4 rfl,h.c3 5 rfl,h.c3 6 rfl,h.c3 7 rfl,h.c3 8 rfl,h.c3 9 rfl,h.c3 10 rfl,h.c3 11 rfl,h.c3 12 rfl⟩
theorem Fr.ccCCCCT{B0 B1 B2 B3 B4:Nat}{T0 T1 T2 T3 T4:TypeId}{x0 y0 z0 x1 y1 z1 x2 y2 z2 x3 y3 z3 x4 y4:Value}(h:Fr R w W (⟨B0,T0,[x0,y0,z0]⟩::⟨B1,T1,[x1,y1,z1]⟩::⟨B2,T2,[x2,y2,z2]⟩::⟨B3,T3,[x3,y3,z3]⟩::⟨B4,T4,[x4,y4]⟩::bs) rs ks):BC3 W B0 x0 y0 z0∧BC3 W B1 x1 y1 z1∧BC3 W B2 x2 y2 z2∧BC3 W B3 x3 y3 z3∧BC2 W B4 x4 y4:=⟨h.c3 0 rfl,h.c3 1 rfl,h.c3 2 rfl,h.c3 3 rfl,h.c2 4 rfl⟩
theorem Fr.ccCCCCTC{B0 B1 B2 B3 B4 B5:Nat}{T0 T1 T2 T3 T4 T5:TypeId}{x0 y0 z0 x1 y1 z1 x2 y2 z2 x3 y3 z3 x4 y4 x5 y5 z5:Value}(h:Fr R w W (⟨B0,T0,[x0,y0,z0]⟩::⟨B1,T1,[x1,y1,z1]⟩::⟨B2,T2,[x2,y2,z2]⟩::⟨B3,T3,[x3,y3,z3]⟩::⟨B4,T4,[x4,y4]⟩::⟨B5,T5,[x5,y5,z5]⟩::bs) rs ks):BC3 W B0 x0 y0 z0∧BC3 W B1 x1 y1 z1∧BC3 W B2 x2 y2 z2∧BC3 W B3 x3 y3 z3∧BC2 W B4 x4 y4∧BC3 W B5 x5 y5 z5:=⟨h.c3 0 rfl,h.c3 1 rfl,h.c3 2 rfl,h.c3 3 rfl,h.c2 4 rfl,h.c3 5 rfl⟩
theorem Fr.ccCCCCTCC{B0 B1 B2 B3 B4 B5 B6:Nat}{T0 T1 T2 T3 T4 T5 T6:TypeId}{x0 y0 z0 x1 y1 z1 x2 y2 z2 x3 y3 z3 x4 y4 x5 y5 z5 x6 y6 z6:Value}(h:Fr R w W (⟨B0,T0,[x0,y0,z0]⟩::⟨B1,T1,[x1,y1,z1]⟩::⟨B2,T2,[x2,y2,z2]⟩::⟨B3,T3,[x3,y3,z3]⟩::⟨B4,T4,[x4,y4]⟩::⟨B5,T5,[x5,y5,z5]⟩::⟨B6,T6,[x6,y6,z6]⟩::bs) rs ks):BC3 W B0 x0 y0 z0∧BC3 W B1 x1 y1 z1∧BC3 W B2 x2 y2 z2∧BC3 W B3 x3 y3 z3∧BC2 W B4 x4 y4∧BC3 W B5 x5 y5 z5∧BC3 W B6 x6 y6 z6:=⟨h.c3 0 rfl,h.c3 1 rfl,h.c3 2 rfl,h.c3 3 rfl,h.c2 4 rfl,h.c3 5 rfl,h.c3 6 rfl⟩
theorem Fr.ccCCCCTCCC{B0 B1 B2 B3 B4 B5 B6 B7:Nat}{T0 T1 T2 T3 T4 T5 T6 T7:TypeId}{x0 y0 z0 x1 y1 z1 x2 y2 z2 x3 y3 z3 x4 y4 x5 y5 z5 x6 y6 z6 x7 y7 z7:Value}(h:Fr R w W (⟨B0,T0,[x0,y0,z0]⟩::⟨B1,T1,[x1,y1,z1]⟩::⟨B2,T2,[x2,y2,z2]⟩::⟨B3,T3,[x3,y3,z3]⟩::⟨B4,T4,[x4,y4]⟩::⟨B5,T5,[x5,y5,z5]⟩::⟨B6,T6,[x6,y6,z6]⟩::⟨B7,T7,[x7,y7,z7]⟩::bs) rs ks):BC3 W B0 x0 y0 z0∧BC3 W B1 x1 y1 z1∧BC3 W B2 x2 y2 z2∧BC3 W B3 x3 y3 z3∧BC2 W B4 x4 y4∧BC3 W B5 x5 y5 z5∧BC3 W B6 x6 y6 z6∧BC3 W B7 x7 y7 z7:=⟨h.c3 0 rfl,h.c3 1 rfl,h.c3 2 rfl,h.c3 3 rfl,h.c2 4 rfl,h.c3 5 rfl,h.c3 6 rfl,h.c3 7 rfl⟩
theorem Fr.ccCCCCxCC{B0 B1 B2 B3 B5 B6:Nat}{T0 T1 T2 T3 T5 T6:TypeId}{x0 y0 z0 x1 y1 z1 x2 y2 z2 x3 y3 z3 x5 y5 z5 x6 y6 z6:Value}{b4:Bx}(h:Fr R w W (⟨B0,T0,[x0,y0,z0]⟩::⟨B1,T1,[x1,y1,z1]⟩::⟨B2,T2,[x2,y2,z2]⟩::⟨B3,T3,[x3,y3,z3]⟩::b4::⟨B5,T5,[x5,y5,z5]⟩::⟨B6,T6,[x6,y6,z6]⟩::bs) rs ks):BC3 W B0 x0 y0 z0∧BC3 W B1 x1 y1 z1∧BC3 W B2 x2 y2 z2∧BC3 W B3 x3 y3 z3∧BC3 W B5 x5 y5 z5∧BC3 W B6 x6 y6 z6:=⟨h.c3 0 rfl,h.c3 1 rfl,h.c3 2 rfl,h.c3 3 rfl,h.c3 5 rfl,h.c3 6 rfl⟩
theorem Fr.ccCCCT{B0 B1 B2 B3:Nat}{T0 T1 T2 T3:TypeId}{x0 y0 z0 x1 y1 z1 x2 y2 z2 x3 y3:Value}(h:Fr R w W (⟨B0,T0,[x0,y0,z0]⟩::⟨B1,T1,[x1,y1,z1]⟩::⟨B2,T2,[x2,y2,z2]⟩::⟨B3,T3,[x3,y3]⟩::bs) rs ks):BC3 W B0 x0 y0 z0∧BC3 W B1 x1 y1 z1∧BC3 W B2 x2 y2 z2∧BC2 W B3 x3 y3:=⟨h.c3 0 rfl,h.c3 1 rfl,h.c3 2 rfl,h.c2 3 rfl⟩
theorem Fr.ccCCCTCC{B0 B1 B2 B3 B4 B5:Nat}{T0 T1 T2 T3 T4 T5:TypeId}{x0 y0 z0 x1 y1 z1 x2 y2 z2 x3 y3 x4 y4 z4 x5 y5 z5:Value}(h:Fr R w W (⟨B0,T0,[x0,y0,z0]⟩::⟨B1,T1,[x1,y1,z1]⟩::⟨B2,T2,[x2,y2,z2]⟩::⟨B3,T3,[x3,y3]⟩::⟨B4,T4,[x4,y4,z4]⟩::⟨B5,T5,[x5,y5,z5]⟩::bs) rs ks):BC3 W B0 x0 y0 z0∧BC3 W B1 x1 y1 z1∧BC3 W B2 x2 y2 z2∧BC2 W B3 x3 y3∧BC3 W B4 x4 y4 z4∧BC3 W B5 x5 y5 z5:=⟨h.c3 0 rfl,h.c3 1 rfl,h.c3 2 rfl,h.c2 3 rfl,h.c3 4 rfl,h.c3 5 rfl⟩
theorem Fr.ccCCCxxxCC{B0 B1 B2 B6 B7:Nat}{T0 T1 T2 T6 T7:TypeId}{x0 y0 z0 x1 y1 z1 x2 y2 z2 x6 y6 z6 x7 y7 z7:Value}{b3 b4 b5:Bx}(h:Fr R w W (⟨B0,T0,[x0,y0,z0]⟩::⟨B1,T1,[x1,y1,z1]⟩::⟨B2,T2,[x2,y2,z2]⟩::b3::b4::b5::⟨B6,T6,[x6,y6,z6]⟩::⟨B7,T7,[x7,y7,z7]⟩::bs) rs ks):BC3 W B0 x0 y0 z0∧BC3 W B1 x1 y1 z1∧BC3 W B2 x2 y2 z2∧BC3 W B6 x6 y6 z6∧BC3 W B7 x7 y7 z7:=⟨h.c3 0 rfl,h.c3 1 rfl,h.c3 2 rfl,h.c3 6 rfl,h.c3 7 rfl⟩
theorem Fr.ccCCT{B0 B1 B2:Nat}{T0 T1 T2:TypeId}{x0 y0 z0 x1 y1 z1 x2 y2:Value}(h:Fr R w W (⟨B0,T0,[x0,y0,z0]⟩::⟨B1,T1,[x1,y1,z1]⟩::⟨B2,T2,[x2,y2]⟩::bs) rs ks):BC3 W B0 x0 y0 z0∧BC3 W B1 x1 y1 z1∧BC2 W B2 x2 y2:=⟨h.c3 0 rfl,h.c3 1 rfl,h.c2 2 rfl⟩
theorem Fr.ff10{b0 b1 b2 b3 b4 b5 b6 b7 b8 b9:Bx}(h:Fr R w W (b0::b1::b2::b3::b4::b5::b6::b7::b8::b9::bs) rs ks):BFar W b0.B∧BFar W b1.B∧BFar W b2.B∧BFar W b3.B∧BFar W b4.B∧BFar W b5.B∧BFar W b6.B∧BFar W b7.B∧BFar W b8.B∧BFar W b9.B:=⟨h.farB 0 rfl,h.farB 1 rfl,h.farB 2 rfl,h.farB 3 rfl,h.farB 4 rfl,h.farB 5 rfl,h.farB 6 rfl,h.farB 7 rfl,h.farB 8 rfl,h.farB 9 rfl⟩
theorem Fr.ff11{b0 b1 b2 b3 b4 b5 b6 b7 b8 b9 b10:Bx}(h:Fr R w W (b0::b1::b2::b3::b4::b5::b6::b7::b8::b9::b10::bs) rs ks):BFar W b0.B∧BFar W b1.B∧BFar W b2.B∧BFar W b3.B∧BFar W b4.B∧BFar W b5.B∧BFar W b6.B∧BFar W b7.B∧BFar W b8.B∧BFar W b9.B∧BFar W b10.B:=⟨h.farB 0 rfl,h.farB 1 rfl,h.farB 2 rfl,h.farB 3 rfl,h.farB 4 rfl,h.farB 5 rfl,h.farB 6 rfl,h.farB 7 rfl,h.farB 8 rfl,h.farB 9 rfl,h.farB 10 rfl⟩
theorem Fr.ff2{b0 b1:Bx}(h:Fr R w W (b0::b1::bs) rs ks):BFar W b0.B∧BFar W b1.B:=⟨h.farB 0 rfl,h.farB 1 rfl⟩
theorem Fr.ff4{b0 b1 b2 b3:Bx}(h:Fr R w W (b0::b1::b2::b3::bs) rs ks):BFar W b0.B∧BFar W b1.B∧BFar W b2.B∧BFar W b3.B:=⟨h.farB 0 rfl,h.farB 1 rfl,h.farB 2 rfl,h.farB 3 rfl⟩
theorem Fr.ff5{b0 b1 b2 b3 b4:Bx}(h:Fr R w W (b0::b1::b2::b3::b4::bs) rs ks):BFar W b0.B∧BFar W b1.B∧BFar W b2.B∧BFar W b3.B∧BFar W b4.B:=⟨h.farB 0 rfl,h.farB 1 rfl,h.farB 2 rfl,h.farB 3 rfl,h.farB 4 rfl⟩
theorem Fr.ff6{b0 b1 b2 b3 b4 b5:Bx}(h:Fr R w W (b0::b1::b2::b3::b4::b5::bs) rs ks):BFar W b0.B∧BFar W b1.B∧BFar W b2.B∧BFar W b3.B∧BFar W b4.B∧BFar W b5.B:=⟨h.farB 0 rfl,h.farB 1 rfl,h.farB 2 rfl,h.farB 3 rfl,h.farB 4 rfl,h.farB 5 rfl⟩
theorem Fr.ff7{b0 b1 b2 b3 b4 b5 b6:Bx}(h:Fr R w W (b0::b1::b2::b3::b4::b5::b6::bs) rs ks):BFar W b0.B∧BFar W b1.B∧BFar W b2.B∧BFar W b3.B∧BFar W b4.B∧BFar W b5.B∧BFar W b6.B:=⟨h.farB 0 rfl,h.farB 1 rfl,h.farB 2 rfl,h.farB 3 rfl,h.farB 4 rfl,h.farB 5 rfl,h.farB 6 rfl⟩
theorem Fr.ff8{b0 b1 b2 b3 b4 b5 b6 b7:Bx}(h:Fr R w W (b0::b1::b2::b3::b4::b5::b6::b7::bs) rs ks):BFar W b0.B∧BFar W b1.B∧BFar W b2.B∧BFar W b3.B∧BFar W b4.B∧BFar W b5.B∧BFar W b6.B∧BFar W b7.B:=⟨h.farB 0 rfl,h.farB 1 rfl,h.farB 2 rfl,h.farB 3 rfl,h.farB 4 rfl,h.farB 5 rfl,h.farB 6 rfl,h.farB 7 rfl⟩
end Go.Proofs.YtakbenifinnpfaaGreatDoor
namespace Go.Proofs.YtakbenifinnpfaaGreatDoor
open Go.RowKit Go.Sub
section
variable {R:Nat→Prop} {w W U:World} {bs:List Bx} {rs:List Rw} {ks:List Fact}
theorem Fr.lay2(h:Fr R w W bs rs ks)(vs:List Value)(T:TypeId)(vs':List Value)(T':TypeId):Fr R w ((W.alloc (.cells vs.toArray T)).alloc (.cells vs'.toArray T')) (bs++[⟨W.heap.size,T,vs⟩]++[⟨W.heap.size+1,T',vs'⟩]) rs ks:=by
 have h2:=(h.lay vs T).lay vs' T'
 rw[World.size_alloc] at h2
 exact h2
theorem Fr.lay3(h:Fr R w W bs rs ks)(vs:List Value)(T:TypeId)(vs':List Value)(T':TypeId)(vs'':List Value)(T'':TypeId):Fr R w (((W.alloc (.cells vs.toArray T)).alloc (.cells vs'.toArray T')).alloc (.cells vs''.toArray T'')) (bs++[⟨W.heap.size,T,vs⟩]++[⟨W.heap.size+1,T',vs'⟩]++[⟨W.heap.size+1+1,T'',vs''⟩]) rs ks:=by
 have h2:=(h.lay2 vs T vs' T').lay vs'' T''
 rw[World.size_alloc,World.size_alloc] at h2
 exact h2
theorem Fr.layA{o:Obj}(h:Fr R w (W.alloc o) bs rs ks)(vs:List Value)(T:TypeId):Fr R w ((W.alloc o).alloc (.cells vs.toArray T)) (bs++[⟨W.heap.size+1,T,vs⟩]) rs ks:=by
 have h2:=h.lay vs T
 rw[World.size_alloc] at h2
 exact h2
theorem Fr.lits(h:Fr R w W bs rs ks)(x:qb)(l:List qb)(u:Value)(us:List Value)(hl:us.length=l.length)(hn:l.length<1000)(hk:∀(i:Nat) y t,(x::l)[i]? =some y→(u::us)[i]? =some t→qk t y.kids∈ks):
  Fr R w (W.alloc (.cells (qF (x::l) (u::us)).toArray 24)) bs rs (qk (.slice (some ⟨W.heap.size,0,none⟩) (l.length+1) (l.length+1)) (x::l)::ks):=by
 have hkl:=qbV (w:=W) x l u us hl hn (fun i y t hy ht=>h.get (hk i y t hy ht))
 exact(h.skip _).more (qk _ _) hkl fun c hc _=>hc.elim id fun hc=>⟨.inr (Nat.le_trans h.low.size hc),fun ht=>by have:=h.tk_lt ht;omega⟩
theorem Fr.lit1(h:Fr R w W bs rs ks)(n:qb){u:Value}(hk:qk u n.kids∈ks):Fr R w (W.alloc (.cells #[.int .i64 n.kind,.string n.text,u] 24)) bs rs (qk (.slice (some ⟨W.heap.size,0,none⟩) 1 1) [n]::ks):=
 h.lits n [] u [] rfl (by simp) fun i y t hy ht=>by match i,hy,ht with|0,hy,ht=>(simp at hy ht;subst hy;subst ht;exact hk)|i+1,hy,ht=>simp at hy
theorem Fr.lit2(h:Fr R w W bs rs ks)(n m:qb){u v:Value}(hk:qk u n.kids∈ks)(hm:qk v m.kids∈ks):Fr R w (W.alloc (.cells #[.int .i64 n.kind,.string n.text,u,.int .i64 m.kind,.string m.text,v] 24)) bs rs (qk (.slice (some ⟨W.heap.size,0,none⟩) 2 2) [n,m]::ks):=
 h.lits n [m] u [v] rfl (by simp) fun i y t hy ht=>by match i,hy,ht with|0,hy,ht=>(simp at hy ht;subst hy;subst ht;exact hk)|1,hy,ht=>(simp at hy ht;subst hy;subst ht;exact hm)|i+2,hy,ht=>simp at hy
theorem Fr.lit3(h:Fr R w W bs rs ks)(n m k:qb){u v x:Value}(hk:qk u n.kids∈ks)(hm:qk v m.kids∈ks)(hx:qk x k.kids∈ks):Fr R w (W.alloc (.cells #[.int .i64 n.kind,.string n.text,u,.int .i64 m.kind,.string m.text,v,.int .i64 k.kind,.string k.text,x] 24)) bs rs (qk (.slice (some ⟨W.heap.size,0,none⟩) 3 3) [n,m,k]::ks):=
 h.lits n [m,k] u [v,x] rfl (by simp) fun i y t hy ht=>by match i,hy,ht with|0,hy,ht=>(simp at hy ht;subst hy;subst ht;exact hk)|1,hy,ht=>(simp at hy ht;subst hy;subst ht;exact hm)|2,hy,ht=>(simp at hy ht;subst hy;subst ht;exact hx)|i+3,hy,ht=>simp at hy
theorem Fr.lit4(h:Fr R w W bs rs ks)(n m k j:qb){u v x y:Value}(hk:qk u n.kids∈ks)(hm:qk v m.kids∈ks)(hx:qk x k.kids∈ks)(hy:qk y j.kids∈ks):Fr R w (W.alloc (.cells #[.int .i64 n.kind,.string n.text,u,.int .i64 m.kind,.string m.text,v,.int .i64 k.kind,.string k.text,x,.int .i64 j.kind,.string j.text,y] 24)) bs rs (qk (.slice (some ⟨W.heap.size,0,none⟩) 4 4) [n,m,k,j]::ks):=
 h.lits n [m,k,j] u [v,x,y] rfl (by simp) fun i y t hy ht=>by match i,hy,ht with|0,hy,ht=>(simp at hy ht;subst hy;subst ht;exact hk)|1,hy,ht=>(simp at hy ht;subst hy;subst ht;exact hm)|2,hy,ht=>(simp at hy ht;subst hy;subst ht;exact hx)|3,hy,ht=>(simp at hy ht;subst hy;subst ht;assumption)|i+4,hy,ht=>simp at hy
theorem Fr.lit1S{a b c:Addr}{x y z:Value}(h:Fr R w (((W.setCell a x).setCell b y).setCell c z) bs rs ks)(n:qb){u:Value}(hk:qk u n.kids∈ks):Fr R w ((((W.setCell a x).setCell b y).setCell c z).alloc (.cells #[.int .i64 n.kind,.string n.text,u] 24)) bs rs (qk (.slice (some ⟨W.heap.size,0,none⟩) 1 1) [n]::ks):=by
 have h2:=h.lit1 n hk
 simpa using h2
theorem Fr.lit2S{a b c:Addr}{x y z:Value}(h:Fr R w (((W.setCell a x).setCell b y).setCell c z) bs rs ks)(n m:qb){u v:Value}(hk:qk u n.kids∈ks)(hm:qk v m.kids∈ks):Fr R w ((((W.setCell a x).setCell b y).setCell c z).alloc (.cells #[.int .i64 n.kind,.string n.text,u,.int .i64 m.kind,.string m.text,v] 24)) bs rs (qk (.slice (some ⟨W.heap.size,0,none⟩) 2 2) [n,m]::ks):=by
 have h2:=h.lit2 n m hk hm
 simpa using h2
theorem Fr.lit3S{a b c:Addr}{x y z:Value}(h:Fr R w (((W.setCell a x).setCell b y).setCell c z) bs rs ks)(n m k:qb){u v x':Value}(hk:qk u n.kids∈ks)(hm:qk v m.kids∈ks)(hx:qk x' k.kids∈ks):Fr R w ((((W.setCell a x).setCell b y).setCell c z).alloc (.cells #[.int .i64 n.kind,.string n.text,u,.int .i64 m.kind,.string m.text,v,.int .i64 k.kind,.string k.text,x'] 24)) bs rs (qk (.slice (some ⟨W.heap.size,0,none⟩) 3 3) [n,m,k]::ks):=by
 have h2:=h.lit3 n m k hk hm hx
 simpa using h2
def rowN(v:Value)(l:List qb)(us:List Value):Rw:=⟨24,3,v,l.length,qF l us⟩
def qe3(l:List qb)(us:List Value):List Fact:=List.zipWith (fun x u=>qk u x.kids) l us
theorem qk7{l:List qb}{us:List Value}{i:Nat}{x:qb}{u:Value}(hx:l[i]? =some x)(hu:us[i]? =some u):qk u x.kids∈qe3 l us:=by
 refine List.mem_of_getElem? (i:=i) ?_
 unfold qe3
 rw[List.getElem?_zipWith,hx,hu]
theorem Fr.giveN{v:Value}{l:List qb}{us:List Value}(h:Fr R w W bs (rs++[rowN v l us]) ks)(hl:us.length=l.length)(hn:l.length≤4611686018427387904)(hk:∀(i:Nat) y t,l[i]? =some y→us[i]? =some t→qk t y.kids∈ks):Fr R w W bs rs (qk v l::ks):=by
 have hr:=h.row _ (List.mem_append_right _ (List.mem_singleton_self _))
 have hn':Rw.owns (rs++[rowN v l us])=Rw.owns rs++[v.ownBlock]:=by simp[Rw.owns,rowN]
 refine h.give _ (qo.of_own (base:=w.heap.size) hr hl hn (fun g hg=>⟨.inr (hr.lt g hg.symm).1,fun ht=>?_⟩) fun i x u hx hu=>(h.get (hk i x u hx hu)).mono fun c hc=>⟨hc.1,fun ht=>hc.2 (ht.imp id fun hh=>by rw[hn'];exact List.mem_append_left _ hh)⟩)
 rcases ht with ht|ht
 ·exact h.nx g ht (by rw[hn'];simp[hg])
 ·have hp:=h.nr
  rw[hn'] at hp
  rcases(List.pairwise_append.1 hp).2.2 _ ht _ (List.mem_singleton_self _) with hh|hh
  ·cases hh
  ·exact hh hg
theorem Fr.low'(h:Fr R w W bs rs ks)(O:Nat→Prop)(hO:∀c,R c∨w.heap.size≤c→O c){u:Value}{l:List qb}(hk:qk u l∈ks):qo W O u l:=(h.get hk).mono fun c hc=>hO c hc.1
end
theorem qD(w:World)(q:Option Addr)(c:Nat)(L:List PTok)(p:PSt):Fr (fun _=>False) w (((w.alloc (.cells #[.slice q L.length c,.int .i64 (p.1:Int),.bool p.2] 78)).alloc (.cells #[.slice none 0 0,.int .i64 0,.bool false] 78)).alloc (.cells #[.int .i64 0,.string ⟨#[]⟩,.slice none 0 0] 24))
  [⟨w.heap.size,78,[.slice q L.length c,.int .i64 (p.1:Int),.bool p.2]⟩,⟨w.heap.size+1,78,[.slice none 0 0,.int .i64 0,.bool false]⟩,⟨w.heap.size+1+1,24,[.int .i64 0,.string ⟨#[]⟩,.slice none 0 0]⟩] [] []:=
 (Fr.new0 w).lay3 _ _ _ _ _ _
theorem Fr.told{w W:World}{bs:List Bx}{rs:List Rw}{ks:List Fact}(h:Fr (fun _=>False) w W bs rs ks)(q:Option Addr)(c:Nat)(L:List PTok)(r:PRes)(u:Value)(hk:qk u r.n.kids∈ks):qar q c L w r (.returned (.tuple #[pV q c L r.st,.agg #[.int .i64 r.n.kind,.string r.n.text,u]])) W:=
 ⟨u,rfl,h.low' _ (fun c hc=>hc.elim (fun h=>h.elim) id) hk,h.low⟩
def qdg(q:Option Addr)(c:Nat)(L:List PTok)(w:World)(r:PRes)(e:Ending)(w':World):Prop:=∃u,e=.returned (.tuple #[pV q c L r.st,.agg #[.int .i64 r.n.kind,.string r.n.text,u],.bool r.b])∧qo w' (fun b=>w.heap.size≤b) u r.n.kids∧Below w.heap.size w w'
theorem Fr.toldK{w W:World}{bs:List Bx}{rs:List Rw}{ks:List Fact}(h:Fr (fun _=>False) w W bs rs ks)(q:Option Addr)(c:Nat)(L:List PTok)(r:PRes)(u:Value)(hk:qk u r.n.kids∈ks):qdg q c L w r (.returned (.tuple #[pV q c L r.st,.agg #[.int .i64 r.n.kind,.string r.n.text,u],.bool r.b])) W:=
 ⟨u,rfl,h.low' _ (fun c hc=>hc.elim (fun h=>h.elim) id) hk,h.low⟩
theorem Fr.toldH{w W:World}{bs:List Bx}{rs:List Rw}{ks:List Fact}(q:Option Addr)(c:Nat)(L:List PTok)(r:PRes){u:Value}(h:Fr (fun _=>False) w W bs rs (qk u r.n.kids::ks)):qar q c L w r (.returned (.tuple #[pV q c L r.st,.agg #[.int .i64 r.n.kind,.string r.n.text,u]])) W:=h.told q c L r u List.mem_cons_self
theorem Fr.toldKH{w W:World}{bs:List Bx}{rs:List Rw}{ks:List Fact}(q:Option Addr)(c:Nat)(L:List PTok)(r:PRes){u:Value}(h:Fr (fun _=>False) w W bs rs (qk u r.n.kids::ks)):qdg q c L w r (.returned (.tuple #[pV q c L r.st,.agg #[.int .i64 r.n.kind,.string r.n.text,u],.bool r.b])) W:=h.toldK q c L r u List.mem_cons_self
section
variable {R:Nat→Prop} {w W:World} {bs:List Bx} {rs:List Rw} {ks:List Fact} {P:Program} {f:FuncId} {args:Array Value} {G:Ending→World→Prop}
theorem fr_w(H:Hid (Fr R w W bs rs ks)):∃V,V=W∧Hid (Fr R w V bs rs ks):=⟨W,rfl,H⟩
theorem fx{v:Value}(q:Hid (∀U,Below w.heap.size w U→Calls P f args U fun e w'=>e=.returned v∧Below U.heap.size U w'))(H:Hid (Fr R w W bs rs ks))(k:∀W',Hid (Fr R w W' bs rs ks)→G (.returned v) W'):Calls P f args W G:=
 (q.out W H.out.low).mono fun _ W' h=>by rw[h.1];exact k W' (qh (H.out.stays h.2))
theorem fm{q:Option Addr}{c:Nat}{L:List PTok}{a:Nat}{b bb:Bool}{n:qb}{l:List qb}(Q:Hid (∀U,Below w.heap.size w U→Calls P f args U (qar q c L U ⟨(a,b),n,l,bb⟩)))(H:Hid (Fr R w W bs rs ks))
  (k:∀W' p d,Fr R w W' bs rs (qk (.slice p n.kids.length d) n.kids::ks)→G (.returned (.tuple #[pV q c L (a,b),.agg #[.int .i64 n.kind,.string n.text,.slice p n.kids.length d]])) W'):Calls P f args W G:=
 (Q.out W H.out.low).mono fun _ W' h=>by
  obtain⟨u,rfl,hk,hb⟩:=h
  obtain⟨p,d,rfl,-⟩:=hk.shape
  exact k W' p d (H.out.call hb (qk _ _) hk)
theorem fk{q:Option Addr}{c:Nat}{L:List PTok}{a:Nat}{b bb:Bool}{n:qb}{l:List qb}(Q:Hid (∀U,Below w.heap.size w U→Calls P f args U (qdg q c L U ⟨(a,b),n,l,bb⟩)))(H:Hid (Fr R w W bs rs ks))
  (k:∀W' p d,Fr R w W' bs rs (qk (.slice p n.kids.length d) n.kids::ks)→G (.returned (.tuple #[pV q c L (a,b),.agg #[.int .i64 n.kind,.string n.text,.slice p n.kids.length d],.bool bb])) W'):Calls P f args W G:=
 (Q.out W H.out.low).mono fun _ W' h=>by
  obtain⟨u,rfl,hk,hb⟩:=h
  obtain⟨p,d,rfl,-⟩:=hk.shape
  exact k W' p d (H.out.call hb (qk _ _) hk)
theorem Fr.layM{q:Option Addr}{c:Nat}{L:List PTok}(h:Fr R w W bs rs ks)(a:Nat)(b:Bool)(n:qb)(u:Value):Hid (Fr R w ((W.alloc (.cells #[.slice q L.length c,.int .i64 (a:Int),.bool b] 78)).alloc (.cells #[.int .i64 n.kind,.string n.text,u] 24)) (bs++[⟨W.heap.size,78,[.slice q L.length c,.int .i64 (a:Int),.bool b]⟩]++[⟨W.heap.size+1,24,[.int .i64 n.kind,.string n.text,u]⟩]) rs ks):=
 qh (h.lay2 _ _ _ _)
theorem Fr.layP(h:Fr R w W bs rs ks)(q:Option Addr)(c:Nat)(L:List PTok)(a:Nat)(b:Bool):Hid (Fr R w (W.alloc (.cells #[.slice q L.length c,.int .i64 (a:Int),.bool b] 78)) (bs++[⟨W.heap.size,78,[.slice q L.length c,.int .i64 (a:Int),.bool b]⟩]) rs ks):=qh (h.lay _ _)
theorem Fr.layT(h:Fr R w W bs rs ks)(k:Int)(t:ByteArray):Hid (Fr R w (W.alloc (.cells #[.int .i64 k,.string t] 60)) (bs++[⟨W.heap.size,60,[.int .i64 k,.string t]⟩]) rs ks):=qh (h.lay _ _)
theorem Fr.layN(h:Fr R w W bs rs ks):Fr R w (W.alloc (.cells #[.int .i64 0,.string ⟨#[]⟩,.slice none 0 0] 24)) (bs++[⟨W.heap.size,24,[.int .i64 0,.string ⟨#[]⟩,.slice none 0 0]⟩]) rs ks:=h.lay _ _
theorem ab3(H:Hid (Fr R w W bs rs ks))(i:Nat)(x y z:Value){B:Nat}{T:TypeId}{x0 y0 z0:Value}(hi:bs[i]? =some ⟨B,T,[x0,y0,z0]⟩):∃V,V=((W.setCell ⟨B,0,none⟩ x).setCell ⟨B,1,none⟩ y).setCell ⟨B,2,none⟩ z∧Hid (Fr R w V (bs.set i ⟨B,T,[x,y,z]⟩) rs ks):=⟨_,rfl,qh (Fr.set3 H.out i hi)⟩
theorem qhD(W:World)(a b:Addr)(x y:Value)(h:a.block≠b.block):(W.setCell a x).setCell b y=(W.setCell b y).setCell a x:=by
 unfold World.setCell
 congr 1
 refine Array.ext_getElem? fun i=>?_
 simp only[Array.getElem?_modify]
 by_cases h1:a.block=i<;>by_cases h2:b.block=i<;>simp_all
theorem sets(H:Hid (Fr R w W bs rs ks))(i j:Nat)(q:Option Addr)(c:Nat)(L:List PTok)(a:Nat)(b:Bool)(k:Int)(t:ByteArray)(u:Value){A D:Nat}{T T':TypeId}{x0 y0 z0 x1 y1 z1:Value}(hi:bs[i]? =some ⟨A,T,[x0,y0,z0]⟩)(hj:bs[j]? =some ⟨D,T',[x1,y1,z1]⟩)(hij:(i==j)=false:=by rfl):
  ∃V,V=(((((W.setCell ⟨A,0,none⟩ (.slice q L.length c)).setCell ⟨A,1,none⟩ (.int .i64 (a:Int))).setCell ⟨A,2,none⟩ (.bool b)).setCell ⟨D,0,none⟩ (.int .i64 k)).setCell ⟨D,1,none⟩ (.string t)).setCell ⟨D,2,none⟩ u∧
   V=(((((W.setCell ⟨D,0,none⟩ (.int .i64 k)).setCell ⟨D,1,none⟩ (.string t)).setCell ⟨D,2,none⟩ u).setCell ⟨A,0,none⟩ (.slice q L.length c)).setCell ⟨A,1,none⟩ (.int .i64 (a:Int))).setCell ⟨A,2,none⟩ (.bool b)∧
   Fr R w V ((bs.set i ⟨A,T,[.slice q L.length c,.int .i64 (a:Int),.bool b]⟩).set j ⟨D,T',[.int .i64 k,.string t,u]⟩) rs ks:=by
 have hne:i≠j:=by simpa using hij
 have hAD:A≠D:=fun e=>hne (qfb H.out hi hj e)
 have cm:∀(V:World) (o p:Nat) (x y:Value),(V.setCell ⟨A,o,none⟩ x).setCell ⟨D,p,none⟩ y=(V.setCell ⟨D,p,none⟩ y).setCell ⟨A,o,none⟩ x:=fun V o p x y=>qhD V _ _ x y hAD
 refine⟨_,rfl,by simp only[cm],?_⟩
 exact Fr.set3 (Fr.set3 H.out i hi) j ((List.getElem?_set_ne hne).trans hj)
theorem sets0(H:Hid (Fr R w W bs rs ks))(i j:Nat)(q:Option Addr)(c:Nat)(L:List PTok)(k:Int)(t:ByteArray)(u:Value){a:Nat}{b:Bool}{A D Z:Nat}{T T' T0:TypeId}{x0 y0 z0 x1 y1 z1:Value}(_:bs[0]? =some ⟨Z,T0,[.slice q L.length c,.int .i64 (a:Int),.bool b]⟩)(hi:bs[i]? =some ⟨A,T,[x0,y0,z0]⟩)(hj:bs[j]? =some ⟨D,T',[x1,y1,z1]⟩)(hij:(i==j)=false:=by rfl):
  ∃V,V=(((((W.setCell ⟨A,0,none⟩ (.slice q L.length c)).setCell ⟨A,1,none⟩ (.int .i64 (a:Int))).setCell ⟨A,2,none⟩ (.bool b)).setCell ⟨D,0,none⟩ (.int .i64 k)).setCell ⟨D,1,none⟩ (.string t)).setCell ⟨D,2,none⟩ u∧
   V=(((((W.setCell ⟨D,0,none⟩ (.int .i64 k)).setCell ⟨D,1,none⟩ (.string t)).setCell ⟨D,2,none⟩ u).setCell ⟨A,0,none⟩ (.slice q L.length c)).setCell ⟨A,1,none⟩ (.int .i64 (a:Int))).setCell ⟨A,2,none⟩ (.bool b)∧
   Fr R w V ((bs.set i ⟨A,T,[.slice q L.length c,.int .i64 (a:Int),.bool b]⟩).set j ⟨D,T',[.int .i64 k,.string t,u]⟩) rs ks:=sets H i j q c L a b k t u hi hj hij
end
section
variable {R:Nat→Prop} {w W U:World} {bs:List Bx} {rs:List Rw} {ks:List Fact}
def KN(l:List qb)(us:List Value)(ks:List Fact):Prop:=us.length=l.length∧∀(i:Nat) y t,l[i]? =some y→us[i]? =some t→qk t y.kids∈ks
theorem KN.nil(ks:List Fact):KN [] [] ks:=⟨rfl,fun i y t h=>by simp at h⟩
theorem KN.mono{l:List qb}{us:List Value}{ks':List Fact}(h:KN l us ks)(hs:∀f,f∈ks→f∈ks'):KN l us ks':=⟨h.1,fun i y t hy ht=>hs _ (h.2 i y t hy ht)⟩
theorem KN.more{l:List qb}{us:List Value}{F:Fact}(h:KN l us ks):KN l us (F::ks):=h.mono fun f hf=>List.mem_cons_of_mem _ hf
theorem KN.snoc{l:List qb}{us:List Value}{x:qb}{u:Value}(h:KN l us ks)(hu:qk u x.kids∈ks):KN (l++[x]) (us++[u]) ks:=by
 refine⟨by simp[h.1],fun i y t hy ht=>?_⟩
 by_cases hi:i<l.length
 ·rw[List.getElem?_append_left hi] at hy
  rw[List.getElem?_append_left (by rw[h.1];exact hi)] at ht
  exact h.2 i y t hy ht
 ·have hj:i=l.length:=by
   have:=(List.getElem?_eq_some_iff.1 hy).1
   rw[List.length_append,List.length_singleton] at this
   omega
  subst hj
  rw[List.getElem?_append_right (Nat.le_refl _),Nat.sub_self] at hy
  rw[←h.1,List.getElem?_append_right (Nat.le_refl _),Nat.sub_self] at ht
  obtain rfl:x=y:=by simpa using hy
  obtain rfl:u=t:=by simpa using ht
  exact hu
theorem KN.one{x:qb}{u:Value}(hu:qk u x.kids∈ks):KN [x] [u] ks:=(KN.nil ks).snoc hu
theorem KN.two{x y:qb}{u v:Value}(hu:qk u x.kids∈ks)(hv:qk v y.kids∈ks):KN [x,y] [u,v] ks:=(KN.one hu).snoc hv
theorem Fr.rowOne(h:Fr R w W bs rs ks)(n:qb)(u:Value):Fr R w (W.alloc (.cells #[.int .i64 n.kind,.string n.text,u] 24)) bs (rs++[rowN (.slice (some ⟨W.heap.size,0,none⟩) 1 1) [n] [u]]) ks:=
 h.rowLit 24 3 1 [.int .i64 n.kind,.string n.text,u] rfl (by decide)
theorem Fr.rowFour(h:Fr R w W bs rs ks)(n m k j:qb)(u v x y:Value):Fr R w (W.alloc (.cells #[.int .i64 n.kind,.string n.text,u,.int .i64 m.kind,.string m.text,v,.int .i64 k.kind,.string k.text,x,.int .i64 j.kind,.string j.text,y] 24)) bs (rs++[rowN (.slice (some ⟨W.heap.size,0,none⟩) 4 4) [n,m,k,j] [u,v,x,y]]) ks:=
 h.rowLit 24 3 4 [.int .i64 n.kind,.string n.text,u,.int .i64 m.kind,.string m.text,v,.int .i64 k.kind,.string k.text,x,.int .i64 j.kind,.string j.text,y] rfl (by decide)
theorem Fr.give1{v:Value}{l:List qb}{us:List Value}(h:Fr R w W bs [rowN v l us] ks)(hk:KN l us ks)(hn:l.length≤4611686018427387904):Fr R w W bs [] (qk v l::ks):=Fr.giveN (rs:=[]) h hk.1 hn hk.2
theorem Fr.one(h:Fr R w W bs rs ks){u:Value}{l:List qb}(hk:qk u l∈ks):u.oneCell'=true:=by
 obtain⟨p,c,e,_⟩:=(h.get hk:qo W _ u l).shape
 rw[e];rfl
theorem qea{v:Value}{l:List qb}{us:List Value}{base:Nat}(h:W.ownsRow base 24 3 v l.length (qF l us)):∃p c,v=.slice p l.length c:=by
 rcases h.2 with⟨rfl,h0⟩|⟨g,cap,_,rfl,_⟩
 ·exact⟨none,0,by rw[h0]⟩
 ·exact⟨_,_,rfl⟩
theorem Fr.nilN(h:Fr R w W bs rs ks):Fr R w W bs rs (qk (.slice none 0 0) []::ks):=h.more (qk _ _) (qo.nil W fun _=>False) fun c hc=>hc.elim
theorem q8{ops:Array Oper}{rest:List Oper}{o:Oper}{a:Act}{Q:Exit→Act→World→Prop}(h:Fr R w W bs rs ks)(i:Nat){v:Value}{l:List qb}{us:List Value}(hi:rs[i]? =some (rowN v l us))(hl:us.length=l.length)(x:qb){u:Value}(hu:qk u x.kids∈ks)
  {X:Nat}{T:TypeId}(hX:W.heap[X]? =some (.cells #[.int .i64 x.kind,.string x.text,u] T (0,0)))(hb:l.length<1000000001)(hg:o.guard=none)(s xo:Operand)(hop:o.op=Op.call {callee:=Callee.builtin Builtin.append,args:= #[s,xo],argTypes:= #[22,22]})(hs:a.eval s=v)(hx:a.eval xo=.slice (some ⟨X,0,none⟩) 1 1)
  (hK:∀p c W',Fr R w W' bs (rs.set i (rowN (.slice p (l.length+1) c) (l++[x]) (us++[u]))) ks→wpList Tryz.prog ops Q rest (a.put o.dst (.slice p (l.length+1) c)) W'):wpList Tryz.prog ops Q (o::rest) a W:=by
 obtain⟨i0,hi0,hz0,hz1,hz2⟩:=qdR
 refine qaa W hg s xo 22 hop w.heap.size 24 i0 _ 3 48 qd2 hi0 hz0 hz1 hz2 rfl (by decide) v l.length (qF l us) hs (h.row _ (List.mem_of_getElem? hi)) ⟨X,0,none⟩ 1 1 [.int .i64 x.kind,.string x.text,u] hx rfl (fun j t ht=>?_) (fun t ht=>?_) (by simp only[maxLen];omega) (by omega) h.low.size fun v' W' hown hkeep hblk _=>?_
 ·match j,ht with
  |0,ht=>simp at ht;subst ht;exact qa hX rfl
  |1,ht=>simp at ht;subst ht;exact qa hX rfl
  |2,ht=>simp at ht;subst ht;exact qa hX rfl
  |j+3,ht=>simp at ht
 ·simp at ht
  rcases ht with rfl|rfl|rfl
  ·rfl
  ·rfl
  ·exact h.one hu
 ·have hown':W'.ownsRow w.heap.size 24 3 v' (l++[x]).length (qF (l++[x]) (us++[u])):=by
   rw[qbw _ _ _ _ hl,List.length_append];exact hown
  obtain⟨p,c,rfl⟩:=qea hown'
  rw[List.length_append] at hown' hblk⊢
  exact hK p c W' (h.setRow (rowN (.slice p (l.length+1) c) (l++[x]) (us++[u])) hi hkeep (by unfold rowN;dsimp only;rw[List.length_append];exact hown') hblk)
end
section
variable {R:Nat→Prop} {w W U:World} {bs:List Bx} {rs:List Rw} {ks:List Fact}
theorem Fr.lit2z(h:Fr R w W bs rs ks)(m:qb){v:Value}(hm:qk v m.kids∈ks):Fr R w (W.alloc (.cells #[.int .i64 0,.string ⟨#[]⟩,.slice none 0 0,.int .i64 m.kind,.string m.text,v] 24)) bs rs (qk (.slice (some ⟨W.heap.size,0,none⟩) 2 2) [qj,m]::qk (.slice none 0 0) []::ks):=h.nilN.lit2 qj m (u:=.slice none 0 0) List.mem_cons_self (List.mem_cons_of_mem _ hm)
theorem Fr.lit2zS{a b c:Addr}{x y z:Value}(h:Fr R w (((W.setCell a x).setCell b y).setCell c z) bs rs ks)(m:qb){v:Value}(hm:qk v m.kids∈ks):Fr R w ((((W.setCell a x).setCell b y).setCell c z).alloc (.cells #[.int .i64 0,.string ⟨#[]⟩,.slice none 0 0,.int .i64 m.kind,.string m.text,v] 24)) bs rs (qk (.slice (some ⟨W.heap.size,0,none⟩) 2 2) [qj,m]::qk (.slice none 0 0) []::ks):=h.nilN.lit2S qj m (u:=.slice none 0 0) List.mem_cons_self (List.mem_cons_of_mem _ hm)
end
section
variable {R:Nat→Prop} {w W U:World} {bs:List Bx} {rs:List Rw} {ks:List Fact}
theorem Fr.drop{bs':List Bx}(h:Fr R w W (bs++bs') rs ks):Fr R w W bs rs ks:=by
 have hn:Bx.nums (bs++bs')=Bx.nums bs++Bx.nums bs':=by simp[Bx.nums]
 refine⟨h.low,fun b hb=>h.box b (List.mem_append_left _ hb),h.row,fun k hk=>?_,?_,h.nr,fun c hc=>h.nx c (by rw[hn];exact List.mem_append_left _ hc),h.old⟩
 ·exact k.mono (h.fact k hk) fun c hc=>⟨hc.1,fun ht=>hc.2 (ht.imp (fun h=>by rw[hn];exact List.mem_append_left _ h) id)⟩
 ·have:=h.nb
  rw[hn] at this
  exact(List.nodup_append.1 this).1
theorem Fr.drop4{a b c d:Bx}(h:Fr R w W (a::b::c::d::bs) rs ks):Fr R w W [a,b,c,d] rs ks:=Fr.drop (bs:=[a,b,c,d]) h
def qd4(w:World)(B n:Nat):Nat:=n-qfW (w.cell? ⟨B,1,none⟩)
theorem Fr.leftA(h:Fr R w W bs rs ks)(i:Nat){B:Nat}{T:TypeId}{x z:Value}{a:Nat}(hi:bs[i]? =some ⟨B,T,[x,.int .i64 (a:Int),z]⟩)(n:Nat):qd4 W B n=n-a:=by
 have h1:=(h.c3 i hi).1.2.1
 unfold Go.Proofs.YtakbenifinnpfaaGreatDoor.qd4
 rw[h1]
 simp[qfW]
theorem Fr.leftB(h:Fr R w W bs rs ks)(i:Nat){B:Nat}{T:TypeId}{x:Value}{a:Nat}{b:Bool}(hi:bs[i]? =some ⟨B,T,[x,.int .i64 (a:Int),.bool b]⟩)(n:Nat):qd0 W B n=if b=true then 0 else 1+(n-a):=by
 obtain⟨⟨h0,h1,h2⟩,-⟩:=h.c3 i hi
 unfold Go.Proofs.YtakbenifinnpfaaGreatDoor.qd0
 rw[h1,h2]
 cases b<;>simp[qfW,cellB]
theorem qdz{L:List PTok}{p:PSt}{s:ByteArray}(h:opP L p s=true):p.2=false∧p.1<L.length:=by
 unfold opP tokP at h
 cases hp:p.2 with
 |true=>simp[hp] at h
 |false=>
  refine⟨rfl,?_⟩
  by_cases hl:p.1<L.length
  ·exact hl
  ·rw[hp] at h
   simp[List.getElem?_eq_none (Nat.le_of_not_lt hl)] at h
theorem qfc{L:List PTok}{p:PSt}{s:ByteArray}(h:qv L p s=true):p.2=false∧p.1<L.length:=by
 unfold qv tokP at h
 cases hp:p.2 with
 |true=>simp[hp] at h
 |false=>
  refine⟨rfl,?_⟩
  by_cases hl:p.1<L.length
  ·exact hl
  ·rw[hp] at h
   simp[List.getElem?_eq_none (Nat.le_of_not_lt hl)] at h
theorem qbK{L:List PTok}{p q:PSt}(h:qs L p=some q)(hp:p.2=false):p.1<L.length∧q=(p.1+1,false):=by
 have hl:=qj5 h hp
 unfold qs at h
 rw[if_neg (by rw[hp];simp),if_pos hl] at h
 exact⟨hl,(Option.some.inj h).symm⟩
end
section
variable {R:Nat→Prop} {w W U:World} {bs:List Bx} {rs:List Rw} {ks:List Fact}
theorem qc5{ops:Array Oper}{rest:List Oper}{o:Oper}{a:Act}{Q:Exit→Act→World→Prop}(h:Fr R w W bs rs ks)(i:Nat){v:Value}{l:List qb}{us:List Value}(hi:rs[i]? =some (rowN v l us))(hl:us.length=l.length)(x y:qb){u u':Value}(hu:qk u x.kids∈ks)(hu':qk u' y.kids∈ks)
  {X:Nat}{T:TypeId}(hX:W.heap[X]? =some (.cells #[.int .i64 x.kind,.string x.text,u,.int .i64 y.kind,.string y.text,u'] T (0,0)))(hb:l.length<1000000001)(hg:o.guard=none)(s xo:Operand)(hop:o.op=Op.call {callee:=Callee.builtin Builtin.append,args:= #[s,xo],argTypes:= #[22,22]})(hs:a.eval s=v)(hx:a.eval xo=.slice (some ⟨X,0,none⟩) 2 2)
  (hK:∀p c W',Fr R w W' bs (rs.set i (rowN (.slice p (l.length+2) c) (l++[x]++[y]) (us++[u]++[u']))) ks→wpList Tryz.prog ops Q rest (a.put o.dst (.slice p (l.length+2) c)) W'):wpList Tryz.prog ops Q (o::rest) a W:=by
 obtain⟨i0,hi0,hz0,hz1,hz2⟩:=qdR
 refine qaa W hg s xo 22 hop w.heap.size 24 i0 _ 3 48 qd2 hi0 hz0 hz1 hz2 rfl (by decide) v l.length (qF l us) hs (h.row _ (List.mem_of_getElem? hi)) ⟨X,0,none⟩ 2 2 [.int .i64 x.kind,.string x.text,u,.int .i64 y.kind,.string y.text,u'] hx rfl (fun j t ht=>?_) (fun t ht=>?_) (by simp only[maxLen];omega) (by omega) h.low.size fun v' W' hown hkeep hblk _=>?_
 ·match j,ht with
  |0,ht=>simp at ht;subst ht;exact qa hX rfl
  |1,ht=>simp at ht;subst ht;exact qa hX rfl
  |2,ht=>simp at ht;subst ht;exact qa hX rfl
  |3,ht=>simp at ht;subst ht;exact qa hX rfl
  |4,ht=>simp at ht;subst ht;exact qa hX rfl
  |5,ht=>simp at ht;subst ht;exact qa hX rfl
  |j+6,ht=>simp at ht
 ·simp at ht
  rcases ht with rfl|rfl|rfl|rfl|rfl|rfl
  ·rfl
  ·rfl
  ·exact h.one hu
  ·rfl
  ·rfl
  ·exact h.one hu'
 ·have hown':W'.ownsRow w.heap.size 24 3 v' (l++[x]++[y]).length (qF (l++[x]++[y]) (us++[u]++[u'])):=by
   rw[qbw _ _ _ _ (by simp[hl]),qbw _ _ _ _ hl,List.length_append,List.length_append,List.append_assoc];exact hown
  obtain⟨p,c,rfl⟩:=qea hown'
  rw[List.length_append,List.length_append] at hown' hblk⊢
  exact hK p c W' (h.setRow (rowN (.slice p (l.length+2) c) (l++[x]++[y]) (us++[u]++[u'])) hi hkeep (by unfold rowN;dsimp only;rw[List.length_append,List.length_append];exact hown') hblk)
end
section
variable {R:Nat→Prop} {w W U:World} {bs:List Bx} {rs:List Rw} {ks:List Fact}
theorem qd1{ops:Array Oper}{o:Oper}{a:Act}{K:Act→World→Prop}{Q:Exit→Act→World→Prop}{E:Prop}(h:Fr R w W bs rs ks)(i:Nat){v:Value}{l:List qb}{us:List Value}(hi:rs[i]? =some (rowN v l us))(hl:us.length=l.length)(x:qb){u:Value}(hu:qk u x.kids∈ks)
  {X:Nat}{T:TypeId}(hX:W.heap[X]? =some (.cells #[.int .i64 x.kind,.string x.text,u] T (0,0)))(hb:l.length<1000000001)(hg:o.guard=none)(s xo:Operand)(hop:o.op=Op.call {callee:=Callee.builtin Builtin.append,args:= #[s,xo],argTypes:= #[22,22]})(hs:a.eval s=v)(hx:a.eval xo=.slice (some ⟨X,0,none⟩) 1 1)
  (hK:∀g c W',Fr R w W' bs (rs.set i (rowN (.slice (some ⟨g,0,none⟩) (l.length+1) c) (l++[x]) (us++[u]))) ks→K (a.put o.dst (.slice (some ⟨g,0,none⟩) (l.length+1) c)) W'):if Region.wanted o (yielded ops a.tmps)=true then Oper.wp Tryz.prog o a W K Q else E:=by
 obtain⟨i0,hi0,hz0,hz1,hz2⟩:=qdR
 refine step_append_lies W hg s xo 22 hop w.heap.size 24 i0 _ 3 48 qd2 hi0 hz0 hz1 hz2 rfl (by decide) v l.length (qF l us) hs (h.row _ (List.mem_of_getElem? hi)) ⟨X,0,none⟩ 1 1 [.int .i64 x.kind,.string x.text,u] hx rfl (fun j t ht=>?_) (fun t ht=>?_) (by decide) (by simp only[maxLen];omega) (by omega) h.low.size W.heap.size rfl fun g cap W' hown hgrow hblk _=>?_
 ·match j,ht with
  |0,ht=>simp at ht;subst ht;exact qa hX rfl
  |1,ht=>simp at ht;subst ht;exact qa hX rfl
  |2,ht=>simp at ht;subst ht;exact qa hX rfl
  |j+3,ht=>simp at ht
 ·simp at ht
  rcases ht with rfl|rfl|rfl
  ·rfl
  ·rfl
  ·exact h.one hu
 ·refine hK g cap W' (h.setRow (rowN (.slice (some ⟨g,0,none⟩) (l.length+1) cap) (l++[x]) (us++[u])) hi (qe.of_grownBy hgrow fun r e=>e.symm) ?_ ?_)
  ·unfold rowN
   dsimp only
   rw[qbw _ _ _ _ hl,List.length_append]
   exact hown
  ·rcases hblk with hh|hh
   ·exact .inl hh.symm
   ·exact .inr (by show some g=_;rw[hh])
end
end Go.Proofs.YtakbenifinnpfaaGreatDoor
namespace Go.Proofs.YtakbenifinnpfaaGreatDoor
open Go.RowKit Go.Sub
attribute [local go_sem] Instr.field asAgg
def GRow(W:World)(g:Nat)(v:Value)(c:List UInt8):Prop:=∃p cap b o,v=.slice p c.length cap∧(0<c.length→p=some ⟨b,o,none⟩)∧b≠g∧c.length≤4611686018427387904∧∀(i:Nat) x,c[i]? =some x→W.cell? ⟨b,o+i,none⟩=some (.int .u8 (x.toNat:Int))
structure GW(w W:World)(g:Nat)(v:Value)(c:List UInt8):Prop where
 kp:qe (fun b=>b=g) w W
 at':∃K:Nat,K≤c.length∧W.heap[g]? =some (.cells #[v,.int .i64 (K:Int)] 66 (0,0))
 row:GRow W g v c
theorem GRow.keeps{w W:World}{g:Nat}{v:Value}{c:List UInt8}(h:GRow w g v c)(k:qe (fun b=>b=g) w W):GRow W g v c:=by
 obtain⟨p,cap,b,o,h1,h2,h3,h4,h5⟩:=h
 exact⟨p,cap,b,o,h1,h2,h3,h4,fun i x hx=>k.cell (h5 i x hx) h3⟩
theorem GW.trans{w W U:World}{g:Nat}{v:Value}{c:List UInt8}(h:GW w W g v c)(k:GW W U g v c):GW w U g v c:=⟨h.kp.trans k.kp,k.at',k.row⟩
theorem GW.start{w W:World}{g:Nat}{v:Value}{c:List UInt8}(h:GW w W g v c):GW W W g v c:=⟨qe.refl _ _,h.at',h.row⟩
theorem GW.stays{w W U:World}{g:Nat}{v:Value}{c:List UInt8}(h:GW w W g v c)(hb:Below W.heap.size W U):GW w U g v c:=by
 obtain⟨K,hK,hg⟩:=h.at'
 have k:qe (fun b=>b=g) W U:=(qe.of_below' (O:=fun _=>False) hb).mono fun _ _ h=>h.elim
 exact⟨h.kp.trans k,⟨K,hK,(hb.block _ ((Array.getElem?_eq_some_iff.1 hg).1)).trans hg⟩,h.row.keeps k⟩
theorem GW.skip{w W:World}{g:Nat}{v:Value}{c:List UInt8}(h:GW w W g v c)(o:Obj):GW w (W.alloc o) g v c:=h.stays ((Below.refl _ _).alloc (Nat.le_refl _) o)
theorem GW.lt{w W:World}{g:Nat}{v:Value}{c:List UInt8}(h:GW w W g v c):g<W.heap.size:=by
 obtain⟨K,hK,hg⟩:=h.at';exact(Array.getElem?_eq_some_iff.1 hg).1
theorem qbe(n:Int)(hn:n≤1000000)(g:Nat)(v:Value)(c:List UInt8)(w:World)(hg:GW w w g v c):
  Calls Tryz.prog 35 #[.pointer (some ⟨g,0,none⟩),.int .i64 n] w fun e w'=>∃r:Int,e=.returned (.int .i64 r)∧(0≤r∧(0<n→r<n))∧GW w w' g v c:=by
 obtain⟨K,hK,h0⟩:=hg.at'
 obtain⟨p,cap,b,o,rfl,h2,h3,h4,h5⟩:=hg.row
 have c0:w.cell? ⟨g,0,none⟩=some (.slice p c.length cap):=qa h0 rfl
 have c1:w.cell? ⟨g,1,none⟩=some (.int .i64 (K:Int)):=qa h0 rfl
 have f1:=frozen_of_row w g 1 _ _ h0
 have HG:=qh hg
 by_cases hd:K<c.length∧0<n
 ·obtain⟨hk,hn0⟩:=hd
  have e1:decide ((K:Int)≥(c.length:Int))=false:=decide_eq_false (by omega)
  have e2:((c.length:Int)≤(K:Int))=False:=eq_false (by omega)
  have e3:decide (n<1)=false:=decide_eq_false (by omega)
  have e4:(n<1)=False:=eq_false (by omega)
  obtain rfl:=h2 (by omega)
  obtain⟨x,hx⟩:∃x,c[K]? =some x:=⟨_,List.getElem?_eq_getElem hk⟩
  have g5:=h5 K x hx
  have hx255:(x.toNat:Int)≤255:=by have:=x.toNat_lt;omega
  have z0:(0:Int)≤(K:Int):=by omega
  go_enter Tryz.func35,Tryz.ntmps35
  go_upto_region 1 with(fail)
  go_quiet (fail)
  have hb1:Below w.heap.size w (w.drewN nq):=below_drewN (Below.refl _ _) _
  have g6:=(hb1.cell (World.block_lt_of_cell? _ _ g5)).trans g5
  generalize w.drewN nq=W1 at*
  have H1:=qh (HG.out.stays hb1)
  have k0:=(hb1.block _ (Array.getElem?_eq_some_iff.1 h0).1).trans h0
  clear hb1 c0 c1 f1 h5 g5 HG h0 hg
  have c0:W1.cell? ⟨g,0,none⟩=some (.slice (some ⟨b,o,none⟩) c.length cap):=qa k0 rfl
  have c1:W1.cell? ⟨g,1,none⟩=some (.int .i64 (K:Int)):=qa k0 rfl
  have f1:=frozen_of_row W1 g 1 _ _ k0
  have hst:=heap_setCell_same W1 g 1 _ _ (.int .i64 ((K:Int)+1)) k0
  have kp:=qal W1 g 1 (.int .i64 ((K:Int)+1)) (O:=fun b=>b=g) rfl
  have H2:Hid (GW w (W1.setCell ⟨g,1,none⟩ (.int .i64 ((K:Int)+1))) g (.slice (some ⟨b,o,none⟩) c.length cap) c):=qh ⟨H1.out.kp.trans kp,⟨K+1,by omega,hst⟩,H1.out.row.keeps kp⟩
  have z1:(K:Int)≤4611686018427387904:=by omega
  have g7:=kp.cell g6 h3
  have m0:=qa hst (o:=0) rfl
  have m1:=qa hst (o:=1) rfl
  go_upto_region 4 with(fail)
  clear k0 hst c0 c1 f1 g6 kp
  generalize W1.setCell ⟨g,1,none⟩ (.int .i64 ((K:Int)+1))=W2 at*
  have y1:(K:Int)<(c.length:Int):=by omega
  have y2:(n=0)=False:=eq_false (by omega)
  have y3:((n:Int)==0)=false:=beq_eq_false_iff_ne.2 (by omega)
  have y4:(K:Int)+1-1=(K:Int):=by omega
  have y5:((K:Int)).toNat =K:=by omega
  go_quiet (fail)
  have H3:=qh (H2.out.stays (below_drewN (Below.refl _ _) nq))
  go_wp2
  go_ret
  exact⟨_,rfl,⟨Int.emod_nonneg _ (by omega),by intros;exact Int.emod_lt_of_pos _ hn0⟩,H3.out⟩
 ·by_cases hk:K<c.length
  ·have hn0:¬0<n:=fun h=>hd ⟨hk,h⟩
   have e1:decide ((K:Int)≥(c.length:Int))=false:=decide_eq_false (by omega)
   have e2:((c.length:Int)≤(K:Int))=False:=eq_false (by omega)
   have e3:decide (n<1)=true:=decide_eq_true (by omega)
   have e4:(n<1)=True:=eq_true (by omega)
   clear h5 hg h2
   go_enter Tryz.func35,Tryz.ntmps35
   go_upto_region 1 with(fail)
   go_quiet (fail)
   have H3:=qh (HG.out.stays (below_drewN (Below.refl _ _) nq))
   go_wp2
   go_ret
   exact⟨0,rfl,⟨Int.le_refl _,by intros;omega⟩,H3.out⟩
  ·have e1:decide ((K:Int)≥(c.length:Int))=true:=decide_eq_true (by omega)
   have e2:((c.length:Int)≤(K:Int))=True:=eq_true (by omega)
   clear h5 hg h2
   go_enter Tryz.func35,Tryz.ntmps35
   go_upto_region 1 with(fail)
   go_quiet (fail)
   have H3:=qh (HG.out.stays (below_drewN (Below.refl _ _) nq))
   go_wp2
   go_ret
   exact⟨0,rfl,⟨Int.le_refl _,fun h=>h⟩,H3.out⟩
def SRet(B:Nat)(w:World)(g:Nat)(v:Value)(c:List UInt8)(e:Ending)(w':World):Prop:=∃s:ByteArray,e=.returned (.string s)∧s.size≤B∧GW w w' g v c
def qe1(W:World)(X n:Nat):Prop:=0<n∧n≤1000∧∀i,i<n→∃s:ByteArray,W.cell? ⟨X,i,none⟩=some (.string s)∧s.size≤20
theorem qe1.keeps{W U:World}{X n g:Nat}(h:qe1 W X n)(k:qe (fun b=>b=g) W U)(hX:X≠g):qe1 U X n:=
 ⟨h.1,h.2.1,fun i hi=>by obtain⟨s,hs,hz⟩:=h.2.2 i hi;exact⟨s,k.cell hs hX,hz⟩⟩
theorem qlJ(X n cap g:Nat)(v:Value)(c:List UInt8)(w:World)(hg:GW w w g v c)(hX:X≠g)(hw:qe1 w X n):
  Calls Tryz.prog 51 #[.pointer (some ⟨g,0,none⟩),.slice (some ⟨X,0,none⟩) n cap] w (SRet 20 w g v c):=by
 have hn:=hw.1
 have hn2:=hw.2.1
 have Q:=qh (qbe (n:Int) (by omega) g v c w hg)
 have HW:=qh hw
 go_enter Tryz.func51,Tryz.ntmps51
 go_wp2_with(go_at_call 35;go_loud(refine Q.out.mono ?_;rintro e W1 ⟨r,rfl,⟨r0,r1⟩,h1⟩;obtain⟨j,rfl⟩:=Int.eq_ofNat_of_zero_le r0;have hj:j<n:=(by have:=r1 (by omega);omega);obtain⟨s,hs,hz⟩:=(HW.out.keeps h1.kp hX).2.2 j hj;have H1:=qh h1;have HZ:=qh hz;clear r1 h1 hz))
 go_ret
 exact⟨_,rfl,HZ.out,H1.out⟩
def qid:Value→Bool
 |.string s=>decide (s.size≤20)
 |_=>false
theorem qkB(W:World)(T:TypeId)(cs:Array Value)(n:Nat)(hn:cs.size=n)(h0:0<n)(h1:n≤1000)(hc:cs.toList.all qid=true):qe1 (W.alloc (.cells cs T)) W.heap.size n:=by
 refine⟨h0,h1,fun i hi=>?_⟩
 have hi':i<cs.size:=by omega
 have hm:cs[i]∈cs.toList:=by simp
 have hs:=List.all_eq_true.1 hc _ hm
 cases hx:cs[i] with
 |string s=>
  rw[hx] at hs
  refine⟨s,qa (World.alloc_heap_new W _) ?_,of_decide_eq_true hs⟩
  rw[Array.getElem?_eq_getElem hi',hx]
 |_=>rw[hx] at hs;cases hs
def SGo(B:Nat)(w:World)(g:Nat)(v:Value)(c:List UInt8)(e:Ending)(w':World):Prop:=∃s:ByteArray,e=.returned (.string s)∧s.size≤B∧GW w w' g v c
theorem qcc{w W:World}{g:Nat}{v:Value}{c:List UInt8}(hg:GW w W g v c)(T:TypeId)(cs:Array Value)(n:Nat)(hn:cs.size=n)(h0:0<n)(h1:n≤1000)(hc:cs.toList.all qid=true):
  Calls Tryz.prog 51 #[.pointer (some ⟨g,0,none⟩),.slice (some ⟨W.heap.size,0,none⟩) n n] (W.alloc (.cells cs T)) (SGo 20 w g v c):=
 (qlJ _ n n g v c _ (hg.skip _).start (by have:=hg.lt;omega) (qkB W T cs n hn h0 h1 hc)).mono fun e w' ⟨s,he,hs,h⟩=>⟨s,he,hs,(hg.skip _).trans h⟩
theorem qdW(g:Nat)(v:Value)(c:List UInt8)(w:World)(hg:GW w w g v c):Calls Tryz.prog 54 #[.pointer (some ⟨g,0,none⟩)] w (SRet 20 w g v c):=by
 have H:=qh hg
 clear hg
 go_enter Tryz.func54,Tryz.ntmps54
 go_wp2_with(go_at_call 51;go_loud((with_reducible refine(qcc H.out _ _ _ ?_ ?_ ?_ ?_).mono ?_);(all_goals(try decide));rintro e W1 ⟨s,rfl,hs,h⟩;replace H:=qh h;clear h))
 go_ret
 exact⟨_,rfl,by assumption,H.out⟩
theorem qeI(g:Nat)(v:Value)(c:List UInt8)(w:World)(hg:GW w w g v c):Calls Tryz.prog 55 #[.pointer (some ⟨g,0,none⟩)] w (SRet 20 w g v c):=by
 have H:=qh hg
 clear hg
 go_enter Tryz.func55,Tryz.ntmps55
 go_wp2_with(go_at_call 51;go_loud((with_reducible refine(qcc H.out _ _ _ ?_ ?_ ?_ ?_).mono ?_);(all_goals(try decide));rintro e W1 ⟨s,rfl,hs,h⟩;replace H:=qh h;clear h))
 go_ret
 exact⟨_,rfl,by assumption,H.out⟩
def gB:Nat→Nat
 |0=>200
 |k+1=>8*gB k+200
def qcF(k:Nat):Prop:=∀(d:Int),-1≤d→d+1≤k→∀(g:Nat) (v:Value) (c:List UInt8) (w:World),GW w w g v c→Calls Tryz.prog 36 #[.pointer (some ⟨g,0,none⟩),.int .i64 d] w (SRet (gB k) w g v c)
def qdG(k:Nat):Prop:=∀(d:Int),-1≤d→d+1≤k→∀(g:Nat) (v:Value) (c:List UInt8) (w:World),GW w w g v c→Calls Tryz.prog 52 #[.pointer (some ⟨g,0,none⟩),.int .i64 d] w (SRet (gB k) w g v c)
theorem qgh{k:Nat}(hk:gB k≤100000000)(hp:qcF k)(d:Int)(h0: -1≤d)(h1:d+1≤k)(g:Nat)(v:Value)(c:List UInt8)(w:World)(hg:GW w w g v c):Calls Tryz.prog 71 #[.pointer (some ⟨g,0,none⟩),.int .i64 d] w (SRet (2*gB k+10) w g v c):=by
 have H:=qh hg
 have QP:=qh (fun W (hW:GW W W g v c)=>hp d h0 h1 g v c W hW)
 clear hg hp
 generalize gB k=B at*
 go_enter Tryz.func71,Tryz.ntmps71
 go_wp2_with(first|(go_at_call 35;go_loud(refine(qbe _ (by decide) g v c _ H.out.start).mono ?_;rintro e W1 ⟨r,rfl,hr,h⟩;replace H:=qh (H.out.trans h);clear h))|(go_at_call 36;go_loud(refine(QP.out _ H.out.start).mono ?_;rintro e W1 ⟨s,rfl,hs,h⟩;replace H:=qh (H.out.trans h);clear h)))
 all_goals
  go_ret
  refine⟨_,rfl,?_,H.out⟩
  (try simp only[ByteArray.size_append])
  (try simp only[ByteArray.size,List.size_toArray,List.length_cons,List.length_nil] at*)
  omega
theorem qet{k:Nat}(hk:gB k≤100000000)(hp:qcF k)(d:Int)(h0:0≤d)(h1:d≤k)(g:Nat)(v:Value)(c:List UInt8)(w:World)(hg:GW w w g v c):Calls Tryz.prog 53 #[.pointer (some ⟨g,0,none⟩),.int .i64 d] w (SRet (gB k+80) w g v c):=by
 have H:=qh hg
 have QP:=qh (fun W (hW:GW W W g v c)=>hp (d-1) (by omega) (by omega) g v c W hW)
 have hd2:d≤100000000:=by
  have:∀k,k≤gB k:=fun k=>by
   induction k with
   |zero=>exact Nat.zero_le _
   |succ k ih=>simp only[gB];omega
  have:=this k
  omega
 clear hg hp
 generalize gB k=B at*
 go_enter Tryz.func53,Tryz.ntmps53
 go_wp2_with(first|(go_at_call 35;go_loud(refine(qbe _ (by decide) g v c _ H.out.start).mono ?_;rintro e W1 ⟨r,rfl,hr,h⟩;replace H:=qh (H.out.trans h);clear h))|(go_at_call 36;go_loud(refine(QP.out _ H.out.start).mono ?_;rintro e W1 ⟨s,rfl,hs,h⟩;replace H:=qh (H.out.trans h);clear h))|(go_at_call 54;go_loud(refine(qdW g v c _ H.out.start).mono ?_;rintro e W1 ⟨s,rfl,hs,h⟩;replace H:=qh (H.out.trans h);clear h)))
 all_goals
  go_ret
  refine⟨_,rfl,?_,H.out⟩
  (try simp only[ByteArray.size_append])
  (try simp only[ByteArray.size,List.size_toArray,List.length_cons,List.length_nil] at*)
  omega
theorem qeB{k:Nat}(hk:gB k≤100000000)(hp:qcF k)(hq:qdG k)(d:Int)(h0: -1≤d)(h1:d+1≤k)(g:Nat)(v:Value)(c:List UInt8)(w:World)(hg:GW w w g v c):Calls Tryz.prog 70 #[.pointer (some ⟨g,0,none⟩),.int .i64 d] w (SRet (6*gB k+150) w g v c):=by
 have H:=qh hg
 have QP:=qh (fun W (hW:GW W W g v c)=>hp d h0 h1 g v c W hW)
 have QO:=qh (fun W (hW:GW W W g v c)=>hq d h0 h1 g v c W hW)
 clear hg hp hq
 generalize gB k=B at*
 go_enter Tryz.func70,Tryz.ntmps70
 go_wp2_with(go_at_call 35;go_loud(refine(qbe _ (by decide) g v c _ H.out.start).mono ?_;rintro e W1 ⟨r,rfl,hr,h⟩;replace H:=qh (H.out.trans h);clear h))
 go_loopw [5,7] (fun s i wr=>∃(j:Nat) (t:ByteArray),(i=.int .i64 (j:Int)∧s=.string t)∧((j:Int)≤r+1∧t.size≤1+j*(2*B+40))∧Hid (GW w wr g v c)) (fun _ i _=>5- (intOf i).toNat)
 case atStart=>exact⟨0,_,⟨rfl,rfl⟩,⟨by omega,by simp only[ByteArray.size,List.size_toArray,List.length_cons,List.length_nil];omega⟩,H⟩
 case round=>
  clear H
  obtain⟨j,t,⟨rfl,rfl⟩,⟨hj,ht⟩,H⟩:=hrel
  have hj3:j=0∨j=1∨j=2∨j=3:=by omega
  rcases hj3 with rfl|rfl|rfl|rfl
  all_goals
   go_wp2_with(first|(go_at_call 35;go_loud(refine(qbe _ (by decide) g v c _ H.out.start).mono ?_;rintro e W1 ⟨r,rfl,hr,h⟩;replace H:=qh (H.out.trans h);clear h))|(go_at_call 51;go_loud((with_reducible refine(qcc H.out _ _ _ ?_ ?_ ?_ ?_).mono ?_);(all_goals(try decide));rintro e W1 ⟨s,rfl,hs,h⟩;replace H:=qh h;clear h))|(go_at_call 36;go_loud(refine(QP.out _ H.out.start).mono ?_;rintro e W1 ⟨s,rfl,hs,h⟩;replace H:=qh (H.out.trans h);clear h))|(go_at_call 52;go_loud(refine(QO.out _ H.out.start).mono ?_;rintro e W1 ⟨s,rfl,hs,h⟩;replace H:=qh (H.out.trans h);clear h)))
   all_goals
    first
     |(go_ret;refine⟨_,rfl,?_,H.out⟩;(try simp only[ByteArray.size_append]);(try simp only[ByteArray.size,List.size_toArray,List.length_cons,List.length_nil] at*);omega)
     |(go_roundw;(case rel=>first|exact⟨1,_,⟨by go_num,rfl⟩,⟨by omega,by simp only[ByteArray.size_append];simp only[ByteArray.size,List.size_toArray,List.length_cons,List.length_nil] at*;omega⟩,H⟩|exact⟨2,_,⟨by go_num,rfl⟩,⟨by omega,by simp only[ByteArray.size_append];simp only[ByteArray.size,List.size_toArray,List.length_cons,List.length_nil] at*;omega⟩,H⟩|exact⟨3,_,⟨by go_num,rfl⟩,⟨by omega,by simp only[ByteArray.size_append];simp only[ByteArray.size,List.size_toArray,List.length_cons,List.length_nil] at*;omega⟩,H⟩);(case measure=>simp[intOf]))
theorem gB_le:∀k,k≤gB k
 |0=>Nat.zero_le _
 |k+1=>by have:=gB_le k;simp only[gB];omega
theorem gB_200:∀k,200≤gB k
 |0=>Nat.le_refl _
 |k+1=>by simp only[gB];omega
theorem qkq(d:Int)(hd:d≤0)(g:Nat)(v:Value)(c:List UInt8)(w:World)(hg:GW w w g v c):Calls Tryz.prog 52 #[.pointer (some ⟨g,0,none⟩),.int .i64 d] w (SRet (gB 0) w g v c):=by
 have H:=qh hg
 simp only[gB]
 have e1:decide (d≤0)=true:=decide_eq_true hd
 have e2:(d≤0)=True:=eq_true hd
 clear hg
 go_enter Tryz.func52,Tryz.ntmps52
 go_wp2_with(go_at_call 51;go_loud((with_reducible refine(qcc H.out _ _ _ ?_ ?_ ?_ ?_).mono ?_);(all_goals(try decide));rintro e W1 ⟨s,rfl,hs,h⟩;replace H:=qh h;clear h))
 (go_ret;refine⟨_,rfl,?_,H.out⟩;(try simp only[ByteArray.size_append]);(try simp only[ByteArray.size,List.size_toArray,List.length_cons,List.length_nil] at*);omega)
theorem qkj{k:Nat}(hk:gB k≤100000000)(hp:qcF k)(hq:qdG k):qdG (k+1):=by
 intro d h0 h1 g v c w hg
 have H:=qh hg
 simp only[gB]
 by_cases hd:d≤0
 ·have e1:decide (d≤0)=true:=decide_eq_true hd
  have e2:(d≤0)=True:=eq_true hd
  clear hg hp hq
  generalize gB k=B at*
  go_enter Tryz.func52,Tryz.ntmps52
  go_wp2_with(go_at_call 51;go_loud((with_reducible refine(qcc H.out _ _ _ ?_ ?_ ?_ ?_).mono ?_);(all_goals(try decide));rintro e W1 ⟨s,rfl,hs,h⟩;replace H:=qh h;clear h))
  (go_ret;refine⟨_,rfl,?_,H.out⟩;(try simp only[ByteArray.size_append]);(try simp only[ByteArray.size,List.size_toArray,List.length_cons,List.length_nil] at*);omega)
 ·have e1:decide (d≤0)=false:=decide_eq_false hd
  have e2:(d≤0)=False:=eq_false hd
  have QP:=qh (fun W (hW:GW W W g v c)=>hp (d-1) (by omega) (by omega) g v c W hW)
  have QO:=qh (fun W (hW:GW W W g v c)=>hq (d-1) (by omega) (by omega) g v c W hW)
  have QT:=qh (fun W (hW:GW W W g v c)=>qet hk hp (d-1) (by omega) (by omega) g v c W hW)
  have QJ:=qh (fun W (hW:GW W W g v c)=>qeB hk hp hq (d-1) (by omega) (by omega) g v c W hW)
  have QA:=qh (fun W (hW:GW W W g v c)=>qgh hk hp (d-1) (by omega) (by omega) g v c W hW)
  have hd2:d≤200000000:=(by have:=gB_le k;omega)
  clear hg hp hq
  generalize gB k=B at*
  go_enter Tryz.func52,Tryz.ntmps52
  go_wp2_with(first|(go_at_call 35;go_loud(refine(qbe _ (by decide) g v c _ H.out.start).mono ?_;rintro e W1 ⟨r,rfl,hr,h⟩;replace H:=qh (H.out.trans h);clear h))|(go_at_call 51;go_loud((with_reducible refine(qcc H.out _ _ _ ?_ ?_ ?_ ?_).mono ?_);(all_goals(try decide));rintro e W1 ⟨s,rfl,hs,h⟩;replace H:=qh h;clear h))|(go_at_call 36;go_loud(refine(QP.out _ H.out.start).mono ?_;rintro e W1 ⟨s,rfl,hs,h⟩;replace H:=qh (H.out.trans h);clear h))|(go_at_call 52;go_loud(refine(QO.out _ H.out.start).mono ?_;rintro e W1 ⟨s,rfl,hs,h⟩;replace H:=qh (H.out.trans h);clear h))|(go_at_call 53;go_loud(refine(QT.out _ H.out.start).mono ?_;rintro e W1 ⟨s,rfl,hs,h⟩;replace H:=qh (H.out.trans h);clear h))|(go_at_call 54;go_loud(refine(qdW g v c _ H.out.start).mono ?_;rintro e W1 ⟨s,rfl,hs,h⟩;replace H:=qh (H.out.trans h);clear h))|(go_at_call 55;go_loud(refine(qeI g v c _ H.out.start).mono ?_;rintro e W1 ⟨s,rfl,hs,h⟩;replace H:=qh (H.out.trans h);clear h))|(go_at_call 70;go_loud(refine(QJ.out _ H.out.start).mono ?_;rintro e W1 ⟨s,rfl,hs,h⟩;replace H:=qh (H.out.trans h);clear h))|(go_at_call 71;go_loud(refine(QA.out _ H.out.start).mono ?_;rintro e W1 ⟨s,rfl,hs,h⟩;replace H:=qh (H.out.trans h);clear h)))
  all_goals
   (go_ret;refine⟨_,rfl,?_,H.out⟩;(try simp only[ByteArray.size_append]);(try simp only[ByteArray.size,List.size_toArray,List.length_cons,List.length_nil] at*);omega)
theorem qfT{k:Nat}(hk:gB k≤1000000000)(d:Int)(g:Nat)(v:Value)(c:List UInt8)(w:World)(hg:GW w w g v c)(hd:d≤0∨∃K:Nat,c.length≤K∧w.heap[g]? =some (.cells #[v,.int .i64 (K:Int)] 66 (0,0))):Calls Tryz.prog 36 #[.pointer (some ⟨g,0,none⟩),.int .i64 d] w (SRet (gB k) w g v c):=by
 have hb:=gB_200 k
 have H:=qh hg
 obtain⟨K,hK,h0⟩:=hg.at'
 obtain⟨p,cap,b,o,rfl,-⟩:=hg.row
 have c0:w.cell? ⟨g,0,none⟩=some (.slice p c.length cap):=qa h0 rfl
 have c1:w.cell? ⟨g,1,none⟩=some (.int .i64 (K:Int)):=qa h0 rfl
 by_cases h1:d≤0
 ·have e1:decide (d≤0)=true:=decide_eq_true h1
  have e2:(d≤0)=True:=eq_true h1
  clear hg h0 hd
  generalize gB k=B at*
  go_enter Tryz.func36,Tryz.ntmps36
  go_upto_region 1 with(fail)
  go_quiet (fail)
  replace H:=qh (H.out.stays (below_drewN (Below.refl _ _) nq))
  generalize w.drewN nq=W0 at*
  clear c0 c1
  go_wp2_with(go_at_call 51;go_loud((with_reducible refine(qcc H.out _ _ _ ?_ ?_ ?_ ?_).mono ?_);(all_goals(try decide));rintro e W1 ⟨s,rfl,hs,h⟩;replace H:=qh h;clear h))
  (go_ret;refine⟨_,rfl,?_,H.out⟩;(try simp only[ByteArray.size_append]);(try simp only[ByteArray.size,List.size_toArray,List.length_cons,List.length_nil] at*);omega)
 ·have hk2:c.length≤K:=by
   rcases hd with hd|⟨K',hk',h0'⟩
   ·exact absurd hd h1
   ·rw[h0] at h0'
    have:(K:Int)=(K':Int):=by simpa using h0'
    omega
  have e1:decide (d≤0)=false:=decide_eq_false h1
  have e2:(d≤0)=False:=eq_false h1
  have e3:decide ((K:Int)≥(c.length:Int))=true:=decide_eq_true (by omega)
  have e4:((c.length:Int)≤(K:Int))=True:=eq_true (by omega)
  clear hg h0 hd
  generalize gB k=B at*
  go_enter Tryz.func36,Tryz.ntmps36
  go_upto_region 1 with(fail)
  go_quiet (fail)
  replace H:=qh (H.out.stays (below_drewN (Below.refl _ _) nq))
  generalize w.drewN nq=W0 at*
  clear c0 c1
  go_wp2_with(go_at_call 51;go_loud((with_reducible refine(qcc H.out _ _ _ ?_ ?_ ?_ ?_).mono ?_);(all_goals(try decide));rintro e W1 ⟨s,rfl,hs,h⟩;replace H:=qh h;clear h))
  (go_ret;refine⟨_,rfl,?_,H.out⟩;(try simp only[ByteArray.size_append]);(try simp only[ByteArray.size,List.size_toArray,List.length_cons,List.length_nil] at*);omega)
theorem qjQ{k:Nat}(hk:gB k≤100000000)(hp:qcF k)(hq:qdG k):qcF (k+1):=by
 intro d h0 h1 g v c w hg
 obtain⟨K,hK,hw⟩:=hg.at'
 by_cases hd:d≤0∨c.length≤K
 ·exact qfT (k:=k+1) (by simp only[gB];omega) d g v c w hg (hd.imp id fun h=>⟨K,h,hw⟩)
 ·obtain⟨d1,d2⟩:=not_or.1 hd
  simp only[gB]
  have H:=qh hg
  obtain⟨p,cap,b,o,rfl,-⟩:=hg.row
  have c0:w.cell? ⟨g,0,none⟩=some (.slice p c.length cap):=qa hw rfl
  have c1:w.cell? ⟨g,1,none⟩=some (.int .i64 (K:Int)):=qa hw rfl
  have e1:decide (d≤0)=false:=decide_eq_false d1
  have e2:(d≤0)=False:=eq_false d1
  have e3:decide ((K:Int)≥(c.length:Int))=false:=decide_eq_false (by omega)
  have e4:((c.length:Int)≤(K:Int))=False:=eq_false (by omega)
  generalize hv:Value.slice p c.length cap=v at*
  have QP:=qh (fun W (hW:GW W W g v c)=>hp (d-1) (by omega) (by omega) g v c W hW)
  have QO:=qh (fun W (hW:GW W W g v c)=>hq (d-1) (by omega) (by omega) g v c W hW)
  have QT:=qh (fun W (hW:GW W W g v c)=>qet hk hp (d-1) (by omega) (by omega) g v c W hW)
  have QJ:=qh (fun W (hW:GW W W g v c)=>qeB hk hp hq (d-1) (by omega) (by omega) g v c W hW)
  have QA:=qh (fun W (hW:GW W W g v c)=>qgh hk hp (d-1) (by omega) (by omega) g v c W hW)
  have hd2:d≤200000000:=(by have:=gB_le k;omega)
  subst hv
  clear hg hp hq hw hd
  generalize gB k=B at*
  go_enter Tryz.func36,Tryz.ntmps36
  go_upto_region 1 with(fail)
  go_quiet (fail)
  replace H:=qh (H.out.stays (below_drewN (Below.refl _ _) nq))
  generalize w.drewN nq=W0 at*
  clear c0 c1
  generalize Value.slice p c.length cap=v at*
  go_wp2_with(first|(go_at_call 35;go_loud(refine(qbe _ (by decide) g v c _ H.out.start).mono ?_;rintro e W1 ⟨r,rfl,hr,h⟩;replace H:=qh (H.out.trans h);clear h))|(go_at_call 51;go_loud((with_reducible refine(qcc H.out _ _ _ ?_ ?_ ?_ ?_).mono ?_);(all_goals(try decide));rintro e W1 ⟨s,rfl,hs,h⟩;replace H:=qh h;clear h))|(go_at_call 36;go_loud(refine(QP.out _ H.out.start).mono ?_;rintro e W1 ⟨s,rfl,hs,h⟩;replace H:=qh (H.out.trans h);clear h))|(go_at_call 52;go_loud(refine(QO.out _ H.out.start).mono ?_;rintro e W1 ⟨s,rfl,hs,h⟩;replace H:=qh (H.out.trans h);clear h))|(go_at_call 53;go_loud(refine(QT.out _ H.out.start).mono ?_;rintro e W1 ⟨s,rfl,hs,h⟩;replace H:=qh (H.out.trans h);clear h))|(go_at_call 54;go_loud(refine(qdW g v c _ H.out.start).mono ?_;rintro e W1 ⟨s,rfl,hs,h⟩;replace H:=qh (H.out.trans h);clear h))|(go_at_call 55;go_loud(refine(qeI g v c _ H.out.start).mono ?_;rintro e W1 ⟨s,rfl,hs,h⟩;replace H:=qh (H.out.trans h);clear h))|(go_at_call 70;go_loud(refine(QJ.out _ H.out.start).mono ?_;rintro e W1 ⟨s,rfl,hs,h⟩;replace H:=qh (H.out.trans h);clear h))|(go_at_call 71;go_loud(refine(QA.out _ H.out.start).mono ?_;rintro e W1 ⟨s,rfl,hs,h⟩;replace H:=qh (H.out.trans h);clear h)))
  all_goals
   (go_ret;refine⟨_,rfl,?_,H.out⟩;(try simp only[ByteArray.size_append]);(try simp only[ByteArray.size,List.size_toArray,List.length_cons,List.length_nil] at*);omega)
theorem qjx:∀k,gB k≤700000000→qcF k∧qdG k
 |0,_=>⟨fun d h0 h1 g v c w hg=>qfT (k:=0) (by decide) d g v c w hg (.inl (by omega)),fun d h0 h1 g v c w hg=>qkq d (by omega) g v c w hg⟩
 |k+1,h=>by
  simp only[gB] at h
  obtain⟨hp,hq⟩:=qjx k (by omega)
  exact⟨qjQ (by omega) hp hq,qkj (by omega) hp hq⟩
end Go.Proofs.YtakbenifinnpfaaGreatDoor
namespace Go.Proofs.YtakbenifinnpfaaGreatDoor
open Go.RowKit Go.Sub
theorem qhF{R:POps}{q:Option Addr}{c:Nat}{L:List PTok}{f:Nat}(ih:PAll R q c L (f+1))(hl:L.length≤1000000000)(p:PSt)(r:PRes)(hr:runP R L (f+1) (.operand p)=some r):qn q c L (.operand p) r:=by
 rw[runP] at hr
 have gi:=fun cm a (h:runP R L f cm=some a)=>ih f (Nat.lt_succ_self f) cm a h
 by_cases ho:opP L p ⟨#[45]⟩=true
 ·rw[if_pos ho] at hr
  obtain⟨p1,hp1,hr⟩:=Option.bind_eq_some_iff.1 hr
  obtain⟨a,ha,hr⟩:=Option.bind_eq_some_iff.1 hr
  cases hr
  exact qhh hl p p1 a ho hp1 (gi _ _ ha)
 ·rw[if_neg ho] at hr
  have ho':opP L p ⟨#[45]⟩=false:=by simpa using ho
  by_cases hd:qv L p ⟨#[100,101,102]⟩=true
  ·rw[if_pos hd] at hr
   exact qiX p r ho' hd (gi _ _ hr)
  ·rw[if_neg hd] at hr
   have hd':qv L p ⟨#[100,101,102]⟩=false:=by simpa using hd
   by_cases hlb:qv L p ⟨#[108,97,98,101,108]⟩=true
   ·rw[if_pos hlb] at hr
    obtain⟨p0,hp0,hr⟩:=Option.bind_eq_some_iff.1 hr
    obtain⟨⟨p2,s⟩,hp2,hr⟩:=Option.bind_eq_some_iff.1 hr
    obtain⟨p3,hp3,hr⟩:=Option.bind_eq_some_iff.1 hr
    obtain⟨a,ha,hr⟩:=Option.bind_eq_some_iff.1 hr
    cases hr
    exact qhy hl p p0 p2 p3 s a ho' hd' hlb hp0 hp2 hp3 (gi _ _ ha)
   ·rw[if_neg hlb] at hr
    have hlb':qv L p ⟨#[108,97,98,101,108]⟩=false:=by simpa using hlb
    by_cases hw:qv L p ⟨#[116,114,121]⟩=true
    ·rw[if_pos hw] at hr
     obtain⟨p0,hp0,hr⟩:=Option.bind_eq_some_iff.1 hr
     obtain⟨a,ha,hr⟩:=Option.bind_eq_some_iff.1 hr
     by_cases hc:qv L a.st ⟨#[99,97,116,99,104]⟩=true
     ·rw[if_pos hc] at hr
      obtain⟨p2,hp2,hr⟩:=Option.bind_eq_some_iff.1 hr
      obtain⟨b,hb,hr⟩:=Option.bind_eq_some_iff.1 hr
      cases hr
      exact qh3 hl p p0 p2 a b ho' hd' hlb' hw hp0 (gi _ _ ha) hc hp2 (gi _ _ hb)
     ·rw[if_neg hc] at hr
      cases hr
      exact qiC hl p p0 a ho' hd' hlb' hw hp0 (gi _ _ ha) (by simpa using hc)
    ·rw[if_neg hw] at hr
     have hw':qv L p ⟨#[116,114,121]⟩=false:=by simpa using hw
     obtain⟨a,ha,hr⟩:=Option.bind_eq_some_iff.1 hr
     by_cases hs:qv L a.st ⟨#[97,115]⟩=true
     ·rw[if_pos hs] at hr
      obtain⟨p1,hp1,hr⟩:=Option.bind_eq_some_iff.1 hr
      obtain⟨b,hb,hr⟩:=Option.bind_eq_some_iff.1 hr
      obtain⟨p2,hp2,hr⟩:=Option.bind_eq_some_iff.1 hr
      obtain⟨d,hdd,hr⟩:=Option.bind_eq_some_iff.1 hr
      cases hr
      exact qjH hl p p1 p2 a b d ⟨ho',hd',hlb',hw'⟩ (gi _ _ ha) hs hp1 (gi _ _ hb) hp2 (gi _ _ hdd)
     ·rw[if_neg hs] at hr
      have e:a=r:=Option.some.inj hr
      rw[←e]
      exact qhQ p a ⟨ho',hd',hlb',hw'⟩ (gi _ _ ha) (by simpa using hs)
end Go.Proofs.YtakbenifinnpfaaGreatDoor
namespace Go.Proofs.YtakbenifinnpfaaGreatDoor
open Go.RowKit Go.Sub
attribute [local go_sem] Instr.field asAgg
theorem qkR{R:POps}{q:Option Addr}{c:Nat}{L:List PTok}{f:Nat}(ih:PAll R q c L (f+1))(hl:L.length≤1000000000)(p:PSt)(r:PRes)(hr:runP R L (f+1) (.unit p)=some r):qn q c L (.unit p) r:=by
 intro w h
 have H0:=qh (qbr w q c L p)
 have QO:=qh (fun U hU=>qp q c L p ⟨#[45]⟩ U (h.below hU))
 rw[runP] at hr
 by_cases ho:opP L p ⟨#[45]⟩=true
 ·rw[if_pos ho] at hr
  rw[ho] at QO
  obtain⟨p1,hp1,hr⟩:=Option.bind_eq_some_iff.1 hr
  obtain⟨a,ha,hr⟩:=Option.bind_eq_some_iff.1 hr
  cases hr
  have QN:=qh (fun U (hU:Below w.heap.size w U)=>qq q c L p p1 U hl hp1)
  have QU:=qh (fun U hU=>ih f (Nat.lt_succ_self f) _ _ ha U (h.below hU))
  clear ho hp1 ha h ih
  obtain⟨at',bad⟩:=p
  obtain⟨at1,bad1⟩:=p1
  obtain⟨⟨at2,bad2⟩,n,l,b⟩:=a
  go_enter Tryz.func145,Tryz.ntmps145
  go_upto_region 3 with(first
   |(go_at_call 98;with_reducible refine(QO.out _ H0.out.low).mono ?_;rintro e wx ⟨rfl,hb⟩;have H1:=qh (H0.out.stays hb);(try clear x0 x1 x2 z0 z1 z2 f0 f1 f2 n0 n1 n2 g0 g1 g2);obtain⟨x0,x1,x2⟩:=(H1.out).inn.cells;obtain⟨z0,z1,z2⟩:=(H1.out).outP.cells;obtain⟨f0,f1,f2⟩:=(H1.out).outP.free;obtain⟨n0,n1,n2⟩:=(H1.out).outN.cells;obtain⟨g0,g1,g2⟩:=(H1.out).outN.free;clear hb)
   |(go_at_call 94;with_reducible refine(QN.out _ H1.out.low).mono ?_;rintro e wx ⟨rfl,hb⟩;have H2:=qh (H1.out.stays hb);(try clear x0 x1 x2 z0 z1 z2 f0 f1 f2 n0 n1 n2 g0 g1 g2);obtain⟨x0,x1,x2⟩:=(H2.out).inn.cells;obtain⟨z0,z1,z2⟩:=(H2.out).outP.cells;obtain⟨f0,f1,f2⟩:=(H2.out).outP.free;obtain⟨n0,n1,n2⟩:=(H2.out).outN.cells;obtain⟨g0,g1,g2⟩:=(H2.out).outN.free;clear hb)
   |(go_at_call 145;refine(QU.out _ H2.out.low).mono ?_;rintro e w1 ⟨u,rfl,hk,hb⟩;obtain⟨pu,cu,rfl,lu⟩:=hk.shape;have hz:=H2.out.size;have hz2:=hb.size;obtain⟨al,t4,t5⟩:=qaL w1 78 24 (.slice q L.length c) (.int .i64 (at2:Int)) (.bool bad2) (.int .i64 n.kind) (.string n.text) (.slice pu n.kids.length cu);have H3:=qh ((H2.out.stays hb).stays al);have HK:=qh ((hk.mono (S':=fun b=>w.heap.size+3≤b) (fun b e=>Nat.le_trans hz e)).stays al);have HT:=qh (And.intro t4 t5);obtain⟨a0,a1,a2⟩:=t4.cells;obtain⟨b0,b1,b2⟩:=t5.cells;(try clear x0 x1 x2 z0 z1 z2 f0 f1 f2 n0 n1 n2 g0 g1 g2);obtain⟨x0,x1,x2⟩:=(H3.out).inn.cells;obtain⟨z0,z1,z2⟩:=(H3.out).outP.cells;obtain⟨f0,f1,f2⟩:=(H3.out).outP.free;obtain⟨n0,n1,n2⟩:=(H3.out).outN.cells;obtain⟨g0,g1,g2⟩:=(H3.out).outN.free;have e1:(w1.heap.size=w.heap.size)=False:=eq_false (by omega);have e2:(w1.heap.size=w.heap.size+1)=False:=eq_false (by omega);have e3:(w1.heap.size=w.heap.size+1+1)=False:=eq_false (by omega);have e4:(w1.heap.size+1=w.heap.size)=False:=eq_false (by omega);have e5:(w.heap.size=w1.heap.size)=False:=eq_false (by omega);have e6:(w.heap.size+1=w1.heap.size)=False:=eq_false (by omega);have e7:(w.heap.size+1+1=w1.heap.size)=False:=eq_false (by omega);have e8:(w.heap.size=w1.heap.size+1)=False:=eq_false (by omega);clear al t4 t5 hz hz2 hb hk))
  generalize ((w1.alloc (.cells #[.slice q L.length c,.int .i64 (at2:Int),.bool bad2] 78)).alloc (.cells #[.int .i64 n.kind,.string n.text,.slice pu n.kids.length cu] 24))=W2 at*
  have al2:=(Below.refl W2.heap.size W2).alloc (Nat.le_refl _) (.cells #[.int .i64 n.kind,.string n.text,.slice pu n.kids.length cu] 24)
  have H4:=qh (H3.out.stays al2)
  have hs:=H3.out.size
  have hs4:=H4.out.size
  obtain⟨xx0,xx1,xx2⟩:=(H4.out).inn.cells;obtain⟨zz0,zz1,zz2⟩:=(H4.out).outP.cells;obtain⟨ff0,ff1,ff2⟩:=(H4.out).outP.free;obtain⟨nn0,nn1,nn2⟩:=(H4.out).outN.cells;obtain⟨gg0,gg1,gg2⟩:=(H4.out).outN.free
  obtain⟨aa0,aa1,aa2⟩:=(HT.out.1.stays al2).cells
  have hkl:=qbV (w:=W2) (S:=fun b=>w.heap.size+3≤b) n [] (.slice pu n.kids.length cu) [] rfl (by simp) (fun i y t hy ht=>by match i,hy,ht with|0,hy,ht=>(simp at hy ht;subst hy;subst ht;exact HK.out)|i+1,hy,ht=>simp at hy)
  have HKL:=qh (hkl.mono (S':=fun b=>w.heap.size+3≤b) (fun b e=>by omega))
  have k1:=qZ W2 (w.heap.size+1) (.slice q L.length c) (.int .i64 (at2:Int)) (.bool bad2);have oN:=(H3.out.outN.keeps k1 (by omega)).stays ((Below.refl _ _).alloc (Nat.le_refl _) (.cells #[.int .i64 n.kind,.string n.text,.slice pu n.kids.length cu] 24));obtain⟨p0,p1,p2⟩:=oN.cells;obtain⟨o0,o1,o2⟩:=oN.free;clear k1 oN
  clear al2 hkl
  go_region
  ·have hd:=H3.out.put1a (.cells #[.int .i64 n.kind,.string n.text,.slice pu n.kids.length cu] 24) (.slice q L.length c) (.int .i64 (at2:Int)) (.bool bad2) (.int .i64 25) (.string ⟨#[]⟩) (.slice (some ⟨W2.heap.size,0,none⟩) 1 1)
   generalize (((((((W2.setCell ⟨w.heap.size+1,0,none⟩ (.slice q L.length c)).setCell ⟨w.heap.size+1,1,none⟩ (.int .i64 (at2:Int))).setCell ⟨w.heap.size+1,2,none⟩ (.bool bad2)).alloc (.cells #[.int .i64 n.kind,.string n.text,.slice pu n.kids.length cu] 24)).setCell ⟨w.heap.size+1+1,0,none⟩ (.int .i64 25)).setCell ⟨w.heap.size+1+1,1,none⟩ (.string ⟨#[]⟩)).setCell ⟨w.heap.size+1+1,2,none⟩ (.slice (some ⟨W2.heap.size,0,none⟩) 1 1))=Wf at hd⊢
   obtain⟨r0,r1,r2⟩:=hd.outP.cells
   obtain⟨s0,s1,s2⟩:=hd.outN.cells
   have HF:=qh (fun hk=>(qa2.drew hd).told (r:=⟨(at2,bad2),.mk 25 ⟨#[]⟩ [n],[],false⟩) hk)
   clear hd
   go_wp2
   exact bodyPost_ret (v:=.tuple #[pV q c L (at2,bad2),.agg #[.int .i64 25,.string ⟨#[]⟩,(.slice (some ⟨W2.heap.size,0,none⟩) 1 1)]]) (by simp[results,Tryz.results145,go_sem,r0,r1,r2,s0,s1,s2]) rfl (HF.out HKL.out)
  ·have hd:=H4.out.put1 (.slice q L.length c) (.int .i64 (at2:Int)) (.bool bad2) (.int .i64 25) (.string ⟨#[]⟩) (.slice (some ⟨W2.heap.size,0,none⟩) 1 1)
   generalize (((((((W2.alloc (.cells #[.int .i64 n.kind,.string n.text,.slice pu n.kids.length cu] 24)).setCell ⟨w.heap.size+1,0,none⟩ (.slice q L.length c)).setCell ⟨w.heap.size+1,1,none⟩ (.int .i64 (at2:Int))).setCell ⟨w.heap.size+1,2,none⟩ (.bool bad2)).setCell ⟨w.heap.size+1+1,0,none⟩ (.int .i64 25)).setCell ⟨w.heap.size+1+1,1,none⟩ (.string ⟨#[]⟩)).setCell ⟨w.heap.size+1+1,2,none⟩ (.slice (some ⟨W2.heap.size,0,none⟩) 1 1))=Wf at hd⊢
   obtain⟨r0,r1,r2⟩:=hd.outP.cells
   obtain⟨s0,s1,s2⟩:=hd.outN.cells
   have HF:=qh (fun hk=>(qa2.drew hd).told (r:=⟨(at2,bad2),.mk 25 ⟨#[]⟩ [n],[],false⟩) hk)
   clear hd
   go_wp2
   exact bodyPost_ret (v:=.tuple #[pV q c L (at2,bad2),.agg #[.int .i64 25,.string ⟨#[]⟩,(.slice (some ⟨W2.heap.size,0,none⟩) 1 1)]]) (by simp[results,Tryz.results145,go_sem,r0,r1,r2,s0,s1,s2]) rfl (HF.out HKL.out)
 ·rw[if_neg ho] at hr
  have ho':opP L p ⟨#[45]⟩=false:=by simpa using ho
  rw[ho'] at QO
  have QU:=qh (fun U hU=>ih f (Nat.lt_succ_self f) _ _ hr U (h.below hU))
  clear ho ho' hr h ih
  obtain⟨at',bad⟩:=p
  obtain⟨⟨at2,bad2⟩,n,l,b⟩:=r
  go_enter Tryz.func145,Tryz.ntmps145
  go_upto_region 5 with(first
   |(go_at_call 98;with_reducible refine(QO.out _ H0.out.low).mono ?_;rintro e wx ⟨rfl,hb⟩;have H1:=qh (H0.out.stays hb);(try clear x0 x1 x2 z0 z1 z2 f0 f1 f2 n0 n1 n2 g0 g1 g2);obtain⟨x0,x1,x2⟩:=(H1.out).inn.cells;obtain⟨z0,z1,z2⟩:=(H1.out).outP.cells;obtain⟨f0,f1,f2⟩:=(H1.out).outP.free;obtain⟨n0,n1,n2⟩:=(H1.out).outN.cells;obtain⟨g0,g1,g2⟩:=(H1.out).outN.free;clear hb)
   |(go_at_call 128;refine(QU.out _ H1.out.low).mono ?_;rintro e w1 ⟨u,rfl,hk,hb⟩;obtain⟨pu,cu,rfl,lu⟩:=hk.shape;have hz:=H1.out.size;have hz2:=hb.size;obtain⟨al,t4,t5⟩:=qaL w1 78 24 (.slice q L.length c) (.int .i64 (at2:Int)) (.bool bad2) (.int .i64 n.kind) (.string n.text) (.slice pu n.kids.length cu);have H3:=qh ((H1.out.stays hb).stays al);have HK:=qh ((hk.mono (S':=fun b=>w.heap.size+3≤b) (fun b e=>Nat.le_trans hz e)).stays al);have HT:=qh (And.intro t4 t5);obtain⟨a0,a1,a2⟩:=t4.cells;obtain⟨b0,b1,b2⟩:=t5.cells;(try clear x0 x1 x2 z0 z1 z2 f0 f1 f2 n0 n1 n2 g0 g1 g2);obtain⟨x0,x1,x2⟩:=(H3.out).inn.cells;obtain⟨z0,z1,z2⟩:=(H3.out).outP.cells;obtain⟨f0,f1,f2⟩:=(H3.out).outP.free;obtain⟨n0,n1,n2⟩:=(H3.out).outN.cells;obtain⟨g0,g1,g2⟩:=(H3.out).outN.free;have e1:(w1.heap.size=w.heap.size)=False:=eq_false (by omega);have e2:(w1.heap.size=w.heap.size+1)=False:=eq_false (by omega);have e3:(w1.heap.size=w.heap.size+1+1)=False:=eq_false (by omega);have e4:(w1.heap.size+1=w.heap.size)=False:=eq_false (by omega);have e5:(w.heap.size=w1.heap.size)=False:=eq_false (by omega);have e6:(w.heap.size+1=w1.heap.size)=False:=eq_false (by omega);have e7:(w.heap.size+1+1=w1.heap.size)=False:=eq_false (by omega);have e8:(w.heap.size=w1.heap.size+1)=False:=eq_false (by omega);clear al t4 t5 hz hz2 hb hk))
  generalize ((w1.alloc (.cells #[.slice q L.length c,.int .i64 (at2:Int),.bool bad2] 78)).alloc (.cells #[.int .i64 n.kind,.string n.text,.slice pu n.kids.length cu] 24))=W2 at*
  go_region
  have hd:=H3.out.put1 (.slice q L.length c) (.int .i64 (at2:Int)) (.bool bad2) (.int .i64 n.kind) (.string n.text) (.slice pu n.kids.length cu)
  generalize ((((((W2.setCell ⟨w.heap.size+1,0,none⟩ (.slice q L.length c)).setCell ⟨w.heap.size+1,1,none⟩ (.int .i64 (at2:Int))).setCell ⟨w.heap.size+1,2,none⟩ (.bool bad2)).setCell ⟨w.heap.size+1+1,0,none⟩ (.int .i64 n.kind)).setCell ⟨w.heap.size+1+1,1,none⟩ (.string n.text)).setCell ⟨w.heap.size+1+1,2,none⟩ (.slice pu n.kids.length cu))=Wf at hd⊢
  obtain⟨r0,r1,r2⟩:=hd.outP.cells
  obtain⟨s0,s1,s2⟩:=hd.outN.cells
  have HF:=qh (fun hk=>(qa2.drew hd).told (r:=⟨(at2,bad2),n,l,b⟩) hk)
  clear hd
  go_wp2
  exact bodyPost_ret (v:=.tuple #[pV q c L (at2,bad2),.agg #[.int .i64 n.kind,.string n.text,(.slice pu n.kids.length cu)]]) (by simp[results,Tryz.results145,go_sem,r0,r1,r2,s0,s1,s2]) rfl (HF.out HK.out)
theorem qlF{q:Option Addr}{c:Nat}{L:List PTok}(p:PSt)(a:PRes)(ha:qn q c L (.unit p) a)(ho:opP L a.st ⟨#[124]⟩=false):qn q c L (.value p) a:=by
 intro w h
 have H0:=qh (qbr w q c L p)
 have QU:=qh (fun U hU=>ha U (h.below hU))
 have QO:=qh (fun U hU=>qp q c L a.st ⟨#[124]⟩ U (h.below hU))
 rw[ho] at QO
 clear ho ha h
 obtain⟨at',bad⟩:=p
 obtain⟨⟨at2,bad2⟩,n,l,b⟩:=a
 go_enter Tryz.func144,Tryz.ntmps144
 go_upto_region 2 with(go_at_call 145;refine(QU.out _ H0.out.low).mono ?_;rintro e w1 ⟨u,rfl,hk,hb⟩;obtain⟨pu,cu,rfl,lu⟩:=hk.shape;have H1:=qh (H0.out.stays hb);(try clear x0 x1 x2 z0 z1 z2 f0 f1 f2 n0 n1 n2 g0 g1 g2);obtain⟨x0,x1,x2⟩:=(H1.out).inn.cells;obtain⟨z0,z1,z2⟩:=(H1.out).outP.cells;obtain⟨f0,f1,f2⟩:=(H1.out).outP.free;obtain⟨n0,n1,n2⟩:=(H1.out).outN.cells;obtain⟨g0,g1,g2⟩:=(H1.out).outN.free;have hz:=H0.out.size;have hz2:=hb.size;have al:=(Below.refl w1.heap.size w1).alloc (Nat.le_refl _) (.cells #[.int .i64 0,.string ⟨#[]⟩,.slice none 0 0] 24);have H2:=qh (H1.out.stays al);obtain⟨y0,y1,y2⟩:=H2.out.inn.cells;obtain⟨v0,v1,v2⟩:=H2.out.inn.free;have e1:(w1.heap.size=w.heap.size)=False:=eq_false (by omega);have e2:(w1.heap.size=w.heap.size+1)=False:=eq_false (by omega);have e3:(w1.heap.size=w.heap.size+1+1)=False:=eq_false (by omega);have e4:(w1.heap.size+1=w.heap.size)=False:=eq_false (by omega);have e5:(w.heap.size=w1.heap.size)=False:=eq_false (by omega);have e6:(w.heap.size+1=w1.heap.size)=False:=eq_false (by omega);have e7:(w.heap.size+1+1=w1.heap.size)=False:=eq_false (by omega);have e8:(w.heap.size=w1.heap.size+1)=False:=eq_false (by omega);have HK:=qh (hk.mono (S':=fun b=>w.heap.size+3≤b) (fun b e=>Nat.le_trans hz e));clear hb al hk)
 clear x0 x1 x2 z0 z1 z2 f0 f1 f2 n0 n1 n2 g0 g1 g2 y0 y1 y2 v0 v1 v2 H2
 obtain⟨io,tn,kk⟩:=qf6 H1.out (at2,bad2) n.kind n.text (.slice pu n.kids.length cu)
 have hk2:=HK.out.keeps kk (fun b hb e=>by omega)
 have H2:=qh io
 have K2:=qh hk2
 have T2:=qh tn
 clear io tn kk hk2
 generalize (((((((w1.alloc (.cells #[.int .i64 0,.string ⟨#[]⟩,.slice none 0 0] 24)).setCell ⟨w.heap.size,0,none⟩ (.slice q L.length c)).setCell ⟨w.heap.size,1,none⟩ (.int .i64 (at2:Int))).setCell ⟨w.heap.size,2,none⟩ (.bool bad2)).setCell ⟨w1.heap.size,0,none⟩ (.int .i64 n.kind)).setCell ⟨w1.heap.size,1,none⟩ (.string n.text)).setCell ⟨w1.heap.size,2,none⟩ (.slice pu n.kids.length cu))=W2 at*
 (try clear x0 x1 x2 z0 z1 z2 f0 f1 f2 n0 n1 n2 g0 g1 g2);obtain⟨x0,x1,x2⟩:=(H2.out).inn.cells;obtain⟨z0,z1,z2⟩:=(H2.out).outP.cells;obtain⟨f0,f1,f2⟩:=(H2.out).outP.free;obtain⟨n0,n1,n2⟩:=(H2.out).outN.cells;obtain⟨g0,g1,g2⟩:=(H2.out).outN.free
 obtain⟨b0,b1,b2⟩:=T2.out.cells
 go_upto_region 3 with(go_at_call 98;with_reducible refine(QO.out _ H2.out.low).mono ?_;rintro e wx ⟨rfl,hb⟩;have H3:=qh (H2.out.stays hb);have K3:=qh (K2.out.stays hb);obtain⟨b0,b1,b2⟩:=(T2.out.stays hb).cells;(try clear x0 x1 x2 z0 z1 z2 f0 f1 f2 n0 n1 n2 g0 g1 g2);obtain⟨x0,x1,x2⟩:=(H3.out).inn.cells;obtain⟨z0,z1,z2⟩:=(H3.out).outP.cells;obtain⟨f0,f1,f2⟩:=(H3.out).outP.free;obtain⟨n0,n1,n2⟩:=(H3.out).outN.cells;obtain⟨g0,g1,g2⟩:=(H3.out).outN.free;clear hb)
 go_region
 have hd:=H3.out.put1 (.slice q L.length c) (.int .i64 (at2:Int)) (.bool bad2) (.int .i64 n.kind) (.string n.text) (.slice pu n.kids.length cu)
 generalize ((((((wx.setCell ⟨w.heap.size+1,0,none⟩ (.slice q L.length c)).setCell ⟨w.heap.size+1,1,none⟩ (.int .i64 (at2:Int))).setCell ⟨w.heap.size+1,2,none⟩ (.bool bad2)).setCell ⟨w.heap.size+1+1,0,none⟩ (.int .i64 n.kind)).setCell ⟨w.heap.size+1+1,1,none⟩ (.string n.text)).setCell ⟨w.heap.size+1+1,2,none⟩ (.slice pu n.kids.length cu))=Wf at hd⊢
 obtain⟨r0,r1,r2⟩:=hd.outP.cells
 obtain⟨s0,s1,s2⟩:=hd.outN.cells
 have HF:=qh (fun hk=>(qa2.drew hd).told (r:=⟨(at2,bad2),n,l,b⟩) hk)
 clear hd
 go_wp2
 exact bodyPost_ret (v:=.tuple #[pV q c L (at2,bad2),.agg #[.int .i64 n.kind,.string n.text,(.slice pu n.kids.length cu)]]) (by simp[results,Tryz.results144,go_sem,r0,r1,r2,s0,s1,s2]) rfl (HF.out K3.out)
theorem qlu{q:Option Addr}{c:Nat}{L:List PTok}(hl:L.length≤1000000000)(p p1:PSt)(a b':PRes)(ha:qn q c L (.unit p) a)(ho:opP L a.st ⟨#[124]⟩=true)(h1:qs L a.st=some p1)(hb:qn q c L (.value p1) b'):qn q c L (.value p) ⟨b'.st,.mk 24 ⟨#[124]⟩ [a.n,b'.n],[],false⟩:=by
 intro w h
 have H0:=qh (qbr w q c L p)
 have QU:=qh (fun U hU=>ha U (h.below hU))
 have QO:=qh (fun U hU=>qp q c L a.st ⟨#[124]⟩ U (h.below hU))
 rw[ho] at QO
 have QN:=qh (fun U (hU:Below w.heap.size w U)=>qq q c L a.st p1 U hl h1)
 have QB:=qh (fun U hU=>hb U (h.below hU))
 clear ho ha h h1 hb
 obtain⟨at',bad⟩:=p
 obtain⟨at1,bad1⟩:=p1
 obtain⟨⟨at2,bad2⟩,n,l,b⟩:=a
 obtain⟨⟨atb,badb⟩,nb,lb,bb⟩:=b'
 go_enter Tryz.func144,Tryz.ntmps144
 go_upto_region 2 with(go_at_call 145;refine(QU.out _ H0.out.low).mono ?_;rintro e w1 ⟨u,rfl,hk,hb⟩;obtain⟨pu,cu,rfl,lu⟩:=hk.shape;have H1:=qh (H0.out.stays hb);(try clear x0 x1 x2 z0 z1 z2 f0 f1 f2 n0 n1 n2 g0 g1 g2);obtain⟨x0,x1,x2⟩:=(H1.out).inn.cells;obtain⟨z0,z1,z2⟩:=(H1.out).outP.cells;obtain⟨f0,f1,f2⟩:=(H1.out).outP.free;obtain⟨n0,n1,n2⟩:=(H1.out).outN.cells;obtain⟨g0,g1,g2⟩:=(H1.out).outN.free;have hz:=H0.out.size;have hz2:=hb.size;have al:=(Below.refl w1.heap.size w1).alloc (Nat.le_refl _) (.cells #[.int .i64 0,.string ⟨#[]⟩,.slice none 0 0] 24);have H2:=qh (H1.out.stays al);obtain⟨y0,y1,y2⟩:=H2.out.inn.cells;obtain⟨v0,v1,v2⟩:=H2.out.inn.free;have e1:(w1.heap.size=w.heap.size)=False:=eq_false (by omega);have e2:(w1.heap.size=w.heap.size+1)=False:=eq_false (by omega);have e3:(w1.heap.size=w.heap.size+1+1)=False:=eq_false (by omega);have e4:(w1.heap.size+1=w.heap.size)=False:=eq_false (by omega);have e5:(w.heap.size=w1.heap.size)=False:=eq_false (by omega);have e6:(w.heap.size+1=w1.heap.size)=False:=eq_false (by omega);have e7:(w.heap.size+1+1=w1.heap.size)=False:=eq_false (by omega);have e8:(w.heap.size=w1.heap.size+1)=False:=eq_false (by omega);have HK:=qh (hk.mono (S':=fun b=>w.heap.size+3≤b) (fun b e=>Nat.le_trans hz e));clear hb al hk)
 clear x0 x1 x2 z0 z1 z2 f0 f1 f2 n0 n1 n2 g0 g1 g2 y0 y1 y2 v0 v1 v2 H2
 obtain⟨io,tn,kk⟩:=qf6 H1.out (at2,bad2) n.kind n.text (.slice pu n.kids.length cu)
 have hk2:=HK.out.keeps kk (fun b hb e=>by omega)
 have H2:=qh io
 have K2:=qh hk2
 have T2:=qh tn
 clear io tn kk hk2
 generalize (((((((w1.alloc (.cells #[.int .i64 0,.string ⟨#[]⟩,.slice none 0 0] 24)).setCell ⟨w.heap.size,0,none⟩ (.slice q L.length c)).setCell ⟨w.heap.size,1,none⟩ (.int .i64 (at2:Int))).setCell ⟨w.heap.size,2,none⟩ (.bool bad2)).setCell ⟨w1.heap.size,0,none⟩ (.int .i64 n.kind)).setCell ⟨w1.heap.size,1,none⟩ (.string n.text)).setCell ⟨w1.heap.size,2,none⟩ (.slice pu n.kids.length cu))=W2 at*
 (try clear x0 x1 x2 z0 z1 z2 f0 f1 f2 n0 n1 n2 g0 g1 g2);obtain⟨x0,x1,x2⟩:=(H2.out).inn.cells;obtain⟨z0,z1,z2⟩:=(H2.out).outP.cells;obtain⟨f0,f1,f2⟩:=(H2.out).outP.free;obtain⟨n0,n1,n2⟩:=(H2.out).outN.cells;obtain⟨g0,g1,g2⟩:=(H2.out).outN.free
 obtain⟨b0,b1,b2⟩:=T2.out.cells
 go_upto_region 5 with(first
  |(go_at_call 98;with_reducible refine(QO.out _ H2.out.low).mono ?_;rintro e wx ⟨rfl,hb⟩;have H3:=qh (H2.out.stays hb);have K3:=qh (K2.out.stays hb);have T3:=qh (T2.out.stays hb);(try clear x0 x1 x2 z0 z1 z2 f0 f1 f2 n0 n1 n2 g0 g1 g2);obtain⟨x0,x1,x2⟩:=(H3.out).inn.cells;obtain⟨z0,z1,z2⟩:=(H3.out).outP.cells;obtain⟨f0,f1,f2⟩:=(H3.out).outP.free;obtain⟨n0,n1,n2⟩:=(H3.out).outN.cells;obtain⟨g0,g1,g2⟩:=(H3.out).outN.free;clear hb)
  |(go_at_call 94;with_reducible refine(QN.out _ H3.out.low).mono ?_;rintro e wx ⟨rfl,hb⟩;have H4:=qh (H3.out.stays hb);have K4:=qh (K3.out.stays hb);have T4:=qh (T3.out.stays hb);(try clear x0 x1 x2 z0 z1 z2 f0 f1 f2 n0 n1 n2 g0 g1 g2);obtain⟨x0,x1,x2⟩:=(H4.out).inn.cells;obtain⟨z0,z1,z2⟩:=(H4.out).outP.cells;obtain⟨f0,f1,f2⟩:=(H4.out).outP.free;obtain⟨n0,n1,n2⟩:=(H4.out).outN.cells;obtain⟨g0,g1,g2⟩:=(H4.out).outN.free;clear hb)
  |(go_at_call 144;refine(QB.out _ H4.out.low).mono ?_;rintro e w3 ⟨u,rfl,hk,hb⟩;obtain⟨pu_2,cu_2,rfl,lu⟩:=hk.shape;have hz:=H4.out.size;have hz2:=hb.size;obtain⟨al,t4,t5⟩:=qaL w3 78 24 (.slice q L.length c) (.int .i64 (atb:Int)) (.bool badb) (.int .i64 nb.kind) (.string nb.text) (.slice pu_2 nb.kids.length cu_2);have hbt:=hb.trans (al.mono hb.size);have H5:=qh (H4.out.stays hbt);have KB:=qh ((hk.mono (S':=fun b=>w.heap.size+3≤b) (fun b e=>Nat.le_trans hz e)).stays al);have TB:=qh (And.intro t4 t5);obtain⟨⟨ca0_2,ca1_2,ca2_2⟩,⟨cb0_2,cb1_2,cb2_2⟩⟩:=And.intro (TB.out.1.cells) (TB.out.2.cells);(try clear x0 x1 x2 z0 z1 z2 f0 f1 f2 n0 n1 n2 g0 g1 g2);obtain⟨x0,x1,x2⟩:=(H5.out).inn.cells;obtain⟨z0,z1,z2⟩:=(H5.out).outP.cells;obtain⟨f0,f1,f2⟩:=(H5.out).outP.free;obtain⟨n0,n1,n2⟩:=(H5.out).outN.cells;obtain⟨g0,g1,g2⟩:=(H5.out).outN.free;have e1:(w3.heap.size=w.heap.size)=False:=eq_false (by omega);have e2:(w3.heap.size=w.heap.size+1)=False:=eq_false (by omega);have e3:(w3.heap.size=w.heap.size+1+1)=False:=eq_false (by omega);have e4:(w3.heap.size+1=w.heap.size)=False:=eq_false (by omega);have e5:(w.heap.size=w3.heap.size)=False:=eq_false (by omega);have e6:(w.heap.size+1=w3.heap.size)=False:=eq_false (by omega);have e7:(w.heap.size+1+1=w3.heap.size)=False:=eq_false (by omega);have e8:(w.heap.size=w3.heap.size+1)=False:=eq_false (by omega);(have K5:=qh (K4.out.stays hbt);have T5:=qh (T4.out.stays hbt);obtain⟨b0,b1,b2⟩:=T5.out.cells);clear al t4 t5 hz hz2 hb hbt hk))
 generalize ((w3.alloc (.cells #[.slice q L.length c,.int .i64 (atb:Int),.bool badb] 78)).alloc (.cells #[.int .i64 nb.kind,.string nb.text,.slice pu_2 nb.kids.length cu_2] 24))=W3 at*
 have al2:=(Below.refl W3.heap.size W3).alloc (Nat.le_refl _) (.cells #[.int .i64 n.kind,.string n.text,.slice pu n.kids.length cu,.int .i64 nb.kind,.string nb.text,.slice pu_2 nb.kids.length cu_2] 24);have H6:=qh (H5.out.stays al2);have hs:=H5.out.size;have hs4:=H6.out.size;obtain⟨xx0,xx1,xx2⟩:=(H6.out).inn.cells;obtain⟨zz0,zz1,zz2⟩:=(H6.out).outP.cells;obtain⟨ff0,ff1,ff2⟩:=(H6.out).outP.free;obtain⟨nn0,nn1,nn2⟩:=(H6.out).outN.cells;obtain⟨gg0,gg1,gg2⟩:=(H6.out).outN.free;obtain⟨aa0,aa1,aa2⟩:=(TB.out.1.stays al2).cells;have k1:=qZ W3 (w.heap.size+1) (.slice q L.length c) (.int .i64 (atb:Int)) (.bool badb);have oN:=(H5.out.outN.keeps k1 (by omega)).stays ((Below.refl _ _).alloc (Nat.le_refl _) (.cells #[.int .i64 n.kind,.string n.text,.slice pu n.kids.length cu,.int .i64 nb.kind,.string nb.text,.slice pu_2 nb.kids.length cu_2] 24));obtain⟨p0,p1,p2⟩:=oN.cells;obtain⟨o0,o1,o2⟩:=oN.free;clear k1 oN;clear al2
 have hkl:=qbV (w:=W3) (S:=fun b=>w.heap.size+3≤b) n [nb] (.slice pu n.kids.length cu) [(.slice pu_2 nb.kids.length cu_2)] rfl (by simp) (fun i y t hy ht=>by match i,hy,ht with|0,hy,ht=>(simp at hy ht;subst hy;subst ht;exact K5.out)|1,hy,ht=>(simp at hy ht;subst hy;subst ht;exact KB.out)|i+2,hy,ht=>simp at hy);have HKL:=qh (hkl.mono (S':=fun b=>w.heap.size+3≤b) (fun b e=>by omega));clear hkl
 go_region
 ·have hd:=H5.out.put1a (.cells #[.int .i64 n.kind,.string n.text,.slice pu n.kids.length cu,.int .i64 nb.kind,.string nb.text,.slice pu_2 nb.kids.length cu_2] 24) (.slice q L.length c) (.int .i64 (atb:Int)) (.bool badb) (.int .i64 24) (.string ⟨#[124]⟩) (.slice (some ⟨W3.heap.size,0,none⟩) 2 2)
  generalize (((((((W3.setCell ⟨w.heap.size+1,0,none⟩ (.slice q L.length c)).setCell ⟨w.heap.size+1,1,none⟩ (.int .i64 (atb:Int))).setCell ⟨w.heap.size+1,2,none⟩ (.bool badb)).alloc (.cells #[.int .i64 n.kind,.string n.text,.slice pu n.kids.length cu,.int .i64 nb.kind,.string nb.text,.slice pu_2 nb.kids.length cu_2] 24)).setCell ⟨w.heap.size+1+1,0,none⟩ (.int .i64 24)).setCell ⟨w.heap.size+1+1,1,none⟩ (.string ⟨#[124]⟩)).setCell ⟨w.heap.size+1+1,2,none⟩ (.slice (some ⟨W3.heap.size,0,none⟩) 2 2))=Wf at hd⊢
  obtain⟨r0,r1,r2⟩:=hd.outP.cells
  obtain⟨s0,s1,s2⟩:=hd.outN.cells
  have HF:=qh (fun hk=>(qa2.drew hd).told (r:=⟨(atb,badb),.mk 24 ⟨#[124]⟩ [n,nb],[],false⟩) hk)
  clear hd
  go_wp2
  exact bodyPost_ret (v:=.tuple #[pV q c L (atb,badb),.agg #[.int .i64 24,.string ⟨#[124]⟩,(.slice (some ⟨W3.heap.size,0,none⟩) 2 2)]]) (by simp[results,Tryz.results144,go_sem,r0,r1,r2,s0,s1,s2]) rfl (HF.out HKL.out)
 ·have hd:=H6.out.put1 (.slice q L.length c) (.int .i64 (atb:Int)) (.bool badb) (.int .i64 24) (.string ⟨#[124]⟩) (.slice (some ⟨W3.heap.size,0,none⟩) 2 2)
  generalize (((((((W3.alloc (.cells #[.int .i64 n.kind,.string n.text,.slice pu n.kids.length cu,.int .i64 nb.kind,.string nb.text,.slice pu_2 nb.kids.length cu_2] 24)).setCell ⟨w.heap.size+1,0,none⟩ (.slice q L.length c)).setCell ⟨w.heap.size+1,1,none⟩ (.int .i64 (atb:Int))).setCell ⟨w.heap.size+1,2,none⟩ (.bool badb)).setCell ⟨w.heap.size+1+1,0,none⟩ (.int .i64 24)).setCell ⟨w.heap.size+1+1,1,none⟩ (.string ⟨#[124]⟩)).setCell ⟨w.heap.size+1+1,2,none⟩ (.slice (some ⟨W3.heap.size,0,none⟩) 2 2))=Wf at hd⊢
  obtain⟨r0,r1,r2⟩:=hd.outP.cells
  obtain⟨s0,s1,s2⟩:=hd.outN.cells
  have HF:=qh (fun hk=>(qa2.drew hd).told (r:=⟨(atb,badb),.mk 24 ⟨#[124]⟩ [n,nb],[],false⟩) hk)
  clear hd
  go_wp2
  exact bodyPost_ret (v:=.tuple #[pV q c L (atb,badb),.agg #[.int .i64 24,.string ⟨#[124]⟩,(.slice (some ⟨W3.heap.size,0,none⟩) 2 2)]]) (by simp[results,Tryz.results144,go_sem,r0,r1,r2,s0,s1,s2]) rfl (HF.out HKL.out)
theorem qk3{R:POps}{q:Option Addr}{c:Nat}{L:List PTok}{f:Nat}(ih:PAll R q c L (f+1))(hl:L.length≤1000000000)(p:PSt)(r:PRes)(hr:runP R L (f+1) (.value p)=some r):qn q c L (.value p) r:=by
 rw[runP] at hr
 obtain⟨a,ha,hr⟩:=Option.bind_eq_some_iff.1 hr
 have ga:=ih f (Nat.lt_succ_self f) _ _ ha
 by_cases ho:opP L a.st ⟨#[124]⟩=true
 ·rw[if_pos ho] at hr
  obtain⟨p1,h1,hr⟩:=Option.bind_eq_some_iff.1 hr
  obtain⟨b,hb,hr⟩:=Option.bind_eq_some_iff.1 hr
  cases hr
  exact qlu hl p p1 a b ga ho h1 (ih f (Nat.lt_succ_self f) _ _ hb)
 ·rw[if_neg ho] at hr
  have e:a=r:=Option.some.inj hr
  rw[←e]
  exact qlF p a ga (by simpa using ho)
theorem qlT{q:Option Addr}{c:Nat}{L:List PTok}(p:PSt)(a:PRes)(ha:qn q c L (.key p false) a)(hb:a.b=false)(ho:opP L a.st ⟨#[58]⟩=false):qn q c L (.pair p) ⟨a.st,.mk 11 ⟨#[]⟩ [a.n],[],false⟩:=by
 intro w h
 have H0:=qh (qD w q c L p)
 have QK:Hid (∀U,Below w.heap.size w U→Calls Tryz.prog 140 #[pV q c L p,.bool false] U (qdg q c L U a)):=qh (fun U hU=>ha U (h.below hU))
 have QO:=qh (fun U hU=>qp q c L a.st ⟨#[58]⟩ U (h.below hU))
 rw[ho] at QO
 clear ho ha h
 obtain⟨at',bad⟩:=p
 obtain⟨⟨ata,bada⟩,n,l,b⟩:=a
 dsimp only at hb
 subst hb
 go_enter Tryz.func141,Tryz.ntmps141
 go_upto_region 2 with(go_at_call 140;with_reducible refine fk QK H0 ?_;clear QK H0;intro w1 pu_1 cu_1 hj;have e_a:=(hj).ff3;have H1:=hj.layM (q:=q) (c:=c) (L:=L) ata bada n (.slice pu_1 n.kids.length cu_1);(try simp only[nn] at H1);replace c_a:=(H1.out).ccCCCCC;clear hj)
 obtain⟨W2,hW,H2⟩:=fr_w H1;rewrite[←hW];(try simp only[nn] at H2);clear hW H1
 replace c_a:=(H2.out).ccCCCCC;have e_a:=(H2.out).ff5
 have H3:=qh ((H2.out.lit1 n (u:=.slice pu_1 n.kids.length cu_1) (by simp)).layA [.int .i64 11,.string ⟨#[]⟩,.slice (some ⟨W2.heap.size,0,none⟩) 1 1] 24)
 replace k_a:=(H3.out).ccCCCCCC
 go_upto_region 4 with(go_at_call 98;with_reducible refine fx QO H3 ?_;clear QO H3;intro w4 H4;replace c_a:=(H4.out).ccCCCCCC)
 go_region
 all_goals
  obtain⟨Wf,hA,hB,hf⟩:=sets H4 1 2 q c L ata bada 11 ⟨#[]⟩ (.slice (some ⟨W2.heap.size,0,none⟩) 1 1) rfl rfl
  first|rewrite[←hA]|rewrite[←hB]
  (try simp only[nn] at hf);clear hA hB
  have hf:=hf.nilN
  have r0:=And.intro (hf.c3 1 rfl).1 (hf.c3 2 rfl).1
  have HF:=qh (And.intro (hf.told q c L ⟨(ata,bada),.mk 11 ⟨#[]⟩ [n],[],false⟩ (.slice (some ⟨W2.heap.size,0,none⟩) 1 1) (by simp[qb.kids])) (hf.drew.told q c L ⟨(ata,bada),.mk 11 ⟨#[]⟩ [n],[],false⟩ (.slice (some ⟨W2.heap.size,0,none⟩) 1 1) (by simp[qb.kids])))
  clear hf
  (try go_wp2)
  refine bodyPost_ret (v:=(.tuple #[pV q c L (ata,bada),.agg #[.int .i64 11,.string ⟨#[]⟩,.slice (some ⟨W2.heap.size,0,none⟩) 1 1]])) (by simp[results,Tryz.results141,go_sem,r0]) rfl ?_
  first|exact HF.out.1|exact HF.out.2
theorem qhz{q:Option Addr}{c:Nat}{L:List PTok}(p p1:PSt)(a b':PRes)(ha:qn q c L (.key p false) a)(hb:a.b=false)(ho:opP L a.st ⟨#[58]⟩=true)(h1:q7 L a.st ⟨#[58]⟩=some p1)(hv:qn q c L (.value p1) b'):qn q c L (.pair p) ⟨b'.st,.mk 11 ⟨#[]⟩ [a.n,b'.n],[],false⟩:=by
 intro w h
 have H0:=qh (qD w q c L p)
 have QK:Hid (∀U,Below w.heap.size w U→Calls Tryz.prog 140 #[pV q c L p,.bool false] U (qdg q c L U a)):=qh (fun U hU=>ha U (h.below hU))
 have QO:=qh (fun U hU=>qp q c L a.st ⟨#[58]⟩ U (h.below hU))
 rw[ho] at QO
 have QD:=qh (fun U hU=>qt q c L a.st p1 ⟨#[58]⟩ U (h.below hU) h1)
 have QV:=qh (fun U hU=>hv U (h.below hU))
 clear ho ha h h1 hv
 obtain⟨at',bad⟩:=p
 obtain⟨at1,bad1⟩:=p1
 obtain⟨⟨ata,bada⟩,n,l,b⟩:=a
 obtain⟨⟨atb,badb⟩,nb,lb,bb⟩:=b'
 dsimp only at hb
 subst hb
 go_enter Tryz.func141,Tryz.ntmps141
 go_upto_region 2 with(go_at_call 140;with_reducible refine fk QK H0 ?_;clear QK H0;intro w1 pu_1 cu_1 hj;have e_a:=(hj).ff3;have H1:=hj.layM (q:=q) (c:=c) (L:=L) ata bada n (.slice pu_1 n.kids.length cu_1);(try simp only[nn] at H1);replace c_a:=(H1.out).ccCCCCC;clear hj)
 obtain⟨W2,hW,H2⟩:=fr_w H1;rewrite[←hW];(try simp only[nn] at H2);clear hW H1
 replace c_a:=(H2.out).ccCCCCC;have e_a:=(H2.out).ff5
 have H3:=qh ((H2.out.rowOne n (.slice pu_1 n.kids.length cu_1)).layA [.int .i64 11,.string ⟨#[]⟩,.slice (some ⟨W2.heap.size,0,none⟩) 1 1] 24)
 replace k_a:=(H3.out).ccCCCCCC
 skip
 go_upto_region 6 with(first
  |(go_at_call 98;with_reducible refine fx QO H3 ?_;clear QO H3;intro w4 H4;replace c_a:=(H4.out).ccCCCCCC)
  |(go_at_call 96;with_reducible refine fx QD H4 ?_;clear QD H4;intro w5 H5;replace c_a:=(H5.out).ccCCCCCC)
  |(go_at_call 144;with_reducible refine fm QV H5 ?_;clear QV H5;intro w6 pu_2 cu_2 hj;have e_a:=(hj).ff6;have H6:=hj.layM (q:=q) (c:=c) (L:=L) atb badb nb (.slice pu_2 nb.kids.length cu_2);(try simp only[nn] at H6);replace c_a:=(H6.out).ccCCCCCCCC;clear hj))
 obtain⟨W7,hW,H7⟩:=fr_w H6;rewrite[←hW];(try simp only[nn] at H7);clear hW H6
 replace c_a:=(H7.out).ccCCCCCCCC
 have e_a:=(H7.out).ff8
 go_upto_region 7 with(at_builtin;go_loud(refine q8 (H7.out.skip _) 0 rfl (by simp) nb (by simp) (World.alloc_heap_new W7 _) (by simp) rfl _ _ rfl rfl rfl ?_;intro p4 c4 W8 hf;(simp only[List.length_cons,List.length_nil,Nat.reduceAdd] at hf⊢);have H8:=qh hf;clear hf;replace c_a:=(H8.out).ccCCCCCCCC;(try clear H7)))
 obtain⟨W9,hW,hj⟩:=qd (H8.out.set 5 2 rfl (.slice p4 2 c4))
 rewrite[←hW]
 clear hW
 have H9:=qh (hj.give1 (l:=[n,nb]) (us:=[.slice pu_1 n.kids.length cu_1,.slice pu_2 nb.kids.length cu_2]) (.two (by simp) (by simp)) (by simp))
 clear hj
 replace c_a:=(H9.out).ccCCCCCCCC
 go_region
 all_goals
  obtain⟨Wf,hA,hB,hf⟩:=sets H9 1 2 q c L atb badb 11 ⟨#[]⟩ (.slice p4 2 c4) rfl rfl
  first|rewrite[←hA]|rewrite[←hB]
  (try simp only[nn] at hf);clear hA hB
  have hf:=hf.nilN
  have r0:=And.intro (hf.c3 1 rfl).1 (hf.c3 2 rfl).1
  have HF:=qh (And.intro (hf.told q c L ⟨(atb,badb),.mk 11 ⟨#[]⟩ [n,nb],[],false⟩ (.slice p4 2 c4) (by simp[qb.kids])) (hf.drew.told q c L ⟨(atb,badb),.mk 11 ⟨#[]⟩ [n,nb],[],false⟩ (.slice p4 2 c4) (by simp[qb.kids])))
  clear hf
  (try go_wp2)
  refine bodyPost_ret (v:=(.tuple #[pV q c L (atb,badb),.agg #[.int .i64 11,.string ⟨#[]⟩,.slice p4 2 c4]])) (by simp[results,Tryz.results141,go_sem,r0]) rfl ?_
  first|exact HF.out.1|exact HF.out.2
theorem qi5{q:Option Addr}{c:Nat}{L:List PTok}(p p1:PSt)(a b':PRes)(ha:qn q c L (.key p false) a)(hb:a.b=true)(ho:opP L a.st ⟨#[58]⟩=(opP L a.st ⟨#[58]⟩))(h1:q7 L a.st ⟨#[58]⟩=some p1)(hv:qn q c L (.value p1) b'):qn q c L (.pair p) ⟨b'.st,.mk 11 ⟨#[]⟩ [a.n,b'.n],[],false⟩:=by
 intro w h
 have H0:=qh (qD w q c L p)
 have QK:Hid (∀U,Below w.heap.size w U→Calls Tryz.prog 140 #[pV q c L p,.bool false] U (qdg q c L U a)):=qh (fun U hU=>ha U (h.below hU))
 have QO:=qh (fun U hU=>qp q c L a.st ⟨#[58]⟩ U (h.below hU))
 rw[ho] at QO
 have QD:=qh (fun U hU=>qt q c L a.st p1 ⟨#[58]⟩ U (h.below hU) h1)
 have QV:=qh (fun U hU=>hv U (h.below hU))
 clear ho ha h h1 hv
 obtain⟨at',bad⟩:=p
 obtain⟨at1,bad1⟩:=p1
 obtain⟨⟨ata,bada⟩,n,l,b⟩:=a
 obtain⟨⟨atb,badb⟩,nb,lb,bb⟩:=b'
 dsimp only at hb
 subst hb
 go_enter Tryz.func141,Tryz.ntmps141
 go_upto_region 2 with(go_at_call 140;with_reducible refine fk QK H0 ?_;clear QK H0;intro w1 pu_1 cu_1 hj;have e_a:=(hj).ff3;have H1:=hj.layM (q:=q) (c:=c) (L:=L) ata bada n (.slice pu_1 n.kids.length cu_1);(try simp only[nn] at H1);replace c_a:=(H1.out).ccCCCCC;clear hj)
 obtain⟨W2,hW,H2⟩:=fr_w H1;rewrite[←hW];(try simp only[nn] at H2);clear hW H1
 replace c_a:=(H2.out).ccCCCCC;have e_a:=(H2.out).ff5
 have H3:=qh ((H2.out.rowOne n (.slice pu_1 n.kids.length cu_1)).layA [.int .i64 11,.string ⟨#[]⟩,.slice (some ⟨W2.heap.size,0,none⟩) 1 1] 24)
 replace k_a:=(H3.out).ccCCCCCC
 (have H4:=H3)
 go_upto_region 6 with(first
  |(go_at_call 98;with_reducible refine fx QO H3 ?_;clear QO H3;intro w4 H4;replace c_a:=(H4.out).ccCCCCCC)
  |(go_at_call 96;with_reducible refine fx QD H4 ?_;clear QD H4;intro w5 H5;replace c_a:=(H5.out).ccCCCCCC)
  |(go_at_call 144;with_reducible refine fm QV H5 ?_;clear QV H5;intro w6 pu_2 cu_2 hj;have e_a:=(hj).ff6;have H6:=hj.layM (q:=q) (c:=c) (L:=L) atb badb nb (.slice pu_2 nb.kids.length cu_2);(try simp only[nn] at H6);replace c_a:=(H6.out).ccCCCCCCCC;clear hj))
 obtain⟨W7,hW,H7⟩:=fr_w H6;rewrite[←hW];(try simp only[nn] at H7);clear hW H6
 replace c_a:=(H7.out).ccCCCCCCCC
 have e_a:=(H7.out).ff8
 go_upto_region 7 with(at_builtin;go_loud(refine q8 (H7.out.skip _) 0 rfl (by simp) nb (by simp) (World.alloc_heap_new W7 _) (by simp) rfl _ _ rfl rfl rfl ?_;intro p4 c4 W8 hf;(simp only[List.length_cons,List.length_nil,Nat.reduceAdd] at hf⊢);have H8:=qh hf;clear hf;replace c_a:=(H8.out).ccCCCCCCCC;(try clear H7)))
 obtain⟨W9,hW,hj⟩:=qd (H8.out.set 5 2 rfl (.slice p4 2 c4))
 rewrite[←hW]
 clear hW
 have H9:=qh (hj.give1 (l:=[n,nb]) (us:=[.slice pu_1 n.kids.length cu_1,.slice pu_2 nb.kids.length cu_2]) (.two (by simp) (by simp)) (by simp))
 clear hj
 replace c_a:=(H9.out).ccCCCCCCCC
 go_region
 all_goals
  obtain⟨Wf,hA,hB,hf⟩:=sets H9 1 2 q c L atb badb 11 ⟨#[]⟩ (.slice p4 2 c4) rfl rfl
  first|rewrite[←hA]|rewrite[←hB]
  (try simp only[nn] at hf);clear hA hB
  have hf:=hf.nilN
  have r0:=And.intro (hf.c3 1 rfl).1 (hf.c3 2 rfl).1
  have HF:=qh (And.intro (hf.told q c L ⟨(atb,badb),.mk 11 ⟨#[]⟩ [n,nb],[],false⟩ (.slice p4 2 c4) (by simp[qb.kids])) (hf.drew.told q c L ⟨(atb,badb),.mk 11 ⟨#[]⟩ [n,nb],[],false⟩ (.slice p4 2 c4) (by simp[qb.kids])))
  clear hf
  (try go_wp2)
  refine bodyPost_ret (v:=(.tuple #[pV q c L (atb,badb),.agg #[.int .i64 11,.string ⟨#[]⟩,.slice p4 2 c4]])) (by simp[results,Tryz.results141,go_sem,r0]) rfl ?_
  first|exact HF.out.1|exact HF.out.2
theorem qkY{R:POps}{q:Option Addr}{c:Nat}{L:List PTok}{f:Nat}(ih:PAll R q c L (f+1))(p:PSt)(r:PRes)(hr:runP R L (f+1) (.pair p)=some r):qn q c L (.pair p) r:=by
 rw[runP] at hr
 have gi:=fun cm a (h:runP R L f cm=some a)=>ih f (Nat.lt_succ_self f) cm a h
 obtain⟨a,ha,hr⟩:=Option.bind_eq_some_iff.1 hr
 by_cases hk:a.b=false∧opP L a.st ⟨#[58]⟩=false
 ·rw[if_pos hk] at hr
  cases hr
  exact qlT p a (gi _ _ ha) hk.1 hk.2
 ·rw[if_neg hk] at hr
  obtain⟨p1,h1,hr⟩:=Option.bind_eq_some_iff.1 hr
  obtain⟨b,hb,hr⟩:=Option.bind_eq_some_iff.1 hr
  cases hr
  cases hm:a.b with
  |true=>exact qi5 p p1 a b (gi _ _ ha) hm rfl h1 (gi _ _ hb)
  |false=>exact qhz p p1 a b (gi _ _ ha) hm (by simpa[hm] using hk) h1 (gi _ _ hb)
theorem qks{q:Option Addr}{c:Nat}{L:List PTok}(p:PSt)(a:PRes)(ha:qn q c L (.key p true) a)(hb:a.b=false)(ho:opP L a.st ⟨#[58]⟩=false):qn q c L (.keypat p) ⟨a.st,.mk 37 ⟨#[]⟩ [a.n],[],false⟩:=by
 intro w h
 have H0:=qh (qD w q c L p)
 have QK:Hid (∀U,Below w.heap.size w U→Calls Tryz.prog 140 #[pV q c L p,.bool true] U (qdg q c L U a)):=qh (fun U hU=>ha U (h.below hU))
 have QO:=qh (fun U hU=>qp q c L a.st ⟨#[58]⟩ U (h.below hU))
 rw[ho] at QO
 clear ho ha h
 obtain⟨at',bad⟩:=p
 obtain⟨⟨ata,bada⟩,n,l,b⟩:=a
 dsimp only at hb
 subst hb
 go_enter Tryz.func134,Tryz.ntmps134
 go_upto_region 2 with(go_at_call 140;with_reducible refine fk QK H0 ?_;clear QK H0;intro w1 pu_1 cu_1 hj;have e_a:=(hj).ff3;have H1:=hj.layM (q:=q) (c:=c) (L:=L) ata bada n (.slice pu_1 n.kids.length cu_1);(try simp only[nn] at H1);replace c_a:=(H1.out).ccCCCCC;clear hj)
 obtain⟨W2,hW,H2⟩:=fr_w H1;rewrite[←hW];(try simp only[nn] at H2);clear hW H1
 replace c_a:=(H2.out).ccCCCCC;have e_a:=(H2.out).ff5
 have H3:=qh ((H2.out.lit1 n (u:=.slice pu_1 n.kids.length cu_1) (by simp)).layA [.int .i64 37,.string ⟨#[]⟩,.slice (some ⟨W2.heap.size,0,none⟩) 1 1] 24)
 replace k_a:=(H3.out).ccCCCCCC
 go_upto_region 4 with(go_at_call 98;with_reducible refine fx QO H3 ?_;clear QO H3;intro w4 H4;replace c_a:=(H4.out).ccCCCCCC)
 go_region
 all_goals
  obtain⟨Wf,hA,hB,hf⟩:=sets H4 1 2 q c L ata bada 37 ⟨#[]⟩ (.slice (some ⟨W2.heap.size,0,none⟩) 1 1) rfl rfl
  first|rewrite[←hA]|rewrite[←hB]
  (try simp only[nn] at hf);clear hA hB
  have hf:=hf.nilN
  have r0:=And.intro (hf.c3 1 rfl).1 (hf.c3 2 rfl).1
  have HF:=qh (And.intro (hf.told q c L ⟨(ata,bada),.mk 37 ⟨#[]⟩ [n],[],false⟩ (.slice (some ⟨W2.heap.size,0,none⟩) 1 1) (by simp[qb.kids])) (hf.drew.told q c L ⟨(ata,bada),.mk 37 ⟨#[]⟩ [n],[],false⟩ (.slice (some ⟨W2.heap.size,0,none⟩) 1 1) (by simp[qb.kids])))
  clear hf
  (try go_wp2)
  refine bodyPost_ret (v:=(.tuple #[pV q c L (ata,bada),.agg #[.int .i64 37,.string ⟨#[]⟩,.slice (some ⟨W2.heap.size,0,none⟩) 1 1]])) (by simp[results,Tryz.results134,go_sem,r0]) rfl ?_
  first|exact HF.out.1|exact HF.out.2
theorem qgl{q:Option Addr}{c:Nat}{L:List PTok}(p p1:PSt)(a b':PRes)(ha:qn q c L (.key p true) a)(hb:a.b=false)(ho:opP L a.st ⟨#[58]⟩=true)(h1:q7 L a.st ⟨#[58]⟩=some p1)(hv:qn q c L (.pattern p1) b'):qn q c L (.keypat p) ⟨b'.st,.mk 37 ⟨#[]⟩ [a.n,b'.n],[],false⟩:=by
 intro w h
 have H0:=qh (qD w q c L p)
 have QK:Hid (∀U,Below w.heap.size w U→Calls Tryz.prog 140 #[pV q c L p,.bool true] U (qdg q c L U a)):=qh (fun U hU=>ha U (h.below hU))
 have QO:=qh (fun U hU=>qp q c L a.st ⟨#[58]⟩ U (h.below hU))
 rw[ho] at QO
 have QD:=qh (fun U hU=>qt q c L a.st p1 ⟨#[58]⟩ U (h.below hU) h1)
 have QV:=qh (fun U hU=>hv U (h.below hU))
 clear ho ha h h1 hv
 obtain⟨at',bad⟩:=p
 obtain⟨at1,bad1⟩:=p1
 obtain⟨⟨ata,bada⟩,n,l,b⟩:=a
 obtain⟨⟨atb,badb⟩,nb,lb,bb⟩:=b'
 dsimp only at hb
 subst hb
 go_enter Tryz.func134,Tryz.ntmps134
 go_upto_region 2 with(go_at_call 140;with_reducible refine fk QK H0 ?_;clear QK H0;intro w1 pu_1 cu_1 hj;have e_a:=(hj).ff3;have H1:=hj.layM (q:=q) (c:=c) (L:=L) ata bada n (.slice pu_1 n.kids.length cu_1);(try simp only[nn] at H1);replace c_a:=(H1.out).ccCCCCC;clear hj)
 obtain⟨W2,hW,H2⟩:=fr_w H1;rewrite[←hW];(try simp only[nn] at H2);clear hW H1
 replace c_a:=(H2.out).ccCCCCC;have e_a:=(H2.out).ff5
 have H3:=qh ((H2.out.rowOne n (.slice pu_1 n.kids.length cu_1)).layA [.int .i64 37,.string ⟨#[]⟩,.slice (some ⟨W2.heap.size,0,none⟩) 1 1] 24)
 replace k_a:=(H3.out).ccCCCCCC
 skip
 go_upto_region 6 with(first
  |(go_at_call 98;with_reducible refine fx QO H3 ?_;clear QO H3;intro w4 H4;replace c_a:=(H4.out).ccCCCCCC)
  |(go_at_call 96;with_reducible refine fx QD H4 ?_;clear QD H4;intro w5 H5;replace c_a:=(H5.out).ccCCCCCC)
  |(go_at_call 129;with_reducible refine fm QV H5 ?_;clear QV H5;intro w6 pu_2 cu_2 hj;have e_a:=(hj).ff6;have H6:=hj.layM (q:=q) (c:=c) (L:=L) atb badb nb (.slice pu_2 nb.kids.length cu_2);(try simp only[nn] at H6);replace c_a:=(H6.out).ccCCCCCCCC;clear hj))
 obtain⟨W7,hW,H7⟩:=fr_w H6;rewrite[←hW];(try simp only[nn] at H7);clear hW H6
 replace c_a:=(H7.out).ccCCCCCCCC
 have e_a:=(H7.out).ff8
 go_upto_region 7 with(at_builtin;go_loud(refine q8 (H7.out.skip _) 0 rfl (by simp) nb (by simp) (World.alloc_heap_new W7 _) (by simp) rfl _ _ rfl rfl rfl ?_;intro p4 c4 W8 hf;(simp only[List.length_cons,List.length_nil,Nat.reduceAdd] at hf⊢);have H8:=qh hf;clear hf;replace c_a:=(H8.out).ccCCCCCCCC;(try clear H7)))
 obtain⟨W9,hW,hj⟩:=qd (H8.out.set 5 2 rfl (.slice p4 2 c4))
 rewrite[←hW]
 clear hW
 have H9:=qh (hj.give1 (l:=[n,nb]) (us:=[.slice pu_1 n.kids.length cu_1,.slice pu_2 nb.kids.length cu_2]) (.two (by simp) (by simp)) (by simp))
 clear hj
 replace c_a:=(H9.out).ccCCCCCCCC
 go_region
 all_goals
  obtain⟨Wf,hA,hB,hf⟩:=sets H9 1 2 q c L atb badb 37 ⟨#[]⟩ (.slice p4 2 c4) rfl rfl
  first|rewrite[←hA]|rewrite[←hB]
  (try simp only[nn] at hf);clear hA hB
  have hf:=hf.nilN
  have r0:=And.intro (hf.c3 1 rfl).1 (hf.c3 2 rfl).1
  have HF:=qh (And.intro (hf.told q c L ⟨(atb,badb),.mk 37 ⟨#[]⟩ [n,nb],[],false⟩ (.slice p4 2 c4) (by simp[qb.kids])) (hf.drew.told q c L ⟨(atb,badb),.mk 37 ⟨#[]⟩ [n,nb],[],false⟩ (.slice p4 2 c4) (by simp[qb.kids])))
  clear hf
  (try go_wp2)
  refine bodyPost_ret (v:=(.tuple #[pV q c L (atb,badb),.agg #[.int .i64 37,.string ⟨#[]⟩,.slice p4 2 c4]])) (by simp[results,Tryz.results134,go_sem,r0]) rfl ?_
  first|exact HF.out.1|exact HF.out.2
theorem qg8{q:Option Addr}{c:Nat}{L:List PTok}(p p1:PSt)(a b':PRes)(ha:qn q c L (.key p true) a)(hb:a.b=true)(ho:opP L a.st ⟨#[58]⟩=(opP L a.st ⟨#[58]⟩))(h1:q7 L a.st ⟨#[58]⟩=some p1)(hv:qn q c L (.pattern p1) b'):qn q c L (.keypat p) ⟨b'.st,.mk 37 ⟨#[]⟩ [a.n,b'.n],[],false⟩:=by
 intro w h
 have H0:=qh (qD w q c L p)
 have QK:Hid (∀U,Below w.heap.size w U→Calls Tryz.prog 140 #[pV q c L p,.bool true] U (qdg q c L U a)):=qh (fun U hU=>ha U (h.below hU))
 have QO:=qh (fun U hU=>qp q c L a.st ⟨#[58]⟩ U (h.below hU))
 rw[ho] at QO
 have QD:=qh (fun U hU=>qt q c L a.st p1 ⟨#[58]⟩ U (h.below hU) h1)
 have QV:=qh (fun U hU=>hv U (h.below hU))
 clear ho ha h h1 hv
 obtain⟨at',bad⟩:=p
 obtain⟨at1,bad1⟩:=p1
 obtain⟨⟨ata,bada⟩,n,l,b⟩:=a
 obtain⟨⟨atb,badb⟩,nb,lb,bb⟩:=b'
 dsimp only at hb
 subst hb
 go_enter Tryz.func134,Tryz.ntmps134
 go_upto_region 2 with(go_at_call 140;with_reducible refine fk QK H0 ?_;clear QK H0;intro w1 pu_1 cu_1 hj;have e_a:=(hj).ff3;have H1:=hj.layM (q:=q) (c:=c) (L:=L) ata bada n (.slice pu_1 n.kids.length cu_1);(try simp only[nn] at H1);replace c_a:=(H1.out).ccCCCCC;clear hj)
 obtain⟨W2,hW,H2⟩:=fr_w H1;rewrite[←hW];(try simp only[nn] at H2);clear hW H1
 replace c_a:=(H2.out).ccCCCCC;have e_a:=(H2.out).ff5
 have H3:=qh ((H2.out.rowOne n (.slice pu_1 n.kids.length cu_1)).layA [.int .i64 37,.string ⟨#[]⟩,.slice (some ⟨W2.heap.size,0,none⟩) 1 1] 24)
 replace k_a:=(H3.out).ccCCCCCC
 (have H4:=H3)
 go_upto_region 6 with(first
  |(go_at_call 98;with_reducible refine fx QO H3 ?_;clear QO H3;intro w4 H4;replace c_a:=(H4.out).ccCCCCCC)
  |(go_at_call 96;with_reducible refine fx QD H4 ?_;clear QD H4;intro w5 H5;replace c_a:=(H5.out).ccCCCCCC)
  |(go_at_call 129;with_reducible refine fm QV H5 ?_;clear QV H5;intro w6 pu_2 cu_2 hj;have e_a:=(hj).ff6;have H6:=hj.layM (q:=q) (c:=c) (L:=L) atb badb nb (.slice pu_2 nb.kids.length cu_2);(try simp only[nn] at H6);replace c_a:=(H6.out).ccCCCCCCCC;clear hj))
 obtain⟨W7,hW,H7⟩:=fr_w H6;rewrite[←hW];(try simp only[nn] at H7);clear hW H6
 replace c_a:=(H7.out).ccCCCCCCCC
 have e_a:=(H7.out).ff8
 go_upto_region 7 with(at_builtin;go_loud(refine q8 (H7.out.skip _) 0 rfl (by simp) nb (by simp) (World.alloc_heap_new W7 _) (by simp) rfl _ _ rfl rfl rfl ?_;intro p4 c4 W8 hf;(simp only[List.length_cons,List.length_nil,Nat.reduceAdd] at hf⊢);have H8:=qh hf;clear hf;replace c_a:=(H8.out).ccCCCCCCCC;(try clear H7)))
 obtain⟨W9,hW,hj⟩:=qd (H8.out.set 5 2 rfl (.slice p4 2 c4))
 rewrite[←hW]
 clear hW
 have H9:=qh (hj.give1 (l:=[n,nb]) (us:=[.slice pu_1 n.kids.length cu_1,.slice pu_2 nb.kids.length cu_2]) (.two (by simp) (by simp)) (by simp))
 clear hj
 replace c_a:=(H9.out).ccCCCCCCCC
 go_region
 all_goals
  obtain⟨Wf,hA,hB,hf⟩:=sets H9 1 2 q c L atb badb 37 ⟨#[]⟩ (.slice p4 2 c4) rfl rfl
  first|rewrite[←hA]|rewrite[←hB]
  (try simp only[nn] at hf);clear hA hB
  have hf:=hf.nilN
  have r0:=And.intro (hf.c3 1 rfl).1 (hf.c3 2 rfl).1
  have HF:=qh (And.intro (hf.told q c L ⟨(atb,badb),.mk 37 ⟨#[]⟩ [n,nb],[],false⟩ (.slice p4 2 c4) (by simp[qb.kids])) (hf.drew.told q c L ⟨(atb,badb),.mk 37 ⟨#[]⟩ [n,nb],[],false⟩ (.slice p4 2 c4) (by simp[qb.kids])))
  clear hf
  (try go_wp2)
  refine bodyPost_ret (v:=(.tuple #[pV q c L (atb,badb),.agg #[.int .i64 37,.string ⟨#[]⟩,.slice p4 2 c4]])) (by simp[results,Tryz.results134,go_sem,r0]) rfl ?_
  first|exact HF.out.1|exact HF.out.2
theorem qiO{R:POps}{q:Option Addr}{c:Nat}{L:List PTok}{f:Nat}(ih:PAll R q c L (f+1))(p:PSt)(r:PRes)(hr:runP R L (f+1) (.keypat p)=some r):qn q c L (.keypat p) r:=by
 rw[runP] at hr
 have gi:=fun cm a (h:runP R L f cm=some a)=>ih f (Nat.lt_succ_self f) cm a h
 obtain⟨a,ha,hr⟩:=Option.bind_eq_some_iff.1 hr
 by_cases hk:a.b=false∧opP L a.st ⟨#[58]⟩=false
 ·rw[if_pos hk] at hr
  cases hr
  exact qks p a (gi _ _ ha) hk.1 hk.2
 ·rw[if_neg hk] at hr
  obtain⟨p1,h1,hr⟩:=Option.bind_eq_some_iff.1 hr
  obtain⟨b,hb,hr⟩:=Option.bind_eq_some_iff.1 hr
  cases hr
  cases hm:a.b with
  |true=>exact qg8 p p1 a b (gi _ _ ha) hm rfl h1 (gi _ _ hb)
  |false=>exact qgl p p1 a b (gi _ _ ha) hm (by simpa[hm] using hk) h1 (gi _ _ hb)
theorem qmy{q:Option Addr}{c:Nat}{L:List PTok}(hl:L.length≤1000000000)(p p1:PSt)(pat:Bool)(t:ByteArray)(hk:(tokP L p).1=5)(ht:qbq L p=some t)(hp1:qs L p=some p1):qn q c L (.key p pat) ⟨p1,.mk 4 t [],[],false⟩:=by
 intro w h
 have H0:=qh (qD w q c L p)
 have QT:=qh (fun U hU=>qu q c L p U (h.below hU))
 have QN:=qh (fun U=>qq q c L p p1 U hl hp1)
 unfold qbq at ht
 clear hp1 h
 generalize tokP L p=tok at*
 obtain⟨tk,tt⟩:=tok
 dsimp only at hk ht QT
 subst hk
 have hs:1≤tt.size:=by
  by_cases hs:1≤tt.size
  ·exact hs
  ·rw[if_neg hs] at ht;cases ht
 rw[if_pos hs] at ht
 obtain rfl:=Option.some.inj ht
 have hcut:=qb3 tt 1
 have u2:(1:Int)≤(tt.size:Int):=by omega
 clear ht
 obtain⟨at',bad⟩:=p
 obtain⟨at1,bad1⟩:=p1
 go_enter Tryz.func140,Tryz.ntmps140
 go_upto_region 3 with(go_at_call 93;with_reducible refine fx QT H0 ?_;clear QT H0;intro wt hj;have e_a:=(hj.out).ff3;have H1:=hj.out.layT 5 tt;(try simp only[nn] at H1);replace c_a:=(H1.out).ccCCCT;clear hj)
 obtain⟨W2,hW,H2⟩:=fr_w H1;rewrite[←hW];(try simp only[nn] at H2);clear hW H1
 replace c_a:=(H2.out).ccCCCT
 obtain⟨u1,u2,u3,u4,u5,u6,u7,hb0,hb1⟩:=Fr.held (S:=(fun w'=>(w'.cell? ⟨w.heap.size,0,none⟩=some (.slice q L.length c)∧w'.cell? ⟨w.heap.size,1,none⟩=some (.int .i64 (at':Int))∧w'.cell? ⟨w.heap.size,2,none⟩=some (.bool bad))∧(w'.cell? ⟨wt.heap.size,0,none⟩=some (.int .i64 5)∧w'.cell? ⟨wt.heap.size,1,none⟩=some (.string tt)))) H2.out 1 2 (fun U bs' h e=>⟨((h).c3 0 (e 0 rfl)).1,((h).c2 3 (e 3 rfl)).1⟩) rfl rfl
 go_region_held3 ((fun w'=>(w'.cell? ⟨w.heap.size,0,none⟩=some (.slice q L.length c)∧w'.cell? ⟨w.heap.size,1,none⟩=some (.int .i64 (at':Int))∧w'.cell? ⟨w.heap.size,2,none⟩=some (.bool bad))∧(w'.cell? ⟨wt.heap.size,0,none⟩=some (.int .i64 5)∧w'.cell? ⟨wt.heap.size,1,none⟩=some (.string tt))))
  (with_reducible first|exact HS4.out|exact HS5.out _|assumption|(first|apply u7.out|apply u4.out|apply u5.out|apply u6.out|apply u3.out|apply u2.out|apply u1.out);(with_reducible first|exact hb0|assumption|exact hb1 _|exact qc hb0 _|exact qc (by assumption) _))
  (first|(go_at_call 94;with_reducible refine(QN.out _).mono ?_;rintro _ U ⟨rfl,bu⟩;have bb:Below W2.heap.size W2 U:=Below.trans (by(with_reducible first|exact hb0|assumption|exact hb1 _|exact qc hb0 _|exact qc (by assumption) _)) (bu.mono (Below.size (show Below W2.heap.size W2 _ by(with_reducible first|exact hb0|assumption|exact hb1 _|exact qc hb0 _|exact qc (by assumption) _))));replace c_a:=((H2.out.stays bb)).ccCCCT;have e_a:=((H2.out.stays bb)).ff3;have BU:=qh bu;clear bu))
 all_goals
  have hbu:Below W2.heap.size W2 U:=by assumption
  have HU:=qh (H2.out.stays hbu)
  obtain⟨Wf,hA,hB,hf⟩:=sets HU 1 2 q c L at1 bad1 4 (cutB tt 1) (.slice none 0 0) rfl rfl
  first|rewrite[←hA]|rewrite[←hB]
  (try simp only[nn] at hf);clear hA hB
  have hf:=hf.nilN
  have r0:=And.intro (hf.c3 1 rfl).1 (hf.c3 2 rfl).1
  have HF:=qh (And.intro (hf.toldK q c L ⟨(at1,bad1),.mk 4 (cutB tt 1) [],[],false⟩ (.slice none 0 0) (by simp[qb.kids])) (hf.drew.toldK q c L ⟨(at1,bad1),.mk 4 (cutB tt 1) [],[],false⟩ (.slice none 0 0) (by simp[qb.kids])))
  clear hf
  (try go_wp2)
  refine bodyPost_ret (v:=(.tuple #[pV q c L (at1,bad1),.agg #[.int .i64 4,.string (cutB tt 1),.slice none 0 0],.bool false])) (by simp[results,Tryz.results140,go_sem,r0]) rfl ?_
  first|exact HF.out.1|exact HF.out.2
theorem qm3{q:Option Addr}{c:Nat}{L:List PTok}(hl:L.length≤1000000000)(p p1:PSt)(pat:Bool)(hk:(tokP L p).1=3)(hp1:qs L p=some p1):qn q c L (.key p pat) ⟨p1,.mk 31 (tokP L p).2 [],[],pat⟩:=by
 intro w h
 have H0:=qh (qD w q c L p)
 have QT:=qh (fun U hU=>qu q c L p U (h.below hU))
 have QN:=qh (fun U=>qq q c L p p1 U hl hp1)
 clear hp1 h
 generalize tokP L p=tok at*
 obtain⟨tk,tt⟩:=tok
 dsimp only at hk QT⊢
 subst hk
 obtain⟨at',bad⟩:=p
 obtain⟨at1,bad1⟩:=p1
 go_enter Tryz.func140,Tryz.ntmps140
 go_upto_region 5 with(go_at_call 93;with_reducible refine fx QT H0 ?_;clear QT H0;intro wt hj;have e_a:=(hj.out).ff3;have H1:=hj.out.layT 3 tt;(try simp only[nn] at H1);replace c_a:=(H1.out).ccCCCT;clear hj)
 obtain⟨W2,hW,H2⟩:=fr_w H1;rewrite[←hW];(try simp only[nn] at H2);clear hW H1
 replace c_a:=(H2.out).ccCCCT
 obtain⟨u1,u2,u3,u4,u5,u6,u7,hb0,hb1⟩:=Fr.held (S:=(fun w'=>(w'.cell? ⟨w.heap.size,0,none⟩=some (.slice q L.length c)∧w'.cell? ⟨w.heap.size,1,none⟩=some (.int .i64 (at':Int))∧w'.cell? ⟨w.heap.size,2,none⟩=some (.bool bad))∧(w'.cell? ⟨wt.heap.size,0,none⟩=some (.int .i64 3)∧w'.cell? ⟨wt.heap.size,1,none⟩=some (.string tt)))) H2.out 1 2 (fun U bs' h e=>⟨((h).c3 0 (e 0 rfl)).1,((h).c2 3 (e 3 rfl)).1⟩) rfl rfl
 go_region_held3 ((fun w'=>(w'.cell? ⟨w.heap.size,0,none⟩=some (.slice q L.length c)∧w'.cell? ⟨w.heap.size,1,none⟩=some (.int .i64 (at':Int))∧w'.cell? ⟨w.heap.size,2,none⟩=some (.bool bad))∧(w'.cell? ⟨wt.heap.size,0,none⟩=some (.int .i64 3)∧w'.cell? ⟨wt.heap.size,1,none⟩=some (.string tt))))
  (with_reducible first|exact HS4.out|exact HS5.out _|assumption|(first|apply u7.out|apply u4.out|apply u5.out|apply u6.out|apply u3.out|apply u2.out|apply u1.out);(with_reducible first|exact hb0|assumption|exact hb1 _|exact qc hb0 _|exact qc (by assumption) _))
  (first|(go_at_call 94;with_reducible refine(QN.out _).mono ?_;rintro _ U ⟨rfl,bu⟩;have bb:Below W2.heap.size W2 U:=Below.trans (by(with_reducible first|exact hb0|assumption|exact hb1 _|exact qc hb0 _|exact qc (by assumption) _)) (bu.mono (Below.size (show Below W2.heap.size W2 _ by(with_reducible first|exact hb0|assumption|exact hb1 _|exact qc hb0 _|exact qc (by assumption) _))));replace c_a:=((H2.out.stays bb)).ccCCCT;have e_a:=((H2.out.stays bb)).ff3;have BU:=qh bu;clear bu))
 all_goals
  have hbu:Below W2.heap.size W2 U:=by assumption
  have HU:=qh (H2.out.stays hbu)
  obtain⟨Wf,hA,hB,hf⟩:=sets HU 1 2 q c L at1 bad1 31 tt (.slice none 0 0) rfl rfl
  first|rewrite[←hA]|rewrite[←hB]
  (try simp only[nn] at hf);clear hA hB
  have hf:=hf.nilN
  have r0:=And.intro (hf.c3 1 rfl).1 (hf.c3 2 rfl).1
  have HF:=qh (And.intro (hf.toldK q c L ⟨(at1,bad1),.mk 31 tt [],[],pat⟩ (.slice none 0 0) (by simp[qb.kids])) (hf.drew.toldK q c L ⟨(at1,bad1),.mk 31 tt [],[],pat⟩ (.slice none 0 0) (by simp[qb.kids])))
  clear hf
  (try go_wp2)
  refine bodyPost_ret (v:=(.tuple #[pV q c L (at1,bad1),.agg #[.int .i64 31,.string tt,.slice none 0 0],.bool pat])) (by simp[results,Tryz.results140,go_sem,r0]) rfl ?_
  first|exact HF.out.1|exact HF.out.2
theorem qlc{q:Option Addr}{c:Nat}{L:List PTok}(p:PSt)(pat:Bool)(h5:(tokP L p).1≠5)(h3:(tokP L p).1≠3)(ho:opP L p ⟨#[40]⟩=false)(h7:(tokP L p).1≠7∧(tokP L p).1≠12):qn q c L (.key p pat) ⟨qR p,qj,[],false⟩:=by
 intro w h
 have H0:=qh (qD w q c L p)
 have QT:=qh (fun U hU=>qu q c L p U (h.below hU))
 have QO:=qh (fun U hU=>qp q c L p ⟨#[40]⟩ U (h.below hU))
 rw[ho] at QO
 clear ho h
 generalize tokP L p=tok at*
 obtain⟨tk,tt⟩:=tok
 obtain⟨at',bad⟩:=p
 dsimp only at h5 h3 h7 QT
 have ya_5:(tk==5)=false:=beq_eq_false_iff_ne.2 h5;have yb_5:(tk=5)=False:=eq_false h5;have yc_5:(tk != 5)=true:=by simpa using h5
 have ya_3:(tk==3)=false:=beq_eq_false_iff_ne.2 h3;have yb_3:(tk=3)=False:=eq_false h3;have yc_3:(tk != 3)=true:=by simpa using h3
 have ya_7:(tk==7)=false:=beq_eq_false_iff_ne.2 h7.1;have yb_7:(tk=7)=False:=eq_false h7.1;have yc_7:(tk != 7)=true:=by simpa using h7.1
 have ya_12:(tk==12)=false:=beq_eq_false_iff_ne.2 h7.2;have yb_12:(tk=12)=False:=eq_false h7.2;have yc_12:(tk != 12)=true:=by simpa using h7.2
 clear h5 h3 h7
 have QW:Hid (∀U,Calls Tryz.prog 68 #[.agg #[.slice q L.length c,.int .i64 (at':Int),.bool bad]] U fun e w'=>e=.returned (.agg #[.slice q L.length c,.int .i64 (at':Int),.bool true])∧Below U.heap.size U w'):=qh (fun U=>qX q c L (at',bad) U)
 go_enter Tryz.func140,Tryz.ntmps140
 go_upto_region 10 with(first
  |(go_at_call 93;with_reducible refine fx QT H0 ?_;clear QT H0;intro wt hj;have e_a:=(hj.out).ff3;have H1:=hj.out.layT tk tt;(try simp only[nn] at H1);replace c_a:=(H1.out).ccCCCT;clear hj)
  |(go_at_call 98;with_reducible refine fx QO H1 ?_;clear QO H1;intro W2 H2;replace c_a:=(H2.out).ccCCCT))
 go_wp2_with(go_at_call 68;go_loud((with_reducible refine(QW.out _).mono ?_);rintro e W3 ⟨rfl,hb⟩;have H3:=qh (H2.out.stays hb);replace c_a:=(H3.out).ccCCCT;clear hb))
 obtain⟨Wf,hA,hB,hf⟩:=sets H3 1 2 q c L at' true 0 ⟨#[]⟩ (.slice none 0 0) rfl rfl
 first|rewrite[←hA]|rewrite[←hB]
 (try simp only[nn] at hf);clear hA hB
 have hf:=hf.nilN
 have r0:=And.intro (hf.c3 1 rfl).1 (hf.c3 2 rfl).1
 have HF:=qh (And.intro (hf.toldK q c L ⟨(at',true),qj,[],false⟩ (.slice none 0 0) (by simp[qb.kids,qj])) (hf.drew.toldK q c L ⟨(at',true),qj,[],false⟩ (.slice none 0 0) (by simp[qb.kids,qj])))
 clear hf
 (try go_wp2)
 refine bodyPost_ret (v:=(.tuple #[pV q c L (at',true),.agg #[.int .i64 0,.string ⟨#[]⟩,.slice none 0 0],.bool false])) (by simp[results,Tryz.results140,go_sem,r0]) rfl ?_
 first|exact HF.out.1|exact HF.out.2
theorem qlS{q:Option Addr}{c:Nat}{L:List PTok}(p:PSt)(pat:Bool)(a:PRes)(h5:(tokP L p).1≠5)(h3:(tokP L p).1≠3)(ho:opP L p ⟨#[40]⟩=false)(h7:(tokP L p).1=7)(ha:qn q c L (.str p) a):qn q c L (.key p pat) ⟨a.st,a.n,[],pat⟩:=by
 intro w h
 have H0:=qh (qD w q c L p)
 have QT:=qh (fun U hU=>qu q c L p U (h.below hU))
 have QO:=qh (fun U hU=>qp q c L p ⟨#[40]⟩ U (h.below hU))
 have QS:=qh (fun U hU=>ha U (h.below hU))
 rw[ho] at QO
 clear ho h ha
 generalize tokP L p=tok at*
 obtain⟨tk,tt⟩:=tok
 obtain⟨at',bad⟩:=p
 obtain⟨⟨ata,bada⟩,n,l,b⟩:=a
 dsimp only at h5 h3 h7 QT
 subst h7
 clear h5 h3
 go_enter Tryz.func140,Tryz.ntmps140
 go_upto_region 12 with(first
  |(go_at_call 93;with_reducible refine fx QT H0 ?_;clear QT H0;intro wt hj;have e_a:=(hj.out).ff3;have H1:=hj.out.layT 7 tt;(try simp only[nn] at H1);replace c_a:=(H1.out).ccCCCT;clear hj)
  |(go_at_call 98;with_reducible refine fx QO H1 ?_;clear QO H1;intro W2 H2;replace c_a:=(H2.out).ccCCCT)
  |(go_at_call 95;with_reducible refine fm QS H2 ?_;clear QS H2;intro w1 pu_1 cu_1 hj;have e_a:=(hj).ff4;have H3:=hj.layM (q:=q) (c:=c) (L:=L) ata bada n (.slice pu_1 n.kids.length cu_1);(try simp only[nn] at H3);replace c_a:=(H3.out).ccCCCTCC;clear hj))
 obtain⟨W4,hW,H4⟩:=fr_w H3;rewrite[←hW];(try simp only[nn] at H4);clear hW H3
 replace c_a:=(H4.out).ccCCCTCC
 go_region
 all_goals
  obtain⟨Wf,hA,hB,hf⟩:=sets H4 1 2 q c L ata bada n.kind n.text (.slice pu_1 n.kids.length cu_1) rfl rfl
  first|rewrite[←hA]|rewrite[←hB]
  (try simp only[nn] at hf);clear hA hB
  have hf:=hf.nilN
  have r0:=And.intro (hf.c3 1 rfl).1 (hf.c3 2 rfl).1
  have HF:=qh (And.intro (hf.toldK q c L ⟨(ata,bada),n,[],pat⟩ (.slice pu_1 n.kids.length cu_1) (by simp)) (hf.drew.toldK q c L ⟨(ata,bada),n,[],pat⟩ (.slice pu_1 n.kids.length cu_1) (by simp)))
  clear hf
  (try go_wp2)
  refine bodyPost_ret (v:=(.tuple #[pV q c L (ata,bada),.agg #[.int .i64 n.kind,.string n.text,.slice pu_1 n.kids.length cu_1],.bool pat])) (by simp[results,Tryz.results140,go_sem,r0]) rfl ?_
  first|exact HF.out.1|exact HF.out.2
theorem qlG{q:Option Addr}{c:Nat}{L:List PTok}(p:PSt)(pat:Bool)(a:PRes)(h5:(tokP L p).1≠5)(h3:(tokP L p).1≠3)(ho:opP L p ⟨#[40]⟩=false)(h7:(tokP L p).1=12)(ha:qn q c L (.str p) a):qn q c L (.key p pat) ⟨a.st,a.n,[],pat⟩:=by
 intro w h
 have H0:=qh (qD w q c L p)
 have QT:=qh (fun U hU=>qu q c L p U (h.below hU))
 have QO:=qh (fun U hU=>qp q c L p ⟨#[40]⟩ U (h.below hU))
 have QS:=qh (fun U hU=>ha U (h.below hU))
 rw[ho] at QO
 clear ho h ha
 generalize tokP L p=tok at*
 obtain⟨tk,tt⟩:=tok
 obtain⟨at',bad⟩:=p
 obtain⟨⟨ata,bada⟩,n,l,b⟩:=a
 dsimp only at h5 h3 h7 QT
 subst h7
 clear h5 h3
 go_enter Tryz.func140,Tryz.ntmps140
 go_upto_region 12 with(first
  |(go_at_call 93;with_reducible refine fx QT H0 ?_;clear QT H0;intro wt hj;have e_a:=(hj.out).ff3;have H1:=hj.out.layT 12 tt;(try simp only[nn] at H1);replace c_a:=(H1.out).ccCCCT;clear hj)
  |(go_at_call 98;with_reducible refine fx QO H1 ?_;clear QO H1;intro W2 H2;replace c_a:=(H2.out).ccCCCT)
  |(go_at_call 95;with_reducible refine fm QS H2 ?_;clear QS H2;intro w1 pu_1 cu_1 hj;have e_a:=(hj).ff4;have H3:=hj.layM (q:=q) (c:=c) (L:=L) ata bada n (.slice pu_1 n.kids.length cu_1);(try simp only[nn] at H3);replace c_a:=(H3.out).ccCCCTCC;clear hj))
 obtain⟨W4,hW,H4⟩:=fr_w H3;rewrite[←hW];(try simp only[nn] at H4);clear hW H3
 replace c_a:=(H4.out).ccCCCTCC
 go_region
 all_goals
  obtain⟨Wf,hA,hB,hf⟩:=sets H4 1 2 q c L ata bada n.kind n.text (.slice pu_1 n.kids.length cu_1) rfl rfl
  first|rewrite[←hA]|rewrite[←hB]
  (try simp only[nn] at hf);clear hA hB
  have hf:=hf.nilN
  have r0:=And.intro (hf.c3 1 rfl).1 (hf.c3 2 rfl).1
  have HF:=qh (And.intro (hf.toldK q c L ⟨(ata,bada),n,[],pat⟩ (.slice pu_1 n.kids.length cu_1) (by simp)) (hf.drew.toldK q c L ⟨(ata,bada),n,[],pat⟩ (.slice pu_1 n.kids.length cu_1) (by simp)))
  clear hf
  (try go_wp2)
  refine bodyPost_ret (v:=(.tuple #[pV q c L (ata,bada),.agg #[.int .i64 n.kind,.string n.text,.slice pu_1 n.kids.length cu_1],.bool pat])) (by simp[results,Tryz.results140,go_sem,r0]) rfl ?_
  first|exact HF.out.1|exact HF.out.2
theorem qlH{q:Option Addr}{c:Nat}{L:List PTok}(hl:L.length≤1000000000)(p p1 p2:PSt)(pat:Bool)(a:PRes)(h5:(tokP L p).1≠5)(h3:(tokP L p).1≠3)(ho:opP L p ⟨#[40]⟩=true)(hp1:qs L p=some p1)(ha:qn q c L (.exp p1 1) a)(hp2:q7 L a.st ⟨#[41]⟩=some p2):qn q c L (.key p pat) ⟨p2,.mk 32 ⟨#[]⟩ [a.n],[],true⟩:=by
 intro w h
 have H0:=qh (qD w q c L p)
 have QT:=qh (fun U hU=>qu q c L p U (h.below hU))
 have QO:=qh (fun U hU=>qp q c L p ⟨#[40]⟩ U (h.below hU))
 have QN:=qh (fun U (hU:Below w.heap.size w U)=>qq q c L p p1 U hl hp1)
 have QP:=qh (fun U hU=>qB q c L p1 a ha U (h.below hU))
 have QD:=qh (fun U hU=>qt q c L a.st p2 ⟨#[41]⟩ U (h.below hU) hp2)
 rw[ho] at QO
 clear ho h ha hp1 hp2
 generalize tokP L p=tok at*
 obtain⟨tk,tt⟩:=tok
 obtain⟨at',bad⟩:=p
 obtain⟨at1,bad1⟩:=p1
 obtain⟨at2,bad2⟩:=p2
 obtain⟨⟨ata,bada⟩,n,l,b⟩:=a
 dsimp only at h5 h3 QT
 have ya_5:(tk==5)=false:=beq_eq_false_iff_ne.2 h5
 have yb_5:(tk=5)=False:=eq_false h5
 have ya_3:(tk==3)=false:=beq_eq_false_iff_ne.2 h3
 have yb_3:(tk=3)=False:=eq_false h3
 clear h5 h3
 go_enter Tryz.func140,Tryz.ntmps140
 go_upto_region 8 with(first
  |(go_at_call 93;with_reducible refine fx QT H0 ?_;clear QT H0;intro wt hj;have e_a:=(hj.out).ff3;have H1:=hj.out.layT tk tt;(try simp only[nn] at H1);replace c_a:=(H1.out).ccCCCT;clear hj)
  |(go_at_call 98;with_reducible refine fx QO H1 ?_;clear QO H1;intro W2 H2;replace c_a:=(H2.out).ccCCCT)
  |(go_at_call 94;with_reducible refine fx QN H2 ?_;clear QN H2;intro W3 H3;replace c_a:=(H3.out).ccCCCT)
  |(go_at_call 67;with_reducible refine fm QP H3 ?_;clear QP H3;intro w1 pu_1 cu_1 hj;have e_a:=(hj).ff4;have H4:=hj.layM (q:=q) (c:=c) (L:=L) ata bada n (.slice pu_1 n.kids.length cu_1);(try simp only[nn] at H4);replace c_a:=(H4.out).ccCCCTCC;clear hj))
 obtain⟨W5,hW,H5⟩:=fr_w H4;rewrite[←hW];(try simp only[nn] at H5);clear hW H4
 replace c_a:=(H5.out).ccCCCTCC
 have QD2:=qh (fun U (hU:Below W5.heap.size W5 U)=>QD.out U (H5.out.low.trans (hU.mono H5.out.low.size)))
 have ka:=fun U o (hU:Below W5.heap.size W5 U)=>(Fr.skip (H5.out.stays hU) o).c3 1 rfl
 have kb:=fun U o (hU:Below W5.heap.size W5 U)=>(Fr.skip (H5.out.stays hU) o).c3 2 rfl
 have kc:=fun U x y z o (hU:Below W5.heap.size W5 U)=>(Fr.skip (Fr.set3 (x:=x) (y:=y) (z:=z) (H5.out.stays hU) 1 rfl) o).c3 2 rfl
 have ka1:=fun U o hU=>(ka U o hU).1.1
 have ka2:=fun U o hU=>(ka U o hU).1.2.1
 have ka3:=fun U o hU=>(ka U o hU).1.2.2
 have ka4:=fun U o hU=>(ka U o hU).2.1
 have ka5:=fun U o hU=>(ka U o hU).2.2.1
 have ka6:=fun U o hU=>(ka U o hU).2.2.2
 have kb1:=fun U o hU=>(kb U o hU).1.1
 have kb2:=fun U o hU=>(kb U o hU).1.2.1
 have kb3:=fun U o hU=>(kb U o hU).1.2.2
 have kb4:=fun U o hU=>(kb U o hU).2.1
 have kb5:=fun U o hU=>(kb U o hU).2.2.1
 have kb6:=fun U o hU=>(kb U o hU).2.2.2
 have kc1:=fun U x y z o hU=>(kc U x y z o hU).1.1
 have kc2:=fun U x y z o hU=>(kc U x y z o hU).1.2.1
 have kc3:=fun U x y z o hU=>(kc U x y z o hU).1.2.2
 have kc4:=fun U x y z o hU=>(kc U x y z o hU).2.1
 have kc5:=fun U x y z o hU=>(kc U x y z o hU).2.2.1
 have kc6:=fun U x y z o hU=>(kc U x y z o hU).2.2.2
 clear ka kb kc
 obtain⟨u1,u2,u3,u4,u5,u6,u7,hb0,hb1⟩:=Fr.held (S:=(fun w'=>(w'.cell? ⟨w1.heap.size,0,none⟩=some (.slice q L.length c)∧w'.cell? ⟨w1.heap.size,1,none⟩=some (.int .i64 (ata:Int))∧w'.cell? ⟨w1.heap.size,2,none⟩=some (.bool bada))∧(w'.cell? ⟨w1.heap.size+1,0,none⟩=some (.int .i64 n.kind)∧w'.cell? ⟨w1.heap.size+1,1,none⟩=some (.string n.text)∧w'.cell? ⟨w1.heap.size+1,2,none⟩=some (.slice pu_1 n.kids.length cu_1)))) H5.out 1 2 (fun U bs' h e=>⟨((h).c3 4 (e 4 rfl)).1,((h).c3 5 (e 5 rfl)).1⟩) rfl rfl
 go_region_held3 ((fun w'=>(w'.cell? ⟨w1.heap.size,0,none⟩=some (.slice q L.length c)∧w'.cell? ⟨w1.heap.size,1,none⟩=some (.int .i64 (ata:Int))∧w'.cell? ⟨w1.heap.size,2,none⟩=some (.bool bada))∧(w'.cell? ⟨w1.heap.size+1,0,none⟩=some (.int .i64 n.kind)∧w'.cell? ⟨w1.heap.size+1,1,none⟩=some (.string n.text)∧w'.cell? ⟨w1.heap.size+1,2,none⟩=some (.slice pu_1 n.kids.length cu_1))))
  (with_reducible first|exact HS4.out|exact HS5.out _|assumption|(first|apply u7.out|apply u4.out|apply u5.out|apply u6.out|apply u3.out|apply u2.out|apply u1.out);(with_reducible first|exact hb0|assumption|exact hb1 _|exact qc hb0 _|exact qc (by assumption) _))
  (first|(go_at_call 96;with_reducible refine(QD2.out _ (by(with_reducible first|exact hb0|assumption|exact hb1 _|exact qc hb0 _|exact qc (by assumption) _))).mono ?_;rintro _ U ⟨rfl,bu⟩;have bb:Below W5.heap.size W5 U:=Below.trans (by(with_reducible first|exact hb0|assumption|exact hb1 _|exact qc hb0 _|exact qc (by assumption) _)) (bu.mono (Below.size (show Below W5.heap.size W5 _ by(with_reducible first|exact hb0|assumption|exact hb1 _|exact qc hb0 _|exact qc (by assumption) _))));replace c_a:=((H5.out.stays bb)).ccCCCTCC;have e_a:=((H5.out.stays bb)).ff3;have BU:=qh bu;clear bu))
 all_goals
  have hbu:Below W5.heap.size W5 U:=by assumption
  first
   |(have hda:=Fr.set3 (Fr.set3 ((H5.out.stays hbu).lit1 n (u:=.slice pu_1 n.kids.length cu_1) (by simp)) 1 rfl (x:=.slice q L.length c) (y:=.int .i64 (at2:Int)) (z:=.bool bad2)) 2 rfl (x:=.int .i64 32) (y:=.string ⟨#[]⟩) (z:=(.slice (some ⟨U.heap.size,0,none⟩) 1 1));obtain⟨Wf,hW,hf⟩:=qd hda;rewrite[←hW];(try simp only[nn] at hf);clear hW;clear hda)
   |(have hda:=Fr.set3 ((Fr.set3 (H5.out.stays hbu) 1 rfl (x:=.slice q L.length c) (y:=.int .i64 (at2:Int)) (z:=.bool bad2)).lit1S n (u:=.slice pu_1 n.kids.length cu_1) (by simp)) 2 rfl (x:=.int .i64 32) (y:=.string ⟨#[]⟩) (z:=(.slice (some ⟨U.heap.size,0,none⟩) 1 1));obtain⟨Wf,hW,hf⟩:=qd hda;rewrite[←hW];(try simp only[nn] at hf);clear hW;clear hda)
   |(have hda:=Fr.set3 (Fr.set3 ((H5.out.lit1 n (u:=.slice pu_1 n.kids.length cu_1) (by simp)).drew.stays BU.out) 1 rfl (x:=.slice q L.length c) (y:=.int .i64 (at2:Int)) (z:=.bool bad2)) 2 rfl (x:=.int .i64 32) (y:=.string ⟨#[]⟩) (z:=(.slice (some ⟨W5.heap.size,0,none⟩) 1 1));obtain⟨Wf,hW,hf⟩:=qd hda;rewrite[←hW];(try simp only[nn] at hf);clear hW;clear hda)
   |(have hda:=Fr.set3 (Fr.set3 ((H5.out.drew.lit1 n (u:=.slice pu_1 n.kids.length cu_1) (by simp)).stays BU.out) 1 rfl (x:=.slice q L.length c) (y:=.int .i64 (at2:Int)) (z:=.bool bad2)) 2 rfl (x:=.int .i64 32) (y:=.string ⟨#[]⟩) (z:=(.slice (some ⟨W5.heap.size,0,none⟩) 1 1));obtain⟨Wf,hW,hf⟩:=qd hda;rewrite[←hW];(try simp only[nn] at hf);clear hW;clear hda)
  have r0:=And.intro (hf.c3 1 rfl).1 (hf.c3 2 rfl).1
  have HF:=qh (And.intro (Fr.toldKH q c L ⟨(at2,bad2),.mk 32 ⟨#[]⟩ [n],[],true⟩ hf) (Fr.toldKH q c L ⟨(at2,bad2),.mk 32 ⟨#[]⟩ [n],[],true⟩ hf.drew))
  clear hf
  (try go_wp2)
  first
   |exact bodyPost_ret (by simp[results,Tryz.results140,go_sem,r0]) rfl HF.out.1
   |exact bodyPost_ret (by simp[results,Tryz.results140,go_sem,r0]) rfl HF.out.2
theorem qlR{R:POps}{q:Option Addr}{c:Nat}{L:List PTok}{f:Nat}(ih:PAll R q c L (f+1))(hl:L.length≤1000000000)(p:PSt)(pat:Bool)(r:PRes)(hr:runP R L (f+1) (.key p pat)=some r):qn q c L (.key p pat) r:=by
 rw[runP] at hr
 have gi:=fun cm a (h:runP R L f cm=some a)=>ih f (Nat.lt_succ_self f) cm a h
 by_cases h5:(tokP L p).1=5
 ·rw[if_pos h5] at hr
  obtain⟨t,ht,hr⟩:=Option.bind_eq_some_iff.1 hr
  obtain⟨p1,h1,hr⟩:=Option.bind_eq_some_iff.1 hr
  cases hr
  exact qmy hl p p1 pat t h5 ht h1
 ·rw[if_neg h5] at hr
  by_cases h3:(tokP L p).1=3
  ·rw[if_pos h3] at hr
   obtain⟨p1,h1,hr⟩:=Option.bind_eq_some_iff.1 hr
   cases hr
   exact qm3 hl p p1 pat h3 h1
  ·rw[if_neg h3] at hr
   by_cases ho:opP L p ⟨#[40]⟩=true
   ·rw[if_pos ho] at hr
    obtain⟨p1,h1,hr⟩:=Option.bind_eq_some_iff.1 hr
    obtain⟨a,ha,hr⟩:=Option.bind_eq_some_iff.1 hr
    obtain⟨p2,h2,hr⟩:=Option.bind_eq_some_iff.1 hr
    cases hr
    exact qlH hl p p1 p2 pat a h5 h3 ho h1 (gi _ _ ha) h2
   ·rw[if_neg ho] at hr
    have ho':opP L p ⟨#[40]⟩=false:=by simpa using ho
    by_cases h7:(tokP L p).1≠7∧(tokP L p).1≠12
    ·rw[if_pos h7] at hr
     cases hr
     exact qlc p pat h5 h3 ho' h7
    ·rw[if_neg h7] at hr
     obtain⟨a,ha,hr⟩:=Option.bind_eq_some_iff.1 hr
     cases hr
     by_cases h8:(tokP L p).1=7
     ·exact qlS p pat a h5 h3 ho' h8 (gi _ _ ha)
     ·exact qlG p pat a h5 h3 ho' (by
       by_cases h9:(tokP L p).1=12
       ·exact h9
       ·exact absurd ⟨h8,h9⟩ h7) (gi _ _ ha)
theorem qiY{q:Option Addr}{c:Nat}{L:List PTok}(p p1 p2 p3:PSt)(kind most:Int)(a b' c' d:PRes)(ha:qn q c L (.post p) a)(h1:q7 L a.st ⟨#[97,115]⟩=some p1)(hb':qn q c L (.pattern p1) b')(h2:q7 L b'.st ⟨#[40]⟩=some p2)(hc':qn q c L (.exp p2 1) c')(h3:q7 L c'.st ⟨#[59]⟩=some p3)(hd':qn q c L (.exp p3 1) d)(p4:PSt)(ho:¬2<most)(h4:q7 L d.st ⟨#[41]⟩=some p4):qn q c L (.fold p kind most) ⟨p4,.mk kind ⟨#[]⟩ [a.n,b'.n,c'.n,d.n],[],false⟩:=by
 intro w h
 have H0:=qh (qD w q c L p)
 have QA:=qh (fun U hU=>ha U (h.below hU))
 have QD1:=qh (fun U hU=>qt q c L a.st p1 ⟨#[97,115]⟩ U (h.below hU) h1)
 have QB:=qh (fun U hU=>hb' U (h.below hU))
 have QD2:=qh (fun U hU=>qt q c L b'.st p2 ⟨#[40]⟩ U (h.below hU) h2)
 have QC:=qh (fun U hU=>qB q c L p2 c' hc' U (h.below hU))
 have QD3:=qh (fun U hU=>qt q c L c'.st p3 ⟨#[59]⟩ U (h.below hU) h3)
 have QE:=qh (fun U hU=>qB q c L p3 d hd' U (h.below hU))
 have QD4:=qh (fun U hU=>qt q c L d.st p4 ⟨#[41]⟩ U (h.below hU) h4)
 clear ha h1 hb' h2 hc' h3 hd' h h4
 obtain⟨at',bad⟩:=p
 obtain⟨at1,bad1⟩:=p1
 obtain⟨at2,bad2⟩:=p2
 obtain⟨at3,bad3⟩:=p3
 obtain⟨⟨ata,bada⟩,n,la,ba⟩:=a
 obtain⟨⟨atb,badb⟩,nb,lb,bb'⟩:=b'
 obtain⟨⟨atc,badc⟩,nc,lc,bc⟩:=c'
 obtain⟨⟨atd,badd⟩,nd,ld,bd⟩:=d
 go_enter Tryz.func143,Tryz.ntmps143
 go_upto_region 2 with(go_at_call 128;with_reducible refine fm QA H0 ?_;clear QA H0;intro w1 pu_1 cu_1 hj;have e_a:=(hj).ff3;have hl:=hj.layN;have hm:=(Fr.set3 (x:=.int .i64 n.kind) (y:=.string n.text) (z:=.slice pu_1 n.kids.length cu_1) (Fr.set3 (x:=.slice q L.length c) (y:=.int .i64 (ata:Int)) (z:=.bool bada) hl 0 rfl) 3 rfl);(try simp only[nn] at hm);have H1:=qh hm;replace c_a:=(H1.out).ccCCCC;replace k_0:=(hl).c3 0 rfl;clear hm hj hl)
 obtain⟨W2,hW,H2⟩:=fr_w H1;rewrite[←hW];(try simp only[nn] at H2);clear hW H1
 replace c_a:=(H2.out).ccCCCC
 have e_a:=(H2.out).ff4
 go_upto_region 5 with(first
  |(go_at_call 96;with_reducible refine fx QD1 H2 ?_;clear QD1 H2;intro w3 H3;replace c_a:=(H3.out).ccCCCC)
  |(go_at_call 129;with_reducible refine fm QB H3 ?_;clear QB H3;intro w4 pu_2 cu_2 hj;have e_a:=(hj).ff4;have H4:=hj.layM (q:=q) (c:=c) (L:=L) atb badb nb (.slice pu_2 nb.kids.length cu_2);(try simp only[nn] at H4);replace c_a:=(H4.out).ccCCCCCC;clear hj)
  |(go_at_call 96;with_reducible refine fx QD2 H4 ?_;clear QD2 H4;intro w5 H5;replace c_a:=(H5.out).ccCCCCCC)
  |(go_at_call 67;with_reducible refine fm QC H5 ?_;clear QC H5;intro w6 pu_3 cu_3 hj;have e_a:=(hj).ff6;have H6:=hj.layM (q:=q) (c:=c) (L:=L) atc badc nc (.slice pu_3 nc.kids.length cu_3);(try simp only[nn] at H6);replace c_a:=(H6.out).ccCCCCCCCC;clear hj)
  |(go_at_call 96;with_reducible refine fx QD3 H6 ?_;clear QD3 H6;intro w7 H7;replace c_a:=(H7.out).ccCCCCCCCC)
  |(go_at_call 67;with_reducible refine fm QE H7 ?_;clear QE H7;intro w8 pu_4 cu_4 hj;have e_a:=(hj).ff8;have H8:=hj.layM (q:=q) (c:=c) (L:=L) atd badd nd (.slice pu_4 nd.kids.length cu_4);(try simp only[nn] at H8);replace c_a:=(H8.out).ccCCCCCCCCCC;clear hj))
 obtain⟨W9,hW,H9⟩:=fr_w H8;rewrite[←hW];(try simp only[nn] at H9);clear hW H8
 replace c_a:=(H9.out).ccCCCCCCCCCC
 have e_a:=(H9.out).ff10
 have y1:decide (most>2)=false:=decide_eq_false (by omega)
 have y2:(2<most)=False:=eq_false (by omega)
 clear ho
 obtain⟨at4,bad4⟩:=p4
 have H10:=qh ((H9.out.lit4 n nb nc nd (u:=.slice pu_1 n.kids.length cu_1) (v:=.slice pu_2 nb.kids.length cu_2) (x:=.slice pu_3 nc.kids.length cu_3) (y:=.slice pu_4 nd.kids.length cu_4) (by simp) (by simp) (by simp) (by simp)).layA [.int .i64 kind,.string ⟨#[]⟩,.slice (some ⟨W9.heap.size,0,none⟩) 4 4] 24)
 replace k_a:=(H10.out).ccCCCCCCCCCCC
 go_upto_region 10 with(fail)
 obtain⟨W11,hW,H11⟩:=fr_w H10;rewrite[←hW];(try simp only[nn] at H11);clear hW H10
 replace c_a:=(H11.out).ccCCCCCCCCCCC
 have QD5:=qh (fun U (hU:Below W11.heap.size W11 U)=>QD4.out U (H11.out.low.trans (hU.mono H11.out.low.size)))
 obtain⟨u1,u2,u3,u4,u5,u6,u7,hb0,hb1⟩:=Fr.held (S:=(fun w'=>B1 (w8.heap.size) ((.slice q L.length c)) ((.int .i64 (atd:Int))) ((.bool badd)) w'∧B1 (W9.heap.size+1) ((.int .i64 kind)) ((.string ⟨#[]⟩)) ((.slice (some ⟨W9.heap.size,0,none⟩) 4 4)) w')) H11.out 1 2 (fun U bs' h e=>⟨((h).c3 8 (e 8 rfl)).1,((h).c3 10 (e 10 rfl)).1⟩) rfl rfl
 go_region_held3 ((fun w'=>B1 (w8.heap.size) ((.slice q L.length c)) ((.int .i64 (atd:Int))) ((.bool badd)) w'∧B1 (W9.heap.size+1) ((.int .i64 kind)) ((.string ⟨#[]⟩)) ((.slice (some ⟨W9.heap.size,0,none⟩) 4 4)) w'))
  (with_reducible first|exact HS4.out|exact HS5.out _|assumption|(first|apply u7.out|apply u4.out|apply u5.out|apply u6.out|apply u3.out|apply u2.out|apply u1.out);(with_reducible first|exact hb0|assumption|exact hb1 _|exact qc hb0 _|exact qc (by assumption) _))
  (first|(go_at_call 96;with_reducible refine(QD5.out _ (by(with_reducible first|exact hb0|assumption|exact hb1 _|exact qc hb0 _|exact qc (by assumption) _))).mono ?_;rintro _ U ⟨rfl,bu⟩;have bb:Below W11.heap.size W11 U:=Below.trans (by(with_reducible first|exact hb0|assumption|exact hb1 _|exact qc hb0 _|exact qc (by assumption) _)) (bu.mono (Below.size (show Below W11.heap.size W11 _ by(with_reducible first|exact hb0|assumption|exact hb1 _|exact qc hb0 _|exact qc (by assumption) _))));replace c_a:=((H11.out.stays bb)).cc3;have e_a:=((H11.out.stays bb)).ff3;have BU:=qh bu;clear bu))
 all_goals
  have hbu:Below W11.heap.size W11 U:=by assumption
  have HU:=qh (H11.out.stays hbu)
  obtain⟨Wf,hA,hB,hf⟩:=sets HU 1 2 q c L at4 bad4 kind ⟨#[]⟩ (.slice (some ⟨W9.heap.size,0,none⟩) 4 4) rfl rfl
  first|rewrite[←hA]|rewrite[←hB]
  (try simp only[nn] at hf);clear hA hB
  have r0:=And.intro (hf.c3 1 rfl).1 (hf.c3 2 rfl).1
  have HF:=qh (And.intro (Fr.toldH q c L ⟨(at4,bad4),.mk kind ⟨#[]⟩ [n,nb,nc,nd],[],false⟩ hf) (Fr.toldH q c L ⟨(at4,bad4),.mk kind ⟨#[]⟩ [n,nb,nc,nd],[],false⟩ hf.drew))
  clear hf
  (try go_wp2)
  first
   |exact bodyPost_ret (by simp[results,Tryz.results143,go_sem,r0]) rfl HF.out.1
   |exact bodyPost_ret (by simp[results,Tryz.results143,go_sem,r0]) rfl HF.out.2
theorem qjj{q:Option Addr}{c:Nat}{L:List PTok}(p p1 p2 p3:PSt)(kind most:Int)(a b' c' d:PRes)(ha:qn q c L (.post p) a)(h1:q7 L a.st ⟨#[97,115]⟩=some p1)(hb':qn q c L (.pattern p1) b')(h2:q7 L b'.st ⟨#[40]⟩=some p2)(hc':qn q c L (.exp p2 1) c')(h3:q7 L c'.st ⟨#[59]⟩=some p3)(hd':qn q c L (.exp p3 1) d)(p4:PSt)(hm:2<most)(ho:opP L d.st ⟨#[59]⟩=false)(h4:q7 L d.st ⟨#[41]⟩=some p4):qn q c L (.fold p kind most) ⟨p4,.mk kind ⟨#[]⟩ [a.n,b'.n,c'.n,d.n],[],false⟩:=by
 intro w h
 have H0:=qh (qD w q c L p)
 have QA:=qh (fun U hU=>ha U (h.below hU))
 have QD1:=qh (fun U hU=>qt q c L a.st p1 ⟨#[97,115]⟩ U (h.below hU) h1)
 have QB:=qh (fun U hU=>hb' U (h.below hU))
 have QD2:=qh (fun U hU=>qt q c L b'.st p2 ⟨#[40]⟩ U (h.below hU) h2)
 have QC:=qh (fun U hU=>qB q c L p2 c' hc' U (h.below hU))
 have QD3:=qh (fun U hU=>qt q c L c'.st p3 ⟨#[59]⟩ U (h.below hU) h3)
 have QE:=qh (fun U hU=>qB q c L p3 d hd' U (h.below hU))
 (have QO:=qh (fun U hU=>qp q c L d.st ⟨#[59]⟩ U (h.below hU));rw[ho] at QO;have QD4:=qh (fun U hU=>qt q c L d.st p4 ⟨#[41]⟩ U (h.below hU) h4))
 clear ha h1 hb' h2 hc' h3 hd' h h4 ho
 obtain⟨at',bad⟩:=p
 obtain⟨at1,bad1⟩:=p1
 obtain⟨at2,bad2⟩:=p2
 obtain⟨at3,bad3⟩:=p3
 obtain⟨⟨ata,bada⟩,n,la,ba⟩:=a
 obtain⟨⟨atb,badb⟩,nb,lb,bb'⟩:=b'
 obtain⟨⟨atc,badc⟩,nc,lc,bc⟩:=c'
 obtain⟨⟨atd,badd⟩,nd,ld,bd⟩:=d
 go_enter Tryz.func143,Tryz.ntmps143
 go_upto_region 2 with(go_at_call 128;with_reducible refine fm QA H0 ?_;clear QA H0;intro w1 pu_1 cu_1 hj;have e_a:=(hj).ff3;have hl:=hj.layN;have hm:=(Fr.set3 (x:=.int .i64 n.kind) (y:=.string n.text) (z:=.slice pu_1 n.kids.length cu_1) (Fr.set3 (x:=.slice q L.length c) (y:=.int .i64 (ata:Int)) (z:=.bool bada) hl 0 rfl) 3 rfl);(try simp only[nn] at hm);have H1:=qh hm;replace c_a:=(H1.out).ccCCCC;replace k_0:=(hl).c3 0 rfl;clear hm hj hl)
 obtain⟨W2,hW,H2⟩:=fr_w H1;rewrite[←hW];(try simp only[nn] at H2);clear hW H1
 replace c_a:=(H2.out).ccCCCC
 have e_a:=(H2.out).ff4
 go_upto_region 5 with(first
  |(go_at_call 96;with_reducible refine fx QD1 H2 ?_;clear QD1 H2;intro w3 H3;replace c_a:=(H3.out).ccCCCC)
  |(go_at_call 129;with_reducible refine fm QB H3 ?_;clear QB H3;intro w4 pu_2 cu_2 hj;have e_a:=(hj).ff4;have H4:=hj.layM (q:=q) (c:=c) (L:=L) atb badb nb (.slice pu_2 nb.kids.length cu_2);(try simp only[nn] at H4);replace c_a:=(H4.out).ccCCCCCC;clear hj)
  |(go_at_call 96;with_reducible refine fx QD2 H4 ?_;clear QD2 H4;intro w5 H5;replace c_a:=(H5.out).ccCCCCCC)
  |(go_at_call 67;with_reducible refine fm QC H5 ?_;clear QC H5;intro w6 pu_3 cu_3 hj;have e_a:=(hj).ff6;have H6:=hj.layM (q:=q) (c:=c) (L:=L) atc badc nc (.slice pu_3 nc.kids.length cu_3);(try simp only[nn] at H6);replace c_a:=(H6.out).ccCCCCCCCC;clear hj)
  |(go_at_call 96;with_reducible refine fx QD3 H6 ?_;clear QD3 H6;intro w7 H7;replace c_a:=(H7.out).ccCCCCCCCC)
  |(go_at_call 67;with_reducible refine fm QE H7 ?_;clear QE H7;intro w8 pu_4 cu_4 hj;have e_a:=(hj).ff8;have H8:=hj.layM (q:=q) (c:=c) (L:=L) atd badd nd (.slice pu_4 nd.kids.length cu_4);(try simp only[nn] at H8);replace c_a:=(H8.out).ccCCCCCCCCCC;clear hj))
 obtain⟨W9,hW,H9⟩:=fr_w H8;rewrite[←hW];(try simp only[nn] at H9);clear hW H8
 replace c_a:=(H9.out).ccCCCCCCCCCC
 have e_a:=(H9.out).ff10
 have y1:decide (most>2)=true:=decide_eq_true (by omega)
 have y2:(2<most)=True:=eq_true (by omega)
 clear hm
 obtain⟨at4,bad4⟩:=p4
 have H10:=qh ((H9.out.lit4 n nb nc nd (u:=.slice pu_1 n.kids.length cu_1) (v:=.slice pu_2 nb.kids.length cu_2) (x:=.slice pu_3 nc.kids.length cu_3) (y:=.slice pu_4 nd.kids.length cu_4) (by simp) (by simp) (by simp) (by simp)).layA [.int .i64 kind,.string ⟨#[]⟩,.slice (some ⟨W9.heap.size,0,none⟩) 4 4] 24)
 replace k_a:=(H10.out).ccCCCCCCCCCCC
 go_upto_region 10 with(go_at_call 98;with_reducible refine fx QO H10 ?_;clear QO H10;intro W11 H11;replace c_a:=(H11.out).ccCCCCCCCCCCC)
 replace c_a:=(H11.out).ccCCCCCCCCCCC
 have QD5:=qh (fun U (hU:Below W11.heap.size W11 U)=>QD4.out U (H11.out.low.trans (hU.mono H11.out.low.size)))
 obtain⟨u1,u2,u3,u4,u5,u6,u7,hb0,hb1⟩:=Fr.held (S:=(fun w'=>B1 (w8.heap.size) ((.slice q L.length c)) ((.int .i64 (atd:Int))) ((.bool badd)) w'∧B1 (W9.heap.size+1) ((.int .i64 kind)) ((.string ⟨#[]⟩)) ((.slice (some ⟨W9.heap.size,0,none⟩) 4 4)) w')) H11.out 1 2 (fun U bs' h e=>⟨((h).c3 8 (e 8 rfl)).1,((h).c3 10 (e 10 rfl)).1⟩) rfl rfl
 go_region_held3 ((fun w'=>B1 (w8.heap.size) ((.slice q L.length c)) ((.int .i64 (atd:Int))) ((.bool badd)) w'∧B1 (W9.heap.size+1) ((.int .i64 kind)) ((.string ⟨#[]⟩)) ((.slice (some ⟨W9.heap.size,0,none⟩) 4 4)) w'))
  (with_reducible first|exact HS4.out|exact HS5.out _|assumption|(first|apply u7.out|apply u4.out|apply u5.out|apply u6.out|apply u3.out|apply u2.out|apply u1.out);(with_reducible first|exact hb0|assumption|exact hb1 _|exact qc hb0 _|exact qc (by assumption) _))
  (first|(go_at_call 96;with_reducible refine(QD5.out _ (by(with_reducible first|exact hb0|assumption|exact hb1 _|exact qc hb0 _|exact qc (by assumption) _))).mono ?_;rintro _ U ⟨rfl,bu⟩;have bb:Below W11.heap.size W11 U:=Below.trans (by(with_reducible first|exact hb0|assumption|exact hb1 _|exact qc hb0 _|exact qc (by assumption) _)) (bu.mono (Below.size (show Below W11.heap.size W11 _ by(with_reducible first|exact hb0|assumption|exact hb1 _|exact qc hb0 _|exact qc (by assumption) _))));replace c_a:=((H11.out.stays bb)).cc3;have e_a:=((H11.out.stays bb)).ff3;have BU:=qh bu;clear bu))
 all_goals
  have hbu:Below W11.heap.size W11 U:=by assumption
  have HU:=qh (H11.out.stays hbu)
  obtain⟨Wf,hA,hB,hf⟩:=sets HU 1 2 q c L at4 bad4 kind ⟨#[]⟩ (.slice (some ⟨W9.heap.size,0,none⟩) 4 4) rfl rfl
  first|rewrite[←hA]|rewrite[←hB]
  (try simp only[nn] at hf);clear hA hB
  have r0:=And.intro (hf.c3 1 rfl).1 (hf.c3 2 rfl).1
  have HF:=qh (And.intro (Fr.toldH q c L ⟨(at4,bad4),.mk kind ⟨#[]⟩ [n,nb,nc,nd],[],false⟩ hf) (Fr.toldH q c L ⟨(at4,bad4),.mk kind ⟨#[]⟩ [n,nb,nc,nd],[],false⟩ hf.drew))
  clear hf
  (try go_wp2)
  first
   |exact bodyPost_ret (by simp[results,Tryz.results143,go_sem,r0]) rfl HF.out.1
   |exact bodyPost_ret (by simp[results,Tryz.results143,go_sem,r0]) rfl HF.out.2
theorem qlx{q:Option Addr}{c:Nat}{L:List PTok}(p p1 p2 p3:PSt)(kind most:Int)(a b' c' d:PRes)(ha:qn q c L (.post p) a)(h1:q7 L a.st ⟨#[97,115]⟩=some p1)(hb':qn q c L (.pattern p1) b')(h2:q7 L b'.st ⟨#[40]⟩=some p2)(hc':qn q c L (.exp p2 1) c')(h3:q7 L c'.st ⟨#[59]⟩=some p3)(hd':qn q c L (.exp p3 1) d)(p4 p5:PSt)(e':PRes)(hm:2<most)(ho:opP L d.st ⟨#[59]⟩=true)(h4:qs L d.st=some p4)(he':qn q c L (.exp p4 1) e')(h5:q7 L e'.st ⟨#[41]⟩=some p5)(hl:L.length≤1000000000):qn q c L (.fold p kind most) ⟨p5,.mk kind ⟨#[]⟩ [a.n,b'.n,c'.n,d.n,e'.n],[],false⟩:=by
 intro w h
 have H0:=qh (qD w q c L p)
 have QA:=qh (fun U hU=>ha U (h.below hU))
 have QD1:=qh (fun U hU=>qt q c L a.st p1 ⟨#[97,115]⟩ U (h.below hU) h1)
 have QB:=qh (fun U hU=>hb' U (h.below hU))
 have QD2:=qh (fun U hU=>qt q c L b'.st p2 ⟨#[40]⟩ U (h.below hU) h2)
 have QC:=qh (fun U hU=>qB q c L p2 c' hc' U (h.below hU))
 have QD3:=qh (fun U hU=>qt q c L c'.st p3 ⟨#[59]⟩ U (h.below hU) h3)
 have QE:=qh (fun U hU=>qB q c L p3 d hd' U (h.below hU))
 (have QO:=qh (fun U hU=>qp q c L d.st ⟨#[59]⟩ U (h.below hU));rw[ho] at QO;have QN:=qh (fun U (hU:Below w.heap.size w U)=>qq q c L d.st p4 U hl h4);have QF:=qh (fun U hU=>qB q c L p4 e' he' U (h.below hU));have QD4:=qh (fun U hU=>qt q c L e'.st p5 ⟨#[41]⟩ U (h.below hU) h5))
 clear ha h1 hb' h2 hc' h3 hd' h h4 he' h5 ho
 obtain⟨at',bad⟩:=p
 obtain⟨at1,bad1⟩:=p1
 obtain⟨at2,bad2⟩:=p2
 obtain⟨at3,bad3⟩:=p3
 obtain⟨⟨ata,bada⟩,n,la,ba⟩:=a
 obtain⟨⟨atb,badb⟩,nb,lb,bb'⟩:=b'
 obtain⟨⟨atc,badc⟩,nc,lc,bc⟩:=c'
 obtain⟨⟨atd,badd⟩,nd,ld,bd⟩:=d
 go_enter Tryz.func143,Tryz.ntmps143
 go_upto_region 2 with(go_at_call 128;with_reducible refine fm QA H0 ?_;clear QA H0;intro w1 pu_1 cu_1 hj;have e_a:=(hj).ff3;have hl:=hj.layN;have hm:=(Fr.set3 (x:=.int .i64 n.kind) (y:=.string n.text) (z:=.slice pu_1 n.kids.length cu_1) (Fr.set3 (x:=.slice q L.length c) (y:=.int .i64 (ata:Int)) (z:=.bool bada) hl 0 rfl) 3 rfl);(try simp only[nn] at hm);have H1:=qh hm;replace c_a:=(H1.out).ccCCCC;replace k_0:=(hl).c3 0 rfl;clear hm hj hl)
 obtain⟨W2,hW,H2⟩:=fr_w H1;rewrite[←hW];(try simp only[nn] at H2);clear hW H1
 replace c_a:=(H2.out).ccCCCC
 have e_a:=(H2.out).ff4
 go_upto_region 5 with(first
  |(go_at_call 96;with_reducible refine fx QD1 H2 ?_;clear QD1 H2;intro w3 H3;replace c_a:=(H3.out).ccCCCC)
  |(go_at_call 129;with_reducible refine fm QB H3 ?_;clear QB H3;intro w4 pu_2 cu_2 hj;have e_a:=(hj).ff4;have H4:=hj.layM (q:=q) (c:=c) (L:=L) atb badb nb (.slice pu_2 nb.kids.length cu_2);(try simp only[nn] at H4);replace c_a:=(H4.out).ccCCCCCC;clear hj)
  |(go_at_call 96;with_reducible refine fx QD2 H4 ?_;clear QD2 H4;intro w5 H5;replace c_a:=(H5.out).ccCCCCCC)
  |(go_at_call 67;with_reducible refine fm QC H5 ?_;clear QC H5;intro w6 pu_3 cu_3 hj;have e_a:=(hj).ff6;have H6:=hj.layM (q:=q) (c:=c) (L:=L) atc badc nc (.slice pu_3 nc.kids.length cu_3);(try simp only[nn] at H6);replace c_a:=(H6.out).ccCCCCCCCC;clear hj)
  |(go_at_call 96;with_reducible refine fx QD3 H6 ?_;clear QD3 H6;intro w7 H7;replace c_a:=(H7.out).ccCCCCCCCC)
  |(go_at_call 67;with_reducible refine fm QE H7 ?_;clear QE H7;intro w8 pu_4 cu_4 hj;have e_a:=(hj).ff8;have H8:=hj.layM (q:=q) (c:=c) (L:=L) atd badd nd (.slice pu_4 nd.kids.length cu_4);(try simp only[nn] at H8);replace c_a:=(H8.out).ccCCCCCCCCCC;clear hj))
 obtain⟨W9,hW,H9⟩:=fr_w H8;rewrite[←hW];(try simp only[nn] at H9);clear hW H8
 replace c_a:=(H9.out).ccCCCCCCCCCC
 have e_a:=(H9.out).ff10
 have y1:decide (most>2)=true:=decide_eq_true (by omega)
 have y2:(2<most)=True:=eq_true (by omega)
 clear hm
 obtain⟨at4,bad4⟩:=p4
 obtain⟨at5,bad5⟩:=p5
 obtain⟨⟨ate,bade⟩,ne,le,be⟩:=e'
 have H10:=qh ((H9.out.rowFour n nb nc nd (.slice pu_1 n.kids.length cu_1) (.slice pu_2 nb.kids.length cu_2) (.slice pu_3 nc.kids.length cu_3) (.slice pu_4 nd.kids.length cu_4)).layA [.int .i64 kind,.string ⟨#[]⟩,.slice (some ⟨W9.heap.size,0,none⟩) 4 4] 24)
 replace k_a:=(H10.out).ccCCCCCCCCCCC
 go_upto_region 8 with(first
  |(go_at_call 98;with_reducible refine fx QO H10 ?_;clear QO H10;intro W11 H11;replace c_a:=(H11.out).ccCCCCCCCCCCC)
  |(go_at_call 94;with_reducible refine fx QN H11 ?_;clear QN H11;intro W12 H12;replace c_a:=(H12.out).ccCCCCCCCCCCC)
  |(go_at_call 67;with_reducible refine fm QF H12 ?_;clear QF H12;intro w13 pu_5 cu_5 hj;have e_a:=(hj).ff11;have H13:=hj.layM (q:=q) (c:=c) (L:=L) ate bade ne (.slice pu_5 ne.kids.length cu_5);(try simp only[nn] at H13);replace c_a:=(H13.out).ccCCCCCCCCCCCCC;clear hj))
 obtain⟨W14,hW,H14⟩:=fr_w H13;rewrite[←hW];(try simp only[nn] at H14);clear hW H13
 replace c_a:=(H14.out).ccCCCCCCCCCCCCC
 go_upto_region 9 with(fail)
 obtain⟨W15,hW,hj⟩:=qd (Fr.set3 (x:=.slice q L.length c) (y:=.int .i64 (ate:Int)) (z:=.bool bade) H14.out 8 rfl)
 rewrite[←hW]
 (try simp only[nn] at hj)
 have H15:=qh hj
 clear hj hW
 replace c_a:=(H15.out).ccCCCCCCCCCCCCC
 have e_a:=(H15.out).ff11
 go_upto_region 10 with(at_builtin;go_loud(refine q8 (H15.out.skip _) 0 rfl (by simp) ne (by simp) (World.alloc_heap_new W15 _) (by simp) rfl _ _ rfl rfl rfl ?_;intro p16 c16 W16 hf;(simp only[List.length_cons,List.length_nil,Nat.reduceAdd] at hf⊢);have H16:=qh hf;clear hf;replace c_a:=(H16.out).ccCCCCCCCCCCCCC;(try clear H15)))
 obtain⟨W17,hW,hj⟩:=qd (H16.out.set 10 2 rfl (.slice p16 5 c16))
 rewrite[←hW]
 (try simp only[nn] at hj)
 clear hW
 have H17:=qh (hj.give1 (l:=[n,nb,nc,nd,ne]) (us:=[.slice pu_1 n.kids.length cu_1,.slice pu_2 nb.kids.length cu_2,.slice pu_3 nc.kids.length cu_3,.slice pu_4 nd.kids.length cu_4,.slice pu_5 ne.kids.length cu_5]) ((((KN.two (x:=n) (y:=nb) (by simp) (by simp)).snoc (x:=nc) (by simp)).snoc (x:=nd) (by simp)).snoc (x:=ne) (by simp)) (by simp))
 clear hj
 replace c_a:=(H17.out).ccCCCCCCCCCCCCC
 have QD5:=qh (fun U (hU:Below W17.heap.size W17 U)=>QD4.out U (H17.out.low.trans (hU.mono H17.out.low.size)))
 obtain⟨u1,u2,u3,u4,u5,u6,u7,hb0,hb1⟩:=Fr.held (S:=(fun w'=>B1 (w8.heap.size) ((.slice q L.length c)) ((.int .i64 (ate:Int))) ((.bool bade)) w'∧B1 (W9.heap.size+1) ((.int .i64 kind)) ((.string ⟨#[]⟩)) ((.slice p16 5 c16)) w')) H17.out 1 2 (fun U bs' h e=>⟨((h).c3 8 (e 8 rfl)).1,((h).c3 10 (e 10 rfl)).1⟩) rfl rfl
 go_region_held3 ((fun w'=>B1 (w8.heap.size) ((.slice q L.length c)) ((.int .i64 (ate:Int))) ((.bool bade)) w'∧B1 (W9.heap.size+1) ((.int .i64 kind)) ((.string ⟨#[]⟩)) ((.slice p16 5 c16)) w'))
  (with_reducible first|exact HS4.out|exact HS5.out _|assumption|(first|apply u7.out|apply u4.out|apply u5.out|apply u6.out|apply u3.out|apply u2.out|apply u1.out);(with_reducible first|exact hb0|assumption|exact hb1 _|exact qc hb0 _|exact qc (by assumption) _))
  (first|(go_at_call 96;with_reducible refine(QD5.out _ (by(with_reducible first|exact hb0|assumption|exact hb1 _|exact qc hb0 _|exact qc (by assumption) _))).mono ?_;rintro _ U ⟨rfl,bu⟩;have bb:Below W17.heap.size W17 U:=Below.trans (by(with_reducible first|exact hb0|assumption|exact hb1 _|exact qc hb0 _|exact qc (by assumption) _)) (bu.mono (Below.size (show Below W17.heap.size W17 _ by(with_reducible first|exact hb0|assumption|exact hb1 _|exact qc hb0 _|exact qc (by assumption) _))));replace c_a:=((H17.out.stays bb)).cc3;have e_a:=((H17.out.stays bb)).ff3;have BU:=qh bu;clear bu))
 all_goals
  have hbu:Below W17.heap.size W17 U:=by assumption
  have HU:=qh (H17.out.stays hbu)
  obtain⟨Wf,hA,hB,hf⟩:=sets HU 1 2 q c L at5 bad5 kind ⟨#[]⟩ (.slice p16 5 c16) rfl rfl
  first|rewrite[←hA]|rewrite[←hB]
  (try simp only[nn] at hf);clear hA hB
  have r0:=And.intro (hf.c3 1 rfl).1 (hf.c3 2 rfl).1
  have HF:=qh (And.intro (Fr.toldH q c L ⟨(at5,bad5),.mk kind ⟨#[]⟩ [n,nb,nc,nd,ne],[],false⟩ hf) (Fr.toldH q c L ⟨(at5,bad5),.mk kind ⟨#[]⟩ [n,nb,nc,nd,ne],[],false⟩ hf.drew))
  clear hf
  (try go_wp2)
  first
   |exact bodyPost_ret (by simp[results,Tryz.results143,go_sem,r0]) rfl HF.out.1
   |exact bodyPost_ret (by simp[results,Tryz.results143,go_sem,r0]) rfl HF.out.2
theorem qla{R:POps}{q:Option Addr}{c:Nat}{L:List PTok}{f:Nat}(ih:PAll R q c L (f+1))(hl:L.length≤1000000000)(p:PSt)(kind most:Int)(r:PRes)(hr:runP R L (f+1) (.fold p kind most)=some r):qn q c L (.fold p kind most) r:=by
 rw[runP] at hr
 have gi:=fun cm a (h:runP R L f cm=some a)=>ih f (Nat.lt_succ_self f) cm a h
 obtain⟨a,ha,hr⟩:=Option.bind_eq_some_iff.1 hr
 obtain⟨p1,h1,hr⟩:=Option.bind_eq_some_iff.1 hr
 obtain⟨b,hb,hr⟩:=Option.bind_eq_some_iff.1 hr
 obtain⟨p2,h2,hr⟩:=Option.bind_eq_some_iff.1 hr
 obtain⟨d,hd,hr⟩:=Option.bind_eq_some_iff.1 hr
 obtain⟨p3,h3,hr⟩:=Option.bind_eq_some_iff.1 hr
 obtain⟨e,he,hr⟩:=Option.bind_eq_some_iff.1 hr
 by_cases hm:2<most∧opP L e.st ⟨#[59]⟩=true
 ·rw[if_pos hm] at hr
  obtain⟨p4,h4,hr⟩:=Option.bind_eq_some_iff.1 hr
  obtain⟨g,hg,hr⟩:=Option.bind_eq_some_iff.1 hr
  obtain⟨p5,h5,hr⟩:=Option.bind_eq_some_iff.1 hr
  cases hr
  exact qlx p p1 p2 p3 kind most a b d e (gi _ _ ha) h1 (gi _ _ hb) h2 (gi _ _ hd) h3 (gi _ _ he) p4 p5 g hm.1 hm.2 h4 (gi _ _ hg) h5 hl
 ·rw[if_neg hm] at hr
  obtain⟨p4,h4,hr⟩:=Option.bind_eq_some_iff.1 hr
  cases hr
  by_cases h2m:2<most
  ·exact qjj p p1 p2 p3 kind most a b d e (gi _ _ ha) h1 (gi _ _ hb) h2 (gi _ _ hd) h3 (gi _ _ he) p4 h2m (by
    have:¬opP L e.st ⟨#[59]⟩=true:=fun x=>hm ⟨h2m,x⟩
    simpa using this) h4
  ·exact qiY p p1 p2 p3 kind most a b d e (gi _ _ ha) h1 (gi _ _ hb) h2 (gi _ _ hd) h3 (gi _ _ he) p4 h2m h4
end Go.Proofs.YtakbenifinnpfaaGreatDoor
